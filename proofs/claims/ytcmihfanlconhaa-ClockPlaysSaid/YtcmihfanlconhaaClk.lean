/- The clock's functions: what each does to the clock's two cells. Conditions: the clock's bounds. -/
import Derived.Test.YtcmihfanlconhaaBase
import Derived.Test.YtcmihfanlconhaaProg
import Derived.Deep.RegionHeld3
import Derived.Deep.QuietTactic
import Derived.BigQuiet
namespace Go.Proofs.Ytcmihfanlconhaa
open Go.RowKit

def Ret (v : Value) (Q : World → Prop) (e : Ending) (w' : World) : Prop := e = .returned v ∧ Q w'
theorem Ret.mk {v v' : Value} {Q : World → Prop} {w' : World} (h : v = v') (q : Q w') : Ret v' Q (.returned v) w' := ⟨by rw [h], q⟩

def mxi (a b : Int) : Int := if a < b then b else a
theorem mxi_lt {a b : Int} (h : a < b) : mxi a b = b := if_pos h
theorem mxi_ge {a b : Int} (h : b ≤ a) : mxi a b = a := if_neg (by omega)
def Clk (w : World) (b : Nat) (now floor : Int) : Prop := w.heap[b]? = some (.cells #[.int .i64 now, .int .i64 floor] 79 (0, 0))

theorem Clk.now {w : World} {b : Nat} {n f : Int} (h : Clk w b n f) : w.cell? ⟨b, 0, none⟩ = some (.int .i64 n) := cell_of h rfl
theorem Clk.floor {w : World} {b : Nat} {n f : Int} (h : Clk w b n f) : w.cell? ⟨b, 1, none⟩ = some (.int .i64 f) := cell_of h rfl
theorem Clk.free {w : World} {b i : Nat} {n f : Int} (h : Clk w b n f) : w.frozen? ⟨b, i, none⟩ = false := free_of h
theorem Clk.setFloor {w : World} {b : Nat} {n f : Int} (h : Clk w b n f) (x : Int) : Clk (w.setCell ⟨b, 1, none⟩ (.int .i64 x)) b n x := heap_set (.int .i64 x) h
theorem Clk.setNow {w : World} {b : Nat} {n f : Int} (h : Clk w b n f) (x : Int) : Clk (w.setCell ⟨b, 0, none⟩ (.int .i64 x)) b x f := heap_set (.int .i64 x) h
theorem Clk.drew {w : World} {b : Nat} {n f : Int} (h : Clk w b n f) : Clk w.drew b n f := h

set_option maxHeartbeats 400000 in
theorem greatest_any (a b : Int) (w : World) : Calls Try.prog 40 #[.int .i64 a, .int .i64 b] w fun e w' => e = .returned (.int .i64 (mxi a b)) ∧ w = w' := by
  rcases Int.lt_or_le a b with h | h
  · rw [mxi_lt h]
    go_enter Try.func40, Try.ntmps40
    go_wp2
    go_ret
    exact ⟨rfl, rfl⟩
  · rw [mxi_ge h]
    go_enter Try.func40, Try.ntmps40
    go_wp2
    go_ret
    exact ⟨rfl, rfl⟩

set_option maxHeartbeats 400000 in
theorem new_ok (a : Int) (h0 : 0 ≤ a) (h1 : a ≤ 1099511627776) (w : World) : Calls Try.prog 10 #[.int .i64 a] w
    (Ret (.tuple #[.pointer (some ⟨w.heap.size, 0, none⟩), .int .i64 0]) fun w' => Step [] w w' ∧ Clk w' w.heap.size a 0) := by
  go_enter Try.func10, Try.ntmps10
  go_wp2
  go_ret2
  exact ⟨rfl, (Step.refl _ _).alloc _, heap_new _ _⟩

set_option maxHeartbeats 400000 in
theorem new_no (a : Int) (h : a < 0 ∨ 1099511627776 < a) (w : World) : Calls Try.prog 10 #[.int .i64 a] w
    (Ret (.tuple #[.pointer none, .int .i64 1]) fun w' => w = w') := by
  rcases h with h | h
  · go_enter Try.func10, Try.ntmps10
    go_wp2
    go_ret2
    exact ⟨rfl, rfl⟩
  · have h' : 0 ≤ a := by omega
    go_enter Try.func10, Try.ntmps10
    go_wp2
    go_ret2
    exact ⟨rfl, rfl⟩

set_option maxHeartbeats 400000 in
theorem issue_ok {w : World} {b : Nat} {now floor : Int} (hc : Clk w b now floor) (h2 : 0 ≤ floor) (h3 : floor < 1099511627776) :
    Calls Try.prog 12 #[.pointer (some ⟨b, 0, none⟩)] w
      (Ret (.tuple #[.int .i64 (mxi now (floor + 1)), .int .i64 0]) fun w' => Step [b] w w' ∧ Clk w' b now (mxi now (floor + 1))) := by
  have k0 := hc.now
  have k1 := hc.floor
  have f1 : w.frozen? ⟨b, 1, none⟩ = false := hc.free
  go_enter Try.func12, Try.ntmps12
  go_wp2_with fail
  go_region_with ((go_at_call 40; refine (greatest_any _ _ _).mono ?_; rintro e w' ⟨rfl, rfl⟩))
  all_goals
    go_wp2
    go_ret2
    exact ⟨rfl, ((Step.refl _ _).drew).setCell _ (by simp) _, hc.drew.setFloor _⟩

set_option maxHeartbeats 400000 in
theorem issue_no {w : World} {b : Nat} {now floor : Int} (hc : Clk w b now floor) (h3 : 1099511627776 ≤ floor) :
    Calls Try.prog 12 #[.pointer (some ⟨b, 0, none⟩)] w (Ret (.tuple #[.int .i64 0, .int .i64 4]) fun w' => w = w') := by
  have k1 := hc.floor
  clear hc
  go_enter Try.func12, Try.ntmps12
  go_wp2
  go_ret2
  exact ⟨rfl, rfl⟩

set_option maxHeartbeats 400000 in
theorem raise_any {w : World} {b : Nat} {now floor : Int} (hc : Clk w b now floor) (to : Int) :
    Calls Try.prog 17 #[.pointer (some ⟨b, 0, none⟩), .int .i64 to] w
      (Ret (.bool (decide (floor < to))) fun w' => Step [b] w w' ∧ Clk w' b now (mxi floor to)) := by
  have k0 := hc.now
  have k1 := hc.floor
  have f1 : w.frozen? ⟨b, 1, none⟩ = false := hc.free
  go_enter Try.func17, Try.ntmps17
  go_wp2_with (go_at_call 40; refine (greatest_any _ _ _).mono ?_; rintro e w' ⟨rfl, rfl⟩)
  go_ret
  exact ⟨rfl, (Step.refl _ _).setCell _ (by simp) _, hc.setFloor _⟩

set_option maxHeartbeats 400000 in
theorem tick_ok {w : World} {b : Nat} {now floor : Int} (hc : Clk w b now floor) (n : Int) (h0 : 0 ≤ now) (h1 : now ≤ 1099511627776) (h2 : 0 ≤ n) (h3 : n ≤ 1099511627776 - now) :
    Calls Try.prog 14 #[.pointer (some ⟨b, 0, none⟩), .int .i64 n] w (Ret (.int .i64 0) fun w' => Step [b] w w' ∧ Clk w' b (now + n) floor) := by
  have k0 := hc.now
  have f1 : w.frozen? ⟨b, 0, none⟩ = false := hc.free
  go_enter Try.func14, Try.ntmps14
  go_wp2
  go_ret
  exact ⟨rfl, (Step.refl _ _).setCell _ (by simp) _, hc.setNow _⟩

set_option maxHeartbeats 400000 in
theorem tick_no {w : World} {b : Nat} {now floor : Int} (hc : Clk w b now floor) (n : Int) (h0 : 0 ≤ now) (h1 : now ≤ 1099511627776) (h2 : n < 0 ∨ 1099511627776 - now < n) :
    Calls Try.prog 14 #[.pointer (some ⟨b, 0, none⟩), .int .i64 n] w (Ret (.int .i64 1) fun w' => w = w') := by
  have k0 := hc.now
  clear hc
  rcases h2 with h2 | h2
  · go_enter Try.func14, Try.ntmps14
    go_wp2
    go_ret
    exact ⟨rfl, rfl⟩
  · have h' : 0 ≤ n := by omega
    go_enter Try.func14, Try.ntmps14
    go_wp2
    go_ret
    exact ⟨rfl, rfl⟩

set_option maxHeartbeats 400000 in
theorem now_any {w : World} {b : Nat} {now floor : Int} (hc : Clk w b now floor) :
    Calls Try.prog 19 #[.pointer (some ⟨b, 0, none⟩)] w (fun e w' => e = .returned (.int .i64 now) ∧ w = w') := by
  have k0 := hc.now
  clear hc
  go_enter Try.func19, Try.ntmps19
  go_wp2
  go_ret
  exact ⟨rfl, rfl⟩

set_option maxHeartbeats 400000 in
theorem floor_any {w : World} {b : Nat} {now floor : Int} (hc : Clk w b now floor) :
    Calls Try.prog 20 #[.pointer (some ⟨b, 0, none⟩)] w (fun e w' => e = .returned (.int .i64 floor) ∧ w = w') := by
  have k0 := hc.floor
  clear hc
  go_enter Try.func20, Try.ntmps20
  go_wp2
  go_ret
  exact ⟨rfl, rfl⟩

set_option maxHeartbeats 400000 in
theorem twin_any {w : World} {b : Nat} {now floor : Int} (hc : Clk w b now floor) :
    Calls Try.prog 18 #[.pointer (some ⟨b, 0, none⟩)] w
      (Ret (.pointer (some ⟨w.heap.size, 0, none⟩)) fun w' => Step [] w w' ∧ Clk w' w.heap.size now floor) := by
  have k0 := hc.now
  have k1 := hc.floor
  clear hc
  go_enter Try.func18, Try.ntmps18
  go_wp2
  go_ret
  exact ⟨rfl, (Step.refl _ _).alloc _, heap_new _ _⟩
end Go.Proofs.Ytcmihfanlconhaa
