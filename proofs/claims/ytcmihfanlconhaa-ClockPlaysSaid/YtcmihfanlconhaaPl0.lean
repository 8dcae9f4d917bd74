/- ClockPlays: the walk. Conditions: none. -/
import Derived.Test.YtcmihfanlconhaaKn
import Derived.Test.YtcmihfanlconhaaRowl
import Derived.Deep.LoopGhost
import Derived.Deep.DeepCutAuto
namespace Go.Proofs.Ytcmihfanlconhaa
open Go.RowKit

/-- The document's clock. -/
def RClk (w : World) (b : Nat) (now floor : Int) : Prop := w.heap[b]? = some (.cells #[.int .i64 now, .int .i64 floor] 43 (0, 0))
theorem RClk.now {w : World} {b : Nat} {n f : Int} (h : RClk w b n f) : w.cell? ⟨b, 0, none⟩ = some (.int .i64 n) := cell_of h rfl
theorem RClk.floor {w : World} {b : Nat} {n f : Int} (h : RClk w b n f) : w.cell? ⟨b, 1, none⟩ = some (.int .i64 f) := cell_of h rfl
theorem RClk.free {w : World} {b i : Nat} {n f : Int} (h : RClk w b n f) : w.frozen? ⟨b, i, none⟩ = false := free_of h
theorem RClk.setFloor {w : World} {b : Nat} {n f : Int} (h : RClk w b n f) (x : Int) : RClk (w.setCell ⟨b, 1, none⟩ (.int .i64 x)) b n x := heap_set (.int .i64 x) h
theorem RClk.setNow {w : World} {b : Nat} {n f : Int} (h : RClk w b n f) (x : Int) : RClk (w.setCell ⟨b, 0, none⟩ (.int .i64 x)) b x f := heap_set (.int .i64 x) h
theorem RClk.step {w w' : World} {m : List Nat} {b : Nat} {n f : Int} (h : RClk w b n f) (s : Step m w w') (hb : b ∉ m) : RClk w' b n f := s.heap h hb
theorem Clk.step {w w' : World} {m : List Nat} {b : Nat} {n f : Int} (h : Clk w b n f) (s : Step m w w') (hb : b ∉ m) : Clk w' b n f := s.heap h hb

set_option maxHeartbeats 400000 in
theorem rnew_ok (a : Int) (h0 : 0 ≤ a) (h1 : a ≤ 1099511627776) (w : World) : Calls Try.prog 11 #[.int .i64 a] w
    (Ret (.tuple #[.pointer (some ⟨w.heap.size, 0, none⟩), .int .i64 0]) fun w' => Step [] w w' ∧ RClk w' w.heap.size a 0) := by
  go_enter Try.func11, Try.ntmps11
  go_wp2
  go_ret2
  exact ⟨rfl, (Step.refl _ _).alloc _, heap_new _ _⟩

set_option maxHeartbeats 400000 in
theorem rnew_no (a : Int) (h : a < 0 ∨ 1099511627776 < a) (w : World) : Calls Try.prog 11 #[.int .i64 a] w
    (Ret (.tuple #[.pointer none, .int .i64 1]) fun w' => w = w') := by
  rcases h with h | h
  · go_enter Try.func11, Try.ntmps11
    go_wp2
    go_ret2
    exact ⟨rfl, rfl⟩
  · have h' : 0 ≤ a := by omega
    go_enter Try.func11, Try.ntmps11
    go_wp2
    go_ret2
    exact ⟨rfl, rfl⟩

set_option maxHeartbeats 400000 in
theorem rissue_ok {w : World} {b : Nat} {now floor : Int} (hc : RClk w b now floor) (h2 : 0 ≤ floor) (h3 : floor < 1099511627776) :
    Calls Try.prog 13 #[.pointer (some ⟨b, 0, none⟩)] w
      (Ret (.tuple #[.int .i64 (mxi now (floor + 1)), .int .i64 0]) fun w' => Step [b] w w' ∧ RClk w' b now (mxi now (floor + 1))) := by
  have k0 := hc.now
  have k1 := hc.floor
  have f1 : w.frozen? ⟨b, 1, none⟩ = false := hc.free
  rcases Int.lt_or_le now (floor + 1) with h | h
  · rw [mxi_lt h]
    go_enter Try.func13, Try.ntmps13
    go_wp2
    go_ret2
    exact ⟨rfl, (Step.refl _ _).setCell _ (by simp) _, hc.setFloor _⟩
  · rw [mxi_ge h]
    go_enter Try.func13, Try.ntmps13
    go_wp2
    go_ret2
    exact ⟨rfl, (Step.refl _ _).setCell _ (by simp) _, hc.setFloor _⟩

set_option maxHeartbeats 400000 in
theorem rissue_no {w : World} {b : Nat} {now floor : Int} (hc : RClk w b now floor) (h3 : 1099511627776 ≤ floor) :
    Calls Try.prog 13 #[.pointer (some ⟨b, 0, none⟩)] w (Ret (.tuple #[.int .i64 0, .int .i64 4]) fun w' => w = w') := by
  have k1 := hc.floor
  clear hc
  go_enter Try.func13, Try.ntmps13
  go_wp2
  go_ret2
  exact ⟨rfl, rfl⟩

set_option maxHeartbeats 400000 in
theorem rraise_any {w : World} {b : Nat} {now floor : Int} (hc : RClk w b now floor) (t : Int) :
    Calls Try.prog 16 #[.pointer (some ⟨b, 0, none⟩), .int .i64 t] w
      (Ret (.bool (decide (floor < t))) fun w' => Step [b] w w' ∧ RClk w' b now (mxi floor t)) := by
  have k1 := hc.floor
  have f1 : w.frozen? ⟨b, 1, none⟩ = false := hc.free
  rcases Int.lt_or_le floor t with h | h
  · rw [mxi_lt h]
    go_enter Try.func16, Try.ntmps16
    go_wp2
    go_ret
    exact ⟨by simp [h], (Step.refl _ _).setCell _ (by simp) _, hc.setFloor _⟩
  · rw [mxi_ge h]
    go_enter Try.func16, Try.ntmps16
    go_wp2
    go_ret
    exact ⟨by simp [h], Step.refl _ _, hc⟩

set_option maxHeartbeats 400000 in
theorem rtick_ok {w : World} {b : Nat} {now floor : Int} (hc : RClk w b now floor) (n : Int) (h0 : 0 ≤ now) (h1 : now ≤ 1099511627776) (h2 : 0 ≤ n) (h3 : n ≤ 1099511627776 - now) :
    Calls Try.prog 15 #[.pointer (some ⟨b, 0, none⟩), .int .i64 n] w (Ret (.int .i64 0) fun w' => Step [b] w w' ∧ RClk w' b (now + n) floor) := by
  have k0 := hc.now
  have f1 : w.frozen? ⟨b, 0, none⟩ = false := hc.free
  go_enter Try.func15, Try.ntmps15
  go_wp2
  go_ret
  exact ⟨rfl, (Step.refl _ _).setCell _ (by simp) _, hc.setNow _⟩

set_option maxHeartbeats 400000 in
theorem rtick_no {w : World} {b : Nat} {now floor : Int} (hc : RClk w b now floor) (n : Int) (h0 : 0 ≤ now) (h1 : now ≤ 1099511627776) (h2 : n < 0 ∨ 1099511627776 - now < n) :
    Calls Try.prog 15 #[.pointer (some ⟨b, 0, none⟩), .int .i64 n] w (Ret (.int .i64 1) fun w' => w = w') := by
  have k0 := hc.now
  clear hc
  rcases h2 with h2 | h2
  · go_enter Try.func15, Try.ntmps15
    go_wp2
    go_ret
    exact ⟨rfl, rfl⟩
  · have h' : 0 ≤ n := by omega
    go_enter Try.func15, Try.ntmps15
    go_wp2
    go_ret
    exact ⟨rfl, rfl⟩

/-- The walk's state between two rounds. -/
structure PS (w : World) (bm : Nat) (wr : World) (b : Nat) (la now floor : Int) : Prop where
  n0 : 0 ≤ now
  n1 : now ≤ 1099511627776
  f0 : 0 ≤ floor
  la : la ≤ floor
  c : Clk wr b now floor
  r : RClk wr bm now floor
  ne : b ≠ bm
  hb : w.heap.size ≤ b
  hm : w.heap.size ≤ bm
  st : Step [] w wr
end Go.Proofs.Ytcmihfanlconhaa
