/- The tree's functions: what each comes to. Conditions: sizes. -/
import Derived.Test.YtcmihfanlconhabHash
import Derived.Deep.RegionHeld3
import Derived.Deep.RegionHeldLaw
import Derived.Deep.QuietTactic
import Derived.BigQuiet
namespace Go.Proofs.Ytcmihfanlconhab
open Go.RowKit

def mt : List UInt8 := [109, 116]
def upK (l : List UInt64) (k : Nat) : List UInt64 := (List.range k).map fun i => two mt (l.getD (2 * i) 0) (l.getD (2 * i + 1) 0)
def upL (l : List UInt64) : List UInt64 := upK l (l.length / 2)
theorem upK_succ (l : List UInt64) (k : Nat) : upK l (k + 1) = upK l k ++ [two mt (l.getD (2 * k) 0) (l.getD (2 * k + 1) 0)] := by simp [upK, List.range_succ]
theorem upK_len (l : List UInt64) (k : Nat) : (upK l k).length = k := by simp [upK]
theorem cu_one (xs : List UInt64) : ∀ x ∈ cu xs, x.oneCell' = true := by
  intro x hx
  obtain ⟨y, _, rfl⟩ := List.mem_map.1 hx
  rfl
theorem Try.infoD : (Try.prog.info? 36).map (fun i => (i.zero, i.size, i.bytes)) = some (some (.int .u64 0), 1, 8) := by kernel_rfl
theorem Try.infoU : (Try.prog.info? 35).map (fun i => (i.zero, i.size, i.bytes)) = some (some (.int .u64 0), 1, 8) := by kernel_rfl

theorem up1_any {w : World} (a b : UInt64) : Calls Try.prog 72 #[u a, u b] w fun e w' => e = .returned (u (two mt a b)) ∧ Step [] w w' := by
  go_enter Try.func72, Try.ntmps72
  go_wp2_with fail
  refine (two_any ⟨#[109, 116]⟩ (by decide) a b).mono ?_
  rintro e w1 ⟨rfl, s1⟩
  go_wp2_with fail
  go_ret
  exact ⟨rfl, s1⟩


theorem cu_get (l : List UInt64) (j : Nat) (h : j < l.length) : (cu l)[j]? = some (u (l.getD j 0)) := by simp [cu, List.getD, h]
set_option maxRecDepth 100000 in
set_option maxHeartbeats 1600000 in
theorem pairs_any {w : World} {ao : Option Addr} {n cap : Nat} {l : List UInt64} {B : Option Nat} (hl : Rd w 1 (.slice ao n cap) n (cu l) B) (hn : n ≤ 100000) :
    Calls Try.prog 71 #[.slice ao n cap, .func (.func 72) #[] #[]] w fun e w' => ∃ ao' c' B', e = .returned (.slice ao' (n / 2) c') ∧ Step [] w w' ∧ Sl w' 1 (.slice ao' (n / 2) c') (n / 2) (cu (upL l)) B' ∧ ∀ g, B' = some g → w.heap.size ≤ g := by
  have hln : l.length = n := by have := hl.1; simpa [cu] using this
  obtain ⟨i, hi, hz0, hz1, hz2⟩ := info_parts Try.infoD
  have HLN := Lib.hid hln
  clear hln
  go_enter Try.func71, Try.ntmps71
  go_wp2_with fail
  go_loopg [5, 6] n (fun gk s5 s6 wr => ∃ (k : Nat) (ao5 : Option Addr) (lx c5 : Nat) (B5 : Option Nat), gk = n - 2 * k ∧ 2 * k ≤ n ∧ s5 = .slice ao5 lx c5 ∧ k = lx ∧ s6 = .int .i64 (2 * k) ∧ Sl wr 1 (.slice ao5 k c5) k (cu (upK l k)) B5 ∧ Step [] w wr ∧ ∀ g, B5 = some g → w.heap.size ≤ g)
  case atStart => exact ⟨0, none, 0, 0, none, rfl, by omega, rfl, rfl, rfl, Sl.nil _ _, Step.refl _ _, by simp⟩
  case round =>
    obtain ⟨k, ao5, lx, c5, B5, rfl, hk, rfl, rfl, rfl, h5, hst, hB5⟩ := hrel
    by_cases hlt : 2 * k + 1 < n
    · obtain ⟨g1, o1, cap1, hv1, hB1, _, hc1⟩ := hl.at (by omega)
      cases hv1
      have hll : l.length = n := HLN.out
      have hg1 : g1 < w.heap.size := World.block_lt_of_cell? w ⟨g1, _, none⟩ (hc1 (2 * k) (u (l.getD (2 * k) 0)) (cu_get _ _ (by omega)))
      have hnb : g1 ∉ B5.toList := by
        intro h
        cases B5 with
        | none => simp at h
        | some g' => simp at h; have := hB5 g' rfl; omega
      have d1 := hst.cell (hc1 (2 * k) (u (l.getD (2 * k) 0)) (cu_get _ _ (by omega))) (by simp)
      have d2 := hst.cell (hc1 (2 * k + 1) (u (l.getD (2 * k + 1) 0)) (cu_get _ _ (by omega))) (by simp)
      have HS := Lib.hid (upK_succ l k)
      generalize l.getD (2 * k) 0 = x at *
      generalize l.getD (2 * k + 1) 0 = y at *
      clear hc1 hll hl
      have hi1 : (0 : Int) ≤ 2 * (k : Int) := by omega
      have hi2 : 2 * (k : Int) < n := by omega
      have e1 : IntKind.i64.wrap (2 * (k : Int) + 1) = 2 * (k : Int) + 1 := IntWalk.i64_in _ (by omega)
      have e2 : (2 * (k : Int)).toNat = 2 * k := by omega
      have e3 : (2 * (k : Int) + 1).toNat = 2 * k + 1 := by omega
      have hi3 : (0 : Int) ≤ 2 * (k : Int) + 1 := by omega
      have hi4 : 2 * (k : Int) + 1 < n := by omega
      go_wp2_with fail
      go_region_held_law (fun w' => w'.cell? ⟨g1, o1 + 2 * k, none⟩ = some (u x) ∧ w'.cell? ⟨g1, o1 + (2 * k + 1), none⟩ = some (u y))
        (first | go_keep | exact ⟨q1.cell d1 (by simp), q1.cell d2 (by simp)⟩ | exact ⟨q2.cell ((q1.alloc _).cell d1 (by simp)) hnb, q2.cell ((q1.alloc _).cell d2 (by simp)) hnb⟩ | exact ⟨(q1.alloc _).cell d1 (by simp), (q1.alloc _).cell d2 (by simp)⟩)
        (first
          | (refine step_app rfl (.tmp 14) (.tmp 26) 39 rfl 36 i (.int .u64 0) 1 8 Try.underlying39 hi hz0 hz1 hz2 rfl (by decide) (n := k) (m := 1) (xs := cu (upK l k)) (news := cu [two mt x y]) (B := B5) (Bx := some w1.heap.size) ((h5.step (Step.drew_left q1) (by simp)).alloc _) (Sl.one w1 1 #[u (two mt x y)] 36 1 rfl (by decide)).rd (cu_one _) (by unfold maxLen; omega) (by omega) ?_; rintro ao6 c6 w6 B6 s6 q2 n6)
          | (go_at_call 72; refine (up1_any _ _).mono ?_; rintro e w1 ⟨rfl, q1⟩))
      have hsz := q1.size
      have hsz0 := hst.size
      have st6 : Step [] w w6 := ((hst.trans (Step.drew_left q1)).alloc _).grow q2 (by intro x hx; cases B5 with | none => simp at hx | some g' => simp at hx; subst hx; exact hB5 _ rfl)
      have B6f : ∀ g, B6 = some g → w.heap.size ≤ g := by
        rintro g rfl
        rcases n6 with n6 | ⟨b, hb, hge⟩
        · exact hB5 g n6.symm
        · cases hb; simp at hge hsz; omega
      have s6' : Sl w6 1 (.slice ao6 (k + 1) c6) (k + 1) (cu (upK l (k + 1))) B6 := by
        rw [HS.out]
        simpa [cu] using s6
      clear s6 q1 q2 n6 h5 hst d1 d2 HS e1 e2 e3
      go_wp2_with fail
      go_roundg (n - 2 * (k + 1))
      case measure => omega
      case rel => exact ⟨k + 1, ao6, _, c6, B6, rfl, by omega, rfl, rfl, by go_num, s6', st6, B6f⟩
    · have hk2 : k = n / 2 := by omega
      have hup : upL l = upK l k := by unfold upL; rw [HLN.out, hk2]
      clear hl
      go_wp2_with fail
      go_ret
      refine ⟨ao5, c5, B5, by rw [← hk2]; rfl, hst, ?_, hB5⟩
      rw [← hk2, hup]
      exact h5

theorem up_any {w : World} {ao : Option Addr} {n cap : Nat} {l : List UInt64} {B : Option Nat} (hl : Rd w 1 (.slice ao n cap) n (cu l) B) (hn : n ≤ 100000) :
    Calls Try.prog 49 #[.slice ao n cap] w fun e w' => ∃ ao' c' B', e = .returned (.slice ao' (n / 2) c') ∧ Step [] w w' ∧ Sl w' 1 (.slice ao' (n / 2) c') (n / 2) (cu (upL l)) B' ∧ ∀ g, B' = some g → w.heap.size ≤ g := by
  go_enter Try.func49, Try.ntmps49
  go_wp2_with fail
  refine (pairs_any hl hn).mono ?_
  rintro e w1 ⟨ao', c', B', rfl, h1, h2, h3⟩
  go_wp2_with fail
  go_ret
  exact ⟨ao', c', B', rfl, h1, h2, h3⟩

/-- So many levels up. -/
def itUp : Nat → List UInt64 → List UInt64
  | 0, l => l
  | h + 1, l => itUp h (upL l)
def rootN (h : Nat) (l : List UInt64) : UInt64 := (itUp h l).getD 0 0
theorem upL_len (l : List UInt64) : (upL l).length = l.length / 2 := upK_len _ _
/-- May a tree have so many leaves? -/
def Pow (n h : Nat) : Prop := n = 2 ^ h ∧ h ≤ 8

theorem and_tells : ∀ n : Nat, n ≤ 256 → 1 ≤ n → ((n &&& (n - 1)) = 0 ↔ ∃ h, h ≤ 8 ∧ n = 2 ^ h) := by decide +kernel
theorem andE (n : Nat) (h0 : 1 ≤ n) (h1 : n ≤ 256) : bits .and .i64 (n : Int) ((n : Int) - 1) = ((n &&& (n - 1) : Nat) : Int) := by
  rw [show ((n : Int) - 1) = ((n - 1 : Nat) : Int) by omega]
  exact (bits_nat .i64 63 (by decide) (fun m h0 h1 => by rw [IntKind.wrap_i64]; omega) n (n - 1) (by omega) (by omega)).1

set_option maxRecDepth 100000 in
set_option maxHeartbeats 1600000 in
theorem root_ok {w : World} {ao : Option Addr} {n cap : Nat} {l : List UInt64} {B : Option Nat} (hl : Rd w 1 (.slice ao n cap) n (cu l) B) {h : Nat} (hp : Pow n h) :
    Calls Try.prog 15 #[.slice ao n cap] w fun e w' => e = .returned (.tuple #[u (rootN h l), .int .i64 0]) ∧ Step [] w w' := by
  obtain ⟨hn, hh⟩ := hp
  have hn1 : 1 ≤ n := by rw [hn]; exact Nat.one_le_two_pow
  have hn2 : n ≤ 256 := by rw [hn]; exact Nat.pow_le_pow_right (by decide) hh
  have hz : (n &&& (n - 1)) = 0 := (and_tells n hn2 hn1).2 ⟨h, hh, hn⟩
  have ha := andE n hn1 hn2
  rw [hz] at ha
  clear hz
  have HN : Hid (n = 2 ^ h) := hn
  clear hn
  go_enter Try.func15, Try.ntmps15
  go_wp2_with fail
  have HR : Hid (rootN h l = rootN h l) := rfl
  go_loopg [0] h (fun gk s0 wr => ∃ (ao' : Option Addr) (m c' : Nat) (l' : List UInt64) (B' : Option Nat), s0 = .slice ao' m c' ∧ Rd wr 1 (.slice ao' m c') m (cu l') B' ∧ Hid (m = 2 ^ gk) ∧ m ≤ 256 ∧ Hid (rootN gk l' = rootN h l) ∧ Step [] w wr)
  case atStart => exact ⟨ao, n, cap, l, B, rfl, hl, HN, hn2, rfl, Step.refl _ _⟩
  case round =>
    obtain ⟨ao', m, c', l', B', rfl, hl', hm, hm2, hr, hst⟩ := hrel
    clear hl ha HN HR hn1 hn2
    cases gk with
    | zero =>
      have hm1 : m ≤ 1 := by rw [hm.out]; decide
      have hm0 : 0 < m := by rw [hm.out]; decide
      obtain ⟨g1, o1, cap1, hv1, _, _, hc1⟩ := hl'.at hm0
      cases hv1
      have hll : l'.length = m := by have := hl'.1; simpa [cu] using this
      have d1 := hc1 0 (u (l'.getD 0 0)) (cu_get _ _ (by omega))
      have HD : Hid (l'.getD 0 0 = rootN h l) := hr
      generalize l'.getD 0 0 = x at *
      rw [Nat.add_zero] at d1
      clear hc1 hl' hll hr hm
      obtain rfl : m = 1 := by omega
      go_wp2_with fail
      go_ret2
      refine ⟨?_, hst⟩
      rw [← HD.out]
      rfl
    | succ j =>
      have hm1 : 1 < m := by rw [hm.out]; exact Nat.one_lt_two_pow (by omega)
      have hhalf : Hid (m / 2 = 2 ^ j) := by unfold Hid; rw [hm.out, Nat.pow_succ]; omega
      have hm3 : m / 2 ≤ 256 := by omega
      go_wp2_with fail
      refine (up_any hl' (by omega)).mono ?_
      rintro e w1 ⟨ao2, c2, B2, rfl, q, s2, _⟩
      go_wp2_with fail
      go_roundg j
      case measure => omega
      case rel => exact ⟨ao2, m / 2, c2, upL l', B2, rfl, s2.rd, hhalf, hm3, hr, hst.trans q⟩

set_option maxRecDepth 100000 in
set_option maxHeartbeats 800000 in
theorem root_no {w : World} {ao : Option Addr} {n cap : Nat} (hn9 : n ≤ 9223372036854775807) (hp : ∀ h, ¬ Pow n h) :
    Calls Try.prog 15 #[.slice ao n cap] w fun e w' => e = .returned (.tuple #[u 0, .int .i64 1]) ∧ w = w' := by
  have hcs : n < 1 ∨ (1 ≤ n ∧ 256 < n) ∨ (1 ≤ n ∧ n ≤ 256) := by omega
  rcases hcs with h1 | ⟨h1, h2⟩ | ⟨h1, h2⟩
  · clear hp
    go_enter Try.func15, Try.ntmps15
    go_wp2_with fail
    go_ret2
    exact ⟨rfl, rfl⟩
  · clear hp
    go_enter Try.func15, Try.ntmps15
    go_wp2_with fail
    go_ret2
    exact ⟨rfl, rfl⟩
  · have hz : (n &&& (n - 1)) ≠ 0 := fun hz => by
      obtain ⟨h, hh, hn⟩ := (and_tells n h2 h1).1 hz
      exact hp h ⟨hn, hh⟩
    have ha := andE n h1 h2
    have hb : (((n &&& (n - 1) : Nat) : Int) != 0) = true := by rw [bne_iff_ne]; omega
    generalize (n &&& (n - 1)) = z at *
    clear hp hz
    go_enter Try.func15, Try.ntmps15
    go_wp2_with fail
    go_ret2
    exact ⟨rfl, rfl⟩
end Go.Proofs.Ytcmihfanlconhab
