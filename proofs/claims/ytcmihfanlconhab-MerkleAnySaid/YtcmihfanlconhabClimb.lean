/- A leaf's way: Climb, Verify, Path of the program. Conditions: sizes. -/
import Derived.Test.YtcmihfanlconhabMerkle
namespace Go.Proofs.Ytcmihfanlconhab
open Go.RowKit

/-- The leaf's way after so many steps. -/
def climbK (x : UInt64) (i : Nat) (l : List UInt64) : Nat → UInt64
  | 0 => x
  | k + 1 => if i / 2 ^ k % 2 = 0 then two mt (climbK x i l k) (l.getD k 0) else two mt (l.getD k 0) (climbK x i l k)
def climb (x : UInt64) (i : Nat) (l : List UInt64) : UInt64 := climbK x i l l.length
def pathL : Nat → Nat → List UInt64 → List UInt64
  | 0, _, _ => []
  | h + 1, i, l => l.getD (i ^^^ 1) 0 :: pathL h (i / 2) (upL l)
theorem pathL_len : ∀ (h i : Nat) (l : List UInt64), (pathL h i l).length = h
  | 0, _, _ => rfl
  | h + 1, i, l => by simp [pathL, pathL_len h]

theorem and1 (z : Nat) : bits .and .i64 (z : Int) 1 = ((z % 2 : Nat) : Int) := by
  unfold bits
  simp only [BitVec.toNat_and]
  have h1 : (BitVec.ofInt (IntKind.i64.bits) 1).toNat = 2 ^ 1 - 1 := rfl
  rw [h1, Nat.and_two_pow_sub_one_eq_mod]
  have h2 : (BitVec.ofInt (IntKind.i64.bits) (z : Int)).toNat = z % 2 ^ 64 := by simp [BitVec.ofInt_natCast]; rfl
  rw [h2, IntKind.wrap_i64]
  omega
theorem and1k (i k : Nat) : bits .and .i64 ((i : Int) / 2 ^ k) 1 = ((i / 2 ^ k % 2 : Nat) : Int) := by
  rw [← and1]
  simp
theorem xor1 : ∀ i : Nat, i < 256 → (i ^^^ 1) = if i % 2 = 0 then i + 1 else i - 1 := by decide +kernel
theorem xorE1 (i : Nat) (h : i < 256) : bits .xor .i64 (i : Int) 1 = ((i ^^^ 1 : Nat) : Int) :=
  bits_xor_nat .i64 63 (by decide) (fun n h0 h1 => by rw [IntKind.wrap_i64]; omega) i 1 (by omega) (by omega)

set_option maxRecDepth 100000 in
theorem climb_any {w : World} (x : UInt64) (i : Nat) {ao : Option Addr} {n cap : Nat} {l : List UInt64} {B : Option Nat} (hl : Rd w 1 (.slice ao n cap) n (cu l) B) (hn : n ≤ 30) :
    Calls Try.prog 22 #[u x, .int .i64 i, .slice ao n cap] w fun e w' => e = .returned (u (climb x i l)) ∧ Step [] w w' := by
  have hln : l.length = n := by have := hl.1; simpa [cu] using this
  have HLN := Lib.hid hln
  clear hln
  go_enter Try.func22, Try.ntmps22
  go_wp2_with fail
  go_loopw [0, 7, 8, 11] (fun s0 s7 s8 s11 wr => ∃ k : Nat, k ≤ n ∧ s0 = u (climbK x i l k) ∧ s11 = .int .i64 k ∧ Step [] w wr) (fun _ _ _ s11 _ => n - (intOf s11).toNat)
  case atStart => exact ⟨0, Nat.zero_le _, rfl, rfl, Step.refl _ _⟩
  case round =>
    obtain ⟨k, hk, rfl, rfl, hst⟩ := hrel
    by_cases hlt : k < n
    · obtain ⟨g1, o1, cap1, hv1, _, _, hc1⟩ := hl.at (by omega)
      cases hv1
      have hll : l.length = n := HLN.out
      have d1 := hst.cell (hc1 k (u (l.getD k 0)) (cu_get _ _ (by omega))) (by simp)
      have HS : Hid (climbK x i l (k + 1) = if i / 2 ^ k % 2 = 0 then two mt (climbK x i l k) (l.getD k 0) else two mt (l.getD k 0) (climbK x i l k)) := rfl
      generalize climbK x i l k = y at *
      generalize l.getD k 0 = p at *
      clear hc1 hll hl
      have ha := and1k i k
      by_cases hb : i / 2 ^ k % 2 = 0
      · have ht : (bits .and .i64 ((i : Int) / 2 ^ k) 1 == 0) = true := by rw [ha, hb]; rfl
        rw [if_pos hb] at HS
        clear hb ha
        go_wp2_with fail
        refine (two_any ⟨#[109, 116]⟩ (by decide) y p).mono ?_
        rintro e w1 ⟨rfl, q⟩
        go_wp2_with fail
        go_round
        case rel => exact ⟨k + 1, by omega, by rw [HS.out]; rfl, by go_num, hst.trans q⟩
        case measure => simp [intOf]; omega
      · have ht : (bits .and .i64 ((i : Int) / 2 ^ k) 1 == 0) = false := by rw [ha, show i / 2 ^ k % 2 = 1 by omega]; rfl
        rw [if_neg hb] at HS
        clear hb ha
        go_wp2_with fail
        refine (two_any ⟨#[109, 116]⟩ (by decide) p y).mono ?_
        rintro e w1 ⟨rfl, q⟩
        go_wp2_with fail
        go_round
        case rel => exact ⟨k + 1, by omega, by rw [HS.out]; rfl, by go_num, hst.trans q⟩
        case measure => simp [intOf]; omega
    · have hkn : k = l.length := by rw [HLN.out]; omega
      have HC : Hid (climbK x i l k = climb x i l) := by unfold climb; rw [← hkn]; rfl
      clear hkn hl
      go_wp2_with fail
      go_ret
      exact ⟨by rw [← HC.out]; rfl, hst⟩

theorem u_eq (a b : UInt64) : ((a.toNat : Int) == (b.toNat : Int)) = (a == b) := by
  rw [Bool.eq_iff_iff]
  simp only [beq_iff_eq]
  rw [Int.ofNat_inj, UInt64.toNat_inj]
/-- What Verify tells. -/
def vf (r x : UInt64) (i : Int) (n : Nat) (l : List UInt64) : Bool := decide (n ≤ 8 ∧ 0 ≤ i ∧ i < 2 ^ n) && climb x i.toNat l == r
theorem verify_any {w : World} (r x : UInt64) (i : Int) {ao : Option Addr} {n cap : Nat} {l : List UInt64} {B : Option Nat} (hl : Rd w 1 (.slice ao n cap) n (cu l) B) (hn : n ≤ 30) :
    Calls Try.prog 24 #[u r, u x, .int .i64 i, .slice ao n cap] w fun e w' => e = .returned (.bool (vf r x i n l)) ∧ Step [] w w' := by
  by_cases h1 : n ≤ 8
  · have hw : wrap64 (2 ^ n) = 2 ^ n := by
      have : n = 0 ∨ n = 1 ∨ n = 2 ∨ n = 3 ∨ n = 4 ∨ n = 5 ∨ n = 6 ∨ n = 7 ∨ n = 8 := by omega
      rcases this with h | h | h | h | h | h | h | h | h <;> subst h <;> decide +kernel
    by_cases h2 : 0 ≤ i
    · obtain ⟨i, rfl⟩ := Int.eq_ofNat_of_zero_le h2
      by_cases h3 : (i : Int) < 2 ^ n
      · have h4 : (i : Int) < wrap64 (2 ^ n) := by rw [hw]; exact h3
        have HD : Hid (vf r x i n l = (climb x i l == r)) := by unfold Hid vf; simp only [h1, h3, h2, and_self, decide_true, Bool.true_and, Int.toNat_natCast]
        clear hw h3
        go_enter Try.func24, Try.ntmps24
        go_wp2_with fail
        refine (climb_any x i hl hn).mono ?_
        rintro e w1 ⟨rfl, q⟩
        go_wp2_with fail
        go_ret
        refine ⟨?_, q⟩
        rw [HD.out, ← u_eq]
        rfl
      · have h4 : ¬ (i : Int) < wrap64 (2 ^ n) := by rw [hw]; exact h3
        have HD : Hid (vf r x i n l = false) := by unfold Hid vf; simp only [h3, and_false, decide_false, Bool.false_and]
        clear hw h3 hl
        go_enter Try.func24, Try.ntmps24
        go_wp2_with fail
        go_ret
        refine ⟨?_, Step.refl _ _⟩
        rw [HD.out]
        rfl
    · have HD : Hid (vf r x i n l = false) := by unfold Hid vf; simp only [h2, false_and, and_false, decide_false, Bool.false_and]
      clear hw hl
      go_enter Try.func24, Try.ntmps24
      go_wp2_with fail
      go_ret
      refine ⟨?_, Step.refl _ _⟩
      rw [HD.out]
      rfl
  · have HD : Hid (vf r x i n l = false) := by unfold Hid vf; simp only [h1, false_and, decide_false, Bool.false_and]
    clear hl
    go_enter Try.func24, Try.ntmps24
    go_wp2_with fail
    go_ret
    refine ⟨?_, Step.refl _ _⟩
    rw [HD.out]
    rfl

set_option maxRecDepth 100000 in
set_option maxHeartbeats 1600000 in
theorem path_ok {w : World} {ao : Option Addr} {n cap : Nat} {l : List UInt64} {B : Option Nat} (hl : Rd w 1 (.slice ao n cap) n (cu l) B) {h : Nat} (hp : Pow n h) (i0 : Nat) (hi0 : i0 < n) :
    Calls Try.prog 18 #[.slice ao n cap, .int .i64 i0] w fun e w' => ∃ ao' c' B', e = .returned (.tuple #[.slice ao' h c', .int .i64 0]) ∧ Step [] w w' ∧ Sl w' 1 (.slice ao' h c') h (cu (pathL h i0 l)) B' := by
  obtain ⟨i, hi, hz0, hz1, hz2⟩ := info_parts Try.infoD
  have hh := hp.2
  have hn2 : n ≤ 256 := by rw [hp.1]; exact Nat.pow_le_pow_right (by decide) hh
  have HN : Hid (n = 2 ^ h) := hp.1
  go_enter Try.func18, Try.ntmps18
  go_wp2_with fail
  refine (root_ok hl hp).mono ?_
  rintro e w1 ⟨rfl, q0⟩
  clear hp
  go_wp2_with fail
  rename (0 : Int) ≤ (i0 : Int) ∧ ¬ n ≤ i0 => hx
  clear hx
  go_loopg [0, 1, 8] h (fun gk s0 s1 s8 wr => ∃ (ao' : Option Addr) (m c' : Nat) (l' : List UInt64) (B' : Option Nat) (j : Nat) (k : Nat) (xs : List UInt64) (ao8 : Option Addr) (lx c8 : Nat) (B8 : Option Nat),
    s0 = .slice ao' m c' ∧ Rd wr 1 (.slice ao' m c') m (cu l') B' ∧ Hid (m = 2 ^ gk) ∧ m ≤ 256 ∧ s1 = .int .i64 j ∧ j < m ∧ s8 = .slice ao8 lx c8 ∧ k = lx ∧ k + gk = h ∧ Sl wr 1 (.slice ao8 k c8) k (cu xs) B8 ∧ Hid (xs ++ pathL gk j l' = pathL h i0 l) ∧ Step [] w wr ∧ (∀ g, B8 = some g → w.heap.size ≤ g) ∧ (∀ g, B8 = some g → B' ≠ some g))
  case atStart => exact ⟨ao, n, cap, l, B, i0, 0, [], none, 0, 0, none, rfl, hl.step q0 (by simp), HN, hn2, rfl, hi0, rfl, rfl, by omega, Sl.nil _ _, rfl, q0, by simp, by simp⟩
  case round =>
    obtain ⟨ao', m, c', l', B', j, k, xs, ao8, lx, c8, B8, rfl, hl', hm, hm2, rfl, hj, rfl, rfl, hkg, h8, hr, hst, nB, nE⟩ := hrel
    clear hl HN hn2 hi0 q0
    cases gk with
    | zero =>
      have hm1 : m ≤ 1 := by rw [hm.out]; decide
      clear hm hl'
      go_wp2_with fail
      go_ret2
      have hr' : xs = pathL h i0 l := by have := hr.out; simpa [pathL] using this
      obtain rfl : h = k := by omega
      refine ⟨ao8, c8, B8, rfl, hst, ?_⟩
      rw [← hr']
      exact h8
    | succ g =>
      have hm1 : 1 < m := by rw [hm.out]; exact Nat.one_lt_two_pow (by omega)
      have hev : m % 2 = 0 := by rw [hm.out, Nat.pow_succ]; omega
      have hhalf : Hid (m / 2 = 2 ^ g) := by unfold Hid; rw [hm.out, Nat.pow_succ]; omega
      have hm3 : m / 2 ≤ 256 := by omega
      have hjm : Hid (j / 2 < m / 2) := by unfold Hid; omega
      have hx := xorE1 j (by omega)
      have hxm : j ^^^ 1 < m := by rw [xor1 j (by omega)]; split <;> omega
      obtain ⟨g1, o1, cap1, hv1, hB1, _, hc1⟩ := hl'.at (by omega)
      cases hv1
      have hll : l'.length = m := by have := hl'.1; simpa [cu] using this
      have d1 := hc1 (j ^^^ 1) (u (l'.getD (j ^^^ 1) 0)) (cu_get _ _ (by omega))
      have HP : Hid (pathL (g + 1) j l' = l'.getD (j ^^^ 1) 0 :: pathL g (j / 2) (upL l')) := rfl
      generalize l'.getD (j ^^^ 1) 0 = y at *
      have hx0 : (0 : Int) ≤ bits .xor .i64 (j : Int) 1 := by rw [hx]; omega
      have hx1 : bits .xor .i64 (j : Int) 1 < m := by rw [hx]; omega
      have hx2 : (bits .xor .i64 (j : Int) 1).toNat = j ^^^ 1 := by rw [hx]; omega
      clear hx hxm hll hc1 hev hm
      generalize j ^^^ 1 = jx at *
      go_wp2_with (at_builtin; refine Stopped.at ?_)
      refine Stopped.on ?_
      refine wpList_app rfl (.tmp 32) (.tmp 38) 39 rfl 36 i (.int .u64 0) 1 8 Try.underlying39 hi hz0 hz1 hz2 rfl (by decide) (n := k) (m := 1) (xs := cu xs) (news := cu [y]) (B := B8) (Bx := some wr.heap.size) ?c1 ?c2 ?c4 ?c5 ?c6 ?c3
      case c1 => exact h8.alloc _
      case c2 => exact (Sl.one wr 1 #[u y] 36 1 rfl (by decide)).rd
      case c4 => exact cu_one _
      case c5 => unfold maxLen; omega
      case c6 => omega
      intro v' w2 B2 hs2 hst2 hB2
      obtain ⟨ao2, cap2, rfl⟩ := hs2.form
      have hg1 : g1 < wr.heap.size := World.block_lt_of_cell? wr ⟨g1, _, none⟩ d1
      have hst3 : Step B8.toList wr w2 := ((Step.refl B8.toList wr).alloc _).trans hst2
      have hwg := hst.size
      have hl2 : Rd w2 1 (.slice (some ⟨g1, o1, none⟩) m c') m (cu l') B' := hl'.step hst3 (by
        intro b hb hm
        cases B8 with
        | none => simp at hm
        | some g' => simp at hm; subst hm; exact nE _ rfl hb)
      have st2 : Step [] w w2 := hst.grow hst3 (by intro x hx; cases B8 with | none => simp at hx | some g' => simp at hx; subst hx; exact nB _ rfl)
      have nB2 : ∀ g, B2 = some g → w.heap.size ≤ g := by
        rintro g rfl
        rcases hB2 with hB2 | ⟨b, hb, hge⟩
        · exact nB g hB2.symm
        · cases hb; simp at hge; omega
      have s2 : Sl w2 1 (.slice ao2 (k + 1) cap2) (k + 1) (cu (xs ++ [y])) B2 := by simpa [cu] using hs2
      have hr2 : Hid ((xs ++ [y]) ++ pathL g (j / 2) (upL l') = pathL h i0 l) := by
        unfold Hid; rw [← hr.out, HP.out]; simp
      have lt2 : ∀ g, B2 = some g → g < w2.heap.size := s2.lt
      clear hs2 hst2 hB2 hst3 h8 hst nB nE d1 hl' HP hr hx2 hB1
      go_wp2_with fail
      refine (up_any hl2 (by omega)).mono ?_
      rintro e w3 ⟨ao3, c3, B3, rfl, q3, s3, f3⟩
      go_wp2_with fail
      go_roundg g
      case measure => omega
      case rel => exact ⟨ao3, m / 2, c3, upL l', B3, j / 2, k + 1, xs ++ [y], ao2, _, cap2, B2, rfl, s3.rd, hhalf, hm3, by go_num, hjm.out, rfl, rfl, by omega, s2.step q3 (by simp), hr2, st2.trans q3, nB2, by
        intro g hg hb
        have := lt2 g hg
        have := f3 g hb
        omega⟩

theorem path_no {w : World} {ao : Option Addr} {n cap : Nat} {l : List UInt64} {B : Option Nat} (hl : Rd w 1 (.slice ao n cap) n (cu l) B) (hn9 : n ≤ 9223372036854775807) (i0 : Int) (hp : (∀ h, ¬ Pow n h) ∨ i0 < 0 ∨ n ≤ i0) :
    Calls Try.prog 18 #[.slice ao n cap, .int .i64 i0] w fun e w' => e = .returned (.tuple #[.slice none 0 0, .int .i64 1]) ∧ Step [] w w' := by
  by_cases hq : ∃ h, Pow n h
  · obtain ⟨h, hq⟩ := hq
    have hc : i0 < 0 ∨ n ≤ i0 := by
      rcases hp with hp | hp
      · exact absurd hq (hp h)
      · exact hp
    clear hp
    by_cases h0 : i0 < 0
    · clear hc
      go_enter Try.func18, Try.ntmps18
      go_wp2_with fail
      refine (root_ok hl hq).mono ?_
      rintro e w1 ⟨rfl, q0⟩
      go_wp2_with fail
      go_ret2
      exact ⟨rfl, q0⟩
    · have h1 : n ≤ i0 := by omega
      clear hc
      go_enter Try.func18, Try.ntmps18
      go_wp2_with fail
      refine (root_ok hl hq).mono ?_
      rintro e w1 ⟨rfl, q0⟩
      go_wp2_with fail
      go_ret2
      exact ⟨rfl, q0⟩
  · have hq' : ∀ h, ¬ Pow n h := fun h hh => hq ⟨h, hh⟩
    clear hp hq
    go_enter Try.func18, Try.ntmps18
    go_wp2_with fail
    refine (root_no hn9 hq').mono ?_
    rintro e w1 ⟨rfl, rfl⟩
    go_wp2_with fail
    go_ret2
    exact ⟨rfl, Step.refl _ _⟩
end Go.Proofs.Ytcmihfanlconhab
