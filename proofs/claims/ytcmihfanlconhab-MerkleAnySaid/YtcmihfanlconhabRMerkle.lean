/- The document's tree: Root, Path, Climb, VerifyPath; the statements' To, Of, Same. Conditions: sizes. -/
import Derived.Test.YtcmihfanlconhabM4
namespace Go.Proofs.Ytcmihfanlconhab
open Go.RowKit

/-- Is it a power that a tree may have? -/
def isPow (n : Nat) : Bool := (List.range 9).any fun h => n == 2 ^ h
theorem isPow_ok {n h : Nat} (hp : Pow n h) : isPow n = true := by
  unfold isPow
  rw [List.any_eq_true]
  exact ⟨h, List.mem_range.2 (by have := hp.2; omega), by rw [hp.1, beq_self_eq_true]⟩
theorem isPow_no {n : Nat} (hp : ∀ h, ¬ Pow n h) : isPow n = false := by
  unfold isPow
  rw [List.any_eq_false]
  intro h hh he
  exact hp h ⟨beq_iff_eq.1 he, by have := List.mem_range.1 hh; omega⟩
set_option maxRecDepth 100000 in
theorem rleaves_any {w : World} (n : Nat) : Calls Try.prog 50 #[.int .i64 n] w fun e w' => e = .returned (.bool (isPow n)) ∧ w = w' := by
  go_enter Try.func50, Try.ntmps50
  go_wp2_with fail
  go_loop [3] (fun s3 => ∃ k : Nat, k ≤ 9 ∧ (∀ j, j < k → n ≠ 2 ^ j) ∧ s3 = .int .i64 k) (fun s3 => 9 - (intOf s3).toNat)
  case atStart => exact ⟨0, by omega, by simp, rfl⟩
  case round =>
    obtain ⟨k, hk, hne, rfl⟩ := hrel
    by_cases hlt : k ≤ 8
    · have hw := two_bound k hlt
      by_cases he : n = 2 ^ k
      · have ht : ((n : Int) == wrap64 (2 ^ k)) = true := by rw [hw, beq_iff_eq, he]
        have HR : Hid (isPow n = true) := isPow_ok ⟨he, hlt⟩
        clear he hw hne
        go_wp2_with fail
        go_ret
        exact ⟨by rw [HR.out]; rfl, rfl⟩
      · have ht : ((n : Int) == wrap64 (2 ^ k)) = false := by rw [hw, beq_eq_false_iff_ne]; omega
        have hne2 : ∀ j, j < k + 1 → n ≠ 2 ^ j := by
          intro j hj
          by_cases h : j = k
          · rw [h]; exact he
          · exact hne j (by omega)
        have HNE := Lib.hid hne2
        clear he hw hne hne2
        go_wp2_with fail
        go_round
        case rel => exact ⟨k + 1, by omega, HNE.out, by go_num⟩
        case measure => simp [intOf]; omega
    · have HR : Hid (isPow n = false) := isPow_no fun h hp => hne h (by have := hp.2; omega) hp.1
      clear hne
      go_wp2_with fail
      go_ret
      exact ⟨by rw [HR.out]; rfl, rfl⟩

set_option maxRecDepth 100000 in
theorem rclimb_any {w : World} (x : UInt64) (i : Nat) {ao : Option Addr} {n cap : Nat} {l : List UInt64} {B : Option Nat} (hl : Rd w 1 (.slice ao n cap) n (cu l) B) (hn : n ≤ 30) :
    Calls Try.prog 23 #[u x, .int .i64 i, .slice ao n cap] w fun e w' => e = .returned (u (climb x i l)) ∧ w = w' := by
  have hln : l.length = n := by have := hl.1; simpa [cu] using this
  have HLN := Lib.hid hln
  clear hln
  go_enter Try.func23, Try.ntmps23
  go_wp2_with fail
  go_loop [7, 8] (fun s7 s8 => ∃ k : Nat, k ≤ n ∧ s7 = u (climbK x i l k) ∧ s8 = .int .i64 k) (fun _ s8 => n - (intOf s8).toNat)
  case atStart => exact ⟨0, Nat.zero_le _, rfl, rfl⟩
  case round =>
    obtain ⟨k, hk, rfl, rfl⟩ := hrel
    by_cases hlt : k < n
    · obtain ⟨g1, o1, cap1, hv1, _, _, hc1⟩ := hl.at (by omega)
      cases hv1
      have hll : l.length = n := HLN.out
      have d1 := hc1 k (u (l.getD k 0)) (cu_get _ _ (by omega))
      have HS : Hid (climbK x i l (k + 1) = if i / 2 ^ k % 2 = 0 then two mt (climbK x i l k) (l.getD k 0) else two mt (l.getD k 0) (climbK x i l k)) := rfl
      generalize climbK x i l k = y at *
      generalize l.getD k 0 = p at *
      clear hc1 hll hl
      have ha := and1k i k
      by_cases hb : i / 2 ^ k % 2 = 0
      · have ht : (bits .and .i64 ((i : Int) / 2 ^ k) 1 == 0) = true := by rw [ha, hb]; rfl
        rw [if_pos hb] at HS
        clear hb ha
        go_wp2_with fail
        refine (rtwo_any ⟨#[109, 116]⟩ (by decide) y p).mono ?_
        rintro e w1 ⟨rfl, rfl⟩
        go_wp2_with fail
        go_round
        case rel => exact ⟨k + 1, by omega, by rw [HS.out]; rfl, by go_num⟩
        case measure => simp [intOf]; omega
      · have ht : (bits .and .i64 ((i : Int) / 2 ^ k) 1 == 0) = false := by rw [ha, show i / 2 ^ k % 2 = 1 by omega]; rfl
        rw [if_neg hb] at HS
        clear hb ha
        go_wp2_with fail
        refine (rtwo_any ⟨#[109, 116]⟩ (by decide) p y).mono ?_
        rintro e w1 ⟨rfl, rfl⟩
        go_wp2_with fail
        go_round
        case rel => exact ⟨k + 1, by omega, by rw [HS.out]; rfl, by go_num⟩
        case measure => simp [intOf]; omega
    · have hkn : k = l.length := by rw [HLN.out]; omega
      have HC : Hid (climbK x i l k = climb x i l) := by unfold climb; rw [← hkn]; rfl
      clear hkn hl
      go_wp2_with fail
      go_ret
      exact ⟨by rw [← HC.out]; rfl, rfl⟩

set_option maxRecDepth 100000 in
theorem rverify_any {w : World} (r x : UInt64) (i : Int) {ao : Option Addr} {n cap : Nat} {l : List UInt64} {B : Option Nat} (hl : Rd w 1 (.slice ao n cap) n (cu l) B) (hn : n ≤ 30) :
    Calls Try.prog 25 #[u r, u x, .int .i64 i, .slice ao n cap] w fun e w' => e = .returned (.bool (vf r x i n l)) ∧ w = w' := by
  by_cases h1 : n ≤ 8
  · have hw := two_bound n h1
    have hw' : ((2 ^ n : Nat) : Int) = 2 ^ n := by simp
    rw [hw'] at hw
    by_cases h2 : 0 ≤ i
    · obtain ⟨i, rfl⟩ := Int.eq_ofNat_of_zero_le h2
      by_cases h3 : (i : Int) < 2 ^ n
      · have h4 : ¬ wrap64 (2 ^ n) ≤ (i : Int) := by rw [hw]; omega
        have HD : Hid (vf r x i n l = (climb x i l == r)) := by unfold Hid vf; simp only [h1, h3, h2, and_self, decide_true, Bool.true_and, Int.toNat_natCast]
        clear hw h3 hw'
        go_enter Try.func25, Try.ntmps25
        go_wp2_with fail
        refine (rclimb_any x i hl hn).mono ?_
        rintro e w1 ⟨rfl, rfl⟩
        go_wp2_with fail
        go_ret
        refine ⟨?_, rfl⟩
        rw [HD.out, ← u_eq]
        rfl
      · have h4 : wrap64 (2 ^ n) ≤ (i : Int) := by rw [hw]; omega
        have HD : Hid (vf r x i n l = false) := by unfold Hid vf; simp only [h3, and_false, decide_false, Bool.false_and]
        clear hw h3 hl hw'
        go_enter Try.func25, Try.ntmps25
        go_wp2_with fail
        go_ret
        refine ⟨?_, rfl⟩
        rw [HD.out]
        rfl
    · have HD : Hid (vf r x i n l = false) := by unfold Hid vf; simp only [h2, false_and, and_false, decide_false, Bool.false_and]
      clear hw hl hw'
      go_enter Try.func25, Try.ntmps25
      go_wp2_with fail
      go_ret
      refine ⟨?_, rfl⟩
      rw [HD.out]
      rfl
  · have HD : Hid (vf r x i n l = false) := by unfold Hid vf; simp only [h1, false_and, decide_false, Bool.false_and]
    clear hl
    go_enter Try.func25, Try.ntmps25
    go_wp2_with fail
    go_ret
    refine ⟨?_, rfl⟩
    rw [HD.out]
    rfl

set_option maxRecDepth 100000 in
set_option maxHeartbeats 1600000 in
theorem rup_any {w : World} {ao : Option Addr} {n cap : Nat} {l : List UInt64} {B : Option Nat} (hl : Rd w 1 (.slice ao n cap) n (cu l) B) (hn : n ≤ 100000) :
    Calls Try.prog 51 #[.slice ao n cap] w fun e w' => ∃ ao' c' B', e = .returned (.slice ao' (n / 2) c') ∧ Step [] w w' ∧ Sl w' 1 (.slice ao' (n / 2) c') (n / 2) (cu (upL l)) B' ∧ ∀ g, B' = some g → w.heap.size ≤ g := by
  have hln : l.length = n := by have := hl.1; simpa [cu] using this
  obtain ⟨i, hi, hz0, hz1, hz2⟩ := info_parts Try.infoU
  have HLN := Lib.hid hln
  clear hln
  go_enter Try.func51, Try.ntmps51
  go_wp2_with fail
  go_loopg [3, 4] n (fun gk s5 s6 wr => ∃ (k : Nat) (ao5 : Option Addr) (lx c5 : Nat) (B5 : Option Nat), gk = n - 2 * k ∧ 2 * k ≤ n ∧ s5 = .slice ao5 lx c5 ∧ k = lx ∧ s6 = .int .i64 (2 * k) ∧ Sl wr 1 (.slice ao5 k c5) k (cu (upK l k)) B5 ∧ Step [] w wr ∧ ∀ g, B5 = some g → w.heap.size ≤ g)
  case atStart => exact ⟨0, none, 0, 0, none, rfl, by omega, rfl, rfl, rfl, Sl.nil _ _, Step.refl _ _, by simp⟩
  case round =>
    obtain ⟨k, ao5, lx, c5, B5, rfl, hk, rfl, rfl, rfl, h5, hst, hB5⟩ := hrel
    by_cases hlt : 2 * k + 1 < n
    · obtain ⟨g1, o1, cap1, hv1, hB1, _, hc1⟩ := hl.at (by omega)
      cases hv1
      have hll : l.length = n := HLN.out
      have hg1 : g1 < w.heap.size := World.block_lt_of_cell? w ⟨g1, _, none⟩ (hc1 (2 * k) (u (l.getD (2 * k) 0)) (cu_get _ _ (by omega)))
      have hnb : g1 ∉ B5.toList := by
        intro h
        cases B5 with
        | none => simp at h
        | some g' => simp at h; have := hB5 g' rfl; omega
      have d1 := hst.cell (hc1 (2 * k) (u (l.getD (2 * k) 0)) (cu_get _ _ (by omega))) (by simp)
      have d2 := hst.cell (hc1 (2 * k + 1) (u (l.getD (2 * k + 1) 0)) (cu_get _ _ (by omega))) (by simp)
      have HS := Lib.hid (upK_succ l k)
      generalize l.getD (2 * k) 0 = x at *
      generalize l.getD (2 * k + 1) 0 = y at *
      clear hc1 hll hl
      have hi1 : (0 : Int) ≤ 2 * (k : Int) := by omega
      have hi2 : 2 * (k : Int) < n := by omega
      have e1 : IntKind.i64.wrap (2 * (k : Int) + 1) = 2 * (k : Int) + 1 := IntWalk.i64_in _ (by omega)
      have e2 : (2 * (k : Int)).toNat = 2 * k := by omega
      have e3 : (2 * (k : Int) + 1).toNat = 2 * k + 1 := by omega
      have hi3 : (0 : Int) ≤ 2 * (k : Int) + 1 := by omega
      have hi4 : 2 * (k : Int) + 1 < n := by omega
      have h5' : Sl wr.drew 1 (.slice ao5 k c5) k (cu (upK l k)) B5 := h5.step (Step.drew (Step.refl [] _)) (by simp)
      go_wp2_with fail
      go_region_held_law (fun w' => w'.cell? ⟨g1, o1 + 2 * k, none⟩ = some (u x) ∧ w'.cell? ⟨g1, o1 + (2 * k + 1), none⟩ = some (u y))
        (first | go_keep | exact ⟨q2.cell (((Step.refl [] wr.drew).alloc _).cell d1 (by simp)) hnb, q2.cell (((Step.refl [] wr.drew).alloc _).cell d2 (by simp)) hnb⟩ | exact ⟨((Step.refl [] wr.drew).alloc _).cell d1 (by simp), ((Step.refl [] wr.drew).alloc _).cell d2 (by simp)⟩)
        (first
          | (refine step_app rfl (.tmp 12) (.tmp 23) 34 rfl 35 i (.int .u64 0) 1 8 Try.underlying34 hi hz0 hz1 hz2 rfl (by decide) (n := k) (m := 1) (xs := cu (upK l k)) (news := cu [two mt x y]) (B := B5) (Bx := some wr.drew.heap.size) (h5'.alloc _) (Sl.one wr.drew 1 #[u (two mt x y)] 35 1 rfl (by decide)).rd (cu_one _) (by unfold maxLen; omega) (by omega) ?_; rintro ao6 c6 w6 B6 s6 q2 n6)
          | (go_at_call 52; refine (rtwo_any ⟨#[109, 116]⟩ (by decide) x y).mono ?_; rintro e w1 ⟨rfl, rfl⟩))
      have hsz0 := hst.size
      have st6 : Step [] w w6 := ((hst.drew).alloc _).grow q2 (by intro x hx; cases B5 with | none => simp at hx | some g' => simp at hx; subst hx; exact hB5 _ rfl)
      have B6f : ∀ g, B6 = some g → w.heap.size ≤ g := by
        rintro g rfl
        rcases n6 with n6 | ⟨b, hb, hge⟩
        · exact hB5 g n6.symm
        · cases hb; simp [World.drew] at hge; omega
      have s6' : Sl w6 1 (.slice ao6 (k + 1) c6) (k + 1) (cu (upK l (k + 1))) B6 := by
        rw [HS.out]
        simpa [cu] using s6
      clear s6 q2 n6 h5 h5' hst d1 d2 HS e1 e2 e3
      go_wp2_with fail
      go_roundg (n - 2 * (k + 1))
      case measure => omega
      case rel => exact ⟨k + 1, ao6, _, c6, B6, rfl, by omega, rfl, rfl, by go_num, s6', st6, B6f⟩
    · have hk2 : k = n / 2 := by omega
      have hup : upL l = upK l k := by unfold upL; rw [HLN.out, hk2]
      clear hl
      go_wp2_with fail
      go_ret
      refine ⟨ao5, c5, B5, by rw [← hk2]; rfl, hst, ?_, hB5⟩
      rw [← hk2, hup]
      exact h5

set_option maxRecDepth 100000 in
set_option maxHeartbeats 1600000 in
theorem rroot_ok {w : World} {ao : Option Addr} {n cap : Nat} {l : List UInt64} {B : Option Nat} (hl : Rd w 1 (.slice ao n cap) n (cu l) B) {h : Nat} (hp : Pow n h) :
    Calls Try.prog 17 #[.slice ao n cap] w fun e w' => e = .returned (.tuple #[u (rootN h l), .int .i64 0]) ∧ Step [] w w' := by
  have hpt : isPow n = true := isPow_ok hp
  obtain ⟨hn, hh⟩ := hp
  have hn2 : n ≤ 256 := by rw [hn]; exact Nat.pow_le_pow_right (by decide) hh
  have HN : Hid (n = 2 ^ h) := hn
  clear hn
  go_enter Try.func17, Try.ntmps17
  go_wp2_with fail
  refine (rleaves_any n).mono ?_
  rintro e w0 ⟨he, rfl⟩
  rw [hpt] at he
  subst he
  go_wp2_with fail
  go_loopg [0] h (fun gk s0 wr => ∃ (ao' : Option Addr) (m c' : Nat) (l' : List UInt64) (B' : Option Nat), s0 = .slice ao' m c' ∧ Rd wr 1 (.slice ao' m c') m (cu l') B' ∧ Hid (m = 2 ^ gk) ∧ m ≤ 256 ∧ Hid (rootN gk l' = rootN h l) ∧ Step [] w wr)
  case atStart => exact ⟨ao, n, cap, l, B, rfl, hl, HN, hn2, rfl, Step.refl _ _⟩
  case round =>
    obtain ⟨ao', m, c', l', B', rfl, hl', hm, hm2, hr, hst⟩ := hrel
    clear hl HN hn2
    cases gk with
    | zero =>
      have hm1 : m ≤ 1 := by rw [hm.out]; decide
      have hm0 : 0 < m := by rw [hm.out]; decide
      obtain ⟨g1, o1, cap1, hv1, _, _, hc1⟩ := hl'.at hm0
      cases hv1
      have hll : l'.length = m := by have := hl'.1; simpa [cu] using this
      have d1 := hc1 0 (u (l'.getD 0 0)) (cu_get _ _ (by omega))
      have HD : Hid (l'.getD 0 0 = rootN h l) := hr
      generalize l'.getD 0 0 = x at *
      rw [Nat.add_zero] at d1
      clear hc1 hl' hll hr hm
      obtain rfl : m = 1 := by omega
      go_wp2_with fail
      go_ret2
      refine ⟨?_, hst⟩
      rw [← HD.out]
      rfl
    | succ j =>
      have hm1 : 1 < m := by rw [hm.out]; exact Nat.one_lt_two_pow (by omega)
      have hhalf : Hid (m / 2 = 2 ^ j) := by unfold Hid; rw [hm.out, Nat.pow_succ]; omega
      have hm3 : m / 2 ≤ 256 := by omega
      go_wp2_with fail
      refine (rup_any hl' (by omega)).mono ?_
      rintro e w1 ⟨ao2, c2, B2, rfl, q, s2, _⟩
      go_wp2_with fail
      go_roundg j
      case measure => omega
      case rel => exact ⟨ao2, m / 2, c2, upL l', B2, rfl, s2.rd, hhalf, hm3, hr, hst.trans q⟩

theorem rroot_no {w : World} {ao : Option Addr} {n cap : Nat} (hp : ∀ h, ¬ Pow n h) :
    Calls Try.prog 17 #[.slice ao n cap] w fun e w' => e = .returned (.tuple #[u 0, .int .i64 1]) ∧ w = w' := by
  have hpt : isPow n = false := isPow_no hp
  clear hp
  go_enter Try.func17, Try.ntmps17
  go_wp2_with fail
  refine (rleaves_any n).mono ?_
  rintro e w0 ⟨he, rfl⟩
  rw [hpt] at he
  subst he
  go_wp2_with fail
  go_ret2
  exact ⟨rfl, rfl⟩

set_option maxRecDepth 100000 in
set_option maxHeartbeats 1600000 in
theorem rpath_ok {w : World} {ao : Option Addr} {n cap : Nat} {l : List UInt64} {B : Option Nat} (hl : Rd w 1 (.slice ao n cap) n (cu l) B) {h : Nat} (hp : Pow n h) (i0 : Nat) (hi0 : i0 < n) :
    Calls Try.prog 19 #[.slice ao n cap, .int .i64 i0] w fun e w' => ∃ ao' c' B', e = .returned (.tuple #[.slice ao' h c', .int .i64 0]) ∧ Step [] w w' ∧ Sl w' 1 (.slice ao' h c') h (cu (pathL h i0 l)) B' := by
  obtain ⟨i, hi, hz0, hz1, hz2⟩ := info_parts Try.infoU
  have hpt : isPow n = true := isPow_ok hp
  have hh := hp.2
  have hn2 : n ≤ 256 := by rw [hp.1]; exact Nat.pow_le_pow_right (by decide) hh
  have HN : Hid (n = 2 ^ h) := hp.1
  have t1 : decide ((i0 : Int) < 0) = false := decide_eq_false (by omega)
  have t2 : decide ((n : Int) ≤ (i0 : Int)) = false := decide_eq_false (by omega)
  clear hp
  go_enter Try.func19, Try.ntmps19
  go_wp2_with fail
  refine (rleaves_any n).mono ?_
  rintro e w0 ⟨he, rfl⟩
  rw [hpt] at he
  subst he
  go_wp2_with fail
  rename ¬ n ≤ i0 => hx
  clear hx
  go_loopg [0, 1, 6] h (fun gk s0 s1 s8 wr => ∃ (ao' : Option Addr) (m c' : Nat) (l' : List UInt64) (B' : Option Nat) (j : Nat) (k : Nat) (xs : List UInt64) (ao8 : Option Addr) (lx c8 : Nat) (B8 : Option Nat),
    s0 = .slice ao' m c' ∧ Rd wr 1 (.slice ao' m c') m (cu l') B' ∧ Hid (m = 2 ^ gk) ∧ m ≤ 256 ∧ s1 = .int .i64 j ∧ j < m ∧ s8 = .slice ao8 lx c8 ∧ k = lx ∧ k + gk = h ∧ Sl wr 1 (.slice ao8 k c8) k (cu xs) B8 ∧ Hid (xs ++ pathL gk j l' = pathL h i0 l) ∧ Step [] w wr ∧ (∀ g, B8 = some g → w.heap.size ≤ g) ∧ (∀ g, B8 = some g → B' ≠ some g))
  case atStart => exact ⟨ao, n, cap, l, B, i0, 0, [], none, 0, 0, none, rfl, hl, HN, hn2, rfl, hi0, rfl, rfl, by omega, Sl.nil _ _, rfl, Step.refl _ _, by simp, by simp⟩
  case round =>
    obtain ⟨ao', m, c', l', B', j, k, xs, ao8, lx, c8, B8, rfl, hl', hm, hm2, rfl, hj, rfl, rfl, hkg, h8, hr, hst, nB, nE⟩ := hrel
    clear hl HN hn2 hi0 t1 t2 hpt
    cases gk with
    | zero =>
      have hm1 : m ≤ 1 := by rw [hm.out]; decide
      clear hm hl'
      go_wp2_with fail
      go_ret2
      have hr' : xs = pathL h i0 l := by have := hr.out; simpa [pathL] using this
      obtain rfl : h = k := by omega
      refine ⟨ao8, c8, B8, rfl, hst, ?_⟩
      rw [← hr']
      exact h8
    | succ g =>
      have hm1 : 1 < m := by rw [hm.out]; exact Nat.one_lt_two_pow (by omega)
      have hev : m % 2 = 0 := by rw [hm.out, Nat.pow_succ]; omega
      have hhalf : Hid (m / 2 = 2 ^ g) := by unfold Hid; rw [hm.out, Nat.pow_succ]; omega
      have hm3 : m / 2 ≤ 256 := by omega
      have hjm : Hid (j / 2 < m / 2) := by unfold Hid; omega
      have hx := xorE1 j (by omega)
      have hxm : j ^^^ 1 < m := by rw [xor1 j (by omega)]; split <;> omega
      obtain ⟨g1, o1, cap1, hv1, hB1, _, hc1⟩ := hl'.at (by omega)
      cases hv1
      have hll : l'.length = m := by have := hl'.1; simpa [cu] using this
      have d1 := hc1 (j ^^^ 1) (u (l'.getD (j ^^^ 1) 0)) (cu_get _ _ (by omega))
      have HP : Hid (pathL (g + 1) j l' = l'.getD (j ^^^ 1) 0 :: pathL g (j / 2) (upL l')) := rfl
      generalize l'.getD (j ^^^ 1) 0 = y at *
      have hx0 : (0 : Int) ≤ bits .xor .i64 (j : Int) 1 := by rw [hx]; omega
      have hx1 : bits .xor .i64 (j : Int) 1 < m := by rw [hx]; omega
      have hx2 : (bits .xor .i64 (j : Int) 1).toNat = j ^^^ 1 := by rw [hx]; omega
      clear hx hxm hll hc1 hev hm
      generalize j ^^^ 1 = jx at *
      go_wp2_with (at_builtin; refine Stopped.at ?_)
      refine Stopped.on ?_
      refine wpList_app rfl (.tmp 24) (.tmp 30) 34 rfl 35 i (.int .u64 0) 1 8 Try.underlying34 hi hz0 hz1 hz2 rfl (by decide) (n := k) (m := 1) (xs := cu xs) (news := cu [y]) (B := B8) (Bx := some wr.heap.size) ?c1 ?c2 ?c4 ?c5 ?c6 ?c3
      case c1 => exact h8.alloc _
      case c2 => exact (Sl.one wr 1 #[u y] 35 1 rfl (by decide)).rd
      case c4 => exact cu_one _
      case c5 => unfold maxLen; omega
      case c6 => omega
      intro v' w2 B2 hs2 hst2 hB2
      obtain ⟨ao2, cap2, rfl⟩ := hs2.form
      have hg1 : g1 < wr.heap.size := World.block_lt_of_cell? wr ⟨g1, _, none⟩ d1
      have hst3 : Step B8.toList wr w2 := ((Step.refl B8.toList wr).alloc _).trans hst2
      have hwg := hst.size
      have hl2 : Rd w2 1 (.slice (some ⟨g1, o1, none⟩) m c') m (cu l') B' := hl'.step hst3 (by
        intro b hb hm
        cases B8 with
        | none => simp at hm
        | some g' => simp at hm; subst hm; exact nE _ rfl hb)
      have st2 : Step [] w w2 := hst.grow hst3 (by intro x hx; cases B8 with | none => simp at hx | some g' => simp at hx; subst hx; exact nB _ rfl)
      have nB2 : ∀ g, B2 = some g → w.heap.size ≤ g := by
        rintro g rfl
        rcases hB2 with hB2 | ⟨b, hb, hge⟩
        · exact nB g hB2.symm
        · cases hb; simp at hge; omega
      have s2 : Sl w2 1 (.slice ao2 (k + 1) cap2) (k + 1) (cu (xs ++ [y])) B2 := by simpa [cu] using hs2
      have hr2 : Hid ((xs ++ [y]) ++ pathL g (j / 2) (upL l') = pathL h i0 l) := by
        unfold Hid; rw [← hr.out, HP.out]; simp
      have lt2 : ∀ g, B2 = some g → g < w2.heap.size := s2.lt
      clear hs2 hst2 hB2 hst3 h8 hst nB nE d1 hl' HP hr hx2 hB1
      go_wp2_with fail
      refine (rup_any hl2 (by omega)).mono ?_
      rintro e w3 ⟨ao3, c3, B3, rfl, q3, s3, f3⟩
      go_wp2_with fail
      go_roundg g
      case measure => omega
      case rel => exact ⟨ao3, m / 2, c3, upL l', B3, j / 2, k + 1, xs ++ [y], ao2, _, cap2, B2, rfl, s3.rd, hhalf, hm3, by go_num, hjm.out, rfl, rfl, by omega, s2.step q3 (by simp), hr2, st2.trans q3, nB2, by
        intro g hg hb
        have := lt2 g hg
        have := f3 g hb
        omega⟩

theorem rpath_no {w : World} {ao : Option Addr} {n cap : Nat} (i0 : Int) (hp : (∀ h, ¬ Pow n h) ∨ i0 < 0 ∨ n ≤ i0) :
    Calls Try.prog 19 #[.slice ao n cap, .int .i64 i0] w fun e w' => e = .returned (.tuple #[.slice none 0 0, .int .i64 1]) ∧ w = w' := by
  have hcs : isPow n = false ∨ (isPow n = true ∧ i0 < 0) ∨ (isPow n = true ∧ ¬ i0 < 0 ∧ n ≤ i0) := by
    cases hq : isPow n with
    | false => exact .inl rfl
    | true =>
      rcases hp with hp | hp
      · rw [isPow_no hp] at hq; cases hq
      · by_cases h0 : i0 < 0
        · exact .inr (.inl ⟨rfl, h0⟩)
        · exact .inr (.inr ⟨rfl, h0, hp.resolve_left h0⟩)
  clear hp
  rcases hcs with hpt | ⟨hpt, h0⟩ | ⟨hpt, h0, h1⟩
  all_goals
    go_enter Try.func19, Try.ntmps19
    go_wp2_with fail
    refine (rleaves_any n).mono ?_
    rintro e w0 ⟨he, rfl⟩
    rw [hpt] at he
    subst he
    go_wp2_with fail
    go_ret2
    exact ⟨rfl, rfl⟩
end Go.Proofs.Ytcmihfanlconhab
