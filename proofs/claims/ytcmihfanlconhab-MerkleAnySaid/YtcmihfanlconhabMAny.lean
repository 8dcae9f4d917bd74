/- MerkleAny: walked. -/
import Derived.Test.YtcmihfanlconhabRMerkle
import Derived.Test.YtcmihfanlconhabRowl
namespace Go.Proofs.Ytcmihfanlconhab
open Go.RowKit

set_option maxRecDepth 100000 in
set_option maxHeartbeats 1600000 in
theorem to_any {w : World} {ao : Option Addr} {n cap : Nat} {l : List UInt64} {B : Option Nat} (hl : Rd w 1 (.slice ao n cap) n (cu l) B) (hn : n ≤ 600) :
    Calls Try.prog 16 #[.slice ao n cap] w fun e w' => ∃ ao' c' B', e = .returned (.slice ao' n c') ∧ Step [] w w' ∧ Sl w' 1 (.slice ao' n c') n (cu l) B' := by
  have hln : l.length = n := by have := hl.1; simpa [cu] using this
  obtain ⟨i, hi, hz0, hz1, hz2⟩ := info_parts Try.infoD
  have HLN := Lib.hid hln
  clear hln
  go_enter Try.func16, Try.ntmps16
  go_wp2_with fail
  go_loopw [3, 4] (fun s3 s4 wr => ∃ (k : Nat) (a3 : Option Addr) (lx c : Nat) (B3 : Option Nat), k ≤ n ∧ s3 = .slice a3 lx c ∧ k = lx ∧ s4 = .int .i64 k ∧ Sl wr 1 (.slice a3 k c) k (cu (l.take k)) B3 ∧ Step [] w wr ∧ ∀ g, B3 = some g → w.heap.size ≤ g) (fun _ s4 _ => n - (intOf s4).toNat)
  case atStart => exact ⟨0, none, 0, 0, none, Nat.zero_le _, rfl, rfl, rfl, Sl.nil _ _, Step.refl _ _, by simp⟩
  case round =>
    obtain ⟨k, a3, lx, c, B3, hk, rfl, rfl, rfl, hs, hst, nB⟩ := hrel
    by_cases hlt : k < n
    · obtain ⟨g1, o1, cap1, hv1, _, _, hc1⟩ := hl.at (by omega)
      cases hv1
      have hll : l.length = n := HLN.out
      have d1 := hst.cell (hc1 k (u (l[k]'(by omega))) (by simp [cu, show k < l.length by omega])) (by simp)
      have HS := Lib.hid (take_snoc64 (l := l) (k := k) (by omega))
      generalize (l[k]'(by omega)) = x at *
      clear hc1 hl hll
      go_wp2_with (at_builtin; refine Stopped.at ?_)
      refine Stopped.on ?_
      refine wpList_app rfl (.tmp 11) (.tmp 16) 39 rfl 36 i (.int .u64 0) 1 8 Try.underlying39 hi hz0 hz1 hz2 rfl (by decide) (n := k) (m := 1) (xs := cu (l.take k)) (news := cu [x]) (B := B3) (Bx := some wr.heap.size) ?c1 ?c2 ?c4 ?c5 ?c6 ?c3
      case c1 => exact hs.alloc _
      case c2 => exact (Sl.one wr 1 #[u x] 36 1 rfl (by decide)).rd
      case c4 => exact cu_one _
      case c5 => unfold maxLen; omega
      case c6 => omega
      intro v' w3 B4 hs3 hst3 hB3
      obtain ⟨ao3, cap3, rfl⟩ := hs3.form
      have hw2 := hst.size
      have st3 : Step [] w w3 := hst.grow (((Step.refl B3.toList wr).alloc _).trans hst3) (by intro x hx; cases B3 with | none => simp at hx | some g' => simp at hx; subst hx; exact nB _ rfl)
      have nB3 : ∀ g, B4 = some g → w.heap.size ≤ g := by
        rintro g rfl
        rcases hB3 with hB3 | ⟨b, hb, hge⟩
        · exact nB g hB3.symm
        · cases hb; simp at hge; omega
      have s3 : Sl w3 1 (.slice ao3 (k + 1) cap3) (k + 1) (cu (l.take (k + 1))) B4 := by rw [HS.out]; simpa [cu] using hs3
      clear hs3 hst3 hB3 hs hst nB
      go_wp2_with fail
      go_round
      case rel => exact ⟨k + 1, ao3, _, cap3, B4, by omega, rfl, rfl, by go_num, s3, st3, nB3⟩
      case measure => simp [intOf]; omega
    · obtain rfl : k = n := by omega
      rw [List.take_of_length_le (by rw [HLN.out]; exact Nat.le_refl _)] at hs
      clear hl
      go_wp2_with fail
      go_ret
      exact ⟨a3, c, B3, rfl, hst, hs⟩

set_option maxRecDepth 100000 in
set_option maxHeartbeats 1600000 in
theorem of_any {w : World} {ao : Option Addr} {n cap : Nat} {l : List UInt64} {B : Option Nat} (hl : Rd w 1 (.slice ao n cap) n (cu l) B) (hn : n ≤ 600) :
    Calls Try.prog 21 #[.slice ao n cap] w fun e w' => ∃ ao' c' B', e = .returned (.slice ao' n c') ∧ Step [] w w' ∧ Sl w' 1 (.slice ao' n c') n (cu l) B' := by
  have hln : l.length = n := by have := hl.1; simpa [cu] using this
  obtain ⟨i, hi, hz0, hz1, hz2⟩ := info_parts Try.infoU
  have HLN := Lib.hid hln
  clear hln
  go_enter Try.func21, Try.ntmps21
  go_wp2_with fail
  go_loopw [3, 4] (fun s3 s4 wr => ∃ (k : Nat) (a3 : Option Addr) (lx c : Nat) (B3 : Option Nat), k ≤ n ∧ s3 = .slice a3 lx c ∧ k = lx ∧ s4 = .int .i64 k ∧ Sl wr 1 (.slice a3 k c) k (cu (l.take k)) B3 ∧ Step [] w wr ∧ ∀ g, B3 = some g → w.heap.size ≤ g) (fun _ s4 _ => n - (intOf s4).toNat)
  case atStart => exact ⟨0, none, 0, 0, none, Nat.zero_le _, rfl, rfl, rfl, Sl.nil _ _, Step.refl _ _, by simp⟩
  case round =>
    obtain ⟨k, a3, lx, c, B3, hk, rfl, rfl, rfl, hs, hst, nB⟩ := hrel
    by_cases hlt : k < n
    · obtain ⟨g1, o1, cap1, hv1, _, _, hc1⟩ := hl.at (by omega)
      cases hv1
      have hll : l.length = n := HLN.out
      have d1 := hst.cell (hc1 k (u (l[k]'(by omega))) (by simp [cu, show k < l.length by omega])) (by simp)
      have HS := Lib.hid (take_snoc64 (l := l) (k := k) (by omega))
      generalize (l[k]'(by omega)) = x at *
      clear hc1 hl hll
      go_wp2_with (at_builtin; refine Stopped.at ?_)
      refine Stopped.on ?_
      refine wpList_app rfl (.tmp 11) (.tmp 16) 34 rfl 35 i (.int .u64 0) 1 8 Try.underlying34 hi hz0 hz1 hz2 rfl (by decide) (n := k) (m := 1) (xs := cu (l.take k)) (news := cu [x]) (B := B3) (Bx := some wr.heap.size) ?c1 ?c2 ?c4 ?c5 ?c6 ?c3
      case c1 => exact hs.alloc _
      case c2 => exact (Sl.one wr 1 #[u x] 35 1 rfl (by decide)).rd
      case c4 => exact cu_one _
      case c5 => unfold maxLen; omega
      case c6 => omega
      intro v' w3 B4 hs3 hst3 hB3
      obtain ⟨ao3, cap3, rfl⟩ := hs3.form
      have hw2 := hst.size
      have st3 : Step [] w w3 := hst.grow (((Step.refl B3.toList wr).alloc _).trans hst3) (by intro x hx; cases B3 with | none => simp at hx | some g' => simp at hx; subst hx; exact nB _ rfl)
      have nB3 : ∀ g, B4 = some g → w.heap.size ≤ g := by
        rintro g rfl
        rcases hB3 with hB3 | ⟨b, hb, hge⟩
        · exact nB g hB3.symm
        · cases hb; simp at hge; omega
      have s3 : Sl w3 1 (.slice ao3 (k + 1) cap3) (k + 1) (cu (l.take (k + 1))) B4 := by rw [HS.out]; simpa [cu] using hs3
      clear hs3 hst3 hB3 hs hst nB
      go_wp2_with fail
      go_round
      case rel => exact ⟨k + 1, ao3, _, cap3, B4, by omega, rfl, rfl, by go_num, s3, st3, nB3⟩
      case measure => simp [intOf]; omega
    · obtain rfl : k = n := by omega
      rw [List.take_of_length_le (by rw [HLN.out]; exact Nat.le_refl _)] at hs
      clear hl
      go_wp2_with fail
      go_ret
      exact ⟨a3, c, B3, rfl, hst, hs⟩

theorem same_any {w : World} {a1 a2 : Option Addr} {n c1 c2 : Nat} {xs : List UInt64} {B1 B2 : Option Nat} (h1 : Rd w 1 (.slice a1 n c1) n (cu xs) B1) (h2 : Rd w 1 (.slice a2 n c2) n (cu xs) B2) (hn : n ≤ 1000000) :
    Calls Try.prog 20 #[.slice a1 n c1, .slice a2 n c2] w fun e w' => e = .returned (.bool true) ∧ ∃ m, w' = w.drewN m := by
  have hx : xs.length = n := by have := h1.1; simpa [cu] using this
  go_enter Try.func20, Try.ntmps20
  go_wp2_with fail
  go_loopg [5] n (fun gk s5 wr => ∃ k m : Nat, gk = n - k ∧ k ≤ n ∧ s5 = .int .i64 k ∧ wr = w.drewN m)
  case atStart => exact ⟨0, 0, rfl, Nat.zero_le _, rfl, rfl⟩
  case round =>
    obtain ⟨k, m, rfl, hk, rfl, rfl⟩ := hrel
    by_cases hlt : k < n
    · obtain ⟨g1, o1, cap1, hv1, _, _, hc1⟩ := h1.at (by omega)
      obtain ⟨g2, o2, cap2, hv2, _, _, hc2⟩ := h2.at (by omega)
      cases hv1
      cases hv2
      have hu := cu_get xs k (by omega)
      have d1 := hc1 k _ hu
      have d2 := hc2 k _ hu
      clear hc1 hc2 hu h1 h2
      generalize xs.getD k 0 = x at *
      go_wp2_with fail
      go_quiet (fail)
      go_wp2_with fail
      go_roundg (n - (k + 1))
      case measure => omega
      case rel => exact ⟨k + 1, _, rfl, by omega, by go_num, rfl⟩
    · clear h1 h2
      go_wp2_with fail
      go_ret
      exact ⟨rfl, _, rfl⟩

theorem root_both (n : Nat) (hn : n ≤ 600) (l : List UInt64) : ∃ (r : UInt64) (ec : Int),
    (∀ (w : World) (ao : Option Addr) (cap : Nat) (B : Option Nat), Rd w 1 (.slice ao n cap) n (cu l) B → Calls Try.prog 15 #[.slice ao n cap] w fun e w' => e = .returned (.tuple #[u r, .int .i64 ec]) ∧ Step [] w w') ∧
    (∀ (w : World) (ao : Option Addr) (cap : Nat) (B : Option Nat), Rd w 1 (.slice ao n cap) n (cu l) B → Calls Try.prog 17 #[.slice ao n cap] w fun e w' => e = .returned (.tuple #[u r, .int .i64 ec]) ∧ Step [] w w') := by
  by_cases hq : ∃ h, Pow n h
  · obtain ⟨h, hq⟩ := hq
    exact ⟨rootN h l, 0, fun w ao cap B hl => root_ok hl hq, fun w ao cap B hl => rroot_ok hl hq⟩
  · have hq' : ∀ h, ¬ Pow n h := fun h hh => hq ⟨h, hh⟩
    refine ⟨0, 1, fun w ao cap B _ => (root_no (by omega) hq').mono ?_, fun w ao cap B _ => (rroot_no hq').mono ?_⟩
    · rintro e w' ⟨rfl, rfl⟩; exact ⟨rfl, Step.refl _ _⟩
    · rintro e w' ⟨rfl, rfl⟩; exact ⟨rfl, Step.refl _ _⟩

theorem path_both (n : Nat) (hn : n ≤ 600) (l : List UInt64) (i0 : Int) : ∃ (pl : List UInt64) (m : Nat) (ec : Int), m ≤ 8 ∧
    (∀ (w : World) (ao : Option Addr) (cap : Nat) (B : Option Nat), Rd w 1 (.slice ao n cap) n (cu l) B → Calls Try.prog 18 #[.slice ao n cap, .int .i64 i0] w fun e w' => ∃ ao' c' B', e = .returned (.tuple #[.slice ao' m c', .int .i64 ec]) ∧ Step [] w w' ∧ Sl w' 1 (.slice ao' m c') m (cu pl) B') ∧
    (∀ (w : World) (ao : Option Addr) (cap : Nat) (B : Option Nat), Rd w 1 (.slice ao n cap) n (cu l) B → Calls Try.prog 19 #[.slice ao n cap, .int .i64 i0] w fun e w' => ∃ ao' c' B', e = .returned (.tuple #[.slice ao' m c', .int .i64 ec]) ∧ Step [] w w' ∧ Sl w' 1 (.slice ao' m c') m (cu pl) B') := by
  by_cases hq : (∃ h, Pow n h) ∧ 0 ≤ i0 ∧ i0 < n
  · obtain ⟨⟨h, hq⟩, h0, h1⟩ := hq
    obtain ⟨i, rfl⟩ := Int.eq_ofNat_of_zero_le h0
    exact ⟨pathL h i l, h, 0, hq.2, fun w ao cap B hl => path_ok hl hq i (by omega), fun w ao cap B hl => rpath_ok hl hq i (by omega)⟩
  · have hq' : (∀ h, ¬ Pow n h) ∨ i0 < 0 ∨ n ≤ i0 := by
      by_cases hp : ∃ h, Pow n h
      · right
        by_cases h0 : i0 < 0
        · exact .inl h0
        · by_cases h1 : i0 < n
          · exact absurd ⟨hp, by omega, h1⟩ hq
          · exact .inr (by omega)
      · exact .inl fun h hh => hp ⟨h, hh⟩
    refine ⟨[], 0, 1, by omega, fun w ao cap B hl => (path_no hl (by omega) i0 hq').mono ?_, fun w ao cap B _ => (rpath_no i0 hq').mono ?_⟩
    · rintro e w' ⟨rfl, h⟩; exact ⟨none, 0, none, rfl, h, Sl.nil _ _⟩
    · rintro e w' ⟨rfl, rfl⟩; exact ⟨none, 0, none, rfl, Step.refl _ _, Sl.nil _ _⟩

set_option maxRecDepth 100000 in
set_option maxHeartbeats 1600000 in
theorem any_any {w : World} {ao ao2 : Option Addr} {n cap n2 cap2 : Nat} {l l2 : List UInt64} {B B2 : Option Nat} (hl : Rd w 1 (.slice ao n cap) n (cu l) B) (i0 : Int) (hp : Rd w 1 (.slice ao2 n2 cap2) n2 (cu l2) B2) (x : UInt64) :
    Calls Try.prog 4 #[.slice ao n cap, .int .i64 i0, .slice ao2 n2 cap2, u x] w fun e w' => e = .returned (.bool true) ∧ Step [] w w' := by
  by_cases hb : 600 < n ∨ 30 < n2
  · have hb1 : 600 < n ∨ (¬ 600 < n ∧ 30 < n2) := by omega
    clear hb
    rcases hb1 with hb | ⟨hb, hb2⟩
    all_goals
      go_enter Try.func4, Try.ntmps4
      go_wp2_with fail
      refine known4.mono ?_
      rintro e w1 ⟨rfl, q1⟩
      go_wp2_with fail
      go_ret
      exact ⟨rfl, q1⟩
  · have h6 : n ≤ 600 := by omega
    have h3 : n2 ≤ 30 := by omega
    clear hb
    obtain ⟨r, ec, HR, HR'⟩ := root_both n h6 l
    obtain ⟨pl, m, pc, hm8, HP, HP'⟩ := path_both n h6 l i0
    go_enter Try.func4, Try.ntmps4
    go_wp2_with fail
    refine known4.mono ?_
    rintro e w1 ⟨rfl, q1⟩
    have hl1 := hl.step q1 (by simp)
    have hp1 := hp.step q1 (by simp)
    clear hl hp
    go_wp2_with fail
    refine (to_any hl1 h6).mono ?_
    rintro e w2 ⟨a2, c2, b2, rfl, q2, s2⟩
    have hl2 := hl1.step q2 (by simp)
    have hp2 := hp1.step q2 (by simp)
    have q2' := q1.trans q2
    clear hl1 hp1 q1 q2
    go_wp2_with fail
    refine (HR w2 _ _ _ s2.rd).mono ?_
    rintro e w3 ⟨rfl, q3⟩
    have hl3 := hl2.step q3 (by simp)
    have hp3 := hp2.step q3 (by simp)
    have q3' := q2'.trans q3
    clear hl2 hp2 q2' q3 s2 HR
    go_wp2_with fail
    refine (HR' w3 _ _ _ hl3).mono ?_
    rintro e w4 ⟨rfl, q4⟩
    have hl4 := hl3.step q4 (by simp)
    have hp4 := hp3.step q4 (by simp)
    have q4' := q3'.trans q4
    clear hl3 hp3 q3' q4 HR'
    go_wp2_with fail
    refine (to_any hl4 h6).mono ?_
    rintro e w5 ⟨a5, c5, b5, rfl, q5, s5⟩
    have hl5 := hl4.step q5 (by simp)
    have hp5 := hp4.step q5 (by simp)
    have q5' := q4'.trans q5
    clear hl4 hp4 q4' q5
    go_wp2_with fail
    refine (HP w5 _ _ _ s5.rd).mono ?_
    rintro e w6 ⟨a6, c6, b6, rfl, q6, s6⟩
    have hl6 := hl5.step q6 (by simp)
    have hp6 := hp5.step q6 (by simp)
    have q6' := q5'.trans q6
    clear hl5 hp5 q5' q6 s5 HP
    go_wp2_with fail
    refine (HP' w6 _ _ _ hl6).mono ?_
    rintro e w7 ⟨a7, c7, b7, rfl, q7, s7⟩
    have hp7 := hp6.step q7 (by simp)
    have s67 := s6.step q7 (by simp)
    have q7' := q6'.trans q7
    clear hl6 hp6 q6' q7 s6 HP'
    go_wp2_with fail
    refine (of_any s67.rd (by omega)).mono ?_
    rintro e w8 ⟨a8, c8, b8, rfl, q8, s8⟩
    have hp8 := hp7.step q8 (by simp)
    have s78 := s7.step q8 (by simp)
    have q8' := q7'.trans q8
    clear hp7 q7' q8 s67 s7
    go_wp2_with fail
    refine (same_any s8.rd s78.rd (by omega)).mono ?_
    rintro e w9 ⟨rfl, m9, rfl⟩
    have hp9 := hp8.step (Step.drewN (Step.refl [] w8) m9) (by simp)
    have q9 := q8'.drewN m9
    clear hp8 q8' s8 s78
    generalize w8.drewN m9 = w9 at *
    by_cases h0 : 0 ≤ i0
    · obtain ⟨i, rfl⟩ := Int.eq_ofNat_of_zero_le h0
      go_wp2_with fail
      refine (to_any hp9 (by omega)).mono ?_
      rintro e w10 ⟨a10, c10, b10, rfl, q10, s10⟩
      have hp10 := hp9.step q10 (by simp)
      have q10' := q9.trans q10
      clear hp9 q9 q10
      go_wp2_with fail
      refine (climb_any x i s10.rd h3).mono ?_
      rintro e w11 ⟨rfl, q11⟩
      have hp11 := hp10.step q11 (by simp)
      have q11' := q10'.trans q11
      clear hp10 q10' q11 s10
      go_wp2_with fail
      refine (rclimb_any x i hp11 h3).mono ?_
      rintro e w12 ⟨rfl, rfl⟩
      go_wp2_with fail
      refine (to_any hp11 (by omega)).mono ?_
      rintro e w13 ⟨a13, c13, b13, rfl, q13, s13⟩
      have hp13 := hp11.step q13 (by simp)
      have q13' := q11'.trans q13
      clear hp11 q11' q13
      go_wp2_with fail
      refine (verify_any r x i s13.rd h3).mono ?_
      rintro e w14 ⟨rfl, q14⟩
      have hp14 := hp13.step q14 (by simp)
      have q14' := q13'.trans q14
      clear hp13 q13' q14 s13
      go_wp2_with fail
      refine (rverify_any r x i hp14 h3).mono ?_
      rintro e w15 ⟨rfl, rfl⟩
      go_wp2_with fail
      go_ret
      exact ⟨by simp, q14'⟩
    · go_wp2_with fail
      refine (to_any hp9 (by omega)).mono ?_
      rintro e w13 ⟨a13, c13, b13, rfl, q13, s13⟩
      have hp13 := hp9.step q13 (by simp)
      have q13' := q9.trans q13
      clear hp9 q9 q13
      go_wp2_with fail
      refine (verify_any r x i0 s13.rd h3).mono ?_
      rintro e w14 ⟨rfl, q14⟩
      have hp14 := hp13.step q14 (by simp)
      have q14' := q13'.trans q14
      clear hp13 q13' q14 s13
      go_wp2_with fail
      refine (rverify_any r x i0 hp14 h3).mono ?_
      rintro e w15 ⟨rfl, rfl⟩
      go_wp2_with fail
      go_ret
      exact ⟨by simp, q14'⟩

theorem cu_of_ints (n : Nat) (f : Nat → Int) (hf : ∀ i, i < n → IntKind.u64.min ≤ f i ∧ f i ≤ IntKind.u64.max) : ∃ l : List UInt64, ((List.range n).map f).map (Value.int .u64) = cu l := by
  refine ⟨(List.range n).map fun i => UInt64.ofNat (f i).toNat, ?_⟩
  rw [cu, List.map_map, List.map_map]
  apply List.map_congr_left
  intro i hi
  obtain ⟨x, hx⟩ := of_u64 (hf i (List.mem_range.1 hi))
  simp [hx]

/-- .. in the form that the row asks. -/
theorem any_row (w : World) (ao : Option Addr) (n cap : Nat) (f : Nat → Int) (hn : n ≤ cap ∧ cap ≤ maxLen) (hf : ∀ i, i < n → IntKind.u64.min ≤ f i ∧ f i ≤ IntKind.u64.max) (hs : SlA w ao n 1 (fun i _ => .int .u64 (f i)))
    (a : Int) (_ha : IntKind.i64.min ≤ a ∧ a ≤ IntKind.i64.max)
    (ao2 : Option Addr) (n2 cap2 : Nat) (f2 : Nat → Int) (hn2 : n2 ≤ cap2 ∧ cap2 ≤ maxLen) (hf2 : ∀ i, i < n2 → IntKind.u64.min ≤ f2 i ∧ f2 i ≤ IntKind.u64.max) (hs2 : SlA w ao2 n2 1 (fun i _ => .int .u64 (f2 i)))
    (d : Int) (hd : IntKind.u64.min ≤ d ∧ d ≤ IntKind.u64.max) :
    Calls Try.prog 4 #[.slice ao n cap, .int .i64 a, .slice ao2 n2 cap2, .int .u64 d] w (Ret' (.bool true) fun w' => Step [] w w') := by
  obtain ⟨x, rfl⟩ := of_u64 hd
  obtain ⟨B, _, hr⟩ := hs.rd_int hn
  obtain ⟨B2, _, hr2⟩ := hs2.rd_int hn2
  obtain ⟨l, hl⟩ := cu_of_ints n f hf
  obtain ⟨l2, hl2⟩ := cu_of_ints n2 f2 hf2
  rw [hl] at hr
  rw [hl2] at hr2
  exact any_any hr a hr2 x
end Go.Proofs.Ytcmihfanlconhab
