/- The box: the known case; rows of words alike. Conditions: sizes. -/
import Derived.Test.YtcmihfanlconhaaBoxF
namespace Go.Proofs.Ytcmihfanlconhaa
open Go.RowKit Go.Conc
theorem ints3 : Ints [.int .i64 2, .int .i64 1, .int .i64 4] := by
  intro x hx
  simp at hx
  rcases hx with rfl | rfl | rfl <;> exact ⟨_, rfl⟩
theorem ints1 (a : Int) : Ints [.int .i64 a] := by
  intro x hx
  simp at hx
  subst hx
  exact ⟨_, rfl⟩
theorem ints2 (a b : Int) : Ints [.int .i64 a, .int .i64 b] := by
  intro x hx
  simp at hx
  rcases hx with rfl | rfl <;> exact ⟨_, rfl⟩
theorem rd_lit (w : World) (T : TypeId) : Rd (w.alloc (.cells #[.int .i64 2, .int .i64 1, .int .i64 4] T)) 1 (.slice (some ⟨w.heap.size, 0, none⟩) 3 3) 3 [.int .i64 2, .int .i64 1, .int .i64 4] (some w.heap.size) :=
  (Sl.one w 1 #[.int .i64 2, .int .i64 1, .int .i64 4] T 3 rfl (by unfold maxLen; omega)).rd
set_option maxRecDepth 100000 in
set_option maxHeartbeats 1600000 in
theorem known7_any {w : World} : Calls Try.prog 32 #[] w fun e w' => e = .returned (.bool true) ∧ Step [] w w' := by
  go_enter Try.func32, Try.ntmps32
  go_wp2_with fail
  refine (bnew_okI 1 2 (by omega) (by omega) (by omega) (by omega)).mono ?_
  rintro e w1 ⟨bb, c1, c2, rfl, s1, b1, f0, f1, f2⟩
  go_wp2_with fail
  refine (bnew_noI 0 1 (by omega)).mono ?_
  rintro e w1' ⟨rfl, rfl⟩
  go_wp2_with fail
  refine (bput_other_okI b1 (.int .i64 1) (by simp)).mono ?_
  rintro e w2 ⟨rfl, s2, b2⟩
  go_wp2_with fail
  refine (bput_first_okI b2 (.int .i64 2) (by simp)).mono ?_
  rintro e w3 ⟨rfl, s3, b3⟩
  go_wp2_with fail
  refine (bput_first_noI b3 (.int .i64 3) (by simp)).mono ?_
  rintro e w4 ⟨rfl, s4, b4⟩
  go_wp2_with fail
  refine (bput_other_okI b4 (.int .i64 4) (by simp)).mono ?_
  rintro e w5 ⟨rfl, s5, b5⟩
  have g5 : Step [c1, c2] w1 w5 := ((s2.trans s3).trans s4).trans s5
  have b5 : Bx w5 86 bb c1 c2 1 2 [.int .i64 2] [.int .i64 1, .int .i64 4] := b5
  clear s2 s3 s4 s5 b1 b2 b3 b4
  go_wp2_with fail
  refine (ball_any b5 (ints1 _) (ints2 _ _) (by omega) (by omega)).mono ?_
  rintro e w6 ⟨ao, cp, B, rfl, s6, b6, r6, fB⟩
  have r6 := r6.rd
  have r6 : Rd w6 1 (.slice ao 3 cp) 3 [.int .i64 2, .int .i64 1, .int .i64 4] B := r6
  have l5 := b5.lt
  have nB := fresh_not2 fB l5.2.1 l5.2.2
  go_wp2_with fail
  refine (btwin_any b6 (ints1 _) (ints2 _ _) (by omega) (by omega)).mono ?_
  rintro e w7 ⟨bt, d1, d2, rfl, s7, b7, t7, k0, k1, k2⟩
  have r7 := r6.step s7 nB
  go_wp2_with fail
  refine (blen_any b7).mono ?_
  rintro e w8 ⟨rfl, s8, b8⟩
  have l6 := b6.lt
  have n0 : bt ∉ [c1, c2] := by simp; omega
  have n1 : d1 ∉ [c1, c2] := by simp; omega
  have n2 : d2 ∉ [c1, c2] := by simp; omega
  go_wp2_with fail
  refine (btake_firstI b8).mono ?_
  rintro e w9 ⟨rfl, s9, b9⟩
  go_wp2_with fail
  refine (bclear_any b9).mono ?_
  rintro e w10 ⟨rfl, s10, b10⟩
  go_wp2_with fail
  refine (btake_noneI b10).mono ?_
  rintro e w11 ⟨rfl, s11, b11⟩
  have g11 : Step [c1, c2] w7 w11 := ((s8.weaken (by simp)).trans s9).trans (s10.trans s11)
  have t11 := t7.step g11 n0 n1 n2
  have r11 := r7.step g11 nB
  have h16 := (g5.trans s6).size
  have g : Step [c1, c2] w1 w11 := g5.trans ((s6.trans s7).trans g11)
  clear g5 s6 s7 s8 s9 s10 s11 g11 r7 t7 b5 b6 b7 b8 b9 b10 b11
  go_wp2_with fail
  refine (ints_same (r11.alloc _) (rd_lit w11 _) ints3 (by omega)).mono ?_
  rintro e w12 ⟨rfl, s12⟩
  have t12 := t11.step (((Step.refl [] w11).alloc (.cells #[.int .i64 2, .int .i64 1, .int .i64 4] 3)).trans s12) (by simp) (by simp) (by simp)
  have g12 : Step [c1, c2] w1 w12 := (g.alloc (.cells #[.int .i64 2, .int .i64 1, .int .i64 4] 3)).trans (s12.weaken (by simp))
  clear g t11 s12 r11
  go_wp2_with fail
  refine (ball_any t12 (ints1 _) (ints2 _ _) (by omega) (by omega)).mono ?_
  rintro e w13 ⟨ao', cp', B', rfl, s13, b13, r13, fB'⟩
  have r13 := r13.rd
  have r13 : Rd w13 1 (.slice ao' 3 cp') 3 [.int .i64 2, .int .i64 1, .int .i64 4] B' := r13
  go_wp2_with fail
  refine (ints_same (r13.alloc _) (rd_lit w13 _) ints3 (by omega)).mono ?_
  rintro e w14 ⟨rfl, s14⟩
  have a : Step ([c1, c2] ++ [d1, d2]) w1 w14 := ((g12.weaken (fun x hx => List.mem_append_left _ hx)).trans (s13.weaken (fun x hx => List.mem_append_right _ hx))).trans ((((Step.refl [] w13).alloc (.cells #[.int .i64 2, .int .i64 1, .int .i64 4] 3)).trans s14).weaken (by simp))
  have hs6 : w1.heap.size ≤ w6.heap.size := h16
  have z1 := s1.size
  have g14 : Step [] w w14 := s1.grow a (by simp; omega)
  clear a g12 s13 s14 r13 b13 t12
  go_wp2_with fail
  go_ret
  exact ⟨rfl, g14⟩
end Go.Proofs.Ytcmihfanlconhaa
