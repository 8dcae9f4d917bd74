/- The box: words, new ones. Conditions: none. -/
import Derived.Test.YtcmihfanlconhabBoxT
import Derived.Test.YtcmihfanlconhabBoxD
namespace Go.Proofs.Ytcmihfanlconhab
open Go.RowKit Go.Conc
theorem mk_chanS (w : World) (n : Nat) (hn : n ≤ 256) : (Instr.makeChan 89 (.int .i64 (n : Int))).run Try.prog w = .ok (.chan (some w.heap.size)) (w.alloc (.chan n #[] false 0 0 false)) := by
  have hh : (Try.prog.info? 9).map (·.bytes) = some 16 := by kernel_rfl
  obtain ⟨i, hi, hb⟩ := Option.map_eq_some_iff.1 hh
  exact run_makeChan (P := Try.prog) (w := w) Try.underlying89 hi .i64 n (by omega) (by rw [hb]; omega)
theorem bnew_noS {w : World} (a b : Int) (h : a < 1 ∨ 256 < a ∨ b < 1 ∨ 256 < b) : Calls Try.prog 10 #[.int .i64 a, .int .i64 b] w fun e w' => e = .returned (.tuple #[.pointer none, .int .i64 1]) ∧ w = w' := by
  go_enter Try.func10, Try.ntmps10
  go_wp2_with fail
  all_goals first
    | (exfalso; omega)
    | (go_ret2; exact ⟨rfl, rfl⟩)
theorem bnew_okS {w : World} (n1 n2 : Nat) (h1 : 1 ≤ n1) (h2 : n1 ≤ 256) (h3 : 1 ≤ n2) (h4 : n2 ≤ 256) : Calls Try.prog 10 #[.int .i64 n1, .int .i64 n2] w fun e w' => ∃ bb c1 c2, e = .returned (.tuple #[.pointer (some ⟨bb, 0, none⟩), .int .i64 0]) ∧ Step [] w w' ∧ Bx w' 91 bb c1 c2 n1 n2 [] [] ∧ w.heap.size ≤ bb ∧ w.heap.size ≤ c1 ∧ w.heap.size ≤ c2 := by
  have m1 := fun w => mk_chanS w n1 h2
  have m2 := fun w => mk_chanS w n2 h4
  have g1 : (1 : Int) ≤ n1 := by omega
  have g2 : (n1 : Int) ≤ 256 := by omega
  have g3 : (1 : Int) ≤ n2 := by omega
  have g4 : (n2 : Int) ≤ 256 := by omega
  go_enter Try.func10, Try.ntmps10
  go_wp2_with fail
  all_goals try (exfalso; omega)
  all_goals go_region
  all_goals go_wp2_with fail
  all_goals go_ret2
  all_goals first
    | exact ⟨_, _, _, rfl, ((((Step.refl _ _).alloc _).alloc _).alloc _).drew, bx_make w _ n1 n2, by omega, by omega, by omega⟩
    | exact ⟨_, _, _, rfl, ((((Step.refl _ _).alloc _).alloc _).alloc _).drew, bx_make' w _ n1 n2, by omega, by omega, by omega⟩
end Go.Proofs.Ytcmihfanlconhab
