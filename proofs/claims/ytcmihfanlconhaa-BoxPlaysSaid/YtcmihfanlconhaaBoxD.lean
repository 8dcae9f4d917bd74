/- The box: whole numbers, new ones. Conditions: none. -/
import Derived.Test.YtcmihfanlconhaaBoxC
import Derived.RegionTactic
import Derived.ChangeAlike
namespace Go.Proofs.Ytcmihfanlconhaa
open Go.RowKit Go.Conc
theorem mk_chanI (w : World) (n : Nat) (hn : n ≤ 256) : (Instr.makeChan 84 (.int .i64 (n : Int))).run Try.prog w = .ok (.chan (some w.heap.size)) (w.alloc (.chan n #[] false 0 0 false)) := by
  have hh : (Try.prog.info? 3).map (·.bytes) = some 8 := by kernel_rfl
  obtain ⟨i, hi, hb⟩ := Option.map_eq_some_iff.1 hh
  exact run_makeChan (P := Try.prog) (w := w) Try.underlying84 hi .i64 n (by omega) (by rw [hb]; omega)
theorem bnew_noI {w : World} (a b : Int) (h : a < 1 ∨ 256 < a ∨ b < 1 ∨ 256 < b) : Calls Try.prog 33 #[.int .i64 a, .int .i64 b] w fun e w' => e = .returned (.tuple #[.pointer none, .int .i64 1]) ∧ w = w' := by
  go_enter Try.func33, Try.ntmps33
  go_wp2_with fail
  all_goals first
    | (exfalso; omega)
    | (go_ret2; exact ⟨rfl, rfl⟩)
theorem ch_new (w : World) (n : Nat) : Ch (w.alloc (.chan n #[] false 0 0 false)) w.heap.size n [] := ⟨0, 0, heap_new _ _⟩
theorem bx_make (w : World) (T : TypeId) (n1 n2 : Nat) : Bx (((w.alloc (.chan n1 #[] false 0 0 false)).alloc (.chan n2 #[] false 0 0 false)).alloc (.cells #[.chan (some w.heap.size), .chan (some (w.heap.size + 1))] T)).drew T (w.heap.size + 1 + 1) w.heap.size (w.heap.size + 1) n1 n2 [] [] := by
  have a1 := (ch_new w n1).step (((Step.refl [] _).alloc (.chan n2 #[] false 0 0 false)).alloc (.cells #[.chan (some w.heap.size), .chan (some (w.heap.size + 1))] T)) (by simp)
  have a2 := (ch_new (w.alloc (.chan n1 #[] false 0 0 false)) n2).step ((Step.refl [] _).alloc (.cells #[.chan (some w.heap.size), .chan (some (w.heap.size + 1))] T)) (by simp)
  have a3 := heap_new ((w.alloc (.chan n1 #[] false 0 0 false)).alloc (.chan n2 #[] false 0 0 false)) (.cells #[.chan (some w.heap.size), .chan (some (w.heap.size + 1))] T)
  rw [show (w.alloc (.chan n1 #[] false 0 0 false)).heap.size = w.heap.size + 1 by simp] at a2
  rw [show ((w.alloc (.chan n1 #[] false 0 0 false)).alloc (.chan n2 #[] false 0 0 false)).heap.size = w.heap.size + 1 + 1 by simp] at a3
  exact Bx.drew ⟨a3, a1, a2, by omega, Nat.zero_le _, Nat.zero_le _⟩
theorem bx_make' (w : World) (T : TypeId) (n1 n2 : Nat) : Bx (((w.alloc (.chan n2 #[] false 0 0 false)).alloc (.chan n1 #[] false 0 0 false)).alloc (.cells #[.chan (some (w.heap.size + 1)), .chan (some w.heap.size)] T)).drew T (w.heap.size + 1 + 1) (w.heap.size + 1) w.heap.size n1 n2 [] [] := by
  have a1 := (ch_new w n2).step (((Step.refl [] _).alloc (.chan n1 #[] false 0 0 false)).alloc (.cells #[.chan (some (w.heap.size + 1)), .chan (some w.heap.size)] T)) (by simp)
  have a2 := (ch_new (w.alloc (.chan n2 #[] false 0 0 false)) n1).step ((Step.refl [] _).alloc (.cells #[.chan (some (w.heap.size + 1)), .chan (some w.heap.size)] T)) (by simp)
  have a3 := heap_new ((w.alloc (.chan n2 #[] false 0 0 false)).alloc (.chan n1 #[] false 0 0 false)) (.cells #[.chan (some (w.heap.size + 1)), .chan (some w.heap.size)] T)
  rw [show (w.alloc (.chan n2 #[] false 0 0 false)).heap.size = w.heap.size + 1 by simp] at a2
  rw [show ((w.alloc (.chan n2 #[] false 0 0 false)).alloc (.chan n1 #[] false 0 0 false)).heap.size = w.heap.size + 1 + 1 by simp] at a3
  exact Bx.drew ⟨a3, a2, a1, by omega, Nat.zero_le _, Nat.zero_le _⟩
theorem bnew_okI {w : World} (n1 n2 : Nat) (h1 : 1 ≤ n1) (h2 : n1 ≤ 256) (h3 : 1 ≤ n2) (h4 : n2 ≤ 256) : Calls Try.prog 33 #[.int .i64 n1, .int .i64 n2] w fun e w' => ∃ bb c1 c2, e = .returned (.tuple #[.pointer (some ⟨bb, 0, none⟩), .int .i64 0]) ∧ Step [] w w' ∧ Bx w' 86 bb c1 c2 n1 n2 [] [] ∧ w.heap.size ≤ bb ∧ w.heap.size ≤ c1 ∧ w.heap.size ≤ c2 := by
  have m1 := fun w => mk_chanI w n1 h2
  have m2 := fun w => mk_chanI w n2 h4
  have g1 : (1 : Int) ≤ n1 := by omega
  have g2 : (n1 : Int) ≤ 256 := by omega
  have g3 : (1 : Int) ≤ n2 := by omega
  have g4 : (n2 : Int) ≤ 256 := by omega
  go_enter Try.func33, Try.ntmps33
  go_wp2_with fail
  all_goals try (exfalso; omega)
  all_goals go_region
  all_goals go_wp2_with fail
  all_goals go_ret2
  all_goals first
    | exact ⟨_, _, _, rfl, ((((Step.refl _ _).alloc _).alloc _).alloc _).drew, bx_make w _ n1 n2, by omega, by omega, by omega⟩
    | exact ⟨_, _, _, rfl, ((((Step.refl _ _).alloc _).alloc _).alloc _).drew, bx_make' w _ n1 n2, by omega, by omega, by omega⟩
end Go.Proofs.Ytcmihfanlconhaa
