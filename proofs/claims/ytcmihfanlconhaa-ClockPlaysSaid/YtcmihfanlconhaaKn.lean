/- The clock's known answers. Conditions: none. -/
import Derived.Test.YtcmihfanlconhaaClk
namespace Go.Proofs.Ytcmihfanlconhaa
open Go.RowKit

set_option maxHeartbeats 1600000 in
theorem known_any (w : World) : Calls Try.prog 9 #[] w (Ret (.bool true) fun w' => Step [] w w') := by
  go_enter Try.func9, Try.ntmps9
  go_wp2_with fail
  refine (new_ok 5 (by omega) (by omega) _).mono ?_
  rintro e w1 ⟨rfl, s1, c1⟩
  generalize hb0 : w.heap.size = b at *
  have hb := Nat.le_of_eq hb0
  clear hb0
  go_wp2_with fail
  refine (new_no (-1) (by omega) _).mono ?_
  rintro e w1' ⟨rfl, rfl⟩
  go_wp2_with fail
  refine (issue_ok c1 (by omega) (by omega)).mono ?_
  rintro e w2 ⟨rfl, s2, c2⟩
  rw [mxi_ge (by omega)] at *
  go_wp2_with fail
  refine (issue_ok c2 (by omega) (by omega)).mono ?_
  rintro e w3 ⟨rfl, s3, c3⟩
  rw [mxi_lt (by omega)] at *
  go_wp2_with fail
  refine (tick_ok c3 10 (by omega) (by omega) (by omega) (by omega)).mono ?_
  rintro e w4 ⟨rfl, s4, c4⟩
  go_wp2_with fail
  refine (issue_ok c4 (by omega) (by omega)).mono ?_
  rintro e w5 ⟨rfl, s5, c5⟩
  rw [mxi_ge (by omega)] at *
  go_wp2_with fail
  refine (raise_any c5 100).mono ?_
  rintro e w6 ⟨rfl, s6, c6⟩
  rw [mxi_lt (by omega)] at *
  go_wp2_with fail
  refine (raise_any c6 50).mono ?_
  rintro e w7 ⟨rfl, s7, c7⟩
  rw [mxi_ge (by omega)] at *
  go_wp2_with fail
  refine (issue_ok c7 (by omega) (by omega)).mono ?_
  rintro e w8 ⟨rfl, s8, c8⟩
  rw [mxi_lt (by omega)] at *
  go_wp2_with fail
  refine (twin_any c8).mono ?_
  rintro e w9 ⟨rfl, s9, c9⟩
  have d8 : Clk w9 b (5 + 10) (100 + 1) := s9.heap c8 (by simp)
  have h17 : Step [b] w1 w9 := s2.trans (s3.trans (s4.trans (s5.trans (s6.trans (s7.trans (s8.trans (s9.weaken (by simp))))))))
  have hfin : Step [] w w9 := (s1.weaken (by simp)).trans h17 |>.fresh (by simp [hb])
  clear s2 s3 s4 s5 s6 s7 s8 s9 c1 c2 c3 c4 c5 c6 c7 c8 h17 s1 hb
  generalize w8.heap.size = t at *
  go_wp2_with (first
    | (go_at_call 19; refine (now_any d8).mono ?_; rintro e w' ⟨rfl, rfl⟩)
    | (go_at_call_of 20 (Value.pointer (some ⟨b, 0, none⟩)); refine (floor_any d8).mono ?_; rintro e w' ⟨rfl, rfl⟩)
    | (go_at_call_of 20 (Value.pointer (some ⟨t, 0, none⟩)); refine (floor_any c9).mono ?_; rintro e w' ⟨rfl, rfl⟩)
    | (go_at_call 14; refine (tick_no d8 (-1) (by omega) (by omega) (by omega)).mono ?_; rintro e w' ⟨rfl, rfl⟩))
  go_ret
  exact ⟨rfl, hfin⟩
end Go.Proofs.Ytcmihfanlconhaa
