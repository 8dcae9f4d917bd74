/- The box: words, put and take. Conditions: none. -/
import Derived.Test.YtcmihfanlconhabBoxS
import Derived.Test.YtcmihfanlconhabBoxC
namespace Go.Proofs.Ytcmihfanlconhab
open Go.RowKit Go.Conc
theorem bput_first_okS {w : World} {T : TypeId} {bb c1 c2 n1 n2 : Nat} {X Y : List Value} (hb : Bx w T bb c1 c2 n1 n2 X Y) (x : Value) (hc : X.length < n1) :
    Calls Try.prog 11 #[.pointer (some ⟨bb, 0, none⟩), x, .bool true] w fun e w' => e = .returned (.int .i64 0) ∧ Step [c1, c2] w w' ∧ Bx w' T bb c1 c2 n1 n2 (X ++ [x]) Y := by
  have d0 := cell_of (i := 0) hb.blk rfl
  have d1 := cell_of (i := 1) hb.blk rfl
  go_enter Try.func11, Try.ntmps11
  go_wp2_with fail
  refine (put_roomS hb.first x hc).mono ?_
  rintro e w1 ⟨rfl, q, h⟩
  go_wp2_with fail
  go_ret
  exact ⟨rfl, q.weaken (by simp), hb.set_first q h (by simp; omega)⟩
theorem bput_first_noS {w : World} {T : TypeId} {bb c1 c2 n1 n2 : Nat} {X Y : List Value} (hb : Bx w T bb c1 c2 n1 n2 X Y) (x : Value) (hc : n1 ≤ X.length) :
    Calls Try.prog 11 #[.pointer (some ⟨bb, 0, none⟩), x, .bool true] w fun e w' => e = .returned (.int .i64 6) ∧ Step [c1, c2] w w' ∧ Bx w' T bb c1 c2 n1 n2 X Y := by
  have d0 := cell_of (i := 0) hb.blk rfl
  have d1 := cell_of (i := 1) hb.blk rfl
  go_enter Try.func11, Try.ntmps11
  go_wp2_with fail
  refine (put_fullS hb.first x hc).mono ?_
  rintro e w1 ⟨rfl, rfl⟩
  go_wp2_with fail
  go_ret
  exact ⟨rfl, Step.refl _ _, hb⟩
theorem bput_other_okS {w : World} {T : TypeId} {bb c1 c2 n1 n2 : Nat} {X Y : List Value} (hb : Bx w T bb c1 c2 n1 n2 X Y) (x : Value) (hc : Y.length < n2) :
    Calls Try.prog 11 #[.pointer (some ⟨bb, 0, none⟩), x, .bool false] w fun e w' => e = .returned (.int .i64 0) ∧ Step [c1, c2] w w' ∧ Bx w' T bb c1 c2 n1 n2 X (Y ++ [x]) := by
  have d0 := cell_of (i := 0) hb.blk rfl
  have d1 := cell_of (i := 1) hb.blk rfl
  go_enter Try.func11, Try.ntmps11
  go_wp2_with fail
  refine (put_roomS hb.second x hc).mono ?_
  rintro e w1 ⟨rfl, q, h⟩
  go_wp2_with fail
  go_ret
  exact ⟨rfl, q.weaken (by simp), hb.set_second q h (by simp; omega)⟩
theorem bput_other_noS {w : World} {T : TypeId} {bb c1 c2 n1 n2 : Nat} {X Y : List Value} (hb : Bx w T bb c1 c2 n1 n2 X Y) (x : Value) (hc : n2 ≤ Y.length) :
    Calls Try.prog 11 #[.pointer (some ⟨bb, 0, none⟩), x, .bool false] w fun e w' => e = .returned (.int .i64 6) ∧ Step [c1, c2] w w' ∧ Bx w' T bb c1 c2 n1 n2 X Y := by
  have d0 := cell_of (i := 0) hb.blk rfl
  have d1 := cell_of (i := 1) hb.blk rfl
  go_enter Try.func11, Try.ntmps11
  go_wp2_with fail
  refine (put_fullS hb.second x hc).mono ?_
  rintro e w1 ⟨rfl, rfl⟩
  go_wp2_with fail
  go_ret
  exact ⟨rfl, Step.refl _ _, hb⟩
theorem btake_firstS {w : World} {T : TypeId} {bb c1 c2 n1 n2 : Nat} {Y ys : List Value} {y : Value} (hb : Bx w T bb c1 c2 n1 n2 (y :: ys) Y) :
    Calls Try.prog 12 #[.pointer (some ⟨bb, 0, none⟩)] w fun e w' => e = .returned (.tuple #[y, .bool true]) ∧ Step [c1, c2] w w' ∧ Bx w' T bb c1 c2 n1 n2 ys Y := by
  have d0 := cell_of (i := 0) hb.blk rfl
  have d1 := cell_of (i := 1) hb.blk rfl
  go_enter Try.func12, Try.ntmps12
  go_wp2_with fail
  refine (take_someS hb.first).mono ?_
  rintro e w1 ⟨rfl, q, h⟩
  go_wp2_with fail
  go_ret2
  exact ⟨rfl, q.weaken (by simp), hb.set_first q h (by have := hb.l1; simp at this; omega)⟩
theorem btake_otherS {w : World} {T : TypeId} {bb c1 c2 n1 n2 : Nat} {ys : List Value} {y : Value} (hb : Bx w T bb c1 c2 n1 n2 [] (y :: ys)) :
    Calls Try.prog 12 #[.pointer (some ⟨bb, 0, none⟩)] w fun e w' => e = .returned (.tuple #[y, .bool true]) ∧ Step [c1, c2] w w' ∧ Bx w' T bb c1 c2 n1 n2 [] ys := by
  have d0 := cell_of (i := 0) hb.blk rfl
  have d1 := cell_of (i := 1) hb.blk rfl
  go_enter Try.func12, Try.ntmps12
  go_wp2_with fail
  refine (take_noneS hb.first).mono ?_
  rintro e w1 ⟨rfl, rfl⟩
  go_wp2_with fail
  refine (take_someS hb.second).mono ?_
  rintro e w1 ⟨rfl, q, h⟩
  go_wp2_with fail
  go_ret2
  exact ⟨rfl, q.weaken (by simp), hb.set_second q h (by have := hb.l2; simp at this; omega)⟩
theorem btake_noneS {w : World} {T : TypeId} {bb c1 c2 n1 n2 : Nat}  (hb : Bx w T bb c1 c2 n1 n2 [] []) :
    Calls Try.prog 12 #[.pointer (some ⟨bb, 0, none⟩)] w fun e w' => e = .returned (.tuple #[.string ⟨#[]⟩, .bool false]) ∧ Step [c1, c2] w w' ∧ Bx w' T bb c1 c2 n1 n2 [] [] := by
  have d0 := cell_of (i := 0) hb.blk rfl
  have d1 := cell_of (i := 1) hb.blk rfl
  go_enter Try.func12, Try.ntmps12
  go_wp2_with fail
  refine (take_noneS hb.first).mono ?_
  rintro e w1 ⟨rfl, rfl⟩
  go_wp2_with fail
  refine (take_noneS hb.second).mono ?_
  rintro e w1 ⟨rfl, rfl⟩
  go_wp2_with fail
  go_ret2
  exact ⟨rfl, Step.refl _ _, hb⟩
end Go.Proofs.Ytcmihfanlconhab
