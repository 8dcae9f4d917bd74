/- The box: whole numbers, put and take. Conditions: none. -/
import Derived.Test.YtcmihfanlconhaaBoxB
namespace Go.Proofs.Ytcmihfanlconhaa
open Go.RowKit Go.Conc
/-- A box: two rows, their rooms. -/
structure Bx (w : World) (T : TypeId) (bb c1 c2 n1 n2 : Nat) (X Y : List Value) : Prop where
  blk : w.heap[bb]? = some (.cells #[.chan (some c1), .chan (some c2)] T (0, 0))
  first : Ch w c1 n1 X
  second : Ch w c2 n2 Y
  ne : c1 ≠ c2
  l1 : X.length ≤ n1
  l2 : Y.length ≤ n2
theorem Bx.b1 {w : World} {T : TypeId} {bb c1 c2 n1 n2 : Nat} {X Y : List Value} (h : Bx w T bb c1 c2 n1 n2 X Y) : bb ≠ c1 := by
  rintro rfl
  obtain ⟨s, r, hh⟩ := h.first
  rw [h.blk] at hh
  cases hh
theorem Bx.b2 {w : World} {T : TypeId} {bb c1 c2 n1 n2 : Nat} {X Y : List Value} (h : Bx w T bb c1 c2 n1 n2 X Y) : bb ≠ c2 := by
  rintro rfl
  obtain ⟨s, r, hh⟩ := h.second
  rw [h.blk] at hh
  cases hh
theorem Bx.set_first {w w' : World} {T : TypeId} {bb c1 c2 n1 n2 : Nat} {X Y X' : List Value} (h : Bx w T bb c1 c2 n1 n2 X Y) (q : Step [c1] w w') (hc : Ch w' c1 n1 X') (hl : X'.length ≤ n1) : Bx w' T bb c1 c2 n1 n2 X' Y :=
  ⟨q.heap h.blk (by simpa using h.b1), hc, h.second.step q (by simpa using h.ne.symm), h.ne, hl, h.l2⟩
theorem Bx.set_second {w w' : World} {T : TypeId} {bb c1 c2 n1 n2 : Nat} {X Y Y' : List Value} (h : Bx w T bb c1 c2 n1 n2 X Y) (q : Step [c2] w w') (hc : Ch w' c2 n2 Y') (hl : Y'.length ≤ n2) : Bx w' T bb c1 c2 n1 n2 X Y' :=
  ⟨q.heap h.blk (by simpa using h.b2), h.first.step q (by simpa using h.ne), hc, h.ne, h.l1, hl⟩
theorem Bx.step {w w' : World} {T : TypeId} {bb c1 c2 n1 n2 : Nat} {X Y : List Value} {m : List Nat} (h : Bx w T bb c1 c2 n1 n2 X Y) (q : Step m w w') (hb : bb ∉ m) (h1 : c1 ∉ m) (h2 : c2 ∉ m) : Bx w' T bb c1 c2 n1 n2 X Y :=
  ⟨q.heap h.blk hb, h.first.step q h1, h.second.step q h2, h.ne, h.l1, h.l2⟩
theorem Bx.lt {w : World} {T : TypeId} {bb c1 c2 n1 n2 : Nat} {X Y : List Value} (h : Bx w T bb c1 c2 n1 n2 X Y) : bb < w.heap.size ∧ c1 < w.heap.size ∧ c2 < w.heap.size := ⟨lt_size h.blk, h.first.lt, h.second.lt⟩
theorem Bx.drew {w : World} {T : TypeId} {bb c1 c2 n1 n2 : Nat} {X Y : List Value} (h : Bx w T bb c1 c2 n1 n2 X Y) : Bx w.drew T bb c1 c2 n1 n2 X Y := ⟨h.blk, h.first, h.second, h.ne, h.l1, h.l2⟩
theorem bput_first_okI {w : World} {T : TypeId} {bb c1 c2 n1 n2 : Nat} {X Y : List Value} (hb : Bx w T bb c1 c2 n1 n2 X Y) (x : Value) (hc : X.length < n1) :
    Calls Try.prog 34 #[.pointer (some ⟨bb, 0, none⟩), x, .bool true] w fun e w' => e = .returned (.int .i64 0) ∧ Step [c1, c2] w w' ∧ Bx w' T bb c1 c2 n1 n2 (X ++ [x]) Y := by
  have d0 := cell_of (i := 0) hb.blk rfl
  have d1 := cell_of (i := 1) hb.blk rfl
  go_enter Try.func34, Try.ntmps34
  go_wp2_with fail
  refine (put_roomI hb.first x hc).mono ?_
  rintro e w1 ⟨rfl, q, h⟩
  go_wp2_with fail
  go_ret
  exact ⟨rfl, q.weaken (by simp), hb.set_first q h (by simp; omega)⟩
theorem bput_first_noI {w : World} {T : TypeId} {bb c1 c2 n1 n2 : Nat} {X Y : List Value} (hb : Bx w T bb c1 c2 n1 n2 X Y) (x : Value) (hc : n1 ≤ X.length) :
    Calls Try.prog 34 #[.pointer (some ⟨bb, 0, none⟩), x, .bool true] w fun e w' => e = .returned (.int .i64 6) ∧ Step [c1, c2] w w' ∧ Bx w' T bb c1 c2 n1 n2 X Y := by
  have d0 := cell_of (i := 0) hb.blk rfl
  have d1 := cell_of (i := 1) hb.blk rfl
  go_enter Try.func34, Try.ntmps34
  go_wp2_with fail
  refine (put_fullI hb.first x hc).mono ?_
  rintro e w1 ⟨rfl, rfl⟩
  go_wp2_with fail
  go_ret
  exact ⟨rfl, Step.refl _ _, hb⟩
theorem bput_other_okI {w : World} {T : TypeId} {bb c1 c2 n1 n2 : Nat} {X Y : List Value} (hb : Bx w T bb c1 c2 n1 n2 X Y) (x : Value) (hc : Y.length < n2) :
    Calls Try.prog 34 #[.pointer (some ⟨bb, 0, none⟩), x, .bool false] w fun e w' => e = .returned (.int .i64 0) ∧ Step [c1, c2] w w' ∧ Bx w' T bb c1 c2 n1 n2 X (Y ++ [x]) := by
  have d0 := cell_of (i := 0) hb.blk rfl
  have d1 := cell_of (i := 1) hb.blk rfl
  go_enter Try.func34, Try.ntmps34
  go_wp2_with fail
  refine (put_roomI hb.second x hc).mono ?_
  rintro e w1 ⟨rfl, q, h⟩
  go_wp2_with fail
  go_ret
  exact ⟨rfl, q.weaken (by simp), hb.set_second q h (by simp; omega)⟩
theorem bput_other_noI {w : World} {T : TypeId} {bb c1 c2 n1 n2 : Nat} {X Y : List Value} (hb : Bx w T bb c1 c2 n1 n2 X Y) (x : Value) (hc : n2 ≤ Y.length) :
    Calls Try.prog 34 #[.pointer (some ⟨bb, 0, none⟩), x, .bool false] w fun e w' => e = .returned (.int .i64 6) ∧ Step [c1, c2] w w' ∧ Bx w' T bb c1 c2 n1 n2 X Y := by
  have d0 := cell_of (i := 0) hb.blk rfl
  have d1 := cell_of (i := 1) hb.blk rfl
  go_enter Try.func34, Try.ntmps34
  go_wp2_with fail
  refine (put_fullI hb.second x hc).mono ?_
  rintro e w1 ⟨rfl, rfl⟩
  go_wp2_with fail
  go_ret
  exact ⟨rfl, Step.refl _ _, hb⟩
theorem btake_firstI {w : World} {T : TypeId} {bb c1 c2 n1 n2 : Nat} {Y ys : List Value} {y : Value} (hb : Bx w T bb c1 c2 n1 n2 (y :: ys) Y) :
    Calls Try.prog 35 #[.pointer (some ⟨bb, 0, none⟩)] w fun e w' => e = .returned (.tuple #[y, .bool true]) ∧ Step [c1, c2] w w' ∧ Bx w' T bb c1 c2 n1 n2 ys Y := by
  have d0 := cell_of (i := 0) hb.blk rfl
  have d1 := cell_of (i := 1) hb.blk rfl
  go_enter Try.func35, Try.ntmps35
  go_wp2_with fail
  refine (take_someI hb.first).mono ?_
  rintro e w1 ⟨rfl, q, h⟩
  go_wp2_with fail
  go_ret2
  exact ⟨rfl, q.weaken (by simp), hb.set_first q h (by have := hb.l1; simp at this; omega)⟩
theorem btake_otherI {w : World} {T : TypeId} {bb c1 c2 n1 n2 : Nat} {ys : List Value} {y : Value} (hb : Bx w T bb c1 c2 n1 n2 [] (y :: ys)) :
    Calls Try.prog 35 #[.pointer (some ⟨bb, 0, none⟩)] w fun e w' => e = .returned (.tuple #[y, .bool true]) ∧ Step [c1, c2] w w' ∧ Bx w' T bb c1 c2 n1 n2 [] ys := by
  have d0 := cell_of (i := 0) hb.blk rfl
  have d1 := cell_of (i := 1) hb.blk rfl
  go_enter Try.func35, Try.ntmps35
  go_wp2_with fail
  refine (take_noneI hb.first).mono ?_
  rintro e w1 ⟨rfl, rfl⟩
  go_wp2_with fail
  refine (take_someI hb.second).mono ?_
  rintro e w1 ⟨rfl, q, h⟩
  go_wp2_with fail
  go_ret2
  exact ⟨rfl, q.weaken (by simp), hb.set_second q h (by have := hb.l2; simp at this; omega)⟩
theorem btake_noneI {w : World} {T : TypeId} {bb c1 c2 n1 n2 : Nat}  (hb : Bx w T bb c1 c2 n1 n2 [] []) :
    Calls Try.prog 35 #[.pointer (some ⟨bb, 0, none⟩)] w fun e w' => e = .returned (.tuple #[.int .i64 0, .bool false]) ∧ Step [c1, c2] w w' ∧ Bx w' T bb c1 c2 n1 n2 [] [] := by
  have d0 := cell_of (i := 0) hb.blk rfl
  have d1 := cell_of (i := 1) hb.blk rfl
  go_enter Try.func35, Try.ntmps35
  go_wp2_with fail
  refine (take_noneI hb.first).mono ?_
  rintro e w1 ⟨rfl, rfl⟩
  go_wp2_with fail
  refine (take_noneI hb.second).mono ?_
  rintro e w1 ⟨rfl, rfl⟩
  go_wp2_with fail
  go_ret2
  exact ⟨rfl, Step.refl _ _, hb⟩
end Go.Proofs.Ytcmihfanlconhaa
