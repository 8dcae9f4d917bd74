/- A box and two rows: emptied, their first gone, the twin in the box's place. Conditions: sizes. -/
import Derived.Test.YtcmihfanlconhaaBoxW
namespace Go.Proofs.Ytcmihfanlconhaa
open Go.RowKit Go.Conc
theorem BW.nil {w wr : World} {T : TypeId} {bb c1 c2 n1 n2 : Nat} {X Y P Q : List Value} {ap : Option Addr} {cp : Nat} {Bp : Option Nat} {aq : Option Addr} {cq : Nat} {Bq : Option Nat} (h : BW w wr T bb c1 c2 n1 n2 X Y P Q ap cp Bp aq cq Bq) :
    BW w wr T bb c1 c2 n1 n2 X Y [] [] none 0 none none 0 none :=
  ⟨h.s, h.b, h.f, Sl.nil _ _, Sl.nil _ _, by simp, by simp, by simp, by simp, by simp⟩
theorem BW.twin {w wr w' : World} {T : TypeId} {bb c1 c2 n1 n2 bt d1 d2 : Nat} {X Y X' Y' P Q : List Value} {ap : Option Addr} {cp : Nat} {Bp : Option Nat} {aq : Option Addr} {cq : Nat} {Bq : Option Nat} (h : BW w wr T bb c1 c2 n1 n2 X Y P Q ap cp Bp aq cq Bq)
    (q : Step [c1, c2] wr w') (b : Bx w' T bt d1 d2 n1 n2 X' Y') (f0 : wr.heap.size ≤ bt) (f1 : wr.heap.size ≤ d1) (f2 : wr.heap.size ≤ d2) : BW w w' T bt d1 d2 n1 n2 X' Y' P Q ap cp Bp aq cq Bq := by
  have f := h.f
  have sz := h.s.size
  have lp := h.p.lt
  have lq := h.q.lt
  refine ⟨h.s.grow q (by simp; omega), b, ⟨by omega, by omega, by omega⟩, h.p.step q (fun g hg => ?_), h.q.step q (fun g hg => ?_), h.np, h.nq, fun g hg => ?_, fun g hg => ?_, h.d⟩
  · have := h.dp g hg; simp; omega
  · have := h.dq g hg; simp; omega
  · have := lp g hg; omega
  · have := lq g hg; omega
theorem Ints.snoc {X : List Value} (h : Ints X) (z : Int) : Ints (X ++ [.int .i64 z]) := by
  intro x hx
  rcases List.mem_append.1 hx with hx | hx
  · exact h x hx
  · simp at hx; exact ⟨z, hx⟩
theorem Ints.app {X Y : List Value} (h : Ints X) (k : Ints Y) : Ints (X ++ Y) := fun x hx => (List.mem_append.1 hx).elim (h x) (k x)
theorem Ints.tail {x : Value} {X : List Value} (h : Ints (x :: X)) : Ints X := fun y hy => h y (List.mem_cons_of_mem _ hy)
theorem Ints.nil : Ints [] := fun x hx => by cases hx
theorem bput_any {w : World} {T : TypeId} {bb c1 c2 n1 n2 : Nat} {X Y : List Value} (hb : Bx w T bb c1 c2 n1 n2 X Y) (x : Value) :
    Calls Try.prog 34 #[.pointer (some ⟨bb, 0, none⟩), x, .bool true] w fun e w' => ∃ v X', e = .returned (.int .i64 v) ∧ Step [c1, c2] w w' ∧ Bx w' T bb c1 c2 n1 n2 X' Y := by
  by_cases h : X.length < n1
  · exact (bput_first_okI hb x h).mono fun e w' ⟨h1, h2, h3⟩ => ⟨_, _, h1, h2, h3⟩
  · exact (bput_first_noI hb x (by omega)).mono fun e w' ⟨h1, h2, h3⟩ => ⟨_, _, h1, h2, h3⟩
theorem btake_any {w : World} {T : TypeId} {bb c1 c2 n1 n2 : Nat} {X Y : List Value} (hb : Bx w T bb c1 c2 n1 n2 X Y) :
    Calls Try.prog 35 #[.pointer (some ⟨bb, 0, none⟩)] w fun e w' => ∃ v o X' Y', e = .returned (.tuple #[v, .bool o]) ∧ Step [c1, c2] w w' ∧ Bx w' T bb c1 c2 n1 n2 X' Y' := by
  cases X with
  | cons x X => exact (btake_firstI hb).mono fun e w' ⟨h1, h2, h3⟩ => ⟨_, _, _, _, h1, h2, h3⟩
  | nil =>
    cases Y with
    | cons y Y => exact (btake_otherI hb).mono fun e w' ⟨h1, h2, h3⟩ => ⟨_, _, _, _, h1, h2, h3⟩
    | nil => exact (btake_noneI hb).mono fun e w' ⟨h1, h2, h3⟩ => ⟨_, _, _, _, h1, h2, h3⟩
end Go.Proofs.Ytcmihfanlconhaa
