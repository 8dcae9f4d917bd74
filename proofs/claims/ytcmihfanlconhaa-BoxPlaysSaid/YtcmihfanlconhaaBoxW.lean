/- A box and two rows of the law's own, side by side. Conditions: sizes. -/
import Derived.Test.YtcmihfanlconhaaBoxG
namespace Go.Proofs.Ytcmihfanlconhaa
open Go.RowKit Go.Conc
/-- The box holds X, Y; the law's rows hold P, Q; all of it is newer than w. -/
structure BW (w wr : World) (T : TypeId) (bb c1 c2 n1 n2 : Nat) (X Y P Q : List Value) (ap : Option Addr) (cp : Nat) (Bp : Option Nat) (aq : Option Addr) (cq : Nat) (Bq : Option Nat) : Prop where
  s : Step [] w wr
  b : Bx wr T bb c1 c2 n1 n2 X Y
  f : w.heap.size ≤ bb ∧ w.heap.size ≤ c1 ∧ w.heap.size ≤ c2
  p : Sl wr 1 (.slice ap P.length cp) P.length P Bp
  q : Sl wr 1 (.slice aq Q.length cq) Q.length Q Bq
  np : ∀ g, Bp = some g → w.heap.size ≤ g
  nq : ∀ g, Bq = some g → w.heap.size ≤ g
  dp : ∀ g, Bp = some g → g ≠ bb ∧ g ≠ c1 ∧ g ≠ c2
  dq : ∀ g, Bq = some g → g ≠ bb ∧ g ≠ c1 ∧ g ≠ c2
  d : ∀ g, Bp = some g → Bq ≠ some g
theorem toList_mem {B : Option Nat} {x : Nat} (h : x ∈ B.toList) : B = some x := by
  cases B with
  | none => simp at h
  | some g => simp at h; rw [h]
theorem BW.start {w w0 wr : World} {T : TypeId} {bb c1 c2 n1 n2 : Nat} {X Y : List Value} (s0 : Step [] w w0) (s : Step [] w0 wr) (b : Bx wr T bb c1 c2 n1 n2 X Y) (f0 : w0.heap.size ≤ bb) (f1 : w0.heap.size ≤ c1) (f2 : w0.heap.size ≤ c2) :
    BW w wr T bb c1 c2 n1 n2 X Y [] [] none 0 none none 0 none := by
  have := s0.size
  exact ⟨s0.trans s, b, ⟨by omega, by omega, by omega⟩, Sl.nil _ _, Sl.nil _ _, by simp, by simp, by simp, by simp, by simp⟩
theorem BW.box {w wr w' : World} {T : TypeId} {bb c1 c2 n1 n2 : Nat} {X Y P Q X' Y' : List Value} {ap : Option Addr} {cp : Nat} {Bp : Option Nat} {aq : Option Addr} {cq : Nat} {Bq : Option Nat} (h : BW w wr T bb c1 c2 n1 n2 X Y P Q ap cp Bp aq cq Bq)
    (q : Step [c1, c2] wr w') (b : Bx w' T bb c1 c2 n1 n2 X' Y') : BW w w' T bb c1 c2 n1 n2 X' Y' P Q ap cp Bp aq cq Bq := by
  have f := h.f
  refine ⟨h.s.grow q (by simp; omega), b, f, h.p.step q (fun g hg => ?_), h.q.step q (fun g hg => ?_), h.np, h.nq, h.dp, h.dq, h.d⟩
  · have := h.dp g hg; simp; omega
  · have := h.dq g hg; simp; omega
theorem BW.quiet {w wr w' : World} {T : TypeId} {bb c1 c2 n1 n2 : Nat} {X Y P Q : List Value} {ap : Option Addr} {cp : Nat} {Bp : Option Nat} {aq : Option Addr} {cq : Nat} {Bq : Option Nat} (h : BW w wr T bb c1 c2 n1 n2 X Y P Q ap cp Bp aq cq Bq)
    (q : Step [] wr w') : BW w w' T bb c1 c2 n1 n2 X Y P Q ap cp Bp aq cq Bq :=
  h.box (q.weaken (by simp)) (h.b.step q (by simp) (by simp) (by simp))
theorem BW.setP {w wr w' : World} {T : TypeId} {bb c1 c2 n1 n2 : Nat} {X Y P Q P' : List Value} {ap ap' : Option Addr} {cp cp' : Nat} {Bp B' : Option Nat} {aq : Option Addr} {cq : Nat} {Bq : Option Nat} (h : BW w wr T bb c1 c2 n1 n2 X Y P Q ap cp Bp aq cq Bq)
    (hs : Sl w' 1 (.slice ap' P'.length cp') P'.length P' B') (q : Step Bp.toList wr w') (n : B' = Bp ∨ ∃ b, B' = some b ∧ wr.heap.size ≤ b) : BW w w' T bb c1 c2 n1 n2 X Y P' Q ap' cp' B' aq cq Bq := by
  have lt := h.b.lt
  have lq := h.q.lt
  have sz := h.s.size
  refine ⟨h.s.grow q (fun x hx => h.np x (toList_mem hx)), h.b.step q ?_ ?_ ?_, h.f, hs, h.q.step q (fun g hg hx => h.d g (toList_mem hx) hg), ?_, h.nq, ?_, h.dq, ?_⟩
  · intro hx; exact (h.dp _ (toList_mem hx)).1 rfl
  · intro hx; exact (h.dp _ (toList_mem hx)).2.1 rfl
  · intro hx; exact (h.dp _ (toList_mem hx)).2.2 rfl
  · intro g hg
    rcases n with rfl | ⟨b, rfl, hb⟩
    · exact h.np g hg
    · cases hg; omega
  · intro g hg
    rcases n with rfl | ⟨b, rfl, hb⟩
    · exact h.dp g hg
    · cases hg; omega
  · intro g hg
    rcases n with rfl | ⟨b, rfl, hb⟩
    · exact h.d g hg
    · cases hg
      intro hq
      have := lq _ hq
      omega
theorem BW.swap {w wr : World} {T : TypeId} {bb c1 c2 n1 n2 : Nat} {X Y P Q : List Value} {ap : Option Addr} {cp : Nat} {Bp : Option Nat} {aq : Option Addr} {cq : Nat} {Bq : Option Nat} (h : BW w wr T bb c1 c2 n1 n2 X Y P Q ap cp Bp aq cq Bq) : BW w wr T bb c1 c2 n1 n2 X Y Q P aq cq Bq ap cp Bp :=
  ⟨h.s, h.b, h.f, h.q, h.p, h.nq, h.np, h.dq, h.dp, fun g hg hp => h.d g hp hg⟩
theorem BW.setQ {w wr w' : World} {T : TypeId} {bb c1 c2 n1 n2 : Nat} {X Y P Q Q' : List Value} {ap : Option Addr} {cp : Nat} {Bp B' : Option Nat} {aq aq' : Option Addr} {cq cq' : Nat} {Bq : Option Nat} (h : BW w wr T bb c1 c2 n1 n2 X Y P Q ap cp Bp aq cq Bq)
    (hs : Sl w' 1 (.slice aq' Q'.length cq') Q'.length Q' B') (q : Step Bq.toList wr w') (n : B' = Bq ∨ ∃ b, B' = some b ∧ wr.heap.size ≤ b) : BW w w' T bb c1 c2 n1 n2 X Y P Q' ap cp Bp aq' cq' B' := (h.swap.setP hs q n).swap
theorem BW.lenP {w wr : World} {T : TypeId} {bb c1 c2 n1 n2 : Nat} {X Y P Q : List Value} {ap : Option Addr} {cp : Nat} {Bp : Option Nat} {aq : Option Addr} {cq : Nat} {Bq : Option Nat} (h : BW w wr T bb c1 c2 n1 n2 X Y P Q ap cp Bp aq cq Bq) : P.length ≤ maxLen ∧ Q.length ≤ maxLen := ⟨h.p.le, h.q.le⟩
/-- What 'append' of one made, the one laid ahead of it. -/
theorem BW.appP {w wr w' : World} {T : TypeId} {bb c1 c2 n1 n2 : Nat} {X Y P Q : List Value} {x v : Value} {o : Obj} {ap : Option Addr} {cp : Nat} {Bp B' : Option Nat} {aq : Option Addr} {cq : Nat} {Bq : Option Nat} (h : BW w wr T bb c1 c2 n1 n2 X Y P Q ap cp Bp aq cq Bq)
    (hs : Sl w' 1 v (P.length + 1) (P ++ [x]) B') (q : Step Bp.toList (wr.alloc o) w') (n : B' = Bp ∨ ∃ b, B' = some b ∧ (wr.alloc o).heap.size ≤ b) :
    ∃ ap' lp' cp', v = .slice ap' lp' cp' ∧ lp' = (P ++ [x]).length ∧ BW w w' T bb c1 c2 n1 n2 X Y (P ++ [x]) Q ap' cp' B' aq cq Bq := by
  obtain ⟨ao, c, rfl⟩ := hs.form
  have e : P.length + 1 = (P ++ [x]).length := by simp
  refine ⟨ao, _, c, rfl, e, h.setP (by rw [← e]; exact hs) (((Step.refl _ wr).alloc o).trans q) ?_⟩
  rcases n with n | ⟨b, hb, hg⟩
  · exact .inl n
  · exact .inr ⟨b, hb, by simp at hg; omega⟩
theorem BW.appQ {w wr w' : World} {T : TypeId} {bb c1 c2 n1 n2 : Nat} {X Y P Q : List Value} {x v : Value} {o : Obj} {ap : Option Addr} {cp : Nat} {Bp B' : Option Nat} {aq : Option Addr} {cq : Nat} {Bq : Option Nat} (h : BW w wr T bb c1 c2 n1 n2 X Y P Q ap cp Bp aq cq Bq)
    (hs : Sl w' 1 v (Q.length + 1) (Q ++ [x]) B') (q : Step Bq.toList (wr.alloc o) w') (n : B' = Bq ∨ ∃ b, B' = some b ∧ (wr.alloc o).heap.size ≤ b) :
    ∃ aq' lq' cq', v = .slice aq' lq' cq' ∧ lq' = (Q ++ [x]).length ∧ BW w w' T bb c1 c2 n1 n2 X Y P (Q ++ [x]) ap cp Bp aq' cq' B' := by
  obtain ⟨a, l, c, h1, h2, h3⟩ := h.swap.appP hs q n
  exact ⟨a, l, c, h1, h2, h3.swap⟩
/-- The box holds X, Y; a third row, newer than w, holds O. -/
structure BO (w wr : World) (T : TypeId) (bb c1 c2 n1 n2 : Nat) (X Y O : List Value) (ao : Option Addr) (co : Nat) (Bo : Option Nat) : Prop where
  s : Step [c1, c2] w wr
  b : Bx wr T bb c1 c2 n1 n2 X Y
  o : Sl wr 1 (.slice ao O.length co) O.length O Bo
  n : ∀ g, Bo = some g → w.heap.size ≤ g
theorem BO.box {w wr w' : World} {T : TypeId} {bb c1 c2 n1 n2 : Nat} {X Y O X' Y' : List Value} {ao : Option Addr} {co : Nat} {Bo : Option Nat} (h : BO w wr T bb c1 c2 n1 n2 X Y O ao co Bo) (lt : bb < w.heap.size ∧ c1 < w.heap.size ∧ c2 < w.heap.size)
    (q : Step [c1, c2] wr w') (b : Bx w' T bb c1 c2 n1 n2 X' Y') : BO w w' T bb c1 c2 n1 n2 X' Y' O ao co Bo :=
  ⟨h.s.trans q, b, h.o.step q (fresh_not2 h.n lt.2.1 lt.2.2), h.n⟩
theorem BO.app {w wr w' : World} {T : TypeId} {bb c1 c2 n1 n2 : Nat} {X Y O : List Value} {x v : Value} {o : Obj} {ao : Option Addr} {co : Nat} {Bo B' : Option Nat} (h : BO w wr T bb c1 c2 n1 n2 X Y O ao co Bo) (lt : bb < w.heap.size ∧ c1 < w.heap.size ∧ c2 < w.heap.size)
    (hs : Sl w' 1 v (O.length + 1) (O ++ [x]) B') (q : Step Bo.toList (wr.alloc o) w') (n : B' = Bo ∨ ∃ b, B' = some b ∧ (wr.alloc o).heap.size ≤ b) :
    ∃ ao' lo' co', v = .slice ao' lo' co' ∧ BO w w' T bb c1 c2 n1 n2 X Y (O ++ [x]) ao' co' B' := by
  obtain ⟨a, c, rfl⟩ := hs.form
  have e : O.length + 1 = (O ++ [x]).length := by simp
  have q' : Step Bo.toList wr w' := ((Step.refl _ wr).alloc o).trans q
  have sz := h.s.size
  have a1 : Step ([c1, c2] ++ Bo.toList) w w' := (h.s.weaken (fun x hx => List.mem_append_left _ hx)).trans (q'.weaken (fun x hx => List.mem_append_right _ hx))
  refine ⟨a, _, c, rfl, a1.fresh (fun x hx => ?_), h.b.step q' (fresh_notin h.n lt.1) (fresh_notin h.n lt.2.1) (fresh_notin h.n lt.2.2), by rw [← e]; exact hs, ?_⟩
  · rcases List.mem_append.1 hx with hx | hx
    · exact .inl hx
    · exact .inr (h.n _ (toList_mem hx))
  · intro g hg
    rcases n with rfl | ⟨b, rfl, hb⟩
    · exact h.n g hg
    · cases hg; simp at hb; omega
end Go.Proofs.Ytcmihfanlconhaa
