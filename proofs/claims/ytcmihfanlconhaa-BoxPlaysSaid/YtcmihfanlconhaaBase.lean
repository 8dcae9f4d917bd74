/- Frames of worlds: what a step leaves as it was. Conditions: none. -/
import Derived.WalkKit
import Derived.Below
import Derived.Deep.Quiet
import Derived.Laws.NewBlocks
namespace Go.Proofs.Ytcmihfanlconhaa
open Go.RowKit

/-- A walk stands still here: 'refine Stopped.at ?_' in an arm; 'refine Stopped.on ?_' behind it. -/
def Stopped (p : Prop) : Prop := p
theorem Stopped.at {p : Prop} (h : Stopped p) : p := h
theorem Stopped.on {p : Prop} (h : p) : Stopped p := h

/-- 'w'' is 'w' with new blocks, and with the blocks of 'm' changed. -/
structure Step (m : List Nat) (w w' : World) : Prop where
  os : w'.os = w.os
  tape : w'.tape = w.tape
  output : w'.output = w.output
  size : w.heap.size ≤ w'.heap.size
  block : ∀ k, k < w.heap.size → k ∉ m → w'.heap[k]? = w.heap[k]?

theorem Step.refl (m : List Nat) (w : World) : Step m w w := ⟨rfl, rfl, rfl, Nat.le_refl _, fun _ _ _ => rfl⟩
theorem Step.trans {m : List Nat} {a b c : World} (h : Step m a b) (k : Step m b c) : Step m a c :=
  ⟨k.os.trans h.os, k.tape.trans h.tape, k.output.trans h.output, Nat.le_trans h.size k.size,
   fun i hi hn => (k.block i (Nat.lt_of_lt_of_le hi h.size) hn).trans (h.block i hi hn)⟩
theorem Step.weaken {m m' : List Nat} {a b : World} (h : Step m a b) (hs : ∀ x ∈ m, x ∈ m') : Step m' a b :=
  ⟨h.os, h.tape, h.output, h.size, fun i hi hn => h.block i hi (fun hx => hn (hs i hx))⟩
/-- Blocks that are new do not count. -/
theorem Step.fresh {m m' : List Nat} {a b : World} (h : Step m a b) (hs : ∀ x ∈ m, x ∈ m' ∨ a.heap.size ≤ x) : Step m' a b :=
  ⟨h.os, h.tape, h.output, h.size, fun i hi hn => h.block i hi (fun hx => (hs i hx).elim hn (by omega))⟩
/-- What came behind 'w' may change. -/
theorem Step.grow {m : List Nat} {w a b : World} (h : Step [] w a) (k : Step m a b) (hm : ∀ x ∈ m, w.heap.size ≤ x) : Step [] w b :=
  ((h.weaken (by simp)).trans k).fresh (fun x hx => .inr (hm x hx))
theorem Step.drew {m : List Nat} {a w : World} (h : Step m a w) : Step m a w.drew := ⟨h.os, h.tape, h.output, h.size, h.block⟩
theorem Step.drewN {m : List Nat} {a w : World} (h : Step m a w) (n : Nat) : Step m a (w.drewN n) := ⟨h.os, h.tape, h.output, h.size, h.block⟩
theorem Step.drew_left {m : List Nat} {a w : World} (h : Step m a.drew w) : Step m a w := ⟨h.os, h.tape, h.output, h.size, h.block⟩
theorem Step.drewN_left {m : List Nat} {a w : World} {n : Nat} (h : Step m (a.drewN n) w) : Step m a w := ⟨h.os, h.tape, h.output, h.size, h.block⟩
theorem Step.alloc {m : List Nat} {a w : World} (h : Step m a w) (o : Obj) : Step m a (w.alloc o) :=
  h.trans ⟨rfl, rfl, rfl, by simp, fun k hk _ => Below.heap_alloc _ _ _ hk⟩
theorem Step.setCell {m : List Nat} {a w : World} (h : Step m a w) (p : Addr) (hp : p.block ∈ m ∨ a.heap.size ≤ p.block) (u : Value) : Step m a (w.setCell p u) := by
  refine ⟨h.os, h.tape, h.output, by simpa [World.setCell] using h.size, fun k hk hn => ?_⟩
  rw [Below.heap_setCell _ _ _ _ (fun e => by subst e; exact hp.elim hn (by omega))]
  exact h.block k hk hn
theorem Step.below {m : List Nat} {a w : World} {B : Nat} (h : Step m a w) (hB : B ≤ a.heap.size) (hm : ∀ x ∈ m, B ≤ x) : Below B a w :=
  ⟨h.os, h.tape, h.output, h.size, fun k hk => h.block k (by omega) (fun hx => by have := hm k hx; omega)⟩
theorem Step.heap {m : List Nat} {a w : World} (h : Step m a w) {k : Nat} {o : Obj} (hk : a.heap[k]? = some o) (hn : k ∉ m) : w.heap[k]? = some o := by
  rw [h.block k (by exact (Array.getElem?_eq_some_iff.1 hk).1) hn]; exact hk
theorem Step.cell {m : List Nat} {a w : World} (h : Step m a w) {p : Addr} {v : Value} (hk : a.cell? p = some v) (hn : p.block ∉ m) : w.cell? p = some v := by
  have hb : p.block < a.heap.size := World.block_lt_of_cell? a p hk
  have := h.block p.block hb hn
  unfold World.cell? at hk ⊢
  rw [this]; exact hk

theorem cell_of {w : World} {b i : Nat} {vs : Array Value} {T : TypeId} {f : Nat × Nat} {v : Value} (h : w.heap[b]? = some (.cells vs T f)) (hi : vs[i]? = some v) : w.cell? ⟨b, i, none⟩ = some v := by
  simp [World.cell?, h, hi]
theorem free_of {w : World} {b i : Nat} {vs : Array Value} {T : TypeId} (h : w.heap[b]? = some (.cells vs T (0, 0))) : w.frozen? ⟨b, i, none⟩ = false := by
  simp [World.frozen?, h]
theorem heap_new (w : World) (o : Obj) : (w.alloc o).heap[w.heap.size]? = some o := (MapKept.heap_alloc w o).1
theorem heap_set {w : World} {b i : Nat} {vs : Array Value} {T : TypeId} {f : Nat × Nat} (v : Value) (h : w.heap[b]? = some (.cells vs T f)) :
    (w.setCell ⟨b, i, none⟩ v).heap[b]? = some (.cells (vs.setIfInBounds i v) T f) := by
  simp [World.setCell, Array.getElem?_modify, h]
theorem lt_size {w : World} {b : Nat} {o : Obj} (h : w.heap[b]? = some o) : b < w.heap.size := (Array.getElem?_eq_some_iff.1 h).1
end Go.Proofs.Ytcmihfanlconhaa
