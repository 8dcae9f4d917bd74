/- Arrays as blocks: a load, a store of a whole row. Conditions: none. -/
import Derived.Test.YtcmihfanlconhabHash
import Derived.Deep.MidRow
namespace Go.Proofs.Ytcmihfanlconhab
open Go.RowKit
section
variable {P : Program}
theorem Stopped.load (t : TypeId) {w : World} {ops : Array Oper} {rest : List Oper} {o : Oper} {a : Act} {Q : Exit → Act → World → Prop} {x : Operand} (_ : o.op = .load t x)
    (h : Stopped (wpList P ops Q (o :: rest) a w)) : wpList P ops Q (o :: rest) a w := h
theorem Stopped.store (t : TypeId) {w : World} {ops : Array Oper} {rest : List Oper} {o : Oper} {a : Act} {Q : Exit → Act → World → Prop} {x y : Operand} (_ : o.op = .store t x y)
    (h : Stopped (wpList P ops Q (o :: rest) a w)) : wpList P ops Q (o :: rest) a w := h
/-- Block b is just this row. -/
def Row (w : World) (b : Nat) (xs : List Value) : Prop := ∃ T, w.heap[b]? = some (.cells xs.toArray T (0, 0))
theorem Row.step {w w' : World} {b : Nat} {xs : List Value} {m : List Nat} (h : Row w b xs) (s : Step m w w') (hb : b ∉ m) : Row w' b xs := by
  obtain ⟨T, h⟩ := h
  exact ⟨T, s.heap h hb⟩
theorem Row.drew {w : World} {b : Nat} {xs : List Value} (h : Row w b xs) : Row w.drew b xs := h
theorem Row.lt {w : World} {b : Nat} {xs : List Value} (h : Row w b xs) : b < w.heap.size := by obtain ⟨T, h⟩ := h; exact lt_size h
theorem Row.cell {w : World} {b : Nat} {xs : List Value} (h : Row w b xs) {i : Nat} {v : Value} (hv : xs[i]? = some v) : w.cell? ⟨b, i, none⟩ = some v := by
  obtain ⟨T, h⟩ := h
  exact cell_of h (by simpa using hv)
theorem Row.free {w : World} {b : Nat} {xs : List Value} (h : Row w b xs) (i : Nat) : w.frozen? ⟨b, i, none⟩ = false := by obtain ⟨T, h⟩ := h; exact free_of h
theorem Row.new (w : World) (xs : Array Value) (T : TypeId) : Row (w.alloc (.cells xs T)) w.heap.size xs.toList := ⟨T, by simpa using heap_new w (.cells xs T)⟩
theorem Row.set {w : World} {b : Nat} {xs : List Value} (h : Row w b xs) (i : Nat) (v : Value) : Row (w.setCell ⟨b, i, none⟩ v) b (xs.set i v) := by
  obtain ⟨T, h⟩ := h
  refine ⟨T, ?_⟩
  rw [heap_set v h]
  congr 2
  apply Array.ext'
  simp
theorem Row.range {w : World} {b : Nat} {xs : List Value} (h : Row w b xs) : w.rangeAt b 0 xs := fun j v hv => by
  rw [Nat.zero_add]
  exact h.cell hv
theorem wpList_loadRow {ops : Array Oper} {rest : List Oper} {op : Oper} {a : Act} {w : World} {Q : Exit → Act → World → Prop} (hgd : op.guard = none) (ty : TypeId) (x : Operand) (ho : op.op = .load ty x)
    {b : Nat} (hx : a.eval x = .pointer (some ⟨b, 0, none⟩)) {xs : List Value} {n : Nat} {e : TypeId} (hc : Row w b xs)
    (hu : P.underlying ty = some (.array n e)) (hi : (P.info? ty).map (·.size) = some n) (hn : xs.length = n)
    (h : wpList P ops Q rest (a.put op.dst (.agg xs.toArray)) w) : wpList P ops Q (op :: rest) a w :=
  wpList_load_mid hgd ty x ho b 0 hx xs (.array n e) hc.range hu rfl (by rw [hi, hn]) h
theorem Row.store {w : World} {b : Nat} {xs : List Value} (h : Row w b xs) (ys : List Value) (hl : ys.length = xs.length) : Step [b] w (w.setCells b 0 ys) ∧ Row (w.setCells b 0 ys) b ys := by
  obtain ⟨T, h⟩ := h
  obtain ⟨s, cur, hh, hs, hx⟩ := setCells_heap ys w 0 _ T h (by simp [hl])
  refine ⟨s, T, ?_⟩
  rw [hh]
  congr 2
  apply Array.ext
  · rw [hs]; simp [hl]
  · intro j h1 h2
    have := (hx j).1 (ys[j]'(by simpa using h2)) (by omega) (by simp)
    rw [Array.getElem?_eq_getElem h1] at this
    simpa using this
theorem wpList_storeRow {ops : Array Oper} {rest : List Oper} {op : Oper} {a : Act} {w : World} {Q : Exit → Act → World → Prop} (hgd : op.guard = none) (ty : TypeId) (x y : Operand) (ho : op.op = .store ty x y)
    {b : Nat} (hx : a.eval x = .pointer (some ⟨b, 0, none⟩)) {xs ys : List Value} {n : Nat} (hy : a.eval y = .agg ys.toArray) (hc : Row w b xs) (hl : ys.length = n) (hl' : xs.length = n)
    (hi : (P.info? ty).map (·.size) = some n) (h1 : ∀ v ∈ ys, v.oneCell' = true)
    (h : ∀ w', Step [b] w w' → Row w' b ys → wpList P ops Q rest (a.put op.dst undef) w') : wpList P ops Q (op :: rest) a w := by
  obtain ⟨s, r⟩ := hc.store ys (by omega)
  refine wpList_store_mid hgd ty x y ho b 0 ys.toArray hx hy (fun j hj => ?_) (by rw [hi]; simp [hl]) (all_oneCell_toArray h1) (by simpa using h _ s r)
  have hj' : j < xs.length := by simp at hj; omega
  rw [Nat.zero_add]
  refine ⟨by rw [hc.cell (v := xs[j]) (by simp [hj'])]; rfl, hc.free j⟩
/-- 'a[i]' of an array by value, its elements of one cell. -/
theorem run_index_row (w : World) (t e : TypeId) (i : TypeInfo) (n : Nat) (xs : List Value) (k : IntKind) (j : Nat) (v : Value) (h : P.underlying t = some (.array n e)) (hi : P.info? e = some i) (hs : i.size = 1)
    (d : TypeDesc) (hd : P.underlying e = some d) (hr : d.isRow = false) (hj : j < n) (hv : xs[j]? = some v) : (Instr.index t (.agg xs.toArray) (.int k (j : Int))).run P w = .ok v w := by
  have hn : (0 : Int) ≤ (j : Int) ∧ (j : Int) < (n : Int) := by omega
  have hagg : (isAgg e).run P w = .ok false w := by
    unfold isAgg
    rw [Sem.run_bind, run_underlying hd w]
    cases d <;> simp_all
  simp [Instr.index, run_underlying h, asIntOf, hn, part, hagg, sizeOf, typeInfo, hi, hs, hv, Sem.run_bind]
  omega
end
end Go.Proofs.Ytcmihfanlconhab
