/- Arguments as the walks read them, out of the rows' readings. Conditions: none. -/
import Derived.Test.YtcmihfanlconhaaSl
import Derived.ProofKit
import Derived.OpenShut
import Derived.Deep.Slices
namespace Go.Proofs.Ytcmihfanlconhaa
open Go.RowKit

/-- A slice of n elements of sz cells each: cell j of element i holds 'c i j'. -/
def SlA (w : World) (ao : Option Addr) (n sz : Nat) (c : Nat → Nat → Value) : Prop :=
  0 < n → ∃ b off, ao = some ⟨b, off, none⟩ ∧ ∀ i, i < n → ∀ j, j < sz → w.cell? ⟨b, off + (i * sz + j), none⟩ = some (c i j)

theorem add_spot {a : Addr} {i : Nat} {w : World} {v : Value} (hi : 0 < i ∨ a.spot = none) (_h : w.cell? (a.add i) = some v) : a.add i = ⟨a.block, a.off + i, none⟩ := by
  unfold Addr.add
  split
  · rename_i h0
    rcases hi with hi | hi
    · omega
    · cases a; simp_all
  · rfl

section
variable {H : Type} {enc : TypeId × Value → H} {P : Program} {w : World} {base : Nat} {spare : Nat → Bool} {held : Bool}

/-- A slice opened: its cells, element by element. -/
theorem sl_open {t e : TypeId} {ao : Option Addr} {n cap : Nat} {d : DataW H} {ps : List MemPlace} (ht : P.underlying t = some (.slice e)) (hsz : 0 < P.cellsOf e)
    (h : DataW.Trod enc P w base spare held t (.slice ao n cap) d ps) : (n ≤ cap ∧ cap ≤ maxLen) ∧
      ∃ (C : Nat → List Value), (∀ i, i < n → (C i).length = P.cellsOf e ∧ ∃ fuel x, DataW.trod enc P w base spare held fuel e (C i) = some x) ∧
        SlA w ao n (P.cellsOf e) (fun i j => (C i).getD j undef) := by
  obtain ⟨fuel, h⟩ := h
  rcases Deep.open_slice ht h with ⟨h0, _⟩ | ⟨a, len, cap', m, fu, D, Pl, h0, _, hl, hm, hmm, _, hx⟩
  · simp [Value.cells] at h0
    obtain ⟨rfl, rfl, rfl⟩ := h0
    exact ⟨⟨Nat.le_refl _, Nat.zero_le _⟩, fun _ => [], fun i hi => absurd hi (Nat.not_lt_zero _), fun h => absurd h (Nat.lt_irrefl _)⟩
  · simp [Value.cells] at h0
    obtain ⟨rfl, rfl, rfl⟩ := h0
    have hnm : n ≤ m := by rw [hmm]; split <;> omega
    refine ⟨⟨hl, hm⟩, ?_⟩
    obtain ⟨C, hC⟩ := Deep.choose_lt (α := List Value) (p := fun i cs => w.cells? base (a.add (i * P.cellsOf e)) (P.cellsOf e) = some cs ∧ DataW.trod enc P w base spare held fu e cs = some (D i, Pl i)) hx
    refine ⟨C, fun i hi => ⟨(World.cells?_some (hC i (by omega)).1).2.1, fu, _, (hC i (by omega)).2⟩, fun hn => ?_⟩
    have c0 := World.cells?_some (hC 0 (by omega)).1
    have hc00 := c0.2.2 0 hsz
    have hlen0 := c0.2.1
    obtain ⟨b, off, spot⟩ := a
    have hspot : spot = none := by
      have : w.cell? ⟨b, off, spot⟩ = (C 0)[0]? := by simpa [Addr.add] using hc00
      rw [List.getElem?_eq_getElem (by omega)] at this
      exact World.cell?_spot this
    subst hspot
    refine ⟨b, off, rfl, fun i hi j hj => ?_⟩
    have ci := World.cells?_some (hC i (by omega)).1
    have := ci.2.2 j hj
    rw [Deep.add_add, Go.WideShapes.add_plain] at this
    rw [this, List.getElem?_eq_getElem (by omega)]
    simp [List.getD, show j < (C i).length by omega]

theorem SlA.congr {w : World} {ao : Option Addr} {n sz : Nat} {c c' : Nat → Nat → Value} (h : SlA w ao n sz c) (hc : ∀ i, i < n → ∀ j, j < sz → c i j = c' i j) : SlA w ao n sz c' := fun hn => by
  obtain ⟨b, off, rfl, hx⟩ := h hn
  exact ⟨b, off, rfl, fun i hi j hj => by rw [hx i hi j hj, hc i hi j hj]⟩

theorem wf_range {k : IntKind} {n : Int} (h : (Lit.int k n).wf = true) : k.min ≤ n ∧ n ≤ k.max := by
  simpa [Lit.wf] using h

/-- A slice of whole numbers. -/
theorem sl_int {t e : TypeId} {k : IntKind} {ao : Option Addr} {n cap : Nat} {d : DataW H} {ps : List MemPlace} (ht : P.underlying t = some (.slice e)) (he : P.underlying e = some (.int k)) (hc : P.cellsOf e = 1)
    (h : DataW.Trod enc P w base spare held t (.slice ao n cap) d ps) : (n ≤ cap ∧ cap ≤ maxLen) ∧ ∃ f : Nat → Int, (∀ i, i < n → k.min ≤ f i ∧ f i ≤ k.max) ∧ SlA w ao n 1 (fun i _ => .int k (f i)) := by
  obtain ⟨hn, C, hC, hs⟩ := sl_open ht (by omega) h
  obtain ⟨f, hf⟩ := Deep.choose_lt (α := Int) (p := fun i v => C i = [.int k v] ∧ (Lit.int k v).wf = true) (fun i hi => by
    obtain ⟨_, fuel, x, hx⟩ := hC i hi
    obtain ⟨v, h1, _, h2⟩ := DataW.trod_int he hx
    exact ⟨v, h1, h2⟩)
  rw [hc] at hs
  refine ⟨hn, f, fun i hi => wf_range (hf i hi).2, hs.congr fun i hi j hj => ?_⟩
  obtain rfl : j = 0 := by omega
  simp [(hf i hi).1]

/-- A slice of truth values. -/
theorem sl_bool {t e : TypeId} {ao : Option Addr} {n cap : Nat} {d : DataW H} {ps : List MemPlace} (ht : P.underlying t = some (.slice e)) (he : P.underlying e = some .bool) (hc : P.cellsOf e = 1)
    (h : DataW.Trod enc P w base spare held t (.slice ao n cap) d ps) : (n ≤ cap ∧ cap ≤ maxLen) ∧ ∃ f : Nat → Bool, SlA w ao n 1 (fun i _ => .bool (f i)) := by
  obtain ⟨hn, C, hC, hs⟩ := sl_open ht (by omega) h
  obtain ⟨f, hf⟩ := Deep.choose_lt (α := Bool) (p := fun i v => C i = [.bool v]) (fun i hi => by
    obtain ⟨_, fuel, x, hx⟩ := hC i hi
    obtain ⟨v, h1, _⟩ := DataW.trod_bool he hx
    exact ⟨v, h1⟩)
  rw [hc] at hs
  refine ⟨hn, f, hs.congr fun i hi j hj => ?_⟩
  obtain rfl : j = 0 := by omega
  simp [hf i hi]

/-- A slice of strings. -/
theorem sl_str {t e : TypeId} {ao : Option Addr} {n cap : Nat} {d : DataW H} {ps : List MemPlace} (ht : P.underlying t = some (.slice e)) (he : P.underlying e = some .string) (hc : P.cellsOf e = 1)
    (h : DataW.Trod enc P w base spare held t (.slice ao n cap) d ps) : (n ≤ cap ∧ cap ≤ maxLen) ∧ ∃ f : Nat → ByteArray, (∀ i, i < n → (f i).size ≤ maxLen) ∧ SlA w ao n 1 (fun i _ => .string (f i)) := by
  obtain ⟨hn, C, hC, hs⟩ := sl_open ht (by omega) h
  obtain ⟨f, hf⟩ := Deep.choose_lt (α := ByteArray) (p := fun i v => C i = [.string v] ∧ v.size ≤ maxLen) (fun i hi => by
    obtain ⟨_, fuel, x, hx⟩ := hC i hi
    obtain ⟨v, h1, _, h2⟩ := DataW.trod_string he hx
    exact ⟨v, h1, h2⟩)
  rw [hc] at hs
  refine ⟨hn, f, fun i hi => (hf i hi).2, hs.congr fun i hi j hj => ?_⟩
  obtain rfl : j = 0 := by omega
  simp [(hf i hi).1]

/-- A slice of structs of two whole numbers. -/
theorem sl_int2 {t e : TypeId} {f0 f1 : Field} {k0 k1 : IntKind} {ao : Option Addr} {n cap : Nat} {d : DataW H} {ps : List MemPlace} (ht : P.underlying t = some (.slice e)) (he : P.underlying e = some (.struct #[f0, f1]))
    (h0 : P.underlying f0.type = some (.int k0)) (h1 : P.underlying f1.type = some (.int k1)) (c0 : P.cellsOf f0.type = 1) (c1 : P.cellsOf f1.type = 1) (o0 : f0.offset = 0) (o1 : f1.offset = 1) (hc : P.cellsOf e = 2)
    (h : DataW.Trod enc P w base spare held t (.slice ao n cap) d ps) :
    (n ≤ cap ∧ cap ≤ maxLen) ∧ ∃ f g : Nat → Int, (∀ i, i < n → (k0.min ≤ f i ∧ f i ≤ k0.max) ∧ k1.min ≤ g i ∧ g i ≤ k1.max) ∧ SlA w ao n 2 (fun i j => if j = 0 then .int k0 (f i) else .int k1 (g i)) := by
  obtain ⟨hn, C, hC, hs⟩ := sl_open ht (by omega) h
  obtain ⟨f, hf⟩ := Deep.choose_lt (α := Int × Int) (p := fun i v => C i = [.int k0 v.1, .int k1 v.2] ∧ (Lit.int k0 v.1).wf = true ∧ (Lit.int k1 v.2).wf = true) (fun i hi => by
    obtain ⟨hl, fuel, x, hx⟩ := hC i hi
    obtain ⟨y0, y1, m, _, _, hy0, hy1⟩ := Go.ChangeShapes.trod_struct2 he hx
    obtain ⟨a, ha, _, wa⟩ := DataW.trod_int h0 hy0
    obtain ⟨b, hb, _, wb⟩ := DataW.trod_int h1 hy1
    refine ⟨(a, b), ?_, wa, wb⟩
    rw [hc] at hl
    match hCi : C i, hl with
    | [x0, x1], _ =>
      rw [hCi] at ha hb
      simp [o0, o1, c0, c1] at ha hb
      simp [ha, hb])
  rw [hc] at hs
  refine ⟨hn, fun i => (f i).1, fun i => (f i).2, fun i hi => ⟨wf_range (hf i hi).2.1, wf_range (hf i hi).2.2⟩, hs.congr fun i hi j hj => ?_⟩
  rcases (by omega : j = 0 ∨ j = 1) with rfl | rfl <;> simp [(hf i hi).1]
end
/-- A slice argument of whole numbers, as a list. -/
theorem SlA.rd_int {k : IntKind} {w : World} {ao : Option Addr} {n cap : Nat} {f : Nat → Int} (h : SlA w ao n 1 (fun i _ => .int k (f i))) (hn : n ≤ cap ∧ cap ≤ maxLen) :
    ∃ B, (∀ g, B = some g → g < w.heap.size) ∧ Rd w 1 (.slice ao n cap) n (((List.range n).map f).map (Value.int k)) B := by
  by_cases h0 : n = 0
  · subst h0
    exact ⟨none, by simp, by simp, ao, cap, rfl, hn.1, hn.2, fun h => absurd h (Nat.lt_irrefl _)⟩
  · obtain ⟨b, off, rfl, hx⟩ := h (by omega)
    refine ⟨some b, ?_, by simp, _, cap, rfl, hn.1, hn.2, fun _ => ⟨b, off, rfl, rfl, fun j u hu => ?_⟩⟩
    · rintro g hg
      cases hg
      exact World.block_lt_of_cell? w ⟨b, off + (0 * 1 + 0), none⟩ (hx 0 (by omega) 0 (by omega))
    · simp at hu
      obtain ⟨x, hx', rfl⟩ := hu
      rw [List.getElem?_eq_some_iff] at hx'
      obtain ⟨hl, rfl⟩ := hx'
      simp at hl
      have := hx j hl 0 (by omega)
      simpa using this
end Go.Proofs.Ytcmihfanlconhaa
