/- Slices as lists of cells: what they hold, what 'append' makes of them. Conditions: sizes below the model's bounds. -/
import Derived.Test.YtcmihfanlconhaaBase
import Derived.ArgAppend
import Derived.Laws.OwnMore
import Derived.OwnWalk
namespace Go.Proofs.Ytcmihfanlconhaa
open Go.RowKit

/-- 'v' is a slice of n elements of sz cells; its cells are 'xs'; it lies in block B (none: nil). -/
def Sl (w : World) (sz : Nat) (v : Value) (n : Nat) (xs : List Value) (B : Option Nat) : Prop :=
  xs.length = n * sz ∧ ((v = .slice none 0 0 ∧ n = 0 ∧ B = none) ∨
    ∃ g off cap cur T, v = .slice (some ⟨g, off, none⟩) n cap ∧ B = some g ∧ w.heap[g]? = some (.cells cur T (0, 0)) ∧ n ≤ cap ∧ cap ≤ maxLen ∧
      off + cap * sz ≤ cur.size ∧ ∀ j u, xs[j]? = some u → cur[off + j]? = some u)

theorem Sl.len {w : World} {sz : Nat} {v : Value} {n : Nat} {xs : List Value} {B : Option Nat} (h : Sl w sz v n xs B) : xs.length = n * sz := h.1
theorem Sl.le {w : World} {sz : Nat} {v : Value} {n : Nat} {xs : List Value} {B : Option Nat} (h : Sl w sz v n xs B) : n ≤ maxLen := by
  rcases h.2 with ⟨_, h, _⟩ | ⟨g, off, cap, cur, T, _, _, _, h, h', _⟩ <;> omega
theorem Sl.nil (w : World) (sz : Nat) : Sl w sz (.slice none 0 0) 0 [] none := ⟨by simp, .inl ⟨rfl, rfl, rfl⟩⟩
theorem Sl.form {w : World} {sz : Nat} {v : Value} {n : Nat} {xs : List Value} {B : Option Nat} (h : Sl w sz v n xs B) : ∃ ao cap, v = .slice ao n cap := by
  rcases h.2 with ⟨rfl, rfl, _⟩ | ⟨g, off, cap, cur, T, rfl, _⟩
  · exact ⟨_, _, rfl⟩
  · exact ⟨_, _, rfl⟩
theorem Sl.lt {w : World} {sz : Nat} {v : Value} {n : Nat} {xs : List Value} {B : Option Nat} (h : Sl w sz v n xs B) : ∀ b, B = some b → b < w.heap.size := by
  rintro b rfl
  rcases h.2 with ⟨_, _, h⟩ | ⟨g, off, cap, cur, T, _, h, hg, _⟩
  · cases h
  · cases h; exact lt_size hg
theorem Sl.step {w w' : World} {sz : Nat} {v : Value} {n : Nat} {xs : List Value} {B : Option Nat} {m : List Nat} (h : Sl w sz v n xs B) (s : Step m w w') (hb : ∀ b, B = some b → b ∉ m) : Sl w' sz v n xs B := by
  refine ⟨h.1, ?_⟩
  rcases h.2 with h | ⟨g, off, cap, cur, T, hv, hB, hg, r⟩
  · exact .inl h
  · exact .inr ⟨g, off, cap, cur, T, hv, hB, s.heap hg (hb g hB), r⟩
/-- A cell of it. -/
theorem Sl.at {w : World} {sz : Nat} {v : Value} {n : Nat} {xs : List Value} {B : Option Nat} (h : Sl w sz v n xs B) (hn : 0 < xs.length) :
    ∃ g off cap, v = .slice (some ⟨g, off, none⟩) n cap ∧ B = some g ∧ ∀ j u, xs[j]? = some u → w.cell? ⟨g, off + j, none⟩ = some u := by
  have hl := h.1
  rcases h.2 with ⟨_, rfl, _⟩ | ⟨g, off, cap, cur, T, hv, hB, hg, _, _, _, hx⟩
  · omega
  · exact ⟨g, off, cap, hv, hB, fun j u hu => cell_of hg (hx j u hu)⟩
/-- The first ones, the others. -/
theorem Sl.take {w : World} {sz g off n cap : Nat} {xs : List Value} {B : Option Nat} (h : Sl w sz (.slice (some ⟨g, off, none⟩) n cap) n xs B) (k : Nat) (hk : k ≤ n) (c : Nat) (hc : k ≤ c) (hcc : c ≤ cap) :
    Sl w sz (.slice (some ⟨g, off, none⟩) k c) k (xs.take (k * sz)) B := by
  have hl := h.1
  have hkn : k * sz ≤ n * sz := Nat.mul_le_mul_right _ hk
  have hccz : c * sz ≤ cap * sz := Nat.mul_le_mul_right _ hcc
  refine ⟨by simp; omega, ?_⟩
  rcases h.2 with ⟨h, _⟩ | ⟨g', off', cap', cur, T, hv, hB, hg, h1, h2, h3, hx⟩
  · cases h
  · cases hv
    exact .inr ⟨g, off, c, cur, T, rfl, hB, hg, hc, by omega, by omega, fun j u hu => hx j u (by
      rw [List.getElem?_take] at hu
      split at hu
      · exact hu
      · cases hu)⟩

theorem Sl.one (w : World) (sz : Nat) (cs : Array Value) (T : TypeId) (n : Nat) (hn : cs.size = n * sz) (hm : n ≤ maxLen) : Sl (w.alloc (.cells cs T)) sz (.slice (some ⟨w.heap.size, 0, none⟩) n n) n cs.toList (some w.heap.size) :=
  ⟨by simpa using hn, .inr ⟨_, 0, n, cs, T, rfl, rfl, heap_new _ _, Nat.le_refl _, hm, by omega, fun j u hu => by simpa using hu⟩⟩

/-- 'v' reads as a slice of n elements of sz cells, 'xs'; its cells lie in block B. -/
def Rd (w : World) (sz : Nat) (v : Value) (n : Nat) (xs : List Value) (B : Option Nat) : Prop :=
  xs.length = n * sz ∧ ∃ ao cap, v = .slice ao n cap ∧ n ≤ cap ∧ cap ≤ maxLen ∧ (0 < n → ∃ g off, ao = some ⟨g, off, none⟩ ∧ B = some g ∧ ∀ j u, xs[j]? = some u → w.cell? ⟨g, off + j, none⟩ = some u)

theorem Sl.rd {w : World} {sz : Nat} {v : Value} {n : Nat} {xs : List Value} {B : Option Nat} (h : Sl w sz v n xs B) : Rd w sz v n xs B := by
  refine ⟨h.1, ?_⟩
  rcases h.2 with ⟨rfl, rfl, rfl⟩ | ⟨g, off, cap, cur, T, rfl, rfl, hg, h1, h2, h3, hx⟩
  · exact ⟨none, 0, rfl, Nat.le_refl _, Nat.zero_le _, fun h => absurd h (Nat.lt_irrefl _)⟩
  · exact ⟨_, cap, rfl, h1, h2, fun _ => ⟨g, off, rfl, rfl, fun j u hu => cell_of hg (hx j u hu)⟩⟩
theorem Rd.form {w : World} {sz : Nat} {v : Value} {n : Nat} {xs : List Value} {B : Option Nat} (h : Rd w sz v n xs B) : ∃ ao cap, v = .slice ao n cap := by
  obtain ⟨_, ao, cap, h, _⟩ := h
  exact ⟨ao, cap, h⟩
theorem Rd.step {w w' : World} {sz : Nat} {v : Value} {n : Nat} {xs : List Value} {B : Option Nat} {m : List Nat} (h : Rd w sz v n xs B) (s : Step m w w') (hb : ∀ b, B = some b → b ∉ m) : Rd w' sz v n xs B := by
  obtain ⟨h0, ao, cap, h1, h2, h3, h4⟩ := h
  refine ⟨h0, ao, cap, h1, h2, h3, fun hn => ?_⟩
  obtain ⟨g, off, h5, h6, h7⟩ := h4 hn
  exact ⟨g, off, h5, h6, fun j u hu => s.cell (h7 j u hu) (hb g h6)⟩
theorem Rd.alloc {w : World} {sz : Nat} {v : Value} {n : Nat} {xs : List Value} {B : Option Nat} (h : Rd w sz v n xs B) (o : Obj) : Rd (w.alloc o) sz v n xs B := h.step ((Step.refl [] w).alloc o) (by simp)
theorem Sl.alloc {w : World} {sz : Nat} {v : Value} {n : Nat} {xs : List Value} {B : Option Nat} (h : Sl w sz v n xs B) (o : Obj) : Sl (w.alloc o) sz v n xs B := h.step ((Step.refl [] w).alloc o) (by simp)
theorem Rd.at {w : World} {sz : Nat} {v : Value} {n : Nat} {xs : List Value} {B : Option Nat} (h : Rd w sz v n xs B) (hn : 0 < n) :
    ∃ g off cap, v = .slice (some ⟨g, off, none⟩) n cap ∧ B = some g ∧ n ≤ cap ∧ ∀ j u, xs[j]? = some u → w.cell? ⟨g, off + j, none⟩ = some u := by
  obtain ⟨_, ao, cap, rfl, h2, _, h4⟩ := h
  obtain ⟨g, off, rfl, h6, h7⟩ := h4 hn
  exact ⟨g, off, cap, rfl, h6, h2, h7⟩

theorem step_grown {w w' : World} (h : w.grownBy w' none) : Step [] w w' := ⟨h.os, h.tape, h.output, h.size, fun k hk _ => h.block k hk (by simp)⟩
theorem Sl.of_owns {w : World} {base sz n : Nat} {e : TypeId} {v : Value} {xs : List Value} (h : w.ownsRow base e sz v n xs) : ∃ B, Sl w sz v n xs B ∧ (∀ b, B = some b → base ≤ b) := by
  obtain ⟨hl, h | ⟨g, cap, cur, rfl, hb, hg, h1, h2, h3, h4⟩⟩ := h
  · exact ⟨none, ⟨hl, .inl ⟨h.1, h.2, rfl⟩⟩, by simp⟩
  · refine ⟨some g, ⟨hl, .inr ⟨g, 0, cap, cur, e, rfl, rfl, hg, h1, h2, by omega, fun j u hu => ?_⟩⟩, by simpa using hb⟩
    rw [← h4, List.getElem?_take] at hu
    split at hu
    · simpa using hu
    · cases hu

theorem setCells_heap {b : Nat} (news : List Value) : ∀ (w : World) (o : Nat) (cur : Array Value) (T : TypeId), w.heap[b]? = some (.cells cur T (0, 0)) → o + news.length ≤ cur.size →
    Step [b] w (w.setCells b o news) ∧ ∃ cur', (w.setCells b o news).heap[b]? = some (.cells cur' T (0, 0)) ∧ cur'.size = cur.size ∧
      ∀ j, (∀ u, o ≤ j → news[j - o]? = some u → cur'[j]? = some u) ∧ (j < o → cur'[j]? = cur[j]?) := by
  induction news with
  | nil => intro w o cur T h _; exact ⟨Step.refl _ _, cur, h, rfl, fun j => ⟨fun u _ hu => by simp at hu, fun _ => rfl⟩⟩
  | cons v r ih =>
    intro w o cur T h ho
    simp only [List.length_cons] at ho
    have h1 := heap_set (i := o) v h
    obtain ⟨s, cur', hh, hs, hx⟩ := ih (w.setCell ⟨b, o, none⟩ v) (o + 1) (cur.setIfInBounds o v) T h1 (by simp; omega)
    refine ⟨((Step.refl _ _).setCell _ (by simp) v).trans s, cur', hh, by simpa using hs, fun j => ⟨fun u hj hu => ?_, fun hj => ?_⟩⟩
    · by_cases he : j = o
      · subst he
        simp at hu
        subst hu
        rw [(hx j).2 (by omega)]
        simp [show j < cur.size by omega]
      · exact (hx j).1 u (by omega) (by
          have : j - o = (j - (o + 1)) + 1 := by omega
          rw [this] at hu
          simpa using hu)
    · rw [(hx j).2 (by omega)]
      simp [show ¬ o = j by omega]

section
variable {P : Program}
/-- 'append(s, x...)' of slices: in place where there is room, else in a new block. -/
theorem append_run (w : World) (t ty e : TypeId) (i : TypeInfo) (z : Value) (sz by_ : Nat) (ht : P.underlying t = some (.slice e)) (hi : P.info? e = some i) (hz : i.zero = some z)
    (hsize : i.size = sz) (hby : i.bytes = by_) (hzs : z.cells.size = sz) (hsz : 0 < sz)
    {sv xv : Value} {n m : Nat} {xs news : List Value} {B Bx : Option Nat} (hs : Sl w sz sv n xs B) (hx : Rd w sz xv m news Bx) (h1 : ∀ u ∈ news, u.oneCell' = true)
    (h63 : n + m ≤ maxLen) (hbytes : (n + m) * by_ ≤ 140737488355328) :
    ∃ v' w' B', (Builtin.append_ #[t, t] ty #[sv, xv]).run P w = .ok v' w' ∧ Sl w' sz v' (n + m) (xs ++ news) B' ∧ Step B.toList w w' ∧ (B' = B ∨ ∃ b, B' = some b ∧ w.heap.size ≤ b) := by
  have hlx := hx.1
  have hls := hs.1
  obtain ⟨ax, cx, rfl, hmx, hcx, hxm⟩ := hx.2
  -- the source is empty
  by_cases hm : m = 0
  · subst hm
    obtain rfl : news = [] := List.eq_nil_of_length_eq_zero (by simpa using hlx)
    have hfc : (Builtin.firstCells sz 0 (.slice ax 0 cx)).run P w = .ok #[] w := by
      cases ax <;> simp [Builtin.firstCells, loadCells, loadCellsFrom]
    rcases hs.2 with ⟨rfl, rfl, rfl⟩ | ⟨g, off, cap, cur, T, rfl, rfl, hg, hn, hc, hb, hxs⟩
    · refine ⟨.slice none 0 0, w, none, ?_, by simpa using hs, Step.refl _ _, .inl rfl⟩
      subst hsize
      simp [Builtin.append_, run_underlying ht, sizeOf, typeInfo, hi, Builtin.lenOf, hfc]
    · refine ⟨.slice (some ⟨g, off, none⟩) n cap, w, some g, ?_, by simpa using hs, Step.refl _ _, .inl rfl⟩
      subst hsize
      simp [Builtin.append_, run_underlying ht, sizeOf, typeInfo, hi, Builtin.lenOf, hfc, hn, storeCells]
  · obtain ⟨gx, ox, rfl, rfl, hxx⟩ := hxm (by omega)
    have hnews : ∀ j u, news[j]? = some u → w.cell? ((⟨gx, ox, none⟩ : Addr).add j) = some u := fun j u hu => by
      rw [Go.WideShapes.add_plain]
      exact hxx j u hu
    rcases hs.2 with ⟨rfl, rfl, rfl⟩ | ⟨g, off, cap, cur, T, rfl, rfl, hg, hn, hc, hb, hxs⟩
    · obtain rfl : xs = [] := List.eq_nil_of_length_eq_zero (by simpa using hls)
      have hown : w.ownsRow w.heap.size e sz (.slice none 0 0) 0 [] := ⟨by simp, .inl ⟨rfl, rfl⟩⟩
      obtain ⟨v', w', hr, ho, hgr, _⟩ := run_append_own (P := P) w w.heap.size t ty e i z sz by_ ht hi hz hsize hby hzs hsz (.slice none 0 0) 0 [] hown ⟨gx, ox, none⟩ m cx news hlx hnews h1 (by omega) (by omega) (Nat.le_refl _)
      obtain ⟨B', hB, hge⟩ := Sl.of_owns ho
      refine ⟨v', w', B', hr, hB, step_grown hgr, ?_⟩
      cases B' with
      | none => exact .inl rfl
      | some b => exact .inr ⟨b, rfl, hge b rfl⟩
    · by_cases hroom : n + m ≤ cap
      · subst hsize
        have hcapz : (n + m) * i.size ≤ cap * i.size := Nat.mul_le_mul_right _ hroom
        have hsum : (n + m) * i.size = n * i.size + m * i.size := Nat.add_mul _ _ _
        obtain ⟨hst, cur', hg', hsz', hcur⟩ := setCells_heap news w (off + n * i.size) cur T hg (by omega)
        have hrun := run_append_room_cells (P := P) w t ty e i ht hi g off n cap ⟨gx, ox, none⟩ m cx news hlx hnews h1 hroom
          (fun j hj => by
            rw [cell_of hg (Array.getElem?_eq_getElem (show off + n * i.size + j < cur.size by omega))]; rfl)
          (fun j hj => free_of hg)
        refine ⟨_, _, some g, hrun, ⟨by simp; omega, .inr ⟨g, off, cap, cur', T, rfl, rfl, hg', hroom, hc, by omega, fun j u hu => ?_⟩⟩, hst, .inl rfl⟩
        by_cases hj : j < xs.length
        · rw [List.getElem?_append_left hj] at hu
          rw [(hcur (off + j)).2 (by omega)]
          exact hxs j u hu
        · rw [List.getElem?_append_right (by omega)] at hu
          exact (hcur (off + j)).1 u (by omega) (by rw [show off + j - (off + n * i.size) = j - xs.length by omega]; exact hu)
      · have holds : ∀ j u, xs[j]? = some u → w.cell? ((⟨g, off, none⟩ : Addr).add j) = some u := fun j u hu => by
          rw [Go.WideShapes.add_plain]
          exact cell_of hg (hxs j u hu)
        obtain ⟨v', w', hr, ho, hgr⟩ := run_append_arg_grows (P := P) w t ty e i z sz by_ ht hi hz hsize hby hzs hsz ⟨g, off, none⟩ n cap xs hls holds ⟨gx, ox, none⟩ m cx news hlx hnews (by omega) h63 hbytes
        obtain ⟨B', hB, hge⟩ := Sl.of_owns ho
        refine ⟨v', w', B', hr, hB, (step_grown hgr).weaken (by simp), ?_⟩
        cases B' with
        | none =>
          exfalso
          rcases hB.2 with ⟨_, h0, _⟩ | ⟨_, _, _, _, _, _, h0, _⟩
          · omega
          · cases h0
        | some b => exact .inr ⟨b, rfl, hge b rfl⟩

/-- .. in the walk. -/
theorem wpList_app {w : World} {ops : Array Oper} {rest : List Oper} {o : Oper} {a : Act} {Q : Exit → Act → World → Prop} (hgd : o.guard = none) (s x : Operand) (t : TypeId)
    (ho : o.op = .call { callee := .builtin .append, args := #[s, x], argTypes := #[t, t] })
    (e : TypeId) (i : TypeInfo) (z : Value) (sz by_ : Nat) (ht : P.underlying t = some (.slice e)) (hi : P.info? e = some i) (hz : i.zero = some z)
    (hsize : i.size = sz) (hby : i.bytes = by_) (hzs : z.cells.size = sz) (hsz : 0 < sz)
    {n m : Nat} {xs news : List Value} {B Bx : Option Nat} (hs : Sl w sz (a.eval s) n xs B) (hx : Rd w sz (a.eval x) m news Bx) (h1 : ∀ u ∈ news, u.oneCell' = true)
    (h63 : n + m ≤ maxLen) (hbytes : (n + m) * by_ ≤ 140737488355328)
    (h : ∀ v' w' B', Sl w' sz v' (n + m) (xs ++ news) B' → Step B.toList w w' → (B' = B ∨ ∃ b, B' = some b ∧ w.heap.size ≤ b) → wpList P ops Q rest (a.put o.dst v') w') : wpList P ops Q (o :: rest) a w := by
  refine wpList_plain hgd fun K hK => ?_
  obtain ⟨v', w', B', hr, h2, h3, h4⟩ := append_run (P := P) w t o.type e i z sz by_ ht hi hz hsize hby hzs hsz hs hx h1 h63 hbytes
  unfold Oper.wp
  simp [execOp, ho, resolve, invoke, builtin, hr, Result.andThen]
  exact hK _ _ (h v' w' B' h2 h3 h4)

/-- .. at a step of a region that draws its order. -/
theorem step_app {w : World} {ops : Array Oper} {o : Oper} {a : Act} {K : Act → World → Prop} {Q : Exit → Act → World → Prop} {E : Prop} (hgd : o.guard = none) (s x : Operand) (t : TypeId)
    (ho : o.op = .call { callee := .builtin .append, args := #[s, x], argTypes := #[t, t] })
    (e : TypeId) (i : TypeInfo) (z : Value) (sz by_ : Nat) (ht : P.underlying t = some (.slice e)) (hi : P.info? e = some i) (hz : i.zero = some z)
    (hsize : i.size = sz) (hby : i.bytes = by_) (hzs : z.cells.size = sz) (hsz : 0 < sz)
    {n m : Nat} {xs news : List Value} {B Bx : Option Nat} (hs : Sl w sz (a.eval s) n xs B) (hx : Rd w sz (a.eval x) m news Bx) (h1 : ∀ u ∈ news, u.oneCell' = true)
    (h63 : n + m ≤ maxLen) (hbytes : (n + m) * by_ ≤ 140737488355328)
    (h : ∀ ao' c' w' B', Sl w' sz (.slice ao' (n + m) c') (n + m) (xs ++ news) B' → Step B.toList w w' → (B' = B ∨ ∃ b, B' = some b ∧ w.heap.size ≤ b) → K (a.put o.dst (.slice ao' (n + m) c')) w') :
    if Region.wanted o (yielded ops a.tmps) = true then Oper.wp P o a w K Q else E := by
  rw [if_pos (by simp [Region.wanted, hgd])]
  obtain ⟨v', w', B', hr, h2, h3, h4⟩ := append_run (P := P) w t o.type e i z sz by_ ht hi hz hsize hby hzs hsz hs hx h1 h63 hbytes
  unfold Oper.wp
  simp [execOp, ho, resolve, invoke, builtin, hr, Result.andThen]
  obtain ⟨ao', c', rfl⟩ := h2.form
  exact h ao' c' w' B' h2 h3 h4

/-- 's[l:h:m]', the bounds reckoned. -/
theorem slice_run (w : World) (t e : TypeId) (i : TypeInfo) (sz : Nat) (ht : P.underlying t = some (.slice e)) (hi : P.info? e = some i) (hsize : i.size = sz)
    {ao : Option Addr} {n cap : Nat} {xs : List Value} {B : Option Nat} (hs : Sl w sz (.slice ao n cap) n xs B) (low high max : Option Value) (l h m : Nat)
    (hb : (Instr.sliceBounds true n cap low high max).run P w = .ok (l, h, m) w) (hlh : l ≤ h) (hhn : h ≤ n) (hhm : h ≤ m) (hm : m ≤ cap) :
    ∃ ao' c', (Instr.slice t (.slice ao n cap) low high max).run P w = .ok (.slice ao' (h - l) c') w ∧ Sl w sz (.slice ao' (h - l) c') (h - l) ((xs.drop (l * sz)).take ((h - l) * sz)) B := by
  subst hsize
  have hlen := hs.1
  refine ⟨(if m = l then ao else ao.map (·.add (l * i.size))), m - l, ?_, ?_⟩
  · simp [Instr.slice, run_underlying ht, hb, sizeOf, typeInfo, hi]
  · have hhl : (h - l) * i.size = h * i.size - l * i.size := Nat.sub_mul _ _ _
    have hhn' : h * i.size ≤ n * i.size := Nat.mul_le_mul_right _ hhn
    have hlh' : l * i.size ≤ h * i.size := Nat.mul_le_mul_right _ hlh
    refine ⟨by simp; omega, ?_⟩
    rcases hs.2 with ⟨hv, rfl, rfl⟩ | ⟨g, off, cap', cur, T, hv, rfl, hg, h1, h2, h3, hx⟩
    · cases hv
      left
      refine ⟨?_, by omega, rfl⟩
      rw [show h - l = 0 by omega, show m - l = 0 by omega]
      split <;> rfl
    · cases hv
      right
      have hmc : m * i.size ≤ cap * i.size := Nat.mul_le_mul_right _ hm
      have hml : (m - l) * i.size = m * i.size - l * i.size := Nat.sub_mul _ _ _
      have hlm' : l * i.size ≤ m * i.size := Nat.mul_le_mul_right _ (by omega)
      by_cases hc : m = l
      · refine ⟨g, off, m - l, cur, T, by rw [if_pos hc], rfl, hg, by omega, by omega, by omega, fun j u hu => ?_⟩
        rw [show h - l = 0 by omega] at hu
        simp at hu
      · refine ⟨g, off + l * i.size, m - l, cur, T, by rw [if_neg hc]; simp [Go.WideShapes.add_plain], rfl, hg, by omega, by omega, by omega, fun j u hu => ?_⟩
        rw [List.getElem?_take] at hu
        split at hu
        · rw [List.getElem?_drop] at hu
          rw [Nat.add_assoc]
          exact hx _ u hu
        · cases hu


theorem underlying_elem {t e : TypeId} (ht : P.underlying t = some (.slice e)) : P.underlying t = some (.slice (P.elem t)) := by
  rw [ht]; simp [Program.elem, ht]

theorem wpList_slc {w : World} {ops : Array Oper} {rest : List Oper} {o : Oper} {a : Act} {Q : Exit → Act → World → Prop} (hgd : o.guard = none) (t : TypeId) (x : Operand) (lo hi mx : Option Operand)
    (ho : o.op = .slice t x lo hi mx) (e : TypeId) (i : TypeInfo) (sz : Nat) (ht : P.underlying t = some (.slice e)) (hinfo : P.info? e = some i) (hsize : i.size = sz)
    {n : Nat} {xs : List Value} {B : Option Nat} (hs : Sl w sz (a.eval x) n xs B) (l h : Nat) (m : Nat → Nat)
    (hb : ∀ c, n ≤ c → (Instr.sliceBounds true n c (lo.map a.eval) (hi.map a.eval) (mx.map a.eval)).run P w = .ok (l, h, m c) w ∧ h ≤ m c ∧ m c ≤ c) (hlh : l ≤ h) (hhn : h ≤ n)
    (hK : ∀ ao' c', Sl w sz (.slice ao' (h - l) c') (h - l) ((xs.drop (l * sz)).take ((h - l) * sz)) B → wpList P ops Q rest (a.put o.dst (.slice ao' (h - l) c')) w) : wpList P ops Q (o :: rest) a w := by
  refine wpList_plain hgd fun K hK' => ?_
  obtain ⟨ao, cap, hv⟩ := hs.form
  rw [hv] at hs
  have hcap : n ≤ cap := by
    rcases hs.2 with ⟨h0, rfl, _⟩ | ⟨_, _, _, _, _, h0, _, _, h1, _⟩
    · omega
    · cases h0; exact h1
  obtain ⟨hb1, hb2, hb3⟩ := hb cap hcap
  obtain ⟨ao', c', hr, h2⟩ := slice_run (P := P) w t e i sz ht hinfo hsize hs (lo.map a.eval) (hi.map a.eval) (mx.map a.eval) l h (m cap) hb1 hlh hhn hb2 hb3
  unfold Oper.wp
  simp only [execOp, ho, hv]
  simp [run_sliceAt_slice w _ _ _ _ _ (underlying_elem ht), hr, Result.andThen]
  exact hK' _ _ (hK ao' c' h2)

/-- 's[l:]' -/
theorem wpList_slc_lo {w : World} {ops : Array Oper} {rest : List Oper} {o : Oper} {a : Act} {Q : Exit → Act → World → Prop} (hgd : o.guard = none) (t : TypeId) (x lo : Operand)
    (ho : o.op = .slice t x (some lo) none none) (e : TypeId) (i : TypeInfo) (sz : Nat) (ht : P.underlying t = some (.slice e)) (hinfo : P.info? e = some i) (hsize : i.size = sz)
    {n : Nat} {xs : List Value} {B : Option Nat} (hs : Sl w sz (a.eval x) n xs B) (l : Nat) (k : IntKind) (hl : a.eval lo = .int k l) (hln : l ≤ n)
    (hK : ∀ ao' c', Sl w sz (.slice ao' (n - l) c') (n - l) (xs.drop (l * sz)) B → wpList P ops Q rest (a.put o.dst (.slice ao' (n - l) c')) w) : wpList P ops Q (o :: rest) a w := by
  refine wpList_slc hgd t x (some lo) none none ho e i sz ht hinfo hsize hs l n id (fun c hc => ⟨?_, hc, Nat.le_refl _⟩) hln (Nat.le_refl _) fun ao' c' h => hK ao' c' ?_
  · simp [Instr.sliceBounds, hl, run_sliceBound_if, hln]
  · have := hs.1
    rwa [List.take_of_length_le (by simp [Nat.sub_mul]; omega)] at h
/-- 's[:h]' -/
theorem wpList_slc_hi {w : World} {ops : Array Oper} {rest : List Oper} {o : Oper} {a : Act} {Q : Exit → Act → World → Prop} (hgd : o.guard = none) (t : TypeId) (x hi : Operand)
    (ho : o.op = .slice t x none (some hi) none) (e : TypeId) (i : TypeInfo) (sz : Nat) (ht : P.underlying t = some (.slice e)) (hinfo : P.info? e = some i) (hsize : i.size = sz)
    {n : Nat} {xs : List Value} {B : Option Nat} (hs : Sl w sz (a.eval x) n xs B) (h : Nat) (k : IntKind) (hh : a.eval hi = .int k h) (hhn : h ≤ n)
    (hK : ∀ ao' c', Sl w sz (.slice ao' h c') h (xs.take (h * sz)) B → wpList P ops Q rest (a.put o.dst (.slice ao' h c')) w) : wpList P ops Q (o :: rest) a w := by
  refine wpList_slc hgd t x none (some hi) none ho e i sz ht hinfo hsize hs 0 h id (fun c hc => ⟨?_, by simp; omega, Nat.le_refl _⟩) (Nat.zero_le _) hhn fun ao' c' h' => hK ao' c' ?_
  · simp [Instr.sliceBounds, hh, run_sliceBound_if, show h ≤ c by omega]
  · simpa using h'
/-- 's[:h:h]' -/
theorem wpList_slc_hh {w : World} {ops : Array Oper} {rest : List Oper} {o : Oper} {a : Act} {Q : Exit → Act → World → Prop} (hgd : o.guard = none) (t : TypeId) (x hi hj : Operand)
    (ho : o.op = .slice t x none (some hi) (some hj)) (e : TypeId) (i : TypeInfo) (sz : Nat) (ht : P.underlying t = some (.slice e)) (hinfo : P.info? e = some i) (hsize : i.size = sz)
    {n : Nat} {xs : List Value} {B : Option Nat} (hs : Sl w sz (a.eval x) n xs B) (h : Nat) (k k' : IntKind) (hh : a.eval hi = .int k h) (hh' : a.eval hj = .int k' h) (hhn : h ≤ n)
    (hK : ∀ ao' c', Sl w sz (.slice ao' h c') h (xs.take (h * sz)) B → wpList P ops Q rest (a.put o.dst (.slice ao' h c')) w) : wpList P ops Q (o :: rest) a w := by
  refine wpList_slc hgd t x none (some hi) (some hj) ho e i sz ht hinfo hsize hs 0 h (fun _ => h) (fun c hc => ⟨?_, Nat.le_refl _, by omega⟩) (Nat.zero_le _) hhn fun ao' c' h' => hK ao' c' ?_
  · simp [Instr.sliceBounds, hh, hh', run_sliceBound_if, show h ≤ c by omega]
  · simpa using h'
/-- The same of what is only read. -/
theorem rslice_run (w : World) (t e : TypeId) (i : TypeInfo) (sz : Nat) (ht : P.underlying t = some (.slice e)) (hi : P.info? e = some i) (hsize : i.size = sz)
    {ao : Option Addr} {n cap : Nat} {xs : List Value} {B : Option Nat} (hs : Rd w sz (.slice ao n cap) n xs B) (low high max : Option Value) (l h m : Nat)
    (hb : (Instr.sliceBounds true n cap low high max).run P w = .ok (l, h, m) w) (hlh : l ≤ h) (hhn : h ≤ n) (hhm : h ≤ m) (hm : m ≤ cap) :
    ∃ ao' c', (Instr.slice t (.slice ao n cap) low high max).run P w = .ok (.slice ao' (h - l) c') w ∧ Rd w sz (.slice ao' (h - l) c') (h - l) ((xs.drop (l * sz)).take ((h - l) * sz)) B := by
  subst hsize
  have hlen := hs.1
  refine ⟨(if m = l then ao else ao.map (·.add (l * i.size))), m - l, ?_, ?_⟩
  · simp [Instr.slice, run_underlying ht, hb, sizeOf, typeInfo, hi]
  · have hhl : (h - l) * i.size = h * i.size - l * i.size := Nat.sub_mul _ _ _
    have hhn' : h * i.size ≤ n * i.size := Nat.mul_le_mul_right _ hhn
    have hlh' : l * i.size ≤ h * i.size := Nat.mul_le_mul_right _ hlh
    obtain ⟨_, ao0, cap0, hv, h1, h2, h3⟩ := hs
    cases hv
    refine ⟨by simp; omega, _, _, rfl, by omega, by omega, fun hp => ?_⟩
    obtain ⟨g, off, rfl, rfl, hx⟩ := h3 (by omega)
    refine ⟨g, off + l * i.size, by rw [if_neg (by omega)]; simp [Go.WideShapes.add_plain], rfl, fun j u hu => ?_⟩
    rw [List.getElem?_take] at hu
    split at hu
    · rw [List.getElem?_drop] at hu
      rw [Nat.add_assoc]
      exact hx _ u hu
    · cases hu

theorem wpList_rlc {w : World} {ops : Array Oper} {rest : List Oper} {o : Oper} {a : Act} {Q : Exit → Act → World → Prop} (hgd : Region.wanted o (yielded ops a.tmps) = true) (t : TypeId) (x : Operand) (lo hi mx : Option Operand)
    (ho : o.op = .slice t x lo hi mx) (e : TypeId) (i : TypeInfo) (sz : Nat) (ht : P.underlying t = some (.slice e)) (hinfo : P.info? e = some i) (hsize : i.size = sz)
    {n : Nat} {xs : List Value} {B : Option Nat} (hs : Rd w sz (a.eval x) n xs B) (l h : Nat) (m : Nat → Nat)
    (hb : ∀ c, n ≤ c → (Instr.sliceBounds true n c (lo.map a.eval) (hi.map a.eval) (mx.map a.eval)).run P w = .ok (l, h, m c) w ∧ h ≤ m c ∧ m c ≤ c) (hlh : l ≤ h) (hhn : h ≤ n)
    (hK : ∀ ao' c', Rd w sz (.slice ao' (h - l) c') (h - l) ((xs.drop (l * sz)).take ((h - l) * sz)) B → wpList P ops Q rest (a.put o.dst (.slice ao' (h - l) c')) w) : wpList P ops Q (o :: rest) a w := by
  refine wpList_step fun K hK' => ?_
  rw [if_pos hgd]
  obtain ⟨ao, cap, hv⟩ := hs.form
  rw [hv] at hs
  have hcap : n ≤ cap := by
    obtain ⟨_, _, _, h0, h1, _⟩ := hs
    cases h0; exact h1
  obtain ⟨hb1, hb2, hb3⟩ := hb cap hcap
  obtain ⟨ao', c', hr, h2⟩ := rslice_run (P := P) w t e i sz ht hinfo hsize hs (lo.map a.eval) (hi.map a.eval) (mx.map a.eval) l h (m cap) hb1 hlh hhn hb2 hb3
  unfold Oper.wp
  simp only [execOp, ho, hv]
  simp [run_sliceAt_slice w _ _ _ _ _ (underlying_elem ht), hr, Result.andThen]
  exact hK' _ _ (hK ao' c' h2)
/-- 's[l:]' -/
theorem wpList_rlc_lo {w : World} {ops : Array Oper} {rest : List Oper} {o : Oper} {a : Act} {Q : Exit → Act → World → Prop} (hgd : Region.wanted o (yielded ops a.tmps) = true) (t : TypeId) (x lo : Operand)
    (ho : o.op = .slice t x (some lo) none none) (e : TypeId) (i : TypeInfo) (sz : Nat) (ht : P.underlying t = some (.slice e)) (hinfo : P.info? e = some i) (hsize : i.size = sz)
    {n : Nat} {xs : List Value} {B : Option Nat} (hs : Rd w sz (a.eval x) n xs B) (l : Nat) (k : IntKind) (hl : a.eval lo = .int k l) (hln : l ≤ n)
    (hK : ∀ ao' c', Rd w sz (.slice ao' (n - l) c') (n - l) (xs.drop (l * sz)) B → wpList P ops Q rest (a.put o.dst (.slice ao' (n - l) c')) w) : wpList P ops Q (o :: rest) a w := by
  refine wpList_rlc hgd t x (some lo) none none ho e i sz ht hinfo hsize hs l n id (fun c hc => ⟨?_, hc, Nat.le_refl _⟩) hln (Nat.le_refl _) fun ao' c' h => hK ao' c' ?_
  · simp [Instr.sliceBounds, hl, run_sliceBound_if, hln]
  · have := hs.1
    rwa [List.take_of_length_le (by simp [Nat.sub_mul]; omega)] at h
/-- 's[:h]' -/
theorem wpList_rlc_hi {w : World} {ops : Array Oper} {rest : List Oper} {o : Oper} {a : Act} {Q : Exit → Act → World → Prop} (hgd : Region.wanted o (yielded ops a.tmps) = true) (t : TypeId) (x hi : Operand)
    (ho : o.op = .slice t x none (some hi) none) (e : TypeId) (i : TypeInfo) (sz : Nat) (ht : P.underlying t = some (.slice e)) (hinfo : P.info? e = some i) (hsize : i.size = sz)
    {n : Nat} {xs : List Value} {B : Option Nat} (hs : Rd w sz (a.eval x) n xs B) (h : Nat) (k : IntKind) (hh : a.eval hi = .int k h) (hhn : h ≤ n)
    (hK : ∀ ao' c', Rd w sz (.slice ao' h c') h (xs.take (h * sz)) B → wpList P ops Q rest (a.put o.dst (.slice ao' h c')) w) : wpList P ops Q (o :: rest) a w := by
  refine wpList_rlc hgd t x none (some hi) none ho e i sz ht hinfo hsize hs 0 h id (fun c hc => ⟨?_, by simp; omega, Nat.le_refl _⟩) (Nat.zero_le _) hhn fun ao' c' h' => hK ao' c' ?_
  · simp [Instr.sliceBounds, hh, run_sliceBound_if, show h ≤ c by omega]
  · simpa using h'
/-- 's[l:]' in whatever world. -/
theorem rslice_lo_all {w : World} (t e : TypeId) (i : TypeInfo) (sz : Nat) (ht : P.underlying t = some (.slice e)) (hi : P.info? e = some i) (hsize : i.size = sz)
    {ao : Option Addr} {n cap : Nat} {xs : List Value} {B : Option Nat} (hs : Rd w sz (.slice ao n cap) n xs B) (l : Nat) (k : IntKind) (hl : l ≤ n) :
    ∃ ao' c', (∀ W, (Instr.sliceAt t (.slice ao n cap) (some (.int k l)) none none).run P W = .ok (.slice ao' (n - l) c') W) ∧ (∀ W, (Instr.slice t (.slice ao n cap) (some (.int k l)) none none).run P W = .ok (.slice ao' (n - l) c') W) ∧
      ∀ W, Rd W sz (.slice ao n cap) n xs B → Rd W sz (.slice ao' (n - l) c') (n - l) (xs.drop (l * sz)) B := by
  have hcap : n ≤ cap := by
    obtain ⟨_, _, _, h0, h1, _⟩ := hs
    cases h0; exact h1
  have hrun : ∀ W, (Instr.slice t (.slice ao n cap) (some (.int k l)) none none).run P W = .ok (.slice (if cap = l then ao else ao.map (·.add (l * sz))) (n - l) (cap - l)) W := fun W => by
    subst hsize
    simp [Instr.slice, run_underlying ht, Instr.sliceBounds, run_sliceBound_if, hl, sizeOf, typeInfo, hi]
  refine ⟨_, _, fun W => ?_, hrun, fun W hW => ?_⟩
  · rw [run_sliceAt_slice W _ _ _ _ _ (underlying_elem ht)]; exact hrun W
  · obtain ⟨a', c', h1, h2⟩ := rslice_run (P := P) W t e i sz ht hi hsize hW (some (.int k l)) none none l n cap (by simp [Instr.sliceBounds, run_sliceBound_if, hl]) hl (Nat.le_refl _) hcap (Nat.le_refl _)
    rw [hrun W] at h1
    have h3 := congrArg (fun r : Result Value => match r with | .ok v _ => v | _ => undef) h1
    simp only at h3
    rw [← h3] at h2
    have := hW.1
    rwa [List.take_of_length_le (by simp [Nat.sub_mul]; omega)] at h2
/-- The walk stands still at a slice expression. -/
theorem Stopped.slice {w : World} {ops : Array Oper} {rest : List Oper} {o : Oper} {a : Act} {Q : Exit → Act → World → Prop} {t : TypeId} {x : Operand} {lo hi mx : Option Operand} (_ : o.op = .slice t x lo hi mx)
    (h : Stopped (wpList P ops Q (o :: rest) a w)) : wpList P ops Q (o :: rest) a w := h
end
end Go.Proofs.Ytcmihfanlconhaa
