/- A region that draws its order, walked once in the order of the text: each operation's value is the same in whatever world meets a condition, and leaves the condition standing. Conditions: none. -/
import Derived.Test.YtcmihfanlconhabBase
import Derived.Still
import Derived.StillTactics
import Derived.Deep.MidRow
namespace Go.Proofs.Ytcmihfanlconhab
open Go.RowKit
section
variable {P : Program} {ops : Array Oper} {md : Region.Mode}
/-- What an operation comes to: this value, and a world that meets I. -/
def YV (P : Program) (I : World → Prop) (v : Value) : Result Next → Prop
  | .ok (.value v') w' => v' = v ∧ I w'
  | .ok .skip w' => v = undef ∧ I w'
  | .ok (.enter f args) w' => Calls P f args w' (fun e w'' => e = .returned v ∧ I w'')
  | _ => False
/-- It yields this value in whatever world that meets I; or it is not wanted. -/
def YieldsG (P : Program) (ops : Array Oper) (I : World → Prop) (o : Oper) (v : Value) (a : Act) : Prop :=
  (Region.wanted o (yielded ops a.tmps) = true ∧ ∀ w, I w → YV P I v ((execOp a.eval o).run P w)) ∨ (Region.wanted o (yielded ops a.tmps) = false ∧ v = undef)
theorem YieldsG.of_same {I : World → Prop} {o : Oper} {v : Value} {a a' : Act} (hy : YieldsG P ops I o v a) (he : execOp a'.eval o = execOp a.eval o)
    (hw : Region.wanted o (yielded ops a'.tmps) = Region.wanted o (yielded ops a.tmps)) : YieldsG P ops I o v a' := by
  unfold YieldsG at *
  rw [he, hw]
  exact hy
def gOp (P : Program) (ops : Array Oper) (I : World → Prop) (i : Nat) (K : Act → Prop) (a : Act) : Prop :=
  ∃ o v, ops[i]? = some o ∧ YieldsG P ops I o v a ∧ K (a.put o.dst v)
theorem gOp_mono {I : World → Prop} {i : Nat} {a : Act} {K K' : Act → Prop} (h : ∀ a, K a → K' a) (hh : gOp P ops I i K a) : gOp P ops I i K' a := by
  obtain ⟨o, v, h1, h2, h3⟩ := hh
  exact ⟨o, v, h1, h2, h _ h3⟩
def wpAnyG (P : Program) (md : Region.Mode) (ops : Array Oper) (I : World → Prop) (Fin : Act → Prop) : Nat → Array Bool → Act → Prop
  | 0, listed, a => Region.ready md ops listed = [] ∧ Fin a
  | fuel + 1, listed, a => (Region.ready md ops listed = [] → Fin a) ∧ ∀ i ∈ Region.ready md ops listed, gOp P ops I i (wpAnyG P md ops I Fin fuel (listed.setIfInBounds i true)) a
theorem wpOp_of_gOp {I : World → Prop} {i : Nat} {a : Act} {K : Act → Prop} {K' : Act → World → Prop} {Q' : Exit → Act → World → Prop} {w : World} (hI : I w) (h : ∀ a w, I w → K a → K' a w) (hh : gOp P ops I i K a) : wpOp P ops Q' i K' a w := by
  obtain ⟨o, v, ho, hy, hk⟩ := hh
  unfold wpOp
  simp only [ho]
  rcases hy with ⟨hw, hv⟩ | ⟨hw, rfl⟩
  · simp only [hw, if_true]
    refine .inl ?_
    have h1 := hv w hI
    unfold Oper.wp
    generalize (execOp a.eval o).run P w = r at *
    cases r with
    | ok n w' =>
      cases n <;> simp only [YV] at h1 <;> simp only [Oper.upon]
      case value u => obtain ⟨rfl, h2⟩ := h1; exact h _ _ h2 hk
      case skip => obtain ⟨rfl, h2⟩ := h1; exact h _ _ h2 hk
      case enter f args => exact h1.mono fun e w'' ⟨he, hw⟩ => by subst he; exact h _ _ hw hk
    | halt x w' => simp only [YV] at h1
  · simp only [hw, Bool.false_eq_true, if_false]
    exact h _ _ hI hk
theorem wpAny_of_g {I : World → Prop} {Fin : Act → Prop} {Q' : Exit → Act → World → Prop} (hQ : ∀ a w, I w → Fin a → Q' .normal a w) : ∀ (fuel : Nat) (listed : Array Bool) (a : Act) (w : World), I w →
    wpAnyG P md ops I Fin fuel listed a → wpAny P md ops Q' fuel listed a w
  | 0, _, _, _, hI, h => ⟨h.1, hQ _ _ hI h.2⟩
  | fuel + 1, _, _, _, hI, h => ⟨fun h0 => hQ _ _ hI (h.1 h0), fun i hi => wpOp_of_gOp hI (fun a' w' hI' => wpAny_of_g hQ fuel _ a' w' hI') (h.2 i hi)⟩
theorem gOp_put {I : World → Prop} {j : Nat} {oi oj : Oper} {v : Value} (hj : ops[j]? = some oj) (hap : oi.apart ops oj = true)
    (hsi : ∀ cs b, oi.op ≠ .select cs b) (hsj : ∀ cs b, oj.op ≠ .select cs b) {K : Act → Prop} {a : Act}
    (hy : YieldsG P ops I oi v a) (h : gOp P ops I j K (a.put oi.dst v)) :
    gOp P ops I j (fun a' => YieldsG P ops I oi v a' ∧ K (a'.put oi.dst v)) a := by
  obtain ⟨h1, h2, h3⟩ := Oper.apart_spec hap
  obtain ⟨o, u, ho, hu, hk⟩ := h
  obtain rfl : o = oj := by rw [ho] at hj; exact Option.some.inj hj
  refine ⟨o, u, ho, hu.of_same (execOp_put o hsj a oi.dst v h1).symm (wanted_put o a oi.dst v h1).symm, ?_, ?_⟩
  · exact hy.of_same (execOp_put oi hsi a o.dst u h3) (wanted_put oi a o.dst u h3)
  · rw [← Act.put_comm a v u h2]
    exact hk
theorem wpAnyG_first {I : World → Prop} {Fin : Act → Prop} {i : Nat} {oi : Oper} {v : Value} (hi : ops[i]? = some oi) (hsel : ∀ (j : Nat) (o : Oper) cs b, ops[j]? = some o → o.op ≠ .select cs b) :
    ∀ (fuel : Nat) (listed : Array Bool) (a : Act),
      (∀ j oj, ops[j]? = some oj → j ≠ i → listed.getD j true = false → (∀ e ∈ oj.after, Region.binds md e = true → e.on ≠ i) → oi.apart ops oj = true) →
      i ∈ Region.ready md ops listed → YieldsG P ops I oi v a →
      wpAnyG P md ops I Fin fuel (listed.setIfInBounds i true) (a.put oi.dst v) → wpAnyG P md ops I Fin (fuel + 1) listed a := by
  intro fuel
  induction fuel with
  | zero =>
    intro listed a _ hr hy H
    refine ⟨fun h => (by rw [h] at hr; cases hr), fun j hj => ?_⟩
    by_cases hji : j = i
    · subst hji; exact ⟨oi, v, hi, hy, H⟩
    · have := ready_mono hj hji
      rw [H.1] at this
      cases this
  | succ fuel ih =>
    intro listed a hfree hr hy H
    refine ⟨fun h => (by rw [h] at hr; cases hr), fun j hj => ?_⟩
    by_cases hji : j = i
    · subst hji; exact ⟨oi, v, hi, hy, H⟩
    · have h1 := H.2 j (ready_mono hj hji)
      obtain ⟨hjun, oj, hoj, hall⟩ := mem_ready.1 hj
      have hnot : ∀ e ∈ oj.after, Region.binds md e = true → e.on ≠ i := fun e he hb heq => by
        have h1 := hall e he hb
        have h0 := (mem_ready.1 hr).1
        rw [heq] at h1
        rcases Nat.lt_or_ge i listed.size with h' | h'
        · simp [h'] at h0 h1; rw [h0] at h1; cases h1
        · simp [Array.getElem?_eq_none h'] at h1
      have h2 := gOp_put hoj (hfree j oj hoj hji hjun hnot) (fun cs b => hsel i oi cs b hi) (fun cs b => hsel j oj cs b hoj) hy h1
      have hfree' : ∀ k ok, ops[k]? = some ok → k ≠ i → (listed.setIfInBounds j true).getD k true = false →
          (∀ e ∈ ok.after, Region.binds md e = true → e.on ≠ i) → oi.apart ops ok = true := fun k ok hk hki hun hno => by
        refine hfree k ok hk hki ?_ hno
        by_cases hjk : j = k
        · subst hjk; exact hjun
        · rw [getD_set_ne true hjk] at hun; exact hun
      refine gOp_mono (fun a' h3 => ih (listed.setIfInBounds j true) a' hfree' (ready_mono hr (Ne.symm hji)) h3.1 ?_) h2
      rw [Array.setIfInBounds_comm _ _ hji]
      exact h3.2
/-- Op by op, in the order of the text. -/
def wpGrow (P : Program) (ops : Array Oper) (I : World → Prop) (Fin : Act → Prop) : List Oper → Act → Prop
  | [], a => Fin a
  | o :: rest, a => ∃ v, YieldsG P ops I o v a ∧ wpGrow P ops I Fin rest (a.put o.dst v)
theorem wpAnyG_lex {I : World → Prop} {Fin : Act → Prop} (hs : Region.noSelect ops = true) : ∀ (l : List Oper) (k : Nat) (listed : Array Bool) (a : Act), (∀ j, l[j]? = ops[k + j]?) →
    Region.lexFrom md ops l.length k listed = true → wpGrow P ops I Fin l a → wpAnyG P md ops I Fin l.length listed a
  | [], _, _, _, _, hB, h => ⟨by simpa [Region.lexFrom] using hB, h⟩
  | o :: l, k, listed, a, hl, hB, h => by
    have h0 : ops[k]? = some o := by simpa using (hl 0).symm
    simp only [List.length_cons, Region.lexFrom, Bool.and_eq_true] at hB
    obtain ⟨⟨hr, hf⟩, hB'⟩ := hB
    obtain ⟨v, hy, hK⟩ := h
    exact wpAnyG_first h0 (Region.noSelect_spec hs) l.length listed a (Region.free_spec h0 hf) (by simpa using hr) hy
      (wpAnyG_lex hs l (k + 1) _ _ (fun j => by have := hl (j + 1); simpa [Nat.add_assoc, Nat.add_comm 1 j] using this) hB' hK)
theorem wp_region_grow {id : Nat} {Q : Exit → Act → World → Prop} {a : Act} {w : World} {l : List Oper} (I : World → Prop) (hm : P.follows .mixedOrders = true) (hB : Region.lexB .any l.toArray = true)
    (hI : I w.drew) (h : wpGrow P l.toArray I (fun a' => ∀ w', I w' → Q .normal a' w') l a) : (Code.region id l.toArray true).wp P Q a w := by
  simp only [Region.lexB, Bool.and_eq_true] at hB
  refine wp_region_any hm (wpAny_of_g (I := I) (Fin := fun a' => ∀ w', I w' → Q .normal a' w') (fun a w hI h => h w hI) _ _ _ _ hI ?_)
  have := wpAnyG_lex (md := .any) (P := P) (I := I) (Fin := fun a' => ∀ w', I w' → Q .normal a' w') hB.1 l 0 (Array.replicate l.length false) a (by simp) (by simpa using hB.2) h
  simpa using this
theorem wpGrow_run {I : World → Prop} {Fin : Act → Prop} {o : Oper} {rest : List Oper} {a : Act} (v : Value) (hw : Region.wanted o (yielded ops a.tmps) = true) (h : ∀ w, I w → YV P I v ((execOp a.eval o).run P w))
    (hr : wpGrow P ops I Fin rest (a.put o.dst v)) : wpGrow P ops I Fin (o :: rest) a := ⟨v, .inl ⟨hw, h⟩, hr⟩
theorem wpGrow_skip {I : World → Prop} {Fin : Act → Prop} {o : Oper} {rest : List Oper} {a : Act} (hw : Region.wanted o (yielded ops a.tmps) = false)
    (hr : wpGrow P ops I Fin rest (a.put o.dst undef)) : wpGrow P ops I Fin (o :: rest) a := ⟨undef, .inr ⟨hw, rfl⟩, hr⟩
theorem wpGrow_nil {I : World → Prop} {Fin : Act → Prop} {a : Act} (h : Fin a) : wpGrow P ops I Fin [] a := h
theorem wpGrow_call {I : World → Prop} {Fin : Act → Prop} {o : Oper} {rest : List Oper} {a : Act} {f : FuncId} {args : Array Value} {v : Value} (hw : Region.wanted o (yielded ops a.tmps) = true)
    (hc : ∀ w, I w → Calls P f args w (fun e w' => e = .returned v ∧ Step [] w w')) (hs : ∀ w w', I w → Step [] w w' → I w') (he : ∀ w, I w → (execOp a.eval o).run P w = .ok (.enter f args) w)
    (hr : wpGrow P ops I Fin rest (a.put o.dst v)) : wpGrow P ops I Fin (o :: rest) a := by
  refine wpGrow_run _ hw (fun w hw' => ?_) hr
  rw [he w hw']
  exact (hc w hw').mono fun e w' ⟨h1, h2⟩ => ⟨h1, hs w w' hw' h2⟩
theorem wpGrow_load {I : World → Prop} {Fin : Act → Prop} {o : Oper} {rest : List Oper} {a : Act} (ty : TypeId) (x : Operand) (ho : o.op = .load ty x) (hw : Region.wanted o (yielded ops a.tmps) = true)
    {b off : Nat} (hx : a.eval x = .pointer (some ⟨b, off, none⟩)) {xs : List Value} {d : TypeDesc} (hc : ∀ w, I w → w.rangeAt b off xs) (hu : P.underlying ty = some d) (hd : d.isRow = true)
    (hi : (P.info? ty).map (·.size) = some xs.length) (hr : wpGrow P ops I Fin rest (a.put o.dst (.agg xs.toArray))) : wpGrow P ops I Fin (o :: rest) a := by
  refine wpGrow_run _ hw (fun w hw' => ?_) hr
  unfold execOp
  simp only [ho, hx, Instr.loadAt, Instr.sureAddr, Sem.run_bind, Sem.run_pure, Result.andThen_ok, run_loadVar_mid w b off ty xs d (hc w hw') hu hd hi]
  exact ⟨rfl, hw'⟩
theorem YV_value {I : World → Prop} {v : Value} {w : World} (h : I w) : YV P I v (.ok (.value v) w) := ⟨rfl, h⟩
theorem YV_skip {I : World → Prop} {w : World} (h : I w) : YV P I undef (.ok .skip w) := ⟨rfl, h⟩
theorem YV_enter {I : World → Prop} {v : Value} {f : FuncId} {args : Array Value} {w : World} (h : Calls P f args w (fun e w'' => e = .returned v ∧ I w'')) : YV P I v (.ok (.enter f args) w) := h
end
end Go.Proofs.Ytcmihfanlconhab
