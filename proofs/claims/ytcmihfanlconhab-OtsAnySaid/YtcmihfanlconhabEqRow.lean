/- '==' between two arrays that are alike, element by element. Conditions: none. -/
import Derived.Test.YtcmihfanlconhabOts
import Derived.Laws.StructEq
namespace Go.Proofs.Ytcmihfanlconhab
open Go.RowKit
section
variable {P : Program}
theorem run_forIn_same {σ : Type} (w : World) (f : Nat → σ → Sem (ForInStep σ)) (s : σ) : ∀ l : List Nat, (∀ i ∈ l, (f i s).run P w = .ok (.yield s) w) → (forIn l s f : Sem σ).run P w = .ok s w
  | [], _ => by simp
  | i :: l, h => by
    simp only [List.forIn_cons, Sem.run_bind, h i (by simp), Result.andThen_ok]
    exact run_forIn_same w f s l (fun j hj => h j (by simp [hj]))
theorem run_part_int (w : World) (e : TypeId) (xs : Array Value) (j : Nat) (v : Value) (d : TypeDesc) (hd : P.underlying e = some d) (hr : d.isRow = false) (hv : xs[j]? = some v) :
    (part e xs j).run P w = .ok v w := by
  have hagg : (isAgg e).run P w = .ok false w := by
    unfold isAgg
    rw [Sem.run_bind, run_underlying hd w]
    cases d <;> simp_all
  simp [part, hagg, Sem.run_bind, hv]
theorem run_equalIn_array (w : World) (t e : TypeId) (i : TypeInfo) (n : Nat) (k : IntKind) (l : List UInt64) (ht : P.underlying t = some (.array n e)) (hi : P.info? e = some i) (hs : i.size = 1) (he : P.underlying e = some (.int k)) (hl : l.length = n) :
    (Op.equalIn 10000 t (.agg (cu l).toArray) (.agg (cu l).toArray)).run P w = .ok true w := by
  have hsz : (sizeOf e).run P w = .ok 1 w := by simp [sizeOf, typeInfo, hi, hs]
  show (Op.equalIn (9999 + 1) t (.agg (cu l).toArray) (.agg (cu l).toArray)).run P w = .ok true w
  rw [Op.equalIn]
  simp only [Sem.run_bind, run_underlying ht, Result.andThen_ok, hsz, Std.Legacy.Range.forIn_eq_forIn_range']
  rw [run_forIn_same w _ _ _ ?_]
  · simp
  · intro j hj
    have hj' : j < n := by simp at hj; omega
    have hg := cu_get l j (by omega)
    have hp := run_part_int w e (cu l).toArray j _ _ he rfl (by simpa using hg)
    simp [Sem.run_bind, hp, run_equalIn_int w 9998 e .u64 k _ _ he]
theorem run_eql_array (w : World) (t e : TypeId) (i : TypeInfo) (n : Nat) (k : IntKind) (l : List UInt64) (ht : P.underlying t = some (.array n e)) (hi : P.info? e = some i) (hs : i.size = 1) (he : P.underlying e = some (.int k)) (hl : l.length = n) :
    (binOp .eql t (.agg (cu l).toArray) (.agg (cu l).toArray)).run P w = .ok (.bool true) w := by
  rw [run_eql_struct, run_equalIn_array w t e i n k l ht hi hs he hl]
  rfl
end
end Go.Proofs.Ytcmihfanlconhab
