/- Rows of the statements: numbers as they come. Conditions: none. -/
import Derived.Test.YtcmihfanlconhabKOts
import Derived.Test.YtcmihfanlconhabRowl
namespace Go.Proofs.Ytcmihfanlconhab
open Go.RowKit
def Ret' (v : Value) (Q : World → Prop) (e : Ending) (w' : World) : Prop := e = .returned v ∧ Q w'
theorem of_u64 {a : Int} (h : IntKind.u64.min ≤ a ∧ a ≤ IntKind.u64.max) : ∃ x : UInt64, a = (x.toNat : Int) := by
  have h1 : IntKind.u64.min = 0 := by decide
  have h2 : IntKind.u64.max = 18446744073709551615 := by decide
  obtain ⟨n, rfl⟩ := Int.eq_ofNat_of_zero_le (h1 ▸ h.1)
  refine ⟨UInt64.ofNat n, ?_⟩
  rw [UInt64.toNat_ofNat_of_lt' (show n < UInt64.size by rw [h2] at h; unfold UInt64.size; omega)]
theorem of_u8 {a : Int} (h : IntKind.u8.min ≤ a ∧ a ≤ IntKind.u8.max) : ∃ n : Nat, a = (n : Int) ∧ n ≤ 255 := by
  have h1 : IntKind.u8.min = 0 := by decide
  have h2 : IntKind.u8.max = 255 := by decide
  obtain ⟨n, rfl⟩ := Int.eq_ofNat_of_zero_le (h1 ▸ h.1)
  exact ⟨n, rfl, by rw [h2] at h; omega⟩
theorem cu_of_ints (n : Nat) (f : Nat → Int) (hf : ∀ i, i < n → IntKind.u64.min ≤ f i ∧ f i ≤ IntKind.u64.max) : ∃ l : List UInt64, ((List.range n).map f).map (Value.int .u64) = cu l := by
  refine ⟨(List.range n).map fun i => UInt64.ofNat (f i).toNat, ?_⟩
  rw [cu, List.map_map, List.map_map]
  apply List.map_congr_left
  intro i hi
  obtain ⟨x, hx⟩ := of_u64 (hf i (List.mem_range.1 hi))
  simp [hx]
end Go.Proofs.Ytcmihfanlconhab
