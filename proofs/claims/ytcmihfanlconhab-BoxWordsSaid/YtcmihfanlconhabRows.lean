/-
  No cell of these rows narrows 'for every input' (looked for: loops, veiled, ifaces, maps, wideKeys, modest, calm, conditions, laid).
  DERIVED. THE GIVEN ROWS OF THIS SEAT. 6 by the template 'for every input the law returns true; each argument reads behind the call as it read before'; 0 by the template 'total and deterministic' (their statements: YtcmihfanlconhabTotals.lean).
  GIVEN WITH THE SEED: the statements are not yours to turn. If you find one false, say at which input.
  Laid BY PROGRAM, IN A SANDBOX (cutbox-rows.mjs): the forced cells as the released guide's own fill.sh prints them over the translation 72bb162780ac5d0c… (all of the seat's roots in one cut). By AI agents, Wed Nov 11 2026. No macro, syntax, notation, axiom, sorry.
-/
import Derived.Test.YtcmihfanlconhabChecked
import GoSem.Claim
import GoSem.ClaimJoined
import GoSem.ClaimMapViews
import Derived.JoinedTies
import Derived.KernelRfl
namespace Go.Proofs.Ytcmihfanlconhab
/- THE CELL 'sum', in the pinned program and in every row, IS THE sha256 OF THE DUMP (.gsa) THAT YtcmihfanlconhabProg.lean LOADS. Nothing in Lean hashes anything: it is a label: what it is worth is what the hold of that sum in a sandbox is worth. -/
noncomputable def Try.pinned : Pinned := { name := "ytcmihfanlconhab", sum := "72bb162780ac5d0c01ba1917f08854b3e1bb305c24e707ee425ef5f9f7d32371", checked := Try.checked }
namespace Rows
def none {H : Type} : Left H := { results := [], args := [] }

/-- 'folkmootlaw7.BoxWords': WHATEVER THE INPUT: true; the input reads as it did. -/
def boxWordsSpec : ChangeSpec := { name := "boxWords", fn := fun _ => fun
  | [d1, d2, d3, d4] => { results := [.lit (.bool true)], args := [d1, d2, d3, d4] }
  | _ => none }
def boxWordsRow : OpenClaim := { program := "ytcmihfanlconhab", sum := "72bb162780ac5d0c01ba1917f08854b3e1bb305c24e707ee425ef5f9f7d32371", func := "folkmoot/folkmootlaw7.BoxWords", spec := "boxWords", apart := false }
def BoxWordsSaid : Prop := boxWordsRow.holds Try.pinned (OpenSpec.ofChange boxWordsSpec)

/-- ITS FALSE NEIGHBOUR: 'it returns false'. Refute it at one input. -/
def boxWordsWrong : ChangeSpec := { name := "boxWords", fn := fun _ => fun
  | [d1, d2, d3, d4] => { results := [.lit (.bool false)], args := [d1, d2, d3, d4] }
  | _ => none }
def BoxWordsWrongFalsely : Prop := boxWordsRow.holds Try.pinned (OpenSpec.ofChange boxWordsWrong)

/-- 'folkmootlaw4.MerkleAny': WHATEVER THE INPUT: true; the input reads as it did. -/
def merkleAnySpec : ChangeSpec := { name := "merkleAny", fn := fun _ => fun
  | [d1, d2, d3, d4] => { results := [.lit (.bool true)], args := [d1, d2, d3, d4] }
  | _ => none }
def merkleAnyRow : OpenClaim := { program := "ytcmihfanlconhab", sum := "72bb162780ac5d0c01ba1917f08854b3e1bb305c24e707ee425ef5f9f7d32371", func := "folkmoot/folkmootlaw4.MerkleAny", spec := "merkleAny", unfollowed := true, recurses := true, apart := false }
def MerkleAnySaid : Prop := merkleAnyRow.holds Try.pinned (OpenSpec.ofChange merkleAnySpec)

/-- ITS FALSE NEIGHBOUR: 'it returns false'. Refute it at one input. -/
def merkleAnyWrong : ChangeSpec := { name := "merkleAny", fn := fun _ => fun
  | [d1, d2, d3, d4] => { results := [.lit (.bool false)], args := [d1, d2, d3, d4] }
  | _ => none }
def MerkleAnyWrongFalsely : Prop := merkleAnyRow.holds Try.pinned (OpenSpec.ofChange merkleAnyWrong)

/-- 'folkmootlaw4.MerkleHolds': WHATEVER THE INPUT: true; the input reads as it did. -/
def merkleHoldsSpec : ChangeSpec := { name := "merkleHolds", fn := fun _ => fun
  | [d1, d2, d3, d4] => { results := [.lit (.bool true)], args := [d1, d2, d3, d4] }
  | _ => none }
def merkleHoldsRow : OpenClaim := { program := "ytcmihfanlconhab", sum := "72bb162780ac5d0c01ba1917f08854b3e1bb305c24e707ee425ef5f9f7d32371", func := "folkmoot/folkmootlaw4.MerkleHolds", spec := "merkleHolds", unfollowed := true, recurses := true, apart := false }
def MerkleHoldsSaid : Prop := merkleHoldsRow.holds Try.pinned (OpenSpec.ofChange merkleHoldsSpec)

/-- ITS FALSE NEIGHBOUR: 'it returns false'. Refute it at one input. -/
def merkleHoldsWrong : ChangeSpec := { name := "merkleHolds", fn := fun _ => fun
  | [d1, d2, d3, d4] => { results := [.lit (.bool false)], args := [d1, d2, d3, d4] }
  | _ => none }
def MerkleHoldsWrongFalsely : Prop := merkleHoldsRow.holds Try.pinned (OpenSpec.ofChange merkleHoldsWrong)

/-- 'folkmootlaw4.MerkleHalves': WHATEVER THE INPUT: true; the input reads as it did. -/
def merkleHalvesSpec : ChangeSpec := { name := "merkleHalves", fn := fun _ => fun
  | [d1, d2] => { results := [.lit (.bool true)], args := [d1, d2] }
  | _ => none }
def merkleHalvesRow : OpenClaim := { program := "ytcmihfanlconhab", sum := "72bb162780ac5d0c01ba1917f08854b3e1bb305c24e707ee425ef5f9f7d32371", func := "folkmoot/folkmootlaw4.MerkleHalves", spec := "merkleHalves", unfollowed := true, recurses := true, apart := false }
def MerkleHalvesSaid : Prop := merkleHalvesRow.holds Try.pinned (OpenSpec.ofChange merkleHalvesSpec)

/-- ITS FALSE NEIGHBOUR: 'it returns false'. Refute it at one input. -/
def merkleHalvesWrong : ChangeSpec := { name := "merkleHalves", fn := fun _ => fun
  | [d1, d2] => { results := [.lit (.bool false)], args := [d1, d2] }
  | _ => none }
def MerkleHalvesWrongFalsely : Prop := merkleHalvesRow.holds Try.pinned (OpenSpec.ofChange merkleHalvesWrong)

/-- 'folkmootlaw4.MerkleLeaf': WHATEVER THE INPUT: true; the input reads as it did. -/
def merkleLeafSpec : ChangeSpec := { name := "merkleLeaf", fn := fun _ => fun
  | [d1, d2, d3, d4] => { results := [.lit (.bool true)], args := [d1, d2, d3, d4] }
  | _ => none }
def merkleLeafRow : OpenClaim := { program := "ytcmihfanlconhab", sum := "72bb162780ac5d0c01ba1917f08854b3e1bb305c24e707ee425ef5f9f7d32371", func := "folkmoot/folkmootlaw4.MerkleLeaf", spec := "merkleLeaf", unfollowed := true, recurses := true, apart := false }
def MerkleLeafSaid : Prop := merkleLeafRow.holds Try.pinned (OpenSpec.ofChange merkleLeafSpec)

/-- ITS FALSE NEIGHBOUR: 'it returns false'. Refute it at one input. -/
def merkleLeafWrong : ChangeSpec := { name := "merkleLeaf", fn := fun _ => fun
  | [d1, d2, d3, d4] => { results := [.lit (.bool false)], args := [d1, d2, d3, d4] }
  | _ => none }
def MerkleLeafWrongFalsely : Prop := merkleLeafRow.holds Try.pinned (OpenSpec.ofChange merkleLeafWrong)

/-- 'folkmootlaw3.OtsAny': WHATEVER THE INPUT: true; the input reads as it did. -/
def otsAnySpec : ChangeSpec := { name := "otsAny", fn := fun _ => fun
  | [d1, d2, d3] => { results := [.lit (.bool true)], args := [d1, d2, d3] }
  | _ => none }
def otsAnyRow : OpenClaim := { program := "ytcmihfanlconhab", sum := "72bb162780ac5d0c01ba1917f08854b3e1bb305c24e707ee425ef5f9f7d32371", func := "folkmoot/folkmootlaw3.OtsAny", spec := "otsAny", unfollowed := true, recurses := true, apart := false }
def OtsAnySaid : Prop := otsAnyRow.holds Try.pinned (OpenSpec.ofChange otsAnySpec)

/-- ITS FALSE NEIGHBOUR: 'it returns false'. Refute it at one input. -/
def otsAnyWrong : ChangeSpec := { name := "otsAny", fn := fun _ => fun
  | [d1, d2, d3] => { results := [.lit (.bool false)], args := [d1, d2, d3] }
  | _ => none }
def OtsAnyWrongFalsely : Prop := otsAnyRow.holds Try.pinned (OpenSpec.ofChange otsAnyWrong)

/- THE SECOND FORM. 'bulk': how many values and letters a reading holds, each counted each time it is reached (what is shared counts as often as it is met; a slice's spare places count too). A statement '..UptoSaid' is the law's where the arguments, and the package variables that the reading takes, are together of bulk at most 1048576: NARROWER than '..Said'. Prove '..Said' where nothing that the law and all that it calls make is longer than what came in: it says more and counts as full. Else prove '..UptoSaid'. A law counts once. -/
mutual
def uptoBulk {H : Type} : DataW H → Nat
  | .lit (.string bytes) => bytes.length + 1
  | .lit _ => 1
  | .nil => 1
  | .ptr d => uptoBulk d + 1
  | .slice elems spare => uptoBulkAll elems + uptoBulkAll spare + 1
  | .agg parts => uptoBulkAll parts + 1
  | .iface _ d => uptoBulk d + 1
  | .map entries => uptoBulkEntries entries + 1
  | .held _ => 1
def uptoBulkAll {H : Type} : List (DataW H) → Nat
  | [] => 0
  | d :: r => uptoBulk d + uptoBulkAll r
def uptoBulkEntries {H : Type} : List (Lit × DataW H) → Nat
  | [] => 0
  | x :: r => uptoBulkEntry x + uptoBulkEntries r
def uptoBulkEntry {H : Type} : Lit × DataW H → Nat
  | (.string bytes, d) => bytes.length + uptoBulk d + 1
  | (_, d) => uptoBulk d + 1
 end
def uptoSmall : (H : Type) → List (DataW H) → Bool := fun _ ds => decide (uptoBulkAll ds ≤ 1048576)
def OpenSpec.upto (s : _root_.Go.ChangeSpec) : _root_.Go.OpenSpec := { _root_.Go.OpenSpec.ofChange s with cond := some uptoSmall }

/-- 'folkmootlaw7.BoxWords', WHERE WHAT IT READS IS OF BULK AT MOST 1048576: true; the input reads as it did. -/
def boxWordsUptoRow : OpenClaim := { program := "ytcmihfanlconhab", sum := "72bb162780ac5d0c01ba1917f08854b3e1bb305c24e707ee425ef5f9f7d32371", func := "folkmoot/folkmootlaw7.BoxWords", spec := "boxWords", apart := false, narrowed := true }
def BoxWordsUptoSaid : Prop := boxWordsUptoRow.holds Try.pinned (OpenSpec.upto boxWordsSpec)

/-- 'folkmootlaw4.MerkleAny', WHERE WHAT IT READS IS OF BULK AT MOST 1048576: true; the input reads as it did. -/
def merkleAnyUptoRow : OpenClaim := { program := "ytcmihfanlconhab", sum := "72bb162780ac5d0c01ba1917f08854b3e1bb305c24e707ee425ef5f9f7d32371", func := "folkmoot/folkmootlaw4.MerkleAny", spec := "merkleAny", unfollowed := true, recurses := true, apart := false, narrowed := true }
def MerkleAnyUptoSaid : Prop := merkleAnyUptoRow.holds Try.pinned (OpenSpec.upto merkleAnySpec)

/-- 'folkmootlaw4.MerkleHolds', WHERE WHAT IT READS IS OF BULK AT MOST 1048576: true; the input reads as it did. -/
def merkleHoldsUptoRow : OpenClaim := { program := "ytcmihfanlconhab", sum := "72bb162780ac5d0c01ba1917f08854b3e1bb305c24e707ee425ef5f9f7d32371", func := "folkmoot/folkmootlaw4.MerkleHolds", spec := "merkleHolds", unfollowed := true, recurses := true, apart := false, narrowed := true }
def MerkleHoldsUptoSaid : Prop := merkleHoldsUptoRow.holds Try.pinned (OpenSpec.upto merkleHoldsSpec)

/-- 'folkmootlaw4.MerkleHalves', WHERE WHAT IT READS IS OF BULK AT MOST 1048576: true; the input reads as it did. -/
def merkleHalvesUptoRow : OpenClaim := { program := "ytcmihfanlconhab", sum := "72bb162780ac5d0c01ba1917f08854b3e1bb305c24e707ee425ef5f9f7d32371", func := "folkmoot/folkmootlaw4.MerkleHalves", spec := "merkleHalves", unfollowed := true, recurses := true, apart := false, narrowed := true }
def MerkleHalvesUptoSaid : Prop := merkleHalvesUptoRow.holds Try.pinned (OpenSpec.upto merkleHalvesSpec)

/-- 'folkmootlaw4.MerkleLeaf', WHERE WHAT IT READS IS OF BULK AT MOST 1048576: true; the input reads as it did. -/
def merkleLeafUptoRow : OpenClaim := { program := "ytcmihfanlconhab", sum := "72bb162780ac5d0c01ba1917f08854b3e1bb305c24e707ee425ef5f9f7d32371", func := "folkmoot/folkmootlaw4.MerkleLeaf", spec := "merkleLeaf", unfollowed := true, recurses := true, apart := false, narrowed := true }
def MerkleLeafUptoSaid : Prop := merkleLeafUptoRow.holds Try.pinned (OpenSpec.upto merkleLeafSpec)

/-- 'folkmootlaw3.OtsAny', WHERE WHAT IT READS IS OF BULK AT MOST 1048576: true; the input reads as it did. -/
def otsAnyUptoRow : OpenClaim := { program := "ytcmihfanlconhab", sum := "72bb162780ac5d0c01ba1917f08854b3e1bb305c24e707ee425ef5f9f7d32371", func := "folkmoot/folkmootlaw3.OtsAny", spec := "otsAny", unfollowed := true, recurses := true, apart := false, narrowed := true }
def OtsAnyUptoSaid : Prop := otsAnyUptoRow.holds Try.pinned (OpenSpec.upto otsAnySpec)

end Rows
end Go.Proofs.Ytcmihfanlconhab
