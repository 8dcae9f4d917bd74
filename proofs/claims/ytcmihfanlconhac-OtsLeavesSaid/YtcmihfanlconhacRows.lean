/-
  No cell of these rows narrows 'for every input' (looked for: loops, veiled, ifaces, maps, wideKeys, modest, calm, conditions, laid).
  DERIVED. THE GIVEN ROWS OF THIS SEAT. 5 by the template 'for every input the law returns true; each argument reads behind the call as it read before'; 0 by the template 'total and deterministic' (their statements: YtcmihfanlconhacTotals.lean).
  GIVEN WITH THE SEED: the statements are not yours to turn. If you find one false, say at which input.
  Laid BY PROGRAM, IN A SANDBOX (cutbox-rows.mjs): the forced cells as the released guide's own fill.sh prints them over the translation 20de1d6658d3177e… (all of the seat's roots in one cut). By AI agents, Wed Nov 11 2026. No macro, syntax, notation, axiom, sorry.
-/
import Derived.Test.YtcmihfanlconhacChecked
import GoSem.Claim
import GoSem.ClaimJoined
import GoSem.ClaimMapViews
import Derived.JoinedTies
import Derived.KernelRfl
namespace Go.Proofs.Ytcmihfanlconhac
/- THE CELL 'sum', in the pinned program and in every row, IS THE sha256 OF THE DUMP (.gsa) THAT YtcmihfanlconhacProg.lean LOADS. Nothing in Lean hashes anything: it is a label: what it is worth is what the hold of that sum in a sandbox is worth. -/
noncomputable def Try.pinned : Pinned := { name := "ytcmihfanlconhac", sum := "20de1d6658d3177eb74aa5fd4ed3bd2ff97faf04877aa60fd3d2826634788bac", checked := Try.checked }
namespace Rows
def none {H : Type} : Left H := { results := [], args := [] }

/-- 'folkmootlaw3.OtsHolds': WHATEVER THE INPUT: true; the input reads as it did. -/
def otsHoldsSpec : ChangeSpec := { name := "otsHolds", fn := fun _ => fun
  | [d1, d2] => { results := [.lit (.bool true)], args := [d1, d2] }
  | _ => none }
def otsHoldsRow : OpenClaim := { program := "ytcmihfanlconhac", sum := "20de1d6658d3177eb74aa5fd4ed3bd2ff97faf04877aa60fd3d2826634788bac", func := "folkmoot/folkmootlaw3.OtsHolds", spec := "otsHolds", unfollowed := true, recurses := true, apart := false }
def OtsHoldsSaid : Prop := otsHoldsRow.holds Try.pinned (OpenSpec.ofChange otsHoldsSpec)

/-- ITS FALSE NEIGHBOUR: 'it returns false'. Refute it at one input. -/
def otsHoldsWrong : ChangeSpec := { name := "otsHolds", fn := fun _ => fun
  | [d1, d2] => { results := [.lit (.bool false)], args := [d1, d2] }
  | _ => none }
def OtsHoldsWrongFalsely : Prop := otsHoldsRow.holds Try.pinned (OpenSpec.ofChange otsHoldsWrong)

/-- 'folkmootlaw3.OtsSums': WHATEVER THE INPUT: true; the input reads as it did. -/
def otsSumsSpec : ChangeSpec := { name := "otsSums", fn := fun _ => fun
  | [d1, d2] => { results := [.lit (.bool true)], args := [d1, d2] }
  | _ => none }
def otsSumsRow : OpenClaim := { program := "ytcmihfanlconhac", sum := "20de1d6658d3177eb74aa5fd4ed3bd2ff97faf04877aa60fd3d2826634788bac", func := "folkmoot/folkmootlaw3.OtsSums", spec := "otsSums", unfollowed := true, recurses := true, apart := false }
def OtsSumsSaid : Prop := otsSumsRow.holds Try.pinned (OpenSpec.ofChange otsSumsSpec)

/-- ITS FALSE NEIGHBOUR: 'it returns false'. Refute it at one input. -/
def otsSumsWrong : ChangeSpec := { name := "otsSums", fn := fun _ => fun
  | [d1, d2] => { results := [.lit (.bool false)], args := [d1, d2] }
  | _ => none }
def OtsSumsWrongFalsely : Prop := otsSumsRow.holds Try.pinned (OpenSpec.ofChange otsSumsWrong)

/-- 'folkmootlaw3.OtsRaw': WHATEVER THE INPUT: true; the input reads as it did. -/
def otsRawSpec : ChangeSpec := { name := "otsRaw", fn := fun _ => fun
  | [d1, d2, d3] => { results := [.lit (.bool true)], args := [d1, d2, d3] }
  | _ => none }
def otsRawRow : OpenClaim := { program := "ytcmihfanlconhac", sum := "20de1d6658d3177eb74aa5fd4ed3bd2ff97faf04877aa60fd3d2826634788bac", func := "folkmoot/folkmootlaw3.OtsRaw", spec := "otsRaw", unfollowed := true, recurses := true, apart := false }
def OtsRawSaid : Prop := otsRawRow.holds Try.pinned (OpenSpec.ofChange otsRawSpec)

/-- ITS FALSE NEIGHBOUR: 'it returns false'. Refute it at one input. -/
def otsRawWrong : ChangeSpec := { name := "otsRaw", fn := fun _ => fun
  | [d1, d2, d3] => { results := [.lit (.bool false)], args := [d1, d2, d3] }
  | _ => none }
def OtsRawWrongFalsely : Prop := otsRawRow.holds Try.pinned (OpenSpec.ofChange otsRawWrong)

/-- 'folkmootlaw3.OtsChains': WHATEVER THE INPUT: true; the input reads as it did. -/
def otsChainsSpec : ChangeSpec := { name := "otsChains", fn := fun _ => fun
  | [d1, d2, d3] => { results := [.lit (.bool true)], args := [d1, d2, d3] }
  | _ => none }
def otsChainsRow : OpenClaim := { program := "ytcmihfanlconhac", sum := "20de1d6658d3177eb74aa5fd4ed3bd2ff97faf04877aa60fd3d2826634788bac", func := "folkmoot/folkmootlaw3.OtsChains", spec := "otsChains", unfollowed := true, recurses := true, apart := false }
def OtsChainsSaid : Prop := otsChainsRow.holds Try.pinned (OpenSpec.ofChange otsChainsSpec)

/-- ITS FALSE NEIGHBOUR: 'it returns false'. Refute it at one input. -/
def otsChainsWrong : ChangeSpec := { name := "otsChains", fn := fun _ => fun
  | [d1, d2, d3] => { results := [.lit (.bool false)], args := [d1, d2, d3] }
  | _ => none }
def OtsChainsWrongFalsely : Prop := otsChainsRow.holds Try.pinned (OpenSpec.ofChange otsChainsWrong)

/-- 'folkmootlaw3.OtsLeaves': WHATEVER THE INPUT: true; the input reads as it did. -/
def otsLeavesSpec : ChangeSpec := { name := "otsLeaves", fn := fun _ => fun
  | [d1, d2, d3] => { results := [.lit (.bool true)], args := [d1, d2, d3] }
  | _ => none }
def otsLeavesRow : OpenClaim := { program := "ytcmihfanlconhac", sum := "20de1d6658d3177eb74aa5fd4ed3bd2ff97faf04877aa60fd3d2826634788bac", func := "folkmoot/folkmootlaw3.OtsLeaves", spec := "otsLeaves", unfollowed := true, recurses := true, apart := false }
def OtsLeavesSaid : Prop := otsLeavesRow.holds Try.pinned (OpenSpec.ofChange otsLeavesSpec)

/-- ITS FALSE NEIGHBOUR: 'it returns false'. Refute it at one input. -/
def otsLeavesWrong : ChangeSpec := { name := "otsLeaves", fn := fun _ => fun
  | [d1, d2, d3] => { results := [.lit (.bool false)], args := [d1, d2, d3] }
  | _ => none }
def OtsLeavesWrongFalsely : Prop := otsLeavesRow.holds Try.pinned (OpenSpec.ofChange otsLeavesWrong)

/- THE SECOND FORM. 'bulk': how many values and letters a reading holds, each counted each time it is reached (what is shared counts as often as it is met; a slice's spare places count too). A statement '..UptoSaid' is the law's where the arguments, and the package variables that the reading takes, are together of bulk at most 1048576: NARROWER than '..Said'. Prove '..Said' where nothing that the law and all that it calls make is longer than what came in: it says more and counts as full. Else prove '..UptoSaid'. A law counts once. -/
mutual
def uptoBulk {H : Type} : DataW H → Nat
  | .lit (.string bytes) => bytes.length + 1
  | .lit _ => 1
  | .nil => 1
  | .ptr d => uptoBulk d + 1
  | .slice elems spare => uptoBulkAll elems + uptoBulkAll spare + 1
  | .agg parts => uptoBulkAll parts + 1
  | .iface _ d => uptoBulk d + 1
  | .map entries => uptoBulkEntries entries + 1
  | .held _ => 1
def uptoBulkAll {H : Type} : List (DataW H) → Nat
  | [] => 0
  | d :: r => uptoBulk d + uptoBulkAll r
def uptoBulkEntries {H : Type} : List (Lit × DataW H) → Nat
  | [] => 0
  | x :: r => uptoBulkEntry x + uptoBulkEntries r
def uptoBulkEntry {H : Type} : Lit × DataW H → Nat
  | (.string bytes, d) => bytes.length + uptoBulk d + 1
  | (_, d) => uptoBulk d + 1
 end
def uptoSmall : (H : Type) → List (DataW H) → Bool := fun _ ds => decide (uptoBulkAll ds ≤ 1048576)
def OpenSpec.upto (s : _root_.Go.ChangeSpec) : _root_.Go.OpenSpec := { _root_.Go.OpenSpec.ofChange s with cond := some uptoSmall }

/-- 'folkmootlaw3.OtsHolds', WHERE WHAT IT READS IS OF BULK AT MOST 1048576: true; the input reads as it did. -/
def otsHoldsUptoRow : OpenClaim := { program := "ytcmihfanlconhac", sum := "20de1d6658d3177eb74aa5fd4ed3bd2ff97faf04877aa60fd3d2826634788bac", func := "folkmoot/folkmootlaw3.OtsHolds", spec := "otsHolds", unfollowed := true, recurses := true, apart := false, narrowed := true }
def OtsHoldsUptoSaid : Prop := otsHoldsUptoRow.holds Try.pinned (OpenSpec.upto otsHoldsSpec)

/-- 'folkmootlaw3.OtsSums', WHERE WHAT IT READS IS OF BULK AT MOST 1048576: true; the input reads as it did. -/
def otsSumsUptoRow : OpenClaim := { program := "ytcmihfanlconhac", sum := "20de1d6658d3177eb74aa5fd4ed3bd2ff97faf04877aa60fd3d2826634788bac", func := "folkmoot/folkmootlaw3.OtsSums", spec := "otsSums", unfollowed := true, recurses := true, apart := false, narrowed := true }
def OtsSumsUptoSaid : Prop := otsSumsUptoRow.holds Try.pinned (OpenSpec.upto otsSumsSpec)

/-- 'folkmootlaw3.OtsRaw', WHERE WHAT IT READS IS OF BULK AT MOST 1048576: true; the input reads as it did. -/
def otsRawUptoRow : OpenClaim := { program := "ytcmihfanlconhac", sum := "20de1d6658d3177eb74aa5fd4ed3bd2ff97faf04877aa60fd3d2826634788bac", func := "folkmoot/folkmootlaw3.OtsRaw", spec := "otsRaw", unfollowed := true, recurses := true, apart := false, narrowed := true }
def OtsRawUptoSaid : Prop := otsRawUptoRow.holds Try.pinned (OpenSpec.upto otsRawSpec)

/-- 'folkmootlaw3.OtsChains', WHERE WHAT IT READS IS OF BULK AT MOST 1048576: true; the input reads as it did. -/
def otsChainsUptoRow : OpenClaim := { program := "ytcmihfanlconhac", sum := "20de1d6658d3177eb74aa5fd4ed3bd2ff97faf04877aa60fd3d2826634788bac", func := "folkmoot/folkmootlaw3.OtsChains", spec := "otsChains", unfollowed := true, recurses := true, apart := false, narrowed := true }
def OtsChainsUptoSaid : Prop := otsChainsUptoRow.holds Try.pinned (OpenSpec.upto otsChainsSpec)

/-- 'folkmootlaw3.OtsLeaves', WHERE WHAT IT READS IS OF BULK AT MOST 1048576: true; the input reads as it did. -/
def otsLeavesUptoRow : OpenClaim := { program := "ytcmihfanlconhac", sum := "20de1d6658d3177eb74aa5fd4ed3bd2ff97faf04877aa60fd3d2826634788bac", func := "folkmoot/folkmootlaw3.OtsLeaves", spec := "otsLeaves", unfollowed := true, recurses := true, apart := false, narrowed := true }
def OtsLeavesUptoSaid : Prop := otsLeavesUptoRow.holds Try.pinned (OpenSpec.upto otsLeavesSpec)

end Rows
end Go.Proofs.Ytcmihfanlconhac
