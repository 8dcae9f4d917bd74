/-
  No cell of these rows narrows 'for every input' (looked for: loops, veiled, ifaces, maps, wideKeys, modest, calm, conditions, laid).
  DERIVED. THE GIVEN ROWS OF THIS SEAT. 6 by the template 'for every input the law returns true; each argument reads behind the call as it read before'; 0 by the template 'total and deterministic' (their statements: YtcmihfanlconhaaTotals.lean).
  GIVEN WITH THE SEED: the statements are not yours to turn. If you find one false, say at which input.
  Laid BY PROGRAM, IN A SANDBOX (cutbox-rows.mjs): the forced cells as the released guide's own fill.sh prints them over the translation 1043be5f1b467394… (all of the seat's roots in one cut). By AI agents, Wed Nov 11 2026. No macro, syntax, notation, axiom, sorry.
-/
import Derived.Test.YtcmihfanlconhaaChecked
import GoSem.Claim
import GoSem.ClaimJoined
import GoSem.ClaimMapViews
import Derived.JoinedTies
import Derived.KernelRfl
namespace Go.Proofs.Ytcmihfanlconhaa
/- THE CELL 'sum', in the pinned program and in every row, IS THE sha256 OF THE DUMP (.gsa) THAT YtcmihfanlconhaaProg.lean LOADS. Nothing in Lean hashes anything: it is a label: what it is worth is what the hold of that sum in a sandbox is worth. -/
noncomputable def Try.pinned : Pinned := { name := "ytcmihfanlconhaa", sum := "1043be5f1b4673945acc1bec63f70c3c3788b8a3b63b75601e972d092f69800b", checked := Try.checked }
namespace Rows
def none {H : Type} : Left H := { results := [], args := [] }

/-- 'folkmootlaw10.ClockPlays': WHATEVER THE INPUT: true; the input reads as it did. -/
def clockPlaysSpec : ChangeSpec := { name := "clockPlays", fn := fun _ => fun
  | [d1, d2] => { results := [.lit (.bool true)], args := [d1, d2] }
  | _ => none }
def clockPlaysRow : OpenClaim := { program := "ytcmihfanlconhaa", sum := "1043be5f1b4673945acc1bec63f70c3c3788b8a3b63b75601e972d092f69800b", func := "folkmoot/folkmootlaw10.ClockPlays", spec := "clockPlays", apart := false }
def ClockPlaysSaid : Prop := clockPlaysRow.holds Try.pinned (OpenSpec.ofChange clockPlaysSpec)

/-- ITS FALSE NEIGHBOUR: 'it returns false'. Refute it at one input. -/
def clockPlaysWrong : ChangeSpec := { name := "clockPlays", fn := fun _ => fun
  | [d1, d2] => { results := [.lit (.bool false)], args := [d1, d2] }
  | _ => none }
def ClockPlaysWrongFalsely : Prop := clockPlaysRow.holds Try.pinned (OpenSpec.ofChange clockPlaysWrong)

/-- 'folkmootlaw10.ClockRises': WHATEVER THE INPUT: true; the input reads as it did. -/
def clockRisesSpec : ChangeSpec := { name := "clockRises", fn := fun _ => fun
  | [d1, d2] => { results := [.lit (.bool true)], args := [d1, d2] }
  | _ => none }
def clockRisesRow : OpenClaim := { program := "ytcmihfanlconhaa", sum := "1043be5f1b4673945acc1bec63f70c3c3788b8a3b63b75601e972d092f69800b", func := "folkmoot/folkmootlaw10.ClockRises", spec := "clockRises", apart := false }
def ClockRisesSaid : Prop := clockRisesRow.holds Try.pinned (OpenSpec.ofChange clockRisesSpec)

/-- ITS FALSE NEIGHBOUR: 'it returns false'. Refute it at one input. -/
def clockRisesWrong : ChangeSpec := { name := "clockRises", fn := fun _ => fun
  | [d1, d2] => { results := [.lit (.bool false)], args := [d1, d2] }
  | _ => none }
def ClockRisesWrongFalsely : Prop := clockRisesRow.holds Try.pinned (OpenSpec.ofChange clockRisesWrong)

/-- 'folkmootlaw10.ClockEnds': WHATEVER THE INPUT: true; the input reads as it did. -/
def clockEndsSpec : ChangeSpec := { name := "clockEnds", fn := fun _ => fun
  | [d1, d2] => { results := [.lit (.bool true)], args := [d1, d2] }
  | _ => none }
def clockEndsRow : OpenClaim := { program := "ytcmihfanlconhaa", sum := "1043be5f1b4673945acc1bec63f70c3c3788b8a3b63b75601e972d092f69800b", func := "folkmoot/folkmootlaw10.ClockEnds", spec := "clockEnds", apart := false }
def ClockEndsSaid : Prop := clockEndsRow.holds Try.pinned (OpenSpec.ofChange clockEndsSpec)

/-- ITS FALSE NEIGHBOUR: 'it returns false'. Refute it at one input. -/
def clockEndsWrong : ChangeSpec := { name := "clockEnds", fn := fun _ => fun
  | [d1, d2] => { results := [.lit (.bool false)], args := [d1, d2] }
  | _ => none }
def ClockEndsWrongFalsely : Prop := clockEndsRow.holds Try.pinned (OpenSpec.ofChange clockEndsWrong)

/-- 'folkmootlaw8.WalPlays': WHATEVER THE INPUT: true; the input reads as it did. -/
def walPlaysSpec : ChangeSpec := { name := "walPlays", fn := fun _ => fun
  | [d1, d2] => { results := [.lit (.bool true)], args := [d1, d2] }
  | _ => none }
def walPlaysRow : OpenClaim := { program := "ytcmihfanlconhaa", sum := "1043be5f1b4673945acc1bec63f70c3c3788b8a3b63b75601e972d092f69800b", func := "folkmoot/folkmootlaw8.WalPlays", spec := "walPlays", apart := false }
def WalPlaysSaid : Prop := walPlaysRow.holds Try.pinned (OpenSpec.ofChange walPlaysSpec)

/-- ITS FALSE NEIGHBOUR: 'it returns false'. Refute it at one input. -/
def walPlaysWrong : ChangeSpec := { name := "walPlays", fn := fun _ => fun
  | [d1, d2] => { results := [.lit (.bool false)], args := [d1, d2] }
  | _ => none }
def WalPlaysWrongFalsely : Prop := walPlaysRow.holds Try.pinned (OpenSpec.ofChange walPlaysWrong)

/-- 'folkmootlaw8.WalFronts': WHATEVER THE INPUT: true; the input reads as it did. -/
def walFrontsSpec : ChangeSpec := { name := "walFronts", fn := fun _ => fun
  | [d1, d2, d3, d4] => { results := [.lit (.bool true)], args := [d1, d2, d3, d4] }
  | _ => none }
def walFrontsRow : OpenClaim := { program := "ytcmihfanlconhaa", sum := "1043be5f1b4673945acc1bec63f70c3c3788b8a3b63b75601e972d092f69800b", func := "folkmoot/folkmootlaw8.WalFronts", spec := "walFronts", apart := false }
def WalFrontsSaid : Prop := walFrontsRow.holds Try.pinned (OpenSpec.ofChange walFrontsSpec)

/-- ITS FALSE NEIGHBOUR: 'it returns false'. Refute it at one input. -/
def walFrontsWrong : ChangeSpec := { name := "walFronts", fn := fun _ => fun
  | [d1, d2, d3, d4] => { results := [.lit (.bool false)], args := [d1, d2, d3, d4] }
  | _ => none }
def WalFrontsWrongFalsely : Prop := walFrontsRow.holds Try.pinned (OpenSpec.ofChange walFrontsWrong)

/-- 'folkmootlaw7.BoxPlays': WHATEVER THE INPUT: true; the input reads as it did. -/
def boxPlaysSpec : ChangeSpec := { name := "boxPlays", fn := fun _ => fun
  | [d1, d2, d3] => { results := [.lit (.bool true)], args := [d1, d2, d3] }
  | _ => none }
def boxPlaysRow : OpenClaim := { program := "ytcmihfanlconhaa", sum := "1043be5f1b4673945acc1bec63f70c3c3788b8a3b63b75601e972d092f69800b", func := "folkmoot/folkmootlaw7.BoxPlays", spec := "boxPlays", apart := false }
def BoxPlaysSaid : Prop := boxPlaysRow.holds Try.pinned (OpenSpec.ofChange boxPlaysSpec)

/-- ITS FALSE NEIGHBOUR: 'it returns false'. Refute it at one input. -/
def boxPlaysWrong : ChangeSpec := { name := "boxPlays", fn := fun _ => fun
  | [d1, d2, d3] => { results := [.lit (.bool false)], args := [d1, d2, d3] }
  | _ => none }
def BoxPlaysWrongFalsely : Prop := boxPlaysRow.holds Try.pinned (OpenSpec.ofChange boxPlaysWrong)

/- THE SECOND FORM. 'bulk': how many values and letters a reading holds, each counted each time it is reached (what is shared counts as often as it is met; a slice's spare places count too). A statement '..UptoSaid' is the law's where the arguments, and the package variables that the reading takes, are together of bulk at most 1048576: NARROWER than '..Said'. Prove '..Said' where nothing that the law and all that it calls make is longer than what came in: it says more and counts as full. Else prove '..UptoSaid'. A law counts once. -/
mutual
def uptoBulk {H : Type} : DataW H → Nat
  | .lit (.string bytes) => bytes.length + 1
  | .lit _ => 1
  | .nil => 1
  | .ptr d => uptoBulk d + 1
  | .slice elems spare => uptoBulkAll elems + uptoBulkAll spare + 1
  | .agg parts => uptoBulkAll parts + 1
  | .iface _ d => uptoBulk d + 1
  | .map entries => uptoBulkEntries entries + 1
  | .held _ => 1
def uptoBulkAll {H : Type} : List (DataW H) → Nat
  | [] => 0
  | d :: r => uptoBulk d + uptoBulkAll r
def uptoBulkEntries {H : Type} : List (Lit × DataW H) → Nat
  | [] => 0
  | x :: r => uptoBulkEntry x + uptoBulkEntries r
def uptoBulkEntry {H : Type} : Lit × DataW H → Nat
  | (.string bytes, d) => bytes.length + uptoBulk d + 1
  | (_, d) => uptoBulk d + 1
 end
def uptoSmall : (H : Type) → List (DataW H) → Bool := fun _ ds => decide (uptoBulkAll ds ≤ 1048576)
def OpenSpec.upto (s : _root_.Go.ChangeSpec) : _root_.Go.OpenSpec := { _root_.Go.OpenSpec.ofChange s with cond := some uptoSmall }

/-- 'folkmootlaw10.ClockPlays', WHERE WHAT IT READS IS OF BULK AT MOST 1048576: true; the input reads as it did. -/
def clockPlaysUptoRow : OpenClaim := { program := "ytcmihfanlconhaa", sum := "1043be5f1b4673945acc1bec63f70c3c3788b8a3b63b75601e972d092f69800b", func := "folkmoot/folkmootlaw10.ClockPlays", spec := "clockPlays", apart := false, narrowed := true }
def ClockPlaysUptoSaid : Prop := clockPlaysUptoRow.holds Try.pinned (OpenSpec.upto clockPlaysSpec)

/-- 'folkmootlaw10.ClockRises', WHERE WHAT IT READS IS OF BULK AT MOST 1048576: true; the input reads as it did. -/
def clockRisesUptoRow : OpenClaim := { program := "ytcmihfanlconhaa", sum := "1043be5f1b4673945acc1bec63f70c3c3788b8a3b63b75601e972d092f69800b", func := "folkmoot/folkmootlaw10.ClockRises", spec := "clockRises", apart := false, narrowed := true }
def ClockRisesUptoSaid : Prop := clockRisesUptoRow.holds Try.pinned (OpenSpec.upto clockRisesSpec)

/-- 'folkmootlaw10.ClockEnds', WHERE WHAT IT READS IS OF BULK AT MOST 1048576: true; the input reads as it did. -/
def clockEndsUptoRow : OpenClaim := { program := "ytcmihfanlconhaa", sum := "1043be5f1b4673945acc1bec63f70c3c3788b8a3b63b75601e972d092f69800b", func := "folkmoot/folkmootlaw10.ClockEnds", spec := "clockEnds", apart := false, narrowed := true }
def ClockEndsUptoSaid : Prop := clockEndsUptoRow.holds Try.pinned (OpenSpec.upto clockEndsSpec)

/-- 'folkmootlaw8.WalPlays', WHERE WHAT IT READS IS OF BULK AT MOST 1048576: true; the input reads as it did. -/
def walPlaysUptoRow : OpenClaim := { program := "ytcmihfanlconhaa", sum := "1043be5f1b4673945acc1bec63f70c3c3788b8a3b63b75601e972d092f69800b", func := "folkmoot/folkmootlaw8.WalPlays", spec := "walPlays", apart := false, narrowed := true }
def WalPlaysUptoSaid : Prop := walPlaysUptoRow.holds Try.pinned (OpenSpec.upto walPlaysSpec)

/-- 'folkmootlaw8.WalFronts', WHERE WHAT IT READS IS OF BULK AT MOST 1048576: true; the input reads as it did. -/
def walFrontsUptoRow : OpenClaim := { program := "ytcmihfanlconhaa", sum := "1043be5f1b4673945acc1bec63f70c3c3788b8a3b63b75601e972d092f69800b", func := "folkmoot/folkmootlaw8.WalFronts", spec := "walFronts", apart := false, narrowed := true }
def WalFrontsUptoSaid : Prop := walFrontsUptoRow.holds Try.pinned (OpenSpec.upto walFrontsSpec)

/-- 'folkmootlaw7.BoxPlays', WHERE WHAT IT READS IS OF BULK AT MOST 1048576: true; the input reads as it did. -/
def boxPlaysUptoRow : OpenClaim := { program := "ytcmihfanlconhaa", sum := "1043be5f1b4673945acc1bec63f70c3c3788b8a3b63b75601e972d092f69800b", func := "folkmoot/folkmootlaw7.BoxPlays", spec := "boxPlays", apart := false, narrowed := true }
def BoxPlaysUptoSaid : Prop := boxPlaysUptoRow.holds Try.pinned (OpenSpec.upto boxPlaysSpec)

end Rows
end Go.Proofs.Ytcmihfanlconhaa
