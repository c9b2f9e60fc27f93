/-
  No cell of these rows narrows 'for every input' (looked for: loops, veiled, ifaces, maps, wideKeys, modest, calm, conditions, laid).
  DERIVED. THE GIVEN ROWS OF THIS SEAT. 7 by the template 'for every input the law returns true; each argument reads behind the call as it read before'; 0 by the template 'total and deterministic' (their statements: YtblejpiddjfabaaTotals.lean).
  GIVEN WITH THE SEED: the statements are not yours to turn. If you find one false, say at which input.
  Laid BY PROGRAM, IN A SANDBOX (cutbox-rows.mjs): the forced cells as the released guide's own fill.sh prints them over the translation 7a82c04f020fb723… (all of the seat's roots in one cut). By AI agents, Wed Nov 11 2026. No macro, syntax, notation, axiom, sorry.
-/
import Derived.Test.YtblejpiddjfabaaChecked
import GoSem.Claim
import GoSem.ClaimJoined
import GoSem.ClaimMapViews
import Derived.JoinedTies
import Derived.KernelRfl
namespace Go.Proofs.Ytblejpiddjfabaa
/- THE CELL 'sum', in the pinned program and in every row, IS THE sha256 OF THE DUMP (.gsa) THAT YtblejpiddjfabaaProg.lean LOADS. Nothing in Lean hashes anything: it is a label: what it is worth is what the hold of that sum in a sandbox is worth. -/
noncomputable def Try.pinned : Pinned := { name := "ytblejpiddjfabaa", sum := "7a82c04f020fb723b71971e7f5af234d7d2363c3aafa8ac811dae4f91d8effa1", checked := Try.checked }
namespace Rows
def none {H : Type} : Left H := { results := [], args := [] }

/-- 'humpyardlaw03.HammingCorrects': WHATEVER THE INPUT: true; the input reads as it did. -/
def hammingCorrectsSpec : ChangeSpec := { name := "hammingCorrects", fn := fun _ => fun
  | [d] => { results := [.lit (.bool true)], args := [d] }
  | _ => none }
def hammingCorrectsRow : OpenClaim := { program := "ytblejpiddjfabaa", sum := "7a82c04f020fb723b71971e7f5af234d7d2363c3aafa8ac811dae4f91d8effa1", func := "humpyard/humpyardlaw03.HammingCorrects", spec := "hammingCorrects", apart := false }
def HammingCorrectsSaid : Prop := hammingCorrectsRow.holds Try.pinned (OpenSpec.ofChange hammingCorrectsSpec)

/-- ITS FALSE NEIGHBOUR: 'it returns false'. Refute it at one input. -/
def hammingCorrectsWrong : ChangeSpec := { name := "hammingCorrects", fn := fun _ => fun
  | [d] => { results := [.lit (.bool false)], args := [d] }
  | _ => none }
def HammingCorrectsWrongFalsely : Prop := hammingCorrectsRow.holds Try.pinned (OpenSpec.ofChange hammingCorrectsWrong)

/-- 'humpyardlaw03.HammingFinds': WHATEVER THE INPUT: true; the input reads as it did. -/
def hammingFindsSpec : ChangeSpec := { name := "hammingFinds", fn := fun _ => fun
  | [d] => { results := [.lit (.bool true)], args := [d] }
  | _ => none }
def hammingFindsRow : OpenClaim := { program := "ytblejpiddjfabaa", sum := "7a82c04f020fb723b71971e7f5af234d7d2363c3aafa8ac811dae4f91d8effa1", func := "humpyard/humpyardlaw03.HammingFinds", spec := "hammingFinds", apart := false }
def HammingFindsSaid : Prop := hammingFindsRow.holds Try.pinned (OpenSpec.ofChange hammingFindsSpec)

/-- ITS FALSE NEIGHBOUR: 'it returns false'. Refute it at one input. -/
def hammingFindsWrong : ChangeSpec := { name := "hammingFinds", fn := fun _ => fun
  | [d] => { results := [.lit (.bool false)], args := [d] }
  | _ => none }
def HammingFindsWrongFalsely : Prop := hammingFindsRow.holds Try.pinned (OpenSpec.ofChange hammingFindsWrong)

/-- 'humpyardlaw03.HammingDistance': WHATEVER THE INPUT: true; the input reads as it did. -/
def hammingDistanceSpec : ChangeSpec := { name := "hammingDistance", fn := fun _ => fun
  | [d1, d2] => { results := [.lit (.bool true)], args := [d1, d2] }
  | _ => none }
def hammingDistanceRow : OpenClaim := { program := "ytblejpiddjfabaa", sum := "7a82c04f020fb723b71971e7f5af234d7d2363c3aafa8ac811dae4f91d8effa1", func := "humpyard/humpyardlaw03.HammingDistance", spec := "hammingDistance", apart := false }
def HammingDistanceSaid : Prop := hammingDistanceRow.holds Try.pinned (OpenSpec.ofChange hammingDistanceSpec)

/-- ITS FALSE NEIGHBOUR: 'it returns false'. Refute it at one input. -/
def hammingDistanceWrong : ChangeSpec := { name := "hammingDistance", fn := fun _ => fun
  | [d1, d2] => { results := [.lit (.bool false)], args := [d1, d2] }
  | _ => none }
def HammingDistanceWrongFalsely : Prop := hammingDistanceRow.holds Try.pinned (OpenSpec.ofChange hammingDistanceWrong)

/-- 'humpyardlaw03.HammingLimits': WHATEVER THE INPUT: true; the input reads as it did. -/
def hammingLimitsSpec : ChangeSpec := { name := "hammingLimits", fn := fun _ => fun
  | [d1, d2] => { results := [.lit (.bool true)], args := [d1, d2] }
  | _ => none }
def hammingLimitsRow : OpenClaim := { program := "ytblejpiddjfabaa", sum := "7a82c04f020fb723b71971e7f5af234d7d2363c3aafa8ac811dae4f91d8effa1", func := "humpyard/humpyardlaw03.HammingLimits", spec := "hammingLimits", apart := false }
def HammingLimitsSaid : Prop := hammingLimitsRow.holds Try.pinned (OpenSpec.ofChange hammingLimitsSpec)

/-- ITS FALSE NEIGHBOUR: 'it returns false'. Refute it at one input. -/
def hammingLimitsWrong : ChangeSpec := { name := "hammingLimits", fn := fun _ => fun
  | [d1, d2] => { results := [.lit (.bool false)], args := [d1, d2] }
  | _ => none }
def HammingLimitsWrongFalsely : Prop := hammingLimitsRow.holds Try.pinned (OpenSpec.ofChange hammingLimitsWrong)

/-- 'humpyardlaw03.HammingPacks': WHATEVER THE INPUT: true; the input reads as it did. -/
def hammingPacksSpec : ChangeSpec := { name := "hammingPacks", fn := fun _ => fun
  | [d1, d2] => { results := [.lit (.bool true)], args := [d1, d2] }
  | _ => none }
def hammingPacksRow : OpenClaim := { program := "ytblejpiddjfabaa", sum := "7a82c04f020fb723b71971e7f5af234d7d2363c3aafa8ac811dae4f91d8effa1", func := "humpyard/humpyardlaw03.HammingPacks", spec := "hammingPacks", apart := false }
def HammingPacksSaid : Prop := hammingPacksRow.holds Try.pinned (OpenSpec.ofChange hammingPacksSpec)

/-- ITS FALSE NEIGHBOUR: 'it returns false'. Refute it at one input. -/
def hammingPacksWrong : ChangeSpec := { name := "hammingPacks", fn := fun _ => fun
  | [d1, d2] => { results := [.lit (.bool false)], args := [d1, d2] }
  | _ => none }
def HammingPacksWrongFalsely : Prop := hammingPacksRow.holds Try.pinned (OpenSpec.ofChange hammingPacksWrong)

/-- 'humpyardlaw03.HammingLost': WHATEVER THE INPUT: true; the input reads as it did. -/
def hammingLostSpec : ChangeSpec := { name := "hammingLost", fn := fun _ => fun
  | [d1, d2, d3, d4] => { results := [.lit (.bool true)], args := [d1, d2, d3, d4] }
  | _ => none }
def hammingLostRow : OpenClaim := { program := "ytblejpiddjfabaa", sum := "7a82c04f020fb723b71971e7f5af234d7d2363c3aafa8ac811dae4f91d8effa1", func := "humpyard/humpyardlaw03.HammingLost", spec := "hammingLost", apart := false }
def HammingLostSaid : Prop := hammingLostRow.holds Try.pinned (OpenSpec.ofChange hammingLostSpec)

/-- ITS FALSE NEIGHBOUR: 'it returns false'. Refute it at one input. -/
def hammingLostWrong : ChangeSpec := { name := "hammingLost", fn := fun _ => fun
  | [d1, d2, d3, d4] => { results := [.lit (.bool false)], args := [d1, d2, d3, d4] }
  | _ => none }
def HammingLostWrongFalsely : Prop := hammingLostRow.holds Try.pinned (OpenSpec.ofChange hammingLostWrong)

/-- 'humpyardlaw03.HammingExact': WHATEVER THE INPUT: true; the input reads as it did. -/
def hammingExactSpec : ChangeSpec := { name := "hammingExact", fn := fun _ => fun
  | [d1, d2, d3, d4, d5] => { results := [.lit (.bool true)], args := [d1, d2, d3, d4, d5] }
  | _ => none }
def hammingExactRow : OpenClaim := { program := "ytblejpiddjfabaa", sum := "7a82c04f020fb723b71971e7f5af234d7d2363c3aafa8ac811dae4f91d8effa1", func := "humpyard/humpyardlaw03.HammingExact", spec := "hammingExact", apart := false }
def HammingExactSaid : Prop := hammingExactRow.holds Try.pinned (OpenSpec.ofChange hammingExactSpec)

/-- ITS FALSE NEIGHBOUR: 'it returns false'. Refute it at one input. -/
def hammingExactWrong : ChangeSpec := { name := "hammingExact", fn := fun _ => fun
  | [d1, d2, d3, d4, d5] => { results := [.lit (.bool false)], args := [d1, d2, d3, d4, d5] }
  | _ => none }
def HammingExactWrongFalsely : Prop := hammingExactRow.holds Try.pinned (OpenSpec.ofChange hammingExactWrong)

/- THE SECOND FORM. 'bulk': how many values and letters a reading holds, each counted each time it is reached (what is shared counts as often as it is met; a slice's spare places count too). A statement '..UptoSaid' is the law's where the arguments, and the package variables that the reading takes, are together of bulk at most 1048576: NARROWER than '..Said'. Prove '..Said' where nothing that the law and all that it calls make is longer than what came in: it says more and counts as full. Else prove '..UptoSaid'. A law counts once. -/
mutual
def uptoBulk {H : Type} : DataW H → Nat
  | .lit (.string bytes) => bytes.length + 1
  | .lit _ => 1
  | .nil => 1
  | .ptr d => uptoBulk d + 1
  | .slice elems spare => uptoBulkAll elems + uptoBulkAll spare + 1
  | .agg parts => uptoBulkAll parts + 1
  | .iface _ d => uptoBulk d + 1
  | .map entries => uptoBulkEntries entries + 1
  | .held _ => 1
def uptoBulkAll {H : Type} : List (DataW H) → Nat
  | [] => 0
  | d :: r => uptoBulk d + uptoBulkAll r
def uptoBulkEntries {H : Type} : List (Lit × DataW H) → Nat
  | [] => 0
  | x :: r => uptoBulkEntry x + uptoBulkEntries r
def uptoBulkEntry {H : Type} : Lit × DataW H → Nat
  | (.string bytes, d) => bytes.length + uptoBulk d + 1
  | (_, d) => uptoBulk d + 1
 end
def uptoSmall : (H : Type) → List (DataW H) → Bool := fun _ ds => decide (uptoBulkAll ds ≤ 1048576)
def OpenSpec.upto (s : _root_.Go.ChangeSpec) : _root_.Go.OpenSpec := { _root_.Go.OpenSpec.ofChange s with cond := some uptoSmall }

/-- 'humpyardlaw03.HammingCorrects', WHERE WHAT IT READS IS OF BULK AT MOST 1048576: true; the input reads as it did. -/
def hammingCorrectsUptoRow : OpenClaim := { program := "ytblejpiddjfabaa", sum := "7a82c04f020fb723b71971e7f5af234d7d2363c3aafa8ac811dae4f91d8effa1", func := "humpyard/humpyardlaw03.HammingCorrects", spec := "hammingCorrects", apart := false, narrowed := true }
def HammingCorrectsUptoSaid : Prop := hammingCorrectsUptoRow.holds Try.pinned (OpenSpec.upto hammingCorrectsSpec)

/-- 'humpyardlaw03.HammingFinds', WHERE WHAT IT READS IS OF BULK AT MOST 1048576: true; the input reads as it did. -/
def hammingFindsUptoRow : OpenClaim := { program := "ytblejpiddjfabaa", sum := "7a82c04f020fb723b71971e7f5af234d7d2363c3aafa8ac811dae4f91d8effa1", func := "humpyard/humpyardlaw03.HammingFinds", spec := "hammingFinds", apart := false, narrowed := true }
def HammingFindsUptoSaid : Prop := hammingFindsUptoRow.holds Try.pinned (OpenSpec.upto hammingFindsSpec)

/-- 'humpyardlaw03.HammingDistance', WHERE WHAT IT READS IS OF BULK AT MOST 1048576: true; the input reads as it did. -/
def hammingDistanceUptoRow : OpenClaim := { program := "ytblejpiddjfabaa", sum := "7a82c04f020fb723b71971e7f5af234d7d2363c3aafa8ac811dae4f91d8effa1", func := "humpyard/humpyardlaw03.HammingDistance", spec := "hammingDistance", apart := false, narrowed := true }
def HammingDistanceUptoSaid : Prop := hammingDistanceUptoRow.holds Try.pinned (OpenSpec.upto hammingDistanceSpec)

/-- 'humpyardlaw03.HammingLimits', WHERE WHAT IT READS IS OF BULK AT MOST 1048576: true; the input reads as it did. -/
def hammingLimitsUptoRow : OpenClaim := { program := "ytblejpiddjfabaa", sum := "7a82c04f020fb723b71971e7f5af234d7d2363c3aafa8ac811dae4f91d8effa1", func := "humpyard/humpyardlaw03.HammingLimits", spec := "hammingLimits", apart := false, narrowed := true }
def HammingLimitsUptoSaid : Prop := hammingLimitsUptoRow.holds Try.pinned (OpenSpec.upto hammingLimitsSpec)

/-- 'humpyardlaw03.HammingPacks', WHERE WHAT IT READS IS OF BULK AT MOST 1048576: true; the input reads as it did. -/
def hammingPacksUptoRow : OpenClaim := { program := "ytblejpiddjfabaa", sum := "7a82c04f020fb723b71971e7f5af234d7d2363c3aafa8ac811dae4f91d8effa1", func := "humpyard/humpyardlaw03.HammingPacks", spec := "hammingPacks", apart := false, narrowed := true }
def HammingPacksUptoSaid : Prop := hammingPacksUptoRow.holds Try.pinned (OpenSpec.upto hammingPacksSpec)

/-- 'humpyardlaw03.HammingLost', WHERE WHAT IT READS IS OF BULK AT MOST 1048576: true; the input reads as it did. -/
def hammingLostUptoRow : OpenClaim := { program := "ytblejpiddjfabaa", sum := "7a82c04f020fb723b71971e7f5af234d7d2363c3aafa8ac811dae4f91d8effa1", func := "humpyard/humpyardlaw03.HammingLost", spec := "hammingLost", apart := false, narrowed := true }
def HammingLostUptoSaid : Prop := hammingLostUptoRow.holds Try.pinned (OpenSpec.upto hammingLostSpec)

/-- 'humpyardlaw03.HammingExact', WHERE WHAT IT READS IS OF BULK AT MOST 1048576: true; the input reads as it did. -/
def hammingExactUptoRow : OpenClaim := { program := "ytblejpiddjfabaa", sum := "7a82c04f020fb723b71971e7f5af234d7d2363c3aafa8ac811dae4f91d8effa1", func := "humpyard/humpyardlaw03.HammingExact", spec := "hammingExact", apart := false, narrowed := true }
def HammingExactUptoSaid : Prop := hammingExactUptoRow.holds Try.pinned (OpenSpec.upto hammingExactSpec)

end Rows
end Go.Proofs.Ytblejpiddjfabaa
