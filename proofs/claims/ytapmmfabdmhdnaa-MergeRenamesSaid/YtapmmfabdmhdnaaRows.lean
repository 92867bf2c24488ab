/-
  No cell of these rows narrows 'for every input' (looked for: loops, veiled, ifaces, maps, wideKeys, modest, calm, conditions, laid).
  DERIVED. THE GIVEN ROWS OF THIS SEAT. 10 by the template 'for every input the law returns true; each argument reads behind the call as it read before'; 0 by the template 'total and deterministic' (their statements: YtapmmfabdmhdnaaTotals.lean).
  GIVEN WITH THE SEED: the statements are not yours to turn. If you find one false, say at which input.
  Laid BY PROGRAM, IN A SANDBOX (cutbox-rows.mjs): the forced cells as the released guide's own fill.sh prints them over the translation 15e9d64821fa5201… (all of the seat's roots in one cut). By AI agents, Wed Nov 11 2026. No macro, syntax, notation, axiom, sorry.
-/
import Derived.Test.YtapmmfabdmhdnaaChecked
import GoSem.Claim
import GoSem.ClaimJoined
import GoSem.ClaimMapViews
import Derived.JoinedTies
import Derived.KernelRfl
namespace Go.Proofs.Ytapmmfabdmhdnaa
/- THE CELL 'sum', in the pinned program and in every row, IS THE sha256 OF THE DUMP (.gsa) THAT YtapmmfabdmhdnaaProg.lean LOADS. Nothing in Lean hashes anything: it is a label: what it is worth is what the hold of that sum in a sandbox is worth. -/
noncomputable def Try.pinned : Pinned := { name := "ytapmmfabdmhdnaa", sum := "15e9d64821fa5201682b1831865939ebdf01c1286c8e2d75f0a77c0a287273e0", checked := Try.checked }
namespace Rows
def none {H : Type} : Left H := { results := [], args := [] }

/-- 'vellumlaw23.MergeExact': WHATEVER THE INPUT: true; the input reads as it did. -/
def mergeExactSpec : ChangeSpec := { name := "mergeExact", fn := fun _ => fun
  | [d1, d2, d3] => { results := [.lit (.bool true)], args := [d1, d2, d3] }
  | _ => none }
def mergeExactRow : OpenClaim := { program := "ytapmmfabdmhdnaa", sum := "15e9d64821fa5201682b1831865939ebdf01c1286c8e2d75f0a77c0a287273e0", func := "vellum/vellumlaw23.MergeExact", spec := "mergeExact", unfollowed := true, recurses := true, apart := false }
def MergeExactSaid : Prop := mergeExactRow.holds Try.pinned (OpenSpec.ofChange mergeExactSpec)

/-- ITS FALSE NEIGHBOUR: 'it returns false'. Refute it at one input. -/
def mergeExactWrong : ChangeSpec := { name := "mergeExact", fn := fun _ => fun
  | [d1, d2, d3] => { results := [.lit (.bool false)], args := [d1, d2, d3] }
  | _ => none }
def MergeExactWrongFalsely : Prop := mergeExactRow.holds Try.pinned (OpenSpec.ofChange mergeExactWrong)

/-- 'vellumlaw23.MergeAny': WHATEVER THE INPUT: true; the input reads as it did. -/
def mergeAnySpec : ChangeSpec := { name := "mergeAny", fn := fun _ => fun
  | [d1, d2, d3] => { results := [.lit (.bool true)], args := [d1, d2, d3] }
  | _ => none }
def mergeAnyRow : OpenClaim := { program := "ytapmmfabdmhdnaa", sum := "15e9d64821fa5201682b1831865939ebdf01c1286c8e2d75f0a77c0a287273e0", func := "vellum/vellumlaw23.MergeAny", spec := "mergeAny", unfollowed := true, recurses := true, apart := false }
def MergeAnySaid : Prop := mergeAnyRow.holds Try.pinned (OpenSpec.ofChange mergeAnySpec)

/-- ITS FALSE NEIGHBOUR: 'it returns false'. Refute it at one input. -/
def mergeAnyWrong : ChangeSpec := { name := "mergeAny", fn := fun _ => fun
  | [d1, d2, d3] => { results := [.lit (.bool false)], args := [d1, d2, d3] }
  | _ => none }
def MergeAnyWrongFalsely : Prop := mergeAnyRow.holds Try.pinned (OpenSpec.ofChange mergeAnyWrong)

/-- 'vellumlaw23.MergeIdentities': WHATEVER THE INPUT: true; the input reads as it did. -/
def mergeIdentitiesSpec : ChangeSpec := { name := "mergeIdentities", fn := fun _ => fun
  | [d1, d2] => { results := [.lit (.bool true)], args := [d1, d2] }
  | _ => none }
def mergeIdentitiesRow : OpenClaim := { program := "ytapmmfabdmhdnaa", sum := "15e9d64821fa5201682b1831865939ebdf01c1286c8e2d75f0a77c0a287273e0", func := "vellum/vellumlaw23.MergeIdentities", spec := "mergeIdentities", unfollowed := true, recurses := true, apart := false }
def MergeIdentitiesSaid : Prop := mergeIdentitiesRow.holds Try.pinned (OpenSpec.ofChange mergeIdentitiesSpec)

/-- ITS FALSE NEIGHBOUR: 'it returns false'. Refute it at one input. -/
def mergeIdentitiesWrong : ChangeSpec := { name := "mergeIdentities", fn := fun _ => fun
  | [d1, d2] => { results := [.lit (.bool false)], args := [d1, d2] }
  | _ => none }
def MergeIdentitiesWrongFalsely : Prop := mergeIdentitiesRow.holds Try.pinned (OpenSpec.ofChange mergeIdentitiesWrong)

/-- 'vellumlaw23.MergeSymmetric': WHATEVER THE INPUT: true; the input reads as it did. -/
def mergeSymmetricSpec : ChangeSpec := { name := "mergeSymmetric", fn := fun _ => fun
  | [d1, d2, d3] => { results := [.lit (.bool true)], args := [d1, d2, d3] }
  | _ => none }
def mergeSymmetricRow : OpenClaim := { program := "ytapmmfabdmhdnaa", sum := "15e9d64821fa5201682b1831865939ebdf01c1286c8e2d75f0a77c0a287273e0", func := "vellum/vellumlaw23.MergeSymmetric", spec := "mergeSymmetric", unfollowed := true, recurses := true, apart := false }
def MergeSymmetricSaid : Prop := mergeSymmetricRow.holds Try.pinned (OpenSpec.ofChange mergeSymmetricSpec)

/-- ITS FALSE NEIGHBOUR: 'it returns false'. Refute it at one input. -/
def mergeSymmetricWrong : ChangeSpec := { name := "mergeSymmetric", fn := fun _ => fun
  | [d1, d2, d3] => { results := [.lit (.bool false)], args := [d1, d2, d3] }
  | _ => none }
def MergeSymmetricWrongFalsely : Prop := mergeSymmetricRow.holds Try.pinned (OpenSpec.ofChange mergeSymmetricWrong)

/-- 'vellumlaw23.MergeDisjoint': WHATEVER THE INPUT: true; the input reads as it did. -/
def mergeDisjointSpec : ChangeSpec := { name := "mergeDisjoint", fn := fun _ => fun
  | [d1, d2, d3] => { results := [.lit (.bool true)], args := [d1, d2, d3] }
  | _ => none }
def mergeDisjointRow : OpenClaim := { program := "ytapmmfabdmhdnaa", sum := "15e9d64821fa5201682b1831865939ebdf01c1286c8e2d75f0a77c0a287273e0", func := "vellum/vellumlaw23.MergeDisjoint", spec := "mergeDisjoint", unfollowed := true, recurses := true, apart := false }
def MergeDisjointSaid : Prop := mergeDisjointRow.holds Try.pinned (OpenSpec.ofChange mergeDisjointSpec)

/-- ITS FALSE NEIGHBOUR: 'it returns false'. Refute it at one input. -/
def mergeDisjointWrong : ChangeSpec := { name := "mergeDisjoint", fn := fun _ => fun
  | [d1, d2, d3] => { results := [.lit (.bool false)], args := [d1, d2, d3] }
  | _ => none }
def MergeDisjointWrongFalsely : Prop := mergeDisjointRow.holds Try.pinned (OpenSpec.ofChange mergeDisjointWrong)

/-- 'vellumlaw23.MergeConflicts': WHATEVER THE INPUT: true; the input reads as it did. -/
def mergeConflictsSpec : ChangeSpec := { name := "mergeConflicts", fn := fun _ => fun
  | [d] => { results := [.lit (.bool true)], args := [d] }
  | _ => none }
def mergeConflictsRow : OpenClaim := { program := "ytapmmfabdmhdnaa", sum := "15e9d64821fa5201682b1831865939ebdf01c1286c8e2d75f0a77c0a287273e0", func := "vellum/vellumlaw23.MergeConflicts", spec := "mergeConflicts", unfollowed := true, recurses := true, apart := false }
def MergeConflictsSaid : Prop := mergeConflictsRow.holds Try.pinned (OpenSpec.ofChange mergeConflictsSpec)

/-- ITS FALSE NEIGHBOUR: 'it returns false'. Refute it at one input. -/
def mergeConflictsWrong : ChangeSpec := { name := "mergeConflicts", fn := fun _ => fun
  | [d] => { results := [.lit (.bool false)], args := [d] }
  | _ => none }
def MergeConflictsWrongFalsely : Prop := mergeConflictsRow.holds Try.pinned (OpenSpec.ofChange mergeConflictsWrong)

/-- 'vellumlaw23.MergeInserts': WHATEVER THE INPUT: true; the input reads as it did. -/
def mergeInsertsSpec : ChangeSpec := { name := "mergeInserts", fn := fun _ => fun
  | [d1, d2, d3] => { results := [.lit (.bool true)], args := [d1, d2, d3] }
  | _ => none }
def mergeInsertsRow : OpenClaim := { program := "ytapmmfabdmhdnaa", sum := "15e9d64821fa5201682b1831865939ebdf01c1286c8e2d75f0a77c0a287273e0", func := "vellum/vellumlaw23.MergeInserts", spec := "mergeInserts", unfollowed := true, recurses := true, apart := false }
def MergeInsertsSaid : Prop := mergeInsertsRow.holds Try.pinned (OpenSpec.ofChange mergeInsertsSpec)

/-- ITS FALSE NEIGHBOUR: 'it returns false'. Refute it at one input. -/
def mergeInsertsWrong : ChangeSpec := { name := "mergeInserts", fn := fun _ => fun
  | [d1, d2, d3] => { results := [.lit (.bool false)], args := [d1, d2, d3] }
  | _ => none }
def MergeInsertsWrongFalsely : Prop := mergeInsertsRow.holds Try.pinned (OpenSpec.ofChange mergeInsertsWrong)

/-- 'vellumlaw23.MergeKeeps': WHATEVER THE INPUT: true; the input reads as it did. -/
def mergeKeepsSpec : ChangeSpec := { name := "mergeKeeps", fn := fun _ => fun
  | [d1, d2, d3] => { results := [.lit (.bool true)], args := [d1, d2, d3] }
  | _ => none }
def mergeKeepsRow : OpenClaim := { program := "ytapmmfabdmhdnaa", sum := "15e9d64821fa5201682b1831865939ebdf01c1286c8e2d75f0a77c0a287273e0", func := "vellum/vellumlaw23.MergeKeeps", spec := "mergeKeeps", unfollowed := true, recurses := true, apart := false }
def MergeKeepsSaid : Prop := mergeKeepsRow.holds Try.pinned (OpenSpec.ofChange mergeKeepsSpec)

/-- ITS FALSE NEIGHBOUR: 'it returns false'. Refute it at one input. -/
def mergeKeepsWrong : ChangeSpec := { name := "mergeKeeps", fn := fun _ => fun
  | [d1, d2, d3] => { results := [.lit (.bool false)], args := [d1, d2, d3] }
  | _ => none }
def MergeKeepsWrongFalsely : Prop := mergeKeepsRow.holds Try.pinned (OpenSpec.ofChange mergeKeepsWrong)

/-- 'vellumlaw23.MergeRenames': WHATEVER THE INPUT: true; the input reads as it did. -/
def mergeRenamesSpec : ChangeSpec := { name := "mergeRenames", fn := fun _ => fun
  | [d1, d2, d3] => { results := [.lit (.bool true)], args := [d1, d2, d3] }
  | _ => none }
def mergeRenamesRow : OpenClaim := { program := "ytapmmfabdmhdnaa", sum := "15e9d64821fa5201682b1831865939ebdf01c1286c8e2d75f0a77c0a287273e0", func := "vellum/vellumlaw23.MergeRenames", spec := "mergeRenames", unfollowed := true, recurses := true, apart := false }
def MergeRenamesSaid : Prop := mergeRenamesRow.holds Try.pinned (OpenSpec.ofChange mergeRenamesSpec)

/-- ITS FALSE NEIGHBOUR: 'it returns false'. Refute it at one input. -/
def mergeRenamesWrong : ChangeSpec := { name := "mergeRenames", fn := fun _ => fun
  | [d1, d2, d3] => { results := [.lit (.bool false)], args := [d1, d2, d3] }
  | _ => none }
def MergeRenamesWrongFalsely : Prop := mergeRenamesRow.holds Try.pinned (OpenSpec.ofChange mergeRenamesWrong)

/-- 'vellumlaw23.MergeRenamesBack': WHATEVER THE INPUT: true; the input reads as it did. -/
def mergeRenamesBackSpec : ChangeSpec := { name := "mergeRenamesBack", fn := fun _ => fun
  | [d] => { results := [.lit (.bool true)], args := [d] }
  | _ => none }
def mergeRenamesBackRow : OpenClaim := { program := "ytapmmfabdmhdnaa", sum := "15e9d64821fa5201682b1831865939ebdf01c1286c8e2d75f0a77c0a287273e0", func := "vellum/vellumlaw23.MergeRenamesBack", spec := "mergeRenamesBack", unfollowed := true, recurses := true, apart := false }
def MergeRenamesBackSaid : Prop := mergeRenamesBackRow.holds Try.pinned (OpenSpec.ofChange mergeRenamesBackSpec)

/-- ITS FALSE NEIGHBOUR: 'it returns false'. Refute it at one input. -/
def mergeRenamesBackWrong : ChangeSpec := { name := "mergeRenamesBack", fn := fun _ => fun
  | [d] => { results := [.lit (.bool false)], args := [d] }
  | _ => none }
def MergeRenamesBackWrongFalsely : Prop := mergeRenamesBackRow.holds Try.pinned (OpenSpec.ofChange mergeRenamesBackWrong)

/- THE SECOND FORM. 'bulk': how many values and letters a reading holds, each counted each time it is reached (what is shared counts as often as it is met; a slice's spare places count too). A statement '..UptoSaid' is the law's where the arguments, and the package variables that the reading takes, are together of bulk at most 1048576: NARROWER than '..Said'. Prove '..Said' where nothing that the law and all that it calls make is longer than what came in: it says more and counts as full. Else prove '..UptoSaid'. A law counts once. -/
mutual
def uptoBulk {H : Type} : DataW H → Nat
  | .lit (.string bytes) => bytes.length + 1
  | .lit _ => 1
  | .nil => 1
  | .ptr d => uptoBulk d + 1
  | .slice elems spare => uptoBulkAll elems + uptoBulkAll spare + 1
  | .agg parts => uptoBulkAll parts + 1
  | .iface _ d => uptoBulk d + 1
  | .map entries => uptoBulkEntries entries + 1
  | .held _ => 1
def uptoBulkAll {H : Type} : List (DataW H) → Nat
  | [] => 0
  | d :: r => uptoBulk d + uptoBulkAll r
def uptoBulkEntries {H : Type} : List (Lit × DataW H) → Nat
  | [] => 0
  | x :: r => uptoBulkEntry x + uptoBulkEntries r
def uptoBulkEntry {H : Type} : Lit × DataW H → Nat
  | (.string bytes, d) => bytes.length + uptoBulk d + 1
  | (_, d) => uptoBulk d + 1
 end
def uptoSmall : (H : Type) → List (DataW H) → Bool := fun _ ds => decide (uptoBulkAll ds ≤ 1048576)
def OpenSpec.upto (s : _root_.Go.ChangeSpec) : _root_.Go.OpenSpec := { _root_.Go.OpenSpec.ofChange s with cond := some uptoSmall }

/-- 'vellumlaw23.MergeExact', WHERE WHAT IT READS IS OF BULK AT MOST 1048576: true; the input reads as it did. -/
def mergeExactUptoRow : OpenClaim := { program := "ytapmmfabdmhdnaa", sum := "15e9d64821fa5201682b1831865939ebdf01c1286c8e2d75f0a77c0a287273e0", func := "vellum/vellumlaw23.MergeExact", spec := "mergeExact", unfollowed := true, recurses := true, apart := false, narrowed := true }
def MergeExactUptoSaid : Prop := mergeExactUptoRow.holds Try.pinned (OpenSpec.upto mergeExactSpec)

/-- 'vellumlaw23.MergeAny', WHERE WHAT IT READS IS OF BULK AT MOST 1048576: true; the input reads as it did. -/
def mergeAnyUptoRow : OpenClaim := { program := "ytapmmfabdmhdnaa", sum := "15e9d64821fa5201682b1831865939ebdf01c1286c8e2d75f0a77c0a287273e0", func := "vellum/vellumlaw23.MergeAny", spec := "mergeAny", unfollowed := true, recurses := true, apart := false, narrowed := true }
def MergeAnyUptoSaid : Prop := mergeAnyUptoRow.holds Try.pinned (OpenSpec.upto mergeAnySpec)

/-- 'vellumlaw23.MergeIdentities', WHERE WHAT IT READS IS OF BULK AT MOST 1048576: true; the input reads as it did. -/
def mergeIdentitiesUptoRow : OpenClaim := { program := "ytapmmfabdmhdnaa", sum := "15e9d64821fa5201682b1831865939ebdf01c1286c8e2d75f0a77c0a287273e0", func := "vellum/vellumlaw23.MergeIdentities", spec := "mergeIdentities", unfollowed := true, recurses := true, apart := false, narrowed := true }
def MergeIdentitiesUptoSaid : Prop := mergeIdentitiesUptoRow.holds Try.pinned (OpenSpec.upto mergeIdentitiesSpec)

/-- 'vellumlaw23.MergeSymmetric', WHERE WHAT IT READS IS OF BULK AT MOST 1048576: true; the input reads as it did. -/
def mergeSymmetricUptoRow : OpenClaim := { program := "ytapmmfabdmhdnaa", sum := "15e9d64821fa5201682b1831865939ebdf01c1286c8e2d75f0a77c0a287273e0", func := "vellum/vellumlaw23.MergeSymmetric", spec := "mergeSymmetric", unfollowed := true, recurses := true, apart := false, narrowed := true }
def MergeSymmetricUptoSaid : Prop := mergeSymmetricUptoRow.holds Try.pinned (OpenSpec.upto mergeSymmetricSpec)

/-- 'vellumlaw23.MergeDisjoint', WHERE WHAT IT READS IS OF BULK AT MOST 1048576: true; the input reads as it did. -/
def mergeDisjointUptoRow : OpenClaim := { program := "ytapmmfabdmhdnaa", sum := "15e9d64821fa5201682b1831865939ebdf01c1286c8e2d75f0a77c0a287273e0", func := "vellum/vellumlaw23.MergeDisjoint", spec := "mergeDisjoint", unfollowed := true, recurses := true, apart := false, narrowed := true }
def MergeDisjointUptoSaid : Prop := mergeDisjointUptoRow.holds Try.pinned (OpenSpec.upto mergeDisjointSpec)

/-- 'vellumlaw23.MergeConflicts', WHERE WHAT IT READS IS OF BULK AT MOST 1048576: true; the input reads as it did. -/
def mergeConflictsUptoRow : OpenClaim := { program := "ytapmmfabdmhdnaa", sum := "15e9d64821fa5201682b1831865939ebdf01c1286c8e2d75f0a77c0a287273e0", func := "vellum/vellumlaw23.MergeConflicts", spec := "mergeConflicts", unfollowed := true, recurses := true, apart := false, narrowed := true }
def MergeConflictsUptoSaid : Prop := mergeConflictsUptoRow.holds Try.pinned (OpenSpec.upto mergeConflictsSpec)

/-- 'vellumlaw23.MergeInserts', WHERE WHAT IT READS IS OF BULK AT MOST 1048576: true; the input reads as it did. -/
def mergeInsertsUptoRow : OpenClaim := { program := "ytapmmfabdmhdnaa", sum := "15e9d64821fa5201682b1831865939ebdf01c1286c8e2d75f0a77c0a287273e0", func := "vellum/vellumlaw23.MergeInserts", spec := "mergeInserts", unfollowed := true, recurses := true, apart := false, narrowed := true }
def MergeInsertsUptoSaid : Prop := mergeInsertsUptoRow.holds Try.pinned (OpenSpec.upto mergeInsertsSpec)

/-- 'vellumlaw23.MergeKeeps', WHERE WHAT IT READS IS OF BULK AT MOST 1048576: true; the input reads as it did. -/
def mergeKeepsUptoRow : OpenClaim := { program := "ytapmmfabdmhdnaa", sum := "15e9d64821fa5201682b1831865939ebdf01c1286c8e2d75f0a77c0a287273e0", func := "vellum/vellumlaw23.MergeKeeps", spec := "mergeKeeps", unfollowed := true, recurses := true, apart := false, narrowed := true }
def MergeKeepsUptoSaid : Prop := mergeKeepsUptoRow.holds Try.pinned (OpenSpec.upto mergeKeepsSpec)

/-- 'vellumlaw23.MergeRenames', WHERE WHAT IT READS IS OF BULK AT MOST 1048576: true; the input reads as it did. -/
def mergeRenamesUptoRow : OpenClaim := { program := "ytapmmfabdmhdnaa", sum := "15e9d64821fa5201682b1831865939ebdf01c1286c8e2d75f0a77c0a287273e0", func := "vellum/vellumlaw23.MergeRenames", spec := "mergeRenames", unfollowed := true, recurses := true, apart := false, narrowed := true }
def MergeRenamesUptoSaid : Prop := mergeRenamesUptoRow.holds Try.pinned (OpenSpec.upto mergeRenamesSpec)

/-- 'vellumlaw23.MergeRenamesBack', WHERE WHAT IT READS IS OF BULK AT MOST 1048576: true; the input reads as it did. -/
def mergeRenamesBackUptoRow : OpenClaim := { program := "ytapmmfabdmhdnaa", sum := "15e9d64821fa5201682b1831865939ebdf01c1286c8e2d75f0a77c0a287273e0", func := "vellum/vellumlaw23.MergeRenamesBack", spec := "mergeRenamesBack", unfollowed := true, recurses := true, apart := false, narrowed := true }
def MergeRenamesBackUptoSaid : Prop := mergeRenamesBackUptoRow.holds Try.pinned (OpenSpec.upto mergeRenamesBackSpec)

end Rows
end Go.Proofs.Ytapmmfabdmhdnaa
