/-
  No cell of these rows narrows 'for every input' (looked for: loops, veiled, ifaces, maps, wideKeys, modest, calm, conditions, laid).
  DERIVED. THE GIVEN ROWS OF THIS SEAT. 8 by the template 'for every input the law returns true; each argument reads behind the call as it read before'; 0 by the template 'total and deterministic' (their statements: YteeamfkhkbfilaaGreatTotals.lean).
  GIVEN WITH THE SEED: the statements are not yours to turn. If you find one false, say at which input.
  Laid BY PROGRAM, IN A SANDBOX (cutbox-rows.mjs): the forced cells as the released guide's own fill.sh prints them over the translation b41ab071ad3e4397… (all of the seat's roots in one cut). By AI agents, Wed Nov 11 2026. No macro, syntax, notation, axiom, sorry.
-/
import Derived.Test.YteeamfkhkbfilaaGreatChecked
import GoSem.Claim
import GoSem.ClaimJoined
import GoSem.ClaimMapViews
import Derived.JoinedTies
import Derived.KernelRfl
namespace Go.Proofs.YteeamfkhkbfilaaGreat
/- THE CELL 'sum', in the pinned program and in every row, IS THE sha256 OF THE DUMP (.gsa) THAT YteeamfkhkbfilaaGreatProg.lean LOADS. Nothing in Lean hashes anything: it is a label: what it is worth is what the hold of that sum in a sandbox is worth. -/
noncomputable def Tryz.pinned : Pinned := { name := "yteeamfkhkbfilaagreat", sum := "b41ab071ad3e4397a35b588fefb3fa172e147c8358acc077cb73fb07b2223ed0", checked := Tryz.checked }
namespace Rows
def none {H : Type} : Left H := { results := [], args := [] }

/-- 'vellumlaw25.ProjectPlays': WHATEVER THE INPUT: true; the input reads as it did. -/
def projectPlaysSpec : ChangeSpec := { name := "projectPlays", fn := fun _ => fun
  | [d] => { results := [.lit (.bool true)], args := [d] }
  | _ => none }
def projectPlaysRow : OpenClaim := { program := "yteeamfkhkbfilaagreat", sum := "b41ab071ad3e4397a35b588fefb3fa172e147c8358acc077cb73fb07b2223ed0", func := "vellum/vellumlaw25.ProjectPlays", spec := "projectPlays", unfollowed := true, recurses := true, plainKeys := false, apart := false }
def ProjectPlaysSaid : Prop := projectPlaysRow.holds Tryz.pinned (OpenSpec.ofChange projectPlaysSpec)

/-- ITS FALSE NEIGHBOUR: 'it returns false'. Refute it at one input. -/
def projectPlaysWrong : ChangeSpec := { name := "projectPlays", fn := fun _ => fun
  | [d] => { results := [.lit (.bool false)], args := [d] }
  | _ => none }
def ProjectPlaysWrongFalsely : Prop := projectPlaysRow.holds Tryz.pinned (OpenSpec.ofChange projectPlaysWrong)

/-- 'vellumlaw25.ProjectOpens': WHATEVER THE INPUT: true; the input reads as it did. -/
def projectOpensSpec : ChangeSpec := { name := "projectOpens", fn := fun _ => fun
  | [d1, d2] => { results := [.lit (.bool true)], args := [d1, d2] }
  | _ => none }
def projectOpensRow : OpenClaim := { program := "yteeamfkhkbfilaagreat", sum := "b41ab071ad3e4397a35b588fefb3fa172e147c8358acc077cb73fb07b2223ed0", func := "vellum/vellumlaw25.ProjectOpens", spec := "projectOpens", unfollowed := true, recurses := true, plainKeys := false, apart := false }
def ProjectOpensSaid : Prop := projectOpensRow.holds Tryz.pinned (OpenSpec.ofChange projectOpensSpec)

/-- ITS FALSE NEIGHBOUR: 'it returns false'. Refute it at one input. -/
def projectOpensWrong : ChangeSpec := { name := "projectOpens", fn := fun _ => fun
  | [d1, d2] => { results := [.lit (.bool false)], args := [d1, d2] }
  | _ => none }
def ProjectOpensWrongFalsely : Prop := projectOpensRow.holds Tryz.pinned (OpenSpec.ofChange projectOpensWrong)

/-- 'vellumlaw25.ProjectCuts': WHATEVER THE INPUT: true; the input reads as it did. -/
def projectCutsSpec : ChangeSpec := { name := "projectCuts", fn := fun _ => fun
  | [d1, d2, d3] => { results := [.lit (.bool true)], args := [d1, d2, d3] }
  | _ => none }
def projectCutsRow : OpenClaim := { program := "yteeamfkhkbfilaagreat", sum := "b41ab071ad3e4397a35b588fefb3fa172e147c8358acc077cb73fb07b2223ed0", func := "vellum/vellumlaw25.ProjectCuts", spec := "projectCuts", unfollowed := true, recurses := true, plainKeys := false, apart := false }
def ProjectCutsSaid : Prop := projectCutsRow.holds Tryz.pinned (OpenSpec.ofChange projectCutsSpec)

/-- ITS FALSE NEIGHBOUR: 'it returns false'. Refute it at one input. -/
def projectCutsWrong : ChangeSpec := { name := "projectCuts", fn := fun _ => fun
  | [d1, d2, d3] => { results := [.lit (.bool false)], args := [d1, d2, d3] }
  | _ => none }
def ProjectCutsWrongFalsely : Prop := projectCutsRow.holds Tryz.pinned (OpenSpec.ofChange projectCutsWrong)

/-- 'vellumlaw25.ProjectReads': WHATEVER THE INPUT: true; the input reads as it did. -/
def projectReadsSpec : ChangeSpec := { name := "projectReads", fn := fun _ => fun
  | [d1, d2, d3] => { results := [.lit (.bool true)], args := [d1, d2, d3] }
  | _ => none }
def projectReadsRow : OpenClaim := { program := "yteeamfkhkbfilaagreat", sum := "b41ab071ad3e4397a35b588fefb3fa172e147c8358acc077cb73fb07b2223ed0", func := "vellum/vellumlaw25.ProjectReads", spec := "projectReads", unfollowed := true, recurses := true, plainKeys := false, apart := false }
def ProjectReadsSaid : Prop := projectReadsRow.holds Tryz.pinned (OpenSpec.ofChange projectReadsSpec)

/-- ITS FALSE NEIGHBOUR: 'it returns false'. Refute it at one input. -/
def projectReadsWrong : ChangeSpec := { name := "projectReads", fn := fun _ => fun
  | [d1, d2, d3] => { results := [.lit (.bool false)], args := [d1, d2, d3] }
  | _ => none }
def ProjectReadsWrongFalsely : Prop := projectReadsRow.holds Tryz.pinned (OpenSpec.ofChange projectReadsWrong)

/-- 'vellumlaw25.ProjectForms': WHATEVER THE INPUT: true; the input reads as it did. -/
def projectFormsSpec : ChangeSpec := { name := "projectForms", fn := fun _ => fun
  | [d1, d2, d3] => { results := [.lit (.bool true)], args := [d1, d2, d3] }
  | _ => none }
def projectFormsRow : OpenClaim := { program := "yteeamfkhkbfilaagreat", sum := "b41ab071ad3e4397a35b588fefb3fa172e147c8358acc077cb73fb07b2223ed0", func := "vellum/vellumlaw25.ProjectForms", spec := "projectForms", unfollowed := true, recurses := true, plainKeys := false, apart := false }
def ProjectFormsSaid : Prop := projectFormsRow.holds Tryz.pinned (OpenSpec.ofChange projectFormsSpec)

/-- ITS FALSE NEIGHBOUR: 'it returns false'. Refute it at one input. -/
def projectFormsWrong : ChangeSpec := { name := "projectForms", fn := fun _ => fun
  | [d1, d2, d3] => { results := [.lit (.bool false)], args := [d1, d2, d3] }
  | _ => none }
def ProjectFormsWrongFalsely : Prop := projectFormsRow.holds Tryz.pinned (OpenSpec.ofChange projectFormsWrong)

/-- 'vellumlaw25.ProjectFacts': WHATEVER THE INPUT: true; the input reads as it did. -/
def projectFactsSpec : ChangeSpec := { name := "projectFacts", fn := fun _ => fun
  | [d1, d2] => { results := [.lit (.bool true)], args := [d1, d2] }
  | _ => none }
def projectFactsRow : OpenClaim := { program := "yteeamfkhkbfilaagreat", sum := "b41ab071ad3e4397a35b588fefb3fa172e147c8358acc077cb73fb07b2223ed0", func := "vellum/vellumlaw25.ProjectFacts", spec := "projectFacts", unfollowed := true, recurses := true, plainKeys := false, apart := false }
def ProjectFactsSaid : Prop := projectFactsRow.holds Tryz.pinned (OpenSpec.ofChange projectFactsSpec)

/-- ITS FALSE NEIGHBOUR: 'it returns false'. Refute it at one input. -/
def projectFactsWrong : ChangeSpec := { name := "projectFacts", fn := fun _ => fun
  | [d1, d2] => { results := [.lit (.bool false)], args := [d1, d2] }
  | _ => none }
def ProjectFactsWrongFalsely : Prop := projectFactsRow.holds Tryz.pinned (OpenSpec.ofChange projectFactsWrong)

/-- 'vellumlaw25.ProjectWrong': WHATEVER THE INPUT: true; the input reads as it did. -/
def projectWrongSpec : ChangeSpec := { name := "projectWrong", fn := fun _ => fun
  | [d1, d2, d3] => { results := [.lit (.bool true)], args := [d1, d2, d3] }
  | _ => none }
def projectWrongRow : OpenClaim := { program := "yteeamfkhkbfilaagreat", sum := "b41ab071ad3e4397a35b588fefb3fa172e147c8358acc077cb73fb07b2223ed0", func := "vellum/vellumlaw25.ProjectWrong", spec := "projectWrong", unfollowed := true, recurses := true, plainKeys := false, apart := false }
def ProjectWrongSaid : Prop := projectWrongRow.holds Tryz.pinned (OpenSpec.ofChange projectWrongSpec)

/-- ITS FALSE NEIGHBOUR: 'it returns false'. Refute it at one input. -/
def projectWrongWrong : ChangeSpec := { name := "projectWrong", fn := fun _ => fun
  | [d1, d2, d3] => { results := [.lit (.bool false)], args := [d1, d2, d3] }
  | _ => none }
def ProjectWrongWrongFalsely : Prop := projectWrongRow.holds Tryz.pinned (OpenSpec.ofChange projectWrongWrong)

/-- 'vellumlaw25.ProjectNames': WHATEVER THE INPUT: true; the input reads as it did. -/
def projectNamesSpec : ChangeSpec := { name := "projectNames", fn := fun _ => fun
  | [d1, d2, d3] => { results := [.lit (.bool true)], args := [d1, d2, d3] }
  | _ => none }
def projectNamesRow : OpenClaim := { program := "yteeamfkhkbfilaagreat", sum := "b41ab071ad3e4397a35b588fefb3fa172e147c8358acc077cb73fb07b2223ed0", func := "vellum/vellumlaw25.ProjectNames", spec := "projectNames", unfollowed := true, recurses := true, plainKeys := false, apart := false }
def ProjectNamesSaid : Prop := projectNamesRow.holds Tryz.pinned (OpenSpec.ofChange projectNamesSpec)

/-- ITS FALSE NEIGHBOUR: 'it returns false'. Refute it at one input. -/
def projectNamesWrong : ChangeSpec := { name := "projectNames", fn := fun _ => fun
  | [d1, d2, d3] => { results := [.lit (.bool false)], args := [d1, d2, d3] }
  | _ => none }
def ProjectNamesWrongFalsely : Prop := projectNamesRow.holds Tryz.pinned (OpenSpec.ofChange projectNamesWrong)

/- THE SECOND FORM. 'bulk': how many values and letters a reading holds, each counted each time it is reached (what is shared counts as often as it is met; a slice's spare places count too). A statement '..UptoSaid' is the law's where the arguments, and the package variables that the reading takes, are together of bulk at most 1048576: NARROWER than '..Said'. Prove '..Said' where nothing that the law and all that it calls make is longer than what came in: it says more and counts as full. Else prove '..UptoSaid'. A law counts once. -/
mutual
def uptoBulk {H : Type} : DataW H → Nat
  | .lit (.string bytes) => bytes.length + 1
  | .lit _ => 1
  | .nil => 1
  | .ptr d => uptoBulk d + 1
  | .slice elems spare => uptoBulkAll elems + uptoBulkAll spare + 1
  | .agg parts => uptoBulkAll parts + 1
  | .iface _ d => uptoBulk d + 1
  | .map entries => uptoBulkEntries entries + 1
  | .held _ => 1
def uptoBulkAll {H : Type} : List (DataW H) → Nat
  | [] => 0
  | d :: r => uptoBulk d + uptoBulkAll r
def uptoBulkEntries {H : Type} : List (Lit × DataW H) → Nat
  | [] => 0
  | x :: r => uptoBulkEntry x + uptoBulkEntries r
def uptoBulkEntry {H : Type} : Lit × DataW H → Nat
  | (.string bytes, d) => bytes.length + uptoBulk d + 1
  | (_, d) => uptoBulk d + 1
 end
def uptoSmall : (H : Type) → List (DataW H) → Bool := fun _ ds => decide (uptoBulkAll ds ≤ 1048576)
def OpenSpec.upto (s : _root_.Go.ChangeSpec) : _root_.Go.OpenSpec := { _root_.Go.OpenSpec.ofChange s with cond := some uptoSmall }

/-- 'vellumlaw25.ProjectPlays', WHERE WHAT IT READS IS OF BULK AT MOST 1048576: true; the input reads as it did. -/
def projectPlaysUptoRow : OpenClaim := { program := "yteeamfkhkbfilaagreat", sum := "b41ab071ad3e4397a35b588fefb3fa172e147c8358acc077cb73fb07b2223ed0", func := "vellum/vellumlaw25.ProjectPlays", spec := "projectPlays", unfollowed := true, recurses := true, plainKeys := false, apart := false, narrowed := true }
def ProjectPlaysUptoSaid : Prop := projectPlaysUptoRow.holds Tryz.pinned (OpenSpec.upto projectPlaysSpec)

/-- 'vellumlaw25.ProjectOpens', WHERE WHAT IT READS IS OF BULK AT MOST 1048576: true; the input reads as it did. -/
def projectOpensUptoRow : OpenClaim := { program := "yteeamfkhkbfilaagreat", sum := "b41ab071ad3e4397a35b588fefb3fa172e147c8358acc077cb73fb07b2223ed0", func := "vellum/vellumlaw25.ProjectOpens", spec := "projectOpens", unfollowed := true, recurses := true, plainKeys := false, apart := false, narrowed := true }
def ProjectOpensUptoSaid : Prop := projectOpensUptoRow.holds Tryz.pinned (OpenSpec.upto projectOpensSpec)

/-- 'vellumlaw25.ProjectCuts', WHERE WHAT IT READS IS OF BULK AT MOST 1048576: true; the input reads as it did. -/
def projectCutsUptoRow : OpenClaim := { program := "yteeamfkhkbfilaagreat", sum := "b41ab071ad3e4397a35b588fefb3fa172e147c8358acc077cb73fb07b2223ed0", func := "vellum/vellumlaw25.ProjectCuts", spec := "projectCuts", unfollowed := true, recurses := true, plainKeys := false, apart := false, narrowed := true }
def ProjectCutsUptoSaid : Prop := projectCutsUptoRow.holds Tryz.pinned (OpenSpec.upto projectCutsSpec)

/-- 'vellumlaw25.ProjectReads', WHERE WHAT IT READS IS OF BULK AT MOST 1048576: true; the input reads as it did. -/
def projectReadsUptoRow : OpenClaim := { program := "yteeamfkhkbfilaagreat", sum := "b41ab071ad3e4397a35b588fefb3fa172e147c8358acc077cb73fb07b2223ed0", func := "vellum/vellumlaw25.ProjectReads", spec := "projectReads", unfollowed := true, recurses := true, plainKeys := false, apart := false, narrowed := true }
def ProjectReadsUptoSaid : Prop := projectReadsUptoRow.holds Tryz.pinned (OpenSpec.upto projectReadsSpec)

/-- 'vellumlaw25.ProjectForms', WHERE WHAT IT READS IS OF BULK AT MOST 1048576: true; the input reads as it did. -/
def projectFormsUptoRow : OpenClaim := { program := "yteeamfkhkbfilaagreat", sum := "b41ab071ad3e4397a35b588fefb3fa172e147c8358acc077cb73fb07b2223ed0", func := "vellum/vellumlaw25.ProjectForms", spec := "projectForms", unfollowed := true, recurses := true, plainKeys := false, apart := false, narrowed := true }
def ProjectFormsUptoSaid : Prop := projectFormsUptoRow.holds Tryz.pinned (OpenSpec.upto projectFormsSpec)

/-- 'vellumlaw25.ProjectFacts', WHERE WHAT IT READS IS OF BULK AT MOST 1048576: true; the input reads as it did. -/
def projectFactsUptoRow : OpenClaim := { program := "yteeamfkhkbfilaagreat", sum := "b41ab071ad3e4397a35b588fefb3fa172e147c8358acc077cb73fb07b2223ed0", func := "vellum/vellumlaw25.ProjectFacts", spec := "projectFacts", unfollowed := true, recurses := true, plainKeys := false, apart := false, narrowed := true }
def ProjectFactsUptoSaid : Prop := projectFactsUptoRow.holds Tryz.pinned (OpenSpec.upto projectFactsSpec)

/-- 'vellumlaw25.ProjectWrong', WHERE WHAT IT READS IS OF BULK AT MOST 1048576: true; the input reads as it did. -/
def projectWrongUptoRow : OpenClaim := { program := "yteeamfkhkbfilaagreat", sum := "b41ab071ad3e4397a35b588fefb3fa172e147c8358acc077cb73fb07b2223ed0", func := "vellum/vellumlaw25.ProjectWrong", spec := "projectWrong", unfollowed := true, recurses := true, plainKeys := false, apart := false, narrowed := true }
def ProjectWrongUptoSaid : Prop := projectWrongUptoRow.holds Tryz.pinned (OpenSpec.upto projectWrongSpec)

/-- 'vellumlaw25.ProjectNames', WHERE WHAT IT READS IS OF BULK AT MOST 1048576: true; the input reads as it did. -/
def projectNamesUptoRow : OpenClaim := { program := "yteeamfkhkbfilaagreat", sum := "b41ab071ad3e4397a35b588fefb3fa172e147c8358acc077cb73fb07b2223ed0", func := "vellum/vellumlaw25.ProjectNames", spec := "projectNames", unfollowed := true, recurses := true, plainKeys := false, apart := false, narrowed := true }
def ProjectNamesUptoSaid : Prop := projectNamesUptoRow.holds Tryz.pinned (OpenSpec.upto projectNamesSpec)

end Rows
end Go.Proofs.YteeamfkhkbfilaaGreat
