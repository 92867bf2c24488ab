/-
  No cell of these rows narrows 'for every input' (looked for: loops, veiled, ifaces, maps, wideKeys, modest, calm, conditions, laid).
  DERIVED. THE GIVEN ROWS OF THIS SEAT. 9 by the template 'for every input the law returns true; each argument reads behind the call as it read before'; 0 by the template 'total and deterministic' (their statements: YticengaggjcppaaGreatTotals.lean).
  GIVEN WITH THE SEED: the statements are not yours to turn. If you find one false, say at which input.
  Laid BY PROGRAM, IN A SANDBOX (cutbox-rows.mjs): the forced cells as the released guide's own fill.sh prints them over the translation 71212be999a07ec7… (all of the seat's roots in one cut). By AI agents, Wed Nov 11 2026. No macro, syntax, notation, axiom, sorry.
-/
import Derived.Test.YticengaggjcppaaGreatChecked
import GoSem.Claim
import GoSem.ClaimJoined
import GoSem.ClaimMapViews
import Derived.JoinedTies
import Derived.KernelRfl
namespace Go.Proofs.YticengaggjcppaaGreat
/- THE CELL 'sum', in the pinned program and in every row, IS THE sha256 OF THE DUMP (.gsa) THAT YticengaggjcppaaGreatProg.lean LOADS. Nothing in Lean hashes anything: it is a label: what it is worth is what the hold of that sum in a sandbox is worth. -/
noncomputable def Tryz.pinned : Pinned := { name := "yticengaggjcppaagreat", sum := "71212be999a07ec7f02538f0a4070d9e7ca56279ed3bd42dedbec5fe0ef7e42a", checked := Tryz.checked }
namespace Rows
def none {H : Type} : Left H := { results := [], args := [] }

/-- 'vellumlaw21.MatchSelf': WHATEVER THE INPUT: true; the input reads as it did. -/
def matchSelfSpec : ChangeSpec := { name := "matchSelf", fn := fun _ => fun
  | [d1, d2] => { results := [.lit (.bool true)], args := [d1, d2] }
  | _ => none }
def matchSelfRow : OpenClaim := { program := "yticengaggjcppaagreat", sum := "71212be999a07ec7f02538f0a4070d9e7ca56279ed3bd42dedbec5fe0ef7e42a", func := "vellum/vellumlaw21.MatchSelf", spec := "matchSelf", unfollowed := true, recurses := true, plainKeys := false, apart := false }
def MatchSelfSaid : Prop := matchSelfRow.holds Tryz.pinned (OpenSpec.ofChange matchSelfSpec)

/-- ITS FALSE NEIGHBOUR: 'it returns false'. Refute it at one input. -/
def matchSelfWrong : ChangeSpec := { name := "matchSelf", fn := fun _ => fun
  | [d1, d2] => { results := [.lit (.bool false)], args := [d1, d2] }
  | _ => none }
def MatchSelfWrongFalsely : Prop := matchSelfRow.holds Tryz.pinned (OpenSpec.ofChange matchSelfWrong)

/-- 'vellumlaw21.MatchVaried': WHATEVER THE INPUT: true; the input reads as it did. -/
def matchVariedSpec : ChangeSpec := { name := "matchVaried", fn := fun _ => fun
  | [d1, d2] => { results := [.lit (.bool true)], args := [d1, d2] }
  | _ => none }
def matchVariedRow : OpenClaim := { program := "yticengaggjcppaagreat", sum := "71212be999a07ec7f02538f0a4070d9e7ca56279ed3bd42dedbec5fe0ef7e42a", func := "vellum/vellumlaw21.MatchVaried", spec := "matchVaried", unfollowed := true, recurses := true, plainKeys := false, apart := false }
def MatchVariedSaid : Prop := matchVariedRow.holds Tryz.pinned (OpenSpec.ofChange matchVariedSpec)

/-- ITS FALSE NEIGHBOUR: 'it returns false'. Refute it at one input. -/
def matchVariedWrong : ChangeSpec := { name := "matchVaried", fn := fun _ => fun
  | [d1, d2] => { results := [.lit (.bool false)], args := [d1, d2] }
  | _ => none }
def MatchVariedWrongFalsely : Prop := matchVariedRow.holds Tryz.pinned (OpenSpec.ofChange matchVariedWrong)

/-- 'vellumlaw21.MatchNames': WHATEVER THE INPUT: true; the input reads as it did. -/
def matchNamesSpec : ChangeSpec := { name := "matchNames", fn := fun _ => fun
  | [d1, d2, d3] => { results := [.lit (.bool true)], args := [d1, d2, d3] }
  | _ => none }
def matchNamesRow : OpenClaim := { program := "yticengaggjcppaagreat", sum := "71212be999a07ec7f02538f0a4070d9e7ca56279ed3bd42dedbec5fe0ef7e42a", func := "vellum/vellumlaw21.MatchNames", spec := "matchNames", unfollowed := true, recurses := true, plainKeys := false, apart := false }
def MatchNamesSaid : Prop := matchNamesRow.holds Tryz.pinned (OpenSpec.ofChange matchNamesSpec)

/-- ITS FALSE NEIGHBOUR: 'it returns false'. Refute it at one input. -/
def matchNamesWrong : ChangeSpec := { name := "matchNames", fn := fun _ => fun
  | [d1, d2, d3] => { results := [.lit (.bool false)], args := [d1, d2, d3] }
  | _ => none }
def MatchNamesWrongFalsely : Prop := matchNamesRow.holds Tryz.pinned (OpenSpec.ofChange matchNamesWrong)

/-- 'vellumlaw21.MatchInverse': WHATEVER THE INPUT: true; the input reads as it did. -/
def matchInverseSpec : ChangeSpec := { name := "matchInverse", fn := fun _ => fun
  | [d1, d2, d3] => { results := [.lit (.bool true)], args := [d1, d2, d3] }
  | _ => none }
def matchInverseRow : OpenClaim := { program := "yticengaggjcppaagreat", sum := "71212be999a07ec7f02538f0a4070d9e7ca56279ed3bd42dedbec5fe0ef7e42a", func := "vellum/vellumlaw21.MatchInverse", spec := "matchInverse", unfollowed := true, recurses := true, plainKeys := false, apart := false }
def MatchInverseSaid : Prop := matchInverseRow.holds Tryz.pinned (OpenSpec.ofChange matchInverseSpec)

/-- ITS FALSE NEIGHBOUR: 'it returns false'. Refute it at one input. -/
def matchInverseWrong : ChangeSpec := { name := "matchInverse", fn := fun _ => fun
  | [d1, d2, d3] => { results := [.lit (.bool false)], args := [d1, d2, d3] }
  | _ => none }
def MatchInverseWrongFalsely : Prop := matchInverseRow.holds Tryz.pinned (OpenSpec.ofChange matchInverseWrong)

/-- 'vellumlaw21.MatchPairs': WHATEVER THE INPUT: true; the input reads as it did. -/
def matchPairsSpec : ChangeSpec := { name := "matchPairs", fn := fun _ => fun
  | [d1, d2, d3] => { results := [.lit (.bool true)], args := [d1, d2, d3] }
  | _ => none }
def matchPairsRow : OpenClaim := { program := "yticengaggjcppaagreat", sum := "71212be999a07ec7f02538f0a4070d9e7ca56279ed3bd42dedbec5fe0ef7e42a", func := "vellum/vellumlaw21.MatchPairs", spec := "matchPairs", unfollowed := true, recurses := true, plainKeys := false, apart := false }
def MatchPairsSaid : Prop := matchPairsRow.holds Tryz.pinned (OpenSpec.ofChange matchPairsSpec)

/-- ITS FALSE NEIGHBOUR: 'it returns false'. Refute it at one input. -/
def matchPairsWrong : ChangeSpec := { name := "matchPairs", fn := fun _ => fun
  | [d1, d2, d3] => { results := [.lit (.bool false)], args := [d1, d2, d3] }
  | _ => none }
def MatchPairsWrongFalsely : Prop := matchPairsRow.holds Tryz.pinned (OpenSpec.ofChange matchPairsWrong)

/-- 'vellumlaw21.MatchChanged': WHATEVER THE INPUT: true; the input reads as it did. -/
def matchChangedSpec : ChangeSpec := { name := "matchChanged", fn := fun _ => fun
  | [d1, d2, d3] => { results := [.lit (.bool true)], args := [d1, d2, d3] }
  | _ => none }
def matchChangedRow : OpenClaim := { program := "yticengaggjcppaagreat", sum := "71212be999a07ec7f02538f0a4070d9e7ca56279ed3bd42dedbec5fe0ef7e42a", func := "vellum/vellumlaw21.MatchChanged", spec := "matchChanged", unfollowed := true, recurses := true, plainKeys := false, apart := false }
def MatchChangedSaid : Prop := matchChangedRow.holds Tryz.pinned (OpenSpec.ofChange matchChangedSpec)

/-- ITS FALSE NEIGHBOUR: 'it returns false'. Refute it at one input. -/
def matchChangedWrong : ChangeSpec := { name := "matchChanged", fn := fun _ => fun
  | [d1, d2, d3] => { results := [.lit (.bool false)], args := [d1, d2, d3] }
  | _ => none }
def MatchChangedWrongFalsely : Prop := matchChangedRow.holds Tryz.pinned (OpenSpec.ofChange matchChangedWrong)

/-- 'vellumlaw21.MatchTwins': WHATEVER THE INPUT: true; the input reads as it did. -/
def matchTwinsSpec : ChangeSpec := { name := "matchTwins", fn := fun _ => fun
  | [d1, d2, d3] => { results := [.lit (.bool true)], args := [d1, d2, d3] }
  | _ => none }
def matchTwinsRow : OpenClaim := { program := "yticengaggjcppaagreat", sum := "71212be999a07ec7f02538f0a4070d9e7ca56279ed3bd42dedbec5fe0ef7e42a", func := "vellum/vellumlaw21.MatchTwins", spec := "matchTwins", unfollowed := true, recurses := true, plainKeys := false, apart := false }
def MatchTwinsSaid : Prop := matchTwinsRow.holds Tryz.pinned (OpenSpec.ofChange matchTwinsSpec)

/-- ITS FALSE NEIGHBOUR: 'it returns false'. Refute it at one input. -/
def matchTwinsWrong : ChangeSpec := { name := "matchTwins", fn := fun _ => fun
  | [d1, d2, d3] => { results := [.lit (.bool false)], args := [d1, d2, d3] }
  | _ => none }
def MatchTwinsWrongFalsely : Prop := matchTwinsRow.holds Tryz.pinned (OpenSpec.ofChange matchTwinsWrong)

/-- 'vellumlaw21.MatchSimilar': WHATEVER THE INPUT: true; the input reads as it did. -/
def matchSimilarSpec : ChangeSpec := { name := "matchSimilar", fn := fun _ => fun
  | [d1, d2, d3] => { results := [.lit (.bool true)], args := [d1, d2, d3] }
  | _ => none }
def matchSimilarRow : OpenClaim := { program := "yticengaggjcppaagreat", sum := "71212be999a07ec7f02538f0a4070d9e7ca56279ed3bd42dedbec5fe0ef7e42a", func := "vellum/vellumlaw21.MatchSimilar", spec := "matchSimilar", unfollowed := true, recurses := true, plainKeys := false, apart := false }
def MatchSimilarSaid : Prop := matchSimilarRow.holds Tryz.pinned (OpenSpec.ofChange matchSimilarSpec)

/-- ITS FALSE NEIGHBOUR: 'it returns false'. Refute it at one input. -/
def matchSimilarWrong : ChangeSpec := { name := "matchSimilar", fn := fun _ => fun
  | [d1, d2, d3] => { results := [.lit (.bool false)], args := [d1, d2, d3] }
  | _ => none }
def MatchSimilarWrongFalsely : Prop := matchSimilarRow.holds Tryz.pinned (OpenSpec.ofChange matchSimilarWrong)

/-- 'vellumlaw21.MatchAlike': WHATEVER THE INPUT: true; the input reads as it did. -/
def matchAlikeSpec : ChangeSpec := { name := "matchAlike", fn := fun _ => fun
  | [d1, d2, d3] => { results := [.lit (.bool true)], args := [d1, d2, d3] }
  | _ => none }
def matchAlikeRow : OpenClaim := { program := "yticengaggjcppaagreat", sum := "71212be999a07ec7f02538f0a4070d9e7ca56279ed3bd42dedbec5fe0ef7e42a", func := "vellum/vellumlaw21.MatchAlike", spec := "matchAlike", unfollowed := true, recurses := true, plainKeys := false, apart := false }
def MatchAlikeSaid : Prop := matchAlikeRow.holds Tryz.pinned (OpenSpec.ofChange matchAlikeSpec)

/-- ITS FALSE NEIGHBOUR: 'it returns false'. Refute it at one input. -/
def matchAlikeWrong : ChangeSpec := { name := "matchAlike", fn := fun _ => fun
  | [d1, d2, d3] => { results := [.lit (.bool false)], args := [d1, d2, d3] }
  | _ => none }
def MatchAlikeWrongFalsely : Prop := matchAlikeRow.holds Tryz.pinned (OpenSpec.ofChange matchAlikeWrong)

/- THE SECOND FORM. 'bulk': how many values and letters a reading holds, each counted each time it is reached (what is shared counts as often as it is met; a slice's spare places count too). A statement '..UptoSaid' is the law's where the arguments, and the package variables that the reading takes, are together of bulk at most 1048576: NARROWER than '..Said'. Prove '..Said' where nothing that the law and all that it calls make is longer than what came in: it says more and counts as full. Else prove '..UptoSaid'. A law counts once. -/
mutual
def uptoBulk {H : Type} : DataW H → Nat
  | .lit (.string bytes) => bytes.length + 1
  | .lit _ => 1
  | .nil => 1
  | .ptr d => uptoBulk d + 1
  | .slice elems spare => uptoBulkAll elems + uptoBulkAll spare + 1
  | .agg parts => uptoBulkAll parts + 1
  | .iface _ d => uptoBulk d + 1
  | .map entries => uptoBulkEntries entries + 1
  | .held _ => 1
def uptoBulkAll {H : Type} : List (DataW H) → Nat
  | [] => 0
  | d :: r => uptoBulk d + uptoBulkAll r
def uptoBulkEntries {H : Type} : List (Lit × DataW H) → Nat
  | [] => 0
  | x :: r => uptoBulkEntry x + uptoBulkEntries r
def uptoBulkEntry {H : Type} : Lit × DataW H → Nat
  | (.string bytes, d) => bytes.length + uptoBulk d + 1
  | (_, d) => uptoBulk d + 1
 end
def uptoSmall : (H : Type) → List (DataW H) → Bool := fun _ ds => decide (uptoBulkAll ds ≤ 1048576)
def OpenSpec.upto (s : _root_.Go.ChangeSpec) : _root_.Go.OpenSpec := { _root_.Go.OpenSpec.ofChange s with cond := some uptoSmall }

/-- 'vellumlaw21.MatchSelf', WHERE WHAT IT READS IS OF BULK AT MOST 1048576: true; the input reads as it did. -/
def matchSelfUptoRow : OpenClaim := { program := "yticengaggjcppaagreat", sum := "71212be999a07ec7f02538f0a4070d9e7ca56279ed3bd42dedbec5fe0ef7e42a", func := "vellum/vellumlaw21.MatchSelf", spec := "matchSelf", unfollowed := true, recurses := true, plainKeys := false, apart := false, narrowed := true }
def MatchSelfUptoSaid : Prop := matchSelfUptoRow.holds Tryz.pinned (OpenSpec.upto matchSelfSpec)

/-- 'vellumlaw21.MatchVaried', WHERE WHAT IT READS IS OF BULK AT MOST 1048576: true; the input reads as it did. -/
def matchVariedUptoRow : OpenClaim := { program := "yticengaggjcppaagreat", sum := "71212be999a07ec7f02538f0a4070d9e7ca56279ed3bd42dedbec5fe0ef7e42a", func := "vellum/vellumlaw21.MatchVaried", spec := "matchVaried", unfollowed := true, recurses := true, plainKeys := false, apart := false, narrowed := true }
def MatchVariedUptoSaid : Prop := matchVariedUptoRow.holds Tryz.pinned (OpenSpec.upto matchVariedSpec)

/-- 'vellumlaw21.MatchNames', WHERE WHAT IT READS IS OF BULK AT MOST 1048576: true; the input reads as it did. -/
def matchNamesUptoRow : OpenClaim := { program := "yticengaggjcppaagreat", sum := "71212be999a07ec7f02538f0a4070d9e7ca56279ed3bd42dedbec5fe0ef7e42a", func := "vellum/vellumlaw21.MatchNames", spec := "matchNames", unfollowed := true, recurses := true, plainKeys := false, apart := false, narrowed := true }
def MatchNamesUptoSaid : Prop := matchNamesUptoRow.holds Tryz.pinned (OpenSpec.upto matchNamesSpec)

/-- 'vellumlaw21.MatchInverse', WHERE WHAT IT READS IS OF BULK AT MOST 1048576: true; the input reads as it did. -/
def matchInverseUptoRow : OpenClaim := { program := "yticengaggjcppaagreat", sum := "71212be999a07ec7f02538f0a4070d9e7ca56279ed3bd42dedbec5fe0ef7e42a", func := "vellum/vellumlaw21.MatchInverse", spec := "matchInverse", unfollowed := true, recurses := true, plainKeys := false, apart := false, narrowed := true }
def MatchInverseUptoSaid : Prop := matchInverseUptoRow.holds Tryz.pinned (OpenSpec.upto matchInverseSpec)

/-- 'vellumlaw21.MatchPairs', WHERE WHAT IT READS IS OF BULK AT MOST 1048576: true; the input reads as it did. -/
def matchPairsUptoRow : OpenClaim := { program := "yticengaggjcppaagreat", sum := "71212be999a07ec7f02538f0a4070d9e7ca56279ed3bd42dedbec5fe0ef7e42a", func := "vellum/vellumlaw21.MatchPairs", spec := "matchPairs", unfollowed := true, recurses := true, plainKeys := false, apart := false, narrowed := true }
def MatchPairsUptoSaid : Prop := matchPairsUptoRow.holds Tryz.pinned (OpenSpec.upto matchPairsSpec)

/-- 'vellumlaw21.MatchChanged', WHERE WHAT IT READS IS OF BULK AT MOST 1048576: true; the input reads as it did. -/
def matchChangedUptoRow : OpenClaim := { program := "yticengaggjcppaagreat", sum := "71212be999a07ec7f02538f0a4070d9e7ca56279ed3bd42dedbec5fe0ef7e42a", func := "vellum/vellumlaw21.MatchChanged", spec := "matchChanged", unfollowed := true, recurses := true, plainKeys := false, apart := false, narrowed := true }
def MatchChangedUptoSaid : Prop := matchChangedUptoRow.holds Tryz.pinned (OpenSpec.upto matchChangedSpec)

/-- 'vellumlaw21.MatchTwins', WHERE WHAT IT READS IS OF BULK AT MOST 1048576: true; the input reads as it did. -/
def matchTwinsUptoRow : OpenClaim := { program := "yticengaggjcppaagreat", sum := "71212be999a07ec7f02538f0a4070d9e7ca56279ed3bd42dedbec5fe0ef7e42a", func := "vellum/vellumlaw21.MatchTwins", spec := "matchTwins", unfollowed := true, recurses := true, plainKeys := false, apart := false, narrowed := true }
def MatchTwinsUptoSaid : Prop := matchTwinsUptoRow.holds Tryz.pinned (OpenSpec.upto matchTwinsSpec)

/-- 'vellumlaw21.MatchSimilar', WHERE WHAT IT READS IS OF BULK AT MOST 1048576: true; the input reads as it did. -/
def matchSimilarUptoRow : OpenClaim := { program := "yticengaggjcppaagreat", sum := "71212be999a07ec7f02538f0a4070d9e7ca56279ed3bd42dedbec5fe0ef7e42a", func := "vellum/vellumlaw21.MatchSimilar", spec := "matchSimilar", unfollowed := true, recurses := true, plainKeys := false, apart := false, narrowed := true }
def MatchSimilarUptoSaid : Prop := matchSimilarUptoRow.holds Tryz.pinned (OpenSpec.upto matchSimilarSpec)

/-- 'vellumlaw21.MatchAlike', WHERE WHAT IT READS IS OF BULK AT MOST 1048576: true; the input reads as it did. -/
def matchAlikeUptoRow : OpenClaim := { program := "yticengaggjcppaagreat", sum := "71212be999a07ec7f02538f0a4070d9e7ca56279ed3bd42dedbec5fe0ef7e42a", func := "vellum/vellumlaw21.MatchAlike", spec := "matchAlike", unfollowed := true, recurses := true, plainKeys := false, apart := false, narrowed := true }
def MatchAlikeUptoSaid : Prop := matchAlikeUptoRow.holds Tryz.pinned (OpenSpec.upto matchAlikeSpec)

end Rows
end Go.Proofs.YticengaggjcppaaGreat
