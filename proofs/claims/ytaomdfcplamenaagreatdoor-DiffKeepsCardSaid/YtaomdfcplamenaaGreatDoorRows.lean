/-
  NARROWER THAN 'FOR EVERY INPUT', by the rows' own cells (each row's printed sentence says how): DiffApplies: laid · DiffChanged: laid · DiffEdits: laid · DiffInverts: laid · DiffMetric: laid · DiffKeeps: laid · DiffSame: laid.
  DERIVED. THE GIVEN ROWS OF THIS SEAT. 7 by the template 'for every input the law returns true; each argument reads behind the call as it read before'; 0 by the template 'total and deterministic' (their statements: YtaomdfcplamenaaGreatDoorTotals.lean).
  GIVEN WITH THE SEED: the statements are not yours to turn. If you find one false, say at which input.
  Laid BY PROGRAM, IN A SANDBOX (cutbox-rows.mjs): the forced cells as the released guide's own fill.sh prints them over the translation 7f89702853edcefb… (all of the seat's roots in one cut). By AI agents, Wed Nov 11 2026. No macro, syntax, notation, axiom, sorry.
-/
import Derived.Test.YtaomdfcplamenaaGreatDoorChecked
import GoSem.Claim
import GoSem.ClaimJoined
import GoSem.ClaimMapViews
import Derived.JoinedTies
import Derived.KernelRfl
namespace Go.Proofs.YtaomdfcplamenaaGreatDoor
/- THE CELL 'sum', in the pinned program and in every row, IS THE sha256 OF THE DUMP (.gsa) THAT YtaomdfcplamenaaGreatDoorProg.lean LOADS. Nothing in Lean hashes anything: it is a label: what it is worth is what the hold of that sum in a sandbox is worth. -/
noncomputable def Tryz.pinned : Pinned := { name := "ytaomdfcplamenaagreatdoor", sum := "7f89702853edcefb58be280ba8bda2c51d6b65600ab69c4b4d1a78840ae7b8c0", checked := Tryz.checked }
namespace Rows
def none {H : Type} : Left H := { results := [], args := [] }

/- WHAT THE LISTED PACKAGE-LEVEL VARIABLES READ AS WHEN THE CALL BEGINS. Each datum BY PROGRAM (the guide's laid-datum.mjs) off the statement by which the dump's own 'gosem.cut.vars' lays the variable. In a bare row this is a premise. The card (YtaomdfcplamenaaGreatDoorCards.lean) ties it to the program's text. -/
def laid_math_bits_deBruijn32tab {H : Type} : DataW H := .agg [.lit (.int .u8 0), .lit (.int .u8 1), .lit (.int .u8 28), .lit (.int .u8 2), .lit (.int .u8 29), .lit (.int .u8 14), .lit (.int .u8 24), .lit (.int .u8 3), .lit (.int .u8 30), .lit (.int .u8 22), .lit (.int .u8 20), .lit (.int .u8 15), .lit (.int .u8 25), .lit (.int .u8 17), .lit (.int .u8 4), .lit (.int .u8 8), .lit (.int .u8 31), .lit (.int .u8 27), .lit (.int .u8 13), .lit (.int .u8 23), .lit (.int .u8 21), .lit (.int .u8 19), .lit (.int .u8 16), .lit (.int .u8 7), .lit (.int .u8 26), .lit (.int .u8 12), .lit (.int .u8 18), .lit (.int .u8 6), .lit (.int .u8 11), .lit (.int .u8 5), .lit (.int .u8 10), .lit (.int .u8 9)]
def laid_math_bits_deBruijn64tab {H : Type} : DataW H := .agg [.lit (.int .u8 0), .lit (.int .u8 1), .lit (.int .u8 56), .lit (.int .u8 2), .lit (.int .u8 57), .lit (.int .u8 49), .lit (.int .u8 28), .lit (.int .u8 3), .lit (.int .u8 61), .lit (.int .u8 58), .lit (.int .u8 42), .lit (.int .u8 50), .lit (.int .u8 38), .lit (.int .u8 29), .lit (.int .u8 17), .lit (.int .u8 4), .lit (.int .u8 62), .lit (.int .u8 47), .lit (.int .u8 59), .lit (.int .u8 36), .lit (.int .u8 45), .lit (.int .u8 43), .lit (.int .u8 51), .lit (.int .u8 22), .lit (.int .u8 53), .lit (.int .u8 39), .lit (.int .u8 33), .lit (.int .u8 30), .lit (.int .u8 24), .lit (.int .u8 18), .lit (.int .u8 12), .lit (.int .u8 5), .lit (.int .u8 63), .lit (.int .u8 55), .lit (.int .u8 48), .lit (.int .u8 27), .lit (.int .u8 60), .lit (.int .u8 41), .lit (.int .u8 37), .lit (.int .u8 16), .lit (.int .u8 46), .lit (.int .u8 35), .lit (.int .u8 44), .lit (.int .u8 21), .lit (.int .u8 52), .lit (.int .u8 32), .lit (.int .u8 23), .lit (.int .u8 11), .lit (.int .u8 54), .lit (.int .u8 26), .lit (.int .u8 40), .lit (.int .u8 15), .lit (.int .u8 34), .lit (.int .u8 20), .lit (.int .u8 31), .lit (.int .u8 10), .lit (.int .u8 25), .lit (.int .u8 14), .lit (.int .u8 19), .lit (.int .u8 9), .lit (.int .u8 13), .lit (.int .u8 8), .lit (.int .u8 7), .lit (.int .u8 6)]
def laid_internal_strconv_uint64pow10 {H : Type} : DataW H := .agg [.lit (.int .u64 1), .lit (.int .u64 10), .lit (.int .u64 100), .lit (.int .u64 1000), .lit (.int .u64 10000), .lit (.int .u64 100000), .lit (.int .u64 1000000), .lit (.int .u64 10000000), .lit (.int .u64 100000000), .lit (.int .u64 1000000000), .lit (.int .u64 10000000000), .lit (.int .u64 100000000000), .lit (.int .u64 1000000000000), .lit (.int .u64 10000000000000), .lit (.int .u64 100000000000000), .lit (.int .u64 1000000000000000), .lit (.int .u64 10000000000000000), .lit (.int .u64 100000000000000000), .lit (.int .u64 1000000000000000000), .lit (.int .u64 10000000000000000000)]

/-- 'vellumlaw22.DiffApplies': WHATEVER THE INPUT: true; the input reads as it did. -/
def diffAppliesSpec : ChangeSpec := { name := "diffApplies", fn := fun _ => fun
  | [d1, d2] => { results := [.lit (.bool true)], args := [d1, d2] }
  | _ => none }
def diffAppliesRow : OpenClaim := { program := "ytaomdfcplamenaagreatdoor", sum := "7f89702853edcefb58be280ba8bda2c51d6b65600ab69c4b4d1a78840ae7b8c0", func := "vellum/vellumlaw22.DiffApplies", spec := "diffApplies", inPlace := ["slices.overlaps[vellum/api.Tree]"], unfollowed := true, recurses := true, named := ["internal/strconv.uint64pow10", "math/bits.deBruijn32tab", "math/bits.deBruijn64tab"], plainKeys := false, apart := false, laid := [("math/bits.deBruijn32tab", laid_math_bits_deBruijn32tab), ("math/bits.deBruijn64tab", laid_math_bits_deBruijn64tab), ("internal/strconv.uint64pow10", laid_internal_strconv_uint64pow10)] }
def DiffAppliesSaid : Prop := diffAppliesRow.holds Tryz.pinned (OpenSpec.ofChange diffAppliesSpec)

/-- ITS FALSE NEIGHBOUR: 'it returns false'. Refute it at one input. -/
def diffAppliesWrong : ChangeSpec := { name := "diffApplies", fn := fun _ => fun
  | [d1, d2] => { results := [.lit (.bool false)], args := [d1, d2] }
  | _ => none }
def DiffAppliesWrongFalsely : Prop := diffAppliesRow.holds Tryz.pinned (OpenSpec.ofChange diffAppliesWrong)

/-- 'vellumlaw22.DiffChanged': WHATEVER THE INPUT: true; the input reads as it did. -/
def diffChangedSpec : ChangeSpec := { name := "diffChanged", fn := fun _ => fun
  | [d1, d2] => { results := [.lit (.bool true)], args := [d1, d2] }
  | _ => none }
def diffChangedRow : OpenClaim := { program := "ytaomdfcplamenaagreatdoor", sum := "7f89702853edcefb58be280ba8bda2c51d6b65600ab69c4b4d1a78840ae7b8c0", func := "vellum/vellumlaw22.DiffChanged", spec := "diffChanged", inPlace := ["slices.overlaps[vellum/api.Tree]"], unfollowed := true, recurses := true, named := ["internal/strconv.uint64pow10", "math/bits.deBruijn32tab", "math/bits.deBruijn64tab"], plainKeys := false, apart := false, laid := [("math/bits.deBruijn32tab", laid_math_bits_deBruijn32tab), ("math/bits.deBruijn64tab", laid_math_bits_deBruijn64tab), ("internal/strconv.uint64pow10", laid_internal_strconv_uint64pow10)] }
def DiffChangedSaid : Prop := diffChangedRow.holds Tryz.pinned (OpenSpec.ofChange diffChangedSpec)

/-- ITS FALSE NEIGHBOUR: 'it returns false'. Refute it at one input. -/
def diffChangedWrong : ChangeSpec := { name := "diffChanged", fn := fun _ => fun
  | [d1, d2] => { results := [.lit (.bool false)], args := [d1, d2] }
  | _ => none }
def DiffChangedWrongFalsely : Prop := diffChangedRow.holds Tryz.pinned (OpenSpec.ofChange diffChangedWrong)

/-- 'vellumlaw22.DiffEdits': WHATEVER THE INPUT: true; the input reads as it did. -/
def diffEditsSpec : ChangeSpec := { name := "diffEdits", fn := fun _ => fun
  | [d1, d2] => { results := [.lit (.bool true)], args := [d1, d2] }
  | _ => none }
def diffEditsRow : OpenClaim := { program := "ytaomdfcplamenaagreatdoor", sum := "7f89702853edcefb58be280ba8bda2c51d6b65600ab69c4b4d1a78840ae7b8c0", func := "vellum/vellumlaw22.DiffEdits", spec := "diffEdits", inPlace := ["slices.overlaps[vellum/api.Tree]"], unfollowed := true, recurses := true, named := ["internal/strconv.uint64pow10", "math/bits.deBruijn32tab", "math/bits.deBruijn64tab"], plainKeys := false, apart := false, laid := [("math/bits.deBruijn32tab", laid_math_bits_deBruijn32tab), ("math/bits.deBruijn64tab", laid_math_bits_deBruijn64tab), ("internal/strconv.uint64pow10", laid_internal_strconv_uint64pow10)] }
def DiffEditsSaid : Prop := diffEditsRow.holds Tryz.pinned (OpenSpec.ofChange diffEditsSpec)

/-- ITS FALSE NEIGHBOUR: 'it returns false'. Refute it at one input. -/
def diffEditsWrong : ChangeSpec := { name := "diffEdits", fn := fun _ => fun
  | [d1, d2] => { results := [.lit (.bool false)], args := [d1, d2] }
  | _ => none }
def DiffEditsWrongFalsely : Prop := diffEditsRow.holds Tryz.pinned (OpenSpec.ofChange diffEditsWrong)

/-- 'vellumlaw22.DiffInverts': WHATEVER THE INPUT: true; the input reads as it did. -/
def diffInvertsSpec : ChangeSpec := { name := "diffInverts", fn := fun _ => fun
  | [d1, d2] => { results := [.lit (.bool true)], args := [d1, d2] }
  | _ => none }
def diffInvertsRow : OpenClaim := { program := "ytaomdfcplamenaagreatdoor", sum := "7f89702853edcefb58be280ba8bda2c51d6b65600ab69c4b4d1a78840ae7b8c0", func := "vellum/vellumlaw22.DiffInverts", spec := "diffInverts", inPlace := ["slices.overlaps[vellum/api.Tree]"], unfollowed := true, recurses := true, named := ["internal/strconv.uint64pow10", "math/bits.deBruijn32tab", "math/bits.deBruijn64tab"], plainKeys := false, apart := false, laid := [("math/bits.deBruijn32tab", laid_math_bits_deBruijn32tab), ("math/bits.deBruijn64tab", laid_math_bits_deBruijn64tab), ("internal/strconv.uint64pow10", laid_internal_strconv_uint64pow10)] }
def DiffInvertsSaid : Prop := diffInvertsRow.holds Tryz.pinned (OpenSpec.ofChange diffInvertsSpec)

/-- ITS FALSE NEIGHBOUR: 'it returns false'. Refute it at one input. -/
def diffInvertsWrong : ChangeSpec := { name := "diffInverts", fn := fun _ => fun
  | [d1, d2] => { results := [.lit (.bool false)], args := [d1, d2] }
  | _ => none }
def DiffInvertsWrongFalsely : Prop := diffInvertsRow.holds Tryz.pinned (OpenSpec.ofChange diffInvertsWrong)

/-- 'vellumlaw22.DiffMetric': WHATEVER THE INPUT: true; the input reads as it did. -/
def diffMetricSpec : ChangeSpec := { name := "diffMetric", fn := fun _ => fun
  | [d1, d2, d3] => { results := [.lit (.bool true)], args := [d1, d2, d3] }
  | _ => none }
def diffMetricRow : OpenClaim := { program := "ytaomdfcplamenaagreatdoor", sum := "7f89702853edcefb58be280ba8bda2c51d6b65600ab69c4b4d1a78840ae7b8c0", func := "vellum/vellumlaw22.DiffMetric", spec := "diffMetric", inPlace := ["slices.overlaps[vellum/api.Tree]"], unfollowed := true, recurses := true, named := ["internal/strconv.uint64pow10", "math/bits.deBruijn32tab", "math/bits.deBruijn64tab"], plainKeys := false, apart := false, laid := [("math/bits.deBruijn32tab", laid_math_bits_deBruijn32tab), ("math/bits.deBruijn64tab", laid_math_bits_deBruijn64tab), ("internal/strconv.uint64pow10", laid_internal_strconv_uint64pow10)] }
def DiffMetricSaid : Prop := diffMetricRow.holds Tryz.pinned (OpenSpec.ofChange diffMetricSpec)

/-- ITS FALSE NEIGHBOUR: 'it returns false'. Refute it at one input. -/
def diffMetricWrong : ChangeSpec := { name := "diffMetric", fn := fun _ => fun
  | [d1, d2, d3] => { results := [.lit (.bool false)], args := [d1, d2, d3] }
  | _ => none }
def DiffMetricWrongFalsely : Prop := diffMetricRow.holds Tryz.pinned (OpenSpec.ofChange diffMetricWrong)

/-- 'vellumlaw22.DiffKeeps': WHATEVER THE INPUT: true; the input reads as it did. -/
def diffKeepsSpec : ChangeSpec := { name := "diffKeeps", fn := fun _ => fun
  | [d1, d2, d3] => { results := [.lit (.bool true)], args := [d1, d2, d3] }
  | _ => none }
def diffKeepsRow : OpenClaim := { program := "ytaomdfcplamenaagreatdoor", sum := "7f89702853edcefb58be280ba8bda2c51d6b65600ab69c4b4d1a78840ae7b8c0", func := "vellum/vellumlaw22.DiffKeeps", spec := "diffKeeps", inPlace := ["slices.overlaps[vellum/api.Tree]"], unfollowed := true, recurses := true, named := ["internal/strconv.uint64pow10", "math/bits.deBruijn32tab", "math/bits.deBruijn64tab"], plainKeys := false, apart := false, laid := [("math/bits.deBruijn32tab", laid_math_bits_deBruijn32tab), ("math/bits.deBruijn64tab", laid_math_bits_deBruijn64tab), ("internal/strconv.uint64pow10", laid_internal_strconv_uint64pow10)] }
def DiffKeepsSaid : Prop := diffKeepsRow.holds Tryz.pinned (OpenSpec.ofChange diffKeepsSpec)

/-- ITS FALSE NEIGHBOUR: 'it returns false'. Refute it at one input. -/
def diffKeepsWrong : ChangeSpec := { name := "diffKeeps", fn := fun _ => fun
  | [d1, d2, d3] => { results := [.lit (.bool false)], args := [d1, d2, d3] }
  | _ => none }
def DiffKeepsWrongFalsely : Prop := diffKeepsRow.holds Tryz.pinned (OpenSpec.ofChange diffKeepsWrong)

/-- 'vellumlaw22.DiffSame': WHATEVER THE INPUT: true; the input reads as it did. -/
def diffSameSpec : ChangeSpec := { name := "diffSame", fn := fun _ => fun
  | [d1, d2, d3] => { results := [.lit (.bool true)], args := [d1, d2, d3] }
  | _ => none }
def diffSameRow : OpenClaim := { program := "ytaomdfcplamenaagreatdoor", sum := "7f89702853edcefb58be280ba8bda2c51d6b65600ab69c4b4d1a78840ae7b8c0", func := "vellum/vellumlaw22.DiffSame", spec := "diffSame", inPlace := ["slices.overlaps[vellum/api.Tree]"], unfollowed := true, recurses := true, named := ["internal/strconv.uint64pow10", "math/bits.deBruijn32tab", "math/bits.deBruijn64tab"], plainKeys := false, apart := false, laid := [("math/bits.deBruijn32tab", laid_math_bits_deBruijn32tab), ("math/bits.deBruijn64tab", laid_math_bits_deBruijn64tab), ("internal/strconv.uint64pow10", laid_internal_strconv_uint64pow10)] }
def DiffSameSaid : Prop := diffSameRow.holds Tryz.pinned (OpenSpec.ofChange diffSameSpec)

/-- ITS FALSE NEIGHBOUR: 'it returns false'. Refute it at one input. -/
def diffSameWrong : ChangeSpec := { name := "diffSame", fn := fun _ => fun
  | [d1, d2, d3] => { results := [.lit (.bool false)], args := [d1, d2, d3] }
  | _ => none }
def DiffSameWrongFalsely : Prop := diffSameRow.holds Tryz.pinned (OpenSpec.ofChange diffSameWrong)

/- THE SECOND FORM. 'bulk': how many values and letters a reading holds, each counted each time it is reached (what is shared counts as often as it is met; a slice's spare places count too). A statement '..UptoSaid' is the law's where the arguments, and the package variables that the reading takes, are together of bulk at most 1048576: NARROWER than '..Said'. Prove '..Said' where nothing that the law and all that it calls make is longer than what came in: it says more and counts as full. Else prove '..UptoSaid'. A law counts once. -/
mutual
def uptoBulk {H : Type} : DataW H → Nat
  | .lit (.string bytes) => bytes.length + 1
  | .lit _ => 1
  | .nil => 1
  | .ptr d => uptoBulk d + 1
  | .slice elems spare => uptoBulkAll elems + uptoBulkAll spare + 1
  | .agg parts => uptoBulkAll parts + 1
  | .iface _ d => uptoBulk d + 1
  | .map entries => uptoBulkEntries entries + 1
  | .held _ => 1
def uptoBulkAll {H : Type} : List (DataW H) → Nat
  | [] => 0
  | d :: r => uptoBulk d + uptoBulkAll r
def uptoBulkEntries {H : Type} : List (Lit × DataW H) → Nat
  | [] => 0
  | x :: r => uptoBulkEntry x + uptoBulkEntries r
def uptoBulkEntry {H : Type} : Lit × DataW H → Nat
  | (.string bytes, d) => bytes.length + uptoBulk d + 1
  | (_, d) => uptoBulk d + 1
 end
def uptoSmall : (H : Type) → List (DataW H) → Bool := fun _ ds => decide (uptoBulkAll ds ≤ 1048576)
def OpenSpec.upto (s : _root_.Go.ChangeSpec) : _root_.Go.OpenSpec := { _root_.Go.OpenSpec.ofChange s with cond := some uptoSmall }

/-- 'vellumlaw22.DiffApplies', WHERE WHAT IT READS IS OF BULK AT MOST 1048576: true; the input reads as it did. -/
def diffAppliesUptoRow : OpenClaim := { program := "ytaomdfcplamenaagreatdoor", sum := "7f89702853edcefb58be280ba8bda2c51d6b65600ab69c4b4d1a78840ae7b8c0", func := "vellum/vellumlaw22.DiffApplies", spec := "diffApplies", inPlace := ["slices.overlaps[vellum/api.Tree]"], unfollowed := true, recurses := true, named := ["internal/strconv.uint64pow10", "math/bits.deBruijn32tab", "math/bits.deBruijn64tab"], plainKeys := false, apart := false, laid := [("math/bits.deBruijn32tab", laid_math_bits_deBruijn32tab), ("math/bits.deBruijn64tab", laid_math_bits_deBruijn64tab), ("internal/strconv.uint64pow10", laid_internal_strconv_uint64pow10)], narrowed := true }
def DiffAppliesUptoSaid : Prop := diffAppliesUptoRow.holds Tryz.pinned (OpenSpec.upto diffAppliesSpec)

/-- 'vellumlaw22.DiffChanged', WHERE WHAT IT READS IS OF BULK AT MOST 1048576: true; the input reads as it did. -/
def diffChangedUptoRow : OpenClaim := { program := "ytaomdfcplamenaagreatdoor", sum := "7f89702853edcefb58be280ba8bda2c51d6b65600ab69c4b4d1a78840ae7b8c0", func := "vellum/vellumlaw22.DiffChanged", spec := "diffChanged", inPlace := ["slices.overlaps[vellum/api.Tree]"], unfollowed := true, recurses := true, named := ["internal/strconv.uint64pow10", "math/bits.deBruijn32tab", "math/bits.deBruijn64tab"], plainKeys := false, apart := false, laid := [("math/bits.deBruijn32tab", laid_math_bits_deBruijn32tab), ("math/bits.deBruijn64tab", laid_math_bits_deBruijn64tab), ("internal/strconv.uint64pow10", laid_internal_strconv_uint64pow10)], narrowed := true }
def DiffChangedUptoSaid : Prop := diffChangedUptoRow.holds Tryz.pinned (OpenSpec.upto diffChangedSpec)

/-- 'vellumlaw22.DiffEdits', WHERE WHAT IT READS IS OF BULK AT MOST 1048576: true; the input reads as it did. -/
def diffEditsUptoRow : OpenClaim := { program := "ytaomdfcplamenaagreatdoor", sum := "7f89702853edcefb58be280ba8bda2c51d6b65600ab69c4b4d1a78840ae7b8c0", func := "vellum/vellumlaw22.DiffEdits", spec := "diffEdits", inPlace := ["slices.overlaps[vellum/api.Tree]"], unfollowed := true, recurses := true, named := ["internal/strconv.uint64pow10", "math/bits.deBruijn32tab", "math/bits.deBruijn64tab"], plainKeys := false, apart := false, laid := [("math/bits.deBruijn32tab", laid_math_bits_deBruijn32tab), ("math/bits.deBruijn64tab", laid_math_bits_deBruijn64tab), ("internal/strconv.uint64pow10", laid_internal_strconv_uint64pow10)], narrowed := true }
def DiffEditsUptoSaid : Prop := diffEditsUptoRow.holds Tryz.pinned (OpenSpec.upto diffEditsSpec)

/-- 'vellumlaw22.DiffInverts', WHERE WHAT IT READS IS OF BULK AT MOST 1048576: true; the input reads as it did. -/
def diffInvertsUptoRow : OpenClaim := { program := "ytaomdfcplamenaagreatdoor", sum := "7f89702853edcefb58be280ba8bda2c51d6b65600ab69c4b4d1a78840ae7b8c0", func := "vellum/vellumlaw22.DiffInverts", spec := "diffInverts", inPlace := ["slices.overlaps[vellum/api.Tree]"], unfollowed := true, recurses := true, named := ["internal/strconv.uint64pow10", "math/bits.deBruijn32tab", "math/bits.deBruijn64tab"], plainKeys := false, apart := false, laid := [("math/bits.deBruijn32tab", laid_math_bits_deBruijn32tab), ("math/bits.deBruijn64tab", laid_math_bits_deBruijn64tab), ("internal/strconv.uint64pow10", laid_internal_strconv_uint64pow10)], narrowed := true }
def DiffInvertsUptoSaid : Prop := diffInvertsUptoRow.holds Tryz.pinned (OpenSpec.upto diffInvertsSpec)

/-- 'vellumlaw22.DiffMetric', WHERE WHAT IT READS IS OF BULK AT MOST 1048576: true; the input reads as it did. -/
def diffMetricUptoRow : OpenClaim := { program := "ytaomdfcplamenaagreatdoor", sum := "7f89702853edcefb58be280ba8bda2c51d6b65600ab69c4b4d1a78840ae7b8c0", func := "vellum/vellumlaw22.DiffMetric", spec := "diffMetric", inPlace := ["slices.overlaps[vellum/api.Tree]"], unfollowed := true, recurses := true, named := ["internal/strconv.uint64pow10", "math/bits.deBruijn32tab", "math/bits.deBruijn64tab"], plainKeys := false, apart := false, laid := [("math/bits.deBruijn32tab", laid_math_bits_deBruijn32tab), ("math/bits.deBruijn64tab", laid_math_bits_deBruijn64tab), ("internal/strconv.uint64pow10", laid_internal_strconv_uint64pow10)], narrowed := true }
def DiffMetricUptoSaid : Prop := diffMetricUptoRow.holds Tryz.pinned (OpenSpec.upto diffMetricSpec)

/-- 'vellumlaw22.DiffKeeps', WHERE WHAT IT READS IS OF BULK AT MOST 1048576: true; the input reads as it did. -/
def diffKeepsUptoRow : OpenClaim := { program := "ytaomdfcplamenaagreatdoor", sum := "7f89702853edcefb58be280ba8bda2c51d6b65600ab69c4b4d1a78840ae7b8c0", func := "vellum/vellumlaw22.DiffKeeps", spec := "diffKeeps", inPlace := ["slices.overlaps[vellum/api.Tree]"], unfollowed := true, recurses := true, named := ["internal/strconv.uint64pow10", "math/bits.deBruijn32tab", "math/bits.deBruijn64tab"], plainKeys := false, apart := false, laid := [("math/bits.deBruijn32tab", laid_math_bits_deBruijn32tab), ("math/bits.deBruijn64tab", laid_math_bits_deBruijn64tab), ("internal/strconv.uint64pow10", laid_internal_strconv_uint64pow10)], narrowed := true }
def DiffKeepsUptoSaid : Prop := diffKeepsUptoRow.holds Tryz.pinned (OpenSpec.upto diffKeepsSpec)

/-- 'vellumlaw22.DiffSame', WHERE WHAT IT READS IS OF BULK AT MOST 1048576: true; the input reads as it did. -/
def diffSameUptoRow : OpenClaim := { program := "ytaomdfcplamenaagreatdoor", sum := "7f89702853edcefb58be280ba8bda2c51d6b65600ab69c4b4d1a78840ae7b8c0", func := "vellum/vellumlaw22.DiffSame", spec := "diffSame", inPlace := ["slices.overlaps[vellum/api.Tree]"], unfollowed := true, recurses := true, named := ["internal/strconv.uint64pow10", "math/bits.deBruijn32tab", "math/bits.deBruijn64tab"], plainKeys := false, apart := false, laid := [("math/bits.deBruijn32tab", laid_math_bits_deBruijn32tab), ("math/bits.deBruijn64tab", laid_math_bits_deBruijn64tab), ("internal/strconv.uint64pow10", laid_internal_strconv_uint64pow10)], narrowed := true }
def DiffSameUptoSaid : Prop := diffSameUptoRow.holds Tryz.pinned (OpenSpec.upto diffSameSpec)

end Rows
end Go.Proofs.YtaomdfcplamenaaGreatDoor
