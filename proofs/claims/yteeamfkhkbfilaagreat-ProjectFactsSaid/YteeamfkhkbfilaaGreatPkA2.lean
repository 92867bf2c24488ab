/-
  Part 2 of 5 of the proof that seven laws of chapter 25 return true and leave their arguments as they were. No condition beyond the given statement.
-/
import Derived.Test.YteeamfkhkbfilaaGreatProg
import Derived.KernelRfl
import Derived.Laws.StructEq
import Derived.Laws.Strings
import Derived.Laws.Cover3
import Derived.Laws.Pointers
import Derived.Laws.Small
import Derived.Laws.IdiomStrings
import Derived.DeepKeys
import Derived.DeepKeys4
import Derived.Test.YteeamfkhkbfilaaGreatPkA1
set_option linter.unusedVariables false
set_option linter.unusedSimpArgs false
set_option linter.defProp false
set_option maxHeartbeats 4000000
namespace Go.Proofs.YteeamfkhkbfilaaGreat.K
open Go Go.Proofs
abbrev und0 := Und.mk Tryz.underlying0
attribute [instance] und0
theorem info0 : Tryz.prog.info? 0 = some Tryz.t0 := by kernel_rfl
instance inf0 : Inf Tryz.prog 0 Tryz.t0 := ⟨info0⟩
instance ty0 : Ty Tryz.prog 0 false 1 := Ty.of Tryz.underlying0 info0
abbrev und1 := Und.mk Tryz.underlying1
attribute [instance] und1
theorem info1 : Tryz.prog.info? 1 = some Tryz.t1 := by kernel_rfl
instance inf1 : Inf Tryz.prog 1 Tryz.t1 := ⟨info1⟩
instance ty1 : Ty Tryz.prog 1 false 1 := Ty.of Tryz.underlying1 info1
abbrev und2 := Und.mk Tryz.underlying2
attribute [instance] und2
theorem info2 : Tryz.prog.info? 2 = some Tryz.t2 := by kernel_rfl
instance inf2 : Inf Tryz.prog 2 Tryz.t2 := ⟨info2⟩
instance ty2 : Ty Tryz.prog 2 false 1 := Ty.of Tryz.underlying2 info2
abbrev und3 := Und.mk Tryz.underlying3
attribute [instance] und3
theorem info3 : Tryz.prog.info? 3 = some Tryz.t3 := by kernel_rfl
instance inf3 : Inf Tryz.prog 3 Tryz.t3 := ⟨info3⟩
instance ty3 : Ty Tryz.prog 3 false 1 := Ty.of Tryz.underlying3 info3
abbrev und4 := Und.mk Tryz.underlying4
attribute [instance] und4
theorem info4 : Tryz.prog.info? 4 = some Tryz.t4 := by kernel_rfl
instance inf4 : Inf Tryz.prog 4 Tryz.t4 := ⟨info4⟩
instance ty4 : Ty Tryz.prog 4 false 1 := Ty.of Tryz.underlying4 info4
abbrev und5 := Und.mk Tryz.underlying5
attribute [instance] und5
theorem info5 : Tryz.prog.info? 5 = some Tryz.t5 := by kernel_rfl
instance inf5 : Inf Tryz.prog 5 Tryz.t5 := ⟨info5⟩
instance ty5 : Ty Tryz.prog 5 false 1 := Ty.of Tryz.underlying5 info5
abbrev und6 := Und.mk Tryz.underlying6
attribute [instance] und6
theorem info6 : Tryz.prog.info? 6 = some Tryz.t6 := by kernel_rfl
instance inf6 : Inf Tryz.prog 6 Tryz.t6 := ⟨info6⟩
instance ty6 : Ty Tryz.prog 6 false 1 := Ty.of Tryz.underlying6 info6
abbrev und7 := Und.mk Tryz.underlying7
attribute [instance] und7
theorem info7 : Tryz.prog.info? 7 = some Tryz.t7 := by kernel_rfl
instance inf7 : Inf Tryz.prog 7 Tryz.t7 := ⟨info7⟩
instance ty7 : Ty Tryz.prog 7 true 4 := Ty.of Tryz.underlying7 info7
abbrev und8 := Und.mk Tryz.underlying8
attribute [instance] und8
theorem info8 : Tryz.prog.info? 8 = some Tryz.t8 := by kernel_rfl
instance inf8 : Inf Tryz.prog 8 Tryz.t8 := ⟨info8⟩
instance ty8 : Ty Tryz.prog 8 true 4 := Ty.of Tryz.underlying8 info8
abbrev und9 := Und.mk Tryz.underlying9
attribute [instance] und9
theorem info9 : Tryz.prog.info? 9 = some Tryz.t9 := by kernel_rfl
instance inf9 : Inf Tryz.prog 9 Tryz.t9 := ⟨info9⟩
instance ty9 : Ty Tryz.prog 9 false 1 := Ty.of Tryz.underlying9 info9
abbrev und10 := Und.mk Tryz.underlying10
attribute [instance] und10
theorem info10 : Tryz.prog.info? 10 = some Tryz.t10 := by kernel_rfl
instance inf10 : Inf Tryz.prog 10 Tryz.t10 := ⟨info10⟩
instance ty10 : Ty Tryz.prog 10 false 1 := Ty.of Tryz.underlying10 info10
abbrev und11 := Und.mk Tryz.underlying11
attribute [instance] und11
theorem info11 : Tryz.prog.info? 11 = some Tryz.t11 := by kernel_rfl
instance inf11 : Inf Tryz.prog 11 Tryz.t11 := ⟨info11⟩
instance ty11 : Ty Tryz.prog 11 false 1 := Ty.of Tryz.underlying11 info11
abbrev und12 := Und.mk Tryz.underlying12
attribute [instance] und12
theorem info12 : Tryz.prog.info? 12 = some Tryz.t12 := by kernel_rfl
instance inf12 : Inf Tryz.prog 12 Tryz.t12 := ⟨info12⟩
instance ty12 : Ty Tryz.prog 12 false 1 := Ty.of Tryz.underlying12 info12
abbrev und13 := Und.mk Tryz.underlying13
attribute [instance] und13
theorem info13 : Tryz.prog.info? 13 = some Tryz.t13 := by kernel_rfl
instance inf13 : Inf Tryz.prog 13 Tryz.t13 := ⟨info13⟩
instance ty13 : Ty Tryz.prog 13 true 2 := Ty.of Tryz.underlying13 info13
abbrev und14 := Und.mk Tryz.underlying14
attribute [instance] und14
theorem info14 : Tryz.prog.info? 14 = some Tryz.t14 := by kernel_rfl
instance inf14 : Inf Tryz.prog 14 Tryz.t14 := ⟨info14⟩
instance ty14 : Ty Tryz.prog 14 true 2 := Ty.of Tryz.underlying14 info14
abbrev und15 := Und.mk Tryz.underlying15
attribute [instance] und15
theorem info15 : Tryz.prog.info? 15 = some Tryz.t15 := by kernel_rfl
instance inf15 : Inf Tryz.prog 15 Tryz.t15 := ⟨info15⟩
instance ty15 : Ty Tryz.prog 15 false 1 := Ty.of Tryz.underlying15 info15
abbrev und16 := Und.mk Tryz.underlying16
attribute [instance] und16
theorem info16 : Tryz.prog.info? 16 = some Tryz.t16 := by kernel_rfl
instance inf16 : Inf Tryz.prog 16 Tryz.t16 := ⟨info16⟩
instance ty16 : Ty Tryz.prog 16 false 1 := Ty.of Tryz.underlying16 info16
abbrev und17 := Und.mk Tryz.underlying17
attribute [instance] und17
theorem info17 : Tryz.prog.info? 17 = some Tryz.t17 := by kernel_rfl
instance inf17 : Inf Tryz.prog 17 Tryz.t17 := ⟨info17⟩
instance ty17 : Ty Tryz.prog 17 false 1 := Ty.of Tryz.underlying17 info17
abbrev und18 := Und.mk Tryz.underlying18
attribute [instance] und18
theorem info18 : Tryz.prog.info? 18 = some Tryz.t18 := by kernel_rfl
instance inf18 : Inf Tryz.prog 18 Tryz.t18 := ⟨info18⟩
instance ty18 : Ty Tryz.prog 18 true 1 := Ty.of Tryz.underlying18 info18
abbrev und19 := Und.mk Tryz.underlying19
attribute [instance] und19
theorem info19 : Tryz.prog.info? 19 = some Tryz.t19 := by kernel_rfl
instance inf19 : Inf Tryz.prog 19 Tryz.t19 := ⟨info19⟩
instance ty19 : Ty Tryz.prog 19 true 1 := Ty.of Tryz.underlying19 info19
abbrev und20 := Und.mk Tryz.underlying20
attribute [instance] und20
theorem info20 : Tryz.prog.info? 20 = some Tryz.t20 := by kernel_rfl
instance inf20 : Inf Tryz.prog 20 Tryz.t20 := ⟨info20⟩
instance ty20 : Ty Tryz.prog 20 false 1 := Ty.of Tryz.underlying20 info20
abbrev und21 := Und.mk Tryz.underlying21
attribute [instance] und21
theorem info21 : Tryz.prog.info? 21 = some Tryz.t21 := by kernel_rfl
instance inf21 : Inf Tryz.prog 21 Tryz.t21 := ⟨info21⟩
instance ty21 : Ty Tryz.prog 21 false 1 := Ty.of Tryz.underlying21 info21
abbrev und22 := Und.mk Tryz.underlying22
attribute [instance] und22
theorem info22 : Tryz.prog.info? 22 = some Tryz.t22 := by kernel_rfl
instance inf22 : Inf Tryz.prog 22 Tryz.t22 := ⟨info22⟩
instance ty22 : Ty Tryz.prog 22 false 1 := Ty.of Tryz.underlying22 info22
abbrev und23 := Und.mk Tryz.underlying23
attribute [instance] und23
theorem info23 : Tryz.prog.info? 23 = some Tryz.t23 := by kernel_rfl
instance inf23 : Inf Tryz.prog 23 Tryz.t23 := ⟨info23⟩
instance ty23 : Ty Tryz.prog 23 false 1 := Ty.of Tryz.underlying23 info23
abbrev und24 := Und.mk Tryz.underlying24
attribute [instance] und24
theorem info24 : Tryz.prog.info? 24 = some Tryz.t24 := by kernel_rfl
instance inf24 : Inf Tryz.prog 24 Tryz.t24 := ⟨info24⟩
instance ty24 : Ty Tryz.prog 24 false 1 := Ty.of Tryz.underlying24 info24
abbrev und25 := Und.mk Tryz.underlying25
attribute [instance] und25
theorem info25 : Tryz.prog.info? 25 = some Tryz.t25 := by kernel_rfl
instance inf25 : Inf Tryz.prog 25 Tryz.t25 := ⟨info25⟩
instance ty25 : Ty Tryz.prog 25 false 1 := Ty.of Tryz.underlying25 info25
abbrev und26 := Und.mk Tryz.underlying26
attribute [instance] und26
theorem info26 : Tryz.prog.info? 26 = some Tryz.t26 := by kernel_rfl
instance inf26 : Inf Tryz.prog 26 Tryz.t26 := ⟨info26⟩
instance ty26 : Ty Tryz.prog 26 false 1 := Ty.of Tryz.underlying26 info26
abbrev und27 := Und.mk Tryz.underlying27
attribute [instance] und27
theorem info27 : Tryz.prog.info? 27 = some Tryz.t27 := by kernel_rfl
instance inf27 : Inf Tryz.prog 27 Tryz.t27 := ⟨info27⟩
instance ty27 : Ty Tryz.prog 27 true 4 := Ty.of Tryz.underlying27 info27
abbrev und28 := Und.mk Tryz.underlying28
attribute [instance] und28
theorem info28 : Tryz.prog.info? 28 = some Tryz.t28 := by kernel_rfl
instance inf28 : Inf Tryz.prog 28 Tryz.t28 := ⟨info28⟩
instance ty28 : Ty Tryz.prog 28 true 4 := Ty.of Tryz.underlying28 info28
abbrev und29 := Und.mk Tryz.underlying29
attribute [instance] und29
theorem info29 : Tryz.prog.info? 29 = some Tryz.t29 := by kernel_rfl
instance inf29 : Inf Tryz.prog 29 Tryz.t29 := ⟨info29⟩
instance ty29 : Ty Tryz.prog 29 false 1 := Ty.of Tryz.underlying29 info29
abbrev und30 := Und.mk Tryz.underlying30
attribute [instance] und30
theorem info30 : Tryz.prog.info? 30 = some Tryz.t30 := by kernel_rfl
instance inf30 : Inf Tryz.prog 30 Tryz.t30 := ⟨info30⟩
instance ty30 : Ty Tryz.prog 30 false 1 := Ty.of Tryz.underlying30 info30
abbrev und32 := Und.mk Tryz.underlying32
attribute [instance] und32
theorem info32 : Tryz.prog.info? 32 = some Tryz.t32 := by kernel_rfl
instance inf32 : Inf Tryz.prog 32 Tryz.t32 := ⟨info32⟩
instance ty32 : Ty Tryz.prog 32 false 1 := Ty.of Tryz.underlying32 info32
abbrev und33 := Und.mk Tryz.underlying33
attribute [instance] und33
theorem info33 : Tryz.prog.info? 33 = some Tryz.t33 := by kernel_rfl
instance inf33 : Inf Tryz.prog 33 Tryz.t33 := ⟨info33⟩
instance ty33 : Ty Tryz.prog 33 false 1 := Ty.of Tryz.underlying33 info33
abbrev und34 := Und.mk Tryz.underlying34
attribute [instance] und34
theorem info34 : Tryz.prog.info? 34 = some Tryz.t34 := by kernel_rfl
instance inf34 : Inf Tryz.prog 34 Tryz.t34 := ⟨info34⟩
instance ty34 : Ty Tryz.prog 34 false 1 := Ty.of Tryz.underlying34 info34
abbrev und35 := Und.mk Tryz.underlying35
attribute [instance] und35
theorem info35 : Tryz.prog.info? 35 = some Tryz.t35 := by kernel_rfl
instance inf35 : Inf Tryz.prog 35 Tryz.t35 := ⟨info35⟩
instance ty35 : Ty Tryz.prog 35 false 1 := Ty.of Tryz.underlying35 info35
abbrev und37 := Und.mk Tryz.underlying37
attribute [instance] und37
theorem info37 : Tryz.prog.info? 37 = some Tryz.t37 := by kernel_rfl
instance inf37 : Inf Tryz.prog 37 Tryz.t37 := ⟨info37⟩
instance ty37 : Ty Tryz.prog 37 true 4 := Ty.of Tryz.underlying37 info37
abbrev und48 := Und.mk Tryz.underlying48
attribute [instance] und48
theorem info48 : Tryz.prog.info? 48 = some Tryz.t48 := by kernel_rfl
instance inf48 : Inf Tryz.prog 48 Tryz.t48 := ⟨info48⟩
instance ty48 : Ty Tryz.prog 48 true 3 := Ty.of Tryz.underlying48 info48
abbrev und49 := Und.mk Tryz.underlying49
attribute [instance] und49
theorem info49 : Tryz.prog.info? 49 = some Tryz.t49 := by kernel_rfl
instance inf49 : Inf Tryz.prog 49 Tryz.t49 := ⟨info49⟩
instance ty49 : Ty Tryz.prog 49 false 1 := Ty.of Tryz.underlying49 info49
abbrev und50 := Und.mk Tryz.underlying50
attribute [instance] und50
theorem info50 : Tryz.prog.info? 50 = some Tryz.t50 := by kernel_rfl
instance inf50 : Inf Tryz.prog 50 Tryz.t50 := ⟨info50⟩
instance ty50 : Ty Tryz.prog 50 false 1 := Ty.of Tryz.underlying50 info50
abbrev und52 := Und.mk Tryz.underlying52
attribute [instance] und52
theorem info52 : Tryz.prog.info? 52 = some Tryz.t52 := by kernel_rfl
instance inf52 : Inf Tryz.prog 52 Tryz.t52 := ⟨info52⟩
instance ty52 : Ty Tryz.prog 52 true 2 := Ty.of Tryz.underlying52 info52
abbrev und53 := Und.mk Tryz.underlying53
attribute [instance] und53
theorem info53 : Tryz.prog.info? 53 = some Tryz.t53 := by kernel_rfl
instance inf53 : Inf Tryz.prog 53 Tryz.t53 := ⟨info53⟩
instance ty53 : Ty Tryz.prog 53 false 1 := Ty.of Tryz.underlying53 info53
abbrev und56 := Und.mk Tryz.underlying56
attribute [instance] und56
theorem info56 : Tryz.prog.info? 56 = some Tryz.t56 := by kernel_rfl
instance inf56 : Inf Tryz.prog 56 Tryz.t56 := ⟨info56⟩
instance ty56 : Ty Tryz.prog 56 false 1 := Ty.of Tryz.underlying56 info56
abbrev und58 := Und.mk Tryz.underlying58
attribute [instance] und58
theorem info58 : Tryz.prog.info? 58 = some Tryz.t58 := by kernel_rfl
instance inf58 : Inf Tryz.prog 58 Tryz.t58 := ⟨info58⟩
instance ty58 : Ty Tryz.prog 58 true 2 := Ty.of Tryz.underlying58 info58
abbrev und60 := Und.mk Tryz.underlying60
attribute [instance] und60
theorem info60 : Tryz.prog.info? 60 = some Tryz.t60 := by kernel_rfl
instance inf60 : Inf Tryz.prog 60 Tryz.t60 := ⟨info60⟩
instance ty60 : Ty Tryz.prog 60 true 4 := Ty.of Tryz.underlying60 info60
abbrev und63 := Und.mk Tryz.underlying63
attribute [instance] und63
theorem info63 : Tryz.prog.info? 63 = some Tryz.t63 := by kernel_rfl
instance inf63 : Inf Tryz.prog 63 Tryz.t63 := ⟨info63⟩
instance ty63 : Ty Tryz.prog 63 true 4 := Ty.of Tryz.underlying63 info63
abbrev und69 := Und.mk Tryz.underlying69
attribute [instance] und69
theorem info69 : Tryz.prog.info? 69 = some Tryz.t69 := by kernel_rfl
instance inf69 : Inf Tryz.prog 69 Tryz.t69 := ⟨info69⟩
instance ty69 : Ty Tryz.prog 69 false 1 := Ty.of Tryz.underlying69 info69
abbrev und70 := Und.mk Tryz.underlying70
attribute [instance] und70
theorem info70 : Tryz.prog.info? 70 = some Tryz.t70 := by kernel_rfl
instance inf70 : Inf Tryz.prog 70 Tryz.t70 := ⟨info70⟩
instance ty70 : Ty Tryz.prog 70 false 1 := Ty.of Tryz.underlying70 info70
abbrev und71 := Und.mk Tryz.underlying71
attribute [instance] und71
theorem info71 : Tryz.prog.info? 71 = some Tryz.t71 := by kernel_rfl
instance inf71 : Inf Tryz.prog 71 Tryz.t71 := ⟨info71⟩
instance ty71 : Ty Tryz.prog 71 false 1 := Ty.of Tryz.underlying71 info71
abbrev und73 := Und.mk Tryz.underlying73
attribute [instance] und73
theorem info73 : Tryz.prog.info? 73 = some Tryz.t73 := by kernel_rfl
instance inf73 : Inf Tryz.prog 73 Tryz.t73 := ⟨info73⟩
instance ty73 : Ty Tryz.prog 73 true 3 := Ty.of Tryz.underlying73 info73
abbrev und83 := Und.mk Tryz.underlying83
attribute [instance] und83
theorem info83 : Tryz.prog.info? 83 = some Tryz.t83 := by kernel_rfl
instance inf83 : Inf Tryz.prog 83 Tryz.t83 := ⟨info83⟩
instance ty83 : Ty Tryz.prog 83 false 1 := Ty.of Tryz.underlying83 info83
abbrev und85 := Und.mk Tryz.underlying85
attribute [instance] und85
theorem info85 : Tryz.prog.info? 85 = some Tryz.t85 := by kernel_rfl
instance inf85 : Inf Tryz.prog 85 Tryz.t85 := ⟨info85⟩
instance ty85 : Ty Tryz.prog 85 true 2 := Ty.of Tryz.underlying85 info85
abbrev und90 := Und.mk Tryz.underlying90
attribute [instance] und90
theorem info90 : Tryz.prog.info? 90 = some Tryz.t90 := by kernel_rfl
instance inf90 : Inf Tryz.prog 90 Tryz.t90 := ⟨info90⟩
instance ty90 : Ty Tryz.prog 90 true 3 := Ty.of Tryz.underlying90 info90
abbrev und92 := Und.mk Tryz.underlying92
attribute [instance] und92
theorem info92 : Tryz.prog.info? 92 = some Tryz.t92 := by kernel_rfl
instance inf92 : Inf Tryz.prog 92 Tryz.t92 := ⟨info92⟩
instance ty92 : Ty Tryz.prog 92 false 1 := Ty.of Tryz.underlying92 info92
abbrev und95 := Und.mk Tryz.underlying95
attribute [instance] und95
theorem info95 : Tryz.prog.info? 95 = some Tryz.t95 := by kernel_rfl
instance inf95 : Inf Tryz.prog 95 Tryz.t95 := ⟨info95⟩
instance ty95 : Ty Tryz.prog 95 true 3 := Ty.of Tryz.underlying95 info95
abbrev und97 := Und.mk Tryz.underlying97
attribute [instance] und97
theorem info97 : Tryz.prog.info? 97 = some Tryz.t97 := by kernel_rfl
instance inf97 : Inf Tryz.prog 97 Tryz.t97 := ⟨info97⟩
instance ty97 : Ty Tryz.prog 97 false 1 := Ty.of Tryz.underlying97 info97
abbrev und99 := Und.mk Tryz.underlying99
attribute [instance] und99
theorem info99 : Tryz.prog.info? 99 = some Tryz.t99 := by kernel_rfl
instance inf99 : Inf Tryz.prog 99 Tryz.t99 := ⟨info99⟩
instance ty99 : Ty Tryz.prog 99 false 1 := Ty.of Tryz.underlying99 info99
abbrev und116 := Und.mk Tryz.underlying116
attribute [instance] und116
theorem info116 : Tryz.prog.info? 116 = some Tryz.t116 := by kernel_rfl
instance inf116 : Inf Tryz.prog 116 Tryz.t116 := ⟨info116⟩
instance ty116 : Ty Tryz.prog 116 false 1 := Ty.of Tryz.underlying116 info116
abbrev und118 := Und.mk Tryz.underlying118
attribute [instance] und118
theorem info118 : Tryz.prog.info? 118 = some Tryz.t118 := by kernel_rfl
instance inf118 : Inf Tryz.prog 118 Tryz.t118 := ⟨info118⟩
instance ty118 : Ty Tryz.prog 118 true 4 := Ty.of Tryz.underlying118 info118
abbrev und119 := Und.mk Tryz.underlying119
attribute [instance] und119
theorem info119 : Tryz.prog.info? 119 = some Tryz.t119 := by kernel_rfl
instance inf119 : Inf Tryz.prog 119 Tryz.t119 := ⟨info119⟩
instance ty119 : Ty Tryz.prog 119 false 1 := Ty.of Tryz.underlying119 info119
abbrev und120 := Und.mk Tryz.underlying120
attribute [instance] und120
theorem info120 : Tryz.prog.info? 120 = some Tryz.t120 := by kernel_rfl
instance inf120 : Inf Tryz.prog 120 Tryz.t120 := ⟨info120⟩
instance ty120 : Ty Tryz.prog 120 false 1 := Ty.of Tryz.underlying120 info120
abbrev und122 := Und.mk Tryz.underlying122
attribute [instance] und122
theorem info122 : Tryz.prog.info? 122 = some Tryz.t122 := by kernel_rfl
instance inf122 : Inf Tryz.prog 122 Tryz.t122 := ⟨info122⟩
instance ty122 : Ty Tryz.prog 122 true 10 := Ty.of Tryz.underlying122 info122
abbrev und126 := Und.mk Tryz.underlying126
attribute [instance] und126
theorem info126 : Tryz.prog.info? 126 = some Tryz.t126 := by kernel_rfl
instance inf126 : Inf Tryz.prog 126 Tryz.t126 := ⟨info126⟩
instance ty126 : Ty Tryz.prog 126 true 5 := Ty.of Tryz.underlying126 info126
abbrev und128 := Und.mk Tryz.underlying128
attribute [instance] und128
theorem info128 : Tryz.prog.info? 128 = some Tryz.t128 := by kernel_rfl
instance inf128 : Inf Tryz.prog 128 Tryz.t128 := ⟨info128⟩
instance ty128 : Ty Tryz.prog 128 false 1 := Ty.of Tryz.underlying128 info128
abbrev und130 := Und.mk Tryz.underlying130
attribute [instance] und130
theorem info130 : Tryz.prog.info? 130 = some Tryz.t130 := by kernel_rfl
instance inf130 : Inf Tryz.prog 130 Tryz.t130 := ⟨info130⟩
instance ty130 : Ty Tryz.prog 130 true 4 := Ty.of Tryz.underlying130 info130
abbrev und132 := Und.mk Tryz.underlying132
attribute [instance] und132
theorem info132 : Tryz.prog.info? 132 = some Tryz.t132 := by kernel_rfl
instance inf132 : Inf Tryz.prog 132 Tryz.t132 := ⟨info132⟩
instance ty132 : Ty Tryz.prog 132 false 1 := Ty.of Tryz.underlying132 info132
abbrev und134 := Und.mk Tryz.underlying134
attribute [instance] und134
theorem info134 : Tryz.prog.info? 134 = some Tryz.t134 := by kernel_rfl
instance inf134 : Inf Tryz.prog 134 Tryz.t134 := ⟨info134⟩
instance ty134 : Ty Tryz.prog 134 true 11 := Ty.of Tryz.underlying134 info134
abbrev und141 := Und.mk Tryz.underlying141
attribute [instance] und141
theorem info141 : Tryz.prog.info? 141 = some Tryz.t141 := by kernel_rfl
instance inf141 : Inf Tryz.prog 141 Tryz.t141 := ⟨info141⟩
instance ty141 : Ty Tryz.prog 141 true 3 := Ty.of Tryz.underlying141 info141
abbrev und144 := Und.mk Tryz.underlying144
attribute [instance] und144
theorem info144 : Tryz.prog.info? 144 = some Tryz.t144 := by kernel_rfl
instance inf144 : Inf Tryz.prog 144 Tryz.t144 := ⟨info144⟩
instance ty144 : Ty Tryz.prog 144 true 8 := Ty.of Tryz.underlying144 info144
abbrev und160 := Und.mk Tryz.underlying160
attribute [instance] und160
theorem info160 : Tryz.prog.info? 160 = some Tryz.t160 := by kernel_rfl
instance inf160 : Inf Tryz.prog 160 Tryz.t160 := ⟨info160⟩
instance ty160 : Ty Tryz.prog 160 false 1 := Ty.of Tryz.underlying160 info160
abbrev und165 := Und.mk Tryz.underlying165
attribute [instance] und165
theorem info165 : Tryz.prog.info? 165 = some Tryz.t165 := by kernel_rfl
instance inf165 : Inf Tryz.prog 165 Tryz.t165 := ⟨info165⟩
instance ty165 : Ty Tryz.prog 165 false 1 := Ty.of Tryz.underlying165 info165
abbrev und168 := Und.mk Tryz.underlying168
attribute [instance] und168
theorem info168 : Tryz.prog.info? 168 = some Tryz.t168 := by kernel_rfl
instance inf168 : Inf Tryz.prog 168 Tryz.t168 := ⟨info168⟩
instance ty168 : Ty Tryz.prog 168 false 1 := Ty.of Tryz.underlying168 info168
abbrev und170 := Und.mk Tryz.underlying170
attribute [instance] und170
theorem info170 : Tryz.prog.info? 170 = some Tryz.t170 := by kernel_rfl
instance inf170 : Inf Tryz.prog 170 Tryz.t170 := ⟨info170⟩
instance ty170 : Ty Tryz.prog 170 false 1 := Ty.of Tryz.underlying170 info170
abbrev und171 := Und.mk Tryz.underlying171
attribute [instance] und171
theorem info171 : Tryz.prog.info? 171 = some Tryz.t171 := by kernel_rfl
instance inf171 : Inf Tryz.prog 171 Tryz.t171 := ⟨info171⟩
instance ty171 : Ty Tryz.prog 171 false 1 := Ty.of Tryz.underlying171 info171
abbrev und185 := Und.mk Tryz.underlying185
attribute [instance] und185
theorem info185 : Tryz.prog.info? 185 = some Tryz.t185 := by kernel_rfl
instance inf185 : Inf Tryz.prog 185 Tryz.t185 := ⟨info185⟩
instance ty185 : Ty Tryz.prog 185 false 1 := Ty.of Tryz.underlying185 info185
abbrev und216 := Und.mk Tryz.underlying216
attribute [instance] und216
theorem info216 : Tryz.prog.info? 216 = some Tryz.t216 := by kernel_rfl
instance inf216 : Inf Tryz.prog 216 Tryz.t216 := ⟨info216⟩
instance ty216 : Ty Tryz.prog 216 false 1 := Ty.of Tryz.underlying216 info216
abbrev und220 := Und.mk Tryz.underlying220
attribute [instance] und220
theorem info220 : Tryz.prog.info? 220 = some Tryz.t220 := by kernel_rfl
instance inf220 : Inf Tryz.prog 220 Tryz.t220 := ⟨info220⟩
instance ty220 : Ty Tryz.prog 220 false 1 := Ty.of Tryz.underlying220 info220
abbrev und234 := Und.mk Tryz.underlying234
attribute [instance] und234
theorem info234 : Tryz.prog.info? 234 = some Tryz.t234 := by kernel_rfl
instance inf234 : Inf Tryz.prog 234 Tryz.t234 := ⟨info234⟩
instance ty234 : Ty Tryz.prog 234 false 1 := Ty.of Tryz.underlying234 info234
abbrev und235 := Und.mk Tryz.underlying235
attribute [instance] und235
theorem info235 : Tryz.prog.info? 235 = some Tryz.t235 := by kernel_rfl
instance inf235 : Inf Tryz.prog 235 Tryz.t235 := ⟨info235⟩
instance ty235 : Ty Tryz.prog 235 false 1 := Ty.of Tryz.underlying235 info235
abbrev und241 := Und.mk Tryz.underlying241
attribute [instance] und241
theorem info241 : Tryz.prog.info? 241 = some Tryz.t241 := by kernel_rfl
instance inf241 : Inf Tryz.prog 241 Tryz.t241 := ⟨info241⟩
instance ty241 : Ty Tryz.prog 241 false 1 := Ty.of Tryz.underlying241 info241
abbrev und243 := Und.mk Tryz.underlying243
attribute [instance] und243
theorem info243 : Tryz.prog.info? 243 = some Tryz.t243 := by kernel_rfl
instance inf243 : Inf Tryz.prog 243 Tryz.t243 := ⟨info243⟩
instance ty243 : Ty Tryz.prog 243 false 1 := Ty.of Tryz.underlying243 info243
abbrev und248 := Und.mk Tryz.underlying248
attribute [instance] und248
theorem info248 : Tryz.prog.info? 248 = some Tryz.t248 := by kernel_rfl
instance inf248 : Inf Tryz.prog 248 Tryz.t248 := ⟨info248⟩
instance ty248 : Ty Tryz.prog 248 false 1 := Ty.of Tryz.underlying248 info248
abbrev und252 := Und.mk Tryz.underlying252
attribute [instance] und252
theorem info252 : Tryz.prog.info? 252 = some Tryz.t252 := by kernel_rfl
instance inf252 : Inf Tryz.prog 252 Tryz.t252 := ⟨info252⟩
instance ty252 : Ty Tryz.prog 252 false 1 := Ty.of Tryz.underlying252 info252
abbrev und255 := Und.mk Tryz.underlying255
attribute [instance] und255
theorem info255 : Tryz.prog.info? 255 = some Tryz.t255 := by kernel_rfl
instance inf255 : Inf Tryz.prog 255 Tryz.t255 := ⟨info255⟩
instance ty255 : Ty Tryz.prog 255 false 1 := Ty.of Tryz.underlying255 info255
abbrev und257 := Und.mk Tryz.underlying257
attribute [instance] und257
theorem info257 : Tryz.prog.info? 257 = some Tryz.t257 := by kernel_rfl
instance inf257 : Inf Tryz.prog 257 Tryz.t257 := ⟨info257⟩
instance ty257 : Ty Tryz.prog 257 false 1 := Ty.of Tryz.underlying257 info257
abbrev und267 := Und.mk Tryz.underlying267
attribute [instance] und267
theorem info267 : Tryz.prog.info? 267 = some Tryz.t267 := by kernel_rfl
instance inf267 : Inf Tryz.prog 267 Tryz.t267 := ⟨info267⟩
instance ty267 : Ty Tryz.prog 267 false 1 := Ty.of Tryz.underlying267 info267
abbrev und268 := Und.mk Tryz.underlying268
attribute [instance] und268
theorem info268 : Tryz.prog.info? 268 = some Tryz.t268 := by kernel_rfl
instance inf268 : Inf Tryz.prog 268 Tryz.t268 := ⟨info268⟩
instance ty268 : Ty Tryz.prog 268 false 1 := Ty.of Tryz.underlying268 info268
abbrev und271 := Und.mk Tryz.underlying271
attribute [instance] und271
theorem info271 : Tryz.prog.info? 271 = some Tryz.t271 := by kernel_rfl
instance inf271 : Inf Tryz.prog 271 Tryz.t271 := ⟨info271⟩
instance ty271 : Ty Tryz.prog 271 false 1 := Ty.of Tryz.underlying271 info271
abbrev und320 := Und.mk Tryz.underlying320
attribute [instance] und320
theorem info320 : Tryz.prog.info? 320 = some Tryz.t320 := by kernel_rfl
instance inf320 : Inf Tryz.prog 320 Tryz.t320 := ⟨info320⟩
instance ty320 : Ty Tryz.prog 320 true 12 := Ty.of Tryz.underlying320 info320
-- f0 main.main
-- f1 gosem.cut
-- f2 gosem.cut.init
-- f3 vellum/vellumlaw25.ProjectPlays
-- f4 vellum/vellumlaw25.ProjectOpens
-- f5 vellum/vellumlaw25.ProjectCuts
-- f6 vellum/vellumlaw25.ProjectReads
-- f7 vellum/vellumlaw25.ProjectForms
-- f8 vellum/vellumlaw25.ProjectFacts
-- f9 vellum/vellumlaw25.ProjectWrong
-- f10 vellum/vellumlaw25.ProjectNames
-- f11 vellum/vellumlaw25.sanity
-- f12 vellum/vellumlaw25.played
-- f13 vellum/project.Open
-- f14 vellum/vellumref25.SameFacts
-- f15 (*vellum/project.Project).Facts
-- f16 vellum/vellumref25.Mod
-- f17 vellum/vellumref25.Open
-- f18 (*vellum/vellumref25.State).Commit
-- f19 vellum/vellumlaw25.sum
-- f20 (*vellum/project.Project).Get
-- f21 vellum/vellumref25.Made
-- f22 (*vellum/vellumref25.State).Get
-- f23 (*vellum/project.Project).Commit
-- f24 vellum/vellumref13.Made
-- f25 vellum/vellumlaw25.status
-- f26 (*vellum/project.Project).Name
-- f27 vellum/vellumref13.Equal
-- f28 (*vellum/vellumref25.State).Name
-- f29 vellum/vellumref14.Check
-- f30 (*vellum/project.Project).Undo
-- f31 (*vellum/vellumref25.State).Undo
-- f32 (vellum/vellumref25.Act).List
-- f33 vellum/project.records
-- f34 (*vellum/project.Project).apply
-- f35 slices.SortedFunc[vellum/project.key]
-- f36 maps.Keys[map[vellum/project.key]string,vellum/project.key,string]
-- f37 vellum/project.order
-- f38 vellum/vellumref13.Mod
-- f39 (*vellum/vellumref25.State).next
-- f40 vellum/vellumref25.Wrong
-- f41 vellum/vellumref25.put
-- f42 vellum/vellumref25.record
-- f43 vellum/vellumref25.Payload
-- f44 vellum/vellumref01.Put
-- f45 vellum/vellumref01.Sum
-- f46 vellum/vellumref13.Digits
-- f47 vellum/vellumref25.same
-- f48 vellum/project.wrong
-- f49 (*vellum/project.Project).set
-- f50 vellum/word.Put
-- f51 (*vellum/project.Project).Commit$1
-- f52 (*vellum/project.Project).record
-- f53 (*vellum/vellumref13.maker).next
-- f54 (*vellum/vellumref13.maker).globals
-- f55 (*vellum/vellumref13.maker).signature
-- f56 (*vellum/vellumref13.maker).stmts
-- f57 vellum/vellumref13.Ident
-- f58 vellum/vellumref13.binary
-- f59 vellum/vellumref13.literal
-- f60 slices.Clone[[]vellum/api.TypeDef,vellum/api.TypeDef]
-- f61 slices.Clone[[]vellum/api.Global,vellum/api.Global]
-- f62 slices.Clone[[]vellum/api.Func,vellum/api.Func]
-- f63 vellum/project.names
-- f64 vellum/project.renamedStmts
-- f65 slices.Clone[[]vellum/api.Field,vellum/api.Field]
-- f66 vellum/vellumref13.sameFields
-- f67 vellum/vellumref13.SameType
-- f68 vellum/vellumref13.SameFunc
-- f69 vellum/vellumref13.Own
-- f70 vellum/vellumref25.taken
-- f71 vellum/vellumref14.Func
-- f72 vellum/vellumref25.stmts
-- f73 vellum/vellumref13.Right
-- f74 vellum/vellumref14.declared
-- f75 vellum/vellumref14.function
-- f76 vellum/vellumref14.graph
-- f77 vellum/project.records$1
-- f78 vellum/project.long
-- f79 vellum/word.Get
-- f80 vellum/word.Sum
-- f81 vellum/project.parse
-- f82 slices.Collect[vellum/project.key]
-- f83 slices.SortFunc[[]vellum/project.key,vellum/project.key]
-- f84 maps.Keys[map[vellum/project.key]string,vellum/project.key,string]$1
-- f85 cmp.Or[int]
-- f86 cmp.Compare[int]
-- f87 cmp.Compare[uint16]
-- f88 vellum/vellumref25.number4
-- f89 vellum/vellumref01.Get
-- f90 vellum/vellumref25.parse
-- f91 vellum/vellumref25.Right
-- f92 vellum/vellumref25.before
-- f93 vellum/vellumref25.word4
-- f94 slices.ContainsFunc[[]vellum/api.Fact,vellum/api.Fact]
-- f95 vellum/project.wrong$1
-- f96 vellum/project.valid
-- f97 vellum/project.number
-- f98 (*vellum/vellumref13.maker).fresh
-- f99 (*vellum/vellumref13.maker).expr
-- f100 (*vellum/vellumref13.maker).place
-- f101 (*vellum/vellumref13.maker).looping
-- f102 (*vellum/vellumref13.maker).labelled
-- f103 (*vellum/vellumref13.maker).call
-- f104 (*vellum/vellumref13.maker).giving
-- f105 (*vellum/vellumref13.maker).output
-- f106 slices.Clone[[]vellum/api.Stmt,vellum/api.Stmt]
-- f107 vellum/project.renamed
-- f108 slices.Clone[[][]vellum/api.Stmt,[]vellum/api.Stmt]
-- f109 vellum/vellumref13.SameStmts
-- f110 vellum/vellumref14.Def
-- f111 vellum/vellumref14.Global
-- f112 vellum/vellumref13.Among
-- f113 vellum/vellumref25.calls
-- f114 vellum/vellumref13.IsName
-- f115 vellum/vellumref13.fields
-- f116 vellum/vellumref13.IsType
-- f117 vellum/vellumref13.isFunc
-- f118 vellum/vellumref14.names
-- f119 vellum/vellumref14.typeDef
-- f120 vellum/vellumref14.global
-- f121 vellum/vellumref14.signature
-- f122 vellum/vellumref14.special
-- f123 vellum/vellumref14.ofStmts
-- f124 vellum/vellumref14.Inside
-- f125 (*vellum/vellumref14.body).stmts
-- f126 vellum/vellumref14.Calls
-- f127 vellum/vellumref14.reaches
-- f128 vellum/vellumref14.deep
-- f129 slices.AppendSeq[[]vellum/project.key,vellum/project.key]
-- f130 slices.pdqsortCmpFunc[vellum/project.key]
-- f131 math/bits.Len
-- f132 cmp.isNaN[int]
-- f133 cmp.isNaN[uint16]
-- f134 slices.IndexFunc[[]vellum/api.Fact,vellum/api.Fact]
-- f135 vellum/project.named
-- f136 vellum/vellumref13.element
-- f137 (*vellum/vellumref13.maker).masked
-- f138 (*vellum/vellumref13.maker).constant
-- f139 vellum/vellumref13.field
-- f140 (*vellum/vellumref13.maker).object
-- f141 slices.Clone[[]vellum/api.Expr,vellum/api.Expr]
-- f142 vellum/vellumref13.SameExprs
-- f143 vellum/vellumref13.Keywords
-- f144 vellum/vellumref13.letter
-- f145 vellum/vellumref13.digit
-- f146 vellum/vellumref13.stmts
-- f147 vellum/vellumref14.unknown
-- f148 vellum/vellumref14.size
-- f149 vellum/vellumref14.Size
-- f150 vellum/vellumref14.valued
-- f151 vellum/vellumref03.IsCode
-- f152 vellum/vellumref14.join
-- f153 vellum/vellumref14.ofExpr
-- f154 (*vellum/vellumref14.Scope).add
-- f155 (*vellum/vellumref14.Scope).lets
-- f156 (*vellum/vellumref14.body).stmt
-- f157 vellum/vellumref14.calls
-- f158 slices.insertionSortCmpFunc[vellum/project.key]
-- f159 slices.heapSortCmpFunc[vellum/project.key]
-- f160 slices.breakPatternsCmpFunc[vellum/project.key]
-- f161 slices.choosePivotCmpFunc[vellum/project.key]
-- f162 slices.reverseRangeCmpFunc[vellum/project.key]
-- f163 slices.partialInsertionSortCmpFunc[vellum/project.key]
-- f164 slices.partitionEqualCmpFunc[vellum/project.key]
-- f165 slices.partitionCmpFunc[vellum/project.key]
-- f166 math/bits.Len32
-- f167 math/bits.Len64
-- f168 vellum/syntax.Right
-- f169 vellum/vellumref13.IsStmt
-- f170 vellum/vellumref14.IsValue
-- f171 (*vellum/vellumref14.body).label
-- f172 (*vellum/vellumref14.body).let
-- f173 (*vellum/vellumref14.body).assign
-- f174 (*vellum/vellumref14.body).numeric
-- f175 (*vellum/vellumref14.body).giving
-- f176 (*vellum/vellumref14.Scope).Type
-- f177 (*vellum/vellumref14.body).nested
-- f178 slices.siftDownCmpFunc[vellum/project.key]
-- f179 slices.nextPowerOfTwo
-- f180 (*slices.xorshift).Next
-- f181 slices.medianAdjacentCmpFunc[vellum/project.key]
-- f182 slices.medianCmpFunc[vellum/project.key]
-- f183 vellum/syntax.every[vellum/api.TypeDef]
-- f184 vellum/syntax.rightDef
-- f185 vellum/syntax.every[vellum/api.Global]
-- f186 vellum/syntax.rightGlobal
-- f187 vellum/syntax.every[vellum/api.Func]
-- f188 vellum/syntax.rightFunc
-- f189 vellum/vellumref13.kind
-- f190 vellum/vellumref13.isNone
-- f191 vellum/vellumref13.IsExpr
-- f192 vellum/vellumref14.IsNumeric
-- f193 (*vellum/vellumref14.body).fits
-- f194 (*vellum/vellumref14.Scope).local
-- f195 (*vellum/vellumref14.Scope).Bank
-- f196 vellum/vellumref14.kids
-- f197 (*vellum/vellumref14.Scope).call
-- f198 vellum/vellumref14.binary
-- f199 (*vellum/vellumref14.Scope).one
-- f200 slices.order2CmpFunc[vellum/project.key]
-- f201 slices.ContainsFunc[[]vellum/api.TypeDef,vellum/api.TypeDef]
-- f202 vellum/syntax.every[vellum/api.TypeDef]$1
-- f203 vellum/syntax.identifier
-- f204 vellum/syntax.every[vellum/api.Field]
-- f205 vellum/syntax.rightField
-- f206 slices.ContainsFunc[[]vellum/api.Global,vellum/api.Global]
-- f207 vellum/syntax.every[vellum/api.Global]$1
-- f208 vellum/syntax.rightType
-- f209 slices.ContainsFunc[[]vellum/api.Func,vellum/api.Func]
-- f210 vellum/syntax.every[vellum/api.Func]$1
-- f211 vellum/syntax.blankType
-- f212 vellum/syntax.rightBlock
-- f213 vellum/vellumref13.shape
-- f214 vellum/vellumref13.rank
-- f215 vellum/vellumref14.Fits
-- f216 vellum/vellumref14.Same
-- f217 vellum/vellumref14.isZero
-- f218 vellum/vellumref14.among
-- f219 vellum/vellumref14.Signed
-- f220 vellum/vellumref14.kid
-- f221 slices.IndexFunc[[]vellum/api.TypeDef,vellum/api.TypeDef]
-- f222 slices.BinarySearch[[]string,string]
-- f223 vellum/syntax.keywords
-- f224 vellum/syntax.letter
-- f225 vellum/syntax.span
-- f226 vellum/syntax.part
-- f227 slices.ContainsFunc[[]vellum/api.Field,vellum/api.Field]
-- f228 vellum/syntax.every[vellum/api.Field]$1
-- f229 slices.IndexFunc[[]vellum/api.Global,vellum/api.Global]
-- f230 vellum/syntax.every[vellum/api.Type]
-- f231 slices.IndexFunc[[]vellum/api.Func,vellum/api.Func]
-- f232 vellum/syntax.every[vellum/api.Stmt]
-- f233 vellum/syntax.rightStmt
-- f234 vellum/vellumref13.Levels
-- f235 cmp.Less[string]
-- f236 slices.isNaN[string]
-- f237 vellum/syntax.digit
-- f238 slices.IndexFunc[[]vellum/api.Field,vellum/api.Field]
-- f239 slices.ContainsFunc[[]vellum/api.Type,vellum/api.Type]
-- f240 vellum/syntax.every[vellum/api.Type]$1
-- f241 slices.ContainsFunc[[]vellum/api.Stmt,vellum/api.Stmt]
-- f242 vellum/syntax.every[vellum/api.Stmt]$1
-- f243 vellum/syntax.form
-- f244 vellum/syntax.every[vellum/api.Expr]
-- f245 vellum/syntax.rightExpr
-- f246 vellum/syntax.place
-- f247 vellum/syntax.every[[]vellum/api.Stmt]
-- f248 cmp.isNaN[string]
-- f249 slices.IndexFunc[[]vellum/api.Type,vellum/api.Type]
-- f250 slices.IndexFunc[[]vellum/api.Stmt,vellum/api.Stmt]
-- f251 slices.ContainsFunc[[]vellum/api.Expr,vellum/api.Expr]
-- f252 vellum/syntax.every[vellum/api.Expr]$1
-- f253 vellum/syntax.levels
-- f254 slices.Contains[[]string,string]
-- f255 slices.Contains[[]int,int]
-- f256 slices.ContainsFunc[[][]vellum/api.Stmt,[]vellum/api.Stmt]
-- f257 vellum/syntax.every[[]vellum/api.Stmt]$1
-- f258 slices.IndexFunc[[]vellum/api.Expr,vellum/api.Expr]
-- f259 slices.Index[[]string,string]
-- f260 slices.Index[[]int,int]
-- f261 slices.IndexFunc[[][]vellum/api.Stmt,[]vellum/api.Stmt]
-- f262 (runtime.boundsError).Error
-- f263 (runtime.boundsError).RuntimeError
-- f264 (runtime.errorString).Error
-- f265 (runtime.errorString).RuntimeError
-- f266 (runtime.plainError).Error
-- f267 (runtime.plainError).RuntimeError
-- f268 (runtime.errorAddressString).Error
-- f269 (runtime.errorAddressString).RuntimeError
-- f270 (*runtime.TypeAssertionError).Error
-- f271 (*runtime.TypeAssertionError).RuntimeError
-- f272 (*runtime.PanicNilError).Error
-- f273 (*runtime.PanicNilError).RuntimeError
-- f274 (*internal/abi.Type).Align
-- f275 (internal/runtime/maps.unhashableTypeError).Error
-- f276 (internal/runtime/maps.unhashableTypeError).RuntimeError
-- f277 (internal/abi.Kind).String
instance fld7_0 : Fld Tryz.prog 7 0 0 := Fld.of (f := 0) Tryz.underlying7 rfl ty2 rfl
instance fld7_1 : Fld Tryz.prog 7 1 1 := Fld.of (f := 1) Tryz.underlying7 rfl ty3 rfl
instance fld7_2 : Fld Tryz.prog 7 2 2 := Fld.of (f := 2) Tryz.underlying7 rfl ty4 rfl
instance fld7_3 : Fld Tryz.prog 7 3 3 := Fld.of (f := 3) Tryz.underlying7 rfl ty6 rfl
instance fld8_0 : Fld Tryz.prog 8 0 0 := Fld.of (f := 0) Tryz.underlying8 rfl ty2 rfl
instance fld8_1 : Fld Tryz.prog 8 1 1 := Fld.of (f := 1) Tryz.underlying8 rfl ty3 rfl
instance fld8_2 : Fld Tryz.prog 8 2 2 := Fld.of (f := 2) Tryz.underlying8 rfl ty4 rfl
instance fld8_3 : Fld Tryz.prog 8 3 3 := Fld.of (f := 3) Tryz.underlying8 rfl ty6 rfl
instance fld13_0 : Fld Tryz.prog 13 0 0 := Fld.of (f := 0) Tryz.underlying13 rfl ty9 rfl
instance fld13_1 : Fld Tryz.prog 13 1 1 := Fld.of (f := 1) Tryz.underlying13 rfl ty12 rfl
instance fld14_0 : Fld Tryz.prog 14 0 0 := Fld.of (f := 0) Tryz.underlying14 rfl ty9 rfl
instance fld14_1 : Fld Tryz.prog 14 1 1 := Fld.of (f := 1) Tryz.underlying14 rfl ty12 rfl
instance fld18_0 : Fld Tryz.prog 18 0 0 := Fld.of (f := 0) Tryz.underlying18 rfl ty17 rfl
instance fld19_0 : Fld Tryz.prog 19 0 0 := Fld.of (f := 0) Tryz.underlying19 rfl ty17 rfl
instance fld27_0 : Fld Tryz.prog 27 0 0 := Fld.of (f := 0) Tryz.underlying27 rfl ty25 rfl
instance fld27_1 : Fld Tryz.prog 27 1 1 := Fld.of (f := 1) Tryz.underlying27 rfl ty3 rfl
instance fld27_2 : Fld Tryz.prog 27 2 2 := Fld.of (f := 2) Tryz.underlying27 rfl ty26 rfl
instance fld27_3 : Fld Tryz.prog 27 3 3 := Fld.of (f := 3) Tryz.underlying27 rfl ty26 rfl
instance fld28_0 : Fld Tryz.prog 28 0 0 := Fld.of (f := 0) Tryz.underlying28 rfl ty25 rfl
instance fld28_1 : Fld Tryz.prog 28 1 1 := Fld.of (f := 1) Tryz.underlying28 rfl ty3 rfl
instance fld28_2 : Fld Tryz.prog 28 2 2 := Fld.of (f := 2) Tryz.underlying28 rfl ty26 rfl
instance fld28_3 : Fld Tryz.prog 28 3 3 := Fld.of (f := 3) Tryz.underlying28 rfl ty26 rfl
instance fld37_0 : Fld Tryz.prog 37 0 0 := Fld.of (f := 0) Tryz.underlying37 rfl ty33 rfl
instance fld37_1 : Fld Tryz.prog 37 1 1 := Fld.of (f := 1) Tryz.underlying37 rfl ty3 rfl
instance fld37_2 : Fld Tryz.prog 37 2 2 := Fld.of (f := 2) Tryz.underlying37 rfl ty34 rfl
instance fld37_3 : Fld Tryz.prog 37 3 3 := Fld.of (f := 3) Tryz.underlying37 rfl ty35 rfl
instance fld58_0 : Fld Tryz.prog 58 0 0 := Fld.of (f := 0) Tryz.underlying58 rfl ty3 rfl
instance fld58_1 : Fld Tryz.prog 58 1 1 := Fld.of (f := 1) Tryz.underlying58 rfl ty56 rfl
instance fld60_0 : Fld Tryz.prog 60 0 0 := Fld.of (f := 0) Tryz.underlying60 rfl ty3 rfl
instance fld60_1 : Fld Tryz.prog 60 1 1 := Fld.of (f := 1) Tryz.underlying60 rfl ty58 rfl
instance fld60_2 : Fld Tryz.prog 60 2 3 := Fld.of (f := 2) Tryz.underlying60 rfl ty9 rfl
instance fld73_0 : Fld Tryz.prog 73 0 0 := Fld.of (f := 0) Tryz.underlying73 rfl ty69 rfl
instance fld73_1 : Fld Tryz.prog 73 1 1 := Fld.of (f := 1) Tryz.underlying73 rfl ty70 rfl
instance fld73_2 : Fld Tryz.prog 73 2 2 := Fld.of (f := 2) Tryz.underlying73 rfl ty71 rfl
instance fld85_0 : Fld Tryz.prog 85 0 0 := Fld.of (f := 0) Tryz.underlying85 rfl ty4 rfl
instance fld85_1 : Fld Tryz.prog 85 1 1 := Fld.of (f := 1) Tryz.underlying85 rfl ty83 rfl
instance fld90_0 : Fld Tryz.prog 90 0 0 := Fld.of (f := 0) Tryz.underlying90 rfl ty5 rfl
instance fld90_1 : Fld Tryz.prog 90 1 1 := Fld.of (f := 1) Tryz.underlying90 rfl ty3 rfl
instance fld90_2 : Fld Tryz.prog 90 2 2 := Fld.of (f := 2) Tryz.underlying90 rfl ty9 rfl
instance fld95_0 : Fld Tryz.prog 95 0 0 := Fld.of (f := 0) Tryz.underlying95 rfl ty3 rfl
instance fld95_1 : Fld Tryz.prog 95 1 1 := Fld.of (f := 1) Tryz.underlying95 rfl ty58 rfl
instance fld118_0 : Fld Tryz.prog 118 0 0 := Fld.of (f := 0) Tryz.underlying118 rfl ty3 rfl
instance fld118_1 : Fld Tryz.prog 118 1 1 := Fld.of (f := 1) Tryz.underlying118 rfl ty9 rfl
instance fld118_2 : Fld Tryz.prog 118 2 2 := Fld.of (f := 2) Tryz.underlying118 rfl ty3 rfl
instance fld118_3 : Fld Tryz.prog 118 3 3 := Fld.of (f := 3) Tryz.underlying118 rfl ty116 rfl
instance fld122_0 : Fld Tryz.prog 122 0 0 := Fld.of (f := 0) Tryz.underlying122 rfl ty9 rfl
instance fld122_1 : Fld Tryz.prog 122 1 1 := Fld.of (f := 1) Tryz.underlying122 rfl ty119 rfl
instance fld122_2 : Fld Tryz.prog 122 2 2 := Fld.of (f := 2) Tryz.underlying122 rfl ty118 rfl
instance fld122_3 : Fld Tryz.prog 122 3 6 := Fld.of (f := 3) Tryz.underlying122 rfl ty120 rfl
instance fld122_4 : Fld Tryz.prog 122 4 7 := Fld.of (f := 4) Tryz.underlying122 rfl ty4 rfl
instance fld122_5 : Fld Tryz.prog 122 5 8 := Fld.of (f := 5) Tryz.underlying122 rfl ty58 rfl
instance fld126_0 : Fld Tryz.prog 126 0 0 := Fld.of (f := 0) Tryz.underlying126 rfl ty9 rfl
instance fld126_1 : Fld Tryz.prog 126 1 1 := Fld.of (f := 1) Tryz.underlying126 rfl ty118 rfl
instance fld130_0 : Fld Tryz.prog 130 0 0 := Fld.of (f := 0) Tryz.underlying130 rfl ty3 rfl
instance fld130_1 : Fld Tryz.prog 130 1 1 := Fld.of (f := 1) Tryz.underlying130 rfl ty9 rfl
instance fld130_2 : Fld Tryz.prog 130 2 2 := Fld.of (f := 2) Tryz.underlying130 rfl ty56 rfl
instance fld130_3 : Fld Tryz.prog 130 3 3 := Fld.of (f := 3) Tryz.underlying130 rfl ty128 rfl
instance fld134_0 : Fld Tryz.prog 134 0 0 := Fld.of (f := 0) Tryz.underlying134 rfl ty3 rfl
instance fld134_1 : Fld Tryz.prog 134 1 1 := Fld.of (f := 1) Tryz.underlying134 rfl ty9 rfl
instance fld134_2 : Fld Tryz.prog 134 2 2 := Fld.of (f := 2) Tryz.underlying134 rfl ty118 rfl
instance fld134_3 : Fld Tryz.prog 134 3 6 := Fld.of (f := 3) Tryz.underlying134 rfl ty56 rfl
instance fld134_4 : Fld Tryz.prog 134 4 7 := Fld.of (f := 4) Tryz.underlying134 rfl ty128 rfl
instance fld134_5 : Fld Tryz.prog 134 5 8 := Fld.of (f := 5) Tryz.underlying134 rfl ty120 rfl
instance fld134_6 : Fld Tryz.prog 134 6 9 := Fld.of (f := 6) Tryz.underlying134 rfl ty120 rfl
instance fld134_7 : Fld Tryz.prog 134 7 10 := Fld.of (f := 7) Tryz.underlying134 rfl ty132 rfl
instance fld141_0 : Fld Tryz.prog 141 0 0 := Fld.of (f := 0) Tryz.underlying141 rfl ty9 rfl
instance fld141_1 : Fld Tryz.prog 141 1 1 := Fld.of (f := 1) Tryz.underlying141 rfl ty4 rfl
instance fld141_2 : Fld Tryz.prog 141 2 2 := Fld.of (f := 2) Tryz.underlying141 rfl ty119 rfl
instance fld144_0 : Fld Tryz.prog 144 0 0 := Fld.of (f := 0) Tryz.underlying144 rfl ty9 rfl
instance fld144_1 : Fld Tryz.prog 144 1 1 := Fld.of (f := 1) Tryz.underlying144 rfl ty118 rfl
instance fld144_2 : Fld Tryz.prog 144 2 5 := Fld.of (f := 2) Tryz.underlying144 rfl ty3 rfl
instance fld144_3 : Fld Tryz.prog 144 3 6 := Fld.of (f := 3) Tryz.underlying144 rfl ty56 rfl
instance fld144_4 : Fld Tryz.prog 144 4 7 := Fld.of (f := 4) Tryz.underlying144 rfl ty9 rfl
instance fld320_0 : Fld Tryz.prog 320 0 0 := Fld.of (f := 0) Tryz.underlying320 rfl ty58 rfl
instance fld320_1 : Fld Tryz.prog 320 1 2 := Fld.of (f := 1) Tryz.underlying320 rfl ty122 rfl
instance sl22 : Sl Tryz.prog 22 85 2 32 (.agg #[.bool false, .slice none 0 0]) := Sl.of Tryz.underlying22 info85 rfl rfl rfl
instance sl25 : Sl Tryz.prog 25 60 4 40 (.agg #[.int .i64 0, .int .i64 0, .int .u16 0, .string ⟨#[]⟩]) := Sl.of Tryz.underlying25 info60 rfl rfl rfl
instance sl26 : Sl Tryz.prog 26 25 1 24 (.slice none 0 0) := Sl.of Tryz.underlying26 info25 rfl rfl rfl
instance sl29 : Sl Tryz.prog 29 3 1 8 (.int .i64 0) := Sl.of Tryz.underlying29 info3 rfl rfl rfl
instance sl34 : Sl Tryz.prog 34 1 1 8 (.nilFunc) := Sl.of Tryz.underlying34 info1 rfl rfl rfl
instance sl35 : Sl Tryz.prog 35 320 12 160 (.agg #[.int .i64 0, .int .u16 0, .string ⟨#[]⟩, .slice none 0 0, .int .i64 0, .string ⟨#[]⟩, .int .i64 0, .slice none 0 0, .slice none 0 0, .bool false, .int .i64 0, .int .u16 0]) := Sl.of Tryz.underlying35 info320 rfl rfl rfl
instance sl49 : Sl Tryz.prog 49 5 1 1 (.int .u8 0) := Sl.of Tryz.underlying49 info5 rfl rfl rfl
instance sl50 : Sl Tryz.prog 50 9 1 16 (.string ⟨#[]⟩) := Sl.of Tryz.underlying50 info9 rfl rfl rfl
instance sl69 : Sl Tryz.prog 69 141 3 48 (.agg #[.string ⟨#[]⟩, .bool false, .slice none 0 0]) := Sl.of Tryz.underlying69 info141 rfl rfl rfl
instance sl70 : Sl Tryz.prog 70 144 8 104 (.agg #[.string ⟨#[]⟩, .int .i64 0, .string ⟨#[]⟩, .int .i64 0, .slice none 0 0, .int .i64 0, .int .u16 0, .string ⟨#[]⟩]) := Sl.of Tryz.underlying70 info144 rfl rfl rfl
instance sl71 : Sl Tryz.prog 71 122 10 144 (.agg #[.string ⟨#[]⟩, .slice none 0 0, .int .i64 0, .string ⟨#[]⟩, .int .i64 0, .slice none 0 0, .slice none 0 0, .bool false, .int .i64 0, .int .u16 0]) := Sl.of Tryz.underlying71 info122 rfl rfl rfl
instance sl83 : Sl Tryz.prog 83 63 4 32 (.agg #[.int .i64 0, .int .i64 0, .int .i64 0, .int .i64 0]) := Sl.of Tryz.underlying83 info63 rfl rfl rfl
instance sl92 : Sl Tryz.prog 92 95 3 24 (.agg #[.int .i64 0, .int .i64 0, .int .u16 0]) := Sl.of Tryz.underlying92 info95 rfl rfl rfl
instance sl116 : Sl Tryz.prog 116 118 4 56 (.agg #[.int .i64 0, .string ⟨#[]⟩, .int .i64 0, .slice none 0 0]) := Sl.of Tryz.underlying116 info118 rfl rfl rfl
instance sl119 : Sl Tryz.prog 119 126 5 72 (.agg #[.string ⟨#[]⟩, .int .i64 0, .string ⟨#[]⟩, .int .i64 0, .slice none 0 0]) := Sl.of Tryz.underlying119 info126 rfl rfl rfl
instance sl120 : Sl Tryz.prog 120 134 11 184 (.agg #[.int .i64 0, .string ⟨#[]⟩, .int .i64 0, .string ⟨#[]⟩, .int .i64 0, .slice none 0 0, .int .u16 0, .slice none 0 0, .slice none 0 0, .slice none 0 0, .slice none 0 0]) := Sl.of Tryz.underlying120 info134 rfl rfl rfl
instance sl128 : Sl Tryz.prog 128 130 4 56 (.agg #[.int .i64 0, .string ⟨#[]⟩, .int .u16 0, .slice none 0 0]) := Sl.of Tryz.underlying128 info130 rfl rfl rfl
instance sl132 : Sl Tryz.prog 132 120 1 24 (.slice none 0 0) := Sl.of Tryz.underlying132 info120 rfl rfl rfl
instance zr1 : Zr Tryz.prog 1 #[.nilFunc] := ⟨_, _, info1, rfl, rfl⟩
instance zr2 : Zr Tryz.prog 2 #[.int .i64 0] := ⟨_, _, info2, rfl, rfl⟩
instance zr3 : Zr Tryz.prog 3 #[.int .i64 0] := ⟨_, _, info3, rfl, rfl⟩
instance zr4 : Zr Tryz.prog 4 #[.bool false] := ⟨_, _, info4, rfl, rfl⟩
instance zr5 : Zr Tryz.prog 5 #[.int .u8 0] := ⟨_, _, info5, rfl, rfl⟩
instance zr6 : Zr Tryz.prog 6 #[.int .u8 0] := ⟨_, _, info6, rfl, rfl⟩
instance zr7 : Zr Tryz.prog 7 #[.int .i64 0, .int .i64 0, .bool false, .int .u8 0] := ⟨_, _, info7, rfl, rfl⟩
instance str7 : Str Tryz.prog 7 [(0, 1), (1, 1), (2, 1), (3, 1)] #[.int .i64 0, .int .i64 0, .bool false, .int .u8 0] := Str.of Tryz.underlying7 info7 rfl rfl (by kernel_rfl) (by kernel_rfl)
instance zr8 : Zr Tryz.prog 8 #[.int .i64 0, .int .i64 0, .bool false, .int .u8 0] := ⟨_, _, info8, rfl, rfl⟩
instance str8 : Str Tryz.prog 8 [(0, 1), (1, 1), (2, 1), (3, 1)] #[.int .i64 0, .int .i64 0, .bool false, .int .u8 0] := Str.of Tryz.underlying8 info8 rfl rfl (by kernel_rfl) (by kernel_rfl)
instance zr9 : Zr Tryz.prog 9 #[.string ⟨#[]⟩] := ⟨_, _, info9, rfl, rfl⟩
instance zr10 : Zr Tryz.prog 10 #[.string ⟨#[]⟩] := ⟨_, _, info10, rfl, rfl⟩
instance zr11 : Zr Tryz.prog 11 #[.string ⟨#[]⟩] := ⟨_, _, info11, rfl, rfl⟩
instance zr12 : Zr Tryz.prog 12 #[.int .u64 0] := ⟨_, _, info12, rfl, rfl⟩
instance zr13 : Zr Tryz.prog 13 #[.string ⟨#[]⟩, .int .u64 0] := ⟨_, _, info13, rfl, rfl⟩
instance str13 : Str Tryz.prog 13 [(0, 1), (1, 1)] #[.string ⟨#[]⟩, .int .u64 0] := Str.of Tryz.underlying13 info13 rfl rfl (by kernel_rfl) (by kernel_rfl)
instance zr14 : Zr Tryz.prog 14 #[.string ⟨#[]⟩, .int .u64 0] := ⟨_, _, info14, rfl, rfl⟩
instance str14 : Str Tryz.prog 14 [(0, 1), (1, 1)] #[.string ⟨#[]⟩, .int .u64 0] := Str.of Tryz.underlying14 info14 rfl rfl (by kernel_rfl) (by kernel_rfl)
instance zr15 : Zr Tryz.prog 15 #[.pointer none] := ⟨_, _, info15, rfl, rfl⟩
instance zr16 : Zr Tryz.prog 16 #[.pointer none] := ⟨_, _, info16, rfl, rfl⟩
instance zr17 : Zr Tryz.prog 17 #[.pointer none] := ⟨_, _, info17, rfl, rfl⟩
instance zr18 : Zr Tryz.prog 18 #[.pointer none] := ⟨_, _, info18, rfl, rfl⟩
instance str18 : Str Tryz.prog 18 [(0, 1)] #[.pointer none] := Str.of Tryz.underlying18 info18 rfl rfl (by kernel_rfl) (by kernel_rfl)
instance zr19 : Zr Tryz.prog 19 #[.pointer none] := ⟨_, _, info19, rfl, rfl⟩
instance str19 : Str Tryz.prog 19 [(0, 1)] #[.pointer none] := Str.of Tryz.underlying19 info19 rfl rfl (by kernel_rfl) (by kernel_rfl)
instance zr20 : Zr Tryz.prog 20 #[.nilIface] := ⟨_, _, info20, rfl, rfl⟩
instance zr21 : Zr Tryz.prog 21 #[.int .i32 0] := ⟨_, _, info21, rfl, rfl⟩
instance zr22 : Zr Tryz.prog 22 #[.slice none 0 0] := ⟨_, _, info22, rfl, rfl⟩
instance zr23 : Zr Tryz.prog 23 #[.nilFunc] := ⟨_, _, info23, rfl, rfl⟩
instance zr24 : Zr Tryz.prog 24 #[.pointer none] := ⟨_, _, info24, rfl, rfl⟩
instance zr25 : Zr Tryz.prog 25 #[.slice none 0 0] := ⟨_, _, info25, rfl, rfl⟩
instance zr26 : Zr Tryz.prog 26 #[.slice none 0 0] := ⟨_, _, info26, rfl, rfl⟩
instance zr27 : Zr Tryz.prog 27 #[.slice none 0 0, .int .i64 0, .slice none 0 0, .slice none 0 0] := ⟨_, _, info27, rfl, rfl⟩
instance str27 : Str Tryz.prog 27 [(0, 1), (1, 1), (2, 1), (3, 1)] #[.slice none 0 0, .int .i64 0, .slice none 0 0, .slice none 0 0] := Str.of Tryz.underlying27 info27 rfl rfl (by kernel_rfl) (by kernel_rfl)
instance zr28 : Zr Tryz.prog 28 #[.slice none 0 0, .int .i64 0, .slice none 0 0, .slice none 0 0] := ⟨_, _, info28, rfl, rfl⟩
instance str28 : Str Tryz.prog 28 [(0, 1), (1, 1), (2, 1), (3, 1)] #[.slice none 0 0, .int .i64 0, .slice none 0 0, .slice none 0 0] := Str.of Tryz.underlying28 info28 rfl rfl (by kernel_rfl) (by kernel_rfl)
instance zr29 : Zr Tryz.prog 29 #[.slice none 0 0] := ⟨_, _, info29, rfl, rfl⟩
instance zr32 : Zr Tryz.prog 32 #[.pointer none] := ⟨_, _, info32, rfl, rfl⟩
instance zr33 : Zr Tryz.prog 33 #[.map none] := ⟨_, _, info33, rfl, rfl⟩
instance zr34 : Zr Tryz.prog 34 #[.slice none 0 0] := ⟨_, _, info34, rfl, rfl⟩
instance zr35 : Zr Tryz.prog 35 #[.slice none 0 0] := ⟨_, _, info35, rfl, rfl⟩
instance zr37 : Zr Tryz.prog 37 #[.map none, .int .i64 0, .slice none 0 0, .slice none 0 0] := ⟨_, _, info37, rfl, rfl⟩
instance str37 : Str Tryz.prog 37 [(0, 1), (1, 1), (2, 1), (3, 1)] #[.map none, .int .i64 0, .slice none 0 0, .slice none 0 0] := Str.of Tryz.underlying37 info37 rfl rfl (by kernel_rfl) (by kernel_rfl)
instance zr48 : Zr Tryz.prog 48 #[.int .i64 0, .int .i64 0, .int .i64 0] := ⟨_, _, info48, rfl, rfl⟩
instance zr49 : Zr Tryz.prog 49 #[.slice none 0 0] := ⟨_, _, info49, rfl, rfl⟩
instance zr50 : Zr Tryz.prog 50 #[.slice none 0 0] := ⟨_, _, info50, rfl, rfl⟩
instance zr52 : Zr Tryz.prog 52 #[.int .i64 0, .int .i64 0] := ⟨_, _, info52, rfl, rfl⟩
instance zr53 : Zr Tryz.prog 53 #[.int .i64 0] := ⟨_, _, info53, rfl, rfl⟩
instance zr56 : Zr Tryz.prog 56 #[.int .u16 0] := ⟨_, _, info56, rfl, rfl⟩
instance zr58 : Zr Tryz.prog 58 #[.int .i64 0, .int .u16 0] := ⟨_, _, info58, rfl, rfl⟩
instance str58 : Str Tryz.prog 58 [(0, 1), (1, 1)] #[.int .i64 0, .int .u16 0] := Str.of Tryz.underlying58 info58 rfl rfl (by kernel_rfl) (by kernel_rfl)
instance zr60 : Zr Tryz.prog 60 #[.int .i64 0, .int .i64 0, .int .u16 0, .string ⟨#[]⟩] := ⟨_, _, info60, rfl, rfl⟩
instance str60 : Str Tryz.prog 60 [(0, 1), (1, 2), (3, 1)] #[.int .i64 0, .int .i64 0, .int .u16 0, .string ⟨#[]⟩] := Str.of Tryz.underlying60 info60 rfl rfl (by kernel_rfl) (by kernel_rfl)
instance zr63 : Zr Tryz.prog 63 #[.int .i64 0, .int .i64 0, .int .i64 0, .int .i64 0] := ⟨_, _, info63, rfl, rfl⟩
instance zr69 : Zr Tryz.prog 69 #[.slice none 0 0] := ⟨_, _, info69, rfl, rfl⟩
instance zr70 : Zr Tryz.prog 70 #[.slice none 0 0] := ⟨_, _, info70, rfl, rfl⟩
instance zr71 : Zr Tryz.prog 71 #[.slice none 0 0] := ⟨_, _, info71, rfl, rfl⟩
instance zr73 : Zr Tryz.prog 73 #[.slice none 0 0, .slice none 0 0, .slice none 0 0] := ⟨_, _, info73, rfl, rfl⟩
instance str73 : Str Tryz.prog 73 [(0, 1), (1, 1), (2, 1)] #[.slice none 0 0, .slice none 0 0, .slice none 0 0] := Str.of Tryz.underlying73 info73 rfl rfl (by kernel_rfl) (by kernel_rfl)
instance zr83 : Zr Tryz.prog 83 #[.slice none 0 0] := ⟨_, _, info83, rfl, rfl⟩
instance zr85 : Zr Tryz.prog 85 #[.bool false, .slice none 0 0] := ⟨_, _, info85, rfl, rfl⟩
instance str85 : Str Tryz.prog 85 [(0, 1), (1, 1)] #[.bool false, .slice none 0 0] := Str.of Tryz.underlying85 info85 rfl rfl (by kernel_rfl) (by kernel_rfl)
instance zr90 : Zr Tryz.prog 90 #[.int .u8 0, .int .i64 0, .string ⟨#[]⟩] := ⟨_, _, info90, rfl, rfl⟩
instance str90 : Str Tryz.prog 90 [(0, 1), (1, 1), (2, 1)] #[.int .u8 0, .int .i64 0, .string ⟨#[]⟩] := Str.of Tryz.underlying90 info90 rfl rfl (by kernel_rfl) (by kernel_rfl)
instance zr92 : Zr Tryz.prog 92 #[.slice none 0 0] := ⟨_, _, info92, rfl, rfl⟩
instance zr95 : Zr Tryz.prog 95 #[.int .i64 0, .int .i64 0, .int .u16 0] := ⟨_, _, info95, rfl, rfl⟩
instance str95 : Str Tryz.prog 95 [(0, 1), (1, 2)] #[.int .i64 0, .int .i64 0, .int .u16 0] := Str.of Tryz.underlying95 info95 rfl rfl (by kernel_rfl) (by kernel_rfl)
instance zr97 : Zr Tryz.prog 97 #[.nilFunc] := ⟨_, _, info97, rfl, rfl⟩
instance zr99 : Zr Tryz.prog 99 #[.nilFunc] := ⟨_, _, info99, rfl, rfl⟩
instance zr116 : Zr Tryz.prog 116 #[.slice none 0 0] := ⟨_, _, info116, rfl, rfl⟩
instance zr118 : Zr Tryz.prog 118 #[.int .i64 0, .string ⟨#[]⟩, .int .i64 0, .slice none 0 0] := ⟨_, _, info118, rfl, rfl⟩
instance str118 : Str Tryz.prog 118 [(0, 1), (1, 1), (2, 1), (3, 1)] #[.int .i64 0, .string ⟨#[]⟩, .int .i64 0, .slice none 0 0] := Str.of Tryz.underlying118 info118 rfl rfl (by kernel_rfl) (by kernel_rfl)
instance zr119 : Zr Tryz.prog 119 #[.slice none 0 0] := ⟨_, _, info119, rfl, rfl⟩
instance zr120 : Zr Tryz.prog 120 #[.slice none 0 0] := ⟨_, _, info120, rfl, rfl⟩
instance zr122 : Zr Tryz.prog 122 #[.string ⟨#[]⟩, .slice none 0 0, .int .i64 0, .string ⟨#[]⟩, .int .i64 0, .slice none 0 0, .slice none 0 0, .bool false, .int .i64 0, .int .u16 0] := ⟨_, _, info122, rfl, rfl⟩
instance str122 : Str Tryz.prog 122 [(0, 1), (1, 1), (2, 4), (6, 1), (7, 1), (8, 2)] #[.string ⟨#[]⟩, .slice none 0 0, .int .i64 0, .string ⟨#[]⟩, .int .i64 0, .slice none 0 0, .slice none 0 0, .bool false, .int .i64 0, .int .u16 0] := Str.of Tryz.underlying122 info122 rfl rfl (by kernel_rfl) (by kernel_rfl)
instance zr126 : Zr Tryz.prog 126 #[.string ⟨#[]⟩, .int .i64 0, .string ⟨#[]⟩, .int .i64 0, .slice none 0 0] := ⟨_, _, info126, rfl, rfl⟩
instance str126 : Str Tryz.prog 126 [(0, 1), (1, 4)] #[.string ⟨#[]⟩, .int .i64 0, .string ⟨#[]⟩, .int .i64 0, .slice none 0 0] := Str.of Tryz.underlying126 info126 rfl rfl (by kernel_rfl) (by kernel_rfl)
instance zr128 : Zr Tryz.prog 128 #[.slice none 0 0] := ⟨_, _, info128, rfl, rfl⟩
instance zr130 : Zr Tryz.prog 130 #[.int .i64 0, .string ⟨#[]⟩, .int .u16 0, .slice none 0 0] := ⟨_, _, info130, rfl, rfl⟩
instance str130 : Str Tryz.prog 130 [(0, 1), (1, 1), (2, 1), (3, 1)] #[.int .i64 0, .string ⟨#[]⟩, .int .u16 0, .slice none 0 0] := Str.of Tryz.underlying130 info130 rfl rfl (by kernel_rfl) (by kernel_rfl)
instance zr132 : Zr Tryz.prog 132 #[.slice none 0 0] := ⟨_, _, info132, rfl, rfl⟩
instance zr134 : Zr Tryz.prog 134 #[.int .i64 0, .string ⟨#[]⟩, .int .i64 0, .string ⟨#[]⟩, .int .i64 0, .slice none 0 0, .int .u16 0, .slice none 0 0, .slice none 0 0, .slice none 0 0, .slice none 0 0] := ⟨_, _, info134, rfl, rfl⟩
instance str134 : Str Tryz.prog 134 [(0, 1), (1, 1), (2, 4), (6, 1), (7, 1), (8, 1), (9, 1), (10, 1)] #[.int .i64 0, .string ⟨#[]⟩, .int .i64 0, .string ⟨#[]⟩, .int .i64 0, .slice none 0 0, .int .u16 0, .slice none 0 0, .slice none 0 0, .slice none 0 0, .slice none 0 0] := Str.of Tryz.underlying134 info134 rfl rfl (by kernel_rfl) (by kernel_rfl)
instance zr141 : Zr Tryz.prog 141 #[.string ⟨#[]⟩, .bool false, .slice none 0 0] := ⟨_, _, info141, rfl, rfl⟩
instance str141 : Str Tryz.prog 141 [(0, 1), (1, 1), (2, 1)] #[.string ⟨#[]⟩, .bool false, .slice none 0 0] := Str.of Tryz.underlying141 info141 rfl rfl (by kernel_rfl) (by kernel_rfl)
instance zr144 : Zr Tryz.prog 144 #[.string ⟨#[]⟩, .int .i64 0, .string ⟨#[]⟩, .int .i64 0, .slice none 0 0, .int .i64 0, .int .u16 0, .string ⟨#[]⟩] := ⟨_, _, info144, rfl, rfl⟩
instance str144 : Str Tryz.prog 144 [(0, 1), (1, 4), (5, 1), (6, 1), (7, 1)] #[.string ⟨#[]⟩, .int .i64 0, .string ⟨#[]⟩, .int .i64 0, .slice none 0 0, .int .i64 0, .int .u16 0, .string ⟨#[]⟩] := Str.of Tryz.underlying144 info144 rfl rfl (by kernel_rfl) (by kernel_rfl)
instance zr160 : Zr Tryz.prog 160 #[.nilFunc] := ⟨_, _, info160, rfl, rfl⟩
instance zr165 : Zr Tryz.prog 165 #[.nilFunc] := ⟨_, _, info165, rfl, rfl⟩
instance zr168 : Zr Tryz.prog 168 #[.nilFunc] := ⟨_, _, info168, rfl, rfl⟩
instance zr170 : Zr Tryz.prog 170 #[.map none] := ⟨_, _, info170, rfl, rfl⟩
instance zr171 : Zr Tryz.prog 171 #[.int .u64 0] := ⟨_, _, info171, rfl, rfl⟩
instance zr185 : Zr Tryz.prog 185 #[.nilFunc] := ⟨_, _, info185, rfl, rfl⟩
instance zr216 : Zr Tryz.prog 216 #[.nilFunc] := ⟨_, _, info216, rfl, rfl⟩
instance zr234 : Zr Tryz.prog 234 #[.int .i64 0] := ⟨_, _, info234, rfl, rfl⟩
instance zr241 : Zr Tryz.prog 241 #[.int .u32 0] := ⟨_, _, info241, rfl, rfl⟩
instance zr243 : Zr Tryz.prog 243 #[.int .u64 0] := ⟨_, _, info243, rfl, rfl⟩
instance zr248 : Zr Tryz.prog 248 #[.int .u64 0] := ⟨_, _, info248, rfl, rfl⟩
instance zr252 : Zr Tryz.prog 252 #[.pointer none] := ⟨_, _, info252, rfl, rfl⟩
instance zr255 : Zr Tryz.prog 255 #[.nilFunc] := ⟨_, _, info255, rfl, rfl⟩
instance zr257 : Zr Tryz.prog 257 #[.nilFunc] := ⟨_, _, info257, rfl, rfl⟩
instance zr267 : Zr Tryz.prog 267 #[.pointer none] := ⟨_, _, info267, rfl, rfl⟩
instance zr271 : Zr Tryz.prog 271 #[.nilFunc] := ⟨_, _, info271, rfl, rfl⟩
instance zr320 : Zr Tryz.prog 320 #[.int .i64 0, .int .u16 0, .string ⟨#[]⟩, .slice none 0 0, .int .i64 0, .string ⟨#[]⟩, .int .i64 0, .slice none 0 0, .slice none 0 0, .bool false, .int .i64 0, .int .u16 0] := ⟨_, _, info320, rfl, rfl⟩
instance str320 : Str Tryz.prog 320 [(0, 2), (2, 10)] #[.int .i64 0, .int .u16 0, .string ⟨#[]⟩, .slice none 0 0, .int .i64 0, .string ⟨#[]⟩, .int .i64 0, .slice none 0 0, .slice none 0 0, .bool false, .int .i64 0, .int .u16 0] := Str.of Tryz.underlying320 info320 rfl rfl (by kernel_rfl) (by kernel_rfl)
instance call3 : Callable Tryz.prog 3 := Callable.of Tryz.func3 (by decide) rfl
instance call4 : Callable Tryz.prog 4 := Callable.of Tryz.func4 (by decide) rfl
instance call5 : Callable Tryz.prog 5 := Callable.of Tryz.func5 (by decide) rfl
instance call6 : Callable Tryz.prog 6 := Callable.of Tryz.func6 (by decide) rfl
instance call7 : Callable Tryz.prog 7 := Callable.of Tryz.func7 (by decide) rfl
instance call8 : Callable Tryz.prog 8 := Callable.of Tryz.func8 (by decide) rfl
instance call9 : Callable Tryz.prog 9 := Callable.of Tryz.func9 (by decide) rfl
instance call11 : Callable Tryz.prog 11 := Callable.of Tryz.func11 (by decide) rfl
instance call12 : Callable Tryz.prog 12 := Callable.of Tryz.func12 (by decide) rfl
instance call13 : Callable Tryz.prog 13 := Callable.of Tryz.func13 (by decide) rfl
instance call14 : Callable Tryz.prog 14 := Callable.of Tryz.func14 (by decide) rfl
instance call15 : Callable Tryz.prog 15 := Callable.of Tryz.func15 (by decide) rfl
instance call16 : Callable Tryz.prog 16 := Callable.of Tryz.func16 (by decide) rfl
instance call17 : Callable Tryz.prog 17 := Callable.of Tryz.func17 (by decide) rfl
instance call18 : Callable Tryz.prog 18 := Callable.of Tryz.func18 (by decide) rfl
instance call19 : Callable Tryz.prog 19 := Callable.of Tryz.func19 (by decide) rfl
instance call20 : Callable Tryz.prog 20 := Callable.of Tryz.func20 (by decide) rfl
instance call21 : Callable Tryz.prog 21 := Callable.of Tryz.func21 (by decide) rfl
instance call22 : Callable Tryz.prog 22 := Callable.of Tryz.func22 (by decide) rfl
instance call23 : Callable Tryz.prog 23 := Callable.of Tryz.func23 (by decide) rfl
instance call30 : Callable Tryz.prog 30 := Callable.of Tryz.func30 (by decide) rfl
instance call31 : Callable Tryz.prog 31 := Callable.of Tryz.func31 (by decide) rfl
instance call32 : Callable Tryz.prog 32 := Callable.of Tryz.func32 (by decide) rfl
instance call33 : Callable Tryz.prog 33 := Callable.of Tryz.func33 (by decide) rfl
instance call34 : Callable Tryz.prog 34 := Callable.of Tryz.func34 (by decide) rfl
instance call35 : Callable Tryz.prog 35 := Callable.of Tryz.func35 (by decide) rfl
instance call36 : Callable Tryz.prog 36 := Callable.of Tryz.func36 (by decide) rfl
instance call37 : Callable Tryz.prog 37 := Callable.of Tryz.func37 (by decide) rfl
instance call38 : Callable Tryz.prog 38 := Callable.of Tryz.func38 (by decide) rfl
instance call39 : Callable Tryz.prog 39 := Callable.of Tryz.func39 (by decide) rfl
instance call40 : Callable Tryz.prog 40 := Callable.of Tryz.func40 (by decide) rfl
instance call41 : Callable Tryz.prog 41 := Callable.of Tryz.func41 (by decide) rfl
instance call42 : Callable Tryz.prog 42 := Callable.of Tryz.func42 (by decide) rfl
instance call43 : Callable Tryz.prog 43 := Callable.of Tryz.func43 (by decide) rfl
instance call44 : Callable Tryz.prog 44 := Callable.of Tryz.func44 (by decide) rfl
instance call45 : Callable Tryz.prog 45 := Callable.of Tryz.func45 (by decide) rfl
instance call46 : Callable Tryz.prog 46 := Callable.of Tryz.func46 (by decide) rfl
instance call47 : Callable Tryz.prog 47 := Callable.of Tryz.func47 (by decide) rfl
instance call48 : Callable Tryz.prog 48 := Callable.of Tryz.func48 (by decide) rfl
instance call49 : Callable Tryz.prog 49 := Callable.of Tryz.func49 (by decide) rfl
instance call50 : Callable Tryz.prog 50 := Callable.of Tryz.func50 (by decide) rfl
instance call51 : Callable Tryz.prog 51 := Callable.of Tryz.func51 (by decide) rfl
instance call52 : Callable Tryz.prog 52 := Callable.of Tryz.func52 (by decide) rfl
instance call77 : Callable Tryz.prog 77 := Callable.of Tryz.func77 (by decide) rfl
instance call78 : Callable Tryz.prog 78 := Callable.of Tryz.func78 (by decide) rfl
instance call79 : Callable Tryz.prog 79 := Callable.of Tryz.func79 (by decide) rfl
instance call80 : Callable Tryz.prog 80 := Callable.of Tryz.func80 (by decide) rfl
instance call81 : Callable Tryz.prog 81 := Callable.of Tryz.func81 (by decide) rfl
instance call82 : Callable Tryz.prog 82 := Callable.of Tryz.func82 (by decide) rfl
instance call83 : Callable Tryz.prog 83 := Callable.of Tryz.func83 (by decide) rfl
instance call84 : Callable Tryz.prog 84 := Callable.of Tryz.func84 (by decide) rfl
instance call85 : Callable Tryz.prog 85 := Callable.of Tryz.func85 (by decide) rfl
instance call86 : Callable Tryz.prog 86 := Callable.of Tryz.func86 (by decide) rfl
instance call87 : Callable Tryz.prog 87 := Callable.of Tryz.func87 (by decide) rfl
instance call88 : Callable Tryz.prog 88 := Callable.of Tryz.func88 (by decide) rfl
instance call89 : Callable Tryz.prog 89 := Callable.of Tryz.func89 (by decide) rfl
instance call90 : Callable Tryz.prog 90 := Callable.of Tryz.func90 (by decide) rfl
instance call91 : Callable Tryz.prog 91 := Callable.of Tryz.func91 (by decide) rfl
instance call92 : Callable Tryz.prog 92 := Callable.of Tryz.func92 (by decide) rfl
instance call93 : Callable Tryz.prog 93 := Callable.of Tryz.func93 (by decide) rfl
instance call94 : Callable Tryz.prog 94 := Callable.of Tryz.func94 (by decide) rfl
instance call95 : Callable Tryz.prog 95 := Callable.of Tryz.func95 (by decide) rfl
instance call96 : Callable Tryz.prog 96 := Callable.of Tryz.func96 (by decide) rfl
instance call97 : Callable Tryz.prog 97 := Callable.of Tryz.func97 (by decide) rfl
instance call112 : Callable Tryz.prog 112 := Callable.of Tryz.func112 (by decide) rfl
instance call114 : Callable Tryz.prog 114 := Callable.of Tryz.func114 (by decide) rfl
instance call129 : Callable Tryz.prog 129 := Callable.of Tryz.func129 (by decide) rfl
instance call130 : Callable Tryz.prog 130 := Callable.of Tryz.func130 (by decide) rfl
instance call131 : Callable Tryz.prog 131 := Callable.of Tryz.func131 (by decide) rfl
instance call132 : Callable Tryz.prog 132 := Callable.of Tryz.func132 (by decide) rfl
instance call133 : Callable Tryz.prog 133 := Callable.of Tryz.func133 (by decide) rfl
instance call134 : Callable Tryz.prog 134 := Callable.of Tryz.func134 (by decide) rfl
instance call135 : Callable Tryz.prog 135 := Callable.of Tryz.func135 (by decide) rfl
instance call143 : Callable Tryz.prog 143 := Callable.of Tryz.func143 (by decide) rfl
instance call144 : Callable Tryz.prog 144 := Callable.of Tryz.func144 (by decide) rfl
instance call145 : Callable Tryz.prog 145 := Callable.of Tryz.func145 (by decide) rfl
instance call158 : Callable Tryz.prog 158 := Callable.of Tryz.func158 (by decide) rfl
instance call159 : Callable Tryz.prog 159 := Callable.of Tryz.func159 (by decide) rfl
instance call160 : Callable Tryz.prog 160 := Callable.of Tryz.func160 (by decide) rfl
instance call161 : Callable Tryz.prog 161 := Callable.of Tryz.func161 (by decide) rfl
instance call162 : Callable Tryz.prog 162 := Callable.of Tryz.func162 (by decide) rfl
instance call163 : Callable Tryz.prog 163 := Callable.of Tryz.func163 (by decide) rfl
instance call164 : Callable Tryz.prog 164 := Callable.of Tryz.func164 (by decide) rfl
instance call165 : Callable Tryz.prog 165 := Callable.of Tryz.func165 (by decide) rfl
instance call166 : Callable Tryz.prog 166 := Callable.of Tryz.func166 (by decide) rfl
instance call167 : Callable Tryz.prog 167 := Callable.of Tryz.func167 (by decide) rfl
instance call168 : Callable Tryz.prog 168 := Callable.of Tryz.func168 (by decide) rfl
instance call178 : Callable Tryz.prog 178 := Callable.of Tryz.func178 (by decide) rfl
instance call179 : Callable Tryz.prog 179 := Callable.of Tryz.func179 (by decide) rfl
instance call180 : Callable Tryz.prog 180 := Callable.of Tryz.func180 (by decide) rfl
instance call181 : Callable Tryz.prog 181 := Callable.of Tryz.func181 (by decide) rfl
instance call182 : Callable Tryz.prog 182 := Callable.of Tryz.func182 (by decide) rfl
instance call183 : Callable Tryz.prog 183 := Callable.of Tryz.func183 (by decide) rfl
instance call184 : Callable Tryz.prog 184 := Callable.of Tryz.func184 (by decide) rfl
instance call185 : Callable Tryz.prog 185 := Callable.of Tryz.func185 (by decide) rfl
instance call186 : Callable Tryz.prog 186 := Callable.of Tryz.func186 (by decide) rfl
instance call187 : Callable Tryz.prog 187 := Callable.of Tryz.func187 (by decide) rfl
instance call188 : Callable Tryz.prog 188 := Callable.of Tryz.func188 (by decide) rfl
instance call200 : Callable Tryz.prog 200 := Callable.of Tryz.func200 (by decide) rfl
instance call201 : Callable Tryz.prog 201 := Callable.of Tryz.func201 (by decide) rfl
instance call202 : Callable Tryz.prog 202 := Callable.of Tryz.func202 (by decide) rfl
instance call203 : Callable Tryz.prog 203 := Callable.of Tryz.func203 (by decide) rfl
instance call204 : Callable Tryz.prog 204 := Callable.of Tryz.func204 (by decide) rfl
instance call205 : Callable Tryz.prog 205 := Callable.of Tryz.func205 (by decide) rfl
instance call206 : Callable Tryz.prog 206 := Callable.of Tryz.func206 (by decide) rfl
instance call207 : Callable Tryz.prog 207 := Callable.of Tryz.func207 (by decide) rfl
instance call209 : Callable Tryz.prog 209 := Callable.of Tryz.func209 (by decide) rfl
instance call210 : Callable Tryz.prog 210 := Callable.of Tryz.func210 (by decide) rfl
instance call221 : Callable Tryz.prog 221 := Callable.of Tryz.func221 (by decide) rfl
instance call222 : Callable Tryz.prog 222 := Callable.of Tryz.func222 (by decide) rfl
instance call223 : Callable Tryz.prog 223 := Callable.of Tryz.func223 (by decide) rfl
instance call224 : Callable Tryz.prog 224 := Callable.of Tryz.func224 (by decide) rfl
instance call225 : Callable Tryz.prog 225 := Callable.of Tryz.func225 (by decide) rfl
instance call226 : Callable Tryz.prog 226 := Callable.of Tryz.func226 (by decide) rfl
instance call227 : Callable Tryz.prog 227 := Callable.of Tryz.func227 (by decide) rfl
instance call228 : Callable Tryz.prog 228 := Callable.of Tryz.func228 (by decide) rfl
instance call229 : Callable Tryz.prog 229 := Callable.of Tryz.func229 (by decide) rfl
instance call231 : Callable Tryz.prog 231 := Callable.of Tryz.func231 (by decide) rfl
instance call235 : Callable Tryz.prog 235 := Callable.of Tryz.func235 (by decide) rfl
instance call236 : Callable Tryz.prog 236 := Callable.of Tryz.func236 (by decide) rfl
instance call237 : Callable Tryz.prog 237 := Callable.of Tryz.func237 (by decide) rfl
instance call238 : Callable Tryz.prog 238 := Callable.of Tryz.func238 (by decide) rfl
instance call248 : Callable Tryz.prog 248 := Callable.of Tryz.func248 (by decide) rfl
end Go.Proofs.YteeamfkhkbfilaaGreat.K

namespace Go.Proofs.YteeamfkhkbfilaaGreat.K
open Go Go.RowKit Go.Proofs

/-! renaming and lists -/
section
variable {P : Program} {w0 : World} {N : Nat} {Q : Exit → Act → World → Prop} {env : Env} {own : List Seg} {H : Hp} {ops : Array Oper} {rest : List Oper}
variable {d : Option Tmp} {ty : TypeId} {pos : String} {af : Array Edge}
theorem TL.lssS {x y : Operand} {tx t' : TypeId} {s t : ByteArray} (hx : ev env x = some (.string s)) (hy : ev env y = some (.string t)) (hd : okD N d = true)
    (h : TL P w0 N Q ops rest (putE d (.bool (Op.bytesLess s.toList t.toList)) env) own H) :
    TL P w0 N Q ops ({ dst := d, op := .binOp .lss tx x y t', type := ty, pos := pos, after := af, guard := none } :: rest) env own H :=
  TL.val0 hd (fun a ha w => by simp only [execOp, eqGuard, binOp, Op.stringOp, ha.ev hx, ha.ev hy]; rfl) h
theorem TL.indexS {t : TypeId} {x i : Operand} {s : ByteArray} {k : IntKind} {iv : Int} (j : Nat) {b : UInt8} (hx : ev env x = some (.string s)) (hi : ev env i = some (.int k iv)) (hj : iv = (j : Int)) (hb : s[j]? = some b) [hU : Und P t .string] (hd : okD N d = true)
    (h : TL P w0 N Q ops rest (putE d (.int .u8 (b.toNat : Int)) env) own H) :
    TL P w0 N Q ops ({ dst := d, op := .index t x i, type := ty, pos := pos, after := af, guard := none } :: rest) env own H :=
  TL.val0 hd (fun a ha w => by
    subst hj
    simp [execOp, Instr.index, ha.ev hx, ha.ev hi, asIntOf, run_underlying hU.eq, hb]) h
def orI (k : IntKind) (x y : Int) : Int := k.wrap (BitVec.ofInt k.bits x ||| BitVec.ofInt k.bits y).toNat
theorem TL.orW {x y : Operand} {tx t' : TypeId} {k : IntKind} {m n : Int} (hx : ev env x = some (.int k m)) (hy : ev env y = some (.int k n)) (hd : okD N d = true)
    (h : TL P w0 N Q ops rest (putE d (.int k (orI k m n)) env) own H) :
    TL P w0 N Q ops ({ dst := d, op := .binOp .or tx x y t', type := ty, pos := pos, after := af, guard := none } :: rest) env own H :=
  TL.val0 hd (fun a ha w => by simp [execOp, eqGuard, binOp, Op.intBits, ha.ev hx, ha.ev hy, orI]) h
theorem TL.shr {x y : Operand} {tx t' : TypeId} {k k' : IntKind} {m n : Int} (hx : ev env x = some (.int k m)) (hy : ev env y = some (.int k' n)) (hn : ¬ n < 0) (hd : okD N d = true)
    (h : TL P w0 N Q ops rest (putE d (.int k (m.fdiv (2 ^ (min n.toNat k.bits)))) env) own H) :
    TL P w0 N Q ops ({ dst := d, op := .binOp .shr tx x y t', type := ty, pos := pos, after := af, guard := none } :: rest) env own H :=
  TL.val0 hd (fun a ha w => by simp [execOp, eqGuard, binOp, Op.shift, ha.ev hx, ha.ev hy, hn]) h
end
section
variable {P : Program} {w0 : World} {N : Nat} {Q : Exit → Act → World → Prop} {env : Env} {own : List Seg} {H : Hp} {ops : Array Oper} {rest : List Oper}
variable {d : Option Tmp} {ty : TypeId} {pos : String} {af : Array Edge}
theorem TL.eqlP {x y : Operand} {tx t' e : TypeId} {p : Option Addr} [hu : Und P tx (.pointer e)] (hx : ev env x = some (.pointer p)) (hy : ev env y = some (.pointer none)) (hd : okD N d = true)
    (h : TL P w0 N Q ops rest (putE d (.bool p.isNone) env) own H) :
    TL P w0 N Q ops ({ dst := d, op := .binOp .eql tx x y t', type := ty, pos := pos, after := af, guard := none } :: rest) env own H :=
  TL.val0 hd (fun a ha w => by
    have hp : P.underlying tx = some (.pointer (P.pointee tx)) := by simp only [Program.pointee, hu.eq]
    have := run_equal_pointer_nil (P := P) w tx p hp
    simp only [execOp, eqGuard, binOp, ha.ev hx, ha.ev hy]
    simp [this]) h
theorem TL.eqlMapNil {x y : Operand} {tx t' k e : TypeId} {m : Option Nat} [hu : Und P tx (.map k e)] (hx : ev env x = some (.map m)) (hy : ev env y = some (.map none)) (hd : okD N d = true)
    (h : TL P w0 N Q ops rest (putE d (.bool m.isNone) env) own H) :
    TL P w0 N Q ops ({ dst := d, op := .binOp .eql tx x y t', type := ty, pos := pos, after := af, guard := none } :: rest) env own H :=
  TL.val0 hd (fun a ha w => by
    have := run_equal_map_nil (P := P) w tx k e m hu.eq
    simp only [execOp, eqGuard, binOp, ha.ev hx, ha.ev hy]
    simp [this]) h
/-- Structs that are compared. -/
theorem TL.eqlKey {x y : Operand} {tx t' : TypeId} {xs ys : Array Value} {lx ly : Lit} (m : Nat) (hx : ev env x = some (.agg xs)) (hy : ev env y = some (.agg ys)) (hm : P.eqGuardType P.depth tx = false) (hk : P.keyTypeAt m tx = true) (hle : Nat.ble m 10000 = true) (hw : (match P.underlying tx with | some (.array _ _) | some (.struct _) => true | _ => false) = true)
    (K : Maps.Keyed P tx) (h1 : keyOf P tx (.agg xs) = some lx) (h2 : keyOf P tx (.agg ys) = some ly) (hd : okD N d = true)
    (h : ∀ b : Bool, (b = true ↔ xs = ys) → TL P w0 N Q ops rest (putE d (.bool b) env) own H) : TL P w0 N Q ops ({ dst := d, op := .binOp .eql tx x y t', type := ty, pos := pos, after := af, guard := none } :: rest) env own H := by
  obtain ⟨r, hr⟩ : ∃ r : Bool, ∀ w, (Op.equal tx (.agg xs) (.agg ys)).run P w = .ok r w ∧ (r = true ↔ lx = ly) := by
    by_cases he : lx = ly
    · exact ⟨true, fun w => by obtain ⟨r, h3, h4⟩ := run_equal_deep (P := P) w (Nat.le_of_ble_eq_true hle) hk hw h1 h2; rw [h4.2 he] at h3; exact ⟨h3, by simp [he]⟩⟩
    · exact ⟨false, fun w => by
        obtain ⟨r, h3, h4⟩ := run_equal_deep (P := P) w (Nat.le_of_ble_eq_true hle) hk hw h1 h2
        have : r = false := by cases r with | false => rfl | true => exact absurd (h4.1 rfl) he
        rw [this] at h3; exact ⟨h3, by simp [he]⟩⟩
  refine TL.val0 hd (v := .bool r) (fun ac ha w => ?_) (h r ?_)
  · have h3 := run_eqGuard_agg (P := P) w .eql tx x y xs ys hm
    simp only [execOp, ha.ev hx, ha.ev hy, Sem.run_bind, h3, Result.andThen_ok, binOp]
    simp [(hr w).1]
  · rw [(hr default).2]
    exact ⟨fun he => by subst he; have := K.inj h1 h2; injection this, fun he => by subst he; rw [h1] at h2; exact Option.some.inj h2⟩
theorem TL.neqKey {x y : Operand} {tx t' : TypeId} {xs ys : Array Value} {lx ly : Lit} (m : Nat) (hx : ev env x = some (.agg xs)) (hy : ev env y = some (.agg ys)) (hm : P.eqGuardType P.depth tx = false) (hk : P.keyTypeAt m tx = true) (hle : Nat.ble m 10000 = true) (hw : (match P.underlying tx with | some (.array _ _) | some (.struct _) => true | _ => false) = true)
    (K : Maps.Keyed P tx) (h1 : keyOf P tx (.agg xs) = some lx) (h2 : keyOf P tx (.agg ys) = some ly) (hd : okD N d = true)
    (h : ∀ b : Bool, (b = true ↔ xs ≠ ys) → TL P w0 N Q ops rest (putE d (.bool b) env) own H) : TL P w0 N Q ops ({ dst := d, op := .binOp .neq tx x y t', type := ty, pos := pos, after := af, guard := none } :: rest) env own H := by
  obtain ⟨r, hr⟩ : ∃ r : Bool, ∀ w, (Op.equal tx (.agg xs) (.agg ys)).run P w = .ok r w ∧ (r = true ↔ lx = ly) := by
    by_cases he : lx = ly
    · exact ⟨true, fun w => by obtain ⟨r, h3, h4⟩ := run_equal_deep (P := P) w (Nat.le_of_ble_eq_true hle) hk hw h1 h2; rw [h4.2 he] at h3; exact ⟨h3, by simp [he]⟩⟩
    · exact ⟨false, fun w => by
        obtain ⟨r, h3, h4⟩ := run_equal_deep (P := P) w (Nat.le_of_ble_eq_true hle) hk hw h1 h2
        have : r = false := by cases r with | false => rfl | true => exact absurd (h4.1 rfl) he
        rw [this] at h3; exact ⟨h3, by simp [he]⟩⟩
  have hrl : (r = true ↔ xs = ys) := by
    rw [(hr default).2]
    exact ⟨fun he => by subst he; have := K.inj h1 h2; injection this, fun he => by subst he; rw [h1] at h2; exact Option.some.inj h2⟩
  refine TL.val0 hd (v := .bool (!r)) (fun ac ha w => ?_) (h (!r) ?_)
  · have h3 := run_eqGuard_agg (P := P) w .neq tx x y xs ys hm
    simp only [execOp, ha.ev hx, ha.ev hy, Sem.run_bind, h3, Result.andThen_ok, binOp]
    simp [(hr w).1]
  · rw [ne_eq, ← hrl]; cases r <;> simp
/-- A part of a string. -/
theorem TL.sliceS {t : TypeId} {x : Operand} {lo hi : Option Operand} {s : ByteArray} {li ri : Option Int} (l r : Nat) (hx : ev env x = some (.string s)) [hU : Und P t .string]
    (h1 : optI env lo li) (h2 : optI env hi ri) (hl : li.getD 0 = (l : Int)) (hr : ri.getD (s.size : Int) = (r : Int)) (hlr : l ≤ r) (hrc : r ≤ s.size) (hd : okD N d = true)
    (h : TL P w0 N Q ops rest (putE d (.string (s.extract l r)) env) own H) :
    TL P w0 N Q ops ({ dst := d, op := .slice t x lo hi none, type := ty, pos := pos, after := af, guard := none } :: rest) env own H :=
  TL.val0 hd (fun a ha w => by
    have hb : (Instr.sliceBounds false s.size s.size (lo.map a.eval) (hi.map a.eval) none).run P w = .ok (l, r, s.size) w := by
      cases lo with
      | none =>
        simp only [optI] at h1
        subst h1
        simp only [Option.getD_none] at hl
        obtain rfl : l = 0 := by omega
        cases hi with
        | none =>
          simp only [optI] at h2
          subst h2
          simp only [Option.getD_none] at hr
          obtain rfl : r = s.size := by omega
          simp [Instr.sliceBounds, Instr.sliceBound]
        | some y2 =>
          obtain ⟨k2, q2, rfl, h3⟩ := h2
          simp only [Option.getD_some] at hr
          subst hr
          simp [Instr.sliceBounds, Instr.sliceBound, asIntOf, ha.ev h3, hrc]
      | some y1 =>
        obtain ⟨k1, q1, rfl, h4⟩ := h1
        simp only [Option.getD_some] at hl
        subst hl
        cases hi with
        | none =>
          simp only [optI] at h2
          subst h2
          simp only [Option.getD_none] at hr
          obtain rfl : r = s.size := by omega
          simp [Instr.sliceBounds, Instr.sliceBound, asIntOf, ha.ev h4, hlr]
        | some y2 =>
          obtain ⟨k2, q2, rfl, h3⟩ := h2
          simp only [Option.getD_some] at hr
          subst hr
          simp [Instr.sliceBounds, Instr.sliceBound, asIntOf, ha.ev h3, ha.ev h4, hrc, hlr]
    simp only [execOp, Instr.sliceAt, Instr.slice, Sem.run_bind, run_underlying hU.eq, Result.andThen_ok, ha.ev hx]
    cases lo <;> cases hi <;> simp_all) h
theorem TL.eqlBb {x y : Operand} {tx t' : TypeId} {b c : Bool} [hu : Und P tx .bool] (hx : ev env x = some (.bool b)) (hy : ev env y = some (.bool c)) (hd : okD N d = true)
    (h : TL P w0 N Q ops rest (putE d (.bool (b == c)) env) own H) :
    TL P w0 N Q ops ({ dst := d, op := .binOp .eql tx x y t', type := ty, pos := pos, after := af, guard := none } :: rest) env own H :=
  TL.val0 hd (fun a ha w => by
    have := run_equal_bool (P := P) w tx b c hu.eq
    simp only [execOp, eqGuard, binOp, ha.ev hx, ha.ev hy]
    simp [this]) h
end
theorem follows_mixed : Tryz.prog.follows .mixedOrders = true := by kernel_rfl
/-! the keys -/
theorem laidOutQ : laidOutB Tryz.prog = true := by kernel_rfl
theorem wf64 {a : Int} (h : I64 a) : (Lit.int .i64 a).wf = true := by
  simp only [Lit.wf, Bool.and_eq_true, decide_eq_true_eq]; exact h
theorem wf16 {a : Int} (h : 0 ≤ a ∧ a ≤ 65535) : (Lit.int .u16 a).wf = true := by
  simp only [Lit.wf, Bool.and_eq_true, decide_eq_true_eq]; exact h
theorem lawPL : WideMaps.KeyLaw Tryz.prog 58 := deep_law_laid laidOutQ (m := 3) (by omega) (of_decide_eq_true (by kernel_rfl)) (by kernel_rfl) (by rw [Tryz.underlying58])
theorem lawFA : WideMaps.KeyLaw Tryz.prog 60 := deep_law_laid laidOutQ (m := 3) (by omega) (of_decide_eq_true (by kernel_rfl)) (by kernel_rfl) (by rw [Tryz.underlying60])
theorem lawKY : WideMaps.KeyLaw Tryz.prog 95 := deep_law_laid laidOutQ (m := 3) (by omega) (of_decide_eq_true (by kernel_rfl)) (by kernel_rfl) (by rw [Tryz.underlying95])
theorem KPL : Maps.Keyed Tryz.prog 58 := .of_law lawPL
theorem KFA : Maps.Keyed Tryz.prog 60 := .of_law lawFA
theorem KKY : Maps.Keyed Tryz.prog 95 := .of_law lawKY
theorem ktPL : Tryz.prog.keyType 58 = true := by kernel_rfl
theorem ktFA : Tryz.prog.keyType 60 = true := by kernel_rfl
theorem ktKY : Tryz.prog.keyType 95 = true := by kernel_rfl
theorem coPL : Tryz.prog.cellsOf 58 = 2 := by kernel_rfl
theorem coFA : Tryz.prog.cellsOf 60 = 4 := by kernel_rfl
theorem coKY : Tryz.prog.cellsOf 95 = 3 := by kernel_rfl
theorem co3 : Tryz.prog.cellsOf 3 = 1 := by kernel_rfl
theorem co9 : Tryz.prog.cellsOf 9 = 1 := by kernel_rfl
theorem co56 : Tryz.prog.cellsOf 56 = 1 := by kernel_rfl
theorem tsize2 : ∃ m, Tryz.prog.types.size = m + 3 := by
  have : (2 : Nat) < Tryz.prog.types.size := of_decide_eq_true (by kernel_rfl)
  exact ⟨Tryz.prog.types.size - 3, by omega⟩
theorem keyPL {b a : Int} (hb : I64 b) (ha : 0 ≤ a ∧ a ≤ 65535) : ∃ l, keyOf Tryz.prog 58 (.agg #[.int .i64 b, .int .u16 a]) = some l := by
  obtain ⟨m, hm⟩ := tsize2
  unfold keyOf
  simp only [Tryz.underlying58]
  rw [if_pos (by simp [ktPL, Value.formed, Tryz.underlying58, coPL]), hm]
  unfold Program.keyLits
  simp only [Tryz.underlying58, Value.cells]
  rw [if_pos ⟨by rw [coPL]; rfl, by decide +kernel⟩]
  simp [Program.keyLits, Tryz.underlying3, Tryz.underlying56, co3, co56, wf64 hb, wf16 ha]
theorem keyKY {k b a : Int} (hk : I64 k) (hb : I64 b) (ha : 0 ≤ a ∧ a ≤ 65535) : ∃ l, keyOf Tryz.prog 95 (.agg #[.int .i64 k, .int .i64 b, .int .u16 a]) = some l := by
  obtain ⟨m, hm⟩ := tsize2
  unfold keyOf
  simp only [Tryz.underlying95]
  rw [if_pos (by simp [ktKY, Value.formed, Tryz.underlying95, coKY]), hm]
  unfold Program.keyLits
  simp only [Tryz.underlying95, Value.cells]
  rw [if_pos ⟨by rw [coKY]; rfl, by decide +kernel⟩]
  simp [Program.keyLits, Tryz.underlying3, Tryz.underlying56, Tryz.underlying58, co3, co56, coPL, wf64 hk, wf64 hb, wf16 ha]
  rw [if_pos (by decide +kernel)]
  exact ⟨_, rfl⟩
theorem keyFA {k b a : Int} {s : ByteArray} (hk : I64 k) (hb : I64 b) (ha : 0 ≤ a ∧ a ≤ 65535) (hs : s.size ≤ maxLen) : ∃ l, keyOf Tryz.prog 60 (.agg #[.int .i64 k, .int .i64 b, .int .u16 a, .string s]) = some l := by
  obtain ⟨m, hm⟩ := tsize2
  unfold keyOf
  simp only [Tryz.underlying60]
  rw [if_pos (by simp [ktFA, Value.formed, Tryz.underlying60, coFA]), hm]
  unfold Program.keyLits
  simp only [Tryz.underlying60, Value.cells]
  rw [if_pos ⟨by rw [coFA]; rfl, by decide +kernel⟩]
  simp [Program.keyLits, Tryz.underlying3, Tryz.underlying9, Tryz.underlying56, Tryz.underlying58, co3, co9, co56, coPL, wf64 hk, wf64 hb, wf16 ha, hs]
  rw [if_pos (by decide +kernel)]
  exact ⟨_, rfl⟩
end Go.Proofs.YteeamfkhkbfilaaGreat.K

namespace Go.Proofs.YteeamfkhkbfilaaGreat.K
open Go Go.RowKit Go.Proofs

section
variable {P : Program} {w0 : World} {N : Nat} {Q : Exit → Act → World → Prop} {env : Env} {own : List Seg} {H : Hp} {ops : Array Oper} {rest : List Oper}
variable {d : Option Tmp} {ty : TypeId} {pos : String} {af : Array Edge}
/-- A string's bytes in a new block. -/
theorem TL.convSB {s t e : TypeId} {x : Operand} {str : ByteArray} (hx : ev env x = some (.string str)) [hs : Und P s .string] [ht : Und P t (.slice e)] [he : Und P e (.int .u8)] (hd : okD N d = true)
    (h : ∀ g cap cur fz, (∀ (i : Nat) (b : UInt8), str.data.toList[i]? = some b → lget cur.toList (0 + i * 1) = some (byteV b)) → TL P w0 N Q ops rest (putE d (.slice (some ⟨g, 0, none⟩) str.size cap) env) ([(g, .cells cur e fz)] :: own) H) :
    TL P w0 N Q ops ({ dst := d, op := .convert s t x, type := ty, pos := pos, after := af, guard := none } :: rest) env own H := by
  refine TL.valE (φ := fun v own' H' => ∃ g cap cur fz, v = .slice (some ⟨g, 0, none⟩) str.size cap ∧ own' = [(g, .cells cur e fz)] :: own ∧ H' = H ∧ ∀ (i : Nat) (b : UInt8), str.data.toList[i]? = some b → lget cur.toList (0 + i * 1) = some (byteV b)) rfl hd
    (fun a w ha hw => ⟨_, _, _, w.drew.alloc (.cells (bytesRow str (grownCap w str.size 0 e)) e ((bytesRow str (grownCap w str.size 0 e)).size, (bytesRow str (grownCap w str.size 0 e)).size + 1)), ?_, ⟨w.heap.size, grownCap w str.size 0 e, bytesRow str (grownCap w str.size 0 e), _, rfl, rfl, rfl, fun i b hb => ?_⟩, hw.drew.new _⟩) ?_
  · have := run_bytes_of_string (P := P) w s t e str hs.eq ht.eq he.eq
    simp only [execOp, ha.ev hx, Sem.run_bind, this, Result.andThen_ok]
    rfl
  · rw [lget_arr, Nat.zero_add, Nat.mul_one]
    obtain ⟨hlt, rfl⟩ := List.getElem?_eq_some_iff.1 hb
    have hlt' : i < str.data.size := by simpa using hlt
    unfold bytesRow
    rw [Array.getElem?_append_left (by simpa using hlt')]
    simp [byteV, Array.getElem?_eq_getElem hlt']
  · rintro v own' H' ⟨g, cap, cur, fz, rfl, rfl, rfl, hc⟩
    exact h g cap cur fz hc
theorem TL.shl {x y : Operand} {tx t' : TypeId} {k k' : IntKind} {m n : Int} (hx : ev env x = some (.int k m)) (hy : ev env y = some (.int k' n)) (hn : ¬ n < 0) (hd : okD N d = true)
    (h : TL P w0 N Q ops rest (putE d (.int k (k.wrap (m * 2 ^ (min n.toNat k.bits)))) env) own H) :
    TL P w0 N Q ops ({ dst := d, op := .binOp .shl tx x y t', type := ty, pos := pos, after := af, guard := none } :: rest) env own H :=
  TL.val0 hd (fun a ha w => by simp [execOp, eqGuard, binOp, Op.shift, ha.ev hx, ha.ev hy, hn]) h
def xorI (k : IntKind) (x y : Int) : Int := k.wrap (BitVec.ofInt k.bits x ^^^ BitVec.ofInt k.bits y).toNat
def andI (k : IntKind) (x y : Int) : Int := k.wrap (BitVec.ofInt k.bits x &&& BitVec.ofInt k.bits y).toNat
theorem TL.xorW {x y : Operand} {tx t' : TypeId} {k : IntKind} {m n : Int} (hx : ev env x = some (.int k m)) (hy : ev env y = some (.int k n)) (hd : okD N d = true)
    (h : TL P w0 N Q ops rest (putE d (.int k (xorI k m n)) env) own H) :
    TL P w0 N Q ops ({ dst := d, op := .binOp .xor tx x y t', type := ty, pos := pos, after := af, guard := none } :: rest) env own H :=
  TL.val0 hd (fun a ha w => by simp [execOp, eqGuard, binOp, Op.intBits, ha.ev hx, ha.ev hy, xorI]) h
theorem TL.andW {x y : Operand} {tx t' : TypeId} {k : IntKind} {m n : Int} (hx : ev env x = some (.int k m)) (hy : ev env y = some (.int k n)) (hd : okD N d = true)
    (h : TL P w0 N Q ops rest (putE d (.int k (andI k m n)) env) own H) :
    TL P w0 N Q ops ({ dst := d, op := .binOp .and tx x y t', type := ty, pos := pos, after := af, guard := none } :: rest) env own H :=
  TL.val0 hd (fun a ha w => by simp [execOp, eqGuard, binOp, Op.intBits, ha.ev hx, ha.ev hy, andI]) h
end
/-! numbers -/
theorem wrap_u8 (n : Int) : IntKind.u8.wrap n = n % 256 := by simp [IntKind.wrap, IntKind.bits, IntKind.signed]
theorem wrap_u16 (n : Int) : IntKind.u16.wrap n = n % 65536 := by simp [IntKind.wrap, IntKind.bits, IntKind.signed]
/-- A number's lowest byte. -/
def b8 (n : Int) : UInt8 := UInt8.ofNat (n % 256).toNat
theorem b8_val (n : Int) : byteV (b8 n) = .int .u8 (IntKind.u8.wrap n) := by
  have h1 : (b8 n).toNat = (n % 256).toNat := by
    unfold b8
    rw [UInt8.toNat_ofNat']
    omega
  unfold byteV
  rw [h1, wrap_u8]
  congr 1
  omega
def put16 (n : Int) : ByteArray := ⟨#[b8 n, b8 (n / 256)]⟩
def num4 (n : Int) : ByteArray := put16 (n % 65536) ++ put16 (n / 65536 % 65536)
abbrev U16 (n : Int) : Prop := 0 ≤ n ∧ n ≤ 65535
def crcBit (r : Int) : Int := if 32768 ≤ r then xorI .u16 (IntKind.u16.wrap (r * 2)) 4129 else IntKind.u16.wrap (r * 2)
def crcByte (r : Int) (b : UInt8) : Int := Nat.repeat crcBit 8 (xorI .u16 r (256 * (b.toNat : Int)))
def crc (l : List UInt8) : Int := l.foldl crcByte 65535
theorem u16_wrap (n : Int) : U16 (IntKind.u16.wrap n) := by rw [wrap_u16]; exact ⟨by omega, by omega⟩
theorem u16_xor (x y : Int) : U16 (xorI .u16 x y) := u16_wrap _
theorem u16_bit (r : Int) : U16 (crcBit r) := by unfold crcBit; split <;> exact u16_wrap _
theorem u16_bits (r : Int) (h : U16 r) : ∀ n, U16 (Nat.repeat crcBit n r)
  | 0 => h
  | n + 1 => u16_bit _
theorem u16_byte (r : Int) (b : UInt8) : U16 (crcByte r b) := u16_bits _ (u16_xor _ _) 8
theorem u16_crc : ∀ (l : List UInt8) (r : Int), U16 r → U16 (l.foldl crcByte r)
  | [], _, h => h
  | b :: l, _, _ => u16_crc l _ (u16_byte _ b)
theorem and_pow (n i : Nat) : n &&& 2 ^ i = (n.testBit i).toNat * 2 ^ i := by
  refine Nat.eq_of_testBit_eq fun j => ?_
  rw [Nat.testBit_and, Nat.testBit_two_pow]
  by_cases h : i = j
  · subst h
    cases hb : n.testBit i <;> simp [Nat.testBit_two_pow]
  · cases hb : n.testBit i <;> simp [Nat.testBit_two_pow, h]
theorem and_high {r : Int} (h : U16 r) : (andI .u16 r 32768 ≠ 0) = (32768 ≤ r) := by
  obtain ⟨h1, h2⟩ := h
  have e1 : (BitVec.ofInt IntKind.u16.bits r &&& BitVec.ofInt IntKind.u16.bits 32768).toNat = r.toNat &&& 2 ^ 15 := by
    show (BitVec.ofInt 16 r &&& BitVec.ofInt 16 32768).toNat = _
    rw [BitVec.toNat_and, BitVec.toNat_ofInt]
    have : (r % ((2 ^ 16 : Nat) : Int)).toNat = r.toNat := by omega
    rw [this]
    rfl
  unfold andI
  rw [e1, and_pow, Nat.testBit_eq_decide_div_mod_eq, wrap_u16]
  rw [eq_iff_iff]
  by_cases h3 : r.toNat / 2 ^ 15 % 2 = 1
  · simp only [h3, decide_true, Bool.toNat_true]
    exact ⟨fun _ => by omega, fun _ => by decide⟩
  · simp only [h3, decide_false, Bool.toNat_false]
    exact ⟨fun h => absurd rfl h, fun _ => by omega⟩
theorem or_nat {i a b : Nat} (h : b < 2 ^ i) : 2 ^ i * a ||| b = 2 ^ i * a + b := (Nat.two_pow_add_eq_or_of_lt h a).symm
theorem or_u16 {x y : Int} (hx : 0 ≤ x ∧ x < 256) (hy : 0 ≤ y ∧ y < 256) : orI .u16 x (256 * y) = x + 256 * y := by
  have e1 : (BitVec.ofInt IntKind.u16.bits x ||| BitVec.ofInt IntKind.u16.bits (256 * y)).toNat = (x + 256 * y).toNat := by
    show (BitVec.ofInt 16 x ||| BitVec.ofInt 16 (256 * y)).toNat = _
    rw [BitVec.toNat_or, BitVec.toNat_ofInt, BitVec.toNat_ofInt]
    have e2 : (x % ((2 ^ 16 : Nat) : Int)).toNat = x.toNat := by omega
    have e3 : (256 * y % ((2 ^ 16 : Nat) : Int)).toNat = 2 ^ 8 * y.toNat := by omega
    rw [e2, e3, Nat.or_comm, or_nat (by omega)]
    omega
  unfold orI
  rw [e1, wrap_u16]
  omega
theorem or_i64 {x y : Int} (hx : U16 x) (hy : U16 y) : orI .i64 x (65536 * y) = x + 65536 * y := by
  obtain ⟨hx1, hx2⟩ := hx
  obtain ⟨hy1, hy2⟩ := hy
  have e1 : (BitVec.ofInt IntKind.i64.bits x ||| BitVec.ofInt IntKind.i64.bits (65536 * y)).toNat = (x + 65536 * y).toNat := by
    show (BitVec.ofInt 64 x ||| BitVec.ofInt 64 (65536 * y)).toNat = _
    rw [BitVec.toNat_or, BitVec.toNat_ofInt, BitVec.toNat_ofInt]
    have e2 : (x % ((2 ^ 64 : Nat) : Int)).toNat = x.toNat := by omega
    have e3 : (65536 * y % ((2 ^ 64 : Nat) : Int)).toNat = 2 ^ 16 * y.toNat := by omega
    rw [e2, e3, Nat.or_comm, or_nat (by omega)]
    omega
  unfold orI
  rw [e1, wrap_i64 ⟨by omega, by omega⟩]
  omega
/-- The word of the first two bytes. -/
def get16 (l : List UInt8) : Int := match l with
  | [] => 0
  | [a] => (a.toNat : Int)
  | a :: b :: _ => (a.toNat : Int) + 256 * (b.toNat : Int)
theorem u16_get (l : List UInt8) : U16 (get16 l) := by
  match l with
  | [] => exact ⟨by simp [get16], by simp [get16]⟩
  | [a] => have := a.toNat_lt; exact ⟨by simp only [get16]; omega, by simp only [get16]; omega⟩
  | a :: b :: _ => have := a.toNat_lt; have := b.toNat_lt; exact ⟨by simp only [get16]; omega, by simp only [get16]; omega⟩
def get32 (l : List UInt8) : Int := get16 l + 65536 * get16 (l.drop 2)
theorem get32_nn (l : List UInt8) : 0 ≤ get32 l ∧ get32 l ≤ 4294967295 := by
  have h1 := u16_get l
  have h2 := u16_get (l.drop 2)
  unfold get32
  obtain ⟨_, _⟩ := h1
  obtain ⟨_, _⟩ := h2
  exact ⟨by omega, by omega⟩
theorem byte_get (s : ByteArray) (k : Nat) : s[k]? = s.data.toList[k]? := by
  rw [Array.getElem?_toList]
  by_cases h : k < s.size
  · have h2 : k < s.data.size := h
    rw [getElem?_pos s k h, Array.getElem?_eq_getElem h2]; rfl
  · have h2 : ¬ k < s.data.size := h
    rw [getElem?_neg s k h, Array.getElem?_eq_none (by omega)]
theorem drop_cons {α : Type} {l : List α} {i : Nat} {a : α} (h : l[i]? = some a) : l.drop i = a :: l.drop (i + 1) := by
  obtain ⟨hlt, rfl⟩ := List.getElem?_eq_some_iff.1 h
  exact List.drop_eq_getElem_cons hlt
theorem ext_list (s : ByteArray) (a b : Nat) : (s.extract a b).data.toList = (s.data.toList.take b).drop a := by
  rw [ByteArray.data_extract, Array.toList_extract, List.extract_eq_drop_take']
theorem ext_size (s : ByteArray) (a b : Nat) (h : b ≤ s.size) : (s.extract a b).size = b - a := by
  rw [ByteArray.size_extract]; omega
theorem wrap16_byte (b : UInt8) : IntKind.u16.wrap (b.toNat : Int) = (b.toNat : Int) := by
  rw [wrap_u16]; have := b.toNat_lt; omega
theorem shl8_byte (b : UInt8) : IntKind.u16.wrap ((b.toNat : Int) * 2 ^ (min (8 : Int).toNat IntKind.u16.bits)) = 256 * (b.toNat : Int) := by
  rw [show (2 : Int) ^ (min (8 : Int).toNat IntKind.u16.bits) = 256 from rfl, wrap_u16]; have := b.toNat_lt; omega
theorem mul8_byte (b : UInt8) : IntKind.u16.wrap (256 * (b.toNat : Int)) = 256 * (b.toNat : Int) := by
  rw [wrap_u16]; have := b.toNat_lt; omega
theorem shr8 {n : Int} (h : U16 n) : n.fdiv (2 ^ (min (8 : Int).toNat IntKind.u16.bits)) = n / 256 := by
  rw [show (2 : Int) ^ (min (8 : Int).toNat IntKind.u16.bits) = 256 from rfl, Int.fdiv_eq_ediv_of_nonneg _ (by omega)]
theorem quo256 {n : Int} (h : U16 n) : IntKind.u16.wrap (n.tdiv 256) = n / 256 := by
  obtain ⟨h1, h2⟩ := h
  rw [Int.tdiv_eq_ediv_of_nonneg h1, wrap_u16]; omega
theorem get_step {l : List UInt8} {k : Nat} {b : UInt8} (hk : k < 2) (hx : l[k]? = some b) : orI .u16 (get16 (l.take k)) (IntKind.u16.wrap ((b.toNat : Int) * 2 ^ (min (8 * (k : Int)).toNat IntKind.u16.bits))) = get16 (l.take (k + 1)) := by
  have hb := b.toNat_lt
  obtain rfl | rfl : k = 0 ∨ k = 1 := by omega
  · cases l with
    | nil => simp at hx
    | cons a r =>
      simp at hx
      subst hx
      have h1 := or_u16 (x := (a.toNat : Int)) (y := 0) ⟨by omega, by omega⟩ ⟨by omega, by omega⟩
      have h2 : orI .u16 0 (a.toNat : Int) = orI .u16 (a.toNat : Int) (256 * 0) := by unfold orI; rw [BitVec.or_comm]; rfl
      simp only [List.take_zero, List.take_succ_cons, get16]
      rw [show (2 : Int) ^ (min (8 * ((0 : Nat) : Int)).toNat IntKind.u16.bits) = 1 from rfl, Int.mul_one, wrap16_byte, h2, h1]
      omega
  · match l, hx with
    | a :: c :: r, hx =>
      simp at hx
      subst hx
      have ha := a.toNat_lt
      simp only [List.take_succ_cons, List.take_zero, get16]
      rw [show (2 : Int) ^ (min (8 * ((1 : Nat) : Int)).toNat IntKind.u16.bits) = 256 from rfl, Int.mul_comm, mul8_byte]
      exact or_u16 ⟨by omega, by omega⟩ ⟨by omega, by omega⟩
theorem get16_take : ∀ (l : List UInt8), get16 (l.take 2) = get16 l
  | [] => rfl
  | [_] => rfl
  | _ :: _ :: _ => rfl
theorem get16_min {l : List UInt8} {k : Nat} (h : k = min l.length 2) : get16 (l.take k) = get16 l := by
  rw [h, ← get16_take l]
  by_cases h2 : l.length ≤ 2
  · rw [show min l.length 2 = l.length by omega, List.take_of_length_le (Nat.le_refl _), List.take_of_length_le h2]
  · rw [show min l.length 2 = 2 by omega]
theorem take_succ {α : Type} {l : List α} {k : Nat} {b : α} (h : l[k]? = some b) : l.take (k + 1) = l.take k ++ [b] := by
  rw [List.take_add_one, h]; rfl
theorem crc_step {l : List UInt8} {k : Nat} {b : UInt8} (h : l[k]? = some b) : (l.take (k + 1)).foldl crcByte 65535 = Nat.repeat crcBit 8 (xorI .u16 ((l.take k).foldl crcByte 65535) (256 * (b.toNat : Int))) := by
  rw [take_succ h, List.foldl_append]; rfl
theorem crc_acc (l : List UInt8) : U16 (l.foldl crcByte 65535) := u16_crc l _ ⟨by decide, by decide⟩
theorem crcBit_hi {r : Int} (h : 32768 ≤ r) : crcBit r = xorI .u16 (IntKind.u16.wrap (r * 2)) 4129 := by unfold crcBit; rw [if_pos h]
theorem crcBit_lo {r : Int} (h : ¬ 32768 ≤ r) : crcBit r = IntKind.u16.wrap (r * 2) := by unfold crcBit; rw [if_neg h]
theorem shl16 {y : Int} (h : U16 y) : IntKind.i64.wrap (y * 2 ^ (min (16 : Int).toNat IntKind.i64.bits)) = 65536 * y := by
  obtain ⟨_, _⟩ := h
  rw [show (2 : Int) ^ (min (16 : Int).toNat IntKind.i64.bits) = 65536 from rfl, wrap_i64 ⟨by omega, by omega⟩]; omega
theorem shl1 (r : Int) : IntKind.u16.wrap (r * 2 ^ (min (1 : Int).toNat IntKind.u16.bits)) = IntKind.u16.wrap (r * 2) := rfl
theorem put16_size (n : Int) : (put16 n).size = 2 := rfl
theorem num4_size (n : Int) : (num4 n).size = 4 := by unfold num4; rw [ByteArray.size_append, put16_size, put16_size]
/-- A record. -/
def recS (kind : ByteArray) (n : Int) (payload : ByteArray) : ByteArray :=
  let s := kind ++ num4 n ++ num4 payload.size ++ payload
  s ++ put16 (crc s.data.toList)
theorem shr16 {n : Int} (h : 0 ≤ n) : n.fdiv (2 ^ (min (16 : Int).toNat IntKind.i64.bits)) = n / 65536 := by
  rw [show (2 : Int) ^ (min (16 : Int).toNat IntKind.i64.bits) = 65536 from rfl, Int.fdiv_eq_ediv_of_nonneg _ (by omega)]
theorem quo65536 {n : Int} (h : 0 ≤ n ∧ n ≤ 1000000000000) : IntKind.i64.wrap (n.tdiv 65536) = n / 65536 := by
  rw [Int.tdiv_eq_ediv_of_nonneg h.1, wrap_i64 ⟨by omega, by omega⟩]
end Go.Proofs.YteeamfkhkbfilaaGreat.K

namespace Go.Proofs.YteeamfkhkbfilaaGreat.K
open Go Go.RowKit Go.Proofs

theorem word_Put {n : Int} (h : U16 n) {w0 : World} {H : Hp} {own : List Seg} :
    Fn Tryz.prog 50 [.int .u16 n] w0 H own (fun r own' H' => r = .string (put16 n) ∧ own' = own ∧ Le H H') := by
  refine Fn.enter Tryz.func50 rfl Tryz.ntmps50 rfl ?_; have hL := Le.refl H; refine TC.seq ?_; refine TC.region ?_; refine TL.assign rfl rfl ?_; refine TL.nsr ?_; refine TL.move rfl rfl ?_; refine TL.convI rfl rfl ?_; refine TL.move rfl rfl ?_; refine TL.shr rfl rfl (by omega) rfl ?_
  rw [shr8 h]
  refine TL.convI rfl rfl ?_
  refine TL.litF (r := [_, _]) [(0, [_]), (1, [_])] ⟨rfl, ⟨_, rfl, rfl⟩, rfl, ⟨_, rfl, rfl⟩, trivial⟩ rfl rfl rfl rfl ?_; intro g8; refine TL.convBS 0 0 [b8 n, b8 (n / 256)] rfl rfl rfl rfl ⟨congrArg some (b8_val _).symm, congrArg some (b8_val _).symm, trivial⟩ rfl ?_; refine TL.assign rfl rfl ?_; refine TL.nil ?_; refine TQ.then_n ?_; refine TC.ret ?_; refine TQ.ret1 1 rfl rfl ?_
  exact ⟨rfl, rfl, hL⟩
theorem ref_Put {n : Int} (h : U16 n) {w0 : World} {H : Hp} {own : List Seg} :
    Fn Tryz.prog 44 [.int .u16 n] w0 H own (fun r own' H' => r = .string (put16 n) ∧ own' = own ∧ Le H H') := by
  refine Fn.enter Tryz.func44 rfl Tryz.ntmps44 rfl ?_; have hL := Le.refl H; refine TC.seq ?_; refine TC.region ?_; refine TL.assign rfl rfl ?_; refine TL.nsr ?_; refine TL.move rfl rfl ?_; refine TL.convI rfl rfl ?_; refine TL.move rfl rfl ?_; refine TL.quo rfl rfl rfl (by omega) ?_
  rw [quo256 h]
  refine TL.convI rfl rfl ?_
  refine TL.litF (r := [_, _]) [(0, [_]), (1, [_])] ⟨rfl, ⟨_, rfl, rfl⟩, rfl, ⟨_, rfl, rfl⟩, trivial⟩ rfl rfl rfl rfl ?_; intro g8; refine TL.convBS 0 0 [b8 n, b8 (n / 256)] rfl rfl rfl rfl ⟨congrArg some (b8_val _).symm, congrArg some (b8_val _).symm, trivial⟩ rfl ?_; refine TL.assign rfl rfl ?_; refine TL.nil ?_; refine TQ.then_n ?_; refine TC.ret ?_; refine TQ.ret1 1 rfl rfl ?_
  exact ⟨rfl, rfl, hL⟩
theorem word_Get {s : ByteArray} {w0 : World} {H : Hp} {own : List Seg} :
    Fn Tryz.prog 79 [.string s] w0 H own (fun r own' H' => r = .int .u16 (get16 s.data.toList) ∧ own' = own ∧ Le H H') := by
  have hsz : s.data.toList.length = s.size := rfl
  obtain ⟨m, hm⟩ : ∃ m, m = min s.size 2 := ⟨_, rfl⟩
  have hmm : min ((s.size : Nat) : Int) 2 = (m : Int) := by omega
  refine Fn.enter Tryz.func79 rfl Tryz.ntmps79 rfl ?_; have hL := Le.refl H; refine TC.seq ?_; refine TC.region ?_; refine TL.assign rfl rfl ?_; refine TL.nsr ?_; refine TL.assign rfl rfl ?_; refine TL.nil ?_; refine TQ.then_n ?_; refine TC.seq ?_; refine TC.seq ?_; refine TC.region ?_; refine TL.move rfl rfl ?_; refine TL.move rfl rfl ?_; refine TL.len_string rfl rfl ?_; refine TL.min2 rfl rfl rfl ?_
  rw [hmm]
  refine TL.sliceS (li := none) (ri := some (m : Int)) 0 m rfl rfl ⟨_, _, rfl, rfl⟩ rfl rfl (by omega) (by omega) rfl ?_
  refine TL.convSB rfl rfl ?_; intro g11 cap11 cur11 fz11 hc11; refine TL.len_slice rfl rfl ?_
  rw [show (((s.extract 0 m).size : Nat) : Int) = (m : Int) by rw [ext_size _ _ _ (by omega)]; omega]
  refine TL.move rfl rfl ?_; refine TL.nil ?_; refine TQ.then_n ?_; refine TC.block ?_; refine TC.loop (fun n env' own' H' => ∃ k, n = m - k ∧ k ≤ m ∧ env' = [(3, .int .u16 (get16 (s.data.toList.take k))), (11, .slice (some ⟨g11, 0, none⟩) (s.extract 0 m).size cap11), (12, .int .i64 (m : Int)), (13, .int .i64 (k : Int))] ∧ own' = [(g11, .cells cur11 5 fz11)] :: own ∧ Le H H') m [(3, _), (11, _), (12, _), (13, _)] ⟨rfl, rfl, rfl, rfl, trivial⟩ ⟨0, by omega, by omega, rfl, rfl, Le.refl _⟩ ?_
  rintro n _ _ H1 ⟨k, rfl, hk1, rfl, rfl, hle0⟩
  have hL := Le.trans hL hle0; refine TC.seq ?_; refine TC.region ?_
  refine TL.lssB rfl rfl rfl (fun hlt => ?_) (fun hlt => ?_)
  ·
   obtain ⟨b, hb⟩ : ∃ b, s.data.toList[k]? = some b := ⟨_, List.getElem?_eq_getElem (by omega)⟩
   have hb2 : (s.extract 0 m).data.toList[k]? = some b := by rw [ext_list, List.drop_zero, List.getElem?_take, if_pos (by omega), hb]
   have hes : (s.extract 0 m).size = m := by rw [ext_size _ _ _ (by omega)]; omega
   refine TL.nil ?_; refine TQ.then_n ?_; refine TC.seq ?_; refine TC.cond_t rfl ?_; refine TC.skip ?_; refine TQ.then_n ?_; refine TC.seq ?_; refine TC.block ?_; refine TC.seq ?_; refine TC.region ?_; refine TL.move rfl rfl ?_; refine TL.indexAddr (k) rfl rfl rfl (by omega) rfl ?_; refine TL.load_own 0 0 rfl rfl rfl (hc11 k b hb2) rfl ?_; refine TL.assign rfl rfl ?_; refine TL.assign rfl rfl ?_; refine TL.nil ?_; refine TQ.then_n ?_; refine TC.region ?_; refine TL.move rfl rfl ?_; refine TL.move rfl rfl ?_; refine TL.convI rfl rfl ?_
   rw [wrap16_byte]
   refine TL.move rfl rfl ?_; refine TL.mul rfl rfl rfl ⟨by omega, by omega⟩ ?_; refine TL.shl rfl rfl (by omega) rfl ?_; refine TL.orW rfl rfl rfl ?_; refine TL.assign rfl rfl ?_; refine TL.nil ?_; refine TQ.in_n ?_; refine TQ.then_n ?_; refine TC.region ?_; refine TL.add rfl rfl rfl ⟨by omega, by omega⟩ ?_; refine TL.move rfl rfl ?_; refine TL.nil ?_; refine TQ.toOwn (own' := _ :: own) rfl ?_
   refine TQ.next (m - (k + 1)) [(3, _), (11, _), (12, _), (13, _)] (by omega) ⟨rfl, rfl, rfl, rfl, trivial⟩ ⟨k + 1, rfl, by omega, by rw [← get_step (by omega) hb]; rfl, rfl, hle0⟩
  ·
   refine TL.nil ?_; refine TQ.then_n ?_; refine TC.seq ?_; refine TC.cond_f rfl ?_; refine TC.exit ?_; refine TQ.then_e ?_; refine TQ.then_e ?_; refine TQ.in_e ?_; refine TQ.nsr ?_; refine TL.move rfl rfl ?_; refine TL.assign rfl rfl ?_; refine TL.nil ?_; refine TQ.then_n ?_; refine TC.ret ?_; refine TQ.ret1 1 rfl rfl ?_
   refine ⟨?_, rfl, hL⟩
   rw [get16_min (by omega)]
theorem ref_Get {s : ByteArray} {w0 : World} {H : Hp} {own : List Seg} :
    Fn Tryz.prog 89 [.string s] w0 H own (fun r own' H' => r = .int .u16 (get16 s.data.toList) ∧ own' = own ∧ Le H H') := by
  have hsz : s.data.toList.length = s.size := rfl
  refine Fn.enter Tryz.func89 rfl Tryz.ntmps89 rfl ?_; have hL := Le.refl H; refine TC.seq ?_; refine TC.region ?_; refine TL.assign rfl rfl ?_; refine TL.nsr ?_; refine TL.assign rfl rfl ?_; refine TL.nil ?_; refine TQ.then_n ?_; refine TC.seq ?_; refine TC.seq ?_; refine TC.region ?_; refine TL.move rfl rfl ?_; refine TL.len_string rfl rfl ?_
  refine TL.gtrB rfl rfl rfl (fun h1 => ?_) (fun h1 => ?_)
  ·
   obtain ⟨x, y, r, hl⟩ : ∃ x y r, s.data.toList = x :: y :: r := by
     match hs : s.data.toList with
     | [] => rw [hs] at hsz; simp at hsz; omega
     | [_] => rw [hs] at hsz; simp at hsz; omega
     | x :: y :: r => exact ⟨x, y, r, rfl⟩
   refine TL.nil ?_; refine TQ.then_n ?_; refine TC.cond_t rfl ?_; refine TC.region ?_; refine TL.move rfl rfl ?_; refine TL.indexS 1 rfl rfl rfl (by rw [byte_get]; exact (by rw [hl]; rfl)) rfl ?_
   refine TL.convI rfl rfl ?_
   rw [wrap16_byte]
   refine TL.mulW rfl rfl rfl ?_
   rw [mul8_byte]
   refine TL.assign rfl rfl ?_; refine TL.nil ?_; refine TQ.then_n ?_; refine TC.seq ?_; refine TC.seq ?_; refine TC.region ?_; refine TL.move rfl rfl ?_; refine TL.len_string rfl rfl ?_
   refine TL.gtrB rfl rfl rfl (fun h0 => ?_) (fun h0 => ?_)
   ·
    have hlt : 0 < s.data.toList.length := by omega
    obtain ⟨x0, hx0⟩ : ∃ x0, s.data.toList[0]? = some x0 := ⟨_, List.getElem?_eq_getElem hlt⟩
    refine TL.nil ?_; refine TQ.then_n ?_; refine TC.cond_t rfl ?_; refine TC.region ?_; refine TL.move rfl rfl ?_; refine TL.move rfl rfl ?_; refine TL.indexS 0 rfl rfl rfl (by rw [byte_get]; exact hx0) rfl ?_
    refine TL.convI rfl rfl ?_
    rw [wrap16_byte]
    refine TL.addW rfl rfl rfl ?_; refine TL.assign rfl rfl ?_; refine TL.nsr ?_; refine TL.move rfl rfl ?_; refine TL.assign rfl rfl ?_; refine TL.nil ?_; refine TQ.then_n ?_; refine TC.ret ?_; refine TQ.ret1 0 rfl rfl ?_
    refine ⟨congrArg (Value.int .u16) ?_, rfl, hL⟩
    first
      | (rw [hl] at hx0 ⊢; simp at hx0; subst hx0; simp only [get16]; rw [wrap_u16]; have := x.toNat_lt; have := y.toNat_lt; omega)
      | (exfalso; rw [hl] at hsz; simp at hsz; omega)
      | (match hs : s.data.toList with
         | [] => rw [hs] at hsz; simp at hsz; omega
         | [a] => rw [hs] at hx0; simp at hx0; subst hx0; simp only [get16]; rw [wrap_u16]; have := a.toNat_lt; omega
         | a :: b :: r => rw [hs] at hsz; simp at hsz; omega)
      | (match hs : s.data.toList with
         | [] => rfl
         | a :: r => rw [hs] at hsz; simp at hsz; omega)
   ·
    refine TL.nil ?_; refine TQ.then_n ?_; refine TC.cond_f rfl ?_; refine TC.skip ?_; refine TQ.nsr ?_; refine TL.move rfl rfl ?_; refine TL.assign rfl rfl ?_; refine TL.nil ?_; refine TQ.then_n ?_; refine TC.ret ?_; refine TQ.ret1 0 rfl rfl ?_
    refine ⟨congrArg (Value.int .u16) ?_, rfl, hL⟩
    first
      | (rw [hl] at hx0 ⊢; simp at hx0; subst hx0; simp only [get16]; rw [wrap_u16]; have := x.toNat_lt; have := y.toNat_lt; omega)
      | (exfalso; rw [hl] at hsz; simp at hsz; omega)
      | (match hs : s.data.toList with
         | [] => rw [hs] at hsz; simp at hsz; omega
         | [a] => rw [hs] at hx0; simp at hx0; subst hx0; simp only [get16]; rw [wrap_u16]; have := a.toNat_lt; omega
         | a :: b :: r => rw [hs] at hsz; simp at hsz; omega)
      | (match hs : s.data.toList with
         | [] => rfl
         | a :: r => rw [hs] at hsz; simp at hsz; omega)
  ·
   refine TL.nil ?_; refine TQ.then_n ?_; refine TC.cond_f rfl ?_; refine TC.skip ?_; refine TQ.then_n ?_; refine TC.seq ?_; refine TC.seq ?_; refine TC.region ?_; refine TL.move rfl rfl ?_; refine TL.len_string rfl rfl ?_
   refine TL.gtrB rfl rfl rfl (fun h0 => ?_) (fun h0 => ?_)
   ·
    have hlt : 0 < s.data.toList.length := by omega
    obtain ⟨x0, hx0⟩ : ∃ x0, s.data.toList[0]? = some x0 := ⟨_, List.getElem?_eq_getElem hlt⟩
    refine TL.nil ?_; refine TQ.then_n ?_; refine TC.cond_t rfl ?_; refine TC.region ?_; refine TL.move rfl rfl ?_; refine TL.move rfl rfl ?_; refine TL.indexS 0 rfl rfl rfl (by rw [byte_get]; exact hx0) rfl ?_
    refine TL.convI rfl rfl ?_
    rw [wrap16_byte]
    refine TL.addW rfl rfl rfl ?_; refine TL.assign rfl rfl ?_; refine TL.nsr ?_; refine TL.move rfl rfl ?_; refine TL.assign rfl rfl ?_; refine TL.nil ?_; refine TQ.then_n ?_; refine TC.ret ?_; refine TQ.ret1 0 rfl rfl ?_
    refine ⟨congrArg (Value.int .u16) ?_, rfl, hL⟩
    first
      | (rw [hl] at hx0 ⊢; simp at hx0; subst hx0; simp only [get16]; rw [wrap_u16]; have := x.toNat_lt; have := y.toNat_lt; omega)
      | (exfalso; rw [hl] at hsz; simp at hsz; omega)
      | (match hs : s.data.toList with
         | [] => rw [hs] at hsz; simp at hsz; omega
         | [a] => rw [hs] at hx0; simp at hx0; subst hx0; simp only [get16]; rw [wrap_u16]; have := a.toNat_lt; omega
         | a :: b :: r => rw [hs] at hsz; simp at hsz; omega)
      | (match hs : s.data.toList with
         | [] => rfl
         | a :: r => rw [hs] at hsz; simp at hsz; omega)
   ·
    refine TL.nil ?_; refine TQ.then_n ?_; refine TC.cond_f rfl ?_; refine TC.skip ?_; refine TQ.nsr ?_; refine TL.move rfl rfl ?_; refine TL.assign rfl rfl ?_; refine TL.nil ?_; refine TQ.then_n ?_; refine TC.ret ?_; refine TQ.ret1 0 rfl rfl ?_
    refine ⟨congrArg (Value.int .u16) ?_, rfl, hL⟩
    first
      | (rw [hl] at hx0 ⊢; simp at hx0; subst hx0; simp only [get16]; rw [wrap_u16]; have := x.toNat_lt; have := y.toNat_lt; omega)
      | (exfalso; rw [hl] at hsz; simp at hsz; omega)
      | (match hs : s.data.toList with
         | [] => rw [hs] at hsz; simp at hsz; omega
         | [a] => rw [hs] at hx0; simp at hx0; subst hx0; simp only [get16]; rw [wrap_u16]; have := a.toNat_lt; omega
         | a :: b :: r => rw [hs] at hsz; simp at hsz; omega)
      | (match hs : s.data.toList with
         | [] => rfl
         | a :: r => rw [hs] at hsz; simp at hsz; omega)
theorem word_Sum {s : ByteArray} (hs : s.size ≤ 1000000000) {w0 : World} {H : Hp} {own : List Seg} :
    Fn Tryz.prog 80 [.string s] w0 H own (fun r own' H' => r = .int .u16 (crc s.data.toList) ∧ own' = own ∧ Le H H') := by
  have hsz : s.data.toList.length = s.size := rfl
  refine Fn.enter Tryz.func80 rfl Tryz.ntmps80 rfl ?_; have hL := Le.refl H; refine TC.seq ?_; refine TC.region ?_; refine TL.assign rfl rfl ?_; refine TL.nsr ?_; refine TL.assign rfl rfl ?_; refine TL.nil ?_; refine TQ.then_n ?_; refine TC.seq ?_; refine TC.seq ?_; refine TC.region ?_; refine TL.move rfl rfl ?_
  refine TL.convSB rfl rfl ?_; intro g8 cap8 cur8 fz8 hc8; refine TL.len_slice rfl rfl ?_; refine TL.move rfl rfl ?_; refine TL.nil ?_; refine TQ.then_n ?_; refine TC.block ?_; refine TC.loop (fun n env' own' H' => ∃ k, n = s.size - k ∧ k ≤ s.size ∧ env' = [(3, .int .u16 ((s.data.toList.take k).foldl crcByte 65535)), (8, .slice (some ⟨g8, 0, none⟩) s.size cap8), (9, .int .i64 (s.size : Int)), (10, .int .i64 (k : Int))] ∧ own' = [(g8, .cells cur8 5 fz8)] :: own ∧ Le H H') s.size [(3, _), (8, _), (9, _), (10, _)] ⟨rfl, rfl, rfl, rfl, trivial⟩ ⟨0, by omega, by omega, rfl, rfl, Le.refl _⟩ ?_
  rintro n _ _ H1 ⟨k, rfl, hk1, rfl, rfl, hle0⟩
  have hL := Le.trans hL hle0; refine TC.seq ?_; refine TC.region ?_
  refine TL.lssB rfl rfl rfl (fun hlt => ?_) (fun hlt => ?_)
  ·
   obtain ⟨b, hb⟩ : ∃ b, s.data.toList[k]? = some b := ⟨_, List.getElem?_eq_getElem (by omega)⟩
   refine TL.nil ?_; refine TQ.then_n ?_; refine TC.seq ?_; refine TC.cond_t rfl ?_; refine TC.skip ?_; refine TQ.then_n ?_; refine TC.seq ?_; refine TC.block ?_; refine TC.seq ?_; refine TC.region ?_; refine TL.indexAddr (k) rfl rfl rfl (by omega) rfl ?_; refine TL.load_own 0 0 rfl rfl rfl (hc8 k b hb) rfl ?_; refine TL.assign rfl rfl ?_; refine TL.nsr ?_; refine TL.move rfl rfl ?_; refine TL.move rfl rfl ?_; refine TL.convI rfl rfl ?_
   rw [wrap16_byte]
   refine TL.shl rfl rfl (by omega) rfl ?_
   rw [shl8_byte]
   refine TL.xorW rfl rfl rfl ?_; refine TL.assign rfl rfl ?_; refine TL.nsr ?_; refine TL.move rfl rfl ?_; refine TL.nil ?_; refine TQ.then_n ?_; refine TC.block ?_; refine TC.loop (fun n env' own' H' => ∃ j, n = 8 - j ∧ j ≤ 8 ∧ env' = [(3, .int .u16 (Nat.repeat crcBit j (xorI .u16 ((s.data.toList.take k).foldl crcByte 65535) (256 * (b.toNat : Int))))), (8, .slice (some ⟨g8, 0, none⟩) s.size cap8), (9, .int .i64 (s.size : Int)), (10, .int .i64 (k : Int)), (19, .int .i64 (j : Int))] ∧ own' = [(g8, .cells cur8 5 fz8)] :: own ∧ Le H1 H') 8 [(3, _), (8, _), (9, _), (10, _), (19, _)] ⟨rfl, rfl, rfl, rfl, rfl, trivial⟩ ⟨0, by omega, by omega, rfl, rfl, Le.refl _⟩ ?_
   rintro n _ _ H2 ⟨j, rfl, hj1, rfl, rfl, hle1⟩
   obtain ⟨r, hr⟩ : ∃ r, r = Nat.repeat crcBit j (xorI .u16 ((s.data.toList.take k).foldl crcByte 65535) (256 * (b.toNat : Int))) := ⟨_, rfl⟩
   have hu : U16 r := hr ▸ u16_bits _ (u16_xor _ _) j
   rw [← hr]
   have hL := Le.trans hL hle1; have hle0 := Le.trans hle0 hle1; refine TC.seq ?_; refine TC.region ?_
   refine TL.lssB rfl rfl rfl (fun hlt2 => ?_) (fun hlt2 => ?_)
   ·
    refine TL.nil ?_; refine TQ.then_n ?_; refine TC.seq ?_; refine TC.cond_t rfl ?_; refine TC.skip ?_; refine TQ.then_n ?_; refine TC.seq ?_; refine TC.block ?_; refine TC.seq ?_; refine TC.region ?_; refine TL.move rfl rfl ?_; refine TL.andW rfl rfl rfl ?_; refine TL.assign rfl rfl ?_; refine TL.nsr ?_; refine TL.move rfl rfl ?_; refine TL.shl rfl rfl (by omega) rfl ?_
    rw [shl1]
    refine TL.assign rfl rfl ?_; refine TL.nsr ?_; refine TL.move rfl rfl ?_
    refine TL.neqB rfl rfl rfl (fun hb0 => ?_) (fun hb0 => ?_)
    ·
     have hb1 : 32768 ≤ r := by rw [← and_high hu]; exact hb0
     refine TL.nil ?_; refine TQ.then_n ?_; refine TC.cond_t rfl ?_; refine TC.region ?_; refine TL.move rfl rfl ?_; refine TL.xorW rfl rfl rfl ?_; refine TL.assign rfl rfl ?_; refine TL.nil ?_; refine TQ.in_n ?_; refine TQ.then_n ?_; refine TC.region ?_; refine TL.add rfl rfl rfl ⟨by omega, by omega⟩ ?_; refine TL.move rfl rfl ?_; refine TL.nil ?_; refine TQ.toOwn (own' := _ :: own) rfl ?_
     refine TQ.next (8 - (j + 1)) [(3, _), (8, _), (9, _), (10, _), (19, _)] (by omega) ⟨rfl, rfl, rfl, rfl, rfl, trivial⟩ ⟨j + 1, rfl, by omega, ?_, rfl, hle1⟩
     rw [show Nat.repeat crcBit (j + 1) (xorI .u16 ((s.data.toList.take k).foldl crcByte 65535) (256 * (b.toNat : Int))) = crcBit r by rw [hr]; rfl]
     first
       | (rw [crcBit_hi hb1]; rfl)
       | (rw [crcBit_lo (by omega)]; rfl)
    ·
     have hb1 : ¬ 32768 ≤ r := by rw [← and_high hu]; exact fun h => h hb0
     refine TL.nil ?_; refine TQ.then_n ?_; refine TC.cond_f rfl ?_; refine TC.skip ?_; refine TQ.in_n ?_; refine TQ.then_n ?_; refine TC.region ?_; refine TL.add rfl rfl rfl ⟨by omega, by omega⟩ ?_; refine TL.move rfl rfl ?_; refine TL.nil ?_; refine TQ.toOwn (own' := _ :: own) rfl ?_
     refine TQ.next (8 - (j + 1)) [(3, _), (8, _), (9, _), (10, _), (19, _)] (by omega) ⟨rfl, rfl, rfl, rfl, rfl, trivial⟩ ⟨j + 1, rfl, by omega, ?_, rfl, hle1⟩
     rw [show Nat.repeat crcBit (j + 1) (xorI .u16 ((s.data.toList.take k).foldl crcByte 65535) (256 * (b.toNat : Int))) = crcBit r by rw [hr]; rfl]
     first
       | (rw [crcBit_hi hb1]; rfl)
       | (rw [crcBit_lo (by omega)]; rfl)
   ·
    refine TL.nil ?_; refine TQ.then_n ?_; refine TC.seq ?_; refine TC.cond_f rfl ?_; refine TC.exit ?_; refine TQ.then_e ?_; refine TQ.then_e ?_; refine TQ.in_e ?_; refine TQ.in_n ?_; refine TQ.then_n ?_; refine TC.region ?_; refine TL.add rfl rfl rfl ⟨by omega, by omega⟩ ?_; refine TL.move rfl rfl ?_; refine TL.nil ?_; refine TQ.toOwn (own' := _ :: own) rfl ?_
    have hj8 : j = 8 := by omega
    subst hj8
    refine TQ.next (s.size - (k + 1)) [(3, _), (8, _), (9, _), (10, _)] (by omega) ⟨rfl, rfl, rfl, rfl, trivial⟩ ⟨k + 1, rfl, by omega, by rw [crc_step hb, ← hr]; rfl, rfl, hle0⟩
  ·
   refine TL.nil ?_; refine TQ.then_n ?_; refine TC.seq ?_; refine TC.cond_f rfl ?_; refine TC.exit ?_; refine TQ.then_e ?_; refine TQ.then_e ?_; refine TQ.in_e ?_; refine TQ.nsr ?_; refine TL.move rfl rfl ?_; refine TL.assign rfl rfl ?_; refine TL.nil ?_; refine TQ.then_n ?_; refine TC.ret ?_; refine TQ.ret1 1 rfl rfl ?_
   have hk : k = s.size := by omega
   refine ⟨congrArg (Value.int .u16) ?_, rfl, hL⟩
   unfold crc
   rw [List.take_of_length_le (by omega)]
theorem ref_Sum {s : ByteArray} (hs : s.size ≤ 1000000000) {w0 : World} {H : Hp} {own : List Seg} :
    Fn Tryz.prog 45 [.string s] w0 H own (fun r own' H' => r = .int .u16 (crc s.data.toList) ∧ own' = own ∧ Le H H') := by
  have hsz : s.data.toList.length = s.size := rfl
  refine Fn.enter Tryz.func45 rfl Tryz.ntmps45 rfl ?_; have hL := Le.refl H; refine TC.seq ?_; refine TC.region ?_; refine TL.assign rfl rfl ?_; refine TL.nsr ?_; refine TL.assign rfl rfl ?_; refine TL.nil ?_; refine TQ.then_n ?_; refine TC.seq ?_; refine TC.seq ?_; refine TC.region ?_; refine TL.assign rfl rfl ?_; refine TL.nil ?_; refine TQ.then_n ?_; refine TC.block ?_; refine TC.loop (fun n env' own' H' => ∃ k, n = s.size - k ∧ k ≤ s.size ∧ env' = [(0, .string s), (3, .int .u16 ((s.data.toList.take k).foldl crcByte 65535)), (4, .int .i64 (k : Int))] ∧ own' = own ∧ Le H H') s.size [(0, _), (3, _), (4, _)] ⟨rfl, rfl, rfl, trivial⟩ ⟨0, by omega, by omega, rfl, rfl, Le.refl _⟩ ?_
  rintro n _ own H1 ⟨k, rfl, hk1, rfl, rfl, hle0⟩
  have hL := Le.trans hL hle0; refine TC.seq ?_; refine TC.seq ?_; refine TC.region ?_; refine TL.move rfl rfl ?_; refine TL.move rfl rfl ?_; refine TL.len_string rfl rfl ?_
  refine TL.lssB rfl rfl rfl (fun hlt => ?_) (fun hlt => ?_)
  ·
   obtain ⟨b, hb⟩ : ∃ b, s.data.toList[k]? = some b := ⟨_, List.getElem?_eq_getElem (by omega)⟩
   refine TL.nil ?_; refine TQ.then_n ?_; refine TC.cond_t rfl ?_; refine TC.skip ?_; refine TQ.then_n ?_; refine TC.seq ?_; refine TC.block ?_; refine TC.seq ?_; refine TC.region ?_; refine TL.move rfl rfl ?_; refine TL.move rfl rfl ?_; refine TL.move rfl rfl ?_; refine TL.indexS k rfl rfl rfl (by rw [byte_get]; exact hb) rfl ?_
   refine TL.convI rfl rfl ?_
   rw [wrap16_byte]
   refine TL.mulW rfl rfl rfl ?_
   rw [mul8_byte]
   refine TL.xorW rfl rfl rfl ?_; refine TL.assign rfl rfl ?_; refine TL.nsr ?_; refine TL.assign rfl rfl ?_; refine TL.nil ?_; refine TQ.then_n ?_; refine TC.block ?_; refine TC.loop (fun n env' own' H' => ∃ j, n = 8 - j ∧ j ≤ 8 ∧ env' = [(0, .string s), (3, .int .u16 (Nat.repeat crcBit j (xorI .u16 ((s.data.toList.take k).foldl crcByte 65535) (256 * (b.toNat : Int))))), (4, .int .i64 (k : Int)), (5, .int .i64 (j : Int))] ∧ own' = own ∧ Le H1 H') 8 [(0, _), (3, _), (4, _), (5, _)] ⟨rfl, rfl, rfl, rfl, trivial⟩ ⟨0, by omega, by omega, rfl, rfl, Le.refl _⟩ ?_
   rintro n _ own H2 ⟨j, rfl, hj1, rfl, rfl, hle1⟩
   obtain ⟨r, hr⟩ : ∃ r, r = Nat.repeat crcBit j (xorI .u16 ((s.data.toList.take k).foldl crcByte 65535) (256 * (b.toNat : Int))) := ⟨_, rfl⟩
   have hu : U16 r := hr ▸ u16_bits _ (u16_xor _ _) j
   rw [← hr]
   have hL := Le.trans hL hle1; have hle0 := Le.trans hle0 hle1; refine TC.seq ?_; refine TC.seq ?_; refine TC.region ?_; refine TL.move rfl rfl ?_
   refine TL.lssB rfl rfl rfl (fun hlt2 => ?_) (fun hlt2 => ?_)
   ·
    refine TL.nil ?_; refine TQ.then_n ?_; refine TC.cond_t rfl ?_; refine TC.skip ?_; refine TQ.then_n ?_; refine TC.seq ?_; refine TC.block ?_; refine TC.seq ?_; refine TC.region ?_; refine TL.move rfl rfl ?_
    refine TL.geqB rfl rfl rfl (fun hb1 => ?_) (fun hb1 => ?_)
    ·
     refine TL.assign rfl rfl ?_; refine TL.nsr ?_; refine TL.move rfl rfl ?_; refine TL.mulW rfl rfl rfl ?_; refine TL.assign rfl rfl ?_; refine TL.nsr ?_; refine TL.move rfl rfl ?_; refine TL.nil ?_; refine TQ.then_n ?_; refine TC.cond_t rfl ?_; refine TC.region ?_; refine TL.move rfl rfl ?_; refine TL.xorW rfl rfl rfl ?_; refine TL.assign rfl rfl ?_; refine TL.nil ?_; refine TQ.in_n ?_; refine TQ.then_n ?_; refine TC.region ?_; refine TL.move rfl rfl ?_; refine TL.add rfl rfl rfl ⟨by omega, by omega⟩ ?_; refine TL.assign rfl rfl ?_; refine TL.nil ?_; refine TQ.toOwn (own' := own) rfl ?_
     refine TQ.next (8 - (j + 1)) [(0, _), (3, _), (4, _), (5, _)] (by omega) ⟨rfl, rfl, rfl, rfl, trivial⟩ ⟨j + 1, rfl, by omega, ?_, rfl, hle1⟩
     rw [show Nat.repeat crcBit (j + 1) (xorI .u16 ((s.data.toList.take k).foldl crcByte 65535) (256 * (b.toNat : Int))) = crcBit r by rw [hr]; rfl]
     first
       | (rw [crcBit_hi hb1]; rfl)
       | (rw [crcBit_lo (by omega)]; rfl)
    ·
     refine TL.assign rfl rfl ?_; refine TL.nsr ?_; refine TL.move rfl rfl ?_; refine TL.mulW rfl rfl rfl ?_; refine TL.assign rfl rfl ?_; refine TL.nsr ?_; refine TL.move rfl rfl ?_; refine TL.nil ?_; refine TQ.then_n ?_; refine TC.cond_f rfl ?_; refine TC.skip ?_; refine TQ.in_n ?_; refine TQ.then_n ?_; refine TC.region ?_; refine TL.move rfl rfl ?_; refine TL.add rfl rfl rfl ⟨by omega, by omega⟩ ?_; refine TL.assign rfl rfl ?_; refine TL.nil ?_; refine TQ.toOwn (own' := own) rfl ?_
     refine TQ.next (8 - (j + 1)) [(0, _), (3, _), (4, _), (5, _)] (by omega) ⟨rfl, rfl, rfl, rfl, trivial⟩ ⟨j + 1, rfl, by omega, ?_, rfl, hle1⟩
     rw [show Nat.repeat crcBit (j + 1) (xorI .u16 ((s.data.toList.take k).foldl crcByte 65535) (256 * (b.toNat : Int))) = crcBit r by rw [hr]; rfl]
     first
       | (rw [crcBit_hi hb1]; rfl)
       | (rw [crcBit_lo (by omega)]; rfl)
   ·
    refine TL.nil ?_; refine TQ.then_n ?_; refine TC.cond_f rfl ?_; refine TC.exit ?_; refine TQ.then_e ?_; refine TQ.then_e ?_; refine TQ.in_e ?_; refine TQ.in_n ?_; refine TQ.then_n ?_; refine TC.region ?_; refine TL.move rfl rfl ?_; refine TL.add rfl rfl rfl ⟨by omega, by omega⟩ ?_; refine TL.assign rfl rfl ?_; refine TL.nil ?_; refine TQ.toOwn (own' := own) rfl ?_
    have hj8 : j = 8 := by omega
    subst hj8
    refine TQ.next (s.size - (k + 1)) [(0, _), (3, _), (4, _)] (by omega) ⟨rfl, rfl, rfl, trivial⟩ ⟨k + 1, rfl, by omega, by rw [crc_step hb, ← hr]; rfl, rfl, hle0⟩
  ·
   refine TL.nil ?_; refine TQ.then_n ?_; refine TC.cond_f rfl ?_; refine TC.exit ?_; refine TQ.then_e ?_; refine TQ.then_e ?_; refine TQ.in_e ?_; refine TQ.nsr ?_; refine TL.move rfl rfl ?_; refine TL.assign rfl rfl ?_; refine TL.nil ?_; refine TQ.then_n ?_; refine TC.ret ?_; refine TQ.ret1 0 rfl rfl ?_
   have hk : k = s.size := by omega
   refine ⟨congrArg (Value.int .u16) ?_, rfl, hL⟩
   unfold crc
   rw [List.take_of_length_le (by omega)]
theorem proj_number {n : Int} (h : 0 ≤ n ∧ n ≤ 1000000000000) {w0 : World} {H : Hp} {own : List Seg} :
    Fn Tryz.prog 97 [.int .i64 n] w0 H own (fun r own' H' => r = .string (num4 n) ∧ own' = own ∧ Le H H') := by
  refine Fn.enter Tryz.func97 rfl Tryz.ntmps97 rfl ?_; have hL := Le.refl H; refine TC.seq ?_; refine TC.region ?_; refine TL.assign rfl rfl ?_; refine TL.nsr ?_; refine TL.move rfl rfl ?_; refine TL.convI rfl rfl ?_
  rw [wrap_u16]
  refine TL.call (word_Put ⟨by omega, by omega⟩) ⟨rfl, trivial⟩ rfl ?_
  rintro _ own H5 ⟨rfl, rfl, hle5⟩
  have hL := Le.trans hL hle5; refine TL.move rfl rfl ?_; refine TL.shr rfl rfl (by omega) rfl ?_
  rw [shr16 h.1]
  refine TL.convI rfl rfl ?_
  rw [wrap_u16]
  refine TL.call (word_Put ⟨by omega, by omega⟩) ⟨rfl, trivial⟩ rfl ?_
  rintro _ own H9 ⟨rfl, rfl, hle9⟩
  have hL := Le.trans hL hle9; refine TL.addS rfl rfl rfl (by rw [put16_size, put16_size]; omega) ?_
  refine TL.assign rfl rfl ?_; refine TL.nil ?_; refine TQ.then_n ?_; refine TC.ret ?_; refine TQ.ret1 0 rfl rfl ?_
  exact ⟨rfl, rfl, hL⟩
theorem ref_word4 {n : Int} (h : 0 ≤ n ∧ n ≤ 1000000000000) {w0 : World} {H : Hp} {own : List Seg} :
    Fn Tryz.prog 93 [.int .i64 n] w0 H own (fun r own' H' => r = .string (num4 n) ∧ own' = own ∧ Le H H') := by
  refine Fn.enter Tryz.func93 rfl Tryz.ntmps93 rfl ?_; have hL := Le.refl H; refine TC.seq ?_; refine TC.region ?_; refine TL.assign rfl rfl ?_; refine TL.nsr ?_; refine TL.move rfl rfl ?_; refine TL.convI rfl rfl ?_
  rw [wrap_u16]
  refine TL.call (ref_Put ⟨by omega, by omega⟩) ⟨rfl, trivial⟩ rfl ?_
  rintro _ own H5 ⟨rfl, rfl, hle5⟩
  have hL := Le.trans hL hle5; refine TL.move rfl rfl ?_; refine TL.quo rfl rfl rfl (by omega) ?_
  rw [quo65536 h]
  refine TL.convI rfl rfl ?_
  rw [wrap_u16]
  refine TL.call (ref_Put ⟨by omega, by omega⟩) ⟨rfl, trivial⟩ rfl ?_
  rintro _ own H9 ⟨rfl, rfl, hle9⟩
  have hL := Le.trans hL hle9; refine TL.addS rfl rfl rfl (by rw [put16_size, put16_size]; omega) ?_
  refine TL.assign rfl rfl ?_; refine TL.nil ?_; refine TQ.then_n ?_; refine TC.ret ?_; refine TQ.ret1 0 rfl rfl ?_
  exact ⟨rfl, rfl, hL⟩
theorem proj_long {s : ByteArray} (hs : 2 ≤ s.size) {w0 : World} {H : Hp} {own : List Seg} :
    Fn Tryz.prog 78 [.string s] w0 H own (fun r own' H' => r = .int .i64 (get32 s.data.toList) ∧ own' = own ∧ Le H H') := by
  have hd : (s.extract 2 s.size).data.toList = s.data.toList.drop 2 := by rw [ext_list, List.take_of_length_le (show s.data.toList.length ≤ s.size from Nat.le_refl _)]
  have hu1 := u16_get s.data.toList
  have hu2 := u16_get (s.data.toList.drop 2)
  refine Fn.enter Tryz.func78 rfl Tryz.ntmps78 rfl ?_; have hL := Le.refl H; refine TC.seq ?_; refine TC.region ?_; refine TL.assign rfl rfl ?_; refine TL.nil ?_; refine TQ.then_n ?_; refine TC.seq ?_; refine TC.drawQV 8  [(0, _), (2, _)] follows_mixed ⟨rfl, rfl, trivial⟩ ?_; refine ChainV.q (some 3) [] (fun _ _ _ _ hF => TL.move rfl rfl (TL.one hF)) ?_
  refine ChainV.q (some 4) [(0, 0)] (by
   intro H' X F hle; have hL := Le.trans hL hle; intro hF; refine TL.call (word_Get) ⟨rfl, trivial⟩ rfl ?_
   rintro _ own H4 ⟨rfl, rfl, hle4⟩
   have hL := Le.trans hL hle4; refine TL.nil ?_
   exact TQ.one [] hF hle4 ⟨rfl, rfl⟩) ?_
  refine ChainV.q (some 5) [(1, 0)] (by
   intro H' X F hle; have hL := Le.trans hL hle; intro hF; refine TL.convI rfl rfl ?_
   rw [wrap_i64 ⟨by have := u16_get s.data.toList; omega, by have := u16_get s.data.toList; omega⟩]
   exact TL.one hF) ?_
  refine ChainV.q (some 6) [] (fun _ _ _ _ hF => TL.move rfl rfl (TL.one hF)) ?_
  refine ChainV.q (some 7) [(3, 0)] (by
   intro H' X F hle; have hL := Le.trans hL hle; intro hF; refine TL.sliceS (li := some 2) (ri := none) 2 s.size rfl ⟨_, _, rfl, rfl⟩ rfl rfl rfl hs (Nat.le_refl _) rfl ?_
   exact TL.one hF) ?_
  refine ChainV.q (some 8) [(4, 0)] (by
   intro H' X F hle; have hL := Le.trans hL hle; intro hF; refine TL.call (word_Get) ⟨rfl, trivial⟩ rfl ?_
   rintro _ own H8 ⟨rfl, rfl, hle8⟩
   rw [hd]
   have hL := Le.trans hL hle8; refine TL.nil ?_
   exact TQ.one [] hF hle8 ⟨rfl, rfl⟩) ?_
  refine ChainV.q (some 9) [(5, 0)] (by
   intro H' X F hle; have hL := Le.trans hL hle; intro hF; refine TL.convI rfl rfl ?_
   rw [wrap_i64 ⟨by omega, by omega⟩]
   exact TL.one hF) ?_
  refine ChainV.q (some 10) [(6, 0)] (by
   intro H' X F hle; have hL := Le.trans hL hle; intro hF; refine TL.shl rfl rfl (by omega) rfl ?_
   rw [shl16 hu2]
   exact TL.one hF) ?_
  refine ⟨by kernel_rfl, .refl _, ?_⟩
  ·
   intro H1 hle; have hL := Le.trans hL hle; refine TL.toOwn (own' := own) rfl ?_; refine TL.wk (env' := [(2, _), (5, _), (10, _)]) ⟨rfl, rfl, rfl, trivial⟩ ?_; refine TL.orW rfl rfl rfl ?_
   rw [or_i64 hu1 hu2]
   refine TL.assign rfl rfl ?_; refine TL.nil ?_; refine TQ.then_n ?_; refine TC.ret ?_; refine TQ.ret1 0 rfl rfl ?_
   exact ⟨rfl, rfl, hL⟩
theorem ref_number4 {s : ByteArray} (hs : 2 ≤ s.size) {w0 : World} {H : Hp} {own : List Seg} :
    Fn Tryz.prog 88 [.string s] w0 H own (fun r own' H' => r = .int .i64 (get32 s.data.toList) ∧ own' = own ∧ Le H H') := by
  have hd : (s.extract 2 s.size).data.toList = s.data.toList.drop 2 := by rw [ext_list, List.take_of_length_le (show s.data.toList.length ≤ s.size from Nat.le_refl _)]
  have hu1 := u16_get s.data.toList
  have hu2 := u16_get (s.data.toList.drop 2)
  refine Fn.enter Tryz.func88 rfl Tryz.ntmps88 rfl ?_; have hL := Le.refl H; refine TC.seq ?_; refine TC.region ?_; refine TL.assign rfl rfl ?_; refine TL.nil ?_; refine TQ.then_n ?_; refine TC.seq ?_; refine TC.drawQV 8  [(0, _), (2, _)] follows_mixed ⟨rfl, rfl, trivial⟩ ?_; refine ChainV.q (some 3) [] (fun _ _ _ _ hF => TL.move rfl rfl (TL.one hF)) ?_
  refine ChainV.q (some 4) [(0, 0)] (by
   intro H' X F hle; have hL := Le.trans hL hle; intro hF; refine TL.call (ref_Get) ⟨rfl, trivial⟩ rfl ?_
   rintro _ own H4 ⟨rfl, rfl, hle4⟩
   have hL := Le.trans hL hle4; refine TL.nil ?_
   exact TQ.one [] hF hle4 ⟨rfl, rfl⟩) ?_
  refine ChainV.q (some 5) [(1, 0)] (by
   intro H' X F hle; have hL := Le.trans hL hle; intro hF; refine TL.convI rfl rfl ?_
   rw [wrap_i64 ⟨by have := u16_get s.data.toList; omega, by have := u16_get s.data.toList; omega⟩]
   exact TL.one hF) ?_
  refine ChainV.q (some 6) [] (fun _ _ _ _ hF => TL.move rfl rfl (TL.one hF)) ?_
  refine ChainV.q (some 7) [(3, 0)] (by
   intro H' X F hle; have hL := Le.trans hL hle; intro hF; refine TL.sliceS (li := some 2) (ri := none) 2 s.size rfl ⟨_, _, rfl, rfl⟩ rfl rfl rfl hs (Nat.le_refl _) rfl ?_
   exact TL.one hF) ?_
  refine ChainV.q (some 8) [(4, 0)] (by
   intro H' X F hle; have hL := Le.trans hL hle; intro hF; refine TL.call (ref_Get) ⟨rfl, trivial⟩ rfl ?_
   rintro _ own H8 ⟨rfl, rfl, hle8⟩
   rw [hd]
   have hL := Le.trans hL hle8; refine TL.nil ?_
   exact TQ.one [] hF hle8 ⟨rfl, rfl⟩) ?_
  refine ChainV.q (some 9) [(5, 0)] (by
   intro H' X F hle; have hL := Le.trans hL hle; intro hF; refine TL.convI rfl rfl ?_
   rw [wrap_i64 ⟨by omega, by omega⟩]
   exact TL.one hF) ?_
  refine ChainV.q (some 10) [(6, 0)] (by
   intro H' X F hle; intro hF; refine TL.mul rfl rfl rfl ⟨by omega, by omega⟩ ?_
   exact TL.one hF) ?_
  refine ⟨by kernel_rfl, .refl _, ?_⟩
  ·
   intro H1 hle; have hL := Le.trans hL hle; refine TL.toOwn (own' := own) rfl ?_; refine TL.wk (env' := [(2, _), (5, _), (10, _)]) ⟨rfl, rfl, rfl, trivial⟩ ?_; refine TL.add rfl rfl rfl ⟨by omega, by omega⟩ ?_; refine TL.assign rfl rfl ?_; refine TL.nil ?_; refine TQ.then_n ?_; refine TC.ret ?_; refine TQ.ret1 0 rfl rfl ?_
   exact ⟨rfl, rfl, hL⟩
theorem ref_record {k p : ByteArray} {n : Int} (h : 0 ≤ n ∧ n ≤ 1000000000000) (hk : k.size ≤ 1000) (hp : p.size ≤ 100000000) {w0 : World} {H : Hp} {own : List Seg} :
    Fn Tryz.prog 42 [.string k, .int .i64 n, .string p] w0 H own (fun r own' H' => r = .string (recS k n p) ∧ own' = own ∧ Le H H') := by
  have hz : (k ++ num4 n ++ num4 p.size ++ p).size = k.size + 8 + p.size := by simp only [ByteArray.size_append, num4_size]
  refine Fn.enter Tryz.func42 rfl Tryz.ntmps42 rfl ?_; have hL := Le.refl H; refine TC.seq ?_; refine TC.region ?_; refine TL.assign rfl rfl ?_; refine TL.nsr ?_; refine TL.move rfl rfl ?_; refine TL.move rfl rfl ?_; refine TL.call (ref_word4 h) ⟨rfl, trivial⟩ rfl ?_
  rintro _ own H10 ⟨rfl, rfl, hle10⟩
  have hL := Le.trans hL hle10; refine TL.addS rfl rfl rfl (by simp only [ByteArray.size_append, num4_size]; omega) ?_
  refine TL.move rfl rfl ?_; refine TL.len_string rfl rfl ?_; refine TL.call (ref_word4 ⟨by omega, by omega⟩) ⟨rfl, trivial⟩ rfl ?_
  rintro _ own H14 ⟨rfl, rfl, hle14⟩
  have hL := Le.trans hL hle14; refine TL.addS rfl rfl rfl (by simp only [ByteArray.size_append, num4_size]; omega) ?_
  refine TL.move rfl rfl ?_; refine TL.addS rfl rfl rfl (by simp only [ByteArray.size_append, num4_size]; omega) ?_
  refine TL.assign rfl rfl ?_; refine TL.nsr ?_; refine TL.move rfl rfl ?_; refine TL.move rfl rfl ?_; refine TL.call (ref_Sum (by rw [hz]; omega)) ⟨rfl, trivial⟩ rfl ?_
  rintro _ own H20 ⟨rfl, rfl, hle20⟩
  have hL := Le.trans hL hle20; refine TL.call (ref_Put (crc_acc _)) ⟨rfl, trivial⟩ rfl ?_
  rintro _ own H21 ⟨rfl, rfl, hle21⟩
  have hL := Le.trans hL hle21; refine TL.addS rfl rfl rfl (by rw [hz, put16_size]; omega) ?_
  refine TL.assign rfl rfl ?_; refine TL.nil ?_; refine TQ.then_n ?_; refine TC.ret ?_; refine TQ.ret1 0 rfl rfl ?_
  exact ⟨rfl, rfl, hL⟩

end Go.Proofs.YteeamfkhkbfilaaGreat.K

namespace Go.Proofs.YteeamfkhkbfilaaGreat.K
open Go Go.RowKit Go.Proofs

abbrev eS : ByteArray := ⟨#[]⟩
structure Fact where
  kind : Int
  bank : Int
  addr : Int
  text : ByteArray
deriving DecidableEq
abbrev Key := Int × Int × Int
def Fact.key (f : Fact) : Key := (f.kind, f.bank, f.addr)
/-- Keys by places and kinds. -/
def kb (a b : Key) : Bool := if a.2.1 ≠ b.2.1 then decide (a.2.1 < b.2.1) else if a.2.2 ≠ b.2.2 then decide (a.2.2 < b.2.2) else decide (a.1 < b.1)
theorem kb_iff (a b : Key) : kb a b = true ↔ a.2.1 < b.2.1 ∨ (a.2.1 = b.2.1 ∧ (a.2.2 < b.2.2 ∨ (a.2.2 = b.2.2 ∧ a.1 < b.1))) := by
  unfold kb
  split
  · rw [decide_eq_true_iff]; omega
  · split
    · rw [decide_eq_true_iff]; omega
    · rw [decide_eq_true_iff]; omega
theorem kb_irrefl (a : Key) : kb a a = false := by
  rw [← Bool.not_eq_true, kb_iff]; omega
theorem kb_trans {a b c : Key} (h : kb a b = true) (k : kb b c = true) : kb a c = true := by
  rw [kb_iff] at *; omega
theorem kb_total {a b : Key} (h : a ≠ b) : kb a b = true ∨ kb b a = true := by
  rw [kb_iff, kb_iff]
  have : ¬ (a.1 = b.1 ∧ a.2.1 = b.2.1 ∧ a.2.2 = b.2.2) := fun ⟨h1, h2, h3⟩ => h (Prod.ext h1 (Prod.ext h2 h3))
  omega
theorem kb_asymm {a b : Key} (h : kb a b = true) : kb b a = false := by
  rw [← Bool.not_eq_true]
  intro k
  have := kb_trans h k
  rw [kb_irrefl] at this
  cases this
/-- What stands at a key. -/
def look : List Fact → Key → Option ByteArray
  | [], _ => none
  | f :: r, k => if f.key = k then some f.text else look r k
theorem look_mem : ∀ {l : List Fact} {k : Key} {t : ByteArray}, look l k = some t → ∃ f ∈ l, f.key = k ∧ f.text = t
  | f :: r, k, t, h => by
    simp only [look] at h
    split at h
    · rename_i he
      exact ⟨f, by simp, he, by simpa using h⟩
    · obtain ⟨g, hg, h1⟩ := look_mem h
      exact ⟨g, by simp [hg], h1⟩
theorem look_none : ∀ {l : List Fact} {k : Key}, (∀ f ∈ l, f.key ≠ k) → look l k = none
  | [], _, _ => rfl
  | f :: r, k, h => by
    simp only [look]
    rw [if_neg (h f (by simp)), look_none (fun g hg => h g (by simp [hg]))]
theorem look_append : ∀ (a b : List Fact) (k : Key), look (a ++ b) k = (look a k).or (look b k)
  | [], b, k => by simp [look]
  | f :: r, b, k => by
    simp only [List.cons_append, look]
    split
    · rfl
    · exact look_append r b k
/-- A fact put into a list that is passed from its front. -/
def putL (f : Fact) : Bool → List Fact → List Fact
  | d, [] => if d then [] else [f]
  | d, x :: r => (if !d && (decide (x.key = f.key) || kb f.key x.key) then [f] else []) ++ (if x.key = f.key then [] else [x]) ++ putL f (d || (decide (x.key = f.key) || kb f.key x.key)) r
def putF (l : List Fact) (f : Fact) : List Fact := putL f (decide (f.text = eS)) l
theorem putL_other {f : Fact} {k : Key} (hk : k ≠ f.key) : ∀ (l : List Fact) (d : Bool), look (putL f d l) k = look l k
  | [], d => by
    unfold putL
    split
    · rfl
    · simp only [look]; rw [if_neg (fun h => hk h.symm)]
  | x :: r, d => by
    simp only [putL, look_append, putL_other hk r]
    have e1 : look (if !d && (decide (x.key = f.key) || kb f.key x.key) then [f] else []) k = none := by
      split
      · simp only [look]; rw [if_neg (fun h => hk h.symm)]
      · rfl
    rw [e1]
    simp only [look]
    by_cases h : x.key = f.key
    · rw [if_pos h, if_neg (fun h2 => hk (by rw [← h2, h]))]
      simp [look]
    · rw [if_neg h]
      simp only [look]
      split <;> simp
theorem putL_gone {f : Fact} : ∀ (l : List Fact), look (putL f true l) f.key = none
  | [] => rfl
  | x :: r => by
    simp only [putL, look_append, Bool.not_true, Bool.false_and, Bool.true_or]
    rw [putL_gone r]
    by_cases h : x.key = f.key
    · rw [if_pos h]; simp [look]
    · rw [if_neg h]; simp [look, h]
theorem putL_here {f : Fact} : ∀ (l : List Fact), look (putL f false l) f.key = some f.text
  | [] => by simp [putL, look]
  | x :: r => by
    simp only [putL, look_append, Bool.not_false, Bool.true_and, Bool.false_or]
    by_cases h : (decide (x.key = f.key) || kb f.key x.key) = true
    · rw [if_pos h]; simp [look]
    · rw [if_neg h]
      simp only [Bool.or_eq_true, decide_eq_true_eq, not_or] at h
      rw [if_neg h.1]
      simp only [look, if_neg h.1]
      rw [show (decide (x.key = f.key) || kb f.key x.key) = false by simp [h.1, h.2], putL_here r]
      rfl
theorem look_put (l : List Fact) (f : Fact) (k : Key) : look (putF l f) k = if k = f.key then (if f.text = eS then none else some f.text) else look l k := by
  unfold putF
  split
  · rename_i h
    subst h
    split
    · rename_i h2; rw [decide_eq_true h2]; exact putL_gone l
    · rename_i h2; rw [decide_eq_false h2]; exact putL_here l
  · rename_i h
    exact putL_other h l _
/-- Facts in order, none of them empty. -/
def Good (l : List Fact) : Prop := l.Pairwise (fun a b => kb a.key b.key = true) ∧ ∀ f ∈ l, f.text ≠ eS
theorem putL_mem {f g : Fact} : ∀ {l : List Fact} {d : Bool}, g ∈ putL f d l → (g = f ∧ d = false) ∨ (g ∈ l ∧ g.key ≠ f.key)
  | [], d, h => by
    unfold putL at h
    cases d <;> simp at h
    exact .inl ⟨h, rfl⟩
  | x :: r, d, h => by
    simp only [putL, List.mem_append] at h
    rcases h with (h | h) | h
    · split at h
      · rename_i hc
        simp at h
        cases d
        · exact .inl ⟨h, rfl⟩
        · simp at hc
      · cases h
    · split at h
      · cases h
      · rename_i hc; simp at h; subst h; exact .inr ⟨by simp, hc⟩
    · rcases putL_mem h with ⟨h1, h2⟩ | ⟨h1, h2⟩
      · cases d
        · exact .inl ⟨h1, rfl⟩
        · simp at h2
      · exact .inr ⟨by simp [h1], h2⟩
theorem putL_good {f : Fact} : ∀ {l : List Fact} {d : Bool}, l.Pairwise (fun a b => kb a.key b.key = true) → (putL f d l).Pairwise (fun a b => kb a.key b.key = true)
  | [], d, _ => by unfold putL; cases d <;> simp
  | x :: r, d, h => by
    rw [List.pairwise_cons] at h
    have ih := putL_good (f := f) (l := r) (d := d || (decide (x.key = f.key) || kb f.key x.key)) h.2
    simp only [putL]
    by_cases hx : x.key = f.key
    · rw [if_pos hx]
      simp only [hx, decide_true, Bool.true_or, Bool.and_true, Bool.or_true, List.append_nil] at ih ⊢
      cases d
      · simp only [Bool.not_false, if_true, List.singleton_append, List.pairwise_cons]
        refine ⟨fun g hg => ?_, ih⟩
        rcases putL_mem hg with ⟨_, h2⟩ | ⟨h1, _⟩
        · cases h2
        · rw [← hx]; exact h.1 g h1
      · simpa using ih
    · rw [if_neg hx]
      simp only [hx, decide_false, Bool.false_or] at ih ⊢
      cases hkb : kb f.key x.key
      · simp only [hkb, Bool.and_false, Bool.or_false, Bool.false_eq_true, if_false, List.nil_append, List.singleton_append, List.pairwise_cons] at ih ⊢
        refine ⟨fun g hg => ?_, ih⟩
        rcases putL_mem hg with ⟨rfl, _⟩ | ⟨h1, _⟩
        · rcases kb_total hx with h2 | h2
          · exact h2
          · rw [hkb] at h2; cases h2
        · exact h.1 g h1
      · simp only [hkb, Bool.and_true, Bool.or_true] at ih ⊢
        have hxr : (x :: putL f true r).Pairwise (fun a b => kb a.key b.key = true) := by
          rw [List.pairwise_cons]
          refine ⟨fun g hg => ?_, ih⟩
          rcases putL_mem hg with ⟨_, h2⟩ | ⟨h1, _⟩
          · cases h2
          · exact h.1 g h1
        cases d
        · simp only [Bool.not_false, if_true, List.singleton_append, List.cons_append, List.pairwise_cons]
          refine ⟨fun g hg => ?_, hxr⟩
          rcases List.mem_cons.1 hg with rfl | hg
          · exact hkb
          · exact kb_trans hkb ((List.pairwise_cons.1 hxr).1 g hg)
        · simpa using hxr
theorem Good.put {l : List Fact} (h : Good l) (f : Fact) : Good (putF l f) := by
  refine ⟨putL_good h.1, fun g hg => ?_⟩
  rcases putL_mem hg with ⟨rfl, h2⟩ | ⟨h1, _⟩
  · exact of_decide_eq_false h2
  · exact h.2 g h1
theorem Good.nil : Good [] := ⟨List.Pairwise.nil, by simp⟩
/-- What stands at the keys determines them. -/
theorem Good.ext : ∀ {a b : List Fact}, Good a → Good b → (∀ k, look a k = look b k) → a = b
  | [], [], _, _, _ => rfl
  | [], y :: b, _, _, h => by have := h y.key; simp [look] at this
  | x :: a, [], _, _, h => by have := h x.key; simp [look] at this
  | x :: a, y :: b, ⟨ha, ha2⟩, ⟨hb, hb2⟩, h => by
    rw [List.pairwise_cons] at ha hb
    have hk : x.key = y.key := by
      have h1 := h x.key
      have h2 := h y.key
      rw [show look (x :: a) x.key = some x.text from by simp [look]] at h1
      rw [show look (y :: b) y.key = some y.text from by simp [look]] at h2
      obtain ⟨g, hg, hg1, _⟩ := look_mem h1.symm
      obtain ⟨g', hg', hg1', _⟩ := look_mem h2
      rcases List.mem_cons.1 hg with rfl | hg
      · exact hg1.symm
      · rcases List.mem_cons.1 hg' with rfl | hg'
        · exact hg1'
        · have h3 := hb.1 g hg
          have h4 := ha.1 g' hg'
          rw [hg1] at h3
          rw [hg1'] at h4
          rw [kb_asymm h3] at h4
          cases h4
    have hx : x = y := by
      have h1 := h x.key
      simp only [look, hk, if_true] at h1
      obtain ⟨k1, k2, k3, k4⟩ := x
      obtain ⟨q1, q2, q3, q4⟩ := y
      simp only [Fact.key, Prod.mk.injEq] at hk
      simp at h1
      obtain ⟨rfl, rfl, rfl⟩ := hk
      rw [h1]
    subst hx
    congr 1
    refine Good.ext ⟨ha.2, fun f hf => ha2 f (by simp [hf])⟩ ⟨hb.2, fun f hf => hb2 f (by simp [hf])⟩ fun k => ?_
    by_cases hkx : k = x.key
    · subst hkx
      rw [look_none (fun g hg he => by have := ha.1 g hg; rw [he, kb_irrefl] at this; cases this), look_none (fun g hg he => by have := hb.1 g hg; rw [he, kb_irrefl] at this; cases this)]
    · have := h k
      simp only [look, if_neg (Ne.symm hkx)] at this
      exact this
theorem putF_len (l : List Fact) (f : Fact) : (putF l f).length ≤ l.length + 1 := by
  have gen : ∀ (l : List Fact) (d : Bool), (putL f d l).length ≤ l.length + (if d then 0 else 1) := by
    intro l
    induction l with
    | nil => intro d; cases d <;> simp [putL]
    | cons x r ih =>
      intro d
      have := ih (d || (decide (x.key = f.key) || kb f.key x.key))
      simp only [putL, List.length_append, List.length_cons]
      cases d
      · cases hc : (decide (x.key = f.key) || kb f.key x.key)
        · rw [hc] at this
          simp at this ⊢
          split <;> simp <;> omega
        · rw [hc] at this
          simp at this ⊢
          split <;> simp <;> omega
      · simp at this ⊢
        split <;> simp <;> omega
  have := gen l (decide (f.text = eS))
  unfold putF
  split at this <;> omega
/-- Facts put one after the other. -/
theorem look_fold : ∀ (ps : List Fact) (l : List Fact) (k : Key), (ps.map Fact.key).Nodup → look (ps.foldl putF l) k = match ps.find? (fun p => decide (p.key = k)) with | some p => if p.text = eS then none else some p.text | none => look l k
  | [], l, k, _ => rfl
  | p :: r, l, k, h => by
    simp only [List.map_cons, List.nodup_cons] at h
    rw [List.foldl_cons, look_fold r (putF l p) k h.2, List.find?_cons]
    by_cases hk : p.key = k
    · subst hk
      rw [decide_eq_true rfl]
      have : r.find? (fun q => decide (q.key = p.key)) = none := by
        rw [List.find?_eq_none]
        intro q hq hc
        exact h.1 (by rw [← of_decide_eq_true hc]; exact List.mem_map.2 ⟨q, hq, rfl⟩)
      rw [this]
      simp [look_put]
    · rw [decide_eq_false hk]
      simp only
      cases hf : r.find? (fun q => decide (q.key = k)) with
      | some q => rfl
      | none => simp only; rw [look_put, if_neg (fun h => hk h.symm)]
theorem good_fold : ∀ (ps : List Fact) {l : List Fact}, Good l → Good (ps.foldl putF l)
  | [], _, h => h
  | p :: r, _, h => good_fold r (h.put p)
theorem fold_len : ∀ (ps l : List Fact), (ps.foldl putF l).length ≤ l.length + ps.length
  | [], l => by simp
  | p :: r, l => by
    have h1 := fold_len r (putF l p)
    have h2 := putF_len l p
    simp only [List.foldl_cons, List.length_cons]; omega
/-- In whatever order. -/
theorem fold_perm {ps qs l : List Fact} (hl : Good l) (hn : (ps.map Fact.key).Nodup) (hp : ps.Perm qs) : ps.foldl putF l = qs.foldl putF l := by
  have hn2 : (qs.map Fact.key).Nodup := (hp.map _).nodup_iff.1 hn
  refine Good.ext (good_fold _ hl) (good_fold _ hl) fun k => ?_
  rw [look_fold ps l k hn, look_fold qs l k hn2]
  have : ps.find? (fun p => decide (p.key = k)) = qs.find? (fun p => decide (p.key = k)) := by
    cases h1 : ps.find? (fun p => decide (p.key = k)) with
    | none =>
      symm
      rw [List.find?_eq_none] at h1 ⊢
      exact fun x hx => h1 x (hp.mem_iff.2 hx)
    | some p =>
      cases h2 : qs.find? (fun p => decide (p.key = k)) with
      | none =>
        rw [List.find?_eq_none] at h2
        have h3 := List.mem_of_find?_eq_some h1
        have h4 := List.find?_some h1
        exact absurd h4 (h2 p (hp.mem_iff.1 h3))
      | some q =>
        have h3 := hp.mem_iff.1 (List.mem_of_find?_eq_some h1)
        have h4 := List.mem_of_find?_eq_some h2
        have h5 : p.key = k := of_decide_eq_true (by simpa using List.find?_some h1)
        have h6 : q.key = k := of_decide_eq_true (by simpa using List.find?_some h2)
        obtain ⟨i, hi⟩ := List.getElem?_of_mem h3
        obtain ⟨j, hj⟩ := List.getElem?_of_mem h4
        have e1 : (qs.map Fact.key)[i]? = (qs.map Fact.key)[j]? := by rw [List.getElem?_map, List.getElem?_map, hi, hj]; simp [h5, h6]
        have hil : i < (qs.map Fact.key).length := by rw [List.length_map]; exact (List.getElem?_eq_some_iff.1 hi).1
        have := (List.getElem?_inj hil hn2).1 e1
        subst this
        rw [hi] at hj
        exact hj
  rw [this]
end Go.Proofs.YteeamfkhkbfilaaGreat.K

namespace Go.Proofs.YteeamfkhkbfilaaGreat.K
open Go Go.RowKit Go.Proofs

def letterN (n : Int) : Bool := decide (97 ≤ orI .u8 n 32) && decide (orI .u8 n 32 ≤ 122)
def digitN (n : Int) : Bool := decide (48 ≤ n) && decide (n ≤ 57)
def partN (n : Int) : Bool := letterN n || digitN n || decide (n = 95)
theorem syn_letter {n : Int} {w0 : World} {H : Hp} {own : List Seg} : Fn Tryz.prog 224 [.int .u8 n] w0 H own (fun r o H' => r = .bool (letterN n) ∧ o = own ∧ Le H H') := by
  refine Fn.enter Tryz.func224 rfl Tryz.ntmps224 rfl ?_; have hL := Le.refl H; refine TC.seq ?_; refine TC.region ?_; refine TL.assign rfl rfl ?_; refine TL.nsr ?_; refine TL.move rfl rfl ?_; refine TL.orW rfl rfl rfl ?_
  refine TL.geqB rfl rfl rfl (fun ha => ?_) (fun ha => ?_)
  ·
   refine TL.move rfl rfl ?_; refine TL.gyes rfl rfl rfl ?_; refine TL.move rfl rfl ?_; refine TL.gyes rfl rfl rfl ?_; refine TL.orW rfl rfl rfl ?_; refine TL.gyes rfl rfl rfl ?_
   refine TL.leqB rfl rfl rfl (fun hb => ?_) (fun hb => ?_)
   ·
    refine TL.pickT rfl rfl rfl rfl ?_; refine TL.assign rfl rfl ?_; refine TL.nil ?_; refine TQ.then_n ?_; refine TC.ret ?_; refine TQ.ret1 0 rfl rfl ?_
    refine ⟨?_, rfl, hL⟩
    first
      | (simp [letterN, ha, hb]; done)
      | (simp [letterN, ha]; done)
      | (simp [letterN]; omega)
   ·
    refine TL.pickT rfl rfl rfl rfl ?_; refine TL.assign rfl rfl ?_; refine TL.nil ?_; refine TQ.then_n ?_; refine TC.ret ?_; refine TQ.ret1 0 rfl rfl ?_
    refine ⟨?_, rfl, hL⟩
    first
      | (simp [letterN, ha, hb]; done)
      | (simp [letterN, ha]; done)
      | (simp [letterN]; omega)
  ·
   refine TL.move rfl rfl ?_; refine TL.gno rfl rfl rfl rfl ?_; refine TL.gno rfl rfl rfl rfl ?_; refine TL.gno rfl rfl rfl rfl ?_; refine TL.pickF rfl rfl rfl rfl ?_; refine TL.assign rfl rfl ?_; refine TL.nil ?_; refine TQ.then_n ?_; refine TC.ret ?_; refine TQ.ret1 0 rfl rfl ?_
   refine ⟨?_, rfl, hL⟩
   first
     | (simp [letterN, ha, hb]; done)
     | (simp [letterN, ha]; done)
     | (simp [letterN]; omega)
theorem syn_digit {n : Int} {w0 : World} {H : Hp} {own : List Seg} : Fn Tryz.prog 237 [.int .u8 n] w0 H own (fun r o H' => r = .bool (digitN n) ∧ o = own ∧ Le H H') := by
  refine Fn.enter Tryz.func237 rfl Tryz.ntmps237 rfl ?_; have hL := Le.refl H; refine TC.seq ?_; refine TC.region ?_; refine TL.assign rfl rfl ?_; refine TL.nsr ?_; refine TL.move rfl rfl ?_
  refine TL.geqB rfl rfl rfl (fun ha => ?_) (fun ha => ?_)
  ·
   refine TL.move rfl rfl ?_; refine TL.gyes rfl rfl rfl ?_; refine TL.move rfl rfl ?_; refine TL.gyes rfl rfl rfl ?_
   refine TL.leqB rfl rfl rfl (fun hb => ?_) (fun hb => ?_)
   ·
    refine TL.pickT rfl rfl rfl rfl ?_; refine TL.assign rfl rfl ?_; refine TL.nil ?_; refine TQ.then_n ?_; refine TC.ret ?_; refine TQ.ret1 0 rfl rfl ?_
    refine ⟨?_, rfl, hL⟩
    first
      | (simp [digitN, ha, hb]; done)
      | (simp [digitN, ha]; done)
      | (simp [digitN]; omega)
   ·
    refine TL.pickT rfl rfl rfl rfl ?_; refine TL.assign rfl rfl ?_; refine TL.nil ?_; refine TQ.then_n ?_; refine TC.ret ?_; refine TQ.ret1 0 rfl rfl ?_
    refine ⟨?_, rfl, hL⟩
    first
      | (simp [digitN, ha, hb]; done)
      | (simp [digitN, ha]; done)
      | (simp [digitN]; omega)
  ·
   refine TL.move rfl rfl ?_; refine TL.gno rfl rfl rfl rfl ?_; refine TL.gno rfl rfl rfl rfl ?_; refine TL.pickF rfl rfl rfl rfl ?_; refine TL.assign rfl rfl ?_; refine TL.nil ?_; refine TQ.then_n ?_; refine TC.ret ?_; refine TQ.ret1 0 rfl rfl ?_
   refine ⟨?_, rfl, hL⟩
   first
     | (simp [digitN, ha, hb]; done)
     | (simp [digitN, ha]; done)
     | (simp [digitN]; omega)
theorem syn_part {n : Int} {w0 : World} {H : Hp} {own : List Seg} : Fn Tryz.prog 226 [.int .u8 n] w0 H own (fun r o H' => r = .bool (partN n) ∧ o = own ∧ Le H H') := by
  refine Fn.enter Tryz.func226 rfl Tryz.ntmps226 rfl ?_; have hL := Le.refl H; refine TC.seq ?_; refine TC.region ?_; refine TL.assign rfl rfl ?_; refine TL.nsr ?_; refine TL.move rfl rfl ?_; refine TL.call (syn_letter) ⟨rfl, trivial⟩ rfl ?_
  rintro _ own H4 ⟨rfl, rfl, hle4⟩
  have hL := Le.trans hL hle4
  rcases ha : letterN n with _ | _
  rotate_left
  ·
   refine TL.move rfl rfl ?_; refine TL.gno rfl rfl rfl rfl ?_; refine TL.gno rfl rfl rfl rfl ?_; refine TL.pickT rfl rfl rfl rfl ?_; refine TL.move rfl rfl ?_; refine TL.gno rfl rfl rfl rfl ?_; refine TL.gno rfl rfl rfl rfl ?_; refine TL.pickT rfl rfl rfl rfl ?_; refine TL.assign rfl rfl ?_; refine TL.nil ?_; refine TQ.then_n ?_; refine TC.ret ?_; refine TQ.ret1 0 rfl rfl ?_
   refine ⟨?_, rfl, hL⟩
   first
     | (simp [partN, ha, hb, hc]; done)
     | (simp [partN, ha, hb]; done)
     | (simp [partN, ha]; done)
  ·
   refine TL.move rfl rfl ?_; refine TL.gyes rfl rfl rfl ?_; refine TL.move rfl rfl ?_; refine TL.gyes rfl rfl rfl ?_; refine TL.call (syn_digit) ⟨rfl, trivial⟩ rfl ?_
   rintro _ own H7 ⟨rfl, rfl, hle7⟩
   have hL := Le.trans hL hle7
   rcases hb : digitN n with _ | _
   rotate_left
   ·
    refine TL.pickF rfl rfl rfl rfl ?_; refine TL.move rfl rfl ?_; refine TL.gno rfl rfl rfl rfl ?_; refine TL.gno rfl rfl rfl rfl ?_; refine TL.pickT rfl rfl rfl rfl ?_; refine TL.assign rfl rfl ?_; refine TL.nil ?_; refine TQ.then_n ?_; refine TC.ret ?_; refine TQ.ret1 0 rfl rfl ?_
    refine ⟨?_, rfl, hL⟩
    first
      | (simp [partN, ha, hb, hc]; done)
      | (simp [partN, ha, hb]; done)
      | (simp [partN, ha]; done)
   ·
    refine TL.pickF rfl rfl rfl rfl ?_; refine TL.move rfl rfl ?_; refine TL.gyes rfl rfl rfl ?_; refine TL.move rfl rfl ?_; refine TL.gyes rfl rfl rfl ?_
    refine TL.eqlB rfl rfl rfl (fun hc => ?_) (fun hc => ?_)
    ·
     refine TL.pickF rfl rfl rfl rfl ?_; refine TL.assign rfl rfl ?_; refine TL.nil ?_; refine TQ.then_n ?_; refine TC.ret ?_; refine TQ.ret1 0 rfl rfl ?_
     refine ⟨?_, rfl, hL⟩
     first
       | (simp [partN, ha, hb, hc]; done)
       | (simp [partN, ha, hb]; done)
       | (simp [partN, ha]; done)
    ·
     refine TL.pickF rfl rfl rfl rfl ?_; refine TL.assign rfl rfl ?_; refine TL.nil ?_; refine TQ.then_n ?_; refine TC.ret ?_; refine TQ.ret1 0 rfl rfl ?_
     refine ⟨?_, rfl, hL⟩
     first
       | (simp [partN, ha, hb, hc]; done)
       | (simp [partN, ha, hb]; done)
       | (simp [partN, ha]; done)
def spanN (p : UInt8 → Bool) : List UInt8 → Nat → Nat
  | [], k => k
  | b :: r, k => if p b then spanN p r (k + 1) else k
theorem syn_span {fp : FuncId} [Callable Tryz.prog fp] {p : UInt8 → Bool} {s : ByteArray} (hs : s.size ≤ 9223372036854775806) {w0 : World} {H : Hp} {own : List Seg}
    (hp : ∀ (b : UInt8) (H1 : Hp) (own1 : List Seg), Fn Tryz.prog fp [.int .u8 (b.toNat : Int)] w0 H1 own1 (fun r o H' => r = .bool (p b) ∧ o = own1 ∧ Le H1 H')) :
    Fn Tryz.prog 225 [.string s, .func (.func fp) #[] #[]] w0 H own (fun r o H' => r = .int .i64 (spanN p s.data.toList 0 : Int) ∧ o = own ∧ Le H H') := by
  have hsz : s.data.toList.length = s.size := rfl
  refine Fn.enter Tryz.func225 rfl Tryz.ntmps225 rfl ?_; have hL := Le.refl H; refine TC.seq ?_; refine TC.region ?_; refine TL.assign rfl rfl ?_; refine TL.nil ?_; refine TQ.then_n ?_; refine TC.seq ?_; refine TC.seq ?_; refine TC.region ?_; refine TL.move rfl rfl ?_; refine TL.len_string rfl rfl ?_; refine TL.move rfl rfl ?_; refine TL.nil ?_; refine TQ.then_n ?_; refine TC.block ?_; refine TC.loop (fun n env' own' H' => ∃ k, n = s.size - k ∧ k ≤ s.size ∧ spanN p s.data.toList 0 = spanN p (s.data.toList.drop k) k ∧ env' = [(0, .string s), (1, .func (.func fp) #[] #[]), (7, .int .i64 (s.size : Int)), (8, .int .i64 (k : Int))] ∧ own' = own ∧ Le H H') s.size [(0, _), (1, _), (7, _), (8, _)] ⟨rfl, rfl, rfl, rfl, trivial⟩ ⟨0, by omega, by omega, rfl, rfl, rfl, Le.refl _⟩ ?_
  rintro n _ own H1 ⟨k, rfl, hk1, hix, rfl, rfl, hle0⟩
  have hL := Le.trans hL hle0; refine TC.seq ?_; refine TC.region ?_
  refine TL.lssB rfl rfl rfl (fun hlt => ?_) (fun hlt => ?_)
  ·
   obtain ⟨b, hx⟩ : ∃ b, s.data.toList[k]? = some b := ⟨_, List.getElem?_eq_getElem (by omega)⟩
   refine TL.nil ?_; refine TQ.then_n ?_; refine TC.seq ?_; refine TC.cond_t rfl ?_; refine TC.skip ?_; refine TQ.then_n ?_; refine TC.seq ?_; refine TC.block ?_; refine TC.seq ?_; refine TC.region ?_; refine TL.move rfl rfl ?_; refine TL.assign rfl rfl ?_; refine TL.nsr ?_; refine TL.move rfl rfl ?_; refine TL.move rfl rfl ?_; refine TL.move rfl rfl ?_; refine TL.indexS k rfl rfl rfl (by rw [byte_get]; exact hx) rfl ?_
   refine TL.callV (vs := [_]) rfl (hp b _ _) ⟨rfl, trivial⟩ rfl rfl ?_
   rintro _ own H2 ⟨rfl, rfl, hle2⟩
   have hL := Le.trans hL hle2; have hle0 := Le.trans hle0 hle2
   rcases hpx : p b with _ | _
   rotate_left
   ·
    refine TL.not rfl rfl ?_; refine TL.nil ?_; refine TQ.then_n ?_; refine TC.cond_f rfl ?_; refine TC.skip ?_; refine TQ.in_n ?_; refine TQ.then_n ?_; refine TC.region ?_; refine TL.add rfl rfl rfl ⟨by omega, by omega⟩ ?_; refine TL.move rfl rfl ?_; refine TL.nil ?_; refine TQ.toOwn (own' := own) rfl ?_
    refine TQ.next (s.size - (k + 1)) [(0, _), (1, _), (7, _), (8, _)] (by omega) ⟨rfl, rfl, rfl, rfl, trivial⟩ ⟨k + 1, rfl, by omega, ?_, by simp, rfl, hle0⟩
    rw [hix, drop_cons hx]
    simp only [spanN, hpx, if_true]
   ·
    refine TL.not rfl rfl ?_; refine TL.nil ?_; refine TQ.then_n ?_; refine TC.cond_t rfl ?_; refine TC.seq ?_; refine TC.region ?_; refine TL.move rfl rfl ?_; refine TL.assign rfl rfl ?_; refine TL.nil ?_; refine TQ.then_n ?_; refine TC.ret ?_; refine TQ.in_r ?_; refine TQ.then_r ?_; refine TQ.then_r ?_; refine TQ.in_r ?_; refine TQ.then_r ?_; refine TQ.ret1 0 rfl rfl ?_
    refine ⟨?_, rfl, hL⟩
    first
      | (rw [hix, drop_cons hx]; simp [spanN, hpx]; done)
      | (rw [hix, List.drop_of_length_le (by omega)]; simp only [spanN]; rw [show k = s.size by omega])
  ·
   refine TL.nil ?_; refine TQ.then_n ?_; refine TC.seq ?_; refine TC.cond_f rfl ?_; refine TC.exit ?_; refine TQ.then_e ?_; refine TQ.then_e ?_; refine TQ.in_e ?_; refine TQ.nsr ?_; refine TL.move rfl rfl ?_; refine TL.len_string rfl rfl ?_; refine TL.assign rfl rfl ?_; refine TL.nil ?_; refine TQ.then_n ?_; refine TC.ret ?_; refine TQ.ret1 0 rfl rfl ?_
   refine ⟨?_, rfl, hL⟩
   first
     | (rw [hix, drop_cons hx]; simp [spanN, hpx]; done)
     | (rw [hix, List.drop_of_length_le (by omega)]; simp only [spanN]; rw [show k = s.size by omega])
theorem cmp_isNaN {s : ByteArray} {w0 : World} {H : Hp} {own : List Seg} : Fn Tryz.prog 248 [.string s] w0 H own (fun r o H' => r = .bool false ∧ o = own ∧ Le H H') := by
  refine Fn.enter Tryz.func248 rfl Tryz.ntmps248 rfl ?_; have hL := Le.refl H; refine TC.seq ?_; refine TC.region ?_; refine TL.assign rfl rfl ?_; refine TL.nsr ?_; refine TL.move rfl rfl ?_; refine TL.move rfl rfl ?_; refine TL.neqS rfl rfl rfl ?_
  rw [decide_eq_false (by simp)]
  refine TL.assign rfl rfl ?_; refine TL.nil ?_; refine TQ.then_n ?_; refine TC.ret ?_; refine TQ.ret1 0 rfl rfl ?_
  exact ⟨rfl, rfl, hL⟩
theorem slices_isNaN {s : ByteArray} {w0 : World} {H : Hp} {own : List Seg} : Fn Tryz.prog 236 [.string s] w0 H own (fun r o H' => r = .bool false ∧ o = own ∧ Le H H') := by
  refine Fn.enter Tryz.func236 rfl Tryz.ntmps236 rfl ?_; have hL := Le.refl H; refine TC.seq ?_; refine TC.region ?_; refine TL.assign rfl rfl ?_; refine TL.nsr ?_; refine TL.move rfl rfl ?_; refine TL.move rfl rfl ?_; refine TL.neqS rfl rfl rfl ?_
  rw [decide_eq_false (by simp)]
  refine TL.assign rfl rfl ?_; refine TL.nil ?_; refine TQ.then_n ?_; refine TC.ret ?_; refine TQ.ret1 0 rfl rfl ?_
  exact ⟨rfl, rfl, hL⟩
abbrev lessB (s t : ByteArray) : Bool := Op.bytesLess s.toList t.toList
theorem cmp_Less {s t : ByteArray} {w0 : World} {H : Hp} {own : List Seg} : Fn Tryz.prog 235 [.string s, .string t] w0 H own (fun r o H' => r = .bool (lessB s t) ∧ o = own ∧ Le H H') := by
  refine Fn.enter Tryz.func235 rfl Tryz.ntmps235 rfl ?_; have hL := Le.refl H; refine TC.seq ?_; refine TC.region ?_; refine TL.assign rfl rfl ?_; refine TL.nsr ?_; refine TL.move rfl rfl ?_; refine TL.call (cmp_isNaN) ⟨rfl, trivial⟩ rfl ?_
  rintro _ own H6 ⟨rfl, rfl, hle6⟩
  have hL := Le.trans hL hle6; refine TL.move rfl rfl ?_; refine TL.gno rfl rfl rfl rfl ?_; refine TL.gno rfl rfl rfl rfl ?_; refine TL.gno rfl rfl rfl rfl ?_; refine TL.pickF rfl rfl rfl rfl ?_; refine TL.move rfl rfl ?_; refine TL.gyes rfl rfl rfl ?_; refine TL.move rfl rfl ?_; refine TL.gyes rfl rfl rfl ?_; refine TL.move rfl rfl ?_; refine TL.gyes rfl rfl rfl ?_; refine TL.lssS rfl rfl rfl ?_; refine TL.pickF rfl rfl rfl rfl ?_; refine TL.assign rfl rfl ?_; refine TL.nil ?_; refine TQ.then_n ?_; refine TC.ret ?_; refine TQ.ret1 0 rfl rfl ?_
  exact ⟨rfl, rfl, hL⟩
def strs (l : List ByteArray) : List D := (l.map Value.string).map D.c
theorem binary_search {l : List ByteArray} {s : ByteArray} {k : Nat} (hk : k ≤ l.length) (hlen : l.length ≤ 1000000) (h1 : ∀ i x, l[i]? = some x → i < k → lessB x s = true) (h2 : ∀ i x, l[i]? = some x → k ≤ i → lessB x s = false) {w0 : World} {H : Hp} {own : List Seg} {v : Value} (hA : rd H (.s 1 (strs l)) v) :
    Fn Tryz.prog 222 [v, .string s] w0 H own (fun r o H' => r = .tuple #[.int .i64 (k : Int), .bool (decide (l[k]? = some s))] ∧ o = own ∧ Le H H') := by
  obtain ⟨A, c, rfl, hc1, hc2⟩ := vals_len hA
  simp only [List.length_map] at hA hc1 ⊢
  refine Fn.enter Tryz.func222 rfl Tryz.ntmps222 rfl ?_; have hL := Le.refl H; refine TC.seq ?_; refine TC.region ?_; refine TL.assign rfl rfl ?_; refine TL.assign rfl rfl ?_; refine TL.nsr ?_; refine TL.move rfl rfl ?_; refine TL.len_slice rfl rfl ?_; refine TL.assign rfl rfl ?_; refine TL.nsr ?_; refine TL.move rfl rfl ?_; refine TL.assign rfl rfl ?_; refine TL.assign rfl rfl ?_; refine TL.nil ?_; refine TQ.then_n ?_; refine TC.seq ?_; refine TC.block ?_; refine TC.loop (fun n env' own' H' => ∃ (i j : Nat), n = j - i ∧ i ≤ k ∧ k ≤ j ∧ j ≤ l.length ∧ i ≤ j ∧ env' = [(0, .slice A l.length c), (1, .string s), (6, .int .i64 (l.length : Int)), (7, .int .i64 (i : Int)), (8, .int .i64 (j : Int))] ∧ own' = own ∧ Le H H') l.length [(0, _), (1, _), (6, _), (7, _), (8, _)] ⟨rfl, rfl, rfl, rfl, rfl, trivial⟩ ⟨0, l.length, by omega, by omega, by omega, by omega, by omega, rfl, rfl, Le.refl _⟩ ?_
  rintro n _ own H1 ⟨i, j, rfl, hi1, hj1, hj2, hij, rfl, rfl, hle0⟩
  have hL := Le.trans hL hle0; have hA := rd.mono hle0 hA; refine TC.seq ?_; refine TC.seq ?_; refine TC.region ?_; refine TL.move rfl rfl ?_; refine TL.move rfl rfl ?_
  refine TL.lssB rfl rfl rfl (fun hlt => ?_) (fun hlt => ?_)
  ·
   obtain ⟨m, hm⟩ : ∃ m, m = (i + j) / 2 := ⟨_, rfl⟩
   obtain ⟨x, hx⟩ : ∃ x, l[m]? = some x := ⟨_, List.getElem?_eq_getElem (by omega)⟩
   obtain ⟨b1, q1, rfl, hpx⟩ := vals_at hA (i := m) (u := .string x) (by simp [hx])
   have hw1 : IntKind.u64.wrap ((i : Int) + (j : Int)) = ((i + j : Nat) : Int) := by rw [IntWalk.u64_in _ ⟨by omega, by omega⟩]; omega
   have hw2 : ((i + j : Nat) : Int).fdiv (2 ^ (min (1 : Int).toNat IntKind.u64.bits)) = (m : Int) := by
     rw [show (2 : Int) ^ (min (1 : Int).toNat IntKind.u64.bits) = 2 from rfl, Int.fdiv_eq_ediv_of_nonneg _ (by omega)]
     omega
   have hw3 : IntKind.i64.wrap (m : Int) = (m : Int) := wrap_i64 ⟨by omega, by omega⟩
   refine TL.nil ?_; refine TQ.then_n ?_; refine TC.cond_t rfl ?_; refine TC.skip ?_; refine TQ.then_n ?_; refine TC.block ?_; refine TC.seq ?_; refine TC.region ?_; refine TL.move rfl rfl ?_; refine TL.move rfl rfl ?_; refine TL.add rfl rfl rfl ⟨by omega, by omega⟩ ?_; refine TL.convI rfl rfl ?_
   rw [hw1]
   refine TL.shr rfl rfl (by omega) rfl ?_
   rw [hw2]
   refine TL.convI rfl rfl ?_
   rw [hw3]
   refine TL.assign rfl rfl ?_; refine TL.nsr ?_; refine TL.move rfl rfl ?_; refine TL.move rfl rfl ?_; refine TL.indexAddr (m) rfl rfl rfl (by omega) rfl ?_; refine TL.load_imm rfl (hpx) rfl ?_; refine TL.move rfl rfl ?_; refine TL.call (cmp_Less) ⟨rfl, rfl, trivial⟩ rfl ?_
   rintro _ own H2 ⟨rfl, rfl, hle2⟩
   have hL := Le.trans hL hle2; have hle0 := Le.trans hle0 hle2
   rcases hlx : lessB x s with _ | _
   rotate_left
   ·
    have hmk : m < k := by
      by_cases hq : m < k
      · exact hq
      · have := h2 m x hx (by omega); rw [this] at hlx; cases hlx
    refine TL.nil ?_; refine TQ.then_n ?_; refine TC.cond_t rfl ?_; refine TC.region ?_; refine TL.move rfl rfl ?_; refine TL.add rfl rfl rfl ⟨by omega, by omega⟩ ?_; refine TL.assign rfl rfl ?_; refine TL.nil ?_; refine TQ.in_n ?_; refine TQ.toOwn (own' := own) rfl ?_
    first
      | exact TQ.next (j - (m + 1)) [(0, _), (1, _), (6, _), (7, _), (8, _)] (by omega) ⟨rfl, rfl, rfl, rfl, rfl, trivial⟩ ⟨m + 1, j, rfl, by omega, by omega, by omega, by omega, by simp, rfl, hle0⟩
      | exact TQ.next (m - i) [(0, _), (1, _), (6, _), (7, _), (8, _)] (by omega) ⟨rfl, rfl, rfl, rfl, rfl, trivial⟩ ⟨i, m, rfl, by omega, by omega, by omega, by omega, by simp, rfl, hle0⟩
   ·
    have hmk : k ≤ m := by
      by_cases hq : m < k
      · have := h1 m x hx hq; rw [this] at hlx; cases hlx
      · omega
    refine TL.nil ?_; refine TQ.then_n ?_; refine TC.cond_f rfl ?_; refine TC.region ?_; refine TL.move rfl rfl ?_; refine TL.assign rfl rfl ?_; refine TL.nil ?_; refine TQ.in_n ?_; refine TQ.toOwn (own' := own) rfl ?_
    first
      | exact TQ.next (j - (m + 1)) [(0, _), (1, _), (6, _), (7, _), (8, _)] (by omega) ⟨rfl, rfl, rfl, rfl, rfl, trivial⟩ ⟨m + 1, j, rfl, by omega, by omega, by omega, by omega, by simp, rfl, hle0⟩
      | exact TQ.next (m - i) [(0, _), (1, _), (6, _), (7, _), (8, _)] (by omega) ⟨rfl, rfl, rfl, rfl, rfl, trivial⟩ ⟨i, m, rfl, by omega, by omega, by omega, by omega, by simp, rfl, hle0⟩
  ·
   refine TL.nil ?_; refine TQ.then_n ?_; refine TC.cond_f rfl ?_; refine TC.exit ?_; refine TQ.then_e ?_; refine TQ.then_e ?_; refine TQ.in_e ?_; refine TQ.then_n ?_; refine TC.seq ?_
   obtain rfl : i = k := by omega
   refine TC.region ?_; refine TL.move rfl rfl ?_; refine TL.move rfl rfl ?_; refine TL.move rfl rfl ?_
   refine TL.lssB rfl rfl rfl (fun hkl => ?_) (fun hkl => ?_)
   ·
    obtain ⟨x, hx⟩ : ∃ x, l[i]? = some x := ⟨_, List.getElem?_eq_getElem (by omega)⟩
    obtain ⟨b1, q1, rfl, hpx⟩ := vals_at hA (i := i) (u := .string x) (by simp [hx])
    refine TL.move rfl rfl ?_; refine TL.gyes rfl rfl rfl ?_; refine TL.move rfl rfl ?_; refine TL.gyes rfl rfl rfl ?_; refine TL.move rfl rfl ?_; refine TL.gyes rfl rfl rfl ?_; refine TL.indexAddr (i) rfl rfl rfl (by omega) rfl ?_; refine TL.gyes rfl rfl rfl ?_; refine TL.load_imm rfl (hpx) rfl ?_; refine TL.gyes rfl rfl rfl ?_; refine TL.move rfl rfl ?_; refine TL.gyes rfl rfl rfl ?_
    refine TL.eqlSB rfl rfl rfl (fun hxs => ?_) (fun hxs => ?_)
    ·
     refine TL.gyes rfl rfl rfl ?_; refine TL.move rfl rfl ?_; refine TL.gno rfl rfl rfl rfl ?_; refine TL.gno rfl rfl rfl rfl ?_; refine TL.gno rfl rfl rfl rfl ?_; refine TL.gno rfl rfl rfl rfl ?_; refine TL.gno rfl rfl rfl rfl ?_; refine TL.gno rfl rfl rfl rfl ?_; refine TL.gund rfl rfl rfl ?_; refine TL.gund rfl rfl rfl ?_; refine TL.gno rfl rfl rfl rfl ?_; refine TL.gyes rfl rfl rfl ?_; refine TL.pickT rfl rfl rfl rfl ?_; refine TL.pickT rfl rfl rfl rfl ?_; refine TL.assign rfl rfl ?_; refine TL.assign rfl rfl ?_; refine TL.nil ?_; refine TQ.then_n ?_; refine TC.ret ?_; refine TQ.ret2 0 rfl rfl rfl ?_
     refine ⟨?_, rfl, hL⟩
     first
       | (rw [hx, hxs]; simp; done)
       | (rw [hx]; simp [hxs]; done)
       | (rw [List.getElem?_eq_none (by omega)]; rfl)
    ·
     refine TL.gyes rfl rfl rfl ?_; refine TL.move rfl rfl ?_; refine TL.gyes rfl rfl rfl ?_; refine TL.move rfl rfl ?_; refine TL.gyes rfl rfl rfl ?_; refine TL.move rfl rfl ?_; refine TL.gyes rfl rfl rfl ?_; refine TL.indexAddr (i) rfl rfl rfl (by omega) rfl ?_; refine TL.gyes rfl rfl rfl ?_; refine TL.load_imm rfl (hpx) rfl ?_; refine TL.gyes rfl rfl rfl ?_; refine TL.call (slices_isNaN) ⟨rfl, trivial⟩ rfl ?_
     rintro _ own H47 ⟨rfl, rfl, hle47⟩
     have hL := Le.trans hL hle47; refine TL.gyes rfl rfl rfl ?_; refine TL.move rfl rfl ?_; refine TL.gno rfl rfl rfl rfl ?_; refine TL.gno rfl rfl rfl rfl ?_; refine TL.gyes rfl rfl rfl ?_; refine TL.pickF rfl rfl rfl rfl ?_; refine TL.gyes rfl rfl rfl ?_; refine TL.pickF rfl rfl rfl rfl ?_; refine TL.pickT rfl rfl rfl rfl ?_; refine TL.assign rfl rfl ?_; refine TL.assign rfl rfl ?_; refine TL.nil ?_; refine TQ.then_n ?_; refine TC.ret ?_; refine TQ.ret2 0 rfl rfl rfl ?_
     refine ⟨?_, rfl, hL⟩
     first
       | (rw [hx, hxs]; simp; done)
       | (rw [hx]; simp [hxs]; done)
       | (rw [List.getElem?_eq_none (by omega)]; rfl)
   ·
    refine TL.move rfl rfl ?_; refine TL.gno rfl rfl rfl rfl ?_; refine TL.gno rfl rfl rfl rfl ?_; refine TL.gno rfl rfl rfl rfl ?_; refine TL.gno rfl rfl rfl rfl ?_; refine TL.gno rfl rfl rfl rfl ?_; refine TL.gno rfl rfl rfl rfl ?_; refine TL.gno rfl rfl rfl rfl ?_; refine TL.gund rfl rfl rfl ?_; refine TL.gund rfl rfl rfl ?_; refine TL.gund rfl rfl rfl ?_; refine TL.gund rfl rfl rfl ?_; refine TL.gund rfl rfl rfl ?_; refine TL.gund rfl rfl rfl ?_; refine TL.gund rfl rfl rfl ?_; refine TL.gund rfl rfl rfl ?_; refine TL.gund rfl rfl rfl ?_; refine TL.gno rfl rfl rfl rfl ?_; refine TL.pickF rfl rfl rfl rfl ?_; refine TL.assign rfl rfl ?_; refine TL.assign rfl rfl ?_; refine TL.nil ?_; refine TQ.then_n ?_; refine TC.ret ?_; refine TQ.ret2 0 rfl rfl rfl ?_
    refine ⟨?_, rfl, hL⟩
    first
      | (rw [hx, hxs]; simp; done)
      | (rw [hx]; simp [hxs]; done)
      | (rw [List.getElem?_eq_none (by omega)]; rfl)
def kws : List ByteArray := [⟨#[97, 116]⟩, ⟨#[98, 108, 111, 99, 107]⟩, ⟨#[98, 114, 101, 97, 107]⟩, ⟨#[99, 97, 115, 101]⟩, ⟨#[99, 111, 110, 115, 116]⟩, ⟨#[99, 111, 110, 116, 105, 110, 117, 101]⟩, ⟨#[100, 101, 102, 97, 117, 108, 116]⟩, ⟨#[101, 108, 115, 101]⟩, ⟨#[101, 120, 116, 101, 114, 110]⟩, ⟨#[102, 110]⟩, ⟨#[104, 97, 108, 116]⟩, ⟨#[105, 102]⟩, ⟨#[105, 110]⟩, ⟨#[108, 101, 116]⟩, ⟨#[108, 111, 111, 112]⟩, ⟨#[109, 101, 109, 49, 54]⟩, ⟨#[109, 101, 109, 56]⟩, ⟨#[111, 117, 116]⟩, ⟨#[112, 111, 108, 108]⟩, ⟨#[114, 101, 116, 117, 114, 110]⟩, ⟨#[114, 111, 109, 49, 54]⟩, ⟨#[114, 111, 109, 56]⟩, ⟨#[115, 49, 54]⟩, ⟨#[115, 116, 114, 117, 99, 116]⟩, ⟨#[115, 119, 105, 116, 99, 104]⟩, ⟨#[117, 49, 54]⟩, ⟨#[117, 56]⟩, ⟨#[117, 110, 105, 111, 110]⟩, ⟨#[118, 97, 114]⟩, ⟨#[119, 104, 105, 108, 101]⟩]
theorem syn_keywords {w0 : World} {H : Hp} {own : List Seg} : Fn Tryz.prog 223 [] w0 H own (fun r o H' => rd H' (.s 1 (strs kws)) r ∧ o = own ∧ Le H H') := by
  refine Fn.enter Tryz.func223 rfl Tryz.ntmps223 rfl ?_; have hL := Le.refl H; refine TC.seq ?_; refine TC.region ?_; refine TL.assign rfl rfl ?_; refine TL.nsr ?_
  refine TL.litF (r := [_, _, _, _, _, _, _, _, _, _, _, _, _, _, _, _, _, _, _, _, _, _, _, _, _, _, _, _, _, _]) [(0, [_]), (1, [_]), (2, [_]), (3, [_]), (4, [_]), (5, [_]), (6, [_]), (7, [_]), (8, [_]), (9, [_]), (10, [_]), (11, [_]), (12, [_]), (13, [_]), (14, [_]), (15, [_]), (16, [_]), (17, [_]), (18, [_]), (19, [_]), (20, [_]), (21, [_]), (22, [_]), (23, [_]), (24, [_]), (25, [_]), (26, [_]), (27, [_]), (28, [_]), (29, [_])] ⟨rfl, ⟨_, rfl, rfl⟩, rfl, ⟨_, rfl, rfl⟩, rfl, ⟨_, rfl, rfl⟩, rfl, ⟨_, rfl, rfl⟩, rfl, ⟨_, rfl, rfl⟩, rfl, ⟨_, rfl, rfl⟩, rfl, ⟨_, rfl, rfl⟩, rfl, ⟨_, rfl, rfl⟩, rfl, ⟨_, rfl, rfl⟩, rfl, ⟨_, rfl, rfl⟩, rfl, ⟨_, rfl, rfl⟩, rfl, ⟨_, rfl, rfl⟩, rfl, ⟨_, rfl, rfl⟩, rfl, ⟨_, rfl, rfl⟩, rfl, ⟨_, rfl, rfl⟩, rfl, ⟨_, rfl, rfl⟩, rfl, ⟨_, rfl, rfl⟩, rfl, ⟨_, rfl, rfl⟩, rfl, ⟨_, rfl, rfl⟩, rfl, ⟨_, rfl, rfl⟩, rfl, ⟨_, rfl, rfl⟩, rfl, ⟨_, rfl, rfl⟩, rfl, ⟨_, rfl, rfl⟩, rfl, ⟨_, rfl, rfl⟩, rfl, ⟨_, rfl, rfl⟩, rfl, ⟨_, rfl, rfl⟩, rfl, ⟨_, rfl, rfl⟩, rfl, ⟨_, rfl, rfl⟩, rfl, ⟨_, rfl, rfl⟩, rfl, ⟨_, rfl, rfl⟩, trivial⟩ rfl rfl rfl rfl ?_; intro g1
  refine TL.assign rfl rfl ?_; refine TL.nil ?_; refine TQ.then_n ?_; refine TC.ret ?_
  refine TQ.freeze (fun H1 hle hz_g1 => ?_)
  have hL := Le.trans hL hle; refine TQ.ret1 0 rfl rfl ?_
  exact ⟨rd.ofRow (Row.lit 9 1 30 g1 _ rfl (by omega)) hz_g1 (RdL.vals _) (Le.refl _), rfl, hL⟩
theorem less_irrefl : ∀ (a : List UInt8), Op.bytesLess a a = false
  | [] => rfl
  | x :: r => by simp [Op.bytesLess, less_irrefl r]
theorem less_trans : ∀ {a b c : List UInt8}, Op.bytesLess a b = true → Op.bytesLess b c = true → Op.bytesLess a c = true
  | _, [], _, h, _ => by simp [Op.bytesLess] at h
  | _, _ :: _, [], _, h => by simp [Op.bytesLess] at h
  | [], _ :: _, _ :: _, _, _ => rfl
  | x :: a, y :: b, z :: c, h, k => by
    simp only [Op.bytesLess, Bool.or_eq_true, decide_eq_true_eq, Bool.and_eq_true, beq_iff_eq] at h k ⊢
    rcases h with h | ⟨rfl, h⟩
    · rcases k with k | ⟨rfl, k⟩
      · exact .inl (UInt8.lt_trans h k)
      · exact .inl h
    · rcases k with k | ⟨rfl, k⟩
      · exact .inl k
      · exact .inr ⟨rfl, less_trans h k⟩
theorem sorted_split (s : ByteArray) : ∀ {l : List ByteArray}, l.Pairwise (fun a b => lessB a b = true) → ∃ k, k ≤ l.length ∧ (∀ i x, l[i]? = some x → i < k → lessB x s = true) ∧ (∀ i x, l[i]? = some x → k ≤ i → lessB x s = false)
  | [], _ => ⟨0, by simp, by simp, by simp⟩
  | a :: r, h => by
    rw [List.pairwise_cons] at h
    rcases Bool.eq_false_or_eq_true (lessB a s) with ha | ha
    · obtain ⟨k, h1, h2, h3⟩ := sorted_split s h.2
      refine ⟨k + 1, by simpa using h1, fun i x hx hi => ?_, fun i x hx hi => ?_⟩
      · cases i with
        | zero => simp at hx; subst hx; exact ha
        | succ i => exact h2 i x (by simpa using hx) (by omega)
      · cases i with
        | zero => omega
        | succ i => exact h3 i x (by simpa using hx) (by omega)
    · refine ⟨0, by simp, fun i x _ hi => by omega, fun i x hx _ => ?_⟩
      cases i with
      | zero => simp at hx; subst hx; exact ha
      | succ i =>
        have hm : x ∈ r := List.mem_of_getElem? (by simpa using hx)
        rcases Bool.eq_false_or_eq_true (lessB x s) with hx2 | hx2
        · have := less_trans (h.1 x hm) hx2
          have ha2 : Op.bytesLess a.toList s.toList = false := ha
          rw [ha2] at this; cases this
        · exact hx2
theorem found_mem {s : ByteArray} {l : List ByteArray} {k : Nat} (hs : l.Pairwise (fun a b => lessB a b = true)) (h1 : ∀ i x, l[i]? = some x → i < k → lessB x s = true) (h2 : ∀ i x, l[i]? = some x → k ≤ i → lessB x s = false) : decide (l[k]? = some s) = (l.any fun x => decide (x = s)) := by
  rw [Bool.eq_iff_iff]
  simp only [decide_eq_true_eq, List.any_eq_true]
  constructor
  · intro h; exact ⟨s, List.mem_of_getElem? h, rfl⟩
  · rintro ⟨_, h, rfl⟩
    obtain ⟨i, hi, hie⟩ := List.getElem_of_mem h
    subst hie
    have hg : l[i]? = some l[i] := List.getElem?_eq_getElem hi
    have hki : k ≤ i := by
      by_cases hq : k ≤ i
      · exact hq
      · have h3 := h1 i _ hg (by omega)
        have h4 := less_irrefl l[i].toList
        have h3' : Op.bytesLess l[i].toList l[i].toList = true := h3
        rw [h4] at h3'; cases h3'
    by_cases hq : k = i
    · subst hq; exact hg
    · have hk : k < l.length := by omega
      have h3 := List.pairwise_iff_getElem.1 hs k i hk hi (by omega)
      have h4 := h2 k _ (List.getElem?_eq_getElem hk) (Nat.le_refl _)
      rw [h4] at h3; cases h3
theorem kws_sorted : kws.Pairwise (fun a b => lessB a b = true) := by decide +kernel
def firstB (s : ByteArray) : Int := match s.data.toList with | [] => 0 | b :: _ => (b.toNat : Int)
def identN (s : ByteArray) : Bool := decide (s ≠ ⟨#[]⟩) && decide (s.size ≤ 24) && !(kws.any fun x => decide (x = s)) && letterN (firstB s) && decide (spanN (fun b => partN (b.toNat : Int)) s.data.toList 0 = s.size)
theorem first_at {s : ByteArray} (h : s ≠ ⟨#[]⟩) : ∃ b : UInt8, s[0]? = some b ∧ firstB s = (b.toNat : Int) := by
  obtain ⟨⟨l⟩⟩ := s
  cases l with
  | nil => exact absurd rfl h
  | cons b r => exact ⟨b, by rw [byte_get]; rfl, rfl⟩
theorem syn_identifier {s : ByteArray} (hs : s.size ≤ 9223372036854775806) {w0 : World} {H : Hp} {own : List Seg} : Fn Tryz.prog 203 [.string s] w0 H own (fun r o H' => r = .bool (identN s) ∧ o = own ∧ Le H H') := by
  obtain ⟨k, hk, hk1, hk2⟩ := sorted_split s kws_sorted
  have hfm := found_mem kws_sorted hk1 hk2
  have hkl : kws.length ≤ 1000000 := by decide
  refine Fn.enter Tryz.func203 rfl Tryz.ntmps203 rfl ?_; have hL := Le.refl H; refine TC.seq ?_; refine TC.region ?_; refine TL.assign rfl rfl ?_; refine TL.nsr ?_; refine TL.call (syn_keywords) trivial rfl ?_
  rintro vk own H2 ⟨hvk, rfl, hle2⟩
  have hL := Le.trans hL hle2; refine TL.move rfl rfl ?_; refine TL.call (binary_search hk hkl hk1 hk2 hvk) ⟨rfl, rfl, trivial⟩ rfl ?_
  rintro _ own H3 ⟨rfl, rfl, hle3⟩
  rw [hfm]
  have hL := Le.trans hL hle3; refine TL.move rfl rfl ?_; refine TL.extract rfl rfl rfl ?_; refine TL.extract rfl rfl rfl ?_; refine TL.assign rfl rfl ?_; refine TL.assign rfl rfl ?_; refine TL.nil ?_; refine TQ.then_n ?_; refine TC.seq ?_
  rcases hin : (kws.any fun x => decide (x = s)) with _ | _
  ·
   refine TC.region ?_; refine TL.move rfl rfl ?_
   refine TL.neqSB rfl rfl rfl (fun hne => ?_) (fun hne => ?_)
   ·
    obtain ⟨b0, hb0, hf0⟩ := first_at hne
    refine TL.move rfl rfl ?_; refine TL.gyes rfl rfl rfl ?_; refine TL.move rfl rfl ?_; refine TL.gyes rfl rfl rfl ?_; refine TL.len_string rfl rfl ?_; refine TL.gyes rfl rfl rfl ?_
    refine TL.leqB rfl rfl rfl (fun h24 => ?_) (fun h24 => ?_)
    ·
     refine TL.pickT rfl rfl rfl rfl ?_; refine TL.move rfl rfl ?_; refine TL.gyes rfl rfl rfl ?_; refine TL.move rfl rfl ?_; refine TL.gyes rfl rfl rfl ?_; refine TL.not rfl rfl ?_; refine TL.pickT rfl rfl rfl rfl ?_; refine TL.move rfl rfl ?_; refine TL.gyes rfl rfl rfl ?_; refine TL.move rfl rfl ?_; refine TL.gyes rfl rfl rfl ?_; refine TL.indexS 0 rfl rfl rfl hb0 rfl ?_
     rw [← hf0]
     refine TL.gyes rfl rfl rfl ?_; refine TL.call (syn_letter) ⟨rfl, trivial⟩ rfl ?_
     rintro _ own H5 ⟨rfl, rfl, hle5⟩
     have hL := Le.trans hL hle5
     rcases hl0 : letterN (firstB s) with _ | _
     rotate_left
     ·
      refine TL.pickT rfl rfl rfl rfl ?_; refine TL.move rfl rfl ?_; refine TL.gyes rfl rfl rfl ?_; refine TL.move rfl rfl ?_; refine TL.gyes rfl rfl rfl ?_; refine TL.call (syn_span (p := fun b => partN (b.toNat : Int)) hs (fun b H1 own1 => syn_part)) ⟨rfl, rfl, trivial⟩ rfl ?_
      rintro _ own H6 ⟨rfl, rfl, hle6⟩
      have hL := Le.trans hL hle6; refine TL.gyes rfl rfl rfl ?_; refine TL.move rfl rfl ?_; refine TL.gyes rfl rfl rfl ?_; refine TL.len_string rfl rfl ?_; refine TL.gyes rfl rfl rfl ?_
      refine TL.eqlB rfl rfl rfl (fun hsp => ?_) (fun hsp => ?_)
      ·
       refine TL.pickT rfl rfl rfl rfl ?_; refine TL.assign rfl rfl ?_; refine TL.nil ?_; refine TQ.then_n ?_; refine TC.ret ?_; refine TQ.ret1 0 rfl rfl ?_
       refine ⟨?_, rfl, hL⟩
       have e : ∀ b c : Bool, b = c → Value.bool b = Value.bool c := fun _ _ h => by rw [h]
       refine e _ _ ?_
       clear e
       unfold identN
       first
         | (rw [decide_eq_true hne, decide_eq_true (show s.size ≤ 24 by omega), hin, hl0, decide_eq_true (show spanN (fun b => partN (b.toNat : Int)) s.data.toList 0 = s.size by omega)]; rfl)
         | (rw [decide_eq_false (show ¬ spanN (fun b => partN (b.toNat : Int)) s.data.toList 0 = s.size by omega), Bool.and_false]; done)
         | (rw [hl0]; simp; done)
         | (rw [hin]; simp; done)
         | (rw [decide_eq_false (show ¬ s.size ≤ 24 by omega)]; simp; done)
         | (rw [decide_eq_false (fun h => h hne)]; simp; done)
      ·
       refine TL.pickT rfl rfl rfl rfl ?_; refine TL.assign rfl rfl ?_; refine TL.nil ?_; refine TQ.then_n ?_; refine TC.ret ?_; refine TQ.ret1 0 rfl rfl ?_
       refine ⟨?_, rfl, hL⟩
       have e : ∀ b c : Bool, b = c → Value.bool b = Value.bool c := fun _ _ h => by rw [h]
       refine e _ _ ?_
       clear e
       unfold identN
       first
         | (rw [decide_eq_true hne, decide_eq_true (show s.size ≤ 24 by omega), hin, hl0, decide_eq_true (show spanN (fun b => partN (b.toNat : Int)) s.data.toList 0 = s.size by omega)]; rfl)
         | (rw [decide_eq_false (show ¬ spanN (fun b => partN (b.toNat : Int)) s.data.toList 0 = s.size by omega), Bool.and_false]; done)
         | (rw [hl0]; simp; done)
         | (rw [hin]; simp; done)
         | (rw [decide_eq_false (show ¬ s.size ≤ 24 by omega)]; simp; done)
         | (rw [decide_eq_false (fun h => h hne)]; simp; done)
     ·
      refine TL.pickT rfl rfl rfl rfl ?_; refine TL.move rfl rfl ?_; refine TL.gno rfl rfl rfl rfl ?_; refine TL.gno rfl rfl rfl rfl ?_; refine TL.gno rfl rfl rfl rfl ?_; refine TL.gno rfl rfl rfl rfl ?_; refine TL.gno rfl rfl rfl rfl ?_; refine TL.pickF rfl rfl rfl rfl ?_; refine TL.assign rfl rfl ?_; refine TL.nil ?_; refine TQ.then_n ?_; refine TC.ret ?_; refine TQ.ret1 0 rfl rfl ?_
      refine ⟨?_, rfl, hL⟩
      have e : ∀ b c : Bool, b = c → Value.bool b = Value.bool c := fun _ _ h => by rw [h]
      refine e _ _ ?_
      clear e
      unfold identN
      first
        | (rw [decide_eq_true hne, decide_eq_true (show s.size ≤ 24 by omega), hin, hl0, decide_eq_true (show spanN (fun b => partN (b.toNat : Int)) s.data.toList 0 = s.size by omega)]; rfl)
        | (rw [decide_eq_false (show ¬ spanN (fun b => partN (b.toNat : Int)) s.data.toList 0 = s.size by omega), Bool.and_false]; done)
        | (rw [hl0]; simp; done)
        | (rw [hin]; simp; done)
        | (rw [decide_eq_false (show ¬ s.size ≤ 24 by omega)]; simp; done)
        | (rw [decide_eq_false (fun h => h hne)]; simp; done)
    ·
     refine TL.pickT rfl rfl rfl rfl ?_; refine TL.move rfl rfl ?_; refine TL.gno rfl rfl rfl rfl ?_; refine TL.gno rfl rfl rfl rfl ?_; refine TL.pickF rfl rfl rfl rfl ?_; refine TL.move rfl rfl ?_; refine TL.gno rfl rfl rfl rfl ?_; refine TL.gno rfl rfl rfl rfl ?_; refine TL.gno rfl rfl rfl rfl ?_; refine TL.pickF rfl rfl rfl rfl ?_; refine TL.move rfl rfl ?_; refine TL.gno rfl rfl rfl rfl ?_; refine TL.gno rfl rfl rfl rfl ?_; refine TL.gno rfl rfl rfl rfl ?_; refine TL.gno rfl rfl rfl rfl ?_; refine TL.gno rfl rfl rfl rfl ?_; refine TL.pickF rfl rfl rfl rfl ?_; refine TL.assign rfl rfl ?_; refine TL.nil ?_; refine TQ.then_n ?_; refine TC.ret ?_; refine TQ.ret1 0 rfl rfl ?_
     refine ⟨?_, rfl, hL⟩
     have e : ∀ b c : Bool, b = c → Value.bool b = Value.bool c := fun _ _ h => by rw [h]
     refine e _ _ ?_
     clear e
     unfold identN
     first
       | (rw [decide_eq_true hne, decide_eq_true (show s.size ≤ 24 by omega), hin, hl0, decide_eq_true (show spanN (fun b => partN (b.toNat : Int)) s.data.toList 0 = s.size by omega)]; rfl)
       | (rw [decide_eq_false (show ¬ spanN (fun b => partN (b.toNat : Int)) s.data.toList 0 = s.size by omega), Bool.and_false]; done)
       | (rw [hl0]; simp; done)
       | (rw [hin]; simp; done)
       | (rw [decide_eq_false (show ¬ s.size ≤ 24 by omega)]; simp; done)
       | (rw [decide_eq_false (fun h => h hne)]; simp; done)
   ·
    refine TL.move rfl rfl ?_; refine TL.gno rfl rfl rfl rfl ?_; refine TL.gno rfl rfl rfl rfl ?_; refine TL.gno rfl rfl rfl rfl ?_; refine TL.pickF rfl rfl rfl rfl ?_; refine TL.move rfl rfl ?_; refine TL.gno rfl rfl rfl rfl ?_; refine TL.gno rfl rfl rfl rfl ?_; refine TL.pickF rfl rfl rfl rfl ?_; refine TL.move rfl rfl ?_; refine TL.gno rfl rfl rfl rfl ?_; refine TL.gno rfl rfl rfl rfl ?_; refine TL.gno rfl rfl rfl rfl ?_; refine TL.pickF rfl rfl rfl rfl ?_; refine TL.move rfl rfl ?_; refine TL.gno rfl rfl rfl rfl ?_; refine TL.gno rfl rfl rfl rfl ?_; refine TL.gno rfl rfl rfl rfl ?_; refine TL.gno rfl rfl rfl rfl ?_; refine TL.gno rfl rfl rfl rfl ?_; refine TL.pickF rfl rfl rfl rfl ?_; refine TL.assign rfl rfl ?_; refine TL.nil ?_; refine TQ.then_n ?_; refine TC.ret ?_; refine TQ.ret1 0 rfl rfl ?_
    refine ⟨?_, rfl, hL⟩
    have e : ∀ b c : Bool, b = c → Value.bool b = Value.bool c := fun _ _ h => by rw [h]
    refine e _ _ ?_
    clear e
    unfold identN
    first
      | (rw [decide_eq_true hne, decide_eq_true (show s.size ≤ 24 by omega), hin, hl0, decide_eq_true (show spanN (fun b => partN (b.toNat : Int)) s.data.toList 0 = s.size by omega)]; rfl)
      | (rw [decide_eq_false (show ¬ spanN (fun b => partN (b.toNat : Int)) s.data.toList 0 = s.size by omega), Bool.and_false]; done)
      | (rw [hl0]; simp; done)
      | (rw [hin]; simp; done)
      | (rw [decide_eq_false (show ¬ s.size ≤ 24 by omega)]; simp; done)
      | (rw [decide_eq_false (fun h => h hne)]; simp; done)
  ·
   refine TC.region ?_; refine TL.move rfl rfl ?_
   refine TL.neqSB rfl rfl rfl (fun hne => ?_) (fun hne => ?_)
   ·
    obtain ⟨b0, hb0, hf0⟩ := first_at hne
    refine TL.move rfl rfl ?_; refine TL.gyes rfl rfl rfl ?_; refine TL.move rfl rfl ?_; refine TL.gyes rfl rfl rfl ?_; refine TL.len_string rfl rfl ?_; refine TL.gyes rfl rfl rfl ?_
    refine TL.leqB rfl rfl rfl (fun h24 => ?_) (fun h24 => ?_)
    ·
     refine TL.pickT rfl rfl rfl rfl ?_; refine TL.move rfl rfl ?_; refine TL.gyes rfl rfl rfl ?_; refine TL.move rfl rfl ?_; refine TL.gyes rfl rfl rfl ?_; refine TL.not rfl rfl ?_; refine TL.pickT rfl rfl rfl rfl ?_; refine TL.move rfl rfl ?_; refine TL.gno rfl rfl rfl rfl ?_; refine TL.gno rfl rfl rfl rfl ?_; refine TL.gno rfl rfl rfl rfl ?_; refine TL.pickF rfl rfl rfl rfl ?_; refine TL.move rfl rfl ?_; refine TL.gno rfl rfl rfl rfl ?_; refine TL.gno rfl rfl rfl rfl ?_; refine TL.gno rfl rfl rfl rfl ?_; refine TL.gno rfl rfl rfl rfl ?_; refine TL.gno rfl rfl rfl rfl ?_; refine TL.pickF rfl rfl rfl rfl ?_; refine TL.assign rfl rfl ?_; refine TL.nil ?_; refine TQ.then_n ?_; refine TC.ret ?_; refine TQ.ret1 0 rfl rfl ?_
     refine ⟨?_, rfl, hL⟩
     have e : ∀ b c : Bool, b = c → Value.bool b = Value.bool c := fun _ _ h => by rw [h]
     refine e _ _ ?_
     clear e
     unfold identN
     first
       | (rw [decide_eq_true hne, decide_eq_true (show s.size ≤ 24 by omega), hin, hl0, decide_eq_true (show spanN (fun b => partN (b.toNat : Int)) s.data.toList 0 = s.size by omega)]; rfl)
       | (rw [decide_eq_false (show ¬ spanN (fun b => partN (b.toNat : Int)) s.data.toList 0 = s.size by omega), Bool.and_false]; done)
       | (rw [hl0]; simp; done)
       | (rw [hin]; simp; done)
       | (rw [decide_eq_false (show ¬ s.size ≤ 24 by omega)]; simp; done)
       | (rw [decide_eq_false (fun h => h hne)]; simp; done)
    ·
     refine TL.pickT rfl rfl rfl rfl ?_; refine TL.move rfl rfl ?_; refine TL.gno rfl rfl rfl rfl ?_; refine TL.gno rfl rfl rfl rfl ?_; refine TL.pickF rfl rfl rfl rfl ?_; refine TL.move rfl rfl ?_; refine TL.gno rfl rfl rfl rfl ?_; refine TL.gno rfl rfl rfl rfl ?_; refine TL.gno rfl rfl rfl rfl ?_; refine TL.pickF rfl rfl rfl rfl ?_; refine TL.move rfl rfl ?_; refine TL.gno rfl rfl rfl rfl ?_; refine TL.gno rfl rfl rfl rfl ?_; refine TL.gno rfl rfl rfl rfl ?_; refine TL.gno rfl rfl rfl rfl ?_; refine TL.gno rfl rfl rfl rfl ?_; refine TL.pickF rfl rfl rfl rfl ?_; refine TL.assign rfl rfl ?_; refine TL.nil ?_; refine TQ.then_n ?_; refine TC.ret ?_; refine TQ.ret1 0 rfl rfl ?_
     refine ⟨?_, rfl, hL⟩
     have e : ∀ b c : Bool, b = c → Value.bool b = Value.bool c := fun _ _ h => by rw [h]
     refine e _ _ ?_
     clear e
     unfold identN
     first
       | (rw [decide_eq_true hne, decide_eq_true (show s.size ≤ 24 by omega), hin, hl0, decide_eq_true (show spanN (fun b => partN (b.toNat : Int)) s.data.toList 0 = s.size by omega)]; rfl)
       | (rw [decide_eq_false (show ¬ spanN (fun b => partN (b.toNat : Int)) s.data.toList 0 = s.size by omega), Bool.and_false]; done)
       | (rw [hl0]; simp; done)
       | (rw [hin]; simp; done)
       | (rw [decide_eq_false (show ¬ s.size ≤ 24 by omega)]; simp; done)
       | (rw [decide_eq_false (fun h => h hne)]; simp; done)
   ·
    refine TL.move rfl rfl ?_; refine TL.gno rfl rfl rfl rfl ?_; refine TL.gno rfl rfl rfl rfl ?_; refine TL.gno rfl rfl rfl rfl ?_; refine TL.pickF rfl rfl rfl rfl ?_; refine TL.move rfl rfl ?_; refine TL.gno rfl rfl rfl rfl ?_; refine TL.gno rfl rfl rfl rfl ?_; refine TL.pickF rfl rfl rfl rfl ?_; refine TL.move rfl rfl ?_; refine TL.gno rfl rfl rfl rfl ?_; refine TL.gno rfl rfl rfl rfl ?_; refine TL.gno rfl rfl rfl rfl ?_; refine TL.pickF rfl rfl rfl rfl ?_; refine TL.move rfl rfl ?_; refine TL.gno rfl rfl rfl rfl ?_; refine TL.gno rfl rfl rfl rfl ?_; refine TL.gno rfl rfl rfl rfl ?_; refine TL.gno rfl rfl rfl rfl ?_; refine TL.gno rfl rfl rfl rfl ?_; refine TL.pickF rfl rfl rfl rfl ?_; refine TL.assign rfl rfl ?_; refine TL.nil ?_; refine TQ.then_n ?_; refine TC.ret ?_; refine TQ.ret1 0 rfl rfl ?_
    refine ⟨?_, rfl, hL⟩
    have e : ∀ b c : Bool, b = c → Value.bool b = Value.bool c := fun _ _ h => by rw [h]
    refine e _ _ ?_
    clear e
    unfold identN
    first
      | (rw [decide_eq_true hne, decide_eq_true (show s.size ≤ 24 by omega), hin, hl0, decide_eq_true (show spanN (fun b => partN (b.toNat : Int)) s.data.toList 0 = s.size by omega)]; rfl)
      | (rw [decide_eq_false (show ¬ spanN (fun b => partN (b.toNat : Int)) s.data.toList 0 = s.size by omega), Bool.and_false]; done)
      | (rw [hl0]; simp; done)
      | (rw [hin]; simp; done)
      | (rw [decide_eq_false (show ¬ s.size ≤ 24 by omega)]; simp; done)
      | (rw [decide_eq_false (fun h => h hne)]; simp; done)

end Go.Proofs.YteeamfkhkbfilaaGreat.K

namespace Go.Proofs.YteeamfkhkbfilaaGreat.K
open Go Go.RowKit Go.Proofs

/-- The elements of a slice, as cells. -/
theorem elems_at {α : Type} {dx : α → List D} {sz : Nat} (hsz : 0 < sz) (hd : ∀ x, (dx x).length = sz) {H : Hp} {l : List α} {A : Option Addr} {n c : Nat} (h : rd H (.s sz (l.flatMap dx)) (.slice A n c)) {i : Nat} {x : α} (hi : l[i]? = some x) :
    ∃ b o cells, A = some ⟨b, o, none⟩ ∧ hAt H b (o + i * sz) cells ∧ RdL H (dx x) cells ∧ cells.length = sz := by
  have hfl : ∀ l : List α, (l.flatMap dx).length = l.length * sz := by
    intro l
    induction l with
    | nil => simp
    | cons a r ih => simp only [List.flatMap_cons, List.length_append, hd, ih, List.length_cons, Nat.add_mul]; omega
  have hlt : i < l.length := (List.getElem?_eq_some_iff.1 hi).1
  have hn : n = l.length := by
    obtain ⟨A', n', c', e, h1, _⟩ := h.s_len
    injection e with e1 e2 e3
    subst e2
    rw [hfl] at h1
    exact (Nat.eq_of_mul_eq_mul_right hsz h1).symm
  obtain ⟨_, b, o, rfl, hr⟩ := h.s_at (by omega)
  obtain ⟨l1, l2, rfl, rfl⟩ := split_at hi
  have hr' : rds H b (o + l1.length * sz) (dx x) := by
    refine rds.mk fun j y hy => ?_
    have hj : j < (dx x).length := (List.getElem?_eq_some_iff.1 hy).1
    have := hr.get (l1.length * sz + j) y (by
      rw [List.flatMap_append, List.getElem?_append_right (by rw [hfl]; omega), hfl, List.flatMap_cons, List.getElem?_append_left (by omega)]
      rw [← hy]; congr 1; omega)
    obtain ⟨u, h1, h2⟩ := this
    exact ⟨u, by rw [← h1]; congr 1; omega, h2⟩
  obtain ⟨vs, h1, h2⟩ := hr'.cells
  exact ⟨b, o, vs, rfl, h1, h2, by rw [← h2.len, hd]⟩
theorem elems_len {α : Type} {dx : α → List D} {sz : Nat} (hsz : 0 < sz) (hd : ∀ x, (dx x).length = sz) {H : Hp} {l : List α} {v : Value} (h : rd H (.s sz (l.flatMap dx)) v) : ∃ A c, v = .slice A l.length c ∧ l.length ≤ c ∧ c ≤ 9223372036854775807 := by
  have hfl : ∀ l : List α, (l.flatMap dx).length = l.length * sz := by
    intro l
    induction l with
    | nil => simp
    | cons a r ih => simp only [List.flatMap_cons, List.length_append, hd, ih, List.length_cons, Nat.add_mul]; omega
  obtain ⟨A, n, c, rfl, h1, h2, h3⟩ := h.s_len
  rw [hfl] at h1
  have : n = l.length := (Nat.eq_of_mul_eq_mul_right hsz h1).symm
  subst this
  exact ⟨A, c, rfl, h2, h3⟩
/-- Where the first lies that satisfies p. -/
def idxI {α : Type} (p : α → Bool) : List α → Nat → Int
  | [], _ => -1
  | x :: r, k => if p x then (k : Int) else idxI p r (k + 1)
theorem idxI_any {α : Type} (p : α → Bool) : ∀ (l : List α) (k : Nat), decide (0 ≤ idxI p l k) = l.any p
  | [], _ => rfl
  | x :: r, k => by
    have ih := idxI_any p r (k + 1)
    rcases Bool.eq_false_or_eq_true (p x) with h | h
    · simp [idxI, h]
    · simp only [idxI, h, List.any_cons, Bool.false_or, Bool.false_eq_true, if_false]
      exact ih
theorem list_3 {α : Type} {l : List α} (h : l.length = 3) : ∃ c0 c1 c2, l = [c0, c1, c2] := by
  match l, h with
  | [c0, c1, c2], _ => exact ⟨c0, c1, c2, rfl⟩
theorem list_5 {α : Type} {l : List α} (h : l.length = 5) : ∃ c0 c1 c2 c3 c4, l = [c0, c1, c2, c3, c4] := by
  match l, h with
  | [c0, c1, c2, c3, c4], _ => exact ⟨c0, c1, c2, c3, c4, rfl⟩
theorem list_8 {α : Type} {l : List α} (h : l.length = 8) : ∃ c0 c1 c2 c3 c4 c5 c6 c7, l = [c0, c1, c2, c3, c4, c5, c6, c7] := by
  match l, h with
  | [c0, c1, c2, c3, c4, c5, c6, c7], _ => exact ⟨c0, c1, c2, c3, c4, c5, c6, c7, rfl⟩
theorem list_10 {α : Type} {l : List α} (h : l.length = 10) : ∃ c0 c1 c2 c3 c4 c5 c6 c7 c8 c9, l = [c0, c1, c2, c3, c4, c5, c6, c7, c8, c9] := by
  match l, h with
  | [c0, c1, c2, c3, c4, c5, c6, c7, c8, c9], _ => exact ⟨c0, c1, c2, c3, c4, c5, c6, c7, c8, c9, rfl⟩
theorem index_TypeDef {α : Type} {dx : α → List D} (hd : ∀ x, (dx x).length = 3) {p : α → Bool} {l : List α} {w0 : World} {H : Hp} {own : List Seg} {fc : FuncId} [Callable Tryz.prog fc] {gc : Nat} {v : Value} (hA : rd H (.s 3 (l.flatMap dx)) v) (hcl : ∀ x ∈ l, ∀ (c0 c1 c2 : Value) (H1 : Hp) (own1 : List Seg), Le H H1 → RdL H1 (dx x) [c0, c1, c2] → Fn Tryz.prog fc [.agg #[c0, c1, c2], .pointer (some ⟨gc, 0, none⟩)] w0 H1 own1 (fun r o H' => r = .bool ((p) x) ∧ o = own1 ∧ Le H1 H')) :
    Fn Tryz.prog 221 [v, .func (.func fc) #[] #[.pointer (some ⟨gc, 0, none⟩)]] w0 H own (fun r o H' => r = .int .i64 (idxI p l 0) ∧ o = own ∧ Le H H') := by
  obtain ⟨A, c, rfl, hc1, hc2⟩ := elems_len (by omega) hd hA
  refine Fn.enter Tryz.func221 rfl Tryz.ntmps221 rfl ?_; have hL := Le.refl H; refine TC.seq ?_; refine TC.region ?_; refine TL.assign rfl rfl ?_; refine TL.nil ?_; refine TQ.then_n ?_; refine TC.seq ?_; refine TC.seq ?_; refine TC.region ?_; refine TL.move rfl rfl ?_; refine TL.len_slice rfl rfl ?_; refine TL.move rfl rfl ?_; refine TL.nil ?_; refine TQ.then_n ?_; refine TC.block ?_; refine TC.loop (fun n env' own' H' => ∃ k, n = l.length - k ∧ k ≤ l.length ∧ idxI p l 0 = idxI p (l.drop k) k ∧ env' = [(0, .slice A l.length c), (1, .func (.func fc) #[] #[.pointer (some ⟨gc, 0, none⟩)]), (7, .int .i64 (l.length : Int)), (8, .int .i64 (k : Int))] ∧ own' = own ∧ Le H H') l.length [(0, _), (1, _), (7, _), (8, _)] ⟨rfl, rfl, rfl, rfl, trivial⟩ ⟨0, by omega, by omega, rfl, rfl, rfl, Le.refl _⟩ ?_
  rintro n _ own H1 ⟨k, rfl, hk1, hix, rfl, rfl, hle0⟩
  have hL := Le.trans hL hle0; have hA := rd.mono hle0 hA; refine TC.seq ?_; refine TC.region ?_
  refine TL.lssB rfl rfl rfl (fun hlt => ?_) (fun hlt => ?_)
  ·
   obtain ⟨x, hx⟩ : ∃ x, l[k]? = some x := ⟨_, List.getElem?_eq_getElem (by omega)⟩
   obtain ⟨b1, o1, cs, rfl, hp, hpr, hcl1⟩ := elems_at (by omega) hd hA hx
   obtain ⟨c0, c1, c2, rfl⟩ := list_3 hcl1
   rw [drop_cons hx] at hix
   refine TL.nil ?_; refine TQ.then_n ?_; refine TC.seq ?_; refine TC.cond_t rfl ?_; refine TC.skip ?_; refine TQ.then_n ?_; refine TC.seq ?_; refine TC.block ?_; refine TC.seq ?_; refine TC.region ?_; refine TL.move rfl rfl ?_; refine TL.assign rfl rfl ?_; refine TL.nsr ?_; refine TL.move rfl rfl ?_; refine TL.move rfl rfl ?_; refine TL.move rfl rfl ?_; refine TL.indexAddr (k) rfl rfl rfl (by omega) rfl ?_; refine TL.load_immA rfl (hp) rfl rfl ?_; refine TL.callV (vs := [_]) rfl (hcl x (List.mem_of_getElem? hx) _ _ _ _ _ hL hpr) ⟨rfl, trivial⟩ rfl rfl ?_
   rintro _ own H2 ⟨rfl, rfl, hle2⟩
   have hL := Le.trans hL hle2; have hle0 := Le.trans hle0 hle2
   rcases hpx : p x with _ | _
   rotate_left
   ·
    refine TL.nil ?_; refine TQ.then_n ?_; refine TC.cond_t rfl ?_; refine TC.seq ?_; refine TC.region ?_; refine TL.move rfl rfl ?_; refine TL.assign rfl rfl ?_; refine TL.nil ?_; refine TQ.then_n ?_; refine TC.ret ?_; refine TQ.in_r ?_; refine TQ.then_r ?_; refine TQ.then_r ?_; refine TQ.in_r ?_; refine TQ.then_r ?_; refine TQ.ret1 0 rfl rfl ?_
    first
      | exact ⟨by rw [hix]; simp only [idxI, hpx, if_true], rfl, hL⟩
      | exact ⟨by rw [hix, List.drop_of_length_le (by omega)]; rfl, rfl, hL⟩
   ·
    refine TL.nil ?_; refine TQ.then_n ?_; refine TC.cond_f rfl ?_; refine TC.skip ?_; refine TQ.in_n ?_; refine TQ.then_n ?_; refine TC.region ?_; refine TL.add rfl rfl rfl ⟨by omega, by omega⟩ ?_; refine TL.move rfl rfl ?_; refine TL.nil ?_; refine TQ.toOwn (own' := own) rfl ?_
    refine TQ.next (l.length - (k + 1)) [(0, _), (1, _), (7, _), (8, _)] (by omega) ⟨rfl, rfl, rfl, rfl, trivial⟩ ⟨k + 1, rfl, by omega, ?_, by simp, rfl, hle0⟩
    rw [hix]
    simp only [idxI, hpx, Bool.false_eq_true, if_false]
  ·
   refine TL.nil ?_; refine TQ.then_n ?_; refine TC.seq ?_; refine TC.cond_f rfl ?_; refine TC.exit ?_; refine TQ.then_e ?_; refine TQ.then_e ?_; refine TQ.in_e ?_; refine TQ.nsr ?_; refine TL.assign rfl rfl ?_; refine TL.nil ?_; refine TQ.then_n ?_; refine TC.ret ?_; refine TQ.ret1 0 rfl rfl ?_
   first
     | exact ⟨by rw [hix]; simp only [idxI, hpx, if_true], rfl, hL⟩
     | exact ⟨by rw [hix, List.drop_of_length_le (by omega)]; rfl, rfl, hL⟩
theorem contains_TypeDef {α : Type} {dx : α → List D} (hd : ∀ x, (dx x).length = 3) {p : α → Bool} {l : List α} {w0 : World} {H : Hp} {own : List Seg} {fc : FuncId} [Callable Tryz.prog fc] {gc : Nat} {v : Value} (hA : rd H (.s 3 (l.flatMap dx)) v) (hcl : ∀ x ∈ l, ∀ (c0 c1 c2 : Value) (H1 : Hp) (own1 : List Seg), Le H H1 → RdL H1 (dx x) [c0, c1, c2] → Fn Tryz.prog fc [.agg #[c0, c1, c2], .pointer (some ⟨gc, 0, none⟩)] w0 H1 own1 (fun r o H' => r = .bool ((p) x) ∧ o = own1 ∧ Le H1 H')) :
    Fn Tryz.prog 201 [v, .func (.func fc) #[] #[.pointer (some ⟨gc, 0, none⟩)]] w0 H own (fun r o H' => r = .bool (l.any p) ∧ o = own ∧ Le H H') := by
  refine Fn.enter Tryz.func201 rfl Tryz.ntmps201 rfl ?_; have hL := Le.refl H; refine TC.seq ?_; refine TC.region ?_; refine TL.assign rfl rfl ?_; refine TL.nsr ?_; refine TL.move rfl rfl ?_; refine TL.move rfl rfl ?_; refine TL.call (index_TypeDef hd hA hcl) ⟨rfl, rfl, trivial⟩ rfl ?_
  rintro _ own H2 ⟨rfl, rfl, hle2⟩
  have hL := Le.trans hL hle2; refine TL.geq rfl rfl rfl ?_
  rw [idxI_any]
  refine TL.assign rfl rfl ?_; refine TL.nil ?_; refine TQ.then_n ?_; refine TC.ret ?_; refine TQ.ret1 0 rfl rfl ?_
  exact ⟨rfl, rfl, hL⟩
theorem notok_TypeDef {α : Type} {dx : α → List D} (hd : ∀ x, (dx x).length = 3) {p : α → Bool} {l : List α} {w0 : World} {H : Hp} {fok : FuncId} [Callable Tryz.prog fok] {gc : Nat} (hgc : cel H gc 0 = some (.func (.func fok) #[] #[])) (hok : ∀ x ∈ l, ∀ (c0 c1 c2 : Value) (H1 : Hp) (own1 : List Seg), Le H H1 → RdL H1 (dx x) [c0, c1, c2] → Fn Tryz.prog fok [.agg #[c0, c1, c2]] w0 H1 own1 (fun r o H' => r = .bool ((p) x) ∧ o = own1 ∧ Le H1 H')) :
    ∀ x ∈ l, ∀ (c0 c1 c2 : Value) (H1 : Hp) (own1 : List Seg), Le H H1 → RdL H1 (dx x) [c0, c1, c2] → Fn Tryz.prog 202 [.agg #[c0, c1, c2], .pointer (some ⟨gc, 0, none⟩)] w0 H1 own1 (fun r o H' => r = .bool ((fun x => !p x) x) ∧ o = own1 ∧ Le H1 H') := by
  intro x hx c0 c1 c2 H1 own1 hle hr; have hgc := cel_le hle hgc; refine Fn.enter Tryz.func202 rfl Tryz.ntmps202 rfl ?_; have hL := Le.refl H1; refine TC.seq ?_; refine TC.region ?_
  refine TL.box (c := #[_, _, _]) rfl rfl rfl ?_; intro g2; refine TL.assign rfl rfl ?_; refine TL.nsr ?_; refine TL.load_imm rfl (hgc) rfl ?_; refine TL.load_ownA 0 0 [_, _, _] rfl rfl rfl ⟨rfl, rfl, rfl, trivial⟩ rfl rfl ?_; refine TL.callV (vs := [_]) rfl (hok x hx _ _ _ _ _ (Le.trans hle hL) hr) ⟨rfl, trivial⟩ rfl rfl ?_
  rintro _ _ H2 ⟨rfl, rfl, hle2⟩
  have hL := Le.trans hL hle2; refine TL.not rfl rfl ?_; refine TL.assign rfl rfl ?_; refine TL.nil ?_; refine TQ.then_n ?_; refine TC.ret ?_; refine TQ.ret1 1 rfl rfl ?_
  exact ⟨rfl, rfl, hL⟩
theorem every_TypeDef {α : Type} {dx : α → List D} (hd : ∀ x, (dx x).length = 3) {p : α → Bool} {l : List α} {w0 : World} {H : Hp} {own : List Seg} {fok : FuncId} [Callable Tryz.prog fok] {v : Value} (hA : rd H (.s 3 (l.flatMap dx)) v) (hok : ∀ x ∈ l, ∀ (c0 c1 c2 : Value) (H1 : Hp) (own1 : List Seg), Le H H1 → RdL H1 (dx x) [c0, c1, c2] → Fn Tryz.prog fok [.agg #[c0, c1, c2]] w0 H1 own1 (fun r o H' => r = .bool ((p) x) ∧ o = own1 ∧ Le H1 H')) :
    Fn Tryz.prog 183 [v, .func (.func fok) #[] #[]] w0 H own (fun r o H' => r = .bool (l.all p) ∧ o = own ∧ Le H H') := by
  refine Fn.enter Tryz.func183 rfl Tryz.ntmps183 rfl ?_; have hL := Le.refl H; refine TC.seq ?_; refine TC.region ?_
  refine TL.box (c := #[_]) rfl rfl rfl ?_; intro g3; refine TL.assign rfl rfl ?_; refine TL.nsr ?_
  refine TL.freeze (fun H1 hle hz_g3 => ?_)
  have hL := Le.trans hL hle; have hA := rd.mono hle hA
  have hgc : cel H1 g3 0 = some (.func (.func fok) #[] #[]) := by
    have h := hz_g3 _ (List.mem_singleton.2 rfl)
    simp [cel, h]
  refine TL.move rfl rfl ?_; refine TL.makeFunc (vs := []) (us := [_]) trivial ⟨rfl, trivial⟩ rfl ?_; refine TL.call (contains_TypeDef hd hA (notok_TypeDef hd hgc (fun x hx c0 c1 c2 H1 own1 hle hr => hok x hx c0 c1 c2 H1 own1 (Le.trans hL hle) hr))) ⟨rfl, rfl, trivial⟩ rfl ?_
  rintro _ own H2 ⟨rfl, rfl, hle2⟩
  have hL := Le.trans hL hle2; refine TL.not rfl rfl ?_; refine TL.assign rfl rfl ?_; refine TL.nil ?_; refine TQ.then_n ?_; refine TC.ret ?_; refine TQ.ret1 0 rfl rfl ?_
  exact ⟨by rw [← List.not_all_eq_any_not, Bool.not_not], rfl, hL⟩
theorem index_Global {α : Type} {dx : α → List D} (hd : ∀ x, (dx x).length = 8) {p : α → Bool} {l : List α} {w0 : World} {H : Hp} {own : List Seg} {fc : FuncId} [Callable Tryz.prog fc] {gc : Nat} {v : Value} (hA : rd H (.s 8 (l.flatMap dx)) v) (hcl : ∀ x ∈ l, ∀ (c0 c1 c2 c3 c4 c5 c6 c7 : Value) (H1 : Hp) (own1 : List Seg), Le H H1 → RdL H1 (dx x) [c0, c1, c2, c3, c4, c5, c6, c7] → Fn Tryz.prog fc [.agg #[c0, c1, c2, c3, c4, c5, c6, c7], .pointer (some ⟨gc, 0, none⟩)] w0 H1 own1 (fun r o H' => r = .bool ((p) x) ∧ o = own1 ∧ Le H1 H')) :
    Fn Tryz.prog 229 [v, .func (.func fc) #[] #[.pointer (some ⟨gc, 0, none⟩)]] w0 H own (fun r o H' => r = .int .i64 (idxI p l 0) ∧ o = own ∧ Le H H') := by
  obtain ⟨A, c, rfl, hc1, hc2⟩ := elems_len (by omega) hd hA
  refine Fn.enter Tryz.func229 rfl Tryz.ntmps229 rfl ?_; have hL := Le.refl H; refine TC.seq ?_; refine TC.region ?_; refine TL.assign rfl rfl ?_; refine TL.nil ?_; refine TQ.then_n ?_; refine TC.seq ?_; refine TC.seq ?_; refine TC.region ?_; refine TL.move rfl rfl ?_; refine TL.len_slice rfl rfl ?_; refine TL.move rfl rfl ?_; refine TL.nil ?_; refine TQ.then_n ?_; refine TC.block ?_; refine TC.loop (fun n env' own' H' => ∃ k, n = l.length - k ∧ k ≤ l.length ∧ idxI p l 0 = idxI p (l.drop k) k ∧ env' = [(0, .slice A l.length c), (1, .func (.func fc) #[] #[.pointer (some ⟨gc, 0, none⟩)]), (7, .int .i64 (l.length : Int)), (8, .int .i64 (k : Int))] ∧ own' = own ∧ Le H H') l.length [(0, _), (1, _), (7, _), (8, _)] ⟨rfl, rfl, rfl, rfl, trivial⟩ ⟨0, by omega, by omega, rfl, rfl, rfl, Le.refl _⟩ ?_
  rintro n _ own H1 ⟨k, rfl, hk1, hix, rfl, rfl, hle0⟩
  have hL := Le.trans hL hle0; have hA := rd.mono hle0 hA; refine TC.seq ?_; refine TC.region ?_
  refine TL.lssB rfl rfl rfl (fun hlt => ?_) (fun hlt => ?_)
  ·
   obtain ⟨x, hx⟩ : ∃ x, l[k]? = some x := ⟨_, List.getElem?_eq_getElem (by omega)⟩
   obtain ⟨b1, o1, cs, rfl, hp, hpr, hcl1⟩ := elems_at (by omega) hd hA hx
   obtain ⟨c0, c1, c2, c3, c4, c5, c6, c7, rfl⟩ := list_8 hcl1
   rw [drop_cons hx] at hix
   refine TL.nil ?_; refine TQ.then_n ?_; refine TC.seq ?_; refine TC.cond_t rfl ?_; refine TC.skip ?_; refine TQ.then_n ?_; refine TC.seq ?_; refine TC.block ?_; refine TC.seq ?_; refine TC.region ?_; refine TL.move rfl rfl ?_; refine TL.assign rfl rfl ?_; refine TL.nsr ?_; refine TL.move rfl rfl ?_; refine TL.move rfl rfl ?_; refine TL.move rfl rfl ?_; refine TL.indexAddr (k) rfl rfl rfl (by omega) rfl ?_; refine TL.load_immA rfl (hp) rfl rfl ?_; refine TL.callV (vs := [_]) rfl (hcl x (List.mem_of_getElem? hx) _ _ _ _ _ _ _ _ _ _ hL hpr) ⟨rfl, trivial⟩ rfl rfl ?_
   rintro _ own H2 ⟨rfl, rfl, hle2⟩
   have hL := Le.trans hL hle2; have hle0 := Le.trans hle0 hle2
   rcases hpx : p x with _ | _
   rotate_left
   ·
    refine TL.nil ?_; refine TQ.then_n ?_; refine TC.cond_t rfl ?_; refine TC.seq ?_; refine TC.region ?_; refine TL.move rfl rfl ?_; refine TL.assign rfl rfl ?_; refine TL.nil ?_; refine TQ.then_n ?_; refine TC.ret ?_; refine TQ.in_r ?_; refine TQ.then_r ?_; refine TQ.then_r ?_; refine TQ.in_r ?_; refine TQ.then_r ?_; refine TQ.ret1 0 rfl rfl ?_
    first
      | exact ⟨by rw [hix]; simp only [idxI, hpx, if_true], rfl, hL⟩
      | exact ⟨by rw [hix, List.drop_of_length_le (by omega)]; rfl, rfl, hL⟩
   ·
    refine TL.nil ?_; refine TQ.then_n ?_; refine TC.cond_f rfl ?_; refine TC.skip ?_; refine TQ.in_n ?_; refine TQ.then_n ?_; refine TC.region ?_; refine TL.add rfl rfl rfl ⟨by omega, by omega⟩ ?_; refine TL.move rfl rfl ?_; refine TL.nil ?_; refine TQ.toOwn (own' := own) rfl ?_
    refine TQ.next (l.length - (k + 1)) [(0, _), (1, _), (7, _), (8, _)] (by omega) ⟨rfl, rfl, rfl, rfl, trivial⟩ ⟨k + 1, rfl, by omega, ?_, by simp, rfl, hle0⟩
    rw [hix]
    simp only [idxI, hpx, Bool.false_eq_true, if_false]
  ·
   refine TL.nil ?_; refine TQ.then_n ?_; refine TC.seq ?_; refine TC.cond_f rfl ?_; refine TC.exit ?_; refine TQ.then_e ?_; refine TQ.then_e ?_; refine TQ.in_e ?_; refine TQ.nsr ?_; refine TL.assign rfl rfl ?_; refine TL.nil ?_; refine TQ.then_n ?_; refine TC.ret ?_; refine TQ.ret1 0 rfl rfl ?_
   first
     | exact ⟨by rw [hix]; simp only [idxI, hpx, if_true], rfl, hL⟩
     | exact ⟨by rw [hix, List.drop_of_length_le (by omega)]; rfl, rfl, hL⟩
theorem contains_Global {α : Type} {dx : α → List D} (hd : ∀ x, (dx x).length = 8) {p : α → Bool} {l : List α} {w0 : World} {H : Hp} {own : List Seg} {fc : FuncId} [Callable Tryz.prog fc] {gc : Nat} {v : Value} (hA : rd H (.s 8 (l.flatMap dx)) v) (hcl : ∀ x ∈ l, ∀ (c0 c1 c2 c3 c4 c5 c6 c7 : Value) (H1 : Hp) (own1 : List Seg), Le H H1 → RdL H1 (dx x) [c0, c1, c2, c3, c4, c5, c6, c7] → Fn Tryz.prog fc [.agg #[c0, c1, c2, c3, c4, c5, c6, c7], .pointer (some ⟨gc, 0, none⟩)] w0 H1 own1 (fun r o H' => r = .bool ((p) x) ∧ o = own1 ∧ Le H1 H')) :
    Fn Tryz.prog 206 [v, .func (.func fc) #[] #[.pointer (some ⟨gc, 0, none⟩)]] w0 H own (fun r o H' => r = .bool (l.any p) ∧ o = own ∧ Le H H') := by
  refine Fn.enter Tryz.func206 rfl Tryz.ntmps206 rfl ?_; have hL := Le.refl H; refine TC.seq ?_; refine TC.region ?_; refine TL.assign rfl rfl ?_; refine TL.nsr ?_; refine TL.move rfl rfl ?_; refine TL.move rfl rfl ?_; refine TL.call (index_Global hd hA hcl) ⟨rfl, rfl, trivial⟩ rfl ?_
  rintro _ own H2 ⟨rfl, rfl, hle2⟩
  have hL := Le.trans hL hle2; refine TL.geq rfl rfl rfl ?_
  rw [idxI_any]
  refine TL.assign rfl rfl ?_; refine TL.nil ?_; refine TQ.then_n ?_; refine TC.ret ?_; refine TQ.ret1 0 rfl rfl ?_
  exact ⟨rfl, rfl, hL⟩
theorem notok_Global {α : Type} {dx : α → List D} (hd : ∀ x, (dx x).length = 8) {p : α → Bool} {l : List α} {w0 : World} {H : Hp} {fok : FuncId} [Callable Tryz.prog fok] {gc : Nat} (hgc : cel H gc 0 = some (.func (.func fok) #[] #[])) (hok : ∀ x ∈ l, ∀ (c0 c1 c2 c3 c4 c5 c6 c7 : Value) (H1 : Hp) (own1 : List Seg), Le H H1 → RdL H1 (dx x) [c0, c1, c2, c3, c4, c5, c6, c7] → Fn Tryz.prog fok [.agg #[c0, c1, c2, c3, c4, c5, c6, c7]] w0 H1 own1 (fun r o H' => r = .bool ((p) x) ∧ o = own1 ∧ Le H1 H')) :
    ∀ x ∈ l, ∀ (c0 c1 c2 c3 c4 c5 c6 c7 : Value) (H1 : Hp) (own1 : List Seg), Le H H1 → RdL H1 (dx x) [c0, c1, c2, c3, c4, c5, c6, c7] → Fn Tryz.prog 207 [.agg #[c0, c1, c2, c3, c4, c5, c6, c7], .pointer (some ⟨gc, 0, none⟩)] w0 H1 own1 (fun r o H' => r = .bool ((fun x => !p x) x) ∧ o = own1 ∧ Le H1 H') := by
  intro x hx c0 c1 c2 c3 c4 c5 c6 c7 H1 own1 hle hr; have hgc := cel_le hle hgc; refine Fn.enter Tryz.func207 rfl Tryz.ntmps207 rfl ?_; have hL := Le.refl H1; refine TC.seq ?_; refine TC.region ?_
  refine TL.box (c := #[_, _, _, _, _, _, _, _]) rfl rfl rfl ?_; intro g2; refine TL.assign rfl rfl ?_; refine TL.nsr ?_; refine TL.load_imm rfl (hgc) rfl ?_; refine TL.load_ownA 0 0 [_, _, _, _, _, _, _, _] rfl rfl rfl ⟨rfl, rfl, rfl, rfl, rfl, rfl, rfl, rfl, trivial⟩ rfl rfl ?_; refine TL.callV (vs := [_]) rfl (hok x hx _ _ _ _ _ _ _ _ _ _ (Le.trans hle hL) hr) ⟨rfl, trivial⟩ rfl rfl ?_
  rintro _ _ H2 ⟨rfl, rfl, hle2⟩
  have hL := Le.trans hL hle2; refine TL.not rfl rfl ?_; refine TL.assign rfl rfl ?_; refine TL.nil ?_; refine TQ.then_n ?_; refine TC.ret ?_; refine TQ.ret1 1 rfl rfl ?_
  exact ⟨rfl, rfl, hL⟩
theorem every_Global {α : Type} {dx : α → List D} (hd : ∀ x, (dx x).length = 8) {p : α → Bool} {l : List α} {w0 : World} {H : Hp} {own : List Seg} {fok : FuncId} [Callable Tryz.prog fok] {v : Value} (hA : rd H (.s 8 (l.flatMap dx)) v) (hok : ∀ x ∈ l, ∀ (c0 c1 c2 c3 c4 c5 c6 c7 : Value) (H1 : Hp) (own1 : List Seg), Le H H1 → RdL H1 (dx x) [c0, c1, c2, c3, c4, c5, c6, c7] → Fn Tryz.prog fok [.agg #[c0, c1, c2, c3, c4, c5, c6, c7]] w0 H1 own1 (fun r o H' => r = .bool ((p) x) ∧ o = own1 ∧ Le H1 H')) :
    Fn Tryz.prog 185 [v, .func (.func fok) #[] #[]] w0 H own (fun r o H' => r = .bool (l.all p) ∧ o = own ∧ Le H H') := by
  refine Fn.enter Tryz.func185 rfl Tryz.ntmps185 rfl ?_; have hL := Le.refl H; refine TC.seq ?_; refine TC.region ?_
  refine TL.box (c := #[_]) rfl rfl rfl ?_; intro g3; refine TL.assign rfl rfl ?_; refine TL.nsr ?_
  refine TL.freeze (fun H1 hle hz_g3 => ?_)
  have hL := Le.trans hL hle; have hA := rd.mono hle hA
  have hgc : cel H1 g3 0 = some (.func (.func fok) #[] #[]) := by
    have h := hz_g3 _ (List.mem_singleton.2 rfl)
    simp [cel, h]
  refine TL.move rfl rfl ?_; refine TL.makeFunc (vs := []) (us := [_]) trivial ⟨rfl, trivial⟩ rfl ?_; refine TL.call (contains_Global hd hA (notok_Global hd hgc (fun x hx c0 c1 c2 c3 c4 c5 c6 c7 H1 own1 hle hr => hok x hx c0 c1 c2 c3 c4 c5 c6 c7 H1 own1 (Le.trans hL hle) hr))) ⟨rfl, rfl, trivial⟩ rfl ?_
  rintro _ own H2 ⟨rfl, rfl, hle2⟩
  have hL := Le.trans hL hle2; refine TL.not rfl rfl ?_; refine TL.assign rfl rfl ?_; refine TL.nil ?_; refine TQ.then_n ?_; refine TC.ret ?_; refine TQ.ret1 0 rfl rfl ?_
  exact ⟨by rw [← List.not_all_eq_any_not, Bool.not_not], rfl, hL⟩
theorem index_Func {α : Type} {dx : α → List D} (hd : ∀ x, (dx x).length = 10) {p : α → Bool} {l : List α} {w0 : World} {H : Hp} {own : List Seg} {fc : FuncId} [Callable Tryz.prog fc] {gc : Nat} {v : Value} (hA : rd H (.s 10 (l.flatMap dx)) v) (hcl : ∀ x ∈ l, ∀ (c0 c1 c2 c3 c4 c5 c6 c7 c8 c9 : Value) (H1 : Hp) (own1 : List Seg), Le H H1 → RdL H1 (dx x) [c0, c1, c2, c3, c4, c5, c6, c7, c8, c9] → Fn Tryz.prog fc [.agg #[c0, c1, c2, c3, c4, c5, c6, c7, c8, c9], .pointer (some ⟨gc, 0, none⟩)] w0 H1 own1 (fun r o H' => r = .bool ((p) x) ∧ o = own1 ∧ Le H1 H')) :
    Fn Tryz.prog 231 [v, .func (.func fc) #[] #[.pointer (some ⟨gc, 0, none⟩)]] w0 H own (fun r o H' => r = .int .i64 (idxI p l 0) ∧ o = own ∧ Le H H') := by
  obtain ⟨A, c, rfl, hc1, hc2⟩ := elems_len (by omega) hd hA
  refine Fn.enter Tryz.func231 rfl Tryz.ntmps231 rfl ?_; have hL := Le.refl H; refine TC.seq ?_; refine TC.region ?_; refine TL.assign rfl rfl ?_; refine TL.nil ?_; refine TQ.then_n ?_; refine TC.seq ?_; refine TC.seq ?_; refine TC.region ?_; refine TL.move rfl rfl ?_; refine TL.len_slice rfl rfl ?_; refine TL.move rfl rfl ?_; refine TL.nil ?_; refine TQ.then_n ?_; refine TC.block ?_; refine TC.loop (fun n env' own' H' => ∃ k, n = l.length - k ∧ k ≤ l.length ∧ idxI p l 0 = idxI p (l.drop k) k ∧ env' = [(0, .slice A l.length c), (1, .func (.func fc) #[] #[.pointer (some ⟨gc, 0, none⟩)]), (7, .int .i64 (l.length : Int)), (8, .int .i64 (k : Int))] ∧ own' = own ∧ Le H H') l.length [(0, _), (1, _), (7, _), (8, _)] ⟨rfl, rfl, rfl, rfl, trivial⟩ ⟨0, by omega, by omega, rfl, rfl, rfl, Le.refl _⟩ ?_
  rintro n _ own H1 ⟨k, rfl, hk1, hix, rfl, rfl, hle0⟩
  have hL := Le.trans hL hle0; have hA := rd.mono hle0 hA; refine TC.seq ?_; refine TC.region ?_
  refine TL.lssB rfl rfl rfl (fun hlt => ?_) (fun hlt => ?_)
  ·
   obtain ⟨x, hx⟩ : ∃ x, l[k]? = some x := ⟨_, List.getElem?_eq_getElem (by omega)⟩
   obtain ⟨b1, o1, cs, rfl, hp, hpr, hcl1⟩ := elems_at (by omega) hd hA hx
   obtain ⟨c0, c1, c2, c3, c4, c5, c6, c7, c8, c9, rfl⟩ := list_10 hcl1
   rw [drop_cons hx] at hix
   refine TL.nil ?_; refine TQ.then_n ?_; refine TC.seq ?_; refine TC.cond_t rfl ?_; refine TC.skip ?_; refine TQ.then_n ?_; refine TC.seq ?_; refine TC.block ?_; refine TC.seq ?_; refine TC.region ?_; refine TL.move rfl rfl ?_; refine TL.assign rfl rfl ?_; refine TL.nsr ?_; refine TL.move rfl rfl ?_; refine TL.move rfl rfl ?_; refine TL.move rfl rfl ?_; refine TL.indexAddr (k) rfl rfl rfl (by omega) rfl ?_; refine TL.load_immA rfl (hp) rfl rfl ?_; refine TL.callV (vs := [_]) rfl (hcl x (List.mem_of_getElem? hx) _ _ _ _ _ _ _ _ _ _ _ _ hL hpr) ⟨rfl, trivial⟩ rfl rfl ?_
   rintro _ own H2 ⟨rfl, rfl, hle2⟩
   have hL := Le.trans hL hle2; have hle0 := Le.trans hle0 hle2
   rcases hpx : p x with _ | _
   rotate_left
   ·
    refine TL.nil ?_; refine TQ.then_n ?_; refine TC.cond_t rfl ?_; refine TC.seq ?_; refine TC.region ?_; refine TL.move rfl rfl ?_; refine TL.assign rfl rfl ?_; refine TL.nil ?_; refine TQ.then_n ?_; refine TC.ret ?_; refine TQ.in_r ?_; refine TQ.then_r ?_; refine TQ.then_r ?_; refine TQ.in_r ?_; refine TQ.then_r ?_; refine TQ.ret1 0 rfl rfl ?_
    first
      | exact ⟨by rw [hix]; simp only [idxI, hpx, if_true], rfl, hL⟩
      | exact ⟨by rw [hix, List.drop_of_length_le (by omega)]; rfl, rfl, hL⟩
   ·
    refine TL.nil ?_; refine TQ.then_n ?_; refine TC.cond_f rfl ?_; refine TC.skip ?_; refine TQ.in_n ?_; refine TQ.then_n ?_; refine TC.region ?_; refine TL.add rfl rfl rfl ⟨by omega, by omega⟩ ?_; refine TL.move rfl rfl ?_; refine TL.nil ?_; refine TQ.toOwn (own' := own) rfl ?_
    refine TQ.next (l.length - (k + 1)) [(0, _), (1, _), (7, _), (8, _)] (by omega) ⟨rfl, rfl, rfl, rfl, trivial⟩ ⟨k + 1, rfl, by omega, ?_, by simp, rfl, hle0⟩
    rw [hix]
    simp only [idxI, hpx, Bool.false_eq_true, if_false]
  ·
   refine TL.nil ?_; refine TQ.then_n ?_; refine TC.seq ?_; refine TC.cond_f rfl ?_; refine TC.exit ?_; refine TQ.then_e ?_; refine TQ.then_e ?_; refine TQ.in_e ?_; refine TQ.nsr ?_; refine TL.assign rfl rfl ?_; refine TL.nil ?_; refine TQ.then_n ?_; refine TC.ret ?_; refine TQ.ret1 0 rfl rfl ?_
   first
     | exact ⟨by rw [hix]; simp only [idxI, hpx, if_true], rfl, hL⟩
     | exact ⟨by rw [hix, List.drop_of_length_le (by omega)]; rfl, rfl, hL⟩
theorem contains_Func {α : Type} {dx : α → List D} (hd : ∀ x, (dx x).length = 10) {p : α → Bool} {l : List α} {w0 : World} {H : Hp} {own : List Seg} {fc : FuncId} [Callable Tryz.prog fc] {gc : Nat} {v : Value} (hA : rd H (.s 10 (l.flatMap dx)) v) (hcl : ∀ x ∈ l, ∀ (c0 c1 c2 c3 c4 c5 c6 c7 c8 c9 : Value) (H1 : Hp) (own1 : List Seg), Le H H1 → RdL H1 (dx x) [c0, c1, c2, c3, c4, c5, c6, c7, c8, c9] → Fn Tryz.prog fc [.agg #[c0, c1, c2, c3, c4, c5, c6, c7, c8, c9], .pointer (some ⟨gc, 0, none⟩)] w0 H1 own1 (fun r o H' => r = .bool ((p) x) ∧ o = own1 ∧ Le H1 H')) :
    Fn Tryz.prog 209 [v, .func (.func fc) #[] #[.pointer (some ⟨gc, 0, none⟩)]] w0 H own (fun r o H' => r = .bool (l.any p) ∧ o = own ∧ Le H H') := by
  refine Fn.enter Tryz.func209 rfl Tryz.ntmps209 rfl ?_; have hL := Le.refl H; refine TC.seq ?_; refine TC.region ?_; refine TL.assign rfl rfl ?_; refine TL.nsr ?_; refine TL.move rfl rfl ?_; refine TL.move rfl rfl ?_; refine TL.call (index_Func hd hA hcl) ⟨rfl, rfl, trivial⟩ rfl ?_
  rintro _ own H2 ⟨rfl, rfl, hle2⟩
  have hL := Le.trans hL hle2; refine TL.geq rfl rfl rfl ?_
  rw [idxI_any]
  refine TL.assign rfl rfl ?_; refine TL.nil ?_; refine TQ.then_n ?_; refine TC.ret ?_; refine TQ.ret1 0 rfl rfl ?_
  exact ⟨rfl, rfl, hL⟩
theorem notok_Func {α : Type} {dx : α → List D} (hd : ∀ x, (dx x).length = 10) {p : α → Bool} {l : List α} {w0 : World} {H : Hp} {fok : FuncId} [Callable Tryz.prog fok] {gc : Nat} (hgc : cel H gc 0 = some (.func (.func fok) #[] #[])) (hok : ∀ x ∈ l, ∀ (c0 c1 c2 c3 c4 c5 c6 c7 c8 c9 : Value) (H1 : Hp) (own1 : List Seg), Le H H1 → RdL H1 (dx x) [c0, c1, c2, c3, c4, c5, c6, c7, c8, c9] → Fn Tryz.prog fok [.agg #[c0, c1, c2, c3, c4, c5, c6, c7, c8, c9]] w0 H1 own1 (fun r o H' => r = .bool ((p) x) ∧ o = own1 ∧ Le H1 H')) :
    ∀ x ∈ l, ∀ (c0 c1 c2 c3 c4 c5 c6 c7 c8 c9 : Value) (H1 : Hp) (own1 : List Seg), Le H H1 → RdL H1 (dx x) [c0, c1, c2, c3, c4, c5, c6, c7, c8, c9] → Fn Tryz.prog 210 [.agg #[c0, c1, c2, c3, c4, c5, c6, c7, c8, c9], .pointer (some ⟨gc, 0, none⟩)] w0 H1 own1 (fun r o H' => r = .bool ((fun x => !p x) x) ∧ o = own1 ∧ Le H1 H') := by
  intro x hx c0 c1 c2 c3 c4 c5 c6 c7 c8 c9 H1 own1 hle hr; have hgc := cel_le hle hgc; refine Fn.enter Tryz.func210 rfl Tryz.ntmps210 rfl ?_; have hL := Le.refl H1; refine TC.seq ?_; refine TC.region ?_
  refine TL.box (c := #[_, _, _, _, _, _, _, _, _, _]) rfl rfl rfl ?_; intro g2; refine TL.assign rfl rfl ?_; refine TL.nsr ?_; refine TL.load_imm rfl (hgc) rfl ?_; refine TL.load_ownA 0 0 [_, _, _, _, _, _, _, _, _, _] rfl rfl rfl ⟨rfl, rfl, rfl, rfl, rfl, rfl, rfl, rfl, rfl, rfl, trivial⟩ rfl rfl ?_; refine TL.callV (vs := [_]) rfl (hok x hx _ _ _ _ _ _ _ _ _ _ _ _ (Le.trans hle hL) hr) ⟨rfl, trivial⟩ rfl rfl ?_
  rintro _ _ H2 ⟨rfl, rfl, hle2⟩
  have hL := Le.trans hL hle2; refine TL.not rfl rfl ?_; refine TL.assign rfl rfl ?_; refine TL.nil ?_; refine TQ.then_n ?_; refine TC.ret ?_; refine TQ.ret1 1 rfl rfl ?_
  exact ⟨rfl, rfl, hL⟩
theorem every_Func {α : Type} {dx : α → List D} (hd : ∀ x, (dx x).length = 10) {p : α → Bool} {l : List α} {w0 : World} {H : Hp} {own : List Seg} {fok : FuncId} [Callable Tryz.prog fok] {v : Value} (hA : rd H (.s 10 (l.flatMap dx)) v) (hok : ∀ x ∈ l, ∀ (c0 c1 c2 c3 c4 c5 c6 c7 c8 c9 : Value) (H1 : Hp) (own1 : List Seg), Le H H1 → RdL H1 (dx x) [c0, c1, c2, c3, c4, c5, c6, c7, c8, c9] → Fn Tryz.prog fok [.agg #[c0, c1, c2, c3, c4, c5, c6, c7, c8, c9]] w0 H1 own1 (fun r o H' => r = .bool ((p) x) ∧ o = own1 ∧ Le H1 H')) :
    Fn Tryz.prog 187 [v, .func (.func fok) #[] #[]] w0 H own (fun r o H' => r = .bool (l.all p) ∧ o = own ∧ Le H H') := by
  refine Fn.enter Tryz.func187 rfl Tryz.ntmps187 rfl ?_; have hL := Le.refl H; refine TC.seq ?_; refine TC.region ?_
  refine TL.box (c := #[_]) rfl rfl rfl ?_; intro g3; refine TL.assign rfl rfl ?_; refine TL.nsr ?_
  refine TL.freeze (fun H1 hle hz_g3 => ?_)
  have hL := Le.trans hL hle; have hA := rd.mono hle hA
  have hgc : cel H1 g3 0 = some (.func (.func fok) #[] #[]) := by
    have h := hz_g3 _ (List.mem_singleton.2 rfl)
    simp [cel, h]
  refine TL.move rfl rfl ?_; refine TL.makeFunc (vs := []) (us := [_]) trivial ⟨rfl, trivial⟩ rfl ?_; refine TL.call (contains_Func hd hA (notok_Func hd hgc (fun x hx c0 c1 c2 c3 c4 c5 c6 c7 c8 c9 H1 own1 hle hr => hok x hx c0 c1 c2 c3 c4 c5 c6 c7 c8 c9 H1 own1 (Le.trans hL hle) hr))) ⟨rfl, rfl, trivial⟩ rfl ?_
  rintro _ own H2 ⟨rfl, rfl, hle2⟩
  have hL := Le.trans hL hle2; refine TL.not rfl rfl ?_; refine TL.assign rfl rfl ?_; refine TL.nil ?_; refine TQ.then_n ?_; refine TC.ret ?_; refine TQ.ret1 0 rfl rfl ?_
  exact ⟨by rw [← List.not_all_eq_any_not, Bool.not_not], rfl, hL⟩
theorem index_Field {α : Type} {dx : α → List D} (hd : ∀ x, (dx x).length = 5) {p : α → Bool} {l : List α} {w0 : World} {H : Hp} {own : List Seg} {fc : FuncId} [Callable Tryz.prog fc] {gc : Nat} {v : Value} (hA : rd H (.s 5 (l.flatMap dx)) v) (hcl : ∀ x ∈ l, ∀ (c0 c1 c2 c3 c4 : Value) (H1 : Hp) (own1 : List Seg), Le H H1 → RdL H1 (dx x) [c0, c1, c2, c3, c4] → Fn Tryz.prog fc [.agg #[c0, c1, c2, c3, c4], .pointer (some ⟨gc, 0, none⟩)] w0 H1 own1 (fun r o H' => r = .bool ((p) x) ∧ o = own1 ∧ Le H1 H')) :
    Fn Tryz.prog 238 [v, .func (.func fc) #[] #[.pointer (some ⟨gc, 0, none⟩)]] w0 H own (fun r o H' => r = .int .i64 (idxI p l 0) ∧ o = own ∧ Le H H') := by
  obtain ⟨A, c, rfl, hc1, hc2⟩ := elems_len (by omega) hd hA
  refine Fn.enter Tryz.func238 rfl Tryz.ntmps238 rfl ?_; have hL := Le.refl H; refine TC.seq ?_; refine TC.region ?_; refine TL.assign rfl rfl ?_; refine TL.nil ?_; refine TQ.then_n ?_; refine TC.seq ?_; refine TC.seq ?_; refine TC.region ?_; refine TL.move rfl rfl ?_; refine TL.len_slice rfl rfl ?_; refine TL.move rfl rfl ?_; refine TL.nil ?_; refine TQ.then_n ?_; refine TC.block ?_; refine TC.loop (fun n env' own' H' => ∃ k, n = l.length - k ∧ k ≤ l.length ∧ idxI p l 0 = idxI p (l.drop k) k ∧ env' = [(0, .slice A l.length c), (1, .func (.func fc) #[] #[.pointer (some ⟨gc, 0, none⟩)]), (7, .int .i64 (l.length : Int)), (8, .int .i64 (k : Int))] ∧ own' = own ∧ Le H H') l.length [(0, _), (1, _), (7, _), (8, _)] ⟨rfl, rfl, rfl, rfl, trivial⟩ ⟨0, by omega, by omega, rfl, rfl, rfl, Le.refl _⟩ ?_
  rintro n _ own H1 ⟨k, rfl, hk1, hix, rfl, rfl, hle0⟩
  have hL := Le.trans hL hle0; have hA := rd.mono hle0 hA; refine TC.seq ?_; refine TC.region ?_
  refine TL.lssB rfl rfl rfl (fun hlt => ?_) (fun hlt => ?_)
  ·
   obtain ⟨x, hx⟩ : ∃ x, l[k]? = some x := ⟨_, List.getElem?_eq_getElem (by omega)⟩
   obtain ⟨b1, o1, cs, rfl, hp, hpr, hcl1⟩ := elems_at (by omega) hd hA hx
   obtain ⟨c0, c1, c2, c3, c4, rfl⟩ := list_5 hcl1
   rw [drop_cons hx] at hix
   refine TL.nil ?_; refine TQ.then_n ?_; refine TC.seq ?_; refine TC.cond_t rfl ?_; refine TC.skip ?_; refine TQ.then_n ?_; refine TC.seq ?_; refine TC.block ?_; refine TC.seq ?_; refine TC.region ?_; refine TL.move rfl rfl ?_; refine TL.assign rfl rfl ?_; refine TL.nsr ?_; refine TL.move rfl rfl ?_; refine TL.move rfl rfl ?_; refine TL.move rfl rfl ?_; refine TL.indexAddr (k) rfl rfl rfl (by omega) rfl ?_; refine TL.load_immA rfl (hp) rfl rfl ?_; refine TL.callV (vs := [_]) rfl (hcl x (List.mem_of_getElem? hx) _ _ _ _ _ _ _ hL hpr) ⟨rfl, trivial⟩ rfl rfl ?_
   rintro _ own H2 ⟨rfl, rfl, hle2⟩
   have hL := Le.trans hL hle2; have hle0 := Le.trans hle0 hle2
   rcases hpx : p x with _ | _
   rotate_left
   ·
    refine TL.nil ?_; refine TQ.then_n ?_; refine TC.cond_t rfl ?_; refine TC.seq ?_; refine TC.region ?_; refine TL.move rfl rfl ?_; refine TL.assign rfl rfl ?_; refine TL.nil ?_; refine TQ.then_n ?_; refine TC.ret ?_; refine TQ.in_r ?_; refine TQ.then_r ?_; refine TQ.then_r ?_; refine TQ.in_r ?_; refine TQ.then_r ?_; refine TQ.ret1 0 rfl rfl ?_
    first
      | exact ⟨by rw [hix]; simp only [idxI, hpx, if_true], rfl, hL⟩
      | exact ⟨by rw [hix, List.drop_of_length_le (by omega)]; rfl, rfl, hL⟩
   ·
    refine TL.nil ?_; refine TQ.then_n ?_; refine TC.cond_f rfl ?_; refine TC.skip ?_; refine TQ.in_n ?_; refine TQ.then_n ?_; refine TC.region ?_; refine TL.add rfl rfl rfl ⟨by omega, by omega⟩ ?_; refine TL.move rfl rfl ?_; refine TL.nil ?_; refine TQ.toOwn (own' := own) rfl ?_
    refine TQ.next (l.length - (k + 1)) [(0, _), (1, _), (7, _), (8, _)] (by omega) ⟨rfl, rfl, rfl, rfl, trivial⟩ ⟨k + 1, rfl, by omega, ?_, by simp, rfl, hle0⟩
    rw [hix]
    simp only [idxI, hpx, Bool.false_eq_true, if_false]
  ·
   refine TL.nil ?_; refine TQ.then_n ?_; refine TC.seq ?_; refine TC.cond_f rfl ?_; refine TC.exit ?_; refine TQ.then_e ?_; refine TQ.then_e ?_; refine TQ.in_e ?_; refine TQ.nsr ?_; refine TL.assign rfl rfl ?_; refine TL.nil ?_; refine TQ.then_n ?_; refine TC.ret ?_; refine TQ.ret1 0 rfl rfl ?_
   first
     | exact ⟨by rw [hix]; simp only [idxI, hpx, if_true], rfl, hL⟩
     | exact ⟨by rw [hix, List.drop_of_length_le (by omega)]; rfl, rfl, hL⟩
theorem contains_Field {α : Type} {dx : α → List D} (hd : ∀ x, (dx x).length = 5) {p : α → Bool} {l : List α} {w0 : World} {H : Hp} {own : List Seg} {fc : FuncId} [Callable Tryz.prog fc] {gc : Nat} {v : Value} (hA : rd H (.s 5 (l.flatMap dx)) v) (hcl : ∀ x ∈ l, ∀ (c0 c1 c2 c3 c4 : Value) (H1 : Hp) (own1 : List Seg), Le H H1 → RdL H1 (dx x) [c0, c1, c2, c3, c4] → Fn Tryz.prog fc [.agg #[c0, c1, c2, c3, c4], .pointer (some ⟨gc, 0, none⟩)] w0 H1 own1 (fun r o H' => r = .bool ((p) x) ∧ o = own1 ∧ Le H1 H')) :
    Fn Tryz.prog 227 [v, .func (.func fc) #[] #[.pointer (some ⟨gc, 0, none⟩)]] w0 H own (fun r o H' => r = .bool (l.any p) ∧ o = own ∧ Le H H') := by
  refine Fn.enter Tryz.func227 rfl Tryz.ntmps227 rfl ?_; have hL := Le.refl H; refine TC.seq ?_; refine TC.region ?_; refine TL.assign rfl rfl ?_; refine TL.nsr ?_; refine TL.move rfl rfl ?_; refine TL.move rfl rfl ?_; refine TL.call (index_Field hd hA hcl) ⟨rfl, rfl, trivial⟩ rfl ?_
  rintro _ own H2 ⟨rfl, rfl, hle2⟩
  have hL := Le.trans hL hle2; refine TL.geq rfl rfl rfl ?_
  rw [idxI_any]
  refine TL.assign rfl rfl ?_; refine TL.nil ?_; refine TQ.then_n ?_; refine TC.ret ?_; refine TQ.ret1 0 rfl rfl ?_
  exact ⟨rfl, rfl, hL⟩
theorem notok_Field {α : Type} {dx : α → List D} (hd : ∀ x, (dx x).length = 5) {p : α → Bool} {l : List α} {w0 : World} {H : Hp} {fok : FuncId} [Callable Tryz.prog fok] {gc : Nat} (hgc : cel H gc 0 = some (.func (.func fok) #[] #[])) (hok : ∀ x ∈ l, ∀ (c0 c1 c2 c3 c4 : Value) (H1 : Hp) (own1 : List Seg), Le H H1 → RdL H1 (dx x) [c0, c1, c2, c3, c4] → Fn Tryz.prog fok [.agg #[c0, c1, c2, c3, c4]] w0 H1 own1 (fun r o H' => r = .bool ((p) x) ∧ o = own1 ∧ Le H1 H')) :
    ∀ x ∈ l, ∀ (c0 c1 c2 c3 c4 : Value) (H1 : Hp) (own1 : List Seg), Le H H1 → RdL H1 (dx x) [c0, c1, c2, c3, c4] → Fn Tryz.prog 228 [.agg #[c0, c1, c2, c3, c4], .pointer (some ⟨gc, 0, none⟩)] w0 H1 own1 (fun r o H' => r = .bool ((fun x => !p x) x) ∧ o = own1 ∧ Le H1 H') := by
  intro x hx c0 c1 c2 c3 c4 H1 own1 hle hr; have hgc := cel_le hle hgc; refine Fn.enter Tryz.func228 rfl Tryz.ntmps228 rfl ?_; have hL := Le.refl H1; refine TC.seq ?_; refine TC.region ?_
  refine TL.box (c := #[_, _, _, _, _]) rfl rfl rfl ?_; intro g2; refine TL.assign rfl rfl ?_; refine TL.nsr ?_; refine TL.load_imm rfl (hgc) rfl ?_; refine TL.load_ownA 0 0 [_, _, _, _, _] rfl rfl rfl ⟨rfl, rfl, rfl, rfl, rfl, trivial⟩ rfl rfl ?_; refine TL.callV (vs := [_]) rfl (hok x hx _ _ _ _ _ _ _ (Le.trans hle hL) hr) ⟨rfl, trivial⟩ rfl rfl ?_
  rintro _ _ H2 ⟨rfl, rfl, hle2⟩
  have hL := Le.trans hL hle2; refine TL.not rfl rfl ?_; refine TL.assign rfl rfl ?_; refine TL.nil ?_; refine TQ.then_n ?_; refine TC.ret ?_; refine TQ.ret1 1 rfl rfl ?_
  exact ⟨rfl, rfl, hL⟩
theorem every_Field {α : Type} {dx : α → List D} (hd : ∀ x, (dx x).length = 5) {p : α → Bool} {l : List α} {w0 : World} {H : Hp} {own : List Seg} {fok : FuncId} [Callable Tryz.prog fok] {v : Value} (hA : rd H (.s 5 (l.flatMap dx)) v) (hok : ∀ x ∈ l, ∀ (c0 c1 c2 c3 c4 : Value) (H1 : Hp) (own1 : List Seg), Le H H1 → RdL H1 (dx x) [c0, c1, c2, c3, c4] → Fn Tryz.prog fok [.agg #[c0, c1, c2, c3, c4]] w0 H1 own1 (fun r o H' => r = .bool ((p) x) ∧ o = own1 ∧ Le H1 H')) :
    Fn Tryz.prog 204 [v, .func (.func fok) #[] #[]] w0 H own (fun r o H' => r = .bool (l.all p) ∧ o = own ∧ Le H H') := by
  refine Fn.enter Tryz.func204 rfl Tryz.ntmps204 rfl ?_; have hL := Le.refl H; refine TC.seq ?_; refine TC.region ?_
  refine TL.box (c := #[_]) rfl rfl rfl ?_; intro g3; refine TL.assign rfl rfl ?_; refine TL.nsr ?_
  refine TL.freeze (fun H1 hle hz_g3 => ?_)
  have hL := Le.trans hL hle; have hA := rd.mono hle hA
  have hgc : cel H1 g3 0 = some (.func (.func fok) #[] #[]) := by
    have h := hz_g3 _ (List.mem_singleton.2 rfl)
    simp [cel, h]
  refine TL.move rfl rfl ?_; refine TL.makeFunc (vs := []) (us := [_]) trivial ⟨rfl, trivial⟩ rfl ?_; refine TL.call (contains_Field hd hA (notok_Field hd hgc (fun x hx c0 c1 c2 c3 c4 H1 own1 hle hr => hok x hx c0 c1 c2 c3 c4 H1 own1 (Le.trans hL hle) hr))) ⟨rfl, rfl, trivial⟩ rfl ?_
  rintro _ own H2 ⟨rfl, rfl, hle2⟩
  have hL := Le.trans hL hle2; refine TL.not rfl rfl ?_; refine TL.assign rfl rfl ?_; refine TL.nil ?_; refine TQ.then_n ?_; refine TC.ret ?_; refine TQ.ret1 0 rfl rfl ?_
  exact ⟨by rw [← List.not_all_eq_any_not, Bool.not_not], rfl, hL⟩


end Go.Proofs.YteeamfkhkbfilaaGreat.K

namespace Go.Proofs.YteeamfkhkbfilaaGreat.K
open Go Go.RowKit Go.Proofs

theorem syn_def1 {s : ByteArray} (hs : s.size ≤ 9223372036854775806) {w0 : World} {H : Hp} {own : List Seg} :
    Fn Tryz.prog 184 [.agg #[.string s, .bool false, .slice none 0 0]] w0 H own (fun r own' H' => r = .bool (identN s) ∧ own' = own ∧ Le H H') := by
  refine Fn.enter Tryz.func184 rfl Tryz.ntmps184 rfl ?_; have hL := Le.refl H; refine TC.seq ?_; refine TC.region ?_
  refine TL.box (c := #[_, _, _]) rfl rfl rfl ?_; intro g1; refine TL.assign rfl rfl ?_; refine TL.nsr ?_; refine TL.fieldAddr rfl rfl ?_; refine TL.load_own 0 0 rfl rfl rfl rfl rfl ?_; refine TL.call (syn_identifier hs) ⟨rfl, trivial⟩ rfl ?_
  rintro _ own H5 ⟨rfl, rfl, hle5⟩
  have hL := Le.trans hL hle5
  rcases hi : identN s with _ | _
  rotate_left
  ·
   refine TL.move rfl rfl ?_; refine TL.gyes rfl rfl rfl ?_; refine TL.fieldAddr rfl rfl ?_; refine TL.gyes rfl rfl rfl ?_; refine TL.load_own 0 0 rfl rfl rfl rfl rfl ?_; refine TL.gyes rfl rfl rfl ?_; refine TL.call ((every_Field (α := Empty) (dx := fun x => nomatch x) (fun x => nomatch x) (p := fun _ => true) (l := []) (rd.nil _ 5) (fun x hx => nomatch hx))) ⟨rfl, rfl, trivial⟩ rfl ?_
   rintro _ own H9 ⟨rfl, rfl, hle9⟩
   have hL := Le.trans hL hle9; refine TL.pickT rfl rfl rfl rfl ?_; refine TL.assign rfl rfl ?_; refine TL.nil ?_; refine TQ.then_n ?_; refine TC.ret ?_; refine TQ.ret1 1 rfl rfl ?_
   exact ⟨rfl, rfl, hL⟩
  ·
   refine TL.move rfl rfl ?_; refine TL.gno rfl rfl rfl rfl ?_; refine TL.gno rfl rfl rfl rfl ?_; refine TL.gno rfl rfl rfl rfl ?_; refine TL.pickF rfl rfl rfl rfl ?_; refine TL.assign rfl rfl ?_; refine TL.nil ?_; refine TQ.then_n ?_; refine TC.ret ?_; refine TQ.ret1 1 rfl rfl ?_
   exact ⟨rfl, rfl, hL⟩
def defD (s : ByteArray) : List D := [.c (.string s), .c (.bool false), .c (.slice none 0 0)]
theorem syn_Right1 {s : ByteArray} (hs : s.size ≤ 9223372036854775806) {w0 : World} {H : Hp} {own : List Seg} {v : Value} (hA : rd H (.s 3 ([s].flatMap defD)) v) :
    Fn Tryz.prog 168 [.agg #[v, .slice none 0 0, .slice none 0 0]] w0 H own (fun r own' H' => r = .bool (identN s) ∧ own' = own ∧ Le H H') := by
  refine Fn.enter Tryz.func168 rfl Tryz.ntmps168 rfl ?_; have hL := Le.refl H; refine TC.seq ?_; refine TC.region ?_
  refine TL.box (c := #[_, _, _]) rfl rfl rfl ?_; intro g1; refine TL.assign rfl rfl ?_; refine TL.nsr ?_; refine TL.fieldAddr rfl rfl ?_; refine TL.load_own 0 0 rfl rfl rfl rfl rfl ?_
  refine TL.call ((every_TypeDef (dx := defD) (fun _ => rfl) (p := identN) (l := [s]) hA (by
    intro x hx c0 c1 c2 H1 own1 hle hr
    obtain rfl : x = s := by simpa using hx
    simp only [defD, RdL, rd] at hr
    obtain ⟨rfl, rfl, rfl, _⟩ := hr
    exact syn_def1 hs))) ⟨rfl, rfl, trivial⟩ rfl ?_
  rintro _ own H5 ⟨rfl, rfl, hle5⟩
  rw [show [s].all identN = identN s by simp]
  have hL := Le.trans hL hle5
  rcases hi : identN s with _ | _
  rotate_left
  ·
   refine TL.move rfl rfl ?_; refine TL.gyes rfl rfl rfl ?_; refine TL.fieldAddr rfl rfl ?_; refine TL.gyes rfl rfl rfl ?_; refine TL.load_own 0 0 rfl rfl rfl rfl rfl ?_; refine TL.gyes rfl rfl rfl ?_; refine TL.call ((every_Global (α := Empty) (dx := fun x => nomatch x) (fun x => nomatch x) (p := fun _ => true) (l := []) (rd.nil _ 8) (fun x hx => nomatch hx))) ⟨rfl, rfl, trivial⟩ rfl ?_
   rintro _ own H9 ⟨rfl, rfl, hle9⟩
   have hL := Le.trans hL hle9; refine TL.pickT rfl rfl rfl rfl ?_; refine TL.move rfl rfl ?_; refine TL.gyes rfl rfl rfl ?_; refine TL.fieldAddr rfl rfl ?_; refine TL.gyes rfl rfl rfl ?_; refine TL.load_own 0 0 rfl rfl rfl rfl rfl ?_; refine TL.gyes rfl rfl rfl ?_; refine TL.call ((every_Func (α := Empty) (dx := fun x => nomatch x) (fun x => nomatch x) (p := fun _ => true) (l := []) (rd.nil _ 10) (fun x hx => nomatch hx))) ⟨rfl, rfl, trivial⟩ rfl ?_
   rintro _ own H14 ⟨rfl, rfl, hle14⟩
   have hL := Le.trans hL hle14; refine TL.pickT rfl rfl rfl rfl ?_; refine TL.assign rfl rfl ?_; refine TL.nil ?_; refine TQ.then_n ?_; refine TC.ret ?_; refine TQ.ret1 1 rfl rfl ?_
   exact ⟨rfl, rfl, hL⟩
  ·
   refine TL.move rfl rfl ?_; refine TL.gno rfl rfl rfl rfl ?_; refine TL.gno rfl rfl rfl rfl ?_; refine TL.gno rfl rfl rfl rfl ?_; refine TL.pickF rfl rfl rfl rfl ?_; refine TL.move rfl rfl ?_; refine TL.gno rfl rfl rfl rfl ?_; refine TL.gno rfl rfl rfl rfl ?_; refine TL.gno rfl rfl rfl rfl ?_; refine TL.pickF rfl rfl rfl rfl ?_; refine TL.assign rfl rfl ?_; refine TL.nil ?_; refine TQ.then_n ?_; refine TC.ret ?_; refine TQ.ret1 1 rfl rfl ?_
   exact ⟨rfl, rfl, hL⟩
theorem proj_named {s : ByteArray} (hs : s.size ≤ 9223372036854775806) {w0 : World} {H : Hp} {own : List Seg} :
    Fn Tryz.prog 135 [.string s] w0 H own (fun r own' H' => r = .bool (identN s) ∧ own' = own ∧ Le H H') := by
  refine Fn.enter Tryz.func135 rfl Tryz.ntmps135 rfl ?_; have hL := Le.refl H; refine TC.seq ?_; refine TC.region ?_; refine TL.assign rfl rfl ?_; refine TL.nsr ?_; refine TL.move rfl rfl ?_; refine TL.struct [(0, [_])] ⟨rfl, ⟨_, rfl, rfl⟩, trivial⟩ rfl rfl ?_
  refine TL.litF (r := [_, _, _]) [(0, [_, _, _])] ⟨rfl, ⟨_, rfl, rfl⟩, trivial⟩ rfl rfl rfl rfl ?_; intro g5
  refine TL.freeze (fun H1 hle hz_g5 => ?_)
  have hL := Le.trans hL hle
  have hA : rd H1 (.s 3 ([s].flatMap defD)) (.slice (some ⟨g5, 0, none⟩) 1 1) := rd.ofRow (Row.lit 141 3 1 g5 _ rfl (by omega)) hz_g5 (RdL.vals [.string s, .bool false, .slice none 0 0]) (Le.refl _)
  refine TL.struct [(0, [_])] ⟨rfl, ⟨_, rfl, rfl⟩, trivial⟩ rfl rfl ?_; refine TL.call (syn_Right1 hs hA) ⟨rfl, trivial⟩ rfl ?_
  rintro _ own H7 ⟨rfl, rfl, hle7⟩
  have hL := Le.trans hL hle7; refine TL.assign rfl rfl ?_; refine TL.nil ?_; refine TQ.then_n ?_; refine TC.ret ?_; refine TQ.ret1 0 rfl rfl ?_
  exact ⟨rfl, rfl, hL⟩
theorem letterN_eq {n : Int} (h : 0 ≤ n ∧ n < 256) : letterN n = (decide (97 ≤ n) && decide (n ≤ 122) || decide (65 ≤ n) && decide (n ≤ 90)) := by
  have key : ∀ k : _root_.Fin 256, letterN (k.val : Int) = (decide (97 ≤ (k.val : Int)) && decide ((k.val : Int) ≤ 122) || decide (65 ≤ (k.val : Int)) && decide ((k.val : Int) ≤ 90)) := by decide +kernel
  have := key ⟨n.toNat, by omega⟩
  simpa [show ((n.toNat : Nat) : Int) = n by omega] using this
theorem ref_letter {n : Int} (h : 0 ≤ n ∧ n < 256) {w0 : World} {H : Hp} {own : List Seg} :
    Fn Tryz.prog 144 [.int .u8 n] w0 H own (fun r own' H' => r = .bool (letterN n) ∧ own' = own ∧ Le H H') := by
  refine Fn.enter Tryz.func144 rfl Tryz.ntmps144 rfl ?_; have hL := Le.refl H; refine TC.seq ?_; refine TC.region ?_; refine TL.assign rfl rfl ?_; refine TL.nsr ?_; refine TL.move rfl rfl ?_
  refine TL.geqB rfl rfl rfl (fun ha => ?_) (fun ha => ?_)
  ·
   refine TL.move rfl rfl ?_; refine TL.gyes rfl rfl rfl ?_; refine TL.move rfl rfl ?_; refine TL.gyes rfl rfl rfl ?_
   refine TL.leqB rfl rfl rfl (fun hb => ?_) (fun hb => ?_)
   ·
    refine TL.pickT rfl rfl rfl rfl ?_; refine TL.move rfl rfl ?_; refine TL.gno rfl rfl rfl rfl ?_; refine TL.gno rfl rfl rfl rfl ?_; refine TL.gno rfl rfl rfl rfl ?_; refine TL.gund rfl rfl rfl ?_; refine TL.gund rfl rfl rfl ?_; refine TL.gno rfl rfl rfl rfl ?_; refine TL.pickT rfl rfl rfl rfl ?_; refine TL.assign rfl rfl ?_; refine TL.nil ?_; refine TQ.then_n ?_; refine TC.ret ?_; refine TQ.ret1 0 rfl rfl ?_
    refine ⟨congrArg Value.bool ?_, rfl, hL⟩
    symm
    rw [letterN_eq h]
    simp
    omega
   ·
    refine TL.pickT rfl rfl rfl rfl ?_; refine TL.move rfl rfl ?_; refine TL.gyes rfl rfl rfl ?_; refine TL.move rfl rfl ?_; refine TL.gyes rfl rfl rfl ?_
    refine TL.geqB rfl rfl rfl (fun hc => ?_) (fun hc => ?_)
    ·
     refine TL.gyes rfl rfl rfl ?_; refine TL.move rfl rfl ?_; refine TL.gyes rfl rfl rfl ?_; refine TL.move rfl rfl ?_; refine TL.gyes rfl rfl rfl ?_
     refine TL.leqB rfl rfl rfl (fun hd => ?_) (fun hd => ?_)
     ·
      refine TL.gyes rfl rfl rfl ?_; refine TL.pickT rfl rfl rfl rfl ?_; refine TL.pickF rfl rfl rfl rfl ?_; refine TL.assign rfl rfl ?_; refine TL.nil ?_; refine TQ.then_n ?_; refine TC.ret ?_; refine TQ.ret1 0 rfl rfl ?_
      refine ⟨congrArg Value.bool ?_, rfl, hL⟩
      symm
      rw [letterN_eq h]
      simp
      omega
     ·
      refine TL.gyes rfl rfl rfl ?_; refine TL.pickT rfl rfl rfl rfl ?_; refine TL.pickF rfl rfl rfl rfl ?_; refine TL.assign rfl rfl ?_; refine TL.nil ?_; refine TQ.then_n ?_; refine TC.ret ?_; refine TQ.ret1 0 rfl rfl ?_
      refine ⟨congrArg Value.bool ?_, rfl, hL⟩
      symm
      rw [letterN_eq h]
      simp
      omega
    ·
     refine TL.gyes rfl rfl rfl ?_; refine TL.move rfl rfl ?_; refine TL.gno rfl rfl rfl rfl ?_; refine TL.gno rfl rfl rfl rfl ?_; refine TL.gyes rfl rfl rfl ?_; refine TL.pickF rfl rfl rfl rfl ?_; refine TL.pickF rfl rfl rfl rfl ?_; refine TL.assign rfl rfl ?_; refine TL.nil ?_; refine TQ.then_n ?_; refine TC.ret ?_; refine TQ.ret1 0 rfl rfl ?_
     refine ⟨congrArg Value.bool ?_, rfl, hL⟩
     symm
     rw [letterN_eq h]
     simp
     omega
  ·
   refine TL.move rfl rfl ?_; refine TL.gno rfl rfl rfl rfl ?_; refine TL.gno rfl rfl rfl rfl ?_; refine TL.pickF rfl rfl rfl rfl ?_; refine TL.move rfl rfl ?_; refine TL.gyes rfl rfl rfl ?_; refine TL.move rfl rfl ?_; refine TL.gyes rfl rfl rfl ?_
   refine TL.geqB rfl rfl rfl (fun hc => ?_) (fun hc => ?_)
   ·
    refine TL.gyes rfl rfl rfl ?_; refine TL.move rfl rfl ?_; refine TL.gyes rfl rfl rfl ?_; refine TL.move rfl rfl ?_; refine TL.gyes rfl rfl rfl ?_
    refine TL.leqB rfl rfl rfl (fun hd => ?_) (fun hd => ?_)
    ·
     refine TL.gyes rfl rfl rfl ?_; refine TL.pickT rfl rfl rfl rfl ?_; refine TL.pickF rfl rfl rfl rfl ?_; refine TL.assign rfl rfl ?_; refine TL.nil ?_; refine TQ.then_n ?_; refine TC.ret ?_; refine TQ.ret1 0 rfl rfl ?_
     refine ⟨congrArg Value.bool ?_, rfl, hL⟩
     symm
     rw [letterN_eq h]
     simp
     omega
    ·
     refine TL.gyes rfl rfl rfl ?_; refine TL.pickT rfl rfl rfl rfl ?_; refine TL.pickF rfl rfl rfl rfl ?_; refine TL.assign rfl rfl ?_; refine TL.nil ?_; refine TQ.then_n ?_; refine TC.ret ?_; refine TQ.ret1 0 rfl rfl ?_
     refine ⟨congrArg Value.bool ?_, rfl, hL⟩
     symm
     rw [letterN_eq h]
     simp
     omega
   ·
    refine TL.gyes rfl rfl rfl ?_; refine TL.move rfl rfl ?_; refine TL.gno rfl rfl rfl rfl ?_; refine TL.gno rfl rfl rfl rfl ?_; refine TL.gyes rfl rfl rfl ?_; refine TL.pickF rfl rfl rfl rfl ?_; refine TL.pickF rfl rfl rfl rfl ?_; refine TL.assign rfl rfl ?_; refine TL.nil ?_; refine TQ.then_n ?_; refine TC.ret ?_; refine TQ.ret1 0 rfl rfl ?_
    refine ⟨congrArg Value.bool ?_, rfl, hL⟩
    symm
    rw [letterN_eq h]
    simp
    omega
theorem ref_digit {n : Int} {w0 : World} {H : Hp} {own : List Seg} :
    Fn Tryz.prog 145 [.int .u8 n] w0 H own (fun r own' H' => r = .bool (digitN n) ∧ own' = own ∧ Le H H') := by
  refine Fn.enter Tryz.func145 rfl Tryz.ntmps145 rfl ?_; have hL := Le.refl H; refine TC.seq ?_; refine TC.region ?_; refine TL.assign rfl rfl ?_; refine TL.nsr ?_; refine TL.move rfl rfl ?_
  refine TL.geqB rfl rfl rfl (fun ha => ?_) (fun ha => ?_)
  ·
   refine TL.move rfl rfl ?_; refine TL.gyes rfl rfl rfl ?_; refine TL.move rfl rfl ?_; refine TL.gyes rfl rfl rfl ?_
   refine TL.leqB rfl rfl rfl (fun hb => ?_) (fun hb => ?_)
   ·
    refine TL.pickT rfl rfl rfl rfl ?_; refine TL.assign rfl rfl ?_; refine TL.nil ?_; refine TQ.then_n ?_; refine TC.ret ?_; refine TQ.ret1 0 rfl rfl ?_
    refine ⟨congrArg Value.bool ?_, rfl, hL⟩
    unfold digitN
    symm
    simp
    omega
   ·
    refine TL.pickT rfl rfl rfl rfl ?_; refine TL.assign rfl rfl ?_; refine TL.nil ?_; refine TQ.then_n ?_; refine TC.ret ?_; refine TQ.ret1 0 rfl rfl ?_
    refine ⟨congrArg Value.bool ?_, rfl, hL⟩
    unfold digitN
    symm
    simp
    omega
  ·
   refine TL.move rfl rfl ?_; refine TL.gno rfl rfl rfl rfl ?_; refine TL.gno rfl rfl rfl rfl ?_; refine TL.pickF rfl rfl rfl rfl ?_; refine TL.assign rfl rfl ?_; refine TL.nil ?_; refine TQ.then_n ?_; refine TC.ret ?_; refine TQ.ret1 0 rfl rfl ?_
   refine ⟨congrArg Value.bool ?_, rfl, hL⟩
   unfold digitN
   symm
   simp
   omega
theorem ref_Among {s : ByteArray} {l : List ByteArray} (hlen : l.length ≤ 1000000) {w0 : World} {H : Hp} {own : List Seg} {v : Value} (hA : rd H (.s 1 (strs l)) v) :
    Fn Tryz.prog 112 [.string s, v] w0 H own (fun r own' H' => r = .bool (l.any fun x => decide (x = s)) ∧ own' = own ∧ Le H H') := by
  obtain ⟨A, c, rfl, hc1, hc2⟩ := vals_len hA
  simp only [List.length_map] at hA hc1 ⊢
  refine Fn.enter Tryz.func112 rfl Tryz.ntmps112 rfl ?_; have hL := Le.refl H; refine TC.seq ?_; refine TC.region ?_; refine TL.assign rfl rfl ?_; refine TL.nil ?_; refine TQ.then_n ?_; refine TC.seq ?_; refine TC.seq ?_; refine TC.region ?_; refine TL.assign rfl rfl ?_; refine TL.nil ?_; refine TQ.then_n ?_; refine TC.block ?_; refine TC.loop (fun n env' own' H' => ∃ k, n = l.length - k ∧ k ≤ l.length ∧ (l.any fun x => decide (x = s)) = ((l.drop k).any fun x => decide (x = s)) ∧ env' = [(0, .string s), (1, .slice A l.length c), (5, .int .i64 (k : Int))] ∧ own' = own ∧ Le H H') l.length [(0, _), (1, _), (5, _)] ⟨rfl, rfl, rfl, trivial⟩ ⟨0, by omega, by omega, rfl, rfl, rfl, Le.refl _⟩ ?_
  rintro n _ own H1 ⟨k, rfl, hk1, hix, rfl, rfl, hle0⟩
  have hL := Le.trans hL hle0; have hA := rd.mono hle0 hA; refine TC.seq ?_; refine TC.seq ?_; refine TC.region ?_; refine TL.move rfl rfl ?_; refine TL.move rfl rfl ?_; refine TL.len_slice rfl rfl ?_
  refine TL.lssB rfl rfl rfl (fun hlt => ?_) (fun hlt => ?_)
  ·
   obtain ⟨x, hx⟩ : ∃ x, l[k]? = some x := ⟨_, List.getElem?_eq_getElem (by omega)⟩
   obtain ⟨b1, q1, rfl, hpx⟩ := vals_at hA (i := k) (u := .string x) (by simp [hx])
   refine TL.nil ?_; refine TQ.then_n ?_; refine TC.cond_t rfl ?_; refine TC.skip ?_; refine TQ.then_n ?_; refine TC.seq ?_; refine TC.block ?_; refine TC.seq ?_; refine TC.region ?_; refine TL.move rfl rfl ?_; refine TL.move rfl rfl ?_; refine TL.indexAddr (k) rfl rfl rfl (by omega) rfl ?_; refine TL.load_imm rfl (hpx) rfl ?_; refine TL.move rfl rfl ?_
   refine TL.eqlSB rfl rfl rfl (fun hxs => ?_) (fun hxs => ?_)
   ·
    refine TL.nil ?_; refine TQ.then_n ?_; refine TC.cond_t rfl ?_; refine TC.seq ?_; refine TC.region ?_; refine TL.assign rfl rfl ?_; refine TL.nil ?_; refine TQ.then_n ?_; refine TC.ret ?_; refine TQ.in_r ?_; refine TQ.then_r ?_; refine TQ.then_r ?_; refine TQ.in_r ?_; refine TQ.then_r ?_; refine TQ.ret1 0 rfl rfl ?_
    refine ⟨congrArg Value.bool ?_, rfl, hL⟩
    rw [hix]
    first
      | (rw [drop_cons hx, List.any_cons, decide_eq_true hxs, Bool.true_or]; done)
      | (rw [List.drop_of_length_le (by omega)]; rfl)
   ·
    refine TL.nil ?_; refine TQ.then_n ?_; refine TC.cond_f rfl ?_; refine TC.skip ?_; refine TQ.in_n ?_; refine TQ.then_n ?_; refine TC.region ?_; refine TL.move rfl rfl ?_; refine TL.add rfl rfl rfl ⟨by omega, by omega⟩ ?_; refine TL.assign rfl rfl ?_; refine TL.nil ?_; refine TQ.toOwn (own' := own) rfl ?_
    refine TQ.next (l.length - (k + 1)) [(0, _), (1, _), (5, _)] (by omega) ⟨rfl, rfl, rfl, trivial⟩ ⟨k + 1, rfl, by omega, ?_, by simp, rfl, hle0⟩
    rw [hix, drop_cons hx, List.any_cons, decide_eq_false hxs, Bool.false_or]
  ·
   refine TL.nil ?_; refine TQ.then_n ?_; refine TC.cond_f rfl ?_; refine TC.exit ?_; refine TQ.then_e ?_; refine TQ.then_e ?_; refine TQ.in_e ?_; refine TQ.nsr ?_; refine TL.assign rfl rfl ?_; refine TL.nil ?_; refine TQ.then_n ?_; refine TC.ret ?_; refine TQ.ret1 0 rfl rfl ?_
   refine ⟨congrArg Value.bool ?_, rfl, hL⟩
   rw [hix]
   first
     | (rw [drop_cons hx, List.any_cons, decide_eq_true hxs, Bool.true_or]; done)
     | (rw [List.drop_of_length_le (by omega)]; rfl)
def kwsR : List ByteArray := [⟨#[97, 116]⟩, ⟨#[98, 108, 111, 99, 107]⟩, ⟨#[98, 114, 101, 97, 107]⟩, ⟨#[99, 97, 115, 101]⟩, ⟨#[99, 111, 110, 115, 116]⟩, ⟨#[99, 111, 110, 116, 105, 110, 117, 101]⟩, ⟨#[100, 101, 102, 97, 117, 108, 116]⟩, ⟨#[101, 108, 115, 101]⟩, ⟨#[101, 120, 116, 101, 114, 110]⟩, ⟨#[102, 110]⟩, ⟨#[104, 97, 108, 116]⟩, ⟨#[105, 102]⟩, ⟨#[105, 110]⟩, ⟨#[108, 101, 116]⟩, ⟨#[108, 111, 111, 112]⟩, ⟨#[109, 101, 109, 49, 54]⟩, ⟨#[109, 101, 109, 56]⟩, ⟨#[111, 117, 116]⟩, ⟨#[112, 111, 108, 108]⟩, ⟨#[114, 101, 116, 117, 114, 110]⟩, ⟨#[114, 111, 109, 49, 54]⟩, ⟨#[114, 111, 109, 56]⟩, ⟨#[115, 49, 54]⟩, ⟨#[115, 116, 114, 117, 99, 116]⟩, ⟨#[115, 119, 105, 116, 99, 104]⟩, ⟨#[117, 49, 54]⟩, ⟨#[117, 56]⟩, ⟨#[117, 110, 105, 111, 110]⟩, ⟨#[118, 97, 114]⟩, ⟨#[119, 104, 105, 108, 101]⟩]
theorem ref_Keywords {w0 : World} {H : Hp} {own : List Seg} : Fn Tryz.prog 143 [] w0 H own (fun r o H' => rd H' (.s 1 (strs kwsR)) r ∧ o = own ∧ Le H H') := by
  refine Fn.enter Tryz.func143 rfl Tryz.ntmps143 rfl ?_; have hL := Le.refl H; refine TC.seq ?_; refine TC.region ?_; refine TL.assign rfl rfl ?_; refine TL.nsr ?_
  refine TL.litF (r := [_, _, _, _, _, _, _, _, _, _, _, _, _, _, _, _, _, _, _, _, _, _, _, _, _, _, _, _, _, _]) [(0, [_]), (1, [_]), (2, [_]), (3, [_]), (4, [_]), (5, [_]), (6, [_]), (7, [_]), (8, [_]), (9, [_]), (10, [_]), (11, [_]), (12, [_]), (13, [_]), (14, [_]), (15, [_]), (16, [_]), (17, [_]), (18, [_]), (19, [_]), (20, [_]), (21, [_]), (22, [_]), (23, [_]), (24, [_]), (25, [_]), (26, [_]), (27, [_]), (28, [_]), (29, [_])] ⟨rfl, ⟨_, rfl, rfl⟩, rfl, ⟨_, rfl, rfl⟩, rfl, ⟨_, rfl, rfl⟩, rfl, ⟨_, rfl, rfl⟩, rfl, ⟨_, rfl, rfl⟩, rfl, ⟨_, rfl, rfl⟩, rfl, ⟨_, rfl, rfl⟩, rfl, ⟨_, rfl, rfl⟩, rfl, ⟨_, rfl, rfl⟩, rfl, ⟨_, rfl, rfl⟩, rfl, ⟨_, rfl, rfl⟩, rfl, ⟨_, rfl, rfl⟩, rfl, ⟨_, rfl, rfl⟩, rfl, ⟨_, rfl, rfl⟩, rfl, ⟨_, rfl, rfl⟩, rfl, ⟨_, rfl, rfl⟩, rfl, ⟨_, rfl, rfl⟩, rfl, ⟨_, rfl, rfl⟩, rfl, ⟨_, rfl, rfl⟩, rfl, ⟨_, rfl, rfl⟩, rfl, ⟨_, rfl, rfl⟩, rfl, ⟨_, rfl, rfl⟩, rfl, ⟨_, rfl, rfl⟩, rfl, ⟨_, rfl, rfl⟩, rfl, ⟨_, rfl, rfl⟩, rfl, ⟨_, rfl, rfl⟩, rfl, ⟨_, rfl, rfl⟩, rfl, ⟨_, rfl, rfl⟩, rfl, ⟨_, rfl, rfl⟩, rfl, ⟨_, rfl, rfl⟩, trivial⟩ rfl rfl rfl rfl ?_; intro g1
  refine TL.assign rfl rfl ?_; refine TL.nil ?_; refine TQ.then_n ?_; refine TC.ret ?_
  refine TQ.freeze (fun H1 hle hz_g1 => ?_)
  have hL := Le.trans hL hle; refine TQ.ret1 0 rfl rfl ?_
  exact ⟨rd.ofRow (Row.lit 9 1 30 g1 _ rfl (by omega)) hz_g1 (RdL.vals _) (Le.refl _), rfl, hL⟩
theorem kws_same (s : ByteArray) : (kwsR.any fun x => decide (x = s)) = (kws.any fun x => decide (x = s)) := by
  have g1 : (kwsR.all fun x => kws.any fun y => decide (y = x)) = true := by decide +kernel
  have g2 : (kws.all fun x => kwsR.any fun y => decide (y = x)) = true := by decide +kernel
  simp only [List.all_eq_true, List.any_eq_true, decide_eq_true_eq] at g1 g2
  have h1 : ∀ x ∈ kwsR, x ∈ kws := fun x hx => by obtain ⟨y, hy, rfl⟩ := g1 x hx; exact hy
  have h2 : ∀ x ∈ kws, x ∈ kwsR := fun x hx => by obtain ⟨y, hy, rfl⟩ := g2 x hx; exact hy
  rw [Bool.eq_iff_iff]
  simp only [List.any_eq_true, decide_eq_true_eq]
  exact ⟨fun ⟨x, hx, he⟩ => ⟨x, h1 x hx, he⟩, fun ⟨x, hx, he⟩ => ⟨x, h2 x hx, he⟩⟩
theorem spanN_le (p : UInt8 → Bool) : ∀ (l : List UInt8) (k : Nat), spanN p l k ≤ k + l.length
  | [], k => by simp [spanN]
  | b :: r, k => by
    simp only [spanN, List.length_cons]
    split
    · have := spanN_le p r (k + 1); omega
    · omega
theorem spanN_all (p : UInt8 → Bool) : ∀ (l : List UInt8) (k : Nat), spanN p l k = k + l.length ↔ l.all p = true
  | [], k => by simp [spanN]
  | b :: r, k => by
    have ih := spanN_all p r (k + 1)
    have hle := spanN_le p r (k + 1)
    simp only [spanN, List.length_cons, List.all_cons, Bool.and_eq_true, ← ih]
    by_cases hb : p b = true
    · rw [if_pos hb]
      exact ⟨fun h => ⟨hb, by omega⟩, fun h => by have := h.2; omega⟩
    · rw [if_neg hb]
      exact ⟨fun h => absurd h (by omega), fun h => absurd h.1 hb⟩
theorem ident_eq (s : ByteArray) : identN s = (decide (s ≠ ⟨#[]⟩) && decide (s.size ≤ 24) && !(kws.any fun x => decide (x = s)) && letterN (firstB s) && s.data.toList.all fun b => partN (b.toNat : Int)) := by
  unfold identN
  have := spanN_all (fun b => partN (b.toNat : Int)) s.data.toList 0
  congr 1
  rw [Bool.eq_iff_iff, decide_eq_true_iff, ← this, Nat.zero_add]
  rfl
theorem ref_IsName {s : ByteArray} (hs : s.size ≤ 9223372036854775806) {w0 : World} {H : Hp} {own : List Seg} :
    Fn Tryz.prog 114 [.string s] w0 H own (fun r own' H' => r = .bool (identN s) ∧ own' = own ∧ Le H H') := by
  have hsz : s.data.toList.length = s.size := rfl
  have hkl : kwsR.length ≤ 1000000 := by decide
  refine Fn.enter Tryz.func114 rfl Tryz.ntmps114 rfl ?_; have hL := Le.refl H; refine TC.seq ?_; refine TC.region ?_; refine TL.assign rfl rfl ?_; refine TL.nsr ?_; refine TL.move rfl rfl ?_; refine TL.call (ref_Keywords) trivial rfl ?_
  rintro vk own H6 ⟨hvk, rfl, hle6⟩
  have hL := Le.trans hL hle6; refine TL.call (ref_Among hkl hvk) ⟨rfl, rfl, trivial⟩ rfl ?_
  rintro _ own H7 ⟨rfl, rfl, hle7⟩
  rw [kws_same]
  have hL := Le.trans hL hle7
  rcases hkw : (kws.any fun x => decide (x = s)) with _ | _
  rotate_left
  ·
   refine TL.assign rfl rfl ?_; refine TL.nil ?_; refine TQ.then_n ?_; refine TC.seq ?_; refine TC.seq ?_; refine TC.region ?_; refine TL.move rfl rfl ?_; refine TL.len_string rfl rfl ?_
   refine TL.lssB rfl rfl rfl (fun h1 => ?_) (fun h1 => ?_)
   ·
    refine TL.move rfl rfl ?_; refine TL.gno rfl rfl rfl rfl ?_; refine TL.gno rfl rfl rfl rfl ?_; refine TL.gno rfl rfl rfl rfl ?_; refine TL.pickT rfl rfl rfl rfl ?_; refine TL.move rfl rfl ?_; refine TL.gno rfl rfl rfl rfl ?_; refine TL.gno rfl rfl rfl rfl ?_; refine TL.gno rfl rfl rfl rfl ?_; refine TL.gno rfl rfl rfl rfl ?_; refine TL.pickT rfl rfl rfl rfl ?_; refine TL.move rfl rfl ?_; refine TL.gno rfl rfl rfl rfl ?_; refine TL.pickT rfl rfl rfl rfl ?_; refine TL.nil ?_; refine TQ.then_n ?_; refine TC.cond_t rfl ?_; refine TC.seq ?_; refine TC.region ?_; refine TL.assign rfl rfl ?_; refine TL.nil ?_; refine TQ.then_n ?_; refine TC.ret ?_; refine TQ.then_r ?_; refine TQ.ret1 0 rfl rfl ?_
    refine ⟨congrArg Value.bool ?_, rfl, hL⟩
    symm
    rw [ident_eq]
    first
      | (rw [hkw]; simp; done)
      | (rw [hix, drop_cons hb, List.all_cons, show partN (b.toNat : Int) = false by unfold partN; rw [hla, hdi, decide_eq_false hun]; rfl]; simp; done)
      | (rw [decide_eq_false (show ¬ s.size ≤ 24 by omega)]; simp; done)
      | (rw [show firstB s = (x0.toNat : Int) by unfold firstB; cases hc : s.data.toList with | nil => rw [hc] at hx0; simp at hx0 | cons y r => rw [hc] at hx0; simp at hx0; rw [hx0], hl0]; simp; done)
      | (have hne : s = ⟨#[]⟩ := by
           have : s.data.toList = [] := List.eq_nil_of_length_eq_zero (by omega)
           exact ByteArray.ext (by simpa using this)
         rw [decide_eq_false (fun h => h hne)]; simp; done)
      | (rw [hix, List.drop_of_length_le (by omega), hkw, show firstB s = (x0.toNat : Int) by unfold firstB; cases hc : s.data.toList with | nil => rw [hc] at hx0; simp at hx0 | cons y r => rw [hc] at hx0; simp at hx0; rw [hx0], hl0, decide_eq_true (show s.size ≤ 24 by omega), decide_eq_true (show s ≠ ⟨#[]⟩ from fun h => by rw [h] at hx0; simp at hx0)]; rfl)
   ·
    obtain ⟨x0, hx0⟩ : ∃ x0, s.data.toList[0]? = some x0 := ⟨_, List.getElem?_eq_getElem (by omega)⟩
    refine TL.move rfl rfl ?_; refine TL.gyes rfl rfl rfl ?_; refine TL.move rfl rfl ?_; refine TL.gyes rfl rfl rfl ?_; refine TL.len_string rfl rfl ?_; refine TL.gyes rfl rfl rfl ?_
    refine TL.gtrB rfl rfl rfl (fun h24 => ?_) (fun h24 => ?_)
    ·
     refine TL.pickF rfl rfl rfl rfl ?_; refine TL.move rfl rfl ?_; refine TL.gno rfl rfl rfl rfl ?_; refine TL.gno rfl rfl rfl rfl ?_; refine TL.gno rfl rfl rfl rfl ?_; refine TL.gno rfl rfl rfl rfl ?_; refine TL.pickT rfl rfl rfl rfl ?_; refine TL.move rfl rfl ?_; refine TL.gno rfl rfl rfl rfl ?_; refine TL.pickT rfl rfl rfl rfl ?_; refine TL.nil ?_; refine TQ.then_n ?_; refine TC.cond_t rfl ?_; refine TC.seq ?_; refine TC.region ?_; refine TL.assign rfl rfl ?_; refine TL.nil ?_; refine TQ.then_n ?_; refine TC.ret ?_; refine TQ.then_r ?_; refine TQ.ret1 0 rfl rfl ?_
     refine ⟨congrArg Value.bool ?_, rfl, hL⟩
     symm
     rw [ident_eq]
     first
       | (rw [hkw]; simp; done)
       | (rw [hix, drop_cons hb, List.all_cons, show partN (b.toNat : Int) = false by unfold partN; rw [hla, hdi, decide_eq_false hun]; rfl]; simp; done)
       | (rw [decide_eq_false (show ¬ s.size ≤ 24 by omega)]; simp; done)
       | (rw [show firstB s = (x0.toNat : Int) by unfold firstB; cases hc : s.data.toList with | nil => rw [hc] at hx0; simp at hx0 | cons y r => rw [hc] at hx0; simp at hx0; rw [hx0], hl0]; simp; done)
       | (have hne : s = ⟨#[]⟩ := by
            have : s.data.toList = [] := List.eq_nil_of_length_eq_zero (by omega)
            exact ByteArray.ext (by simpa using this)
          rw [decide_eq_false (fun h => h hne)]; simp; done)
       | (rw [hix, List.drop_of_length_le (by omega), hkw, show firstB s = (x0.toNat : Int) by unfold firstB; cases hc : s.data.toList with | nil => rw [hc] at hx0; simp at hx0 | cons y r => rw [hc] at hx0; simp at hx0; rw [hx0], hl0, decide_eq_true (show s.size ≤ 24 by omega), decide_eq_true (show s ≠ ⟨#[]⟩ from fun h => by rw [h] at hx0; simp at hx0)]; rfl)
    ·
     refine TL.pickF rfl rfl rfl rfl ?_; refine TL.move rfl rfl ?_; refine TL.gyes rfl rfl rfl ?_; refine TL.move rfl rfl ?_; refine TL.gyes rfl rfl rfl ?_; refine TL.indexS 0 rfl rfl rfl (by rw [byte_get]; exact hx0) rfl ?_
     refine TL.gyes rfl rfl rfl ?_; refine TL.call (ref_letter ⟨by omega, by have := x0.toNat_lt; omega⟩) ⟨rfl, trivial⟩ rfl ?_
     rintro _ own H19 ⟨rfl, rfl, hle19⟩
     have hL := Le.trans hL hle19
     rcases hl0 : letterN (x0.toNat : Int) with _ | _
     rotate_left
     ·
      refine TL.gyes rfl rfl rfl ?_; refine TL.not rfl rfl ?_; refine TL.pickF rfl rfl rfl rfl ?_; refine TL.move rfl rfl ?_; refine TL.gyes rfl rfl rfl ?_; refine TL.move rfl rfl ?_; refine TL.pickF rfl rfl rfl rfl ?_; refine TL.nil ?_; refine TQ.then_n ?_; refine TC.cond_t rfl ?_; refine TC.seq ?_; refine TC.region ?_; refine TL.assign rfl rfl ?_; refine TL.nil ?_; refine TQ.then_n ?_; refine TC.ret ?_; refine TQ.then_r ?_; refine TQ.ret1 0 rfl rfl ?_
      refine ⟨congrArg Value.bool ?_, rfl, hL⟩
      symm
      rw [ident_eq]
      first
        | (rw [hkw]; simp; done)
        | (rw [hix, drop_cons hb, List.all_cons, show partN (b.toNat : Int) = false by unfold partN; rw [hla, hdi, decide_eq_false hun]; rfl]; simp; done)
        | (rw [decide_eq_false (show ¬ s.size ≤ 24 by omega)]; simp; done)
        | (rw [show firstB s = (x0.toNat : Int) by unfold firstB; cases hc : s.data.toList with | nil => rw [hc] at hx0; simp at hx0 | cons y r => rw [hc] at hx0; simp at hx0; rw [hx0], hl0]; simp; done)
        | (have hne : s = ⟨#[]⟩ := by
             have : s.data.toList = [] := List.eq_nil_of_length_eq_zero (by omega)
             exact ByteArray.ext (by simpa using this)
           rw [decide_eq_false (fun h => h hne)]; simp; done)
        | (rw [hix, List.drop_of_length_le (by omega), hkw, show firstB s = (x0.toNat : Int) by unfold firstB; cases hc : s.data.toList with | nil => rw [hc] at hx0; simp at hx0 | cons y r => rw [hc] at hx0; simp at hx0; rw [hx0], hl0, decide_eq_true (show s.size ≤ 24 by omega), decide_eq_true (show s ≠ ⟨#[]⟩ from fun h => by rw [h] at hx0; simp at hx0)]; rfl)
     ·
      refine TL.gyes rfl rfl rfl ?_; refine TL.not rfl rfl ?_; refine TL.pickF rfl rfl rfl rfl ?_; refine TL.move rfl rfl ?_; refine TL.gno rfl rfl rfl rfl ?_; refine TL.pickT rfl rfl rfl rfl ?_; refine TL.nil ?_; refine TQ.then_n ?_; refine TC.cond_t rfl ?_; refine TC.seq ?_; refine TC.region ?_; refine TL.assign rfl rfl ?_; refine TL.nil ?_; refine TQ.then_n ?_; refine TC.ret ?_; refine TQ.then_r ?_; refine TQ.ret1 0 rfl rfl ?_
      refine ⟨congrArg Value.bool ?_, rfl, hL⟩
      symm
      rw [ident_eq]
      first
        | (rw [hkw]; simp; done)
        | (rw [hix, drop_cons hb, List.all_cons, show partN (b.toNat : Int) = false by unfold partN; rw [hla, hdi, decide_eq_false hun]; rfl]; simp; done)
        | (rw [decide_eq_false (show ¬ s.size ≤ 24 by omega)]; simp; done)
        | (rw [show firstB s = (x0.toNat : Int) by unfold firstB; cases hc : s.data.toList with | nil => rw [hc] at hx0; simp at hx0 | cons y r => rw [hc] at hx0; simp at hx0; rw [hx0], hl0]; simp; done)
        | (have hne : s = ⟨#[]⟩ := by
             have : s.data.toList = [] := List.eq_nil_of_length_eq_zero (by omega)
             exact ByteArray.ext (by simpa using this)
           rw [decide_eq_false (fun h => h hne)]; simp; done)
        | (rw [hix, List.drop_of_length_le (by omega), hkw, show firstB s = (x0.toNat : Int) by unfold firstB; cases hc : s.data.toList with | nil => rw [hc] at hx0; simp at hx0 | cons y r => rw [hc] at hx0; simp at hx0; rw [hx0], hl0, decide_eq_true (show s.size ≤ 24 by omega), decide_eq_true (show s ≠ ⟨#[]⟩ from fun h => by rw [h] at hx0; simp at hx0)]; rfl)
  ·
   refine TL.assign rfl rfl ?_; refine TL.nil ?_; refine TQ.then_n ?_; refine TC.seq ?_; refine TC.seq ?_; refine TC.region ?_; refine TL.move rfl rfl ?_; refine TL.len_string rfl rfl ?_
   refine TL.lssB rfl rfl rfl (fun h1 => ?_) (fun h1 => ?_)
   ·
    refine TL.move rfl rfl ?_; refine TL.gno rfl rfl rfl rfl ?_; refine TL.gno rfl rfl rfl rfl ?_; refine TL.gno rfl rfl rfl rfl ?_; refine TL.pickT rfl rfl rfl rfl ?_; refine TL.move rfl rfl ?_; refine TL.gno rfl rfl rfl rfl ?_; refine TL.gno rfl rfl rfl rfl ?_; refine TL.gno rfl rfl rfl rfl ?_; refine TL.gno rfl rfl rfl rfl ?_; refine TL.pickT rfl rfl rfl rfl ?_; refine TL.move rfl rfl ?_; refine TL.gno rfl rfl rfl rfl ?_; refine TL.pickT rfl rfl rfl rfl ?_; refine TL.nil ?_; refine TQ.then_n ?_; refine TC.cond_t rfl ?_; refine TC.seq ?_; refine TC.region ?_; refine TL.assign rfl rfl ?_; refine TL.nil ?_; refine TQ.then_n ?_; refine TC.ret ?_; refine TQ.then_r ?_; refine TQ.ret1 0 rfl rfl ?_
    refine ⟨congrArg Value.bool ?_, rfl, hL⟩
    symm
    rw [ident_eq]
    first
      | (rw [hkw]; simp; done)
      | (rw [hix, drop_cons hb, List.all_cons, show partN (b.toNat : Int) = false by unfold partN; rw [hla, hdi, decide_eq_false hun]; rfl]; simp; done)
      | (rw [decide_eq_false (show ¬ s.size ≤ 24 by omega)]; simp; done)
      | (rw [show firstB s = (x0.toNat : Int) by unfold firstB; cases hc : s.data.toList with | nil => rw [hc] at hx0; simp at hx0 | cons y r => rw [hc] at hx0; simp at hx0; rw [hx0], hl0]; simp; done)
      | (have hne : s = ⟨#[]⟩ := by
           have : s.data.toList = [] := List.eq_nil_of_length_eq_zero (by omega)
           exact ByteArray.ext (by simpa using this)
         rw [decide_eq_false (fun h => h hne)]; simp; done)
      | (rw [hix, List.drop_of_length_le (by omega), hkw, show firstB s = (x0.toNat : Int) by unfold firstB; cases hc : s.data.toList with | nil => rw [hc] at hx0; simp at hx0 | cons y r => rw [hc] at hx0; simp at hx0; rw [hx0], hl0, decide_eq_true (show s.size ≤ 24 by omega), decide_eq_true (show s ≠ ⟨#[]⟩ from fun h => by rw [h] at hx0; simp at hx0)]; rfl)
   ·
    obtain ⟨x0, hx0⟩ : ∃ x0, s.data.toList[0]? = some x0 := ⟨_, List.getElem?_eq_getElem (by omega)⟩
    refine TL.move rfl rfl ?_; refine TL.gyes rfl rfl rfl ?_; refine TL.move rfl rfl ?_; refine TL.gyes rfl rfl rfl ?_; refine TL.len_string rfl rfl ?_; refine TL.gyes rfl rfl rfl ?_
    refine TL.gtrB rfl rfl rfl (fun h24 => ?_) (fun h24 => ?_)
    ·
     refine TL.pickF rfl rfl rfl rfl ?_; refine TL.move rfl rfl ?_; refine TL.gno rfl rfl rfl rfl ?_; refine TL.gno rfl rfl rfl rfl ?_; refine TL.gno rfl rfl rfl rfl ?_; refine TL.gno rfl rfl rfl rfl ?_; refine TL.pickT rfl rfl rfl rfl ?_; refine TL.move rfl rfl ?_; refine TL.gno rfl rfl rfl rfl ?_; refine TL.pickT rfl rfl rfl rfl ?_; refine TL.nil ?_; refine TQ.then_n ?_; refine TC.cond_t rfl ?_; refine TC.seq ?_; refine TC.region ?_; refine TL.assign rfl rfl ?_; refine TL.nil ?_; refine TQ.then_n ?_; refine TC.ret ?_; refine TQ.then_r ?_; refine TQ.ret1 0 rfl rfl ?_
     refine ⟨congrArg Value.bool ?_, rfl, hL⟩
     symm
     rw [ident_eq]
     first
       | (rw [hkw]; simp; done)
       | (rw [hix, drop_cons hb, List.all_cons, show partN (b.toNat : Int) = false by unfold partN; rw [hla, hdi, decide_eq_false hun]; rfl]; simp; done)
       | (rw [decide_eq_false (show ¬ s.size ≤ 24 by omega)]; simp; done)
       | (rw [show firstB s = (x0.toNat : Int) by unfold firstB; cases hc : s.data.toList with | nil => rw [hc] at hx0; simp at hx0 | cons y r => rw [hc] at hx0; simp at hx0; rw [hx0], hl0]; simp; done)
       | (have hne : s = ⟨#[]⟩ := by
            have : s.data.toList = [] := List.eq_nil_of_length_eq_zero (by omega)
            exact ByteArray.ext (by simpa using this)
          rw [decide_eq_false (fun h => h hne)]; simp; done)
       | (rw [hix, List.drop_of_length_le (by omega), hkw, show firstB s = (x0.toNat : Int) by unfold firstB; cases hc : s.data.toList with | nil => rw [hc] at hx0; simp at hx0 | cons y r => rw [hc] at hx0; simp at hx0; rw [hx0], hl0, decide_eq_true (show s.size ≤ 24 by omega), decide_eq_true (show s ≠ ⟨#[]⟩ from fun h => by rw [h] at hx0; simp at hx0)]; rfl)
    ·
     refine TL.pickF rfl rfl rfl rfl ?_; refine TL.move rfl rfl ?_; refine TL.gyes rfl rfl rfl ?_; refine TL.move rfl rfl ?_; refine TL.gyes rfl rfl rfl ?_; refine TL.indexS 0 rfl rfl rfl (by rw [byte_get]; exact hx0) rfl ?_
     refine TL.gyes rfl rfl rfl ?_; refine TL.call (ref_letter ⟨by omega, by have := x0.toNat_lt; omega⟩) ⟨rfl, trivial⟩ rfl ?_
     rintro _ own H19 ⟨rfl, rfl, hle19⟩
     have hL := Le.trans hL hle19
     rcases hl0 : letterN (x0.toNat : Int) with _ | _
     rotate_left
     ·
      refine TL.gyes rfl rfl rfl ?_; refine TL.not rfl rfl ?_; refine TL.pickF rfl rfl rfl rfl ?_; refine TL.move rfl rfl ?_; refine TL.gyes rfl rfl rfl ?_; refine TL.move rfl rfl ?_; refine TL.pickF rfl rfl rfl rfl ?_; refine TL.nil ?_; refine TQ.then_n ?_; refine TC.cond_f rfl ?_; refine TC.skip ?_; refine TQ.then_n ?_; refine TC.seq ?_; refine TC.seq ?_; refine TC.region ?_; refine TL.assign rfl rfl ?_; refine TL.nil ?_; refine TQ.then_n ?_; refine TC.block ?_; refine TC.loop (fun n env' own' H' => ∃ k, n = s.size - k ∧ k ≤ s.size ∧ (s.data.toList.all fun b => partN (b.toNat : Int)) = ((s.data.toList.drop k).all fun b => partN (b.toNat : Int)) ∧ env' = [(0, .string s), (4, .int .i64 (k : Int))] ∧ own' = own ∧ Le H19 H') s.size [(0, _), (4, _)] ⟨rfl, rfl, trivial⟩ ⟨0, by omega, by omega, rfl, rfl, rfl, Le.refl _⟩ ?_
      rintro n _ own H1 ⟨k, rfl, hk1, hix, rfl, rfl, hle0⟩
      have hL := Le.trans hL hle0; refine TC.seq ?_; refine TC.seq ?_; refine TC.region ?_; refine TL.move rfl rfl ?_; refine TL.move rfl rfl ?_; refine TL.len_string rfl rfl ?_
      refine TL.lssB rfl rfl rfl (fun hlt => ?_) (fun hlt => ?_)
      ·
       obtain ⟨b, hb⟩ : ∃ b, s.data.toList[k]? = some b := ⟨_, List.getElem?_eq_getElem (by omega)⟩
       refine TL.nil ?_; refine TQ.then_n ?_; refine TC.cond_t rfl ?_; refine TC.skip ?_; refine TQ.then_n ?_; refine TC.seq ?_; refine TC.block ?_; refine TC.seq ?_; refine TC.region ?_; refine TL.move rfl rfl ?_; refine TL.move rfl rfl ?_; refine TL.indexS k rfl rfl rfl (by rw [byte_get]; exact hb) rfl ?_
       refine TL.call (ref_letter ⟨by omega, by have := b.toNat_lt; omega⟩) ⟨rfl, trivial⟩ rfl ?_
       rintro _ own H34 ⟨rfl, rfl, hle34⟩
       have hL := Le.trans hL hle34; have hle0 := Le.trans hle0 hle34
       rcases hla : letterN (b.toNat : Int) with _ | _
       rotate_left
       ·
        refine TL.not rfl rfl ?_; refine TL.move rfl rfl ?_; refine TL.gno rfl rfl rfl rfl ?_; refine TL.gno rfl rfl rfl rfl ?_; refine TL.gno rfl rfl rfl rfl ?_; refine TL.gno rfl rfl rfl rfl ?_; refine TL.gno rfl rfl rfl rfl ?_; refine TL.pickF rfl rfl rfl rfl ?_; refine TL.move rfl rfl ?_; refine TL.gno rfl rfl rfl rfl ?_; refine TL.gno rfl rfl rfl rfl ?_; refine TL.gno rfl rfl rfl rfl ?_; refine TL.gno rfl rfl rfl rfl ?_; refine TL.pickF rfl rfl rfl rfl ?_; refine TL.nil ?_; refine TQ.then_n ?_; refine TC.cond_f rfl ?_; refine TC.skip ?_; refine TQ.in_n ?_; refine TQ.then_n ?_; refine TC.region ?_; refine TL.move rfl rfl ?_; refine TL.add rfl rfl rfl ⟨by omega, by omega⟩ ?_; refine TL.assign rfl rfl ?_; refine TL.nil ?_; refine TQ.toOwn (own' := own) rfl ?_
        refine TQ.next (s.size - (k + 1)) [(0, _), (4, _)] (by omega) ⟨rfl, rfl, trivial⟩ ⟨k + 1, rfl, by omega, ?_, by simp, rfl, hle0⟩
        rw [hix, drop_cons hb, List.all_cons]
        rw [show partN (b.toNat : Int) = true by unfold partN; first | (rw [hla]; rfl) | (rw [hdi]; simp; done) | (rw [decide_eq_true hun]; simp; done), Bool.true_and]
       ·
        refine TL.not rfl rfl ?_; refine TL.move rfl rfl ?_; refine TL.gyes rfl rfl rfl ?_; refine TL.move rfl rfl ?_; refine TL.gyes rfl rfl rfl ?_; refine TL.move rfl rfl ?_; refine TL.gyes rfl rfl rfl ?_; refine TL.indexS k rfl rfl rfl (by rw [byte_get]; exact hb) rfl ?_
        refine TL.gyes rfl rfl rfl ?_; refine TL.call (ref_digit) ⟨rfl, trivial⟩ rfl ?_
        rintro _ own H40 ⟨rfl, rfl, hle40⟩
        have hL := Le.trans hL hle40; have hle0 := Le.trans hle0 hle40
        rcases hdi : digitN (b.toNat : Int) with _ | _
        rotate_left
        ·
         refine TL.gyes rfl rfl rfl ?_; refine TL.not rfl rfl ?_; refine TL.pickT rfl rfl rfl rfl ?_; refine TL.move rfl rfl ?_; refine TL.gno rfl rfl rfl rfl ?_; refine TL.gno rfl rfl rfl rfl ?_; refine TL.gno rfl rfl rfl rfl ?_; refine TL.gno rfl rfl rfl rfl ?_; refine TL.pickF rfl rfl rfl rfl ?_; refine TL.nil ?_; refine TQ.then_n ?_; refine TC.cond_f rfl ?_; refine TC.skip ?_; refine TQ.in_n ?_; refine TQ.then_n ?_; refine TC.region ?_; refine TL.move rfl rfl ?_; refine TL.add rfl rfl rfl ⟨by omega, by omega⟩ ?_; refine TL.assign rfl rfl ?_; refine TL.nil ?_; refine TQ.toOwn (own' := own) rfl ?_
         refine TQ.next (s.size - (k + 1)) [(0, _), (4, _)] (by omega) ⟨rfl, rfl, trivial⟩ ⟨k + 1, rfl, by omega, ?_, by simp, rfl, hle0⟩
         rw [hix, drop_cons hb, List.all_cons]
         rw [show partN (b.toNat : Int) = true by unfold partN; first | (rw [hla]; rfl) | (rw [hdi]; simp; done) | (rw [decide_eq_true hun]; simp; done), Bool.true_and]
        ·
         refine TL.gyes rfl rfl rfl ?_; refine TL.not rfl rfl ?_; refine TL.pickT rfl rfl rfl rfl ?_; refine TL.move rfl rfl ?_; refine TL.gyes rfl rfl rfl ?_; refine TL.move rfl rfl ?_; refine TL.gyes rfl rfl rfl ?_; refine TL.move rfl rfl ?_; refine TL.gyes rfl rfl rfl ?_; refine TL.indexS k rfl rfl rfl (by rw [byte_get]; exact hb) rfl ?_
         refine TL.gyes rfl rfl rfl ?_
         refine TL.neqB rfl rfl rfl (fun hun => ?_) (fun hun => ?_)
         ·
          refine TL.pickT rfl rfl rfl rfl ?_; refine TL.nil ?_; refine TQ.then_n ?_; refine TC.cond_t rfl ?_; refine TC.seq ?_; refine TC.region ?_; refine TL.assign rfl rfl ?_; refine TL.nil ?_; refine TQ.then_n ?_; refine TC.ret ?_; refine TQ.in_r ?_; refine TQ.then_r ?_; refine TQ.then_r ?_; refine TQ.in_r ?_; refine TQ.then_r ?_; refine TQ.ret1 0 rfl rfl ?_
          refine ⟨congrArg Value.bool ?_, rfl, hL⟩
          symm
          rw [ident_eq]
          first
            | (rw [hkw]; simp; done)
            | (rw [hix, drop_cons hb, List.all_cons, show partN (b.toNat : Int) = false by unfold partN; rw [hla, hdi, decide_eq_false hun]; rfl]; simp; done)
            | (rw [decide_eq_false (show ¬ s.size ≤ 24 by omega)]; simp; done)
            | (rw [show firstB s = (x0.toNat : Int) by unfold firstB; cases hc : s.data.toList with | nil => rw [hc] at hx0; simp at hx0 | cons y r => rw [hc] at hx0; simp at hx0; rw [hx0], hl0]; simp; done)
            | (have hne : s = ⟨#[]⟩ := by
                 have : s.data.toList = [] := List.eq_nil_of_length_eq_zero (by omega)
                 exact ByteArray.ext (by simpa using this)
               rw [decide_eq_false (fun h => h hne)]; simp; done)
            | (rw [hix, List.drop_of_length_le (by omega), hkw, show firstB s = (x0.toNat : Int) by unfold firstB; cases hc : s.data.toList with | nil => rw [hc] at hx0; simp at hx0 | cons y r => rw [hc] at hx0; simp at hx0; rw [hx0], hl0, decide_eq_true (show s.size ≤ 24 by omega), decide_eq_true (show s ≠ ⟨#[]⟩ from fun h => by rw [h] at hx0; simp at hx0)]; rfl)
         ·
          refine TL.pickT rfl rfl rfl rfl ?_; refine TL.nil ?_; refine TQ.then_n ?_; refine TC.cond_f rfl ?_; refine TC.skip ?_; refine TQ.in_n ?_; refine TQ.then_n ?_; refine TC.region ?_; refine TL.move rfl rfl ?_; refine TL.add rfl rfl rfl ⟨by omega, by omega⟩ ?_; refine TL.assign rfl rfl ?_; refine TL.nil ?_; refine TQ.toOwn (own' := own) rfl ?_
          refine TQ.next (s.size - (k + 1)) [(0, _), (4, _)] (by omega) ⟨rfl, rfl, trivial⟩ ⟨k + 1, rfl, by omega, ?_, by simp, rfl, hle0⟩
          rw [hix, drop_cons hb, List.all_cons]
          rw [show partN (b.toNat : Int) = true by unfold partN; first | (rw [hla]; rfl) | (rw [hdi]; simp; done) | (rw [decide_eq_true hun]; simp; done), Bool.true_and]
      ·
       refine TL.nil ?_; refine TQ.then_n ?_; refine TC.cond_f rfl ?_; refine TC.exit ?_; refine TQ.then_e ?_; refine TQ.then_e ?_; refine TQ.in_e ?_; refine TQ.nsr ?_; refine TL.assign rfl rfl ?_; refine TL.nil ?_; refine TQ.then_n ?_; refine TC.ret ?_; refine TQ.ret1 0 rfl rfl ?_
       refine ⟨congrArg Value.bool ?_, rfl, hL⟩
       symm
       rw [ident_eq]
       first
         | (rw [hkw]; simp; done)
         | (rw [hix, drop_cons hb, List.all_cons, show partN (b.toNat : Int) = false by unfold partN; rw [hla, hdi, decide_eq_false hun]; rfl]; simp; done)
         | (rw [decide_eq_false (show ¬ s.size ≤ 24 by omega)]; simp; done)
         | (rw [show firstB s = (x0.toNat : Int) by unfold firstB; cases hc : s.data.toList with | nil => rw [hc] at hx0; simp at hx0 | cons y r => rw [hc] at hx0; simp at hx0; rw [hx0], hl0]; simp; done)
         | (have hne : s = ⟨#[]⟩ := by
              have : s.data.toList = [] := List.eq_nil_of_length_eq_zero (by omega)
              exact ByteArray.ext (by simpa using this)
            rw [decide_eq_false (fun h => h hne)]; simp; done)
         | (rw [hix, List.drop_of_length_le (by omega), hkw, show firstB s = (x0.toNat : Int) by unfold firstB; cases hc : s.data.toList with | nil => rw [hc] at hx0; simp at hx0 | cons y r => rw [hc] at hx0; simp at hx0; rw [hx0], hl0, decide_eq_true (show s.size ≤ 24 by omega), decide_eq_true (show s ≠ ⟨#[]⟩ from fun h => by rw [h] at hx0; simp at hx0)]; rfl)
     ·
      refine TL.gyes rfl rfl rfl ?_; refine TL.not rfl rfl ?_; refine TL.pickF rfl rfl rfl rfl ?_; refine TL.move rfl rfl ?_; refine TL.gno rfl rfl rfl rfl ?_; refine TL.pickT rfl rfl rfl rfl ?_; refine TL.nil ?_; refine TQ.then_n ?_; refine TC.cond_t rfl ?_; refine TC.seq ?_; refine TC.region ?_; refine TL.assign rfl rfl ?_; refine TL.nil ?_; refine TQ.then_n ?_; refine TC.ret ?_; refine TQ.then_r ?_; refine TQ.ret1 0 rfl rfl ?_
      refine ⟨congrArg Value.bool ?_, rfl, hL⟩
      symm
      rw [ident_eq]
      first
        | (rw [hkw]; simp; done)
        | (rw [hix, drop_cons hb, List.all_cons, show partN (b.toNat : Int) = false by unfold partN; rw [hla, hdi, decide_eq_false hun]; rfl]; simp; done)
        | (rw [decide_eq_false (show ¬ s.size ≤ 24 by omega)]; simp; done)
        | (rw [show firstB s = (x0.toNat : Int) by unfold firstB; cases hc : s.data.toList with | nil => rw [hc] at hx0; simp at hx0 | cons y r => rw [hc] at hx0; simp at hx0; rw [hx0], hl0]; simp; done)
        | (have hne : s = ⟨#[]⟩ := by
             have : s.data.toList = [] := List.eq_nil_of_length_eq_zero (by omega)
             exact ByteArray.ext (by simpa using this)
           rw [decide_eq_false (fun h => h hne)]; simp; done)
        | (rw [hix, List.drop_of_length_le (by omega), hkw, show firstB s = (x0.toNat : Int) by unfold firstB; cases hc : s.data.toList with | nil => rw [hc] at hx0; simp at hx0 | cons y r => rw [hc] at hx0; simp at hx0; rw [hx0], hl0, decide_eq_true (show s.size ≤ 24 by omega), decide_eq_true (show s ≠ ⟨#[]⟩ from fun h => by rw [h] at hx0; simp at hx0)]; rfl)

end Go.Proofs.YteeamfkhkbfilaaGreat.K

namespace Go.Proofs.YteeamfkhkbfilaaGreat.K
open Go Go.RowKit Go.Proofs

def Fact.d (f : Fact) : List D := [.c (.int .i64 f.kind), .c (.int .i64 f.bank), .c (.int .u16 f.addr), .c (.string f.text)]
def Fact.v (f : Fact) : List Value := [.int .i64 f.kind, .int .i64 f.bank, .int .u16 f.addr, .string f.text]
abbrev factsD (l : List Fact) : List D := l.flatMap Fact.d
def factsV (l : List Fact) : List Value := l.flatMap Fact.v
theorem Fact.d_len (f : Fact) : f.d.length = 4 := rfl
theorem factsV_snoc (l : List Fact) (f : Fact) : factsV (l ++ [f]) = factsV l ++ f.v := by simp [factsV]
theorem facts_rdl (H : Hp) : ∀ (l : List Fact), RdL H (factsD l) (factsV l)
  | [] => trivial
  | f :: r => by
    have := facts_rdl H r
    simp only [factsD, factsV, List.flatMap_cons] at this ⊢
    refine RdL.append ?_ this
    exact ⟨by simp [rd], by simp [rd], by simp [rd], by simp [rd], trivial⟩
theorem fact_cells {H : Hp} {f : Fact} {cs : List Value} (h : RdL H f.d cs) : cs = f.v := by
  match cs, h with
  | [c0, c1, c2, c3], ⟨h0, h1, h2, h3, _⟩ =>
    simp only [rd] at h0 h1 h2 h3
    subst h0 h1 h2 h3
    rfl
/-- A slice of facts: its length; an element. -/
theorem facts_len {H : Hp} {l : List Fact} {v : Value} (h : rd H (.s 4 (factsD l)) v) : ∃ A c, v = .slice A l.length c ∧ l.length ≤ c ∧ c ≤ 9223372036854775807 := elems_len (by omega) Fact.d_len h
theorem facts_at {H : Hp} {l : List Fact} {A : Option Addr} {n c : Nat} (h : rd H (.s 4 (factsD l)) (.slice A n c)) {i : Nat} {f : Fact} (hi : l[i]? = some f) : ∃ b o, A = some ⟨b, o, none⟩ ∧ hAt H b (o + i * 4) f.v := by
  obtain ⟨b, o, cells, rfl, h1, h2, _⟩ := elems_at (by omega) Fact.d_len h hi
  rw [fact_cells h2] at h1
  exact ⟨b, o, rfl, h1⟩
theorem facts_row {H H' : Hp} {u : Value} {l : List Fact} {seg : Seg} (h : Row 60 4 u l.length (factsV l) seg) (hz : ∀ p ∈ seg, H p.1 = some p.2) (hl : Le H H') : rd H' (.s 4 (factsD l)) u := (rd.ofRow h hz (facts_rdl H l) (Le.refl _)).mono hl
/-- Numbers that fit. -/
structure FOk (f : Fact) : Prop where
  kind : I64 f.kind
  bank : I64 f.bank
  addr : U16 f.addr
  text : f.text.size ≤ 1000000
section
variable {w0 : World} {N : Nat} {Q : Exit → Act → World → Prop} {env : Env} {own : List Seg} {H : Hp} {ops : Array Oper} {rest : List Oper}
variable {d : Option Tmp} {ty : TypeId} {pos : String} {af : Array Edge}
theorem TL.eqlPlace {x y : Operand} {t' : TypeId} {b a b' a' : Int} (hx : ev env x = some (.agg #[.int .i64 b, .int .u16 a])) (hy : ev env y = some (.agg #[.int .i64 b', .int .u16 a'])) (hb : I64 b) (ha : U16 a) (hb' : I64 b') (ha' : U16 a') (hd : okD N d = true)
    (h : TL Tryz.prog w0 N Q ops rest (putE d (.bool (decide (b = b' ∧ a = a'))) env) own H) :
    TL Tryz.prog w0 N Q ops ({ dst := d, op := .binOp .eql 58 x y t', type := ty, pos := pos, after := af, guard := none } :: rest) env own H := by
  obtain ⟨l1, h1⟩ := keyPL hb ha
  obtain ⟨l2, h2⟩ := keyPL hb' ha'
  refine TL.eqlKey 3 hx hy (by kernel_rfl) (by kernel_rfl) rfl (by rw [Tryz.underlying58]) KPL h1 h2 hd (fun r hr => ?_)
  have : r = decide (b = b' ∧ a = a') := by rw [Bool.eq_iff_iff, hr, decide_eq_true_iff]; simp
  rw [this]; exact h
theorem TL.neqFact {x y : Operand} {t' : TypeId} {f g : Fact} (hx : ev env x = some (.agg f.v.toArray)) (hy : ev env y = some (.agg g.v.toArray)) (hf : FOk f) (hg : FOk g) (hd : okD N d = true)
    (h : TL Tryz.prog w0 N Q ops rest (putE d (.bool (decide (f ≠ g))) env) own H) :
    TL Tryz.prog w0 N Q ops ({ dst := d, op := .binOp .neq 60 x y t', type := ty, pos := pos, after := af, guard := none } :: rest) env own H := by
  obtain ⟨l1, h1⟩ := keyFA hf.kind hf.bank hf.addr (s := f.text) (Nat.le_trans hf.text (by decide))
  obtain ⟨l2, h2⟩ := keyFA hg.kind hg.bank hg.addr (s := g.text) (Nat.le_trans hg.text (by decide))
  refine TL.neqKey 3 hx hy (by kernel_rfl) (by kernel_rfl) rfl (by rw [Tryz.underlying60]) KFA h1 h2 hd (fun r hr => ?_)
  have : r = decide (f ≠ g) := by
    rw [Bool.eq_iff_iff, hr, decide_eq_true_iff]
    obtain ⟨k1, k2, k3, k4⟩ := f
    obtain ⟨q1, q2, q3, q4⟩ := g
    simp [Fact.v]
  rw [this]; exact h
end
/-- Valid facts. -/
def factR (f : Fact) : Bool := decide (1 ≤ f.kind) && decide (f.kind ≤ 4) && decide (-1 ≤ f.bank) && decide (f.bank < 64) && decide (f.text.size ≤ 200) && (decide (f.kind ≠ 1) || decide (f.text = eS) || identN f.text)
theorem factR_k1 {f : Fact} (h : f.kind < 1) : factR f = false := by unfold factR; rw [decide_eq_false (by omega)]; rfl
theorem factR_k2 {f : Fact} (h : 4 < f.kind) : factR f = false := by unfold factR; rw [decide_eq_false (show ¬ f.kind ≤ 4 by omega)]; simp
theorem factR_b1 {f : Fact} (h : f.bank < -1) : factR f = false := by unfold factR; rw [decide_eq_false (show ¬ -1 ≤ f.bank by omega)]; simp
theorem factR_b2 {f : Fact} (h : 64 ≤ f.bank) : factR f = false := by unfold factR; rw [decide_eq_false (show ¬ f.bank < 64 by omega)]; simp
theorem factR_t {f : Fact} (h : 200 < f.text.size) : factR f = false := by unfold factR; rw [decide_eq_false (show ¬ f.text.size ≤ 200 by omega)]; simp
theorem factR_n {f : Fact} (h : f.kind = 1) (h2 : f.text ≠ eS) (h3 : identN f.text = false) : factR f = false := by unfold factR; rw [decide_eq_false (show ¬ f.kind ≠ 1 by omega), decide_eq_false h2, h3]; simp
theorem factR_ok {f : Fact} (h1 : 1 ≤ f.kind) (h2 : f.kind ≤ 4) (h3 : -1 ≤ f.bank) (h4 : f.bank < 64) (h5 : f.text.size ≤ 200) (h6 : f.kind ≠ 1 ∨ f.text = eS ∨ identN f.text = true) : factR f = true := by
  unfold factR
  rw [decide_eq_true h1, decide_eq_true h2, decide_eq_true h3, decide_eq_true h4, decide_eq_true h5]
  rcases h6 with h | h | h
  · rw [decide_eq_true h]; rfl
  · rw [decide_eq_true h]; simp
  · rw [h]; simp
/-- The error of a list of facts. -/
def wrongC (l : List Fact) : Int := if 1000 < l.length then 2 else if l = [] then 1 else if (l.all factR) = false then 1 else if (l.map Fact.key).Nodup then 0 else 33
def payF (f : Fact) : ByteArray := (⟨#[b8 f.kind, b8 f.bank, b8 f.addr, b8 (f.addr / 256), b8 f.text.size]⟩ : ByteArray) ++ f.text
def payS (l : List Fact) : ByteArray := l.foldl (fun s f => s ++ payF f) eS
theorem payS_snoc (l : List Fact) (f : Fact) : payS (l ++ [f]) = payS l ++ payF f := by simp [payS]
theorem payF_size (f : Fact) : (payF f).size = 5 + f.text.size := by unfold payF; rw [ByteArray.size_append]; rfl
theorem payS_size : ∀ (l : List Fact), (∀ f ∈ l, FOk f) → (payS l).size ≤ l.length * 1000005 := by
  intro l
  have gen : ∀ (l : List Fact) (s : ByteArray), (∀ f ∈ l, FOk f) → (l.foldl (fun s f => s ++ payF f) s).size ≤ s.size + l.length * 1000005 := by
    intro l
    induction l with
    | nil => intro s _; simp
    | cons f r ih =>
      intro s h
      have h1 := ih (s ++ payF f) (fun g hg => h g (by simp [hg]))
      have h2 := (h f (by simp)).text
      rw [ByteArray.size_append, payF_size] at h1
      simp only [List.foldl_cons, List.length_cons]; omega
  intro h
  have := gen l eS h
  have e : (eS : ByteArray).size = 0 := rfl
  unfold payS
  omega
theorem b8_wrap (n : Int) : IntKind.u8.wrap n = ((b8 n).toNat : Int) := by
  have := b8_val n
  unfold byteV at this
  injection this with _ h
  exact h.symm
end Go.Proofs.YteeamfkhkbfilaaGreat.K
