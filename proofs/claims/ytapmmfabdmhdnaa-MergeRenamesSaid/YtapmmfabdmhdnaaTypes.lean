/-
  The types and functions of this translation as instances. Written by a program of ours out of the translation.
-/
import Derived.Test.YtapmmfabdmhdnaaMore
import Derived.Test.YtapmmfabdmhdnaaProg
import Derived.KernelRfl
set_option linter.defProp false
namespace Go.Proofs.Ytapmmfabdmhdnaa.K
open Go Go.Proofs
abbrev und0 := Und.mk Try.underlying0
attribute [instance] und0
theorem info0 : Try.prog.info? 0 = some Try.t0 := by kernel_rfl
instance inf0 : Inf Try.prog 0 Try.t0 := ⟨info0⟩
instance ty0 : Ty Try.prog 0 false 1 := Ty.of Try.underlying0 info0
abbrev und1 := Und.mk Try.underlying1
attribute [instance] und1
theorem info1 : Try.prog.info? 1 = some Try.t1 := by kernel_rfl
instance inf1 : Inf Try.prog 1 Try.t1 := ⟨info1⟩
instance ty1 : Ty Try.prog 1 false 1 := Ty.of Try.underlying1 info1
abbrev und2 := Und.mk Try.underlying2
attribute [instance] und2
theorem info2 : Try.prog.info? 2 = some Try.t2 := by kernel_rfl
instance inf2 : Inf Try.prog 2 Try.t2 := ⟨info2⟩
instance ty2 : Ty Try.prog 2 false 1 := Ty.of Try.underlying2 info2
abbrev und3 := Und.mk Try.underlying3
attribute [instance] und3
theorem info3 : Try.prog.info? 3 = some Try.t3 := by kernel_rfl
instance inf3 : Inf Try.prog 3 Try.t3 := ⟨info3⟩
instance ty3 : Ty Try.prog 3 false 1 := Ty.of Try.underlying3 info3
abbrev und4 := Und.mk Try.underlying4
attribute [instance] und4
theorem info4 : Try.prog.info? 4 = some Try.t4 := by kernel_rfl
instance inf4 : Inf Try.prog 4 Try.t4 := ⟨info4⟩
instance ty4 : Ty Try.prog 4 false 1 := Ty.of Try.underlying4 info4
abbrev und5 := Und.mk Try.underlying5
attribute [instance] und5
theorem info5 : Try.prog.info? 5 = some Try.t5 := by kernel_rfl
instance inf5 : Inf Try.prog 5 Try.t5 := ⟨info5⟩
instance ty5 : Ty Try.prog 5 false 1 := Ty.of Try.underlying5 info5
abbrev und6 := Und.mk Try.underlying6
attribute [instance] und6
theorem info6 : Try.prog.info? 6 = some Try.t6 := by kernel_rfl
instance inf6 : Inf Try.prog 6 Try.t6 := ⟨info6⟩
instance ty6 : Ty Try.prog 6 false 1 := Ty.of Try.underlying6 info6
abbrev und7 := Und.mk Try.underlying7
attribute [instance] und7
theorem info7 : Try.prog.info? 7 = some Try.t7 := by kernel_rfl
instance inf7 : Inf Try.prog 7 Try.t7 := ⟨info7⟩
instance ty7 : Ty Try.prog 7 true 4 := Ty.of Try.underlying7 info7
abbrev und8 := Und.mk Try.underlying8
attribute [instance] und8
theorem info8 : Try.prog.info? 8 = some Try.t8 := by kernel_rfl
instance inf8 : Inf Try.prog 8 Try.t8 := ⟨info8⟩
instance ty8 : Ty Try.prog 8 true 4 := Ty.of Try.underlying8 info8
abbrev und9 := Und.mk Try.underlying9
attribute [instance] und9
theorem info9 : Try.prog.info? 9 = some Try.t9 := by kernel_rfl
instance inf9 : Inf Try.prog 9 Try.t9 := ⟨info9⟩
instance ty9 : Ty Try.prog 9 false 1 := Ty.of Try.underlying9 info9
abbrev und10 := Und.mk Try.underlying10
attribute [instance] und10
theorem info10 : Try.prog.info? 10 = some Try.t10 := by kernel_rfl
instance inf10 : Inf Try.prog 10 Try.t10 := ⟨info10⟩
instance ty10 : Ty Try.prog 10 false 1 := Ty.of Try.underlying10 info10
abbrev und11 := Und.mk Try.underlying11
attribute [instance] und11
theorem info11 : Try.prog.info? 11 = some Try.t11 := by kernel_rfl
instance inf11 : Inf Try.prog 11 Try.t11 := ⟨info11⟩
instance ty11 : Ty Try.prog 11 false 1 := Ty.of Try.underlying11 info11
abbrev und12 := Und.mk Try.underlying12
attribute [instance] und12
theorem info12 : Try.prog.info? 12 = some Try.t12 := by kernel_rfl
instance inf12 : Inf Try.prog 12 Try.t12 := ⟨info12⟩
instance ty12 : Ty Try.prog 12 false 1 := Ty.of Try.underlying12 info12
abbrev und13 := Und.mk Try.underlying13
attribute [instance] und13
theorem info13 : Try.prog.info? 13 = some Try.t13 := by kernel_rfl
instance inf13 : Inf Try.prog 13 Try.t13 := ⟨info13⟩
instance ty13 : Ty Try.prog 13 true 2 := Ty.of Try.underlying13 info13
abbrev und14 := Und.mk Try.underlying14
attribute [instance] und14
theorem info14 : Try.prog.info? 14 = some Try.t14 := by kernel_rfl
instance inf14 : Inf Try.prog 14 Try.t14 := ⟨info14⟩
instance ty14 : Ty Try.prog 14 true 2 := Ty.of Try.underlying14 info14
abbrev und15 := Und.mk Try.underlying15
attribute [instance] und15
theorem info15 : Try.prog.info? 15 = some Try.t15 := by kernel_rfl
instance inf15 : Inf Try.prog 15 Try.t15 := ⟨info15⟩
instance ty15 : Ty Try.prog 15 false 1 := Ty.of Try.underlying15 info15
abbrev und16 := Und.mk Try.underlying16
attribute [instance] und16
theorem info16 : Try.prog.info? 16 = some Try.t16 := by kernel_rfl
instance inf16 : Inf Try.prog 16 Try.t16 := ⟨info16⟩
instance ty16 : Ty Try.prog 16 false 1 := Ty.of Try.underlying16 info16
abbrev und17 := Und.mk Try.underlying17
attribute [instance] und17
theorem info17 : Try.prog.info? 17 = some Try.t17 := by kernel_rfl
instance inf17 : Inf Try.prog 17 Try.t17 := ⟨info17⟩
instance ty17 : Ty Try.prog 17 false 1 := Ty.of Try.underlying17 info17
abbrev und18 := Und.mk Try.underlying18
attribute [instance] und18
theorem info18 : Try.prog.info? 18 = some Try.t18 := by kernel_rfl
instance inf18 : Inf Try.prog 18 Try.t18 := ⟨info18⟩
instance ty18 : Ty Try.prog 18 true 1 := Ty.of Try.underlying18 info18
abbrev und19 := Und.mk Try.underlying19
attribute [instance] und19
theorem info19 : Try.prog.info? 19 = some Try.t19 := by kernel_rfl
instance inf19 : Inf Try.prog 19 Try.t19 := ⟨info19⟩
instance ty19 : Ty Try.prog 19 true 1 := Ty.of Try.underlying19 info19
abbrev und20 := Und.mk Try.underlying20
attribute [instance] und20
theorem info20 : Try.prog.info? 20 = some Try.t20 := by kernel_rfl
instance inf20 : Inf Try.prog 20 Try.t20 := ⟨info20⟩
instance ty20 : Ty Try.prog 20 false 1 := Ty.of Try.underlying20 info20
abbrev und21 := Und.mk Try.underlying21
attribute [instance] und21
theorem info21 : Try.prog.info? 21 = some Try.t21 := by kernel_rfl
instance inf21 : Inf Try.prog 21 Try.t21 := ⟨info21⟩
instance ty21 : Ty Try.prog 21 false 1 := Ty.of Try.underlying21 info21
abbrev und22 := Und.mk Try.underlying22
attribute [instance] und22
theorem info22 : Try.prog.info? 22 = some Try.t22 := by kernel_rfl
instance inf22 : Inf Try.prog 22 Try.t22 := ⟨info22⟩
instance ty22 : Ty Try.prog 22 false 1 := Ty.of Try.underlying22 info22
abbrev und23 := Und.mk Try.underlying23
attribute [instance] und23
theorem info23 : Try.prog.info? 23 = some Try.t23 := by kernel_rfl
instance inf23 : Inf Try.prog 23 Try.t23 := ⟨info23⟩
instance ty23 : Ty Try.prog 23 false 1 := Ty.of Try.underlying23 info23
abbrev und24 := Und.mk Try.underlying24
attribute [instance] und24
theorem info24 : Try.prog.info? 24 = some Try.t24 := by kernel_rfl
instance inf24 : Inf Try.prog 24 Try.t24 := ⟨info24⟩
instance ty24 : Ty Try.prog 24 false 1 := Ty.of Try.underlying24 info24
abbrev und25 := Und.mk Try.underlying25
attribute [instance] und25
theorem info25 : Try.prog.info? 25 = some Try.t25 := by kernel_rfl
instance inf25 : Inf Try.prog 25 Try.t25 := ⟨info25⟩
instance ty25 : Ty Try.prog 25 false 1 := Ty.of Try.underlying25 info25
abbrev und26 := Und.mk Try.underlying26
attribute [instance] und26
theorem info26 : Try.prog.info? 26 = some Try.t26 := by kernel_rfl
instance inf26 : Inf Try.prog 26 Try.t26 := ⟨info26⟩
instance ty26 : Ty Try.prog 26 true 2 := Ty.of Try.underlying26 info26
abbrev und27 := Und.mk Try.underlying27
attribute [instance] und27
theorem info27 : Try.prog.info? 27 = some Try.t27 := by kernel_rfl
instance inf27 : Inf Try.prog 27 Try.t27 := ⟨info27⟩
instance ty27 : Ty Try.prog 27 true 2 := Ty.of Try.underlying27 info27
abbrev und28 := Und.mk Try.underlying28
attribute [instance] und28
theorem info28 : Try.prog.info? 28 = some Try.t28 := by kernel_rfl
instance inf28 : Inf Try.prog 28 Try.t28 := ⟨info28⟩
instance ty28 : Ty Try.prog 28 false 1 := Ty.of Try.underlying28 info28
abbrev und29 := Und.mk Try.underlying29
attribute [instance] und29
theorem info29 : Try.prog.info? 29 = some Try.t29 := by kernel_rfl
instance inf29 : Inf Try.prog 29 Try.t29 := ⟨info29⟩
instance ty29 : Ty Try.prog 29 false 1 := Ty.of Try.underlying29 info29
abbrev und30 := Und.mk Try.underlying30
attribute [instance] und30
theorem info30 : Try.prog.info? 30 = some Try.t30 := by kernel_rfl
instance inf30 : Inf Try.prog 30 Try.t30 := ⟨info30⟩
instance ty30 : Ty Try.prog 30 false 1 := Ty.of Try.underlying30 info30
abbrev und31 := Und.mk Try.underlying31
attribute [instance] und31
theorem info31 : Try.prog.info? 31 = some Try.t31 := by kernel_rfl
instance inf31 : Inf Try.prog 31 Try.t31 := ⟨info31⟩
instance ty31 : Ty Try.prog 31 false 1 := Ty.of Try.underlying31 info31
abbrev und32 := Und.mk Try.underlying32
attribute [instance] und32
theorem info32 : Try.prog.info? 32 = some Try.t32 := by kernel_rfl
instance inf32 : Inf Try.prog 32 Try.t32 := ⟨info32⟩
instance ty32 : Ty Try.prog 32 false 1 := Ty.of Try.underlying32 info32
abbrev und33 := Und.mk Try.underlying33
attribute [instance] und33
theorem info33 : Try.prog.info? 33 = some Try.t33 := by kernel_rfl
instance inf33 : Inf Try.prog 33 Try.t33 := ⟨info33⟩
instance ty33 : Ty Try.prog 33 false 1 := Ty.of Try.underlying33 info33
abbrev und34 := Und.mk Try.underlying34
attribute [instance] und34
theorem info34 : Try.prog.info? 34 = some Try.t34 := by kernel_rfl
instance inf34 : Inf Try.prog 34 Try.t34 := ⟨info34⟩
instance ty34 : Ty Try.prog 34 false 1 := Ty.of Try.underlying34 info34
abbrev und35 := Und.mk Try.underlying35
attribute [instance] und35
theorem info35 : Try.prog.info? 35 = some Try.t35 := by kernel_rfl
instance inf35 : Inf Try.prog 35 Try.t35 := ⟨info35⟩
instance ty35 : Ty Try.prog 35 false 1 := Ty.of Try.underlying35 info35
abbrev und36 := Und.mk Try.underlying36
attribute [instance] und36
theorem info36 : Try.prog.info? 36 = some Try.t36 := by kernel_rfl
instance inf36 : Inf Try.prog 36 Try.t36 := ⟨info36⟩
instance ty36 : Ty Try.prog 36 false 1 := Ty.of Try.underlying36 info36
abbrev und37 := Und.mk Try.underlying37
attribute [instance] und37
theorem info37 : Try.prog.info? 37 = some Try.t37 := by kernel_rfl
instance inf37 : Inf Try.prog 37 Try.t37 := ⟨info37⟩
instance ty37 : Ty Try.prog 37 false 1 := Ty.of Try.underlying37 info37
abbrev und38 := Und.mk Try.underlying38
attribute [instance] und38
theorem info38 : Try.prog.info? 38 = some Try.t38 := by kernel_rfl
instance inf38 : Inf Try.prog 38 Try.t38 := ⟨info38⟩
instance ty38 : Ty Try.prog 38 false 1 := Ty.of Try.underlying38 info38
abbrev und39 := Und.mk Try.underlying39
attribute [instance] und39
theorem info39 : Try.prog.info? 39 = some Try.t39 := by kernel_rfl
instance inf39 : Inf Try.prog 39 Try.t39 := ⟨info39⟩
instance ty39 : Ty Try.prog 39 false 1 := Ty.of Try.underlying39 info39
abbrev und40 := Und.mk Try.underlying40
attribute [instance] und40
theorem info40 : Try.prog.info? 40 = some Try.t40 := by kernel_rfl
instance inf40 : Inf Try.prog 40 Try.t40 := ⟨info40⟩
instance ty40 : Ty Try.prog 40 false 1 := Ty.of Try.underlying40 info40
abbrev und41 := Und.mk Try.underlying41
attribute [instance] und41
theorem info41 : Try.prog.info? 41 = some Try.t41 := by kernel_rfl
instance inf41 : Inf Try.prog 41 Try.t41 := ⟨info41⟩
instance ty41 : Ty Try.prog 41 false 1 := Ty.of Try.underlying41 info41
abbrev und42 := Und.mk Try.underlying42
attribute [instance] und42
theorem info42 : Try.prog.info? 42 = some Try.t42 := by kernel_rfl
instance inf42 : Inf Try.prog 42 Try.t42 := ⟨info42⟩
instance ty42 : Ty Try.prog 42 false 1 := Ty.of Try.underlying42 info42
abbrev und43 := Und.mk Try.underlying43
attribute [instance] und43
theorem info43 : Try.prog.info? 43 = some Try.t43 := by kernel_rfl
instance inf43 : Inf Try.prog 43 Try.t43 := ⟨info43⟩
instance ty43 : Ty Try.prog 43 false 1 := Ty.of Try.underlying43 info43
abbrev und44 := Und.mk Try.underlying44
attribute [instance] und44
theorem info44 : Try.prog.info? 44 = some Try.t44 := by kernel_rfl
instance inf44 : Inf Try.prog 44 Try.t44 := ⟨info44⟩
instance ty44 : Ty Try.prog 44 false 1 := Ty.of Try.underlying44 info44
abbrev und45 := Und.mk Try.underlying45
attribute [instance] und45
theorem info45 : Try.prog.info? 45 = some Try.t45 := by kernel_rfl
instance inf45 : Inf Try.prog 45 Try.t45 := ⟨info45⟩
instance ty45 : Ty Try.prog 45 false 1 := Ty.of Try.underlying45 info45
abbrev und46 := Und.mk Try.underlying46
attribute [instance] und46
theorem info46 : Try.prog.info? 46 = some Try.t46 := by kernel_rfl
instance inf46 : Inf Try.prog 46 Try.t46 := ⟨info46⟩
instance ty46 : Ty Try.prog 46 false 1 := Ty.of Try.underlying46 info46
abbrev und47 := Und.mk Try.underlying47
attribute [instance] und47
theorem info47 : Try.prog.info? 47 = some Try.t47 := by kernel_rfl
instance inf47 : Inf Try.prog 47 Try.t47 := ⟨info47⟩
instance ty47 : Ty Try.prog 47 true 4 := Ty.of Try.underlying47 info47
abbrev und48 := Und.mk Try.underlying48
attribute [instance] und48
theorem info48 : Try.prog.info? 48 = some Try.t48 := by kernel_rfl
instance inf48 : Inf Try.prog 48 Try.t48 := ⟨info48⟩
instance ty48 : Ty Try.prog 48 true 4 := Ty.of Try.underlying48 info48
abbrev und49 := Und.mk Try.underlying49
attribute [instance] und49
theorem info49 : Try.prog.info? 49 = some Try.t49 := by kernel_rfl
instance inf49 : Inf Try.prog 49 Try.t49 := ⟨info49⟩
instance ty49 : Ty Try.prog 49 false 1 := Ty.of Try.underlying49 info49
abbrev und50 := Und.mk Try.underlying50
attribute [instance] und50
theorem info50 : Try.prog.info? 50 = some Try.t50 := by kernel_rfl
instance inf50 : Inf Try.prog 50 Try.t50 := ⟨info50⟩
instance ty50 : Ty Try.prog 50 false 1 := Ty.of Try.underlying50 info50
abbrev und51 := Und.mk Try.underlying51
attribute [instance] und51
theorem info51 : Try.prog.info? 51 = some Try.t51 := by kernel_rfl
instance inf51 : Inf Try.prog 51 Try.t51 := ⟨info51⟩
instance ty51 : Ty Try.prog 51 true 2 := Ty.of Try.underlying51 info51
abbrev und52 := Und.mk Try.underlying52
attribute [instance] und52
theorem info52 : Try.prog.info? 52 = some Try.t52 := by kernel_rfl
instance inf52 : Inf Try.prog 52 Try.t52 := ⟨info52⟩
instance ty52 : Ty Try.prog 52 true 2 := Ty.of Try.underlying52 info52
abbrev und53 := Und.mk Try.underlying53
attribute [instance] und53
theorem info53 : Try.prog.info? 53 = some Try.t53 := by kernel_rfl
instance inf53 : Inf Try.prog 53 Try.t53 := ⟨info53⟩
instance ty53 : Ty Try.prog 53 true 10 := Ty.of Try.underlying53 info53
abbrev und54 := Und.mk Try.underlying54
attribute [instance] und54
theorem info54 : Try.prog.info? 54 = some Try.t54 := by kernel_rfl
instance inf54 : Inf Try.prog 54 Try.t54 := ⟨info54⟩
instance ty54 : Ty Try.prog 54 true 10 := Ty.of Try.underlying54 info54
abbrev und55 := Und.mk Try.underlying55
attribute [instance] und55
theorem info55 : Try.prog.info? 55 = some Try.t55 := by kernel_rfl
instance inf55 : Inf Try.prog 55 Try.t55 := ⟨info55⟩
instance ty55 : Ty Try.prog 55 false 1 := Ty.of Try.underlying55 info55
abbrev und56 := Und.mk Try.underlying56
attribute [instance] und56
theorem info56 : Try.prog.info? 56 = some Try.t56 := by kernel_rfl
instance inf56 : Inf Try.prog 56 Try.t56 := ⟨info56⟩
instance ty56 : Ty Try.prog 56 false 1 := Ty.of Try.underlying56 info56
abbrev und57 := Und.mk Try.underlying57
attribute [instance] und57
theorem info57 : Try.prog.info? 57 = some Try.t57 := by kernel_rfl
instance inf57 : Inf Try.prog 57 Try.t57 := ⟨info57⟩
instance ty57 : Ty Try.prog 57 true 4 := Ty.of Try.underlying57 info57
abbrev und58 := Und.mk Try.underlying58
attribute [instance] und58
theorem info58 : Try.prog.info? 58 = some Try.t58 := by kernel_rfl
instance inf58 : Inf Try.prog 58 Try.t58 := ⟨info58⟩
instance ty58 : Ty Try.prog 58 true 4 := Ty.of Try.underlying58 info58
abbrev und59 := Und.mk Try.underlying59
attribute [instance] und59
theorem info59 : Try.prog.info? 59 = some Try.t59 := by kernel_rfl
instance inf59 : Inf Try.prog 59 Try.t59 := ⟨info59⟩
instance ty59 : Ty Try.prog 59 false 1 := Ty.of Try.underlying59 info59
abbrev und60 := Und.mk Try.underlying60
attribute [instance] und60
theorem info60 : Try.prog.info? 60 = some Try.t60 := by kernel_rfl
instance inf60 : Inf Try.prog 60 Try.t60 := ⟨info60⟩
instance ty60 : Ty Try.prog 60 true 11 := Ty.of Try.underlying60 info60
abbrev und61 := Und.mk Try.underlying61
attribute [instance] und61
theorem info61 : Try.prog.info? 61 = some Try.t61 := by kernel_rfl
instance inf61 : Inf Try.prog 61 Try.t61 := ⟨info61⟩
instance ty61 : Ty Try.prog 61 true 11 := Ty.of Try.underlying61 info61
abbrev und62 := Und.mk Try.underlying62
attribute [instance] und62
theorem info62 : Try.prog.info? 62 = some Try.t62 := by kernel_rfl
instance inf62 : Inf Try.prog 62 Try.t62 := ⟨info62⟩
instance ty62 : Ty Try.prog 62 false 1 := Ty.of Try.underlying62 info62
abbrev und63 := Und.mk Try.underlying63
attribute [instance] und63
theorem info63 : Try.prog.info? 63 = some Try.t63 := by kernel_rfl
instance inf63 : Inf Try.prog 63 Try.t63 := ⟨info63⟩
instance ty63 : Ty Try.prog 63 false 1 := Ty.of Try.underlying63 info63
abbrev und64 := Und.mk Try.underlying64
attribute [instance] und64
theorem info64 : Try.prog.info? 64 = some Try.t64 := by kernel_rfl
instance inf64 : Inf Try.prog 64 Try.t64 := ⟨info64⟩
instance ty64 : Ty Try.prog 64 false 1 := Ty.of Try.underlying64 info64
abbrev und65 := Und.mk Try.underlying65
attribute [instance] und65
theorem info65 : Try.prog.info? 65 = some Try.t65 := by kernel_rfl
instance inf65 : Inf Try.prog 65 Try.t65 := ⟨info65⟩
instance ty65 : Ty Try.prog 65 false 1 := Ty.of Try.underlying65 info65
abbrev und66 := Und.mk Try.underlying66
attribute [instance] und66
theorem info66 : Try.prog.info? 66 = some Try.t66 := by kernel_rfl
instance inf66 : Inf Try.prog 66 Try.t66 := ⟨info66⟩
instance ty66 : Ty Try.prog 66 false 1 := Ty.of Try.underlying66 info66
abbrev und67 := Und.mk Try.underlying67
attribute [instance] und67
theorem info67 : Try.prog.info? 67 = some Try.t67 := by kernel_rfl
instance inf67 : Inf Try.prog 67 Try.t67 := ⟨info67⟩
instance ty67 : Ty Try.prog 67 false 1 := Ty.of Try.underlying67 info67
abbrev und68 := Und.mk Try.underlying68
attribute [instance] und68
theorem info68 : Try.prog.info? 68 = some Try.t68 := by kernel_rfl
instance inf68 : Inf Try.prog 68 Try.t68 := ⟨info68⟩
instance ty68 : Ty Try.prog 68 false 1 := Ty.of Try.underlying68 info68
abbrev und69 := Und.mk Try.underlying69
attribute [instance] und69
theorem info69 : Try.prog.info? 69 = some Try.t69 := by kernel_rfl
instance inf69 : Inf Try.prog 69 Try.t69 := ⟨info69⟩
instance ty69 : Ty Try.prog 69 true 2 := Ty.of Try.underlying69 info69
abbrev und70 := Und.mk Try.underlying70
attribute [instance] und70
theorem info70 : Try.prog.info? 70 = some Try.t70 := by kernel_rfl
instance inf70 : Inf Try.prog 70 Try.t70 := ⟨info70⟩
instance ty70 : Ty Try.prog 70 true 2 := Ty.of Try.underlying70 info70
abbrev und71 := Und.mk Try.underlying71
attribute [instance] und71
theorem info71 : Try.prog.info? 71 = some Try.t71 := by kernel_rfl
instance inf71 : Inf Try.prog 71 Try.t71 := ⟨info71⟩
instance ty71 : Ty Try.prog 71 false 1 := Ty.of Try.underlying71 info71
abbrev und72 := Und.mk Try.underlying72
attribute [instance] und72
theorem info72 : Try.prog.info? 72 = some Try.t72 := by kernel_rfl
instance inf72 : Inf Try.prog 72 Try.t72 := ⟨info72⟩
instance ty72 : Ty Try.prog 72 true 3 := Ty.of Try.underlying72 info72
abbrev und73 := Und.mk Try.underlying73
attribute [instance] und73
theorem info73 : Try.prog.info? 73 = some Try.t73 := by kernel_rfl
instance inf73 : Inf Try.prog 73 Try.t73 := ⟨info73⟩
instance ty73 : Ty Try.prog 73 true 3 := Ty.of Try.underlying73 info73
abbrev und74 := Und.mk Try.underlying74
attribute [instance] und74
theorem info74 : Try.prog.info? 74 = some Try.t74 := by kernel_rfl
instance inf74 : Inf Try.prog 74 Try.t74 := ⟨info74⟩
instance ty74 : Ty Try.prog 74 false 1 := Ty.of Try.underlying74 info74
abbrev und75 := Und.mk Try.underlying75
attribute [instance] und75
theorem info75 : Try.prog.info? 75 = some Try.t75 := by kernel_rfl
instance inf75 : Inf Try.prog 75 Try.t75 := ⟨info75⟩
instance ty75 : Ty Try.prog 75 false 1 := Ty.of Try.underlying75 info75
abbrev und76 := Und.mk Try.underlying76
attribute [instance] und76
theorem info76 : Try.prog.info? 76 = some Try.t76 := by kernel_rfl
instance inf76 : Inf Try.prog 76 Try.t76 := ⟨info76⟩
instance ty76 : Ty Try.prog 76 true 3 := Ty.of Try.underlying76 info76
abbrev und77 := Und.mk Try.underlying77
attribute [instance] und77
theorem info77 : Try.prog.info? 77 = some Try.t77 := by kernel_rfl
instance inf77 : Inf Try.prog 77 Try.t77 := ⟨info77⟩
instance ty77 : Ty Try.prog 77 false 1 := Ty.of Try.underlying77 info77
abbrev und78 := Und.mk Try.underlying78
attribute [instance] und78
theorem info78 : Try.prog.info? 78 = some Try.t78 := by kernel_rfl
instance inf78 : Inf Try.prog 78 Try.t78 := ⟨info78⟩
instance ty78 : Ty Try.prog 78 true 1 := Ty.of Try.underlying78 info78
abbrev und79 := Und.mk Try.underlying79
attribute [instance] und79
theorem info79 : Try.prog.info? 79 = some Try.t79 := by kernel_rfl
instance inf79 : Inf Try.prog 79 Try.t79 := ⟨info79⟩
instance ty79 : Ty Try.prog 79 true 1 := Ty.of Try.underlying79 info79
abbrev und80 := Und.mk Try.underlying80
attribute [instance] und80
theorem info80 : Try.prog.info? 80 = some Try.t80 := by kernel_rfl
instance inf80 : Inf Try.prog 80 Try.t80 := ⟨info80⟩
instance ty80 : Ty Try.prog 80 true 1 := Ty.of Try.underlying80 info80
abbrev und81 := Und.mk Try.underlying81
attribute [instance] und81
theorem info81 : Try.prog.info? 81 = some Try.t81 := by kernel_rfl
instance inf81 : Inf Try.prog 81 Try.t81 := ⟨info81⟩
instance ty81 : Ty Try.prog 81 true 1 := Ty.of Try.underlying81 info81
abbrev und82 := Und.mk Try.underlying82
attribute [instance] und82
theorem info82 : Try.prog.info? 82 = some Try.t82 := by kernel_rfl
instance inf82 : Inf Try.prog 82 Try.t82 := ⟨info82⟩
instance ty82 : Ty Try.prog 82 false 1 := Ty.of Try.underlying82 info82
abbrev und83 := Und.mk Try.underlying83
attribute [instance] und83
theorem info83 : Try.prog.info? 83 = some Try.t83 := by kernel_rfl
instance inf83 : Inf Try.prog 83 Try.t83 := ⟨info83⟩
instance ty83 : Ty Try.prog 83 false 1 := Ty.of Try.underlying83 info83
abbrev und84 := Und.mk Try.underlying84
attribute [instance] und84
theorem info84 : Try.prog.info? 84 = some Try.t84 := by kernel_rfl
instance inf84 : Inf Try.prog 84 Try.t84 := ⟨info84⟩
instance ty84 : Ty Try.prog 84 false 1 := Ty.of Try.underlying84 info84
abbrev und85 := Und.mk Try.underlying85
attribute [instance] und85
theorem info85 : Try.prog.info? 85 = some Try.t85 := by kernel_rfl
instance inf85 : Inf Try.prog 85 Try.t85 := ⟨info85⟩
instance ty85 : Ty Try.prog 85 false 1 := Ty.of Try.underlying85 info85
abbrev und86 := Und.mk Try.underlying86
attribute [instance] und86
theorem info86 : Try.prog.info? 86 = some Try.t86 := by kernel_rfl
instance inf86 : Inf Try.prog 86 Try.t86 := ⟨info86⟩
instance ty86 : Ty Try.prog 86 false 1 := Ty.of Try.underlying86 info86
abbrev und87 := Und.mk Try.underlying87
attribute [instance] und87
theorem info87 : Try.prog.info? 87 = some Try.t87 := by kernel_rfl
instance inf87 : Inf Try.prog 87 Try.t87 := ⟨info87⟩
instance ty87 : Ty Try.prog 87 false 1 := Ty.of Try.underlying87 info87
abbrev und88 := Und.mk Try.underlying88
attribute [instance] und88
theorem info88 : Try.prog.info? 88 = some Try.t88 := by kernel_rfl
instance inf88 : Inf Try.prog 88 Try.t88 := ⟨info88⟩
instance ty88 : Ty Try.prog 88 true 5 := Ty.of Try.underlying88 info88
abbrev und89 := Und.mk Try.underlying89
attribute [instance] und89
theorem info89 : Try.prog.info? 89 = some Try.t89 := by kernel_rfl
instance inf89 : Inf Try.prog 89 Try.t89 := ⟨info89⟩
instance ty89 : Ty Try.prog 89 true 5 := Ty.of Try.underlying89 info89
abbrev und90 := Und.mk Try.underlying90
attribute [instance] und90
theorem info90 : Try.prog.info? 90 = some Try.t90 := by kernel_rfl
instance inf90 : Inf Try.prog 90 Try.t90 := ⟨info90⟩
instance ty90 : Ty Try.prog 90 false 1 := Ty.of Try.underlying90 info90
abbrev und91 := Und.mk Try.underlying91
attribute [instance] und91
theorem info91 : Try.prog.info? 91 = some Try.t91 := by kernel_rfl
instance inf91 : Inf Try.prog 91 Try.t91 := ⟨info91⟩
instance ty91 : Ty Try.prog 91 false 1 := Ty.of Try.underlying91 info91
abbrev und92 := Und.mk Try.underlying92
attribute [instance] und92
theorem info92 : Try.prog.info? 92 = some Try.t92 := by kernel_rfl
instance inf92 : Inf Try.prog 92 Try.t92 := ⟨info92⟩
instance ty92 : Ty Try.prog 92 false 1 := Ty.of Try.underlying92 info92
abbrev und93 := Und.mk Try.underlying93
attribute [instance] und93
theorem info93 : Try.prog.info? 93 = some Try.t93 := by kernel_rfl
instance inf93 : Inf Try.prog 93 Try.t93 := ⟨info93⟩
instance ty93 : Ty Try.prog 93 false 1 := Ty.of Try.underlying93 info93
abbrev und94 := Und.mk Try.underlying94
attribute [instance] und94
theorem info94 : Try.prog.info? 94 = some Try.t94 := by kernel_rfl
instance inf94 : Inf Try.prog 94 Try.t94 := ⟨info94⟩
instance ty94 : Ty Try.prog 94 false 1 := Ty.of Try.underlying94 info94
abbrev und95 := Und.mk Try.underlying95
attribute [instance] und95
theorem info95 : Try.prog.info? 95 = some Try.t95 := by kernel_rfl
instance inf95 : Inf Try.prog 95 Try.t95 := ⟨info95⟩
instance ty95 : Ty Try.prog 95 true 3 := Ty.of Try.underlying95 info95
abbrev und96 := Und.mk Try.underlying96
attribute [instance] und96
theorem info96 : Try.prog.info? 96 = some Try.t96 := by kernel_rfl
instance inf96 : Inf Try.prog 96 Try.t96 := ⟨info96⟩
instance ty96 : Ty Try.prog 96 true 3 := Ty.of Try.underlying96 info96
abbrev und97 := Und.mk Try.underlying97
attribute [instance] und97
theorem info97 : Try.prog.info? 97 = some Try.t97 := by kernel_rfl
instance inf97 : Inf Try.prog 97 Try.t97 := ⟨info97⟩
instance ty97 : Ty Try.prog 97 false 1 := Ty.of Try.underlying97 info97
abbrev und98 := Und.mk Try.underlying98
attribute [instance] und98
theorem info98 : Try.prog.info? 98 = some Try.t98 := by kernel_rfl
instance inf98 : Inf Try.prog 98 Try.t98 := ⟨info98⟩
instance ty98 : Ty Try.prog 98 false 1 := Ty.of Try.underlying98 info98
abbrev und99 := Und.mk Try.underlying99
attribute [instance] und99
theorem info99 : Try.prog.info? 99 = some Try.t99 := by kernel_rfl
instance inf99 : Inf Try.prog 99 Try.t99 := ⟨info99⟩
instance ty99 : Ty Try.prog 99 false 1 := Ty.of Try.underlying99 info99
abbrev und100 := Und.mk Try.underlying100
attribute [instance] und100
theorem info100 : Try.prog.info? 100 = some Try.t100 := by kernel_rfl
instance inf100 : Inf Try.prog 100 Try.t100 := ⟨info100⟩
instance ty100 : Ty Try.prog 100 false 1 := Ty.of Try.underlying100 info100
abbrev und101 := Und.mk Try.underlying101
attribute [instance] und101
theorem info101 : Try.prog.info? 101 = some Try.t101 := by kernel_rfl
instance inf101 : Inf Try.prog 101 Try.t101 := ⟨info101⟩
instance ty101 : Ty Try.prog 101 true 2 := Ty.of Try.underlying101 info101
abbrev und102 := Und.mk Try.underlying102
attribute [instance] und102
theorem info102 : Try.prog.info? 102 = some Try.t102 := by kernel_rfl
instance inf102 : Inf Try.prog 102 Try.t102 := ⟨info102⟩
instance ty102 : Ty Try.prog 102 true 2 := Ty.of Try.underlying102 info102
abbrev und103 := Und.mk Try.underlying103
attribute [instance] und103
theorem info103 : Try.prog.info? 103 = some Try.t103 := by kernel_rfl
instance inf103 : Inf Try.prog 103 Try.t103 := ⟨info103⟩
instance ty103 : Ty Try.prog 103 false 1 := Ty.of Try.underlying103 info103
abbrev und104 := Und.mk Try.underlying104
attribute [instance] und104
theorem info104 : Try.prog.info? 104 = some Try.t104 := by kernel_rfl
instance inf104 : Inf Try.prog 104 Try.t104 := ⟨info104⟩
instance ty104 : Ty Try.prog 104 false 1 := Ty.of Try.underlying104 info104
abbrev und105 := Und.mk Try.underlying105
attribute [instance] und105
theorem info105 : Try.prog.info? 105 = some Try.t105 := by kernel_rfl
instance inf105 : Inf Try.prog 105 Try.t105 := ⟨info105⟩
instance ty105 : Ty Try.prog 105 false 1 := Ty.of Try.underlying105 info105
abbrev und106 := Und.mk Try.underlying106
attribute [instance] und106
theorem info106 : Try.prog.info? 106 = some Try.t106 := by kernel_rfl
instance inf106 : Inf Try.prog 106 Try.t106 := ⟨info106⟩
instance ty106 : Ty Try.prog 106 false 1 := Ty.of Try.underlying106 info106
abbrev und107 := Und.mk Try.underlying107
attribute [instance] und107
theorem info107 : Try.prog.info? 107 = some Try.t107 := by kernel_rfl
instance inf107 : Inf Try.prog 107 Try.t107 := ⟨info107⟩
instance ty107 : Ty Try.prog 107 true 7 := Ty.of Try.underlying107 info107
abbrev und108 := Und.mk Try.underlying108
attribute [instance] und108
theorem info108 : Try.prog.info? 108 = some Try.t108 := by kernel_rfl
instance inf108 : Inf Try.prog 108 Try.t108 := ⟨info108⟩
instance ty108 : Ty Try.prog 108 false 1 := Ty.of Try.underlying108 info108
abbrev und109 := Und.mk Try.underlying109
attribute [instance] und109
theorem info109 : Try.prog.info? 109 = some Try.t109 := by kernel_rfl
instance inf109 : Inf Try.prog 109 Try.t109 := ⟨info109⟩
instance ty109 : Ty Try.prog 109 true 3 := Ty.of Try.underlying109 info109
abbrev und110 := Und.mk Try.underlying110
attribute [instance] und110
theorem info110 : Try.prog.info? 110 = some Try.t110 := by kernel_rfl
instance inf110 : Inf Try.prog 110 Try.t110 := ⟨info110⟩
instance ty110 : Ty Try.prog 110 true 3 := Ty.of Try.underlying110 info110
abbrev und111 := Und.mk Try.underlying111
attribute [instance] und111
theorem info111 : Try.prog.info? 111 = some Try.t111 := by kernel_rfl
instance inf111 : Inf Try.prog 111 Try.t111 := ⟨info111⟩
instance ty111 : Ty Try.prog 111 false 1 := Ty.of Try.underlying111 info111
abbrev und112 := Und.mk Try.underlying112
attribute [instance] und112
theorem info112 : Try.prog.info? 112 = some Try.t112 := by kernel_rfl
instance inf112 : Inf Try.prog 112 Try.t112 := ⟨info112⟩
instance ty112 : Ty Try.prog 112 false 1 := Ty.of Try.underlying112 info112
abbrev und113 := Und.mk Try.underlying113
attribute [instance] und113
theorem info113 : Try.prog.info? 113 = some Try.t113 := by kernel_rfl
instance inf113 : Inf Try.prog 113 Try.t113 := ⟨info113⟩
instance ty113 : Ty Try.prog 113 true 1 := Ty.of Try.underlying113 info113
abbrev und114 := Und.mk Try.underlying114
attribute [instance] und114
theorem info114 : Try.prog.info? 114 = some Try.t114 := by kernel_rfl
instance inf114 : Inf Try.prog 114 Try.t114 := ⟨info114⟩
instance ty114 : Ty Try.prog 114 true 1 := Ty.of Try.underlying114 info114
abbrev und115 := Und.mk Try.underlying115
attribute [instance] und115
theorem info115 : Try.prog.info? 115 = some Try.t115 := by kernel_rfl
instance inf115 : Inf Try.prog 115 Try.t115 := ⟨info115⟩
instance ty115 : Ty Try.prog 115 false 1 := Ty.of Try.underlying115 info115
abbrev und116 := Und.mk Try.underlying116
attribute [instance] und116
theorem info116 : Try.prog.info? 116 = some Try.t116 := by kernel_rfl
instance inf116 : Inf Try.prog 116 Try.t116 := ⟨info116⟩
instance ty116 : Ty Try.prog 116 false 1 := Ty.of Try.underlying116 info116
abbrev und117 := Und.mk Try.underlying117
attribute [instance] und117
theorem info117 : Try.prog.info? 117 = some Try.t117 := by kernel_rfl
instance inf117 : Inf Try.prog 117 Try.t117 := ⟨info117⟩
instance ty117 : Ty Try.prog 117 false 1 := Ty.of Try.underlying117 info117
abbrev und118 := Und.mk Try.underlying118
attribute [instance] und118
theorem info118 : Try.prog.info? 118 = some Try.t118 := by kernel_rfl
instance inf118 : Inf Try.prog 118 Try.t118 := ⟨info118⟩
instance ty118 : Ty Try.prog 118 false 1 := Ty.of Try.underlying118 info118
abbrev und119 := Und.mk Try.underlying119
attribute [instance] und119
theorem info119 : Try.prog.info? 119 = some Try.t119 := by kernel_rfl
instance inf119 : Inf Try.prog 119 Try.t119 := ⟨info119⟩
instance ty119 : Ty Try.prog 119 false 1 := Ty.of Try.underlying119 info119
abbrev und120 := Und.mk Try.underlying120
attribute [instance] und120
theorem info120 : Try.prog.info? 120 = some Try.t120 := by kernel_rfl
instance inf120 : Inf Try.prog 120 Try.t120 := ⟨info120⟩
instance ty120 : Ty Try.prog 120 false 1 := Ty.of Try.underlying120 info120
abbrev und121 := Und.mk Try.underlying121
attribute [instance] und121
theorem info121 : Try.prog.info? 121 = some Try.t121 := by kernel_rfl
instance inf121 : Inf Try.prog 121 Try.t121 := ⟨info121⟩
instance ty121 : Ty Try.prog 121 true 2 := Ty.of Try.underlying121 info121
abbrev und122 := Und.mk Try.underlying122
attribute [instance] und122
theorem info122 : Try.prog.info? 122 = some Try.t122 := by kernel_rfl
instance inf122 : Inf Try.prog 122 Try.t122 := ⟨info122⟩
instance ty122 : Ty Try.prog 122 true 2 := Ty.of Try.underlying122 info122
abbrev und123 := Und.mk Try.underlying123
attribute [instance] und123
theorem info123 : Try.prog.info? 123 = some Try.t123 := by kernel_rfl
instance inf123 : Inf Try.prog 123 Try.t123 := ⟨info123⟩
instance ty123 : Ty Try.prog 123 false 1 := Ty.of Try.underlying123 info123
abbrev und124 := Und.mk Try.underlying124
attribute [instance] und124
theorem info124 : Try.prog.info? 124 = some Try.t124 := by kernel_rfl
instance inf124 : Inf Try.prog 124 Try.t124 := ⟨info124⟩
instance ty124 : Ty Try.prog 124 false 1 := Ty.of Try.underlying124 info124
abbrev und125 := Und.mk Try.underlying125
attribute [instance] und125
theorem info125 : Try.prog.info? 125 = some Try.t125 := by kernel_rfl
instance inf125 : Inf Try.prog 125 Try.t125 := ⟨info125⟩
instance ty125 : Ty Try.prog 125 false 1 := Ty.of Try.underlying125 info125
abbrev und126 := Und.mk Try.underlying126
attribute [instance] und126
theorem info126 : Try.prog.info? 126 = some Try.t126 := by kernel_rfl
instance inf126 : Inf Try.prog 126 Try.t126 := ⟨info126⟩
instance ty126 : Ty Try.prog 126 false 1 := Ty.of Try.underlying126 info126
abbrev und127 := Und.mk Try.underlying127
attribute [instance] und127
theorem info127 : Try.prog.info? 127 = some Try.t127 := by kernel_rfl
instance inf127 : Inf Try.prog 127 Try.t127 := ⟨info127⟩
instance ty127 : Ty Try.prog 127 false 1 := Ty.of Try.underlying127 info127
abbrev und128 := Und.mk Try.underlying128
attribute [instance] und128
theorem info128 : Try.prog.info? 128 = some Try.t128 := by kernel_rfl
instance inf128 : Inf Try.prog 128 Try.t128 := ⟨info128⟩
instance ty128 : Ty Try.prog 128 true 3 := Ty.of Try.underlying128 info128
abbrev und129 := Und.mk Try.underlying129
attribute [instance] und129
theorem info129 : Try.prog.info? 129 = some Try.t129 := by kernel_rfl
instance inf129 : Inf Try.prog 129 Try.t129 := ⟨info129⟩
instance ty129 : Ty Try.prog 129 true 3 := Ty.of Try.underlying129 info129
abbrev und130 := Und.mk Try.underlying130
attribute [instance] und130
theorem info130 : Try.prog.info? 130 = some Try.t130 := by kernel_rfl
instance inf130 : Inf Try.prog 130 Try.t130 := ⟨info130⟩
instance ty130 : Ty Try.prog 130 false 1 := Ty.of Try.underlying130 info130
abbrev und131 := Und.mk Try.underlying131
attribute [instance] und131
theorem info131 : Try.prog.info? 131 = some Try.t131 := by kernel_rfl
instance inf131 : Inf Try.prog 131 Try.t131 := ⟨info131⟩
instance ty131 : Ty Try.prog 131 false 1 := Ty.of Try.underlying131 info131
abbrev und132 := Und.mk Try.underlying132
attribute [instance] und132
theorem info132 : Try.prog.info? 132 = some Try.t132 := by kernel_rfl
instance inf132 : Inf Try.prog 132 Try.t132 := ⟨info132⟩
instance ty132 : Ty Try.prog 132 false 1 := Ty.of Try.underlying132 info132
abbrev und133 := Und.mk Try.underlying133
attribute [instance] und133
theorem info133 : Try.prog.info? 133 = some Try.t133 := by kernel_rfl
instance inf133 : Inf Try.prog 133 Try.t133 := ⟨info133⟩
instance ty133 : Ty Try.prog 133 false 1 := Ty.of Try.underlying133 info133
abbrev und134 := Und.mk Try.underlying134
attribute [instance] und134
theorem info134 : Try.prog.info? 134 = some Try.t134 := by kernel_rfl
instance inf134 : Inf Try.prog 134 Try.t134 := ⟨info134⟩
instance ty134 : Ty Try.prog 134 false 1 := Ty.of Try.underlying134 info134
abbrev und135 := Und.mk Try.underlying135
attribute [instance] und135
theorem info135 : Try.prog.info? 135 = some Try.t135 := by kernel_rfl
instance inf135 : Inf Try.prog 135 Try.t135 := ⟨info135⟩
instance ty135 : Ty Try.prog 135 false 1 := Ty.of Try.underlying135 info135
abbrev und136 := Und.mk Try.underlying136
attribute [instance] und136
theorem info136 : Try.prog.info? 136 = some Try.t136 := by kernel_rfl
instance inf136 : Inf Try.prog 136 Try.t136 := ⟨info136⟩
instance ty136 : Ty Try.prog 136 true 3 := Ty.of Try.underlying136 info136
abbrev und137 := Und.mk Try.underlying137
attribute [instance] und137
theorem info137 : Try.prog.info? 137 = some Try.t137 := by kernel_rfl
instance inf137 : Inf Try.prog 137 Try.t137 := ⟨info137⟩
instance ty137 : Ty Try.prog 137 true 3 := Ty.of Try.underlying137 info137
abbrev und138 := Und.mk Try.underlying138
attribute [instance] und138
theorem info138 : Try.prog.info? 138 = some Try.t138 := by kernel_rfl
instance inf138 : Inf Try.prog 138 Try.t138 := ⟨info138⟩
instance ty138 : Ty Try.prog 138 false 1 := Ty.of Try.underlying138 info138
abbrev und139 := Und.mk Try.underlying139
attribute [instance] und139
theorem info139 : Try.prog.info? 139 = some Try.t139 := by kernel_rfl
instance inf139 : Inf Try.prog 139 Try.t139 := ⟨info139⟩
instance ty139 : Ty Try.prog 139 true 8 := Ty.of Try.underlying139 info139
abbrev und140 := Und.mk Try.underlying140
attribute [instance] und140
theorem info140 : Try.prog.info? 140 = some Try.t140 := by kernel_rfl
instance inf140 : Inf Try.prog 140 Try.t140 := ⟨info140⟩
instance ty140 : Ty Try.prog 140 true 8 := Ty.of Try.underlying140 info140
abbrev und141 := Und.mk Try.underlying141
attribute [instance] und141
theorem info141 : Try.prog.info? 141 = some Try.t141 := by kernel_rfl
instance inf141 : Inf Try.prog 141 Try.t141 := ⟨info141⟩
instance ty141 : Ty Try.prog 141 false 1 := Ty.of Try.underlying141 info141
abbrev und142 := Und.mk Try.underlying142
attribute [instance] und142
theorem info142 : Try.prog.info? 142 = some Try.t142 := by kernel_rfl
instance inf142 : Inf Try.prog 142 Try.t142 := ⟨info142⟩
instance ty142 : Ty Try.prog 142 false 1 := Ty.of Try.underlying142 info142
abbrev und143 := Und.mk Try.underlying143
attribute [instance] und143
theorem info143 : Try.prog.info? 143 = some Try.t143 := by kernel_rfl
instance inf143 : Inf Try.prog 143 Try.t143 := ⟨info143⟩
instance ty143 : Ty Try.prog 143 false 1 := Ty.of Try.underlying143 info143
abbrev und144 := Und.mk Try.underlying144
attribute [instance] und144
theorem info144 : Try.prog.info? 144 = some Try.t144 := by kernel_rfl
instance inf144 : Inf Try.prog 144 Try.t144 := ⟨info144⟩
instance ty144 : Ty Try.prog 144 true 3 := Ty.of Try.underlying144 info144
abbrev und145 := Und.mk Try.underlying145
attribute [instance] und145
theorem info145 : Try.prog.info? 145 = some Try.t145 := by kernel_rfl
instance inf145 : Inf Try.prog 145 Try.t145 := ⟨info145⟩
instance ty145 : Ty Try.prog 145 true 3 := Ty.of Try.underlying145 info145
abbrev und146 := Und.mk Try.underlying146
attribute [instance] und146
theorem info146 : Try.prog.info? 146 = some Try.t146 := by kernel_rfl
instance inf146 : Inf Try.prog 146 Try.t146 := ⟨info146⟩
instance ty146 : Ty Try.prog 146 false 1 := Ty.of Try.underlying146 info146
abbrev und147 := Und.mk Try.underlying147
attribute [instance] und147
theorem info147 : Try.prog.info? 147 = some Try.t147 := by kernel_rfl
instance inf147 : Inf Try.prog 147 Try.t147 := ⟨info147⟩
instance ty147 : Ty Try.prog 147 false 1 := Ty.of Try.underlying147 info147
abbrev und148 := Und.mk Try.underlying148
attribute [instance] und148
theorem info148 : Try.prog.info? 148 = some Try.t148 := by kernel_rfl
instance inf148 : Inf Try.prog 148 Try.t148 := ⟨info148⟩
instance ty148 : Ty Try.prog 148 false 1 := Ty.of Try.underlying148 info148
abbrev und149 := Und.mk Try.underlying149
attribute [instance] und149
theorem info149 : Try.prog.info? 149 = some Try.t149 := by kernel_rfl
instance inf149 : Inf Try.prog 149 Try.t149 := ⟨info149⟩
instance ty149 : Ty Try.prog 149 false 1 := Ty.of Try.underlying149 info149
abbrev und150 := Und.mk Try.underlying150
attribute [instance] und150
theorem info150 : Try.prog.info? 150 = some Try.t150 := by kernel_rfl
instance inf150 : Inf Try.prog 150 Try.t150 := ⟨info150⟩
instance ty150 : Ty Try.prog 150 false 1 := Ty.of Try.underlying150 info150
abbrev und151 := Und.mk Try.underlying151
attribute [instance] und151
theorem info151 : Try.prog.info? 151 = some Try.t151 := by kernel_rfl
instance inf151 : Inf Try.prog 151 Try.t151 := ⟨info151⟩
instance ty151 : Ty Try.prog 151 false 1 := Ty.of Try.underlying151 info151
abbrev und152 := Und.mk Try.underlying152
attribute [instance] und152
theorem info152 : Try.prog.info? 152 = some Try.t152 := by kernel_rfl
instance inf152 : Inf Try.prog 152 Try.t152 := ⟨info152⟩
instance ty152 : Ty Try.prog 152 false 1 := Ty.of Try.underlying152 info152
abbrev und153 := Und.mk Try.underlying153
attribute [instance] und153
theorem info153 : Try.prog.info? 153 = some Try.t153 := by kernel_rfl
instance inf153 : Inf Try.prog 153 Try.t153 := ⟨info153⟩
instance ty153 : Ty Try.prog 153 false 1 := Ty.of Try.underlying153 info153
abbrev und154 := Und.mk Try.underlying154
attribute [instance] und154
theorem info154 : Try.prog.info? 154 = some Try.t154 := by kernel_rfl
instance inf154 : Inf Try.prog 154 Try.t154 := ⟨info154⟩
instance ty154 : Ty Try.prog 154 true 2 := Ty.of Try.underlying154 info154
abbrev und155 := Und.mk Try.underlying155
attribute [instance] und155
theorem info155 : Try.prog.info? 155 = some Try.t155 := by kernel_rfl
instance inf155 : Inf Try.prog 155 Try.t155 := ⟨info155⟩
instance ty155 : Ty Try.prog 155 false 1 := Ty.of Try.underlying155 info155
abbrev und156 := Und.mk Try.underlying156
attribute [instance] und156
theorem info156 : Try.prog.info? 156 = some Try.t156 := by kernel_rfl
instance inf156 : Inf Try.prog 156 Try.t156 := ⟨info156⟩
instance ty156 : Ty Try.prog 156 false 1 := Ty.of Try.underlying156 info156
abbrev und157 := Und.mk Try.underlying157
attribute [instance] und157
theorem info157 : Try.prog.info? 157 = some Try.t157 := by kernel_rfl
instance inf157 : Inf Try.prog 157 Try.t157 := ⟨info157⟩
instance ty157 : Ty Try.prog 157 false 1 := Ty.of Try.underlying157 info157
abbrev und158 := Und.mk Try.underlying158
attribute [instance] und158
theorem info158 : Try.prog.info? 158 = some Try.t158 := by kernel_rfl
instance inf158 : Inf Try.prog 158 Try.t158 := ⟨info158⟩
instance ty158 : Ty Try.prog 158 false 1 := Ty.of Try.underlying158 info158
abbrev und159 := Und.mk Try.underlying159
attribute [instance] und159
theorem info159 : Try.prog.info? 159 = some Try.t159 := by kernel_rfl
instance inf159 : Inf Try.prog 159 Try.t159 := ⟨info159⟩
instance ty159 : Ty Try.prog 159 false 1 := Ty.of Try.underlying159 info159
abbrev und160 := Und.mk Try.underlying160
attribute [instance] und160
theorem info160 : Try.prog.info? 160 = some Try.t160 := by kernel_rfl
instance inf160 : Inf Try.prog 160 Try.t160 := ⟨info160⟩
instance ty160 : Ty Try.prog 160 false 1 := Ty.of Try.underlying160 info160
abbrev und161 := Und.mk Try.underlying161
attribute [instance] und161
theorem info161 : Try.prog.info? 161 = some Try.t161 := by kernel_rfl
instance inf161 : Inf Try.prog 161 Try.t161 := ⟨info161⟩
instance ty161 : Ty Try.prog 161 false 1 := Ty.of Try.underlying161 info161
abbrev und162 := Und.mk Try.underlying162
attribute [instance] und162
theorem info162 : Try.prog.info? 162 = some Try.t162 := by kernel_rfl
instance inf162 : Inf Try.prog 162 Try.t162 := ⟨info162⟩
instance ty162 : Ty Try.prog 162 false 1 := Ty.of Try.underlying162 info162
abbrev und163 := Und.mk Try.underlying163
attribute [instance] und163
theorem info163 : Try.prog.info? 163 = some Try.t163 := by kernel_rfl
instance inf163 : Inf Try.prog 163 Try.t163 := ⟨info163⟩
instance ty163 : Ty Try.prog 163 false 1 := Ty.of Try.underlying163 info163
abbrev und164 := Und.mk Try.underlying164
attribute [instance] und164
theorem info164 : Try.prog.info? 164 = some Try.t164 := by kernel_rfl
instance inf164 : Inf Try.prog 164 Try.t164 := ⟨info164⟩
instance ty164 : Ty Try.prog 164 false 1 := Ty.of Try.underlying164 info164
abbrev und165 := Und.mk Try.underlying165
attribute [instance] und165
theorem info165 : Try.prog.info? 165 = some Try.t165 := by kernel_rfl
instance inf165 : Inf Try.prog 165 Try.t165 := ⟨info165⟩
instance ty165 : Ty Try.prog 165 false 1 := Ty.of Try.underlying165 info165
abbrev und166 := Und.mk Try.underlying166
attribute [instance] und166
theorem info166 : Try.prog.info? 166 = some Try.t166 := by kernel_rfl
instance inf166 : Inf Try.prog 166 Try.t166 := ⟨info166⟩
instance ty166 : Ty Try.prog 166 false 1 := Ty.of Try.underlying166 info166
abbrev und167 := Und.mk Try.underlying167
attribute [instance] und167
theorem info167 : Try.prog.info? 167 = some Try.t167 := by kernel_rfl
instance inf167 : Inf Try.prog 167 Try.t167 := ⟨info167⟩
instance ty167 : Ty Try.prog 167 false 1 := Ty.of Try.underlying167 info167
abbrev und168 := Und.mk Try.underlying168
attribute [instance] und168
theorem info168 : Try.prog.info? 168 = some Try.t168 := by kernel_rfl
instance inf168 : Inf Try.prog 168 Try.t168 := ⟨info168⟩
instance ty168 : Ty Try.prog 168 false 1 := Ty.of Try.underlying168 info168
abbrev und169 := Und.mk Try.underlying169
attribute [instance] und169
theorem info169 : Try.prog.info? 169 = some Try.t169 := by kernel_rfl
instance inf169 : Inf Try.prog 169 Try.t169 := ⟨info169⟩
instance ty169 : Ty Try.prog 169 false 1 := Ty.of Try.underlying169 info169
abbrev und170 := Und.mk Try.underlying170
attribute [instance] und170
theorem info170 : Try.prog.info? 170 = some Try.t170 := by kernel_rfl
instance inf170 : Inf Try.prog 170 Try.t170 := ⟨info170⟩
instance ty170 : Ty Try.prog 170 false 1 := Ty.of Try.underlying170 info170
abbrev und171 := Und.mk Try.underlying171
attribute [instance] und171
theorem info171 : Try.prog.info? 171 = some Try.t171 := by kernel_rfl
instance inf171 : Inf Try.prog 171 Try.t171 := ⟨info171⟩
instance ty171 : Ty Try.prog 171 false 1 := Ty.of Try.underlying171 info171
abbrev und172 := Und.mk Try.underlying172
attribute [instance] und172
theorem info172 : Try.prog.info? 172 = some Try.t172 := by kernel_rfl
instance inf172 : Inf Try.prog 172 Try.t172 := ⟨info172⟩
instance ty172 : Ty Try.prog 172 false 1 := Ty.of Try.underlying172 info172
abbrev und173 := Und.mk Try.underlying173
attribute [instance] und173
theorem info173 : Try.prog.info? 173 = some Try.t173 := by kernel_rfl
instance inf173 : Inf Try.prog 173 Try.t173 := ⟨info173⟩
instance ty173 : Ty Try.prog 173 false 1 := Ty.of Try.underlying173 info173
abbrev und174 := Und.mk Try.underlying174
attribute [instance] und174
theorem info174 : Try.prog.info? 174 = some Try.t174 := by kernel_rfl
instance inf174 : Inf Try.prog 174 Try.t174 := ⟨info174⟩
instance ty174 : Ty Try.prog 174 false 1 := Ty.of Try.underlying174 info174
abbrev und175 := Und.mk Try.underlying175
attribute [instance] und175
theorem info175 : Try.prog.info? 175 = some Try.t175 := by kernel_rfl
instance inf175 : Inf Try.prog 175 Try.t175 := ⟨info175⟩
instance ty175 : Ty Try.prog 175 false 1 := Ty.of Try.underlying175 info175
abbrev und176 := Und.mk Try.underlying176
attribute [instance] und176
theorem info176 : Try.prog.info? 176 = some Try.t176 := by kernel_rfl
instance inf176 : Inf Try.prog 176 Try.t176 := ⟨info176⟩
instance ty176 : Ty Try.prog 176 false 1 := Ty.of Try.underlying176 info176
abbrev und177 := Und.mk Try.underlying177
attribute [instance] und177
theorem info177 : Try.prog.info? 177 = some Try.t177 := by kernel_rfl
instance inf177 : Inf Try.prog 177 Try.t177 := ⟨info177⟩
instance ty177 : Ty Try.prog 177 false 1 := Ty.of Try.underlying177 info177
abbrev und178 := Und.mk Try.underlying178
attribute [instance] und178
theorem info178 : Try.prog.info? 178 = some Try.t178 := by kernel_rfl
instance inf178 : Inf Try.prog 178 Try.t178 := ⟨info178⟩
instance ty178 : Ty Try.prog 178 false 1 := Ty.of Try.underlying178 info178
abbrev und179 := Und.mk Try.underlying179
attribute [instance] und179
theorem info179 : Try.prog.info? 179 = some Try.t179 := by kernel_rfl
instance inf179 : Inf Try.prog 179 Try.t179 := ⟨info179⟩
instance ty179 : Ty Try.prog 179 false 1 := Ty.of Try.underlying179 info179
abbrev und180 := Und.mk Try.underlying180
attribute [instance] und180
theorem info180 : Try.prog.info? 180 = some Try.t180 := by kernel_rfl
instance inf180 : Inf Try.prog 180 Try.t180 := ⟨info180⟩
instance ty180 : Ty Try.prog 180 false 1 := Ty.of Try.underlying180 info180
abbrev und181 := Und.mk Try.underlying181
attribute [instance] und181
theorem info181 : Try.prog.info? 181 = some Try.t181 := by kernel_rfl
instance inf181 : Inf Try.prog 181 Try.t181 := ⟨info181⟩
instance ty181 : Ty Try.prog 181 false 1 := Ty.of Try.underlying181 info181
abbrev und182 := Und.mk Try.underlying182
attribute [instance] und182
theorem info182 : Try.prog.info? 182 = some Try.t182 := by kernel_rfl
instance inf182 : Inf Try.prog 182 Try.t182 := ⟨info182⟩
instance ty182 : Ty Try.prog 182 false 1 := Ty.of Try.underlying182 info182
abbrev und183 := Und.mk Try.underlying183
attribute [instance] und183
theorem info183 : Try.prog.info? 183 = some Try.t183 := by kernel_rfl
instance inf183 : Inf Try.prog 183 Try.t183 := ⟨info183⟩
instance ty183 : Ty Try.prog 183 true 4 := Ty.of Try.underlying183 info183
abbrev und184 := Und.mk Try.underlying184
attribute [instance] und184
theorem info184 : Try.prog.info? 184 = some Try.t184 := by kernel_rfl
instance inf184 : Inf Try.prog 184 Try.t184 := ⟨info184⟩
instance ty184 : Ty Try.prog 184 true 4 := Ty.of Try.underlying184 info184
abbrev und185 := Und.mk Try.underlying185
attribute [instance] und185
theorem info185 : Try.prog.info? 185 = some Try.t185 := by kernel_rfl
instance inf185 : Inf Try.prog 185 Try.t185 := ⟨info185⟩
instance ty185 : Ty Try.prog 185 true 0 := Ty.of Try.underlying185 info185
abbrev und186 := Und.mk Try.underlying186
attribute [instance] und186
theorem info186 : Try.prog.info? 186 = some Try.t186 := by kernel_rfl
instance inf186 : Inf Try.prog 186 Try.t186 := ⟨info186⟩
instance ty186 : Ty Try.prog 186 true 0 := Ty.of Try.underlying186 info186
abbrev und187 := Und.mk Try.underlying187
attribute [instance] und187
theorem info187 : Try.prog.info? 187 = some Try.t187 := by kernel_rfl
instance inf187 : Inf Try.prog 187 Try.t187 := ⟨info187⟩
instance ty187 : Ty Try.prog 187 true 0 := Ty.of Try.underlying187 info187
abbrev und188 := Und.mk Try.underlying188
attribute [instance] und188
theorem info188 : Try.prog.info? 188 = some Try.t188 := by kernel_rfl
instance inf188 : Inf Try.prog 188 Try.t188 := ⟨info188⟩
instance ty188 : Ty Try.prog 188 false 1 := Ty.of Try.underlying188 info188
abbrev und189 := Und.mk Try.underlying189
attribute [instance] und189
theorem info189 : Try.prog.info? 189 = some Try.t189 := by kernel_rfl
instance inf189 : Inf Try.prog 189 Try.t189 := ⟨info189⟩
instance ty189 : Ty Try.prog 189 false 1 := Ty.of Try.underlying189 info189
abbrev und190 := Und.mk Try.underlying190
attribute [instance] und190
theorem info190 : Try.prog.info? 190 = some Try.t190 := by kernel_rfl
instance inf190 : Inf Try.prog 190 Try.t190 := ⟨info190⟩
instance ty190 : Ty Try.prog 190 false 1 := Ty.of Try.underlying190 info190
abbrev und191 := Und.mk Try.underlying191
attribute [instance] und191
theorem info191 : Try.prog.info? 191 = some Try.t191 := by kernel_rfl
instance inf191 : Inf Try.prog 191 Try.t191 := ⟨info191⟩
instance ty191 : Ty Try.prog 191 false 1 := Ty.of Try.underlying191 info191
abbrev und192 := Und.mk Try.underlying192
attribute [instance] und192
theorem info192 : Try.prog.info? 192 = some Try.t192 := by kernel_rfl
instance inf192 : Inf Try.prog 192 Try.t192 := ⟨info192⟩
instance ty192 : Ty Try.prog 192 false 1 := Ty.of Try.underlying192 info192
abbrev und193 := Und.mk Try.underlying193
attribute [instance] und193
theorem info193 : Try.prog.info? 193 = some Try.t193 := by kernel_rfl
instance inf193 : Inf Try.prog 193 Try.t193 := ⟨info193⟩
instance ty193 : Ty Try.prog 193 false 1 := Ty.of Try.underlying193 info193
abbrev und194 := Und.mk Try.underlying194
attribute [instance] und194
theorem info194 : Try.prog.info? 194 = some Try.t194 := by kernel_rfl
instance inf194 : Inf Try.prog 194 Try.t194 := ⟨info194⟩
instance ty194 : Ty Try.prog 194 false 1 := Ty.of Try.underlying194 info194
abbrev und195 := Und.mk Try.underlying195
attribute [instance] und195
theorem info195 : Try.prog.info? 195 = some Try.t195 := by kernel_rfl
instance inf195 : Inf Try.prog 195 Try.t195 := ⟨info195⟩
instance ty195 : Ty Try.prog 195 true 11 := Ty.of Try.underlying195 info195
abbrev und196 := Und.mk Try.underlying196
attribute [instance] und196
theorem info196 : Try.prog.info? 196 = some Try.t196 := by kernel_rfl
instance inf196 : Inf Try.prog 196 Try.t196 := ⟨info196⟩
instance ty196 : Ty Try.prog 196 true 11 := Ty.of Try.underlying196 info196
abbrev und197 := Und.mk Try.underlying197
attribute [instance] und197
theorem info197 : Try.prog.info? 197 = some Try.t197 := by kernel_rfl
instance inf197 : Inf Try.prog 197 Try.t197 := ⟨info197⟩
instance ty197 : Ty Try.prog 197 false 1 := Ty.of Try.underlying197 info197
-- f0 main.main
-- f1 gosem.cut
-- f2 gosem.cut.init
-- f3 vellum/vellumlaw23.MergeExact
-- f4 vellum/vellumlaw23.MergeAny
-- f5 vellum/vellumlaw23.MergeIdentities
-- f6 vellum/vellumlaw23.MergeSymmetric
-- f7 vellum/vellumlaw23.MergeDisjoint
-- f8 vellum/vellumlaw23.MergeConflicts
-- f9 vellum/vellumlaw23.MergeInserts
-- f10 vellum/vellumlaw23.MergeKeeps
-- f11 vellum/vellumlaw23.MergeRenames
-- f12 vellum/vellumlaw23.MergeRenamesBack
-- f13 vellum/vellumlaw23.sanity
-- f14 vellum/vellumref23.Made
-- f15 vellum/vellumlaw23.agrees
-- f16 vellum/vellumlaw23.changed
-- f17 vellum/merge.Merge
-- f18 vellum/vellumref23.Same
-- f19 vellum/vellumref23.Paths
-- f20 vellum/vellumlaw23.node
-- f21 vellum/vellumlaw23.deep
-- f22 vellum/vellumlaw23.leaf
-- f23 vellum/vellumref23.Func
-- f24 vellum/vellumlaw23.equal
-- f25 vellum/merge.Rename
-- f26 vellum/vellumlaw23.names
-- f27 vellum/vellumref23.Rename
-- f28 (*vellum/vellumref23.grower).tree
-- f29 vellum/vellumref23.Merge
-- f30 vellum/vellumref23.Turned
-- f31 (*vellum/merge.merger).node
-- f32 vellum/merge.clone
-- f33 slices.SortFunc[[][]int,[]int]
-- f34 slices.Compare[[]int,int]
-- f35 slices.CompactFunc[[][]int,[]int]
-- f36 slices.Equal[[]int,int]
-- f37 vellum/vellumref23.before
-- f38 vellum/vellumref23.Stmt
-- f39 vellum/vellumref13.Equal
-- f40 vellum/vellumref23.One
-- f41 (*vellum/merge.names).declare
-- f42 (*vellum/merge.names).name
-- f43 slices.Clone[[]vellum/api.Field,vellum/api.Field]
-- f44 (*vellum/merge.names).stmts
-- f45 (*vellum/vellumref23.renamer).collect
-- f46 (*vellum/vellumref23.renamer).name
-- f47 (*vellum/vellumref23.renamer).stmts
-- f48 (*vellum/vellumref23.grower).next
-- f49 (*vellum/vellumref23.merger).node
-- f50 vellum/vellumref23.turn
-- f51 vellum/vellumref23.Mod
-- f52 vellum/vellumref23.Size
-- f53 vellum/diff.Same
-- f54 (*vellum/merge.log).conflict
-- f55 vellum/merge.align
-- f56 slices.Clone[[]int,int]
-- f57 (*vellum/merge.merger).insert
-- f58 (*vellum/merge.merger).kid
-- f59 slices.pdqsortCmpFunc[[]int]
-- f60 math/bits.Len
-- f61 cmp.Compare[int]
-- f62 vellum/vellumref23.value
-- f63 vellum/vellumref23.name
-- f64 vellum/vellumref23.num
-- f65 vellum/vellumref13.sameFields
-- f66 vellum/vellumref13.SameType
-- f67 vellum/vellumref13.SameFunc
-- f68 (*vellum/merge.names).exprs
-- f69 (*vellum/vellumref23.renamer).exprs
-- f70 (*vellum/vellumref23.merger).conflict
-- f71 vellum/vellumref23.Align
-- f72 (*vellum/vellumref23.merger).insert
-- f73 vellum/vellumref23.extend
-- f74 (*vellum/vellumref23.merger).kid
-- f75 slices.EqualFunc[[]vellum/api.Tree,[]vellum/api.Tree,vellum/api.Tree,vellum/api.Tree]
-- f76 vellum/merge.align$1
-- f77 vellum/merge.pairs
-- f78 vellum/merge.equal[vellum/api.Tree]
-- f79 slices.insertionSortCmpFunc[[]int]
-- f80 slices.heapSortCmpFunc[[]int]
-- f81 slices.breakPatternsCmpFunc[[]int]
-- f82 slices.choosePivotCmpFunc[[]int]
-- f83 slices.reverseRangeCmpFunc[[]int]
-- f84 slices.partialInsertionSortCmpFunc[[]int]
-- f85 slices.partitionEqualCmpFunc[[]int]
-- f86 slices.partitionCmpFunc[[]int]
-- f87 math/bits.Len32
-- f88 math/bits.Len64
-- f89 cmp.isNaN[int]
-- f90 vellum/vellumref13.SameStmts
-- f91 (*vellum/vellumref23.renamer).expr
-- f92 vellum/vellumref23.pairs
-- f93 vellum/vellumref23.sames
-- f94 slices.siftDownCmpFunc[[]int]
-- f95 slices.nextPowerOfTwo
-- f96 (*slices.xorshift).Next
-- f97 slices.medianAdjacentCmpFunc[[]int]
-- f98 slices.medianCmpFunc[[]int]
-- f99 vellum/vellumref13.SameExprs
-- f100 slices.order2CmpFunc[[]int]
-- f101 (runtime.boundsError).Error
-- f102 (runtime.boundsError).RuntimeError
-- f103 (runtime.errorString).Error
-- f104 (runtime.errorString).RuntimeError
-- f105 (runtime.plainError).Error
-- f106 (runtime.plainError).RuntimeError
-- f107 (runtime.errorAddressString).Error
-- f108 (runtime.errorAddressString).RuntimeError
-- f109 (*runtime.TypeAssertionError).Error
-- f110 (*runtime.TypeAssertionError).RuntimeError
-- f111 (*runtime.PanicNilError).Error
-- f112 (*runtime.PanicNilError).RuntimeError
-- f113 (*internal/abi.Type).Align
-- f114 (internal/runtime/maps.unhashableTypeError).Error
-- f115 (internal/runtime/maps.unhashableTypeError).RuntimeError
-- f116 (internal/abi.Kind).String
instance fld7_0 : Fld Try.prog 7 0 0 := Fld.of (f := 0) Try.underlying7 rfl ty2 rfl
instance fld7_1 : Fld Try.prog 7 1 1 := Fld.of (f := 1) Try.underlying7 rfl ty3 rfl
instance fld7_2 : Fld Try.prog 7 2 2 := Fld.of (f := 2) Try.underlying7 rfl ty4 rfl
instance fld7_3 : Fld Try.prog 7 3 3 := Fld.of (f := 3) Try.underlying7 rfl ty6 rfl
instance fld8_0 : Fld Try.prog 8 0 0 := Fld.of (f := 0) Try.underlying8 rfl ty2 rfl
instance fld8_1 : Fld Try.prog 8 1 1 := Fld.of (f := 1) Try.underlying8 rfl ty3 rfl
instance fld8_2 : Fld Try.prog 8 2 2 := Fld.of (f := 2) Try.underlying8 rfl ty4 rfl
instance fld8_3 : Fld Try.prog 8 3 3 := Fld.of (f := 3) Try.underlying8 rfl ty6 rfl
instance fld13_0 : Fld Try.prog 13 0 0 := Fld.of (f := 0) Try.underlying13 rfl ty9 rfl
instance fld13_1 : Fld Try.prog 13 1 1 := Fld.of (f := 1) Try.underlying13 rfl ty12 rfl
instance fld14_0 : Fld Try.prog 14 0 0 := Fld.of (f := 0) Try.underlying14 rfl ty9 rfl
instance fld14_1 : Fld Try.prog 14 1 1 := Fld.of (f := 1) Try.underlying14 rfl ty12 rfl
instance fld18_0 : Fld Try.prog 18 0 0 := Fld.of (f := 0) Try.underlying18 rfl ty17 rfl
instance fld19_0 : Fld Try.prog 19 0 0 := Fld.of (f := 0) Try.underlying19 rfl ty17 rfl
instance fld26_0 : Fld Try.prog 26 0 0 := Fld.of (f := 0) Try.underlying26 rfl ty9 rfl
instance fld26_1 : Fld Try.prog 26 1 1 := Fld.of (f := 1) Try.underlying26 rfl ty25 rfl
instance fld27_0 : Fld Try.prog 27 0 0 := Fld.of (f := 0) Try.underlying27 rfl ty9 rfl
instance fld27_1 : Fld Try.prog 27 1 1 := Fld.of (f := 1) Try.underlying27 rfl ty25 rfl
instance fld47_0 : Fld Try.prog 47 0 0 := Fld.of (f := 0) Try.underlying47 rfl ty3 rfl
instance fld47_1 : Fld Try.prog 47 1 1 := Fld.of (f := 1) Try.underlying47 rfl ty9 rfl
instance fld47_2 : Fld Try.prog 47 2 2 := Fld.of (f := 2) Try.underlying47 rfl ty3 rfl
instance fld47_3 : Fld Try.prog 47 3 3 := Fld.of (f := 3) Try.underlying47 rfl ty46 rfl
instance fld48_0 : Fld Try.prog 48 0 0 := Fld.of (f := 0) Try.underlying48 rfl ty3 rfl
instance fld48_1 : Fld Try.prog 48 1 1 := Fld.of (f := 1) Try.underlying48 rfl ty9 rfl
instance fld48_2 : Fld Try.prog 48 2 2 := Fld.of (f := 2) Try.underlying48 rfl ty3 rfl
instance fld48_3 : Fld Try.prog 48 3 3 := Fld.of (f := 3) Try.underlying48 rfl ty46 rfl
instance fld51_0 : Fld Try.prog 51 0 0 := Fld.of (f := 0) Try.underlying51 rfl ty3 rfl
instance fld51_1 : Fld Try.prog 51 1 1 := Fld.of (f := 1) Try.underlying51 rfl ty50 rfl
instance fld52_0 : Fld Try.prog 52 0 0 := Fld.of (f := 0) Try.underlying52 rfl ty3 rfl
instance fld52_1 : Fld Try.prog 52 1 1 := Fld.of (f := 1) Try.underlying52 rfl ty50 rfl
instance fld53_0 : Fld Try.prog 53 0 0 := Fld.of (f := 0) Try.underlying53 rfl ty9 rfl
instance fld53_1 : Fld Try.prog 53 1 1 := Fld.of (f := 1) Try.underlying53 rfl ty45 rfl
instance fld53_2 : Fld Try.prog 53 2 2 := Fld.of (f := 2) Try.underlying53 rfl ty48 rfl
instance fld53_3 : Fld Try.prog 53 3 6 := Fld.of (f := 3) Try.underlying53 rfl ty49 rfl
instance fld53_4 : Fld Try.prog 53 4 7 := Fld.of (f := 4) Try.underlying53 rfl ty4 rfl
instance fld53_5 : Fld Try.prog 53 5 8 := Fld.of (f := 5) Try.underlying53 rfl ty52 rfl
instance fld54_0 : Fld Try.prog 54 0 0 := Fld.of (f := 0) Try.underlying54 rfl ty9 rfl
instance fld54_1 : Fld Try.prog 54 1 1 := Fld.of (f := 1) Try.underlying54 rfl ty45 rfl
instance fld54_2 : Fld Try.prog 54 2 2 := Fld.of (f := 2) Try.underlying54 rfl ty48 rfl
instance fld54_3 : Fld Try.prog 54 3 6 := Fld.of (f := 3) Try.underlying54 rfl ty49 rfl
instance fld54_4 : Fld Try.prog 54 4 7 := Fld.of (f := 4) Try.underlying54 rfl ty4 rfl
instance fld54_5 : Fld Try.prog 54 5 8 := Fld.of (f := 5) Try.underlying54 rfl ty52 rfl
instance fld57_0 : Fld Try.prog 57 0 0 := Fld.of (f := 0) Try.underlying57 rfl ty3 rfl
instance fld57_1 : Fld Try.prog 57 1 1 := Fld.of (f := 1) Try.underlying57 rfl ty9 rfl
instance fld57_2 : Fld Try.prog 57 2 2 := Fld.of (f := 2) Try.underlying57 rfl ty50 rfl
instance fld57_3 : Fld Try.prog 57 3 3 := Fld.of (f := 3) Try.underlying57 rfl ty56 rfl
instance fld58_0 : Fld Try.prog 58 0 0 := Fld.of (f := 0) Try.underlying58 rfl ty3 rfl
instance fld58_1 : Fld Try.prog 58 1 1 := Fld.of (f := 1) Try.underlying58 rfl ty9 rfl
instance fld58_2 : Fld Try.prog 58 2 2 := Fld.of (f := 2) Try.underlying58 rfl ty50 rfl
instance fld58_3 : Fld Try.prog 58 3 3 := Fld.of (f := 3) Try.underlying58 rfl ty56 rfl
instance fld60_0 : Fld Try.prog 60 0 0 := Fld.of (f := 0) Try.underlying60 rfl ty3 rfl
instance fld60_1 : Fld Try.prog 60 1 1 := Fld.of (f := 1) Try.underlying60 rfl ty9 rfl
instance fld60_2 : Fld Try.prog 60 2 2 := Fld.of (f := 2) Try.underlying60 rfl ty48 rfl
instance fld60_3 : Fld Try.prog 60 3 6 := Fld.of (f := 3) Try.underlying60 rfl ty50 rfl
instance fld60_4 : Fld Try.prog 60 4 7 := Fld.of (f := 4) Try.underlying60 rfl ty56 rfl
instance fld60_5 : Fld Try.prog 60 5 8 := Fld.of (f := 5) Try.underlying60 rfl ty49 rfl
instance fld60_6 : Fld Try.prog 60 6 9 := Fld.of (f := 6) Try.underlying60 rfl ty49 rfl
instance fld60_7 : Fld Try.prog 60 7 10 := Fld.of (f := 7) Try.underlying60 rfl ty59 rfl
instance fld61_0 : Fld Try.prog 61 0 0 := Fld.of (f := 0) Try.underlying61 rfl ty3 rfl
instance fld61_1 : Fld Try.prog 61 1 1 := Fld.of (f := 1) Try.underlying61 rfl ty9 rfl
instance fld61_2 : Fld Try.prog 61 2 2 := Fld.of (f := 2) Try.underlying61 rfl ty48 rfl
instance fld61_3 : Fld Try.prog 61 3 6 := Fld.of (f := 3) Try.underlying61 rfl ty50 rfl
instance fld61_4 : Fld Try.prog 61 4 7 := Fld.of (f := 4) Try.underlying61 rfl ty56 rfl
instance fld61_5 : Fld Try.prog 61 5 8 := Fld.of (f := 5) Try.underlying61 rfl ty49 rfl
instance fld61_6 : Fld Try.prog 61 6 9 := Fld.of (f := 6) Try.underlying61 rfl ty49 rfl
instance fld61_7 : Fld Try.prog 61 7 10 := Fld.of (f := 7) Try.underlying61 rfl ty59 rfl
instance fld69_0 : Fld Try.prog 69 0 0 := Fld.of (f := 0) Try.underlying69 rfl ty22 rfl
instance fld69_1 : Fld Try.prog 69 1 1 := Fld.of (f := 1) Try.underlying69 rfl ty3 rfl
instance fld70_0 : Fld Try.prog 70 0 0 := Fld.of (f := 0) Try.underlying70 rfl ty22 rfl
instance fld70_1 : Fld Try.prog 70 1 1 := Fld.of (f := 1) Try.underlying70 rfl ty3 rfl
instance fld72_0 : Fld Try.prog 72 0 0 := Fld.of (f := 0) Try.underlying72 rfl ty27 rfl
instance fld72_1 : Fld Try.prog 72 1 2 := Fld.of (f := 1) Try.underlying72 rfl ty33 rfl
instance fld73_0 : Fld Try.prog 73 0 0 := Fld.of (f := 0) Try.underlying73 rfl ty27 rfl
instance fld73_1 : Fld Try.prog 73 1 2 := Fld.of (f := 1) Try.underlying73 rfl ty33 rfl
instance fld78_0 : Fld Try.prog 78 0 0 := Fld.of (f := 0) Try.underlying78 rfl ty33 rfl
instance fld79_0 : Fld Try.prog 79 0 0 := Fld.of (f := 0) Try.underlying79 rfl ty33 rfl
instance fld80_0 : Fld Try.prog 80 0 0 := Fld.of (f := 0) Try.underlying80 rfl ty79 rfl
instance fld81_0 : Fld Try.prog 81 0 0 := Fld.of (f := 0) Try.underlying81 rfl ty79 rfl
instance fld88_0 : Fld Try.prog 88 0 0 := Fld.of (f := 0) Try.underlying88 rfl ty9 rfl
instance fld88_1 : Fld Try.prog 88 1 1 := Fld.of (f := 1) Try.underlying88 rfl ty48 rfl
instance fld89_0 : Fld Try.prog 89 0 0 := Fld.of (f := 0) Try.underlying89 rfl ty9 rfl
instance fld89_1 : Fld Try.prog 89 1 1 := Fld.of (f := 1) Try.underlying89 rfl ty48 rfl
instance fld95_0 : Fld Try.prog 95 0 0 := Fld.of (f := 0) Try.underlying95 rfl ty92 rfl
instance fld95_1 : Fld Try.prog 95 1 1 := Fld.of (f := 1) Try.underlying95 rfl ty93 rfl
instance fld95_2 : Fld Try.prog 95 2 2 := Fld.of (f := 2) Try.underlying95 rfl ty94 rfl
instance fld96_0 : Fld Try.prog 96 0 0 := Fld.of (f := 0) Try.underlying96 rfl ty92 rfl
instance fld96_1 : Fld Try.prog 96 1 1 := Fld.of (f := 1) Try.underlying96 rfl ty93 rfl
instance fld96_2 : Fld Try.prog 96 2 2 := Fld.of (f := 2) Try.underlying96 rfl ty94 rfl
instance fld101_0 : Fld Try.prog 101 0 0 := Fld.of (f := 0) Try.underlying101 rfl ty99 rfl
instance fld101_1 : Fld Try.prog 101 1 1 := Fld.of (f := 1) Try.underlying101 rfl ty100 rfl
instance fld102_0 : Fld Try.prog 102 0 0 := Fld.of (f := 0) Try.underlying102 rfl ty99 rfl
instance fld102_1 : Fld Try.prog 102 1 1 := Fld.of (f := 1) Try.underlying102 rfl ty100 rfl
instance fld109_0 : Fld Try.prog 109 0 0 := Fld.of (f := 0) Try.underlying109 rfl ty64 rfl
instance fld109_1 : Fld Try.prog 109 1 1 := Fld.of (f := 1) Try.underlying109 rfl ty64 rfl
instance fld109_2 : Fld Try.prog 109 2 2 := Fld.of (f := 2) Try.underlying109 rfl ty64 rfl
instance fld110_0 : Fld Try.prog 110 0 0 := Fld.of (f := 0) Try.underlying110 rfl ty64 rfl
instance fld110_1 : Fld Try.prog 110 1 1 := Fld.of (f := 1) Try.underlying110 rfl ty64 rfl
instance fld110_2 : Fld Try.prog 110 2 2 := Fld.of (f := 2) Try.underlying110 rfl ty64 rfl
instance fld113_0 : Fld Try.prog 113 0 0 := Fld.of (f := 0) Try.underlying113 rfl ty33 rfl
instance fld114_0 : Fld Try.prog 114 0 0 := Fld.of (f := 0) Try.underlying114 rfl ty33 rfl
instance fld121_0 : Fld Try.prog 121 0 0 := Fld.of (f := 0) Try.underlying121 rfl ty119 rfl
instance fld121_1 : Fld Try.prog 121 1 1 := Fld.of (f := 1) Try.underlying121 rfl ty120 rfl
instance fld122_0 : Fld Try.prog 122 0 0 := Fld.of (f := 0) Try.underlying122 rfl ty119 rfl
instance fld122_1 : Fld Try.prog 122 1 1 := Fld.of (f := 1) Try.underlying122 rfl ty120 rfl
instance fld128_0 : Fld Try.prog 128 0 0 := Fld.of (f := 0) Try.underlying128 rfl ty127 rfl
instance fld128_1 : Fld Try.prog 128 1 1 := Fld.of (f := 1) Try.underlying128 rfl ty27 rfl
instance fld129_0 : Fld Try.prog 129 0 0 := Fld.of (f := 0) Try.underlying129 rfl ty127 rfl
instance fld129_1 : Fld Try.prog 129 1 1 := Fld.of (f := 1) Try.underlying129 rfl ty27 rfl
instance fld136_0 : Fld Try.prog 136 0 0 := Fld.of (f := 0) Try.underlying136 rfl ty9 rfl
instance fld136_1 : Fld Try.prog 136 1 1 := Fld.of (f := 1) Try.underlying136 rfl ty4 rfl
instance fld136_2 : Fld Try.prog 136 2 2 := Fld.of (f := 2) Try.underlying136 rfl ty45 rfl
instance fld137_0 : Fld Try.prog 137 0 0 := Fld.of (f := 0) Try.underlying137 rfl ty9 rfl
instance fld137_1 : Fld Try.prog 137 1 1 := Fld.of (f := 1) Try.underlying137 rfl ty4 rfl
instance fld137_2 : Fld Try.prog 137 2 2 := Fld.of (f := 2) Try.underlying137 rfl ty45 rfl
instance fld139_0 : Fld Try.prog 139 0 0 := Fld.of (f := 0) Try.underlying139 rfl ty9 rfl
instance fld139_1 : Fld Try.prog 139 1 1 := Fld.of (f := 1) Try.underlying139 rfl ty48 rfl
instance fld139_2 : Fld Try.prog 139 2 5 := Fld.of (f := 2) Try.underlying139 rfl ty3 rfl
instance fld139_3 : Fld Try.prog 139 3 6 := Fld.of (f := 3) Try.underlying139 rfl ty50 rfl
instance fld139_4 : Fld Try.prog 139 4 7 := Fld.of (f := 4) Try.underlying139 rfl ty9 rfl
instance fld140_0 : Fld Try.prog 140 0 0 := Fld.of (f := 0) Try.underlying140 rfl ty9 rfl
instance fld140_1 : Fld Try.prog 140 1 1 := Fld.of (f := 1) Try.underlying140 rfl ty48 rfl
instance fld140_2 : Fld Try.prog 140 2 5 := Fld.of (f := 2) Try.underlying140 rfl ty3 rfl
instance fld140_3 : Fld Try.prog 140 3 6 := Fld.of (f := 3) Try.underlying140 rfl ty50 rfl
instance fld140_4 : Fld Try.prog 140 4 7 := Fld.of (f := 4) Try.underlying140 rfl ty9 rfl
instance fld144_0 : Fld Try.prog 144 0 0 := Fld.of (f := 0) Try.underlying144 rfl ty22 rfl
instance fld144_1 : Fld Try.prog 144 1 1 := Fld.of (f := 1) Try.underlying144 rfl ty25 rfl
instance fld144_2 : Fld Try.prog 144 2 2 := Fld.of (f := 2) Try.underlying144 rfl ty120 rfl
instance fld145_0 : Fld Try.prog 145 0 0 := Fld.of (f := 0) Try.underlying145 rfl ty22 rfl
instance fld145_1 : Fld Try.prog 145 1 1 := Fld.of (f := 1) Try.underlying145 rfl ty25 rfl
instance fld145_2 : Fld Try.prog 145 2 2 := Fld.of (f := 2) Try.underlying145 rfl ty120 rfl
instance fld183_0 : Fld Try.prog 183 0 0 := Fld.of (f := 0) Try.underlying183 rfl ty17 rfl
instance fld183_1 : Fld Try.prog 183 1 1 := Fld.of (f := 1) Try.underlying183 rfl ty17 rfl
instance fld183_2 : Fld Try.prog 183 2 2 := Fld.of (f := 2) Try.underlying183 rfl ty17 rfl
instance fld183_3 : Fld Try.prog 183 3 3 := Fld.of (f := 3) Try.underlying183 rfl ty9 rfl
instance fld184_0 : Fld Try.prog 184 0 0 := Fld.of (f := 0) Try.underlying184 rfl ty17 rfl
instance fld184_1 : Fld Try.prog 184 1 1 := Fld.of (f := 1) Try.underlying184 rfl ty17 rfl
instance fld184_2 : Fld Try.prog 184 2 2 := Fld.of (f := 2) Try.underlying184 rfl ty17 rfl
instance fld184_3 : Fld Try.prog 184 3 3 := Fld.of (f := 3) Try.underlying184 rfl ty9 rfl
instance fld195_0 : Fld Try.prog 195 0 0 := Fld.of (f := 0) Try.underlying195 rfl ty12 rfl
instance fld195_1 : Fld Try.prog 195 1 1 := Fld.of (f := 1) Try.underlying195 rfl ty12 rfl
instance fld195_2 : Fld Try.prog 195 2 2 := Fld.of (f := 2) Try.underlying195 rfl ty164 rfl
instance fld195_3 : Fld Try.prog 195 3 3 := Fld.of (f := 3) Try.underlying195 rfl ty189 rfl
instance fld195_4 : Fld Try.prog 195 4 4 := Fld.of (f := 4) Try.underlying195 rfl ty5 rfl
instance fld195_5 : Fld Try.prog 195 5 5 := Fld.of (f := 5) Try.underlying195 rfl ty5 rfl
instance fld195_6 : Fld Try.prog 195 6 6 := Fld.of (f := 6) Try.underlying195 rfl ty190 rfl
instance fld195_7 : Fld Try.prog 195 7 7 := Fld.of (f := 7) Try.underlying195 rfl ty191 rfl
instance fld195_8 : Fld Try.prog 195 8 8 := Fld.of (f := 8) Try.underlying195 rfl ty192 rfl
instance fld195_9 : Fld Try.prog 195 9 9 := Fld.of (f := 9) Try.underlying195 rfl ty193 rfl
instance fld195_10 : Fld Try.prog 195 10 10 := Fld.of (f := 10) Try.underlying195 rfl ty194 rfl
instance fld196_0 : Fld Try.prog 196 0 0 := Fld.of (f := 0) Try.underlying196 rfl ty12 rfl
instance fld196_1 : Fld Try.prog 196 1 1 := Fld.of (f := 1) Try.underlying196 rfl ty12 rfl
instance fld196_2 : Fld Try.prog 196 2 2 := Fld.of (f := 2) Try.underlying196 rfl ty164 rfl
instance fld196_3 : Fld Try.prog 196 3 3 := Fld.of (f := 3) Try.underlying196 rfl ty189 rfl
instance fld196_4 : Fld Try.prog 196 4 4 := Fld.of (f := 4) Try.underlying196 rfl ty5 rfl
instance fld196_5 : Fld Try.prog 196 5 5 := Fld.of (f := 5) Try.underlying196 rfl ty5 rfl
instance fld196_6 : Fld Try.prog 196 6 6 := Fld.of (f := 6) Try.underlying196 rfl ty190 rfl
instance fld196_7 : Fld Try.prog 196 7 7 := Fld.of (f := 7) Try.underlying196 rfl ty191 rfl
instance fld196_8 : Fld Try.prog 196 8 8 := Fld.of (f := 8) Try.underlying196 rfl ty192 rfl
instance fld196_9 : Fld Try.prog 196 9 9 := Fld.of (f := 9) Try.underlying196 rfl ty193 rfl
instance fld196_10 : Fld Try.prog 196 10 10 := Fld.of (f := 10) Try.underlying196 rfl ty194 rfl
instance sl22 : Sl Try.prog 22 3 1 8 (.int .i64 0) := Sl.of Try.underlying22 info3 rfl rfl rfl
instance sl23 : Sl Try.prog 23 76 3 24 (.agg #[.int .i64 0, .int .i64 0, .int .i64 0]) := Sl.of Try.underlying23 info76 rfl rfl rfl
instance sl25 : Sl Try.prog 25 27 2 40 (.agg #[.string ⟨#[]⟩, .slice none 0 0]) := Sl.of Try.underlying25 info27 rfl rfl rfl
instance sl33 : Sl Try.prog 33 22 1 24 (.slice none 0 0) := Sl.of Try.underlying33 info22 rfl rfl rfl
instance sl40 : Sl Try.prog 40 5 1 1 (.int .u8 0) := Sl.of Try.underlying40 info5 rfl rfl rfl
instance sl45 : Sl Try.prog 45 89 5 72 (.agg #[.string ⟨#[]⟩, .int .i64 0, .string ⟨#[]⟩, .int .i64 0, .slice none 0 0]) := Sl.of Try.underlying45 info89 rfl rfl rfl
instance sl46 : Sl Try.prog 46 48 4 56 (.agg #[.int .i64 0, .string ⟨#[]⟩, .int .i64 0, .slice none 0 0]) := Sl.of Try.underlying46 info48 rfl rfl rfl
instance sl49 : Sl Try.prog 49 61 11 184 (.agg #[.int .i64 0, .string ⟨#[]⟩, .int .i64 0, .string ⟨#[]⟩, .int .i64 0, .slice none 0 0, .int .u16 0, .slice none 0 0, .slice none 0 0, .slice none 0 0, .slice none 0 0]) := Sl.of Try.underlying49 info61 rfl rfl rfl
instance sl56 : Sl Try.prog 56 58 4 56 (.agg #[.int .i64 0, .string ⟨#[]⟩, .int .u16 0, .slice none 0 0]) := Sl.of Try.underlying56 info58 rfl rfl rfl
instance sl59 : Sl Try.prog 59 49 1 24 (.slice none 0 0) := Sl.of Try.underlying59 info49 rfl rfl rfl
instance sl64 : Sl Try.prog 64 9 1 16 (.string ⟨#[]⟩) := Sl.of Try.underlying64 info9 rfl rfl rfl
instance sl92 : Sl Try.prog 92 137 3 48 (.agg #[.string ⟨#[]⟩, .bool false, .slice none 0 0]) := Sl.of Try.underlying92 info137 rfl rfl rfl
instance sl93 : Sl Try.prog 93 140 8 104 (.agg #[.string ⟨#[]⟩, .int .i64 0, .string ⟨#[]⟩, .int .i64 0, .slice none 0 0, .int .i64 0, .int .u16 0, .string ⟨#[]⟩]) := Sl.of Try.underlying93 info140 rfl rfl rfl
instance sl94 : Sl Try.prog 94 54 10 144 (.agg #[.string ⟨#[]⟩, .slice none 0 0, .int .i64 0, .string ⟨#[]⟩, .int .i64 0, .slice none 0 0, .slice none 0 0, .bool false, .int .i64 0, .int .u16 0]) := Sl.of Try.underlying94 info54 rfl rfl rfl
instance sl119 : Sl Try.prog 119 129 3 48 (.agg #[.int .i64 0, .string ⟨#[]⟩, .slice none 0 0]) := Sl.of Try.underlying119 info129 rfl rfl rfl
instance sl120 : Sl Try.prog 120 25 1 24 (.slice none 0 0) := Sl.of Try.underlying120 info25 rfl rfl rfl
instance sl152 : Sl Try.prog 152 154 2 16 (.agg #[.int .i64 0, .int .i64 0]) := Sl.of Try.underlying152 info154 rfl rfl rfl
instance sl178 : Sl Try.prog 178 4 1 1 (.bool false) := Sl.of Try.underlying178 info4 rfl rfl rfl
instance zr1 : Zr Try.prog 1 #[.nilFunc] := ⟨_, _, info1, rfl, rfl⟩
instance zr2 : Zr Try.prog 2 #[.int .i64 0] := ⟨_, _, info2, rfl, rfl⟩
instance zr3 : Zr Try.prog 3 #[.int .i64 0] := ⟨_, _, info3, rfl, rfl⟩
instance zr4 : Zr Try.prog 4 #[.bool false] := ⟨_, _, info4, rfl, rfl⟩
instance zr5 : Zr Try.prog 5 #[.int .u8 0] := ⟨_, _, info5, rfl, rfl⟩
instance zr6 : Zr Try.prog 6 #[.int .u8 0] := ⟨_, _, info6, rfl, rfl⟩
instance zr7 : Zr Try.prog 7 #[.int .i64 0, .int .i64 0, .bool false, .int .u8 0] := ⟨_, _, info7, rfl, rfl⟩
instance str7 : Str Try.prog 7 [(0, 1), (1, 1), (2, 1), (3, 1)] #[.int .i64 0, .int .i64 0, .bool false, .int .u8 0] := Str.of Try.underlying7 info7 rfl rfl (by kernel_rfl) (by kernel_rfl)
instance zr8 : Zr Try.prog 8 #[.int .i64 0, .int .i64 0, .bool false, .int .u8 0] := ⟨_, _, info8, rfl, rfl⟩
instance str8 : Str Try.prog 8 [(0, 1), (1, 1), (2, 1), (3, 1)] #[.int .i64 0, .int .i64 0, .bool false, .int .u8 0] := Str.of Try.underlying8 info8 rfl rfl (by kernel_rfl) (by kernel_rfl)
instance zr9 : Zr Try.prog 9 #[.string ⟨#[]⟩] := ⟨_, _, info9, rfl, rfl⟩
instance zr10 : Zr Try.prog 10 #[.string ⟨#[]⟩] := ⟨_, _, info10, rfl, rfl⟩
instance zr11 : Zr Try.prog 11 #[.string ⟨#[]⟩] := ⟨_, _, info11, rfl, rfl⟩
instance zr12 : Zr Try.prog 12 #[.int .u64 0] := ⟨_, _, info12, rfl, rfl⟩
instance zr13 : Zr Try.prog 13 #[.string ⟨#[]⟩, .int .u64 0] := ⟨_, _, info13, rfl, rfl⟩
instance str13 : Str Try.prog 13 [(0, 1), (1, 1)] #[.string ⟨#[]⟩, .int .u64 0] := Str.of Try.underlying13 info13 rfl rfl (by kernel_rfl) (by kernel_rfl)
instance zr14 : Zr Try.prog 14 #[.string ⟨#[]⟩, .int .u64 0] := ⟨_, _, info14, rfl, rfl⟩
instance str14 : Str Try.prog 14 [(0, 1), (1, 1)] #[.string ⟨#[]⟩, .int .u64 0] := Str.of Try.underlying14 info14 rfl rfl (by kernel_rfl) (by kernel_rfl)
instance zr15 : Zr Try.prog 15 #[.pointer none] := ⟨_, _, info15, rfl, rfl⟩
instance zr16 : Zr Try.prog 16 #[.pointer none] := ⟨_, _, info16, rfl, rfl⟩
instance zr17 : Zr Try.prog 17 #[.pointer none] := ⟨_, _, info17, rfl, rfl⟩
instance zr18 : Zr Try.prog 18 #[.pointer none] := ⟨_, _, info18, rfl, rfl⟩
instance str18 : Str Try.prog 18 [(0, 1)] #[.pointer none] := Str.of Try.underlying18 info18 rfl rfl (by kernel_rfl) (by kernel_rfl)
instance zr19 : Zr Try.prog 19 #[.pointer none] := ⟨_, _, info19, rfl, rfl⟩
instance str19 : Str Try.prog 19 [(0, 1)] #[.pointer none] := Str.of Try.underlying19 info19 rfl rfl (by kernel_rfl) (by kernel_rfl)
instance zr20 : Zr Try.prog 20 #[.nilIface] := ⟨_, _, info20, rfl, rfl⟩
instance zr21 : Zr Try.prog 21 #[.int .i32 0] := ⟨_, _, info21, rfl, rfl⟩
instance zr22 : Zr Try.prog 22 #[.slice none 0 0] := ⟨_, _, info22, rfl, rfl⟩
instance zr23 : Zr Try.prog 23 #[.slice none 0 0] := ⟨_, _, info23, rfl, rfl⟩
instance zr24 : Zr Try.prog 24 #[.nilFunc] := ⟨_, _, info24, rfl, rfl⟩
instance zr25 : Zr Try.prog 25 #[.slice none 0 0] := ⟨_, _, info25, rfl, rfl⟩
instance zr26 : Zr Try.prog 26 #[.string ⟨#[]⟩, .slice none 0 0] := ⟨_, _, info26, rfl, rfl⟩
instance str26 : Str Try.prog 26 [(0, 1), (1, 1)] #[.string ⟨#[]⟩, .slice none 0 0] := Str.of Try.underlying26 info26 rfl rfl (by kernel_rfl) (by kernel_rfl)
instance zr27 : Zr Try.prog 27 #[.string ⟨#[]⟩, .slice none 0 0] := ⟨_, _, info27, rfl, rfl⟩
instance str27 : Str Try.prog 27 [(0, 1), (1, 1)] #[.string ⟨#[]⟩, .slice none 0 0] := Str.of Try.underlying27 info27 rfl rfl (by kernel_rfl) (by kernel_rfl)
instance zr28 : Zr Try.prog 28 #[.nilFunc] := ⟨_, _, info28, rfl, rfl⟩
instance zr29 : Zr Try.prog 29 #[.nilFunc] := ⟨_, _, info29, rfl, rfl⟩
instance zr30 : Zr Try.prog 30 #[.nilFunc] := ⟨_, _, info30, rfl, rfl⟩
instance zr31 : Zr Try.prog 31 #[.nilFunc] := ⟨_, _, info31, rfl, rfl⟩
instance zr32 : Zr Try.prog 32 #[.nilFunc] := ⟨_, _, info32, rfl, rfl⟩
instance zr33 : Zr Try.prog 33 #[.slice none 0 0] := ⟨_, _, info33, rfl, rfl⟩
instance zr35 : Zr Try.prog 35 #[.nilFunc] := ⟨_, _, info35, rfl, rfl⟩
instance zr36 : Zr Try.prog 36 #[.nilFunc] := ⟨_, _, info36, rfl, rfl⟩
instance zr37 : Zr Try.prog 37 #[.nilFunc] := ⟨_, _, info37, rfl, rfl⟩
instance zr38 : Zr Try.prog 38 #[.nilFunc] := ⟨_, _, info38, rfl, rfl⟩
instance zr39 : Zr Try.prog 39 #[.nilFunc] := ⟨_, _, info39, rfl, rfl⟩
instance zr40 : Zr Try.prog 40 #[.slice none 0 0] := ⟨_, _, info40, rfl, rfl⟩
instance zr41 : Zr Try.prog 41 #[.nilFunc] := ⟨_, _, info41, rfl, rfl⟩
instance zr42 : Zr Try.prog 42 #[.nilFunc] := ⟨_, _, info42, rfl, rfl⟩
instance zr43 : Zr Try.prog 43 #[.nilFunc] := ⟨_, _, info43, rfl, rfl⟩
instance zr44 : Zr Try.prog 44 #[.nilFunc] := ⟨_, _, info44, rfl, rfl⟩
instance zr45 : Zr Try.prog 45 #[.slice none 0 0] := ⟨_, _, info45, rfl, rfl⟩
instance zr46 : Zr Try.prog 46 #[.slice none 0 0] := ⟨_, _, info46, rfl, rfl⟩
instance zr47 : Zr Try.prog 47 #[.int .i64 0, .string ⟨#[]⟩, .int .i64 0, .slice none 0 0] := ⟨_, _, info47, rfl, rfl⟩
instance str47 : Str Try.prog 47 [(0, 1), (1, 1), (2, 1), (3, 1)] #[.int .i64 0, .string ⟨#[]⟩, .int .i64 0, .slice none 0 0] := Str.of Try.underlying47 info47 rfl rfl (by kernel_rfl) (by kernel_rfl)
instance zr48 : Zr Try.prog 48 #[.int .i64 0, .string ⟨#[]⟩, .int .i64 0, .slice none 0 0] := ⟨_, _, info48, rfl, rfl⟩
instance str48 : Str Try.prog 48 [(0, 1), (1, 1), (2, 1), (3, 1)] #[.int .i64 0, .string ⟨#[]⟩, .int .i64 0, .slice none 0 0] := Str.of Try.underlying48 info48 rfl rfl (by kernel_rfl) (by kernel_rfl)
instance zr49 : Zr Try.prog 49 #[.slice none 0 0] := ⟨_, _, info49, rfl, rfl⟩
instance zr50 : Zr Try.prog 50 #[.int .u16 0] := ⟨_, _, info50, rfl, rfl⟩
instance zr51 : Zr Try.prog 51 #[.int .i64 0, .int .u16 0] := ⟨_, _, info51, rfl, rfl⟩
instance str51 : Str Try.prog 51 [(0, 1), (1, 1)] #[.int .i64 0, .int .u16 0] := Str.of Try.underlying51 info51 rfl rfl (by kernel_rfl) (by kernel_rfl)
instance zr52 : Zr Try.prog 52 #[.int .i64 0, .int .u16 0] := ⟨_, _, info52, rfl, rfl⟩
instance str52 : Str Try.prog 52 [(0, 1), (1, 1)] #[.int .i64 0, .int .u16 0] := Str.of Try.underlying52 info52 rfl rfl (by kernel_rfl) (by kernel_rfl)
instance zr53 : Zr Try.prog 53 #[.string ⟨#[]⟩, .slice none 0 0, .int .i64 0, .string ⟨#[]⟩, .int .i64 0, .slice none 0 0, .slice none 0 0, .bool false, .int .i64 0, .int .u16 0] := ⟨_, _, info53, rfl, rfl⟩
instance str53 : Str Try.prog 53 [(0, 1), (1, 1), (2, 4), (6, 1), (7, 1), (8, 2)] #[.string ⟨#[]⟩, .slice none 0 0, .int .i64 0, .string ⟨#[]⟩, .int .i64 0, .slice none 0 0, .slice none 0 0, .bool false, .int .i64 0, .int .u16 0] := Str.of Try.underlying53 info53 rfl rfl (by kernel_rfl) (by kernel_rfl)
instance zr54 : Zr Try.prog 54 #[.string ⟨#[]⟩, .slice none 0 0, .int .i64 0, .string ⟨#[]⟩, .int .i64 0, .slice none 0 0, .slice none 0 0, .bool false, .int .i64 0, .int .u16 0] := ⟨_, _, info54, rfl, rfl⟩
instance str54 : Str Try.prog 54 [(0, 1), (1, 1), (2, 4), (6, 1), (7, 1), (8, 2)] #[.string ⟨#[]⟩, .slice none 0 0, .int .i64 0, .string ⟨#[]⟩, .int .i64 0, .slice none 0 0, .slice none 0 0, .bool false, .int .i64 0, .int .u16 0] := Str.of Try.underlying54 info54 rfl rfl (by kernel_rfl) (by kernel_rfl)
instance zr55 : Zr Try.prog 55 #[.nilFunc] := ⟨_, _, info55, rfl, rfl⟩
instance zr56 : Zr Try.prog 56 #[.slice none 0 0] := ⟨_, _, info56, rfl, rfl⟩
instance zr57 : Zr Try.prog 57 #[.int .i64 0, .string ⟨#[]⟩, .int .u16 0, .slice none 0 0] := ⟨_, _, info57, rfl, rfl⟩
instance str57 : Str Try.prog 57 [(0, 1), (1, 1), (2, 1), (3, 1)] #[.int .i64 0, .string ⟨#[]⟩, .int .u16 0, .slice none 0 0] := Str.of Try.underlying57 info57 rfl rfl (by kernel_rfl) (by kernel_rfl)
instance zr58 : Zr Try.prog 58 #[.int .i64 0, .string ⟨#[]⟩, .int .u16 0, .slice none 0 0] := ⟨_, _, info58, rfl, rfl⟩
instance str58 : Str Try.prog 58 [(0, 1), (1, 1), (2, 1), (3, 1)] #[.int .i64 0, .string ⟨#[]⟩, .int .u16 0, .slice none 0 0] := Str.of Try.underlying58 info58 rfl rfl (by kernel_rfl) (by kernel_rfl)
instance zr59 : Zr Try.prog 59 #[.slice none 0 0] := ⟨_, _, info59, rfl, rfl⟩
instance zr60 : Zr Try.prog 60 #[.int .i64 0, .string ⟨#[]⟩, .int .i64 0, .string ⟨#[]⟩, .int .i64 0, .slice none 0 0, .int .u16 0, .slice none 0 0, .slice none 0 0, .slice none 0 0, .slice none 0 0] := ⟨_, _, info60, rfl, rfl⟩
instance str60 : Str Try.prog 60 [(0, 1), (1, 1), (2, 4), (6, 1), (7, 1), (8, 1), (9, 1), (10, 1)] #[.int .i64 0, .string ⟨#[]⟩, .int .i64 0, .string ⟨#[]⟩, .int .i64 0, .slice none 0 0, .int .u16 0, .slice none 0 0, .slice none 0 0, .slice none 0 0, .slice none 0 0] := Str.of Try.underlying60 info60 rfl rfl (by kernel_rfl) (by kernel_rfl)
instance zr61 : Zr Try.prog 61 #[.int .i64 0, .string ⟨#[]⟩, .int .i64 0, .string ⟨#[]⟩, .int .i64 0, .slice none 0 0, .int .u16 0, .slice none 0 0, .slice none 0 0, .slice none 0 0, .slice none 0 0] := ⟨_, _, info61, rfl, rfl⟩
instance str61 : Str Try.prog 61 [(0, 1), (1, 1), (2, 4), (6, 1), (7, 1), (8, 1), (9, 1), (10, 1)] #[.int .i64 0, .string ⟨#[]⟩, .int .i64 0, .string ⟨#[]⟩, .int .i64 0, .slice none 0 0, .int .u16 0, .slice none 0 0, .slice none 0 0, .slice none 0 0, .slice none 0 0] := Str.of Try.underlying61 info61 rfl rfl (by kernel_rfl) (by kernel_rfl)
instance zr62 : Zr Try.prog 62 #[.nilFunc] := ⟨_, _, info62, rfl, rfl⟩
instance zr63 : Zr Try.prog 63 #[.nilFunc] := ⟨_, _, info63, rfl, rfl⟩
instance zr64 : Zr Try.prog 64 #[.slice none 0 0] := ⟨_, _, info64, rfl, rfl⟩
instance zr65 : Zr Try.prog 65 #[.nilFunc] := ⟨_, _, info65, rfl, rfl⟩
instance zr66 : Zr Try.prog 66 #[.nilFunc] := ⟨_, _, info66, rfl, rfl⟩
instance zr67 : Zr Try.prog 67 #[.nilFunc] := ⟨_, _, info67, rfl, rfl⟩
instance zr68 : Zr Try.prog 68 #[.pointer none] := ⟨_, _, info68, rfl, rfl⟩
instance zr69 : Zr Try.prog 69 #[.slice none 0 0, .int .i64 0] := ⟨_, _, info69, rfl, rfl⟩
instance str69 : Str Try.prog 69 [(0, 1), (1, 1)] #[.slice none 0 0, .int .i64 0] := Str.of Try.underlying69 info69 rfl rfl (by kernel_rfl) (by kernel_rfl)
instance zr70 : Zr Try.prog 70 #[.slice none 0 0, .int .i64 0] := ⟨_, _, info70, rfl, rfl⟩
instance str70 : Str Try.prog 70 [(0, 1), (1, 1)] #[.slice none 0 0, .int .i64 0] := Str.of Try.underlying70 info70 rfl rfl (by kernel_rfl) (by kernel_rfl)
instance zr71 : Zr Try.prog 71 #[.nilFunc] := ⟨_, _, info71, rfl, rfl⟩
instance zr72 : Zr Try.prog 72 #[.string ⟨#[]⟩, .slice none 0 0, .slice none 0 0] := ⟨_, _, info72, rfl, rfl⟩
instance str72 : Str Try.prog 72 [(0, 2), (2, 1)] #[.string ⟨#[]⟩, .slice none 0 0, .slice none 0 0] := Str.of Try.underlying72 info72 rfl rfl (by kernel_rfl) (by kernel_rfl)
instance zr73 : Zr Try.prog 73 #[.string ⟨#[]⟩, .slice none 0 0, .slice none 0 0] := ⟨_, _, info73, rfl, rfl⟩
instance str73 : Str Try.prog 73 [(0, 2), (2, 1)] #[.string ⟨#[]⟩, .slice none 0 0, .slice none 0 0] := Str.of Try.underlying73 info73 rfl rfl (by kernel_rfl) (by kernel_rfl)
instance zr74 : Zr Try.prog 74 #[.nilFunc] := ⟨_, _, info74, rfl, rfl⟩
instance zr75 : Zr Try.prog 75 #[.nilFunc] := ⟨_, _, info75, rfl, rfl⟩
instance zr76 : Zr Try.prog 76 #[.int .i64 0, .int .i64 0, .int .i64 0] := ⟨_, _, info76, rfl, rfl⟩
instance zr77 : Zr Try.prog 77 #[.pointer none] := ⟨_, _, info77, rfl, rfl⟩
instance zr78 : Zr Try.prog 78 #[.slice none 0 0] := ⟨_, _, info78, rfl, rfl⟩
instance str78 : Str Try.prog 78 [(0, 1)] #[.slice none 0 0] := Str.of Try.underlying78 info78 rfl rfl (by kernel_rfl) (by kernel_rfl)
instance zr79 : Zr Try.prog 79 #[.slice none 0 0] := ⟨_, _, info79, rfl, rfl⟩
instance str79 : Str Try.prog 79 [(0, 1)] #[.slice none 0 0] := Str.of Try.underlying79 info79 rfl rfl (by kernel_rfl) (by kernel_rfl)
instance zr80 : Zr Try.prog 80 #[.slice none 0 0] := ⟨_, _, info80, rfl, rfl⟩
instance str80 : Str Try.prog 80 [(0, 1)] #[.slice none 0 0] := Str.of Try.underlying80 info80 rfl rfl (by kernel_rfl) (by kernel_rfl)
instance zr81 : Zr Try.prog 81 #[.slice none 0 0] := ⟨_, _, info81, rfl, rfl⟩
instance str81 : Str Try.prog 81 [(0, 1)] #[.slice none 0 0] := Str.of Try.underlying81 info81 rfl rfl (by kernel_rfl) (by kernel_rfl)
instance zr82 : Zr Try.prog 82 #[.nilFunc] := ⟨_, _, info82, rfl, rfl⟩
instance zr83 : Zr Try.prog 83 #[.nilFunc] := ⟨_, _, info83, rfl, rfl⟩
instance zr84 : Zr Try.prog 84 #[.nilFunc] := ⟨_, _, info84, rfl, rfl⟩
instance zr85 : Zr Try.prog 85 #[.nilFunc] := ⟨_, _, info85, rfl, rfl⟩
instance zr86 : Zr Try.prog 86 #[.nilFunc] := ⟨_, _, info86, rfl, rfl⟩
instance zr87 : Zr Try.prog 87 #[.nilFunc] := ⟨_, _, info87, rfl, rfl⟩
instance zr88 : Zr Try.prog 88 #[.string ⟨#[]⟩, .int .i64 0, .string ⟨#[]⟩, .int .i64 0, .slice none 0 0] := ⟨_, _, info88, rfl, rfl⟩
instance str88 : Str Try.prog 88 [(0, 1), (1, 4)] #[.string ⟨#[]⟩, .int .i64 0, .string ⟨#[]⟩, .int .i64 0, .slice none 0 0] := Str.of Try.underlying88 info88 rfl rfl (by kernel_rfl) (by kernel_rfl)
instance zr89 : Zr Try.prog 89 #[.string ⟨#[]⟩, .int .i64 0, .string ⟨#[]⟩, .int .i64 0, .slice none 0 0] := ⟨_, _, info89, rfl, rfl⟩
instance str89 : Str Try.prog 89 [(0, 1), (1, 4)] #[.string ⟨#[]⟩, .int .i64 0, .string ⟨#[]⟩, .int .i64 0, .slice none 0 0] := Str.of Try.underlying89 info89 rfl rfl (by kernel_rfl) (by kernel_rfl)
instance zr90 : Zr Try.prog 90 #[.nilFunc] := ⟨_, _, info90, rfl, rfl⟩
instance zr91 : Zr Try.prog 91 #[.nilFunc] := ⟨_, _, info91, rfl, rfl⟩
instance zr92 : Zr Try.prog 92 #[.slice none 0 0] := ⟨_, _, info92, rfl, rfl⟩
instance zr93 : Zr Try.prog 93 #[.slice none 0 0] := ⟨_, _, info93, rfl, rfl⟩
instance zr94 : Zr Try.prog 94 #[.slice none 0 0] := ⟨_, _, info94, rfl, rfl⟩
instance zr95 : Zr Try.prog 95 #[.slice none 0 0, .slice none 0 0, .slice none 0 0] := ⟨_, _, info95, rfl, rfl⟩
instance str95 : Str Try.prog 95 [(0, 1), (1, 1), (2, 1)] #[.slice none 0 0, .slice none 0 0, .slice none 0 0] := Str.of Try.underlying95 info95 rfl rfl (by kernel_rfl) (by kernel_rfl)
instance zr96 : Zr Try.prog 96 #[.slice none 0 0, .slice none 0 0, .slice none 0 0] := ⟨_, _, info96, rfl, rfl⟩
instance str96 : Str Try.prog 96 [(0, 1), (1, 1), (2, 1)] #[.slice none 0 0, .slice none 0 0, .slice none 0 0] := Str.of Try.underlying96 info96 rfl rfl (by kernel_rfl) (by kernel_rfl)
instance zr97 : Zr Try.prog 97 #[.nilFunc] := ⟨_, _, info97, rfl, rfl⟩
instance zr98 : Zr Try.prog 98 #[.pointer none] := ⟨_, _, info98, rfl, rfl⟩
instance zr99 : Zr Try.prog 99 #[.map none] := ⟨_, _, info99, rfl, rfl⟩
instance zr100 : Zr Try.prog 100 #[.map none] := ⟨_, _, info100, rfl, rfl⟩
instance zr101 : Zr Try.prog 101 #[.map none, .map none] := ⟨_, _, info101, rfl, rfl⟩
instance str101 : Str Try.prog 101 [(0, 1), (1, 1)] #[.map none, .map none] := Str.of Try.underlying101 info101 rfl rfl (by kernel_rfl) (by kernel_rfl)
instance zr102 : Zr Try.prog 102 #[.map none, .map none] := ⟨_, _, info102, rfl, rfl⟩
instance str102 : Str Try.prog 102 [(0, 1), (1, 1)] #[.map none, .map none] := Str.of Try.underlying102 info102 rfl rfl (by kernel_rfl) (by kernel_rfl)
instance zr103 : Zr Try.prog 103 #[.nilFunc] := ⟨_, _, info103, rfl, rfl⟩
instance zr104 : Zr Try.prog 104 #[.nilFunc] := ⟨_, _, info104, rfl, rfl⟩
instance zr105 : Zr Try.prog 105 #[.nilFunc] := ⟨_, _, info105, rfl, rfl⟩
instance zr106 : Zr Try.prog 106 #[.nilFunc] := ⟨_, _, info106, rfl, rfl⟩
instance zr107 : Zr Try.prog 107 #[.string ⟨#[]⟩, .string ⟨#[]⟩, .string ⟨#[]⟩, .string ⟨#[]⟩, .string ⟨#[]⟩, .string ⟨#[]⟩, .string ⟨#[]⟩] := ⟨_, _, info107, rfl, rfl⟩
instance zr108 : Zr Try.prog 108 #[.pointer none] := ⟨_, _, info108, rfl, rfl⟩
instance zr109 : Zr Try.prog 109 #[.slice none 0 0, .slice none 0 0, .slice none 0 0] := ⟨_, _, info109, rfl, rfl⟩
instance str109 : Str Try.prog 109 [(0, 1), (1, 1), (2, 1)] #[.slice none 0 0, .slice none 0 0, .slice none 0 0] := Str.of Try.underlying109 info109 rfl rfl (by kernel_rfl) (by kernel_rfl)
instance zr110 : Zr Try.prog 110 #[.slice none 0 0, .slice none 0 0, .slice none 0 0] := ⟨_, _, info110, rfl, rfl⟩
instance str110 : Str Try.prog 110 [(0, 1), (1, 1), (2, 1)] #[.slice none 0 0, .slice none 0 0, .slice none 0 0] := Str.of Try.underlying110 info110 rfl rfl (by kernel_rfl) (by kernel_rfl)
instance zr111 : Zr Try.prog 111 #[.nilFunc] := ⟨_, _, info111, rfl, rfl⟩
instance zr112 : Zr Try.prog 112 #[.pointer none] := ⟨_, _, info112, rfl, rfl⟩
instance zr113 : Zr Try.prog 113 #[.slice none 0 0] := ⟨_, _, info113, rfl, rfl⟩
instance str113 : Str Try.prog 113 [(0, 1)] #[.slice none 0 0] := Str.of Try.underlying113 info113 rfl rfl (by kernel_rfl) (by kernel_rfl)
instance zr114 : Zr Try.prog 114 #[.slice none 0 0] := ⟨_, _, info114, rfl, rfl⟩
instance str114 : Str Try.prog 114 [(0, 1)] #[.slice none 0 0] := Str.of Try.underlying114 info114 rfl rfl (by kernel_rfl) (by kernel_rfl)
instance zr115 : Zr Try.prog 115 #[.nilFunc] := ⟨_, _, info115, rfl, rfl⟩
instance zr116 : Zr Try.prog 116 #[.nilFunc] := ⟨_, _, info116, rfl, rfl⟩
instance zr117 : Zr Try.prog 117 #[.nilFunc] := ⟨_, _, info117, rfl, rfl⟩
instance zr118 : Zr Try.prog 118 #[.nilFunc] := ⟨_, _, info118, rfl, rfl⟩
instance zr119 : Zr Try.prog 119 #[.slice none 0 0] := ⟨_, _, info119, rfl, rfl⟩
instance zr120 : Zr Try.prog 120 #[.slice none 0 0] := ⟨_, _, info120, rfl, rfl⟩
instance zr121 : Zr Try.prog 121 #[.slice none 0 0, .slice none 0 0] := ⟨_, _, info121, rfl, rfl⟩
instance str121 : Str Try.prog 121 [(0, 1), (1, 1)] #[.slice none 0 0, .slice none 0 0] := Str.of Try.underlying121 info121 rfl rfl (by kernel_rfl) (by kernel_rfl)
instance zr122 : Zr Try.prog 122 #[.slice none 0 0, .slice none 0 0] := ⟨_, _, info122, rfl, rfl⟩
instance str122 : Str Try.prog 122 [(0, 1), (1, 1)] #[.slice none 0 0, .slice none 0 0] := Str.of Try.underlying122 info122 rfl rfl (by kernel_rfl) (by kernel_rfl)
instance zr123 : Zr Try.prog 123 #[.nilFunc] := ⟨_, _, info123, rfl, rfl⟩
instance zr124 : Zr Try.prog 124 #[.nilFunc] := ⟨_, _, info124, rfl, rfl⟩
instance zr125 : Zr Try.prog 125 #[.nilFunc] := ⟨_, _, info125, rfl, rfl⟩
instance zr126 : Zr Try.prog 126 #[.nilFunc] := ⟨_, _, info126, rfl, rfl⟩
instance zr127 : Zr Try.prog 127 #[.int .i64 0] := ⟨_, _, info127, rfl, rfl⟩
instance zr128 : Zr Try.prog 128 #[.int .i64 0, .string ⟨#[]⟩, .slice none 0 0] := ⟨_, _, info128, rfl, rfl⟩
instance str128 : Str Try.prog 128 [(0, 1), (1, 2)] #[.int .i64 0, .string ⟨#[]⟩, .slice none 0 0] := Str.of Try.underlying128 info128 rfl rfl (by kernel_rfl) (by kernel_rfl)
instance zr129 : Zr Try.prog 129 #[.int .i64 0, .string ⟨#[]⟩, .slice none 0 0] := ⟨_, _, info129, rfl, rfl⟩
instance str129 : Str Try.prog 129 [(0, 1), (1, 2)] #[.int .i64 0, .string ⟨#[]⟩, .slice none 0 0] := Str.of Try.underlying129 info129 rfl rfl (by kernel_rfl) (by kernel_rfl)
instance zr130 : Zr Try.prog 130 #[.nilFunc] := ⟨_, _, info130, rfl, rfl⟩
instance zr131 : Zr Try.prog 131 #[.nilFunc] := ⟨_, _, info131, rfl, rfl⟩
instance zr132 : Zr Try.prog 132 #[.int .u64 0] := ⟨_, _, info132, rfl, rfl⟩
instance zr133 : Zr Try.prog 133 #[.nilFunc] := ⟨_, _, info133, rfl, rfl⟩
instance zr134 : Zr Try.prog 134 #[.nilFunc] := ⟨_, _, info134, rfl, rfl⟩
instance zr135 : Zr Try.prog 135 #[.nilFunc] := ⟨_, _, info135, rfl, rfl⟩
instance zr136 : Zr Try.prog 136 #[.string ⟨#[]⟩, .bool false, .slice none 0 0] := ⟨_, _, info136, rfl, rfl⟩
instance str136 : Str Try.prog 136 [(0, 1), (1, 1), (2, 1)] #[.string ⟨#[]⟩, .bool false, .slice none 0 0] := Str.of Try.underlying136 info136 rfl rfl (by kernel_rfl) (by kernel_rfl)
instance zr137 : Zr Try.prog 137 #[.string ⟨#[]⟩, .bool false, .slice none 0 0] := ⟨_, _, info137, rfl, rfl⟩
instance str137 : Str Try.prog 137 [(0, 1), (1, 1), (2, 1)] #[.string ⟨#[]⟩, .bool false, .slice none 0 0] := Str.of Try.underlying137 info137 rfl rfl (by kernel_rfl) (by kernel_rfl)
instance zr138 : Zr Try.prog 138 #[.nilFunc] := ⟨_, _, info138, rfl, rfl⟩
instance zr139 : Zr Try.prog 139 #[.string ⟨#[]⟩, .int .i64 0, .string ⟨#[]⟩, .int .i64 0, .slice none 0 0, .int .i64 0, .int .u16 0, .string ⟨#[]⟩] := ⟨_, _, info139, rfl, rfl⟩
instance str139 : Str Try.prog 139 [(0, 1), (1, 4), (5, 1), (6, 1), (7, 1)] #[.string ⟨#[]⟩, .int .i64 0, .string ⟨#[]⟩, .int .i64 0, .slice none 0 0, .int .i64 0, .int .u16 0, .string ⟨#[]⟩] := Str.of Try.underlying139 info139 rfl rfl (by kernel_rfl) (by kernel_rfl)
instance zr140 : Zr Try.prog 140 #[.string ⟨#[]⟩, .int .i64 0, .string ⟨#[]⟩, .int .i64 0, .slice none 0 0, .int .i64 0, .int .u16 0, .string ⟨#[]⟩] := ⟨_, _, info140, rfl, rfl⟩
instance str140 : Str Try.prog 140 [(0, 1), (1, 4), (5, 1), (6, 1), (7, 1)] #[.string ⟨#[]⟩, .int .i64 0, .string ⟨#[]⟩, .int .i64 0, .slice none 0 0, .int .i64 0, .int .u16 0, .string ⟨#[]⟩] := Str.of Try.underlying140 info140 rfl rfl (by kernel_rfl) (by kernel_rfl)
instance zr141 : Zr Try.prog 141 #[.nilFunc] := ⟨_, _, info141, rfl, rfl⟩
instance zr143 : Zr Try.prog 143 #[.nilFunc] := ⟨_, _, info143, rfl, rfl⟩
instance zr144 : Zr Try.prog 144 #[.slice none 0 0, .slice none 0 0, .slice none 0 0] := ⟨_, _, info144, rfl, rfl⟩
instance str144 : Str Try.prog 144 [(0, 1), (1, 1), (2, 1)] #[.slice none 0 0, .slice none 0 0, .slice none 0 0] := Str.of Try.underlying144 info144 rfl rfl (by kernel_rfl) (by kernel_rfl)
instance zr145 : Zr Try.prog 145 #[.slice none 0 0, .slice none 0 0, .slice none 0 0] := ⟨_, _, info145, rfl, rfl⟩
instance str145 : Str Try.prog 145 [(0, 1), (1, 1), (2, 1)] #[.slice none 0 0, .slice none 0 0, .slice none 0 0] := Str.of Try.underlying145 info145 rfl rfl (by kernel_rfl) (by kernel_rfl)
instance zr146 : Zr Try.prog 146 #[.nilFunc] := ⟨_, _, info146, rfl, rfl⟩
instance zr147 : Zr Try.prog 147 #[.nilFunc] := ⟨_, _, info147, rfl, rfl⟩
instance zr148 : Zr Try.prog 148 #[.nilFunc] := ⟨_, _, info148, rfl, rfl⟩
instance zr149 : Zr Try.prog 149 #[.nilFunc] := ⟨_, _, info149, rfl, rfl⟩
instance zr150 : Zr Try.prog 150 #[.pointer none] := ⟨_, _, info150, rfl, rfl⟩
instance zr151 : Zr Try.prog 151 #[.nilFunc] := ⟨_, _, info151, rfl, rfl⟩
instance zr152 : Zr Try.prog 152 #[.slice none 0 0] := ⟨_, _, info152, rfl, rfl⟩
instance zr153 : Zr Try.prog 153 #[.nilFunc] := ⟨_, _, info153, rfl, rfl⟩
instance zr154 : Zr Try.prog 154 #[.int .i64 0, .int .i64 0] := ⟨_, _, info154, rfl, rfl⟩
instance zr155 : Zr Try.prog 155 #[.nilFunc] := ⟨_, _, info155, rfl, rfl⟩
instance zr156 : Zr Try.prog 156 #[.int .i64 0] := ⟨_, _, info156, rfl, rfl⟩
instance zr158 : Zr Try.prog 158 #[.nilFunc] := ⟨_, _, info158, rfl, rfl⟩
instance zr159 : Zr Try.prog 159 #[.nilFunc] := ⟨_, _, info159, rfl, rfl⟩
instance zr160 : Zr Try.prog 160 #[.nilFunc] := ⟨_, _, info160, rfl, rfl⟩
instance zr162 : Zr Try.prog 162 #[.nilFunc] := ⟨_, _, info162, rfl, rfl⟩
instance zr163 : Zr Try.prog 163 #[.nilFunc] := ⟨_, _, info163, rfl, rfl⟩
instance zr164 : Zr Try.prog 164 #[.int .u32 0] := ⟨_, _, info164, rfl, rfl⟩
instance zr165 : Zr Try.prog 165 #[.nilFunc] := ⟨_, _, info165, rfl, rfl⟩
instance zr166 : Zr Try.prog 166 #[.int .u64 0] := ⟨_, _, info166, rfl, rfl⟩
instance zr167 : Zr Try.prog 167 #[.nilFunc] := ⟨_, _, info167, rfl, rfl⟩
instance zr168 : Zr Try.prog 168 #[.nilFunc] := ⟨_, _, info168, rfl, rfl⟩
instance zr169 : Zr Try.prog 169 #[.nilFunc] := ⟨_, _, info169, rfl, rfl⟩
instance zr170 : Zr Try.prog 170 #[.nilFunc] := ⟨_, _, info170, rfl, rfl⟩
instance zr171 : Zr Try.prog 171 #[.int .u64 0] := ⟨_, _, info171, rfl, rfl⟩
instance zr172 : Zr Try.prog 172 #[.nilFunc] := ⟨_, _, info172, rfl, rfl⟩
instance zr173 : Zr Try.prog 173 #[.nilFunc] := ⟨_, _, info173, rfl, rfl⟩
instance zr174 : Zr Try.prog 174 #[.nilFunc] := ⟨_, _, info174, rfl, rfl⟩
instance zr175 : Zr Try.prog 175 #[.pointer none] := ⟨_, _, info175, rfl, rfl⟩
instance zr176 : Zr Try.prog 176 #[.nilFunc] := ⟨_, _, info176, rfl, rfl⟩
instance zr177 : Zr Try.prog 177 #[.nilFunc] := ⟨_, _, info177, rfl, rfl⟩
instance zr178 : Zr Try.prog 178 #[.slice none 0 0] := ⟨_, _, info178, rfl, rfl⟩
instance zr179 : Zr Try.prog 179 #[.pointer none] := ⟨_, _, info179, rfl, rfl⟩
instance zr181 : Zr Try.prog 181 #[.nilFunc] := ⟨_, _, info181, rfl, rfl⟩
instance zr182 : Zr Try.prog 182 #[.nilFunc] := ⟨_, _, info182, rfl, rfl⟩
instance zr183 : Zr Try.prog 183 #[.pointer none, .pointer none, .pointer none, .string ⟨#[]⟩] := ⟨_, _, info183, rfl, rfl⟩
instance str183 : Str Try.prog 183 [(0, 1), (1, 1), (2, 1), (3, 1)] #[.pointer none, .pointer none, .pointer none, .string ⟨#[]⟩] := Str.of Try.underlying183 info183 rfl rfl (by kernel_rfl) (by kernel_rfl)
instance zr184 : Zr Try.prog 184 #[.pointer none, .pointer none, .pointer none, .string ⟨#[]⟩] := ⟨_, _, info184, rfl, rfl⟩
instance str184 : Str Try.prog 184 [(0, 1), (1, 1), (2, 1), (3, 1)] #[.pointer none, .pointer none, .pointer none, .string ⟨#[]⟩] := Str.of Try.underlying184 info184 rfl rfl (by kernel_rfl) (by kernel_rfl)
instance zr185 : Zr Try.prog 185 #[] := ⟨_, _, info185, rfl, rfl⟩
instance zr186 : Zr Try.prog 186 #[] := ⟨_, _, info186, rfl, rfl⟩
instance str186 : Str Try.prog 186 [(0, 0)] #[] := Str.of Try.underlying186 info186 rfl rfl (by kernel_rfl) (by kernel_rfl)
instance zr187 : Zr Try.prog 187 #[] := ⟨_, _, info187, rfl, rfl⟩
instance str187 : Str Try.prog 187 [(0, 0)] #[] := Str.of Try.underlying187 info187 rfl rfl (by kernel_rfl) (by kernel_rfl)
instance zr188 : Zr Try.prog 188 #[.nilFunc] := ⟨_, _, info188, rfl, rfl⟩
instance zr189 : Zr Try.prog 189 #[.int .u8 0] := ⟨_, _, info189, rfl, rfl⟩
instance zr190 : Zr Try.prog 190 #[.int .u8 0] := ⟨_, _, info190, rfl, rfl⟩
instance zr191 : Zr Try.prog 191 #[.nilFunc] := ⟨_, _, info191, rfl, rfl⟩
instance zr192 : Zr Try.prog 192 #[.pointer none] := ⟨_, _, info192, rfl, rfl⟩
instance zr193 : Zr Try.prog 193 #[.int .i32 0] := ⟨_, _, info193, rfl, rfl⟩
instance zr194 : Zr Try.prog 194 #[.int .i32 0] := ⟨_, _, info194, rfl, rfl⟩
instance zr195 : Zr Try.prog 195 #[.int .u64 0, .int .u64 0, .int .u32 0, .int .u8 0, .int .u8 0, .int .u8 0, .int .u8 0, .nilFunc, .pointer none, .int .i32 0, .int .i32 0] := ⟨_, _, info195, rfl, rfl⟩
instance str195 : Str Try.prog 195 [(0, 1), (1, 1), (2, 1), (3, 1), (4, 1), (5, 1), (6, 1), (7, 1), (8, 1), (9, 1), (10, 1)] #[.int .u64 0, .int .u64 0, .int .u32 0, .int .u8 0, .int .u8 0, .int .u8 0, .int .u8 0, .nilFunc, .pointer none, .int .i32 0, .int .i32 0] := Str.of Try.underlying195 info195 rfl rfl (by kernel_rfl) (by kernel_rfl)
instance zr196 : Zr Try.prog 196 #[.int .u64 0, .int .u64 0, .int .u32 0, .int .u8 0, .int .u8 0, .int .u8 0, .int .u8 0, .nilFunc, .pointer none, .int .i32 0, .int .i32 0] := ⟨_, _, info196, rfl, rfl⟩
instance str196 : Str Try.prog 196 [(0, 1), (1, 1), (2, 1), (3, 1), (4, 1), (5, 1), (6, 1), (7, 1), (8, 1), (9, 1), (10, 1)] #[.int .u64 0, .int .u64 0, .int .u32 0, .int .u8 0, .int .u8 0, .int .u8 0, .int .u8 0, .nilFunc, .pointer none, .int .i32 0, .int .i32 0] := Str.of Try.underlying196 info196 rfl rfl (by kernel_rfl) (by kernel_rfl)
instance zr197 : Zr Try.prog 197 #[.pointer none] := ⟨_, _, info197, rfl, rfl⟩
instance call2 : Callable Try.prog 2 := Callable.of Try.func2 (by decide) rfl
instance call3 : Callable Try.prog 3 := Callable.of Try.func3 (by decide) rfl
instance call4 : Callable Try.prog 4 := Callable.of Try.func4 (by decide) rfl
instance call5 : Callable Try.prog 5 := Callable.of Try.func5 (by decide) rfl
instance call6 : Callable Try.prog 6 := Callable.of Try.func6 (by decide) rfl
instance call7 : Callable Try.prog 7 := Callable.of Try.func7 (by decide) rfl
instance call8 : Callable Try.prog 8 := Callable.of Try.func8 (by decide) rfl
instance call9 : Callable Try.prog 9 := Callable.of Try.func9 (by decide) rfl
instance call10 : Callable Try.prog 10 := Callable.of Try.func10 (by decide) rfl
instance call11 : Callable Try.prog 11 := Callable.of Try.func11 (by decide) rfl
instance call12 : Callable Try.prog 12 := Callable.of Try.func12 (by decide) rfl
instance call13 : Callable Try.prog 13 := Callable.of Try.func13 (by decide) rfl
instance call14 : Callable Try.prog 14 := Callable.of Try.func14 (by decide) rfl
instance call15 : Callable Try.prog 15 := Callable.of Try.func15 (by decide) rfl
instance call16 : Callable Try.prog 16 := Callable.of Try.func16 (by decide) rfl
instance call17 : Callable Try.prog 17 := Callable.of Try.func17 (by decide) rfl
instance call18 : Callable Try.prog 18 := Callable.of Try.func18 (by decide) rfl
instance call19 : Callable Try.prog 19 := Callable.of Try.func19 (by decide) rfl
instance call20 : Callable Try.prog 20 := Callable.of Try.func20 (by decide) rfl
instance call21 : Callable Try.prog 21 := Callable.of Try.func21 (by decide) rfl
instance call22 : Callable Try.prog 22 := Callable.of Try.func22 (by decide) rfl
instance call23 : Callable Try.prog 23 := Callable.of Try.func23 (by decide) rfl
instance call24 : Callable Try.prog 24 := Callable.of Try.func24 (by decide) rfl
instance call25 : Callable Try.prog 25 := Callable.of Try.func25 (by decide) rfl
instance call26 : Callable Try.prog 26 := Callable.of Try.func26 (by decide) rfl
instance call27 : Callable Try.prog 27 := Callable.of Try.func27 (by decide) rfl
instance call28 : Callable Try.prog 28 := Callable.of Try.func28 (by decide) rfl
instance call29 : Callable Try.prog 29 := Callable.of Try.func29 (by decide) rfl
instance call30 : Callable Try.prog 30 := Callable.of Try.func30 (by decide) rfl
instance call31 : Callable Try.prog 31 := Callable.of Try.func31 (by decide) rfl
instance call32 : Callable Try.prog 32 := Callable.of Try.func32 (by decide) rfl
instance call33 : Callable Try.prog 33 := Callable.of Try.func33 (by decide) rfl
instance call34 : Callable Try.prog 34 := Callable.of Try.func34 (by decide) rfl
instance call35 : Callable Try.prog 35 := Callable.of Try.func35 (by decide) rfl
instance call36 : Callable Try.prog 36 := Callable.of Try.func36 (by decide) rfl
instance call37 : Callable Try.prog 37 := Callable.of Try.func37 (by decide) rfl
instance call38 : Callable Try.prog 38 := Callable.of Try.func38 (by decide) rfl
instance call39 : Callable Try.prog 39 := Callable.of Try.func39 (by decide) rfl
instance call40 : Callable Try.prog 40 := Callable.of Try.func40 (by decide) rfl
instance call41 : Callable Try.prog 41 := Callable.of Try.func41 (by decide) rfl
instance call42 : Callable Try.prog 42 := Callable.of Try.func42 (by decide) rfl
instance call43 : Callable Try.prog 43 := Callable.of Try.func43 (by decide) rfl
instance call44 : Callable Try.prog 44 := Callable.of Try.func44 (by decide) rfl
instance call45 : Callable Try.prog 45 := Callable.of Try.func45 (by decide) rfl
instance call46 : Callable Try.prog 46 := Callable.of Try.func46 (by decide) rfl
instance call47 : Callable Try.prog 47 := Callable.of Try.func47 (by decide) rfl
instance call48 : Callable Try.prog 48 := Callable.of Try.func48 (by decide) rfl
instance call49 : Callable Try.prog 49 := Callable.of Try.func49 (by decide) rfl
instance call50 : Callable Try.prog 50 := Callable.of Try.func50 (by decide) rfl
instance call51 : Callable Try.prog 51 := Callable.of Try.func51 (by decide) rfl
instance call52 : Callable Try.prog 52 := Callable.of Try.func52 (by decide) rfl
instance call53 : Callable Try.prog 53 := Callable.of Try.func53 (by decide) rfl
instance call54 : Callable Try.prog 54 := Callable.of Try.func54 (by decide) rfl
instance call55 : Callable Try.prog 55 := Callable.of Try.func55 (by decide) rfl
instance call56 : Callable Try.prog 56 := Callable.of Try.func56 (by decide) rfl
instance call57 : Callable Try.prog 57 := Callable.of Try.func57 (by decide) rfl
instance call58 : Callable Try.prog 58 := Callable.of Try.func58 (by decide) rfl
instance call59 : Callable Try.prog 59 := Callable.of Try.func59 (by decide) rfl
instance call60 : Callable Try.prog 60 := Callable.of Try.func60 (by decide) rfl
instance call61 : Callable Try.prog 61 := Callable.of Try.func61 (by decide) rfl
instance call62 : Callable Try.prog 62 := Callable.of Try.func62 (by decide) rfl
instance call63 : Callable Try.prog 63 := Callable.of Try.func63 (by decide) rfl
instance call64 : Callable Try.prog 64 := Callable.of Try.func64 (by decide) rfl
instance call65 : Callable Try.prog 65 := Callable.of Try.func65 (by decide) rfl
instance call66 : Callable Try.prog 66 := Callable.of Try.func66 (by decide) rfl
instance call67 : Callable Try.prog 67 := Callable.of Try.func67 (by decide) rfl
instance call68 : Callable Try.prog 68 := Callable.of Try.func68 (by decide) rfl
instance call69 : Callable Try.prog 69 := Callable.of Try.func69 (by decide) rfl
instance call70 : Callable Try.prog 70 := Callable.of Try.func70 (by decide) rfl
instance call71 : Callable Try.prog 71 := Callable.of Try.func71 (by decide) rfl
instance call72 : Callable Try.prog 72 := Callable.of Try.func72 (by decide) rfl
instance call73 : Callable Try.prog 73 := Callable.of Try.func73 (by decide) rfl
instance call74 : Callable Try.prog 74 := Callable.of Try.func74 (by decide) rfl
instance call75 : Callable Try.prog 75 := Callable.of Try.func75 (by decide) rfl
instance call76 : Callable Try.prog 76 := Callable.of Try.func76 (by decide) rfl
instance call77 : Callable Try.prog 77 := Callable.of Try.func77 (by decide) rfl
instance call78 : Callable Try.prog 78 := Callable.of Try.func78 (by decide) rfl
instance call79 : Callable Try.prog 79 := Callable.of Try.func79 (by decide) rfl
instance call80 : Callable Try.prog 80 := Callable.of Try.func80 (by decide) rfl
instance call81 : Callable Try.prog 81 := Callable.of Try.func81 (by decide) rfl
instance call82 : Callable Try.prog 82 := Callable.of Try.func82 (by decide) rfl
instance call83 : Callable Try.prog 83 := Callable.of Try.func83 (by decide) rfl
instance call84 : Callable Try.prog 84 := Callable.of Try.func84 (by decide) rfl
instance call85 : Callable Try.prog 85 := Callable.of Try.func85 (by decide) rfl
instance call86 : Callable Try.prog 86 := Callable.of Try.func86 (by decide) rfl
instance call87 : Callable Try.prog 87 := Callable.of Try.func87 (by decide) rfl
instance call88 : Callable Try.prog 88 := Callable.of Try.func88 (by decide) rfl
instance call89 : Callable Try.prog 89 := Callable.of Try.func89 (by decide) rfl
instance call90 : Callable Try.prog 90 := Callable.of Try.func90 (by decide) rfl
instance call91 : Callable Try.prog 91 := Callable.of Try.func91 (by decide) rfl
instance call92 : Callable Try.prog 92 := Callable.of Try.func92 (by decide) rfl
instance call93 : Callable Try.prog 93 := Callable.of Try.func93 (by decide) rfl
instance call94 : Callable Try.prog 94 := Callable.of Try.func94 (by decide) rfl
instance call95 : Callable Try.prog 95 := Callable.of Try.func95 (by decide) rfl
instance call96 : Callable Try.prog 96 := Callable.of Try.func96 (by decide) rfl
instance call97 : Callable Try.prog 97 := Callable.of Try.func97 (by decide) rfl
instance call98 : Callable Try.prog 98 := Callable.of Try.func98 (by decide) rfl
instance call99 : Callable Try.prog 99 := Callable.of Try.func99 (by decide) rfl
instance call100 : Callable Try.prog 100 := Callable.of Try.func100 (by decide) rfl
end Go.Proofs.Ytapmmfabdmhdnaa.K
