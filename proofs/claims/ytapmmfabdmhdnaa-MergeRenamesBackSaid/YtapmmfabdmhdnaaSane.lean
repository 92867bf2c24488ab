/-
  The examples.
-/
import Derived.Test.YtapmmfabdmhdnaaTop
import Derived.Test.YtapmmfabdmhdnaaHelp
set_option linter.unusedVariables false
set_option linter.unusedSimpArgs false
set_option maxHeartbeats 4000000
namespace Go.Proofs.Ytapmmfabdmhdnaa.K
open Go Go.RowKit Go.Proofs

theorem sane_1 : mergeR (nodeP ⟨#[97]⟩ [⟨#[98]⟩, ⟨#[99]⟩, ⟨#[100]⟩]) (nodeP ⟨#[97]⟩ [⟨#[98]⟩, ⟨#[120]⟩, ⟨#[100]⟩]) (nodeP ⟨#[97]⟩ [⟨#[98]⟩, ⟨#[99]⟩, ⟨#[100]⟩, ⟨#[101]⟩]) = ((nodeP ⟨#[97]⟩ [⟨#[98]⟩, ⟨#[120]⟩, ⟨#[100]⟩, ⟨#[101]⟩]), []) := by kernel_rfl
theorem sane_2 : mergeR (nodeP ⟨#[97]⟩ [⟨#[98]⟩, ⟨#[99]⟩]) (nodeP ⟨#[97]⟩ [⟨#[120]⟩, ⟨#[99]⟩]) (nodeP ⟨#[97]⟩ [⟨#[121]⟩, ⟨#[99]⟩]) = (Tr.zero, [[0]]) := by kernel_rfl
theorem sane_3 : mergeR (nodeP ⟨#[97]⟩ [⟨#[98]⟩]) (nodeP ⟨#[122]⟩ [⟨#[98]⟩]) (nodeP ⟨#[97]⟩ [⟨#[98]⟩, ⟨#[99]⟩]) = ((nodeP ⟨#[122]⟩ [⟨#[98]⟩, ⟨#[99]⟩]), []) := by kernel_rfl
theorem eqb_self (t : Tr) : t.eqb t = true := (Tr.eqb_iff t t).2 rfl
theorem strs_lit {H : Hp} {e g : Nat} {l : List ByteArray} (hl : l.length ≤ 1000) (hz : ∀ p ∈ ([(g, .cells (l.map Value.string).toArray e (0, 0))] : Seg), H p.1 = some p.2) : rd H (.s 1 (strsD l)) (.slice (some ⟨g, 0, none⟩) l.length l.length) :=
  rd.ofRow (Row.lit e 1 l.length g _ (by simp) (by omega)) hz (RdL.vals _) (Le.refl _)
theorem law_sanity {w0 : World} {H : Hp} {own : List Seg} : Fn Try.prog 13 [] w0 H own (fun v own' H' => v = .bool true ∧ own' = own ∧ Le H H') := by
  refine Fn.enter Try.func13 rfl Try.ntmps13 rfl ?_
  have hL := Le.refl H
  refine TC.seq ?_
  refine TC.region ?_
  refine TL.assign rfl rfl ?_
  refine TL.nil ?_
  refine TQ.then_n ?_
  refine TC.seq ?_
  refine TC.region ?_
  refine TL.litF (r := [_, _, _]) [(0, [_]), (1, [_]), (2, [_])] ⟨rfl, ⟨_, rfl, rfl⟩, rfl, ⟨_, rfl, rfl⟩, rfl, ⟨_, rfl, rfl⟩, trivial⟩ rfl rfl rfl rfl ?_; intro g10
  refine TL.freeze (fun H1 hle hz_g10 => ?_)
  have hL := Le.trans hL hle
  refine TL.call (law_node (l := [⟨#[98]⟩, ⟨#[99]⟩, ⟨#[100]⟩]) (by decide) (strs_lit (l := [⟨#[98]⟩, ⟨#[99]⟩, ⟨#[100]⟩]) (by decide) hz_g10)) ⟨rfl, rfl, trivial⟩ rfl ?_
  rintro _ own Hn11 ⟨a0, a1, rfl, ha, rfl, hle11⟩
  have hL := Le.trans hL hle11
  have hz_g10 := hz.mono hle11 hz_g10
  refine TL.litF (r := [_, _, _]) [(0, [_]), (1, [_]), (2, [_])] ⟨rfl, ⟨_, rfl, rfl⟩, rfl, ⟨_, rfl, rfl⟩, rfl, ⟨_, rfl, rfl⟩, trivial⟩ rfl rfl rfl rfl ?_; intro g12
  refine TL.freeze (fun H2 hle hz_g12 => ?_)
  have hL := Le.trans hL hle
  have hz_g10 := hz.mono hle hz_g10
  have ha := RdL.mono hle ha
  refine TL.call (law_node (l := [⟨#[98]⟩, ⟨#[120]⟩, ⟨#[100]⟩]) (by decide) (strs_lit (l := [⟨#[98]⟩, ⟨#[120]⟩, ⟨#[100]⟩]) (by decide) hz_g12)) ⟨rfl, rfl, trivial⟩ rfl ?_
  rintro _ own Hn13 ⟨b0, b1, rfl, hb, rfl, hle13⟩
  have hL := Le.trans hL hle13
  have hz_g10 := hz.mono hle13 hz_g10
  have ha := RdL.mono hle13 ha
  have hz_g12 := hz.mono hle13 hz_g12
  refine TL.litF (r := [_, _, _, _]) [(0, [_]), (1, [_]), (2, [_]), (3, [_])] ⟨rfl, ⟨_, rfl, rfl⟩, rfl, ⟨_, rfl, rfl⟩, rfl, ⟨_, rfl, rfl⟩, rfl, ⟨_, rfl, rfl⟩, trivial⟩ rfl rfl rfl rfl ?_; intro g14
  refine TL.freeze (fun H3 hle hz_g14 => ?_)
  have hL := Le.trans hL hle
  have hz_g10 := hz.mono hle hz_g10
  have ha := RdL.mono hle ha
  have hz_g12 := hz.mono hle hz_g12
  have hb := RdL.mono hle hb
  refine TL.call (law_node (l := [⟨#[98]⟩, ⟨#[99]⟩, ⟨#[100]⟩, ⟨#[101]⟩]) (by decide) (strs_lit (l := [⟨#[98]⟩, ⟨#[99]⟩, ⟨#[100]⟩, ⟨#[101]⟩]) (by decide) hz_g14)) ⟨rfl, rfl, trivial⟩ rfl ?_
  rintro _ own Hn15 ⟨c0, c1, rfl, hc, rfl, hle15⟩
  have hL := Le.trans hL hle15
  have hz_g10 := hz.mono hle15 hz_g10
  have ha := RdL.mono hle15 ha
  have hz_g12 := hz.mono hle15 hz_g12
  have hb := RdL.mono hle15 hb
  have hz_g14 := hz.mono hle15 hz_g14
  refine TL.call (merge_top (by decide) (by decide) (by decide) ha hb hc) ⟨rfl, rfl, rfl, trivial⟩ rfl ?_
  rintro _ own Hm16 ⟨x10, x11, px1, rfl, hx1, hpx1, rfl, hle16⟩
  rw [sane_1] at hx1 hpx1
  obtain ⟨Ax1, cx1, rfl, _⟩ := paths_len hpx1
  have hL := Le.trans hL hle16
  have hz_g10 := hz.mono hle16 hz_g10
  have ha := RdL.mono hle16 ha
  have hz_g12 := hz.mono hle16 hz_g12
  have hb := RdL.mono hle16 hb
  have hz_g14 := hz.mono hle16 hz_g14
  have hc := RdL.mono hle16 hc
  refine TL.move rfl rfl ?_
  refine TL.extract rfl rfl rfl ?_
  refine TL.extract rfl rfl rfl ?_
  refine TL.new rfl ?_; intro g1
  refine TL.storeA 0 0 (vs := [x10, x11]) (c' := #[_, _]) (own' := [(_, .cells #[_, _] _ _)] :: _) rfl rfl rfl rfl rfl (tr_ones hx1) (by simp) rfl rfl rfl ?_
  refine TL.assign rfl rfl ?_
  refine TL.nil ?_
  refine TQ.then_n ?_
  refine TC.seq ?_
  refine TC.region ?_
  refine TL.litF (r := [_, _]) [(0, [_]), (1, [_])] ⟨rfl, ⟨_, rfl, rfl⟩, rfl, ⟨_, rfl, rfl⟩, trivial⟩ rfl rfl rfl rfl ?_; intro g20
  refine TL.freeze (fun H4 hle hz_g20 => ?_)
  have hL := Le.trans hL hle
  have hz_g10 := hz.mono hle hz_g10
  have ha := RdL.mono hle ha
  have hz_g12 := hz.mono hle hz_g12
  have hb := RdL.mono hle hb
  have hz_g14 := hz.mono hle hz_g14
  have hc := RdL.mono hle hc
  have hx1 := RdL.mono hle hx1
  have hpx1 := rd.mono hle hpx1
  refine TL.call (law_node (l := [⟨#[98]⟩, ⟨#[99]⟩]) (by decide) (strs_lit (l := [⟨#[98]⟩, ⟨#[99]⟩]) (by decide) hz_g20)) ⟨rfl, rfl, trivial⟩ rfl ?_
  rintro _ own Hn21 ⟨d0, d1, rfl, hd, rfl, hle21⟩
  have hL := Le.trans hL hle21
  have hz_g10 := hz.mono hle21 hz_g10
  have ha := RdL.mono hle21 ha
  have hz_g12 := hz.mono hle21 hz_g12
  have hb := RdL.mono hle21 hb
  have hz_g14 := hz.mono hle21 hz_g14
  have hc := RdL.mono hle21 hc
  have hx1 := RdL.mono hle21 hx1
  have hpx1 := rd.mono hle21 hpx1
  have hz_g20 := hz.mono hle21 hz_g20
  refine TL.litF (r := [_, _]) [(0, [_]), (1, [_])] ⟨rfl, ⟨_, rfl, rfl⟩, rfl, ⟨_, rfl, rfl⟩, trivial⟩ rfl rfl rfl rfl ?_; intro g22
  refine TL.freeze (fun H5 hle hz_g22 => ?_)
  have hL := Le.trans hL hle
  have hz_g10 := hz.mono hle hz_g10
  have ha := RdL.mono hle ha
  have hz_g12 := hz.mono hle hz_g12
  have hb := RdL.mono hle hb
  have hz_g14 := hz.mono hle hz_g14
  have hc := RdL.mono hle hc
  have hx1 := RdL.mono hle hx1
  have hpx1 := rd.mono hle hpx1
  have hz_g20 := hz.mono hle hz_g20
  have hd := RdL.mono hle hd
  refine TL.call (law_node (l := [⟨#[120]⟩, ⟨#[99]⟩]) (by decide) (strs_lit (l := [⟨#[120]⟩, ⟨#[99]⟩]) (by decide) hz_g22)) ⟨rfl, rfl, trivial⟩ rfl ?_
  rintro _ own Hn23 ⟨e0, e1, rfl, he, rfl, hle23⟩
  have hL := Le.trans hL hle23
  have hz_g10 := hz.mono hle23 hz_g10
  have ha := RdL.mono hle23 ha
  have hz_g12 := hz.mono hle23 hz_g12
  have hb := RdL.mono hle23 hb
  have hz_g14 := hz.mono hle23 hz_g14
  have hc := RdL.mono hle23 hc
  have hx1 := RdL.mono hle23 hx1
  have hpx1 := rd.mono hle23 hpx1
  have hz_g20 := hz.mono hle23 hz_g20
  have hd := RdL.mono hle23 hd
  have hz_g22 := hz.mono hle23 hz_g22
  refine TL.litF (r := [_, _]) [(0, [_]), (1, [_])] ⟨rfl, ⟨_, rfl, rfl⟩, rfl, ⟨_, rfl, rfl⟩, trivial⟩ rfl rfl rfl rfl ?_; intro g24
  refine TL.freeze (fun H6 hle hz_g24 => ?_)
  have hL := Le.trans hL hle
  have hz_g10 := hz.mono hle hz_g10
  have ha := RdL.mono hle ha
  have hz_g12 := hz.mono hle hz_g12
  have hb := RdL.mono hle hb
  have hz_g14 := hz.mono hle hz_g14
  have hc := RdL.mono hle hc
  have hx1 := RdL.mono hle hx1
  have hpx1 := rd.mono hle hpx1
  have hz_g20 := hz.mono hle hz_g20
  have hd := RdL.mono hle hd
  have hz_g22 := hz.mono hle hz_g22
  have he := RdL.mono hle he
  refine TL.call (law_node (l := [⟨#[121]⟩, ⟨#[99]⟩]) (by decide) (strs_lit (l := [⟨#[121]⟩, ⟨#[99]⟩]) (by decide) hz_g24)) ⟨rfl, rfl, trivial⟩ rfl ?_
  rintro _ own Hn25 ⟨f0, f1, rfl, hf, rfl, hle25⟩
  have hL := Le.trans hL hle25
  have hz_g10 := hz.mono hle25 hz_g10
  have ha := RdL.mono hle25 ha
  have hz_g12 := hz.mono hle25 hz_g12
  have hb := RdL.mono hle25 hb
  have hz_g14 := hz.mono hle25 hz_g14
  have hc := RdL.mono hle25 hc
  have hx1 := RdL.mono hle25 hx1
  have hpx1 := rd.mono hle25 hpx1
  have hz_g20 := hz.mono hle25 hz_g20
  have hd := RdL.mono hle25 hd
  have hz_g22 := hz.mono hle25 hz_g22
  have he := RdL.mono hle25 he
  have hz_g24 := hz.mono hle25 hz_g24
  refine TL.call (merge_top (by decide) (by decide) (by decide) hd he hf) ⟨rfl, rfl, rfl, trivial⟩ rfl ?_
  rintro _ own Hm26 ⟨x20, x21, px2, rfl, hx2, hpx2, rfl, hle26⟩
  rw [sane_2] at hx2 hpx2
  obtain ⟨Ax2, cx2, rfl, _⟩ := paths_len hpx2
  have hL := Le.trans hL hle26
  have hz_g10 := hz.mono hle26 hz_g10
  have ha := RdL.mono hle26 ha
  have hz_g12 := hz.mono hle26 hz_g12
  have hb := RdL.mono hle26 hb
  have hz_g14 := hz.mono hle26 hz_g14
  have hc := RdL.mono hle26 hc
  have hx1 := RdL.mono hle26 hx1
  have hpx1 := rd.mono hle26 hpx1
  have hz_g20 := hz.mono hle26 hz_g20
  have hd := RdL.mono hle26 hd
  have hz_g22 := hz.mono hle26 hz_g22
  have he := RdL.mono hle26 he
  have hz_g24 := hz.mono hle26 hz_g24
  have hf := RdL.mono hle26 hf
  refine TL.move rfl rfl ?_
  refine TL.extract rfl rfl rfl ?_
  refine TL.extract rfl rfl rfl ?_
  refine TL.new rfl ?_; intro g3
  refine TL.storeA 0 0 (vs := [x20, x21]) (c' := #[_, _]) (own' := [(_, .cells #[_, _] _ _)] :: _) rfl rfl rfl rfl rfl (tr_ones hx2) (by simp) rfl rfl rfl ?_
  refine TL.assign rfl rfl ?_
  refine TL.nil ?_
  refine TQ.then_n ?_
  refine TC.seq ?_
  refine TC.region ?_
  refine TL.litF (r := [_]) [(0, [_])] ⟨rfl, ⟨_, rfl, rfl⟩, trivial⟩ rfl rfl rfl rfl ?_; intro g30
  refine TL.freeze (fun H7 hle hz_g30 => ?_)
  have hL := Le.trans hL hle
  have hz_g10 := hz.mono hle hz_g10
  have ha := RdL.mono hle ha
  have hz_g12 := hz.mono hle hz_g12
  have hb := RdL.mono hle hb
  have hz_g14 := hz.mono hle hz_g14
  have hc := RdL.mono hle hc
  have hx1 := RdL.mono hle hx1
  have hpx1 := rd.mono hle hpx1
  have hz_g20 := hz.mono hle hz_g20
  have hd := RdL.mono hle hd
  have hz_g22 := hz.mono hle hz_g22
  have he := RdL.mono hle he
  have hz_g24 := hz.mono hle hz_g24
  have hf := RdL.mono hle hf
  have hx2 := RdL.mono hle hx2
  have hpx2 := rd.mono hle hpx2
  refine TL.call (law_node (l := [⟨#[98]⟩]) (by decide) (strs_lit (l := [⟨#[98]⟩]) (by decide) hz_g30)) ⟨rfl, rfl, trivial⟩ rfl ?_
  rintro _ own Hn31 ⟨g0, g1, rfl, hg, rfl, hle31⟩
  have hL := Le.trans hL hle31
  have hz_g10 := hz.mono hle31 hz_g10
  have ha := RdL.mono hle31 ha
  have hz_g12 := hz.mono hle31 hz_g12
  have hb := RdL.mono hle31 hb
  have hz_g14 := hz.mono hle31 hz_g14
  have hc := RdL.mono hle31 hc
  have hx1 := RdL.mono hle31 hx1
  have hpx1 := rd.mono hle31 hpx1
  have hz_g20 := hz.mono hle31 hz_g20
  have hd := RdL.mono hle31 hd
  have hz_g22 := hz.mono hle31 hz_g22
  have he := RdL.mono hle31 he
  have hz_g24 := hz.mono hle31 hz_g24
  have hf := RdL.mono hle31 hf
  have hx2 := RdL.mono hle31 hx2
  have hpx2 := rd.mono hle31 hpx2
  have hz_g30 := hz.mono hle31 hz_g30
  refine TL.litF (r := [_]) [(0, [_])] ⟨rfl, ⟨_, rfl, rfl⟩, trivial⟩ rfl rfl rfl rfl ?_; intro g32
  refine TL.freeze (fun H8 hle hz_g32 => ?_)
  have hL := Le.trans hL hle
  have hz_g10 := hz.mono hle hz_g10
  have ha := RdL.mono hle ha
  have hz_g12 := hz.mono hle hz_g12
  have hb := RdL.mono hle hb
  have hz_g14 := hz.mono hle hz_g14
  have hc := RdL.mono hle hc
  have hx1 := RdL.mono hle hx1
  have hpx1 := rd.mono hle hpx1
  have hz_g20 := hz.mono hle hz_g20
  have hd := RdL.mono hle hd
  have hz_g22 := hz.mono hle hz_g22
  have he := RdL.mono hle he
  have hz_g24 := hz.mono hle hz_g24
  have hf := RdL.mono hle hf
  have hx2 := RdL.mono hle hx2
  have hpx2 := rd.mono hle hpx2
  have hz_g30 := hz.mono hle hz_g30
  have hg := RdL.mono hle hg
  refine TL.call (law_node (l := [⟨#[98]⟩]) (by decide) (strs_lit (l := [⟨#[98]⟩]) (by decide) hz_g32)) ⟨rfl, rfl, trivial⟩ rfl ?_
  rintro _ own Hn33 ⟨h0, h1, rfl, hh, rfl, hle33⟩
  have hL := Le.trans hL hle33
  have hz_g10 := hz.mono hle33 hz_g10
  have ha := RdL.mono hle33 ha
  have hz_g12 := hz.mono hle33 hz_g12
  have hb := RdL.mono hle33 hb
  have hz_g14 := hz.mono hle33 hz_g14
  have hc := RdL.mono hle33 hc
  have hx1 := RdL.mono hle33 hx1
  have hpx1 := rd.mono hle33 hpx1
  have hz_g20 := hz.mono hle33 hz_g20
  have hd := RdL.mono hle33 hd
  have hz_g22 := hz.mono hle33 hz_g22
  have he := RdL.mono hle33 he
  have hz_g24 := hz.mono hle33 hz_g24
  have hf := RdL.mono hle33 hf
  have hx2 := RdL.mono hle33 hx2
  have hpx2 := rd.mono hle33 hpx2
  have hz_g30 := hz.mono hle33 hz_g30
  have hg := RdL.mono hle33 hg
  have hz_g32 := hz.mono hle33 hz_g32
  refine TL.litF (r := [_, _]) [(0, [_]), (1, [_])] ⟨rfl, ⟨_, rfl, rfl⟩, rfl, ⟨_, rfl, rfl⟩, trivial⟩ rfl rfl rfl rfl ?_; intro g34
  refine TL.freeze (fun H9 hle hz_g34 => ?_)
  have hL := Le.trans hL hle
  have hz_g10 := hz.mono hle hz_g10
  have ha := RdL.mono hle ha
  have hz_g12 := hz.mono hle hz_g12
  have hb := RdL.mono hle hb
  have hz_g14 := hz.mono hle hz_g14
  have hc := RdL.mono hle hc
  have hx1 := RdL.mono hle hx1
  have hpx1 := rd.mono hle hpx1
  have hz_g20 := hz.mono hle hz_g20
  have hd := RdL.mono hle hd
  have hz_g22 := hz.mono hle hz_g22
  have he := RdL.mono hle he
  have hz_g24 := hz.mono hle hz_g24
  have hf := RdL.mono hle hf
  have hx2 := RdL.mono hle hx2
  have hpx2 := rd.mono hle hpx2
  have hz_g30 := hz.mono hle hz_g30
  have hg := RdL.mono hle hg
  have hz_g32 := hz.mono hle hz_g32
  have hh := RdL.mono hle hh
  refine TL.call (law_node (l := [⟨#[98]⟩, ⟨#[99]⟩]) (by decide) (strs_lit (l := [⟨#[98]⟩, ⟨#[99]⟩]) (by decide) hz_g34)) ⟨rfl, rfl, trivial⟩ rfl ?_
  rintro _ own Hn35 ⟨i0, i1, rfl, hi, rfl, hle35⟩
  have hL := Le.trans hL hle35
  have hz_g10 := hz.mono hle35 hz_g10
  have ha := RdL.mono hle35 ha
  have hz_g12 := hz.mono hle35 hz_g12
  have hb := RdL.mono hle35 hb
  have hz_g14 := hz.mono hle35 hz_g14
  have hc := RdL.mono hle35 hc
  have hx1 := RdL.mono hle35 hx1
  have hpx1 := rd.mono hle35 hpx1
  have hz_g20 := hz.mono hle35 hz_g20
  have hd := RdL.mono hle35 hd
  have hz_g22 := hz.mono hle35 hz_g22
  have he := RdL.mono hle35 he
  have hz_g24 := hz.mono hle35 hz_g24
  have hf := RdL.mono hle35 hf
  have hx2 := RdL.mono hle35 hx2
  have hpx2 := rd.mono hle35 hpx2
  have hz_g30 := hz.mono hle35 hz_g30
  have hg := RdL.mono hle35 hg
  have hz_g32 := hz.mono hle35 hz_g32
  have hh := RdL.mono hle35 hh
  have hz_g34 := hz.mono hle35 hz_g34
  refine TL.call (merge_top (by decide) (by decide) (by decide) hg hh hi) ⟨rfl, rfl, rfl, trivial⟩ rfl ?_
  rintro _ own Hm36 ⟨x30, x31, px3, rfl, hx3, hpx3, rfl, hle36⟩
  rw [sane_3] at hx3 hpx3
  obtain ⟨Ax3, cx3, rfl, _⟩ := paths_len hpx3
  have hL := Le.trans hL hle36
  have hz_g10 := hz.mono hle36 hz_g10
  have ha := RdL.mono hle36 ha
  have hz_g12 := hz.mono hle36 hz_g12
  have hb := RdL.mono hle36 hb
  have hz_g14 := hz.mono hle36 hz_g14
  have hc := RdL.mono hle36 hc
  have hx1 := RdL.mono hle36 hx1
  have hpx1 := rd.mono hle36 hpx1
  have hz_g20 := hz.mono hle36 hz_g20
  have hd := RdL.mono hle36 hd
  have hz_g22 := hz.mono hle36 hz_g22
  have he := RdL.mono hle36 he
  have hz_g24 := hz.mono hle36 hz_g24
  have hf := RdL.mono hle36 hf
  have hx2 := RdL.mono hle36 hx2
  have hpx2 := rd.mono hle36 hpx2
  have hz_g30 := hz.mono hle36 hz_g30
  have hg := RdL.mono hle36 hg
  have hz_g32 := hz.mono hle36 hz_g32
  have hh := RdL.mono hle36 hh
  have hz_g34 := hz.mono hle36 hz_g34
  have hi := RdL.mono hle36 hi
  refine TL.move rfl rfl ?_
  refine TL.extract rfl rfl rfl ?_
  refine TL.extract rfl rfl rfl ?_
  refine TL.new rfl ?_; intro g5
  refine TL.storeA 0 0 (vs := [x30, x31]) (c' := #[_, _]) (own' := [(_, .cells #[_, _] _ _)] :: _) rfl rfl rfl rfl rfl (tr_ones hx3) (by simp) rfl rfl rfl ?_
  refine TL.assign rfl rfl ?_
  refine TL.nil ?_
  refine TQ.then_n ?_
  refine TC.seq ?_
  refine TC.drawQV 7  [(0, _), (1, _), (2, _), (3, _), (4, _), (5, _), (6, _)] follows_mixed ⟨rfl, rfl, rfl, rfl, rfl, rfl, rfl, trivial⟩ ?_
  refine ChainV.q (some 39) [] (by
   intro H' X F hle
   intro hF
   refine TL.move rfl rfl ?_
   refine TL.nil ?_
   exact TQ.one [] hF (Le.refl _) ⟨rfl, rfl⟩) ?_
  refine ChainV.q (some 40) [(0, 0)] (by
   intro H' X F hle
   have hL := Le.trans hL hle
   have hz_g10 := hz.mono hle hz_g10
   have ha := RdL.mono hle ha
   have hz_g12 := hz.mono hle hz_g12
   have hb := RdL.mono hle hb
   have hz_g14 := hz.mono hle hz_g14
   have hc := RdL.mono hle hc
   have hx1 := RdL.mono hle hx1
   have hpx1 := rd.mono hle hpx1
   have hz_g20 := hz.mono hle hz_g20
   have hd := RdL.mono hle hd
   have hz_g22 := hz.mono hle hz_g22
   have he := RdL.mono hle he
   have hz_g24 := hz.mono hle hz_g24
   have hf := RdL.mono hle hf
   have hx2 := RdL.mono hle hx2
   have hpx2 := rd.mono hle hpx2
   have hz_g30 := hz.mono hle hz_g30
   have hg := RdL.mono hle hg
   have hz_g32 := hz.mono hle hz_g32
   have hh := RdL.mono hle hh
   have hz_g34 := hz.mono hle hz_g34
   have hi := RdL.mono hle hi
   have hx3 := RdL.mono hle hx3
   have hpx3 := rd.mono hle hpx3
   intro hF
   refine TL.len_slice rfl rfl ?_
   refine TL.nil ?_
   exact TQ.one [] hF (Le.refl _) ⟨rfl, rfl⟩) ?_
  refine ChainV.r (some 41) [(1, 0)] ([]) (fun _ => fun u s H => u = .bool true ∧ s = []) (by
   intro H' X F hle
   have hL := Le.trans hL hle
   have hz_g10 := hz.mono hle hz_g10
   have ha := RdL.mono hle ha
   have hz_g12 := hz.mono hle hz_g12
   have hb := RdL.mono hle hb
   have hz_g14 := hz.mono hle hz_g14
   have hc := RdL.mono hle hc
   have hx1 := RdL.mono hle hx1
   have hpx1 := rd.mono hle hpx1
   have hz_g20 := hz.mono hle hz_g20
   have hd := RdL.mono hle hd
   have hz_g22 := hz.mono hle hz_g22
   have he := RdL.mono hle he
   have hz_g24 := hz.mono hle hz_g24
   have hf := RdL.mono hle hf
   have hx2 := RdL.mono hle hx2
   have hpx2 := rd.mono hle hpx2
   have hz_g30 := hz.mono hle hz_g30
   have hg := RdL.mono hle hg
   have hz_g32 := hz.mono hle hz_g32
   have hh := RdL.mono hle hh
   have hz_g34 := hz.mono hle hz_g34
   have hi := RdL.mono hle hi
   have hx3 := RdL.mono hle hx3
   have hpx3 := rd.mono hle hpx3
   intro hF
   refine TL.eql rfl rfl rfl ?_
   refine TL.nil ?_
   exact TQ.one [] hF (Le.refl _) ⟨rfl, rfl⟩) ?_
  refine ChainV.q (some 42) [(2, 0)] (by
   intro H' X F hle
   intro _
   rintro _ _ H41 hle41 ⟨rfl, rfl⟩
   intro hF
   refine TL.move rfl rfl ?_
   refine TL.nil ?_
   exact TQ.one [] hF (Le.refl _) ⟨rfl, rfl⟩) ?_
  refine ChainV.q (some 43) [(3, 0)] (by
   intro H' X F hle
   have hL := Le.trans hL hle
   have hz_g10 := hz.mono hle hz_g10
   have ha := RdL.mono hle ha
   have hz_g12 := hz.mono hle hz_g12
   have hb := RdL.mono hle hb
   have hz_g14 := hz.mono hle hz_g14
   have hc := RdL.mono hle hc
   have hx1 := RdL.mono hle hx1
   have hpx1 := rd.mono hle hpx1
   have hz_g20 := hz.mono hle hz_g20
   have hd := RdL.mono hle hd
   have hz_g22 := hz.mono hle hz_g22
   have he := RdL.mono hle he
   have hz_g24 := hz.mono hle hz_g24
   have hf := RdL.mono hle hf
   have hx2 := RdL.mono hle hx2
   have hpx2 := rd.mono hle hpx2
   have hz_g30 := hz.mono hle hz_g30
   have hg := RdL.mono hle hg
   have hz_g32 := hz.mono hle hz_g32
   have hh := RdL.mono hle hh
   have hz_g34 := hz.mono hle hz_g34
   have hi := RdL.mono hle hi
   have hx3 := RdL.mono hle hx3
   have hpx3 := rd.mono hle hpx3
   intro hF
   refine TL.gyes rfl rfl rfl ?_
   refine TL.load_ownA 2 0 [_, _] rfl rfl rfl ⟨rfl, rfl, trivial⟩ rfl rfl ?_
   refine TL.nil ?_
   exact TQ.one [] hF (Le.refl _) ⟨rfl, rfl⟩) ?_
  refine ChainV.r (some 44) [(3, 1)] ([]) (fun _ => fun r s H => rd H (.s 1 (strsD [⟨#[98]⟩, ⟨#[120]⟩, ⟨#[100]⟩, ⟨#[101]⟩])) r ∧ s = []) (by
   intro H' X F hle
   have hL := Le.trans hL hle
   have hz_g10 := hz.mono hle hz_g10
   have ha := RdL.mono hle ha
   have hz_g12 := hz.mono hle hz_g12
   have hb := RdL.mono hle hb
   have hz_g14 := hz.mono hle hz_g14
   have hc := RdL.mono hle hc
   have hx1 := RdL.mono hle hx1
   have hpx1 := rd.mono hle hpx1
   have hz_g20 := hz.mono hle hz_g20
   have hd := RdL.mono hle hd
   have hz_g22 := hz.mono hle hz_g22
   have he := RdL.mono hle he
   have hz_g24 := hz.mono hle hz_g24
   have hf := RdL.mono hle hf
   have hx2 := RdL.mono hle hx2
   have hpx2 := rd.mono hle hpx2
   have hz_g30 := hz.mono hle hz_g30
   have hg := RdL.mono hle hg
   have hz_g32 := hz.mono hle hz_g32
   have hh := RdL.mono hle hh
   have hz_g34 := hz.mono hle hz_g34
   have hi := RdL.mono hle hi
   have hx3 := RdL.mono hle hx3
   have hpx3 := rd.mono hle hpx3
   intro hF
   refine TL.gyes rfl rfl rfl ?_
   refine TL.litF (r := [_, _, _, _]) [(0, [_]), (1, [_]), (2, [_]), (3, [_])] ⟨rfl, ⟨_, rfl, rfl⟩, rfl, ⟨_, rfl, rfl⟩, rfl, ⟨_, rfl, rfl⟩, rfl, ⟨_, rfl, rfl⟩, trivial⟩ rfl rfl rfl rfl ?_; intro g44
   refine TL.nil ?_
   refine TQ.freeze (fun H3 hle3 hz => ?_)
   exact TQ.one [] hF hle3 ⟨strs_lit (l := [⟨#[98]⟩, ⟨#[120]⟩, ⟨#[100]⟩, ⟨#[101]⟩]) (by decide) hz, rfl⟩) ?_
  refine ChainV.r (some 45) [(5, 0), (3, 2)] ([]) (fun _ => fun u s H => ∃ c0 c1, u = .agg #[c0, c1] ∧ RdL H (nodeP ⟨#[97]⟩ [⟨#[98]⟩, ⟨#[120]⟩, ⟨#[100]⟩, ⟨#[101]⟩]).d [c0, c1] ∧ s = []) (by
   intro H' X F hle
   have hL := Le.trans hL hle
   have hz_g10 := hz.mono hle hz_g10
   have ha := RdL.mono hle ha
   have hz_g12 := hz.mono hle hz_g12
   have hb := RdL.mono hle hb
   have hz_g14 := hz.mono hle hz_g14
   have hc := RdL.mono hle hc
   have hx1 := RdL.mono hle hx1
   have hpx1 := rd.mono hle hpx1
   have hz_g20 := hz.mono hle hz_g20
   have hd := RdL.mono hle hd
   have hz_g22 := hz.mono hle hz_g22
   have he := RdL.mono hle he
   have hz_g24 := hz.mono hle hz_g24
   have hf := RdL.mono hle hf
   have hx2 := RdL.mono hle hx2
   have hpx2 := rd.mono hle hpx2
   have hz_g30 := hz.mono hle hz_g30
   have hg := RdL.mono hle hg
   have hz_g32 := hz.mono hle hz_g32
   have hh := RdL.mono hle hh
   have hz_g34 := hz.mono hle hz_g34
   have hi := RdL.mono hle hi
   have hx3 := RdL.mono hle hx3
   have hpx3 := rd.mono hle hpx3
   intro _
   rintro r44 _ H44 hle44 ⟨hr44, rfl⟩
   replace hr44 := rd.mono hle44 hr44
   intro hF
   refine TL.gyes rfl rfl rfl ?_
   refine TL.call (law_node (by decide) hr44) ⟨rfl, rfl, trivial⟩ rfl ?_
   rintro _ own H4 ⟨c0, c1, rfl, hx, rfl, hle4⟩
   refine TL.nil ?_
   exact TQ.one [] hF hle4 ⟨_, _, rfl, hx, rfl⟩) ?_
  refine ⟨by kernel_rfl, .refl _, ?_⟩
  ·
   intro H10 hle
   rintro _ _ H41 hle41 ⟨rfl, rfl⟩
   rintro r44 _ H44 hle44 ⟨hr44, rfl⟩
   replace hr44 := rd.mono hle44 hr44
   rintro _ _ H45 hle45 ⟨y0, y1, rfl, hy45, rfl⟩
   replace hy45 := RdL.mono hle45 hy45
   have hL := Le.trans hL hle
   have hz_g10 := hz.mono hle hz_g10
   have ha := RdL.mono hle ha
   have hz_g12 := hz.mono hle hz_g12
   have hb := RdL.mono hle hb
   have hz_g14 := hz.mono hle hz_g14
   have hc := RdL.mono hle hc
   have hx1 := RdL.mono hle hx1
   have hpx1 := rd.mono hle hpx1
   have hz_g20 := hz.mono hle hz_g20
   have hd := RdL.mono hle hd
   have hz_g22 := hz.mono hle hz_g22
   have he := RdL.mono hle he
   have hz_g24 := hz.mono hle hz_g24
   have hf := RdL.mono hle hf
   have hx2 := RdL.mono hle hx2
   have hpx2 := rd.mono hle hpx2
   have hz_g30 := hz.mono hle hz_g30
   have hg := RdL.mono hle hg
   have hz_g32 := hz.mono hle hz_g32
   have hh := RdL.mono hle hh
   have hz_g34 := hz.mono hle hz_g34
   have hi := RdL.mono hle hi
   have hx3 := RdL.mono hle hx3
   have hpx3 := rd.mono hle hpx3
   refine TL.toOwn (own' := _ :: _ :: _ :: own) rfl ?_
   refine TL.wk (env' := [(0, _), (1, _), (3, _), (4, _), (5, _), (6, _), (42, _), (43, _), (45, _)]) ⟨rfl, rfl, rfl, rfl, rfl, rfl, rfl, rfl, rfl, trivial⟩ ?_
   refine TL.gyes rfl rfl rfl ?_
   refine TL.call (ref_same _ _ _ (Nat.le_refl _) hx1 hy45) ⟨rfl, rfl, trivial⟩ rfl ?_
   rintro _ own Hs46 ⟨rfl, rfl, hles46⟩
   rw [eqb_self]
   have hL := Le.trans hL hles46
   have hz_g10 := hz.mono hles46 hz_g10
   have ha := RdL.mono hles46 ha
   have hz_g12 := hz.mono hles46 hz_g12
   have hb := RdL.mono hles46 hb
   have hz_g14 := hz.mono hles46 hz_g14
   have hc := RdL.mono hles46 hc
   have hx1 := RdL.mono hles46 hx1
   have hpx1 := rd.mono hles46 hpx1
   have hz_g20 := hz.mono hles46 hz_g20
   have hd := RdL.mono hles46 hd
   have hz_g22 := hz.mono hles46 hz_g22
   have he := RdL.mono hles46 he
   have hz_g24 := hz.mono hles46 hz_g24
   have hf := RdL.mono hles46 hf
   have hx2 := RdL.mono hles46 hx2
   have hpx2 := rd.mono hles46 hpx2
   have hz_g30 := hz.mono hles46 hz_g30
   have hg := RdL.mono hles46 hg
   have hz_g32 := hz.mono hles46 hz_g32
   have hh := RdL.mono hles46 hh
   have hz_g34 := hz.mono hles46 hz_g34
   have hi := RdL.mono hles46 hi
   have hx3 := RdL.mono hles46 hx3
   have hpx3 := rd.mono hles46 hpx3
   have hy45 := RdL.mono hles46 hy45
   refine TL.pickT rfl rfl rfl rfl ?_
   refine TL.assign rfl rfl ?_
   refine TL.nil ?_
   refine TQ.then_n ?_
   refine TC.seq ?_
   refine TC.region ?_
   refine TL.move rfl rfl ?_
   refine TL.litF (r := [_]) [(0, [_])] ⟨rfl, ⟨_, rfl, rfl⟩, trivial⟩ rfl rfl rfl rfl ?_; intro g49
   refine TL.litF (r := [_]) [(0, [_])] ⟨rfl, ⟨_, rfl, rfl⟩, trivial⟩ rfl rfl rfl rfl ?_; intro g50
   refine TL.sel 5 [1, 0, 2, 3, 4] rfl (fun o ho => ?_)
   simp only [K.sel, List.map_cons, List.map_nil, List.getD_cons_zero, List.getD_cons_succ, List.drop_succ_cons, List.drop_zero, List.cons_append, List.nil_append, List.set_cons_zero, List.set_cons_succ] at ho; subst ho
   refine TL.freeze (fun H11 hle hz_g49 => ?_)
   have hL := Le.trans hL hle
   have hz_g10 := hz.mono hle hz_g10
   have ha := RdL.mono hle ha
   have hz_g12 := hz.mono hle hz_g12
   have hb := RdL.mono hle hb
   have hz_g14 := hz.mono hle hz_g14
   have hc := RdL.mono hle hc
   have hx1 := RdL.mono hle hx1
   have hpx1 := rd.mono hle hpx1
   have hz_g20 := hz.mono hle hz_g20
   have hd := RdL.mono hle hd
   have hz_g22 := hz.mono hle hz_g22
   have he := RdL.mono hle he
   have hz_g24 := hz.mono hle hz_g24
   have hf := RdL.mono hle hf
   have hx2 := RdL.mono hle hx2
   have hpx2 := rd.mono hle hpx2
   have hz_g30 := hz.mono hle hz_g30
   have hg := RdL.mono hle hg
   have hz_g32 := hz.mono hle hz_g32
   have hh := RdL.mono hle hh
   have hz_g34 := hz.mono hle hz_g34
   have hi := RdL.mono hle hi
   have hx3 := RdL.mono hle hx3
   have hpx3 := rd.mono hle hpx3
   have hy45 := RdL.mono hle hy45
   refine TL.freeze (fun H12 hle hz_g50 => ?_)
   have hL := Le.trans hL hle
   have hz_g10 := hz.mono hle hz_g10
   have ha := RdL.mono hle ha
   have hz_g12 := hz.mono hle hz_g12
   have hb := RdL.mono hle hb
   have hz_g14 := hz.mono hle hz_g14
   have hc := RdL.mono hle hc
   have hx1 := RdL.mono hle hx1
   have hpx1 := rd.mono hle hpx1
   have hz_g20 := hz.mono hle hz_g20
   have hd := RdL.mono hle hd
   have hz_g22 := hz.mono hle hz_g22
   have he := RdL.mono hle he
   have hz_g24 := hz.mono hle hz_g24
   have hf := RdL.mono hle hf
   have hx2 := RdL.mono hle hx2
   have hpx2 := rd.mono hle hpx2
   have hz_g30 := hz.mono hle hz_g30
   have hg := RdL.mono hle hg
   have hz_g32 := hz.mono hle hz_g32
   have hh := RdL.mono hle hh
   have hz_g34 := hz.mono hle hz_g34
   have hi := RdL.mono hle hi
   have hx3 := RdL.mono hle hx3
   have hpx3 := rd.mono hle hpx3
   have hy45 := RdL.mono hle hy45
   have hz_g49 := hz.mono hle hz_g49
   refine TL.call (ref_Paths (ps := [[0]]) (qs := [[0]]) hpx2 (rd.ofRow (Row.lit _ 1 1 _ _ rfl (by omega)) hz_g50 (ds := [pD [0]]) ⟨rd.ofRow (Row.lit _ 1 1 _ _ rfl (by omega)) hz_g49 (RdL.vals (pV [0])) (Le.refl _), trivial⟩ (Le.refl _))) ⟨rfl, rfl, trivial⟩ rfl ?_
   rintro _ own H51 ⟨rfl, rfl, hle51⟩
   rw [decide_eq_true rfl]
   have hL := Le.trans hL hle51
   have hz_g10 := hz.mono hle51 hz_g10
   have ha := RdL.mono hle51 ha
   have hz_g12 := hz.mono hle51 hz_g12
   have hb := RdL.mono hle51 hb
   have hz_g14 := hz.mono hle51 hz_g14
   have hc := RdL.mono hle51 hc
   have hx1 := RdL.mono hle51 hx1
   have hpx1 := rd.mono hle51 hpx1
   have hz_g20 := hz.mono hle51 hz_g20
   have hd := RdL.mono hle51 hd
   have hz_g22 := hz.mono hle51 hz_g22
   have he := RdL.mono hle51 he
   have hz_g24 := hz.mono hle51 hz_g24
   have hf := RdL.mono hle51 hf
   have hx2 := RdL.mono hle51 hx2
   have hpx2 := rd.mono hle51 hpx2
   have hz_g30 := hz.mono hle51 hz_g30
   have hg := RdL.mono hle51 hg
   have hz_g32 := hz.mono hle51 hz_g32
   have hh := RdL.mono hle51 hh
   have hz_g34 := hz.mono hle51 hz_g34
   have hi := RdL.mono hle51 hi
   have hx3 := RdL.mono hle51 hx3
   have hpx3 := rd.mono hle51 hpx3
   have hy45 := RdL.mono hle51 hy45
   have hz_g49 := hz.mono hle51 hz_g49
   have hz_g50 := hz.mono hle51 hz_g50
   refine TL.move rfl rfl ?_
   refine TL.gyes rfl rfl rfl ?_
   refine TL.load_ownA 1 0 [_, _] rfl rfl rfl ⟨rfl, rfl, trivial⟩ rfl rfl ?_
   refine TL.gyes rfl rfl rfl ?_
   refine TL.struct [] trivial rfl rfl ?_
   refine TL.gyes rfl rfl rfl ?_
   refine TL.call (ref_same _ _ _ (Nat.le_refl _) hx2 (show RdL _ Tr.zero.d [.string ⟨#[]⟩, .slice none 0 0] from tr_mk (rd.nil _ _))) ⟨rfl, rfl, trivial⟩ rfl ?_
   rintro _ own Hs55 ⟨rfl, rfl, hles55⟩
   rw [eqb_self]
   have hL := Le.trans hL hles55
   have hz_g10 := hz.mono hles55 hz_g10
   have ha := RdL.mono hles55 ha
   have hz_g12 := hz.mono hles55 hz_g12
   have hb := RdL.mono hles55 hb
   have hz_g14 := hz.mono hles55 hz_g14
   have hc := RdL.mono hles55 hc
   have hx1 := RdL.mono hles55 hx1
   have hpx1 := rd.mono hles55 hpx1
   have hz_g20 := hz.mono hles55 hz_g20
   have hd := RdL.mono hles55 hd
   have hz_g22 := hz.mono hles55 hz_g22
   have he := RdL.mono hles55 he
   have hz_g24 := hz.mono hles55 hz_g24
   have hf := RdL.mono hles55 hf
   have hx2 := RdL.mono hles55 hx2
   have hpx2 := rd.mono hles55 hpx2
   have hz_g30 := hz.mono hles55 hz_g30
   have hg := RdL.mono hles55 hg
   have hz_g32 := hz.mono hles55 hz_g32
   have hh := RdL.mono hles55 hh
   have hz_g34 := hz.mono hles55 hz_g34
   have hi := RdL.mono hles55 hi
   have hx3 := RdL.mono hles55 hx3
   have hpx3 := rd.mono hles55 hpx3
   have hy45 := RdL.mono hles55 hy45
   have hz_g49 := hz.mono hles55 hz_g49
   have hz_g50 := hz.mono hles55 hz_g50
   refine TL.pickT rfl rfl rfl rfl ?_
   refine TL.assign rfl rfl ?_
   refine TL.nil ?_
   refine TQ.then_n ?_
   refine TC.seq ?_
   refine TC.drawQV 13  [(0, _), (1, _), (3, _), (4, _), (5, _), (6, _), (7, _), (8, _)] follows_mixed ⟨rfl, rfl, rfl, rfl, rfl, rfl, rfl, rfl, trivial⟩ ?_
   refine ChainV.q (some 57) [] (by
    intro H' X F hle
    intro hF
    refine TL.move rfl rfl ?_
    refine TL.nil ?_
    exact TQ.one [] hF (Le.refl _) ⟨rfl, rfl⟩) ?_
   refine ChainV.q (some 58) [(0, 0)] (by
    intro H' X F hle
    intro hF
    refine TL.move rfl rfl ?_
    refine TL.nil ?_
    exact TQ.one [] hF (Le.refl _) ⟨rfl, rfl⟩) ?_
   refine ChainV.q (some 59) [(1, 0)] (by
    intro H' X F hle
    intro hF
    refine TL.gyes rfl rfl rfl ?_
    refine TL.move rfl rfl ?_
    refine TL.nil ?_
    exact TQ.one [] hF (Le.refl _) ⟨rfl, rfl⟩) ?_
   refine ChainV.q (some 60) [(1, 1), (2, 0)] (by
    intro H' X F hle
    intro hF
    refine TL.pickT rfl rfl rfl rfl ?_
    refine TL.nil ?_
    exact TQ.one [] hF (Le.refl _) ⟨rfl, rfl⟩) ?_
   refine ChainV.q (some 61) [(3, 0)] (by
    intro H' X F hle
    intro hF
    refine TL.move rfl rfl ?_
    refine TL.nil ?_
    exact TQ.one [] hF (Le.refl _) ⟨rfl, rfl⟩) ?_
   refine ChainV.q (some 62) [(4, 0)] (by
    intro H' X F hle
    intro hF
    refine TL.gyes rfl rfl rfl ?_
    refine TL.move rfl rfl ?_
    refine TL.nil ?_
    exact TQ.one [] hF (Le.refl _) ⟨rfl, rfl⟩) ?_
   refine ChainV.q (some 63) [(5, 0), (4, 1)] (by
    intro H' X F hle
    have hL := Le.trans hL hle
    have hz_g10 := hz.mono hle hz_g10
    have ha := RdL.mono hle ha
    have hz_g12 := hz.mono hle hz_g12
    have hb := RdL.mono hle hb
    have hz_g14 := hz.mono hle hz_g14
    have hc := RdL.mono hle hc
    have hx1 := RdL.mono hle hx1
    have hpx1 := rd.mono hle hpx1
    have hz_g20 := hz.mono hle hz_g20
    have hd := RdL.mono hle hd
    have hz_g22 := hz.mono hle hz_g22
    have he := RdL.mono hle he
    have hz_g24 := hz.mono hle hz_g24
    have hf := RdL.mono hle hf
    have hx2 := RdL.mono hle hx2
    have hpx2 := rd.mono hle hpx2
    have hz_g30 := hz.mono hle hz_g30
    have hg := RdL.mono hle hg
    have hz_g32 := hz.mono hle hz_g32
    have hh := RdL.mono hle hh
    have hz_g34 := hz.mono hle hz_g34
    have hi := RdL.mono hle hi
    have hx3 := RdL.mono hle hx3
    have hpx3 := rd.mono hle hpx3
    have hy45 := RdL.mono hle hy45
    have hz_g49 := hz.mono hle hz_g49
    have hz_g50 := hz.mono hle hz_g50
    intro hF
    refine TL.gyes rfl rfl rfl ?_
    refine TL.len_slice rfl rfl ?_
    refine TL.nil ?_
    exact TQ.one [] hF (Le.refl _) ⟨rfl, rfl⟩) ?_
   refine ChainV.r (some 64) [(6, 0), (4, 2)] ([]) (fun _ => fun u s H => u = .bool true ∧ s = []) (by
    intro H' X F hle
    have hL := Le.trans hL hle
    have hz_g10 := hz.mono hle hz_g10
    have ha := RdL.mono hle ha
    have hz_g12 := hz.mono hle hz_g12
    have hb := RdL.mono hle hb
    have hz_g14 := hz.mono hle hz_g14
    have hc := RdL.mono hle hc
    have hx1 := RdL.mono hle hx1
    have hpx1 := rd.mono hle hpx1
    have hz_g20 := hz.mono hle hz_g20
    have hd := RdL.mono hle hd
    have hz_g22 := hz.mono hle hz_g22
    have he := RdL.mono hle he
    have hz_g24 := hz.mono hle hz_g24
    have hf := RdL.mono hle hf
    have hx2 := RdL.mono hle hx2
    have hpx2 := rd.mono hle hpx2
    have hz_g30 := hz.mono hle hz_g30
    have hg := RdL.mono hle hg
    have hz_g32 := hz.mono hle hz_g32
    have hh := RdL.mono hle hh
    have hz_g34 := hz.mono hle hz_g34
    have hi := RdL.mono hle hi
    have hx3 := RdL.mono hle hx3
    have hpx3 := rd.mono hle hpx3
    have hy45 := RdL.mono hle hy45
    have hz_g49 := hz.mono hle hz_g49
    have hz_g50 := hz.mono hle hz_g50
    intro hF
    refine TL.gyes rfl rfl rfl ?_
    refine TL.eql rfl rfl rfl ?_
    refine TL.nil ?_
    exact TQ.one [] hF (Le.refl _) ⟨rfl, rfl⟩) ?_
   refine ChainV.q (some 65) [(4, 3), (7, 0)] (by
    intro H' X F hle
    intro _
    rintro _ _ H41 hle41 ⟨rfl, rfl⟩
    intro hF
    refine TL.pickT rfl rfl rfl rfl ?_
    refine TL.nil ?_
    exact TQ.one [] hF (Le.refl _) ⟨rfl, rfl⟩) ?_
   refine ChainV.q (some 66) [(8, 0)] (by
    intro H' X F hle
    intro hF
    refine TL.move rfl rfl ?_
    refine TL.nil ?_
    exact TQ.one [] hF (Le.refl _) ⟨rfl, rfl⟩) ?_
   refine ChainV.q (some 67) [(9, 0)] (by
    intro H' X F hle
    have hL := Le.trans hL hle
    have hz_g10 := hz.mono hle hz_g10
    have ha := RdL.mono hle ha
    have hz_g12 := hz.mono hle hz_g12
    have hb := RdL.mono hle hb
    have hz_g14 := hz.mono hle hz_g14
    have hc := RdL.mono hle hc
    have hx1 := RdL.mono hle hx1
    have hpx1 := rd.mono hle hpx1
    have hz_g20 := hz.mono hle hz_g20
    have hd := RdL.mono hle hd
    have hz_g22 := hz.mono hle hz_g22
    have he := RdL.mono hle he
    have hz_g24 := hz.mono hle hz_g24
    have hf := RdL.mono hle hf
    have hx2 := RdL.mono hle hx2
    have hpx2 := rd.mono hle hpx2
    have hz_g30 := hz.mono hle hz_g30
    have hg := RdL.mono hle hg
    have hz_g32 := hz.mono hle hz_g32
    have hh := RdL.mono hle hh
    have hz_g34 := hz.mono hle hz_g34
    have hi := RdL.mono hle hi
    have hx3 := RdL.mono hle hx3
    have hpx3 := rd.mono hle hpx3
    have hy45 := RdL.mono hle hy45
    have hz_g49 := hz.mono hle hz_g49
    have hz_g50 := hz.mono hle hz_g50
    intro hF
    refine TL.gyes rfl rfl rfl ?_
    refine TL.load_ownA 0 0 [_, _] rfl rfl rfl ⟨rfl, rfl, trivial⟩ rfl rfl ?_
    refine TL.nil ?_
    exact TQ.one [] hF (Le.refl _) ⟨rfl, rfl⟩) ?_
   refine ChainV.r (some 68) [(9, 1)] ([]) (fun _ => fun r s H => rd H (.s 1 (strsD [⟨#[98]⟩, ⟨#[99]⟩])) r ∧ s = []) (by
    intro H' X F hle
    have hL := Le.trans hL hle
    have hz_g10 := hz.mono hle hz_g10
    have ha := RdL.mono hle ha
    have hz_g12 := hz.mono hle hz_g12
    have hb := RdL.mono hle hb
    have hz_g14 := hz.mono hle hz_g14
    have hc := RdL.mono hle hc
    have hx1 := RdL.mono hle hx1
    have hpx1 := rd.mono hle hpx1
    have hz_g20 := hz.mono hle hz_g20
    have hd := RdL.mono hle hd
    have hz_g22 := hz.mono hle hz_g22
    have he := RdL.mono hle he
    have hz_g24 := hz.mono hle hz_g24
    have hf := RdL.mono hle hf
    have hx2 := RdL.mono hle hx2
    have hpx2 := rd.mono hle hpx2
    have hz_g30 := hz.mono hle hz_g30
    have hg := RdL.mono hle hg
    have hz_g32 := hz.mono hle hz_g32
    have hh := RdL.mono hle hh
    have hz_g34 := hz.mono hle hz_g34
    have hi := RdL.mono hle hi
    have hx3 := RdL.mono hle hx3
    have hpx3 := rd.mono hle hpx3
    have hy45 := RdL.mono hle hy45
    have hz_g49 := hz.mono hle hz_g49
    have hz_g50 := hz.mono hle hz_g50
    intro hF
    refine TL.gyes rfl rfl rfl ?_
    refine TL.litF (r := [_, _]) [(0, [_]), (1, [_])] ⟨rfl, ⟨_, rfl, rfl⟩, rfl, ⟨_, rfl, rfl⟩, trivial⟩ rfl rfl rfl rfl ?_; intro g68
    refine TL.nil ?_
    refine TQ.freeze (fun H3 hle3 hz => ?_)
    exact TQ.one [] hF hle3 ⟨strs_lit (l := [⟨#[98]⟩, ⟨#[99]⟩]) (by decide) hz, rfl⟩) ?_
   refine ChainV.r (some 69) [(11, 0), (9, 2)] ([]) (fun _ => fun u s H => ∃ c0 c1, u = .agg #[c0, c1] ∧ RdL H (nodeP ⟨#[122]⟩ [⟨#[98]⟩, ⟨#[99]⟩]).d [c0, c1] ∧ s = []) (by
    intro H' X F hle
    have hL := Le.trans hL hle
    have hz_g10 := hz.mono hle hz_g10
    have ha := RdL.mono hle ha
    have hz_g12 := hz.mono hle hz_g12
    have hb := RdL.mono hle hb
    have hz_g14 := hz.mono hle hz_g14
    have hc := RdL.mono hle hc
    have hx1 := RdL.mono hle hx1
    have hpx1 := rd.mono hle hpx1
    have hz_g20 := hz.mono hle hz_g20
    have hd := RdL.mono hle hd
    have hz_g22 := hz.mono hle hz_g22
    have he := RdL.mono hle he
    have hz_g24 := hz.mono hle hz_g24
    have hf := RdL.mono hle hf
    have hx2 := RdL.mono hle hx2
    have hpx2 := rd.mono hle hpx2
    have hz_g30 := hz.mono hle hz_g30
    have hg := RdL.mono hle hg
    have hz_g32 := hz.mono hle hz_g32
    have hh := RdL.mono hle hh
    have hz_g34 := hz.mono hle hz_g34
    have hi := RdL.mono hle hi
    have hx3 := RdL.mono hle hx3
    have hpx3 := rd.mono hle hpx3
    have hy45 := RdL.mono hle hy45
    have hz_g49 := hz.mono hle hz_g49
    have hz_g50 := hz.mono hle hz_g50
    intro _
    rintro r68 _ H68 hle68 ⟨hr68, rfl⟩
    replace hr68 := rd.mono hle68 hr68
    intro hF
    refine TL.gyes rfl rfl rfl ?_
    refine TL.call (law_node (by decide) hr68) ⟨rfl, rfl, trivial⟩ rfl ?_
    rintro _ own H4 ⟨c0, c1, rfl, hx, rfl, hle4⟩
    refine TL.nil ?_
    exact TQ.one [] hF hle4 ⟨_, _, rfl, hx, rfl⟩) ?_
   refine ⟨by kernel_rfl, .refl _, ?_⟩
   ·
    intro H13 hle
    rintro _ _ H41 hle41 ⟨rfl, rfl⟩
    rintro r68 _ H68 hle68 ⟨hr68, rfl⟩
    replace hr68 := rd.mono hle68 hr68
    rintro _ _ H69 hle69 ⟨y0, y1, rfl, hy69, rfl⟩
    replace hy69 := RdL.mono hle69 hy69
    have hL := Le.trans hL hle
    have hz_g10 := hz.mono hle hz_g10
    have ha := RdL.mono hle ha
    have hz_g12 := hz.mono hle hz_g12
    have hb := RdL.mono hle hb
    have hz_g14 := hz.mono hle hz_g14
    have hc := RdL.mono hle hc
    have hx1 := RdL.mono hle hx1
    have hpx1 := rd.mono hle hpx1
    have hz_g20 := hz.mono hle hz_g20
    have hd := RdL.mono hle hd
    have hz_g22 := hz.mono hle hz_g22
    have he := RdL.mono hle he
    have hz_g24 := hz.mono hle hz_g24
    have hf := RdL.mono hle hf
    have hx2 := RdL.mono hle hx2
    have hpx2 := rd.mono hle hpx2
    have hz_g30 := hz.mono hle hz_g30
    have hg := RdL.mono hle hg
    have hz_g32 := hz.mono hle hz_g32
    have hh := RdL.mono hle hh
    have hz_g34 := hz.mono hle hz_g34
    have hi := RdL.mono hle hi
    have hx3 := RdL.mono hle hx3
    have hpx3 := rd.mono hle hpx3
    have hy45 := RdL.mono hle hy45
    have hz_g49 := hz.mono hle hz_g49
    have hz_g50 := hz.mono hle hz_g50
    refine TL.toOwn (own' := _ :: _ :: _ :: own) rfl ?_
    refine TL.wk (env' := [(0, _), (1, _), (3, _), (4, _), (5, _), (66, _), (67, _), (69, _)]) ⟨rfl, rfl, rfl, rfl, rfl, rfl, rfl, rfl, trivial⟩ ?_
    refine TL.gyes rfl rfl rfl ?_
    refine TL.call (ref_same _ _ _ (Nat.le_refl _) hx3 hy69) ⟨rfl, rfl, trivial⟩ rfl ?_
    rintro _ own Hs70 ⟨rfl, rfl, hles70⟩
    rw [eqb_self]
    have hL := Le.trans hL hles70
    have hz_g10 := hz.mono hles70 hz_g10
    have ha := RdL.mono hles70 ha
    have hz_g12 := hz.mono hles70 hz_g12
    have hb := RdL.mono hles70 hb
    have hz_g14 := hz.mono hles70 hz_g14
    have hc := RdL.mono hles70 hc
    have hx1 := RdL.mono hles70 hx1
    have hpx1 := rd.mono hles70 hpx1
    have hz_g20 := hz.mono hles70 hz_g20
    have hd := RdL.mono hles70 hd
    have hz_g22 := hz.mono hles70 hz_g22
    have he := RdL.mono hles70 he
    have hz_g24 := hz.mono hles70 hz_g24
    have hf := RdL.mono hles70 hf
    have hx2 := RdL.mono hles70 hx2
    have hpx2 := rd.mono hles70 hpx2
    have hz_g30 := hz.mono hles70 hz_g30
    have hg := RdL.mono hles70 hg
    have hz_g32 := hz.mono hles70 hz_g32
    have hh := RdL.mono hles70 hh
    have hz_g34 := hz.mono hles70 hz_g34
    have hi := RdL.mono hles70 hi
    have hx3 := RdL.mono hles70 hx3
    have hpx3 := rd.mono hles70 hpx3
    have hy45 := RdL.mono hles70 hy45
    have hz_g49 := hz.mono hles70 hz_g49
    have hz_g50 := hz.mono hles70 hz_g50
    have hy69 := RdL.mono hles70 hy69
    refine TL.pickT rfl rfl rfl rfl ?_
    refine TL.assign rfl rfl ?_
    refine TL.nil ?_
    refine TQ.then_n ?_
    refine TC.ret ?_
    refine TQ.ret1 3 rfl rfl ?_
    exact ⟨rfl, rfl, hL⟩

end Go.Proofs.Ytapmmfabdmhdnaa.K
