/-
  The walk of MergeDisjoint.
-/
import Derived.Test.YtapmmfabdmhdnaaLawIns
import Derived.Test.YtapmmfabdmhdnaaDis
set_option linter.unusedVariables false
set_option linter.unusedSimpArgs false
set_option maxHeartbeats 4000000
namespace Go.Proofs.Ytapmmfabdmhdnaa.K
open Go Go.RowKit Go.Proofs

theorem law_disjoint {x y z : Int} (kx : InK .u8 x) (ky : InK .u8 y) (kz : InK .u8 z) {w0 : World} {H : Hp} {own : List Seg} :
    Fn Try.prog 7 [.int .u8 x, .int .u8 y, .int .u8 z] w0 H own (fun r own' H' => r = .bool true ∧ own' = own ∧ Le H H') := by
  have hx8 := u8_in kx
  have hy8 := u8_in ky
  have hz8 := u8_in kz
  obtain ⟨m, hm0, hm2⟩ := rem_nat hx8.1 19 (by omega)
  have hm' : x.tmod 19 = (m : Int) := hm0
  obtain ⟨n, hn⟩ : ∃ n, n = 2 + m := ⟨_, rfl⟩
  have hn' : (2 : Int) + (m : Int) = (n : Int) := by omega
  obtain ⟨a, ha0, ha⟩ := rem_nat hy8.1 n (by omega)
  obtain ⟨b, hb0, hb⟩ := rem_nat hz8.1 n (by omega)
  have hwm : IntKind.i64.wrap (m : Int) = (m : Int) := wrap_i64 ⟨by omega, by omega⟩
  have hwy : IntKind.i64.wrap y = y := wrap_i64 ⟨by omega, by omega⟩
  have hwz : IntKind.i64.wrap z = z := wrap_i64 ⟨by omega, by omega⟩
  obtain ⟨B, hBd⟩ : ∃ B, B = (List.range n).map kK := ⟨_, rfl⟩
  have hlB : B.length = n := by rw [hBd]; simp
  have hBa : B[a]? = some (kK a) := by rw [hBd, List.getElem?_map, List.getElem?_range ha]; rfl
  have hBb : B[b]? = some (kK b) := by rw [hBd, List.getElem?_map, List.getElem?_range hb]; rfl
  have z1 : (tN B).size ≤ 100 := by
    have := nodes_sizes kK kK_size n
    rw [hBd]; simp only [tN, Tr.size]; omega
  have z2 : (tN (B.set a (kX a))).size ≤ 100 := by rw [hBd]; exact set_size (by omega) a (kX_size a)
  have z3 : (tN (B.set b (kY b))).size ≤ 100 := by rw [hBd]; exact set_size (by omega) b (kY_size b)
  refine Fn.enter Try.func7 rfl Try.ntmps7 rfl ?_
  have hL := Le.refl H
  refine TC.seq ?_
  refine TC.region ?_
  refine TL.assign rfl rfl ?_
  refine TL.nil ?_
  refine TQ.then_n ?_
  refine TC.seq ?_
  refine TC.region ?_
  refine TL.call (law_sanity) trivial rfl ?_
  rintro _ own Hsn ⟨rfl, rfl, hlesn⟩
  have hL := Le.trans hL hlesn
  refine TL.assign rfl rfl ?_
  refine TL.nil ?_
  refine TQ.then_n ?_
  refine TC.seq ?_
  refine TC.region ?_
  refine TL.move rfl rfl ?_
  refine TL.rem rfl rfl rfl (by omega) ?_
  rw [hm']
  refine TL.convI rfl rfl ?_
  rw [hwm]
  refine TL.add rfl rfl rfl ⟨by omega, by omega⟩ ?_
  rw [hn']
  refine TL.assign rfl rfl ?_
  refine TL.nil ?_
  refine TQ.then_n ?_
  refine TC.seq ?_
  refine TC.region ?_
  refine TL.move rfl rfl ?_
  refine TL.convI rfl rfl ?_
  rw [hwy]
  refine TL.move rfl rfl ?_
  refine TL.rem rfl rfl rfl (by omega) ?_
  rw [ha0]
  refine TL.assign rfl rfl ?_
  refine TL.nil ?_
  refine TQ.then_n ?_
  refine TC.seq ?_
  refine TC.region ?_
  refine TL.move rfl rfl ?_
  refine TL.convI rfl rfl ?_
  rw [hwz]
  refine TL.move rfl rfl ?_
  refine TL.rem rfl rfl rfl (by omega) ?_
  rw [hb0]
  refine TL.assign rfl rfl ?_
  refine TL.nil ?_
  refine TQ.then_n ?_
  refine TC.seq ?_
  refine TC.region ?_
  refine TL.struct [(0, [_])] ⟨rfl, ⟨_, rfl, rfl⟩, trivial⟩ rfl rfl ?_
  refine TL.new rfl ?_; intro g11
  refine TL.storeA 0 0 (c' := #[_, _]) (own' := [(_, .cells #[_, _] _ _)] :: _) rfl rfl rfl rfl rfl ⟨rfl, rfl, trivial⟩ (by simp) rfl rfl rfl ?_
  refine TL.nil ?_
  refine TQ.then_n ?_
  refine TC.seq ?_
  refine TC.seq ?_
  refine TC.nilseg ?_
  refine TC.region ?_
  refine TL.assign rfl rfl ?_
  refine TL.nil ?_
  refine TQ.then_n ?_
  refine TC.block ?_
  refine TC.loop (fun z' env' own' H' => ∃ (k : Nat) (ub : Value) (xb : List Value) (sb : Seg), z' = n - k ∧ k ≤ n ∧ RT H' ub ((List.range k).map kK) xb sb ∧ env' = [(7, .bool true), (8, .int .i64 (n : Int)), (9, .int .i64 (a : Int)), (10, .int .i64 (b : Int)), (11, .pointer (some ⟨g11, 0, none⟩)), (12, .int .i64 (k : Int))] ∧ own' = sb :: [(g11, .cells #[.string ⟨#[116]⟩, ub] 27 (0, 0))] :: own ∧ Le Hsn H') n [(7, _), (8, _), (9, _), (10, _), (11, _), (12, _)] ⟨rfl, rfl, rfl, rfl, rfl, rfl, trivial⟩ ⟨0, _, [], [], by omega, by omega, ⟨Row.nil 27 2, by simp [Tr.ds, RdL]⟩, rfl, rfl, Le.refl _⟩ ?_
  rintro z' _ _ H9 ⟨k, ub, xb, sb, rfl, hk1, ⟨hrb, hxb⟩, rfl, rfl, hle9⟩
  have hlk : ((List.range k).map kK).length = k := by simp
  have hL := Le.trans hL hle9
  refine TC.seq ?_
  refine TC.seq ?_
  refine TC.region ?_
  refine TL.move rfl rfl ?_
  refine TL.move rfl rfl ?_
  refine TL.lssB rfl rfl rfl (fun hlt => ?_) (fun hlt => ?_)
  ·
   have hlab := lab97 (k := k) (by omega)
   refine TL.nil ?_
   refine TQ.then_n ?_
   refine TC.cond_t rfl ?_
   refine TC.skip ?_
   refine TQ.then_n ?_
   refine TC.seq ?_
   refine TC.block ?_
   refine TC.drawQV 10  [(7, _), (8, _), (9, _), (10, _), (11, _), (12, _)] follows_mixed ⟨rfl, rfl, rfl, rfl, rfl, rfl, trivial⟩ ?_
   refine ChainV.q (some 37) [] (by
    intro H' X F hle
    have hL := Le.trans hL hle
    have hle9 := Le.trans hle9 hle
    have hxb := RdL.mono hle hxb
    intro hF
    refine TL.fieldAddr rfl rfl ?_
    refine TL.nil ?_
    exact TQ.one [] hF (Le.refl _) ⟨rfl, rfl⟩) ?_
   refine ChainV.q (some 38) [(0, 0)] (by
    intro H' X F hle
    have hL := Le.trans hL hle
    have hle9 := Le.trans hle9 hle
    have hxb := RdL.mono hle hxb
    intro hF
    refine TL.load_own 1 0 rfl rfl rfl rfl rfl ?_
    refine TL.nil ?_
    exact TQ.one [] hF (Le.refl _) ⟨rfl, rfl⟩) ?_
   refine ChainV.q (some 39) [] (by
    intro H' X F hle
    have hL := Le.trans hL hle
    have hle9 := Le.trans hle9 hle
    have hxb := RdL.mono hle hxb
    intro hF
    refine TL.move rfl rfl ?_
    refine TL.nil ?_
    exact TQ.one [] hF (Le.refl _) ⟨rfl, rfl⟩) ?_
   refine ChainV.q (some 40) [(2, 0)] (by
    intro H' X F hle
    have hL := Le.trans hL hle
    have hle9 := Le.trans hle9 hle
    have hxb := RdL.mono hle hxb
    intro hF
    refine TL.add rfl rfl rfl ⟨by omega, by omega⟩ ?_
    refine TL.nil ?_
    exact TQ.one [] hF (Le.refl _) ⟨rfl, rfl⟩) ?_
   refine ChainV.q (some 41) [(3, 0)] (by
    intro H' X F hle
    have hL := Le.trans hL hle
    have hle9 := Le.trans hle9 hle
    have hxb := RdL.mono hle hxb
    intro hF
    refine TL.convI rfl rfl ?_
    refine TL.nil ?_
    exact TQ.one [] hF (Le.refl _) ⟨rfl, rfl⟩) ?_
   refine ChainV.t true [] (some 42) [(4, 0)] ([]) (fun _ => fun u s H => ∃ g, u = .slice (some ⟨g, 0, none⟩) 1 1 ∧ s = [[(g, .cells #[.int .u8 (IntKind.u8.wrap (97 + (k : Int)))] 5 (0, 0))]]) (by
    intro H' X F hle
    have hL := Le.trans hL hle
    have hle9 := Le.trans hle9 hle
    have hxb := RdL.mono hle hxb
    intro hF
    refine TL.litF (r := [_]) [(0, [_])] ⟨rfl, ⟨_, rfl, rfl⟩, trivial⟩ rfl rfl rfl rfl ?_; intro g42
    refine TL.nil ?_
    exact TQ.one [_] hF (Le.refl _) ⟨_, rfl, rfl⟩) ?_
   refine ChainV.t false [5] (some 43) [(5, 0)] ([]) (fun _ => fun u s H => u = .string (l97 k) ∧ s = []) (by
    intro H' X F hle
    have hL := Le.trans hL hle
    have hle9 := Le.trans hle9 hle
    have hxb := RdL.mono hle hxb
    intro _
    rintro _ _ Hg42 hleg42 ⟨g42, rfl, rfl⟩
    intro hF
    refine TL.toOwn (own' := _ :: _) rfl ?_
    refine TL.convBS 0 0 [UInt8.ofNat (97 + k)] rfl rfl rfl rfl ⟨congrArg (fun z => some (Value.int .u8 z)) hlab, trivial⟩ rfl ?_
    refine TL.nil ?_
    refine TQ.freeze (fun H3 hle3 hz => ?_)
    exact TQ.one [] hF hle3 ⟨rfl, rfl⟩) ?_
   refine ChainV.r (some 44) [] ([]) (fun _ => fun r s H => rd H (.s 1 (strsD [bM, bN])) r ∧ s = []) (by
    intro H' X F hle
    have hL := Le.trans hL hle
    have hle9 := Le.trans hle9 hle
    have hxb := RdL.mono hle hxb
    intro hF
    refine TL.litF (r := [_, _]) [(0, [_]), (1, [_])] ⟨rfl, ⟨_, rfl, rfl⟩, rfl, ⟨_, rfl, rfl⟩, trivial⟩ rfl rfl rfl rfl ?_; intro g44
    refine TL.nil ?_
    refine TQ.freeze (fun H3 hle3 hz => ?_)
    exact TQ.one [] hF hle3 ⟨strs_lit (l := [bM, bN]) (by decide) hz, rfl⟩) ?_
   refine ChainV.r (some 45) [(6, 1), (7, 0)] ([]) (fun _ => fun u s H => ∃ c0 c1, u = .agg #[c0, c1] ∧ RdL H (kK k).d [c0, c1] ∧ s = []) (by
    intro H' X F hle
    have hL := Le.trans hL hle
    have hle9 := Le.trans hle9 hle
    have hxb := RdL.mono hle hxb
    intro _
    rintro _ _ H43 hle43 ⟨rfl, rfl⟩
    intro _
    rintro r44 _ H44 hle44 ⟨hr44, rfl⟩
    replace hr44 := rd.mono hle44 hr44
    intro hF
    refine TL.call (law_node (s := l97 k) (l := [bM, bN]) (by decide) hr44) ⟨rfl, rfl, trivial⟩ rfl ?_
    rintro _ _ H4 ⟨c0, c1, rfl, hx, rfl, hle4⟩
    refine TL.nil ?_
    exact TQ.one [] hF hle4 ⟨_, _, rfl, hx, rfl⟩) ?_
   refine ChainV.r (some 46) [(8, 0)] ([]) (fun _ => fun u s H => ∃ g c0 c1, u = .slice (some ⟨g, 0, none⟩) 1 1 ∧ s = [[(g, .cells #[c0, c1] 27 (0, 0))]] ∧ RdL H (kK k).d [c0, c1]) (by
    intro H' X F hle
    have hL := Le.trans hL hle
    have hle9 := Le.trans hle9 hle
    have hxb := RdL.mono hle hxb
    intro _
    rintro _ _ H45 hle45 ⟨yk0, yk1, rfl, hyk, rfl⟩
    replace hyk := RdL.mono hle45 hyk
    intro hF
    refine TL.litF (r := [_, _]) [(0, [_, _])] ⟨rfl, ⟨_, rfl, rfl⟩, trivial⟩ rfl rfl rfl rfl ?_; intro g46
    refine TL.nil ?_
    exact TQ.one [_] hF (Le.refl _) ⟨_, _, _, rfl, rfl, hyk⟩) ?_
   refine ⟨by kernel_rfl, .refl _, ?_⟩
   ·
    intro H1 hle
    rintro _ _ Hg42 hleg42 ⟨g42, rfl, rfl⟩
    rintro _ _ H43 hle43 ⟨rfl, rfl⟩
    rintro r44 _ H44 hle44 ⟨hr44, rfl⟩
    replace hr44 := rd.mono hle44 hr44
    rintro _ _ H45 hle45 ⟨yk0, yk1, rfl, hyk, rfl⟩
    replace hyk := RdL.mono hle45 hyk
    rintro _ _ Hg46 hleg46 ⟨g46, e0, e1, rfl, rfl, he⟩
    replace he := RdL.mono hleg46 he
    have hL := Le.trans hL hle
    have hle9 := Le.trans hle9 hle
    have hxb := RdL.mono hle hxb
    refine TL.toOwn (own' := _ :: _ :: _ :: own) rfl ?_
    refine TL.wk (env' := [(7, _), (8, _), (9, _), (10, _), (11, _), (12, _), (38, _), (46, _)]) ⟨rfl, rfl, rfl, rfl, rfl, rfl, rfl, rfl, trivial⟩ ?_
    refine TL.append 1 rfl rfl rfl hrb (Src.ofOwn 0 0 rfl rfl rfl (Ones.all (tr_ones he)) ⟨rfl, rfl, trivial⟩) (by omega) (by omega) rfl ?_
    intro vb2 sb2 hrb2
    refine TL.fieldAddr rfl rfl ?_
    refine TL.store1 2 0 (c' := #[_, _]) (own' := _ :: _ :: [(_, .cells #[_, _] _ _)] :: _) rfl rfl rfl rfl hrb2.one (by simp) rfl rfl rfl ?_
    refine TL.nil ?_
    refine TQ.in_n ?_
    refine TQ.then_n ?_
    refine TC.region ?_
    refine TL.move rfl rfl ?_
    refine TL.add rfl rfl rfl ⟨by omega, by omega⟩ ?_
    refine TL.assign rfl rfl ?_
    refine TL.nil ?_
    refine TQ.sel 3 [1, 2] rfl (fun o ho => ?_)
    simp only [K.sel, List.map_cons, List.map_nil, List.getD_cons_zero, List.getD_cons_succ, List.drop_succ_cons, List.drop_zero, List.cons_append, List.nil_append, List.set_cons_zero, List.set_cons_succ] at ho; subst ho
    refine TQ.next (n - (k + 1)) [(7, _), (8, _), (9, _), (10, _), (11, _), (12, _)] (by omega) ⟨rfl, rfl, rfl, rfl, rfl, rfl, trivial⟩ ⟨k + 1, vb2, xb ++ [e0, e1], sb2, rfl, by omega, ?_, by simp, rfl, hle9⟩
    rw [List.range_succ, List.map_append]
    exact RT.snoc hrb2 hxb he
  ·
   refine TL.nil ?_
   refine TQ.then_n ?_
   refine TC.cond_f rfl ?_
   refine TC.exit ?_
   refine TQ.then_e ?_
   refine TQ.then_e ?_
   refine TQ.in_e ?_
   refine TQ.then_n ?_
   refine TC.seq ?_
   refine TC.freeze (fun H2 hle hz_rb => ?_)
   have hL := Le.trans hL hle
   have hle9 := Le.trans hle9 hle
   have hxb := RdL.mono hle hxb
   obtain rfl : n = k := by omega
   rw [← hBd] at hrb hxb
   have htb : RdL H2 (tN B).d [.string ⟨#[116]⟩, ub] := tr_mk (rd.ofRow hrb hz_rb hxb (Le.refl _))
   obtain ⟨_, A, c, rfl, hc1, hc2, hA⟩ := tr_cells htb
   obtain ⟨ba, oa, p0, p1, rfl, hpa, hra⟩ := trs_at hA hBa
   obtain ⟨rfl, _⟩ := tr_cells (l := l97 a) (ks := _) hra
   obtain ⟨bb, ob, q0, q1, heb, hpb, hrb'⟩ := trs_at hA hBb
   cases heb
   obtain ⟨rfl, _⟩ := tr_cells (l := l97 b) (ks := _) hrb'
   refine TC.region ?_
   refine TL.litF (r := []) [] trivial rfl rfl rfl rfl ?_; intro g49
   refine TL.fieldAddr rfl rfl ?_
   refine TL.load_own 1 0 rfl rfl rfl rfl rfl ?_
   refine TL.nilseg ?_
   obtain ⟨newsl, hsrc, hnl⟩ := hA.src (Tr.ds_one B)
   refine TL.appendA 0 rfl rfl rfl (.inr ⟨_, rfl, rfl, rfl, rfl⟩) (hsrc _ _) (by omega) (by omega) rfl ?_
   intro ul sl hrl
   simp only [Nat.zero_add, List.nil_append] at hrl
   refine TL.struct [(0, [_]), (1, [_])] ⟨rfl, ⟨_, rfl, rfl⟩, rfl, ⟨_, rfl, one_cells hrl.one⟩, trivial⟩ rfl rfl ?_
   refine TL.new rfl ?_; intro g13
   refine TL.storeA 0 0 (vs := [.string ⟨#[116]⟩, ul]) (c' := #[_, _]) (own' := [(_, .cells #[_, _] _ _)] :: _) rfl rfl rfl rfl rfl ⟨rfl, hrl.one, trivial⟩ (by simp) rfl rfl rfl ?_
   refine TL.nil ?_
   refine TQ.then_n ?_
   refine TC.seq ?_
   refine TC.region ?_
   refine TL.litF (r := []) [] trivial rfl rfl rfl rfl ?_; intro g54
   refine TL.fieldAddr rfl rfl ?_
   refine TL.load_own 4 0 rfl rfl rfl rfl rfl ?_
   refine TL.nilseg ?_
   obtain ⟨newsr, hsrc, hnr⟩ := hA.src (Tr.ds_one B)
   refine TL.appendA 0 rfl rfl rfl (.inr ⟨_, rfl, rfl, rfl, rfl⟩) (hsrc _ _) (by omega) (by omega) rfl ?_
   intro ur sr hrr
   simp only [Nat.zero_add, List.nil_append] at hrr
   refine TL.struct [(0, [_]), (1, [_])] ⟨rfl, ⟨_, rfl, rfl⟩, rfl, ⟨_, rfl, one_cells hrr.one⟩, trivial⟩ rfl rfl ?_
   refine TL.new rfl ?_; intro g14
   refine TL.storeA 0 0 (vs := [.string ⟨#[116]⟩, ur]) (c' := #[_, _]) (own' := [(_, .cells #[_, _] _ _)] :: _) rfl rfl rfl rfl rfl ⟨rfl, hrr.one, trivial⟩ (by simp) rfl rfl rfl ?_
   refine TL.nil ?_
   refine TQ.then_n ?_
   refine TC.seq ?_
   refine TC.region ?_
   refine TL.litF (r := []) [] trivial rfl rfl rfl rfl ?_; intro g59
   refine TL.fieldAddr rfl rfl ?_
   refine TL.load_own 7 0 rfl rfl rfl rfl rfl ?_
   refine TL.nilseg ?_
   obtain ⟨newsw, hsrc, hnw⟩ := hA.src (Tr.ds_one B)
   refine TL.appendA 0 rfl rfl rfl (.inr ⟨_, rfl, rfl, rfl, rfl⟩) (hsrc _ _) (by omega) (by omega) rfl ?_
   intro uw sw hrw
   simp only [Nat.zero_add, List.nil_append] at hrw
   refine TL.struct [(0, [_]), (1, [_])] ⟨rfl, ⟨_, rfl, rfl⟩, rfl, ⟨_, rfl, one_cells hrw.one⟩, trivial⟩ rfl rfl ?_
   refine TL.new rfl ?_; intro g15
   refine TL.storeA 0 0 (vs := [.string ⟨#[116]⟩, uw]) (c' := #[_, _]) (own' := [(_, .cells #[_, _] _ _)] :: _) rfl rfl rfl rfl rfl ⟨rfl, hrw.one, trivial⟩ (by simp) rfl rfl rfl ?_
   refine TL.nil ?_
   refine TQ.then_n ?_
   refine TC.seq ?_
   obtain ⟨hxl2, grl, capl, curl, rfl, rfl, hcapl, hcaplm, hszl, hcurl⟩ := RowA.open hrl (by omega)
   obtain ⟨hxr2, grr, capr, curr, rfl, rfl, hcapr, hcaprm, hszr, hcurr⟩ := RowA.open hrr (by omega)
   obtain ⟨hxw2, grw, capw, curw, rfl, rfl, hcapw, hcapwm, hszw, hcurw⟩ := RowA.open hrw (by omega)
   refine TC.drawQV 11  [(7, _), (8, _), (9, _), (10, _), (11, _), (12, _), (13, _), (14, _), (15, _)] follows_mixed ⟨rfl, rfl, rfl, rfl, rfl, rfl, rfl, rfl, rfl, trivial⟩ ?_
   refine ChainV.q (some 64) [] (by
    intro H' X F hle
    have hL := Le.trans hL hle
    have hle9 := Le.trans hle9 hle
    have hz_rb := hz.mono hle hz_rb
    have htb := RdL.mono hle htb
    have hA := rd.mono hle hA
    have hpa := hAt.mono hle hpa
    have hpb := hAt.mono hle hpb
    have hnl := RdL.mono hle hnl
    have hnr := RdL.mono hle hnr
    have hnw := RdL.mono hle hnw
    intro hF
    refine TL.fieldAddr rfl rfl ?_
    refine TL.nil ?_
    exact TQ.one [] hF (Le.refl _) ⟨rfl, rfl⟩) ?_
   refine ChainV.q (some 65) [(0, 0)] (by
    intro H' X F hle
    have hL := Le.trans hL hle
    have hle9 := Le.trans hle9 hle
    have hz_rb := hz.mono hle hz_rb
    have htb := RdL.mono hle htb
    have hA := rd.mono hle hA
    have hpa := hAt.mono hle hpa
    have hpb := hAt.mono hle hpb
    have hnl := RdL.mono hle hnl
    have hnr := RdL.mono hle hnr
    have hnw := RdL.mono hle hnw
    intro hF
    refine TL.load_own 6 0 rfl rfl rfl rfl rfl ?_
    refine TL.nil ?_
    exact TQ.one [] hF (Le.refl _) ⟨rfl, rfl⟩) ?_
   refine ChainV.q (some 66) [] (by
    intro H' X F hle
    have hL := Le.trans hL hle
    have hle9 := Le.trans hle9 hle
    have hz_rb := hz.mono hle hz_rb
    have htb := RdL.mono hle htb
    have hA := rd.mono hle hA
    have hpa := hAt.mono hle hpa
    have hpb := hAt.mono hle hpb
    have hnl := RdL.mono hle hnl
    have hnr := RdL.mono hle hnr
    have hnw := RdL.mono hle hnw
    intro hF
    refine TL.move rfl rfl ?_
    refine TL.nil ?_
    exact TQ.one [] hF (Le.refl _) ⟨rfl, rfl⟩) ?_
   refine ChainV.q (some 67) [] (by
    intro H' X F hle
    have hL := Le.trans hL hle
    have hle9 := Le.trans hle9 hle
    have hz_rb := hz.mono hle hz_rb
    have htb := RdL.mono hle htb
    have hA := rd.mono hle hA
    have hpa := hAt.mono hle hpa
    have hpb := hAt.mono hle hpb
    have hnl := RdL.mono hle hnl
    have hnr := RdL.mono hle hnr
    have hnw := RdL.mono hle hnw
    intro hF
    refine TL.fieldAddr rfl rfl ?_
    refine TL.nil ?_
    exact TQ.one [] hF (Le.refl _) ⟨rfl, rfl⟩) ?_
   refine ChainV.q (some 68) [(3, 0)] (by
    intro H' X F hle
    have hL := Le.trans hL hle
    have hle9 := Le.trans hle9 hle
    have hz_rb := hz.mono hle hz_rb
    have htb := RdL.mono hle htb
    have hA := rd.mono hle hA
    have hpa := hAt.mono hle hpa
    have hpb := hAt.mono hle hpb
    have hnl := RdL.mono hle hnl
    have hnr := RdL.mono hle hnr
    have hnw := RdL.mono hle hnw
    intro hF
    refine TL.load_own 9 0 rfl rfl rfl rfl rfl ?_
    refine TL.nil ?_
    exact TQ.one [] hF (Le.refl _) ⟨rfl, rfl⟩) ?_
   refine ChainV.q (some 69) [] (by
    intro H' X F hle
    have hL := Le.trans hL hle
    have hle9 := Le.trans hle9 hle
    have hz_rb := hz.mono hle hz_rb
    have htb := RdL.mono hle htb
    have hA := rd.mono hle hA
    have hpa := hAt.mono hle hpa
    have hpb := hAt.mono hle hpb
    have hnl := RdL.mono hle hnl
    have hnr := RdL.mono hle hnr
    have hnw := RdL.mono hle hnw
    intro hF
    refine TL.move rfl rfl ?_
    refine TL.nil ?_
    exact TQ.one [] hF (Le.refl _) ⟨rfl, rfl⟩) ?_
   refine ChainV.q (some 70) [(4, 1), (5, 0)] (by
    intro H' X F hle
    have hL := Le.trans hL hle
    have hle9 := Le.trans hle9 hle
    have hz_rb := hz.mono hle hz_rb
    have htb := RdL.mono hle htb
    have hA := rd.mono hle hA
    have hpa := hAt.mono hle hpa
    have hpb := hAt.mono hle hpb
    have hnl := RdL.mono hle hnl
    have hnr := RdL.mono hle hnr
    have hnw := RdL.mono hle hnw
    intro hF
    refine TL.indexAddr (a) rfl rfl rfl (by omega) rfl ?_
    refine TL.nil ?_
    exact TQ.one [] hF (Le.refl _) ⟨rfl, rfl⟩) ?_
   refine ChainV.q (some 71) [(6, 0)] (by
    intro H' X F hle
    have hL := Le.trans hL hle
    have hle9 := Le.trans hle9 hle
    have hz_rb := hz.mono hle hz_rb
    have htb := RdL.mono hle htb
    have hA := rd.mono hle hA
    have hpa := hAt.mono hle hpa
    have hpb := hAt.mono hle hpb
    have hnl := RdL.mono hle hnl
    have hnr := RdL.mono hle hnr
    have hnw := RdL.mono hle hnw
    intro hF
    refine TL.fieldAddr rfl rfl ?_
    refine TL.nil ?_
    exact TQ.one [] hF (Le.refl _) ⟨rfl, rfl⟩) ?_
   refine ChainV.q (some 72) [(7, 0)] (by
    intro H' X F hle
    have hL := Le.trans hL hle
    have hle9 := Le.trans hle9 hle
    have hz_rb := hz.mono hle hz_rb
    have htb := RdL.mono hle htb
    have hA := rd.mono hle hA
    have hpa := hAt.mono hle hpa
    have hpb := hAt.mono hle hpb
    have hnl := RdL.mono hle hnl
    have hnr := RdL.mono hle hnr
    have hnw := RdL.mono hle hnw
    intro hF
    refine TL.load_imm rfl (hpa.1) rfl ?_
    refine TL.nil ?_
    exact TQ.one [] hF (Le.refl _) ⟨rfl, rfl⟩) ?_
   refine ChainV.r (some 73) [] ([]) (fun _ => fun r s H => rd H (.s 1 (strsD [bX, bN])) r ∧ s = []) (by
    intro H' X F hle
    have hL := Le.trans hL hle
    have hle9 := Le.trans hle9 hle
    have hz_rb := hz.mono hle hz_rb
    have htb := RdL.mono hle htb
    have hA := rd.mono hle hA
    have hpa := hAt.mono hle hpa
    have hpb := hAt.mono hle hpb
    have hnl := RdL.mono hle hnl
    have hnr := RdL.mono hle hnr
    have hnw := RdL.mono hle hnw
    intro hF
    refine TL.litF (r := [_, _]) [(0, [_]), (1, [_])] ⟨rfl, ⟨_, rfl, rfl⟩, rfl, ⟨_, rfl, rfl⟩, trivial⟩ rfl rfl rfl rfl ?_; intro g73
    refine TL.nil ?_
    refine TQ.freeze (fun H3 hle3 hz => ?_)
    exact TQ.one [] hF hle3 ⟨strs_lit (l := [bX, bN]) (by decide) hz, rfl⟩) ?_
   refine ChainV.r (some 74) [(8, 1), (9, 0)] ([]) (fun _ => fun u s H => ∃ c0 c1, u = .agg #[c0, c1] ∧ RdL H (kX a).d [c0, c1] ∧ s = []) (by
    intro H' X F hle
    have hL := Le.trans hL hle
    have hle9 := Le.trans hle9 hle
    have hz_rb := hz.mono hle hz_rb
    have htb := RdL.mono hle htb
    have hA := rd.mono hle hA
    have hpa := hAt.mono hle hpa
    have hpb := hAt.mono hle hpb
    have hnl := RdL.mono hle hnl
    have hnr := RdL.mono hle hnr
    have hnw := RdL.mono hle hnw
    intro _
    rintro r73 _ H73 hle73 ⟨hr73, rfl⟩
    replace hr73 := rd.mono hle73 hr73
    intro hF
    refine TL.call (law_node (s := l97 a) (l := [bX, bN]) (by decide) hr73) ⟨rfl, rfl, trivial⟩ rfl ?_
    rintro _ _ H4 ⟨c0, c1, rfl, hx, rfl, hle4⟩
    refine TL.nil ?_
    exact TQ.one [] hF hle4 ⟨_, _, rfl, hx, rfl⟩) ?_
   refine ⟨by kernel_rfl, .refl _, ?_⟩
   ·
    intro H3 hle
    rintro r73 _ H73 hle73 ⟨hr73, rfl⟩
    replace hr73 := rd.mono hle73 hr73
    rintro _ _ H74 hle74 ⟨yx0, yx1, rfl, hyx, rfl⟩
    replace hyx := RdL.mono hle74 hyx
    have hL := Le.trans hL hle
    have hle9 := Le.trans hle9 hle
    have hz_rb := hz.mono hle hz_rb
    have htb := RdL.mono hle htb
    have hA := rd.mono hle hA
    have hpa := hAt.mono hle hpa
    have hpb := hAt.mono hle hpb
    have hnl := RdL.mono hle hnl
    have hnr := RdL.mono hle hnr
    have hnw := RdL.mono hle hnw
    refine TL.toOwn (own' := _ :: _ :: _ :: _ :: _ :: _ :: _ :: _ :: _ :: _ :: own) rfl ?_
    refine TL.wk (env' := [(7, _), (8, _), (9, _), (10, _), (11, _), (12, _), (13, _), (14, _), (15, _), (65, _), (66, _), (74, _)]) ⟨rfl, rfl, rfl, rfl, rfl, rfl, rfl, rfl, rfl, rfl, rfl, rfl, trivial⟩ ?_
    refine TL.indexAddr (a) rfl rfl rfl (by omega) rfl ?_
    refine TL.storeA 7 0 (vs := [yx0, yx1]) (c' := _) (own' := _ :: _ :: _ :: _ :: _ :: _ :: _ :: _ :: _) rfl rfl rfl rfl rfl (tr_ones hyx) (by simp; omega) rfl rfl rfl ?_
    refine TL.nil ?_
    refine TQ.then_n ?_
    refine TC.seq ?_
    refine TC.drawQV 11  [(7, _), (8, _), (9, _), (10, _), (11, _), (12, _), (13, _), (14, _), (15, _)] follows_mixed ⟨rfl, rfl, rfl, rfl, rfl, rfl, rfl, rfl, rfl, trivial⟩ ?_
    refine ChainV.q (some 76) [] (by
     intro H' X F hle
     have hL := Le.trans hL hle
     have hle9 := Le.trans hle9 hle
     have hz_rb := hz.mono hle hz_rb
     have htb := RdL.mono hle htb
     have hA := rd.mono hle hA
     have hpa := hAt.mono hle hpa
     have hpb := hAt.mono hle hpb
     have hnl := RdL.mono hle hnl
     have hnr := RdL.mono hle hnr
     have hnw := RdL.mono hle hnw
     have hyx := RdL.mono hle hyx
     intro hF
     refine TL.fieldAddr rfl rfl ?_
     refine TL.nil ?_
     exact TQ.one [] hF (Le.refl _) ⟨rfl, rfl⟩) ?_
    refine ChainV.q (some 77) [(0, 0)] (by
     intro H' X F hle
     have hL := Le.trans hL hle
     have hle9 := Le.trans hle9 hle
     have hz_rb := hz.mono hle hz_rb
     have htb := RdL.mono hle htb
     have hA := rd.mono hle hA
     have hpa := hAt.mono hle hpa
     have hpb := hAt.mono hle hpb
     have hnl := RdL.mono hle hnl
     have hnr := RdL.mono hle hnr
     have hnw := RdL.mono hle hnw
     have hyx := RdL.mono hle hyx
     intro hF
     refine TL.load_own 3 0 rfl rfl rfl rfl rfl ?_
     refine TL.nil ?_
     exact TQ.one [] hF (Le.refl _) ⟨rfl, rfl⟩) ?_
    refine ChainV.q (some 78) [] (by
     intro H' X F hle
     have hL := Le.trans hL hle
     have hle9 := Le.trans hle9 hle
     have hz_rb := hz.mono hle hz_rb
     have htb := RdL.mono hle htb
     have hA := rd.mono hle hA
     have hpa := hAt.mono hle hpa
     have hpb := hAt.mono hle hpb
     have hnl := RdL.mono hle hnl
     have hnr := RdL.mono hle hnr
     have hnw := RdL.mono hle hnw
     have hyx := RdL.mono hle hyx
     intro hF
     refine TL.move rfl rfl ?_
     refine TL.nil ?_
     exact TQ.one [] hF (Le.refl _) ⟨rfl, rfl⟩) ?_
    refine ChainV.q (some 79) [] (by
     intro H' X F hle
     have hL := Le.trans hL hle
     have hle9 := Le.trans hle9 hle
     have hz_rb := hz.mono hle hz_rb
     have htb := RdL.mono hle htb
     have hA := rd.mono hle hA
     have hpa := hAt.mono hle hpa
     have hpb := hAt.mono hle hpb
     have hnl := RdL.mono hle hnl
     have hnr := RdL.mono hle hnr
     have hnw := RdL.mono hle hnw
     have hyx := RdL.mono hle hyx
     intro hF
     refine TL.fieldAddr rfl rfl ?_
     refine TL.nil ?_
     exact TQ.one [] hF (Le.refl _) ⟨rfl, rfl⟩) ?_
    refine ChainV.q (some 80) [(3, 0)] (by
     intro H' X F hle
     have hL := Le.trans hL hle
     have hle9 := Le.trans hle9 hle
     have hz_rb := hz.mono hle hz_rb
     have htb := RdL.mono hle htb
     have hA := rd.mono hle hA
     have hpa := hAt.mono hle hpa
     have hpb := hAt.mono hle hpb
     have hnl := RdL.mono hle hnl
     have hnr := RdL.mono hle hnr
     have hnw := RdL.mono hle hnw
     have hyx := RdL.mono hle hyx
     intro hF
     refine TL.load_own 9 0 rfl rfl rfl rfl rfl ?_
     refine TL.nil ?_
     exact TQ.one [] hF (Le.refl _) ⟨rfl, rfl⟩) ?_
    refine ChainV.q (some 81) [] (by
     intro H' X F hle
     have hL := Le.trans hL hle
     have hle9 := Le.trans hle9 hle
     have hz_rb := hz.mono hle hz_rb
     have htb := RdL.mono hle htb
     have hA := rd.mono hle hA
     have hpa := hAt.mono hle hpa
     have hpb := hAt.mono hle hpb
     have hnl := RdL.mono hle hnl
     have hnr := RdL.mono hle hnr
     have hnw := RdL.mono hle hnw
     have hyx := RdL.mono hle hyx
     intro hF
     refine TL.move rfl rfl ?_
     refine TL.nil ?_
     exact TQ.one [] hF (Le.refl _) ⟨rfl, rfl⟩) ?_
    refine ChainV.q (some 82) [(4, 1), (5, 0)] (by
     intro H' X F hle
     have hL := Le.trans hL hle
     have hle9 := Le.trans hle9 hle
     have hz_rb := hz.mono hle hz_rb
     have htb := RdL.mono hle htb
     have hA := rd.mono hle hA
     have hpa := hAt.mono hle hpa
     have hpb := hAt.mono hle hpb
     have hnl := RdL.mono hle hnl
     have hnr := RdL.mono hle hnr
     have hnw := RdL.mono hle hnw
     have hyx := RdL.mono hle hyx
     intro hF
     refine TL.indexAddr (b) rfl rfl rfl (by omega) rfl ?_
     refine TL.nil ?_
     exact TQ.one [] hF (Le.refl _) ⟨rfl, rfl⟩) ?_
    refine ChainV.q (some 83) [(6, 0)] (by
     intro H' X F hle
     have hL := Le.trans hL hle
     have hle9 := Le.trans hle9 hle
     have hz_rb := hz.mono hle hz_rb
     have htb := RdL.mono hle htb
     have hA := rd.mono hle hA
     have hpa := hAt.mono hle hpa
     have hpb := hAt.mono hle hpb
     have hnl := RdL.mono hle hnl
     have hnr := RdL.mono hle hnr
     have hnw := RdL.mono hle hnw
     have hyx := RdL.mono hle hyx
     intro hF
     refine TL.fieldAddr rfl rfl ?_
     refine TL.nil ?_
     exact TQ.one [] hF (Le.refl _) ⟨rfl, rfl⟩) ?_
    refine ChainV.q (some 84) [(7, 0)] (by
     intro H' X F hle
     have hL := Le.trans hL hle
     have hle9 := Le.trans hle9 hle
     have hz_rb := hz.mono hle hz_rb
     have htb := RdL.mono hle htb
     have hA := rd.mono hle hA
     have hpa := hAt.mono hle hpa
     have hpb := hAt.mono hle hpb
     have hnl := RdL.mono hle hnl
     have hnr := RdL.mono hle hnr
     have hnw := RdL.mono hle hnw
     have hyx := RdL.mono hle hyx
     intro hF
     refine TL.load_imm rfl (hpb.1) rfl ?_
     refine TL.nil ?_
     exact TQ.one [] hF (Le.refl _) ⟨rfl, rfl⟩) ?_
    refine ChainV.r (some 85) [] ([]) (fun _ => fun r s H => rd H (.s 1 (strsD [bM, bY])) r ∧ s = []) (by
     intro H' X F hle
     have hL := Le.trans hL hle
     have hle9 := Le.trans hle9 hle
     have hz_rb := hz.mono hle hz_rb
     have htb := RdL.mono hle htb
     have hA := rd.mono hle hA
     have hpa := hAt.mono hle hpa
     have hpb := hAt.mono hle hpb
     have hnl := RdL.mono hle hnl
     have hnr := RdL.mono hle hnr
     have hnw := RdL.mono hle hnw
     have hyx := RdL.mono hle hyx
     intro hF
     refine TL.litF (r := [_, _]) [(0, [_]), (1, [_])] ⟨rfl, ⟨_, rfl, rfl⟩, rfl, ⟨_, rfl, rfl⟩, trivial⟩ rfl rfl rfl rfl ?_; intro g85
     refine TL.nil ?_
     refine TQ.freeze (fun H3 hle3 hz => ?_)
     exact TQ.one [] hF hle3 ⟨strs_lit (l := [bM, bY]) (by decide) hz, rfl⟩) ?_
    refine ChainV.r (some 86) [(8, 1), (9, 0)] ([]) (fun _ => fun u s H => ∃ c0 c1, u = .agg #[c0, c1] ∧ RdL H (kY b).d [c0, c1] ∧ s = []) (by
     intro H' X F hle
     have hL := Le.trans hL hle
     have hle9 := Le.trans hle9 hle
     have hz_rb := hz.mono hle hz_rb
     have htb := RdL.mono hle htb
     have hA := rd.mono hle hA
     have hpa := hAt.mono hle hpa
     have hpb := hAt.mono hle hpb
     have hnl := RdL.mono hle hnl
     have hnr := RdL.mono hle hnr
     have hnw := RdL.mono hle hnw
     have hyx := RdL.mono hle hyx
     intro _
     rintro r85 _ H85 hle85 ⟨hr85, rfl⟩
     replace hr85 := rd.mono hle85 hr85
     intro hF
     refine TL.call (law_node (s := l97 b) (l := [bM, bY]) (by decide) hr85) ⟨rfl, rfl, trivial⟩ rfl ?_
     rintro _ _ H4 ⟨c0, c1, rfl, hx, rfl, hle4⟩
     refine TL.nil ?_
     exact TQ.one [] hF hle4 ⟨_, _, rfl, hx, rfl⟩) ?_
    refine ⟨by kernel_rfl, .refl _, ?_⟩
    ·
     intro H4 hle
     rintro r85 _ H85 hle85 ⟨hr85, rfl⟩
     replace hr85 := rd.mono hle85 hr85
     rintro _ _ H86 hle86 ⟨yy0, yy1, rfl, hyy, rfl⟩
     replace hyy := RdL.mono hle86 hyy
     have hL := Le.trans hL hle
     have hle9 := Le.trans hle9 hle
     have hz_rb := hz.mono hle hz_rb
     have htb := RdL.mono hle htb
     have hA := rd.mono hle hA
     have hpa := hAt.mono hle hpa
     have hpb := hAt.mono hle hpb
     have hnl := RdL.mono hle hnl
     have hnr := RdL.mono hle hnr
     have hnw := RdL.mono hle hnw
     have hyx := RdL.mono hle hyx
     refine TL.toOwn (own' := _ :: _ :: _ :: _ :: _ :: _ :: _ :: _ :: _ :: _ :: own) rfl ?_
     refine TL.wk (env' := [(7, _), (8, _), (9, _), (10, _), (11, _), (12, _), (13, _), (14, _), (15, _), (77, _), (78, _), (86, _)]) ⟨rfl, rfl, rfl, rfl, rfl, rfl, rfl, rfl, rfl, rfl, rfl, rfl, trivial⟩ ?_
     refine TL.indexAddr (b) rfl rfl rfl (by omega) rfl ?_
     refine TL.storeA 4 0 (vs := [yy0, yy1]) (c' := _) (own' := _ :: _ :: _ :: _ :: _ :: _) rfl rfl rfl rfl rfl (tr_ones hyy) (by simp; omega) rfl rfl rfl ?_
     refine TL.nil ?_
     refine TQ.then_n ?_
     refine TC.seq ?_
     refine TC.sel 10 [7, 0, 1, 2, 3, 4, 5, 6, 8, 9] rfl (fun o ho => ?_)
     simp only [K.sel, List.map_cons, List.map_nil, List.getD_cons_zero, List.getD_cons_succ, List.drop_succ_cons, List.drop_zero, List.cons_append, List.nil_append, List.set_cons_zero, List.set_cons_succ] at ho; subst ho
     refine TC.freeze (fun H5 hle hz_rl => ?_)
     have hL := Le.trans hL hle
     have hle9 := Le.trans hle9 hle
     have hz_rb := hz.mono hle hz_rb
     have htb := RdL.mono hle htb
     have hA := rd.mono hle hA
     have hpa := hAt.mono hle hpa
     have hpb := hAt.mono hle hpb
     have hnl := RdL.mono hle hnl
     have hnr := RdL.mono hle hnr
     have hnw := RdL.mono hle hnw
     have hyx := RdL.mono hle hyx
     have hyy := RdL.mono hle hyy
     refine TC.sel 9 [4, 0, 1, 2, 3, 5, 6, 7, 8] rfl (fun o ho => ?_)
     simp only [K.sel, List.map_cons, List.map_nil, List.getD_cons_zero, List.getD_cons_succ, List.drop_succ_cons, List.drop_zero, List.cons_append, List.nil_append, List.set_cons_zero, List.set_cons_succ] at ho; subst ho
     refine TC.freeze (fun H6 hle hz_rr => ?_)
     have hL := Le.trans hL hle
     have hle9 := Le.trans hle9 hle
     have hz_rb := hz.mono hle hz_rb
     have htb := RdL.mono hle htb
     have hA := rd.mono hle hA
     have hpa := hAt.mono hle hpa
     have hpb := hAt.mono hle hpb
     have hnl := RdL.mono hle hnl
     have hnr := RdL.mono hle hnr
     have hnw := RdL.mono hle hnw
     have hyx := RdL.mono hle hyx
     have hyy := RdL.mono hle hyy
     have hz_rl := hz.mono hle hz_rl
     have hrl2 : RowA 27 2 (.slice (some ⟨grl, 0, none⟩) B.length capl) B.length ((newsl.set (a * 2) yx0).set (a * 2 + 1) yx1) [(grl, .cells (putC curl (0 + a * 2) [yx0, yx1]) 27 (0, 0))] :=
       .inl ⟨by simpa using hxl2, .inr ⟨grl, _, _, rfl, rfl, hcapl, hcaplm, by rw [putC_size]; exact hszl, row_put _ _ hcurl (by omega)⟩⟩
     have hrr2 : RowA 27 2 (.slice (some ⟨grr, 0, none⟩) B.length capr) B.length ((newsr.set (b * 2) yy0).set (b * 2 + 1) yy1) [(grr, .cells (putC curr (0 + b * 2) [yy0, yy1]) 27 (0, 0))] :=
       .inl ⟨by simpa using hxr2, .inr ⟨grr, _, _, rfl, rfl, hcapr, hcaprm, by rw [putC_size]; exact hszr, row_put _ _ hcurr (by omega)⟩⟩
     have hAl : rd H6 (.s 2 (Tr.ds (B.set a (kX a)))) (.slice (some ⟨grl, 0, none⟩) B.length capl) := rd.ofRowA hrl2 hz_rl (trs_set hnl hyx) (Le.refl _)
     have hAr : rd H6 (.s 2 (Tr.ds (B.set b (kY b)))) (.slice (some ⟨grr, 0, none⟩) B.length capr) := rd.ofRowA hrr2 hz_rr (trs_set hnr hyy) (Le.refl _)
     obtain ⟨bl, ol, l0, l1, hel, hpl, hdl⟩ := trs_at hAl (i := a) (t := kX a) (List.getElem?_set_self (by omega))
     cases hel
     obtain ⟨br, or', r0, r1, her, hpr, hdr⟩ := trs_at hAr (i := b) (t := kY b) (List.getElem?_set_self (by omega))
     cases her
     have htl : RdL H6 (tN (B.set a (kX a))).d [.string ⟨#[116]⟩, .slice (some ⟨grl, 0, none⟩) B.length capl] := tr_mk hAl
     have htr : RdL H6 (tN (B.set b (kY b))).d [.string ⟨#[116]⟩, .slice (some ⟨grr, 0, none⟩) B.length capr] := tr_mk hAr
     refine TC.drawQV 8  [(7, _), (8, _), (9, _), (10, _), (11, _), (12, _), (13, _), (14, _), (15, _)] follows_mixed ⟨rfl, rfl, rfl, rfl, rfl, rfl, rfl, rfl, rfl, trivial⟩ ?_
     refine ChainV.q (some 88) [] (by
      intro H' X F hle
      have hL := Le.trans hL hle
      have hle9 := Le.trans hle9 hle
      have hz_rb := hz.mono hle hz_rb
      have htb := RdL.mono hle htb
      have hA := rd.mono hle hA
      have hpa := hAt.mono hle hpa
      have hpb := hAt.mono hle hpb
      have hnl := RdL.mono hle hnl
      have hnr := RdL.mono hle hnr
      have hnw := RdL.mono hle hnw
      have hyx := RdL.mono hle hyx
      have hyy := RdL.mono hle hyy
      have hz_rl := hz.mono hle hz_rl
      have hz_rr := hz.mono hle hz_rr
      have hpl := hAt.mono hle hpl
      have hdl := RdL.mono hle hdl
      have hpr := hAt.mono hle hpr
      have hdr := RdL.mono hle hdr
      have htl := RdL.mono hle htl
      have htr := RdL.mono hle htr
      intro hF
      refine TL.fieldAddr rfl rfl ?_
      refine TL.nil ?_
      exact TQ.one [] hF (Le.refl _) ⟨rfl, rfl⟩) ?_
     refine ChainV.q (some 89) [(0, 0)] (by
      intro H' X F hle
      have hL := Le.trans hL hle
      have hle9 := Le.trans hle9 hle
      have hz_rb := hz.mono hle hz_rb
      have htb := RdL.mono hle htb
      have hA := rd.mono hle hA
      have hpa := hAt.mono hle hpa
      have hpb := hAt.mono hle hpb
      have hnl := RdL.mono hle hnl
      have hnr := RdL.mono hle hnr
      have hnw := RdL.mono hle hnw
      have hyx := RdL.mono hle hyx
      have hyy := RdL.mono hle hyy
      have hz_rl := hz.mono hle hz_rl
      have hz_rr := hz.mono hle hz_rr
      have hpl := hAt.mono hle hpl
      have hdl := RdL.mono hle hdl
      have hpr := hAt.mono hle hpr
      have hdr := RdL.mono hle hdr
      have htl := RdL.mono hle htl
      have htr := RdL.mono hle htr
      intro hF
      refine TL.load_own 0 0 rfl rfl rfl rfl rfl ?_
      refine TL.nil ?_
      exact TQ.one [] hF (Le.refl _) ⟨rfl, rfl⟩) ?_
     refine ChainV.q (some 90) [] (by
      intro H' X F hle
      have hL := Le.trans hL hle
      have hle9 := Le.trans hle9 hle
      have hz_rb := hz.mono hle hz_rb
      have htb := RdL.mono hle htb
      have hA := rd.mono hle hA
      have hpa := hAt.mono hle hpa
      have hpb := hAt.mono hle hpb
      have hnl := RdL.mono hle hnl
      have hnr := RdL.mono hle hnr
      have hnw := RdL.mono hle hnw
      have hyx := RdL.mono hle hyx
      have hyy := RdL.mono hle hyy
      have hz_rl := hz.mono hle hz_rl
      have hz_rr := hz.mono hle hz_rr
      have hpl := hAt.mono hle hpl
      have hdl := RdL.mono hle hdl
      have hpr := hAt.mono hle hpr
      have hdr := RdL.mono hle hdr
      have htl := RdL.mono hle htl
      have htr := RdL.mono hle htr
      intro hF
      refine TL.move rfl rfl ?_
      refine TL.nil ?_
      exact TQ.one [] hF (Le.refl _) ⟨rfl, rfl⟩) ?_
     refine ChainV.q (some 91) [] (by
      intro H' X F hle
      have hL := Le.trans hL hle
      have hle9 := Le.trans hle9 hle
      have hz_rb := hz.mono hle hz_rb
      have htb := RdL.mono hle htb
      have hA := rd.mono hle hA
      have hpa := hAt.mono hle hpa
      have hpb := hAt.mono hle hpb
      have hnl := RdL.mono hle hnl
      have hnr := RdL.mono hle hnr
      have hnw := RdL.mono hle hnw
      have hyx := RdL.mono hle hyx
      have hyy := RdL.mono hle hyy
      have hz_rl := hz.mono hle hz_rl
      have hz_rr := hz.mono hle hz_rr
      have hpl := hAt.mono hle hpl
      have hdl := RdL.mono hle hdl
      have hpr := hAt.mono hle hpr
      have hdr := RdL.mono hle hdr
      have htl := RdL.mono hle htl
      have htr := RdL.mono hle htr
      intro hF
      refine TL.fieldAddr rfl rfl ?_
      refine TL.nil ?_
      exact TQ.one [] hF (Le.refl _) ⟨rfl, rfl⟩) ?_
     refine ChainV.q (some 92) [(3, 0)] (by
      intro H' X F hle
      have hL := Le.trans hL hle
      have hle9 := Le.trans hle9 hle
      have hz_rb := hz.mono hle hz_rb
      have htb := RdL.mono hle htb
      have hA := rd.mono hle hA
      have hpa := hAt.mono hle hpa
      have hpb := hAt.mono hle hpb
      have hnl := RdL.mono hle hnl
      have hnr := RdL.mono hle hnr
      have hnw := RdL.mono hle hnw
      have hyx := RdL.mono hle hyx
      have hyy := RdL.mono hle hyy
      have hz_rl := hz.mono hle hz_rl
      have hz_rr := hz.mono hle hz_rr
      have hpl := hAt.mono hle hpl
      have hdl := RdL.mono hle hdl
      have hpr := hAt.mono hle hpr
      have hdr := RdL.mono hle hdr
      have htl := RdL.mono hle htl
      have htr := RdL.mono hle htr
      intro hF
      refine TL.load_own 5 0 rfl rfl rfl rfl rfl ?_
      refine TL.nil ?_
      exact TQ.one [] hF (Le.refl _) ⟨rfl, rfl⟩) ?_
     refine ChainV.q (some 93) [] (by
      intro H' X F hle
      have hL := Le.trans hL hle
      have hle9 := Le.trans hle9 hle
      have hz_rb := hz.mono hle hz_rb
      have htb := RdL.mono hle htb
      have hA := rd.mono hle hA
      have hpa := hAt.mono hle hpa
      have hpb := hAt.mono hle hpb
      have hnl := RdL.mono hle hnl
      have hnr := RdL.mono hle hnr
      have hnw := RdL.mono hle hnw
      have hyx := RdL.mono hle hyx
      have hyy := RdL.mono hle hyy
      have hz_rl := hz.mono hle hz_rl
      have hz_rr := hz.mono hle hz_rr
      have hpl := hAt.mono hle hpl
      have hdl := RdL.mono hle hdl
      have hpr := hAt.mono hle hpr
      have hdr := RdL.mono hle hdr
      have htl := RdL.mono hle htl
      have htr := RdL.mono hle htr
      intro hF
      refine TL.move rfl rfl ?_
      refine TL.nil ?_
      exact TQ.one [] hF (Le.refl _) ⟨rfl, rfl⟩) ?_
     refine ChainV.q (some 94) [(4, 1), (5, 0)] (by
      intro H' X F hle
      have hL := Le.trans hL hle
      have hle9 := Le.trans hle9 hle
      have hz_rb := hz.mono hle hz_rb
      have htb := RdL.mono hle htb
      have hA := rd.mono hle hA
      have hpa := hAt.mono hle hpa
      have hpb := hAt.mono hle hpb
      have hnl := RdL.mono hle hnl
      have hnr := RdL.mono hle hnr
      have hnw := RdL.mono hle hnw
      have hyx := RdL.mono hle hyx
      have hyy := RdL.mono hle hyy
      have hz_rl := hz.mono hle hz_rl
      have hz_rr := hz.mono hle hz_rr
      have hpl := hAt.mono hle hpl
      have hdl := RdL.mono hle hdl
      have hpr := hAt.mono hle hpr
      have hdr := RdL.mono hle hdr
      have htl := RdL.mono hle htl
      have htr := RdL.mono hle htr
      intro hF
      refine TL.indexAddr (a) rfl rfl rfl (by omega) rfl ?_
      refine TL.nil ?_
      exact TQ.one [] hF (Le.refl _) ⟨rfl, rfl⟩) ?_
     refine ChainV.q (some 95) [(6, 0)] (by
      intro H' X F hle
      have hL := Le.trans hL hle
      have hle9 := Le.trans hle9 hle
      have hz_rb := hz.mono hle hz_rb
      have htb := RdL.mono hle htb
      have hA := rd.mono hle hA
      have hpa := hAt.mono hle hpa
      have hpb := hAt.mono hle hpb
      have hnl := RdL.mono hle hnl
      have hnr := RdL.mono hle hnr
      have hnw := RdL.mono hle hnw
      have hyx := RdL.mono hle hyx
      have hyy := RdL.mono hle hyy
      have hz_rl := hz.mono hle hz_rl
      have hz_rr := hz.mono hle hz_rr
      have hpl := hAt.mono hle hpl
      have hdl := RdL.mono hle hdl
      have hpr := hAt.mono hle hpr
      have hdr := RdL.mono hle hdr
      have htl := RdL.mono hle htl
      have htr := RdL.mono hle htr
      intro hF
      refine TL.load_immA rfl (hpl) rfl rfl ?_
      refine TL.nil ?_
      exact TQ.one [] hF (Le.refl _) ⟨rfl, rfl⟩) ?_
     refine ⟨by kernel_rfl, .refl _, ?_⟩
     ·
      intro H7 hle
      have hL := Le.trans hL hle
      have hle9 := Le.trans hle9 hle
      have hz_rb := hz.mono hle hz_rb
      have htb := RdL.mono hle htb
      have hA := rd.mono hle hA
      have hpa := hAt.mono hle hpa
      have hpb := hAt.mono hle hpb
      have hnl := RdL.mono hle hnl
      have hnr := RdL.mono hle hnr
      have hnw := RdL.mono hle hnw
      have hyx := RdL.mono hle hyx
      have hyy := RdL.mono hle hyy
      have hz_rl := hz.mono hle hz_rl
      have hz_rr := hz.mono hle hz_rr
      have hpl := hAt.mono hle hpl
      have hdl := RdL.mono hle hdl
      have hpr := hAt.mono hle hpr
      have hdr := RdL.mono hle hdr
      have htl := RdL.mono hle htl
      have htr := RdL.mono hle htr
      refine TL.toOwn (own' := _ :: _ :: _ :: _ :: _ :: _ :: _ :: _ :: own) rfl ?_
      refine TL.wk (env' := [(7, _), (8, _), (9, _), (10, _), (11, _), (12, _), (13, _), (14, _), (15, _), (89, _), (90, _), (95, _)]) ⟨rfl, rfl, rfl, rfl, rfl, rfl, rfl, rfl, rfl, rfl, rfl, rfl, trivial⟩ ?_
      refine TL.indexAddr (a) rfl rfl rfl (by omega) rfl ?_
      refine TL.storeA 1 0 (vs := [l0, l1]) (c' := _) (own' := _ :: _ :: _) rfl rfl rfl rfl rfl (tr_ones hdl) (by simp; omega) rfl rfl rfl ?_
      refine TL.nil ?_
      refine TQ.then_n ?_
      refine TC.seq ?_
      refine TC.drawQV 8  [(7, _), (8, _), (9, _), (10, _), (11, _), (12, _), (13, _), (14, _), (15, _)] follows_mixed ⟨rfl, rfl, rfl, rfl, rfl, rfl, rfl, rfl, rfl, trivial⟩ ?_
      refine ChainV.q (some 97) [] (by
       intro H' X F hle
       have hL := Le.trans hL hle
       have hle9 := Le.trans hle9 hle
       have hz_rb := hz.mono hle hz_rb
       have htb := RdL.mono hle htb
       have hA := rd.mono hle hA
       have hpa := hAt.mono hle hpa
       have hpb := hAt.mono hle hpb
       have hnl := RdL.mono hle hnl
       have hnr := RdL.mono hle hnr
       have hnw := RdL.mono hle hnw
       have hyx := RdL.mono hle hyx
       have hyy := RdL.mono hle hyy
       have hz_rl := hz.mono hle hz_rl
       have hz_rr := hz.mono hle hz_rr
       have hpl := hAt.mono hle hpl
       have hdl := RdL.mono hle hdl
       have hpr := hAt.mono hle hpr
       have hdr := RdL.mono hle hdr
       have htl := RdL.mono hle htl
       have htr := RdL.mono hle htr
       intro hF
       refine TL.fieldAddr rfl rfl ?_
       refine TL.nil ?_
       exact TQ.one [] hF (Le.refl _) ⟨rfl, rfl⟩) ?_
      refine ChainV.q (some 98) [(0, 0)] (by
       intro H' X F hle
       have hL := Le.trans hL hle
       have hle9 := Le.trans hle9 hle
       have hz_rb := hz.mono hle hz_rb
       have htb := RdL.mono hle htb
       have hA := rd.mono hle hA
       have hpa := hAt.mono hle hpa
       have hpb := hAt.mono hle hpb
       have hnl := RdL.mono hle hnl
       have hnr := RdL.mono hle hnr
       have hnw := RdL.mono hle hnw
       have hyx := RdL.mono hle hyx
       have hyy := RdL.mono hle hyy
       have hz_rl := hz.mono hle hz_rl
       have hz_rr := hz.mono hle hz_rr
       have hpl := hAt.mono hle hpl
       have hdl := RdL.mono hle hdl
       have hpr := hAt.mono hle hpr
       have hdr := RdL.mono hle hdr
       have htl := RdL.mono hle htl
       have htr := RdL.mono hle htr
       intro hF
       refine TL.load_own 0 0 rfl rfl rfl rfl rfl ?_
       refine TL.nil ?_
       exact TQ.one [] hF (Le.refl _) ⟨rfl, rfl⟩) ?_
      refine ChainV.q (some 99) [] (by
       intro H' X F hle
       have hL := Le.trans hL hle
       have hle9 := Le.trans hle9 hle
       have hz_rb := hz.mono hle hz_rb
       have htb := RdL.mono hle htb
       have hA := rd.mono hle hA
       have hpa := hAt.mono hle hpa
       have hpb := hAt.mono hle hpb
       have hnl := RdL.mono hle hnl
       have hnr := RdL.mono hle hnr
       have hnw := RdL.mono hle hnw
       have hyx := RdL.mono hle hyx
       have hyy := RdL.mono hle hyy
       have hz_rl := hz.mono hle hz_rl
       have hz_rr := hz.mono hle hz_rr
       have hpl := hAt.mono hle hpl
       have hdl := RdL.mono hle hdl
       have hpr := hAt.mono hle hpr
       have hdr := RdL.mono hle hdr
       have htl := RdL.mono hle htl
       have htr := RdL.mono hle htr
       intro hF
       refine TL.move rfl rfl ?_
       refine TL.nil ?_
       exact TQ.one [] hF (Le.refl _) ⟨rfl, rfl⟩) ?_
      refine ChainV.q (some 100) [] (by
       intro H' X F hle
       have hL := Le.trans hL hle
       have hle9 := Le.trans hle9 hle
       have hz_rb := hz.mono hle hz_rb
       have htb := RdL.mono hle htb
       have hA := rd.mono hle hA
       have hpa := hAt.mono hle hpa
       have hpb := hAt.mono hle hpb
       have hnl := RdL.mono hle hnl
       have hnr := RdL.mono hle hnr
       have hnw := RdL.mono hle hnw
       have hyx := RdL.mono hle hyx
       have hyy := RdL.mono hle hyy
       have hz_rl := hz.mono hle hz_rl
       have hz_rr := hz.mono hle hz_rr
       have hpl := hAt.mono hle hpl
       have hdl := RdL.mono hle hdl
       have hpr := hAt.mono hle hpr
       have hdr := RdL.mono hle hdr
       have htl := RdL.mono hle htl
       have htr := RdL.mono hle htr
       intro hF
       refine TL.fieldAddr rfl rfl ?_
       refine TL.nil ?_
       exact TQ.one [] hF (Le.refl _) ⟨rfl, rfl⟩) ?_
      refine ChainV.q (some 101) [(3, 0)] (by
       intro H' X F hle
       have hL := Le.trans hL hle
       have hle9 := Le.trans hle9 hle
       have hz_rb := hz.mono hle hz_rb
       have htb := RdL.mono hle htb
       have hA := rd.mono hle hA
       have hpa := hAt.mono hle hpa
       have hpb := hAt.mono hle hpb
       have hnl := RdL.mono hle hnl
       have hnr := RdL.mono hle hnr
       have hnw := RdL.mono hle hnw
       have hyx := RdL.mono hle hyx
       have hyy := RdL.mono hle hyy
       have hz_rl := hz.mono hle hz_rl
       have hz_rr := hz.mono hle hz_rr
       have hpl := hAt.mono hle hpl
       have hdl := RdL.mono hle hdl
       have hpr := hAt.mono hle hpr
       have hdr := RdL.mono hle hdr
       have htl := RdL.mono hle htl
       have htr := RdL.mono hle htr
       intro hF
       refine TL.load_own 3 0 rfl rfl rfl rfl rfl ?_
       refine TL.nil ?_
       exact TQ.one [] hF (Le.refl _) ⟨rfl, rfl⟩) ?_
      refine ChainV.q (some 102) [] (by
       intro H' X F hle
       have hL := Le.trans hL hle
       have hle9 := Le.trans hle9 hle
       have hz_rb := hz.mono hle hz_rb
       have htb := RdL.mono hle htb
       have hA := rd.mono hle hA
       have hpa := hAt.mono hle hpa
       have hpb := hAt.mono hle hpb
       have hnl := RdL.mono hle hnl
       have hnr := RdL.mono hle hnr
       have hnw := RdL.mono hle hnw
       have hyx := RdL.mono hle hyx
       have hyy := RdL.mono hle hyy
       have hz_rl := hz.mono hle hz_rl
       have hz_rr := hz.mono hle hz_rr
       have hpl := hAt.mono hle hpl
       have hdl := RdL.mono hle hdl
       have hpr := hAt.mono hle hpr
       have hdr := RdL.mono hle hdr
       have htl := RdL.mono hle htl
       have htr := RdL.mono hle htr
       intro hF
       refine TL.move rfl rfl ?_
       refine TL.nil ?_
       exact TQ.one [] hF (Le.refl _) ⟨rfl, rfl⟩) ?_
      refine ChainV.q (some 103) [(4, 1), (5, 0)] (by
       intro H' X F hle
       have hL := Le.trans hL hle
       have hle9 := Le.trans hle9 hle
       have hz_rb := hz.mono hle hz_rb
       have htb := RdL.mono hle htb
       have hA := rd.mono hle hA
       have hpa := hAt.mono hle hpa
       have hpb := hAt.mono hle hpb
       have hnl := RdL.mono hle hnl
       have hnr := RdL.mono hle hnr
       have hnw := RdL.mono hle hnw
       have hyx := RdL.mono hle hyx
       have hyy := RdL.mono hle hyy
       have hz_rl := hz.mono hle hz_rl
       have hz_rr := hz.mono hle hz_rr
       have hpl := hAt.mono hle hpl
       have hdl := RdL.mono hle hdl
       have hpr := hAt.mono hle hpr
       have hdr := RdL.mono hle hdr
       have htl := RdL.mono hle htl
       have htr := RdL.mono hle htr
       intro hF
       refine TL.indexAddr (b) rfl rfl rfl (by omega) rfl ?_
       refine TL.nil ?_
       exact TQ.one [] hF (Le.refl _) ⟨rfl, rfl⟩) ?_
      refine ChainV.q (some 104) [(6, 0)] (by
       intro H' X F hle
       have hL := Le.trans hL hle
       have hle9 := Le.trans hle9 hle
       have hz_rb := hz.mono hle hz_rb
       have htb := RdL.mono hle htb
       have hA := rd.mono hle hA
       have hpa := hAt.mono hle hpa
       have hpb := hAt.mono hle hpb
       have hnl := RdL.mono hle hnl
       have hnr := RdL.mono hle hnr
       have hnw := RdL.mono hle hnw
       have hyx := RdL.mono hle hyx
       have hyy := RdL.mono hle hyy
       have hz_rl := hz.mono hle hz_rl
       have hz_rr := hz.mono hle hz_rr
       have hpl := hAt.mono hle hpl
       have hdl := RdL.mono hle hdl
       have hpr := hAt.mono hle hpr
       have hdr := RdL.mono hle hdr
       have htl := RdL.mono hle htl
       have htr := RdL.mono hle htr
       intro hF
       refine TL.load_immA rfl (hpr) rfl rfl ?_
       refine TL.nil ?_
       exact TQ.one [] hF (Le.refl _) ⟨rfl, rfl⟩) ?_
      refine ⟨by kernel_rfl, .refl _, ?_⟩
      ·
       intro H8 hle
       have hL := Le.trans hL hle
       have hle9 := Le.trans hle9 hle
       have hz_rb := hz.mono hle hz_rb
       have htb := RdL.mono hle htb
       have hA := rd.mono hle hA
       have hpa := hAt.mono hle hpa
       have hpb := hAt.mono hle hpb
       have hnl := RdL.mono hle hnl
       have hnr := RdL.mono hle hnr
       have hnw := RdL.mono hle hnw
       have hyx := RdL.mono hle hyx
       have hyy := RdL.mono hle hyy
       have hz_rl := hz.mono hle hz_rl
       have hz_rr := hz.mono hle hz_rr
       have hpl := hAt.mono hle hpl
       have hdl := RdL.mono hle hdl
       have hpr := hAt.mono hle hpr
       have hdr := RdL.mono hle hdr
       have htl := RdL.mono hle htl
       have htr := RdL.mono hle htr
       refine TL.toOwn (own' := _ :: _ :: _ :: _ :: _ :: _ :: _ :: _ :: own) rfl ?_
       refine TL.wk (env' := [(7, _), (8, _), (9, _), (10, _), (11, _), (12, _), (13, _), (14, _), (15, _), (98, _), (99, _), (104, _)]) ⟨rfl, rfl, rfl, rfl, rfl, rfl, rfl, rfl, rfl, rfl, rfl, rfl, trivial⟩ ?_
       refine TL.indexAddr (b) rfl rfl rfl (by omega) rfl ?_
       refine TL.storeA 1 0 (vs := [r0, r1]) (c' := _) (own' := _ :: _ :: _) rfl rfl rfl rfl rfl (tr_ones hdr) (by simp only [putC_size]; simp; omega) rfl rfl rfl ?_
       refine TL.nil ?_
       refine TQ.then_n ?_
       refine TC.seq ?_
       refine TC.seq ?_
       refine TC.region ?_
       refine TL.move rfl rfl ?_
       refine TL.move rfl rfl ?_
       refine TL.eqlB rfl rfl rfl (fun hab => ?_) (fun hab => ?_)
       ·
        obtain rfl : a = b := by omega
        refine TL.nil ?_
        refine TQ.then_n ?_
        refine TC.cond_t rfl ?_
        refine TC.drawQV 11  [(7, _), (8, _), (9, _), (10, _), (11, _), (12, _), (13, _), (14, _), (15, _)] follows_mixed ⟨rfl, rfl, rfl, rfl, rfl, rfl, rfl, rfl, rfl, trivial⟩ ?_
        refine ChainV.q (some 109) [] (by
         intro H' X F hle
         have hL := Le.trans hL hle
         have hle9 := Le.trans hle9 hle
         have hz_rb := hz.mono hle hz_rb
         have htb := RdL.mono hle htb
         have hA := rd.mono hle hA
         have hpa := hAt.mono hle hpa
         have hpb := hAt.mono hle hpb
         have hnl := RdL.mono hle hnl
         have hnr := RdL.mono hle hnr
         have hnw := RdL.mono hle hnw
         have hyx := RdL.mono hle hyx
         have hyy := RdL.mono hle hyy
         have hz_rl := hz.mono hle hz_rl
         have hz_rr := hz.mono hle hz_rr
         have hpl := hAt.mono hle hpl
         have hdl := RdL.mono hle hdl
         have hpr := hAt.mono hle hpr
         have hdr := RdL.mono hle hdr
         have htl := RdL.mono hle htl
         have htr := RdL.mono hle htr
         intro hF
         refine TL.fieldAddr rfl rfl ?_
         refine TL.nil ?_
         exact TQ.one [] hF (Le.refl _) ⟨rfl, rfl⟩) ?_
        refine ChainV.q (some 110) [(0, 0)] (by
         intro H' X F hle
         have hL := Le.trans hL hle
         have hle9 := Le.trans hle9 hle
         have hz_rb := hz.mono hle hz_rb
         have htb := RdL.mono hle htb
         have hA := rd.mono hle hA
         have hpa := hAt.mono hle hpa
         have hpb := hAt.mono hle hpb
         have hnl := RdL.mono hle hnl
         have hnr := RdL.mono hle hnr
         have hnw := RdL.mono hle hnw
         have hyx := RdL.mono hle hyx
         have hyy := RdL.mono hle hyy
         have hz_rl := hz.mono hle hz_rl
         have hz_rr := hz.mono hle hz_rr
         have hpl := hAt.mono hle hpl
         have hdl := RdL.mono hle hdl
         have hpr := hAt.mono hle hpr
         have hdr := RdL.mono hle hdr
         have htl := RdL.mono hle htl
         have htr := RdL.mono hle htr
         intro hF
         refine TL.load_own 0 0 rfl rfl rfl rfl rfl ?_
         refine TL.nil ?_
         exact TQ.one [] hF (Le.refl _) ⟨rfl, rfl⟩) ?_
        refine ChainV.q (some 111) [] (by
         intro H' X F hle
         have hL := Le.trans hL hle
         have hle9 := Le.trans hle9 hle
         have hz_rb := hz.mono hle hz_rb
         have htb := RdL.mono hle htb
         have hA := rd.mono hle hA
         have hpa := hAt.mono hle hpa
         have hpb := hAt.mono hle hpb
         have hnl := RdL.mono hle hnl
         have hnr := RdL.mono hle hnr
         have hnw := RdL.mono hle hnw
         have hyx := RdL.mono hle hyx
         have hyy := RdL.mono hle hyy
         have hz_rl := hz.mono hle hz_rl
         have hz_rr := hz.mono hle hz_rr
         have hpl := hAt.mono hle hpl
         have hdl := RdL.mono hle hdl
         have hpr := hAt.mono hle hpr
         have hdr := RdL.mono hle hdr
         have htl := RdL.mono hle htl
         have htr := RdL.mono hle htr
         intro hF
         refine TL.move rfl rfl ?_
         refine TL.nil ?_
         exact TQ.one [] hF (Le.refl _) ⟨rfl, rfl⟩) ?_
        refine ChainV.q (some 112) [] (by
         intro H' X F hle
         have hL := Le.trans hL hle
         have hle9 := Le.trans hle9 hle
         have hz_rb := hz.mono hle hz_rb
         have htb := RdL.mono hle htb
         have hA := rd.mono hle hA
         have hpa := hAt.mono hle hpa
         have hpb := hAt.mono hle hpb
         have hnl := RdL.mono hle hnl
         have hnr := RdL.mono hle hnr
         have hnw := RdL.mono hle hnw
         have hyx := RdL.mono hle hyx
         have hyy := RdL.mono hle hyy
         have hz_rl := hz.mono hle hz_rl
         have hz_rr := hz.mono hle hz_rr
         have hpl := hAt.mono hle hpl
         have hdl := RdL.mono hle hdl
         have hpr := hAt.mono hle hpr
         have hdr := RdL.mono hle hdr
         have htl := RdL.mono hle htl
         have htr := RdL.mono hle htr
         intro hF
         refine TL.fieldAddr rfl rfl ?_
         refine TL.nil ?_
         exact TQ.one [] hF (Le.refl _) ⟨rfl, rfl⟩) ?_
        refine ChainV.q (some 113) [(3, 0)] (by
         intro H' X F hle
         have hL := Le.trans hL hle
         have hle9 := Le.trans hle9 hle
         have hz_rb := hz.mono hle hz_rb
         have htb := RdL.mono hle htb
         have hA := rd.mono hle hA
         have hpa := hAt.mono hle hpa
         have hpb := hAt.mono hle hpb
         have hnl := RdL.mono hle hnl
         have hnr := RdL.mono hle hnr
         have hnw := RdL.mono hle hnw
         have hyx := RdL.mono hle hyx
         have hyy := RdL.mono hle hyy
         have hz_rl := hz.mono hle hz_rl
         have hz_rr := hz.mono hle hz_rr
         have hpl := hAt.mono hle hpl
         have hdl := RdL.mono hle hdl
         have hpr := hAt.mono hle hpr
         have hdr := RdL.mono hle hdr
         have htl := RdL.mono hle htl
         have htr := RdL.mono hle htr
         intro hF
         refine TL.load_own 7 0 rfl rfl rfl rfl rfl ?_
         refine TL.nil ?_
         exact TQ.one [] hF (Le.refl _) ⟨rfl, rfl⟩) ?_
        refine ChainV.q (some 114) [] (by
         intro H' X F hle
         have hL := Le.trans hL hle
         have hle9 := Le.trans hle9 hle
         have hz_rb := hz.mono hle hz_rb
         have htb := RdL.mono hle htb
         have hA := rd.mono hle hA
         have hpa := hAt.mono hle hpa
         have hpb := hAt.mono hle hpb
         have hnl := RdL.mono hle hnl
         have hnr := RdL.mono hle hnr
         have hnw := RdL.mono hle hnw
         have hyx := RdL.mono hle hyx
         have hyy := RdL.mono hle hyy
         have hz_rl := hz.mono hle hz_rl
         have hz_rr := hz.mono hle hz_rr
         have hpl := hAt.mono hle hpl
         have hdl := RdL.mono hle hdl
         have hpr := hAt.mono hle hpr
         have hdr := RdL.mono hle hdr
         have htl := RdL.mono hle htl
         have htr := RdL.mono hle htr
         intro hF
         refine TL.move rfl rfl ?_
         refine TL.nil ?_
         exact TQ.one [] hF (Le.refl _) ⟨rfl, rfl⟩) ?_
        refine ChainV.q (some 115) [(4, 1), (5, 0)] (by
         intro H' X F hle
         have hL := Le.trans hL hle
         have hle9 := Le.trans hle9 hle
         have hz_rb := hz.mono hle hz_rb
         have htb := RdL.mono hle htb
         have hA := rd.mono hle hA
         have hpa := hAt.mono hle hpa
         have hpb := hAt.mono hle hpb
         have hnl := RdL.mono hle hnl
         have hnr := RdL.mono hle hnr
         have hnw := RdL.mono hle hnw
         have hyx := RdL.mono hle hyx
         have hyy := RdL.mono hle hyy
         have hz_rl := hz.mono hle hz_rl
         have hz_rr := hz.mono hle hz_rr
         have hpl := hAt.mono hle hpl
         have hdl := RdL.mono hle hdl
         have hpr := hAt.mono hle hpr
         have hdr := RdL.mono hle hdr
         have htl := RdL.mono hle htl
         have htr := RdL.mono hle htr
         intro hF
         refine TL.indexAddr (a) rfl rfl rfl (by omega) rfl ?_
         refine TL.nil ?_
         exact TQ.one [] hF (Le.refl _) ⟨rfl, rfl⟩) ?_
        refine ChainV.q (some 116) [(6, 0)] (by
         intro H' X F hle
         have hL := Le.trans hL hle
         have hle9 := Le.trans hle9 hle
         have hz_rb := hz.mono hle hz_rb
         have htb := RdL.mono hle htb
         have hA := rd.mono hle hA
         have hpa := hAt.mono hle hpa
         have hpb := hAt.mono hle hpb
         have hnl := RdL.mono hle hnl
         have hnr := RdL.mono hle hnr
         have hnw := RdL.mono hle hnw
         have hyx := RdL.mono hle hyx
         have hyy := RdL.mono hle hyy
         have hz_rl := hz.mono hle hz_rl
         have hz_rr := hz.mono hle hz_rr
         have hpl := hAt.mono hle hpl
         have hdl := RdL.mono hle hdl
         have hpr := hAt.mono hle hpr
         have hdr := RdL.mono hle hdr
         have htl := RdL.mono hle htl
         have htr := RdL.mono hle htr
         intro hF
         refine TL.fieldAddr rfl rfl ?_
         refine TL.nil ?_
         exact TQ.one [] hF (Le.refl _) ⟨rfl, rfl⟩) ?_
        refine ChainV.q (some 117) [(7, 0)] (by
         intro H' X F hle
         have hL := Le.trans hL hle
         have hle9 := Le.trans hle9 hle
         have hz_rb := hz.mono hle hz_rb
         have htb := RdL.mono hle htb
         have hA := rd.mono hle hA
         have hpa := hAt.mono hle hpa
         have hpb := hAt.mono hle hpb
         have hnl := RdL.mono hle hnl
         have hnr := RdL.mono hle hnr
         have hnw := RdL.mono hle hnw
         have hyx := RdL.mono hle hyx
         have hyy := RdL.mono hle hyy
         have hz_rl := hz.mono hle hz_rl
         have hz_rr := hz.mono hle hz_rr
         have hpl := hAt.mono hle hpl
         have hdl := RdL.mono hle hdl
         have hpr := hAt.mono hle hpr
         have hdr := RdL.mono hle hdr
         have htl := RdL.mono hle htl
         have htr := RdL.mono hle htr
         intro hF
         refine TL.load_imm rfl (hpa.1) rfl ?_
         refine TL.nil ?_
         exact TQ.one [] hF (Le.refl _) ⟨rfl, rfl⟩) ?_
        refine ChainV.r (some 118) [] ([]) (fun _ => fun r s H => rd H (.s 1 (strsD [bX, bY])) r ∧ s = []) (by
         intro H' X F hle
         have hL := Le.trans hL hle
         have hle9 := Le.trans hle9 hle
         have hz_rb := hz.mono hle hz_rb
         have htb := RdL.mono hle htb
         have hA := rd.mono hle hA
         have hpa := hAt.mono hle hpa
         have hpb := hAt.mono hle hpb
         have hnl := RdL.mono hle hnl
         have hnr := RdL.mono hle hnr
         have hnw := RdL.mono hle hnw
         have hyx := RdL.mono hle hyx
         have hyy := RdL.mono hle hyy
         have hz_rl := hz.mono hle hz_rl
         have hz_rr := hz.mono hle hz_rr
         have hpl := hAt.mono hle hpl
         have hdl := RdL.mono hle hdl
         have hpr := hAt.mono hle hpr
         have hdr := RdL.mono hle hdr
         have htl := RdL.mono hle htl
         have htr := RdL.mono hle htr
         intro hF
         refine TL.litF (r := [_, _]) [(0, [_]), (1, [_])] ⟨rfl, ⟨_, rfl, rfl⟩, rfl, ⟨_, rfl, rfl⟩, trivial⟩ rfl rfl rfl rfl ?_; intro g118
         refine TL.nil ?_
         refine TQ.freeze (fun H3 hle3 hz => ?_)
         exact TQ.one [] hF hle3 ⟨strs_lit (l := [bX, bY]) (by decide) hz, rfl⟩) ?_
        refine ChainV.r (some 119) [(8, 1), (9, 0)] ([]) (fun _ => fun u s H => ∃ c0 c1, u = .agg #[c0, c1] ∧ RdL H (kW a).d [c0, c1] ∧ s = []) (by
         intro H' X F hle
         have hL := Le.trans hL hle
         have hle9 := Le.trans hle9 hle
         have hz_rb := hz.mono hle hz_rb
         have htb := RdL.mono hle htb
         have hA := rd.mono hle hA
         have hpa := hAt.mono hle hpa
         have hpb := hAt.mono hle hpb
         have hnl := RdL.mono hle hnl
         have hnr := RdL.mono hle hnr
         have hnw := RdL.mono hle hnw
         have hyx := RdL.mono hle hyx
         have hyy := RdL.mono hle hyy
         have hz_rl := hz.mono hle hz_rl
         have hz_rr := hz.mono hle hz_rr
         have hpl := hAt.mono hle hpl
         have hdl := RdL.mono hle hdl
         have hpr := hAt.mono hle hpr
         have hdr := RdL.mono hle hdr
         have htl := RdL.mono hle htl
         have htr := RdL.mono hle htr
         intro _
         rintro r118 _ H118 hle118 ⟨hr118, rfl⟩
         replace hr118 := rd.mono hle118 hr118
         intro hF
         refine TL.call (law_node (s := l97 a) (l := [bX, bY]) (by decide) hr118) ⟨rfl, rfl, trivial⟩ rfl ?_
         rintro _ _ H4 ⟨c0, c1, rfl, hx, rfl, hle4⟩
         refine TL.nil ?_
         exact TQ.one [] hF hle4 ⟨_, _, rfl, hx, rfl⟩) ?_
        refine ⟨by kernel_rfl, .refl _, ?_⟩
        ·
         intro H9 hle
         rintro r118 _ H118 hle118 ⟨hr118, rfl⟩
         replace hr118 := rd.mono hle118 hr118
         rintro _ _ H119 hle119 ⟨yw0, yw1, rfl, hyw, rfl⟩
         replace hyw := RdL.mono hle119 hyw
         have hL := Le.trans hL hle
         have hle9 := Le.trans hle9 hle
         have hz_rb := hz.mono hle hz_rb
         have htb := RdL.mono hle htb
         have hA := rd.mono hle hA
         have hpa := hAt.mono hle hpa
         have hpb := hAt.mono hle hpb
         have hnl := RdL.mono hle hnl
         have hnr := RdL.mono hle hnr
         have hnw := RdL.mono hle hnw
         have hyx := RdL.mono hle hyx
         have hyy := RdL.mono hle hyy
         have hz_rl := hz.mono hle hz_rl
         have hz_rr := hz.mono hle hz_rr
         have hpl := hAt.mono hle hpl
         have hdl := RdL.mono hle hdl
         have hpr := hAt.mono hle hpr
         have hdr := RdL.mono hle hdr
         have htl := RdL.mono hle htl
         have htr := RdL.mono hle htr
         refine TL.toOwn (own' := _ :: _ :: _ :: _ :: _ :: _ :: _ :: _ :: own) rfl ?_
         refine TL.wk (env' := [(7, _), (8, _), (9, _), (10, _), (11, _), (12, _), (13, _), (14, _), (15, _), (110, _), (111, _), (119, _)]) ⟨rfl, rfl, rfl, rfl, rfl, rfl, rfl, rfl, rfl, rfl, rfl, rfl, trivial⟩ ?_
         have hdw := hyw
         refine TL.indexAddr (a) rfl rfl rfl (by omega) rfl ?_
         refine TL.storeA 1 0 (vs := [yw0, yw1]) (c' := _) (own' := _ :: _ :: _) rfl rfl rfl rfl rfl (tr_ones hyw) (by simp only [putC_size]; simp; omega) rfl rfl rfl ?_
         refine TL.nil ?_
         refine TQ.then_n ?_
         refine TC.seq ?_
         refine TC.sel 8 [1, 0, 2, 3, 4, 5, 6, 7] rfl (fun o ho => ?_)
         simp only [K.sel, List.map_cons, List.map_nil, List.getD_cons_zero, List.getD_cons_succ, List.drop_succ_cons, List.drop_zero, List.cons_append, List.nil_append, List.set_cons_zero, List.set_cons_succ] at ho; subst ho
         refine TC.freeze (fun H10 hle hz_rw => ?_)
         have hL := Le.trans hL hle
         have hle9 := Le.trans hle9 hle
         have hz_rb := hz.mono hle hz_rb
         have htb := RdL.mono hle htb
         have hA := rd.mono hle hA
         have hpa := hAt.mono hle hpa
         have hpb := hAt.mono hle hpb
         have hnl := RdL.mono hle hnl
         have hnr := RdL.mono hle hnr
         have hnw := RdL.mono hle hnw
         have hyx := RdL.mono hle hyx
         have hyy := RdL.mono hle hyy
         have hz_rl := hz.mono hle hz_rl
         have hz_rr := hz.mono hle hz_rr
         have hpl := hAt.mono hle hpl
         have hdl := RdL.mono hle hdl
         have hpr := hAt.mono hle hpr
         have hdr := RdL.mono hle hdr
         have htl := RdL.mono hle htl
         have htr := RdL.mono hle htr
         have hdw := RdL.mono hle hdw
         have hrw2 : RowA 27 2 (.slice (some ⟨grw, 0, none⟩) B.length capw) B.length (((((((newsw).set (a * 2) l0).set (a * 2 + 1) l1).set (a * 2) r0).set (a * 2 + 1) r1).set (a * 2) yw0).set (a * 2 + 1) yw1) [(grw, .cells (putC (putC (putC (curw) (0 + a * 2) [l0, l1]) (0 + a * 2) [r0, r1]) (0 + a * 2) [yw0, yw1]) 27 (0, 0))] :=
           .inl ⟨by simpa using hxw2, .inr ⟨grw, _, _, rfl, rfl, hcapw, hcapwm, by simpa only [putC_size] using hszw, (row_put _ _ (row_put _ _ (row_put _ _ hcurw (by omega)) (by omega)) (by omega))⟩⟩
         have htw : RdL H10 (tN ((List.range n).map (wantF a a))).d [.string ⟨#[116]⟩, .slice (some ⟨grw, 0, none⟩) B.length capw] := by
           rw [← want_eq, ← hBd]
           exact tr_mk (rd.ofRowA hrw2 hz_rw (trs_set (trs_set (trs_set hnw hdl) hdr) hdw) (Le.refl _))
         refine TC.region ?_
         refine TL.load_ownA 6 0 [_, _] rfl rfl rfl ⟨rfl, rfl, trivial⟩ rfl rfl ?_
         refine TL.load_ownA 4 0 [_, _] rfl rfl rfl ⟨rfl, rfl, trivial⟩ rfl rfl ?_
         refine TL.load_ownA 2 0 [_, _] rfl rfl rfl ⟨rfl, rfl, trivial⟩ rfl rfl ?_
         refine TL.call (merge_top (by omega) (by omega) (by omega) htb htl htr) ⟨rfl, rfl, rfl, trivial⟩ rfl ?_
         rintro _ _ H12 ⟨m0, m1, pm, rfl, hm, hpm, rfl, hle12⟩
         replace htw := RdL.mono hle12 htw
         rw [hBd, dis_R (by omega) ha hb] at hm hpm
         obtain ⟨Ap, cp, rfl⟩ := nil_paths hpm
         have hL := Le.trans hL hle12
         have hle9 := Le.trans hle9 hle12
         have hz_rb := hz.mono hle12 hz_rb
         have htb := RdL.mono hle12 htb
         have hA := rd.mono hle12 hA
         have hpa := hAt.mono hle12 hpa
         have hpb := hAt.mono hle12 hpb
         have hnl := RdL.mono hle12 hnl
         have hnr := RdL.mono hle12 hnr
         have hnw := RdL.mono hle12 hnw
         have hyx := RdL.mono hle12 hyx
         have hyy := RdL.mono hle12 hyy
         have hz_rl := hz.mono hle12 hz_rl
         have hz_rr := hz.mono hle12 hz_rr
         have hpl := hAt.mono hle12 hpl
         have hdl := RdL.mono hle12 hdl
         have hpr := hAt.mono hle12 hpr
         have hdr := RdL.mono hle12 hdr
         have htl := RdL.mono hle12 htl
         have htr := RdL.mono hle12 htr
         have hdw := RdL.mono hle12 hdw
         have hz_rw := hz.mono hle12 hz_rw
         refine TL.move rfl rfl ?_
         refine TL.extract rfl rfl rfl ?_
         refine TL.extract rfl rfl rfl ?_
         refine TL.new rfl ?_; intro g16
         refine TL.storeA 0 0 (vs := [m0, m1]) (c' := #[_, _]) (own' := [(_, .cells #[_, _] _ _)] :: _) rfl rfl rfl rfl rfl (tr_ones hm) (by simp) rfl rfl rfl ?_
         refine TL.assign rfl rfl ?_
         refine TL.nil ?_
         refine TQ.then_n ?_
         refine TC.seq ?_
         refine TC.region ?_
         refine TL.move rfl rfl ?_
         refine TL.move rfl rfl ?_
         refine TL.gyes rfl rfl rfl ?_
         refine TL.move rfl rfl ?_
         refine TL.gyes rfl rfl rfl ?_
         refine TL.len_slice rfl rfl ?_
         refine TL.gyes rfl rfl rfl ?_
         refine TL.eqlB rfl rfl rfl (fun hz0 => ?_) (fun hz0 => ?_)
         ·
          refine TL.pickT rfl rfl rfl rfl ?_
          refine TL.move rfl rfl ?_
          refine TL.gyes rfl rfl rfl ?_
          refine TL.load_ownA 0 0 [_, _] rfl rfl rfl ⟨rfl, rfl, trivial⟩ rfl rfl ?_
          refine TL.gyes rfl rfl rfl ?_
          refine TL.load_ownA 1 0 [_, _] rfl rfl rfl ⟨rfl, rfl, trivial⟩ rfl rfl ?_
          refine TL.gyes rfl rfl rfl ?_
          refine TL.call (ref_same _ _ _ (Nat.le_refl _) hm htw) ⟨rfl, rfl, trivial⟩ rfl ?_
          rintro _ _ H15 ⟨rfl, rfl, hle15⟩
          rw [eqb_self]
          have hL := Le.trans hL hle15
          have hle9 := Le.trans hle9 hle15
          have hz_rb := hz.mono hle15 hz_rb
          have htb := RdL.mono hle15 htb
          have hA := rd.mono hle15 hA
          have hpa := hAt.mono hle15 hpa
          have hpb := hAt.mono hle15 hpb
          have hnl := RdL.mono hle15 hnl
          have hnr := RdL.mono hle15 hnr
          have hnw := RdL.mono hle15 hnw
          have hyx := RdL.mono hle15 hyx
          have hyy := RdL.mono hle15 hyy
          have hz_rl := hz.mono hle15 hz_rl
          have hz_rr := hz.mono hle15 hz_rr
          have hpl := hAt.mono hle15 hpl
          have hdl := RdL.mono hle15 hdl
          have hpr := hAt.mono hle15 hpr
          have hdr := RdL.mono hle15 hdr
          have htl := RdL.mono hle15 htl
          have htr := RdL.mono hle15 htr
          have hdw := RdL.mono hle15 hdw
          have hz_rw := hz.mono hle15 hz_rw
          have hm := RdL.mono hle15 hm
          have htw := RdL.mono hle15 htw
          refine TL.pickT rfl rfl rfl rfl ?_
          refine TL.assign rfl rfl ?_
          refine TL.nil ?_
          refine TQ.then_n ?_
          refine TC.ret ?_
          refine TQ.ret1 8 rfl rfl ?_
          exact ⟨rfl, rfl, hL⟩
         ·
          exact absurd rfl hz0 -- dead
       ·
        refine TL.nil ?_
        refine TQ.then_n ?_
        refine TC.cond_f rfl ?_
        refine TC.skip ?_
        refine TQ.then_n ?_
        refine TC.seq ?_
        refine TC.sel 8 [1, 0, 2, 3, 4, 5, 6, 7] rfl (fun o ho => ?_)
        simp only [K.sel, List.map_cons, List.map_nil, List.getD_cons_zero, List.getD_cons_succ, List.drop_succ_cons, List.drop_zero, List.cons_append, List.nil_append, List.set_cons_zero, List.set_cons_succ] at ho; subst ho
        refine TC.freeze (fun H11 hle hz_rw => ?_)
        have hL := Le.trans hL hle
        have hle9 := Le.trans hle9 hle
        have hz_rb := hz.mono hle hz_rb
        have htb := RdL.mono hle htb
        have hA := rd.mono hle hA
        have hpa := hAt.mono hle hpa
        have hpb := hAt.mono hle hpb
        have hnl := RdL.mono hle hnl
        have hnr := RdL.mono hle hnr
        have hnw := RdL.mono hle hnw
        have hyx := RdL.mono hle hyx
        have hyy := RdL.mono hle hyy
        have hz_rl := hz.mono hle hz_rl
        have hz_rr := hz.mono hle hz_rr
        have hpl := hAt.mono hle hpl
        have hdl := RdL.mono hle hdl
        have hpr := hAt.mono hle hpr
        have hdr := RdL.mono hle hdr
        have htl := RdL.mono hle htl
        have htr := RdL.mono hle htr
        have hrw2 : RowA 27 2 (.slice (some ⟨grw, 0, none⟩) B.length capw) B.length (((((newsw).set (a * 2) l0).set (a * 2 + 1) l1).set (b * 2) r0).set (b * 2 + 1) r1) [(grw, .cells (putC (putC (curw) (0 + a * 2) [l0, l1]) (0 + b * 2) [r0, r1]) 27 (0, 0))] :=
          .inl ⟨by simpa using hxw2, .inr ⟨grw, _, _, rfl, rfl, hcapw, hcapwm, by simpa only [putC_size] using hszw, (row_put _ _ (row_put _ _ hcurw (by omega)) (by omega))⟩⟩
        have htw : RdL H11 (tN ((List.range n).map (wantF a b))).d [.string ⟨#[116]⟩, .slice (some ⟨grw, 0, none⟩) B.length capw] := by
          rw [← want_ne (by omega), ← hBd]
          exact tr_mk (rd.ofRowA hrw2 hz_rw (trs_set (trs_set hnw hdl) hdr) (Le.refl _))
        refine TC.region ?_
        refine TL.load_ownA 6 0 [_, _] rfl rfl rfl ⟨rfl, rfl, trivial⟩ rfl rfl ?_
        refine TL.load_ownA 4 0 [_, _] rfl rfl rfl ⟨rfl, rfl, trivial⟩ rfl rfl ?_
        refine TL.load_ownA 2 0 [_, _] rfl rfl rfl ⟨rfl, rfl, trivial⟩ rfl rfl ?_
        refine TL.call (merge_top (by omega) (by omega) (by omega) htb htl htr) ⟨rfl, rfl, rfl, trivial⟩ rfl ?_
        rintro _ _ H12 ⟨m0, m1, pm, rfl, hm, hpm, rfl, hle12⟩
        replace htw := RdL.mono hle12 htw
        rw [hBd, dis_R (by omega) ha hb] at hm hpm
        obtain ⟨Ap, cp, rfl⟩ := nil_paths hpm
        have hL := Le.trans hL hle12
        have hle9 := Le.trans hle9 hle12
        have hz_rb := hz.mono hle12 hz_rb
        have htb := RdL.mono hle12 htb
        have hA := rd.mono hle12 hA
        have hpa := hAt.mono hle12 hpa
        have hpb := hAt.mono hle12 hpb
        have hnl := RdL.mono hle12 hnl
        have hnr := RdL.mono hle12 hnr
        have hnw := RdL.mono hle12 hnw
        have hyx := RdL.mono hle12 hyx
        have hyy := RdL.mono hle12 hyy
        have hz_rl := hz.mono hle12 hz_rl
        have hz_rr := hz.mono hle12 hz_rr
        have hpl := hAt.mono hle12 hpl
        have hdl := RdL.mono hle12 hdl
        have hpr := hAt.mono hle12 hpr
        have hdr := RdL.mono hle12 hdr
        have htl := RdL.mono hle12 htl
        have htr := RdL.mono hle12 htr
        have hz_rw := hz.mono hle12 hz_rw
        refine TL.move rfl rfl ?_
        refine TL.extract rfl rfl rfl ?_
        refine TL.extract rfl rfl rfl ?_
        refine TL.new rfl ?_; intro g16
        refine TL.storeA 0 0 (vs := [m0, m1]) (c' := #[_, _]) (own' := [(_, .cells #[_, _] _ _)] :: _) rfl rfl rfl rfl rfl (tr_ones hm) (by simp) rfl rfl rfl ?_
        refine TL.assign rfl rfl ?_
        refine TL.nil ?_
        refine TQ.then_n ?_
        refine TC.seq ?_
        refine TC.region ?_
        refine TL.move rfl rfl ?_
        refine TL.move rfl rfl ?_
        refine TL.gyes rfl rfl rfl ?_
        refine TL.move rfl rfl ?_
        refine TL.gyes rfl rfl rfl ?_
        refine TL.len_slice rfl rfl ?_
        refine TL.gyes rfl rfl rfl ?_
        refine TL.eqlB rfl rfl rfl (fun hz0 => ?_) (fun hz0 => ?_)
        ·
         refine TL.pickT rfl rfl rfl rfl ?_
         refine TL.move rfl rfl ?_
         refine TL.gyes rfl rfl rfl ?_
         refine TL.load_ownA 0 0 [_, _] rfl rfl rfl ⟨rfl, rfl, trivial⟩ rfl rfl ?_
         refine TL.gyes rfl rfl rfl ?_
         refine TL.load_ownA 1 0 [_, _] rfl rfl rfl ⟨rfl, rfl, trivial⟩ rfl rfl ?_
         refine TL.gyes rfl rfl rfl ?_
         refine TL.call (ref_same _ _ _ (Nat.le_refl _) hm htw) ⟨rfl, rfl, trivial⟩ rfl ?_
         rintro _ _ H15 ⟨rfl, rfl, hle15⟩
         rw [eqb_self]
         have hL := Le.trans hL hle15
         have hle9 := Le.trans hle9 hle15
         have hz_rb := hz.mono hle15 hz_rb
         have htb := RdL.mono hle15 htb
         have hA := rd.mono hle15 hA
         have hpa := hAt.mono hle15 hpa
         have hpb := hAt.mono hle15 hpb
         have hnl := RdL.mono hle15 hnl
         have hnr := RdL.mono hle15 hnr
         have hnw := RdL.mono hle15 hnw
         have hyx := RdL.mono hle15 hyx
         have hyy := RdL.mono hle15 hyy
         have hz_rl := hz.mono hle15 hz_rl
         have hz_rr := hz.mono hle15 hz_rr
         have hpl := hAt.mono hle15 hpl
         have hdl := RdL.mono hle15 hdl
         have hpr := hAt.mono hle15 hpr
         have hdr := RdL.mono hle15 hdr
         have htl := RdL.mono hle15 htl
         have htr := RdL.mono hle15 htr
         have hz_rw := hz.mono hle15 hz_rw
         have hm := RdL.mono hle15 hm
         have htw := RdL.mono hle15 htw
         refine TL.pickT rfl rfl rfl rfl ?_
         refine TL.assign rfl rfl ?_
         refine TL.nil ?_
         refine TQ.then_n ?_
         refine TC.ret ?_
         refine TQ.ret1 8 rfl rfl ?_
         exact ⟨rfl, rfl, hL⟩
        ·
         exact absurd rfl hz0 -- dead

end Go.Proofs.Ytapmmfabdmhdnaa.K
