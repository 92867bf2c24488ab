/-
  Makers of statements, functions, names.
-/
import Derived.Test.YtapmmfabdmhdnaaMk
import Derived.Test.YtapmmfabdmhdnaaRenB
import Derived.Test.YtapmmfabdmhdnaaHelp
set_option linter.unusedVariables false
set_option linter.unusedSimpArgs false
set_option maxHeartbeats 4000000
namespace Go.Proofs.Ytapmmfabdmhdnaa.K
open Go Go.RowKit Go.Proofs

theorem wrap_u16 {n : Int} (h0 : 0 ≤ n) (h1 : n < 65536) : IntKind.u16.wrap n = n := by
  simp only [IntKind.wrap, IntKind.bits, IntKind.signed, Bool.false_and, Bool.false_eq_true, if_false]
  omega
theorem one_ex {H : Hp} {g : Nat} {e : Ex} {c0 c1 c2 c3 : Value} (hz : ∀ p ∈ ([(g, .cells #[c0, c1, c2, c3] 58 (0, 0))] : Seg), H p.1 = some p.2) (h : RdL H e.d [c0, c1, c2, c3]) : rd H (.s 4 (Ex.ds [e])) (.slice (some ⟨g, 0, none⟩) 1 1) :=
  rd.ofRow (Row.lit _ 4 1 _ _ rfl (by omega)) hz (ex_cons h (ex_nil _)) (Le.refl _)
theorem mk_Stmt {q0 q1 q2 : Int} (i0 : I64 q0) (i1 : I64 q1) (i2 : I64 q2) {w0 : World} {H : Hp} {own : List Seg} :
    Fn Try.prog 38 [.agg #[.int .i64 q0, .int .i64 q1, .int .i64 q2]] w0 H own (fun r own' H' => ∃ c0 c1 c2 c3 c4 c5 c6 c7 c8 c9 c10, r = .agg #[c0, c1, c2, c3, c4, c5, c6, c7, c8, c9, c10] ∧ RdL H' (stmtP (q0, q1, q2)).d [c0, c1, c2, c3, c4, c5, c6, c7, c8, c9, c10] ∧ own' = own ∧ Le H H') := by
  obtain ⟨n, hn⟩ : ∃ n, n = IntKind.u16.wrap q2 := ⟨_, rfl⟩
  have hw9 : IntKind.u16.wrap (q2 % 9) = q2 % 9 := wrap_u16 (Int.emod_nonneg _ (by omega)) (by have := Int.emod_lt_of_pos q2 (b := 9) (by omega); omega)
  have ho9 : (Value.int .u16 (q2 % 9)).oneCell' = true := rfl
  refine Fn.enter Try.func38 rfl Try.ntmps38 rfl ?_
  have hL := Le.refl H
  refine TC.seq ?_
  refine TC.region ?_
  refine TL.box (c := #[_, _, _]) rfl rfl rfl ?_; intro g1
  refine TL.new rfl ?_; intro g2
  refine TL.nil ?_
  refine TQ.then_n ?_
  refine TC.seq ?_
  refine TC.region ?_
  refine TL.load_ownA 1 0 [_, _, _] rfl rfl rfl ⟨rfl, rfl, rfl, trivial⟩ rfl rfl ?_
  refine TL.call (mk_value i1) ⟨rfl, trivial⟩ rfl ?_
  rintro _ _ H2 ⟨c0, c1, c2, c3, rfl, hv, rfl, hle2⟩
  have hL := Le.trans hL hle2
  refine TL.new rfl ?_; intro g3
  refine TL.storeA 0 0 (vs := [c0, c1, c2, c3]) (c' := #[_, _, _, _]) (own' := [(_, .cells #[_, _, _, _] _ _)] :: _) rfl rfl rfl rfl rfl (ex_ones hv) (by simp) rfl rfl rfl ?_
  refine TL.nil ?_
  refine TQ.then_n ?_
  refine TC.seq ?_
  refine TC.seq ?_
  refine TC.region ?_
  refine TL.indexArr (0) rfl rfl rfl (by omega) rfl ?_
  refine TL.load_own 2 0 rfl rfl rfl rfl rfl ?_
  refine TL.call (ref_Mod i0 (by omega) (by omega)) ⟨rfl, rfl, trivial⟩ rfl ?_
  rintro _ _ H3 ⟨rfl, rfl, hle3⟩
  have hL := Le.trans hL hle3
  have hv := RdL.mono hle3 hv
  refine TL.nil ?_
  refine TQ.then_n ?_
  refine TC.block ?_
  refine TC.seq ?_
  refine TC.region ?_
  refine TL.eqlB rfl rfl rfl (fun h0 => ?_) (fun h0 => ?_)
  ·
   refine TL.assign rfl rfl ?_
   refine TL.nil ?_
   refine TQ.then_n ?_
   refine TC.cond_t rfl ?_
   refine TC.seq ?_
   refine TC.drawQV 6  [(0, _), (1, _), (2, _), (3, _), (8, _)] follows_mixed ⟨rfl, rfl, rfl, rfl, rfl, trivial⟩ ?_
   refine ChainV.q (some 11) [] (by
    intro H' X F hle
    intro hF
    refine TL.indexArr (2) rfl rfl rfl (by omega) rfl ?_
    refine TL.nil ?_
    exact TQ.one [] hF (Le.refl _) ⟨rfl, rfl⟩) ?_
   refine ChainV.q (some 12) [(0, 0)] (by
    intro H' X F hle
    have hL := Le.trans hL hle
    have hv := RdL.mono hle hv
    intro hF
    refine TL.load_own 2 0 rfl rfl rfl rfl rfl ?_
    refine TL.nil ?_
    exact TQ.one [] hF (Le.refl _) ⟨rfl, rfl⟩) ?_
   refine ChainV.q (some 13) [(1, 0)] (by
    intro H' X F hle
    have hL := Le.trans hL hle
    have hv := RdL.mono hle hv
    intro hF
    refine TL.call (ref_Mod i2 (by omega) (by omega)) ⟨rfl, rfl, trivial⟩ rfl ?_
    rintro _ _ H4 ⟨rfl, rfl, hle4⟩
    refine TL.nil ?_
    exact TQ.one [] hF hle4 ⟨rfl, rfl⟩) ?_
   refine ChainV.q (some 14) [(2, 0)] (by
    intro H' X F hle
    have hL := Le.trans hL hle
    have hv := RdL.mono hle hv
    intro hF
    refine TL.convI rfl rfl ?_
    rw [hw9]
    refine TL.nil ?_
    exact TQ.one [] hF (Le.refl _) ⟨rfl, rfl⟩) ?_
   refine ChainV.q (some 15) [] (by
    intro H' X F hle
    have hL := Le.trans hL hle
    have hv := RdL.mono hle hv
    intro hF
    refine TL.load_ownA 0 0 [_, _, _, _] rfl rfl rfl ⟨rfl, rfl, rfl, rfl, trivial⟩ rfl rfl ?_
    refine TL.nil ?_
    exact TQ.one [] hF (Le.refl _) ⟨rfl, rfl⟩) ?_
   refine ChainV.r (some 16) [(4, 0)] ([]) (fun _ => fun u s H => rd H (.s 4 (Ex.ds [valueP q1 q2])) u ∧ s = []) (by
    intro H' X F hle
    have hL := Le.trans hL hle
    have hv := RdL.mono hle hv
    intro hF
    refine TL.litF (r := [_, _, _, _]) [(0, [_, _, _, _])] ⟨rfl, ⟨_, rfl, rfl⟩, trivial⟩ rfl rfl rfl rfl ?_; intro g16
    refine TL.nil ?_
    refine TQ.freeze (fun H3 hle3 hz => ?_)
    exact TQ.one [] hF hle3 ⟨one_ex hz (RdL.mono hle3 hv), rfl⟩) ?_
   refine ⟨by kernel_rfl, .refl _, ?_⟩
   ·
    intro H1 hle
    rintro r16 _ H16 hle16 ⟨hr16, rfl⟩
    replace hr16 := rd.mono hle16 hr16
    have hL := Le.trans hL hle
    have hv := RdL.mono hle hv
    refine TL.toOwn (own' := _ :: _ :: _ :: own) rfl ?_
    refine TL.wk (env' := [(0, _), (1, _), (2, _), (3, _), (8, _), (14, _), (16, _)]) ⟨rfl, rfl, rfl, rfl, rfl, rfl, rfl, trivial⟩ ?_
    refine TL.struct [(0, [_]), (3, [_]), (4, [_])] ⟨rfl, ⟨_, rfl, rfl⟩, rfl, ⟨_, rfl, rfl⟩, rfl, ⟨_, rfl, one_cells hr16.one⟩, trivial⟩ rfl rfl ?_
    refine TL.storeA 1 0 (c' := #[_, _, _, _, _, _, _, _, _, _, _]) (own' := _ :: [(_, .cells #[_, _, _, _, _, _, _, _, _, _, _] _ _)] :: _) rfl rfl rfl rfl rfl ⟨rfl, rfl, rfl, rfl, rfl, rfl, rfl, hr16.one, rfl, rfl, rfl, trivial⟩ (by simp [putC]) (putC_all rfl) rfl rfl ?_
    refine TL.nil ?_
    refine TQ.then_n ?_
    refine TC.ret ?_
    refine TQ.in_r ?_
    refine TQ.then_r ?_
    refine TQ.retC 1 0 3 [_, _, _, _, _, _, _, _, _, _, _] rfl rfl rfl rfl ⟨rfl, rfl, rfl, rfl, rfl, rfl, rfl, rfl, rfl, rfl, rfl, trivial⟩ rfl rfl ?_
    refine ⟨_, _, _, _, _, _, _, _, _, _, _, rfl, ?_, rfl, hL⟩
    simp only [stmtP]
    rw [if_pos h0]
    exact sm_mk hr16 (rd.nil _ _)
  ·
   refine TL.assign rfl rfl ?_
   refine TL.nil ?_
   refine TQ.then_n ?_
   refine TC.cond_f rfl ?_
   refine TC.seq ?_
   refine TC.region ?_
   refine TL.eqlB rfl rfl rfl (fun h1 => ?_) (fun h1 => ?_)
   ·
    refine TL.assign rfl rfl ?_
    refine TL.nil ?_
    refine TQ.then_n ?_
    refine TC.cond_t rfl ?_
    refine TC.seq ?_
    refine TC.drawQV 2  [(0, _), (1, _), (2, _), (3, _), (8, _)] follows_mixed ⟨rfl, rfl, rfl, rfl, rfl, trivial⟩ ?_
    refine ChainV.q (some 20) [] (by
     intro H' X F hle
     have hL := Le.trans hL hle
     have hv := RdL.mono hle hv
     intro hF
     refine TL.call (mk_name) ⟨rfl, trivial⟩ rfl ?_
     rintro _ _ H2 ⟨rfl, rfl, hle2⟩
     refine TL.nil ?_
     exact TQ.one [] hF hle2 ⟨rfl, rfl⟩) ?_
    refine ChainV.q (some 21) [] (by
     intro H' X F hle
     have hL := Le.trans hL hle
     have hv := RdL.mono hle hv
     intro hF
     refine TL.load_ownA 0 0 [_, _, _, _] rfl rfl rfl ⟨rfl, rfl, rfl, rfl, trivial⟩ rfl rfl ?_
     refine TL.nil ?_
     exact TQ.one [] hF (Le.refl _) ⟨rfl, rfl⟩) ?_
    refine ⟨by kernel_rfl, .refl _, ?_⟩
    ·
     intro H2 hle
     have hL := Le.trans hL hle
     have hv := RdL.mono hle hv
     refine TL.toOwn (own' := _ :: _ :: _ :: own) rfl ?_
     refine TL.wk (env' := [(0, _), (1, _), (2, _), (3, _), (8, _), (20, _), (21, _)]) ⟨rfl, rfl, rfl, rfl, rfl, rfl, rfl, trivial⟩ ?_
     refine TL.litF (r := [_, _, _, _, _, _, _, _]) [(0, [_, _, _, _]), (1, [_, _, _, _])] ⟨rfl, ⟨_, rfl, rfl⟩, rfl, ⟨_, rfl, rfl⟩, trivial⟩ rfl rfl rfl rfl ?_; intro g22
     refine TL.struct [(0, [_]), (4, [_])] ⟨rfl, ⟨_, rfl, rfl⟩, rfl, ⟨_, rfl, rfl⟩, trivial⟩ rfl rfl ?_
     refine TL.storeA 2 0 (c' := #[_, _, _, _, _, _, _, _, _, _, _]) (own' := _ :: _ :: [(_, .cells #[_, _, _, _, _, _, _, _, _, _, _] _ _)] :: _) rfl rfl rfl rfl rfl ⟨rfl, rfl, rfl, rfl, rfl, rfl, rfl, rfl, rfl, rfl, rfl, trivial⟩ (by simp [putC]) (putC_all rfl) rfl rfl ?_
     refine TL.nil ?_
     refine TQ.then_n ?_
     refine TC.ret ?_
     refine TQ.in_r ?_
     refine TQ.then_r ?_
     refine TQ.freeze (fun H3 hle hz_g22 => ?_)
     have hL := Le.trans hL hle
     have hv := RdL.mono hle hv
     refine TQ.retC 1 0 3 [_, _, _, _, _, _, _, _, _, _, _] rfl rfl rfl rfl ⟨rfl, rfl, rfl, rfl, rfl, rfl, rfl, rfl, rfl, rfl, rfl, trivial⟩ rfl rfl ?_
     refine ⟨_, _, _, _, _, _, _, _, _, _, _, rfl, ?_, rfl, hL⟩
     simp only [stmtP]
     rw [if_neg h0, if_pos h1]
     exact sm_mk (rd.ofRow (Row.lit _ 4 2 _ _ rfl (by omega)) hz_g22 (ex_cons (name_d _ _) (ex_cons hv (ex_nil _))) (Le.refl _)) (rd.nil _ _)
   ·
    refine TL.assign rfl rfl ?_
    refine TL.nil ?_
    refine TQ.then_n ?_
    refine TC.cond_f rfl ?_
    refine TC.seq ?_
    refine TC.region ?_
    refine TL.eqlB rfl rfl rfl (fun h2 => ?_) (fun h2 => ?_)
    ·
     refine TL.assign rfl rfl ?_
     refine TL.nil ?_
     refine TQ.then_n ?_
     refine TC.cond_t rfl ?_
     refine TC.seq ?_
     refine TC.drawQV 6  [(0, _), (1, _), (2, _), (3, _), (8, _)] follows_mixed ⟨rfl, rfl, rfl, rfl, rfl, trivial⟩ ?_
     refine ChainV.q (some 26) [] (by
      intro H' X F hle
      have hL := Le.trans hL hle
      have hv := RdL.mono hle hv
      intro hF
      refine TL.load_ownA 0 0 [_, _, _, _] rfl rfl rfl ⟨rfl, rfl, rfl, rfl, trivial⟩ rfl rfl ?_
      refine TL.nil ?_
      exact TQ.one [] hF (Le.refl _) ⟨rfl, rfl⟩) ?_
     refine ChainV.r (some 27) [(0, 0)] ([]) (fun _ => fun u s H => rd H (.s 4 (Ex.ds [valueP q1 q2])) u ∧ s = []) (by
      intro H' X F hle
      have hL := Le.trans hL hle
      have hv := RdL.mono hle hv
      intro hF
      refine TL.litF (r := [_, _, _, _]) [(0, [_, _, _, _])] ⟨rfl, ⟨_, rfl, rfl⟩, trivial⟩ rfl rfl rfl rfl ?_; intro g27
      refine TL.nil ?_
      refine TQ.freeze (fun H3 hle3 hz => ?_)
      exact TQ.one [] hF hle3 ⟨one_ex hz (RdL.mono hle3 hv), rfl⟩) ?_
     refine ChainV.q (some 28) [] (by
      intro H' X F hle
      have hL := Le.trans hL hle
      have hv := RdL.mono hle hv
      intro hF
      refine TL.call (mk_name) ⟨rfl, trivial⟩ rfl ?_
      rintro _ _ H2 ⟨rfl, rfl, hle2⟩
      refine TL.nil ?_
      exact TQ.one [] hF hle2 ⟨rfl, rfl⟩) ?_
     refine ChainV.r (some 29) [(2, 0)] ([]) (fun _ => fun u s H => rd H (.s 4 (Ex.ds [nameE nA])) u ∧ s = []) (by
      intro H' X F hle
      have hL := Le.trans hL hle
      have hv := RdL.mono hle hv
      intro hF
      refine TL.litF (r := [_, _, _, _]) [(0, [_, _, _, _])] ⟨rfl, ⟨_, rfl, rfl⟩, trivial⟩ rfl rfl rfl rfl ?_; intro g29
      refine TL.nil ?_
      refine TQ.freeze (fun H3 hle3 hz => ?_)
      exact TQ.one [] hF hle3 ⟨one_ex hz (name_d _ _), rfl⟩) ?_
     refine ChainV.r (some 30) [(3, 0)] ([]) (fun _ => fun u s H => ∃ r, u = .agg #[.int .i64 11, .string ⟨#[]⟩, .int .i64 0, .string ⟨#[]⟩, .int .i64 0, .slice none 0 0, .int .u16 1, r, .slice none 0 0, .slice none 0 0, .slice none 0 0] ∧ rd H (.s 4 (Ex.ds [nameE nA])) r ∧ s = []) (by
      intro H' X F hle
      have hL := Le.trans hL hle
      have hv := RdL.mono hle hv
      intro _
      rintro r29 _ H29 hle29 ⟨hr29, rfl⟩
      replace hr29 := rd.mono hle29 hr29
      intro hF
      refine TL.struct [(0, [_]), (3, [_]), (4, [_])] ⟨rfl, ⟨_, rfl, rfl⟩, rfl, ⟨_, rfl, rfl⟩, rfl, ⟨_, rfl, one_cells hr29.one⟩, trivial⟩ rfl rfl ?_
      refine TL.nil ?_
      exact TQ.one [] hF (Le.refl _) ⟨_, rfl, hr29, rfl⟩) ?_
     refine ChainV.r (some 31) [(4, 0)] ([]) (fun _ => fun u s H => rd H (.s 11 (Sm.ds [smK 11 1 [nameE nA] []])) u ∧ s = []) (by
      intro H' X F hle
      have hL := Le.trans hL hle
      have hv := RdL.mono hle hv
      intro _
      rintro _ _ H30 hle30 ⟨r30, rfl, hr30, rfl⟩
      replace hr30 := rd.mono hle30 hr30
      intro hF
      refine TL.litF (r := [_, _, _, _, _, _, _, _, _, _, _]) [(0, [_, _, _, _, _, _, _, _, _, _, _])] ⟨rfl, ⟨_, rfl, rfl⟩, trivial⟩ rfl rfl rfl rfl ?_; intro g31
      refine TL.nil ?_
      refine TQ.freeze (fun H3 hle3 hz => ?_)
      exact TQ.one [] hF hle3 ⟨rd.ofRow (Row.lit _ 11 1 _ _ rfl (by omega)) hz (by rw [Sm.ds, Sm.ds, List.append_nil]; exact sm_mk (rd.mono hle3 hr30) (rd.nil _ _)) (Le.refl _), rfl⟩) ?_
     refine ⟨by kernel_rfl, .refl _, ?_⟩
     ·
      intro H4 hle
      rintro r27 _ H27 hle27 ⟨hr27, rfl⟩
      replace hr27 := rd.mono hle27 hr27
      rintro r29 _ H29 hle29 ⟨hr29, rfl⟩
      replace hr29 := rd.mono hle29 hr29
      rintro _ _ H30 hle30 ⟨r30, rfl, hr30, rfl⟩
      replace hr30 := rd.mono hle30 hr30
      rintro r31 _ H31 hle31 ⟨hr31, rfl⟩
      replace hr31 := rd.mono hle31 hr31
      have hL := Le.trans hL hle
      have hv := RdL.mono hle hv
      refine TL.toOwn (own' := _ :: _ :: _ :: own) rfl ?_
      refine TL.wk (env' := [(0, _), (1, _), (2, _), (3, _), (8, _), (27, _), (31, _)]) ⟨rfl, rfl, rfl, rfl, rfl, rfl, rfl, trivial⟩ ?_
      refine TL.struct [(0, [_]), (4, [_]), (5, [_])] ⟨rfl, ⟨_, rfl, rfl⟩, rfl, ⟨_, rfl, one_cells hr27.one⟩, rfl, ⟨_, rfl, one_cells hr31.one⟩, trivial⟩ rfl rfl ?_
      refine TL.storeA 1 0 (c' := #[_, _, _, _, _, _, _, _, _, _, _]) (own' := _ :: [(_, .cells #[_, _, _, _, _, _, _, _, _, _, _] _ _)] :: _) rfl rfl rfl rfl rfl ⟨rfl, rfl, rfl, rfl, rfl, rfl, rfl, hr27.one, hr31.one, rfl, rfl, trivial⟩ (by simp [putC]) (putC_all rfl) rfl rfl ?_
      refine TL.nil ?_
      refine TQ.then_n ?_
      refine TC.ret ?_
      refine TQ.in_r ?_
      refine TQ.then_r ?_
      refine TQ.retC 1 0 3 [_, _, _, _, _, _, _, _, _, _, _] rfl rfl rfl rfl ⟨rfl, rfl, rfl, rfl, rfl, rfl, rfl, rfl, rfl, rfl, rfl, trivial⟩ rfl rfl ?_
      refine ⟨_, _, _, _, _, _, _, _, _, _, _, rfl, ?_, rfl, hL⟩
      simp only [stmtP]
      rw [if_neg h0, if_neg h1, if_pos h2]
      exact sm_mk hr27 hr31
    ·
     refine TL.assign rfl rfl ?_
     refine TL.nil ?_
     refine TQ.then_n ?_
     refine TC.cond_f rfl ?_
     refine TC.seq ?_
     refine TC.region ?_
     refine TL.eqlB rfl rfl rfl (fun h3 => ?_) (fun h3 => ?_)
     ·
      refine TL.assign rfl rfl ?_
      refine TL.nil ?_
      refine TQ.then_n ?_
      refine TC.cond_t rfl ?_
      refine TC.seq ?_
      refine TC.region ?_
      refine TL.load_ownA 0 0 [_, _, _, _] rfl rfl rfl ⟨rfl, rfl, rfl, rfl, trivial⟩ rfl rfl ?_
      refine TL.litF (r := [_, _, _, _]) [(0, [_, _, _, _])] ⟨rfl, ⟨_, rfl, rfl⟩, trivial⟩ rfl rfl rfl rfl ?_; intro g36
      refine TL.struct [(0, [_]), (1, [_]), (3, [_])] ⟨rfl, ⟨_, rfl, rfl⟩, rfl, ⟨_, rfl, rfl⟩, rfl, ⟨_, rfl, rfl⟩, trivial⟩ rfl rfl ?_
      refine TL.litF (r := [_, _, _, _]) [(0, [_, _, _, _])] ⟨rfl, ⟨_, rfl, rfl⟩, trivial⟩ rfl rfl rfl rfl ?_; intro g38
      refine TL.struct [(0, [_]), (4, [_])] ⟨rfl, ⟨_, rfl, rfl⟩, rfl, ⟨_, rfl, rfl⟩, trivial⟩ rfl rfl ?_
      refine TL.storeA 3 0 (c' := #[_, _, _, _, _, _, _, _, _, _, _]) (own' := _ :: _ :: _ :: [(_, .cells #[_, _, _, _, _, _, _, _, _, _, _] _ _)] :: _) rfl rfl rfl rfl rfl ⟨rfl, rfl, rfl, rfl, rfl, rfl, rfl, rfl, rfl, rfl, rfl, trivial⟩ (by simp [putC]) (putC_all rfl) rfl rfl ?_
      refine TL.nil ?_
      refine TQ.then_n ?_
      refine TC.ret ?_
      refine TQ.in_r ?_
      refine TQ.then_r ?_
      refine TQ.sel 5 [1, 0, 2, 3, 4] rfl (fun o ho => ?_)
      simp only [K.sel, List.map_cons, List.map_nil, List.getD_cons_zero, List.getD_cons_succ, List.drop_succ_cons, List.drop_zero, List.cons_append, List.nil_append, List.set_cons_zero, List.set_cons_succ] at ho; subst ho
      refine TQ.freeze (fun H5 hle hz_g36 => ?_)
      have hL := Le.trans hL hle
      have hv := RdL.mono hle hv
      refine TQ.freeze (fun H6 hle hz_g38 => ?_)
      have hL := Le.trans hL hle
      have hv := RdL.mono hle hv
      have hz_g36 := hz.mono hle hz_g36
      refine TQ.retC 1 0 3 [_, _, _, _, _, _, _, _, _, _, _] rfl rfl rfl rfl ⟨rfl, rfl, rfl, rfl, rfl, rfl, rfl, rfl, rfl, rfl, rfl, trivial⟩ rfl rfl ?_
      refine ⟨_, _, _, _, _, _, _, _, _, _, _, rfl, ?_, rfl, hL⟩
      simp only [stmtP]
      rw [if_neg h0, if_neg h1, if_neg h2, if_pos h3]
      exact sm_mk (one_ex hz_g38 (ex_mk (one_ex hz_g36 hv))) (rd.nil _ _)
     ·
      refine TL.assign rfl rfl ?_
      refine TL.nil ?_
      refine TQ.then_n ?_
      refine TC.cond_f rfl ?_
      refine TC.skip ?_
      refine TQ.in_n ?_
      refine TQ.then_n ?_
      refine TC.seq ?_
      refine TC.region ?_
      refine TL.indexArr (2) rfl rfl rfl (by omega) rfl ?_
      refine TL.load_own 2 0 rfl rfl rfl rfl rfl ?_
      refine TL.convI rfl rfl ?_
      rw [← hn]
      refine TL.call (mk_num) ⟨rfl, trivial⟩ rfl ?_
      rintro _ _ H5 ⟨rfl, rfl, hle5⟩
      have hL := Le.trans hL hle5
      have hv := RdL.mono hle5 hv
      refine TL.litF (r := [_, _, _, _]) [(0, [_, _, _, _])] ⟨rfl, ⟨_, rfl, rfl⟩, trivial⟩ rfl rfl rfl rfl ?_; intro g44
      refine TL.struct [(0, [_]), (3, [_]), (4, [_])] ⟨rfl, ⟨_, rfl, rfl⟩, rfl, ⟨_, rfl, rfl⟩, rfl, ⟨_, rfl, rfl⟩, trivial⟩ rfl rfl ?_
      refine TL.storeA 2 0 (c' := #[_, _, _, _, _, _, _, _, _, _, _]) (own' := _ :: _ :: [(_, .cells #[_, _, _, _, _, _, _, _, _, _, _] _ _)] :: _) rfl rfl rfl rfl rfl ⟨rfl, rfl, rfl, rfl, rfl, rfl, rfl, rfl, rfl, rfl, rfl, trivial⟩ (by simp [putC]) (putC_all rfl) rfl rfl ?_
      refine TL.nil ?_
      refine TQ.then_n ?_
      refine TC.ret ?_
      refine TQ.freeze (fun H7 hle hz_g44 => ?_)
      have hL := Le.trans hL hle
      have hv := RdL.mono hle hv
      refine TQ.retC 1 0 3 [_, _, _, _, _, _, _, _, _, _, _] rfl rfl rfl rfl ⟨rfl, rfl, rfl, rfl, rfl, rfl, rfl, rfl, rfl, rfl, rfl, trivial⟩ rfl rfl ?_
      refine ⟨_, _, _, _, _, _, _, _, _, _, _, rfl, ?_, rfl, hL⟩
      simp only [stmtP]
      rw [if_neg h0, if_neg h1, if_neg h2, if_neg h3, ← hn]
      exact sm_mk (one_ex hz_g44 (num_d _ _)) (rd.nil _ _)
theorem mk_Func {l : List (Int × Int × Int)} (hq : ∀ x ∈ l, I64 x.1 ∧ I64 x.2.1 ∧ I64 x.2.2) {w0 : World} {H : Hp} {own : List Seg} {v : Value} (hA : rd H (.s 3 (trips l)) v) :
    Fn Try.prog 23 [v] w0 H own (fun r own' H' => ∃ vp u xs seg, r = .agg #[.string (bs [109, 97, 105, 110]), vp, .int .i64 7, .string ⟨#[]⟩, .int .i64 0, .slice none 0 0, u, .bool false, .int .i64 0, .int .u16 0] ∧
      rd H' (.s 5 (Par.ds (funcP l).ps)) vp ∧ own' = seg :: own ∧ Row 61 11 u (funcP l).body.length xs seg ∧ RdL H' (Sm.ds (funcP l).body) xs ∧ Le H H') := by
  obtain ⟨A, c, rfl, hc1, hc2⟩ := trips_len hA
  refine Fn.enter Try.func23 rfl Try.ntmps23 rfl ?_
  have hL := Le.refl H
  refine TC.seq ?_
  refine TC.region ?_
  refine TL.new rfl ?_; intro g2
  refine TL.nil ?_
  refine TQ.then_n ?_
  refine TC.seq ?_
  refine TC.region ?_
  refine TL.struct [(0, [_])] ⟨rfl, ⟨_, rfl, rfl⟩, trivial⟩ rfl rfl ?_
  refine TL.struct [(0, [_]), (1, [_, _, _, _])] ⟨rfl, ⟨_, rfl, rfl⟩, rfl, ⟨_, rfl, rfl⟩, trivial⟩ rfl rfl ?_
  refine TL.litF (r := [_, _, _, _, _]) [(0, [_, _, _, _, _])] ⟨rfl, ⟨_, rfl, rfl⟩, trivial⟩ rfl rfl rfl rfl ?_; intro g7
  refine TL.struct [(0, [_])] ⟨rfl, ⟨_, rfl, rfl⟩, trivial⟩ rfl rfl ?_
  refine TL.struct [(0, [_]), (1, [_]), (2, [_, _, _, _])] ⟨rfl, ⟨_, rfl, rfl⟩, rfl, ⟨_, rfl, rfl⟩, rfl, ⟨_, rfl, rfl⟩, trivial⟩ rfl rfl ?_
  refine TL.new rfl ?_; intro g3
  refine TL.storeA 0 0 (c' := #[_, _, _, _, _, _, _, _, _, _]) (own' := [(_, .cells #[_, _, _, _, _, _, _, _, _, _] _ _)] :: _) rfl rfl rfl rfl rfl ⟨rfl, rfl, rfl, rfl, rfl, rfl, rfl, rfl, rfl, rfl, trivial⟩ (by simp [putC]) (putC_all rfl) rfl rfl ?_
  refine TL.nil ?_
  refine TQ.then_n ?_
  refine TC.seq ?_
  refine TC.seq ?_
  refine TC.sel 3 [1, 0, 2] rfl (fun o ho => ?_)
  simp only [K.sel, List.map_cons, List.map_nil, List.getD_cons_zero, List.getD_cons_succ, List.drop_succ_cons, List.drop_zero, List.cons_append, List.nil_append, List.set_cons_zero, List.set_cons_succ] at ho; subst ho
  refine TC.freeze (fun H1 hle hz_g7 => ?_)
  have hL := Le.trans hL hle
  have hA := rd.mono hle hA
  refine TC.nilseg ?_
  obtain ⟨vp, hvpe⟩ : ∃ vp : Value, vp = .slice (some ⟨g7, 0, none⟩) 1 1 := ⟨_, rfl⟩
  have hvp : rd H1 (.s 5 (Par.ds (funcP l).ps)) vp := by rw [hvpe]; exact rd.ofRow (Row.lit 89 5 1 _ _ rfl (by omega)) hz_g7 ⟨by simp [rd, nA, bs], by simp [rd], by simp [rd], by simp [rd], rd.nil _ _, trivial⟩ (Le.refl _)
  rw [← hvpe]
  refine TC.region ?_
  refine TL.assign rfl rfl ?_
  refine TL.nil ?_
  refine TQ.then_n ?_
  refine TC.block ?_
  refine TC.loop (fun z env' own' H' => ∃ (i : Nat) (u : Value) (xs : List Value) (seg : Seg), z = 12 - i ∧ i ≤ l.length ∧ i ≤ 12 ∧ Row 61 11 u i xs seg ∧ RdL H' (Sm.ds ((l.take i).map stmtP)) xs ∧ env' = [(0, .slice A l.length c), (2, .pointer (some ⟨g2, 0, none⟩)), (3, .pointer (some ⟨g3, 0, none⟩)), (4, .int .i64 (i : Int))] ∧ own' = seg :: [(g3, .cells #[.string (bs [109, 97, 105, 110]), vp, .int .i64 7, .string ⟨#[]⟩, .int .i64 0, .slice none 0 0, u, .bool false, .int .i64 0, .int .u16 0] 54 (0, 0))] :: [(g2, .cells #[.string ⟨#[]⟩, .slice none 0 0, .int .i64 0, .string ⟨#[]⟩, .int .i64 0, .slice none 0 0, .slice none 0 0, .bool false, .int .i64 0, .int .u16 0] 54 (0, 0))] :: own ∧ Le H1 H') 12 [(0, _), (2, _), (3, _), (4, _)] ⟨rfl, rfl, rfl, rfl, trivial⟩ ⟨0, _, [], [], by omega, by omega, by omega, Row.nil 61 11, by simp [Sm.ds, RdL], rfl, rfl, Le.refl _⟩ ?_
  rintro z _ _ H1 ⟨i, u, xs, seg, rfl, hi, hi12, hrow, hxs, rfl, rfl, hle0⟩
  have hL := Le.trans hL hle0
  have hA := rd.mono hle0 hA
  have hz_g7 := hz.mono hle0 hz_g7
  have hvp := rd.mono hle0 hvp
  refine TC.seq ?_
  refine TC.seq ?_
  refine TC.region ?_
  refine TL.move rfl rfl ?_
  refine TL.move rfl rfl ?_
  refine TL.len_slice rfl rfl ?_
  refine TL.lssB rfl rfl rfl (fun hlt => ?_) (fun hlt => ?_)
  ·
   refine TL.move rfl rfl ?_
   refine TL.gyes rfl rfl rfl ?_
   refine TL.move rfl rfl ?_
   refine TL.gyes rfl rfl rfl ?_
   refine TL.lssB rfl rfl rfl (fun hlt2 => ?_) (fun hlt2 => ?_)
   ·
    obtain ⟨x, hx⟩ : ∃ x, l[i]? = some x := ⟨_, List.getElem?_eq_getElem (by omega)⟩
    obtain ⟨j0, j1, j2⟩ := hq x (List.mem_of_getElem? hx)
    obtain ⟨b1, o1, rfl, hp⟩ := trips_at hA hx
    obtain ⟨x0, x1, x2⟩ := x
    refine TL.pickT rfl rfl rfl rfl ?_
    refine TL.nil ?_
    refine TQ.then_n ?_
    refine TC.cond_t rfl ?_
    refine TC.skip ?_
    refine TQ.then_n ?_
    refine TC.seq ?_
    refine TC.block ?_
    refine TC.drawQV 8  [(0, _), (2, _), (3, _), (4, _)] follows_mixed ⟨rfl, rfl, rfl, rfl, trivial⟩ ?_
    refine ChainV.q (some 20) [] (by
     intro H' X F hle
     intro hF
     refine TL.fieldAddr rfl rfl ?_
     refine TL.nil ?_
     exact TQ.one [] hF (Le.refl _) ⟨rfl, rfl⟩) ?_
    refine ChainV.q (some 21) [(0, 0)] (by
     intro H' X F hle
     have hL := Le.trans hL hle
     have hA := rd.mono hle hA
     have hz_g7 := hz.mono hle hz_g7
     have hvp := rd.mono hle hvp
     have hle0 := Le.trans hle0 hle
     have hxs := RdL.mono hle hxs
     have hp := hAt.mono hle hp
     intro hF
     refine TL.load_own 1 0 rfl rfl rfl rfl rfl ?_
     refine TL.nil ?_
     exact TQ.one [] hF (Le.refl _) ⟨rfl, rfl⟩) ?_
    refine ChainV.q (some 22) [] (by
     intro H' X F hle
     intro hF
     refine TL.move rfl rfl ?_
     refine TL.nil ?_
     exact TQ.one [] hF (Le.refl _) ⟨rfl, rfl⟩) ?_
    refine ChainV.q (some 23) [] (by
     intro H' X F hle
     intro hF
     refine TL.move rfl rfl ?_
     refine TL.nil ?_
     exact TQ.one [] hF (Le.refl _) ⟨rfl, rfl⟩) ?_
    refine ChainV.q (some 24) [(2, 1), (3, 0)] (by
     intro H' X F hle
     intro hF
     refine TL.indexAddr (i) rfl rfl rfl (by omega) rfl ?_
     refine TL.nil ?_
     exact TQ.one [] hF (Le.refl _) ⟨rfl, rfl⟩) ?_
    refine ChainV.q (some 25) [(4, 0)] (by
     intro H' X F hle
     have hL := Le.trans hL hle
     have hA := rd.mono hle hA
     have hz_g7 := hz.mono hle hz_g7
     have hvp := rd.mono hle hvp
     have hle0 := Le.trans hle0 hle
     have hxs := RdL.mono hle hxs
     have hp := hAt.mono hle hp
     intro hF
     refine TL.load_immA rfl (hp) rfl rfl ?_
     refine TL.nil ?_
     exact TQ.one [] hF (Le.refl _) ⟨rfl, rfl⟩) ?_
    refine ChainV.r (some 26) [(5, 0)] ([]) (fun _ => fun u s H => ∃ c0 c1 c2 c3 c4 c5 c6 c7 c8 c9 c10, u = .agg #[c0, c1, c2, c3, c4, c5, c6, c7, c8, c9, c10] ∧ RdL H (stmtP (x0, x1, x2)).d [c0, c1, c2, c3, c4, c5, c6, c7, c8, c9, c10] ∧ s = []) (by
     intro H' X F hle
     have hL := Le.trans hL hle
     have hA := rd.mono hle hA
     have hz_g7 := hz.mono hle hz_g7
     have hvp := rd.mono hle hvp
     have hle0 := Le.trans hle0 hle
     have hxs := RdL.mono hle hxs
     have hp := hAt.mono hle hp
     intro hF
     refine TL.call (mk_Stmt j0 j1 j2) ⟨rfl, trivial⟩ rfl ?_
     rintro _ _ H2 ⟨c0, c1, c2, c3, c4, c5, c6, c7, c8, c9, c10, rfl, hr, rfl, hle2⟩
     refine TL.nil ?_
     exact TQ.one [] hF hle2 ⟨c0, c1, c2, c3, c4, c5, c6, c7, c8, c9, c10, rfl, hr, rfl⟩) ?_
    refine ChainV.r (some 27) [(6, 0)] ([]) (fun _ => fun u s H => ∃ g c0 c1 c2 c3 c4 c5 c6 c7 c8 c9 c10, u = .slice (some ⟨g, 0, none⟩) 1 1 ∧ s = [[(g, .cells #[c0, c1, c2, c3, c4, c5, c6, c7, c8, c9, c10] 61 (0, 0))]] ∧ RdL H (stmtP (x0, x1, x2)).d [c0, c1, c2, c3, c4, c5, c6, c7, c8, c9, c10]) (by
     intro H' X F hle
     have hL := Le.trans hL hle
     have hA := rd.mono hle hA
     have hz_g7 := hz.mono hle hz_g7
     have hvp := rd.mono hle hvp
     have hle0 := Le.trans hle0 hle
     have hxs := RdL.mono hle hxs
     have hp := hAt.mono hle hp
     intro _
     rintro _ _ Hr hler ⟨c0, c1, c2, c3, c4, c5, c6, c7, c8, c9, c10, rfl, hr, rfl⟩
     intro hF
     refine TL.litF (r := [_, _, _, _, _, _, _, _, _, _, _]) [(0, [_, _, _, _, _, _, _, _, _, _, _])] ⟨rfl, ⟨_, rfl, rfl⟩, trivial⟩ rfl rfl rfl rfl ?_; intro g27
     refine TL.nil ?_
     exact TQ.one [_] hF (Le.refl _) ⟨_, _, _, _, _, _, _, _, _, _, _, _, rfl, rfl, RdL.mono hler hr⟩) ?_
    refine ⟨by kernel_rfl, .refl _, ?_⟩
    ·
     intro H2 hle
     rintro _ _ Hr hler ⟨c0, c1, c2, c3, c4, c5, c6, c7, c8, c9, c10, rfl, hr, rfl⟩
     rintro _ _ Hr27 hler27 ⟨g27, c0, c1, c2, c3, c4, c5, c6, c7, c8, c9, c10, rfl, rfl, hr27⟩
     replace hr27 := RdL.mono hler27 hr27
     have hL := Le.trans hL hle
     have hA := rd.mono hle hA
     have hz_g7 := hz.mono hle hz_g7
     have hvp := rd.mono hle hvp
     have hle0 := Le.trans hle0 hle
     have hxs := RdL.mono hle hxs
     have hp := hAt.mono hle hp
     refine TL.toOwn (own' := _ :: _ :: _ :: _ :: own) rfl ?_
     refine TL.wk (env' := [(0, _), (2, _), (3, _), (4, _), (21, _), (27, _)]) ⟨rfl, rfl, rfl, rfl, rfl, rfl, trivial⟩ ?_
     refine TL.append 1 rfl rfl rfl hrow (Src.ofOwn 0 0 rfl rfl rfl (Ones.all (RdL.ones hr27 (Sm.one _))) ⟨rfl, rfl, rfl, rfl, rfl, rfl, rfl, rfl, rfl, rfl, rfl, trivial⟩) (by omega) (by omega) rfl ?_
     intro v' seg' hrow'
     refine TL.fieldAddr rfl rfl ?_
     refine TL.store1 2 0 (c' := #[_, _, _, _, _, _, _, _, _, _]) (own' := _ :: _ :: [(_, .cells #[_, _, _, _, _, _, _, _, _, _] _ _)] :: _) rfl rfl rfl rfl hrow'.one (by simp) rfl rfl rfl ?_
     refine TL.nil ?_
     refine TQ.in_n ?_
     refine TQ.then_n ?_
     refine TC.region ?_
     refine TL.move rfl rfl ?_
     refine TL.add rfl rfl rfl ⟨by omega, by omega⟩ ?_
     refine TL.assign rfl rfl ?_
     refine TL.nil ?_
     refine TQ.sel 4 [1, 2, 3] rfl (fun o ho => ?_)
     simp only [K.sel, List.map_cons, List.map_nil, List.getD_cons_zero, List.getD_cons_succ, List.drop_succ_cons, List.drop_zero, List.cons_append, List.nil_append, List.set_cons_zero, List.set_cons_succ] at ho; subst ho
     refine TQ.next (12 - (i + 1)) [(0, _), (2, _), (3, _), (4, _)] (by omega) ⟨rfl, rfl, rfl, rfl, trivial⟩ ⟨i + 1, v', _, seg', rfl, by omega, by omega, hrow', ?_, by simp, rfl, hle0⟩
     rw [List.take_add_one, hx, List.map_append]
     exact sms_snoc hxs hr27
   ·
    refine TL.pickT rfl rfl rfl rfl ?_
    refine TL.nil ?_
    refine TQ.then_n ?_
    refine TC.cond_f rfl ?_
    refine TC.exit ?_
    refine TQ.then_e ?_
    refine TQ.then_e ?_
    refine TQ.in_e ?_
    refine TQ.then_n ?_
    refine TC.seq ?_
    refine TC.region ?_
    refine TL.load_ownA 1 0 [_, _, _, _, _, _, _, _, _, _] rfl rfl rfl ⟨rfl, rfl, rfl, rfl, rfl, rfl, rfl, rfl, rfl, rfl, trivial⟩ rfl rfl ?_
    refine TL.storeA 2 0 (c' := #[_, _, _, _, _, _, _, _, _, _]) (own' := _ :: _ :: [(_, .cells #[_, _, _, _, _, _, _, _, _, _] _ _)] :: _) rfl rfl rfl rfl rfl ⟨rfl, hvp.one, rfl, rfl, rfl, rfl, hrow.one, rfl, rfl, rfl, trivial⟩ (by simp [putC]) (putC_all rfl) rfl rfl ?_
    refine TL.nil ?_
    refine TQ.then_n ?_
    refine TC.ret ?_
    refine TQ.sel 3 [2, 1, 0] rfl (fun o ho => ?_)
    simp only [K.sel, List.map_cons, List.map_nil, List.getD_cons_zero, List.getD_cons_succ, List.drop_succ_cons, List.drop_zero, List.cons_append, List.nil_append, List.set_cons_zero, List.set_cons_succ] at ho; subst ho
    refine TQ.retC 0 0 2 [_, _, _, _, _, _, _, _, _, _] rfl rfl rfl rfl ⟨rfl, rfl, rfl, rfl, rfl, rfl, rfl, rfl, rfl, rfl, trivial⟩ rfl rfl ?_
    have e : l.take i = l.take 12 := by
      rcases Nat.lt_or_ge i 12 with h | h
      · rw [List.take_of_length_le (by omega), List.take_of_length_le (by omega)]
      · rw [show i = 12 by omega]
    rw [e] at hxs
    have hli : i = (funcP l).body.length := by
      simp only [funcP, List.length_map, ← e, List.length_take]; omega
    rw [hli] at hrow
    exact ⟨_, _, _, _, rfl, hvp, rfl, hrow, hxs, hL⟩
  ·
   refine TL.move rfl rfl ?_
   refine TL.gno rfl rfl rfl rfl ?_
   refine TL.gno rfl rfl rfl rfl ?_
   refine TL.pickF rfl rfl rfl rfl ?_
   refine TL.nil ?_
   refine TQ.then_n ?_
   refine TC.cond_f rfl ?_
   refine TC.exit ?_
   refine TQ.then_e ?_
   refine TQ.then_e ?_
   refine TQ.in_e ?_
   refine TQ.then_n ?_
   refine TC.seq ?_
   refine TC.region ?_
   refine TL.load_ownA 1 0 [_, _, _, _, _, _, _, _, _, _] rfl rfl rfl ⟨rfl, rfl, rfl, rfl, rfl, rfl, rfl, rfl, rfl, rfl, trivial⟩ rfl rfl ?_
   refine TL.storeA 2 0 (c' := #[_, _, _, _, _, _, _, _, _, _]) (own' := _ :: _ :: [(_, .cells #[_, _, _, _, _, _, _, _, _, _] _ _)] :: _) rfl rfl rfl rfl rfl ⟨rfl, hvp.one, rfl, rfl, rfl, rfl, hrow.one, rfl, rfl, rfl, trivial⟩ (by simp [putC]) (putC_all rfl) rfl rfl ?_
   refine TL.nil ?_
   refine TQ.then_n ?_
   refine TC.ret ?_
   refine TQ.sel 3 [2, 1, 0] rfl (fun o ho => ?_)
   simp only [K.sel, List.map_cons, List.map_nil, List.getD_cons_zero, List.getD_cons_succ, List.drop_succ_cons, List.drop_zero, List.cons_append, List.nil_append, List.set_cons_zero, List.set_cons_succ] at ho; subst ho
   refine TQ.retC 0 0 2 [_, _, _, _, _, _, _, _, _, _] rfl rfl rfl rfl ⟨rfl, rfl, rfl, rfl, rfl, rfl, rfl, rfl, rfl, rfl, trivial⟩ rfl rfl ?_
   have e : l.take i = l.take 12 := by
     rcases Nat.lt_or_ge i 12 with h | h
     · rw [List.take_of_length_le (by omega), List.take_of_length_le (by omega)]
     · rw [show i = 12 by omega]
   rw [e] at hxs
   have hli : i = (funcP l).body.length := by
     simp only [funcP, List.length_map, ← e, List.length_take]; omega
   rw [hli] at hrow
   exact ⟨_, _, _, _, rfl, hvp, rfl, hrow, hxs, hL⟩
def allN : List ByteArray := [bs [97], bs [103, 48], bs [103, 49], bs [102], bs [109, 97, 105, 110], bs [104], bs [118, 49]]
def nameP (x : Int) : ByteArray := allN.getD (x % 7).toNat ⟨#[]⟩
def namesP (l : List Int) : List ByteArray := (l.take 5).map nameP
theorem kb_len {H : Hp} {k : IntKind} {l : List Int} {v : Value} (h : rd H (.s 1 (kints k l)) v) : ∃ A c, v = .slice A l.length c ∧ l.length ≤ c ∧ c ≤ 9223372036854775807 := by
  obtain ⟨A, c, e, h1, h2⟩ := vals_len h
  rw [List.length_map] at e h1
  exact ⟨A, c, e, h1, h2⟩
theorem kb_at {H : Hp} {k : IntKind} {l : List Int} {A : Option Addr} {n c : Nat} (h : rd H (.s 1 (kints k l)) (.slice A n c)) {i : Nat} {x : Int} (hi : l[i]? = some x) : ∃ b o, A = some ⟨b, o, none⟩ ∧ cel H b (o + i * 1) = some (.int k x) :=
  vals_at h (by simp [hi])
theorem kb_in {x : Int} (h : InK .u8 x) : 0 ≤ x ∧ x ≤ 255 := by
  have e1 : IntKind.u8.min = 0 := by decide
  have e2 : IntKind.u8.max = 255 := by decide
  obtain ⟨h1, h2⟩ := h
  rw [e1] at h1; rw [e2] at h2
  exact ⟨h1, h2⟩
theorem mk_names {l : List Int} (hl : ∀ x ∈ l, InK .u8 x) {w0 : World} {H : Hp} {own : List Seg} {v : Value} (hA : rd H (.s 1 (kints .u8 l)) v) :
    Fn Try.prog 26 [v] w0 H own (fun r own' H' => rd H' (.s 1 (strsD (namesP l))) r ∧ own' = own ∧ Le H H') := by
  obtain ⟨A, c, rfl, hc1, hc2⟩ := kb_len hA
  refine Fn.enter Try.func26 rfl Try.ntmps26 rfl ?_
  have hL := Le.refl H
  refine TC.seq ?_
  refine TC.region ?_
  refine TL.assign rfl rfl ?_
  refine TL.nil ?_
  refine TQ.then_n ?_
  refine TC.seq ?_
  refine TC.region ?_
  refine TL.array [(0, [_]), (1, [_]), (2, [_]), (3, [_]), (4, [_]), (5, [_]), (6, [_])] ⟨rfl, ⟨_, rfl, rfl⟩, rfl, ⟨_, rfl, rfl⟩, rfl, ⟨_, rfl, rfl⟩, rfl, ⟨_, rfl, rfl⟩, rfl, ⟨_, rfl, rfl⟩, rfl, ⟨_, rfl, rfl⟩, rfl, ⟨_, rfl, rfl⟩, trivial⟩ rfl rfl ?_
  refine TL.new rfl ?_; intro g3
  refine TL.storeA 0 0 (c' := #[_, _, _, _, _, _, _]) (own' := [(_, .cells #[_, _, _, _, _, _, _] _ _)] :: _) rfl rfl rfl rfl rfl ⟨rfl, rfl, rfl, rfl, rfl, rfl, rfl, trivial⟩ (by simp [putC]) (putC_all rfl) rfl rfl ?_
  refine TL.nil ?_
  refine TQ.then_n ?_
  refine TC.seq ?_
  refine TC.region ?_
  refine TL.assign rfl rfl ?_
  refine TL.nil ?_
  refine TQ.then_n ?_
  refine TC.seq ?_
  refine TC.seq ?_
  refine TC.nilseg ?_
  refine TC.region ?_
  refine TL.assign rfl rfl ?_
  refine TL.nil ?_
  refine TQ.then_n ?_
  refine TC.block ?_
  refine TC.loop (fun z env' own' H' => ∃ (i : Nat) (u : Value) (seg : Seg), z = 5 - i ∧ i ≤ l.length ∧ i ≤ 5 ∧ Row 9 1 u i (((l.take i).map nameP).map Value.string) seg ∧ env' = [(0, .slice A l.length c), (3, .pointer (some ⟨g3, 0, none⟩)), (4, u), (5, .int .i64 (i : Int))] ∧ own' = seg :: [(g3, .cells (allN.map Value.string).toArray 107 (0, 0))] :: own ∧ Le H H') 5 [(0, _), (3, _), (4, _), (5, _)] ⟨rfl, rfl, rfl, rfl, trivial⟩ ⟨0, _, [], by omega, by omega, by omega, Row.nil 9 1, rfl, rfl, Le.refl _⟩ ?_
  rintro z _ _ H1 ⟨i, u, seg, rfl, hi, hi5, hrow, rfl, rfl, hle0⟩
  have hL := Le.trans hL hle0
  have hA := rd.mono hle0 hA
  refine TC.seq ?_
  refine TC.seq ?_
  refine TC.region ?_
  refine TL.move rfl rfl ?_
  refine TL.move rfl rfl ?_
  refine TL.len_slice rfl rfl ?_
  refine TL.lssB rfl rfl rfl (fun hlt => ?_) (fun hlt => ?_)
  ·
   refine TL.move rfl rfl ?_
   refine TL.gyes rfl rfl rfl ?_
   refine TL.move rfl rfl ?_
   refine TL.gyes rfl rfl rfl ?_
   refine TL.lssB rfl rfl rfl (fun hlt2 => ?_) (fun hlt2 => ?_)
   ·
    obtain ⟨x, hx⟩ : ∃ x, l[i]? = some x := ⟨_, List.getElem?_eq_getElem (by omega)⟩
    have hx8 := kb_in (hl x (List.mem_of_getElem? hx))
    obtain ⟨b1, o1, rfl, hp⟩ := kb_at hA hx
    have hm7 : x.tmod 7 = ((x % 7).toNat : Int) := by
      rw [Int.tmod_eq_emod_of_nonneg hx8.1]
      have := Int.emod_nonneg x (b := 7) (by omega)
      omega
    have hj7 : (x % 7).toNat < 7 := by
      have := Int.emod_lt_of_pos x (b := 7) (by omega)
      omega
    have hnm : (allN.map Value.string)[(x % 7).toNat]? = some (.string (nameP x)) := by
      have h7 : (x % 7).toNat < allN.length := hj7
      simp only [nameP, List.getElem?_map, List.getD_eq_getElem?_getD, List.getElem?_eq_getElem h7, Option.map_some, Option.getD_some]
    refine TL.pickT rfl rfl rfl rfl ?_
    refine TL.nil ?_
    refine TQ.then_n ?_
    refine TC.cond_t rfl ?_
    refine TC.skip ?_
    refine TQ.then_n ?_
    refine TC.seq ?_
    refine TC.block ?_
    refine TC.region ?_
    refine TL.move rfl rfl ?_
    refine TL.move rfl rfl ?_
    refine TL.move rfl rfl ?_
    refine TL.indexAddr (i) rfl rfl rfl (by omega) rfl ?_
    refine TL.load_imm rfl (hp) rfl ?_
    refine TL.rem rfl rfl rfl (by omega) ?_
    refine TL.indexArr ((x % 7).toNat) rfl rfl hm7 hj7 rfl ?_
    refine TL.load_own 1 0 rfl rfl rfl (by rw [lget_eq, Nat.zero_add, Nat.mul_one]; exact hnm) rfl ?_
    refine TL.litF (r := [_]) [(0, [_])] ⟨rfl, ⟨_, rfl, rfl⟩, trivial⟩ rfl rfl rfl rfl ?_; intro g25
    refine TL.append 1 rfl rfl rfl hrow (Src.ofOwn 0 0 rfl rfl rfl (Ones.all (show Ones [_] from ⟨by rfl, trivial⟩)) ⟨rfl, trivial⟩) (by omega) (by omega) rfl ?_
    intro v' seg' hrow'
    refine TL.assign rfl rfl ?_
    refine TL.nil ?_
    refine TQ.in_n ?_
    refine TQ.then_n ?_
    refine TC.region ?_
    refine TL.move rfl rfl ?_
    refine TL.add rfl rfl rfl ⟨by omega, by omega⟩ ?_
    refine TL.assign rfl rfl ?_
    refine TL.nil ?_
    refine TQ.sel 3 [1, 2] rfl (fun o ho => ?_)
    simp only [K.sel, List.map_cons, List.map_nil, List.getD_cons_zero, List.getD_cons_succ, List.drop_succ_cons, List.drop_zero, List.cons_append, List.nil_append, List.set_cons_zero, List.set_cons_succ] at ho; subst ho
    refine TQ.next (5 - (i + 1)) [(0, _), (3, _), (4, _), (5, _)] (by omega) ⟨rfl, rfl, rfl, rfl, trivial⟩ ⟨i + 1, v', seg', rfl, by omega, by omega, ?_, by simp, rfl, hle0⟩
    rw [List.take_add_one, hx]
    simpa only [List.map_append, Option.toList_some, List.map_cons, List.map_nil] using hrow'
   ·
    refine TL.pickT rfl rfl rfl rfl ?_
    refine TL.nil ?_
    refine TQ.then_n ?_
    refine TC.cond_f rfl ?_
    refine TC.exit ?_
    refine TQ.then_e ?_
    refine TQ.then_e ?_
    refine TQ.in_e ?_
    refine TQ.then_n ?_
    refine TC.seq ?_
    refine TC.region ?_
    refine TL.move rfl rfl ?_
    refine TL.assign rfl rfl ?_
    refine TL.nil ?_
    refine TQ.then_n ?_
    refine TC.ret ?_
    refine TQ.freeze (fun H1 hle hz_row => ?_)
    have hL := Le.trans hL hle
    have hA := rd.mono hle hA
    have hle0 := Le.trans hle0 hle
    refine TQ.ret1 1 rfl rfl ?_
    have e : l.take i = l.take 5 := by
      rcases Nat.lt_or_ge i 5 with h | h
      · rw [List.take_of_length_le (by omega), List.take_of_length_le (by omega)]
      · rw [show i = 5 by omega]
    rw [e] at hrow
    exact ⟨rd.ofRow hrow hz_row (RdL.vals _) (Le.refl _), rfl, hL⟩
  ·
   refine TL.move rfl rfl ?_
   refine TL.gno rfl rfl rfl rfl ?_
   refine TL.gno rfl rfl rfl rfl ?_
   refine TL.pickF rfl rfl rfl rfl ?_
   refine TL.nil ?_
   refine TQ.then_n ?_
   refine TC.cond_f rfl ?_
   refine TC.exit ?_
   refine TQ.then_e ?_
   refine TQ.then_e ?_
   refine TQ.in_e ?_
   refine TQ.then_n ?_
   refine TC.seq ?_
   refine TC.region ?_
   refine TL.move rfl rfl ?_
   refine TL.assign rfl rfl ?_
   refine TL.nil ?_
   refine TQ.then_n ?_
   refine TC.ret ?_
   refine TQ.freeze (fun H2 hle hz_row => ?_)
   have hL := Le.trans hL hle
   have hA := rd.mono hle hA
   have hle0 := Le.trans hle0 hle
   refine TQ.ret1 1 rfl rfl ?_
   have e : l.take i = l.take 5 := by
     rcases Nat.lt_or_ge i 5 with h | h
     · rw [List.take_of_length_le (by omega), List.take_of_length_le (by omega)]
     · rw [show i = 5 by omega]
   rw [e] at hrow
   exact ⟨rd.ofRow hrow hz_row (RdL.vals _) (Le.refl _), rfl, hL⟩

end Go.Proofs.Ytapmmfabdmhdnaa.K
