/-
  merger.node.
-/
import Derived.Test.YtapmmfabdmhdnaaWAlign
import Derived.Test.YtapmmfabdmhdnaaKid
set_option linter.unusedVariables false
set_option linter.unusedSimpArgs false
set_option maxHeartbeats 4000000
namespace Go.Proofs.Ytapmmfabdmhdnaa.K
open Go Go.RowKit Go.Proofs

theorem merge_node (k : Nat) : ∀ b : Tr, b.size ≤ k → k ≤ 8192 → NodeOk (mergeF k) b := by
  induction k with
  | zero => intro b h; have := b.size_pos; omega
  | succ k ih =>
    rintro ⟨bl, bk⟩ hk hk2
    intro l r p ps w0 H own gm e u b0 b1 l0 l1 r0 r1 v seg hls hrs hp hps hb hl hr hA hlog
    obtain ⟨ll, lk⟩ := l
    obtain ⟨rl, rk⟩ := r
    obtain ⟨rfl, Ab, cb, rfl, hcb1, hcb2, hbk⟩ := tr_cells hb
    obtain ⟨rfl, Al, cl, rfl, hcl1, hcl2, hlk⟩ := tr_cells hl
    obtain ⟨rfl, Ar, cr, rfl, hcr1, hcr2, hrk⟩ := tr_cells hr
    have hbs := Tr.len_le bk
    have hlsz := Tr.len_le lk
    have hrsz := Tr.len_le rk
    have hk0 := hk
    simp only [Tr.size] at hls hrs hp hps hk
    refine Fn.enter Try.func31 rfl Try.ntmps31 rfl ?_
    have hL := Le.refl H
    refine TC.seq ?_
    refine TC.region ?_
    refine TL.box (c := #[_, _]) rfl rfl rfl ?_; intro g6
    refine TL.box (c := #[_, _]) rfl rfl rfl ?_; intro g7
    refine TL.box (c := #[_, _]) rfl rfl rfl ?_; intro g8
    refine TL.new rfl ?_; intro g10
    refine TL.nil ?_
    refine TQ.then_n ?_
    refine TC.seq ?_
    refine TC.block ?_
    refine TC.seq ?_
    refine TC.region ?_
    refine TL.load_ownA 2 0 [_, _] rfl rfl rfl ⟨rfl, rfl, trivial⟩ rfl rfl ?_
    refine TL.load_ownA 3 0 [_, _] rfl rfl rfl ⟨rfl, rfl, trivial⟩ rfl rfl ?_
    refine TL.call (dsame _ _ hl hb) ⟨rfl, rfl, trivial⟩ rfl ?_
    rintro _ _ H2 ⟨rfl, rfl, hle2⟩
    have hL := Le.trans hL hle2
    have hA := rd.mono hle2 hA
    have hb := RdL.mono hle2 hb
    have hl := RdL.mono hle2 hl
    have hr := RdL.mono hle2 hr
    have hbk := rd.mono hle2 hbk
    have hlk := rd.mono hle2 hlk
    have hrk := rd.mono hle2 hrk
    have hlog := Log.mono hle2 hlog
    refine TL.assign rfl rfl ?_
    refine TL.nil ?_
    refine TQ.then_n ?_
    refine TC.cond rfl (fun hlb => ?_) (fun hlb => ?_)
    ·
     replace hlb : Tr.node ll lk = Tr.node bl bk := (Tr.eqb_iff _ _).1 (by simpa using hlb)
     refine TC.seq ?_
     refine TC.region ?_
     refine TL.load_ownA 1 0 [_, _] rfl rfl rfl ⟨rfl, rfl, trivial⟩ rfl rfl ?_
     refine TL.storeA 0 0 (c' := #[_, _]) (own' := [(_, .cells #[_, _] _ _)] :: _) rfl rfl rfl rfl rfl ⟨rfl, rfl, trivial⟩ (by simp) rfl rfl rfl ?_
     refine TL.nil ?_
     refine TQ.then_n ?_
     refine TC.ret ?_
     refine TQ.in_r ?_
     refine TQ.then_r ?_
     refine TQ.sel 6 [0, 4, 5] rfl (fun o ho => ?_)
     simp only [K.sel, List.map_cons, List.map_nil, List.getD_cons_zero, List.getD_cons_succ, List.drop_succ_cons, List.drop_zero, List.cons_append, List.nil_append, List.set_cons_zero, List.set_cons_succ] at ho; subst ho
     refine TQ.retC 0 0 1 [_, _] rfl rfl rfl rfl ⟨rfl, rfl, trivial⟩ rfl rfl ?_
     first
       | exact ⟨_, _, _, _, rfl, by rw [mf_a hlb]; exact hr, rfl, by rw [mf_a hlb]; simpa using hlog, hL⟩
       | exact ⟨_, _, _, _, rfl, by rw [mf_b hlb (.inl hrb)]; exact hl, rfl, by rw [mf_b hlb (.inl hrb)]; simpa using hlog, hL⟩
       | exact ⟨_, _, _, _, rfl, by rw [mf_b hlb (.inr hlr)]; exact hl, rfl, by rw [mf_b hlb (.inr hlr)]; simpa using hlog, hL⟩
       | exact ⟨_, _, _, _, rfl, by rw [mf_c hlb hrb hlr, ← hS]; exact tr_mk (rd.ofRow hrow hz_segk hxs (Le.refl _)), rfl, by rw [mf_c hlb hrb hlr, ← hS]; exact hlog1, hL⟩
    ·
     replace hlb : Tr.node ll lk ≠ Tr.node bl bk := fun h => by rw [Tr.eqb_eq] at hlb; simp [h] at hlb
     refine TC.seq ?_
     refine TC.region ?_
     refine TL.load_ownA 1 0 [_, _] rfl rfl rfl ⟨rfl, rfl, trivial⟩ rfl rfl ?_
     refine TL.load_ownA 3 0 [_, _] rfl rfl rfl ⟨rfl, rfl, trivial⟩ rfl rfl ?_
     refine TL.call (dsame _ _ hr hb) ⟨rfl, rfl, trivial⟩ rfl ?_
     rintro _ _ H3 ⟨rfl, rfl, hle3⟩
     have hL := Le.trans hL hle3
     have hA := rd.mono hle3 hA
     have hb := RdL.mono hle3 hb
     have hl := RdL.mono hle3 hl
     have hr := RdL.mono hle3 hr
     have hbk := rd.mono hle3 hbk
     have hlk := rd.mono hle3 hlk
     have hrk := rd.mono hle3 hrk
     have hlog := Log.mono hle3 hlog
     by_cases hrb : Tr.node rl rk = Tr.node bl bk
     ·
      rw [Tr.eqb_eq, decide_eq_true hrb]
      refine TL.move rfl rfl ?_
      refine TL.gno rfl rfl rfl rfl ?_
      refine TL.gno rfl rfl rfl rfl ?_
      refine TL.gno rfl rfl rfl rfl ?_
      refine TL.pickT rfl rfl rfl rfl ?_
      refine TL.assign rfl rfl ?_
      refine TL.nil ?_
      refine TQ.then_n ?_
      refine TC.cond_t rfl ?_
      refine TC.seq ?_
      refine TC.region ?_
      refine TL.load_ownA 2 0 [_, _] rfl rfl rfl ⟨rfl, rfl, trivial⟩ rfl rfl ?_
      refine TL.storeA 0 0 (c' := #[_, _]) (own' := [(_, .cells #[_, _] _ _)] :: _) rfl rfl rfl rfl rfl ⟨rfl, rfl, trivial⟩ (by simp) rfl rfl rfl ?_
      refine TL.nil ?_
      refine TQ.then_n ?_
      refine TC.ret ?_
      refine TQ.in_r ?_
      refine TQ.then_r ?_
      refine TQ.sel 6 [0, 4, 5] rfl (fun o ho => ?_)
      simp only [K.sel, List.map_cons, List.map_nil, List.getD_cons_zero, List.getD_cons_succ, List.drop_succ_cons, List.drop_zero, List.cons_append, List.nil_append, List.set_cons_zero, List.set_cons_succ] at ho; subst ho
      refine TQ.retC 0 0 1 [_, _] rfl rfl rfl rfl ⟨rfl, rfl, trivial⟩ rfl rfl ?_
      first
        | exact ⟨_, _, _, _, rfl, by rw [mf_a hlb]; exact hr, rfl, by rw [mf_a hlb]; simpa using hlog, hL⟩
        | exact ⟨_, _, _, _, rfl, by rw [mf_b hlb (.inl hrb)]; exact hl, rfl, by rw [mf_b hlb (.inl hrb)]; simpa using hlog, hL⟩
        | exact ⟨_, _, _, _, rfl, by rw [mf_b hlb (.inr hlr)]; exact hl, rfl, by rw [mf_b hlb (.inr hlr)]; simpa using hlog, hL⟩
        | exact ⟨_, _, _, _, rfl, by rw [mf_c hlb hrb hlr, ← hS]; exact tr_mk (rd.ofRow hrow hz_segk hxs (Le.refl _)), rfl, by rw [mf_c hlb hrb hlr, ← hS]; exact hlog1, hL⟩
     ·
      rw [Tr.eqb_eq, decide_eq_false hrb]
      refine TL.move rfl rfl ?_
      refine TL.gyes rfl rfl rfl ?_
      refine TL.load_ownA 2 0 [_, _] rfl rfl rfl ⟨rfl, rfl, trivial⟩ rfl rfl ?_
      refine TL.gyes rfl rfl rfl ?_
      refine TL.load_ownA 1 0 [_, _] rfl rfl rfl ⟨rfl, rfl, trivial⟩ rfl rfl ?_
      refine TL.gyes rfl rfl rfl ?_
      refine TL.call (dsame _ _ hl hr) ⟨rfl, rfl, trivial⟩ rfl ?_
      rintro _ _ H4 ⟨rfl, rfl, hle4⟩
      have hL := Le.trans hL hle4
      have hA := rd.mono hle4 hA
      have hb := RdL.mono hle4 hb
      have hl := RdL.mono hle4 hl
      have hr := RdL.mono hle4 hr
      have hbk := rd.mono hle4 hbk
      have hlk := rd.mono hle4 hlk
      have hrk := rd.mono hle4 hrk
      have hlog := Log.mono hle4 hlog
      refine TL.pickF rfl rfl rfl rfl ?_
      refine TL.assign rfl rfl ?_
      refine TL.nil ?_
      refine TQ.then_n ?_
      refine TC.cond rfl (fun hlr => ?_) (fun hlr => ?_)
      ·
       replace hlr : Tr.node ll lk = Tr.node rl rk := (Tr.eqb_iff _ _).1 (by simpa using hlr)
       refine TC.seq ?_
       refine TC.region ?_
       refine TL.load_ownA 2 0 [_, _] rfl rfl rfl ⟨rfl, rfl, trivial⟩ rfl rfl ?_
       refine TL.storeA 0 0 (c' := #[_, _]) (own' := [(_, .cells #[_, _] _ _)] :: _) rfl rfl rfl rfl rfl ⟨rfl, rfl, trivial⟩ (by simp) rfl rfl rfl ?_
       refine TL.nil ?_
       refine TQ.then_n ?_
       refine TC.ret ?_
       refine TQ.in_r ?_
       refine TQ.then_r ?_
       refine TQ.sel 6 [0, 4, 5] rfl (fun o ho => ?_)
       simp only [K.sel, List.map_cons, List.map_nil, List.getD_cons_zero, List.getD_cons_succ, List.drop_succ_cons, List.drop_zero, List.cons_append, List.nil_append, List.set_cons_zero, List.set_cons_succ] at ho; subst ho
       refine TQ.retC 0 0 1 [_, _] rfl rfl rfl rfl ⟨rfl, rfl, trivial⟩ rfl rfl ?_
       first
         | exact ⟨_, _, _, _, rfl, by rw [mf_a hlb]; exact hr, rfl, by rw [mf_a hlb]; simpa using hlog, hL⟩
         | exact ⟨_, _, _, _, rfl, by rw [mf_b hlb (.inl hrb)]; exact hl, rfl, by rw [mf_b hlb (.inl hrb)]; simpa using hlog, hL⟩
         | exact ⟨_, _, _, _, rfl, by rw [mf_b hlb (.inr hlr)]; exact hl, rfl, by rw [mf_b hlb (.inr hlr)]; simpa using hlog, hL⟩
         | exact ⟨_, _, _, _, rfl, by rw [mf_c hlb hrb hlr, ← hS]; exact tr_mk (rd.ofRow hrow hz_segk hxs (Le.refl _)), rfl, by rw [mf_c hlb hrb hlr, ← hS]; exact hlog1, hL⟩
      ·
       replace hlr : Tr.node ll lk ≠ Tr.node rl rk := fun h => by rw [Tr.eqb_eq] at hlr; simp [h] at hlr
       refine TC.skip ?_
       refine TQ.in_n ?_
       refine TQ.then_n ?_
       refine TC.seq ?_
       refine TC.region ?_
       refine TL.fieldAddr rfl rfl ?_
       refine TL.load_own 2 0 rfl rfl rfl rfl rfl ?_
       refine TL.struct [(0, [_])] ⟨rfl, ⟨_, rfl, rfl⟩, trivial⟩ rfl rfl ?_
       refine TL.new rfl ?_; intro g11
       refine TL.storeA 0 0 (c' := #[_, _]) (own' := [(_, .cells #[_, _] _ _)] :: _) rfl rfl rfl rfl rfl ⟨rfl, rfl, trivial⟩ (by simp) rfl rfl rfl ?_
       refine TL.nil ?_
       refine TQ.then_n ?_
       refine TC.cut (fun env' own' H' => ∃ u1 seg1, env' = [(0, .pointer (some ⟨gm, 0, none⟩)), (4, v), (6, .pointer (some ⟨g6, 0, none⟩)), (7, .pointer (some ⟨g7, 0, none⟩)), (8, .pointer (some ⟨g8, 0, none⟩)), (10, .pointer (some ⟨g10, 0, none⟩)), (11, .pointer (some ⟨g11, 0, none⟩))] ∧ own' = [(g11, .cells #[.string (labP bl ll rl), .slice none 0 0] 27 (0, 0))] :: [(g10, .cells #[.string ⟨#[]⟩, .slice none 0 0] 27 (0, 0))] :: [(g8, .cells #[.string rl, .slice Ar rk.length cr] 27 (0, 0))] :: [(g7, .cells #[.string ll, .slice Al lk.length cl] 27 (0, 0))] :: [(g6, .cells #[.string bl, .slice Ab bk.length cb] 27 (0, 0))] :: [(gm, .cells #[u1] e (0, 0))] :: seg1 :: own ∧ Log H' u1 (ps ++ labC bl ll rl p) seg1 ∧ Le H4 H') ?_ ?_
       ·
        have hcut := Le.refl H4
        refine TC.block ?_
        refine TC.seq ?_
        refine TC.region ?_
        refine TL.fieldAddr rfl rfl ?_
        refine TL.load_own 3 0 rfl rfl rfl rfl rfl ?_
        refine TL.fieldAddr rfl rfl ?_
        refine TL.load_own 4 0 rfl rfl rfl rfl rfl ?_
        refine TL.eqlSB rfl rfl rfl (fun hla => ?_) (fun hla => ?_)
        ·
         refine TL.assign rfl rfl ?_
         refine TL.nil ?_
         refine TQ.then_n ?_
         refine TC.cond_t rfl ?_
         refine TC.region ?_
         refine TL.fieldAddr rfl rfl ?_
         refine TL.load_own 2 0 rfl rfl rfl rfl rfl ?_
         refine TL.fieldAddr rfl rfl ?_
         refine TL.store1 0 0 (c' := #[_, _]) (own' := [(_, .cells #[_, _] _ _)] :: _) rfl rfl rfl rfl rfl (by simp) rfl rfl rfl ?_
         refine TL.nil ?_
         refine TQ.in_n ?_
         refine TQ.toOwn (own' := _ :: _ :: _ :: _ :: _ :: _ :: _ :: own) rfl ?_
         first
           | exact TQ.mid [(0, _), (4, _), (6, _), (7, _), (8, _), (10, _), (11, _)] ⟨rfl, rfl, rfl, rfl, rfl, rfl, rfl, trivial⟩ ⟨_, _, rfl, by rw [labP_1 hla], by rw [labC_1 (.inl hla)]; simpa using hlog, hcut⟩
           | exact TQ.mid [(0, _), (4, _), (6, _), (7, _), (8, _), (10, _), (11, _)] ⟨rfl, rfl, rfl, rfl, rfl, rfl, rfl, trivial⟩ ⟨_, _, rfl, by rw [labP_2 hla], by rw [labC_2 hla hra hrl]; exact hlog3, hcut⟩
           | exact TQ.mid [(0, _), (4, _), (6, _), (7, _), (8, _), (10, _), (11, _)] ⟨rfl, rfl, rfl, rfl, rfl, rfl, rfl, trivial⟩ ⟨_, _, rfl, by rw [labP_2 hla], by rw [labC_1 (.inr (.inr hrl))]; simpa using hlog, hcut⟩
           | exact TQ.mid [(0, _), (4, _), (6, _), (7, _), (8, _), (10, _), (11, _)] ⟨rfl, rfl, rfl, rfl, rfl, rfl, rfl, trivial⟩ ⟨_, _, rfl, by rw [labP_2 hla], by rw [labC_1 (.inr (.inl hra))]; simpa using hlog, hcut⟩
        ·
         refine TL.assign rfl rfl ?_
         refine TL.nil ?_
         refine TQ.then_n ?_
         refine TC.cond_f rfl ?_
         refine TC.seq ?_
         refine TC.region ?_
         refine TL.fieldAddr rfl rfl ?_
         refine TL.load_own 2 0 rfl rfl rfl rfl rfl ?_
         refine TL.fieldAddr rfl rfl ?_
         refine TL.load_own 4 0 rfl rfl rfl rfl rfl ?_
         refine TL.neqSB rfl rfl rfl (fun hra => ?_) (fun hra => ?_)
         ·
          refine TL.move rfl rfl ?_
          refine TL.gyes rfl rfl rfl ?_
          refine TL.fieldAddr rfl rfl ?_
          refine TL.gyes rfl rfl rfl ?_
          refine TL.load_own 2 0 rfl rfl rfl rfl rfl ?_
          refine TL.gyes rfl rfl rfl ?_
          refine TL.fieldAddr rfl rfl ?_
          refine TL.gyes rfl rfl rfl ?_
          refine TL.load_own 3 0 rfl rfl rfl rfl rfl ?_
          refine TL.gyes rfl rfl rfl ?_
          refine TL.neqSB rfl rfl rfl (fun hrl => ?_) (fun hrl => ?_)
          ·
           refine TL.pickT rfl rfl rfl rfl ?_
           refine TL.assign rfl rfl ?_
           refine TL.nil ?_
           refine TQ.then_n ?_
           refine TC.cond_t rfl ?_
           refine TC.region ?_
           refine TL.move rfl rfl ?_
           refine TL.nilCheck rfl rfl ?_
           refine TL.fieldAddr rfl rfl ?_
           refine TL.move rfl rfl ?_
           refine TL.sel 7 [5, 6, 0, 1, 2, 3, 4] rfl (fun o ho => ?_)
           simp only [K.sel, List.map_cons, List.map_nil, List.getD_cons_zero, List.getD_cons_succ, List.drop_succ_cons, List.drop_zero, List.cons_append, List.nil_append, List.set_cons_zero, List.set_cons_succ] at ho; subst ho
           refine TL.call (merge_conflict (by omega) (by omega) hA hlog) ⟨rfl, rfl, trivial⟩ rfl ?_
           rintro _ _ H5 ⟨u3, s3, rfl, rfl, hlog3, hle5⟩
           have hL := Le.trans hL hle5
           have hA := rd.mono hle5 hA
           have hb := RdL.mono hle5 hb
           have hl := RdL.mono hle5 hl
           have hr := RdL.mono hle5 hr
           have hbk := rd.mono hle5 hbk
           have hlk := rd.mono hle5 hlk
           have hrk := rd.mono hle5 hrk
           have hlog := Log.mono hle5 hlog
           have hcut := Le.trans hcut hle5
           refine TL.nil ?_
           refine TQ.in_n ?_
           refine TQ.sel 7 [2, 3, 4, 5, 6, 0, 1] rfl (fun o ho => ?_)
           simp only [K.sel, List.map_cons, List.map_nil, List.getD_cons_zero, List.getD_cons_succ, List.drop_succ_cons, List.drop_zero, List.cons_append, List.nil_append, List.set_cons_zero, List.set_cons_succ] at ho; subst ho
           first
             | exact TQ.mid [(0, _), (4, _), (6, _), (7, _), (8, _), (10, _), (11, _)] ⟨rfl, rfl, rfl, rfl, rfl, rfl, rfl, trivial⟩ ⟨_, _, rfl, by rw [labP_1 hla], by rw [labC_1 (.inl hla)]; simpa using hlog, hcut⟩
             | exact TQ.mid [(0, _), (4, _), (6, _), (7, _), (8, _), (10, _), (11, _)] ⟨rfl, rfl, rfl, rfl, rfl, rfl, rfl, trivial⟩ ⟨_, _, rfl, by rw [labP_2 hla], by rw [labC_2 hla hra hrl]; exact hlog3, hcut⟩
             | exact TQ.mid [(0, _), (4, _), (6, _), (7, _), (8, _), (10, _), (11, _)] ⟨rfl, rfl, rfl, rfl, rfl, rfl, rfl, trivial⟩ ⟨_, _, rfl, by rw [labP_2 hla], by rw [labC_1 (.inr (.inr hrl))]; simpa using hlog, hcut⟩
             | exact TQ.mid [(0, _), (4, _), (6, _), (7, _), (8, _), (10, _), (11, _)] ⟨rfl, rfl, rfl, rfl, rfl, rfl, rfl, trivial⟩ ⟨_, _, rfl, by rw [labP_2 hla], by rw [labC_1 (.inr (.inl hra))]; simpa using hlog, hcut⟩
          ·
           refine TL.pickT rfl rfl rfl rfl ?_
           refine TL.assign rfl rfl ?_
           refine TL.nil ?_
           refine TQ.then_n ?_
           refine TC.cond_f rfl ?_
           refine TC.skip ?_
           refine TQ.in_n ?_
           refine TQ.toOwn (own' := _ :: _ :: _ :: _ :: _ :: _ :: _ :: own) rfl ?_
           first
             | exact TQ.mid [(0, _), (4, _), (6, _), (7, _), (8, _), (10, _), (11, _)] ⟨rfl, rfl, rfl, rfl, rfl, rfl, rfl, trivial⟩ ⟨_, _, rfl, by rw [labP_1 hla], by rw [labC_1 (.inl hla)]; simpa using hlog, hcut⟩
             | exact TQ.mid [(0, _), (4, _), (6, _), (7, _), (8, _), (10, _), (11, _)] ⟨rfl, rfl, rfl, rfl, rfl, rfl, rfl, trivial⟩ ⟨_, _, rfl, by rw [labP_2 hla], by rw [labC_2 hla hra hrl]; exact hlog3, hcut⟩
             | exact TQ.mid [(0, _), (4, _), (6, _), (7, _), (8, _), (10, _), (11, _)] ⟨rfl, rfl, rfl, rfl, rfl, rfl, rfl, trivial⟩ ⟨_, _, rfl, by rw [labP_2 hla], by rw [labC_1 (.inr (.inr hrl))]; simpa using hlog, hcut⟩
             | exact TQ.mid [(0, _), (4, _), (6, _), (7, _), (8, _), (10, _), (11, _)] ⟨rfl, rfl, rfl, rfl, rfl, rfl, rfl, trivial⟩ ⟨_, _, rfl, by rw [labP_2 hla], by rw [labC_1 (.inr (.inl hra))]; simpa using hlog, hcut⟩
         ·
          refine TL.move rfl rfl ?_
          refine TL.gno rfl rfl rfl rfl ?_
          refine TL.gno rfl rfl rfl rfl ?_
          refine TL.gno rfl rfl rfl rfl ?_
          refine TL.gno rfl rfl rfl rfl ?_
          refine TL.gno rfl rfl rfl rfl ?_
          refine TL.pickF rfl rfl rfl rfl ?_
          refine TL.assign rfl rfl ?_
          refine TL.nil ?_
          refine TQ.then_n ?_
          refine TC.cond_f rfl ?_
          refine TC.skip ?_
          refine TQ.in_n ?_
          refine TQ.toOwn (own' := _ :: _ :: _ :: _ :: _ :: _ :: _ :: own) rfl ?_
          first
            | exact TQ.mid [(0, _), (4, _), (6, _), (7, _), (8, _), (10, _), (11, _)] ⟨rfl, rfl, rfl, rfl, rfl, rfl, rfl, trivial⟩ ⟨_, _, rfl, by rw [labP_1 hla], by rw [labC_1 (.inl hla)]; simpa using hlog, hcut⟩
            | exact TQ.mid [(0, _), (4, _), (6, _), (7, _), (8, _), (10, _), (11, _)] ⟨rfl, rfl, rfl, rfl, rfl, rfl, rfl, trivial⟩ ⟨_, _, rfl, by rw [labP_2 hla], by rw [labC_2 hla hra hrl]; exact hlog3, hcut⟩
            | exact TQ.mid [(0, _), (4, _), (6, _), (7, _), (8, _), (10, _), (11, _)] ⟨rfl, rfl, rfl, rfl, rfl, rfl, rfl, trivial⟩ ⟨_, _, rfl, by rw [labP_2 hla], by rw [labC_1 (.inr (.inr hrl))]; simpa using hlog, hcut⟩
            | exact TQ.mid [(0, _), (4, _), (6, _), (7, _), (8, _), (10, _), (11, _)] ⟨rfl, rfl, rfl, rfl, rfl, rfl, rfl, trivial⟩ ⟨_, _, rfl, by rw [labP_2 hla], by rw [labC_1 (.inr (.inl hra))]; simpa using hlog, hcut⟩
       rintro _ _ H6 ⟨u1, seg1, rfl, rfl, hlog1, hle6⟩
       have hL := Le.trans hL hle6
       have hA := rd.mono hle6 hA
       have hb := RdL.mono hle6 hb
       have hl := RdL.mono hle6 hl
       have hr := RdL.mono hle6 hr
       have hbk := rd.mono hle6 hbk
       have hlk := rd.mono hle6 hlk
       have hrk := rd.mono hle6 hrk
       have hlog := Log.mono hle6 hlog
       refine TC.seq ?_
       refine TC.drawQV 12  [(0, _), (4, _), (6, _), (7, _), (8, _), (10, _), (11, _)] follows_mixed ⟨rfl, rfl, rfl, rfl, rfl, rfl, rfl, trivial⟩ ?_
       refine ChainV.q (some 61) [] (by
        intro H' X F hle
        intro hF
        refine TL.fieldAddr rfl rfl ?_
        refine TL.nil ?_
        exact TQ.one [] hF (Le.refl _) ⟨rfl, rfl⟩) ?_
       refine ChainV.q (some 62) [(0, 0)] (by
        intro H' X F hle
        have hL := Le.trans hL hle
        have hA := rd.mono hle hA
        have hb := RdL.mono hle hb
        have hl := RdL.mono hle hl
        have hr := RdL.mono hle hr
        have hbk := rd.mono hle hbk
        have hlk := rd.mono hle hlk
        have hrk := rd.mono hle hrk
        have hlog := Log.mono hle hlog
        have hlog1 := Log.mono hle hlog1
        intro hF
        refine TL.load_own 4 0 rfl rfl rfl rfl rfl ?_
        refine TL.nil ?_
        exact TQ.one [] hF (Le.refl _) ⟨rfl, rfl⟩) ?_
       refine ChainV.q (some 63) [] (by
        intro H' X F hle
        intro hF
        refine TL.fieldAddr rfl rfl ?_
        refine TL.nil ?_
        exact TQ.one [] hF (Le.refl _) ⟨rfl, rfl⟩) ?_
       refine ChainV.q (some 64) [(2, 0)] (by
        intro H' X F hle
        have hL := Le.trans hL hle
        have hA := rd.mono hle hA
        have hb := RdL.mono hle hb
        have hl := RdL.mono hle hl
        have hr := RdL.mono hle hr
        have hbk := rd.mono hle hbk
        have hlk := rd.mono hle hlk
        have hrk := rd.mono hle hrk
        have hlog := Log.mono hle hlog
        have hlog1 := Log.mono hle hlog1
        intro hF
        refine TL.load_own 3 0 rfl rfl rfl rfl rfl ?_
        refine TL.nil ?_
        exact TQ.one [] hF (Le.refl _) ⟨rfl, rfl⟩) ?_
       refine ChainV.r (some 65) [(1, 2), (3, 0)] ([]) (fun _ => fun u s H => ∃ c0 c1, u = .agg #[c0, c1] ∧ RdL H (alignP bk lk).d [c0, c1] ∧ s = []) (by
        intro H' X F hle
        have hL := Le.trans hL hle
        have hA := rd.mono hle hA
        have hb := RdL.mono hle hb
        have hl := RdL.mono hle hl
        have hr := RdL.mono hle hr
        have hbk := rd.mono hle hbk
        have hlk := rd.mono hle hlk
        have hrk := rd.mono hle hrk
        have hlog := Log.mono hle hlog
        have hlog1 := Log.mono hle hlog1
        intro hF
        refine TL.call (merge_align (by omega) (by omega) hbk hlk) ⟨rfl, rfl, trivial⟩ rfl ?_
        rintro _ _ H7 ⟨c0, c1, rfl, hr7, rfl, hle7⟩
        refine TL.nil ?_
        exact TQ.one [] hF hle7 ⟨c0, c1, rfl, hr7, rfl⟩) ?_
       refine ChainV.q (some 66) [] (by
        intro H' X F hle
        intro hF
        refine TL.fieldAddr rfl rfl ?_
        refine TL.nil ?_
        exact TQ.one [] hF (Le.refl _) ⟨rfl, rfl⟩) ?_
       refine ChainV.q (some 67) [(5, 0)] (by
        intro H' X F hle
        have hL := Le.trans hL hle
        have hA := rd.mono hle hA
        have hb := RdL.mono hle hb
        have hl := RdL.mono hle hl
        have hr := RdL.mono hle hr
        have hbk := rd.mono hle hbk
        have hlk := rd.mono hle hlk
        have hrk := rd.mono hle hrk
        have hlog := Log.mono hle hlog
        have hlog1 := Log.mono hle hlog1
        intro hF
        refine TL.load_own 4 0 rfl rfl rfl rfl rfl ?_
        refine TL.nil ?_
        exact TQ.one [] hF (Le.refl _) ⟨rfl, rfl⟩) ?_
       refine ChainV.q (some 68) [] (by
        intro H' X F hle
        intro hF
        refine TL.fieldAddr rfl rfl ?_
        refine TL.nil ?_
        exact TQ.one [] hF (Le.refl _) ⟨rfl, rfl⟩) ?_
       refine ChainV.q (some 69) [(7, 0)] (by
        intro H' X F hle
        have hL := Le.trans hL hle
        have hA := rd.mono hle hA
        have hb := RdL.mono hle hb
        have hl := RdL.mono hle hl
        have hr := RdL.mono hle hr
        have hbk := rd.mono hle hbk
        have hlk := rd.mono hle hlk
        have hrk := rd.mono hle hrk
        have hlog := Log.mono hle hlog
        have hlog1 := Log.mono hle hlog1
        intro hF
        refine TL.load_own 2 0 rfl rfl rfl rfl rfl ?_
        refine TL.nil ?_
        exact TQ.one [] hF (Le.refl _) ⟨rfl, rfl⟩) ?_
       refine ChainV.r (some 70) [(6, 2), (8, 0)] ([]) (fun _ => fun u s H => ∃ c0 c1, u = .agg #[c0, c1] ∧ RdL H (alignP bk rk).d [c0, c1] ∧ s = []) (by
        intro H' X F hle
        have hL := Le.trans hL hle
        have hA := rd.mono hle hA
        have hb := RdL.mono hle hb
        have hl := RdL.mono hle hl
        have hr := RdL.mono hle hr
        have hbk := rd.mono hle hbk
        have hlk := rd.mono hle hlk
        have hrk := rd.mono hle hrk
        have hlog := Log.mono hle hlog
        have hlog1 := Log.mono hle hlog1
        intro hF
        refine TL.call (merge_align (by omega) (by omega) hbk hrk) ⟨rfl, rfl, trivial⟩ rfl ?_
        rintro _ _ H7 ⟨c0, c1, rfl, hr7, rfl, hle7⟩
        refine TL.nil ?_
        exact TQ.one [] hF hle7 ⟨c0, c1, rfl, hr7, rfl⟩) ?_
       refine ChainV.r (some 12) [] ([]) (fun _ => fun u s H => ∃ g, u = .pointer (some ⟨g, 0, none⟩) ∧ s = [[(g, .cells #[.slice none 0 0, .slice none 0 0] 122 (0, 0))]]) (by
        intro H' X F hle
        have hL := Le.trans hL hle
        have hA := rd.mono hle hA
        have hb := RdL.mono hle hb
        have hl := RdL.mono hle hl
        have hr := RdL.mono hle hr
        have hbk := rd.mono hle hbk
        have hlk := rd.mono hle hlk
        have hrk := rd.mono hle hrk
        have hlog := Log.mono hle hlog
        have hlog1 := Log.mono hle hlog1
        intro hF
        refine TL.new rfl ?_; intro g12
        refine TL.nil ?_
        exact TQ.one [_] hF (Le.refl _) ⟨_, rfl, rfl⟩) ?_
       refine ChainV.r (some 13) [] ([]) (fun _ => fun u s H => ∃ g, u = .pointer (some ⟨g, 0, none⟩) ∧ s = [[(g, .cells #[.slice none 0 0, .slice none 0 0] 122 (0, 0))]]) (by
        intro H' X F hle
        have hL := Le.trans hL hle
        have hA := rd.mono hle hA
        have hb := RdL.mono hle hb
        have hl := RdL.mono hle hl
        have hr := RdL.mono hle hr
        have hbk := rd.mono hle hbk
        have hlk := rd.mono hle hlk
        have hrk := rd.mono hle hrk
        have hlog := Log.mono hle hlog
        have hlog1 := Log.mono hle hlog1
        intro hF
        refine TL.new rfl ?_; intro g13
        refine TL.nil ?_
        exact TQ.one [_] hF (Le.refl _) ⟨_, rfl, rfl⟩) ?_
       refine ⟨by kernel_rfl, .refl _, ?_⟩
       ·
        intro H3 hle
        rintro _ _ Hx hlex ⟨x0, x1, rfl, hx, rfl⟩
        replace hx := RdL.mono hlex hx
        rintro _ _ Hy hley ⟨y0, y1, rfl, hy, rfl⟩
        replace hy := RdL.mono hley hy
        rintro _ _ Hp hlep ⟨g12, rfl, rfl⟩
        rintro _ _ Hp hlep ⟨g13, rfl, rfl⟩
        have hL := Le.trans hL hle
        have hA := rd.mono hle hA
        have hb := RdL.mono hle hb
        have hl := RdL.mono hle hl
        have hr := RdL.mono hle hr
        have hbk := rd.mono hle hbk
        have hlk := rd.mono hle hlk
        have hrk := rd.mono hle hrk
        have hlog := Log.mono hle hlog
        have hlog1 := Log.mono hle hlog1
        refine TL.toOwn (own' := _ :: _ :: _ :: _ :: _ :: _ :: _ :: _ :: _ :: own) rfl ?_
        refine TL.wk (env' := [(0, _), (4, _), (6, _), (7, _), (8, _), (10, _), (11, _), (65, _), (70, _), (12, _), (13, _)]) ⟨rfl, rfl, rfl, rfl, rfl, rfl, rfl, rfl, rfl, rfl, rfl, trivial⟩ ?_
        refine TL.storeA 1 0 (vs := [x0, x1]) (c' := #[_, _]) (own' := _ :: [(_, .cells #[_, _] _ _)] :: _) rfl rfl rfl rfl rfl ⟨hx.1.one, hx.2.1.one, trivial⟩ (by simp) rfl rfl rfl ?_
        refine TL.storeA 0 0 (vs := [y0, y1]) (c' := #[_, _]) (own' := [(_, .cells #[_, _] _ _)] :: _) rfl rfl rfl rfl rfl ⟨hy.1.one, hy.2.1.one, trivial⟩ (by simp) rfl rfl rfl ?_
        refine TL.nil ?_
        refine TQ.then_n ?_
        refine TC.seq ?_
        refine TC.seq ?_
        refine TC.sel 9 [0, 1, 2, 3, 7, 8, 6] rfl (fun o ho => ?_)
        simp only [K.sel, List.map_cons, List.map_nil, List.getD_cons_zero, List.getD_cons_succ, List.drop_succ_cons, List.drop_zero, List.cons_append, List.nil_append, List.set_cons_zero, List.set_cons_succ] at ho; subst ho
        refine TC.nilseg ?_
        obtain ⟨Ax0, cx0, Ax1, cx1, rfl, rfl, hxF, hxI⟩ := al_cells hx
        obtain ⟨Ay0, cy0, Ay1, cy1, rfl, rfl, hyF, hyI⟩ := al_cells hy
        have n1 := alignP_F bk lk
        have n2 := alignP_I bk lk
        have n3 := alignP_F bk rk
        have n4 := alignP_I bk rk
        have hlen := mergeK_len (mergeF k) bk lk rk p (labC bl ll rl p) (by omega) (by omega)
        have hlogn := mergeK_log (mergeF k) bk (alignP bk lk) (alignP bk rk) p (labC bl ll rl p) (labC_len _ _ _ _) (fun t _ x y q => mergeF_log k t x y q)
        have hS0 : mergeK (mergeF k) bk (alignP bk lk) (alignP bk rk) p (labC bl ll rl p) 0 = ([], labC bl ll rl p) := rfl
        have hSs := fun i t la lb f1 f2 => mergeK_some (f := mergeF k) (b := bk) (x := alignP bk lk) (y := alignP bk rk) (p := p) (c0 := labC bl ll rl p) (i := i) (t := t) (la := la) (lb := lb) (f1 := f1) (f2 := f2)
        have hSn := fun i la lb => mergeK_none (f := mergeF k) (b := bk) (x := alignP bk lk) (y := alignP bk rk) (p := p) (c0 := labC bl ll rl p) (i := i) (la := la) (lb := lb)
        obtain ⟨S, hS⟩ : ∃ S, S = mergeK (mergeF k) bk (alignP bk lk) (alignP bk rk) p (labC bl ll rl p) := ⟨_, rfl⟩
        rw [← hS] at hlen hlogn hS0 hSs hSn
        refine TC.region ?_
        refine TL.fieldAddr rfl rfl ?_
        refine TL.load_own 7 0 rfl rfl rfl rfl rfl ?_
        refine TL.len_slice rfl rfl ?_
        refine TL.add rfl rfl rfl ⟨by omega, by omega⟩ ?_
        refine TL.move rfl rfl ?_
        refine TL.nil ?_
        refine TQ.then_n ?_
        refine TC.block ?_
        refine TC.loop (fun n env' own' H' => ∃ (i : Nat) (u1 vt : Value) (xs : List Value) (seg1 segk : Seg), n = bk.length + 1 - i ∧ i ≤ bk.length + 1 ∧ Row 27 2 vt (S i).1.length xs segk ∧ RdL H' (Tr.ds (S i).1) xs ∧ Log H' u1 (ps ++ (S i).2) seg1 ∧ env' = [(0, .pointer (some ⟨gm, 0, none⟩)), (4, v), (6, .pointer (some ⟨g6, 0, none⟩)), (10, .pointer (some ⟨g10, 0, none⟩)), (11, .pointer (some ⟨g11, 0, none⟩)), (12, .pointer (some ⟨g12, 0, none⟩)), (13, .pointer (some ⟨g13, 0, none⟩)), (74, .int .i64 ((bk.length : Int) + 1)), (75, .int .i64 (i : Int))] ∧ own' = segk :: [(g13, .cells #[.slice Ay0 (alignP bk rk).F.length cy0, .slice Ay1 (alignP bk rk).I.length cy1] 122 (0, 0))] :: [(g12, .cells #[.slice Ax0 (alignP bk lk).F.length cx0, .slice Ax1 (alignP bk lk).I.length cx1] 122 (0, 0))] :: [(g11, .cells #[.string (labP bl ll rl), vt] 27 (0, 0))] :: [(g10, .cells #[.string ⟨#[]⟩, .slice none 0 0] 27 (0, 0))] :: [(gm, .cells #[u1] e (0, 0))] :: seg1 :: [(g6, .cells #[.string bl, .slice Ab bk.length cb] 27 (0, 0))] :: own ∧ Le H3 H') (bk.length + 1) [(0, _), (4, _), (6, _), (10, _), (11, _), (12, _), (13, _), (74, _), (75, _)] ⟨rfl, rfl, rfl, rfl, rfl, rfl, rfl, rfl, rfl, trivial⟩ ⟨0, u1, _, [], seg1, [], rfl, by omega, by rw [hS0]; exact Row.nil 27 2, by rw [hS0]; trivial, by rw [hS0]; exact hlog1, rfl, rfl, Le.refl _⟩ ?_
        clear hlog1
        rintro n _ _ H8 ⟨i, u1, vt, xs, seg1, segk, rfl, hi1, hrow, hxs, hlog1, rfl, rfl, hle8⟩
        have hL := Le.trans hL hle8
        have hA := rd.mono hle8 hA
        have hb := RdL.mono hle8 hb
        have hl := RdL.mono hle8 hl
        have hr := RdL.mono hle8 hr
        have hbk := rd.mono hle8 hbk
        have hlk := rd.mono hle8 hlk
        have hrk := rd.mono hle8 hrk
        have hlog := Log.mono hle8 hlog
        have hxF := rd.mono hle8 hxF
        have hxI := rd.mono hle8 hxI
        have hyF := rd.mono hle8 hyF
        have hyI := rd.mono hle8 hyI
        refine TC.seq ?_
        refine TC.region ?_
        refine TL.lssB rfl rfl rfl (fun hlt => ?_) (fun hlt => ?_)
        ·
         refine TL.nil ?_
         refine TQ.then_n ?_
         refine TC.seq ?_
         refine TC.cond_t rfl ?_
         refine TC.skip ?_
         refine TQ.then_n ?_
         refine TC.seq ?_
         refine TC.block ?_
         refine TC.seq ?_
         refine TC.region ?_
         refine TL.move rfl rfl ?_
         refine TL.assign rfl rfl ?_
         refine TL.nil ?_
         refine TQ.then_n ?_
         refine TC.seq ?_
         refine TC.region ?_
         refine TL.move rfl rfl ?_
         refine TL.call (clone_int (by omega) hA) ⟨rfl, trivial⟩ rfl ?_
         rintro v79 _ H9 ⟨sgp, rfl, hrp, hle9⟩
         have hL := Le.trans hL hle9
         have hA := rd.mono hle9 hA
         have hb := RdL.mono hle9 hb
         have hl := RdL.mono hle9 hl
         have hr := RdL.mono hle9 hr
         have hbk := rd.mono hle9 hbk
         have hlk := rd.mono hle9 hlk
         have hrk := rd.mono hle9 hrk
         have hlog := Log.mono hle9 hlog
         have hxF := rd.mono hle9 hxF
         have hxI := rd.mono hle9 hxI
         have hyF := rd.mono hle9 hyF
         have hyI := rd.mono hle9 hyI
         have hle8 := Le.trans hle8 hle9
         have hxs := RdL.mono hle9 hxs
         have hlog1 := Log.mono hle9 hlog1
         refine TL.move rfl rfl ?_
         refine TL.litF (r := [_]) [(0, [_])] ⟨rfl, ⟨_, rfl, rfl⟩, trivial⟩ rfl rfl rfl rfl ?_; intro g81
         refine TL.append 1 rfl rfl rfl hrp (Src.ofOwn 0 0 rfl rfl rfl (Ones.all (show Ones [_] from ⟨by rfl, trivial⟩)) ⟨rfl, trivial⟩) (by omega) (by omega) rfl ?_
         intro v82 seg82 hrow82
         refine TL.assign rfl rfl ?_
         refine TL.nil ?_
         refine TQ.then_n ?_
         refine TC.seq ?_
         refine TC.sel 10 [1, 0, 2, 3, 4, 5, 6, 7, 8, 9] rfl (fun o ho => ?_)
         simp only [K.sel, List.map_cons, List.map_nil, List.getD_cons_zero, List.getD_cons_succ, List.drop_succ_cons, List.drop_zero, List.cons_append, List.nil_append, List.set_cons_zero, List.set_cons_succ] at ho; subst ho
         refine TC.freeze (fun H4 hle hz_rowp => ?_)
         have hL := Le.trans hL hle
         have hA := rd.mono hle hA
         have hb := RdL.mono hle hb
         have hl := RdL.mono hle hl
         have hr := RdL.mono hle hr
         have hbk := rd.mono hle hbk
         have hlk := rd.mono hle hlk
         have hrk := rd.mono hle hrk
         have hlog := Log.mono hle hlog
         have hxF := rd.mono hle hxF
         have hxI := rd.mono hle hxI
         have hyF := rd.mono hle hyF
         have hyI := rd.mono hle hyI
         have hle8 := Le.trans hle8 hle
         have hxs := RdL.mono hle hxs
         have hlog1 := Log.mono hle hlog1
         have hA2 := path_snoc hrow82 hz_rowp
         obtain ⟨la, hla'⟩ : ∃ l, (alignP bk lk).I[i]? = some l := ⟨_, List.getElem?_eq_getElem (by omega)⟩
         obtain ⟨lb, hlb'⟩ : ∃ l, (alignP bk rk).I[i]? = some l := ⟨_, List.getElem?_eq_getElem (by omega)⟩
         obtain ⟨b1, o1, v1, rfl, hc1, hv1⟩ := ins_at hxI hla'
         obtain ⟨b2, o2, v2, rfl, hc2, hv2⟩ := ins_at hyI hlb'
         have m1 := align_ins hla'
         have m2 := align_ins hlb'
         have m3 := insP_len la lb (p ++ [i])
         have m4 := hlen i
         have m5 : (S i).2.length ≤ 2 + 4 * Tr.sizes bk := by
           rcases Nat.lt_or_ge bk.length i with h | h
           · omega
           · have := hlogn i h
             have := sizes_take' bk i
             omega
         refine TC.sel 9 [6, 7, 0, 1, 2, 3, 4, 5, 8] rfl (fun o ho => ?_)
         simp only [K.sel, List.map_cons, List.map_nil, List.getD_cons_zero, List.getD_cons_succ, List.drop_succ_cons, List.drop_zero, List.cons_append, List.nil_append, List.set_cons_zero, List.set_cons_succ] at ho; subst ho
         refine TC.drawC2V 15  [(0, _), (4, _), (6, _), (10, _), (11, _), (12, _), (13, _), (74, _), (75, _), (14, _), (15, _)] follows_mixed ⟨rfl, rfl, rfl, rfl, rfl, rfl, rfl, rfl, rfl, rfl, rfl, trivial⟩ ?_
         refine ChainV.q (some 83) [] (by
          intro H' X F hle
          intro hF
          refine TL.fieldAddr rfl rfl ?_
          refine TL.nil ?_
          exact TQ.one [] hF (Le.refl _) ⟨rfl, rfl⟩) ?_
         refine ChainV.q (some 84) [(0, 0)] (by
          intro H' X F hle
          have hL := Le.trans hL hle
          have hA := rd.mono hle hA
          have hb := RdL.mono hle hb
          have hl := RdL.mono hle hl
          have hr := RdL.mono hle hr
          have hbk := rd.mono hle hbk
          have hlk := rd.mono hle hlk
          have hrk := rd.mono hle hrk
          have hlog := Log.mono hle hlog
          have hxF := rd.mono hle hxF
          have hxI := rd.mono hle hxI
          have hyF := rd.mono hle hyF
          have hyI := rd.mono hle hyI
          have hle8 := Le.trans hle8 hle
          have hxs := RdL.mono hle hxs
          have hlog1 := Log.mono hle hlog1
          have hz_rowp := hz.mono hle hz_rowp
          have hA2 := rd.mono hle hA2
          have hc1 := cel_le hle hc1
          have hc2 := cel_le hle hc2
          have hv1 := rd.mono hle hv1
          have hv2 := rd.mono hle hv2
          intro hF
          refine TL.load_own 4 0 rfl rfl rfl rfl rfl ?_
          refine TL.nil ?_
          exact TQ.one [] hF (Le.refl _) ⟨rfl, rfl⟩) ?_
         refine ChainV.q (some 85) [] (by
          intro H' X F hle
          intro hF
          refine TL.move rfl rfl ?_
          refine TL.nil ?_
          exact TQ.one [] hF (Le.refl _) ⟨rfl, rfl⟩) ?_
         refine ChainV.q (some 86) [] (by
          intro H' X F hle
          intro hF
          refine TL.fieldAddr rfl rfl ?_
          refine TL.nil ?_
          exact TQ.one [] hF (Le.refl _) ⟨rfl, rfl⟩) ?_
         refine ChainV.q (some 87) [(3, 0)] (by
          intro H' X F hle
          have hL := Le.trans hL hle
          have hA := rd.mono hle hA
          have hb := RdL.mono hle hb
          have hl := RdL.mono hle hl
          have hr := RdL.mono hle hr
          have hbk := rd.mono hle hbk
          have hlk := rd.mono hle hlk
          have hrk := rd.mono hle hrk
          have hlog := Log.mono hle hlog
          have hxF := rd.mono hle hxF
          have hxI := rd.mono hle hxI
          have hyF := rd.mono hle hyF
          have hyI := rd.mono hle hyI
          have hle8 := Le.trans hle8 hle
          have hxs := RdL.mono hle hxs
          have hlog1 := Log.mono hle hlog1
          have hz_rowp := hz.mono hle hz_rowp
          have hA2 := rd.mono hle hA2
          have hc1 := cel_le hle hc1
          have hc2 := cel_le hle hc2
          have hv1 := rd.mono hle hv1
          have hv2 := rd.mono hle hv2
          intro hF
          refine TL.load_own 3 0 rfl rfl rfl rfl rfl ?_
          refine TL.nil ?_
          exact TQ.one [] hF (Le.refl _) ⟨rfl, rfl⟩) ?_
         refine ChainV.q (some 88) [] (by
          intro H' X F hle
          intro hF
          refine TL.move rfl rfl ?_
          refine TL.nil ?_
          exact TQ.one [] hF (Le.refl _) ⟨rfl, rfl⟩) ?_
         refine ChainV.q (some 89) [(4, 1), (5, 0)] (by
          intro H' X F hle
          intro hF
          refine TL.indexAddr (i) rfl rfl rfl (by omega) rfl ?_
          refine TL.nil ?_
          exact TQ.one [] hF (Le.refl _) ⟨rfl, rfl⟩) ?_
         refine ChainV.q (some 90) [(6, 0)] (by
          intro H' X F hle
          have hL := Le.trans hL hle
          have hA := rd.mono hle hA
          have hb := RdL.mono hle hb
          have hl := RdL.mono hle hl
          have hr := RdL.mono hle hr
          have hbk := rd.mono hle hbk
          have hlk := rd.mono hle hlk
          have hrk := rd.mono hle hrk
          have hlog := Log.mono hle hlog
          have hxF := rd.mono hle hxF
          have hxI := rd.mono hle hxI
          have hyF := rd.mono hle hyF
          have hyI := rd.mono hle hyI
          have hle8 := Le.trans hle8 hle
          have hxs := RdL.mono hle hxs
          have hlog1 := Log.mono hle hlog1
          have hz_rowp := hz.mono hle hz_rowp
          have hA2 := rd.mono hle hA2
          have hc1 := cel_le hle hc1
          have hc2 := cel_le hle hc2
          have hv1 := rd.mono hle hv1
          have hv2 := rd.mono hle hv2
          intro hF
          refine TL.load_imm rfl (hc1) rfl ?_
          refine TL.nil ?_
          exact TQ.one [] hF (Le.refl _) ⟨rfl, rfl⟩) ?_
         refine ChainV.q (some 91) [] (by
          intro H' X F hle
          intro hF
          refine TL.fieldAddr rfl rfl ?_
          refine TL.nil ?_
          exact TQ.one [] hF (Le.refl _) ⟨rfl, rfl⟩) ?_
         refine ChainV.q (some 92) [(8, 0)] (by
          intro H' X F hle
          have hL := Le.trans hL hle
          have hA := rd.mono hle hA
          have hb := RdL.mono hle hb
          have hl := RdL.mono hle hl
          have hr := RdL.mono hle hr
          have hbk := rd.mono hle hbk
          have hlk := rd.mono hle hlk
          have hrk := rd.mono hle hrk
          have hlog := Log.mono hle hlog
          have hxF := rd.mono hle hxF
          have hxI := rd.mono hle hxI
          have hyF := rd.mono hle hyF
          have hyI := rd.mono hle hyI
          have hle8 := Le.trans hle8 hle
          have hxs := RdL.mono hle hxs
          have hlog1 := Log.mono hle hlog1
          have hz_rowp := hz.mono hle hz_rowp
          have hA2 := rd.mono hle hA2
          have hc1 := cel_le hle hc1
          have hc2 := cel_le hle hc2
          have hv1 := rd.mono hle hv1
          have hv2 := rd.mono hle hv2
          intro hF
          refine TL.load_own 2 0 rfl rfl rfl rfl rfl ?_
          refine TL.nil ?_
          exact TQ.one [] hF (Le.refl _) ⟨rfl, rfl⟩) ?_
         refine ChainV.q (some 93) [] (by
          intro H' X F hle
          intro hF
          refine TL.move rfl rfl ?_
          refine TL.nil ?_
          exact TQ.one [] hF (Le.refl _) ⟨rfl, rfl⟩) ?_
         refine ChainV.q (some 94) [(9, 1), (10, 0)] (by
          intro H' X F hle
          intro hF
          refine TL.indexAddr (i) rfl rfl rfl (by omega) rfl ?_
          refine TL.nil ?_
          exact TQ.one [] hF (Le.refl _) ⟨rfl, rfl⟩) ?_
         refine ChainV.q (some 95) [(11, 0)] (by
          intro H' X F hle
          have hL := Le.trans hL hle
          have hA := rd.mono hle hA
          have hb := RdL.mono hle hb
          have hl := RdL.mono hle hl
          have hr := RdL.mono hle hr
          have hbk := rd.mono hle hbk
          have hlk := rd.mono hle hlk
          have hrk := rd.mono hle hrk
          have hlog := Log.mono hle hlog
          have hxF := rd.mono hle hxF
          have hxI := rd.mono hle hxI
          have hyF := rd.mono hle hyF
          have hyI := rd.mono hle hyI
          have hle8 := Le.trans hle8 hle
          have hxs := RdL.mono hle hxs
          have hlog1 := Log.mono hle hlog1
          have hz_rowp := hz.mono hle hz_rowp
          have hA2 := rd.mono hle hA2
          have hc1 := cel_le hle hc1
          have hc2 := cel_le hle hc2
          have hv1 := rd.mono hle hv1
          have hv2 := rd.mono hle hv2
          intro hF
          refine TL.load_imm rfl (hc2) rfl ?_
          refine TL.nil ?_
          exact TQ.one [] hF (Le.refl _) ⟨rfl, rfl⟩) ?_
         refine ChainV.q (some 96) [] (by
          intro H' X F hle
          intro hF
          refine TL.move rfl rfl ?_
          refine TL.nil ?_
          exact TQ.one [] hF (Le.refl _) ⟨rfl, rfl⟩) ?_
         refine ChainV.r (some 97) [(2, 11), (7, 6), (12, 1), (13, 0)] ([[(gm, .cells #[u1] e (0, 0))], seg1]) (fun _ => fun r s H => ∃ u2 seg2, s = [[(gm, .cells #[u2] e (0, 0))], seg2] ∧ rd H (.s 2 (Tr.ds (insP la lb (p ++ [i])).1)) r ∧ Log H u2 (ps ++ (S i).2 ++ (insP la lb (p ++ [i])).2) seg2) (by
          intro H' X F hle
          have hL := Le.trans hL hle
          have hA := rd.mono hle hA
          have hb := RdL.mono hle hb
          have hl := RdL.mono hle hl
          have hr := RdL.mono hle hr
          have hbk := rd.mono hle hbk
          have hlk := rd.mono hle hlk
          have hrk := rd.mono hle hrk
          have hlog := Log.mono hle hlog
          have hxF := rd.mono hle hxF
          have hxI := rd.mono hle hxI
          have hyF := rd.mono hle hyF
          have hyI := rd.mono hle hyI
          have hle8 := Le.trans hle8 hle
          have hxs := RdL.mono hle hxs
          have hlog1 := Log.mono hle hlog1
          have hz_rowp := hz.mono hle hz_rowp
          have hA2 := rd.mono hle hA2
          have hc1 := cel_le hle hc1
          have hc2 := cel_le hle hc2
          have hv1 := rd.mono hle hv1
          have hv2 := rd.mono hle hv2
          intro hF
          refine TL.call (merge_insert (by simp; omega) (by simp; omega) hv1 hv2 hA2 hlog1) ⟨rfl, rfl, rfl, rfl, trivial⟩ rfl ?_
          rintro r97 _ H10 ⟨u2, seg2, hr9, rfl, hlog9, hle10⟩
          refine TL.nil ?_
          exact TQ.one [_, _] hF hle10 ⟨_, _, rfl, hr9, hlog9⟩) ?_
         refine ⟨by kernel_rfl, .refl _, ?_⟩
         ·
          intro H5 hle
          rintro r97 _ Hi hlei ⟨u2, seg2, rfl, hr97, hlog2⟩
          replace hr97 := rd.mono hlei hr97
          replace hlog2 := Log.mono hlei hlog2
          have hL := Le.trans hL hle
          have hA := rd.mono hle hA
          have hb := RdL.mono hle hb
          have hl := RdL.mono hle hl
          have hr := RdL.mono hle hr
          have hbk := rd.mono hle hbk
          have hlk := rd.mono hle hlk
          have hrk := rd.mono hle hrk
          have hlog := Log.mono hle hlog
          have hxF := rd.mono hle hxF
          have hxI := rd.mono hle hxI
          have hyF := rd.mono hle hyF
          have hyI := rd.mono hle hyI
          have hle8 := Le.trans hle8 hle
          have hxs := RdL.mono hle hxs
          have hlog1 := Log.mono hle hlog1
          have hz_rowp := hz.mono hle hz_rowp
          have hA2 := rd.mono hle hA2
          have hc1 := cel_le hle hc1
          have hc2 := cel_le hle hc2
          have hv1 := rd.mono hle hv1
          have hv2 := rd.mono hle hv2
          refine TL.toOwn (own' := _ :: _ :: _ :: _ :: _ :: _ :: _ :: _ :: _ :: own) rfl ?_
          refine TL.wk (env' := [(0, _), (4, _), (6, _), (10, _), (11, _), (12, _), (13, _), (74, _), (75, _), (14, _), (15, _), (84, _), (97, _)]) ⟨rfl, rfl, rfl, rfl, rfl, rfl, rfl, rfl, rfl, rfl, rfl, rfl, rfl, trivial⟩ ?_
          obtain ⟨A97, c97, nw97, rfl, hs97, hn97⟩ := hr97.srcN (m := (insP la lb (p ++ [i])).1.length) (by omega) (Tr.ds_len _) (Tr.ds_one _)
          refine TL.append 3 rfl rfl rfl hrow (hs97 _ _) (by omega) (by omega) rfl ?_
          intro v98 seg98 hrow98
          refine TL.fieldAddr rfl rfl ?_
          refine TL.store1 6 0 (c' := #[_, _]) (own' := _ :: _ :: _ :: _ :: _ :: _ :: [(_, .cells #[_, _] _ _)] :: _) rfl rfl rfl rfl hrow98.one (by simp) rfl rfl rfl ?_
          refine TL.nil ?_
          refine TQ.then_n ?_
          refine TC.seq ?_
          refine TC.region ?_
          refine TL.move rfl rfl ?_
          refine TL.fieldAddr rfl rfl ?_
          refine TL.load_own 8 0 rfl rfl rfl rfl rfl ?_
          refine TL.len_slice rfl rfl ?_
          refine TL.lssB rfl rfl rfl (fun hin => ?_) (fun hin => ?_)
          ·
           obtain ⟨t, ht⟩ : ∃ t, bk[i]? = some t := ⟨_, List.getElem?_eq_getElem (by omega)⟩
           obtain ⟨f1, hf1⟩ : ∃ f, (alignP bk lk).F[i]? = some f := ⟨_, List.getElem?_eq_getElem (by omega)⟩
           obtain ⟨f2, hf2⟩ : ∃ f, (alignP bk rk).F[i]? = some f := ⟨_, List.getElem?_eq_getElem (by omega)⟩
           obtain ⟨b3, o3, p0, p1, rfl, hpa, hpr⟩ := trs_at hbk ht
           obtain ⟨b4, o4, x0, x1, x2, rfl, hxa, hxr⟩ := fate_at hxF hf1
           obtain ⟨b5, o5, y0, y1, y2, rfl, hya, hyr⟩ := fate_at hyF hf2
           have q1 := align_fate hf1
           have q2 := align_fate hf2
           have q3 := Tr.size_mem (List.mem_of_getElem? ht)
           have q4 := hlogn i (by omega)
           have q5 := sizes_take_succ ht
           have q6 := sizes_take' bk (i + 1)
           have q7 := kidP_len (mergeF k) t f1 f2 (p ++ [i])
           refine TL.nil ?_
           refine TQ.then_n ?_
           refine TC.cond_t rfl ?_
           refine TC.drawC2V 20  [(0, _), (4, _), (6, _), (10, _), (11, _), (12, _), (13, _), (74, _), (75, _), (14, _), (15, _)] follows_mixed ⟨rfl, rfl, rfl, rfl, rfl, rfl, rfl, rfl, rfl, rfl, rfl, trivial⟩ ?_
           refine ChainV.q (some 105) [] (by
            intro H' X F hle
            intro hF
            refine TL.fieldAddr rfl rfl ?_
            refine TL.nil ?_
            exact TQ.one [] hF (Le.refl _) ⟨rfl, rfl⟩) ?_
           refine ChainV.q (some 106) [(0, 0)] (by
            intro H' X F hle
            have hL := Le.trans hL hle
            have hA := rd.mono hle hA
            have hb := RdL.mono hle hb
            have hl := RdL.mono hle hl
            have hr := RdL.mono hle hr
            have hbk := rd.mono hle hbk
            have hlk := rd.mono hle hlk
            have hrk := rd.mono hle hrk
            have hlog := Log.mono hle hlog
            have hxF := rd.mono hle hxF
            have hxI := rd.mono hle hxI
            have hyF := rd.mono hle hyF
            have hyI := rd.mono hle hyI
            have hle8 := Le.trans hle8 hle
            have hxs := RdL.mono hle hxs
            have hlog1 := Log.mono hle hlog1
            have hz_rowp := hz.mono hle hz_rowp
            have hA2 := rd.mono hle hA2
            have hc1 := cel_le hle hc1
            have hc2 := cel_le hle hc2
            have hv1 := rd.mono hle hv1
            have hv2 := rd.mono hle hv2
            have hr97 := rd.mono hle hr97
            have hlog2 := Log.mono hle hlog2
            have hn97 := RdL.mono hle hn97
            have hpa := hAt.mono hle hpa
            have hpr := RdL.mono hle hpr
            have hxa := hAt.mono hle hxa
            have hxr := RdL.mono hle hxr
            have hya := hAt.mono hle hya
            have hyr := RdL.mono hle hyr
            intro hF
            refine TL.load_own 4 0 rfl rfl rfl rfl rfl ?_
            refine TL.nil ?_
            exact TQ.one [] hF (Le.refl _) ⟨rfl, rfl⟩) ?_
           refine ChainV.q (some 107) [] (by
            intro H' X F hle
            intro hF
            refine TL.move rfl rfl ?_
            refine TL.nil ?_
            exact TQ.one [] hF (Le.refl _) ⟨rfl, rfl⟩) ?_
           refine ChainV.q (some 108) [] (by
            intro H' X F hle
            intro hF
            refine TL.fieldAddr rfl rfl ?_
            refine TL.nil ?_
            exact TQ.one [] hF (Le.refl _) ⟨rfl, rfl⟩) ?_
           refine ChainV.q (some 109) [(3, 0)] (by
            intro H' X F hle
            have hL := Le.trans hL hle
            have hA := rd.mono hle hA
            have hb := RdL.mono hle hb
            have hl := RdL.mono hle hl
            have hr := RdL.mono hle hr
            have hbk := rd.mono hle hbk
            have hlk := rd.mono hle hlk
            have hrk := rd.mono hle hrk
            have hlog := Log.mono hle hlog
            have hxF := rd.mono hle hxF
            have hxI := rd.mono hle hxI
            have hyF := rd.mono hle hyF
            have hyI := rd.mono hle hyI
            have hle8 := Le.trans hle8 hle
            have hxs := RdL.mono hle hxs
            have hlog1 := Log.mono hle hlog1
            have hz_rowp := hz.mono hle hz_rowp
            have hA2 := rd.mono hle hA2
            have hc1 := cel_le hle hc1
            have hc2 := cel_le hle hc2
            have hv1 := rd.mono hle hv1
            have hv2 := rd.mono hle hv2
            have hr97 := rd.mono hle hr97
            have hlog2 := Log.mono hle hlog2
            have hn97 := RdL.mono hle hn97
            have hpa := hAt.mono hle hpa
            have hpr := RdL.mono hle hpr
            have hxa := hAt.mono hle hxa
            have hxr := RdL.mono hle hxr
            have hya := hAt.mono hle hya
            have hyr := RdL.mono hle hyr
            intro hF
            refine TL.load_own 6 0 rfl rfl rfl rfl rfl ?_
            refine TL.nil ?_
            exact TQ.one [] hF (Le.refl _) ⟨rfl, rfl⟩) ?_
           refine ChainV.q (some 110) [] (by
            intro H' X F hle
            intro hF
            refine TL.move rfl rfl ?_
            refine TL.nil ?_
            exact TQ.one [] hF (Le.refl _) ⟨rfl, rfl⟩) ?_
           refine ChainV.q (some 111) [(4, 1), (5, 0)] (by
            intro H' X F hle
            intro hF
            refine TL.indexAddr (i) rfl rfl rfl (by omega) rfl ?_
            refine TL.nil ?_
            exact TQ.one [] hF (Le.refl _) ⟨rfl, rfl⟩) ?_
           refine ChainV.q (some 112) [(6, 0)] (by
            intro H' X F hle
            have hL := Le.trans hL hle
            have hA := rd.mono hle hA
            have hb := RdL.mono hle hb
            have hl := RdL.mono hle hl
            have hr := RdL.mono hle hr
            have hbk := rd.mono hle hbk
            have hlk := rd.mono hle hlk
            have hrk := rd.mono hle hrk
            have hlog := Log.mono hle hlog
            have hxF := rd.mono hle hxF
            have hxI := rd.mono hle hxI
            have hyF := rd.mono hle hyF
            have hyI := rd.mono hle hyI
            have hle8 := Le.trans hle8 hle
            have hxs := RdL.mono hle hxs
            have hlog1 := Log.mono hle hlog1
            have hz_rowp := hz.mono hle hz_rowp
            have hA2 := rd.mono hle hA2
            have hc1 := cel_le hle hc1
            have hc2 := cel_le hle hc2
            have hv1 := rd.mono hle hv1
            have hv2 := rd.mono hle hv2
            have hr97 := rd.mono hle hr97
            have hlog2 := Log.mono hle hlog2
            have hn97 := RdL.mono hle hn97
            have hpa := hAt.mono hle hpa
            have hpr := RdL.mono hle hpr
            have hxa := hAt.mono hle hxa
            have hxr := RdL.mono hle hxr
            have hya := hAt.mono hle hya
            have hyr := RdL.mono hle hyr
            intro hF
            refine TL.load_immA rfl (hpa) rfl rfl ?_
            refine TL.nil ?_
            exact TQ.one [] hF (Le.refl _) ⟨rfl, rfl⟩) ?_
           refine ChainV.q (some 113) [] (by
            intro H' X F hle
            intro hF
            refine TL.fieldAddr rfl rfl ?_
            refine TL.nil ?_
            exact TQ.one [] hF (Le.refl _) ⟨rfl, rfl⟩) ?_
           refine ChainV.q (some 114) [(8, 0)] (by
            intro H' X F hle
            have hL := Le.trans hL hle
            have hA := rd.mono hle hA
            have hb := RdL.mono hle hb
            have hl := RdL.mono hle hl
            have hr := RdL.mono hle hr
            have hbk := rd.mono hle hbk
            have hlk := rd.mono hle hlk
            have hrk := rd.mono hle hrk
            have hlog := Log.mono hle hlog
            have hxF := rd.mono hle hxF
            have hxI := rd.mono hle hxI
            have hyF := rd.mono hle hyF
            have hyI := rd.mono hle hyI
            have hle8 := Le.trans hle8 hle
            have hxs := RdL.mono hle hxs
            have hlog1 := Log.mono hle hlog1
            have hz_rowp := hz.mono hle hz_rowp
            have hA2 := rd.mono hle hA2
            have hc1 := cel_le hle hc1
            have hc2 := cel_le hle hc2
            have hv1 := rd.mono hle hv1
            have hv2 := rd.mono hle hv2
            have hr97 := rd.mono hle hr97
            have hlog2 := Log.mono hle hlog2
            have hn97 := RdL.mono hle hn97
            have hpa := hAt.mono hle hpa
            have hpr := RdL.mono hle hpr
            have hxa := hAt.mono hle hxa
            have hxr := RdL.mono hle hxr
            have hya := hAt.mono hle hya
            have hyr := RdL.mono hle hyr
            intro hF
            refine TL.load_own 3 0 rfl rfl rfl rfl rfl ?_
            refine TL.nil ?_
            exact TQ.one [] hF (Le.refl _) ⟨rfl, rfl⟩) ?_
           refine ChainV.q (some 115) [] (by
            intro H' X F hle
            intro hF
            refine TL.move rfl rfl ?_
            refine TL.nil ?_
            exact TQ.one [] hF (Le.refl _) ⟨rfl, rfl⟩) ?_
           refine ChainV.q (some 116) [(9, 1), (10, 0)] (by
            intro H' X F hle
            intro hF
            refine TL.indexAddr (i) rfl rfl rfl (by omega) rfl ?_
            refine TL.nil ?_
            exact TQ.one [] hF (Le.refl _) ⟨rfl, rfl⟩) ?_
           refine ChainV.q (some 117) [(11, 0)] (by
            intro H' X F hle
            have hL := Le.trans hL hle
            have hA := rd.mono hle hA
            have hb := RdL.mono hle hb
            have hl := RdL.mono hle hl
            have hr := RdL.mono hle hr
            have hbk := rd.mono hle hbk
            have hlk := rd.mono hle hlk
            have hrk := rd.mono hle hrk
            have hlog := Log.mono hle hlog
            have hxF := rd.mono hle hxF
            have hxI := rd.mono hle hxI
            have hyF := rd.mono hle hyF
            have hyI := rd.mono hle hyI
            have hle8 := Le.trans hle8 hle
            have hxs := RdL.mono hle hxs
            have hlog1 := Log.mono hle hlog1
            have hz_rowp := hz.mono hle hz_rowp
            have hA2 := rd.mono hle hA2
            have hc1 := cel_le hle hc1
            have hc2 := cel_le hle hc2
            have hv1 := rd.mono hle hv1
            have hv2 := rd.mono hle hv2
            have hr97 := rd.mono hle hr97
            have hlog2 := Log.mono hle hlog2
            have hn97 := RdL.mono hle hn97
            have hpa := hAt.mono hle hpa
            have hpr := RdL.mono hle hpr
            have hxa := hAt.mono hle hxa
            have hxr := RdL.mono hle hxr
            have hya := hAt.mono hle hya
            have hyr := RdL.mono hle hyr
            intro hF
            refine TL.load_immA rfl (hxa) rfl rfl ?_
            refine TL.nil ?_
            exact TQ.one [] hF (Le.refl _) ⟨rfl, rfl⟩) ?_
           refine ChainV.q (some 118) [] (by
            intro H' X F hle
            intro hF
            refine TL.fieldAddr rfl rfl ?_
            refine TL.nil ?_
            exact TQ.one [] hF (Le.refl _) ⟨rfl, rfl⟩) ?_
           refine ChainV.q (some 119) [(13, 0)] (by
            intro H' X F hle
            have hL := Le.trans hL hle
            have hA := rd.mono hle hA
            have hb := RdL.mono hle hb
            have hl := RdL.mono hle hl
            have hr := RdL.mono hle hr
            have hbk := rd.mono hle hbk
            have hlk := rd.mono hle hlk
            have hrk := rd.mono hle hrk
            have hlog := Log.mono hle hlog
            have hxF := rd.mono hle hxF
            have hxI := rd.mono hle hxI
            have hyF := rd.mono hle hyF
            have hyI := rd.mono hle hyI
            have hle8 := Le.trans hle8 hle
            have hxs := RdL.mono hle hxs
            have hlog1 := Log.mono hle hlog1
            have hz_rowp := hz.mono hle hz_rowp
            have hA2 := rd.mono hle hA2
            have hc1 := cel_le hle hc1
            have hc2 := cel_le hle hc2
            have hv1 := rd.mono hle hv1
            have hv2 := rd.mono hle hv2
            have hr97 := rd.mono hle hr97
            have hlog2 := Log.mono hle hlog2
            have hn97 := RdL.mono hle hn97
            have hpa := hAt.mono hle hpa
            have hpr := RdL.mono hle hpr
            have hxa := hAt.mono hle hxa
            have hxr := RdL.mono hle hxr
            have hya := hAt.mono hle hya
            have hyr := RdL.mono hle hyr
            intro hF
            refine TL.load_own 2 0 rfl rfl rfl rfl rfl ?_
            refine TL.nil ?_
            exact TQ.one [] hF (Le.refl _) ⟨rfl, rfl⟩) ?_
           refine ChainV.q (some 120) [] (by
            intro H' X F hle
            intro hF
            refine TL.move rfl rfl ?_
            refine TL.nil ?_
            exact TQ.one [] hF (Le.refl _) ⟨rfl, rfl⟩) ?_
           refine ChainV.q (some 121) [(14, 1), (15, 0)] (by
            intro H' X F hle
            intro hF
            refine TL.indexAddr (i) rfl rfl rfl (by omega) rfl ?_
            refine TL.nil ?_
            exact TQ.one [] hF (Le.refl _) ⟨rfl, rfl⟩) ?_
           refine ChainV.q (some 122) [(16, 0)] (by
            intro H' X F hle
            have hL := Le.trans hL hle
            have hA := rd.mono hle hA
            have hb := RdL.mono hle hb
            have hl := RdL.mono hle hl
            have hr := RdL.mono hle hr
            have hbk := rd.mono hle hbk
            have hlk := rd.mono hle hlk
            have hrk := rd.mono hle hrk
            have hlog := Log.mono hle hlog
            have hxF := rd.mono hle hxF
            have hxI := rd.mono hle hxI
            have hyF := rd.mono hle hyF
            have hyI := rd.mono hle hyI
            have hle8 := Le.trans hle8 hle
            have hxs := RdL.mono hle hxs
            have hlog1 := Log.mono hle hlog1
            have hz_rowp := hz.mono hle hz_rowp
            have hA2 := rd.mono hle hA2
            have hc1 := cel_le hle hc1
            have hc2 := cel_le hle hc2
            have hv1 := rd.mono hle hv1
            have hv2 := rd.mono hle hv2
            have hr97 := rd.mono hle hr97
            have hlog2 := Log.mono hle hlog2
            have hn97 := RdL.mono hle hn97
            have hpa := hAt.mono hle hpa
            have hpr := RdL.mono hle hpr
            have hxa := hAt.mono hle hxa
            have hxr := RdL.mono hle hxr
            have hya := hAt.mono hle hya
            have hyr := RdL.mono hle hyr
            intro hF
            refine TL.load_immA rfl (hya) rfl rfl ?_
            refine TL.nil ?_
            exact TQ.one [] hF (Le.refl _) ⟨rfl, rfl⟩) ?_
           refine ChainV.q (some 123) [] (by
            intro H' X F hle
            intro hF
            refine TL.move rfl rfl ?_
            refine TL.nil ?_
            exact TQ.one [] hF (Le.refl _) ⟨rfl, rfl⟩) ?_
           refine ChainV.r (some 124) [(2, 16), (7, 11), (12, 6), (17, 1), (18, 0)] ([[(gm, .cells #[u2] e (0, 0))], seg2]) (fun _ => fun r s H => ∃ u3 seg3, s = [[(gm, .cells #[u3] e (0, 0))], seg3] ∧ rd H (.s 2 (Tr.ds (kidP (mergeF k) t f1 f2 (p ++ [i])).1)) r ∧ Log H u3 (ps ++ (S i).2 ++ (insP la lb (p ++ [i])).2 ++ (kidP (mergeF k) t f1 f2 (p ++ [i])).2) seg3) (by
            intro H' X F hle
            have hL := Le.trans hL hle
            have hA := rd.mono hle hA
            have hb := RdL.mono hle hb
            have hl := RdL.mono hle hl
            have hr := RdL.mono hle hr
            have hbk := rd.mono hle hbk
            have hlk := rd.mono hle hlk
            have hrk := rd.mono hle hrk
            have hlog := Log.mono hle hlog
            have hxF := rd.mono hle hxF
            have hxI := rd.mono hle hxI
            have hyF := rd.mono hle hyF
            have hyI := rd.mono hle hyI
            have hle8 := Le.trans hle8 hle
            have hxs := RdL.mono hle hxs
            have hlog1 := Log.mono hle hlog1
            have hz_rowp := hz.mono hle hz_rowp
            have hA2 := rd.mono hle hA2
            have hc1 := cel_le hle hc1
            have hc2 := cel_le hle hc2
            have hv1 := rd.mono hle hv1
            have hv2 := rd.mono hle hv2
            have hr97 := rd.mono hle hr97
            have hlog2 := Log.mono hle hlog2
            have hn97 := RdL.mono hle hn97
            have hpa := hAt.mono hle hpa
            have hpr := RdL.mono hle hpr
            have hxa := hAt.mono hle hxa
            have hxr := RdL.mono hle hxr
            have hya := hAt.mono hle hya
            have hyr := RdL.mono hle hyr
            intro hF
            refine TL.call (merge_kid (ih t (Tr.size_kid (List.mem_of_getElem? ht) hk0) (by omega)) (by omega) (by omega) (by simp; omega) (by simp; omega) hpr hxr hyr hA2 hlog2) ⟨rfl, rfl, rfl, rfl, rfl, trivial⟩ rfl ?_
            rintro r124 _ H11 ⟨u3, seg3, hr11, rfl, hlog11, hle11⟩
            refine TL.nil ?_
            exact TQ.one [_, _] hF hle11 ⟨_, _, rfl, hr11, hlog11⟩) ?_
           refine ⟨by kernel_rfl, .refl _, ?_⟩
           ·
            intro H6 hle
            rintro r124 _ Hi hlei ⟨u3, seg3, rfl, hr124, hlog3⟩
            replace hr124 := rd.mono hlei hr124
            replace hlog3 := Log.mono hlei hlog3
            have hL := Le.trans hL hle
            have hA := rd.mono hle hA
            have hb := RdL.mono hle hb
            have hl := RdL.mono hle hl
            have hr := RdL.mono hle hr
            have hbk := rd.mono hle hbk
            have hlk := rd.mono hle hlk
            have hrk := rd.mono hle hrk
            have hlog := Log.mono hle hlog
            have hxF := rd.mono hle hxF
            have hxI := rd.mono hle hxI
            have hyF := rd.mono hle hyF
            have hyI := rd.mono hle hyI
            have hle8 := Le.trans hle8 hle
            have hxs := RdL.mono hle hxs
            have hlog1 := Log.mono hle hlog1
            have hz_rowp := hz.mono hle hz_rowp
            have hA2 := rd.mono hle hA2
            have hc1 := cel_le hle hc1
            have hc2 := cel_le hle hc2
            have hv1 := rd.mono hle hv1
            have hv2 := rd.mono hle hv2
            have hr97 := rd.mono hle hr97
            have hlog2 := Log.mono hle hlog2
            have hn97 := RdL.mono hle hn97
            have hpa := hAt.mono hle hpa
            have hpr := RdL.mono hle hpr
            have hxa := hAt.mono hle hxa
            have hxr := RdL.mono hle hxr
            have hya := hAt.mono hle hya
            have hyr := RdL.mono hle hyr
            refine TL.toOwn (own' := _ :: _ :: _ :: _ :: _ :: _ :: _ :: _ :: _ :: own) rfl ?_
            refine TL.wk (env' := [(0, _), (4, _), (6, _), (10, _), (11, _), (12, _), (13, _), (74, _), (75, _), (14, _), (15, _), (106, _), (124, _)]) ⟨rfl, rfl, rfl, rfl, rfl, rfl, rfl, rfl, rfl, rfl, rfl, rfl, rfl, trivial⟩ ?_
            obtain ⟨A124, c124, nw124, rfl, hs124, hn124⟩ := hr124.srcN (m := (kidP (mergeF k) t f1 f2 (p ++ [i])).1.length) (by omega) (Tr.ds_len _) (Tr.ds_one _)
            refine TL.append 3 rfl rfl rfl hrow98 (hs124 _ _) (by omega) (by omega) rfl ?_
            intro v125 seg125 hrow125
            refine TL.fieldAddr rfl rfl ?_
            refine TL.store1 6 0 (c' := #[_, _]) (own' := _ :: _ :: _ :: _ :: _ :: _ :: [(_, .cells #[_, _] _ _)] :: _) rfl rfl rfl rfl hrow125.one (by simp) rfl rfl rfl ?_
            refine TL.nil ?_
            refine TQ.in_n ?_
            refine TQ.then_n ?_
            refine TC.region ?_
            refine TL.add rfl rfl rfl ⟨by omega, by omega⟩ ?_
            refine TL.move rfl rfl ?_
            refine TL.nil ?_
            refine TQ.sel 9 [3, 4, 5, 6, 7, 0, 1, 8] rfl (fun o ho => ?_)
            simp only [K.sel, List.map_cons, List.map_nil, List.getD_cons_zero, List.getD_cons_succ, List.drop_succ_cons, List.drop_zero, List.cons_append, List.nil_append, List.set_cons_zero, List.set_cons_succ] at ho; subst ho
            refine TQ.next (bk.length + 1 - (i + 1)) [(0, _), (4, _), (6, _), (10, _), (11, _), (12, _), (13, _), (74, _), (75, _)] (by omega) ⟨rfl, rfl, rfl, rfl, rfl, rfl, rfl, rfl, rfl, trivial⟩ ⟨i + 1, u3, v125, xs ++ nw97 ++ nw124, seg3, seg125, rfl, by omega, ?_, ?_, ?_, by simp, rfl, hle8⟩
            · rw [hSs i t la lb f1 f2 ht hla' hlb' hf1 hf2]; simpa [Nat.add_assoc] using hrow125
            · rw [hSs i t la lb f1 f2 ht hla' hlb' hf1 hf2]; exact trs_append (trs_append hxs hn97) hn124
            · rw [hSs i t la lb f1 f2 ht hla' hlb' hf1 hf2]; simpa using hlog3
          ·
           refine TL.nil ?_
           refine TQ.then_n ?_
           refine TC.cond_f rfl ?_
           refine TC.skip ?_
           refine TQ.in_n ?_
           refine TQ.then_n ?_
           refine TC.region ?_
           refine TL.add rfl rfl rfl ⟨by omega, by omega⟩ ?_
           refine TL.move rfl rfl ?_
           refine TL.nil ?_
           refine TQ.sel 9 [3, 4, 5, 6, 7, 0, 1, 8] rfl (fun o ho => ?_)
           simp only [K.sel, List.map_cons, List.map_nil, List.getD_cons_zero, List.getD_cons_succ, List.drop_succ_cons, List.drop_zero, List.cons_append, List.nil_append, List.set_cons_zero, List.set_cons_succ] at ho; subst ho
           refine TQ.next (bk.length + 1 - (i + 1)) [(0, _), (4, _), (6, _), (10, _), (11, _), (12, _), (13, _), (74, _), (75, _)] (by omega) ⟨rfl, rfl, rfl, rfl, rfl, rfl, rfl, rfl, rfl, trivial⟩ ⟨i + 1, u2, v98, xs ++ nw97, seg2, seg98, rfl, by omega, ?_, ?_, ?_, by simp, rfl, hle8⟩
           · rw [hSn i la lb (List.getElem?_eq_none (by omega)) hla' hlb']; simpa using hrow98
           · rw [hSn i la lb (List.getElem?_eq_none (by omega)) hla' hlb']; exact trs_append hxs hn97
           · rw [hSn i la lb (List.getElem?_eq_none (by omega)) hla' hlb']; simpa using hlog2
        ·
         refine TL.nil ?_
         refine TQ.then_n ?_
         refine TC.seq ?_
         refine TC.cond_f rfl ?_
         refine TC.exit ?_
         refine TQ.then_e ?_
         refine TQ.then_e ?_
         refine TQ.in_e ?_
         refine TQ.then_n ?_
         refine TC.seq ?_
         have hie : i = bk.length + 1 := by omega
         subst hie
         refine TC.region ?_
         refine TL.load_ownA 3 0 [_, _] rfl rfl rfl ⟨rfl, rfl, trivial⟩ rfl rfl ?_
         refine TL.storeA 4 0 (c' := #[_, _]) (own' := _ :: _ :: _ :: _ :: [(_, .cells #[_, _] _ _)] :: _) rfl rfl rfl rfl rfl ⟨rfl, hrow.one, trivial⟩ (by simp) rfl rfl rfl ?_
         refine TL.nil ?_
         refine TQ.then_n ?_
         refine TC.ret ?_
         refine TQ.freeze (fun H7 hle hz_segk => ?_)
         have hL := Le.trans hL hle
         have hA := rd.mono hle hA
         have hb := RdL.mono hle hb
         have hl := RdL.mono hle hl
         have hr := RdL.mono hle hr
         have hbk := rd.mono hle hbk
         have hlk := rd.mono hle hlk
         have hrk := rd.mono hle hrk
         have hlog := Log.mono hle hlog
         have hxF := rd.mono hle hxF
         have hxI := rd.mono hle hxI
         have hyF := rd.mono hle hyF
         have hyI := rd.mono hle hyI
         have hle8 := Le.trans hle8 hle
         have hxs := RdL.mono hle hxs
         have hlog1 := Log.mono hle hlog1
         refine TQ.sel 7 [3, 4, 5] rfl (fun o ho => ?_)
         simp only [K.sel, List.map_cons, List.map_nil, List.getD_cons_zero, List.getD_cons_succ, List.drop_succ_cons, List.drop_zero, List.cons_append, List.nil_append, List.set_cons_zero, List.set_cons_succ] at ho; subst ho
         refine TQ.retC 0 0 1 [_, _] rfl rfl rfl rfl ⟨rfl, rfl, trivial⟩ rfl rfl ?_
         first
           | exact ⟨_, _, _, _, rfl, by rw [mf_a hlb]; exact hr, rfl, by rw [mf_a hlb]; simpa using hlog, hL⟩
           | exact ⟨_, _, _, _, rfl, by rw [mf_b hlb (.inl hrb)]; exact hl, rfl, by rw [mf_b hlb (.inl hrb)]; simpa using hlog, hL⟩
           | exact ⟨_, _, _, _, rfl, by rw [mf_b hlb (.inr hlr)]; exact hl, rfl, by rw [mf_b hlb (.inr hlr)]; simpa using hlog, hL⟩
           | exact ⟨_, _, _, _, rfl, by rw [mf_c hlb hrb hlr, ← hS]; exact tr_mk (rd.ofRow hrow hz_segk hxs (Le.refl _)), rfl, by rw [mf_c hlb hrb hlr, ← hS]; exact hlog1, hL⟩

end Go.Proofs.Ytapmmfabdmhdnaa.K
