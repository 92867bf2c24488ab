/-
  Merge.
-/
import Derived.Test.YtapmmfabdmhdnaaCompact
import Derived.Test.YtapmmfabdmhdnaaWNode
set_option linter.unusedVariables false
set_option linter.unusedSimpArgs false
set_option maxHeartbeats 4000000
namespace Go.Proofs.Ytapmmfabdmhdnaa.K
open Go Go.RowKit Go.Proofs


theorem mr_0 {b l r : Tr} (h : (mergeF b.size b l r []).2 = []) : mergeR b l r = ((mergeF b.size b l r []).1, []) := by simp only [mergeR]; rw [if_pos h]
theorem mr_1 {b l r : Tr} (h : (mergeF b.size b l r []).2 ≠ []) : mergeR b l r = (Tr.node ⟨#[]⟩ [], canon (mergeF b.size b l r []).2) := by simp only [mergeR]; rw [if_neg h]; rfl

theorem Log.len {H : Hp} {u : Value} {ps : List Path} {seg : Seg} (h : Log H u ps seg) : ∃ A c, u = .slice A ps.length c := by
  obtain ⟨xs, ⟨_, hrow⟩, _⟩ := h
  rcases hrow with ⟨rfl, h0, _⟩ | ⟨g, cap, cur, rfl, _⟩
  · exact ⟨none, 0, by rw [h0]⟩
  · exact ⟨_, cap, rfl⟩
theorem path_nil (H : Hp) : rd H (pD []) (.slice none 0 0) := rd.nil H 1
theorem merge_top {b l r : Tr} (hbs : b.size ≤ 1000) (hls : l.size ≤ 1000) (hrs : r.size ≤ 1000) {w0 : World} {H : Hp} {own : List Seg} {b0 b1 l0 l1 r0 r1 : Value} (hb : RdL H b.d [b0, b1]) (hl : RdL H l.d [l0, l1]) (hr : RdL H r.d [r0, r1]) :
    Fn Try.prog 17 [.agg #[b0, b1], .agg #[l0, l1], .agg #[r0, r1]] w0 H own
      (fun v own' H' => ∃ c0 c1 pv, v = .tuple #[.agg #[c0, c1], pv] ∧ RdL H' (mergeR b l r).1.d [c0, c1] ∧ rd H' (.s 1 ((mergeR b l r).2.map pD)) pv ∧ own' = own ∧ Le H H') := by
  have hsize := mergeF_size (M := 1000) b.size b l r [] hbs hls hrs
  have hsize2 : 4 * 1000 * (2 * b.size - 1) ≤ 4 * 1000 * 2000 := Nat.mul_le_mul_left _ (by omega)
  have hmlog := mergeF_log b.size b l r []
  have hob := tr_ones hb
  have hol := tr_ones hl
  have hor := tr_ones hr
  refine Fn.enter Try.func17 rfl Try.ntmps17 rfl ?_
  have hL := Le.refl H
  refine TC.seq ?_
  refine TC.region ?_
  refine TL.box (c := #[_, _]) rfl rfl rfl ?_; intro g3
  refine TL.box (c := #[_, _]) rfl rfl rfl ?_; intro g4
  refine TL.box (c := #[_, _]) rfl rfl rfl ?_; intro g5
  refine TL.new rfl ?_; intro g6
  refine TL.assign rfl rfl ?_
  refine TL.nil ?_
  refine TQ.then_n ?_
  refine TC.seq ?_
  refine TC.region ?_
  refine TL.struct [] trivial rfl rfl ?_
  refine TL.box (c := #[_]) rfl rfl rfl ?_; intro g11
  refine TL.assign rfl rfl ?_
  refine TL.nil ?_
  refine TQ.then_n ?_
  refine TC.seq ?_
  refine TC.nilseg ?_
  refine TC.region ?_
  refine TL.move rfl rfl ?_
  refine TL.load_ownA 5 0 [_, _] rfl rfl rfl ⟨rfl, rfl, trivial⟩ rfl rfl ?_
  refine TL.load_ownA 4 0 [_, _] rfl rfl rfl ⟨rfl, rfl, trivial⟩ rfl rfl ?_
  refine TL.load_ownA 3 0 [_, _] rfl rfl rfl ⟨rfl, rfl, trivial⟩ rfl rfl ?_
  refine TL.sel 6 [1, 0, 2, 3, 4, 5] rfl (fun o ho => ?_)
  simp only [K.sel, List.map_cons, List.map_nil, List.getD_cons_zero, List.getD_cons_succ, List.drop_succ_cons, List.drop_zero, List.cons_append, List.nil_append, List.set_cons_zero, List.set_cons_succ] at ho; subst ho
  refine TL.call (merge_node b.size b (Nat.le_refl _) (by omega) (by omega) (by omega) (by simp; omega) (by simp; omega) hb hl hr (path_nil _) (Log.nil _)) ⟨rfl, rfl, rfl, rfl, rfl, trivial⟩ rfl ?_
  rintro _ _ H2 ⟨c0, c1, u2, s2, rfl, hx, rfl, hlog, hle2⟩
  rw [List.nil_append] at hlog
  obtain ⟨Au, cu, rfl⟩ := Log.len hlog
  have hL := Le.trans hL hle2
  have hb := RdL.mono hle2 hb
  have hl := RdL.mono hle2 hl
  have hr := RdL.mono hle2 hr
  refine TL.new rfl ?_; intro g9
  refine TL.storeA 0 0 (vs := [c0, c1]) (c' := #[_, _]) (own' := [(_, .cells #[_, _] _ _)] :: _) rfl rfl rfl rfl rfl (tr_ones hx) (by simp) rfl rfl rfl ?_
  refine TL.nil ?_
  refine TQ.then_n ?_
  refine TC.seq ?_
  refine TC.seq ?_
  refine TC.region ?_
  refine TL.move rfl rfl ?_
  refine TL.nilCheck rfl rfl ?_
  refine TL.fieldAddr rfl rfl ?_
  refine TL.fieldAddr rfl rfl ?_
  refine TL.load_own 1 0 rfl rfl rfl rfl rfl ?_
  refine TL.len_slice rfl rfl ?_
  refine TL.eqlB rfl rfl rfl (fun h0 => ?_) (fun h0 => ?_)
  ·
   have hnil : (mergeF b.size b l r []).2 = [] := List.eq_nil_of_length_eq_zero (by omega)
   refine TL.nil ?_
   refine TQ.then_n ?_
   refine TC.cond_t rfl ?_
   refine TC.seq ?_
   refine TC.region ?_
   refine TL.load_ownA 0 0 [_, _] rfl rfl rfl ⟨rfl, rfl, trivial⟩ rfl rfl ?_
   refine TL.call (merge_clone _ _ (Nat.le_refl _) (by omega) hx) ⟨rfl, trivial⟩ rfl ?_
   rintro _ _ H3 ⟨d0, d1, rfl, hy, rfl, hle3⟩
   have hL := Le.trans hL hle3
   have hb := RdL.mono hle3 hb
   have hl := RdL.mono hle3 hl
   have hr := RdL.mono hle3 hr
   have hx := RdL.mono hle3 hx
   have hlog := Log.mono hle3 hlog
   refine TL.storeA 3 0 (vs := [d0, d1]) (c' := #[_, _]) (own' := _ :: _ :: _ :: [(_, .cells #[_, _] _ _)] :: _) rfl rfl rfl rfl rfl (tr_ones hy) (by simp) rfl rfl rfl ?_
   refine TL.assign rfl rfl ?_
   refine TL.nil ?_
   refine TQ.then_n ?_
   refine TC.ret ?_
   refine TQ.then_r ?_
   refine TQ.retC1 3 0 7 [_, _] rfl rfl rfl rfl rfl ⟨rfl, rfl, trivial⟩ rfl rfl ?_
   first
     | exact ⟨_, _, _, rfl, by rw [mr_0 hnil]; exact hy, by rw [mr_0 hnil]; exact rd.nil _ _, rfl, hL⟩
     | (obtain ⟨xs5, hrow5, hxs5⟩ := hlog5
        exact ⟨_, _, _, rfl, by rw [mr_1 hnil]; exact tr_mk (rd.nil _ _), by rw [mr_1 hnil, ← ded_canon hsort hperm]; exact rd.ofRow hrow5 hz_row hxs5 (Le.refl _), rfl, hL⟩)
  ·
   have hnil : (mergeF b.size b l r []).2 ≠ [] := by intro h; rw [h] at h0; exact h0 rfl
   refine TL.nil ?_
   refine TQ.then_n ?_
   refine TC.cond_f rfl ?_
   refine TC.skip ?_
   refine TQ.then_n ?_
   refine TC.seq ?_
   refine TC.region ?_
   refine TL.move rfl rfl ?_
   refine TL.nilCheck rfl rfl ?_
   refine TL.fieldAddr rfl rfl ?_
   refine TL.fieldAddr rfl rfl ?_
   refine TL.load_own 1 0 rfl rfl rfl rfl rfl ?_
   refine TL.sel 7 [2, 0, 1, 3, 4, 5, 6] rfl (fun o ho => ?_)
   simp only [K.sel, List.map_cons, List.map_nil, List.getD_cons_zero, List.getD_cons_succ, List.drop_succ_cons, List.drop_zero, List.cons_append, List.nil_append, List.set_cons_zero, List.set_cons_succ] at ho; subst ho
   refine TL.call (merge_sort hnil (by omega) hlog) ⟨rfl, rfl, trivial⟩ rfl ?_
   rintro _ _ H4 ⟨ps, s4, rfl, rfl, hlog4, hperm, hsort, hle4⟩
   have hpl := hperm.length_eq
   have hL := Le.trans hL hle4
   have hb := RdL.mono hle4 hb
   have hl := RdL.mono hle4 hl
   have hr := RdL.mono hle4 hr
   have hx := RdL.mono hle4 hx
   have hlog := Log.mono hle4 hlog
   refine TL.nil ?_
   refine TQ.then_n ?_
   refine TC.seq ?_
   refine TC.region ?_
   refine TL.struct [] trivial rfl rfl ?_
   refine TL.move rfl rfl ?_
   refine TL.nilCheck rfl rfl ?_
   refine TL.fieldAddr rfl rfl ?_
   refine TL.fieldAddr rfl rfl ?_
   refine TL.load_own 2 0 rfl rfl rfl rfl rfl ?_
   refine TL.call (merge_compact (ps := ps) (by intro h; subst h; exact hnil hperm.symm.eq_nil) (by omega) hlog4) ⟨rfl, rfl, trivial⟩ rfl ?_
   rintro v38 _ H5 ⟨s5, rfl, hlog5, hle5⟩
   have hL := Le.trans hL hle5
   have hb := RdL.mono hle5 hb
   have hl := RdL.mono hle5 hl
   have hr := RdL.mono hle5 hr
   have hx := RdL.mono hle5 hx
   have hlog := Log.mono hle5 hlog
   have hlog4 := Log.mono hle5 hlog4
   refine TL.storeA 3 0 (vs := [.string ⟨#[]⟩, .slice none 0 0]) (c' := #[_, _]) (own' := _ :: _ :: _ :: [(_, .cells #[_, _] _ _)] :: _) rfl rfl rfl rfl rfl ⟨rfl, rfl, trivial⟩ (by simp) rfl rfl rfl ?_
   refine TL.assign rfl rfl ?_
   refine TL.nil ?_
   refine TQ.then_n ?_
   refine TC.ret ?_
   refine TQ.freeze (fun H1 hle hz_row => ?_)
   have hL := Le.trans hL hle
   have hb := RdL.mono hle hb
   have hl := RdL.mono hle hl
   have hr := RdL.mono hle hr
   have hx := RdL.mono hle hx
   have hlog := Log.mono hle hlog
   have hlog4 := Log.mono hle hlog4
   have hlog5 := Log.mono hle hlog5
   refine TQ.retC1 2 0 6 [_, _] rfl rfl rfl rfl rfl ⟨rfl, rfl, trivial⟩ rfl rfl ?_
   first
     | exact ⟨_, _, _, rfl, by rw [mr_0 hnil]; exact hy, by rw [mr_0 hnil]; exact rd.nil _ _, rfl, hL⟩
     | (obtain ⟨xs5, hrow5, hxs5⟩ := hlog5
        exact ⟨_, _, _, rfl, by rw [mr_1 hnil]; exact tr_mk (rd.nil _ _), by rw [mr_1 hnil, ← ded_canon hsort hperm]; exact rd.ofRow hrow5 hz_row hxs5 (Le.refl _), rfl, hL⟩)

end Go.Proofs.Ytapmmfabdmhdnaa.K
