/-
  merger.kid.
-/
import Derived.Test.YtapmmfabdmhdnaaLog
set_option linter.unusedVariables false
set_option linter.unusedSimpArgs false
set_option maxHeartbeats 4000000
namespace Go.Proofs.Ytapmmfabdmhdnaa.K
open Go Go.RowKit Go.Proofs

/-- What merger.node does at three trees. -/
def NodeOk (f : Tr → Tr → Tr → Path → Tr × List Path) (b : Tr) : Prop :=
  ∀ {l r : Tr} {p : Path} {ps : List Path} {w0 : World} {H : Hp} {own : List Seg} {gm e : Nat} {u b0 b1 l0 l1 r0 r1 v : Value} {seg : Seg},
    l.size ≤ 8192 → r.size ≤ 8192 → p.length + b.size ≤ 16384 → ps.length + 4 * b.size ≤ 1073741824 → RdL H b.d [b0, b1] → RdL H l.d [l0, l1] → RdL H r.d [r0, r1] → rd H (pD p) v → Log H u ps seg →
    Fn Try.prog 31 [.pointer (some ⟨gm, 0, none⟩), .agg #[b0, b1], .agg #[l0, l1], .agg #[r0, r1], v] w0 H ([(gm, .cells #[u] e (0, 0))] :: seg :: own)
      (fun x own' H' => ∃ c0 c1 u' seg', x = .agg #[c0, c1] ∧ RdL H' (f b l r p).1.d [c0, c1] ∧ own' = [(gm, .cells #[u'] e (0, 0))] :: seg' :: own ∧ Log H' u' (ps ++ (f b l r p).2) seg' ∧ Le H H')
theorem fate_cells {H : Hp} {f : Fate} {c0 c1 c2 : Value} (h : RdL H f.d [c0, c1, c2]) : c0 = .int .i64 f.tag ∧ RdL H f.to.d [c1, c2] := by
  obtain ⟨h1, h2⟩ := h
  simp only [rd] at h1
  exact ⟨h1, h2⟩
theorem rd.one_tree {H H' : Hp} {g : Nat} {t : Tr} {c0 c1 : Value} (hz : ∀ p ∈ ([(g, .cells #[c0, c1] 27 (0, 0))] : Seg), H' p.1 = some p.2) (h : RdL H t.d [c0, c1]) (hl : Le H H') : rd H' (.s 2 (Tr.ds [t])) (.slice (some ⟨g, 0, none⟩) 1 1) :=
  rd.ofRow (Row.lit 27 2 1 _ _ rfl (by omega)) hz (by simpa [Tr.ds] using h) hl

theorem merge_kid {f : Tr → Tr → Tr → Path → Tr × List Path} {b : Tr} (hN : NodeOk f b) {l r : Fate} {p : Path} {ps : List Path} {w0 : World} {H : Hp} {own : List Seg} {gm e : Nat} {u b0 b1 l0 l1 l2 r0 r1 r2 v : Value} {seg : Seg}
    (hls : l.to.size ≤ 8192) (hrs : r.to.size ≤ 8192) (hp : p.length + b.size ≤ 16384) (hps : ps.length + 4 * b.size ≤ 1073741824) (hb : RdL H b.d [b0, b1]) (hl : RdL H l.d [l0, l1, l2]) (hr : RdL H r.d [r0, r1, r2]) (hA : rd H (pD p) v) (hlog : Log H u ps seg) :
    Fn Try.prog 58 [.pointer (some ⟨gm, 0, none⟩), .agg #[b0, b1], .agg #[l0, l1, l2], .agg #[r0, r1, r2], v] w0 H ([(gm, .cells #[u] e (0, 0))] :: seg :: own)
      (fun x own' H' => ∃ u' seg', rd H' (.s 2 (Tr.ds (kidP f b l r p).1)) x ∧ own' = [(gm, .cells #[u'] e (0, 0))] :: seg' :: own ∧ Log H' u' (ps ++ (kidP f b l r p).2) seg' ∧ Le H H') := by
  obtain ⟨rfl, hlt⟩ := fate_cells hl
  obtain ⟨rfl, hrt⟩ := fate_cells hr
  refine Fn.enter Try.func58 rfl Try.ntmps58 rfl ?_
  have hL := Le.refl H
  refine TC.seq ?_
  refine TC.region ?_
  refine TL.box (c := #[_, _]) rfl rfl rfl ?_; intro g6
  refine TL.box (c := #[_, _, _]) rfl rfl rfl ?_; intro g7
  refine TL.box (c := #[_, _, _]) rfl rfl rfl ?_; intro g8
  refine TL.assign rfl rfl ?_
  refine TL.nil ?_
  refine TQ.then_n ?_
  refine TC.seq ?_
  refine TC.block ?_
  refine TC.seq ?_
  refine TC.region ?_
  refine TL.fieldAddr rfl rfl ?_
  refine TL.load_own 1 0 rfl rfl rfl rfl rfl ?_
  refine TL.eqlB rfl rfl rfl (fun h1 => ?_) (fun h1 => ?_)
  ·
   refine TL.move rfl rfl ?_
   refine TL.gyes rfl rfl rfl ?_
   refine TL.fieldAddr rfl rfl ?_
   refine TL.gyes rfl rfl rfl ?_
   refine TL.load_own 0 0 rfl rfl rfl rfl rfl ?_
   refine TL.gyes rfl rfl rfl ?_
   refine TL.eqlB rfl rfl rfl (fun h2 => ?_) (fun h2 => ?_)
   ·
    refine TL.pickT rfl rfl rfl rfl ?_
    refine TL.assign rfl rfl ?_
    refine TL.nil ?_
    refine TQ.then_n ?_
    refine TC.cond_t rfl ?_
    refine TC.seq ?_
    refine TC.region ?_
    refine TL.load_ownA 2 0 [_, _] rfl rfl rfl ⟨rfl, rfl, trivial⟩ rfl rfl ?_
    refine TL.litF (r := [_, _]) [(0, [_, _])] ⟨rfl, ⟨_, rfl, rfl⟩, trivial⟩ rfl rfl rfl rfl ?_; intro g21
    refine TL.assign rfl rfl ?_
    refine TL.nil ?_
    refine TQ.then_n ?_
    refine TC.ret ?_
    refine TQ.in_r ?_
    refine TQ.then_r ?_
    refine TQ.freeze (fun H3 hle hz_g21 => ?_)
    have hL := Le.trans hL hle
    have hA := rd.mono hle hA
    have hb := RdL.mono hle hb
    have hlt := RdL.mono hle hlt
    have hrt := RdL.mono hle hrt
    have hlog := Log.mono hle hlog
    refine TQ.sel 5 [3, 4] rfl (fun o ho => ?_)
    simp only [K.sel, List.map_cons, List.map_nil, List.getD_cons_zero, List.getD_cons_succ, List.drop_succ_cons, List.drop_zero, List.cons_append, List.nil_append, List.set_cons_zero, List.set_cons_succ] at ho; subst ho
    refine TQ.ret1 0 rfl rfl ?_
    first
      | exact ⟨_, _, by rw [kp_00 (by omega) (by omega)]; exact rd.one_tree hz_g21 hb (Le.refl _), rfl, by rw [kp_00 (by omega) (by omega)]; simpa using hlog, hL⟩
      | exact ⟨_, _, by rw [kp_11 (by omega) (by omega)]; exact rd.one_tree hz_g39 hx (Le.refl _), rfl, by rw [kp_11 (by omega) (by omega)]; exact hlog2, hL⟩
      | exact ⟨_, _, by rw [kp_10 (by omega) (by omega)]; exact rd.one_tree hz_g51 hlt (Le.refl _), rfl, by rw [kp_10 (by omega) (by omega)]; simpa using hlog, hL⟩
      | exact ⟨_, _, by rw [kp_01 (by omega) (by omega)]; exact rd.one_tree hz_g63 hrt (Le.refl _), rfl, by rw [kp_01 (by omega) (by omega)]; simpa using hlog, hL⟩
      | exact ⟨_, _, by rw [kp_c (by omega)]; exact rd.nil _ _, rfl, by rw [kp_c (by omega)]; exact hlog3, hL⟩
      | exact ⟨_, _, by rw [kp_n (by omega)]; exact rd.nil _ _, rfl, by rw [kp_n (by omega)]; simpa using hlog, hL⟩
   ·
    refine TL.pickT rfl rfl rfl rfl ?_
    refine TL.assign rfl rfl ?_
    refine TL.nil ?_
    refine TQ.then_n ?_
    refine TC.cond_f rfl ?_
    refine TC.seq ?_
    refine TC.region ?_
    refine TL.fieldAddr rfl rfl ?_
    refine TL.load_own 1 0 rfl rfl rfl rfl rfl ?_
    refine TL.eqlB rfl rfl rfl (fun h4 => ?_) (fun h4 => ?_)
    ·
     refine TL.move rfl rfl ?_
     refine TL.gyes rfl rfl rfl ?_
     refine TL.fieldAddr rfl rfl ?_
     refine TL.gyes rfl rfl rfl ?_
     refine TL.load_own 0 0 rfl rfl rfl rfl rfl ?_
     refine TL.gyes rfl rfl rfl ?_
     refine TL.eqlB rfl rfl rfl (fun h5 => ?_) (fun h5 => ?_)
     ·
      refine TL.pickT rfl rfl rfl rfl ?_
      refine TL.assign rfl rfl ?_
      refine TL.nil ?_
      refine TQ.then_n ?_
      refine TC.cond_t rfl ?_
      refine TC.seq ?_
      refine TC.region ?_
      refine TL.move rfl rfl ?_
      refine TL.load_ownA 2 0 [_, _] rfl rfl rfl ⟨rfl, rfl, trivial⟩ rfl rfl ?_
      refine TL.fieldAddr rfl rfl ?_
      refine TL.load_ownA 1 0 [_, _] rfl rfl rfl ⟨rfl, rfl, trivial⟩ rfl rfl ?_
      refine TL.fieldAddr rfl rfl ?_
      refine TL.load_ownA 0 0 [_, _] rfl rfl rfl ⟨rfl, rfl, trivial⟩ rfl rfl ?_
      refine TL.move rfl rfl ?_
      refine TL.sel 5 [3, 4, 0, 1, 2] rfl (fun o ho => ?_)
      simp only [K.sel, List.map_cons, List.map_nil, List.getD_cons_zero, List.getD_cons_succ, List.drop_succ_cons, List.drop_zero, List.cons_append, List.nil_append, List.set_cons_zero, List.set_cons_succ] at ho; subst ho
      refine TL.call (hN hls hrs hp hps hb hlt hrt hA hlog) ⟨rfl, rfl, rfl, rfl, rfl, trivial⟩ rfl ?_
      rintro _ _ H2 ⟨c0, c1, u2, s2, rfl, hx, rfl, hlog2, hle2⟩
      have hL := Le.trans hL hle2
      have hA := rd.mono hle2 hA
      have hb := RdL.mono hle2 hb
      have hlt := RdL.mono hle2 hlt
      have hrt := RdL.mono hle2 hrt
      have hlog := Log.mono hle2 hlog
      refine TL.litF (r := [_, _]) [(0, [_, _])] ⟨rfl, ⟨_, rfl, rfl⟩, trivial⟩ rfl rfl rfl rfl ?_; intro g39
      refine TL.assign rfl rfl ?_
      refine TL.nil ?_
      refine TQ.then_n ?_
      refine TC.ret ?_
      refine TQ.in_r ?_
      refine TQ.then_r ?_
      refine TQ.freeze (fun H6 hle hz_g39 => ?_)
      have hL := Le.trans hL hle
      have hA := rd.mono hle hA
      have hb := RdL.mono hle hb
      have hlt := RdL.mono hle hlt
      have hrt := RdL.mono hle hrt
      have hlog := Log.mono hle hlog
      have hx := RdL.mono hle hx
      have hlog2 := Log.mono hle hlog2
      refine TQ.sel 5 [0, 1] rfl (fun o ho => ?_)
      simp only [K.sel, List.map_cons, List.map_nil, List.getD_cons_zero, List.getD_cons_succ, List.drop_succ_cons, List.drop_zero, List.cons_append, List.nil_append, List.set_cons_zero, List.set_cons_succ] at ho; subst ho
      refine TQ.ret1 0 rfl rfl ?_
      first
        | exact ⟨_, _, by rw [kp_00 (by omega) (by omega)]; exact rd.one_tree hz_g21 hb (Le.refl _), rfl, by rw [kp_00 (by omega) (by omega)]; simpa using hlog, hL⟩
        | exact ⟨_, _, by rw [kp_11 (by omega) (by omega)]; exact rd.one_tree hz_g39 hx (Le.refl _), rfl, by rw [kp_11 (by omega) (by omega)]; exact hlog2, hL⟩
        | exact ⟨_, _, by rw [kp_10 (by omega) (by omega)]; exact rd.one_tree hz_g51 hlt (Le.refl _), rfl, by rw [kp_10 (by omega) (by omega)]; simpa using hlog, hL⟩
        | exact ⟨_, _, by rw [kp_01 (by omega) (by omega)]; exact rd.one_tree hz_g63 hrt (Le.refl _), rfl, by rw [kp_01 (by omega) (by omega)]; simpa using hlog, hL⟩
        | exact ⟨_, _, by rw [kp_c (by omega)]; exact rd.nil _ _, rfl, by rw [kp_c (by omega)]; exact hlog3, hL⟩
        | exact ⟨_, _, by rw [kp_n (by omega)]; exact rd.nil _ _, rfl, by rw [kp_n (by omega)]; simpa using hlog, hL⟩
     ·
      refine TL.pickT rfl rfl rfl rfl ?_
      refine TL.assign rfl rfl ?_
      refine TL.nil ?_
      refine TQ.then_n ?_
      refine TC.cond_f rfl ?_
      refine TC.seq ?_
      refine TC.region ?_
      refine TL.fieldAddr rfl rfl ?_
      refine TL.load_own 1 0 rfl rfl rfl rfl rfl ?_
      refine TL.eqlB rfl rfl rfl (fun h7 => ?_) (fun h7 => ?_)
      ·
       refine TL.move rfl rfl ?_
       refine TL.gyes rfl rfl rfl ?_
       refine TL.fieldAddr rfl rfl ?_
       refine TL.gyes rfl rfl rfl ?_
       refine TL.load_own 0 0 rfl rfl rfl rfl rfl ?_
       refine TL.gyes rfl rfl rfl ?_
       refine TL.eqlB rfl rfl rfl (fun h8 => ?_) (fun h8 => ?_)
       ·
        refine TL.pickT rfl rfl rfl rfl ?_
        refine TL.assign rfl rfl ?_
        refine TL.nil ?_
        refine TQ.then_n ?_
        refine TC.cond_t rfl ?_
        refine TC.seq ?_
        refine TC.region ?_
        refine TL.fieldAddr rfl rfl ?_
        refine TL.load_ownA 1 0 [_, _] rfl rfl rfl ⟨rfl, rfl, trivial⟩ rfl rfl ?_
        refine TL.litF (r := [_, _]) [(0, [_, _])] ⟨rfl, ⟨_, rfl, rfl⟩, trivial⟩ rfl rfl rfl rfl ?_; intro g51
        refine TL.assign rfl rfl ?_
        refine TL.nil ?_
        refine TQ.then_n ?_
        refine TC.ret ?_
        refine TQ.in_r ?_
        refine TQ.then_r ?_
        refine TQ.freeze (fun H9 hle hz_g51 => ?_)
        have hL := Le.trans hL hle
        have hA := rd.mono hle hA
        have hb := RdL.mono hle hb
        have hlt := RdL.mono hle hlt
        have hrt := RdL.mono hle hrt
        have hlog := Log.mono hle hlog
        refine TQ.sel 5 [3, 4] rfl (fun o ho => ?_)
        simp only [K.sel, List.map_cons, List.map_nil, List.getD_cons_zero, List.getD_cons_succ, List.drop_succ_cons, List.drop_zero, List.cons_append, List.nil_append, List.set_cons_zero, List.set_cons_succ] at ho; subst ho
        refine TQ.ret1 0 rfl rfl ?_
        first
          | exact ⟨_, _, by rw [kp_00 (by omega) (by omega)]; exact rd.one_tree hz_g21 hb (Le.refl _), rfl, by rw [kp_00 (by omega) (by omega)]; simpa using hlog, hL⟩
          | exact ⟨_, _, by rw [kp_11 (by omega) (by omega)]; exact rd.one_tree hz_g39 hx (Le.refl _), rfl, by rw [kp_11 (by omega) (by omega)]; exact hlog2, hL⟩
          | exact ⟨_, _, by rw [kp_10 (by omega) (by omega)]; exact rd.one_tree hz_g51 hlt (Le.refl _), rfl, by rw [kp_10 (by omega) (by omega)]; simpa using hlog, hL⟩
          | exact ⟨_, _, by rw [kp_01 (by omega) (by omega)]; exact rd.one_tree hz_g63 hrt (Le.refl _), rfl, by rw [kp_01 (by omega) (by omega)]; simpa using hlog, hL⟩
          | exact ⟨_, _, by rw [kp_c (by omega)]; exact rd.nil _ _, rfl, by rw [kp_c (by omega)]; exact hlog3, hL⟩
          | exact ⟨_, _, by rw [kp_n (by omega)]; exact rd.nil _ _, rfl, by rw [kp_n (by omega)]; simpa using hlog, hL⟩
       ·
        refine TL.pickT rfl rfl rfl rfl ?_
        refine TL.assign rfl rfl ?_
        refine TL.nil ?_
        refine TQ.then_n ?_
        refine TC.cond_f rfl ?_
        refine TC.seq ?_
        refine TC.region ?_
        refine TL.fieldAddr rfl rfl ?_
        refine TL.load_own 1 0 rfl rfl rfl rfl rfl ?_
        refine TL.eqlB rfl rfl rfl (fun h10 => ?_) (fun h10 => ?_)
        ·
         refine TL.move rfl rfl ?_
         refine TL.gyes rfl rfl rfl ?_
         refine TL.fieldAddr rfl rfl ?_
         refine TL.gyes rfl rfl rfl ?_
         refine TL.load_own 0 0 rfl rfl rfl rfl rfl ?_
         refine TL.gyes rfl rfl rfl ?_
         refine TL.eqlB rfl rfl rfl (fun h11 => ?_) (fun h11 => ?_)
         ·
          refine TL.pickT rfl rfl rfl rfl ?_
          refine TL.assign rfl rfl ?_
          refine TL.nil ?_
          refine TQ.then_n ?_
          refine TC.cond_t rfl ?_
          refine TC.seq ?_
          refine TC.region ?_
          refine TL.fieldAddr rfl rfl ?_
          refine TL.load_ownA 0 0 [_, _] rfl rfl rfl ⟨rfl, rfl, trivial⟩ rfl rfl ?_
          refine TL.litF (r := [_, _]) [(0, [_, _])] ⟨rfl, ⟨_, rfl, rfl⟩, trivial⟩ rfl rfl rfl rfl ?_; intro g63
          refine TL.assign rfl rfl ?_
          refine TL.nil ?_
          refine TQ.then_n ?_
          refine TC.ret ?_
          refine TQ.in_r ?_
          refine TQ.then_r ?_
          refine TQ.freeze (fun H12 hle hz_g63 => ?_)
          have hL := Le.trans hL hle
          have hA := rd.mono hle hA
          have hb := RdL.mono hle hb
          have hlt := RdL.mono hle hlt
          have hrt := RdL.mono hle hrt
          have hlog := Log.mono hle hlog
          refine TQ.sel 5 [3, 4] rfl (fun o ho => ?_)
          simp only [K.sel, List.map_cons, List.map_nil, List.getD_cons_zero, List.getD_cons_succ, List.drop_succ_cons, List.drop_zero, List.cons_append, List.nil_append, List.set_cons_zero, List.set_cons_succ] at ho; subst ho
          refine TQ.ret1 0 rfl rfl ?_
          first
            | exact ⟨_, _, by rw [kp_00 (by omega) (by omega)]; exact rd.one_tree hz_g21 hb (Le.refl _), rfl, by rw [kp_00 (by omega) (by omega)]; simpa using hlog, hL⟩
            | exact ⟨_, _, by rw [kp_11 (by omega) (by omega)]; exact rd.one_tree hz_g39 hx (Le.refl _), rfl, by rw [kp_11 (by omega) (by omega)]; exact hlog2, hL⟩
            | exact ⟨_, _, by rw [kp_10 (by omega) (by omega)]; exact rd.one_tree hz_g51 hlt (Le.refl _), rfl, by rw [kp_10 (by omega) (by omega)]; simpa using hlog, hL⟩
            | exact ⟨_, _, by rw [kp_01 (by omega) (by omega)]; exact rd.one_tree hz_g63 hrt (Le.refl _), rfl, by rw [kp_01 (by omega) (by omega)]; simpa using hlog, hL⟩
            | exact ⟨_, _, by rw [kp_c (by omega)]; exact rd.nil _ _, rfl, by rw [kp_c (by omega)]; exact hlog3, hL⟩
            | exact ⟨_, _, by rw [kp_n (by omega)]; exact rd.nil _ _, rfl, by rw [kp_n (by omega)]; simpa using hlog, hL⟩
         ·
          refine TL.pickT rfl rfl rfl rfl ?_
          refine TL.assign rfl rfl ?_
          refine TL.nil ?_
          refine TQ.then_n ?_
          refine TC.cond_f rfl ?_
          refine TC.seq ?_
          refine TC.region ?_
          refine TL.fieldAddr rfl rfl ?_
          refine TL.load_own 1 0 rfl rfl rfl rfl rfl ?_
          refine TL.eqlB rfl rfl rfl (fun h13 => ?_) (fun h13 => ?_)
          ·
           refine TL.move rfl rfl ?_
           refine TL.gno rfl rfl rfl rfl ?_
           refine TL.gno rfl rfl rfl rfl ?_
           refine TL.gno rfl rfl rfl rfl ?_
           refine TL.pickT rfl rfl rfl rfl ?_
           refine TL.assign rfl rfl ?_
           refine TL.nil ?_
           refine TQ.then_n ?_
           refine TC.cond_t rfl ?_
           refine TC.region ?_
           refine TL.move rfl rfl ?_
           refine TL.nilCheck rfl rfl ?_
           refine TL.fieldAddr rfl rfl ?_
           refine TL.move rfl rfl ?_
           refine TL.sel 5 [3, 4, 0, 1, 2] rfl (fun o ho => ?_)
           simp only [K.sel, List.map_cons, List.map_nil, List.getD_cons_zero, List.getD_cons_succ, List.drop_succ_cons, List.drop_zero, List.cons_append, List.nil_append, List.set_cons_zero, List.set_cons_succ] at ho; subst ho
           refine TL.call (merge_conflict (by omega) (by omega) hA hlog) ⟨rfl, rfl, trivial⟩ rfl ?_
           rintro _ _ H3 ⟨u3, s3, rfl, rfl, hlog3, hle3⟩
           have hL := Le.trans hL hle3
           have hA := rd.mono hle3 hA
           have hb := RdL.mono hle3 hb
           have hlt := RdL.mono hle3 hlt
           have hrt := RdL.mono hle3 hrt
           have hlog := Log.mono hle3 hlog
           refine TL.nil ?_
           refine TQ.in_n ?_
           refine TQ.then_n ?_
           refine TC.seq ?_
           refine TC.region ?_
           refine TL.assign rfl rfl ?_
           refine TL.nil ?_
           refine TQ.then_n ?_
           refine TC.ret ?_
           refine TQ.sel 5 [0, 1] rfl (fun o ho => ?_)
           simp only [K.sel, List.map_cons, List.map_nil, List.getD_cons_zero, List.getD_cons_succ, List.drop_succ_cons, List.drop_zero, List.cons_append, List.nil_append, List.set_cons_zero, List.set_cons_succ] at ho; subst ho
           refine TQ.ret1 0 rfl rfl ?_
           first
             | exact ⟨_, _, by rw [kp_00 (by omega) (by omega)]; exact rd.one_tree hz_g21 hb (Le.refl _), rfl, by rw [kp_00 (by omega) (by omega)]; simpa using hlog, hL⟩
             | exact ⟨_, _, by rw [kp_11 (by omega) (by omega)]; exact rd.one_tree hz_g39 hx (Le.refl _), rfl, by rw [kp_11 (by omega) (by omega)]; exact hlog2, hL⟩
             | exact ⟨_, _, by rw [kp_10 (by omega) (by omega)]; exact rd.one_tree hz_g51 hlt (Le.refl _), rfl, by rw [kp_10 (by omega) (by omega)]; simpa using hlog, hL⟩
             | exact ⟨_, _, by rw [kp_01 (by omega) (by omega)]; exact rd.one_tree hz_g63 hrt (Le.refl _), rfl, by rw [kp_01 (by omega) (by omega)]; simpa using hlog, hL⟩
             | exact ⟨_, _, by rw [kp_c (by omega)]; exact rd.nil _ _, rfl, by rw [kp_c (by omega)]; exact hlog3, hL⟩
             | exact ⟨_, _, by rw [kp_n (by omega)]; exact rd.nil _ _, rfl, by rw [kp_n (by omega)]; simpa using hlog, hL⟩
          ·
           refine TL.move rfl rfl ?_
           refine TL.gyes rfl rfl rfl ?_
           refine TL.fieldAddr rfl rfl ?_
           refine TL.gyes rfl rfl rfl ?_
           refine TL.load_own 0 0 rfl rfl rfl rfl rfl ?_
           refine TL.gyes rfl rfl rfl ?_
           refine TL.eqlB rfl rfl rfl (fun h14 => ?_) (fun h14 => ?_)
           ·
            refine TL.pickF rfl rfl rfl rfl ?_
            refine TL.assign rfl rfl ?_
            refine TL.nil ?_
            refine TQ.then_n ?_
            refine TC.cond_t rfl ?_
            refine TC.region ?_
            refine TL.move rfl rfl ?_
            refine TL.nilCheck rfl rfl ?_
            refine TL.fieldAddr rfl rfl ?_
            refine TL.move rfl rfl ?_
            refine TL.sel 5 [3, 4, 0, 1, 2] rfl (fun o ho => ?_)
            simp only [K.sel, List.map_cons, List.map_nil, List.getD_cons_zero, List.getD_cons_succ, List.drop_succ_cons, List.drop_zero, List.cons_append, List.nil_append, List.set_cons_zero, List.set_cons_succ] at ho; subst ho
            refine TL.call (merge_conflict (by omega) (by omega) hA hlog) ⟨rfl, rfl, trivial⟩ rfl ?_
            rintro _ _ H3 ⟨u3, s3, rfl, rfl, hlog3, hle3⟩
            have hL := Le.trans hL hle3
            have hA := rd.mono hle3 hA
            have hb := RdL.mono hle3 hb
            have hlt := RdL.mono hle3 hlt
            have hrt := RdL.mono hle3 hrt
            have hlog := Log.mono hle3 hlog
            refine TL.nil ?_
            refine TQ.in_n ?_
            refine TQ.then_n ?_
            refine TC.seq ?_
            refine TC.region ?_
            refine TL.assign rfl rfl ?_
            refine TL.nil ?_
            refine TQ.then_n ?_
            refine TC.ret ?_
            refine TQ.sel 5 [0, 1] rfl (fun o ho => ?_)
            simp only [K.sel, List.map_cons, List.map_nil, List.getD_cons_zero, List.getD_cons_succ, List.drop_succ_cons, List.drop_zero, List.cons_append, List.nil_append, List.set_cons_zero, List.set_cons_succ] at ho; subst ho
            refine TQ.ret1 0 rfl rfl ?_
            first
              | exact ⟨_, _, by rw [kp_00 (by omega) (by omega)]; exact rd.one_tree hz_g21 hb (Le.refl _), rfl, by rw [kp_00 (by omega) (by omega)]; simpa using hlog, hL⟩
              | exact ⟨_, _, by rw [kp_11 (by omega) (by omega)]; exact rd.one_tree hz_g39 hx (Le.refl _), rfl, by rw [kp_11 (by omega) (by omega)]; exact hlog2, hL⟩
              | exact ⟨_, _, by rw [kp_10 (by omega) (by omega)]; exact rd.one_tree hz_g51 hlt (Le.refl _), rfl, by rw [kp_10 (by omega) (by omega)]; simpa using hlog, hL⟩
              | exact ⟨_, _, by rw [kp_01 (by omega) (by omega)]; exact rd.one_tree hz_g63 hrt (Le.refl _), rfl, by rw [kp_01 (by omega) (by omega)]; simpa using hlog, hL⟩
              | exact ⟨_, _, by rw [kp_c (by omega)]; exact rd.nil _ _, rfl, by rw [kp_c (by omega)]; exact hlog3, hL⟩
              | exact ⟨_, _, by rw [kp_n (by omega)]; exact rd.nil _ _, rfl, by rw [kp_n (by omega)]; simpa using hlog, hL⟩
           ·
            refine TL.pickF rfl rfl rfl rfl ?_
            refine TL.assign rfl rfl ?_
            refine TL.nil ?_
            refine TQ.then_n ?_
            refine TC.cond_f rfl ?_
            refine TC.skip ?_
            refine TQ.in_n ?_
            refine TQ.then_n ?_
            refine TC.seq ?_
            refine TC.region ?_
            refine TL.assign rfl rfl ?_
            refine TL.nil ?_
            refine TQ.then_n ?_
            refine TC.ret ?_
            refine TQ.sel 5 [3, 4] rfl (fun o ho => ?_)
            simp only [K.sel, List.map_cons, List.map_nil, List.getD_cons_zero, List.getD_cons_succ, List.drop_succ_cons, List.drop_zero, List.cons_append, List.nil_append, List.set_cons_zero, List.set_cons_succ] at ho; subst ho
            refine TQ.ret1 0 rfl rfl ?_
            first
              | exact ⟨_, _, by rw [kp_00 (by omega) (by omega)]; exact rd.one_tree hz_g21 hb (Le.refl _), rfl, by rw [kp_00 (by omega) (by omega)]; simpa using hlog, hL⟩
              | exact ⟨_, _, by rw [kp_11 (by omega) (by omega)]; exact rd.one_tree hz_g39 hx (Le.refl _), rfl, by rw [kp_11 (by omega) (by omega)]; exact hlog2, hL⟩
              | exact ⟨_, _, by rw [kp_10 (by omega) (by omega)]; exact rd.one_tree hz_g51 hlt (Le.refl _), rfl, by rw [kp_10 (by omega) (by omega)]; simpa using hlog, hL⟩
              | exact ⟨_, _, by rw [kp_01 (by omega) (by omega)]; exact rd.one_tree hz_g63 hrt (Le.refl _), rfl, by rw [kp_01 (by omega) (by omega)]; simpa using hlog, hL⟩
              | exact ⟨_, _, by rw [kp_c (by omega)]; exact rd.nil _ _, rfl, by rw [kp_c (by omega)]; exact hlog3, hL⟩
              | exact ⟨_, _, by rw [kp_n (by omega)]; exact rd.nil _ _, rfl, by rw [kp_n (by omega)]; simpa using hlog, hL⟩
        ·
         refine TL.move rfl rfl ?_
         refine TL.gno rfl rfl rfl rfl ?_
         refine TL.gno rfl rfl rfl rfl ?_
         refine TL.gno rfl rfl rfl rfl ?_
         refine TL.pickF rfl rfl rfl rfl ?_
         refine TL.assign rfl rfl ?_
         refine TL.nil ?_
         refine TQ.then_n ?_
         refine TC.cond_f rfl ?_
         refine TC.seq ?_
         refine TC.region ?_
         refine TL.fieldAddr rfl rfl ?_
         refine TL.load_own 1 0 rfl rfl rfl rfl rfl ?_
         refine TL.eqlB rfl rfl rfl (fun h15 => ?_) (fun h15 => ?_)
         ·
          refine TL.move rfl rfl ?_
          refine TL.gno rfl rfl rfl rfl ?_
          refine TL.gno rfl rfl rfl rfl ?_
          refine TL.gno rfl rfl rfl rfl ?_
          refine TL.pickT rfl rfl rfl rfl ?_
          refine TL.assign rfl rfl ?_
          refine TL.nil ?_
          refine TQ.then_n ?_
          refine TC.cond_t rfl ?_
          refine TC.region ?_
          refine TL.move rfl rfl ?_
          refine TL.nilCheck rfl rfl ?_
          refine TL.fieldAddr rfl rfl ?_
          refine TL.move rfl rfl ?_
          refine TL.sel 5 [3, 4, 0, 1, 2] rfl (fun o ho => ?_)
          simp only [K.sel, List.map_cons, List.map_nil, List.getD_cons_zero, List.getD_cons_succ, List.drop_succ_cons, List.drop_zero, List.cons_append, List.nil_append, List.set_cons_zero, List.set_cons_succ] at ho; subst ho
          refine TL.call (merge_conflict (by omega) (by omega) hA hlog) ⟨rfl, rfl, trivial⟩ rfl ?_
          rintro _ _ H3 ⟨u3, s3, rfl, rfl, hlog3, hle3⟩
          have hL := Le.trans hL hle3
          have hA := rd.mono hle3 hA
          have hb := RdL.mono hle3 hb
          have hlt := RdL.mono hle3 hlt
          have hrt := RdL.mono hle3 hrt
          have hlog := Log.mono hle3 hlog
          refine TL.nil ?_
          refine TQ.in_n ?_
          refine TQ.then_n ?_
          refine TC.seq ?_
          refine TC.region ?_
          refine TL.assign rfl rfl ?_
          refine TL.nil ?_
          refine TQ.then_n ?_
          refine TC.ret ?_
          refine TQ.sel 5 [0, 1] rfl (fun o ho => ?_)
          simp only [K.sel, List.map_cons, List.map_nil, List.getD_cons_zero, List.getD_cons_succ, List.drop_succ_cons, List.drop_zero, List.cons_append, List.nil_append, List.set_cons_zero, List.set_cons_succ] at ho; subst ho
          refine TQ.ret1 0 rfl rfl ?_
          first
            | exact ⟨_, _, by rw [kp_00 (by omega) (by omega)]; exact rd.one_tree hz_g21 hb (Le.refl _), rfl, by rw [kp_00 (by omega) (by omega)]; simpa using hlog, hL⟩
            | exact ⟨_, _, by rw [kp_11 (by omega) (by omega)]; exact rd.one_tree hz_g39 hx (Le.refl _), rfl, by rw [kp_11 (by omega) (by omega)]; exact hlog2, hL⟩
            | exact ⟨_, _, by rw [kp_10 (by omega) (by omega)]; exact rd.one_tree hz_g51 hlt (Le.refl _), rfl, by rw [kp_10 (by omega) (by omega)]; simpa using hlog, hL⟩
            | exact ⟨_, _, by rw [kp_01 (by omega) (by omega)]; exact rd.one_tree hz_g63 hrt (Le.refl _), rfl, by rw [kp_01 (by omega) (by omega)]; simpa using hlog, hL⟩
            | exact ⟨_, _, by rw [kp_c (by omega)]; exact rd.nil _ _, rfl, by rw [kp_c (by omega)]; exact hlog3, hL⟩
            | exact ⟨_, _, by rw [kp_n (by omega)]; exact rd.nil _ _, rfl, by rw [kp_n (by omega)]; simpa using hlog, hL⟩
         ·
          refine TL.move rfl rfl ?_
          refine TL.gyes rfl rfl rfl ?_
          refine TL.fieldAddr rfl rfl ?_
          refine TL.gyes rfl rfl rfl ?_
          refine TL.load_own 0 0 rfl rfl rfl rfl rfl ?_
          refine TL.gyes rfl rfl rfl ?_
          refine TL.eqlB rfl rfl rfl (fun h16 => ?_) (fun h16 => ?_)
          ·
           refine TL.pickF rfl rfl rfl rfl ?_
           refine TL.assign rfl rfl ?_
           refine TL.nil ?_
           refine TQ.then_n ?_
           refine TC.cond_t rfl ?_
           refine TC.region ?_
           refine TL.move rfl rfl ?_
           refine TL.nilCheck rfl rfl ?_
           refine TL.fieldAddr rfl rfl ?_
           refine TL.move rfl rfl ?_
           refine TL.sel 5 [3, 4, 0, 1, 2] rfl (fun o ho => ?_)
           simp only [K.sel, List.map_cons, List.map_nil, List.getD_cons_zero, List.getD_cons_succ, List.drop_succ_cons, List.drop_zero, List.cons_append, List.nil_append, List.set_cons_zero, List.set_cons_succ] at ho; subst ho
           refine TL.call (merge_conflict (by omega) (by omega) hA hlog) ⟨rfl, rfl, trivial⟩ rfl ?_
           rintro _ _ H3 ⟨u3, s3, rfl, rfl, hlog3, hle3⟩
           have hL := Le.trans hL hle3
           have hA := rd.mono hle3 hA
           have hb := RdL.mono hle3 hb
           have hlt := RdL.mono hle3 hlt
           have hrt := RdL.mono hle3 hrt
           have hlog := Log.mono hle3 hlog
           refine TL.nil ?_
           refine TQ.in_n ?_
           refine TQ.then_n ?_
           refine TC.seq ?_
           refine TC.region ?_
           refine TL.assign rfl rfl ?_
           refine TL.nil ?_
           refine TQ.then_n ?_
           refine TC.ret ?_
           refine TQ.sel 5 [0, 1] rfl (fun o ho => ?_)
           simp only [K.sel, List.map_cons, List.map_nil, List.getD_cons_zero, List.getD_cons_succ, List.drop_succ_cons, List.drop_zero, List.cons_append, List.nil_append, List.set_cons_zero, List.set_cons_succ] at ho; subst ho
           refine TQ.ret1 0 rfl rfl ?_
           first
             | exact ⟨_, _, by rw [kp_00 (by omega) (by omega)]; exact rd.one_tree hz_g21 hb (Le.refl _), rfl, by rw [kp_00 (by omega) (by omega)]; simpa using hlog, hL⟩
             | exact ⟨_, _, by rw [kp_11 (by omega) (by omega)]; exact rd.one_tree hz_g39 hx (Le.refl _), rfl, by rw [kp_11 (by omega) (by omega)]; exact hlog2, hL⟩
             | exact ⟨_, _, by rw [kp_10 (by omega) (by omega)]; exact rd.one_tree hz_g51 hlt (Le.refl _), rfl, by rw [kp_10 (by omega) (by omega)]; simpa using hlog, hL⟩
             | exact ⟨_, _, by rw [kp_01 (by omega) (by omega)]; exact rd.one_tree hz_g63 hrt (Le.refl _), rfl, by rw [kp_01 (by omega) (by omega)]; simpa using hlog, hL⟩
             | exact ⟨_, _, by rw [kp_c (by omega)]; exact rd.nil _ _, rfl, by rw [kp_c (by omega)]; exact hlog3, hL⟩
             | exact ⟨_, _, by rw [kp_n (by omega)]; exact rd.nil _ _, rfl, by rw [kp_n (by omega)]; simpa using hlog, hL⟩
          ·
           refine TL.pickF rfl rfl rfl rfl ?_
           refine TL.assign rfl rfl ?_
           refine TL.nil ?_
           refine TQ.then_n ?_
           refine TC.cond_f rfl ?_
           refine TC.skip ?_
           refine TQ.in_n ?_
           refine TQ.then_n ?_
           refine TC.seq ?_
           refine TC.region ?_
           refine TL.assign rfl rfl ?_
           refine TL.nil ?_
           refine TQ.then_n ?_
           refine TC.ret ?_
           refine TQ.sel 5 [3, 4] rfl (fun o ho => ?_)
           simp only [K.sel, List.map_cons, List.map_nil, List.getD_cons_zero, List.getD_cons_succ, List.drop_succ_cons, List.drop_zero, List.cons_append, List.nil_append, List.set_cons_zero, List.set_cons_succ] at ho; subst ho
           refine TQ.ret1 0 rfl rfl ?_
           first
             | exact ⟨_, _, by rw [kp_00 (by omega) (by omega)]; exact rd.one_tree hz_g21 hb (Le.refl _), rfl, by rw [kp_00 (by omega) (by omega)]; simpa using hlog, hL⟩
             | exact ⟨_, _, by rw [kp_11 (by omega) (by omega)]; exact rd.one_tree hz_g39 hx (Le.refl _), rfl, by rw [kp_11 (by omega) (by omega)]; exact hlog2, hL⟩
             | exact ⟨_, _, by rw [kp_10 (by omega) (by omega)]; exact rd.one_tree hz_g51 hlt (Le.refl _), rfl, by rw [kp_10 (by omega) (by omega)]; simpa using hlog, hL⟩
             | exact ⟨_, _, by rw [kp_01 (by omega) (by omega)]; exact rd.one_tree hz_g63 hrt (Le.refl _), rfl, by rw [kp_01 (by omega) (by omega)]; simpa using hlog, hL⟩
             | exact ⟨_, _, by rw [kp_c (by omega)]; exact rd.nil _ _, rfl, by rw [kp_c (by omega)]; exact hlog3, hL⟩
             | exact ⟨_, _, by rw [kp_n (by omega)]; exact rd.nil _ _, rfl, by rw [kp_n (by omega)]; simpa using hlog, hL⟩
      ·
       refine TL.move rfl rfl ?_
       refine TL.gno rfl rfl rfl rfl ?_
       refine TL.gno rfl rfl rfl rfl ?_
       refine TL.gno rfl rfl rfl rfl ?_
       refine TL.pickF rfl rfl rfl rfl ?_
       refine TL.assign rfl rfl ?_
       refine TL.nil ?_
       refine TQ.then_n ?_
       refine TC.cond_f rfl ?_
       refine TC.seq ?_
       refine TC.region ?_
       refine TL.fieldAddr rfl rfl ?_
       refine TL.load_own 1 0 rfl rfl rfl rfl rfl ?_
       refine TL.eqlB rfl rfl rfl (fun h17 => ?_) (fun h17 => ?_)
       ·
        refine TL.move rfl rfl ?_
        refine TL.gyes rfl rfl rfl ?_
        refine TL.fieldAddr rfl rfl ?_
        refine TL.gyes rfl rfl rfl ?_
        refine TL.load_own 0 0 rfl rfl rfl rfl rfl ?_
        refine TL.gyes rfl rfl rfl ?_
        refine TL.eqlB rfl rfl rfl (fun h18 => ?_) (fun h18 => ?_)
        ·
         refine TL.pickT rfl rfl rfl rfl ?_
         refine TL.assign rfl rfl ?_
         refine TL.nil ?_
         refine TQ.then_n ?_
         refine TC.cond_t rfl ?_
         refine TC.seq ?_
         refine TC.region ?_
         refine TL.fieldAddr rfl rfl ?_
         refine TL.load_ownA 0 0 [_, _] rfl rfl rfl ⟨rfl, rfl, trivial⟩ rfl rfl ?_
         refine TL.litF (r := [_, _]) [(0, [_, _])] ⟨rfl, ⟨_, rfl, rfl⟩, trivial⟩ rfl rfl rfl rfl ?_; intro g63
         refine TL.assign rfl rfl ?_
         refine TL.nil ?_
         refine TQ.then_n ?_
         refine TC.ret ?_
         refine TQ.in_r ?_
         refine TQ.then_r ?_
         refine TQ.freeze (fun H19 hle hz_g63 => ?_)
         have hL := Le.trans hL hle
         have hA := rd.mono hle hA
         have hb := RdL.mono hle hb
         have hlt := RdL.mono hle hlt
         have hrt := RdL.mono hle hrt
         have hlog := Log.mono hle hlog
         refine TQ.sel 5 [3, 4] rfl (fun o ho => ?_)
         simp only [K.sel, List.map_cons, List.map_nil, List.getD_cons_zero, List.getD_cons_succ, List.drop_succ_cons, List.drop_zero, List.cons_append, List.nil_append, List.set_cons_zero, List.set_cons_succ] at ho; subst ho
         refine TQ.ret1 0 rfl rfl ?_
         first
           | exact ⟨_, _, by rw [kp_00 (by omega) (by omega)]; exact rd.one_tree hz_g21 hb (Le.refl _), rfl, by rw [kp_00 (by omega) (by omega)]; simpa using hlog, hL⟩
           | exact ⟨_, _, by rw [kp_11 (by omega) (by omega)]; exact rd.one_tree hz_g39 hx (Le.refl _), rfl, by rw [kp_11 (by omega) (by omega)]; exact hlog2, hL⟩
           | exact ⟨_, _, by rw [kp_10 (by omega) (by omega)]; exact rd.one_tree hz_g51 hlt (Le.refl _), rfl, by rw [kp_10 (by omega) (by omega)]; simpa using hlog, hL⟩
           | exact ⟨_, _, by rw [kp_01 (by omega) (by omega)]; exact rd.one_tree hz_g63 hrt (Le.refl _), rfl, by rw [kp_01 (by omega) (by omega)]; simpa using hlog, hL⟩
           | exact ⟨_, _, by rw [kp_c (by omega)]; exact rd.nil _ _, rfl, by rw [kp_c (by omega)]; exact hlog3, hL⟩
           | exact ⟨_, _, by rw [kp_n (by omega)]; exact rd.nil _ _, rfl, by rw [kp_n (by omega)]; simpa using hlog, hL⟩
        ·
         refine TL.pickT rfl rfl rfl rfl ?_
         refine TL.assign rfl rfl ?_
         refine TL.nil ?_
         refine TQ.then_n ?_
         refine TC.cond_f rfl ?_
         refine TC.seq ?_
         refine TC.region ?_
         refine TL.fieldAddr rfl rfl ?_
         refine TL.load_own 1 0 rfl rfl rfl rfl rfl ?_
         refine TL.eqlB rfl rfl rfl (fun h20 => ?_) (fun h20 => ?_)
         ·
          refine TL.move rfl rfl ?_
          refine TL.gno rfl rfl rfl rfl ?_
          refine TL.gno rfl rfl rfl rfl ?_
          refine TL.gno rfl rfl rfl rfl ?_
          refine TL.pickT rfl rfl rfl rfl ?_
          refine TL.assign rfl rfl ?_
          refine TL.nil ?_
          refine TQ.then_n ?_
          refine TC.cond_t rfl ?_
          refine TC.region ?_
          refine TL.move rfl rfl ?_
          refine TL.nilCheck rfl rfl ?_
          refine TL.fieldAddr rfl rfl ?_
          refine TL.move rfl rfl ?_
          refine TL.sel 5 [3, 4, 0, 1, 2] rfl (fun o ho => ?_)
          simp only [K.sel, List.map_cons, List.map_nil, List.getD_cons_zero, List.getD_cons_succ, List.drop_succ_cons, List.drop_zero, List.cons_append, List.nil_append, List.set_cons_zero, List.set_cons_succ] at ho; subst ho
          refine TL.call (merge_conflict (by omega) (by omega) hA hlog) ⟨rfl, rfl, trivial⟩ rfl ?_
          rintro _ _ H3 ⟨u3, s3, rfl, rfl, hlog3, hle3⟩
          have hL := Le.trans hL hle3
          have hA := rd.mono hle3 hA
          have hb := RdL.mono hle3 hb
          have hlt := RdL.mono hle3 hlt
          have hrt := RdL.mono hle3 hrt
          have hlog := Log.mono hle3 hlog
          refine TL.nil ?_
          refine TQ.in_n ?_
          refine TQ.then_n ?_
          refine TC.seq ?_
          refine TC.region ?_
          refine TL.assign rfl rfl ?_
          refine TL.nil ?_
          refine TQ.then_n ?_
          refine TC.ret ?_
          refine TQ.sel 5 [0, 1] rfl (fun o ho => ?_)
          simp only [K.sel, List.map_cons, List.map_nil, List.getD_cons_zero, List.getD_cons_succ, List.drop_succ_cons, List.drop_zero, List.cons_append, List.nil_append, List.set_cons_zero, List.set_cons_succ] at ho; subst ho
          refine TQ.ret1 0 rfl rfl ?_
          first
            | exact ⟨_, _, by rw [kp_00 (by omega) (by omega)]; exact rd.one_tree hz_g21 hb (Le.refl _), rfl, by rw [kp_00 (by omega) (by omega)]; simpa using hlog, hL⟩
            | exact ⟨_, _, by rw [kp_11 (by omega) (by omega)]; exact rd.one_tree hz_g39 hx (Le.refl _), rfl, by rw [kp_11 (by omega) (by omega)]; exact hlog2, hL⟩
            | exact ⟨_, _, by rw [kp_10 (by omega) (by omega)]; exact rd.one_tree hz_g51 hlt (Le.refl _), rfl, by rw [kp_10 (by omega) (by omega)]; simpa using hlog, hL⟩
            | exact ⟨_, _, by rw [kp_01 (by omega) (by omega)]; exact rd.one_tree hz_g63 hrt (Le.refl _), rfl, by rw [kp_01 (by omega) (by omega)]; simpa using hlog, hL⟩
            | exact ⟨_, _, by rw [kp_c (by omega)]; exact rd.nil _ _, rfl, by rw [kp_c (by omega)]; exact hlog3, hL⟩
            | exact ⟨_, _, by rw [kp_n (by omega)]; exact rd.nil _ _, rfl, by rw [kp_n (by omega)]; simpa using hlog, hL⟩
         ·
          refine TL.move rfl rfl ?_
          refine TL.gyes rfl rfl rfl ?_
          refine TL.fieldAddr rfl rfl ?_
          refine TL.gyes rfl rfl rfl ?_
          refine TL.load_own 0 0 rfl rfl rfl rfl rfl ?_
          refine TL.gyes rfl rfl rfl ?_
          refine TL.eqlB rfl rfl rfl (fun h21 => ?_) (fun h21 => ?_)
          ·
           refine TL.pickF rfl rfl rfl rfl ?_
           refine TL.assign rfl rfl ?_
           refine TL.nil ?_
           refine TQ.then_n ?_
           refine TC.cond_t rfl ?_
           refine TC.region ?_
           refine TL.move rfl rfl ?_
           refine TL.nilCheck rfl rfl ?_
           refine TL.fieldAddr rfl rfl ?_
           refine TL.move rfl rfl ?_
           refine TL.sel 5 [3, 4, 0, 1, 2] rfl (fun o ho => ?_)
           simp only [K.sel, List.map_cons, List.map_nil, List.getD_cons_zero, List.getD_cons_succ, List.drop_succ_cons, List.drop_zero, List.cons_append, List.nil_append, List.set_cons_zero, List.set_cons_succ] at ho; subst ho
           refine TL.call (merge_conflict (by omega) (by omega) hA hlog) ⟨rfl, rfl, trivial⟩ rfl ?_
           rintro _ _ H3 ⟨u3, s3, rfl, rfl, hlog3, hle3⟩
           have hL := Le.trans hL hle3
           have hA := rd.mono hle3 hA
           have hb := RdL.mono hle3 hb
           have hlt := RdL.mono hle3 hlt
           have hrt := RdL.mono hle3 hrt
           have hlog := Log.mono hle3 hlog
           refine TL.nil ?_
           refine TQ.in_n ?_
           refine TQ.then_n ?_
           refine TC.seq ?_
           refine TC.region ?_
           refine TL.assign rfl rfl ?_
           refine TL.nil ?_
           refine TQ.then_n ?_
           refine TC.ret ?_
           refine TQ.sel 5 [0, 1] rfl (fun o ho => ?_)
           simp only [K.sel, List.map_cons, List.map_nil, List.getD_cons_zero, List.getD_cons_succ, List.drop_succ_cons, List.drop_zero, List.cons_append, List.nil_append, List.set_cons_zero, List.set_cons_succ] at ho; subst ho
           refine TQ.ret1 0 rfl rfl ?_
           first
             | exact ⟨_, _, by rw [kp_00 (by omega) (by omega)]; exact rd.one_tree hz_g21 hb (Le.refl _), rfl, by rw [kp_00 (by omega) (by omega)]; simpa using hlog, hL⟩
             | exact ⟨_, _, by rw [kp_11 (by omega) (by omega)]; exact rd.one_tree hz_g39 hx (Le.refl _), rfl, by rw [kp_11 (by omega) (by omega)]; exact hlog2, hL⟩
             | exact ⟨_, _, by rw [kp_10 (by omega) (by omega)]; exact rd.one_tree hz_g51 hlt (Le.refl _), rfl, by rw [kp_10 (by omega) (by omega)]; simpa using hlog, hL⟩
             | exact ⟨_, _, by rw [kp_01 (by omega) (by omega)]; exact rd.one_tree hz_g63 hrt (Le.refl _), rfl, by rw [kp_01 (by omega) (by omega)]; simpa using hlog, hL⟩
             | exact ⟨_, _, by rw [kp_c (by omega)]; exact rd.nil _ _, rfl, by rw [kp_c (by omega)]; exact hlog3, hL⟩
             | exact ⟨_, _, by rw [kp_n (by omega)]; exact rd.nil _ _, rfl, by rw [kp_n (by omega)]; simpa using hlog, hL⟩
          ·
           refine TL.pickF rfl rfl rfl rfl ?_
           refine TL.assign rfl rfl ?_
           refine TL.nil ?_
           refine TQ.then_n ?_
           refine TC.cond_f rfl ?_
           refine TC.skip ?_
           refine TQ.in_n ?_
           refine TQ.then_n ?_
           refine TC.seq ?_
           refine TC.region ?_
           refine TL.assign rfl rfl ?_
           refine TL.nil ?_
           refine TQ.then_n ?_
           refine TC.ret ?_
           refine TQ.sel 5 [3, 4] rfl (fun o ho => ?_)
           simp only [K.sel, List.map_cons, List.map_nil, List.getD_cons_zero, List.getD_cons_succ, List.drop_succ_cons, List.drop_zero, List.cons_append, List.nil_append, List.set_cons_zero, List.set_cons_succ] at ho; subst ho
           refine TQ.ret1 0 rfl rfl ?_
           first
             | exact ⟨_, _, by rw [kp_00 (by omega) (by omega)]; exact rd.one_tree hz_g21 hb (Le.refl _), rfl, by rw [kp_00 (by omega) (by omega)]; simpa using hlog, hL⟩
             | exact ⟨_, _, by rw [kp_11 (by omega) (by omega)]; exact rd.one_tree hz_g39 hx (Le.refl _), rfl, by rw [kp_11 (by omega) (by omega)]; exact hlog2, hL⟩
             | exact ⟨_, _, by rw [kp_10 (by omega) (by omega)]; exact rd.one_tree hz_g51 hlt (Le.refl _), rfl, by rw [kp_10 (by omega) (by omega)]; simpa using hlog, hL⟩
             | exact ⟨_, _, by rw [kp_01 (by omega) (by omega)]; exact rd.one_tree hz_g63 hrt (Le.refl _), rfl, by rw [kp_01 (by omega) (by omega)]; simpa using hlog, hL⟩
             | exact ⟨_, _, by rw [kp_c (by omega)]; exact rd.nil _ _, rfl, by rw [kp_c (by omega)]; exact hlog3, hL⟩
             | exact ⟨_, _, by rw [kp_n (by omega)]; exact rd.nil _ _, rfl, by rw [kp_n (by omega)]; simpa using hlog, hL⟩
       ·
        refine TL.move rfl rfl ?_
        refine TL.gno rfl rfl rfl rfl ?_
        refine TL.gno rfl rfl rfl rfl ?_
        refine TL.gno rfl rfl rfl rfl ?_
        refine TL.pickF rfl rfl rfl rfl ?_
        refine TL.assign rfl rfl ?_
        refine TL.nil ?_
        refine TQ.then_n ?_
        refine TC.cond_f rfl ?_
        refine TC.seq ?_
        refine TC.region ?_
        refine TL.fieldAddr rfl rfl ?_
        refine TL.load_own 1 0 rfl rfl rfl rfl rfl ?_
        refine TL.eqlB rfl rfl rfl (fun h22 => ?_) (fun h22 => ?_)
        ·
         refine TL.move rfl rfl ?_
         refine TL.gno rfl rfl rfl rfl ?_
         refine TL.gno rfl rfl rfl rfl ?_
         refine TL.gno rfl rfl rfl rfl ?_
         refine TL.pickT rfl rfl rfl rfl ?_
         refine TL.assign rfl rfl ?_
         refine TL.nil ?_
         refine TQ.then_n ?_
         refine TC.cond_t rfl ?_
         refine TC.region ?_
         refine TL.move rfl rfl ?_
         refine TL.nilCheck rfl rfl ?_
         refine TL.fieldAddr rfl rfl ?_
         refine TL.move rfl rfl ?_
         refine TL.sel 5 [3, 4, 0, 1, 2] rfl (fun o ho => ?_)
         simp only [K.sel, List.map_cons, List.map_nil, List.getD_cons_zero, List.getD_cons_succ, List.drop_succ_cons, List.drop_zero, List.cons_append, List.nil_append, List.set_cons_zero, List.set_cons_succ] at ho; subst ho
         refine TL.call (merge_conflict (by omega) (by omega) hA hlog) ⟨rfl, rfl, trivial⟩ rfl ?_
         rintro _ _ H3 ⟨u3, s3, rfl, rfl, hlog3, hle3⟩
         have hL := Le.trans hL hle3
         have hA := rd.mono hle3 hA
         have hb := RdL.mono hle3 hb
         have hlt := RdL.mono hle3 hlt
         have hrt := RdL.mono hle3 hrt
         have hlog := Log.mono hle3 hlog
         refine TL.nil ?_
         refine TQ.in_n ?_
         refine TQ.then_n ?_
         refine TC.seq ?_
         refine TC.region ?_
         refine TL.assign rfl rfl ?_
         refine TL.nil ?_
         refine TQ.then_n ?_
         refine TC.ret ?_
         refine TQ.sel 5 [0, 1] rfl (fun o ho => ?_)
         simp only [K.sel, List.map_cons, List.map_nil, List.getD_cons_zero, List.getD_cons_succ, List.drop_succ_cons, List.drop_zero, List.cons_append, List.nil_append, List.set_cons_zero, List.set_cons_succ] at ho; subst ho
         refine TQ.ret1 0 rfl rfl ?_
         first
           | exact ⟨_, _, by rw [kp_00 (by omega) (by omega)]; exact rd.one_tree hz_g21 hb (Le.refl _), rfl, by rw [kp_00 (by omega) (by omega)]; simpa using hlog, hL⟩
           | exact ⟨_, _, by rw [kp_11 (by omega) (by omega)]; exact rd.one_tree hz_g39 hx (Le.refl _), rfl, by rw [kp_11 (by omega) (by omega)]; exact hlog2, hL⟩
           | exact ⟨_, _, by rw [kp_10 (by omega) (by omega)]; exact rd.one_tree hz_g51 hlt (Le.refl _), rfl, by rw [kp_10 (by omega) (by omega)]; simpa using hlog, hL⟩
           | exact ⟨_, _, by rw [kp_01 (by omega) (by omega)]; exact rd.one_tree hz_g63 hrt (Le.refl _), rfl, by rw [kp_01 (by omega) (by omega)]; simpa using hlog, hL⟩
           | exact ⟨_, _, by rw [kp_c (by omega)]; exact rd.nil _ _, rfl, by rw [kp_c (by omega)]; exact hlog3, hL⟩
           | exact ⟨_, _, by rw [kp_n (by omega)]; exact rd.nil _ _, rfl, by rw [kp_n (by omega)]; simpa using hlog, hL⟩
        ·
         refine TL.move rfl rfl ?_
         refine TL.gyes rfl rfl rfl ?_
         refine TL.fieldAddr rfl rfl ?_
         refine TL.gyes rfl rfl rfl ?_
         refine TL.load_own 0 0 rfl rfl rfl rfl rfl ?_
         refine TL.gyes rfl rfl rfl ?_
         refine TL.eqlB rfl rfl rfl (fun h23 => ?_) (fun h23 => ?_)
         ·
          refine TL.pickF rfl rfl rfl rfl ?_
          refine TL.assign rfl rfl ?_
          refine TL.nil ?_
          refine TQ.then_n ?_
          refine TC.cond_t rfl ?_
          refine TC.region ?_
          refine TL.move rfl rfl ?_
          refine TL.nilCheck rfl rfl ?_
          refine TL.fieldAddr rfl rfl ?_
          refine TL.move rfl rfl ?_
          refine TL.sel 5 [3, 4, 0, 1, 2] rfl (fun o ho => ?_)
          simp only [K.sel, List.map_cons, List.map_nil, List.getD_cons_zero, List.getD_cons_succ, List.drop_succ_cons, List.drop_zero, List.cons_append, List.nil_append, List.set_cons_zero, List.set_cons_succ] at ho; subst ho
          refine TL.call (merge_conflict (by omega) (by omega) hA hlog) ⟨rfl, rfl, trivial⟩ rfl ?_
          rintro _ _ H3 ⟨u3, s3, rfl, rfl, hlog3, hle3⟩
          have hL := Le.trans hL hle3
          have hA := rd.mono hle3 hA
          have hb := RdL.mono hle3 hb
          have hlt := RdL.mono hle3 hlt
          have hrt := RdL.mono hle3 hrt
          have hlog := Log.mono hle3 hlog
          refine TL.nil ?_
          refine TQ.in_n ?_
          refine TQ.then_n ?_
          refine TC.seq ?_
          refine TC.region ?_
          refine TL.assign rfl rfl ?_
          refine TL.nil ?_
          refine TQ.then_n ?_
          refine TC.ret ?_
          refine TQ.sel 5 [0, 1] rfl (fun o ho => ?_)
          simp only [K.sel, List.map_cons, List.map_nil, List.getD_cons_zero, List.getD_cons_succ, List.drop_succ_cons, List.drop_zero, List.cons_append, List.nil_append, List.set_cons_zero, List.set_cons_succ] at ho; subst ho
          refine TQ.ret1 0 rfl rfl ?_
          first
            | exact ⟨_, _, by rw [kp_00 (by omega) (by omega)]; exact rd.one_tree hz_g21 hb (Le.refl _), rfl, by rw [kp_00 (by omega) (by omega)]; simpa using hlog, hL⟩
            | exact ⟨_, _, by rw [kp_11 (by omega) (by omega)]; exact rd.one_tree hz_g39 hx (Le.refl _), rfl, by rw [kp_11 (by omega) (by omega)]; exact hlog2, hL⟩
            | exact ⟨_, _, by rw [kp_10 (by omega) (by omega)]; exact rd.one_tree hz_g51 hlt (Le.refl _), rfl, by rw [kp_10 (by omega) (by omega)]; simpa using hlog, hL⟩
            | exact ⟨_, _, by rw [kp_01 (by omega) (by omega)]; exact rd.one_tree hz_g63 hrt (Le.refl _), rfl, by rw [kp_01 (by omega) (by omega)]; simpa using hlog, hL⟩
            | exact ⟨_, _, by rw [kp_c (by omega)]; exact rd.nil _ _, rfl, by rw [kp_c (by omega)]; exact hlog3, hL⟩
            | exact ⟨_, _, by rw [kp_n (by omega)]; exact rd.nil _ _, rfl, by rw [kp_n (by omega)]; simpa using hlog, hL⟩
         ·
          refine TL.pickF rfl rfl rfl rfl ?_
          refine TL.assign rfl rfl ?_
          refine TL.nil ?_
          refine TQ.then_n ?_
          refine TC.cond_f rfl ?_
          refine TC.skip ?_
          refine TQ.in_n ?_
          refine TQ.then_n ?_
          refine TC.seq ?_
          refine TC.region ?_
          refine TL.assign rfl rfl ?_
          refine TL.nil ?_
          refine TQ.then_n ?_
          refine TC.ret ?_
          refine TQ.sel 5 [3, 4] rfl (fun o ho => ?_)
          simp only [K.sel, List.map_cons, List.map_nil, List.getD_cons_zero, List.getD_cons_succ, List.drop_succ_cons, List.drop_zero, List.cons_append, List.nil_append, List.set_cons_zero, List.set_cons_succ] at ho; subst ho
          refine TQ.ret1 0 rfl rfl ?_
          first
            | exact ⟨_, _, by rw [kp_00 (by omega) (by omega)]; exact rd.one_tree hz_g21 hb (Le.refl _), rfl, by rw [kp_00 (by omega) (by omega)]; simpa using hlog, hL⟩
            | exact ⟨_, _, by rw [kp_11 (by omega) (by omega)]; exact rd.one_tree hz_g39 hx (Le.refl _), rfl, by rw [kp_11 (by omega) (by omega)]; exact hlog2, hL⟩
            | exact ⟨_, _, by rw [kp_10 (by omega) (by omega)]; exact rd.one_tree hz_g51 hlt (Le.refl _), rfl, by rw [kp_10 (by omega) (by omega)]; simpa using hlog, hL⟩
            | exact ⟨_, _, by rw [kp_01 (by omega) (by omega)]; exact rd.one_tree hz_g63 hrt (Le.refl _), rfl, by rw [kp_01 (by omega) (by omega)]; simpa using hlog, hL⟩
            | exact ⟨_, _, by rw [kp_c (by omega)]; exact rd.nil _ _, rfl, by rw [kp_c (by omega)]; exact hlog3, hL⟩
            | exact ⟨_, _, by rw [kp_n (by omega)]; exact rd.nil _ _, rfl, by rw [kp_n (by omega)]; simpa using hlog, hL⟩
    ·
     refine TL.move rfl rfl ?_
     refine TL.gno rfl rfl rfl rfl ?_
     refine TL.gno rfl rfl rfl rfl ?_
     refine TL.gno rfl rfl rfl rfl ?_
     refine TL.pickF rfl rfl rfl rfl ?_
     refine TL.assign rfl rfl ?_
     refine TL.nil ?_
     refine TQ.then_n ?_
     refine TC.cond_f rfl ?_
     refine TC.seq ?_
     refine TC.region ?_
     refine TL.fieldAddr rfl rfl ?_
     refine TL.load_own 1 0 rfl rfl rfl rfl rfl ?_
     refine TL.eqlB rfl rfl rfl (fun h24 => ?_) (fun h24 => ?_)
     ·
      refine TL.move rfl rfl ?_
      refine TL.gyes rfl rfl rfl ?_
      refine TL.fieldAddr rfl rfl ?_
      refine TL.gyes rfl rfl rfl ?_
      refine TL.load_own 0 0 rfl rfl rfl rfl rfl ?_
      refine TL.gyes rfl rfl rfl ?_
      refine TL.eqlB rfl rfl rfl (fun h25 => ?_) (fun h25 => ?_)
      ·
       refine TL.pickT rfl rfl rfl rfl ?_
       refine TL.assign rfl rfl ?_
       refine TL.nil ?_
       refine TQ.then_n ?_
       refine TC.cond_t rfl ?_
       refine TC.seq ?_
       refine TC.region ?_
       refine TL.fieldAddr rfl rfl ?_
       refine TL.load_ownA 1 0 [_, _] rfl rfl rfl ⟨rfl, rfl, trivial⟩ rfl rfl ?_
       refine TL.litF (r := [_, _]) [(0, [_, _])] ⟨rfl, ⟨_, rfl, rfl⟩, trivial⟩ rfl rfl rfl rfl ?_; intro g51
       refine TL.assign rfl rfl ?_
       refine TL.nil ?_
       refine TQ.then_n ?_
       refine TC.ret ?_
       refine TQ.in_r ?_
       refine TQ.then_r ?_
       refine TQ.freeze (fun H26 hle hz_g51 => ?_)
       have hL := Le.trans hL hle
       have hA := rd.mono hle hA
       have hb := RdL.mono hle hb
       have hlt := RdL.mono hle hlt
       have hrt := RdL.mono hle hrt
       have hlog := Log.mono hle hlog
       refine TQ.sel 5 [3, 4] rfl (fun o ho => ?_)
       simp only [K.sel, List.map_cons, List.map_nil, List.getD_cons_zero, List.getD_cons_succ, List.drop_succ_cons, List.drop_zero, List.cons_append, List.nil_append, List.set_cons_zero, List.set_cons_succ] at ho; subst ho
       refine TQ.ret1 0 rfl rfl ?_
       first
         | exact ⟨_, _, by rw [kp_00 (by omega) (by omega)]; exact rd.one_tree hz_g21 hb (Le.refl _), rfl, by rw [kp_00 (by omega) (by omega)]; simpa using hlog, hL⟩
         | exact ⟨_, _, by rw [kp_11 (by omega) (by omega)]; exact rd.one_tree hz_g39 hx (Le.refl _), rfl, by rw [kp_11 (by omega) (by omega)]; exact hlog2, hL⟩
         | exact ⟨_, _, by rw [kp_10 (by omega) (by omega)]; exact rd.one_tree hz_g51 hlt (Le.refl _), rfl, by rw [kp_10 (by omega) (by omega)]; simpa using hlog, hL⟩
         | exact ⟨_, _, by rw [kp_01 (by omega) (by omega)]; exact rd.one_tree hz_g63 hrt (Le.refl _), rfl, by rw [kp_01 (by omega) (by omega)]; simpa using hlog, hL⟩
         | exact ⟨_, _, by rw [kp_c (by omega)]; exact rd.nil _ _, rfl, by rw [kp_c (by omega)]; exact hlog3, hL⟩
         | exact ⟨_, _, by rw [kp_n (by omega)]; exact rd.nil _ _, rfl, by rw [kp_n (by omega)]; simpa using hlog, hL⟩
      ·
       refine TL.pickT rfl rfl rfl rfl ?_
       refine TL.assign rfl rfl ?_
       refine TL.nil ?_
       refine TQ.then_n ?_
       refine TC.cond_f rfl ?_
       refine TC.seq ?_
       refine TC.region ?_
       refine TL.fieldAddr rfl rfl ?_
       refine TL.load_own 1 0 rfl rfl rfl rfl rfl ?_
       refine TL.eqlB rfl rfl rfl (fun h27 => ?_) (fun h27 => ?_)
       ·
        refine TL.move rfl rfl ?_
        refine TL.gyes rfl rfl rfl ?_
        refine TL.fieldAddr rfl rfl ?_
        refine TL.gyes rfl rfl rfl ?_
        refine TL.load_own 0 0 rfl rfl rfl rfl rfl ?_
        refine TL.gyes rfl rfl rfl ?_
        refine TL.eqlB rfl rfl rfl (fun h28 => ?_) (fun h28 => ?_)
        ·
         refine TL.pickT rfl rfl rfl rfl ?_
         refine TL.assign rfl rfl ?_
         refine TL.nil ?_
         refine TQ.then_n ?_
         refine TC.cond_t rfl ?_
         refine TC.seq ?_
         refine TC.region ?_
         refine TL.fieldAddr rfl rfl ?_
         refine TL.load_ownA 0 0 [_, _] rfl rfl rfl ⟨rfl, rfl, trivial⟩ rfl rfl ?_
         refine TL.litF (r := [_, _]) [(0, [_, _])] ⟨rfl, ⟨_, rfl, rfl⟩, trivial⟩ rfl rfl rfl rfl ?_; intro g63
         refine TL.assign rfl rfl ?_
         refine TL.nil ?_
         refine TQ.then_n ?_
         refine TC.ret ?_
         refine TQ.in_r ?_
         refine TQ.then_r ?_
         refine TQ.freeze (fun H29 hle hz_g63 => ?_)
         have hL := Le.trans hL hle
         have hA := rd.mono hle hA
         have hb := RdL.mono hle hb
         have hlt := RdL.mono hle hlt
         have hrt := RdL.mono hle hrt
         have hlog := Log.mono hle hlog
         refine TQ.sel 5 [3, 4] rfl (fun o ho => ?_)
         simp only [K.sel, List.map_cons, List.map_nil, List.getD_cons_zero, List.getD_cons_succ, List.drop_succ_cons, List.drop_zero, List.cons_append, List.nil_append, List.set_cons_zero, List.set_cons_succ] at ho; subst ho
         refine TQ.ret1 0 rfl rfl ?_
         first
           | exact ⟨_, _, by rw [kp_00 (by omega) (by omega)]; exact rd.one_tree hz_g21 hb (Le.refl _), rfl, by rw [kp_00 (by omega) (by omega)]; simpa using hlog, hL⟩
           | exact ⟨_, _, by rw [kp_11 (by omega) (by omega)]; exact rd.one_tree hz_g39 hx (Le.refl _), rfl, by rw [kp_11 (by omega) (by omega)]; exact hlog2, hL⟩
           | exact ⟨_, _, by rw [kp_10 (by omega) (by omega)]; exact rd.one_tree hz_g51 hlt (Le.refl _), rfl, by rw [kp_10 (by omega) (by omega)]; simpa using hlog, hL⟩
           | exact ⟨_, _, by rw [kp_01 (by omega) (by omega)]; exact rd.one_tree hz_g63 hrt (Le.refl _), rfl, by rw [kp_01 (by omega) (by omega)]; simpa using hlog, hL⟩
           | exact ⟨_, _, by rw [kp_c (by omega)]; exact rd.nil _ _, rfl, by rw [kp_c (by omega)]; exact hlog3, hL⟩
           | exact ⟨_, _, by rw [kp_n (by omega)]; exact rd.nil _ _, rfl, by rw [kp_n (by omega)]; simpa using hlog, hL⟩
        ·
         refine TL.pickT rfl rfl rfl rfl ?_
         refine TL.assign rfl rfl ?_
         refine TL.nil ?_
         refine TQ.then_n ?_
         refine TC.cond_f rfl ?_
         refine TC.seq ?_
         refine TC.region ?_
         refine TL.fieldAddr rfl rfl ?_
         refine TL.load_own 1 0 rfl rfl rfl rfl rfl ?_
         refine TL.eqlB rfl rfl rfl (fun h30 => ?_) (fun h30 => ?_)
         ·
          refine TL.move rfl rfl ?_
          refine TL.gno rfl rfl rfl rfl ?_
          refine TL.gno rfl rfl rfl rfl ?_
          refine TL.gno rfl rfl rfl rfl ?_
          refine TL.pickT rfl rfl rfl rfl ?_
          refine TL.assign rfl rfl ?_
          refine TL.nil ?_
          refine TQ.then_n ?_
          refine TC.cond_t rfl ?_
          refine TC.region ?_
          refine TL.move rfl rfl ?_
          refine TL.nilCheck rfl rfl ?_
          refine TL.fieldAddr rfl rfl ?_
          refine TL.move rfl rfl ?_
          refine TL.sel 5 [3, 4, 0, 1, 2] rfl (fun o ho => ?_)
          simp only [K.sel, List.map_cons, List.map_nil, List.getD_cons_zero, List.getD_cons_succ, List.drop_succ_cons, List.drop_zero, List.cons_append, List.nil_append, List.set_cons_zero, List.set_cons_succ] at ho; subst ho
          refine TL.call (merge_conflict (by omega) (by omega) hA hlog) ⟨rfl, rfl, trivial⟩ rfl ?_
          rintro _ _ H3 ⟨u3, s3, rfl, rfl, hlog3, hle3⟩
          have hL := Le.trans hL hle3
          have hA := rd.mono hle3 hA
          have hb := RdL.mono hle3 hb
          have hlt := RdL.mono hle3 hlt
          have hrt := RdL.mono hle3 hrt
          have hlog := Log.mono hle3 hlog
          refine TL.nil ?_
          refine TQ.in_n ?_
          refine TQ.then_n ?_
          refine TC.seq ?_
          refine TC.region ?_
          refine TL.assign rfl rfl ?_
          refine TL.nil ?_
          refine TQ.then_n ?_
          refine TC.ret ?_
          refine TQ.sel 5 [0, 1] rfl (fun o ho => ?_)
          simp only [K.sel, List.map_cons, List.map_nil, List.getD_cons_zero, List.getD_cons_succ, List.drop_succ_cons, List.drop_zero, List.cons_append, List.nil_append, List.set_cons_zero, List.set_cons_succ] at ho; subst ho
          refine TQ.ret1 0 rfl rfl ?_
          first
            | exact ⟨_, _, by rw [kp_00 (by omega) (by omega)]; exact rd.one_tree hz_g21 hb (Le.refl _), rfl, by rw [kp_00 (by omega) (by omega)]; simpa using hlog, hL⟩
            | exact ⟨_, _, by rw [kp_11 (by omega) (by omega)]; exact rd.one_tree hz_g39 hx (Le.refl _), rfl, by rw [kp_11 (by omega) (by omega)]; exact hlog2, hL⟩
            | exact ⟨_, _, by rw [kp_10 (by omega) (by omega)]; exact rd.one_tree hz_g51 hlt (Le.refl _), rfl, by rw [kp_10 (by omega) (by omega)]; simpa using hlog, hL⟩
            | exact ⟨_, _, by rw [kp_01 (by omega) (by omega)]; exact rd.one_tree hz_g63 hrt (Le.refl _), rfl, by rw [kp_01 (by omega) (by omega)]; simpa using hlog, hL⟩
            | exact ⟨_, _, by rw [kp_c (by omega)]; exact rd.nil _ _, rfl, by rw [kp_c (by omega)]; exact hlog3, hL⟩
            | exact ⟨_, _, by rw [kp_n (by omega)]; exact rd.nil _ _, rfl, by rw [kp_n (by omega)]; simpa using hlog, hL⟩
         ·
          refine TL.move rfl rfl ?_
          refine TL.gyes rfl rfl rfl ?_
          refine TL.fieldAddr rfl rfl ?_
          refine TL.gyes rfl rfl rfl ?_
          refine TL.load_own 0 0 rfl rfl rfl rfl rfl ?_
          refine TL.gyes rfl rfl rfl ?_
          refine TL.eqlB rfl rfl rfl (fun h31 => ?_) (fun h31 => ?_)
          ·
           refine TL.pickF rfl rfl rfl rfl ?_
           refine TL.assign rfl rfl ?_
           refine TL.nil ?_
           refine TQ.then_n ?_
           refine TC.cond_t rfl ?_
           refine TC.region ?_
           refine TL.move rfl rfl ?_
           refine TL.nilCheck rfl rfl ?_
           refine TL.fieldAddr rfl rfl ?_
           refine TL.move rfl rfl ?_
           refine TL.sel 5 [3, 4, 0, 1, 2] rfl (fun o ho => ?_)
           simp only [K.sel, List.map_cons, List.map_nil, List.getD_cons_zero, List.getD_cons_succ, List.drop_succ_cons, List.drop_zero, List.cons_append, List.nil_append, List.set_cons_zero, List.set_cons_succ] at ho; subst ho
           refine TL.call (merge_conflict (by omega) (by omega) hA hlog) ⟨rfl, rfl, trivial⟩ rfl ?_
           rintro _ _ H3 ⟨u3, s3, rfl, rfl, hlog3, hle3⟩
           have hL := Le.trans hL hle3
           have hA := rd.mono hle3 hA
           have hb := RdL.mono hle3 hb
           have hlt := RdL.mono hle3 hlt
           have hrt := RdL.mono hle3 hrt
           have hlog := Log.mono hle3 hlog
           refine TL.nil ?_
           refine TQ.in_n ?_
           refine TQ.then_n ?_
           refine TC.seq ?_
           refine TC.region ?_
           refine TL.assign rfl rfl ?_
           refine TL.nil ?_
           refine TQ.then_n ?_
           refine TC.ret ?_
           refine TQ.sel 5 [0, 1] rfl (fun o ho => ?_)
           simp only [K.sel, List.map_cons, List.map_nil, List.getD_cons_zero, List.getD_cons_succ, List.drop_succ_cons, List.drop_zero, List.cons_append, List.nil_append, List.set_cons_zero, List.set_cons_succ] at ho; subst ho
           refine TQ.ret1 0 rfl rfl ?_
           first
             | exact ⟨_, _, by rw [kp_00 (by omega) (by omega)]; exact rd.one_tree hz_g21 hb (Le.refl _), rfl, by rw [kp_00 (by omega) (by omega)]; simpa using hlog, hL⟩
             | exact ⟨_, _, by rw [kp_11 (by omega) (by omega)]; exact rd.one_tree hz_g39 hx (Le.refl _), rfl, by rw [kp_11 (by omega) (by omega)]; exact hlog2, hL⟩
             | exact ⟨_, _, by rw [kp_10 (by omega) (by omega)]; exact rd.one_tree hz_g51 hlt (Le.refl _), rfl, by rw [kp_10 (by omega) (by omega)]; simpa using hlog, hL⟩
             | exact ⟨_, _, by rw [kp_01 (by omega) (by omega)]; exact rd.one_tree hz_g63 hrt (Le.refl _), rfl, by rw [kp_01 (by omega) (by omega)]; simpa using hlog, hL⟩
             | exact ⟨_, _, by rw [kp_c (by omega)]; exact rd.nil _ _, rfl, by rw [kp_c (by omega)]; exact hlog3, hL⟩
             | exact ⟨_, _, by rw [kp_n (by omega)]; exact rd.nil _ _, rfl, by rw [kp_n (by omega)]; simpa using hlog, hL⟩
          ·
           refine TL.pickF rfl rfl rfl rfl ?_
           refine TL.assign rfl rfl ?_
           refine TL.nil ?_
           refine TQ.then_n ?_
           refine TC.cond_f rfl ?_
           refine TC.skip ?_
           refine TQ.in_n ?_
           refine TQ.then_n ?_
           refine TC.seq ?_
           refine TC.region ?_
           refine TL.assign rfl rfl ?_
           refine TL.nil ?_
           refine TQ.then_n ?_
           refine TC.ret ?_
           refine TQ.sel 5 [3, 4] rfl (fun o ho => ?_)
           simp only [K.sel, List.map_cons, List.map_nil, List.getD_cons_zero, List.getD_cons_succ, List.drop_succ_cons, List.drop_zero, List.cons_append, List.nil_append, List.set_cons_zero, List.set_cons_succ] at ho; subst ho
           refine TQ.ret1 0 rfl rfl ?_
           first
             | exact ⟨_, _, by rw [kp_00 (by omega) (by omega)]; exact rd.one_tree hz_g21 hb (Le.refl _), rfl, by rw [kp_00 (by omega) (by omega)]; simpa using hlog, hL⟩
             | exact ⟨_, _, by rw [kp_11 (by omega) (by omega)]; exact rd.one_tree hz_g39 hx (Le.refl _), rfl, by rw [kp_11 (by omega) (by omega)]; exact hlog2, hL⟩
             | exact ⟨_, _, by rw [kp_10 (by omega) (by omega)]; exact rd.one_tree hz_g51 hlt (Le.refl _), rfl, by rw [kp_10 (by omega) (by omega)]; simpa using hlog, hL⟩
             | exact ⟨_, _, by rw [kp_01 (by omega) (by omega)]; exact rd.one_tree hz_g63 hrt (Le.refl _), rfl, by rw [kp_01 (by omega) (by omega)]; simpa using hlog, hL⟩
             | exact ⟨_, _, by rw [kp_c (by omega)]; exact rd.nil _ _, rfl, by rw [kp_c (by omega)]; exact hlog3, hL⟩
             | exact ⟨_, _, by rw [kp_n (by omega)]; exact rd.nil _ _, rfl, by rw [kp_n (by omega)]; simpa using hlog, hL⟩
       ·
        refine TL.move rfl rfl ?_
        refine TL.gno rfl rfl rfl rfl ?_
        refine TL.gno rfl rfl rfl rfl ?_
        refine TL.gno rfl rfl rfl rfl ?_
        refine TL.pickF rfl rfl rfl rfl ?_
        refine TL.assign rfl rfl ?_
        refine TL.nil ?_
        refine TQ.then_n ?_
        refine TC.cond_f rfl ?_
        refine TC.seq ?_
        refine TC.region ?_
        refine TL.fieldAddr rfl rfl ?_
        refine TL.load_own 1 0 rfl rfl rfl rfl rfl ?_
        refine TL.eqlB rfl rfl rfl (fun h32 => ?_) (fun h32 => ?_)
        ·
         refine TL.move rfl rfl ?_
         refine TL.gno rfl rfl rfl rfl ?_
         refine TL.gno rfl rfl rfl rfl ?_
         refine TL.gno rfl rfl rfl rfl ?_
         refine TL.pickT rfl rfl rfl rfl ?_
         refine TL.assign rfl rfl ?_
         refine TL.nil ?_
         refine TQ.then_n ?_
         refine TC.cond_t rfl ?_
         refine TC.region ?_
         refine TL.move rfl rfl ?_
         refine TL.nilCheck rfl rfl ?_
         refine TL.fieldAddr rfl rfl ?_
         refine TL.move rfl rfl ?_
         refine TL.sel 5 [3, 4, 0, 1, 2] rfl (fun o ho => ?_)
         simp only [K.sel, List.map_cons, List.map_nil, List.getD_cons_zero, List.getD_cons_succ, List.drop_succ_cons, List.drop_zero, List.cons_append, List.nil_append, List.set_cons_zero, List.set_cons_succ] at ho; subst ho
         refine TL.call (merge_conflict (by omega) (by omega) hA hlog) ⟨rfl, rfl, trivial⟩ rfl ?_
         rintro _ _ H3 ⟨u3, s3, rfl, rfl, hlog3, hle3⟩
         have hL := Le.trans hL hle3
         have hA := rd.mono hle3 hA
         have hb := RdL.mono hle3 hb
         have hlt := RdL.mono hle3 hlt
         have hrt := RdL.mono hle3 hrt
         have hlog := Log.mono hle3 hlog
         refine TL.nil ?_
         refine TQ.in_n ?_
         refine TQ.then_n ?_
         refine TC.seq ?_
         refine TC.region ?_
         refine TL.assign rfl rfl ?_
         refine TL.nil ?_
         refine TQ.then_n ?_
         refine TC.ret ?_
         refine TQ.sel 5 [0, 1] rfl (fun o ho => ?_)
         simp only [K.sel, List.map_cons, List.map_nil, List.getD_cons_zero, List.getD_cons_succ, List.drop_succ_cons, List.drop_zero, List.cons_append, List.nil_append, List.set_cons_zero, List.set_cons_succ] at ho; subst ho
         refine TQ.ret1 0 rfl rfl ?_
         first
           | exact ⟨_, _, by rw [kp_00 (by omega) (by omega)]; exact rd.one_tree hz_g21 hb (Le.refl _), rfl, by rw [kp_00 (by omega) (by omega)]; simpa using hlog, hL⟩
           | exact ⟨_, _, by rw [kp_11 (by omega) (by omega)]; exact rd.one_tree hz_g39 hx (Le.refl _), rfl, by rw [kp_11 (by omega) (by omega)]; exact hlog2, hL⟩
           | exact ⟨_, _, by rw [kp_10 (by omega) (by omega)]; exact rd.one_tree hz_g51 hlt (Le.refl _), rfl, by rw [kp_10 (by omega) (by omega)]; simpa using hlog, hL⟩
           | exact ⟨_, _, by rw [kp_01 (by omega) (by omega)]; exact rd.one_tree hz_g63 hrt (Le.refl _), rfl, by rw [kp_01 (by omega) (by omega)]; simpa using hlog, hL⟩
           | exact ⟨_, _, by rw [kp_c (by omega)]; exact rd.nil _ _, rfl, by rw [kp_c (by omega)]; exact hlog3, hL⟩
           | exact ⟨_, _, by rw [kp_n (by omega)]; exact rd.nil _ _, rfl, by rw [kp_n (by omega)]; simpa using hlog, hL⟩
        ·
         refine TL.move rfl rfl ?_
         refine TL.gyes rfl rfl rfl ?_
         refine TL.fieldAddr rfl rfl ?_
         refine TL.gyes rfl rfl rfl ?_
         refine TL.load_own 0 0 rfl rfl rfl rfl rfl ?_
         refine TL.gyes rfl rfl rfl ?_
         refine TL.eqlB rfl rfl rfl (fun h33 => ?_) (fun h33 => ?_)
         ·
          refine TL.pickF rfl rfl rfl rfl ?_
          refine TL.assign rfl rfl ?_
          refine TL.nil ?_
          refine TQ.then_n ?_
          refine TC.cond_t rfl ?_
          refine TC.region ?_
          refine TL.move rfl rfl ?_
          refine TL.nilCheck rfl rfl ?_
          refine TL.fieldAddr rfl rfl ?_
          refine TL.move rfl rfl ?_
          refine TL.sel 5 [3, 4, 0, 1, 2] rfl (fun o ho => ?_)
          simp only [K.sel, List.map_cons, List.map_nil, List.getD_cons_zero, List.getD_cons_succ, List.drop_succ_cons, List.drop_zero, List.cons_append, List.nil_append, List.set_cons_zero, List.set_cons_succ] at ho; subst ho
          refine TL.call (merge_conflict (by omega) (by omega) hA hlog) ⟨rfl, rfl, trivial⟩ rfl ?_
          rintro _ _ H3 ⟨u3, s3, rfl, rfl, hlog3, hle3⟩
          have hL := Le.trans hL hle3
          have hA := rd.mono hle3 hA
          have hb := RdL.mono hle3 hb
          have hlt := RdL.mono hle3 hlt
          have hrt := RdL.mono hle3 hrt
          have hlog := Log.mono hle3 hlog
          refine TL.nil ?_
          refine TQ.in_n ?_
          refine TQ.then_n ?_
          refine TC.seq ?_
          refine TC.region ?_
          refine TL.assign rfl rfl ?_
          refine TL.nil ?_
          refine TQ.then_n ?_
          refine TC.ret ?_
          refine TQ.sel 5 [0, 1] rfl (fun o ho => ?_)
          simp only [K.sel, List.map_cons, List.map_nil, List.getD_cons_zero, List.getD_cons_succ, List.drop_succ_cons, List.drop_zero, List.cons_append, List.nil_append, List.set_cons_zero, List.set_cons_succ] at ho; subst ho
          refine TQ.ret1 0 rfl rfl ?_
          first
            | exact ⟨_, _, by rw [kp_00 (by omega) (by omega)]; exact rd.one_tree hz_g21 hb (Le.refl _), rfl, by rw [kp_00 (by omega) (by omega)]; simpa using hlog, hL⟩
            | exact ⟨_, _, by rw [kp_11 (by omega) (by omega)]; exact rd.one_tree hz_g39 hx (Le.refl _), rfl, by rw [kp_11 (by omega) (by omega)]; exact hlog2, hL⟩
            | exact ⟨_, _, by rw [kp_10 (by omega) (by omega)]; exact rd.one_tree hz_g51 hlt (Le.refl _), rfl, by rw [kp_10 (by omega) (by omega)]; simpa using hlog, hL⟩
            | exact ⟨_, _, by rw [kp_01 (by omega) (by omega)]; exact rd.one_tree hz_g63 hrt (Le.refl _), rfl, by rw [kp_01 (by omega) (by omega)]; simpa using hlog, hL⟩
            | exact ⟨_, _, by rw [kp_c (by omega)]; exact rd.nil _ _, rfl, by rw [kp_c (by omega)]; exact hlog3, hL⟩
            | exact ⟨_, _, by rw [kp_n (by omega)]; exact rd.nil _ _, rfl, by rw [kp_n (by omega)]; simpa using hlog, hL⟩
         ·
          refine TL.pickF rfl rfl rfl rfl ?_
          refine TL.assign rfl rfl ?_
          refine TL.nil ?_
          refine TQ.then_n ?_
          refine TC.cond_f rfl ?_
          refine TC.skip ?_
          refine TQ.in_n ?_
          refine TQ.then_n ?_
          refine TC.seq ?_
          refine TC.region ?_
          refine TL.assign rfl rfl ?_
          refine TL.nil ?_
          refine TQ.then_n ?_
          refine TC.ret ?_
          refine TQ.sel 5 [3, 4] rfl (fun o ho => ?_)
          simp only [K.sel, List.map_cons, List.map_nil, List.getD_cons_zero, List.getD_cons_succ, List.drop_succ_cons, List.drop_zero, List.cons_append, List.nil_append, List.set_cons_zero, List.set_cons_succ] at ho; subst ho
          refine TQ.ret1 0 rfl rfl ?_
          first
            | exact ⟨_, _, by rw [kp_00 (by omega) (by omega)]; exact rd.one_tree hz_g21 hb (Le.refl _), rfl, by rw [kp_00 (by omega) (by omega)]; simpa using hlog, hL⟩
            | exact ⟨_, _, by rw [kp_11 (by omega) (by omega)]; exact rd.one_tree hz_g39 hx (Le.refl _), rfl, by rw [kp_11 (by omega) (by omega)]; exact hlog2, hL⟩
            | exact ⟨_, _, by rw [kp_10 (by omega) (by omega)]; exact rd.one_tree hz_g51 hlt (Le.refl _), rfl, by rw [kp_10 (by omega) (by omega)]; simpa using hlog, hL⟩
            | exact ⟨_, _, by rw [kp_01 (by omega) (by omega)]; exact rd.one_tree hz_g63 hrt (Le.refl _), rfl, by rw [kp_01 (by omega) (by omega)]; simpa using hlog, hL⟩
            | exact ⟨_, _, by rw [kp_c (by omega)]; exact rd.nil _ _, rfl, by rw [kp_c (by omega)]; exact hlog3, hL⟩
            | exact ⟨_, _, by rw [kp_n (by omega)]; exact rd.nil _ _, rfl, by rw [kp_n (by omega)]; simpa using hlog, hL⟩
     ·
      refine TL.move rfl rfl ?_
      refine TL.gno rfl rfl rfl rfl ?_
      refine TL.gno rfl rfl rfl rfl ?_
      refine TL.gno rfl rfl rfl rfl ?_
      refine TL.pickF rfl rfl rfl rfl ?_
      refine TL.assign rfl rfl ?_
      refine TL.nil ?_
      refine TQ.then_n ?_
      refine TC.cond_f rfl ?_
      refine TC.seq ?_
      refine TC.region ?_
      refine TL.fieldAddr rfl rfl ?_
      refine TL.load_own 1 0 rfl rfl rfl rfl rfl ?_
      refine TL.eqlB rfl rfl rfl (fun h34 => ?_) (fun h34 => ?_)
      ·
       refine TL.move rfl rfl ?_
       refine TL.gyes rfl rfl rfl ?_
       refine TL.fieldAddr rfl rfl ?_
       refine TL.gyes rfl rfl rfl ?_
       refine TL.load_own 0 0 rfl rfl rfl rfl rfl ?_
       refine TL.gyes rfl rfl rfl ?_
       refine TL.eqlB rfl rfl rfl (fun h35 => ?_) (fun h35 => ?_)
       ·
        refine TL.pickT rfl rfl rfl rfl ?_
        refine TL.assign rfl rfl ?_
        refine TL.nil ?_
        refine TQ.then_n ?_
        refine TC.cond_t rfl ?_
        refine TC.seq ?_
        refine TC.region ?_
        refine TL.fieldAddr rfl rfl ?_
        refine TL.load_ownA 0 0 [_, _] rfl rfl rfl ⟨rfl, rfl, trivial⟩ rfl rfl ?_
        refine TL.litF (r := [_, _]) [(0, [_, _])] ⟨rfl, ⟨_, rfl, rfl⟩, trivial⟩ rfl rfl rfl rfl ?_; intro g63
        refine TL.assign rfl rfl ?_
        refine TL.nil ?_
        refine TQ.then_n ?_
        refine TC.ret ?_
        refine TQ.in_r ?_
        refine TQ.then_r ?_
        refine TQ.freeze (fun H36 hle hz_g63 => ?_)
        have hL := Le.trans hL hle
        have hA := rd.mono hle hA
        have hb := RdL.mono hle hb
        have hlt := RdL.mono hle hlt
        have hrt := RdL.mono hle hrt
        have hlog := Log.mono hle hlog
        refine TQ.sel 5 [3, 4] rfl (fun o ho => ?_)
        simp only [K.sel, List.map_cons, List.map_nil, List.getD_cons_zero, List.getD_cons_succ, List.drop_succ_cons, List.drop_zero, List.cons_append, List.nil_append, List.set_cons_zero, List.set_cons_succ] at ho; subst ho
        refine TQ.ret1 0 rfl rfl ?_
        first
          | exact ⟨_, _, by rw [kp_00 (by omega) (by omega)]; exact rd.one_tree hz_g21 hb (Le.refl _), rfl, by rw [kp_00 (by omega) (by omega)]; simpa using hlog, hL⟩
          | exact ⟨_, _, by rw [kp_11 (by omega) (by omega)]; exact rd.one_tree hz_g39 hx (Le.refl _), rfl, by rw [kp_11 (by omega) (by omega)]; exact hlog2, hL⟩
          | exact ⟨_, _, by rw [kp_10 (by omega) (by omega)]; exact rd.one_tree hz_g51 hlt (Le.refl _), rfl, by rw [kp_10 (by omega) (by omega)]; simpa using hlog, hL⟩
          | exact ⟨_, _, by rw [kp_01 (by omega) (by omega)]; exact rd.one_tree hz_g63 hrt (Le.refl _), rfl, by rw [kp_01 (by omega) (by omega)]; simpa using hlog, hL⟩
          | exact ⟨_, _, by rw [kp_c (by omega)]; exact rd.nil _ _, rfl, by rw [kp_c (by omega)]; exact hlog3, hL⟩
          | exact ⟨_, _, by rw [kp_n (by omega)]; exact rd.nil _ _, rfl, by rw [kp_n (by omega)]; simpa using hlog, hL⟩
       ·
        refine TL.pickT rfl rfl rfl rfl ?_
        refine TL.assign rfl rfl ?_
        refine TL.nil ?_
        refine TQ.then_n ?_
        refine TC.cond_f rfl ?_
        refine TC.seq ?_
        refine TC.region ?_
        refine TL.fieldAddr rfl rfl ?_
        refine TL.load_own 1 0 rfl rfl rfl rfl rfl ?_
        refine TL.eqlB rfl rfl rfl (fun h37 => ?_) (fun h37 => ?_)
        ·
         refine TL.move rfl rfl ?_
         refine TL.gno rfl rfl rfl rfl ?_
         refine TL.gno rfl rfl rfl rfl ?_
         refine TL.gno rfl rfl rfl rfl ?_
         refine TL.pickT rfl rfl rfl rfl ?_
         refine TL.assign rfl rfl ?_
         refine TL.nil ?_
         refine TQ.then_n ?_
         refine TC.cond_t rfl ?_
         refine TC.region ?_
         refine TL.move rfl rfl ?_
         refine TL.nilCheck rfl rfl ?_
         refine TL.fieldAddr rfl rfl ?_
         refine TL.move rfl rfl ?_
         refine TL.sel 5 [3, 4, 0, 1, 2] rfl (fun o ho => ?_)
         simp only [K.sel, List.map_cons, List.map_nil, List.getD_cons_zero, List.getD_cons_succ, List.drop_succ_cons, List.drop_zero, List.cons_append, List.nil_append, List.set_cons_zero, List.set_cons_succ] at ho; subst ho
         refine TL.call (merge_conflict (by omega) (by omega) hA hlog) ⟨rfl, rfl, trivial⟩ rfl ?_
         rintro _ _ H3 ⟨u3, s3, rfl, rfl, hlog3, hle3⟩
         have hL := Le.trans hL hle3
         have hA := rd.mono hle3 hA
         have hb := RdL.mono hle3 hb
         have hlt := RdL.mono hle3 hlt
         have hrt := RdL.mono hle3 hrt
         have hlog := Log.mono hle3 hlog
         refine TL.nil ?_
         refine TQ.in_n ?_
         refine TQ.then_n ?_
         refine TC.seq ?_
         refine TC.region ?_
         refine TL.assign rfl rfl ?_
         refine TL.nil ?_
         refine TQ.then_n ?_
         refine TC.ret ?_
         refine TQ.sel 5 [0, 1] rfl (fun o ho => ?_)
         simp only [K.sel, List.map_cons, List.map_nil, List.getD_cons_zero, List.getD_cons_succ, List.drop_succ_cons, List.drop_zero, List.cons_append, List.nil_append, List.set_cons_zero, List.set_cons_succ] at ho; subst ho
         refine TQ.ret1 0 rfl rfl ?_
         first
           | exact ⟨_, _, by rw [kp_00 (by omega) (by omega)]; exact rd.one_tree hz_g21 hb (Le.refl _), rfl, by rw [kp_00 (by omega) (by omega)]; simpa using hlog, hL⟩
           | exact ⟨_, _, by rw [kp_11 (by omega) (by omega)]; exact rd.one_tree hz_g39 hx (Le.refl _), rfl, by rw [kp_11 (by omega) (by omega)]; exact hlog2, hL⟩
           | exact ⟨_, _, by rw [kp_10 (by omega) (by omega)]; exact rd.one_tree hz_g51 hlt (Le.refl _), rfl, by rw [kp_10 (by omega) (by omega)]; simpa using hlog, hL⟩
           | exact ⟨_, _, by rw [kp_01 (by omega) (by omega)]; exact rd.one_tree hz_g63 hrt (Le.refl _), rfl, by rw [kp_01 (by omega) (by omega)]; simpa using hlog, hL⟩
           | exact ⟨_, _, by rw [kp_c (by omega)]; exact rd.nil _ _, rfl, by rw [kp_c (by omega)]; exact hlog3, hL⟩
           | exact ⟨_, _, by rw [kp_n (by omega)]; exact rd.nil _ _, rfl, by rw [kp_n (by omega)]; simpa using hlog, hL⟩
        ·
         refine TL.move rfl rfl ?_
         refine TL.gyes rfl rfl rfl ?_
         refine TL.fieldAddr rfl rfl ?_
         refine TL.gyes rfl rfl rfl ?_
         refine TL.load_own 0 0 rfl rfl rfl rfl rfl ?_
         refine TL.gyes rfl rfl rfl ?_
         refine TL.eqlB rfl rfl rfl (fun h38 => ?_) (fun h38 => ?_)
         ·
          refine TL.pickF rfl rfl rfl rfl ?_
          refine TL.assign rfl rfl ?_
          refine TL.nil ?_
          refine TQ.then_n ?_
          refine TC.cond_t rfl ?_
          refine TC.region ?_
          refine TL.move rfl rfl ?_
          refine TL.nilCheck rfl rfl ?_
          refine TL.fieldAddr rfl rfl ?_
          refine TL.move rfl rfl ?_
          refine TL.sel 5 [3, 4, 0, 1, 2] rfl (fun o ho => ?_)
          simp only [K.sel, List.map_cons, List.map_nil, List.getD_cons_zero, List.getD_cons_succ, List.drop_succ_cons, List.drop_zero, List.cons_append, List.nil_append, List.set_cons_zero, List.set_cons_succ] at ho; subst ho
          refine TL.call (merge_conflict (by omega) (by omega) hA hlog) ⟨rfl, rfl, trivial⟩ rfl ?_
          rintro _ _ H3 ⟨u3, s3, rfl, rfl, hlog3, hle3⟩
          have hL := Le.trans hL hle3
          have hA := rd.mono hle3 hA
          have hb := RdL.mono hle3 hb
          have hlt := RdL.mono hle3 hlt
          have hrt := RdL.mono hle3 hrt
          have hlog := Log.mono hle3 hlog
          refine TL.nil ?_
          refine TQ.in_n ?_
          refine TQ.then_n ?_
          refine TC.seq ?_
          refine TC.region ?_
          refine TL.assign rfl rfl ?_
          refine TL.nil ?_
          refine TQ.then_n ?_
          refine TC.ret ?_
          refine TQ.sel 5 [0, 1] rfl (fun o ho => ?_)
          simp only [K.sel, List.map_cons, List.map_nil, List.getD_cons_zero, List.getD_cons_succ, List.drop_succ_cons, List.drop_zero, List.cons_append, List.nil_append, List.set_cons_zero, List.set_cons_succ] at ho; subst ho
          refine TQ.ret1 0 rfl rfl ?_
          first
            | exact ⟨_, _, by rw [kp_00 (by omega) (by omega)]; exact rd.one_tree hz_g21 hb (Le.refl _), rfl, by rw [kp_00 (by omega) (by omega)]; simpa using hlog, hL⟩
            | exact ⟨_, _, by rw [kp_11 (by omega) (by omega)]; exact rd.one_tree hz_g39 hx (Le.refl _), rfl, by rw [kp_11 (by omega) (by omega)]; exact hlog2, hL⟩
            | exact ⟨_, _, by rw [kp_10 (by omega) (by omega)]; exact rd.one_tree hz_g51 hlt (Le.refl _), rfl, by rw [kp_10 (by omega) (by omega)]; simpa using hlog, hL⟩
            | exact ⟨_, _, by rw [kp_01 (by omega) (by omega)]; exact rd.one_tree hz_g63 hrt (Le.refl _), rfl, by rw [kp_01 (by omega) (by omega)]; simpa using hlog, hL⟩
            | exact ⟨_, _, by rw [kp_c (by omega)]; exact rd.nil _ _, rfl, by rw [kp_c (by omega)]; exact hlog3, hL⟩
            | exact ⟨_, _, by rw [kp_n (by omega)]; exact rd.nil _ _, rfl, by rw [kp_n (by omega)]; simpa using hlog, hL⟩
         ·
          refine TL.pickF rfl rfl rfl rfl ?_
          refine TL.assign rfl rfl ?_
          refine TL.nil ?_
          refine TQ.then_n ?_
          refine TC.cond_f rfl ?_
          refine TC.skip ?_
          refine TQ.in_n ?_
          refine TQ.then_n ?_
          refine TC.seq ?_
          refine TC.region ?_
          refine TL.assign rfl rfl ?_
          refine TL.nil ?_
          refine TQ.then_n ?_
          refine TC.ret ?_
          refine TQ.sel 5 [3, 4] rfl (fun o ho => ?_)
          simp only [K.sel, List.map_cons, List.map_nil, List.getD_cons_zero, List.getD_cons_succ, List.drop_succ_cons, List.drop_zero, List.cons_append, List.nil_append, List.set_cons_zero, List.set_cons_succ] at ho; subst ho
          refine TQ.ret1 0 rfl rfl ?_
          first
            | exact ⟨_, _, by rw [kp_00 (by omega) (by omega)]; exact rd.one_tree hz_g21 hb (Le.refl _), rfl, by rw [kp_00 (by omega) (by omega)]; simpa using hlog, hL⟩
            | exact ⟨_, _, by rw [kp_11 (by omega) (by omega)]; exact rd.one_tree hz_g39 hx (Le.refl _), rfl, by rw [kp_11 (by omega) (by omega)]; exact hlog2, hL⟩
            | exact ⟨_, _, by rw [kp_10 (by omega) (by omega)]; exact rd.one_tree hz_g51 hlt (Le.refl _), rfl, by rw [kp_10 (by omega) (by omega)]; simpa using hlog, hL⟩
            | exact ⟨_, _, by rw [kp_01 (by omega) (by omega)]; exact rd.one_tree hz_g63 hrt (Le.refl _), rfl, by rw [kp_01 (by omega) (by omega)]; simpa using hlog, hL⟩
            | exact ⟨_, _, by rw [kp_c (by omega)]; exact rd.nil _ _, rfl, by rw [kp_c (by omega)]; exact hlog3, hL⟩
            | exact ⟨_, _, by rw [kp_n (by omega)]; exact rd.nil _ _, rfl, by rw [kp_n (by omega)]; simpa using hlog, hL⟩
      ·
       refine TL.move rfl rfl ?_
       refine TL.gno rfl rfl rfl rfl ?_
       refine TL.gno rfl rfl rfl rfl ?_
       refine TL.gno rfl rfl rfl rfl ?_
       refine TL.pickF rfl rfl rfl rfl ?_
       refine TL.assign rfl rfl ?_
       refine TL.nil ?_
       refine TQ.then_n ?_
       refine TC.cond_f rfl ?_
       refine TC.seq ?_
       refine TC.region ?_
       refine TL.fieldAddr rfl rfl ?_
       refine TL.load_own 1 0 rfl rfl rfl rfl rfl ?_
       refine TL.eqlB rfl rfl rfl (fun h39 => ?_) (fun h39 => ?_)
       ·
        refine TL.move rfl rfl ?_
        refine TL.gno rfl rfl rfl rfl ?_
        refine TL.gno rfl rfl rfl rfl ?_
        refine TL.gno rfl rfl rfl rfl ?_
        refine TL.pickT rfl rfl rfl rfl ?_
        refine TL.assign rfl rfl ?_
        refine TL.nil ?_
        refine TQ.then_n ?_
        refine TC.cond_t rfl ?_
        refine TC.region ?_
        refine TL.move rfl rfl ?_
        refine TL.nilCheck rfl rfl ?_
        refine TL.fieldAddr rfl rfl ?_
        refine TL.move rfl rfl ?_
        refine TL.sel 5 [3, 4, 0, 1, 2] rfl (fun o ho => ?_)
        simp only [K.sel, List.map_cons, List.map_nil, List.getD_cons_zero, List.getD_cons_succ, List.drop_succ_cons, List.drop_zero, List.cons_append, List.nil_append, List.set_cons_zero, List.set_cons_succ] at ho; subst ho
        refine TL.call (merge_conflict (by omega) (by omega) hA hlog) ⟨rfl, rfl, trivial⟩ rfl ?_
        rintro _ _ H3 ⟨u3, s3, rfl, rfl, hlog3, hle3⟩
        have hL := Le.trans hL hle3
        have hA := rd.mono hle3 hA
        have hb := RdL.mono hle3 hb
        have hlt := RdL.mono hle3 hlt
        have hrt := RdL.mono hle3 hrt
        have hlog := Log.mono hle3 hlog
        refine TL.nil ?_
        refine TQ.in_n ?_
        refine TQ.then_n ?_
        refine TC.seq ?_
        refine TC.region ?_
        refine TL.assign rfl rfl ?_
        refine TL.nil ?_
        refine TQ.then_n ?_
        refine TC.ret ?_
        refine TQ.sel 5 [0, 1] rfl (fun o ho => ?_)
        simp only [K.sel, List.map_cons, List.map_nil, List.getD_cons_zero, List.getD_cons_succ, List.drop_succ_cons, List.drop_zero, List.cons_append, List.nil_append, List.set_cons_zero, List.set_cons_succ] at ho; subst ho
        refine TQ.ret1 0 rfl rfl ?_
        first
          | exact ⟨_, _, by rw [kp_00 (by omega) (by omega)]; exact rd.one_tree hz_g21 hb (Le.refl _), rfl, by rw [kp_00 (by omega) (by omega)]; simpa using hlog, hL⟩
          | exact ⟨_, _, by rw [kp_11 (by omega) (by omega)]; exact rd.one_tree hz_g39 hx (Le.refl _), rfl, by rw [kp_11 (by omega) (by omega)]; exact hlog2, hL⟩
          | exact ⟨_, _, by rw [kp_10 (by omega) (by omega)]; exact rd.one_tree hz_g51 hlt (Le.refl _), rfl, by rw [kp_10 (by omega) (by omega)]; simpa using hlog, hL⟩
          | exact ⟨_, _, by rw [kp_01 (by omega) (by omega)]; exact rd.one_tree hz_g63 hrt (Le.refl _), rfl, by rw [kp_01 (by omega) (by omega)]; simpa using hlog, hL⟩
          | exact ⟨_, _, by rw [kp_c (by omega)]; exact rd.nil _ _, rfl, by rw [kp_c (by omega)]; exact hlog3, hL⟩
          | exact ⟨_, _, by rw [kp_n (by omega)]; exact rd.nil _ _, rfl, by rw [kp_n (by omega)]; simpa using hlog, hL⟩
       ·
        refine TL.move rfl rfl ?_
        refine TL.gyes rfl rfl rfl ?_
        refine TL.fieldAddr rfl rfl ?_
        refine TL.gyes rfl rfl rfl ?_
        refine TL.load_own 0 0 rfl rfl rfl rfl rfl ?_
        refine TL.gyes rfl rfl rfl ?_
        refine TL.eqlB rfl rfl rfl (fun h40 => ?_) (fun h40 => ?_)
        ·
         refine TL.pickF rfl rfl rfl rfl ?_
         refine TL.assign rfl rfl ?_
         refine TL.nil ?_
         refine TQ.then_n ?_
         refine TC.cond_t rfl ?_
         refine TC.region ?_
         refine TL.move rfl rfl ?_
         refine TL.nilCheck rfl rfl ?_
         refine TL.fieldAddr rfl rfl ?_
         refine TL.move rfl rfl ?_
         refine TL.sel 5 [3, 4, 0, 1, 2] rfl (fun o ho => ?_)
         simp only [K.sel, List.map_cons, List.map_nil, List.getD_cons_zero, List.getD_cons_succ, List.drop_succ_cons, List.drop_zero, List.cons_append, List.nil_append, List.set_cons_zero, List.set_cons_succ] at ho; subst ho
         refine TL.call (merge_conflict (by omega) (by omega) hA hlog) ⟨rfl, rfl, trivial⟩ rfl ?_
         rintro _ _ H3 ⟨u3, s3, rfl, rfl, hlog3, hle3⟩
         have hL := Le.trans hL hle3
         have hA := rd.mono hle3 hA
         have hb := RdL.mono hle3 hb
         have hlt := RdL.mono hle3 hlt
         have hrt := RdL.mono hle3 hrt
         have hlog := Log.mono hle3 hlog
         refine TL.nil ?_
         refine TQ.in_n ?_
         refine TQ.then_n ?_
         refine TC.seq ?_
         refine TC.region ?_
         refine TL.assign rfl rfl ?_
         refine TL.nil ?_
         refine TQ.then_n ?_
         refine TC.ret ?_
         refine TQ.sel 5 [0, 1] rfl (fun o ho => ?_)
         simp only [K.sel, List.map_cons, List.map_nil, List.getD_cons_zero, List.getD_cons_succ, List.drop_succ_cons, List.drop_zero, List.cons_append, List.nil_append, List.set_cons_zero, List.set_cons_succ] at ho; subst ho
         refine TQ.ret1 0 rfl rfl ?_
         first
           | exact ⟨_, _, by rw [kp_00 (by omega) (by omega)]; exact rd.one_tree hz_g21 hb (Le.refl _), rfl, by rw [kp_00 (by omega) (by omega)]; simpa using hlog, hL⟩
           | exact ⟨_, _, by rw [kp_11 (by omega) (by omega)]; exact rd.one_tree hz_g39 hx (Le.refl _), rfl, by rw [kp_11 (by omega) (by omega)]; exact hlog2, hL⟩
           | exact ⟨_, _, by rw [kp_10 (by omega) (by omega)]; exact rd.one_tree hz_g51 hlt (Le.refl _), rfl, by rw [kp_10 (by omega) (by omega)]; simpa using hlog, hL⟩
           | exact ⟨_, _, by rw [kp_01 (by omega) (by omega)]; exact rd.one_tree hz_g63 hrt (Le.refl _), rfl, by rw [kp_01 (by omega) (by omega)]; simpa using hlog, hL⟩
           | exact ⟨_, _, by rw [kp_c (by omega)]; exact rd.nil _ _, rfl, by rw [kp_c (by omega)]; exact hlog3, hL⟩
           | exact ⟨_, _, by rw [kp_n (by omega)]; exact rd.nil _ _, rfl, by rw [kp_n (by omega)]; simpa using hlog, hL⟩
        ·
         refine TL.pickF rfl rfl rfl rfl ?_
         refine TL.assign rfl rfl ?_
         refine TL.nil ?_
         refine TQ.then_n ?_
         refine TC.cond_f rfl ?_
         refine TC.skip ?_
         refine TQ.in_n ?_
         refine TQ.then_n ?_
         refine TC.seq ?_
         refine TC.region ?_
         refine TL.assign rfl rfl ?_
         refine TL.nil ?_
         refine TQ.then_n ?_
         refine TC.ret ?_
         refine TQ.sel 5 [3, 4] rfl (fun o ho => ?_)
         simp only [K.sel, List.map_cons, List.map_nil, List.getD_cons_zero, List.getD_cons_succ, List.drop_succ_cons, List.drop_zero, List.cons_append, List.nil_append, List.set_cons_zero, List.set_cons_succ] at ho; subst ho
         refine TQ.ret1 0 rfl rfl ?_
         first
           | exact ⟨_, _, by rw [kp_00 (by omega) (by omega)]; exact rd.one_tree hz_g21 hb (Le.refl _), rfl, by rw [kp_00 (by omega) (by omega)]; simpa using hlog, hL⟩
           | exact ⟨_, _, by rw [kp_11 (by omega) (by omega)]; exact rd.one_tree hz_g39 hx (Le.refl _), rfl, by rw [kp_11 (by omega) (by omega)]; exact hlog2, hL⟩
           | exact ⟨_, _, by rw [kp_10 (by omega) (by omega)]; exact rd.one_tree hz_g51 hlt (Le.refl _), rfl, by rw [kp_10 (by omega) (by omega)]; simpa using hlog, hL⟩
           | exact ⟨_, _, by rw [kp_01 (by omega) (by omega)]; exact rd.one_tree hz_g63 hrt (Le.refl _), rfl, by rw [kp_01 (by omega) (by omega)]; simpa using hlog, hL⟩
           | exact ⟨_, _, by rw [kp_c (by omega)]; exact rd.nil _ _, rfl, by rw [kp_c (by omega)]; exact hlog3, hL⟩
           | exact ⟨_, _, by rw [kp_n (by omega)]; exact rd.nil _ _, rfl, by rw [kp_n (by omega)]; simpa using hlog, hL⟩
  ·
   refine TL.move rfl rfl ?_
   refine TL.gno rfl rfl rfl rfl ?_
   refine TL.gno rfl rfl rfl rfl ?_
   refine TL.gno rfl rfl rfl rfl ?_
   refine TL.pickF rfl rfl rfl rfl ?_
   refine TL.assign rfl rfl ?_
   refine TL.nil ?_
   refine TQ.then_n ?_
   refine TC.cond_f rfl ?_
   refine TC.seq ?_
   refine TC.region ?_
   refine TL.fieldAddr rfl rfl ?_
   refine TL.load_own 1 0 rfl rfl rfl rfl rfl ?_
   refine TL.eqlB rfl rfl rfl (fun h41 => ?_) (fun h41 => ?_)
   ·
    refine TL.move rfl rfl ?_
    refine TL.gyes rfl rfl rfl ?_
    refine TL.fieldAddr rfl rfl ?_
    refine TL.gyes rfl rfl rfl ?_
    refine TL.load_own 0 0 rfl rfl rfl rfl rfl ?_
    refine TL.gyes rfl rfl rfl ?_
    refine TL.eqlB rfl rfl rfl (fun h42 => ?_) (fun h42 => ?_)
    ·
     refine TL.pickT rfl rfl rfl rfl ?_
     refine TL.assign rfl rfl ?_
     refine TL.nil ?_
     refine TQ.then_n ?_
     refine TC.cond_t rfl ?_
     refine TC.seq ?_
     refine TC.region ?_
     refine TL.move rfl rfl ?_
     refine TL.load_ownA 2 0 [_, _] rfl rfl rfl ⟨rfl, rfl, trivial⟩ rfl rfl ?_
     refine TL.fieldAddr rfl rfl ?_
     refine TL.load_ownA 1 0 [_, _] rfl rfl rfl ⟨rfl, rfl, trivial⟩ rfl rfl ?_
     refine TL.fieldAddr rfl rfl ?_
     refine TL.load_ownA 0 0 [_, _] rfl rfl rfl ⟨rfl, rfl, trivial⟩ rfl rfl ?_
     refine TL.move rfl rfl ?_
     refine TL.sel 5 [3, 4, 0, 1, 2] rfl (fun o ho => ?_)
     simp only [K.sel, List.map_cons, List.map_nil, List.getD_cons_zero, List.getD_cons_succ, List.drop_succ_cons, List.drop_zero, List.cons_append, List.nil_append, List.set_cons_zero, List.set_cons_succ] at ho; subst ho
     refine TL.call (hN hls hrs hp hps hb hlt hrt hA hlog) ⟨rfl, rfl, rfl, rfl, rfl, trivial⟩ rfl ?_
     rintro _ _ H2 ⟨c0, c1, u2, s2, rfl, hx, rfl, hlog2, hle2⟩
     have hL := Le.trans hL hle2
     have hA := rd.mono hle2 hA
     have hb := RdL.mono hle2 hb
     have hlt := RdL.mono hle2 hlt
     have hrt := RdL.mono hle2 hrt
     have hlog := Log.mono hle2 hlog
     refine TL.litF (r := [_, _]) [(0, [_, _])] ⟨rfl, ⟨_, rfl, rfl⟩, trivial⟩ rfl rfl rfl rfl ?_; intro g39
     refine TL.assign rfl rfl ?_
     refine TL.nil ?_
     refine TQ.then_n ?_
     refine TC.ret ?_
     refine TQ.in_r ?_
     refine TQ.then_r ?_
     refine TQ.freeze (fun H43 hle hz_g39 => ?_)
     have hL := Le.trans hL hle
     have hA := rd.mono hle hA
     have hb := RdL.mono hle hb
     have hlt := RdL.mono hle hlt
     have hrt := RdL.mono hle hrt
     have hlog := Log.mono hle hlog
     have hx := RdL.mono hle hx
     have hlog2 := Log.mono hle hlog2
     refine TQ.sel 5 [0, 1] rfl (fun o ho => ?_)
     simp only [K.sel, List.map_cons, List.map_nil, List.getD_cons_zero, List.getD_cons_succ, List.drop_succ_cons, List.drop_zero, List.cons_append, List.nil_append, List.set_cons_zero, List.set_cons_succ] at ho; subst ho
     refine TQ.ret1 0 rfl rfl ?_
     first
       | exact ⟨_, _, by rw [kp_00 (by omega) (by omega)]; exact rd.one_tree hz_g21 hb (Le.refl _), rfl, by rw [kp_00 (by omega) (by omega)]; simpa using hlog, hL⟩
       | exact ⟨_, _, by rw [kp_11 (by omega) (by omega)]; exact rd.one_tree hz_g39 hx (Le.refl _), rfl, by rw [kp_11 (by omega) (by omega)]; exact hlog2, hL⟩
       | exact ⟨_, _, by rw [kp_10 (by omega) (by omega)]; exact rd.one_tree hz_g51 hlt (Le.refl _), rfl, by rw [kp_10 (by omega) (by omega)]; simpa using hlog, hL⟩
       | exact ⟨_, _, by rw [kp_01 (by omega) (by omega)]; exact rd.one_tree hz_g63 hrt (Le.refl _), rfl, by rw [kp_01 (by omega) (by omega)]; simpa using hlog, hL⟩
       | exact ⟨_, _, by rw [kp_c (by omega)]; exact rd.nil _ _, rfl, by rw [kp_c (by omega)]; exact hlog3, hL⟩
       | exact ⟨_, _, by rw [kp_n (by omega)]; exact rd.nil _ _, rfl, by rw [kp_n (by omega)]; simpa using hlog, hL⟩
    ·
     refine TL.pickT rfl rfl rfl rfl ?_
     refine TL.assign rfl rfl ?_
     refine TL.nil ?_
     refine TQ.then_n ?_
     refine TC.cond_f rfl ?_
     refine TC.seq ?_
     refine TC.region ?_
     refine TL.fieldAddr rfl rfl ?_
     refine TL.load_own 1 0 rfl rfl rfl rfl rfl ?_
     refine TL.eqlB rfl rfl rfl (fun h44 => ?_) (fun h44 => ?_)
     ·
      refine TL.move rfl rfl ?_
      refine TL.gyes rfl rfl rfl ?_
      refine TL.fieldAddr rfl rfl ?_
      refine TL.gyes rfl rfl rfl ?_
      refine TL.load_own 0 0 rfl rfl rfl rfl rfl ?_
      refine TL.gyes rfl rfl rfl ?_
      refine TL.eqlB rfl rfl rfl (fun h45 => ?_) (fun h45 => ?_)
      ·
       refine TL.pickT rfl rfl rfl rfl ?_
       refine TL.assign rfl rfl ?_
       refine TL.nil ?_
       refine TQ.then_n ?_
       refine TC.cond_t rfl ?_
       refine TC.seq ?_
       refine TC.region ?_
       refine TL.fieldAddr rfl rfl ?_
       refine TL.load_ownA 1 0 [_, _] rfl rfl rfl ⟨rfl, rfl, trivial⟩ rfl rfl ?_
       refine TL.litF (r := [_, _]) [(0, [_, _])] ⟨rfl, ⟨_, rfl, rfl⟩, trivial⟩ rfl rfl rfl rfl ?_; intro g51
       refine TL.assign rfl rfl ?_
       refine TL.nil ?_
       refine TQ.then_n ?_
       refine TC.ret ?_
       refine TQ.in_r ?_
       refine TQ.then_r ?_
       refine TQ.freeze (fun H46 hle hz_g51 => ?_)
       have hL := Le.trans hL hle
       have hA := rd.mono hle hA
       have hb := RdL.mono hle hb
       have hlt := RdL.mono hle hlt
       have hrt := RdL.mono hle hrt
       have hlog := Log.mono hle hlog
       refine TQ.sel 5 [3, 4] rfl (fun o ho => ?_)
       simp only [K.sel, List.map_cons, List.map_nil, List.getD_cons_zero, List.getD_cons_succ, List.drop_succ_cons, List.drop_zero, List.cons_append, List.nil_append, List.set_cons_zero, List.set_cons_succ] at ho; subst ho
       refine TQ.ret1 0 rfl rfl ?_
       first
         | exact ⟨_, _, by rw [kp_00 (by omega) (by omega)]; exact rd.one_tree hz_g21 hb (Le.refl _), rfl, by rw [kp_00 (by omega) (by omega)]; simpa using hlog, hL⟩
         | exact ⟨_, _, by rw [kp_11 (by omega) (by omega)]; exact rd.one_tree hz_g39 hx (Le.refl _), rfl, by rw [kp_11 (by omega) (by omega)]; exact hlog2, hL⟩
         | exact ⟨_, _, by rw [kp_10 (by omega) (by omega)]; exact rd.one_tree hz_g51 hlt (Le.refl _), rfl, by rw [kp_10 (by omega) (by omega)]; simpa using hlog, hL⟩
         | exact ⟨_, _, by rw [kp_01 (by omega) (by omega)]; exact rd.one_tree hz_g63 hrt (Le.refl _), rfl, by rw [kp_01 (by omega) (by omega)]; simpa using hlog, hL⟩
         | exact ⟨_, _, by rw [kp_c (by omega)]; exact rd.nil _ _, rfl, by rw [kp_c (by omega)]; exact hlog3, hL⟩
         | exact ⟨_, _, by rw [kp_n (by omega)]; exact rd.nil _ _, rfl, by rw [kp_n (by omega)]; simpa using hlog, hL⟩
      ·
       refine TL.pickT rfl rfl rfl rfl ?_
       refine TL.assign rfl rfl ?_
       refine TL.nil ?_
       refine TQ.then_n ?_
       refine TC.cond_f rfl ?_
       refine TC.seq ?_
       refine TC.region ?_
       refine TL.fieldAddr rfl rfl ?_
       refine TL.load_own 1 0 rfl rfl rfl rfl rfl ?_
       refine TL.eqlB rfl rfl rfl (fun h47 => ?_) (fun h47 => ?_)
       ·
        refine TL.move rfl rfl ?_
        refine TL.gyes rfl rfl rfl ?_
        refine TL.fieldAddr rfl rfl ?_
        refine TL.gyes rfl rfl rfl ?_
        refine TL.load_own 0 0 rfl rfl rfl rfl rfl ?_
        refine TL.gyes rfl rfl rfl ?_
        refine TL.eqlB rfl rfl rfl (fun h48 => ?_) (fun h48 => ?_)
        ·
         refine TL.pickT rfl rfl rfl rfl ?_
         refine TL.assign rfl rfl ?_
         refine TL.nil ?_
         refine TQ.then_n ?_
         refine TC.cond_t rfl ?_
         refine TC.seq ?_
         refine TC.region ?_
         refine TL.fieldAddr rfl rfl ?_
         refine TL.load_ownA 0 0 [_, _] rfl rfl rfl ⟨rfl, rfl, trivial⟩ rfl rfl ?_
         refine TL.litF (r := [_, _]) [(0, [_, _])] ⟨rfl, ⟨_, rfl, rfl⟩, trivial⟩ rfl rfl rfl rfl ?_; intro g63
         refine TL.assign rfl rfl ?_
         refine TL.nil ?_
         refine TQ.then_n ?_
         refine TC.ret ?_
         refine TQ.in_r ?_
         refine TQ.then_r ?_
         refine TQ.freeze (fun H49 hle hz_g63 => ?_)
         have hL := Le.trans hL hle
         have hA := rd.mono hle hA
         have hb := RdL.mono hle hb
         have hlt := RdL.mono hle hlt
         have hrt := RdL.mono hle hrt
         have hlog := Log.mono hle hlog
         refine TQ.sel 5 [3, 4] rfl (fun o ho => ?_)
         simp only [K.sel, List.map_cons, List.map_nil, List.getD_cons_zero, List.getD_cons_succ, List.drop_succ_cons, List.drop_zero, List.cons_append, List.nil_append, List.set_cons_zero, List.set_cons_succ] at ho; subst ho
         refine TQ.ret1 0 rfl rfl ?_
         first
           | exact ⟨_, _, by rw [kp_00 (by omega) (by omega)]; exact rd.one_tree hz_g21 hb (Le.refl _), rfl, by rw [kp_00 (by omega) (by omega)]; simpa using hlog, hL⟩
           | exact ⟨_, _, by rw [kp_11 (by omega) (by omega)]; exact rd.one_tree hz_g39 hx (Le.refl _), rfl, by rw [kp_11 (by omega) (by omega)]; exact hlog2, hL⟩
           | exact ⟨_, _, by rw [kp_10 (by omega) (by omega)]; exact rd.one_tree hz_g51 hlt (Le.refl _), rfl, by rw [kp_10 (by omega) (by omega)]; simpa using hlog, hL⟩
           | exact ⟨_, _, by rw [kp_01 (by omega) (by omega)]; exact rd.one_tree hz_g63 hrt (Le.refl _), rfl, by rw [kp_01 (by omega) (by omega)]; simpa using hlog, hL⟩
           | exact ⟨_, _, by rw [kp_c (by omega)]; exact rd.nil _ _, rfl, by rw [kp_c (by omega)]; exact hlog3, hL⟩
           | exact ⟨_, _, by rw [kp_n (by omega)]; exact rd.nil _ _, rfl, by rw [kp_n (by omega)]; simpa using hlog, hL⟩
        ·
         refine TL.pickT rfl rfl rfl rfl ?_
         refine TL.assign rfl rfl ?_
         refine TL.nil ?_
         refine TQ.then_n ?_
         refine TC.cond_f rfl ?_
         refine TC.seq ?_
         refine TC.region ?_
         refine TL.fieldAddr rfl rfl ?_
         refine TL.load_own 1 0 rfl rfl rfl rfl rfl ?_
         refine TL.eqlB rfl rfl rfl (fun h50 => ?_) (fun h50 => ?_)
         ·
          refine TL.move rfl rfl ?_
          refine TL.gno rfl rfl rfl rfl ?_
          refine TL.gno rfl rfl rfl rfl ?_
          refine TL.gno rfl rfl rfl rfl ?_
          refine TL.pickT rfl rfl rfl rfl ?_
          refine TL.assign rfl rfl ?_
          refine TL.nil ?_
          refine TQ.then_n ?_
          refine TC.cond_t rfl ?_
          refine TC.region ?_
          refine TL.move rfl rfl ?_
          refine TL.nilCheck rfl rfl ?_
          refine TL.fieldAddr rfl rfl ?_
          refine TL.move rfl rfl ?_
          refine TL.sel 5 [3, 4, 0, 1, 2] rfl (fun o ho => ?_)
          simp only [K.sel, List.map_cons, List.map_nil, List.getD_cons_zero, List.getD_cons_succ, List.drop_succ_cons, List.drop_zero, List.cons_append, List.nil_append, List.set_cons_zero, List.set_cons_succ] at ho; subst ho
          refine TL.call (merge_conflict (by omega) (by omega) hA hlog) ⟨rfl, rfl, trivial⟩ rfl ?_
          rintro _ _ H3 ⟨u3, s3, rfl, rfl, hlog3, hle3⟩
          have hL := Le.trans hL hle3
          have hA := rd.mono hle3 hA
          have hb := RdL.mono hle3 hb
          have hlt := RdL.mono hle3 hlt
          have hrt := RdL.mono hle3 hrt
          have hlog := Log.mono hle3 hlog
          refine TL.nil ?_
          refine TQ.in_n ?_
          refine TQ.then_n ?_
          refine TC.seq ?_
          refine TC.region ?_
          refine TL.assign rfl rfl ?_
          refine TL.nil ?_
          refine TQ.then_n ?_
          refine TC.ret ?_
          refine TQ.sel 5 [0, 1] rfl (fun o ho => ?_)
          simp only [K.sel, List.map_cons, List.map_nil, List.getD_cons_zero, List.getD_cons_succ, List.drop_succ_cons, List.drop_zero, List.cons_append, List.nil_append, List.set_cons_zero, List.set_cons_succ] at ho; subst ho
          refine TQ.ret1 0 rfl rfl ?_
          first
            | exact ⟨_, _, by rw [kp_00 (by omega) (by omega)]; exact rd.one_tree hz_g21 hb (Le.refl _), rfl, by rw [kp_00 (by omega) (by omega)]; simpa using hlog, hL⟩
            | exact ⟨_, _, by rw [kp_11 (by omega) (by omega)]; exact rd.one_tree hz_g39 hx (Le.refl _), rfl, by rw [kp_11 (by omega) (by omega)]; exact hlog2, hL⟩
            | exact ⟨_, _, by rw [kp_10 (by omega) (by omega)]; exact rd.one_tree hz_g51 hlt (Le.refl _), rfl, by rw [kp_10 (by omega) (by omega)]; simpa using hlog, hL⟩
            | exact ⟨_, _, by rw [kp_01 (by omega) (by omega)]; exact rd.one_tree hz_g63 hrt (Le.refl _), rfl, by rw [kp_01 (by omega) (by omega)]; simpa using hlog, hL⟩
            | exact ⟨_, _, by rw [kp_c (by omega)]; exact rd.nil _ _, rfl, by rw [kp_c (by omega)]; exact hlog3, hL⟩
            | exact ⟨_, _, by rw [kp_n (by omega)]; exact rd.nil _ _, rfl, by rw [kp_n (by omega)]; simpa using hlog, hL⟩
         ·
          refine TL.move rfl rfl ?_
          refine TL.gyes rfl rfl rfl ?_
          refine TL.fieldAddr rfl rfl ?_
          refine TL.gyes rfl rfl rfl ?_
          refine TL.load_own 0 0 rfl rfl rfl rfl rfl ?_
          refine TL.gyes rfl rfl rfl ?_
          refine TL.eqlB rfl rfl rfl (fun h51 => ?_) (fun h51 => ?_)
          ·
           refine TL.pickF rfl rfl rfl rfl ?_
           refine TL.assign rfl rfl ?_
           refine TL.nil ?_
           refine TQ.then_n ?_
           refine TC.cond_t rfl ?_
           refine TC.region ?_
           refine TL.move rfl rfl ?_
           refine TL.nilCheck rfl rfl ?_
           refine TL.fieldAddr rfl rfl ?_
           refine TL.move rfl rfl ?_
           refine TL.sel 5 [3, 4, 0, 1, 2] rfl (fun o ho => ?_)
           simp only [K.sel, List.map_cons, List.map_nil, List.getD_cons_zero, List.getD_cons_succ, List.drop_succ_cons, List.drop_zero, List.cons_append, List.nil_append, List.set_cons_zero, List.set_cons_succ] at ho; subst ho
           refine TL.call (merge_conflict (by omega) (by omega) hA hlog) ⟨rfl, rfl, trivial⟩ rfl ?_
           rintro _ _ H3 ⟨u3, s3, rfl, rfl, hlog3, hle3⟩
           have hL := Le.trans hL hle3
           have hA := rd.mono hle3 hA
           have hb := RdL.mono hle3 hb
           have hlt := RdL.mono hle3 hlt
           have hrt := RdL.mono hle3 hrt
           have hlog := Log.mono hle3 hlog
           refine TL.nil ?_
           refine TQ.in_n ?_
           refine TQ.then_n ?_
           refine TC.seq ?_
           refine TC.region ?_
           refine TL.assign rfl rfl ?_
           refine TL.nil ?_
           refine TQ.then_n ?_
           refine TC.ret ?_
           refine TQ.sel 5 [0, 1] rfl (fun o ho => ?_)
           simp only [K.sel, List.map_cons, List.map_nil, List.getD_cons_zero, List.getD_cons_succ, List.drop_succ_cons, List.drop_zero, List.cons_append, List.nil_append, List.set_cons_zero, List.set_cons_succ] at ho; subst ho
           refine TQ.ret1 0 rfl rfl ?_
           first
             | exact ⟨_, _, by rw [kp_00 (by omega) (by omega)]; exact rd.one_tree hz_g21 hb (Le.refl _), rfl, by rw [kp_00 (by omega) (by omega)]; simpa using hlog, hL⟩
             | exact ⟨_, _, by rw [kp_11 (by omega) (by omega)]; exact rd.one_tree hz_g39 hx (Le.refl _), rfl, by rw [kp_11 (by omega) (by omega)]; exact hlog2, hL⟩
             | exact ⟨_, _, by rw [kp_10 (by omega) (by omega)]; exact rd.one_tree hz_g51 hlt (Le.refl _), rfl, by rw [kp_10 (by omega) (by omega)]; simpa using hlog, hL⟩
             | exact ⟨_, _, by rw [kp_01 (by omega) (by omega)]; exact rd.one_tree hz_g63 hrt (Le.refl _), rfl, by rw [kp_01 (by omega) (by omega)]; simpa using hlog, hL⟩
             | exact ⟨_, _, by rw [kp_c (by omega)]; exact rd.nil _ _, rfl, by rw [kp_c (by omega)]; exact hlog3, hL⟩
             | exact ⟨_, _, by rw [kp_n (by omega)]; exact rd.nil _ _, rfl, by rw [kp_n (by omega)]; simpa using hlog, hL⟩
          ·
           refine TL.pickF rfl rfl rfl rfl ?_
           refine TL.assign rfl rfl ?_
           refine TL.nil ?_
           refine TQ.then_n ?_
           refine TC.cond_f rfl ?_
           refine TC.skip ?_
           refine TQ.in_n ?_
           refine TQ.then_n ?_
           refine TC.seq ?_
           refine TC.region ?_
           refine TL.assign rfl rfl ?_
           refine TL.nil ?_
           refine TQ.then_n ?_
           refine TC.ret ?_
           refine TQ.sel 5 [3, 4] rfl (fun o ho => ?_)
           simp only [K.sel, List.map_cons, List.map_nil, List.getD_cons_zero, List.getD_cons_succ, List.drop_succ_cons, List.drop_zero, List.cons_append, List.nil_append, List.set_cons_zero, List.set_cons_succ] at ho; subst ho
           refine TQ.ret1 0 rfl rfl ?_
           first
             | exact ⟨_, _, by rw [kp_00 (by omega) (by omega)]; exact rd.one_tree hz_g21 hb (Le.refl _), rfl, by rw [kp_00 (by omega) (by omega)]; simpa using hlog, hL⟩
             | exact ⟨_, _, by rw [kp_11 (by omega) (by omega)]; exact rd.one_tree hz_g39 hx (Le.refl _), rfl, by rw [kp_11 (by omega) (by omega)]; exact hlog2, hL⟩
             | exact ⟨_, _, by rw [kp_10 (by omega) (by omega)]; exact rd.one_tree hz_g51 hlt (Le.refl _), rfl, by rw [kp_10 (by omega) (by omega)]; simpa using hlog, hL⟩
             | exact ⟨_, _, by rw [kp_01 (by omega) (by omega)]; exact rd.one_tree hz_g63 hrt (Le.refl _), rfl, by rw [kp_01 (by omega) (by omega)]; simpa using hlog, hL⟩
             | exact ⟨_, _, by rw [kp_c (by omega)]; exact rd.nil _ _, rfl, by rw [kp_c (by omega)]; exact hlog3, hL⟩
             | exact ⟨_, _, by rw [kp_n (by omega)]; exact rd.nil _ _, rfl, by rw [kp_n (by omega)]; simpa using hlog, hL⟩
       ·
        refine TL.move rfl rfl ?_
        refine TL.gno rfl rfl rfl rfl ?_
        refine TL.gno rfl rfl rfl rfl ?_
        refine TL.gno rfl rfl rfl rfl ?_
        refine TL.pickF rfl rfl rfl rfl ?_
        refine TL.assign rfl rfl ?_
        refine TL.nil ?_
        refine TQ.then_n ?_
        refine TC.cond_f rfl ?_
        refine TC.seq ?_
        refine TC.region ?_
        refine TL.fieldAddr rfl rfl ?_
        refine TL.load_own 1 0 rfl rfl rfl rfl rfl ?_
        refine TL.eqlB rfl rfl rfl (fun h52 => ?_) (fun h52 => ?_)
        ·
         refine TL.move rfl rfl ?_
         refine TL.gno rfl rfl rfl rfl ?_
         refine TL.gno rfl rfl rfl rfl ?_
         refine TL.gno rfl rfl rfl rfl ?_
         refine TL.pickT rfl rfl rfl rfl ?_
         refine TL.assign rfl rfl ?_
         refine TL.nil ?_
         refine TQ.then_n ?_
         refine TC.cond_t rfl ?_
         refine TC.region ?_
         refine TL.move rfl rfl ?_
         refine TL.nilCheck rfl rfl ?_
         refine TL.fieldAddr rfl rfl ?_
         refine TL.move rfl rfl ?_
         refine TL.sel 5 [3, 4, 0, 1, 2] rfl (fun o ho => ?_)
         simp only [K.sel, List.map_cons, List.map_nil, List.getD_cons_zero, List.getD_cons_succ, List.drop_succ_cons, List.drop_zero, List.cons_append, List.nil_append, List.set_cons_zero, List.set_cons_succ] at ho; subst ho
         refine TL.call (merge_conflict (by omega) (by omega) hA hlog) ⟨rfl, rfl, trivial⟩ rfl ?_
         rintro _ _ H3 ⟨u3, s3, rfl, rfl, hlog3, hle3⟩
         have hL := Le.trans hL hle3
         have hA := rd.mono hle3 hA
         have hb := RdL.mono hle3 hb
         have hlt := RdL.mono hle3 hlt
         have hrt := RdL.mono hle3 hrt
         have hlog := Log.mono hle3 hlog
         refine TL.nil ?_
         refine TQ.in_n ?_
         refine TQ.then_n ?_
         refine TC.seq ?_
         refine TC.region ?_
         refine TL.assign rfl rfl ?_
         refine TL.nil ?_
         refine TQ.then_n ?_
         refine TC.ret ?_
         refine TQ.sel 5 [0, 1] rfl (fun o ho => ?_)
         simp only [K.sel, List.map_cons, List.map_nil, List.getD_cons_zero, List.getD_cons_succ, List.drop_succ_cons, List.drop_zero, List.cons_append, List.nil_append, List.set_cons_zero, List.set_cons_succ] at ho; subst ho
         refine TQ.ret1 0 rfl rfl ?_
         first
           | exact ⟨_, _, by rw [kp_00 (by omega) (by omega)]; exact rd.one_tree hz_g21 hb (Le.refl _), rfl, by rw [kp_00 (by omega) (by omega)]; simpa using hlog, hL⟩
           | exact ⟨_, _, by rw [kp_11 (by omega) (by omega)]; exact rd.one_tree hz_g39 hx (Le.refl _), rfl, by rw [kp_11 (by omega) (by omega)]; exact hlog2, hL⟩
           | exact ⟨_, _, by rw [kp_10 (by omega) (by omega)]; exact rd.one_tree hz_g51 hlt (Le.refl _), rfl, by rw [kp_10 (by omega) (by omega)]; simpa using hlog, hL⟩
           | exact ⟨_, _, by rw [kp_01 (by omega) (by omega)]; exact rd.one_tree hz_g63 hrt (Le.refl _), rfl, by rw [kp_01 (by omega) (by omega)]; simpa using hlog, hL⟩
           | exact ⟨_, _, by rw [kp_c (by omega)]; exact rd.nil _ _, rfl, by rw [kp_c (by omega)]; exact hlog3, hL⟩
           | exact ⟨_, _, by rw [kp_n (by omega)]; exact rd.nil _ _, rfl, by rw [kp_n (by omega)]; simpa using hlog, hL⟩
        ·
         refine TL.move rfl rfl ?_
         refine TL.gyes rfl rfl rfl ?_
         refine TL.fieldAddr rfl rfl ?_
         refine TL.gyes rfl rfl rfl ?_
         refine TL.load_own 0 0 rfl rfl rfl rfl rfl ?_
         refine TL.gyes rfl rfl rfl ?_
         refine TL.eqlB rfl rfl rfl (fun h53 => ?_) (fun h53 => ?_)
         ·
          refine TL.pickF rfl rfl rfl rfl ?_
          refine TL.assign rfl rfl ?_
          refine TL.nil ?_
          refine TQ.then_n ?_
          refine TC.cond_t rfl ?_
          refine TC.region ?_
          refine TL.move rfl rfl ?_
          refine TL.nilCheck rfl rfl ?_
          refine TL.fieldAddr rfl rfl ?_
          refine TL.move rfl rfl ?_
          refine TL.sel 5 [3, 4, 0, 1, 2] rfl (fun o ho => ?_)
          simp only [K.sel, List.map_cons, List.map_nil, List.getD_cons_zero, List.getD_cons_succ, List.drop_succ_cons, List.drop_zero, List.cons_append, List.nil_append, List.set_cons_zero, List.set_cons_succ] at ho; subst ho
          refine TL.call (merge_conflict (by omega) (by omega) hA hlog) ⟨rfl, rfl, trivial⟩ rfl ?_
          rintro _ _ H3 ⟨u3, s3, rfl, rfl, hlog3, hle3⟩
          have hL := Le.trans hL hle3
          have hA := rd.mono hle3 hA
          have hb := RdL.mono hle3 hb
          have hlt := RdL.mono hle3 hlt
          have hrt := RdL.mono hle3 hrt
          have hlog := Log.mono hle3 hlog
          refine TL.nil ?_
          refine TQ.in_n ?_
          refine TQ.then_n ?_
          refine TC.seq ?_
          refine TC.region ?_
          refine TL.assign rfl rfl ?_
          refine TL.nil ?_
          refine TQ.then_n ?_
          refine TC.ret ?_
          refine TQ.sel 5 [0, 1] rfl (fun o ho => ?_)
          simp only [K.sel, List.map_cons, List.map_nil, List.getD_cons_zero, List.getD_cons_succ, List.drop_succ_cons, List.drop_zero, List.cons_append, List.nil_append, List.set_cons_zero, List.set_cons_succ] at ho; subst ho
          refine TQ.ret1 0 rfl rfl ?_
          first
            | exact ⟨_, _, by rw [kp_00 (by omega) (by omega)]; exact rd.one_tree hz_g21 hb (Le.refl _), rfl, by rw [kp_00 (by omega) (by omega)]; simpa using hlog, hL⟩
            | exact ⟨_, _, by rw [kp_11 (by omega) (by omega)]; exact rd.one_tree hz_g39 hx (Le.refl _), rfl, by rw [kp_11 (by omega) (by omega)]; exact hlog2, hL⟩
            | exact ⟨_, _, by rw [kp_10 (by omega) (by omega)]; exact rd.one_tree hz_g51 hlt (Le.refl _), rfl, by rw [kp_10 (by omega) (by omega)]; simpa using hlog, hL⟩
            | exact ⟨_, _, by rw [kp_01 (by omega) (by omega)]; exact rd.one_tree hz_g63 hrt (Le.refl _), rfl, by rw [kp_01 (by omega) (by omega)]; simpa using hlog, hL⟩
            | exact ⟨_, _, by rw [kp_c (by omega)]; exact rd.nil _ _, rfl, by rw [kp_c (by omega)]; exact hlog3, hL⟩
            | exact ⟨_, _, by rw [kp_n (by omega)]; exact rd.nil _ _, rfl, by rw [kp_n (by omega)]; simpa using hlog, hL⟩
         ·
          refine TL.pickF rfl rfl rfl rfl ?_
          refine TL.assign rfl rfl ?_
          refine TL.nil ?_
          refine TQ.then_n ?_
          refine TC.cond_f rfl ?_
          refine TC.skip ?_
          refine TQ.in_n ?_
          refine TQ.then_n ?_
          refine TC.seq ?_
          refine TC.region ?_
          refine TL.assign rfl rfl ?_
          refine TL.nil ?_
          refine TQ.then_n ?_
          refine TC.ret ?_
          refine TQ.sel 5 [3, 4] rfl (fun o ho => ?_)
          simp only [K.sel, List.map_cons, List.map_nil, List.getD_cons_zero, List.getD_cons_succ, List.drop_succ_cons, List.drop_zero, List.cons_append, List.nil_append, List.set_cons_zero, List.set_cons_succ] at ho; subst ho
          refine TQ.ret1 0 rfl rfl ?_
          first
            | exact ⟨_, _, by rw [kp_00 (by omega) (by omega)]; exact rd.one_tree hz_g21 hb (Le.refl _), rfl, by rw [kp_00 (by omega) (by omega)]; simpa using hlog, hL⟩
            | exact ⟨_, _, by rw [kp_11 (by omega) (by omega)]; exact rd.one_tree hz_g39 hx (Le.refl _), rfl, by rw [kp_11 (by omega) (by omega)]; exact hlog2, hL⟩
            | exact ⟨_, _, by rw [kp_10 (by omega) (by omega)]; exact rd.one_tree hz_g51 hlt (Le.refl _), rfl, by rw [kp_10 (by omega) (by omega)]; simpa using hlog, hL⟩
            | exact ⟨_, _, by rw [kp_01 (by omega) (by omega)]; exact rd.one_tree hz_g63 hrt (Le.refl _), rfl, by rw [kp_01 (by omega) (by omega)]; simpa using hlog, hL⟩
            | exact ⟨_, _, by rw [kp_c (by omega)]; exact rd.nil _ _, rfl, by rw [kp_c (by omega)]; exact hlog3, hL⟩
            | exact ⟨_, _, by rw [kp_n (by omega)]; exact rd.nil _ _, rfl, by rw [kp_n (by omega)]; simpa using hlog, hL⟩
     ·
      refine TL.move rfl rfl ?_
      refine TL.gno rfl rfl rfl rfl ?_
      refine TL.gno rfl rfl rfl rfl ?_
      refine TL.gno rfl rfl rfl rfl ?_
      refine TL.pickF rfl rfl rfl rfl ?_
      refine TL.assign rfl rfl ?_
      refine TL.nil ?_
      refine TQ.then_n ?_
      refine TC.cond_f rfl ?_
      refine TC.seq ?_
      refine TC.region ?_
      refine TL.fieldAddr rfl rfl ?_
      refine TL.load_own 1 0 rfl rfl rfl rfl rfl ?_
      refine TL.eqlB rfl rfl rfl (fun h54 => ?_) (fun h54 => ?_)
      ·
       refine TL.move rfl rfl ?_
       refine TL.gyes rfl rfl rfl ?_
       refine TL.fieldAddr rfl rfl ?_
       refine TL.gyes rfl rfl rfl ?_
       refine TL.load_own 0 0 rfl rfl rfl rfl rfl ?_
       refine TL.gyes rfl rfl rfl ?_
       refine TL.eqlB rfl rfl rfl (fun h55 => ?_) (fun h55 => ?_)
       ·
        refine TL.pickT rfl rfl rfl rfl ?_
        refine TL.assign rfl rfl ?_
        refine TL.nil ?_
        refine TQ.then_n ?_
        refine TC.cond_t rfl ?_
        refine TC.seq ?_
        refine TC.region ?_
        refine TL.fieldAddr rfl rfl ?_
        refine TL.load_ownA 0 0 [_, _] rfl rfl rfl ⟨rfl, rfl, trivial⟩ rfl rfl ?_
        refine TL.litF (r := [_, _]) [(0, [_, _])] ⟨rfl, ⟨_, rfl, rfl⟩, trivial⟩ rfl rfl rfl rfl ?_; intro g63
        refine TL.assign rfl rfl ?_
        refine TL.nil ?_
        refine TQ.then_n ?_
        refine TC.ret ?_
        refine TQ.in_r ?_
        refine TQ.then_r ?_
        refine TQ.freeze (fun H56 hle hz_g63 => ?_)
        have hL := Le.trans hL hle
        have hA := rd.mono hle hA
        have hb := RdL.mono hle hb
        have hlt := RdL.mono hle hlt
        have hrt := RdL.mono hle hrt
        have hlog := Log.mono hle hlog
        refine TQ.sel 5 [3, 4] rfl (fun o ho => ?_)
        simp only [K.sel, List.map_cons, List.map_nil, List.getD_cons_zero, List.getD_cons_succ, List.drop_succ_cons, List.drop_zero, List.cons_append, List.nil_append, List.set_cons_zero, List.set_cons_succ] at ho; subst ho
        refine TQ.ret1 0 rfl rfl ?_
        first
          | exact ⟨_, _, by rw [kp_00 (by omega) (by omega)]; exact rd.one_tree hz_g21 hb (Le.refl _), rfl, by rw [kp_00 (by omega) (by omega)]; simpa using hlog, hL⟩
          | exact ⟨_, _, by rw [kp_11 (by omega) (by omega)]; exact rd.one_tree hz_g39 hx (Le.refl _), rfl, by rw [kp_11 (by omega) (by omega)]; exact hlog2, hL⟩
          | exact ⟨_, _, by rw [kp_10 (by omega) (by omega)]; exact rd.one_tree hz_g51 hlt (Le.refl _), rfl, by rw [kp_10 (by omega) (by omega)]; simpa using hlog, hL⟩
          | exact ⟨_, _, by rw [kp_01 (by omega) (by omega)]; exact rd.one_tree hz_g63 hrt (Le.refl _), rfl, by rw [kp_01 (by omega) (by omega)]; simpa using hlog, hL⟩
          | exact ⟨_, _, by rw [kp_c (by omega)]; exact rd.nil _ _, rfl, by rw [kp_c (by omega)]; exact hlog3, hL⟩
          | exact ⟨_, _, by rw [kp_n (by omega)]; exact rd.nil _ _, rfl, by rw [kp_n (by omega)]; simpa using hlog, hL⟩
       ·
        refine TL.pickT rfl rfl rfl rfl ?_
        refine TL.assign rfl rfl ?_
        refine TL.nil ?_
        refine TQ.then_n ?_
        refine TC.cond_f rfl ?_
        refine TC.seq ?_
        refine TC.region ?_
        refine TL.fieldAddr rfl rfl ?_
        refine TL.load_own 1 0 rfl rfl rfl rfl rfl ?_
        refine TL.eqlB rfl rfl rfl (fun h57 => ?_) (fun h57 => ?_)
        ·
         refine TL.move rfl rfl ?_
         refine TL.gno rfl rfl rfl rfl ?_
         refine TL.gno rfl rfl rfl rfl ?_
         refine TL.gno rfl rfl rfl rfl ?_
         refine TL.pickT rfl rfl rfl rfl ?_
         refine TL.assign rfl rfl ?_
         refine TL.nil ?_
         refine TQ.then_n ?_
         refine TC.cond_t rfl ?_
         refine TC.region ?_
         refine TL.move rfl rfl ?_
         refine TL.nilCheck rfl rfl ?_
         refine TL.fieldAddr rfl rfl ?_
         refine TL.move rfl rfl ?_
         refine TL.sel 5 [3, 4, 0, 1, 2] rfl (fun o ho => ?_)
         simp only [K.sel, List.map_cons, List.map_nil, List.getD_cons_zero, List.getD_cons_succ, List.drop_succ_cons, List.drop_zero, List.cons_append, List.nil_append, List.set_cons_zero, List.set_cons_succ] at ho; subst ho
         refine TL.call (merge_conflict (by omega) (by omega) hA hlog) ⟨rfl, rfl, trivial⟩ rfl ?_
         rintro _ _ H3 ⟨u3, s3, rfl, rfl, hlog3, hle3⟩
         have hL := Le.trans hL hle3
         have hA := rd.mono hle3 hA
         have hb := RdL.mono hle3 hb
         have hlt := RdL.mono hle3 hlt
         have hrt := RdL.mono hle3 hrt
         have hlog := Log.mono hle3 hlog
         refine TL.nil ?_
         refine TQ.in_n ?_
         refine TQ.then_n ?_
         refine TC.seq ?_
         refine TC.region ?_
         refine TL.assign rfl rfl ?_
         refine TL.nil ?_
         refine TQ.then_n ?_
         refine TC.ret ?_
         refine TQ.sel 5 [0, 1] rfl (fun o ho => ?_)
         simp only [K.sel, List.map_cons, List.map_nil, List.getD_cons_zero, List.getD_cons_succ, List.drop_succ_cons, List.drop_zero, List.cons_append, List.nil_append, List.set_cons_zero, List.set_cons_succ] at ho; subst ho
         refine TQ.ret1 0 rfl rfl ?_
         first
           | exact ⟨_, _, by rw [kp_00 (by omega) (by omega)]; exact rd.one_tree hz_g21 hb (Le.refl _), rfl, by rw [kp_00 (by omega) (by omega)]; simpa using hlog, hL⟩
           | exact ⟨_, _, by rw [kp_11 (by omega) (by omega)]; exact rd.one_tree hz_g39 hx (Le.refl _), rfl, by rw [kp_11 (by omega) (by omega)]; exact hlog2, hL⟩
           | exact ⟨_, _, by rw [kp_10 (by omega) (by omega)]; exact rd.one_tree hz_g51 hlt (Le.refl _), rfl, by rw [kp_10 (by omega) (by omega)]; simpa using hlog, hL⟩
           | exact ⟨_, _, by rw [kp_01 (by omega) (by omega)]; exact rd.one_tree hz_g63 hrt (Le.refl _), rfl, by rw [kp_01 (by omega) (by omega)]; simpa using hlog, hL⟩
           | exact ⟨_, _, by rw [kp_c (by omega)]; exact rd.nil _ _, rfl, by rw [kp_c (by omega)]; exact hlog3, hL⟩
           | exact ⟨_, _, by rw [kp_n (by omega)]; exact rd.nil _ _, rfl, by rw [kp_n (by omega)]; simpa using hlog, hL⟩
        ·
         refine TL.move rfl rfl ?_
         refine TL.gyes rfl rfl rfl ?_
         refine TL.fieldAddr rfl rfl ?_
         refine TL.gyes rfl rfl rfl ?_
         refine TL.load_own 0 0 rfl rfl rfl rfl rfl ?_
         refine TL.gyes rfl rfl rfl ?_
         refine TL.eqlB rfl rfl rfl (fun h58 => ?_) (fun h58 => ?_)
         ·
          refine TL.pickF rfl rfl rfl rfl ?_
          refine TL.assign rfl rfl ?_
          refine TL.nil ?_
          refine TQ.then_n ?_
          refine TC.cond_t rfl ?_
          refine TC.region ?_
          refine TL.move rfl rfl ?_
          refine TL.nilCheck rfl rfl ?_
          refine TL.fieldAddr rfl rfl ?_
          refine TL.move rfl rfl ?_
          refine TL.sel 5 [3, 4, 0, 1, 2] rfl (fun o ho => ?_)
          simp only [K.sel, List.map_cons, List.map_nil, List.getD_cons_zero, List.getD_cons_succ, List.drop_succ_cons, List.drop_zero, List.cons_append, List.nil_append, List.set_cons_zero, List.set_cons_succ] at ho; subst ho
          refine TL.call (merge_conflict (by omega) (by omega) hA hlog) ⟨rfl, rfl, trivial⟩ rfl ?_
          rintro _ _ H3 ⟨u3, s3, rfl, rfl, hlog3, hle3⟩
          have hL := Le.trans hL hle3
          have hA := rd.mono hle3 hA
          have hb := RdL.mono hle3 hb
          have hlt := RdL.mono hle3 hlt
          have hrt := RdL.mono hle3 hrt
          have hlog := Log.mono hle3 hlog
          refine TL.nil ?_
          refine TQ.in_n ?_
          refine TQ.then_n ?_
          refine TC.seq ?_
          refine TC.region ?_
          refine TL.assign rfl rfl ?_
          refine TL.nil ?_
          refine TQ.then_n ?_
          refine TC.ret ?_
          refine TQ.sel 5 [0, 1] rfl (fun o ho => ?_)
          simp only [K.sel, List.map_cons, List.map_nil, List.getD_cons_zero, List.getD_cons_succ, List.drop_succ_cons, List.drop_zero, List.cons_append, List.nil_append, List.set_cons_zero, List.set_cons_succ] at ho; subst ho
          refine TQ.ret1 0 rfl rfl ?_
          first
            | exact ⟨_, _, by rw [kp_00 (by omega) (by omega)]; exact rd.one_tree hz_g21 hb (Le.refl _), rfl, by rw [kp_00 (by omega) (by omega)]; simpa using hlog, hL⟩
            | exact ⟨_, _, by rw [kp_11 (by omega) (by omega)]; exact rd.one_tree hz_g39 hx (Le.refl _), rfl, by rw [kp_11 (by omega) (by omega)]; exact hlog2, hL⟩
            | exact ⟨_, _, by rw [kp_10 (by omega) (by omega)]; exact rd.one_tree hz_g51 hlt (Le.refl _), rfl, by rw [kp_10 (by omega) (by omega)]; simpa using hlog, hL⟩
            | exact ⟨_, _, by rw [kp_01 (by omega) (by omega)]; exact rd.one_tree hz_g63 hrt (Le.refl _), rfl, by rw [kp_01 (by omega) (by omega)]; simpa using hlog, hL⟩
            | exact ⟨_, _, by rw [kp_c (by omega)]; exact rd.nil _ _, rfl, by rw [kp_c (by omega)]; exact hlog3, hL⟩
            | exact ⟨_, _, by rw [kp_n (by omega)]; exact rd.nil _ _, rfl, by rw [kp_n (by omega)]; simpa using hlog, hL⟩
         ·
          refine TL.pickF rfl rfl rfl rfl ?_
          refine TL.assign rfl rfl ?_
          refine TL.nil ?_
          refine TQ.then_n ?_
          refine TC.cond_f rfl ?_
          refine TC.skip ?_
          refine TQ.in_n ?_
          refine TQ.then_n ?_
          refine TC.seq ?_
          refine TC.region ?_
          refine TL.assign rfl rfl ?_
          refine TL.nil ?_
          refine TQ.then_n ?_
          refine TC.ret ?_
          refine TQ.sel 5 [3, 4] rfl (fun o ho => ?_)
          simp only [K.sel, List.map_cons, List.map_nil, List.getD_cons_zero, List.getD_cons_succ, List.drop_succ_cons, List.drop_zero, List.cons_append, List.nil_append, List.set_cons_zero, List.set_cons_succ] at ho; subst ho
          refine TQ.ret1 0 rfl rfl ?_
          first
            | exact ⟨_, _, by rw [kp_00 (by omega) (by omega)]; exact rd.one_tree hz_g21 hb (Le.refl _), rfl, by rw [kp_00 (by omega) (by omega)]; simpa using hlog, hL⟩
            | exact ⟨_, _, by rw [kp_11 (by omega) (by omega)]; exact rd.one_tree hz_g39 hx (Le.refl _), rfl, by rw [kp_11 (by omega) (by omega)]; exact hlog2, hL⟩
            | exact ⟨_, _, by rw [kp_10 (by omega) (by omega)]; exact rd.one_tree hz_g51 hlt (Le.refl _), rfl, by rw [kp_10 (by omega) (by omega)]; simpa using hlog, hL⟩
            | exact ⟨_, _, by rw [kp_01 (by omega) (by omega)]; exact rd.one_tree hz_g63 hrt (Le.refl _), rfl, by rw [kp_01 (by omega) (by omega)]; simpa using hlog, hL⟩
            | exact ⟨_, _, by rw [kp_c (by omega)]; exact rd.nil _ _, rfl, by rw [kp_c (by omega)]; exact hlog3, hL⟩
            | exact ⟨_, _, by rw [kp_n (by omega)]; exact rd.nil _ _, rfl, by rw [kp_n (by omega)]; simpa using hlog, hL⟩
      ·
       refine TL.move rfl rfl ?_
       refine TL.gno rfl rfl rfl rfl ?_
       refine TL.gno rfl rfl rfl rfl ?_
       refine TL.gno rfl rfl rfl rfl ?_
       refine TL.pickF rfl rfl rfl rfl ?_
       refine TL.assign rfl rfl ?_
       refine TL.nil ?_
       refine TQ.then_n ?_
       refine TC.cond_f rfl ?_
       refine TC.seq ?_
       refine TC.region ?_
       refine TL.fieldAddr rfl rfl ?_
       refine TL.load_own 1 0 rfl rfl rfl rfl rfl ?_
       refine TL.eqlB rfl rfl rfl (fun h59 => ?_) (fun h59 => ?_)
       ·
        refine TL.move rfl rfl ?_
        refine TL.gno rfl rfl rfl rfl ?_
        refine TL.gno rfl rfl rfl rfl ?_
        refine TL.gno rfl rfl rfl rfl ?_
        refine TL.pickT rfl rfl rfl rfl ?_
        refine TL.assign rfl rfl ?_
        refine TL.nil ?_
        refine TQ.then_n ?_
        refine TC.cond_t rfl ?_
        refine TC.region ?_
        refine TL.move rfl rfl ?_
        refine TL.nilCheck rfl rfl ?_
        refine TL.fieldAddr rfl rfl ?_
        refine TL.move rfl rfl ?_
        refine TL.sel 5 [3, 4, 0, 1, 2] rfl (fun o ho => ?_)
        simp only [K.sel, List.map_cons, List.map_nil, List.getD_cons_zero, List.getD_cons_succ, List.drop_succ_cons, List.drop_zero, List.cons_append, List.nil_append, List.set_cons_zero, List.set_cons_succ] at ho; subst ho
        refine TL.call (merge_conflict (by omega) (by omega) hA hlog) ⟨rfl, rfl, trivial⟩ rfl ?_
        rintro _ _ H3 ⟨u3, s3, rfl, rfl, hlog3, hle3⟩
        have hL := Le.trans hL hle3
        have hA := rd.mono hle3 hA
        have hb := RdL.mono hle3 hb
        have hlt := RdL.mono hle3 hlt
        have hrt := RdL.mono hle3 hrt
        have hlog := Log.mono hle3 hlog
        refine TL.nil ?_
        refine TQ.in_n ?_
        refine TQ.then_n ?_
        refine TC.seq ?_
        refine TC.region ?_
        refine TL.assign rfl rfl ?_
        refine TL.nil ?_
        refine TQ.then_n ?_
        refine TC.ret ?_
        refine TQ.sel 5 [0, 1] rfl (fun o ho => ?_)
        simp only [K.sel, List.map_cons, List.map_nil, List.getD_cons_zero, List.getD_cons_succ, List.drop_succ_cons, List.drop_zero, List.cons_append, List.nil_append, List.set_cons_zero, List.set_cons_succ] at ho; subst ho
        refine TQ.ret1 0 rfl rfl ?_
        first
          | exact ⟨_, _, by rw [kp_00 (by omega) (by omega)]; exact rd.one_tree hz_g21 hb (Le.refl _), rfl, by rw [kp_00 (by omega) (by omega)]; simpa using hlog, hL⟩
          | exact ⟨_, _, by rw [kp_11 (by omega) (by omega)]; exact rd.one_tree hz_g39 hx (Le.refl _), rfl, by rw [kp_11 (by omega) (by omega)]; exact hlog2, hL⟩
          | exact ⟨_, _, by rw [kp_10 (by omega) (by omega)]; exact rd.one_tree hz_g51 hlt (Le.refl _), rfl, by rw [kp_10 (by omega) (by omega)]; simpa using hlog, hL⟩
          | exact ⟨_, _, by rw [kp_01 (by omega) (by omega)]; exact rd.one_tree hz_g63 hrt (Le.refl _), rfl, by rw [kp_01 (by omega) (by omega)]; simpa using hlog, hL⟩
          | exact ⟨_, _, by rw [kp_c (by omega)]; exact rd.nil _ _, rfl, by rw [kp_c (by omega)]; exact hlog3, hL⟩
          | exact ⟨_, _, by rw [kp_n (by omega)]; exact rd.nil _ _, rfl, by rw [kp_n (by omega)]; simpa using hlog, hL⟩
       ·
        refine TL.move rfl rfl ?_
        refine TL.gyes rfl rfl rfl ?_
        refine TL.fieldAddr rfl rfl ?_
        refine TL.gyes rfl rfl rfl ?_
        refine TL.load_own 0 0 rfl rfl rfl rfl rfl ?_
        refine TL.gyes rfl rfl rfl ?_
        refine TL.eqlB rfl rfl rfl (fun h60 => ?_) (fun h60 => ?_)
        ·
         refine TL.pickF rfl rfl rfl rfl ?_
         refine TL.assign rfl rfl ?_
         refine TL.nil ?_
         refine TQ.then_n ?_
         refine TC.cond_t rfl ?_
         refine TC.region ?_
         refine TL.move rfl rfl ?_
         refine TL.nilCheck rfl rfl ?_
         refine TL.fieldAddr rfl rfl ?_
         refine TL.move rfl rfl ?_
         refine TL.sel 5 [3, 4, 0, 1, 2] rfl (fun o ho => ?_)
         simp only [K.sel, List.map_cons, List.map_nil, List.getD_cons_zero, List.getD_cons_succ, List.drop_succ_cons, List.drop_zero, List.cons_append, List.nil_append, List.set_cons_zero, List.set_cons_succ] at ho; subst ho
         refine TL.call (merge_conflict (by omega) (by omega) hA hlog) ⟨rfl, rfl, trivial⟩ rfl ?_
         rintro _ _ H3 ⟨u3, s3, rfl, rfl, hlog3, hle3⟩
         have hL := Le.trans hL hle3
         have hA := rd.mono hle3 hA
         have hb := RdL.mono hle3 hb
         have hlt := RdL.mono hle3 hlt
         have hrt := RdL.mono hle3 hrt
         have hlog := Log.mono hle3 hlog
         refine TL.nil ?_
         refine TQ.in_n ?_
         refine TQ.then_n ?_
         refine TC.seq ?_
         refine TC.region ?_
         refine TL.assign rfl rfl ?_
         refine TL.nil ?_
         refine TQ.then_n ?_
         refine TC.ret ?_
         refine TQ.sel 5 [0, 1] rfl (fun o ho => ?_)
         simp only [K.sel, List.map_cons, List.map_nil, List.getD_cons_zero, List.getD_cons_succ, List.drop_succ_cons, List.drop_zero, List.cons_append, List.nil_append, List.set_cons_zero, List.set_cons_succ] at ho; subst ho
         refine TQ.ret1 0 rfl rfl ?_
         first
           | exact ⟨_, _, by rw [kp_00 (by omega) (by omega)]; exact rd.one_tree hz_g21 hb (Le.refl _), rfl, by rw [kp_00 (by omega) (by omega)]; simpa using hlog, hL⟩
           | exact ⟨_, _, by rw [kp_11 (by omega) (by omega)]; exact rd.one_tree hz_g39 hx (Le.refl _), rfl, by rw [kp_11 (by omega) (by omega)]; exact hlog2, hL⟩
           | exact ⟨_, _, by rw [kp_10 (by omega) (by omega)]; exact rd.one_tree hz_g51 hlt (Le.refl _), rfl, by rw [kp_10 (by omega) (by omega)]; simpa using hlog, hL⟩
           | exact ⟨_, _, by rw [kp_01 (by omega) (by omega)]; exact rd.one_tree hz_g63 hrt (Le.refl _), rfl, by rw [kp_01 (by omega) (by omega)]; simpa using hlog, hL⟩
           | exact ⟨_, _, by rw [kp_c (by omega)]; exact rd.nil _ _, rfl, by rw [kp_c (by omega)]; exact hlog3, hL⟩
           | exact ⟨_, _, by rw [kp_n (by omega)]; exact rd.nil _ _, rfl, by rw [kp_n (by omega)]; simpa using hlog, hL⟩
        ·
         refine TL.pickF rfl rfl rfl rfl ?_
         refine TL.assign rfl rfl ?_
         refine TL.nil ?_
         refine TQ.then_n ?_
         refine TC.cond_f rfl ?_
         refine TC.skip ?_
         refine TQ.in_n ?_
         refine TQ.then_n ?_
         refine TC.seq ?_
         refine TC.region ?_
         refine TL.assign rfl rfl ?_
         refine TL.nil ?_
         refine TQ.then_n ?_
         refine TC.ret ?_
         refine TQ.sel 5 [3, 4] rfl (fun o ho => ?_)
         simp only [K.sel, List.map_cons, List.map_nil, List.getD_cons_zero, List.getD_cons_succ, List.drop_succ_cons, List.drop_zero, List.cons_append, List.nil_append, List.set_cons_zero, List.set_cons_succ] at ho; subst ho
         refine TQ.ret1 0 rfl rfl ?_
         first
           | exact ⟨_, _, by rw [kp_00 (by omega) (by omega)]; exact rd.one_tree hz_g21 hb (Le.refl _), rfl, by rw [kp_00 (by omega) (by omega)]; simpa using hlog, hL⟩
           | exact ⟨_, _, by rw [kp_11 (by omega) (by omega)]; exact rd.one_tree hz_g39 hx (Le.refl _), rfl, by rw [kp_11 (by omega) (by omega)]; exact hlog2, hL⟩
           | exact ⟨_, _, by rw [kp_10 (by omega) (by omega)]; exact rd.one_tree hz_g51 hlt (Le.refl _), rfl, by rw [kp_10 (by omega) (by omega)]; simpa using hlog, hL⟩
           | exact ⟨_, _, by rw [kp_01 (by omega) (by omega)]; exact rd.one_tree hz_g63 hrt (Le.refl _), rfl, by rw [kp_01 (by omega) (by omega)]; simpa using hlog, hL⟩
           | exact ⟨_, _, by rw [kp_c (by omega)]; exact rd.nil _ _, rfl, by rw [kp_c (by omega)]; exact hlog3, hL⟩
           | exact ⟨_, _, by rw [kp_n (by omega)]; exact rd.nil _ _, rfl, by rw [kp_n (by omega)]; simpa using hlog, hL⟩
   ·
    refine TL.move rfl rfl ?_
    refine TL.gno rfl rfl rfl rfl ?_
    refine TL.gno rfl rfl rfl rfl ?_
    refine TL.gno rfl rfl rfl rfl ?_
    refine TL.pickF rfl rfl rfl rfl ?_
    refine TL.assign rfl rfl ?_
    refine TL.nil ?_
    refine TQ.then_n ?_
    refine TC.cond_f rfl ?_
    refine TC.seq ?_
    refine TC.region ?_
    refine TL.fieldAddr rfl rfl ?_
    refine TL.load_own 1 0 rfl rfl rfl rfl rfl ?_
    refine TL.eqlB rfl rfl rfl (fun h61 => ?_) (fun h61 => ?_)
    ·
     refine TL.move rfl rfl ?_
     refine TL.gyes rfl rfl rfl ?_
     refine TL.fieldAddr rfl rfl ?_
     refine TL.gyes rfl rfl rfl ?_
     refine TL.load_own 0 0 rfl rfl rfl rfl rfl ?_
     refine TL.gyes rfl rfl rfl ?_
     refine TL.eqlB rfl rfl rfl (fun h62 => ?_) (fun h62 => ?_)
     ·
      refine TL.pickT rfl rfl rfl rfl ?_
      refine TL.assign rfl rfl ?_
      refine TL.nil ?_
      refine TQ.then_n ?_
      refine TC.cond_t rfl ?_
      refine TC.seq ?_
      refine TC.region ?_
      refine TL.fieldAddr rfl rfl ?_
      refine TL.load_ownA 1 0 [_, _] rfl rfl rfl ⟨rfl, rfl, trivial⟩ rfl rfl ?_
      refine TL.litF (r := [_, _]) [(0, [_, _])] ⟨rfl, ⟨_, rfl, rfl⟩, trivial⟩ rfl rfl rfl rfl ?_; intro g51
      refine TL.assign rfl rfl ?_
      refine TL.nil ?_
      refine TQ.then_n ?_
      refine TC.ret ?_
      refine TQ.in_r ?_
      refine TQ.then_r ?_
      refine TQ.freeze (fun H63 hle hz_g51 => ?_)
      have hL := Le.trans hL hle
      have hA := rd.mono hle hA
      have hb := RdL.mono hle hb
      have hlt := RdL.mono hle hlt
      have hrt := RdL.mono hle hrt
      have hlog := Log.mono hle hlog
      refine TQ.sel 5 [3, 4] rfl (fun o ho => ?_)
      simp only [K.sel, List.map_cons, List.map_nil, List.getD_cons_zero, List.getD_cons_succ, List.drop_succ_cons, List.drop_zero, List.cons_append, List.nil_append, List.set_cons_zero, List.set_cons_succ] at ho; subst ho
      refine TQ.ret1 0 rfl rfl ?_
      first
        | exact ⟨_, _, by rw [kp_00 (by omega) (by omega)]; exact rd.one_tree hz_g21 hb (Le.refl _), rfl, by rw [kp_00 (by omega) (by omega)]; simpa using hlog, hL⟩
        | exact ⟨_, _, by rw [kp_11 (by omega) (by omega)]; exact rd.one_tree hz_g39 hx (Le.refl _), rfl, by rw [kp_11 (by omega) (by omega)]; exact hlog2, hL⟩
        | exact ⟨_, _, by rw [kp_10 (by omega) (by omega)]; exact rd.one_tree hz_g51 hlt (Le.refl _), rfl, by rw [kp_10 (by omega) (by omega)]; simpa using hlog, hL⟩
        | exact ⟨_, _, by rw [kp_01 (by omega) (by omega)]; exact rd.one_tree hz_g63 hrt (Le.refl _), rfl, by rw [kp_01 (by omega) (by omega)]; simpa using hlog, hL⟩
        | exact ⟨_, _, by rw [kp_c (by omega)]; exact rd.nil _ _, rfl, by rw [kp_c (by omega)]; exact hlog3, hL⟩
        | exact ⟨_, _, by rw [kp_n (by omega)]; exact rd.nil _ _, rfl, by rw [kp_n (by omega)]; simpa using hlog, hL⟩
     ·
      refine TL.pickT rfl rfl rfl rfl ?_
      refine TL.assign rfl rfl ?_
      refine TL.nil ?_
      refine TQ.then_n ?_
      refine TC.cond_f rfl ?_
      refine TC.seq ?_
      refine TC.region ?_
      refine TL.fieldAddr rfl rfl ?_
      refine TL.load_own 1 0 rfl rfl rfl rfl rfl ?_
      refine TL.eqlB rfl rfl rfl (fun h64 => ?_) (fun h64 => ?_)
      ·
       refine TL.move rfl rfl ?_
       refine TL.gyes rfl rfl rfl ?_
       refine TL.fieldAddr rfl rfl ?_
       refine TL.gyes rfl rfl rfl ?_
       refine TL.load_own 0 0 rfl rfl rfl rfl rfl ?_
       refine TL.gyes rfl rfl rfl ?_
       refine TL.eqlB rfl rfl rfl (fun h65 => ?_) (fun h65 => ?_)
       ·
        refine TL.pickT rfl rfl rfl rfl ?_
        refine TL.assign rfl rfl ?_
        refine TL.nil ?_
        refine TQ.then_n ?_
        refine TC.cond_t rfl ?_
        refine TC.seq ?_
        refine TC.region ?_
        refine TL.fieldAddr rfl rfl ?_
        refine TL.load_ownA 0 0 [_, _] rfl rfl rfl ⟨rfl, rfl, trivial⟩ rfl rfl ?_
        refine TL.litF (r := [_, _]) [(0, [_, _])] ⟨rfl, ⟨_, rfl, rfl⟩, trivial⟩ rfl rfl rfl rfl ?_; intro g63
        refine TL.assign rfl rfl ?_
        refine TL.nil ?_
        refine TQ.then_n ?_
        refine TC.ret ?_
        refine TQ.in_r ?_
        refine TQ.then_r ?_
        refine TQ.freeze (fun H66 hle hz_g63 => ?_)
        have hL := Le.trans hL hle
        have hA := rd.mono hle hA
        have hb := RdL.mono hle hb
        have hlt := RdL.mono hle hlt
        have hrt := RdL.mono hle hrt
        have hlog := Log.mono hle hlog
        refine TQ.sel 5 [3, 4] rfl (fun o ho => ?_)
        simp only [K.sel, List.map_cons, List.map_nil, List.getD_cons_zero, List.getD_cons_succ, List.drop_succ_cons, List.drop_zero, List.cons_append, List.nil_append, List.set_cons_zero, List.set_cons_succ] at ho; subst ho
        refine TQ.ret1 0 rfl rfl ?_
        first
          | exact ⟨_, _, by rw [kp_00 (by omega) (by omega)]; exact rd.one_tree hz_g21 hb (Le.refl _), rfl, by rw [kp_00 (by omega) (by omega)]; simpa using hlog, hL⟩
          | exact ⟨_, _, by rw [kp_11 (by omega) (by omega)]; exact rd.one_tree hz_g39 hx (Le.refl _), rfl, by rw [kp_11 (by omega) (by omega)]; exact hlog2, hL⟩
          | exact ⟨_, _, by rw [kp_10 (by omega) (by omega)]; exact rd.one_tree hz_g51 hlt (Le.refl _), rfl, by rw [kp_10 (by omega) (by omega)]; simpa using hlog, hL⟩
          | exact ⟨_, _, by rw [kp_01 (by omega) (by omega)]; exact rd.one_tree hz_g63 hrt (Le.refl _), rfl, by rw [kp_01 (by omega) (by omega)]; simpa using hlog, hL⟩
          | exact ⟨_, _, by rw [kp_c (by omega)]; exact rd.nil _ _, rfl, by rw [kp_c (by omega)]; exact hlog3, hL⟩
          | exact ⟨_, _, by rw [kp_n (by omega)]; exact rd.nil _ _, rfl, by rw [kp_n (by omega)]; simpa using hlog, hL⟩
       ·
        refine TL.pickT rfl rfl rfl rfl ?_
        refine TL.assign rfl rfl ?_
        refine TL.nil ?_
        refine TQ.then_n ?_
        refine TC.cond_f rfl ?_
        refine TC.seq ?_
        refine TC.region ?_
        refine TL.fieldAddr rfl rfl ?_
        refine TL.load_own 1 0 rfl rfl rfl rfl rfl ?_
        refine TL.eqlB rfl rfl rfl (fun h67 => ?_) (fun h67 => ?_)
        ·
         refine TL.move rfl rfl ?_
         refine TL.gno rfl rfl rfl rfl ?_
         refine TL.gno rfl rfl rfl rfl ?_
         refine TL.gno rfl rfl rfl rfl ?_
         refine TL.pickT rfl rfl rfl rfl ?_
         refine TL.assign rfl rfl ?_
         refine TL.nil ?_
         refine TQ.then_n ?_
         refine TC.cond_t rfl ?_
         refine TC.region ?_
         refine TL.move rfl rfl ?_
         refine TL.nilCheck rfl rfl ?_
         refine TL.fieldAddr rfl rfl ?_
         refine TL.move rfl rfl ?_
         refine TL.sel 5 [3, 4, 0, 1, 2] rfl (fun o ho => ?_)
         simp only [K.sel, List.map_cons, List.map_nil, List.getD_cons_zero, List.getD_cons_succ, List.drop_succ_cons, List.drop_zero, List.cons_append, List.nil_append, List.set_cons_zero, List.set_cons_succ] at ho; subst ho
         refine TL.call (merge_conflict (by omega) (by omega) hA hlog) ⟨rfl, rfl, trivial⟩ rfl ?_
         rintro _ _ H3 ⟨u3, s3, rfl, rfl, hlog3, hle3⟩
         have hL := Le.trans hL hle3
         have hA := rd.mono hle3 hA
         have hb := RdL.mono hle3 hb
         have hlt := RdL.mono hle3 hlt
         have hrt := RdL.mono hle3 hrt
         have hlog := Log.mono hle3 hlog
         refine TL.nil ?_
         refine TQ.in_n ?_
         refine TQ.then_n ?_
         refine TC.seq ?_
         refine TC.region ?_
         refine TL.assign rfl rfl ?_
         refine TL.nil ?_
         refine TQ.then_n ?_
         refine TC.ret ?_
         refine TQ.sel 5 [0, 1] rfl (fun o ho => ?_)
         simp only [K.sel, List.map_cons, List.map_nil, List.getD_cons_zero, List.getD_cons_succ, List.drop_succ_cons, List.drop_zero, List.cons_append, List.nil_append, List.set_cons_zero, List.set_cons_succ] at ho; subst ho
         refine TQ.ret1 0 rfl rfl ?_
         first
           | exact ⟨_, _, by rw [kp_00 (by omega) (by omega)]; exact rd.one_tree hz_g21 hb (Le.refl _), rfl, by rw [kp_00 (by omega) (by omega)]; simpa using hlog, hL⟩
           | exact ⟨_, _, by rw [kp_11 (by omega) (by omega)]; exact rd.one_tree hz_g39 hx (Le.refl _), rfl, by rw [kp_11 (by omega) (by omega)]; exact hlog2, hL⟩
           | exact ⟨_, _, by rw [kp_10 (by omega) (by omega)]; exact rd.one_tree hz_g51 hlt (Le.refl _), rfl, by rw [kp_10 (by omega) (by omega)]; simpa using hlog, hL⟩
           | exact ⟨_, _, by rw [kp_01 (by omega) (by omega)]; exact rd.one_tree hz_g63 hrt (Le.refl _), rfl, by rw [kp_01 (by omega) (by omega)]; simpa using hlog, hL⟩
           | exact ⟨_, _, by rw [kp_c (by omega)]; exact rd.nil _ _, rfl, by rw [kp_c (by omega)]; exact hlog3, hL⟩
           | exact ⟨_, _, by rw [kp_n (by omega)]; exact rd.nil _ _, rfl, by rw [kp_n (by omega)]; simpa using hlog, hL⟩
        ·
         refine TL.move rfl rfl ?_
         refine TL.gyes rfl rfl rfl ?_
         refine TL.fieldAddr rfl rfl ?_
         refine TL.gyes rfl rfl rfl ?_
         refine TL.load_own 0 0 rfl rfl rfl rfl rfl ?_
         refine TL.gyes rfl rfl rfl ?_
         refine TL.eqlB rfl rfl rfl (fun h68 => ?_) (fun h68 => ?_)
         ·
          refine TL.pickF rfl rfl rfl rfl ?_
          refine TL.assign rfl rfl ?_
          refine TL.nil ?_
          refine TQ.then_n ?_
          refine TC.cond_t rfl ?_
          refine TC.region ?_
          refine TL.move rfl rfl ?_
          refine TL.nilCheck rfl rfl ?_
          refine TL.fieldAddr rfl rfl ?_
          refine TL.move rfl rfl ?_
          refine TL.sel 5 [3, 4, 0, 1, 2] rfl (fun o ho => ?_)
          simp only [K.sel, List.map_cons, List.map_nil, List.getD_cons_zero, List.getD_cons_succ, List.drop_succ_cons, List.drop_zero, List.cons_append, List.nil_append, List.set_cons_zero, List.set_cons_succ] at ho; subst ho
          refine TL.call (merge_conflict (by omega) (by omega) hA hlog) ⟨rfl, rfl, trivial⟩ rfl ?_
          rintro _ _ H3 ⟨u3, s3, rfl, rfl, hlog3, hle3⟩
          have hL := Le.trans hL hle3
          have hA := rd.mono hle3 hA
          have hb := RdL.mono hle3 hb
          have hlt := RdL.mono hle3 hlt
          have hrt := RdL.mono hle3 hrt
          have hlog := Log.mono hle3 hlog
          refine TL.nil ?_
          refine TQ.in_n ?_
          refine TQ.then_n ?_
          refine TC.seq ?_
          refine TC.region ?_
          refine TL.assign rfl rfl ?_
          refine TL.nil ?_
          refine TQ.then_n ?_
          refine TC.ret ?_
          refine TQ.sel 5 [0, 1] rfl (fun o ho => ?_)
          simp only [K.sel, List.map_cons, List.map_nil, List.getD_cons_zero, List.getD_cons_succ, List.drop_succ_cons, List.drop_zero, List.cons_append, List.nil_append, List.set_cons_zero, List.set_cons_succ] at ho; subst ho
          refine TQ.ret1 0 rfl rfl ?_
          first
            | exact ⟨_, _, by rw [kp_00 (by omega) (by omega)]; exact rd.one_tree hz_g21 hb (Le.refl _), rfl, by rw [kp_00 (by omega) (by omega)]; simpa using hlog, hL⟩
            | exact ⟨_, _, by rw [kp_11 (by omega) (by omega)]; exact rd.one_tree hz_g39 hx (Le.refl _), rfl, by rw [kp_11 (by omega) (by omega)]; exact hlog2, hL⟩
            | exact ⟨_, _, by rw [kp_10 (by omega) (by omega)]; exact rd.one_tree hz_g51 hlt (Le.refl _), rfl, by rw [kp_10 (by omega) (by omega)]; simpa using hlog, hL⟩
            | exact ⟨_, _, by rw [kp_01 (by omega) (by omega)]; exact rd.one_tree hz_g63 hrt (Le.refl _), rfl, by rw [kp_01 (by omega) (by omega)]; simpa using hlog, hL⟩
            | exact ⟨_, _, by rw [kp_c (by omega)]; exact rd.nil _ _, rfl, by rw [kp_c (by omega)]; exact hlog3, hL⟩
            | exact ⟨_, _, by rw [kp_n (by omega)]; exact rd.nil _ _, rfl, by rw [kp_n (by omega)]; simpa using hlog, hL⟩
         ·
          refine TL.pickF rfl rfl rfl rfl ?_
          refine TL.assign rfl rfl ?_
          refine TL.nil ?_
          refine TQ.then_n ?_
          refine TC.cond_f rfl ?_
          refine TC.skip ?_
          refine TQ.in_n ?_
          refine TQ.then_n ?_
          refine TC.seq ?_
          refine TC.region ?_
          refine TL.assign rfl rfl ?_
          refine TL.nil ?_
          refine TQ.then_n ?_
          refine TC.ret ?_
          refine TQ.sel 5 [3, 4] rfl (fun o ho => ?_)
          simp only [K.sel, List.map_cons, List.map_nil, List.getD_cons_zero, List.getD_cons_succ, List.drop_succ_cons, List.drop_zero, List.cons_append, List.nil_append, List.set_cons_zero, List.set_cons_succ] at ho; subst ho
          refine TQ.ret1 0 rfl rfl ?_
          first
            | exact ⟨_, _, by rw [kp_00 (by omega) (by omega)]; exact rd.one_tree hz_g21 hb (Le.refl _), rfl, by rw [kp_00 (by omega) (by omega)]; simpa using hlog, hL⟩
            | exact ⟨_, _, by rw [kp_11 (by omega) (by omega)]; exact rd.one_tree hz_g39 hx (Le.refl _), rfl, by rw [kp_11 (by omega) (by omega)]; exact hlog2, hL⟩
            | exact ⟨_, _, by rw [kp_10 (by omega) (by omega)]; exact rd.one_tree hz_g51 hlt (Le.refl _), rfl, by rw [kp_10 (by omega) (by omega)]; simpa using hlog, hL⟩
            | exact ⟨_, _, by rw [kp_01 (by omega) (by omega)]; exact rd.one_tree hz_g63 hrt (Le.refl _), rfl, by rw [kp_01 (by omega) (by omega)]; simpa using hlog, hL⟩
            | exact ⟨_, _, by rw [kp_c (by omega)]; exact rd.nil _ _, rfl, by rw [kp_c (by omega)]; exact hlog3, hL⟩
            | exact ⟨_, _, by rw [kp_n (by omega)]; exact rd.nil _ _, rfl, by rw [kp_n (by omega)]; simpa using hlog, hL⟩
      ·
       refine TL.move rfl rfl ?_
       refine TL.gno rfl rfl rfl rfl ?_
       refine TL.gno rfl rfl rfl rfl ?_
       refine TL.gno rfl rfl rfl rfl ?_
       refine TL.pickF rfl rfl rfl rfl ?_
       refine TL.assign rfl rfl ?_
       refine TL.nil ?_
       refine TQ.then_n ?_
       refine TC.cond_f rfl ?_
       refine TC.seq ?_
       refine TC.region ?_
       refine TL.fieldAddr rfl rfl ?_
       refine TL.load_own 1 0 rfl rfl rfl rfl rfl ?_
       refine TL.eqlB rfl rfl rfl (fun h69 => ?_) (fun h69 => ?_)
       ·
        refine TL.move rfl rfl ?_
        refine TL.gno rfl rfl rfl rfl ?_
        refine TL.gno rfl rfl rfl rfl ?_
        refine TL.gno rfl rfl rfl rfl ?_
        refine TL.pickT rfl rfl rfl rfl ?_
        refine TL.assign rfl rfl ?_
        refine TL.nil ?_
        refine TQ.then_n ?_
        refine TC.cond_t rfl ?_
        refine TC.region ?_
        refine TL.move rfl rfl ?_
        refine TL.nilCheck rfl rfl ?_
        refine TL.fieldAddr rfl rfl ?_
        refine TL.move rfl rfl ?_
        refine TL.sel 5 [3, 4, 0, 1, 2] rfl (fun o ho => ?_)
        simp only [K.sel, List.map_cons, List.map_nil, List.getD_cons_zero, List.getD_cons_succ, List.drop_succ_cons, List.drop_zero, List.cons_append, List.nil_append, List.set_cons_zero, List.set_cons_succ] at ho; subst ho
        refine TL.call (merge_conflict (by omega) (by omega) hA hlog) ⟨rfl, rfl, trivial⟩ rfl ?_
        rintro _ _ H3 ⟨u3, s3, rfl, rfl, hlog3, hle3⟩
        have hL := Le.trans hL hle3
        have hA := rd.mono hle3 hA
        have hb := RdL.mono hle3 hb
        have hlt := RdL.mono hle3 hlt
        have hrt := RdL.mono hle3 hrt
        have hlog := Log.mono hle3 hlog
        refine TL.nil ?_
        refine TQ.in_n ?_
        refine TQ.then_n ?_
        refine TC.seq ?_
        refine TC.region ?_
        refine TL.assign rfl rfl ?_
        refine TL.nil ?_
        refine TQ.then_n ?_
        refine TC.ret ?_
        refine TQ.sel 5 [0, 1] rfl (fun o ho => ?_)
        simp only [K.sel, List.map_cons, List.map_nil, List.getD_cons_zero, List.getD_cons_succ, List.drop_succ_cons, List.drop_zero, List.cons_append, List.nil_append, List.set_cons_zero, List.set_cons_succ] at ho; subst ho
        refine TQ.ret1 0 rfl rfl ?_
        first
          | exact ⟨_, _, by rw [kp_00 (by omega) (by omega)]; exact rd.one_tree hz_g21 hb (Le.refl _), rfl, by rw [kp_00 (by omega) (by omega)]; simpa using hlog, hL⟩
          | exact ⟨_, _, by rw [kp_11 (by omega) (by omega)]; exact rd.one_tree hz_g39 hx (Le.refl _), rfl, by rw [kp_11 (by omega) (by omega)]; exact hlog2, hL⟩
          | exact ⟨_, _, by rw [kp_10 (by omega) (by omega)]; exact rd.one_tree hz_g51 hlt (Le.refl _), rfl, by rw [kp_10 (by omega) (by omega)]; simpa using hlog, hL⟩
          | exact ⟨_, _, by rw [kp_01 (by omega) (by omega)]; exact rd.one_tree hz_g63 hrt (Le.refl _), rfl, by rw [kp_01 (by omega) (by omega)]; simpa using hlog, hL⟩
          | exact ⟨_, _, by rw [kp_c (by omega)]; exact rd.nil _ _, rfl, by rw [kp_c (by omega)]; exact hlog3, hL⟩
          | exact ⟨_, _, by rw [kp_n (by omega)]; exact rd.nil _ _, rfl, by rw [kp_n (by omega)]; simpa using hlog, hL⟩
       ·
        refine TL.move rfl rfl ?_
        refine TL.gyes rfl rfl rfl ?_
        refine TL.fieldAddr rfl rfl ?_
        refine TL.gyes rfl rfl rfl ?_
        refine TL.load_own 0 0 rfl rfl rfl rfl rfl ?_
        refine TL.gyes rfl rfl rfl ?_
        refine TL.eqlB rfl rfl rfl (fun h70 => ?_) (fun h70 => ?_)
        ·
         refine TL.pickF rfl rfl rfl rfl ?_
         refine TL.assign rfl rfl ?_
         refine TL.nil ?_
         refine TQ.then_n ?_
         refine TC.cond_t rfl ?_
         refine TC.region ?_
         refine TL.move rfl rfl ?_
         refine TL.nilCheck rfl rfl ?_
         refine TL.fieldAddr rfl rfl ?_
         refine TL.move rfl rfl ?_
         refine TL.sel 5 [3, 4, 0, 1, 2] rfl (fun o ho => ?_)
         simp only [K.sel, List.map_cons, List.map_nil, List.getD_cons_zero, List.getD_cons_succ, List.drop_succ_cons, List.drop_zero, List.cons_append, List.nil_append, List.set_cons_zero, List.set_cons_succ] at ho; subst ho
         refine TL.call (merge_conflict (by omega) (by omega) hA hlog) ⟨rfl, rfl, trivial⟩ rfl ?_
         rintro _ _ H3 ⟨u3, s3, rfl, rfl, hlog3, hle3⟩
         have hL := Le.trans hL hle3
         have hA := rd.mono hle3 hA
         have hb := RdL.mono hle3 hb
         have hlt := RdL.mono hle3 hlt
         have hrt := RdL.mono hle3 hrt
         have hlog := Log.mono hle3 hlog
         refine TL.nil ?_
         refine TQ.in_n ?_
         refine TQ.then_n ?_
         refine TC.seq ?_
         refine TC.region ?_
         refine TL.assign rfl rfl ?_
         refine TL.nil ?_
         refine TQ.then_n ?_
         refine TC.ret ?_
         refine TQ.sel 5 [0, 1] rfl (fun o ho => ?_)
         simp only [K.sel, List.map_cons, List.map_nil, List.getD_cons_zero, List.getD_cons_succ, List.drop_succ_cons, List.drop_zero, List.cons_append, List.nil_append, List.set_cons_zero, List.set_cons_succ] at ho; subst ho
         refine TQ.ret1 0 rfl rfl ?_
         first
           | exact ⟨_, _, by rw [kp_00 (by omega) (by omega)]; exact rd.one_tree hz_g21 hb (Le.refl _), rfl, by rw [kp_00 (by omega) (by omega)]; simpa using hlog, hL⟩
           | exact ⟨_, _, by rw [kp_11 (by omega) (by omega)]; exact rd.one_tree hz_g39 hx (Le.refl _), rfl, by rw [kp_11 (by omega) (by omega)]; exact hlog2, hL⟩
           | exact ⟨_, _, by rw [kp_10 (by omega) (by omega)]; exact rd.one_tree hz_g51 hlt (Le.refl _), rfl, by rw [kp_10 (by omega) (by omega)]; simpa using hlog, hL⟩
           | exact ⟨_, _, by rw [kp_01 (by omega) (by omega)]; exact rd.one_tree hz_g63 hrt (Le.refl _), rfl, by rw [kp_01 (by omega) (by omega)]; simpa using hlog, hL⟩
           | exact ⟨_, _, by rw [kp_c (by omega)]; exact rd.nil _ _, rfl, by rw [kp_c (by omega)]; exact hlog3, hL⟩
           | exact ⟨_, _, by rw [kp_n (by omega)]; exact rd.nil _ _, rfl, by rw [kp_n (by omega)]; simpa using hlog, hL⟩
        ·
         refine TL.pickF rfl rfl rfl rfl ?_
         refine TL.assign rfl rfl ?_
         refine TL.nil ?_
         refine TQ.then_n ?_
         refine TC.cond_f rfl ?_
         refine TC.skip ?_
         refine TQ.in_n ?_
         refine TQ.then_n ?_
         refine TC.seq ?_
         refine TC.region ?_
         refine TL.assign rfl rfl ?_
         refine TL.nil ?_
         refine TQ.then_n ?_
         refine TC.ret ?_
         refine TQ.sel 5 [3, 4] rfl (fun o ho => ?_)
         simp only [K.sel, List.map_cons, List.map_nil, List.getD_cons_zero, List.getD_cons_succ, List.drop_succ_cons, List.drop_zero, List.cons_append, List.nil_append, List.set_cons_zero, List.set_cons_succ] at ho; subst ho
         refine TQ.ret1 0 rfl rfl ?_
         first
           | exact ⟨_, _, by rw [kp_00 (by omega) (by omega)]; exact rd.one_tree hz_g21 hb (Le.refl _), rfl, by rw [kp_00 (by omega) (by omega)]; simpa using hlog, hL⟩
           | exact ⟨_, _, by rw [kp_11 (by omega) (by omega)]; exact rd.one_tree hz_g39 hx (Le.refl _), rfl, by rw [kp_11 (by omega) (by omega)]; exact hlog2, hL⟩
           | exact ⟨_, _, by rw [kp_10 (by omega) (by omega)]; exact rd.one_tree hz_g51 hlt (Le.refl _), rfl, by rw [kp_10 (by omega) (by omega)]; simpa using hlog, hL⟩
           | exact ⟨_, _, by rw [kp_01 (by omega) (by omega)]; exact rd.one_tree hz_g63 hrt (Le.refl _), rfl, by rw [kp_01 (by omega) (by omega)]; simpa using hlog, hL⟩
           | exact ⟨_, _, by rw [kp_c (by omega)]; exact rd.nil _ _, rfl, by rw [kp_c (by omega)]; exact hlog3, hL⟩
           | exact ⟨_, _, by rw [kp_n (by omega)]; exact rd.nil _ _, rfl, by rw [kp_n (by omega)]; simpa using hlog, hL⟩
    ·
     refine TL.move rfl rfl ?_
     refine TL.gno rfl rfl rfl rfl ?_
     refine TL.gno rfl rfl rfl rfl ?_
     refine TL.gno rfl rfl rfl rfl ?_
     refine TL.pickF rfl rfl rfl rfl ?_
     refine TL.assign rfl rfl ?_
     refine TL.nil ?_
     refine TQ.then_n ?_
     refine TC.cond_f rfl ?_
     refine TC.seq ?_
     refine TC.region ?_
     refine TL.fieldAddr rfl rfl ?_
     refine TL.load_own 1 0 rfl rfl rfl rfl rfl ?_
     refine TL.eqlB rfl rfl rfl (fun h71 => ?_) (fun h71 => ?_)
     ·
      refine TL.move rfl rfl ?_
      refine TL.gyes rfl rfl rfl ?_
      refine TL.fieldAddr rfl rfl ?_
      refine TL.gyes rfl rfl rfl ?_
      refine TL.load_own 0 0 rfl rfl rfl rfl rfl ?_
      refine TL.gyes rfl rfl rfl ?_
      refine TL.eqlB rfl rfl rfl (fun h72 => ?_) (fun h72 => ?_)
      ·
       refine TL.pickT rfl rfl rfl rfl ?_
       refine TL.assign rfl rfl ?_
       refine TL.nil ?_
       refine TQ.then_n ?_
       refine TC.cond_t rfl ?_
       refine TC.seq ?_
       refine TC.region ?_
       refine TL.fieldAddr rfl rfl ?_
       refine TL.load_ownA 0 0 [_, _] rfl rfl rfl ⟨rfl, rfl, trivial⟩ rfl rfl ?_
       refine TL.litF (r := [_, _]) [(0, [_, _])] ⟨rfl, ⟨_, rfl, rfl⟩, trivial⟩ rfl rfl rfl rfl ?_; intro g63
       refine TL.assign rfl rfl ?_
       refine TL.nil ?_
       refine TQ.then_n ?_
       refine TC.ret ?_
       refine TQ.in_r ?_
       refine TQ.then_r ?_
       refine TQ.freeze (fun H73 hle hz_g63 => ?_)
       have hL := Le.trans hL hle
       have hA := rd.mono hle hA
       have hb := RdL.mono hle hb
       have hlt := RdL.mono hle hlt
       have hrt := RdL.mono hle hrt
       have hlog := Log.mono hle hlog
       refine TQ.sel 5 [3, 4] rfl (fun o ho => ?_)
       simp only [K.sel, List.map_cons, List.map_nil, List.getD_cons_zero, List.getD_cons_succ, List.drop_succ_cons, List.drop_zero, List.cons_append, List.nil_append, List.set_cons_zero, List.set_cons_succ] at ho; subst ho
       refine TQ.ret1 0 rfl rfl ?_
       first
         | exact ⟨_, _, by rw [kp_00 (by omega) (by omega)]; exact rd.one_tree hz_g21 hb (Le.refl _), rfl, by rw [kp_00 (by omega) (by omega)]; simpa using hlog, hL⟩
         | exact ⟨_, _, by rw [kp_11 (by omega) (by omega)]; exact rd.one_tree hz_g39 hx (Le.refl _), rfl, by rw [kp_11 (by omega) (by omega)]; exact hlog2, hL⟩
         | exact ⟨_, _, by rw [kp_10 (by omega) (by omega)]; exact rd.one_tree hz_g51 hlt (Le.refl _), rfl, by rw [kp_10 (by omega) (by omega)]; simpa using hlog, hL⟩
         | exact ⟨_, _, by rw [kp_01 (by omega) (by omega)]; exact rd.one_tree hz_g63 hrt (Le.refl _), rfl, by rw [kp_01 (by omega) (by omega)]; simpa using hlog, hL⟩
         | exact ⟨_, _, by rw [kp_c (by omega)]; exact rd.nil _ _, rfl, by rw [kp_c (by omega)]; exact hlog3, hL⟩
         | exact ⟨_, _, by rw [kp_n (by omega)]; exact rd.nil _ _, rfl, by rw [kp_n (by omega)]; simpa using hlog, hL⟩
      ·
       refine TL.pickT rfl rfl rfl rfl ?_
       refine TL.assign rfl rfl ?_
       refine TL.nil ?_
       refine TQ.then_n ?_
       refine TC.cond_f rfl ?_
       refine TC.seq ?_
       refine TC.region ?_
       refine TL.fieldAddr rfl rfl ?_
       refine TL.load_own 1 0 rfl rfl rfl rfl rfl ?_
       refine TL.eqlB rfl rfl rfl (fun h74 => ?_) (fun h74 => ?_)
       ·
        refine TL.move rfl rfl ?_
        refine TL.gno rfl rfl rfl rfl ?_
        refine TL.gno rfl rfl rfl rfl ?_
        refine TL.gno rfl rfl rfl rfl ?_
        refine TL.pickT rfl rfl rfl rfl ?_
        refine TL.assign rfl rfl ?_
        refine TL.nil ?_
        refine TQ.then_n ?_
        refine TC.cond_t rfl ?_
        refine TC.region ?_
        refine TL.move rfl rfl ?_
        refine TL.nilCheck rfl rfl ?_
        refine TL.fieldAddr rfl rfl ?_
        refine TL.move rfl rfl ?_
        refine TL.sel 5 [3, 4, 0, 1, 2] rfl (fun o ho => ?_)
        simp only [K.sel, List.map_cons, List.map_nil, List.getD_cons_zero, List.getD_cons_succ, List.drop_succ_cons, List.drop_zero, List.cons_append, List.nil_append, List.set_cons_zero, List.set_cons_succ] at ho; subst ho
        refine TL.call (merge_conflict (by omega) (by omega) hA hlog) ⟨rfl, rfl, trivial⟩ rfl ?_
        rintro _ _ H3 ⟨u3, s3, rfl, rfl, hlog3, hle3⟩
        have hL := Le.trans hL hle3
        have hA := rd.mono hle3 hA
        have hb := RdL.mono hle3 hb
        have hlt := RdL.mono hle3 hlt
        have hrt := RdL.mono hle3 hrt
        have hlog := Log.mono hle3 hlog
        refine TL.nil ?_
        refine TQ.in_n ?_
        refine TQ.then_n ?_
        refine TC.seq ?_
        refine TC.region ?_
        refine TL.assign rfl rfl ?_
        refine TL.nil ?_
        refine TQ.then_n ?_
        refine TC.ret ?_
        refine TQ.sel 5 [0, 1] rfl (fun o ho => ?_)
        simp only [K.sel, List.map_cons, List.map_nil, List.getD_cons_zero, List.getD_cons_succ, List.drop_succ_cons, List.drop_zero, List.cons_append, List.nil_append, List.set_cons_zero, List.set_cons_succ] at ho; subst ho
        refine TQ.ret1 0 rfl rfl ?_
        first
          | exact ⟨_, _, by rw [kp_00 (by omega) (by omega)]; exact rd.one_tree hz_g21 hb (Le.refl _), rfl, by rw [kp_00 (by omega) (by omega)]; simpa using hlog, hL⟩
          | exact ⟨_, _, by rw [kp_11 (by omega) (by omega)]; exact rd.one_tree hz_g39 hx (Le.refl _), rfl, by rw [kp_11 (by omega) (by omega)]; exact hlog2, hL⟩
          | exact ⟨_, _, by rw [kp_10 (by omega) (by omega)]; exact rd.one_tree hz_g51 hlt (Le.refl _), rfl, by rw [kp_10 (by omega) (by omega)]; simpa using hlog, hL⟩
          | exact ⟨_, _, by rw [kp_01 (by omega) (by omega)]; exact rd.one_tree hz_g63 hrt (Le.refl _), rfl, by rw [kp_01 (by omega) (by omega)]; simpa using hlog, hL⟩
          | exact ⟨_, _, by rw [kp_c (by omega)]; exact rd.nil _ _, rfl, by rw [kp_c (by omega)]; exact hlog3, hL⟩
          | exact ⟨_, _, by rw [kp_n (by omega)]; exact rd.nil _ _, rfl, by rw [kp_n (by omega)]; simpa using hlog, hL⟩
       ·
        refine TL.move rfl rfl ?_
        refine TL.gyes rfl rfl rfl ?_
        refine TL.fieldAddr rfl rfl ?_
        refine TL.gyes rfl rfl rfl ?_
        refine TL.load_own 0 0 rfl rfl rfl rfl rfl ?_
        refine TL.gyes rfl rfl rfl ?_
        refine TL.eqlB rfl rfl rfl (fun h75 => ?_) (fun h75 => ?_)
        ·
         refine TL.pickF rfl rfl rfl rfl ?_
         refine TL.assign rfl rfl ?_
         refine TL.nil ?_
         refine TQ.then_n ?_
         refine TC.cond_t rfl ?_
         refine TC.region ?_
         refine TL.move rfl rfl ?_
         refine TL.nilCheck rfl rfl ?_
         refine TL.fieldAddr rfl rfl ?_
         refine TL.move rfl rfl ?_
         refine TL.sel 5 [3, 4, 0, 1, 2] rfl (fun o ho => ?_)
         simp only [K.sel, List.map_cons, List.map_nil, List.getD_cons_zero, List.getD_cons_succ, List.drop_succ_cons, List.drop_zero, List.cons_append, List.nil_append, List.set_cons_zero, List.set_cons_succ] at ho; subst ho
         refine TL.call (merge_conflict (by omega) (by omega) hA hlog) ⟨rfl, rfl, trivial⟩ rfl ?_
         rintro _ _ H3 ⟨u3, s3, rfl, rfl, hlog3, hle3⟩
         have hL := Le.trans hL hle3
         have hA := rd.mono hle3 hA
         have hb := RdL.mono hle3 hb
         have hlt := RdL.mono hle3 hlt
         have hrt := RdL.mono hle3 hrt
         have hlog := Log.mono hle3 hlog
         refine TL.nil ?_
         refine TQ.in_n ?_
         refine TQ.then_n ?_
         refine TC.seq ?_
         refine TC.region ?_
         refine TL.assign rfl rfl ?_
         refine TL.nil ?_
         refine TQ.then_n ?_
         refine TC.ret ?_
         refine TQ.sel 5 [0, 1] rfl (fun o ho => ?_)
         simp only [K.sel, List.map_cons, List.map_nil, List.getD_cons_zero, List.getD_cons_succ, List.drop_succ_cons, List.drop_zero, List.cons_append, List.nil_append, List.set_cons_zero, List.set_cons_succ] at ho; subst ho
         refine TQ.ret1 0 rfl rfl ?_
         first
           | exact ⟨_, _, by rw [kp_00 (by omega) (by omega)]; exact rd.one_tree hz_g21 hb (Le.refl _), rfl, by rw [kp_00 (by omega) (by omega)]; simpa using hlog, hL⟩
           | exact ⟨_, _, by rw [kp_11 (by omega) (by omega)]; exact rd.one_tree hz_g39 hx (Le.refl _), rfl, by rw [kp_11 (by omega) (by omega)]; exact hlog2, hL⟩
           | exact ⟨_, _, by rw [kp_10 (by omega) (by omega)]; exact rd.one_tree hz_g51 hlt (Le.refl _), rfl, by rw [kp_10 (by omega) (by omega)]; simpa using hlog, hL⟩
           | exact ⟨_, _, by rw [kp_01 (by omega) (by omega)]; exact rd.one_tree hz_g63 hrt (Le.refl _), rfl, by rw [kp_01 (by omega) (by omega)]; simpa using hlog, hL⟩
           | exact ⟨_, _, by rw [kp_c (by omega)]; exact rd.nil _ _, rfl, by rw [kp_c (by omega)]; exact hlog3, hL⟩
           | exact ⟨_, _, by rw [kp_n (by omega)]; exact rd.nil _ _, rfl, by rw [kp_n (by omega)]; simpa using hlog, hL⟩
        ·
         refine TL.pickF rfl rfl rfl rfl ?_
         refine TL.assign rfl rfl ?_
         refine TL.nil ?_
         refine TQ.then_n ?_
         refine TC.cond_f rfl ?_
         refine TC.skip ?_
         refine TQ.in_n ?_
         refine TQ.then_n ?_
         refine TC.seq ?_
         refine TC.region ?_
         refine TL.assign rfl rfl ?_
         refine TL.nil ?_
         refine TQ.then_n ?_
         refine TC.ret ?_
         refine TQ.sel 5 [3, 4] rfl (fun o ho => ?_)
         simp only [K.sel, List.map_cons, List.map_nil, List.getD_cons_zero, List.getD_cons_succ, List.drop_succ_cons, List.drop_zero, List.cons_append, List.nil_append, List.set_cons_zero, List.set_cons_succ] at ho; subst ho
         refine TQ.ret1 0 rfl rfl ?_
         first
           | exact ⟨_, _, by rw [kp_00 (by omega) (by omega)]; exact rd.one_tree hz_g21 hb (Le.refl _), rfl, by rw [kp_00 (by omega) (by omega)]; simpa using hlog, hL⟩
           | exact ⟨_, _, by rw [kp_11 (by omega) (by omega)]; exact rd.one_tree hz_g39 hx (Le.refl _), rfl, by rw [kp_11 (by omega) (by omega)]; exact hlog2, hL⟩
           | exact ⟨_, _, by rw [kp_10 (by omega) (by omega)]; exact rd.one_tree hz_g51 hlt (Le.refl _), rfl, by rw [kp_10 (by omega) (by omega)]; simpa using hlog, hL⟩
           | exact ⟨_, _, by rw [kp_01 (by omega) (by omega)]; exact rd.one_tree hz_g63 hrt (Le.refl _), rfl, by rw [kp_01 (by omega) (by omega)]; simpa using hlog, hL⟩
           | exact ⟨_, _, by rw [kp_c (by omega)]; exact rd.nil _ _, rfl, by rw [kp_c (by omega)]; exact hlog3, hL⟩
           | exact ⟨_, _, by rw [kp_n (by omega)]; exact rd.nil _ _, rfl, by rw [kp_n (by omega)]; simpa using hlog, hL⟩
     ·
      refine TL.move rfl rfl ?_
      refine TL.gno rfl rfl rfl rfl ?_
      refine TL.gno rfl rfl rfl rfl ?_
      refine TL.gno rfl rfl rfl rfl ?_
      refine TL.pickF rfl rfl rfl rfl ?_
      refine TL.assign rfl rfl ?_
      refine TL.nil ?_
      refine TQ.then_n ?_
      refine TC.cond_f rfl ?_
      refine TC.seq ?_
      refine TC.region ?_
      refine TL.fieldAddr rfl rfl ?_
      refine TL.load_own 1 0 rfl rfl rfl rfl rfl ?_
      refine TL.eqlB rfl rfl rfl (fun h76 => ?_) (fun h76 => ?_)
      ·
       refine TL.move rfl rfl ?_
       refine TL.gno rfl rfl rfl rfl ?_
       refine TL.gno rfl rfl rfl rfl ?_
       refine TL.gno rfl rfl rfl rfl ?_
       refine TL.pickT rfl rfl rfl rfl ?_
       refine TL.assign rfl rfl ?_
       refine TL.nil ?_
       refine TQ.then_n ?_
       refine TC.cond_t rfl ?_
       refine TC.region ?_
       refine TL.move rfl rfl ?_
       refine TL.nilCheck rfl rfl ?_
       refine TL.fieldAddr rfl rfl ?_
       refine TL.move rfl rfl ?_
       refine TL.sel 5 [3, 4, 0, 1, 2] rfl (fun o ho => ?_)
       simp only [K.sel, List.map_cons, List.map_nil, List.getD_cons_zero, List.getD_cons_succ, List.drop_succ_cons, List.drop_zero, List.cons_append, List.nil_append, List.set_cons_zero, List.set_cons_succ] at ho; subst ho
       refine TL.call (merge_conflict (by omega) (by omega) hA hlog) ⟨rfl, rfl, trivial⟩ rfl ?_
       rintro _ _ H3 ⟨u3, s3, rfl, rfl, hlog3, hle3⟩
       have hL := Le.trans hL hle3
       have hA := rd.mono hle3 hA
       have hb := RdL.mono hle3 hb
       have hlt := RdL.mono hle3 hlt
       have hrt := RdL.mono hle3 hrt
       have hlog := Log.mono hle3 hlog
       refine TL.nil ?_
       refine TQ.in_n ?_
       refine TQ.then_n ?_
       refine TC.seq ?_
       refine TC.region ?_
       refine TL.assign rfl rfl ?_
       refine TL.nil ?_
       refine TQ.then_n ?_
       refine TC.ret ?_
       refine TQ.sel 5 [0, 1] rfl (fun o ho => ?_)
       simp only [K.sel, List.map_cons, List.map_nil, List.getD_cons_zero, List.getD_cons_succ, List.drop_succ_cons, List.drop_zero, List.cons_append, List.nil_append, List.set_cons_zero, List.set_cons_succ] at ho; subst ho
       refine TQ.ret1 0 rfl rfl ?_
       first
         | exact ⟨_, _, by rw [kp_00 (by omega) (by omega)]; exact rd.one_tree hz_g21 hb (Le.refl _), rfl, by rw [kp_00 (by omega) (by omega)]; simpa using hlog, hL⟩
         | exact ⟨_, _, by rw [kp_11 (by omega) (by omega)]; exact rd.one_tree hz_g39 hx (Le.refl _), rfl, by rw [kp_11 (by omega) (by omega)]; exact hlog2, hL⟩
         | exact ⟨_, _, by rw [kp_10 (by omega) (by omega)]; exact rd.one_tree hz_g51 hlt (Le.refl _), rfl, by rw [kp_10 (by omega) (by omega)]; simpa using hlog, hL⟩
         | exact ⟨_, _, by rw [kp_01 (by omega) (by omega)]; exact rd.one_tree hz_g63 hrt (Le.refl _), rfl, by rw [kp_01 (by omega) (by omega)]; simpa using hlog, hL⟩
         | exact ⟨_, _, by rw [kp_c (by omega)]; exact rd.nil _ _, rfl, by rw [kp_c (by omega)]; exact hlog3, hL⟩
         | exact ⟨_, _, by rw [kp_n (by omega)]; exact rd.nil _ _, rfl, by rw [kp_n (by omega)]; simpa using hlog, hL⟩
      ·
       refine TL.move rfl rfl ?_
       refine TL.gyes rfl rfl rfl ?_
       refine TL.fieldAddr rfl rfl ?_
       refine TL.gyes rfl rfl rfl ?_
       refine TL.load_own 0 0 rfl rfl rfl rfl rfl ?_
       refine TL.gyes rfl rfl rfl ?_
       refine TL.eqlB rfl rfl rfl (fun h77 => ?_) (fun h77 => ?_)
       ·
        refine TL.pickF rfl rfl rfl rfl ?_
        refine TL.assign rfl rfl ?_
        refine TL.nil ?_
        refine TQ.then_n ?_
        refine TC.cond_t rfl ?_
        refine TC.region ?_
        refine TL.move rfl rfl ?_
        refine TL.nilCheck rfl rfl ?_
        refine TL.fieldAddr rfl rfl ?_
        refine TL.move rfl rfl ?_
        refine TL.sel 5 [3, 4, 0, 1, 2] rfl (fun o ho => ?_)
        simp only [K.sel, List.map_cons, List.map_nil, List.getD_cons_zero, List.getD_cons_succ, List.drop_succ_cons, List.drop_zero, List.cons_append, List.nil_append, List.set_cons_zero, List.set_cons_succ] at ho; subst ho
        refine TL.call (merge_conflict (by omega) (by omega) hA hlog) ⟨rfl, rfl, trivial⟩ rfl ?_
        rintro _ _ H3 ⟨u3, s3, rfl, rfl, hlog3, hle3⟩
        have hL := Le.trans hL hle3
        have hA := rd.mono hle3 hA
        have hb := RdL.mono hle3 hb
        have hlt := RdL.mono hle3 hlt
        have hrt := RdL.mono hle3 hrt
        have hlog := Log.mono hle3 hlog
        refine TL.nil ?_
        refine TQ.in_n ?_
        refine TQ.then_n ?_
        refine TC.seq ?_
        refine TC.region ?_
        refine TL.assign rfl rfl ?_
        refine TL.nil ?_
        refine TQ.then_n ?_
        refine TC.ret ?_
        refine TQ.sel 5 [0, 1] rfl (fun o ho => ?_)
        simp only [K.sel, List.map_cons, List.map_nil, List.getD_cons_zero, List.getD_cons_succ, List.drop_succ_cons, List.drop_zero, List.cons_append, List.nil_append, List.set_cons_zero, List.set_cons_succ] at ho; subst ho
        refine TQ.ret1 0 rfl rfl ?_
        first
          | exact ⟨_, _, by rw [kp_00 (by omega) (by omega)]; exact rd.one_tree hz_g21 hb (Le.refl _), rfl, by rw [kp_00 (by omega) (by omega)]; simpa using hlog, hL⟩
          | exact ⟨_, _, by rw [kp_11 (by omega) (by omega)]; exact rd.one_tree hz_g39 hx (Le.refl _), rfl, by rw [kp_11 (by omega) (by omega)]; exact hlog2, hL⟩
          | exact ⟨_, _, by rw [kp_10 (by omega) (by omega)]; exact rd.one_tree hz_g51 hlt (Le.refl _), rfl, by rw [kp_10 (by omega) (by omega)]; simpa using hlog, hL⟩
          | exact ⟨_, _, by rw [kp_01 (by omega) (by omega)]; exact rd.one_tree hz_g63 hrt (Le.refl _), rfl, by rw [kp_01 (by omega) (by omega)]; simpa using hlog, hL⟩
          | exact ⟨_, _, by rw [kp_c (by omega)]; exact rd.nil _ _, rfl, by rw [kp_c (by omega)]; exact hlog3, hL⟩
          | exact ⟨_, _, by rw [kp_n (by omega)]; exact rd.nil _ _, rfl, by rw [kp_n (by omega)]; simpa using hlog, hL⟩
       ·
        refine TL.pickF rfl rfl rfl rfl ?_
        refine TL.assign rfl rfl ?_
        refine TL.nil ?_
        refine TQ.then_n ?_
        refine TC.cond_f rfl ?_
        refine TC.skip ?_
        refine TQ.in_n ?_
        refine TQ.then_n ?_
        refine TC.seq ?_
        refine TC.region ?_
        refine TL.assign rfl rfl ?_
        refine TL.nil ?_
        refine TQ.then_n ?_
        refine TC.ret ?_
        refine TQ.sel 5 [3, 4] rfl (fun o ho => ?_)
        simp only [K.sel, List.map_cons, List.map_nil, List.getD_cons_zero, List.getD_cons_succ, List.drop_succ_cons, List.drop_zero, List.cons_append, List.nil_append, List.set_cons_zero, List.set_cons_succ] at ho; subst ho
        refine TQ.ret1 0 rfl rfl ?_
        first
          | exact ⟨_, _, by rw [kp_00 (by omega) (by omega)]; exact rd.one_tree hz_g21 hb (Le.refl _), rfl, by rw [kp_00 (by omega) (by omega)]; simpa using hlog, hL⟩
          | exact ⟨_, _, by rw [kp_11 (by omega) (by omega)]; exact rd.one_tree hz_g39 hx (Le.refl _), rfl, by rw [kp_11 (by omega) (by omega)]; exact hlog2, hL⟩
          | exact ⟨_, _, by rw [kp_10 (by omega) (by omega)]; exact rd.one_tree hz_g51 hlt (Le.refl _), rfl, by rw [kp_10 (by omega) (by omega)]; simpa using hlog, hL⟩
          | exact ⟨_, _, by rw [kp_01 (by omega) (by omega)]; exact rd.one_tree hz_g63 hrt (Le.refl _), rfl, by rw [kp_01 (by omega) (by omega)]; simpa using hlog, hL⟩
          | exact ⟨_, _, by rw [kp_c (by omega)]; exact rd.nil _ _, rfl, by rw [kp_c (by omega)]; exact hlog3, hL⟩
          | exact ⟨_, _, by rw [kp_n (by omega)]; exact rd.nil _ _, rfl, by rw [kp_n (by omega)]; simpa using hlog, hL⟩

end Go.Proofs.Ytapmmfabdmhdnaa.K
