/-
  The reference: kid, node, Merge; agrees.
-/
import Derived.Test.YtapmmfabdmhdnaaRef1
import Derived.Test.YtapmmfabdmhdnaaRef3
import Derived.Test.YtapmmfabdmhdnaaSane
import Derived.Test.YtapmmfabdmhdnaaKid
set_option linter.unusedVariables false
set_option linter.unusedSimpArgs false
set_option maxHeartbeats 4000000
namespace Go.Proofs.Ytapmmfabdmhdnaa.K
open Go Go.RowKit Go.Proofs

/-- What the reference's merger.node does at three trees. -/
def RNodeOk (f : Tr → Tr → Tr → Path → Tr × List Path) (b : Tr) : Prop :=
  ∀ {l r : Tr} {p : Path} {ps : List Path} {w0 : World} {H : Hp} {own : List Seg} {gm e : Nat} {u b0 b1 l0 l1 r0 r1 v : Value},
    l.size ≤ 8192 → r.size ≤ 8192 → p.length + b.size ≤ 16384 → ps.length + 4 * b.size ≤ 1073741824 → RdL H b.d [b0, b1] → RdL H l.d [l0, l1] → RdL H r.d [r0, r1] → rd H (pD p) v → RLog H u ps →
    Fn Try.prog 49 [.pointer (some ⟨gm, 0, none⟩), .agg #[b0, b1], .agg #[l0, l1], .agg #[r0, r1], v] w0 H ([(gm, .cells #[u] e (0, 0))] :: own)
      (fun x own' H' => ∃ c0 c1 u', x = .agg #[c0, c1] ∧ RdL H' (f b l r p).1.d [c0, c1] ∧ own' = [(gm, .cells #[u'] e (0, 0))] :: own ∧ RLog H' u' ((f b l r p).2.foldl addP ps) ∧ Le H H')
theorem side_cells {H : Hp} {a : Al} {x0 x1 x2 : Value} (h : RdL H (sideD a) [x0, x1, x2]) : ∃ A0 c0 A1 c1 A2 c2, x0 = .slice A0 a.F.length c0 ∧ x1 = .slice A1 a.F.length c1 ∧ x2 = .slice A2 a.I.length c2 ∧
    rd H (.s 1 ((tagV a.F).map D.c)) (.slice A0 a.F.length c0) ∧ rd H (.s 2 (Tr.ds (a.F.map Fate.to))) (.slice A1 a.F.length c1) ∧ rd H (.s 1 (insD a.I)) (.slice A2 a.I.length c2) := by
  obtain ⟨h1, h2, h3, _⟩ := h
  obtain ⟨A0, c0, rfl, _⟩ := vals_len h1
  obtain ⟨A1, c1, rfl, _⟩ := trs_len h2
  obtain ⟨A2, n2, c2, rfl, e2, _⟩ := h3.s_len
  simp only [insD, List.length_map] at e2
  have : n2 = a.I.length := by omega
  subst this
  rw [List.length_map] at h2 ⊢
  rw [tagV_len] at h1 ⊢
  exact ⟨A0, c0, A1, c1, A2, c2, rfl, rfl, rfl, h1, h2, h3⟩
theorem kind_at {H : Hp} {F : List Fate} {A : Option Addr} {n c : Nat} (h : rd H (.s 1 ((tagV F).map D.c)) (.slice A n c)) {i : Nat} {f : Fate} (hi : F[i]? = some f) : ∃ b o, A = some ⟨b, o, none⟩ ∧ cel H b (o + i * 1) = some (.int .i64 f.tag) :=
  vals_at h (by simp [tagV, hi])
theorem tag_in (f : Fate) : f.tag = 0 ∨ f.tag = 1 ∨ f.tag = 2 := by cases f <;> simp [Fate.tag]
theorem ref_kid {f : Tr → Tr → Tr → Path → Tr × List Path} {b : Tr} (hN : RNodeOk f b) {x y : Al} {i : Nat} {f1 f2 : Fate} {p : Path} {ps : List Path} {w0 : World} {H : Hp} {own : List Seg} {gm e : Nat} {u b0 b1 k0 t0 j0 k1 t1 j1 v : Value}
    (h1 : x.F[i]? = some f1) (h2 : y.F[i]? = some f2) (hls : f1.to.size ≤ 8192) (hrs : f2.to.size ≤ 8192) (hp : p.length + b.size ≤ 16384) (hps : ps.length + 4 * b.size ≤ 1073741824) (hb : RdL H b.d [b0, b1]) (hx : RdL H (sideD x) [k0, t0, j0]) (hy : RdL H (sideD y) [k1, t1, j1])
    (hA : rd H (pD p) v) (hlog : RLog H u ps) :
    Fn Try.prog 74 [.pointer (some ⟨gm, 0, none⟩), .agg #[b0, b1], .agg #[k0, t0, j0], .agg #[k1, t1, j1], .int .i64 (i : Int), v] w0 H ([(gm, .cells #[u] e (0, 0))] :: own)
      (fun z own' H' => ∃ u', rd H' (.s 2 (Tr.ds (kidP f b f1 f2 p).1)) z ∧ own' = [(gm, .cells #[u'] e (0, 0))] :: own ∧ RLog H' u' ((kidP f b f1 f2 p).2.foldl addP ps) ∧ Le H H') := by
  obtain ⟨Ax0, cx0, Ax1, cx1, Ax2, cx2, rfl, rfl, rfl, hxK, hxT, hxI⟩ := side_cells hx
  obtain ⟨Ay0, cy0, Ay1, cy1, Ay2, cy2, rfl, rfl, rfl, hyK, hyT, hyI⟩ := side_cells hy
  have hil := (List.getElem?_eq_some_iff.1 h1).1
  have hjl := (List.getElem?_eq_some_iff.1 h2).1
  obtain ⟨ba, oa, rfl, hca⟩ := kind_at hxK h1
  obtain ⟨bb, ob, rfl, hcb⟩ := kind_at hyK h2
  obtain ⟨bc, oc, l0, l1, rfl, hpl, hlt⟩ := trs_at hxT (i := i) (t := f1.to) (by simp [h1])
  obtain ⟨bd, od, r0, r1, rfl, hpr, hrt⟩ := trs_at hyT (i := i) (t := f2.to) (by simp [h2])
  rcases tag_in f1 with g1 | g1 | g1
  · rcases tag_in f2 with g2 | g2 | g2
    · rw [g1] at hca
      rw [g2] at hcb
      refine Fn.enter Try.func74 rfl Try.ntmps74 rfl ?_
      have hL := Le.refl H
      refine TC.seq ?_
      refine TC.region ?_
      refine TL.box (c := #[_, _]) rfl rfl rfl ?_; intro g7
      refine TL.box (c := #[_, _, _]) rfl rfl rfl ?_; intro g8
      refine TL.box (c := #[_, _, _]) rfl rfl rfl ?_; intro g9
      refine TL.assign rfl rfl ?_
      refine TL.nil ?_
      refine TQ.then_n ?_
      refine TC.seq ?_
      refine TC.region ?_
      refine TL.fieldAddr rfl rfl ?_
      refine TL.load_own 1 0 rfl rfl rfl rfl rfl ?_
      refine TL.move rfl rfl ?_
      refine TL.indexAddr (i) rfl rfl rfl (by omega) rfl ?_
      refine TL.load_imm rfl (hca) rfl ?_
      refine TL.assign rfl rfl ?_
      refine TL.nil ?_
      refine TQ.then_n ?_
      refine TC.seq ?_
      refine TC.region ?_
      refine TL.fieldAddr rfl rfl ?_
      refine TL.load_own 0 0 rfl rfl rfl rfl rfl ?_
      refine TL.move rfl rfl ?_
      refine TL.indexAddr (i) rfl rfl rfl (by omega) rfl ?_
      refine TL.load_imm rfl (hcb) rfl ?_
      refine TL.assign rfl rfl ?_
      refine TL.nil ?_
      refine TQ.then_n ?_
      refine TC.seq ?_
      refine TC.block ?_
      refine TC.seq ?_
      refine TC.region ?_
      refine TL.move rfl rfl ?_
      refine TL.eql rfl rfl rfl ?_
      refine TL.move rfl rfl ?_
      refine TL.gyes rfl rfl rfl ?_
      refine TL.move rfl rfl ?_
      refine TL.gyes rfl rfl rfl ?_
      refine TL.eql rfl rfl rfl ?_
      refine TL.pickT rfl rfl rfl rfl ?_
      refine TL.assign rfl rfl ?_
      refine TL.nil ?_
      refine TQ.then_n ?_
      refine TC.cond_t rfl ?_
      refine TC.seq ?_
      refine TC.region ?_
      refine TL.load_ownA 2 0 [_, _] rfl rfl rfl ⟨rfl, rfl, trivial⟩ rfl rfl ?_
      refine TL.litF (r := [_, _]) [(0, [_, _])] ⟨rfl, ⟨_, rfl, rfl⟩, trivial⟩ rfl rfl rfl rfl ?_; intro g33
      refine TL.assign rfl rfl ?_
      refine TL.nil ?_
      refine TQ.then_n ?_
      refine TC.ret ?_
      refine TQ.in_r ?_
      refine TQ.then_r ?_
      refine TQ.freeze (fun H1 hle hz_g33 => ?_)
      have hL := Le.trans hL hle
      have hA := rd.mono hle hA
      have hb := RdL.mono hle hb
      have hca := cel_le hle hca
      have hcb := cel_le hle hcb
      have hpl := hAt.mono hle hpl
      have hpr := hAt.mono hle hpr
      have hlt := RdL.mono hle hlt
      have hrt := RdL.mono hle hrt
      have hlog := RLog.mono hle hlog
      refine TQ.sel 4 [3] rfl (fun o ho => ?_)
      simp only [K.sel, List.map_cons, List.map_nil, List.getD_cons_zero, List.getD_cons_succ, List.drop_succ_cons, List.drop_zero, List.cons_append, List.nil_append, List.set_cons_zero, List.set_cons_succ] at ho; subst ho
      refine TQ.ret1 0 rfl rfl ?_
      exact ⟨_, by rw [kp_00 g1 g2]; exact rd.one_tree hz_g33 hb (Le.refl _), rfl, by rw [kp_00 g1 g2]; exact hlog, hL⟩
    · rw [g1] at hca
      rw [g2] at hcb
      refine Fn.enter Try.func74 rfl Try.ntmps74 rfl ?_
      have hL := Le.refl H
      refine TC.seq ?_
      refine TC.region ?_
      refine TL.box (c := #[_, _]) rfl rfl rfl ?_; intro g7
      refine TL.box (c := #[_, _, _]) rfl rfl rfl ?_; intro g8
      refine TL.box (c := #[_, _, _]) rfl rfl rfl ?_; intro g9
      refine TL.assign rfl rfl ?_
      refine TL.nil ?_
      refine TQ.then_n ?_
      refine TC.seq ?_
      refine TC.region ?_
      refine TL.fieldAddr rfl rfl ?_
      refine TL.load_own 1 0 rfl rfl rfl rfl rfl ?_
      refine TL.move rfl rfl ?_
      refine TL.indexAddr (i) rfl rfl rfl (by omega) rfl ?_
      refine TL.load_imm rfl (hca) rfl ?_
      refine TL.assign rfl rfl ?_
      refine TL.nil ?_
      refine TQ.then_n ?_
      refine TC.seq ?_
      refine TC.region ?_
      refine TL.fieldAddr rfl rfl ?_
      refine TL.load_own 0 0 rfl rfl rfl rfl rfl ?_
      refine TL.move rfl rfl ?_
      refine TL.indexAddr (i) rfl rfl rfl (by omega) rfl ?_
      refine TL.load_imm rfl (hcb) rfl ?_
      refine TL.assign rfl rfl ?_
      refine TL.nil ?_
      refine TQ.then_n ?_
      refine TC.seq ?_
      refine TC.block ?_
      refine TC.seq ?_
      refine TC.region ?_
      refine TL.move rfl rfl ?_
      refine TL.eql rfl rfl rfl ?_
      refine TL.move rfl rfl ?_
      refine TL.gyes rfl rfl rfl ?_
      refine TL.move rfl rfl ?_
      refine TL.gyes rfl rfl rfl ?_
      refine TL.eql rfl rfl rfl ?_
      refine TL.pickT rfl rfl rfl rfl ?_
      refine TL.assign rfl rfl ?_
      refine TL.nil ?_
      refine TQ.then_n ?_
      refine TC.cond_f rfl ?_
      refine TC.seq ?_
      refine TC.region ?_
      refine TL.move rfl rfl ?_
      refine TL.eql rfl rfl rfl ?_
      refine TL.move rfl rfl ?_
      refine TL.gno rfl rfl rfl rfl ?_
      refine TL.gno rfl rfl rfl rfl ?_
      refine TL.pickF rfl rfl rfl rfl ?_
      refine TL.move rfl rfl ?_
      refine TL.gyes rfl rfl rfl ?_
      refine TL.move rfl rfl ?_
      refine TL.gyes rfl rfl rfl ?_
      refine TL.eql rfl rfl rfl ?_
      refine TL.gyes rfl rfl rfl ?_
      refine TL.move rfl rfl ?_
      refine TL.gno rfl rfl rfl rfl ?_
      refine TL.gno rfl rfl rfl rfl ?_
      refine TL.gyes rfl rfl rfl ?_
      refine TL.pickF rfl rfl rfl rfl ?_
      refine TL.pickF rfl rfl rfl rfl ?_
      refine TL.assign rfl rfl ?_
      refine TL.nil ?_
      refine TQ.then_n ?_
      refine TC.cond_f rfl ?_
      refine TC.seq ?_
      refine TC.region ?_
      refine TL.move rfl rfl ?_
      refine TL.eql rfl rfl rfl ?_
      refine TL.assign rfl rfl ?_
      refine TL.nil ?_
      refine TQ.then_n ?_
      refine TC.cond_t rfl ?_
      refine TC.seq ?_
      refine TC.region ?_
      refine TL.fieldAddr rfl rfl ?_
      refine TL.load_own 0 0 rfl rfl rfl rfl rfl ?_
      refine TL.move rfl rfl ?_
      refine TL.indexAddr (i) rfl rfl rfl (by omega) rfl ?_
      refine TL.load_immA rfl (hpr) rfl rfl ?_
      refine TL.litF (r := [_, _]) [(0, [_, _])] ⟨rfl, ⟨_, rfl, rfl⟩, trivial⟩ rfl rfl rfl rfl ?_; intro g57
      refine TL.assign rfl rfl ?_
      refine TL.nil ?_
      refine TQ.then_n ?_
      refine TC.ret ?_
      refine TQ.in_r ?_
      refine TQ.then_r ?_
      refine TQ.freeze (fun H1 hle hz_g57 => ?_)
      have hL := Le.trans hL hle
      have hA := rd.mono hle hA
      have hb := RdL.mono hle hb
      have hca := cel_le hle hca
      have hcb := cel_le hle hcb
      have hpl := hAt.mono hle hpl
      have hpr := hAt.mono hle hpr
      have hlt := RdL.mono hle hlt
      have hrt := RdL.mono hle hrt
      have hlog := RLog.mono hle hlog
      refine TQ.sel 4 [3] rfl (fun o ho => ?_)
      simp only [K.sel, List.map_cons, List.map_nil, List.getD_cons_zero, List.getD_cons_succ, List.drop_succ_cons, List.drop_zero, List.cons_append, List.nil_append, List.set_cons_zero, List.set_cons_succ] at ho; subst ho
      refine TQ.ret1 0 rfl rfl ?_
      exact ⟨_, by rw [kp_01 g1 g2]; exact rd.one_tree hz_g57 hrt (Le.refl _), rfl, by rw [kp_01 g1 g2]; exact hlog, hL⟩
    · rw [g1] at hca
      rw [g2] at hcb
      refine Fn.enter Try.func74 rfl Try.ntmps74 rfl ?_
      have hL := Le.refl H
      refine TC.seq ?_
      refine TC.region ?_
      refine TL.box (c := #[_, _]) rfl rfl rfl ?_; intro g7
      refine TL.box (c := #[_, _, _]) rfl rfl rfl ?_; intro g8
      refine TL.box (c := #[_, _, _]) rfl rfl rfl ?_; intro g9
      refine TL.assign rfl rfl ?_
      refine TL.nil ?_
      refine TQ.then_n ?_
      refine TC.seq ?_
      refine TC.region ?_
      refine TL.fieldAddr rfl rfl ?_
      refine TL.load_own 1 0 rfl rfl rfl rfl rfl ?_
      refine TL.move rfl rfl ?_
      refine TL.indexAddr (i) rfl rfl rfl (by omega) rfl ?_
      refine TL.load_imm rfl (hca) rfl ?_
      refine TL.assign rfl rfl ?_
      refine TL.nil ?_
      refine TQ.then_n ?_
      refine TC.seq ?_
      refine TC.region ?_
      refine TL.fieldAddr rfl rfl ?_
      refine TL.load_own 0 0 rfl rfl rfl rfl rfl ?_
      refine TL.move rfl rfl ?_
      refine TL.indexAddr (i) rfl rfl rfl (by omega) rfl ?_
      refine TL.load_imm rfl (hcb) rfl ?_
      refine TL.assign rfl rfl ?_
      refine TL.nil ?_
      refine TQ.then_n ?_
      refine TC.seq ?_
      refine TC.block ?_
      refine TC.seq ?_
      refine TC.region ?_
      refine TL.move rfl rfl ?_
      refine TL.eql rfl rfl rfl ?_
      refine TL.move rfl rfl ?_
      refine TL.gyes rfl rfl rfl ?_
      refine TL.move rfl rfl ?_
      refine TL.gyes rfl rfl rfl ?_
      refine TL.eql rfl rfl rfl ?_
      refine TL.pickT rfl rfl rfl rfl ?_
      refine TL.assign rfl rfl ?_
      refine TL.nil ?_
      refine TQ.then_n ?_
      refine TC.cond_f rfl ?_
      refine TC.seq ?_
      refine TC.region ?_
      refine TL.move rfl rfl ?_
      refine TL.eql rfl rfl rfl ?_
      refine TL.move rfl rfl ?_
      refine TL.gno rfl rfl rfl rfl ?_
      refine TL.gno rfl rfl rfl rfl ?_
      refine TL.pickF rfl rfl rfl rfl ?_
      refine TL.move rfl rfl ?_
      refine TL.gyes rfl rfl rfl ?_
      refine TL.move rfl rfl ?_
      refine TL.gyes rfl rfl rfl ?_
      refine TL.eql rfl rfl rfl ?_
      refine TL.gyes rfl rfl rfl ?_
      refine TL.move rfl rfl ?_
      refine TL.gyes rfl rfl rfl ?_
      refine TL.move rfl rfl ?_
      refine TL.gyes rfl rfl rfl ?_
      refine TL.neq rfl rfl rfl ?_
      refine TL.gyes rfl rfl rfl ?_
      refine TL.pickT rfl rfl rfl rfl ?_
      refine TL.pickF rfl rfl rfl rfl ?_
      refine TL.assign rfl rfl ?_
      refine TL.nil ?_
      refine TQ.then_n ?_
      refine TC.cond_t rfl ?_
      refine TC.seq ?_
      refine TC.region ?_
      refine TL.assign rfl rfl ?_
      refine TL.nil ?_
      refine TQ.then_n ?_
      refine TC.ret ?_
      refine TQ.in_r ?_
      refine TQ.then_r ?_
      refine TQ.sel 4 [3] rfl (fun o ho => ?_)
      simp only [K.sel, List.map_cons, List.map_nil, List.getD_cons_zero, List.getD_cons_succ, List.drop_succ_cons, List.drop_zero, List.cons_append, List.nil_append, List.set_cons_zero, List.set_cons_succ] at ho; subst ho
      refine TQ.ret1 0 rfl rfl ?_
      exact ⟨_, by rw [kp_n (by omega)]; exact rd.nil _ _, rfl, by rw [kp_n (by omega)]; exact hlog, hL⟩
  · rcases tag_in f2 with g2 | g2 | g2
    · rw [g1] at hca
      rw [g2] at hcb
      refine Fn.enter Try.func74 rfl Try.ntmps74 rfl ?_
      have hL := Le.refl H
      refine TC.seq ?_
      refine TC.region ?_
      refine TL.box (c := #[_, _]) rfl rfl rfl ?_; intro g7
      refine TL.box (c := #[_, _, _]) rfl rfl rfl ?_; intro g8
      refine TL.box (c := #[_, _, _]) rfl rfl rfl ?_; intro g9
      refine TL.assign rfl rfl ?_
      refine TL.nil ?_
      refine TQ.then_n ?_
      refine TC.seq ?_
      refine TC.region ?_
      refine TL.fieldAddr rfl rfl ?_
      refine TL.load_own 1 0 rfl rfl rfl rfl rfl ?_
      refine TL.move rfl rfl ?_
      refine TL.indexAddr (i) rfl rfl rfl (by omega) rfl ?_
      refine TL.load_imm rfl (hca) rfl ?_
      refine TL.assign rfl rfl ?_
      refine TL.nil ?_
      refine TQ.then_n ?_
      refine TC.seq ?_
      refine TC.region ?_
      refine TL.fieldAddr rfl rfl ?_
      refine TL.load_own 0 0 rfl rfl rfl rfl rfl ?_
      refine TL.move rfl rfl ?_
      refine TL.indexAddr (i) rfl rfl rfl (by omega) rfl ?_
      refine TL.load_imm rfl (hcb) rfl ?_
      refine TL.assign rfl rfl ?_
      refine TL.nil ?_
      refine TQ.then_n ?_
      refine TC.seq ?_
      refine TC.block ?_
      refine TC.seq ?_
      refine TC.region ?_
      refine TL.move rfl rfl ?_
      refine TL.eql rfl rfl rfl ?_
      refine TL.move rfl rfl ?_
      refine TL.gno rfl rfl rfl rfl ?_
      refine TL.gno rfl rfl rfl rfl ?_
      refine TL.pickF rfl rfl rfl rfl ?_
      refine TL.assign rfl rfl ?_
      refine TL.nil ?_
      refine TQ.then_n ?_
      refine TC.cond_f rfl ?_
      refine TC.seq ?_
      refine TC.region ?_
      refine TL.move rfl rfl ?_
      refine TL.eql rfl rfl rfl ?_
      refine TL.move rfl rfl ?_
      refine TL.gno rfl rfl rfl rfl ?_
      refine TL.gno rfl rfl rfl rfl ?_
      refine TL.pickF rfl rfl rfl rfl ?_
      refine TL.move rfl rfl ?_
      refine TL.gyes rfl rfl rfl ?_
      refine TL.move rfl rfl ?_
      refine TL.gyes rfl rfl rfl ?_
      refine TL.eql rfl rfl rfl ?_
      refine TL.gyes rfl rfl rfl ?_
      refine TL.move rfl rfl ?_
      refine TL.gno rfl rfl rfl rfl ?_
      refine TL.gno rfl rfl rfl rfl ?_
      refine TL.gyes rfl rfl rfl ?_
      refine TL.pickF rfl rfl rfl rfl ?_
      refine TL.pickF rfl rfl rfl rfl ?_
      refine TL.assign rfl rfl ?_
      refine TL.nil ?_
      refine TQ.then_n ?_
      refine TC.cond_f rfl ?_
      refine TC.seq ?_
      refine TC.region ?_
      refine TL.move rfl rfl ?_
      refine TL.eql rfl rfl rfl ?_
      refine TL.assign rfl rfl ?_
      refine TL.nil ?_
      refine TQ.then_n ?_
      refine TC.cond_f rfl ?_
      refine TC.seq ?_
      refine TC.region ?_
      refine TL.move rfl rfl ?_
      refine TL.eql rfl rfl rfl ?_
      refine TL.assign rfl rfl ?_
      refine TL.nil ?_
      refine TQ.then_n ?_
      refine TC.cond_t rfl ?_
      refine TC.seq ?_
      refine TC.region ?_
      refine TL.fieldAddr rfl rfl ?_
      refine TL.load_own 1 0 rfl rfl rfl rfl rfl ?_
      refine TL.move rfl rfl ?_
      refine TL.indexAddr (i) rfl rfl rfl (by omega) rfl ?_
      refine TL.load_immA rfl (hpl) rfl rfl ?_
      refine TL.litF (r := [_, _]) [(0, [_, _])] ⟨rfl, ⟨_, rfl, rfl⟩, trivial⟩ rfl rfl rfl rfl ?_; intro g66
      refine TL.assign rfl rfl ?_
      refine TL.nil ?_
      refine TQ.then_n ?_
      refine TC.ret ?_
      refine TQ.in_r ?_
      refine TQ.then_r ?_
      refine TQ.freeze (fun H1 hle hz_g66 => ?_)
      have hL := Le.trans hL hle
      have hA := rd.mono hle hA
      have hb := RdL.mono hle hb
      have hca := cel_le hle hca
      have hcb := cel_le hle hcb
      have hpl := hAt.mono hle hpl
      have hpr := hAt.mono hle hpr
      have hlt := RdL.mono hle hlt
      have hrt := RdL.mono hle hrt
      have hlog := RLog.mono hle hlog
      refine TQ.sel 4 [3] rfl (fun o ho => ?_)
      simp only [K.sel, List.map_cons, List.map_nil, List.getD_cons_zero, List.getD_cons_succ, List.drop_succ_cons, List.drop_zero, List.cons_append, List.nil_append, List.set_cons_zero, List.set_cons_succ] at ho; subst ho
      refine TQ.ret1 0 rfl rfl ?_
      exact ⟨_, by rw [kp_10 g1 g2]; exact rd.one_tree hz_g66 hlt (Le.refl _), rfl, by rw [kp_10 g1 g2]; exact hlog, hL⟩
    · rw [g1] at hca
      rw [g2] at hcb
      refine Fn.enter Try.func74 rfl Try.ntmps74 rfl ?_
      have hL := Le.refl H
      refine TC.seq ?_
      refine TC.region ?_
      refine TL.box (c := #[_, _]) rfl rfl rfl ?_; intro g7
      refine TL.box (c := #[_, _, _]) rfl rfl rfl ?_; intro g8
      refine TL.box (c := #[_, _, _]) rfl rfl rfl ?_; intro g9
      refine TL.assign rfl rfl ?_
      refine TL.nil ?_
      refine TQ.then_n ?_
      refine TC.seq ?_
      refine TC.region ?_
      refine TL.fieldAddr rfl rfl ?_
      refine TL.load_own 1 0 rfl rfl rfl rfl rfl ?_
      refine TL.move rfl rfl ?_
      refine TL.indexAddr (i) rfl rfl rfl (by omega) rfl ?_
      refine TL.load_imm rfl (hca) rfl ?_
      refine TL.assign rfl rfl ?_
      refine TL.nil ?_
      refine TQ.then_n ?_
      refine TC.seq ?_
      refine TC.region ?_
      refine TL.fieldAddr rfl rfl ?_
      refine TL.load_own 0 0 rfl rfl rfl rfl rfl ?_
      refine TL.move rfl rfl ?_
      refine TL.indexAddr (i) rfl rfl rfl (by omega) rfl ?_
      refine TL.load_imm rfl (hcb) rfl ?_
      refine TL.assign rfl rfl ?_
      refine TL.nil ?_
      refine TQ.then_n ?_
      refine TC.seq ?_
      refine TC.block ?_
      refine TC.seq ?_
      refine TC.region ?_
      refine TL.move rfl rfl ?_
      refine TL.eql rfl rfl rfl ?_
      refine TL.move rfl rfl ?_
      refine TL.gno rfl rfl rfl rfl ?_
      refine TL.gno rfl rfl rfl rfl ?_
      refine TL.pickF rfl rfl rfl rfl ?_
      refine TL.assign rfl rfl ?_
      refine TL.nil ?_
      refine TQ.then_n ?_
      refine TC.cond_f rfl ?_
      refine TC.seq ?_
      refine TC.region ?_
      refine TL.move rfl rfl ?_
      refine TL.eql rfl rfl rfl ?_
      refine TL.move rfl rfl ?_
      refine TL.gno rfl rfl rfl rfl ?_
      refine TL.gno rfl rfl rfl rfl ?_
      refine TL.pickF rfl rfl rfl rfl ?_
      refine TL.move rfl rfl ?_
      refine TL.gyes rfl rfl rfl ?_
      refine TL.move rfl rfl ?_
      refine TL.gyes rfl rfl rfl ?_
      refine TL.eql rfl rfl rfl ?_
      refine TL.gyes rfl rfl rfl ?_
      refine TL.move rfl rfl ?_
      refine TL.gno rfl rfl rfl rfl ?_
      refine TL.gno rfl rfl rfl rfl ?_
      refine TL.gyes rfl rfl rfl ?_
      refine TL.pickF rfl rfl rfl rfl ?_
      refine TL.pickF rfl rfl rfl rfl ?_
      refine TL.assign rfl rfl ?_
      refine TL.nil ?_
      refine TQ.then_n ?_
      refine TC.cond_f rfl ?_
      refine TC.seq ?_
      refine TC.region ?_
      refine TL.move rfl rfl ?_
      refine TL.eql rfl rfl rfl ?_
      refine TL.assign rfl rfl ?_
      refine TL.nil ?_
      refine TQ.then_n ?_
      refine TC.cond_f rfl ?_
      refine TC.seq ?_
      refine TC.region ?_
      refine TL.move rfl rfl ?_
      refine TL.eql rfl rfl rfl ?_
      refine TL.assign rfl rfl ?_
      refine TL.nil ?_
      refine TQ.then_n ?_
      refine TC.cond_f rfl ?_
      refine TC.seq ?_
      refine TC.region ?_
      refine TL.move rfl rfl ?_
      refine TL.eql rfl rfl rfl ?_
      refine TL.move rfl rfl ?_
      refine TL.gyes rfl rfl rfl ?_
      refine TL.move rfl rfl ?_
      refine TL.gyes rfl rfl rfl ?_
      refine TL.eql rfl rfl rfl ?_
      refine TL.pickT rfl rfl rfl rfl ?_
      refine TL.assign rfl rfl ?_
      refine TL.nil ?_
      refine TQ.then_n ?_
      refine TC.cond_t rfl ?_
      refine TC.seq ?_
      refine TC.drawQV 13  [(0, _), (1, _), (2, _), (3, _), (4, _), (5, _), (7, _), (8, _), (9, _), (12, _), (13, _), (14, _)] follows_mixed ⟨rfl, rfl, rfl, rfl, rfl, rfl, rfl, rfl, rfl, rfl, rfl, rfl, trivial⟩ ?_
      refine ChainV.q (some 74) [] (by
       intro H' X F hle
       have hL := Le.trans hL hle
       have hA := rd.mono hle hA
       have hb := RdL.mono hle hb
       have hca := cel_le hle hca
       have hcb := cel_le hle hcb
       have hpl := hAt.mono hle hpl
       have hpr := hAt.mono hle hpr
       have hlt := RdL.mono hle hlt
       have hrt := RdL.mono hle hrt
       have hlog := RLog.mono hle hlog
       intro hF
       refine TL.move rfl rfl ?_
       refine TL.nil ?_
       exact TQ.one [] hF (Le.refl _) ⟨rfl, rfl⟩) ?_
      refine ChainV.q (some 75) [] (by
       intro H' X F hle
       have hL := Le.trans hL hle
       have hA := rd.mono hle hA
       have hb := RdL.mono hle hb
       have hca := cel_le hle hca
       have hcb := cel_le hle hcb
       have hpl := hAt.mono hle hpl
       have hpr := hAt.mono hle hpr
       have hlt := RdL.mono hle hlt
       have hrt := RdL.mono hle hrt
       have hlog := RLog.mono hle hlog
       intro hF
       refine TL.load_ownA 2 0 [_, _] rfl rfl rfl ⟨rfl, rfl, trivial⟩ rfl rfl ?_
       refine TL.nil ?_
       exact TQ.one [] hF (Le.refl _) ⟨rfl, rfl⟩) ?_
      refine ChainV.q (some 76) [] (by
       intro H' X F hle
       have hL := Le.trans hL hle
       have hA := rd.mono hle hA
       have hb := RdL.mono hle hb
       have hca := cel_le hle hca
       have hcb := cel_le hle hcb
       have hpl := hAt.mono hle hpl
       have hpr := hAt.mono hle hpr
       have hlt := RdL.mono hle hlt
       have hrt := RdL.mono hle hrt
       have hlog := RLog.mono hle hlog
       intro hF
       refine TL.fieldAddr rfl rfl ?_
       refine TL.nil ?_
       exact TQ.one [] hF (Le.refl _) ⟨rfl, rfl⟩) ?_
      refine ChainV.q (some 77) [(2, 0)] (by
       intro H' X F hle
       have hL := Le.trans hL hle
       have hA := rd.mono hle hA
       have hb := RdL.mono hle hb
       have hca := cel_le hle hca
       have hcb := cel_le hle hcb
       have hpl := hAt.mono hle hpl
       have hpr := hAt.mono hle hpr
       have hlt := RdL.mono hle hlt
       have hrt := RdL.mono hle hrt
       have hlog := RLog.mono hle hlog
       intro hF
       refine TL.load_own 1 0 rfl rfl rfl rfl rfl ?_
       refine TL.nil ?_
       exact TQ.one [] hF (Le.refl _) ⟨rfl, rfl⟩) ?_
      refine ChainV.q (some 78) [] (by
       intro H' X F hle
       have hL := Le.trans hL hle
       have hA := rd.mono hle hA
       have hb := RdL.mono hle hb
       have hca := cel_le hle hca
       have hcb := cel_le hle hcb
       have hpl := hAt.mono hle hpl
       have hpr := hAt.mono hle hpr
       have hlt := RdL.mono hle hlt
       have hrt := RdL.mono hle hrt
       have hlog := RLog.mono hle hlog
       intro hF
       refine TL.move rfl rfl ?_
       refine TL.nil ?_
       exact TQ.one [] hF (Le.refl _) ⟨rfl, rfl⟩) ?_
      refine ChainV.q (some 79) [(3, 1), (4, 0)] (by
       intro H' X F hle
       have hL := Le.trans hL hle
       have hA := rd.mono hle hA
       have hb := RdL.mono hle hb
       have hca := cel_le hle hca
       have hcb := cel_le hle hcb
       have hpl := hAt.mono hle hpl
       have hpr := hAt.mono hle hpr
       have hlt := RdL.mono hle hlt
       have hrt := RdL.mono hle hrt
       have hlog := RLog.mono hle hlog
       intro hF
       refine TL.indexAddr (i) rfl rfl rfl (by omega) rfl ?_
       refine TL.nil ?_
       exact TQ.one [] hF (Le.refl _) ⟨rfl, rfl⟩) ?_
      refine ChainV.q (some 80) [(5, 0)] (by
       intro H' X F hle
       have hL := Le.trans hL hle
       have hA := rd.mono hle hA
       have hb := RdL.mono hle hb
       have hca := cel_le hle hca
       have hcb := cel_le hle hcb
       have hpl := hAt.mono hle hpl
       have hpr := hAt.mono hle hpr
       have hlt := RdL.mono hle hlt
       have hrt := RdL.mono hle hrt
       have hlog := RLog.mono hle hlog
       intro hF
       refine TL.load_immA rfl (hpl) rfl rfl ?_
       refine TL.nil ?_
       exact TQ.one [] hF (Le.refl _) ⟨rfl, rfl⟩) ?_
      refine ChainV.q (some 81) [] (by
       intro H' X F hle
       have hL := Le.trans hL hle
       have hA := rd.mono hle hA
       have hb := RdL.mono hle hb
       have hca := cel_le hle hca
       have hcb := cel_le hle hcb
       have hpl := hAt.mono hle hpl
       have hpr := hAt.mono hle hpr
       have hlt := RdL.mono hle hlt
       have hrt := RdL.mono hle hrt
       have hlog := RLog.mono hle hlog
       intro hF
       refine TL.fieldAddr rfl rfl ?_
       refine TL.nil ?_
       exact TQ.one [] hF (Le.refl _) ⟨rfl, rfl⟩) ?_
      refine ChainV.q (some 82) [(7, 0)] (by
       intro H' X F hle
       have hL := Le.trans hL hle
       have hA := rd.mono hle hA
       have hb := RdL.mono hle hb
       have hca := cel_le hle hca
       have hcb := cel_le hle hcb
       have hpl := hAt.mono hle hpl
       have hpr := hAt.mono hle hpr
       have hlt := RdL.mono hle hlt
       have hrt := RdL.mono hle hrt
       have hlog := RLog.mono hle hlog
       intro hF
       refine TL.load_own 0 0 rfl rfl rfl rfl rfl ?_
       refine TL.nil ?_
       exact TQ.one [] hF (Le.refl _) ⟨rfl, rfl⟩) ?_
      refine ChainV.q (some 83) [] (by
       intro H' X F hle
       have hL := Le.trans hL hle
       have hA := rd.mono hle hA
       have hb := RdL.mono hle hb
       have hca := cel_le hle hca
       have hcb := cel_le hle hcb
       have hpl := hAt.mono hle hpl
       have hpr := hAt.mono hle hpr
       have hlt := RdL.mono hle hlt
       have hrt := RdL.mono hle hrt
       have hlog := RLog.mono hle hlog
       intro hF
       refine TL.move rfl rfl ?_
       refine TL.nil ?_
       exact TQ.one [] hF (Le.refl _) ⟨rfl, rfl⟩) ?_
      refine ChainV.q (some 84) [(8, 1), (9, 0)] (by
       intro H' X F hle
       have hL := Le.trans hL hle
       have hA := rd.mono hle hA
       have hb := RdL.mono hle hb
       have hca := cel_le hle hca
       have hcb := cel_le hle hcb
       have hpl := hAt.mono hle hpl
       have hpr := hAt.mono hle hpr
       have hlt := RdL.mono hle hlt
       have hrt := RdL.mono hle hrt
       have hlog := RLog.mono hle hlog
       intro hF
       refine TL.indexAddr (i) rfl rfl rfl (by omega) rfl ?_
       refine TL.nil ?_
       exact TQ.one [] hF (Le.refl _) ⟨rfl, rfl⟩) ?_
      refine ChainV.q (some 85) [(10, 0)] (by
       intro H' X F hle
       have hL := Le.trans hL hle
       have hA := rd.mono hle hA
       have hb := RdL.mono hle hb
       have hca := cel_le hle hca
       have hcb := cel_le hle hcb
       have hpl := hAt.mono hle hpl
       have hpr := hAt.mono hle hpr
       have hlt := RdL.mono hle hlt
       have hrt := RdL.mono hle hrt
       have hlog := RLog.mono hle hlog
       intro hF
       refine TL.load_immA rfl (hpr) rfl rfl ?_
       refine TL.nil ?_
       exact TQ.one [] hF (Le.refl _) ⟨rfl, rfl⟩) ?_
      refine ChainV.q (some 86) [] (by
       intro H' X F hle
       have hL := Le.trans hL hle
       have hA := rd.mono hle hA
       have hb := RdL.mono hle hb
       have hca := cel_le hle hca
       have hcb := cel_le hle hcb
       have hpl := hAt.mono hle hpl
       have hpr := hAt.mono hle hpr
       have hlt := RdL.mono hle hlt
       have hrt := RdL.mono hle hrt
       have hlog := RLog.mono hle hlog
       intro hF
       refine TL.move rfl rfl ?_
       refine TL.nil ?_
       exact TQ.one [] hF (Le.refl _) ⟨rfl, rfl⟩) ?_
      refine ⟨by kernel_rfl, .refl _, ?_⟩
      ·
       intro H1 hle
       have hL := Le.trans hL hle
       have hA := rd.mono hle hA
       have hb := RdL.mono hle hb
       have hca := cel_le hle hca
       have hcb := cel_le hle hcb
       have hpl := hAt.mono hle hpl
       have hpr := hAt.mono hle hpr
       have hlt := RdL.mono hle hlt
       have hrt := RdL.mono hle hrt
       have hlog := RLog.mono hle hlog
       refine TL.toOwn (own' := _ :: _ :: _ :: _ :: own) rfl ?_
       refine TL.wk (env' := [(0, _), (1, _), (2, _), (3, _), (4, _), (5, _), (7, _), (8, _), (9, _), (12, _), (13, _), (14, _), (74, _), (75, _), (80, _), (85, _), (86, _)]) ⟨rfl, rfl, rfl, rfl, rfl, rfl, rfl, rfl, rfl, rfl, rfl, rfl, rfl, rfl, rfl, rfl, rfl, trivial⟩ ?_
       refine TL.sel 4 [3, 0, 1, 2] rfl (fun o ho => ?_)
       simp only [K.sel, List.map_cons, List.map_nil, List.getD_cons_zero, List.getD_cons_succ, List.drop_succ_cons, List.drop_zero, List.cons_append, List.nil_append, List.set_cons_zero, List.set_cons_succ] at ho; subst ho
       refine TL.call (hN hls hrs hp hps hb hlt hrt hA hlog) ⟨rfl, rfl, rfl, rfl, rfl, trivial⟩ rfl ?_
       rintro _ _ H2 ⟨c0, c1, u2, rfl, hz, rfl, hlog2, hle2⟩
       have hL := Le.trans hL hle2
       have hA := rd.mono hle2 hA
       have hb := RdL.mono hle2 hb
       have hca := cel_le hle2 hca
       have hcb := cel_le hle2 hcb
       have hpl := hAt.mono hle2 hpl
       have hpr := hAt.mono hle2 hpr
       have hlt := RdL.mono hle2 hlt
       have hrt := RdL.mono hle2 hrt
       have hlog := RLog.mono hle2 hlog
       refine TL.litF (r := [_, _]) [(0, [_, _])] ⟨rfl, ⟨_, rfl, rfl⟩, trivial⟩ rfl rfl rfl rfl ?_; intro g88
       refine TL.assign rfl rfl ?_
       refine TL.nil ?_
       refine TQ.then_n ?_
       refine TC.ret ?_
       refine TQ.in_r ?_
       refine TQ.then_r ?_
       refine TQ.freeze (fun H2 hle hz_g88 => ?_)
       have hL := Le.trans hL hle
       have hA := rd.mono hle hA
       have hb := RdL.mono hle hb
       have hca := cel_le hle hca
       have hcb := cel_le hle hcb
       have hpl := hAt.mono hle hpl
       have hpr := hAt.mono hle hpr
       have hlt := RdL.mono hle hlt
       have hrt := RdL.mono hle hrt
       have hlog := RLog.mono hle hlog
       have hz := RdL.mono hle hz
       have hlog2 := RLog.mono hle hlog2
       refine TQ.sel 4 [0] rfl (fun o ho => ?_)
       simp only [K.sel, List.map_cons, List.map_nil, List.getD_cons_zero, List.getD_cons_succ, List.drop_succ_cons, List.drop_zero, List.cons_append, List.nil_append, List.set_cons_zero, List.set_cons_succ] at ho; subst ho
       refine TQ.ret1 0 rfl rfl ?_
       exact ⟨_, by rw [kp_11 g1 g2]; exact rd.one_tree hz_g88 hz (Le.refl _), rfl, by rw [kp_11 g1 g2]; exact hlog2, hL⟩
    · rw [g1] at hca
      rw [g2] at hcb
      refine Fn.enter Try.func74 rfl Try.ntmps74 rfl ?_
      have hL := Le.refl H
      refine TC.seq ?_
      refine TC.region ?_
      refine TL.box (c := #[_, _]) rfl rfl rfl ?_; intro g7
      refine TL.box (c := #[_, _, _]) rfl rfl rfl ?_; intro g8
      refine TL.box (c := #[_, _, _]) rfl rfl rfl ?_; intro g9
      refine TL.assign rfl rfl ?_
      refine TL.nil ?_
      refine TQ.then_n ?_
      refine TC.seq ?_
      refine TC.region ?_
      refine TL.fieldAddr rfl rfl ?_
      refine TL.load_own 1 0 rfl rfl rfl rfl rfl ?_
      refine TL.move rfl rfl ?_
      refine TL.indexAddr (i) rfl rfl rfl (by omega) rfl ?_
      refine TL.load_imm rfl (hca) rfl ?_
      refine TL.assign rfl rfl ?_
      refine TL.nil ?_
      refine TQ.then_n ?_
      refine TC.seq ?_
      refine TC.region ?_
      refine TL.fieldAddr rfl rfl ?_
      refine TL.load_own 0 0 rfl rfl rfl rfl rfl ?_
      refine TL.move rfl rfl ?_
      refine TL.indexAddr (i) rfl rfl rfl (by omega) rfl ?_
      refine TL.load_imm rfl (hcb) rfl ?_
      refine TL.assign rfl rfl ?_
      refine TL.nil ?_
      refine TQ.then_n ?_
      refine TC.seq ?_
      refine TC.block ?_
      refine TC.seq ?_
      refine TC.region ?_
      refine TL.move rfl rfl ?_
      refine TL.eql rfl rfl rfl ?_
      refine TL.move rfl rfl ?_
      refine TL.gno rfl rfl rfl rfl ?_
      refine TL.gno rfl rfl rfl rfl ?_
      refine TL.pickF rfl rfl rfl rfl ?_
      refine TL.assign rfl rfl ?_
      refine TL.nil ?_
      refine TQ.then_n ?_
      refine TC.cond_f rfl ?_
      refine TC.seq ?_
      refine TC.region ?_
      refine TL.move rfl rfl ?_
      refine TL.eql rfl rfl rfl ?_
      refine TL.move rfl rfl ?_
      refine TL.gno rfl rfl rfl rfl ?_
      refine TL.gno rfl rfl rfl rfl ?_
      refine TL.pickF rfl rfl rfl rfl ?_
      refine TL.move rfl rfl ?_
      refine TL.gyes rfl rfl rfl ?_
      refine TL.move rfl rfl ?_
      refine TL.gyes rfl rfl rfl ?_
      refine TL.eql rfl rfl rfl ?_
      refine TL.gyes rfl rfl rfl ?_
      refine TL.move rfl rfl ?_
      refine TL.gyes rfl rfl rfl ?_
      refine TL.move rfl rfl ?_
      refine TL.gyes rfl rfl rfl ?_
      refine TL.neq rfl rfl rfl ?_
      refine TL.gyes rfl rfl rfl ?_
      refine TL.pickT rfl rfl rfl rfl ?_
      refine TL.pickF rfl rfl rfl rfl ?_
      refine TL.assign rfl rfl ?_
      refine TL.nil ?_
      refine TQ.then_n ?_
      refine TC.cond_f rfl ?_
      refine TC.seq ?_
      refine TC.region ?_
      refine TL.move rfl rfl ?_
      refine TL.eql rfl rfl rfl ?_
      refine TL.assign rfl rfl ?_
      refine TL.nil ?_
      refine TQ.then_n ?_
      refine TC.cond_f rfl ?_
      refine TC.seq ?_
      refine TC.region ?_
      refine TL.move rfl rfl ?_
      refine TL.eql rfl rfl rfl ?_
      refine TL.assign rfl rfl ?_
      refine TL.nil ?_
      refine TQ.then_n ?_
      refine TC.cond_f rfl ?_
      refine TC.seq ?_
      refine TC.region ?_
      refine TL.move rfl rfl ?_
      refine TL.eql rfl rfl rfl ?_
      refine TL.move rfl rfl ?_
      refine TL.gyes rfl rfl rfl ?_
      refine TL.move rfl rfl ?_
      refine TL.gyes rfl rfl rfl ?_
      refine TL.eql rfl rfl rfl ?_
      refine TL.pickT rfl rfl rfl rfl ?_
      refine TL.assign rfl rfl ?_
      refine TL.nil ?_
      refine TQ.then_n ?_
      refine TC.cond_f rfl ?_
      refine TC.skip ?_
      refine TQ.in_n ?_
      refine TQ.then_n ?_
      refine TC.seq ?_
      refine TC.region ?_
      refine TL.move rfl rfl ?_
      refine TL.move rfl rfl ?_
      refine TL.sel 4 [3, 0, 1, 2] rfl (fun o ho => ?_)
      simp only [K.sel, List.map_cons, List.map_nil, List.getD_cons_zero, List.getD_cons_succ, List.drop_succ_cons, List.drop_zero, List.cons_append, List.nil_append, List.set_cons_zero, List.set_cons_succ] at ho; subst ho
      refine TL.call (ref_conflict (by omega) hA hlog) ⟨rfl, rfl, trivial⟩ rfl ?_
      rintro _ _ H3 ⟨u3, rfl, rfl, hlog3, hle3⟩
      replace hlog3 : RLog _ u3 _ := hlog3
      have hL := Le.trans hL hle3
      have hA := rd.mono hle3 hA
      have hb := RdL.mono hle3 hb
      have hca := cel_le hle3 hca
      have hcb := cel_le hle3 hcb
      have hpl := hAt.mono hle3 hpl
      have hpr := hAt.mono hle3 hpr
      have hlt := RdL.mono hle3 hlt
      have hrt := RdL.mono hle3 hrt
      have hlog := RLog.mono hle3 hlog
      refine TL.nil ?_
      refine TQ.then_n ?_
      refine TC.seq ?_
      refine TC.region ?_
      refine TL.assign rfl rfl ?_
      refine TL.nil ?_
      refine TQ.then_n ?_
      refine TC.ret ?_
      refine TQ.sel 4 [0] rfl (fun o ho => ?_)
      simp only [K.sel, List.map_cons, List.map_nil, List.getD_cons_zero, List.getD_cons_succ, List.drop_succ_cons, List.drop_zero, List.cons_append, List.nil_append, List.set_cons_zero, List.set_cons_succ] at ho; subst ho
      refine TQ.ret1 0 rfl rfl ?_
      exact ⟨_, by rw [kp_c (by omega)]; exact rd.nil _ _, rfl, by rw [kp_c (by omega)]; exact hlog3, hL⟩
  · rcases tag_in f2 with g2 | g2 | g2
    · rw [g1] at hca
      rw [g2] at hcb
      refine Fn.enter Try.func74 rfl Try.ntmps74 rfl ?_
      have hL := Le.refl H
      refine TC.seq ?_
      refine TC.region ?_
      refine TL.box (c := #[_, _]) rfl rfl rfl ?_; intro g7
      refine TL.box (c := #[_, _, _]) rfl rfl rfl ?_; intro g8
      refine TL.box (c := #[_, _, _]) rfl rfl rfl ?_; intro g9
      refine TL.assign rfl rfl ?_
      refine TL.nil ?_
      refine TQ.then_n ?_
      refine TC.seq ?_
      refine TC.region ?_
      refine TL.fieldAddr rfl rfl ?_
      refine TL.load_own 1 0 rfl rfl rfl rfl rfl ?_
      refine TL.move rfl rfl ?_
      refine TL.indexAddr (i) rfl rfl rfl (by omega) rfl ?_
      refine TL.load_imm rfl (hca) rfl ?_
      refine TL.assign rfl rfl ?_
      refine TL.nil ?_
      refine TQ.then_n ?_
      refine TC.seq ?_
      refine TC.region ?_
      refine TL.fieldAddr rfl rfl ?_
      refine TL.load_own 0 0 rfl rfl rfl rfl rfl ?_
      refine TL.move rfl rfl ?_
      refine TL.indexAddr (i) rfl rfl rfl (by omega) rfl ?_
      refine TL.load_imm rfl (hcb) rfl ?_
      refine TL.assign rfl rfl ?_
      refine TL.nil ?_
      refine TQ.then_n ?_
      refine TC.seq ?_
      refine TC.block ?_
      refine TC.seq ?_
      refine TC.region ?_
      refine TL.move rfl rfl ?_
      refine TL.eql rfl rfl rfl ?_
      refine TL.move rfl rfl ?_
      refine TL.gno rfl rfl rfl rfl ?_
      refine TL.gno rfl rfl rfl rfl ?_
      refine TL.pickF rfl rfl rfl rfl ?_
      refine TL.assign rfl rfl ?_
      refine TL.nil ?_
      refine TQ.then_n ?_
      refine TC.cond_f rfl ?_
      refine TC.seq ?_
      refine TC.region ?_
      refine TL.move rfl rfl ?_
      refine TL.eql rfl rfl rfl ?_
      refine TL.move rfl rfl ?_
      refine TL.gyes rfl rfl rfl ?_
      refine TL.move rfl rfl ?_
      refine TL.gyes rfl rfl rfl ?_
      refine TL.neq rfl rfl rfl ?_
      refine TL.pickT rfl rfl rfl rfl ?_
      refine TL.move rfl rfl ?_
      refine TL.gno rfl rfl rfl rfl ?_
      refine TL.gno rfl rfl rfl rfl ?_
      refine TL.gno rfl rfl rfl rfl ?_
      refine TL.gund rfl rfl rfl ?_
      refine TL.gund rfl rfl rfl ?_
      refine TL.gno rfl rfl rfl rfl ?_
      refine TL.pickT rfl rfl rfl rfl ?_
      refine TL.assign rfl rfl ?_
      refine TL.nil ?_
      refine TQ.then_n ?_
      refine TC.cond_t rfl ?_
      refine TC.seq ?_
      refine TC.region ?_
      refine TL.assign rfl rfl ?_
      refine TL.nil ?_
      refine TQ.then_n ?_
      refine TC.ret ?_
      refine TQ.in_r ?_
      refine TQ.then_r ?_
      refine TQ.sel 4 [3] rfl (fun o ho => ?_)
      simp only [K.sel, List.map_cons, List.map_nil, List.getD_cons_zero, List.getD_cons_succ, List.drop_succ_cons, List.drop_zero, List.cons_append, List.nil_append, List.set_cons_zero, List.set_cons_succ] at ho; subst ho
      refine TQ.ret1 0 rfl rfl ?_
      exact ⟨_, by rw [kp_n (by omega)]; exact rd.nil _ _, rfl, by rw [kp_n (by omega)]; exact hlog, hL⟩
    · rw [g1] at hca
      rw [g2] at hcb
      refine Fn.enter Try.func74 rfl Try.ntmps74 rfl ?_
      have hL := Le.refl H
      refine TC.seq ?_
      refine TC.region ?_
      refine TL.box (c := #[_, _]) rfl rfl rfl ?_; intro g7
      refine TL.box (c := #[_, _, _]) rfl rfl rfl ?_; intro g8
      refine TL.box (c := #[_, _, _]) rfl rfl rfl ?_; intro g9
      refine TL.assign rfl rfl ?_
      refine TL.nil ?_
      refine TQ.then_n ?_
      refine TC.seq ?_
      refine TC.region ?_
      refine TL.fieldAddr rfl rfl ?_
      refine TL.load_own 1 0 rfl rfl rfl rfl rfl ?_
      refine TL.move rfl rfl ?_
      refine TL.indexAddr (i) rfl rfl rfl (by omega) rfl ?_
      refine TL.load_imm rfl (hca) rfl ?_
      refine TL.assign rfl rfl ?_
      refine TL.nil ?_
      refine TQ.then_n ?_
      refine TC.seq ?_
      refine TC.region ?_
      refine TL.fieldAddr rfl rfl ?_
      refine TL.load_own 0 0 rfl rfl rfl rfl rfl ?_
      refine TL.move rfl rfl ?_
      refine TL.indexAddr (i) rfl rfl rfl (by omega) rfl ?_
      refine TL.load_imm rfl (hcb) rfl ?_
      refine TL.assign rfl rfl ?_
      refine TL.nil ?_
      refine TQ.then_n ?_
      refine TC.seq ?_
      refine TC.block ?_
      refine TC.seq ?_
      refine TC.region ?_
      refine TL.move rfl rfl ?_
      refine TL.eql rfl rfl rfl ?_
      refine TL.move rfl rfl ?_
      refine TL.gno rfl rfl rfl rfl ?_
      refine TL.gno rfl rfl rfl rfl ?_
      refine TL.pickF rfl rfl rfl rfl ?_
      refine TL.assign rfl rfl ?_
      refine TL.nil ?_
      refine TQ.then_n ?_
      refine TC.cond_f rfl ?_
      refine TC.seq ?_
      refine TC.region ?_
      refine TL.move rfl rfl ?_
      refine TL.eql rfl rfl rfl ?_
      refine TL.move rfl rfl ?_
      refine TL.gyes rfl rfl rfl ?_
      refine TL.move rfl rfl ?_
      refine TL.gyes rfl rfl rfl ?_
      refine TL.neq rfl rfl rfl ?_
      refine TL.pickT rfl rfl rfl rfl ?_
      refine TL.move rfl rfl ?_
      refine TL.gyes rfl rfl rfl ?_
      refine TL.move rfl rfl ?_
      refine TL.gyes rfl rfl rfl ?_
      refine TL.eql rfl rfl rfl ?_
      refine TL.gyes rfl rfl rfl ?_
      refine TL.move rfl rfl ?_
      refine TL.gno rfl rfl rfl rfl ?_
      refine TL.gno rfl rfl rfl rfl ?_
      refine TL.gyes rfl rfl rfl ?_
      refine TL.pickF rfl rfl rfl rfl ?_
      refine TL.pickF rfl rfl rfl rfl ?_
      refine TL.assign rfl rfl ?_
      refine TL.nil ?_
      refine TQ.then_n ?_
      refine TC.cond_f rfl ?_
      refine TC.seq ?_
      refine TC.region ?_
      refine TL.move rfl rfl ?_
      refine TL.eql rfl rfl rfl ?_
      refine TL.assign rfl rfl ?_
      refine TL.nil ?_
      refine TQ.then_n ?_
      refine TC.cond_f rfl ?_
      refine TC.seq ?_
      refine TC.region ?_
      refine TL.move rfl rfl ?_
      refine TL.eql rfl rfl rfl ?_
      refine TL.assign rfl rfl ?_
      refine TL.nil ?_
      refine TQ.then_n ?_
      refine TC.cond_f rfl ?_
      refine TC.seq ?_
      refine TC.region ?_
      refine TL.move rfl rfl ?_
      refine TL.eql rfl rfl rfl ?_
      refine TL.move rfl rfl ?_
      refine TL.gno rfl rfl rfl rfl ?_
      refine TL.gno rfl rfl rfl rfl ?_
      refine TL.pickF rfl rfl rfl rfl ?_
      refine TL.assign rfl rfl ?_
      refine TL.nil ?_
      refine TQ.then_n ?_
      refine TC.cond_f rfl ?_
      refine TC.skip ?_
      refine TQ.in_n ?_
      refine TQ.then_n ?_
      refine TC.seq ?_
      refine TC.region ?_
      refine TL.move rfl rfl ?_
      refine TL.move rfl rfl ?_
      refine TL.sel 4 [3, 0, 1, 2] rfl (fun o ho => ?_)
      simp only [K.sel, List.map_cons, List.map_nil, List.getD_cons_zero, List.getD_cons_succ, List.drop_succ_cons, List.drop_zero, List.cons_append, List.nil_append, List.set_cons_zero, List.set_cons_succ] at ho; subst ho
      refine TL.call (ref_conflict (by omega) hA hlog) ⟨rfl, rfl, trivial⟩ rfl ?_
      rintro _ _ H3 ⟨u3, rfl, rfl, hlog3, hle3⟩
      replace hlog3 : RLog _ u3 _ := hlog3
      have hL := Le.trans hL hle3
      have hA := rd.mono hle3 hA
      have hb := RdL.mono hle3 hb
      have hca := cel_le hle3 hca
      have hcb := cel_le hle3 hcb
      have hpl := hAt.mono hle3 hpl
      have hpr := hAt.mono hle3 hpr
      have hlt := RdL.mono hle3 hlt
      have hrt := RdL.mono hle3 hrt
      have hlog := RLog.mono hle3 hlog
      refine TL.nil ?_
      refine TQ.then_n ?_
      refine TC.seq ?_
      refine TC.region ?_
      refine TL.assign rfl rfl ?_
      refine TL.nil ?_
      refine TQ.then_n ?_
      refine TC.ret ?_
      refine TQ.sel 4 [0] rfl (fun o ho => ?_)
      simp only [K.sel, List.map_cons, List.map_nil, List.getD_cons_zero, List.getD_cons_succ, List.drop_succ_cons, List.drop_zero, List.cons_append, List.nil_append, List.set_cons_zero, List.set_cons_succ] at ho; subst ho
      refine TQ.ret1 0 rfl rfl ?_
      exact ⟨_, by rw [kp_c (by omega)]; exact rd.nil _ _, rfl, by rw [kp_c (by omega)]; exact hlog3, hL⟩
    · rw [g1] at hca
      rw [g2] at hcb
      refine Fn.enter Try.func74 rfl Try.ntmps74 rfl ?_
      have hL := Le.refl H
      refine TC.seq ?_
      refine TC.region ?_
      refine TL.box (c := #[_, _]) rfl rfl rfl ?_; intro g7
      refine TL.box (c := #[_, _, _]) rfl rfl rfl ?_; intro g8
      refine TL.box (c := #[_, _, _]) rfl rfl rfl ?_; intro g9
      refine TL.assign rfl rfl ?_
      refine TL.nil ?_
      refine TQ.then_n ?_
      refine TC.seq ?_
      refine TC.region ?_
      refine TL.fieldAddr rfl rfl ?_
      refine TL.load_own 1 0 rfl rfl rfl rfl rfl ?_
      refine TL.move rfl rfl ?_
      refine TL.indexAddr (i) rfl rfl rfl (by omega) rfl ?_
      refine TL.load_imm rfl (hca) rfl ?_
      refine TL.assign rfl rfl ?_
      refine TL.nil ?_
      refine TQ.then_n ?_
      refine TC.seq ?_
      refine TC.region ?_
      refine TL.fieldAddr rfl rfl ?_
      refine TL.load_own 0 0 rfl rfl rfl rfl rfl ?_
      refine TL.move rfl rfl ?_
      refine TL.indexAddr (i) rfl rfl rfl (by omega) rfl ?_
      refine TL.load_imm rfl (hcb) rfl ?_
      refine TL.assign rfl rfl ?_
      refine TL.nil ?_
      refine TQ.then_n ?_
      refine TC.seq ?_
      refine TC.block ?_
      refine TC.seq ?_
      refine TC.region ?_
      refine TL.move rfl rfl ?_
      refine TL.eql rfl rfl rfl ?_
      refine TL.move rfl rfl ?_
      refine TL.gno rfl rfl rfl rfl ?_
      refine TL.gno rfl rfl rfl rfl ?_
      refine TL.pickF rfl rfl rfl rfl ?_
      refine TL.assign rfl rfl ?_
      refine TL.nil ?_
      refine TQ.then_n ?_
      refine TC.cond_f rfl ?_
      refine TC.seq ?_
      refine TC.region ?_
      refine TL.move rfl rfl ?_
      refine TL.eql rfl rfl rfl ?_
      refine TL.move rfl rfl ?_
      refine TL.gyes rfl rfl rfl ?_
      refine TL.move rfl rfl ?_
      refine TL.gyes rfl rfl rfl ?_
      refine TL.neq rfl rfl rfl ?_
      refine TL.pickT rfl rfl rfl rfl ?_
      refine TL.move rfl rfl ?_
      refine TL.gno rfl rfl rfl rfl ?_
      refine TL.gno rfl rfl rfl rfl ?_
      refine TL.gno rfl rfl rfl rfl ?_
      refine TL.gund rfl rfl rfl ?_
      refine TL.gund rfl rfl rfl ?_
      refine TL.gno rfl rfl rfl rfl ?_
      refine TL.pickT rfl rfl rfl rfl ?_
      refine TL.assign rfl rfl ?_
      refine TL.nil ?_
      refine TQ.then_n ?_
      refine TC.cond_t rfl ?_
      refine TC.seq ?_
      refine TC.region ?_
      refine TL.assign rfl rfl ?_
      refine TL.nil ?_
      refine TQ.then_n ?_
      refine TC.ret ?_
      refine TQ.in_r ?_
      refine TQ.then_r ?_
      refine TQ.sel 4 [3] rfl (fun o ho => ?_)
      simp only [K.sel, List.map_cons, List.map_nil, List.getD_cons_zero, List.getD_cons_succ, List.drop_succ_cons, List.drop_zero, List.cons_append, List.nil_append, List.set_cons_zero, List.set_cons_succ] at ho; subst ho
      refine TQ.ret1 0 rfl rfl ?_
      exact ⟨_, by rw [kp_n (by omega)]; exact rd.nil _ _, rfl, by rw [kp_n (by omega)]; exact hlog, hL⟩

theorem fold_app (a b : List Path) (ps : List Path) : (a ++ b).foldl addP ps = b.foldl addP (a.foldl addP ps) := List.foldl_append ..
theorem ref_node (k : Nat) : ∀ b : Tr, b.size ≤ k → k ≤ 8192 → RNodeOk (mergeF k) b := by
  induction k with
  | zero => intro b h; have := b.size_pos; omega
  | succ k ih =>
    rintro ⟨bl, bk⟩ hk hk2
    intro l r p ps w0 H own gm e u b0 b1 l0 l1 r0 r1 v hls hrs hp hps hb hl hr hA hlog
    obtain ⟨ll, lk⟩ := l
    obtain ⟨rl, rk⟩ := r
    obtain ⟨rfl, Ab, cb, rfl, hcb1, hcb2, hbk⟩ := tr_cells hb
    obtain ⟨rfl, Al, cl, rfl, hcl1, hcl2, hlk⟩ := tr_cells hl
    obtain ⟨rfl, Ar, cr, rfl, hcr1, hcr2, hrk⟩ := tr_cells hr
    have hbs := Tr.len_le bk
    have hlsz := Tr.len_le lk
    have hrsz := Tr.len_le rk
    have hk0 := hk
    simp only [Tr.size] at hls hrs hp hps hk
    have hfl := foldP_len
    refine Fn.enter Try.func49 rfl Try.ntmps49 rfl ?_
    have hL := Le.refl H
    refine TC.seq ?_
    refine TC.region ?_
    refine TL.box (c := #[_, _]) rfl rfl rfl ?_; intro g6
    refine TL.box (c := #[_, _]) rfl rfl rfl ?_; intro g7
    refine TL.box (c := #[_, _]) rfl rfl rfl ?_; intro g8
    refine TL.new rfl ?_; intro g10
    refine TL.nil ?_
    refine TQ.then_n ?_
    refine TC.seq ?_
    refine TC.region ?_
    refine TL.load_ownA 2 0 [_, _] rfl rfl rfl ⟨rfl, rfl, trivial⟩ rfl rfl ?_
    refine TL.load_ownA 3 0 [_, _] rfl rfl rfl ⟨rfl, rfl, trivial⟩ rfl rfl ?_
    refine TL.call (ref_same _ _ _ (Nat.le_refl _) hl hb) ⟨rfl, rfl, trivial⟩ rfl ?_
    rintro _ _ H2 ⟨rfl, rfl, hle2⟩
    have hL := Le.trans hL hle2
    have hA := rd.mono hle2 hA
    have hb := RdL.mono hle2 hb
    have hl := RdL.mono hle2 hl
    have hr := RdL.mono hle2 hr
    have hbk := rd.mono hle2 hbk
    have hlk := rd.mono hle2 hlk
    have hrk := rd.mono hle2 hrk
    have hlog := RLog.mono hle2 hlog
    refine TL.assign rfl rfl ?_
    refine TL.nil ?_
    refine TQ.then_n ?_
    refine TC.seq ?_
    refine TC.region ?_
    refine TL.load_ownA 1 0 [_, _] rfl rfl rfl ⟨rfl, rfl, trivial⟩ rfl rfl ?_
    refine TL.load_ownA 3 0 [_, _] rfl rfl rfl ⟨rfl, rfl, trivial⟩ rfl rfl ?_
    refine TL.call (ref_same _ _ _ (Nat.le_refl _) hr hb) ⟨rfl, rfl, trivial⟩ rfl ?_
    rintro _ _ H3 ⟨rfl, rfl, hle3⟩
    have hL := Le.trans hL hle3
    have hA := rd.mono hle3 hA
    have hb := RdL.mono hle3 hb
    have hl := RdL.mono hle3 hl
    have hr := RdL.mono hle3 hr
    have hbk := rd.mono hle3 hbk
    have hlk := rd.mono hle3 hlk
    have hrk := rd.mono hle3 hrk
    have hlog := RLog.mono hle3 hlog
    by_cases hrb : Tr.node rl rk = Tr.node bl bk
    ·
     rw [Tr.eqb_eq, decide_eq_true hrb]
     refine TL.assign rfl rfl ?_
     refine TL.nil ?_
     refine TQ.then_n ?_
     refine TC.seq ?_
     refine TC.region ?_
     refine TL.load_ownA 2 0 [_, _] rfl rfl rfl ⟨rfl, rfl, trivial⟩ rfl rfl ?_
     refine TL.load_ownA 1 0 [_, _] rfl rfl rfl ⟨rfl, rfl, trivial⟩ rfl rfl ?_
     refine TL.call (ref_same _ _ _ (Nat.le_refl _) hl hr) ⟨rfl, rfl, trivial⟩ rfl ?_
     rintro _ _ H4 ⟨rfl, rfl, hle4⟩
     have hL := Le.trans hL hle4
     have hA := rd.mono hle4 hA
     have hb := RdL.mono hle4 hb
     have hl := RdL.mono hle4 hl
     have hr := RdL.mono hle4 hr
     have hbk := rd.mono hle4 hbk
     have hlk := rd.mono hle4 hlk
     have hrk := rd.mono hle4 hrk
     have hlog := RLog.mono hle4 hlog
     refine TL.assign rfl rfl ?_
     refine TL.nil ?_
     refine TQ.then_n ?_
     refine TC.seq ?_
     refine TC.seq ?_
     refine TC.region ?_
     refine TL.move rfl rfl ?_
     refine TL.nil ?_
     refine TQ.then_n ?_
     refine TC.cond rfl (fun hlb => ?_) (fun hlb => ?_)
     ·
      replace hlb : Tr.node ll lk = Tr.node bl bk := (Tr.eqb_iff _ _).1 (by simpa using hlb)
      refine TC.seq ?_
      refine TC.region ?_
      refine TL.load_ownA 1 0 [_, _] rfl rfl rfl ⟨rfl, rfl, trivial⟩ rfl rfl ?_
      refine TL.storeA 0 0 (c' := #[_, _]) (own' := [(_, .cells #[_, _] _ _)] :: _) rfl rfl rfl rfl rfl (tr_ones hr) (by simp) rfl rfl rfl ?_
      refine TL.nil ?_
      refine TQ.then_n ?_
      refine TC.ret ?_
      refine TQ.then_r ?_
      refine TQ.sel 5 [0, 4] rfl (fun o ho => ?_)
      simp only [K.sel, List.map_cons, List.map_nil, List.getD_cons_zero, List.getD_cons_succ, List.drop_succ_cons, List.drop_zero, List.cons_append, List.nil_append, List.set_cons_zero, List.set_cons_succ] at ho; subst ho
      refine TQ.retC 0 0 1 [_, _] rfl rfl rfl rfl ⟨rfl, rfl, trivial⟩ rfl rfl ?_
      first
        | exact ⟨_, _, _, rfl, by rw [mf_a hlb]; exact hr, rfl, by rw [mf_a hlb]; exact hlog, hL⟩
        | exact ⟨_, _, _, rfl, by rw [mf_b hlb (.inl hrb)]; exact hl, rfl, by rw [mf_b hlb (.inl hrb)]; exact hlog, hL⟩
        | exact ⟨_, _, _, rfl, by rw [mf_b hlb (.inr hlr)]; exact hl, rfl, by rw [mf_b hlb (.inr hlr)]; exact hlog, hL⟩
        | exact ⟨_, _, _, rfl, by rw [mf_c hlb hrb hlr, ← hS]; exact tr_mk (rd.ofRow hrow hz_segk hxs (Le.refl _)), rfl, by rw [mf_c hlb hrb hlr, ← hS]; exact hlog1, hL⟩
     ·
      replace hlb : Tr.node ll lk ≠ Tr.node bl bk := fun h => by rw [Tr.eqb_eq] at hlb; simp [h] at hlb
      refine TC.skip ?_
      refine TQ.then_n ?_
      refine TC.seq ?_
      refine TC.seq ?_
      refine TC.region ?_
      refine TL.move rfl rfl ?_
      refine TL.move rfl rfl ?_
      refine TL.gno rfl rfl rfl rfl ?_
      refine TL.pickT rfl rfl rfl rfl ?_
      refine TL.nil ?_
      refine TQ.then_n ?_
      refine TC.cond_t rfl ?_
      refine TC.seq ?_
      refine TC.region ?_
      refine TL.load_ownA 2 0 [_, _] rfl rfl rfl ⟨rfl, rfl, trivial⟩ rfl rfl ?_
      refine TL.storeA 0 0 (c' := #[_, _]) (own' := [(_, .cells #[_, _] _ _)] :: _) rfl rfl rfl rfl rfl (tr_ones hl) (by simp) rfl rfl rfl ?_
      refine TL.nil ?_
      refine TQ.then_n ?_
      refine TC.ret ?_
      refine TQ.then_r ?_
      refine TQ.sel 5 [0, 4] rfl (fun o ho => ?_)
      simp only [K.sel, List.map_cons, List.map_nil, List.getD_cons_zero, List.getD_cons_succ, List.drop_succ_cons, List.drop_zero, List.cons_append, List.nil_append, List.set_cons_zero, List.set_cons_succ] at ho; subst ho
      refine TQ.retC 0 0 1 [_, _] rfl rfl rfl rfl ⟨rfl, rfl, trivial⟩ rfl rfl ?_
      first
        | exact ⟨_, _, _, rfl, by rw [mf_a hlb]; exact hr, rfl, by rw [mf_a hlb]; exact hlog, hL⟩
        | exact ⟨_, _, _, rfl, by rw [mf_b hlb (.inl hrb)]; exact hl, rfl, by rw [mf_b hlb (.inl hrb)]; exact hlog, hL⟩
        | exact ⟨_, _, _, rfl, by rw [mf_b hlb (.inr hlr)]; exact hl, rfl, by rw [mf_b hlb (.inr hlr)]; exact hlog, hL⟩
        | exact ⟨_, _, _, rfl, by rw [mf_c hlb hrb hlr, ← hS]; exact tr_mk (rd.ofRow hrow hz_segk hxs (Le.refl _)), rfl, by rw [mf_c hlb hrb hlr, ← hS]; exact hlog1, hL⟩
    ·
     rw [Tr.eqb_eq, decide_eq_false hrb]
     refine TL.assign rfl rfl ?_
     refine TL.nil ?_
     refine TQ.then_n ?_
     refine TC.seq ?_
     refine TC.region ?_
     refine TL.load_ownA 2 0 [_, _] rfl rfl rfl ⟨rfl, rfl, trivial⟩ rfl rfl ?_
     refine TL.load_ownA 1 0 [_, _] rfl rfl rfl ⟨rfl, rfl, trivial⟩ rfl rfl ?_
     refine TL.call (ref_same _ _ _ (Nat.le_refl _) hl hr) ⟨rfl, rfl, trivial⟩ rfl ?_
     rintro _ _ H4 ⟨rfl, rfl, hle4⟩
     have hL := Le.trans hL hle4
     have hA := rd.mono hle4 hA
     have hb := RdL.mono hle4 hb
     have hl := RdL.mono hle4 hl
     have hr := RdL.mono hle4 hr
     have hbk := rd.mono hle4 hbk
     have hlk := rd.mono hle4 hlk
     have hrk := rd.mono hle4 hrk
     have hlog := RLog.mono hle4 hlog
     refine TL.assign rfl rfl ?_
     refine TL.nil ?_
     refine TQ.then_n ?_
     refine TC.seq ?_
     refine TC.seq ?_
     refine TC.region ?_
     refine TL.move rfl rfl ?_
     refine TL.nil ?_
     refine TQ.then_n ?_
     refine TC.cond rfl (fun hlb => ?_) (fun hlb => ?_)
     ·
      replace hlb : Tr.node ll lk = Tr.node bl bk := (Tr.eqb_iff _ _).1 (by simpa using hlb)
      refine TC.seq ?_
      refine TC.region ?_
      refine TL.load_ownA 1 0 [_, _] rfl rfl rfl ⟨rfl, rfl, trivial⟩ rfl rfl ?_
      refine TL.storeA 0 0 (c' := #[_, _]) (own' := [(_, .cells #[_, _] _ _)] :: _) rfl rfl rfl rfl rfl (tr_ones hr) (by simp) rfl rfl rfl ?_
      refine TL.nil ?_
      refine TQ.then_n ?_
      refine TC.ret ?_
      refine TQ.then_r ?_
      refine TQ.sel 5 [0, 4] rfl (fun o ho => ?_)
      simp only [K.sel, List.map_cons, List.map_nil, List.getD_cons_zero, List.getD_cons_succ, List.drop_succ_cons, List.drop_zero, List.cons_append, List.nil_append, List.set_cons_zero, List.set_cons_succ] at ho; subst ho
      refine TQ.retC 0 0 1 [_, _] rfl rfl rfl rfl ⟨rfl, rfl, trivial⟩ rfl rfl ?_
      first
        | exact ⟨_, _, _, rfl, by rw [mf_a hlb]; exact hr, rfl, by rw [mf_a hlb]; exact hlog, hL⟩
        | exact ⟨_, _, _, rfl, by rw [mf_b hlb (.inl hrb)]; exact hl, rfl, by rw [mf_b hlb (.inl hrb)]; exact hlog, hL⟩
        | exact ⟨_, _, _, rfl, by rw [mf_b hlb (.inr hlr)]; exact hl, rfl, by rw [mf_b hlb (.inr hlr)]; exact hlog, hL⟩
        | exact ⟨_, _, _, rfl, by rw [mf_c hlb hrb hlr, ← hS]; exact tr_mk (rd.ofRow hrow hz_segk hxs (Le.refl _)), rfl, by rw [mf_c hlb hrb hlr, ← hS]; exact hlog1, hL⟩
     ·
      replace hlb : Tr.node ll lk ≠ Tr.node bl bk := fun h => by rw [Tr.eqb_eq] at hlb; simp [h] at hlb
      refine TC.skip ?_
      refine TQ.then_n ?_
      refine TC.seq ?_
      refine TC.seq ?_
      refine TC.region ?_
      refine TL.move rfl rfl ?_
      refine TL.move rfl rfl ?_
      refine TL.gyes rfl rfl rfl ?_
      refine TL.move rfl rfl ?_
      refine TL.pickF rfl rfl rfl rfl ?_
      refine TL.nil ?_
      refine TQ.then_n ?_
      refine TC.cond rfl (fun hlr => ?_) (fun hlr => ?_)
      ·
       replace hlr : Tr.node ll lk = Tr.node rl rk := (Tr.eqb_iff _ _).1 (by simpa using hlr)
       refine TC.seq ?_
       refine TC.region ?_
       refine TL.load_ownA 2 0 [_, _] rfl rfl rfl ⟨rfl, rfl, trivial⟩ rfl rfl ?_
       refine TL.storeA 0 0 (c' := #[_, _]) (own' := [(_, .cells #[_, _] _ _)] :: _) rfl rfl rfl rfl rfl (tr_ones hl) (by simp) rfl rfl rfl ?_
       refine TL.nil ?_
       refine TQ.then_n ?_
       refine TC.ret ?_
       refine TQ.then_r ?_
       refine TQ.sel 5 [0, 4] rfl (fun o ho => ?_)
       simp only [K.sel, List.map_cons, List.map_nil, List.getD_cons_zero, List.getD_cons_succ, List.drop_succ_cons, List.drop_zero, List.cons_append, List.nil_append, List.set_cons_zero, List.set_cons_succ] at ho; subst ho
       refine TQ.retC 0 0 1 [_, _] rfl rfl rfl rfl ⟨rfl, rfl, trivial⟩ rfl rfl ?_
       first
         | exact ⟨_, _, _, rfl, by rw [mf_a hlb]; exact hr, rfl, by rw [mf_a hlb]; exact hlog, hL⟩
         | exact ⟨_, _, _, rfl, by rw [mf_b hlb (.inl hrb)]; exact hl, rfl, by rw [mf_b hlb (.inl hrb)]; exact hlog, hL⟩
         | exact ⟨_, _, _, rfl, by rw [mf_b hlb (.inr hlr)]; exact hl, rfl, by rw [mf_b hlb (.inr hlr)]; exact hlog, hL⟩
         | exact ⟨_, _, _, rfl, by rw [mf_c hlb hrb hlr, ← hS]; exact tr_mk (rd.ofRow hrow hz_segk hxs (Le.refl _)), rfl, by rw [mf_c hlb hrb hlr, ← hS]; exact hlog1, hL⟩
      ·
       replace hlr : Tr.node ll lk ≠ Tr.node rl rk := fun h => by rw [Tr.eqb_eq] at hlr; simp [h] at hlr
       refine TC.skip ?_
       refine TQ.then_n ?_
       refine TC.seq ?_
       refine TC.region ?_
       refine TL.fieldAddr rfl rfl ?_
       refine TL.load_own 2 0 rfl rfl rfl rfl rfl ?_
       refine TL.struct [(0, [_])] ⟨rfl, ⟨_, rfl, rfl⟩, trivial⟩ rfl rfl ?_
       refine TL.new rfl ?_; intro g14
       refine TL.storeA 0 0 (c' := #[_, _]) (own' := [(_, .cells #[_, _] _ _)] :: _) rfl rfl rfl rfl rfl ⟨rfl, rfl, trivial⟩ (by simp) rfl rfl rfl ?_
       refine TL.nil ?_
       refine TQ.then_n ?_
       refine TC.cut (fun env' own' H' => ∃ u1, env' = [(0, .pointer (some ⟨gm, 0, none⟩)), (4, v), (6, .pointer (some ⟨g6, 0, none⟩)), (7, .pointer (some ⟨g7, 0, none⟩)), (8, .pointer (some ⟨g8, 0, none⟩)), (10, .pointer (some ⟨g10, 0, none⟩)), (14, .pointer (some ⟨g14, 0, none⟩))] ∧ own' = [(g14, .cells #[.string (labP bl ll rl), .slice none 0 0] 27 (0, 0))] :: [(g10, .cells #[.string ⟨#[]⟩, .slice none 0 0] 27 (0, 0))] :: [(g8, .cells #[.string rl, .slice Ar rk.length cr] 27 (0, 0))] :: [(g7, .cells #[.string ll, .slice Al lk.length cl] 27 (0, 0))] :: [(g6, .cells #[.string bl, .slice Ab bk.length cb] 27 (0, 0))] :: [(gm, .cells #[u1] e (0, 0))] :: own ∧ RLog H' u1 ((labC bl ll rl p).foldl addP ps) ∧ Le H4 H') ?_ ?_
       ·
        have hcut := Le.refl H4
        refine TC.seq ?_
        refine TC.region ?_
        refine TL.fieldAddr rfl rfl ?_
        refine TL.load_own 3 0 rfl rfl rfl rfl rfl ?_
        refine TL.fieldAddr rfl rfl ?_
        refine TL.load_own 4 0 rfl rfl rfl rfl rfl ?_
        refine TL.eqlSB rfl rfl rfl (fun hla => ?_) (fun hla => ?_)
        ·
         refine TL.nil ?_
         refine TQ.then_n ?_
         refine TC.cond_t rfl ?_
         refine TC.region ?_
         refine TL.fieldAddr rfl rfl ?_
         refine TL.load_own 2 0 rfl rfl rfl rfl rfl ?_
         refine TL.fieldAddr rfl rfl ?_
         refine TL.store1 0 0 (c' := #[_, _]) (own' := [(_, .cells #[_, _] _ _)] :: _) rfl rfl rfl rfl rfl (by simp) rfl rfl rfl ?_
         refine TL.nil ?_
         refine TQ.toOwn (own' := _ :: _ :: _ :: _ :: _ :: _ :: own) rfl ?_
         first
           | exact TQ.mid [(0, _), (4, _), (6, _), (7, _), (8, _), (10, _), (14, _)] ⟨rfl, rfl, rfl, rfl, rfl, rfl, rfl, trivial⟩ ⟨_, rfl, by rw [labP_1 hla], by rw [labC_1 (.inl hla)]; exact hlog, hcut⟩
           | exact TQ.mid [(0, _), (4, _), (6, _), (7, _), (8, _), (10, _), (14, _)] ⟨rfl, rfl, rfl, rfl, rfl, rfl, rfl, trivial⟩ ⟨_, rfl, by rw [labP_2 hla], by rw [labC_2 hla hra hrl]; exact hlog3, hcut⟩
           | exact TQ.mid [(0, _), (4, _), (6, _), (7, _), (8, _), (10, _), (14, _)] ⟨rfl, rfl, rfl, rfl, rfl, rfl, rfl, trivial⟩ ⟨_, rfl, by rw [labP_2 hla], by rw [labC_1 (.inr (.inr hrl))]; exact hlog, hcut⟩
           | exact TQ.mid [(0, _), (4, _), (6, _), (7, _), (8, _), (10, _), (14, _)] ⟨rfl, rfl, rfl, rfl, rfl, rfl, rfl, trivial⟩ ⟨_, rfl, by rw [labP_2 hla], by rw [labC_1 (.inr (.inl hra))]; exact hlog, hcut⟩
        ·
         refine TL.nil ?_
         refine TQ.then_n ?_
         refine TC.cond_f rfl ?_
         refine TC.seq ?_
         refine TC.region ?_
         refine TL.fieldAddr rfl rfl ?_
         refine TL.load_own 2 0 rfl rfl rfl rfl rfl ?_
         refine TL.fieldAddr rfl rfl ?_
         refine TL.load_own 4 0 rfl rfl rfl rfl rfl ?_
         refine TL.neqSB rfl rfl rfl (fun hra => ?_) (fun hra => ?_)
         ·
          refine TL.move rfl rfl ?_
          refine TL.gyes rfl rfl rfl ?_
          refine TL.fieldAddr rfl rfl ?_
          refine TL.gyes rfl rfl rfl ?_
          refine TL.load_own 2 0 rfl rfl rfl rfl rfl ?_
          refine TL.gyes rfl rfl rfl ?_
          refine TL.fieldAddr rfl rfl ?_
          refine TL.gyes rfl rfl rfl ?_
          refine TL.load_own 3 0 rfl rfl rfl rfl rfl ?_
          refine TL.gyes rfl rfl rfl ?_
          refine TL.neqSB rfl rfl rfl (fun hrl => ?_) (fun hrl => ?_)
          ·
           refine TL.pickT rfl rfl rfl rfl ?_
           refine TL.nil ?_
           refine TQ.then_n ?_
           refine TC.cond_t rfl ?_
           refine TC.region ?_
           refine TL.move rfl rfl ?_
           refine TL.move rfl rfl ?_
           refine TL.sel 6 [5, 0, 1, 2, 3, 4] rfl (fun o ho => ?_)
           simp only [K.sel, List.map_cons, List.map_nil, List.getD_cons_zero, List.getD_cons_succ, List.drop_succ_cons, List.drop_zero, List.cons_append, List.nil_append, List.set_cons_zero, List.set_cons_succ] at ho; subst ho
           refine TL.call (ref_conflict (by omega) hA hlog) ⟨rfl, rfl, trivial⟩ rfl ?_
           rintro _ _ H5 ⟨u3, rfl, rfl, hlog3, hle5⟩
           replace hlog3 : RLog _ u3 _ := hlog3
           have hL := Le.trans hL hle5
           have hA := rd.mono hle5 hA
           have hb := RdL.mono hle5 hb
           have hl := RdL.mono hle5 hl
           have hr := RdL.mono hle5 hr
           have hbk := rd.mono hle5 hbk
           have hlk := rd.mono hle5 hlk
           have hrk := rd.mono hle5 hrk
           have hlog := RLog.mono hle5 hlog
           have hcut := Le.trans hcut hle5
           refine TL.nil ?_
           refine TQ.sel 6 [1, 2, 3, 4, 5, 0] rfl (fun o ho => ?_)
           simp only [K.sel, List.map_cons, List.map_nil, List.getD_cons_zero, List.getD_cons_succ, List.drop_succ_cons, List.drop_zero, List.cons_append, List.nil_append, List.set_cons_zero, List.set_cons_succ] at ho; subst ho
           first
             | exact TQ.mid [(0, _), (4, _), (6, _), (7, _), (8, _), (10, _), (14, _)] ⟨rfl, rfl, rfl, rfl, rfl, rfl, rfl, trivial⟩ ⟨_, rfl, by rw [labP_1 hla], by rw [labC_1 (.inl hla)]; exact hlog, hcut⟩
             | exact TQ.mid [(0, _), (4, _), (6, _), (7, _), (8, _), (10, _), (14, _)] ⟨rfl, rfl, rfl, rfl, rfl, rfl, rfl, trivial⟩ ⟨_, rfl, by rw [labP_2 hla], by rw [labC_2 hla hra hrl]; exact hlog3, hcut⟩
             | exact TQ.mid [(0, _), (4, _), (6, _), (7, _), (8, _), (10, _), (14, _)] ⟨rfl, rfl, rfl, rfl, rfl, rfl, rfl, trivial⟩ ⟨_, rfl, by rw [labP_2 hla], by rw [labC_1 (.inr (.inr hrl))]; exact hlog, hcut⟩
             | exact TQ.mid [(0, _), (4, _), (6, _), (7, _), (8, _), (10, _), (14, _)] ⟨rfl, rfl, rfl, rfl, rfl, rfl, rfl, trivial⟩ ⟨_, rfl, by rw [labP_2 hla], by rw [labC_1 (.inr (.inl hra))]; exact hlog, hcut⟩
          ·
           refine TL.pickT rfl rfl rfl rfl ?_
           refine TL.nil ?_
           refine TQ.then_n ?_
           refine TC.cond_f rfl ?_
           refine TC.skip ?_
           refine TQ.toOwn (own' := _ :: _ :: _ :: _ :: _ :: _ :: own) rfl ?_
           first
             | exact TQ.mid [(0, _), (4, _), (6, _), (7, _), (8, _), (10, _), (14, _)] ⟨rfl, rfl, rfl, rfl, rfl, rfl, rfl, trivial⟩ ⟨_, rfl, by rw [labP_1 hla], by rw [labC_1 (.inl hla)]; exact hlog, hcut⟩
             | exact TQ.mid [(0, _), (4, _), (6, _), (7, _), (8, _), (10, _), (14, _)] ⟨rfl, rfl, rfl, rfl, rfl, rfl, rfl, trivial⟩ ⟨_, rfl, by rw [labP_2 hla], by rw [labC_2 hla hra hrl]; exact hlog3, hcut⟩
             | exact TQ.mid [(0, _), (4, _), (6, _), (7, _), (8, _), (10, _), (14, _)] ⟨rfl, rfl, rfl, rfl, rfl, rfl, rfl, trivial⟩ ⟨_, rfl, by rw [labP_2 hla], by rw [labC_1 (.inr (.inr hrl))]; exact hlog, hcut⟩
             | exact TQ.mid [(0, _), (4, _), (6, _), (7, _), (8, _), (10, _), (14, _)] ⟨rfl, rfl, rfl, rfl, rfl, rfl, rfl, trivial⟩ ⟨_, rfl, by rw [labP_2 hla], by rw [labC_1 (.inr (.inl hra))]; exact hlog, hcut⟩
         ·
          refine TL.move rfl rfl ?_
          refine TL.gno rfl rfl rfl rfl ?_
          refine TL.gno rfl rfl rfl rfl ?_
          refine TL.gno rfl rfl rfl rfl ?_
          refine TL.gno rfl rfl rfl rfl ?_
          refine TL.gno rfl rfl rfl rfl ?_
          refine TL.pickF rfl rfl rfl rfl ?_
          refine TL.nil ?_
          refine TQ.then_n ?_
          refine TC.cond_f rfl ?_
          refine TC.skip ?_
          refine TQ.toOwn (own' := _ :: _ :: _ :: _ :: _ :: _ :: own) rfl ?_
          first
            | exact TQ.mid [(0, _), (4, _), (6, _), (7, _), (8, _), (10, _), (14, _)] ⟨rfl, rfl, rfl, rfl, rfl, rfl, rfl, trivial⟩ ⟨_, rfl, by rw [labP_1 hla], by rw [labC_1 (.inl hla)]; exact hlog, hcut⟩
            | exact TQ.mid [(0, _), (4, _), (6, _), (7, _), (8, _), (10, _), (14, _)] ⟨rfl, rfl, rfl, rfl, rfl, rfl, rfl, trivial⟩ ⟨_, rfl, by rw [labP_2 hla], by rw [labC_2 hla hra hrl]; exact hlog3, hcut⟩
            | exact TQ.mid [(0, _), (4, _), (6, _), (7, _), (8, _), (10, _), (14, _)] ⟨rfl, rfl, rfl, rfl, rfl, rfl, rfl, trivial⟩ ⟨_, rfl, by rw [labP_2 hla], by rw [labC_1 (.inr (.inr hrl))]; exact hlog, hcut⟩
            | exact TQ.mid [(0, _), (4, _), (6, _), (7, _), (8, _), (10, _), (14, _)] ⟨rfl, rfl, rfl, rfl, rfl, rfl, rfl, trivial⟩ ⟨_, rfl, by rw [labP_2 hla], by rw [labC_1 (.inr (.inl hra))]; exact hlog, hcut⟩
       rintro _ _ H6 ⟨u1, rfl, rfl, hlog1, hle6⟩
       have hL := Le.trans hL hle6
       have hA := rd.mono hle6 hA
       have hb := RdL.mono hle6 hb
       have hl := RdL.mono hle6 hl
       have hr := RdL.mono hle6 hr
       have hbk := rd.mono hle6 hbk
       have hlk := rd.mono hle6 hlk
       have hrk := rd.mono hle6 hrk
       have hlog := RLog.mono hle6 hlog
       refine TC.seq ?_
       refine TC.region ?_
       refine TL.fieldAddr rfl rfl ?_
       refine TL.load_own 4 0 rfl rfl rfl rfl rfl ?_
       refine TL.fieldAddr rfl rfl ?_
       refine TL.load_own 3 0 rfl rfl rfl rfl rfl ?_
       refine TL.call (ref_align (by omega) (by omega) hbk hlk) ⟨rfl, rfl, trivial⟩ rfl ?_
       rintro _ _ H7 ⟨x0, x1, x2, rfl, hx, rfl, hle7⟩
       have hL := Le.trans hL hle7
       have hA := rd.mono hle7 hA
       have hb := RdL.mono hle7 hb
       have hl := RdL.mono hle7 hl
       have hr := RdL.mono hle7 hr
       have hbk := rd.mono hle7 hbk
       have hlk := rd.mono hle7 hlk
       have hrk := rd.mono hle7 hrk
       have hlog := RLog.mono hle7 hlog
       have hlog1 := RLog.mono hle7 hlog1
       refine TL.new rfl ?_; intro g15
       refine TL.storeA 0 0 (vs := [x0, x1, x2]) (c' := #[_, _, _]) (own' := [(_, .cells #[_, _, _] _ _)] :: _) rfl rfl rfl rfl rfl ⟨hx.1.one, hx.2.1.one, hx.2.2.1.one, trivial⟩ (by simp) rfl rfl rfl ?_
       refine TL.nil ?_
       refine TQ.then_n ?_
       refine TC.seq ?_
       refine TC.region ?_
       refine TL.fieldAddr rfl rfl ?_
       refine TL.load_own 5 0 rfl rfl rfl rfl rfl ?_
       refine TL.fieldAddr rfl rfl ?_
       refine TL.load_own 3 0 rfl rfl rfl rfl rfl ?_
       refine TL.call (ref_align (by omega) (by omega) hbk hrk) ⟨rfl, rfl, trivial⟩ rfl ?_
       rintro _ _ H8 ⟨y0, y1, y2, rfl, hy, rfl, hle8⟩
       have hL := Le.trans hL hle8
       have hA := rd.mono hle8 hA
       have hb := RdL.mono hle8 hb
       have hl := RdL.mono hle8 hl
       have hr := RdL.mono hle8 hr
       have hbk := rd.mono hle8 hbk
       have hlk := rd.mono hle8 hlk
       have hrk := rd.mono hle8 hrk
       have hlog := RLog.mono hle8 hlog
       have hlog1 := RLog.mono hle8 hlog1
       have hx := RdL.mono hle8 hx
       refine TL.new rfl ?_; intro g16
       refine TL.storeA 0 0 (vs := [y0, y1, y2]) (c' := #[_, _, _]) (own' := [(_, .cells #[_, _, _] _ _)] :: _) rfl rfl rfl rfl rfl ⟨hy.1.one, hy.2.1.one, hy.2.2.1.one, trivial⟩ (by simp) rfl rfl rfl ?_
       refine TL.nil ?_
       refine TQ.then_n ?_
       refine TC.seq ?_
       refine TC.seq ?_
       refine TC.sel 8 [0, 1, 2, 3, 7, 6] rfl (fun o ho => ?_)
       simp only [K.sel, List.map_cons, List.map_nil, List.getD_cons_zero, List.getD_cons_succ, List.drop_succ_cons, List.drop_zero, List.cons_append, List.nil_append, List.set_cons_zero, List.set_cons_succ] at ho; subst ho
       refine TC.nilseg ?_
       obtain ⟨Ax0, cx0, Ax1, cx1, Ax2, cx2, rfl, rfl, rfl, hxK, hxT, hxI⟩ := side_cells hx
       obtain ⟨Ay0, cy0, Ay1, cy1, Ay2, cy2, rfl, rfl, rfl, hyK, hyT, hyI⟩ := side_cells hy
       have n1 := alignP_F bk lk
       have n2 := alignP_I bk lk
       have n3 := alignP_F bk rk
       have n4 := alignP_I bk rk
       have hlen := mergeK_len (mergeF k) bk lk rk p (labC bl ll rl p) (by omega) (by omega)
       have hlogn := mergeK_log (mergeF k) bk (alignP bk lk) (alignP bk rk) p (labC bl ll rl p) (labC_len _ _ _ _) (fun t _ x y q => mergeF_log k t x y q)
       have hS0 : mergeK (mergeF k) bk (alignP bk lk) (alignP bk rk) p (labC bl ll rl p) 0 = ([], labC bl ll rl p) := rfl
       have hSs := fun i t la lb f1 f2 => mergeK_some (f := mergeF k) (b := bk) (x := alignP bk lk) (y := alignP bk rk) (p := p) (c0 := labC bl ll rl p) (i := i) (t := t) (la := la) (lb := lb) (f1 := f1) (f2 := f2)
       have hSn := fun i la lb => mergeK_none (f := mergeF k) (b := bk) (x := alignP bk lk) (y := alignP bk rk) (p := p) (c0 := labC bl ll rl p) (i := i) (la := la) (lb := lb)
       obtain ⟨S, hS⟩ : ∃ S, S = mergeK (mergeF k) bk (alignP bk lk) (alignP bk rk) p (labC bl ll rl p) := ⟨_, rfl⟩
       rw [← hS] at hlen hlogn hS0 hSs hSn
       refine TC.region ?_
       refine TL.assign rfl rfl ?_
       refine TL.nil ?_
       refine TQ.then_n ?_
       refine TC.block ?_
       refine TC.loop (fun n env' own' H' => ∃ (i : Nat) (u1 vt : Value) (xs : List Value) (segk : Seg), n = bk.length + 1 - i ∧ i ≤ bk.length + 1 ∧ Row 27 2 vt (S i).1.length xs segk ∧ RdL H' (Tr.ds (S i).1) xs ∧ RLog H' u1 ((S i).2.foldl addP ps) ∧ env' = [(0, .pointer (some ⟨gm, 0, none⟩)), (4, v), (6, .pointer (some ⟨g6, 0, none⟩)), (10, .pointer (some ⟨g10, 0, none⟩)), (14, .pointer (some ⟨g14, 0, none⟩)), (15, .pointer (some ⟨g15, 0, none⟩)), (16, .pointer (some ⟨g16, 0, none⟩)), (17, .int .i64 (i : Int))] ∧ own' = segk :: [(g16, .cells #[.slice Ay0 (alignP bk rk).F.length cy0, .slice Ay1 (alignP bk rk).F.length cy1, .slice Ay2 (alignP bk rk).I.length cy2] 145 (0, 0))] :: [(g15, .cells #[.slice Ax0 (alignP bk lk).F.length cx0, .slice Ax1 (alignP bk lk).F.length cx1, .slice Ax2 (alignP bk lk).I.length cx2] 145 (0, 0))] :: [(g14, .cells #[.string (labP bl ll rl), vt] 27 (0, 0))] :: [(g10, .cells #[.string ⟨#[]⟩, .slice none 0 0] 27 (0, 0))] :: [(gm, .cells #[u1] e (0, 0))] :: [(g6, .cells #[.string bl, .slice Ab bk.length cb] 27 (0, 0))] :: own ∧ Le H8 H') (bk.length + 1) [(0, _), (4, _), (6, _), (10, _), (14, _), (15, _), (16, _), (17, _)] ⟨rfl, rfl, rfl, rfl, rfl, rfl, rfl, rfl, trivial⟩ ⟨0, u1, _, [], [], rfl, by omega, by rw [hS0]; exact Row.nil 27 2, by rw [hS0]; trivial, by rw [hS0]; exact hlog1, rfl, rfl, Le.refl _⟩ ?_
       clear hlog1
       rintro n _ _ H9 ⟨i, u1, vt, xs, segk, rfl, hi1, hrow, hxs, hlog1, rfl, rfl, hle9⟩
       have hL := Le.trans hL hle9
       have hA := rd.mono hle9 hA
       have hb := RdL.mono hle9 hb
       have hl := RdL.mono hle9 hl
       have hr := RdL.mono hle9 hr
       have hbk := rd.mono hle9 hbk
       have hlk := rd.mono hle9 hlk
       have hrk := rd.mono hle9 hrk
       have hlog := RLog.mono hle9 hlog
       have hxK := rd.mono hle9 hxK
       have hxT := rd.mono hle9 hxT
       have hxI := rd.mono hle9 hxI
       have hyK := rd.mono hle9 hyK
       have hyT := rd.mono hle9 hyT
       have hyI := rd.mono hle9 hyI
       refine TC.seq ?_
       refine TC.seq ?_
       refine TC.region ?_
       refine TL.move rfl rfl ?_
       refine TL.fieldAddr rfl rfl ?_
       refine TL.load_own 6 0 rfl rfl rfl rfl rfl ?_
       refine TL.len_slice rfl rfl ?_
       refine TL.leqB rfl rfl rfl (fun hlt => ?_) (fun hlt => ?_)
       ·
        obtain ⟨la, hla'⟩ : ∃ l, (alignP bk lk).I[i]? = some l := ⟨_, List.getElem?_eq_getElem (by omega)⟩
        obtain ⟨lb, hlb'⟩ : ∃ l, (alignP bk rk).I[i]? = some l := ⟨_, List.getElem?_eq_getElem (by omega)⟩
        obtain ⟨b1, o1, v1, rfl, hc1, hv1⟩ := ins_at hxI hla'
        obtain ⟨b2, o2, v2, rfl, hc2, hv2⟩ := ins_at hyI hlb'
        have m1 := align_ins hla'
        have m2 := align_ins hlb'
        have m3 := insP_len la lb (p ++ [i])
        have m4 := hlen i
        have m5 : (S i).2.length ≤ 2 + 4 * Tr.sizes bk := by
          rcases Nat.lt_or_ge bk.length i with h | h
          · omega
          · have := hlogn i h
            have := sizes_take' bk i
            omega
        have m6 := foldP_len (S i).2 ps
        have m7 := foldP_len (insP la lb (p ++ [i])).2 ((S i).2.foldl addP ps)
        refine TL.nil ?_
        refine TQ.then_n ?_
        refine TC.cond_t rfl ?_
        refine TC.skip ?_
        refine TQ.then_n ?_
        refine TC.seq ?_
        refine TC.block ?_
        refine TC.seq ?_
        refine TC.sel 7 [5, 0, 1, 2, 3, 4, 6] rfl (fun o ho => ?_)
        simp only [K.sel, List.map_cons, List.map_nil, List.getD_cons_zero, List.getD_cons_succ, List.drop_succ_cons, List.drop_zero, List.cons_append, List.nil_append, List.set_cons_zero, List.set_cons_succ] at ho; subst ho
        refine TC.drawCV 17  [(0, _), (4, _), (6, _), (10, _), (14, _), (15, _), (16, _), (17, _)] follows_mixed ⟨rfl, rfl, rfl, rfl, rfl, rfl, rfl, rfl, trivial⟩ ?_
        refine ChainV.q (some 77) [] (by
         intro H' X F hle
         have hL := Le.trans hL hle
         have hA := rd.mono hle hA
         have hb := RdL.mono hle hb
         have hl := RdL.mono hle hl
         have hr := RdL.mono hle hr
         have hbk := rd.mono hle hbk
         have hlk := rd.mono hle hlk
         have hrk := rd.mono hle hrk
         have hlog := RLog.mono hle hlog
         have hxK := rd.mono hle hxK
         have hxT := rd.mono hle hxT
         have hxI := rd.mono hle hxI
         have hyK := rd.mono hle hyK
         have hyT := rd.mono hle hyT
         have hyI := rd.mono hle hyI
         have hle9 := Le.trans hle9 hle
         have hxs := RdL.mono hle hxs
         have hlog1 := RLog.mono hle hlog1
         have hc1 := cel_le hle hc1
         have hc2 := cel_le hle hc2
         have hv1 := rd.mono hle hv1
         have hv2 := rd.mono hle hv2
         intro hF
         refine TL.fieldAddr rfl rfl ?_
         refine TL.nil ?_
         exact TQ.one [] hF (Le.refl _) ⟨rfl, rfl⟩) ?_
        refine ChainV.q (some 78) [(0, 0)] (by
         intro H' X F hle
         have hL := Le.trans hL hle
         have hA := rd.mono hle hA
         have hb := RdL.mono hle hb
         have hl := RdL.mono hle hl
         have hr := RdL.mono hle hr
         have hbk := rd.mono hle hbk
         have hlk := rd.mono hle hlk
         have hrk := rd.mono hle hrk
         have hlog := RLog.mono hle hlog
         have hxK := rd.mono hle hxK
         have hxT := rd.mono hle hxT
         have hxI := rd.mono hle hxI
         have hyK := rd.mono hle hyK
         have hyT := rd.mono hle hyT
         have hyI := rd.mono hle hyI
         have hle9 := Le.trans hle9 hle
         have hxs := RdL.mono hle hxs
         have hlog1 := RLog.mono hle hlog1
         have hc1 := cel_le hle hc1
         have hc2 := cel_le hle hc2
         have hv1 := rd.mono hle hv1
         have hv2 := rd.mono hle hv2
         intro hF
         refine TL.load_own 3 0 rfl rfl rfl rfl rfl ?_
         refine TL.nil ?_
         exact TQ.one [] hF (Le.refl _) ⟨rfl, rfl⟩) ?_
        refine ChainV.q (some 79) [] (by
         intro H' X F hle
         have hL := Le.trans hL hle
         have hA := rd.mono hle hA
         have hb := RdL.mono hle hb
         have hl := RdL.mono hle hl
         have hr := RdL.mono hle hr
         have hbk := rd.mono hle hbk
         have hlk := rd.mono hle hlk
         have hrk := rd.mono hle hrk
         have hlog := RLog.mono hle hlog
         have hxK := rd.mono hle hxK
         have hxT := rd.mono hle hxT
         have hxI := rd.mono hle hxI
         have hyK := rd.mono hle hyK
         have hyT := rd.mono hle hyT
         have hyI := rd.mono hle hyI
         have hle9 := Le.trans hle9 hle
         have hxs := RdL.mono hle hxs
         have hlog1 := RLog.mono hle hlog1
         have hc1 := cel_le hle hc1
         have hc2 := cel_le hle hc2
         have hv1 := rd.mono hle hv1
         have hv2 := rd.mono hle hv2
         intro hF
         refine TL.move rfl rfl ?_
         refine TL.nil ?_
         exact TQ.one [] hF (Le.refl _) ⟨rfl, rfl⟩) ?_
        refine ChainV.q (some 80) [] (by
         intro H' X F hle
         have hL := Le.trans hL hle
         have hA := rd.mono hle hA
         have hb := RdL.mono hle hb
         have hl := RdL.mono hle hl
         have hr := RdL.mono hle hr
         have hbk := rd.mono hle hbk
         have hlk := rd.mono hle hlk
         have hrk := rd.mono hle hrk
         have hlog := RLog.mono hle hlog
         have hxK := rd.mono hle hxK
         have hxT := rd.mono hle hxT
         have hxI := rd.mono hle hxI
         have hyK := rd.mono hle hyK
         have hyT := rd.mono hle hyT
         have hyI := rd.mono hle hyI
         have hle9 := Le.trans hle9 hle
         have hxs := RdL.mono hle hxs
         have hlog1 := RLog.mono hle hlog1
         have hc1 := cel_le hle hc1
         have hc2 := cel_le hle hc2
         have hv1 := rd.mono hle hv1
         have hv2 := rd.mono hle hv2
         intro hF
         refine TL.fieldAddr rfl rfl ?_
         refine TL.nil ?_
         exact TQ.one [] hF (Le.refl _) ⟨rfl, rfl⟩) ?_
        refine ChainV.q (some 81) [(3, 0)] (by
         intro H' X F hle
         have hL := Le.trans hL hle
         have hA := rd.mono hle hA
         have hb := RdL.mono hle hb
         have hl := RdL.mono hle hl
         have hr := RdL.mono hle hr
         have hbk := rd.mono hle hbk
         have hlk := rd.mono hle hlk
         have hrk := rd.mono hle hrk
         have hlog := RLog.mono hle hlog
         have hxK := rd.mono hle hxK
         have hxT := rd.mono hle hxT
         have hxI := rd.mono hle hxI
         have hyK := rd.mono hle hyK
         have hyT := rd.mono hle hyT
         have hyI := rd.mono hle hyI
         have hle9 := Le.trans hle9 hle
         have hxs := RdL.mono hle hxs
         have hlog1 := RLog.mono hle hlog1
         have hc1 := cel_le hle hc1
         have hc2 := cel_le hle hc2
         have hv1 := rd.mono hle hv1
         have hv2 := rd.mono hle hv2
         intro hF
         refine TL.load_own 2 0 rfl rfl rfl rfl rfl ?_
         refine TL.nil ?_
         exact TQ.one [] hF (Le.refl _) ⟨rfl, rfl⟩) ?_
        refine ChainV.q (some 82) [] (by
         intro H' X F hle
         have hL := Le.trans hL hle
         have hA := rd.mono hle hA
         have hb := RdL.mono hle hb
         have hl := RdL.mono hle hl
         have hr := RdL.mono hle hr
         have hbk := rd.mono hle hbk
         have hlk := rd.mono hle hlk
         have hrk := rd.mono hle hrk
         have hlog := RLog.mono hle hlog
         have hxK := rd.mono hle hxK
         have hxT := rd.mono hle hxT
         have hxI := rd.mono hle hxI
         have hyK := rd.mono hle hyK
         have hyT := rd.mono hle hyT
         have hyI := rd.mono hle hyI
         have hle9 := Le.trans hle9 hle
         have hxs := RdL.mono hle hxs
         have hlog1 := RLog.mono hle hlog1
         have hc1 := cel_le hle hc1
         have hc2 := cel_le hle hc2
         have hv1 := rd.mono hle hv1
         have hv2 := rd.mono hle hv2
         intro hF
         refine TL.move rfl rfl ?_
         refine TL.nil ?_
         exact TQ.one [] hF (Le.refl _) ⟨rfl, rfl⟩) ?_
        refine ChainV.q (some 83) [(4, 1), (5, 0)] (by
         intro H' X F hle
         have hL := Le.trans hL hle
         have hA := rd.mono hle hA
         have hb := RdL.mono hle hb
         have hl := RdL.mono hle hl
         have hr := RdL.mono hle hr
         have hbk := rd.mono hle hbk
         have hlk := rd.mono hle hlk
         have hrk := rd.mono hle hrk
         have hlog := RLog.mono hle hlog
         have hxK := rd.mono hle hxK
         have hxT := rd.mono hle hxT
         have hxI := rd.mono hle hxI
         have hyK := rd.mono hle hyK
         have hyT := rd.mono hle hyT
         have hyI := rd.mono hle hyI
         have hle9 := Le.trans hle9 hle
         have hxs := RdL.mono hle hxs
         have hlog1 := RLog.mono hle hlog1
         have hc1 := cel_le hle hc1
         have hc2 := cel_le hle hc2
         have hv1 := rd.mono hle hv1
         have hv2 := rd.mono hle hv2
         intro hF
         refine TL.indexAddr (i) rfl rfl rfl (by omega) rfl ?_
         refine TL.nil ?_
         exact TQ.one [] hF (Le.refl _) ⟨rfl, rfl⟩) ?_
        refine ChainV.q (some 84) [(6, 0)] (by
         intro H' X F hle
         have hL := Le.trans hL hle
         have hA := rd.mono hle hA
         have hb := RdL.mono hle hb
         have hl := RdL.mono hle hl
         have hr := RdL.mono hle hr
         have hbk := rd.mono hle hbk
         have hlk := rd.mono hle hlk
         have hrk := rd.mono hle hrk
         have hlog := RLog.mono hle hlog
         have hxK := rd.mono hle hxK
         have hxT := rd.mono hle hxT
         have hxI := rd.mono hle hxI
         have hyK := rd.mono hle hyK
         have hyT := rd.mono hle hyT
         have hyI := rd.mono hle hyI
         have hle9 := Le.trans hle9 hle
         have hxs := RdL.mono hle hxs
         have hlog1 := RLog.mono hle hlog1
         have hc1 := cel_le hle hc1
         have hc2 := cel_le hle hc2
         have hv1 := rd.mono hle hv1
         have hv2 := rd.mono hle hv2
         intro hF
         refine TL.load_imm rfl (hc1) rfl ?_
         refine TL.nil ?_
         exact TQ.one [] hF (Le.refl _) ⟨rfl, rfl⟩) ?_
        refine ChainV.q (some 85) [] (by
         intro H' X F hle
         have hL := Le.trans hL hle
         have hA := rd.mono hle hA
         have hb := RdL.mono hle hb
         have hl := RdL.mono hle hl
         have hr := RdL.mono hle hr
         have hbk := rd.mono hle hbk
         have hlk := rd.mono hle hlk
         have hrk := rd.mono hle hrk
         have hlog := RLog.mono hle hlog
         have hxK := rd.mono hle hxK
         have hxT := rd.mono hle hxT
         have hxI := rd.mono hle hxI
         have hyK := rd.mono hle hyK
         have hyT := rd.mono hle hyT
         have hyI := rd.mono hle hyI
         have hle9 := Le.trans hle9 hle
         have hxs := RdL.mono hle hxs
         have hlog1 := RLog.mono hle hlog1
         have hc1 := cel_le hle hc1
         have hc2 := cel_le hle hc2
         have hv1 := rd.mono hle hv1
         have hv2 := rd.mono hle hv2
         intro hF
         refine TL.fieldAddr rfl rfl ?_
         refine TL.nil ?_
         exact TQ.one [] hF (Le.refl _) ⟨rfl, rfl⟩) ?_
        refine ChainV.q (some 86) [(8, 0)] (by
         intro H' X F hle
         have hL := Le.trans hL hle
         have hA := rd.mono hle hA
         have hb := RdL.mono hle hb
         have hl := RdL.mono hle hl
         have hr := RdL.mono hle hr
         have hbk := rd.mono hle hbk
         have hlk := rd.mono hle hlk
         have hrk := rd.mono hle hrk
         have hlog := RLog.mono hle hlog
         have hxK := rd.mono hle hxK
         have hxT := rd.mono hle hxT
         have hxI := rd.mono hle hxI
         have hyK := rd.mono hle hyK
         have hyT := rd.mono hle hyT
         have hyI := rd.mono hle hyI
         have hle9 := Le.trans hle9 hle
         have hxs := RdL.mono hle hxs
         have hlog1 := RLog.mono hle hlog1
         have hc1 := cel_le hle hc1
         have hc2 := cel_le hle hc2
         have hv1 := rd.mono hle hv1
         have hv2 := rd.mono hle hv2
         intro hF
         refine TL.load_own 1 0 rfl rfl rfl rfl rfl ?_
         refine TL.nil ?_
         exact TQ.one [] hF (Le.refl _) ⟨rfl, rfl⟩) ?_
        refine ChainV.q (some 87) [] (by
         intro H' X F hle
         have hL := Le.trans hL hle
         have hA := rd.mono hle hA
         have hb := RdL.mono hle hb
         have hl := RdL.mono hle hl
         have hr := RdL.mono hle hr
         have hbk := rd.mono hle hbk
         have hlk := rd.mono hle hlk
         have hrk := rd.mono hle hrk
         have hlog := RLog.mono hle hlog
         have hxK := rd.mono hle hxK
         have hxT := rd.mono hle hxT
         have hxI := rd.mono hle hxI
         have hyK := rd.mono hle hyK
         have hyT := rd.mono hle hyT
         have hyI := rd.mono hle hyI
         have hle9 := Le.trans hle9 hle
         have hxs := RdL.mono hle hxs
         have hlog1 := RLog.mono hle hlog1
         have hc1 := cel_le hle hc1
         have hc2 := cel_le hle hc2
         have hv1 := rd.mono hle hv1
         have hv2 := rd.mono hle hv2
         intro hF
         refine TL.move rfl rfl ?_
         refine TL.nil ?_
         exact TQ.one [] hF (Le.refl _) ⟨rfl, rfl⟩) ?_
        refine ChainV.q (some 88) [(9, 1), (10, 0)] (by
         intro H' X F hle
         have hL := Le.trans hL hle
         have hA := rd.mono hle hA
         have hb := RdL.mono hle hb
         have hl := RdL.mono hle hl
         have hr := RdL.mono hle hr
         have hbk := rd.mono hle hbk
         have hlk := rd.mono hle hlk
         have hrk := rd.mono hle hrk
         have hlog := RLog.mono hle hlog
         have hxK := rd.mono hle hxK
         have hxT := rd.mono hle hxT
         have hxI := rd.mono hle hxI
         have hyK := rd.mono hle hyK
         have hyT := rd.mono hle hyT
         have hyI := rd.mono hle hyI
         have hle9 := Le.trans hle9 hle
         have hxs := RdL.mono hle hxs
         have hlog1 := RLog.mono hle hlog1
         have hc1 := cel_le hle hc1
         have hc2 := cel_le hle hc2
         have hv1 := rd.mono hle hv1
         have hv2 := rd.mono hle hv2
         intro hF
         refine TL.indexAddr (i) rfl rfl rfl (by omega) rfl ?_
         refine TL.nil ?_
         exact TQ.one [] hF (Le.refl _) ⟨rfl, rfl⟩) ?_
        refine ChainV.q (some 89) [(11, 0)] (by
         intro H' X F hle
         have hL := Le.trans hL hle
         have hA := rd.mono hle hA
         have hb := RdL.mono hle hb
         have hl := RdL.mono hle hl
         have hr := RdL.mono hle hr
         have hbk := rd.mono hle hbk
         have hlk := rd.mono hle hlk
         have hrk := rd.mono hle hrk
         have hlog := RLog.mono hle hlog
         have hxK := rd.mono hle hxK
         have hxT := rd.mono hle hxT
         have hxI := rd.mono hle hxI
         have hyK := rd.mono hle hyK
         have hyT := rd.mono hle hyT
         have hyI := rd.mono hle hyI
         have hle9 := Le.trans hle9 hle
         have hxs := RdL.mono hle hxs
         have hlog1 := RLog.mono hle hlog1
         have hc1 := cel_le hle hc1
         have hc2 := cel_le hle hc2
         have hv1 := rd.mono hle hv1
         have hv2 := rd.mono hle hv2
         intro hF
         refine TL.load_imm rfl (hc2) rfl ?_
         refine TL.nil ?_
         exact TQ.one [] hF (Le.refl _) ⟨rfl, rfl⟩) ?_
        refine ChainV.q (some 90) [] (by
         intro H' X F hle
         have hL := Le.trans hL hle
         have hA := rd.mono hle hA
         have hb := RdL.mono hle hb
         have hl := RdL.mono hle hl
         have hr := RdL.mono hle hr
         have hbk := rd.mono hle hbk
         have hlk := rd.mono hle hlk
         have hrk := rd.mono hle hrk
         have hlog := RLog.mono hle hlog
         have hxK := rd.mono hle hxK
         have hxT := rd.mono hle hxT
         have hxI := rd.mono hle hxI
         have hyK := rd.mono hle hyK
         have hyT := rd.mono hle hyT
         have hyI := rd.mono hle hyI
         have hle9 := Le.trans hle9 hle
         have hxs := RdL.mono hle hxs
         have hlog1 := RLog.mono hle hlog1
         have hc1 := cel_le hle hc1
         have hc2 := cel_le hle hc2
         have hv1 := rd.mono hle hv1
         have hv2 := rd.mono hle hv2
         intro hF
         refine TL.move rfl rfl ?_
         refine TL.nil ?_
         exact TQ.one [] hF (Le.refl _) ⟨rfl, rfl⟩) ?_
        refine ChainV.q (some 91) [] (by
         intro H' X F hle
         have hL := Le.trans hL hle
         have hA := rd.mono hle hA
         have hb := RdL.mono hle hb
         have hl := RdL.mono hle hl
         have hr := RdL.mono hle hr
         have hbk := rd.mono hle hbk
         have hlk := rd.mono hle hlk
         have hrk := rd.mono hle hrk
         have hlog := RLog.mono hle hlog
         have hxK := rd.mono hle hxK
         have hxT := rd.mono hle hxT
         have hxI := rd.mono hle hxI
         have hyK := rd.mono hle hyK
         have hyT := rd.mono hle hyT
         have hyI := rd.mono hle hyI
         have hle9 := Le.trans hle9 hle
         have hxs := RdL.mono hle hxs
         have hlog1 := RLog.mono hle hlog1
         have hc1 := cel_le hle hc1
         have hc2 := cel_le hle hc2
         have hv1 := rd.mono hle hv1
         have hv2 := rd.mono hle hv2
         intro hF
         refine TL.move rfl rfl ?_
         refine TL.nil ?_
         exact TQ.one [] hF (Le.refl _) ⟨rfl, rfl⟩) ?_
        refine ChainV.r (some 92) [(13, 1), (14, 0)] ([]) (fun _ => fun u s_ H => rd H (pD (p ++ [i])) u ∧ s_ = []) (by
         intro H' X F hle
         have hL := Le.trans hL hle
         have hA := rd.mono hle hA
         have hb := RdL.mono hle hb
         have hl := RdL.mono hle hl
         have hr := RdL.mono hle hr
         have hbk := rd.mono hle hbk
         have hlk := rd.mono hle hlk
         have hrk := rd.mono hle hrk
         have hlog := RLog.mono hle hlog
         have hxK := rd.mono hle hxK
         have hxT := rd.mono hle hxT
         have hxI := rd.mono hle hxI
         have hyK := rd.mono hle hyK
         have hyT := rd.mono hle hyT
         have hyI := rd.mono hle hyI
         have hle9 := Le.trans hle9 hle
         have hxs := RdL.mono hle hxs
         have hlog1 := RLog.mono hle hlog1
         have hc1 := cel_le hle hc1
         have hc2 := cel_le hle hc2
         have hv1 := rd.mono hle hv1
         have hv2 := rd.mono hle hv2
         intro hF
         refine TL.call (ref_extend (by omega) hA) ⟨rfl, rfl, trivial⟩ rfl ?_
         rintro ve _ He ⟨hve, rfl, hlee⟩
         refine TL.nil ?_
         exact TQ.one [] hF hlee ⟨hve, rfl⟩) ?_
        refine ChainV.r (some 93) [(2, 13), (7, 8), (12, 3), (15, 0)] ([[(gm, .cells #[u1] e (0, 0))]]) (fun _ => fun r s_ H => ∃ u2, s_ = [[(gm, .cells #[u2] e (0, 0))]] ∧ rd H (.s 2 (Tr.ds (insP la lb (p ++ [i])).1)) r ∧ RLog H u2 ((insP la lb (p ++ [i])).2.foldl addP ((S i).2.foldl addP ps))) (by
         intro H' X F hle
         have hL := Le.trans hL hle
         have hA := rd.mono hle hA
         have hb := RdL.mono hle hb
         have hl := RdL.mono hle hl
         have hr := RdL.mono hle hr
         have hbk := rd.mono hle hbk
         have hlk := rd.mono hle hlk
         have hrk := rd.mono hle hrk
         have hlog := RLog.mono hle hlog
         have hxK := rd.mono hle hxK
         have hxT := rd.mono hle hxT
         have hxI := rd.mono hle hxI
         have hyK := rd.mono hle hyK
         have hyT := rd.mono hle hyT
         have hyI := rd.mono hle hyI
         have hle9 := Le.trans hle9 hle
         have hxs := RdL.mono hle hxs
         have hlog1 := RLog.mono hle hlog1
         have hc1 := cel_le hle hc1
         have hc2 := cel_le hle hc2
         have hv1 := rd.mono hle hv1
         have hv2 := rd.mono hle hv2
         intro _
         rintro ve92 _ He92 hlee92 ⟨hve, rfl⟩
         replace hve := rd.mono hlee92 hve
         intro hF
         refine TL.call (ref_insert (by omega) hv1 hv2 hve hlog1) ⟨rfl, rfl, rfl, rfl, trivial⟩ rfl ?_
         rintro r93 _ H10 ⟨u2, hr9, rfl, hlog9, hle10⟩
         refine TL.nil ?_
         exact TQ.one [_] hF hle10 ⟨_, rfl, hr9, hlog9⟩) ?_
        refine ⟨by kernel_rfl, .refl _, ?_⟩
        ·
         intro H4 hle
         rintro ve92 _ He92 hlee92 ⟨hve, rfl⟩
         replace hve := rd.mono hlee92 hve
         rintro r93 _ Hi hlei ⟨u2, rfl, hr93, hlog2⟩
         replace hr93 := rd.mono hlei hr93
         replace hlog2 := RLog.mono hlei hlog2
         have hL := Le.trans hL hle
         have hA := rd.mono hle hA
         have hb := RdL.mono hle hb
         have hl := RdL.mono hle hl
         have hr := RdL.mono hle hr
         have hbk := rd.mono hle hbk
         have hlk := rd.mono hle hlk
         have hrk := rd.mono hle hrk
         have hlog := RLog.mono hle hlog
         have hxK := rd.mono hle hxK
         have hxT := rd.mono hle hxT
         have hxI := rd.mono hle hxI
         have hyK := rd.mono hle hyK
         have hyT := rd.mono hle hyT
         have hyI := rd.mono hle hyI
         have hle9 := Le.trans hle9 hle
         have hxs := RdL.mono hle hxs
         have hlog1 := RLog.mono hle hlog1
         have hc1 := cel_le hle hc1
         have hc2 := cel_le hle hc2
         have hv1 := rd.mono hle hv1
         have hv2 := rd.mono hle hv2
         refine TL.toOwn (own' := _ :: _ :: _ :: _ :: _ :: _ :: _ :: own) rfl ?_
         refine TL.wk (env' := [(0, _), (4, _), (6, _), (10, _), (14, _), (15, _), (16, _), (17, _), (78, _), (93, _)]) ⟨rfl, rfl, rfl, rfl, rfl, rfl, rfl, rfl, rfl, rfl, trivial⟩ ?_
         obtain ⟨A94, c94, nw94, rfl, hs94, hn94⟩ := hr93.srcN (m := (insP la lb (p ++ [i])).1.length) (by omega) (Tr.ds_len _) (Tr.ds_one _)
         refine TL.append 1 rfl rfl rfl hrow (hs94 _ _) (by omega) (by omega) rfl ?_
         intro v94 seg94 hrow94
         refine TL.fieldAddr rfl rfl ?_
         refine TL.store1 4 0 (c' := #[_, _]) (own' := _ :: _ :: _ :: _ :: [(_, .cells #[_, _] _ _)] :: _) rfl rfl rfl rfl hrow94.one (by simp) rfl rfl rfl ?_
         refine TL.nil ?_
         refine TQ.then_n ?_
         refine TC.seq ?_
         refine TC.region ?_
         refine TL.move rfl rfl ?_
         refine TL.fieldAddr rfl rfl ?_
         refine TL.load_own 6 0 rfl rfl rfl rfl rfl ?_
         refine TL.len_slice rfl rfl ?_
         refine TL.lssB rfl rfl rfl (fun hin => ?_) (fun hin => ?_)
         ·
          obtain ⟨t, ht⟩ : ∃ t, bk[i]? = some t := ⟨_, List.getElem?_eq_getElem (by omega)⟩
          obtain ⟨f1, hf1⟩ : ∃ f, (alignP bk lk).F[i]? = some f := ⟨_, List.getElem?_eq_getElem (by omega)⟩
          obtain ⟨f2, hf2⟩ : ∃ f, (alignP bk rk).F[i]? = some f := ⟨_, List.getElem?_eq_getElem (by omega)⟩
          obtain ⟨b3, o3, p0, p1, rfl, hpa, hpr⟩ := trs_at hbk ht
          have q1 := align_fate hf1
          have q2 := align_fate hf2
          have q3 := Tr.size_mem (List.mem_of_getElem? ht)
          have q4 := hlogn i (by omega)
          have q5 := sizes_take_succ ht
          have q6 := sizes_take' bk (i + 1)
          have q7 := kidP_len (mergeF k) t f1 f2 (p ++ [i])
          refine TL.nil ?_
          refine TQ.then_n ?_
          refine TC.cond_t rfl ?_
          refine TC.drawCV 15  [(0, _), (4, _), (6, _), (10, _), (14, _), (15, _), (16, _), (17, _)] follows_mixed ⟨rfl, rfl, rfl, rfl, rfl, rfl, rfl, rfl, trivial⟩ ?_
          refine ChainV.q (some 101) [] (by
           intro H' X F hle
           have hL := Le.trans hL hle
           have hA := rd.mono hle hA
           have hb := RdL.mono hle hb
           have hl := RdL.mono hle hl
           have hr := RdL.mono hle hr
           have hbk := rd.mono hle hbk
           have hlk := rd.mono hle hlk
           have hrk := rd.mono hle hrk
           have hlog := RLog.mono hle hlog
           have hxK := rd.mono hle hxK
           have hxT := rd.mono hle hxT
           have hxI := rd.mono hle hxI
           have hyK := rd.mono hle hyK
           have hyT := rd.mono hle hyT
           have hyI := rd.mono hle hyI
           have hle9 := Le.trans hle9 hle
           have hxs := RdL.mono hle hxs
           have hlog1 := RLog.mono hle hlog1
           have hc1 := cel_le hle hc1
           have hc2 := cel_le hle hc2
           have hv1 := rd.mono hle hv1
           have hv2 := rd.mono hle hv2
           have hr93 := rd.mono hle hr93
           have hlog2 := RLog.mono hle hlog2
           have hn94 := RdL.mono hle hn94
           have hpa := hAt.mono hle hpa
           have hpr := RdL.mono hle hpr
           intro hF
           refine TL.fieldAddr rfl rfl ?_
           refine TL.nil ?_
           exact TQ.one [] hF (Le.refl _) ⟨rfl, rfl⟩) ?_
          refine ChainV.q (some 102) [(0, 0)] (by
           intro H' X F hle
           have hL := Le.trans hL hle
           have hA := rd.mono hle hA
           have hb := RdL.mono hle hb
           have hl := RdL.mono hle hl
           have hr := RdL.mono hle hr
           have hbk := rd.mono hle hbk
           have hlk := rd.mono hle hlk
           have hrk := rd.mono hle hrk
           have hlog := RLog.mono hle hlog
           have hxK := rd.mono hle hxK
           have hxT := rd.mono hle hxT
           have hxI := rd.mono hle hxI
           have hyK := rd.mono hle hyK
           have hyT := rd.mono hle hyT
           have hyI := rd.mono hle hyI
           have hle9 := Le.trans hle9 hle
           have hxs := RdL.mono hle hxs
           have hlog1 := RLog.mono hle hlog1
           have hc1 := cel_le hle hc1
           have hc2 := cel_le hle hc2
           have hv1 := rd.mono hle hv1
           have hv2 := rd.mono hle hv2
           have hr93 := rd.mono hle hr93
           have hlog2 := RLog.mono hle hlog2
           have hn94 := RdL.mono hle hn94
           have hpa := hAt.mono hle hpa
           have hpr := RdL.mono hle hpr
           intro hF
           refine TL.load_own 3 0 rfl rfl rfl rfl rfl ?_
           refine TL.nil ?_
           exact TQ.one [] hF (Le.refl _) ⟨rfl, rfl⟩) ?_
          refine ChainV.q (some 103) [] (by
           intro H' X F hle
           have hL := Le.trans hL hle
           have hA := rd.mono hle hA
           have hb := RdL.mono hle hb
           have hl := RdL.mono hle hl
           have hr := RdL.mono hle hr
           have hbk := rd.mono hle hbk
           have hlk := rd.mono hle hlk
           have hrk := rd.mono hle hrk
           have hlog := RLog.mono hle hlog
           have hxK := rd.mono hle hxK
           have hxT := rd.mono hle hxT
           have hxI := rd.mono hle hxI
           have hyK := rd.mono hle hyK
           have hyT := rd.mono hle hyT
           have hyI := rd.mono hle hyI
           have hle9 := Le.trans hle9 hle
           have hxs := RdL.mono hle hxs
           have hlog1 := RLog.mono hle hlog1
           have hc1 := cel_le hle hc1
           have hc2 := cel_le hle hc2
           have hv1 := rd.mono hle hv1
           have hv2 := rd.mono hle hv2
           have hr93 := rd.mono hle hr93
           have hlog2 := RLog.mono hle hlog2
           have hn94 := RdL.mono hle hn94
           have hpa := hAt.mono hle hpa
           have hpr := RdL.mono hle hpr
           intro hF
           refine TL.move rfl rfl ?_
           refine TL.nil ?_
           exact TQ.one [] hF (Le.refl _) ⟨rfl, rfl⟩) ?_
          refine ChainV.q (some 104) [] (by
           intro H' X F hle
           have hL := Le.trans hL hle
           have hA := rd.mono hle hA
           have hb := RdL.mono hle hb
           have hl := RdL.mono hle hl
           have hr := RdL.mono hle hr
           have hbk := rd.mono hle hbk
           have hlk := rd.mono hle hlk
           have hrk := rd.mono hle hrk
           have hlog := RLog.mono hle hlog
           have hxK := rd.mono hle hxK
           have hxT := rd.mono hle hxT
           have hxI := rd.mono hle hxI
           have hyK := rd.mono hle hyK
           have hyT := rd.mono hle hyT
           have hyI := rd.mono hle hyI
           have hle9 := Le.trans hle9 hle
           have hxs := RdL.mono hle hxs
           have hlog1 := RLog.mono hle hlog1
           have hc1 := cel_le hle hc1
           have hc2 := cel_le hle hc2
           have hv1 := rd.mono hle hv1
           have hv2 := rd.mono hle hv2
           have hr93 := rd.mono hle hr93
           have hlog2 := RLog.mono hle hlog2
           have hn94 := RdL.mono hle hn94
           have hpa := hAt.mono hle hpa
           have hpr := RdL.mono hle hpr
           intro hF
           refine TL.fieldAddr rfl rfl ?_
           refine TL.nil ?_
           exact TQ.one [] hF (Le.refl _) ⟨rfl, rfl⟩) ?_
          refine ChainV.q (some 105) [(3, 0)] (by
           intro H' X F hle
           have hL := Le.trans hL hle
           have hA := rd.mono hle hA
           have hb := RdL.mono hle hb
           have hl := RdL.mono hle hl
           have hr := RdL.mono hle hr
           have hbk := rd.mono hle hbk
           have hlk := rd.mono hle hlk
           have hrk := rd.mono hle hrk
           have hlog := RLog.mono hle hlog
           have hxK := rd.mono hle hxK
           have hxT := rd.mono hle hxT
           have hxI := rd.mono hle hxI
           have hyK := rd.mono hle hyK
           have hyT := rd.mono hle hyT
           have hyI := rd.mono hle hyI
           have hle9 := Le.trans hle9 hle
           have hxs := RdL.mono hle hxs
           have hlog1 := RLog.mono hle hlog1
           have hc1 := cel_le hle hc1
           have hc2 := cel_le hle hc2
           have hv1 := rd.mono hle hv1
           have hv2 := rd.mono hle hv2
           have hr93 := rd.mono hle hr93
           have hlog2 := RLog.mono hle hlog2
           have hn94 := RdL.mono hle hn94
           have hpa := hAt.mono hle hpa
           have hpr := RdL.mono hle hpr
           intro hF
           refine TL.load_own 5 0 rfl rfl rfl rfl rfl ?_
           refine TL.nil ?_
           exact TQ.one [] hF (Le.refl _) ⟨rfl, rfl⟩) ?_
          refine ChainV.q (some 106) [] (by
           intro H' X F hle
           have hL := Le.trans hL hle
           have hA := rd.mono hle hA
           have hb := RdL.mono hle hb
           have hl := RdL.mono hle hl
           have hr := RdL.mono hle hr
           have hbk := rd.mono hle hbk
           have hlk := rd.mono hle hlk
           have hrk := rd.mono hle hrk
           have hlog := RLog.mono hle hlog
           have hxK := rd.mono hle hxK
           have hxT := rd.mono hle hxT
           have hxI := rd.mono hle hxI
           have hyK := rd.mono hle hyK
           have hyT := rd.mono hle hyT
           have hyI := rd.mono hle hyI
           have hle9 := Le.trans hle9 hle
           have hxs := RdL.mono hle hxs
           have hlog1 := RLog.mono hle hlog1
           have hc1 := cel_le hle hc1
           have hc2 := cel_le hle hc2
           have hv1 := rd.mono hle hv1
           have hv2 := rd.mono hle hv2
           have hr93 := rd.mono hle hr93
           have hlog2 := RLog.mono hle hlog2
           have hn94 := RdL.mono hle hn94
           have hpa := hAt.mono hle hpa
           have hpr := RdL.mono hle hpr
           intro hF
           refine TL.move rfl rfl ?_
           refine TL.nil ?_
           exact TQ.one [] hF (Le.refl _) ⟨rfl, rfl⟩) ?_
          refine ChainV.q (some 107) [(4, 1), (5, 0)] (by
           intro H' X F hle
           have hL := Le.trans hL hle
           have hA := rd.mono hle hA
           have hb := RdL.mono hle hb
           have hl := RdL.mono hle hl
           have hr := RdL.mono hle hr
           have hbk := rd.mono hle hbk
           have hlk := rd.mono hle hlk
           have hrk := rd.mono hle hrk
           have hlog := RLog.mono hle hlog
           have hxK := rd.mono hle hxK
           have hxT := rd.mono hle hxT
           have hxI := rd.mono hle hxI
           have hyK := rd.mono hle hyK
           have hyT := rd.mono hle hyT
           have hyI := rd.mono hle hyI
           have hle9 := Le.trans hle9 hle
           have hxs := RdL.mono hle hxs
           have hlog1 := RLog.mono hle hlog1
           have hc1 := cel_le hle hc1
           have hc2 := cel_le hle hc2
           have hv1 := rd.mono hle hv1
           have hv2 := rd.mono hle hv2
           have hr93 := rd.mono hle hr93
           have hlog2 := RLog.mono hle hlog2
           have hn94 := RdL.mono hle hn94
           have hpa := hAt.mono hle hpa
           have hpr := RdL.mono hle hpr
           intro hF
           refine TL.indexAddr (i) rfl rfl rfl (by omega) rfl ?_
           refine TL.nil ?_
           exact TQ.one [] hF (Le.refl _) ⟨rfl, rfl⟩) ?_
          refine ChainV.q (some 108) [(6, 0)] (by
           intro H' X F hle
           have hL := Le.trans hL hle
           have hA := rd.mono hle hA
           have hb := RdL.mono hle hb
           have hl := RdL.mono hle hl
           have hr := RdL.mono hle hr
           have hbk := rd.mono hle hbk
           have hlk := rd.mono hle hlk
           have hrk := rd.mono hle hrk
           have hlog := RLog.mono hle hlog
           have hxK := rd.mono hle hxK
           have hxT := rd.mono hle hxT
           have hxI := rd.mono hle hxI
           have hyK := rd.mono hle hyK
           have hyT := rd.mono hle hyT
           have hyI := rd.mono hle hyI
           have hle9 := Le.trans hle9 hle
           have hxs := RdL.mono hle hxs
           have hlog1 := RLog.mono hle hlog1
           have hc1 := cel_le hle hc1
           have hc2 := cel_le hle hc2
           have hv1 := rd.mono hle hv1
           have hv2 := rd.mono hle hv2
           have hr93 := rd.mono hle hr93
           have hlog2 := RLog.mono hle hlog2
           have hn94 := RdL.mono hle hn94
           have hpa := hAt.mono hle hpa
           have hpr := RdL.mono hle hpr
           intro hF
           refine TL.load_immA rfl (hpa) rfl rfl ?_
           refine TL.nil ?_
           exact TQ.one [] hF (Le.refl _) ⟨rfl, rfl⟩) ?_
          refine ChainV.q (some 109) [] (by
           intro H' X F hle
           have hL := Le.trans hL hle
           have hA := rd.mono hle hA
           have hb := RdL.mono hle hb
           have hl := RdL.mono hle hl
           have hr := RdL.mono hle hr
           have hbk := rd.mono hle hbk
           have hlk := rd.mono hle hlk
           have hrk := rd.mono hle hrk
           have hlog := RLog.mono hle hlog
           have hxK := rd.mono hle hxK
           have hxT := rd.mono hle hxT
           have hxI := rd.mono hle hxI
           have hyK := rd.mono hle hyK
           have hyT := rd.mono hle hyT
           have hyI := rd.mono hle hyI
           have hle9 := Le.trans hle9 hle
           have hxs := RdL.mono hle hxs
           have hlog1 := RLog.mono hle hlog1
           have hc1 := cel_le hle hc1
           have hc2 := cel_le hle hc2
           have hv1 := rd.mono hle hv1
           have hv2 := rd.mono hle hv2
           have hr93 := rd.mono hle hr93
           have hlog2 := RLog.mono hle hlog2
           have hn94 := RdL.mono hle hn94
           have hpa := hAt.mono hle hpa
           have hpr := RdL.mono hle hpr
           intro hF
           refine TL.load_ownA 2 0 [_, _, _] rfl rfl rfl ⟨rfl, rfl, rfl, trivial⟩ rfl rfl ?_
           refine TL.nil ?_
           exact TQ.one [] hF (Le.refl _) ⟨rfl, rfl⟩) ?_
          refine ChainV.q (some 110) [] (by
           intro H' X F hle
           have hL := Le.trans hL hle
           have hA := rd.mono hle hA
           have hb := RdL.mono hle hb
           have hl := RdL.mono hle hl
           have hr := RdL.mono hle hr
           have hbk := rd.mono hle hbk
           have hlk := rd.mono hle hlk
           have hrk := rd.mono hle hrk
           have hlog := RLog.mono hle hlog
           have hxK := rd.mono hle hxK
           have hxT := rd.mono hle hxT
           have hxI := rd.mono hle hxI
           have hyK := rd.mono hle hyK
           have hyT := rd.mono hle hyT
           have hyI := rd.mono hle hyI
           have hle9 := Le.trans hle9 hle
           have hxs := RdL.mono hle hxs
           have hlog1 := RLog.mono hle hlog1
           have hc1 := cel_le hle hc1
           have hc2 := cel_le hle hc2
           have hv1 := rd.mono hle hv1
           have hv2 := rd.mono hle hv2
           have hr93 := rd.mono hle hr93
           have hlog2 := RLog.mono hle hlog2
           have hn94 := RdL.mono hle hn94
           have hpa := hAt.mono hle hpa
           have hpr := RdL.mono hle hpr
           intro hF
           refine TL.load_ownA 1 0 [_, _, _] rfl rfl rfl ⟨rfl, rfl, rfl, trivial⟩ rfl rfl ?_
           refine TL.nil ?_
           exact TQ.one [] hF (Le.refl _) ⟨rfl, rfl⟩) ?_
          refine ChainV.q (some 111) [] (by
           intro H' X F hle
           have hL := Le.trans hL hle
           have hA := rd.mono hle hA
           have hb := RdL.mono hle hb
           have hl := RdL.mono hle hl
           have hr := RdL.mono hle hr
           have hbk := rd.mono hle hbk
           have hlk := rd.mono hle hlk
           have hrk := rd.mono hle hrk
           have hlog := RLog.mono hle hlog
           have hxK := rd.mono hle hxK
           have hxT := rd.mono hle hxT
           have hxI := rd.mono hle hxI
           have hyK := rd.mono hle hyK
           have hyT := rd.mono hle hyT
           have hyI := rd.mono hle hyI
           have hle9 := Le.trans hle9 hle
           have hxs := RdL.mono hle hxs
           have hlog1 := RLog.mono hle hlog1
           have hc1 := cel_le hle hc1
           have hc2 := cel_le hle hc2
           have hv1 := rd.mono hle hv1
           have hv2 := rd.mono hle hv2
           have hr93 := rd.mono hle hr93
           have hlog2 := RLog.mono hle hlog2
           have hn94 := RdL.mono hle hn94
           have hpa := hAt.mono hle hpa
           have hpr := RdL.mono hle hpr
           intro hF
           refine TL.move rfl rfl ?_
           refine TL.nil ?_
           exact TQ.one [] hF (Le.refl _) ⟨rfl, rfl⟩) ?_
          refine ChainV.q (some 112) [] (by
           intro H' X F hle
           have hL := Le.trans hL hle
           have hA := rd.mono hle hA
           have hb := RdL.mono hle hb
           have hl := RdL.mono hle hl
           have hr := RdL.mono hle hr
           have hbk := rd.mono hle hbk
           have hlk := rd.mono hle hlk
           have hrk := rd.mono hle hrk
           have hlog := RLog.mono hle hlog
           have hxK := rd.mono hle hxK
           have hxT := rd.mono hle hxT
           have hxI := rd.mono hle hxI
           have hyK := rd.mono hle hyK
           have hyT := rd.mono hle hyT
           have hyI := rd.mono hle hyI
           have hle9 := Le.trans hle9 hle
           have hxs := RdL.mono hle hxs
           have hlog1 := RLog.mono hle hlog1
           have hc1 := cel_le hle hc1
           have hc2 := cel_le hle hc2
           have hv1 := rd.mono hle hv1
           have hv2 := rd.mono hle hv2
           have hr93 := rd.mono hle hr93
           have hlog2 := RLog.mono hle hlog2
           have hn94 := RdL.mono hle hn94
           have hpa := hAt.mono hle hpa
           have hpr := RdL.mono hle hpr
           intro hF
           refine TL.move rfl rfl ?_
           refine TL.nil ?_
           exact TQ.one [] hF (Le.refl _) ⟨rfl, rfl⟩) ?_
          refine ChainV.q (some 113) [] (by
           intro H' X F hle
           have hL := Le.trans hL hle
           have hA := rd.mono hle hA
           have hb := RdL.mono hle hb
           have hl := RdL.mono hle hl
           have hr := RdL.mono hle hr
           have hbk := rd.mono hle hbk
           have hlk := rd.mono hle hlk
           have hrk := rd.mono hle hrk
           have hlog := RLog.mono hle hlog
           have hxK := rd.mono hle hxK
           have hxT := rd.mono hle hxT
           have hxI := rd.mono hle hxI
           have hyK := rd.mono hle hyK
           have hyT := rd.mono hle hyT
           have hyI := rd.mono hle hyI
           have hle9 := Le.trans hle9 hle
           have hxs := RdL.mono hle hxs
           have hlog1 := RLog.mono hle hlog1
           have hc1 := cel_le hle hc1
           have hc2 := cel_le hle hc2
           have hv1 := rd.mono hle hv1
           have hv2 := rd.mono hle hv2
           have hr93 := rd.mono hle hr93
           have hlog2 := RLog.mono hle hlog2
           have hn94 := RdL.mono hle hn94
           have hpa := hAt.mono hle hpa
           have hpr := RdL.mono hle hpr
           intro hF
           refine TL.move rfl rfl ?_
           refine TL.nil ?_
           exact TQ.one [] hF (Le.refl _) ⟨rfl, rfl⟩) ?_
          refine ChainV.r (some 114) [(11, 1), (12, 0)] ([]) (fun _ => fun u s_ H => rd H (pD (p ++ [i])) u ∧ s_ = []) (by
           intro H' X F hle
           have hL := Le.trans hL hle
           have hA := rd.mono hle hA
           have hb := RdL.mono hle hb
           have hl := RdL.mono hle hl
           have hr := RdL.mono hle hr
           have hbk := rd.mono hle hbk
           have hlk := rd.mono hle hlk
           have hrk := rd.mono hle hrk
           have hlog := RLog.mono hle hlog
           have hxK := rd.mono hle hxK
           have hxT := rd.mono hle hxT
           have hxI := rd.mono hle hxI
           have hyK := rd.mono hle hyK
           have hyT := rd.mono hle hyT
           have hyI := rd.mono hle hyI
           have hle9 := Le.trans hle9 hle
           have hxs := RdL.mono hle hxs
           have hlog1 := RLog.mono hle hlog1
           have hc1 := cel_le hle hc1
           have hc2 := cel_le hle hc2
           have hv1 := rd.mono hle hv1
           have hv2 := rd.mono hle hv2
           have hr93 := rd.mono hle hr93
           have hlog2 := RLog.mono hle hlog2
           have hn94 := RdL.mono hle hn94
           have hpa := hAt.mono hle hpa
           have hpr := RdL.mono hle hpr
           intro hF
           refine TL.call (ref_extend (by omega) hA) ⟨rfl, rfl, trivial⟩ rfl ?_
           rintro ve _ He ⟨hve, rfl, hlee⟩
           refine TL.nil ?_
           exact TQ.one [] hF hlee ⟨hve, rfl⟩) ?_
          refine ChainV.r (some 115) [(2, 11), (7, 6), (8, 5), (9, 4), (10, 3), (13, 0)] ([[(gm, .cells #[u2] e (0, 0))]]) (fun _ => fun r s_ H => ∃ u3, s_ = [[(gm, .cells #[u3] e (0, 0))]] ∧ rd H (.s 2 (Tr.ds (kidP (mergeF k) t f1 f2 (p ++ [i])).1)) r ∧ RLog H u3 ((kidP (mergeF k) t f1 f2 (p ++ [i])).2.foldl addP ((insP la lb (p ++ [i])).2.foldl addP ((S i).2.foldl addP ps)))) (by
           intro H' X F hle
           have hL := Le.trans hL hle
           have hA := rd.mono hle hA
           have hb := RdL.mono hle hb
           have hl := RdL.mono hle hl
           have hr := RdL.mono hle hr
           have hbk := rd.mono hle hbk
           have hlk := rd.mono hle hlk
           have hrk := rd.mono hle hrk
           have hlog := RLog.mono hle hlog
           have hxK := rd.mono hle hxK
           have hxT := rd.mono hle hxT
           have hxI := rd.mono hle hxI
           have hyK := rd.mono hle hyK
           have hyT := rd.mono hle hyT
           have hyI := rd.mono hle hyI
           have hle9 := Le.trans hle9 hle
           have hxs := RdL.mono hle hxs
           have hlog1 := RLog.mono hle hlog1
           have hc1 := cel_le hle hc1
           have hc2 := cel_le hle hc2
           have hv1 := rd.mono hle hv1
           have hv2 := rd.mono hle hv2
           have hr93 := rd.mono hle hr93
           have hlog2 := RLog.mono hle hlog2
           have hn94 := RdL.mono hle hn94
           have hpa := hAt.mono hle hpa
           have hpr := RdL.mono hle hpr
           intro _
           rintro ve114 _ He114 hlee114 ⟨hve, rfl⟩
           replace hve := rd.mono hlee114 hve
           intro hF
           refine TL.call (ref_kid (ih t (Tr.size_kid (List.mem_of_getElem? ht) hk0) (by omega)) hf1 hf2 (by omega) (by omega) (by simp; omega) (by omega) hpr ⟨hxK, hxT, hxI, trivial⟩ ⟨hyK, hyT, hyI, trivial⟩ hve hlog2) ⟨rfl, rfl, rfl, rfl, rfl, rfl, trivial⟩ rfl ?_
           rintro r115 _ H11 ⟨u3, hr11, rfl, hlog11, hle11⟩
           refine TL.nil ?_
           exact TQ.one [_] hF hle11 ⟨_, rfl, hr11, hlog11⟩) ?_
          refine ⟨by kernel_rfl, .refl _, ?_⟩
          ·
           intro H5 hle
           rintro ve114 _ He114 hlee114 ⟨hve, rfl⟩
           replace hve := rd.mono hlee114 hve
           rintro r115 _ Hi hlei ⟨u3, rfl, hr115, hlog3⟩
           replace hr115 := rd.mono hlei hr115
           replace hlog3 := RLog.mono hlei hlog3
           have hL := Le.trans hL hle
           have hA := rd.mono hle hA
           have hb := RdL.mono hle hb
           have hl := RdL.mono hle hl
           have hr := RdL.mono hle hr
           have hbk := rd.mono hle hbk
           have hlk := rd.mono hle hlk
           have hrk := rd.mono hle hrk
           have hlog := RLog.mono hle hlog
           have hxK := rd.mono hle hxK
           have hxT := rd.mono hle hxT
           have hxI := rd.mono hle hxI
           have hyK := rd.mono hle hyK
           have hyT := rd.mono hle hyT
           have hyI := rd.mono hle hyI
           have hle9 := Le.trans hle9 hle
           have hxs := RdL.mono hle hxs
           have hlog1 := RLog.mono hle hlog1
           have hc1 := cel_le hle hc1
           have hc2 := cel_le hle hc2
           have hv1 := rd.mono hle hv1
           have hv2 := rd.mono hle hv2
           have hr93 := rd.mono hle hr93
           have hlog2 := RLog.mono hle hlog2
           have hn94 := RdL.mono hle hn94
           have hpa := hAt.mono hle hpa
           have hpr := RdL.mono hle hpr
           refine TL.toOwn (own' := _ :: _ :: _ :: _ :: _ :: _ :: _ :: own) rfl ?_
           refine TL.wk (env' := [(0, _), (4, _), (6, _), (10, _), (14, _), (15, _), (16, _), (17, _), (102, _), (115, _)]) ⟨rfl, rfl, rfl, rfl, rfl, rfl, rfl, rfl, rfl, rfl, trivial⟩ ?_
           obtain ⟨A116, c116, nw116, rfl, hs116, hn116⟩ := hr115.srcN (m := (kidP (mergeF k) t f1 f2 (p ++ [i])).1.length) (by omega) (Tr.ds_len _) (Tr.ds_one _)
           refine TL.append 1 rfl rfl rfl hrow94 (hs116 _ _) (by omega) (by omega) rfl ?_
           intro v116 seg116 hrow116
           refine TL.fieldAddr rfl rfl ?_
           refine TL.store1 4 0 (c' := #[_, _]) (own' := _ :: _ :: _ :: _ :: [(_, .cells #[_, _] _ _)] :: _) rfl rfl rfl rfl hrow116.one (by simp) rfl rfl rfl ?_
           refine TL.nil ?_
           refine TQ.in_n ?_
           refine TQ.then_n ?_
           refine TC.region ?_
           refine TL.move rfl rfl ?_
           refine TL.add rfl rfl rfl ⟨by omega, by omega⟩ ?_
           refine TL.assign rfl rfl ?_
           refine TL.nil ?_
           refine TQ.sel 7 [1, 2, 3, 4, 5, 0, 6] rfl (fun o ho => ?_)
           simp only [K.sel, List.map_cons, List.map_nil, List.getD_cons_zero, List.getD_cons_succ, List.drop_succ_cons, List.drop_zero, List.cons_append, List.nil_append, List.set_cons_zero, List.set_cons_succ] at ho; subst ho
           refine TQ.next (bk.length + 1 - (i + 1)) [(0, _), (4, _), (6, _), (10, _), (14, _), (15, _), (16, _), (17, _)] (by omega) ⟨rfl, rfl, rfl, rfl, rfl, rfl, rfl, rfl, trivial⟩ ⟨i + 1, u3, v116, xs ++ nw94 ++ nw116, seg116, rfl, by omega, ?_, ?_, ?_, by simp, rfl, hle9⟩
           · rw [hSs i t la lb f1 f2 ht hla' hlb' hf1 hf2]; simpa [Nat.add_assoc] using hrow116
           · rw [hSs i t la lb f1 f2 ht hla' hlb' hf1 hf2]; exact trs_append (trs_append hxs hn94) hn116
           · rw [hSs i t la lb f1 f2 ht hla' hlb' hf1 hf2, fold_app, fold_app]; exact hlog3
         ·
          refine TL.nil ?_
          refine TQ.then_n ?_
          refine TC.cond_f rfl ?_
          refine TC.skip ?_
          refine TQ.in_n ?_
          refine TQ.then_n ?_
          refine TC.region ?_
          refine TL.move rfl rfl ?_
          refine TL.add rfl rfl rfl ⟨by omega, by omega⟩ ?_
          refine TL.assign rfl rfl ?_
          refine TL.nil ?_
          refine TQ.sel 7 [1, 2, 3, 4, 5, 0, 6] rfl (fun o ho => ?_)
          simp only [K.sel, List.map_cons, List.map_nil, List.getD_cons_zero, List.getD_cons_succ, List.drop_succ_cons, List.drop_zero, List.cons_append, List.nil_append, List.set_cons_zero, List.set_cons_succ] at ho; subst ho
          refine TQ.next (bk.length + 1 - (i + 1)) [(0, _), (4, _), (6, _), (10, _), (14, _), (15, _), (16, _), (17, _)] (by omega) ⟨rfl, rfl, rfl, rfl, rfl, rfl, rfl, rfl, trivial⟩ ⟨i + 1, u2, v94, xs ++ nw94, seg94, rfl, by omega, ?_, ?_, ?_, by simp, rfl, hle9⟩
          · rw [hSn i la lb (List.getElem?_eq_none (by omega)) hla' hlb']; simpa using hrow94
          · rw [hSn i la lb (List.getElem?_eq_none (by omega)) hla' hlb']; exact trs_append hxs hn94
          · rw [hSn i la lb (List.getElem?_eq_none (by omega)) hla' hlb', fold_app]; exact hlog2
       ·
        refine TL.nil ?_
        refine TQ.then_n ?_
        refine TC.cond_f rfl ?_
        refine TC.exit ?_
        refine TQ.then_e ?_
        refine TQ.then_e ?_
        refine TQ.in_e ?_
        refine TQ.then_n ?_
        refine TC.seq ?_
        have hie : i = bk.length + 1 := by omega
        subst hie
        refine TC.region ?_
        refine TL.load_ownA 3 0 [_, _] rfl rfl rfl ⟨rfl, rfl, trivial⟩ rfl rfl ?_
        refine TL.storeA 4 0 (c' := #[_, _]) (own' := _ :: _ :: _ :: _ :: [(_, .cells #[_, _] _ _)] :: _) rfl rfl rfl rfl rfl ⟨rfl, hrow.one, trivial⟩ (by simp) rfl rfl rfl ?_
        refine TL.nil ?_
        refine TQ.then_n ?_
        refine TC.ret ?_
        refine TQ.freeze (fun H6 hle hz_segk => ?_)
        have hL := Le.trans hL hle
        have hA := rd.mono hle hA
        have hb := RdL.mono hle hb
        have hl := RdL.mono hle hl
        have hr := RdL.mono hle hr
        have hbk := rd.mono hle hbk
        have hlk := rd.mono hle hlk
        have hrk := rd.mono hle hrk
        have hlog := RLog.mono hle hlog
        have hxK := rd.mono hle hxK
        have hxT := rd.mono hle hxT
        have hxI := rd.mono hle hxI
        have hyK := rd.mono hle hyK
        have hyT := rd.mono hle hyT
        have hyI := rd.mono hle hyI
        have hle9 := Le.trans hle9 hle
        have hxs := RdL.mono hle hxs
        have hlog1 := RLog.mono hle hlog1
        refine TQ.sel 6 [3, 4] rfl (fun o ho => ?_)
        simp only [K.sel, List.map_cons, List.map_nil, List.getD_cons_zero, List.getD_cons_succ, List.drop_succ_cons, List.drop_zero, List.cons_append, List.nil_append, List.set_cons_zero, List.set_cons_succ] at ho; subst ho
        refine TQ.retC 0 0 1 [_, _] rfl rfl rfl rfl ⟨rfl, rfl, trivial⟩ rfl rfl ?_
        first
          | exact ⟨_, _, _, rfl, by rw [mf_a hlb]; exact hr, rfl, by rw [mf_a hlb]; exact hlog, hL⟩
          | exact ⟨_, _, _, rfl, by rw [mf_b hlb (.inl hrb)]; exact hl, rfl, by rw [mf_b hlb (.inl hrb)]; exact hlog, hL⟩
          | exact ⟨_, _, _, rfl, by rw [mf_b hlb (.inr hlr)]; exact hl, rfl, by rw [mf_b hlb (.inr hlr)]; exact hlog, hL⟩
          | exact ⟨_, _, _, rfl, by rw [mf_c hlb hrb hlr, ← hS]; exact tr_mk (rd.ofRow hrow hz_segk hxs (Le.refl _)), rfl, by rw [mf_c hlb hrb hlr, ← hS]; exact hlog1, hL⟩
theorem rlog_nil (H : Hp) : RLog H (.slice none 0 0) [] := rd.nil H 1
theorem canon_nil {ps : List Path} : canon ps = [] ↔ ps = [] := by
  constructor
  · intro h
    cases ps with
    | nil => rfl
    | cons p r =>
      have : p ∈ canon (p :: r) := canon_mem.2 (by simp)
      rw [h] at this
      cases this
  · rintro rfl; rfl
theorem ref_merge {b l r : Tr} (hbs : b.size ≤ 1000) (hls : l.size ≤ 1000) (hrs : r.size ≤ 1000) {w0 : World} {H : Hp} {own : List Seg} {b0 b1 l0 l1 r0 r1 : Value} (hb : RdL H b.d [b0, b1]) (hl : RdL H l.d [l0, l1]) (hr : RdL H r.d [r0, r1]) :
    Fn Try.prog 29 [.agg #[b0, b1], .agg #[l0, l1], .agg #[r0, r1]] w0 H own
      (fun v own' H' => ∃ c0 c1 pv, v = .agg #[c0, c1, pv] ∧ RdL H' (mergeR b l r).1.d [c0, c1] ∧ rd H' (.s 1 ((mergeR b l r).2.map pD)) pv ∧ own' = own ∧ Le H H') := by
  refine Fn.enter Try.func29 rfl Try.ntmps29 rfl ?_
  have hL := Le.refl H
  refine TC.seq ?_
  refine TC.region ?_
  refine TL.box (c := #[_, _]) rfl rfl rfl ?_; intro g3
  refine TL.box (c := #[_, _]) rfl rfl rfl ?_; intro g4
  refine TL.box (c := #[_, _]) rfl rfl rfl ?_; intro g5
  refine TL.new rfl ?_; intro g6
  refine TL.nil ?_
  refine TQ.then_n ?_
  refine TC.seq ?_
  refine TC.region ?_
  refine TL.struct [] trivial rfl rfl ?_
  refine TL.box (c := #[_]) rfl rfl rfl ?_; intro g10
  refine TL.assign rfl rfl ?_
  refine TL.nil ?_
  refine TQ.then_n ?_
  refine TC.seq ?_
  refine TC.region ?_
  refine TL.move rfl rfl ?_
  refine TL.load_ownA 4 0 [_, _] rfl rfl rfl ⟨rfl, rfl, trivial⟩ rfl rfl ?_
  refine TL.load_ownA 3 0 [_, _] rfl rfl rfl ⟨rfl, rfl, trivial⟩ rfl rfl ?_
  refine TL.load_ownA 2 0 [_, _] rfl rfl rfl ⟨rfl, rfl, trivial⟩ rfl rfl ?_
  refine TL.call (ref_node b.size b (Nat.le_refl _) (by omega) (by omega) (by omega) (by simp; omega) (by simp; omega) hb hl hr (path_nil _) (rlog_nil _)) ⟨rfl, rfl, rfl, rfl, rfl, trivial⟩ rfl ?_
  rintro _ _ H2 ⟨c0, c1, u2, rfl, hx, rfl, hlog, hle2⟩
  replace hlog : rd _ (.s 1 ((canon (mergeF b.size b l r []).2).map pD)) u2 := hlog
  obtain ⟨Au, cu, rfl, _⟩ := paths_len hlog
  have hL := Le.trans hL hle2
  have hb := RdL.mono hle2 hb
  have hl := RdL.mono hle2 hl
  have hr := RdL.mono hle2 hr
  refine TL.new rfl ?_; intro g8
  refine TL.storeA 0 0 (vs := [c0, c1]) (c' := #[_, _]) (own' := [(_, .cells #[_, _] _ _)] :: _) rfl rfl rfl rfl rfl (tr_ones hx) (by simp) rfl rfl rfl ?_
  refine TL.nil ?_
  refine TQ.then_n ?_
  refine TC.seq ?_
  refine TC.seq ?_
  refine TC.region ?_
  refine TL.move rfl rfl ?_
  refine TL.nilCheck rfl rfl ?_
  refine TL.fieldAddr rfl rfl ?_
  refine TL.load_own 1 0 rfl rfl rfl rfl rfl ?_
  refine TL.len_slice rfl rfl ?_
  refine TL.gtrB rfl rfl rfl (fun h0 => ?_) (fun h0 => ?_)
  ·
   have hnil : (mergeF b.size b l r []).2 ≠ [] := by intro h; rw [canon_nil.2 h] at h0; exact absurd h0 (by simp)
   refine TL.nil ?_
   refine TQ.then_n ?_
   refine TC.cond_t rfl ?_
   refine TC.seq ?_
   refine TC.region ?_
   refine TL.move rfl rfl ?_
   refine TL.nilCheck rfl rfl ?_
   refine TL.fieldAddr rfl rfl ?_
   refine TL.load_own 1 0 rfl rfl rfl rfl rfl ?_
   refine TL.struct [(1, [_])] ⟨rfl, ⟨_, rfl, rfl⟩, trivial⟩ rfl rfl ?_
   refine TL.storeA 2 0 (c' := #[_, _, _]) (own' := _ :: _ :: [(_, .cells #[_, _, _] _ _)] :: _) rfl rfl rfl rfl rfl ⟨rfl, rfl, rfl, trivial⟩ (by simp) rfl rfl rfl ?_
   refine TL.nil ?_
   refine TQ.then_n ?_
   refine TC.ret ?_
   refine TQ.then_r ?_
   refine TQ.retC 2 0 6 [_, _, _] rfl rfl rfl rfl ⟨rfl, rfl, rfl, trivial⟩ rfl rfl ?_
   first
     | exact ⟨_, _, _, rfl, by rw [mr_0 hnil]; exact hx, by rw [mr_0 hnil]; exact rd.nil _ _, rfl, hL⟩
     | exact ⟨_, _, _, rfl, by rw [mr_1 hnil]; exact tr_mk (rd.nil _ _), by rw [mr_1 hnil]; exact hlog, rfl, hL⟩
  ·
   have hnil : (mergeF b.size b l r []).2 = [] := canon_nil.1 (List.eq_nil_of_length_eq_zero (by omega))
   refine TL.nil ?_
   refine TQ.then_n ?_
   refine TC.cond_f rfl ?_
   refine TC.skip ?_
   refine TQ.then_n ?_
   refine TC.seq ?_
   refine TC.region ?_
   refine TL.load_ownA 0 0 [_, _] rfl rfl rfl ⟨rfl, rfl, trivial⟩ rfl rfl ?_
   refine TL.struct [(0, [_, _])] ⟨rfl, ⟨_, rfl, rfl⟩, trivial⟩ rfl rfl ?_
   refine TL.storeA 2 0 (vs := [c0, c1, .slice none 0 0]) (c' := #[_, _, _]) (own' := _ :: _ :: [(_, .cells #[_, _, _] _ _)] :: _) rfl rfl rfl rfl rfl ⟨(tr_ones hx).1, (tr_ones hx).2.1, rfl, trivial⟩ (by simp) rfl rfl rfl ?_
   refine TL.nil ?_
   refine TQ.then_n ?_
   refine TC.ret ?_
   refine TQ.retC 2 0 6 [_, _, _] rfl rfl rfl rfl ⟨rfl, rfl, rfl, trivial⟩ rfl rfl ?_
   first
     | exact ⟨_, _, _, rfl, by rw [mr_0 hnil]; exact hx, by rw [mr_0 hnil]; exact rd.nil _ _, rfl, hL⟩
     | exact ⟨_, _, _, rfl, by rw [mr_1 hnil]; exact tr_mk (rd.nil _ _), by rw [mr_1 hnil]; exact hlog, rfl, hL⟩
theorem law_agrees {b l r : Tr} (hbs : b.size ≤ 1000) (hls : l.size ≤ 1000) (hrs : r.size ≤ 1000) {w0 : World} {H : Hp} {own : List Seg} {b0 b1 l0 l1 r0 r1 : Value} (hb : RdL H b.d [b0, b1]) (hl : RdL H l.d [l0, l1]) (hr : RdL H r.d [r0, r1]) :
    Fn Try.prog 15 [.agg #[b0, b1], .agg #[l0, l1], .agg #[r0, r1]] w0 H own (fun v own' H' => v = .bool true ∧ own' = own ∧ Le H H') := by
  refine Fn.enter Try.func15 rfl Try.ntmps15 rfl ?_
  have hL := Le.refl H
  refine TC.seq ?_
  refine TC.region ?_
  refine TL.box (c := #[_, _]) rfl rfl rfl ?_; intro g3
  refine TL.box (c := #[_, _]) rfl rfl rfl ?_; intro g4
  refine TL.box (c := #[_, _]) rfl rfl rfl ?_; intro g5
  refine TL.assign rfl rfl ?_
  refine TL.nil ?_
  refine TQ.then_n ?_
  refine TC.seq ?_
  refine TC.region ?_
  refine TL.load_ownA 2 0 [_, _] rfl rfl rfl ⟨rfl, rfl, trivial⟩ rfl rfl ?_
  refine TL.load_ownA 1 0 [_, _] rfl rfl rfl ⟨rfl, rfl, trivial⟩ rfl rfl ?_
  refine TL.load_ownA 0 0 [_, _] rfl rfl rfl ⟨rfl, rfl, trivial⟩ rfl rfl ?_
  refine TL.call (merge_top hbs hls hrs hb hl hr) ⟨rfl, rfl, rfl, trivial⟩ rfl ?_
  rintro _ _ H2 ⟨c0, c1, pv, rfl, hx, hp, rfl, hle2⟩
  have hL := Le.trans hL hle2
  have hb := RdL.mono hle2 hb
  have hl := RdL.mono hle2 hl
  have hr := RdL.mono hle2 hr
  refine TL.move rfl rfl ?_
  refine TL.extract rfl rfl rfl ?_
  refine TL.extract rfl rfl rfl ?_
  refine TL.new rfl ?_; intro g7
  refine TL.storeA 0 0 (vs := [c0, c1]) (c' := #[_, _]) (own' := [(_, .cells #[_, _] _ _)] :: _) rfl rfl rfl rfl rfl (tr_ones hx) (by simp) rfl rfl rfl ?_
  refine TL.assign rfl rfl ?_
  refine TL.nil ?_
  refine TQ.then_n ?_
  refine TC.seq ?_
  refine TC.region ?_
  refine TL.load_ownA 3 0 [_, _] rfl rfl rfl ⟨rfl, rfl, trivial⟩ rfl rfl ?_
  refine TL.load_ownA 2 0 [_, _] rfl rfl rfl ⟨rfl, rfl, trivial⟩ rfl rfl ?_
  refine TL.load_ownA 1 0 [_, _] rfl rfl rfl ⟨rfl, rfl, trivial⟩ rfl rfl ?_
  refine TL.call (ref_merge hbs hls hrs hb hl hr) ⟨rfl, rfl, rfl, trivial⟩ rfl ?_
  rintro _ _ H3 ⟨d0, d1, qv, rfl, hy, hq, rfl, hle3⟩
  have hL := Le.trans hL hle3
  have hb := RdL.mono hle3 hb
  have hl := RdL.mono hle3 hl
  have hr := RdL.mono hle3 hr
  have hx := RdL.mono hle3 hx
  have hp := rd.mono hle3 hp
  refine TL.new rfl ?_; intro g9
  refine TL.storeA 0 0 (vs := [d0, d1, qv]) (c' := #[_, _, _]) (own' := [(_, .cells #[_, _, _] _ _)] :: _) rfl rfl rfl rfl rfl ⟨(tr_ones hy).1, (tr_ones hy).2.1, hq.one, trivial⟩ (by simp) rfl rfl rfl ?_
  refine TL.nil ?_
  refine TQ.then_n ?_
  refine TC.seq ?_
  refine TC.region ?_
  refine TL.load_ownA 1 0 [_, _] rfl rfl rfl ⟨rfl, rfl, trivial⟩ rfl rfl ?_
  refine TL.fieldAddr rfl rfl ?_
  refine TL.load_ownA 0 0 [_, _] rfl rfl rfl ⟨rfl, rfl, trivial⟩ rfl rfl ?_
  refine TL.call (ref_same _ _ _ (Nat.le_refl _) hx hy) ⟨rfl, rfl, trivial⟩ rfl ?_
  rintro _ _ H4 ⟨rfl, rfl, hle4⟩
  rw [eqb_self]
  have hL := Le.trans hL hle4
  have hb := RdL.mono hle4 hb
  have hl := RdL.mono hle4 hl
  have hr := RdL.mono hle4 hr
  have hx := RdL.mono hle4 hx
  have hp := rd.mono hle4 hp
  have hy := RdL.mono hle4 hy
  have hq := rd.mono hle4 hq
  refine TL.move rfl rfl ?_
  refine TL.gyes rfl rfl rfl ?_
  refine TL.move rfl rfl ?_
  refine TL.gyes rfl rfl rfl ?_
  refine TL.fieldAddr rfl rfl ?_
  refine TL.gyes rfl rfl rfl ?_
  refine TL.load_own 0 0 rfl rfl rfl rfl rfl ?_
  refine TL.gyes rfl rfl rfl ?_
  refine TL.call (ref_Paths hp hq) ⟨rfl, rfl, trivial⟩ rfl ?_
  rintro _ _ H5 ⟨rfl, rfl, hle5⟩
  rw [decide_eq_true rfl]
  have hL := Le.trans hL hle5
  have hb := RdL.mono hle5 hb
  have hl := RdL.mono hle5 hl
  have hr := RdL.mono hle5 hr
  have hx := RdL.mono hle5 hx
  have hp := rd.mono hle5 hp
  have hy := RdL.mono hle5 hy
  have hq := rd.mono hle5 hq
  refine TL.pickT rfl rfl rfl rfl ?_
  refine TL.assign rfl rfl ?_
  refine TL.nil ?_
  refine TQ.then_n ?_
  refine TC.ret ?_
  refine TQ.ret1 5 rfl rfl ?_
  exact ⟨rfl, rfl, hL⟩

end Go.Proofs.Ytapmmfabdmhdnaa.K
