/-
  Small functions.
-/
import Derived.Test.YtapmmfabdmhdnaaDSame
set_option linter.unusedVariables false
set_option linter.unusedSimpArgs false
set_option maxHeartbeats 4000000
namespace Go.Proofs.Ytapmmfabdmhdnaa.K
open Go Go.RowKit Go.Proofs

theorem law_leaf {s : ByteArray} {w0 : World} {H : Hp} {own : List Seg} :
    Fn Try.prog 22 [.string s] w0 H own (fun v own' H' => v = .agg #[.string s, .slice none 0 0] ∧ own' = own ∧ Le H H') := by
  refine Fn.enter Try.func22 rfl Try.ntmps22 rfl ?_
  have hL := Le.refl H
  refine TC.seq ?_
  refine TC.region ?_
  refine TL.new rfl ?_; intro g2
  refine TL.nil ?_
  refine TQ.then_n ?_
  refine TC.seq ?_
  refine TC.region ?_
  refine TL.move rfl rfl ?_
  refine TL.struct [(0, [_])] ⟨rfl, ⟨_, rfl, rfl⟩, trivial⟩ rfl rfl ?_
  refine TL.storeA 0 0 (c' := #[_, _]) (own' := [(_, .cells #[_, _] _ _)] :: _) rfl rfl rfl rfl rfl ⟨rfl, rfl, trivial⟩ (by simp) rfl rfl rfl ?_
  refine TL.nil ?_
  refine TQ.then_n ?_
  refine TC.ret ?_
  refine TQ.retC 0 0 1 [_, _] rfl rfl rfl rfl ⟨rfl, rfl, trivial⟩ rfl rfl ?_
  exact ⟨rfl, rfl, hL⟩
theorem merge_clone (k : Nat) : ∀ (t : Tr), t.size ≤ k → k ≤ 1073741824 → ∀ {w0 : World} {H : Hp} {own : List Seg} {a0 a1 : Value}, RdL H t.d [a0, a1] →
    Fn Try.prog 32 [.agg #[a0, a1]] w0 H own (fun v own' H' => ∃ c0 c1, v = .agg #[c0, c1] ∧ RdL H' t.d [c0, c1] ∧ own' = own ∧ Le H H') := by
  induction k with
  | zero => intro t h; have := t.size_pos; omega
  | succ k ih =>
    rintro ⟨l, ks⟩ hk hlim w0 H own a0 a1 ht
    obtain ⟨rfl, A, c, rfl, hc1, hc2, hA⟩ := tr_cells ht
    have hks : ks.length ≤ 1073741824 := by have := Tr.len_le ks; simp only [Tr.size] at hk; omega
    refine Fn.enter Try.func32 rfl Try.ntmps32 rfl ?_
    have hL := Le.refl H
    refine TC.seq ?_
    refine TC.region ?_
    refine TL.box (c := #[_, _]) rfl rfl rfl ?_; intro g1
    refine TL.new rfl ?_; intro g2
    refine TL.nil ?_
    refine TQ.then_n ?_
    refine TC.seq ?_
    refine TC.region ?_
    refine TL.fieldAddr rfl rfl ?_
    refine TL.load_own 1 0 rfl rfl rfl rfl rfl ?_
    refine TL.struct [(0, [_])] ⟨rfl, ⟨_, rfl, rfl⟩, trivial⟩ rfl rfl ?_
    refine TL.new rfl ?_; intro g3
    refine TL.storeA 0 0 (c' := #[_, _]) (own' := [(_, .cells #[_, _] _ _)] :: _) rfl rfl rfl rfl rfl ⟨rfl, rfl, trivial⟩ (by simp) rfl rfl rfl ?_
    refine TL.nil ?_
    refine TQ.then_n ?_
    refine TC.seq ?_
    refine TC.seq ?_
    refine TC.nilseg ?_
    refine TC.region ?_
    refine TL.fieldAddr rfl rfl ?_
    refine TL.load_own 3 0 rfl rfl rfl rfl rfl ?_
    refine TL.len_slice rfl rfl ?_
    refine TL.move rfl rfl ?_
    refine TL.nil ?_
    refine TQ.then_n ?_
    refine TC.block ?_
    refine TC.loop (fun n env' own' H' => ∃ k' v xs seg, n = ks.length - k' ∧ k' ≤ ks.length ∧ Row 27 2 v k' xs seg ∧ RdL H' (Tr.ds (ks.take k')) xs ∧ env' = [(2, .pointer (some ⟨g2, 0, none⟩)), (3, .pointer (some ⟨g3, 0, none⟩)), (10, .slice A ks.length c), (11, .int .i64 (ks.length : Int)), (12, .int .i64 (k' : Int))] ∧ own' = seg :: [(g3, .cells #[.string l, v] 27 (0, 0))] :: [(g2, .cells #[.string ⟨#[]⟩, .slice none 0 0] 27 (0, 0))] :: [(g1, .cells #[.string l, .slice A ks.length c] 27 (0, 0))] :: own ∧ Le H H') ks.length [(2, _), (3, _), (10, _), (11, _), (12, _)] ⟨rfl, rfl, rfl, rfl, rfl, trivial⟩ ⟨0, _, [], [], by omega, by omega, Row.nil 27 2, trivial, rfl, rfl, Le.refl _⟩ ?_
    rintro n _ _ H1 ⟨k', v, xs, seg, rfl, hk1, hrow, hxs, rfl, rfl, hle0⟩
    have hL := Le.trans hL hle0
    have hA := rd.mono hle0 hA
    refine TC.seq ?_
    refine TC.region ?_
    refine TL.lssB rfl rfl rfl (fun hlt => ?_) (fun hlt => ?_)
    ·
     obtain ⟨x, hx⟩ : ∃ x, ks[k']? = some x := ⟨_, List.getElem?_eq_getElem (by omega)⟩
     obtain ⟨b1, o1, p0, p1, rfl, hp, hpr⟩ := trs_at hA hx
     refine TL.nil ?_
     refine TQ.then_n ?_
     refine TC.seq ?_
     refine TC.cond_t rfl ?_
     refine TC.skip ?_
     refine TQ.then_n ?_
     refine TC.seq ?_
     refine TC.block ?_
     refine TC.seq ?_
     refine TC.region ?_
     refine TL.indexAddr (k') rfl rfl rfl (by omega) rfl ?_
     refine TL.load_immA rfl (hp) rfl rfl ?_
     refine TL.new rfl ?_; intro g5
     refine TL.storeA 0 0 (c' := #[_, _]) (own' := [(_, .cells #[_, _] _ _)] :: _) rfl rfl rfl rfl rfl (tr_ones hpr) (by simp) rfl rfl rfl ?_
     refine TL.nil ?_
     refine TQ.then_n ?_
     refine TC.drawQV 5  [(2, _), (3, _), (10, _), (11, _), (12, _), (5, _)] follows_mixed ⟨rfl, rfl, rfl, rfl, rfl, rfl, trivial⟩ ?_
     refine ChainV.q (some 16) [] (by
      intro H' X F hle
      intro hF
      refine TL.fieldAddr rfl rfl ?_
      refine TL.nil ?_
      exact TQ.one [] hF (Le.refl _) ⟨rfl, rfl⟩) ?_
     refine ChainV.q (some 17) [(0, 0)] (by
      intro H' X F hle
      have hL := Le.trans hL hle
      have hA := rd.mono hle hA
      have hle0 := Le.trans hle0 hle
      have hxs := RdL.mono hle hxs
      have hp := hAt.mono hle hp
      have hpr := RdL.mono hle hpr
      intro hF
      refine TL.load_own 2 0 rfl rfl rfl rfl rfl ?_
      refine TL.nil ?_
      exact TQ.one [] hF (Le.refl _) ⟨rfl, rfl⟩) ?_
     refine ChainV.q (some 18) [] (by
      intro H' X F hle
      have hL := Le.trans hL hle
      have hA := rd.mono hle hA
      have hle0 := Le.trans hle0 hle
      have hxs := RdL.mono hle hxs
      have hp := hAt.mono hle hp
      have hpr := RdL.mono hle hpr
      intro hF
      refine TL.load_ownA 0 0 [_, _] rfl rfl rfl ⟨rfl, rfl, trivial⟩ rfl rfl ?_
      refine TL.nil ?_
      exact TQ.one [] hF (Le.refl _) ⟨rfl, rfl⟩) ?_
     refine ChainV.r (some 19) [(2, 0)] ([]) (fun _ => fun u s H => ∃ c0 c1, u = .agg #[c0, c1] ∧ RdL H x.d [c0, c1] ∧ s = []) (by
      intro H' X F hle
      have hL := Le.trans hL hle
      have hA := rd.mono hle hA
      have hle0 := Le.trans hle0 hle
      have hxs := RdL.mono hle hxs
      have hp := hAt.mono hle hp
      have hpr := RdL.mono hle hpr
      intro hF
      refine TL.call (ih x (Tr.size_kid (List.mem_of_getElem? hx) hk) (by omega) hpr) ⟨rfl, trivial⟩ rfl ?_
      rintro _ _ H2 ⟨c0, c1, rfl, hr, rfl, hle2⟩
      refine TL.nil ?_
      exact TQ.one [] hF hle2 ⟨c0, c1, rfl, hr, rfl⟩) ?_
     refine ChainV.r (some 20) [(3, 0)] ([]) (fun _ => fun u s H => ∃ g c0 c1, u = .slice (some ⟨g, 0, none⟩) 1 1 ∧ s = [[(g, .cells #[c0, c1] 27 (0, 0))]] ∧ RdL H x.d [c0, c1]) (by
      intro H' X F hle
      have hL := Le.trans hL hle
      have hA := rd.mono hle hA
      have hle0 := Le.trans hle0 hle
      have hxs := RdL.mono hle hxs
      have hp := hAt.mono hle hp
      have hpr := RdL.mono hle hpr
      intro _
      rintro _ _ Hr hler ⟨c0, c1, rfl, hr, rfl⟩
      intro hF
      refine TL.litF (r := [_, _]) [(0, [_, _])] ⟨rfl, ⟨_, rfl, rfl⟩, trivial⟩ rfl rfl rfl rfl ?_; intro g20
      refine TL.nil ?_
      exact TQ.one [_] hF (Le.refl _) ⟨_, _, _, rfl, rfl, RdL.mono hler hr⟩) ?_
     refine ⟨by kernel_rfl, .refl _, ?_⟩
     ·
      intro H1 hle
      rintro _ _ Hr hler ⟨c0, c1, rfl, hr, rfl⟩
      rintro _ _ Hr hler ⟨g20, d0, d1, rfl, rfl, hr⟩
      replace hr := RdL.mono hler hr
      have hL := Le.trans hL hle
      have hA := rd.mono hle hA
      have hle0 := Le.trans hle0 hle
      have hxs := RdL.mono hle hxs
      have hp := hAt.mono hle hp
      have hpr := RdL.mono hle hpr
      refine TL.toOwn (own' := _ :: _ :: _ :: _ :: _ :: _ :: own) rfl ?_
      refine TL.wk (env' := [(2, _), (3, _), (10, _), (11, _), (12, _), (5, _), (17, _), (20, _)]) ⟨rfl, rfl, rfl, rfl, rfl, rfl, rfl, rfl, trivial⟩ ?_
      refine TL.append 2 rfl rfl rfl hrow (Src.ofOwn 0 0 rfl rfl rfl (Ones.all (tr_ones hr)) ⟨rfl, rfl, trivial⟩) (by omega) (by omega) rfl ?_
      intro v' seg' hrow'
      refine TL.fieldAddr rfl rfl ?_
      refine TL.store1 3 0 (c' := #[_, _]) (own' := _ :: _ :: _ :: [(_, .cells #[_, _] _ _)] :: _) rfl rfl rfl rfl hrow'.one (by simp) rfl rfl rfl ?_
      refine TL.nil ?_
      refine TQ.in_n ?_
      refine TQ.then_n ?_
      refine TC.region ?_
      refine TL.add rfl rfl rfl ⟨by omega, by omega⟩ ?_
      refine TL.move rfl rfl ?_
      refine TL.nil ?_
      refine TQ.drop 2 ?_
      refine TQ.next (ks.length - (k' + 1)) [(2, _), (3, _), (10, _), (11, _), (12, _)] (by omega) ⟨rfl, rfl, rfl, rfl, rfl, trivial⟩ ⟨k' + 1, v', _, seg', rfl, by omega, hrow', ?_, by simp, rfl, hle0⟩
      rw [List.take_add_one, hx]
      exact trs_snoc hxs hr
    ·
     refine TL.nil ?_
     refine TQ.then_n ?_
     refine TC.seq ?_
     refine TC.cond_f rfl ?_
     refine TC.exit ?_
     refine TQ.then_e ?_
     refine TQ.then_e ?_
     refine TQ.in_e ?_
     refine TQ.then_n ?_
     refine TC.seq ?_
     refine TC.region ?_
     refine TL.load_ownA 1 0 [_, _] rfl rfl rfl ⟨rfl, rfl, trivial⟩ rfl rfl ?_
     refine TL.storeA 2 0 (c' := #[_, _]) (own' := _ :: _ :: [(_, .cells #[_, _] _ _)] :: _) rfl rfl rfl rfl rfl ⟨rfl, hrow.one, trivial⟩ (by simp) rfl rfl rfl ?_
     refine TL.nil ?_
     refine TQ.then_n ?_
     refine TC.ret ?_
     refine TQ.freeze (fun H2 hle hz_row => ?_)
     have hL := Le.trans hL hle
     have hA := rd.mono hle hA
     have hle0 := Le.trans hle0 hle
     have hxs := RdL.mono hle hxs
     refine TQ.retC 1 0 3 [_, _] rfl rfl rfl rfl ⟨rfl, rfl, trivial⟩ rfl rfl ?_
     refine ⟨_, _, rfl, tr_mk (rd.ofRow hrow hz_row ?_ (Le.refl _)), rfl, hL⟩
     rw [List.take_of_length_le (by omega)] at hxs
     exact hxs

end Go.Proofs.Ytapmmfabdmhdnaa.K
