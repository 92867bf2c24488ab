/-
  The walk of MergeIdentities, MergeSymmetric, MergeKeeps.
-/
import Derived.Test.YtapmmfabdmhdnaaSane
import Derived.Test.YtapmmfabdmhdnaaChg
set_option linter.unusedVariables false
set_option linter.unusedSimpArgs false
set_option maxHeartbeats 4000000
namespace Go.Proofs.Ytapmmfabdmhdnaa.K
open Go Go.RowKit Go.Proofs

theorem growK_size {f : Nat → Tr × Nat} {B : Nat} (hf : ∀ a, (f a).1.size ≤ B) (a : Nat) : ∀ n, Tr.sizes (growK f n a).1 ≤ n * B
  | 0 => by simp [growK, Tr.sizes]
  | n + 1 => by
    have h1 := growK_size hf a n
    have h2 := hf (growK f n a).2
    have e : (n + 1) * B = n * B + B := by rw [Nat.add_mul, Nat.one_mul]
    simp only [growK, sizes_append, Tr.sizes]
    omega
theorem grow_size (l : List Int) : ∀ (d a : Nat), (grow l d a).1.size ≤ 5 ^ d
  | 0, a => by simp [grow, Tr.size, Tr.sizes]
  | d + 1, a => by
    have h1 := growK_size (f := grow l d) (B := 5 ^ d) (grow_size l d) (gnext l (gnext l a 6).2 5).2 (gnext l (gnext l a 6).2 5).1.toNat
    have h2 := gnext_bd (l := l) (at_ := (gnext l a 6).2) (m := 5) (by omega)
    have h3 : (gnext l (gnext l a 6).2 5).1.toNat * 5 ^ d ≤ 4 * 5 ^ d := Nat.mul_le_mul_right _ (by omega)
    have h4 : 0 < 5 ^ d := Nat.pow_pos (by omega)
    have e : 5 ^ (d + 1) = 5 ^ d * 5 := Nat.pow_succ ..
    simp only [grow, Tr.size]
    omega
theorem made_size (l : List Int) : (madeP l).size ≤ 625 := grow_size l 4 0
theorem nil_paths {H : Hp} {v : Value} (h : rd H (.s 1 (([] : List Path).map pD)) v) : ∃ A c, v = .slice A 0 c := by
  obtain ⟨A, c, rfl, _⟩ := paths_len h
  exact ⟨A, c, rfl⟩
abbrev QOk (q : List (Int × Int × Int)) : Prop := ∀ x ∈ q, I64 x.1 ∧ I64 x.2.1 ∧ I64 x.2.2
theorem law_identities {s : List Int} (hs : ∀ n ∈ s, I64 n) {q : List (Int × Int × Int)} (hq : QOk q) {w0 : World} {H : Hp} {own : List Seg} {v vq : Value} (hA : rd H (.s 1 (ints s)) v) (hQ : rd H (.s 3 (trips q)) vq) :
    Fn Try.prog 5 [v, vq] w0 H own (fun r own' H' => r = .bool true ∧ own' = own ∧ Le H H') := by
  have hsl : s.length ≤ 9223372036854775807 := by
    obtain ⟨_, _, _, h1, h2⟩ := vals_len hA
    rw [List.length_map] at h1; omega
  have hz := made_size s
  have hcz := changedP_size (madeP s) q
  refine Fn.enter Try.func5 rfl Try.ntmps5 rfl ?_
  have hL := Le.refl H
  refine TC.seq ?_
  refine TC.region ?_
  refine TL.assign rfl rfl ?_
  refine TL.nil ?_
  refine TQ.then_n ?_
  refine TC.seq ?_
  refine TC.region ?_
  refine TL.call (law_sanity) trivial rfl ?_
  rintro _ own Hsn ⟨rfl, rfl, hlesn⟩
  have hL := Le.trans hL hlesn
  have hA := rd.mono hlesn hA
  have hQ := rd.mono hlesn hQ
  refine TL.assign rfl rfl ?_
  refine TL.nil ?_
  refine TQ.then_n ?_
  refine TC.seq ?_
  refine TC.region ?_
  refine TL.move rfl rfl ?_
  refine TL.call (ref_Made hs hsl hA) ⟨rfl, trivial⟩ rfl ?_
  rintro _ own Hb16 ⟨b0, b1, rfl, hb, rfl, hle16⟩
  have hL := Le.trans hL hle16
  have hA := rd.mono hle16 hA
  have hQ := rd.mono hle16 hQ
  refine TL.new rfl ?_; intro g6
  refine TL.storeA 0 0 (vs := [b0, b1]) (c' := #[_, _]) (own' := [(_, .cells #[_, _] _ _)] :: _) rfl rfl rfl rfl rfl (tr_ones hb) (by simp) rfl rfl rfl ?_
  refine TL.nil ?_
  refine TQ.then_n ?_
  refine TC.seq ?_
  refine TC.region ?_
  refine TL.load_ownA 0 0 [_, _] rfl rfl rfl ⟨rfl, rfl, trivial⟩ rfl rfl ?_
  refine TL.move rfl rfl ?_
  refine TL.call (law_changed (by omega) hq hb hQ) ⟨rfl, rfl, trivial⟩ rfl ?_
  rintro _ own Hc19 ⟨x0, x1, rfl, hx, rfl, hle19⟩
  have hL := Le.trans hL hle19
  have hA := rd.mono hle19 hA
  have hQ := rd.mono hle19 hQ
  have hb := RdL.mono hle19 hb
  refine TL.new rfl ?_; intro g7
  refine TL.storeA 0 0 (vs := [x0, x1]) (c' := #[_, _]) (own' := [(_, .cells #[_, _] _ _)] :: _) rfl rfl rfl rfl rfl (tr_ones hx) (by simp) rfl rfl rfl ?_
  refine TL.nil ?_
  refine TQ.then_n ?_
  refine TC.seq ?_
  refine TC.region ?_
  refine TL.load_ownA 1 0 [_, _] rfl rfl rfl ⟨rfl, rfl, trivial⟩ rfl rfl ?_
  refine TL.load_ownA 0 0 [_, _] rfl rfl rfl ⟨rfl, rfl, trivial⟩ rfl rfl ?_
  refine TL.load_ownA 1 0 [_, _] rfl rfl rfl ⟨rfl, rfl, trivial⟩ rfl rfl ?_
  refine TL.call (merge_top (by omega) (by omega) (by omega) hb hx hb) ⟨rfl, rfl, rfl, trivial⟩ rfl ?_
  rintro _ own Hm24 ⟨l0, l1, pl, rfl, hl, hpl, rfl, hle24⟩
  rw [mergeR_left] at hl hpl
  obtain ⟨Al, cl, rfl⟩ := nil_paths hpl
  have hL := Le.trans hL hle24
  have hA := rd.mono hle24 hA
  have hQ := rd.mono hle24 hQ
  have hb := RdL.mono hle24 hb
  have hx := RdL.mono hle24 hx
  refine TL.move rfl rfl ?_
  refine TL.extract rfl rfl rfl ?_
  refine TL.extract rfl rfl rfl ?_
  refine TL.new rfl ?_; intro g8
  refine TL.storeA 0 0 (vs := [l0, l1]) (c' := #[_, _]) (own' := [(_, .cells #[_, _] _ _)] :: _) rfl rfl rfl rfl rfl (tr_ones hl) (by simp) rfl rfl rfl ?_
  refine TL.assign rfl rfl ?_
  refine TL.nil ?_
  refine TQ.then_n ?_
  refine TC.seq ?_
  refine TC.region ?_
  refine TL.load_ownA 2 0 [_, _] rfl rfl rfl ⟨rfl, rfl, trivial⟩ rfl rfl ?_
  refine TL.load_ownA 2 0 [_, _] rfl rfl rfl ⟨rfl, rfl, trivial⟩ rfl rfl ?_
  refine TL.load_ownA 1 0 [_, _] rfl rfl rfl ⟨rfl, rfl, trivial⟩ rfl rfl ?_
  refine TL.call (merge_top (by omega) (by omega) (by omega) hb hb hx) ⟨rfl, rfl, rfl, trivial⟩ rfl ?_
  rintro _ own Hm31 ⟨r0, r1, pr, rfl, hr, hpr, rfl, hle31⟩
  rw [mergeR_right] at hr hpr
  obtain ⟨Ar, cr, rfl⟩ := nil_paths hpr
  have hL := Le.trans hL hle31
  have hA := rd.mono hle31 hA
  have hQ := rd.mono hle31 hQ
  have hb := RdL.mono hle31 hb
  have hx := RdL.mono hle31 hx
  have hl := RdL.mono hle31 hl
  have hpl := rd.mono hle31 hpl
  refine TL.move rfl rfl ?_
  refine TL.extract rfl rfl rfl ?_
  refine TL.extract rfl rfl rfl ?_
  refine TL.new rfl ?_; intro g10
  refine TL.storeA 0 0 (vs := [r0, r1]) (c' := #[_, _]) (own' := [(_, .cells #[_, _] _ _)] :: _) rfl rfl rfl rfl rfl (tr_ones hr) (by simp) rfl rfl rfl ?_
  refine TL.assign rfl rfl ?_
  refine TL.nil ?_
  refine TQ.then_n ?_
  refine TC.seq ?_
  refine TC.region ?_
  refine TL.load_ownA 3 0 [_, _] rfl rfl rfl ⟨rfl, rfl, trivial⟩ rfl rfl ?_
  refine TL.load_ownA 2 0 [_, _] rfl rfl rfl ⟨rfl, rfl, trivial⟩ rfl rfl ?_
  refine TL.load_ownA 2 0 [_, _] rfl rfl rfl ⟨rfl, rfl, trivial⟩ rfl rfl ?_
  refine TL.call (merge_top (by omega) (by omega) (by omega) hb hx hx) ⟨rfl, rfl, rfl, trivial⟩ rfl ?_
  rintro _ own Hm38 ⟨c0, c1, pc, rfl, hc, hpc, rfl, hle38⟩
  rw [mergeR_both] at hc hpc
  obtain ⟨Ac, cc, rfl⟩ := nil_paths hpc
  have hL := Le.trans hL hle38
  have hA := rd.mono hle38 hA
  have hQ := rd.mono hle38 hQ
  have hb := RdL.mono hle38 hb
  have hx := RdL.mono hle38 hx
  have hl := RdL.mono hle38 hl
  have hpl := rd.mono hle38 hpl
  have hr := RdL.mono hle38 hr
  have hpr := rd.mono hle38 hpr
  refine TL.move rfl rfl ?_
  refine TL.extract rfl rfl rfl ?_
  refine TL.extract rfl rfl rfl ?_
  refine TL.new rfl ?_; intro g12
  refine TL.storeA 0 0 (vs := [c0, c1]) (c' := #[_, _]) (own' := [(_, .cells #[_, _] _ _)] :: _) rfl rfl rfl rfl rfl (tr_ones hc) (by simp) rfl rfl rfl ?_
  refine TL.assign rfl rfl ?_
  refine TL.nil ?_
  refine TQ.then_n ?_
  refine TC.seq ?_
  refine TC.region ?_
  refine TL.move rfl rfl ?_
  refine TL.move rfl rfl ?_
  refine TL.gyes rfl rfl rfl ?_
  refine TL.move rfl rfl ?_
  refine TL.gyes rfl rfl rfl ?_
  refine TL.len_slice rfl rfl ?_
  refine TL.gyes rfl rfl rfl ?_
  refine TL.move rfl rfl ?_
  refine TL.gyes rfl rfl rfl ?_
  refine TL.len_slice rfl rfl ?_
  refine TL.gyes rfl rfl rfl ?_
  refine TL.add rfl rfl rfl ⟨by omega, by omega⟩ ?_
  refine TL.gyes rfl rfl rfl ?_
  refine TL.move rfl rfl ?_
  refine TL.gyes rfl rfl rfl ?_
  refine TL.len_slice rfl rfl ?_
  refine TL.gyes rfl rfl rfl ?_
  refine TL.add rfl rfl rfl ⟨by omega, by omega⟩ ?_
  refine TL.gyes rfl rfl rfl ?_
  refine TL.eqlB rfl rfl rfl (fun h0 => ?_) (fun h0 => ?_)
  ·
   refine TL.pickT rfl rfl rfl rfl ?_
   refine TL.move rfl rfl ?_
   refine TL.gyes rfl rfl rfl ?_
   refine TL.load_ownA 2 0 [_, _] rfl rfl rfl ⟨rfl, rfl, trivial⟩ rfl rfl ?_
   refine TL.gyes rfl rfl rfl ?_
   refine TL.load_ownA 3 0 [_, _] rfl rfl rfl ⟨rfl, rfl, trivial⟩ rfl rfl ?_
   refine TL.gyes rfl rfl rfl ?_
   refine TL.call (ref_same _ _ _ (Nat.le_refl _) hl hx) ⟨rfl, rfl, trivial⟩ rfl ?_
   rintro _ own Hs56 ⟨rfl, rfl, hles56⟩
   rw [eqb_self]
   have hL := Le.trans hL hles56
   have hA := rd.mono hles56 hA
   have hQ := rd.mono hles56 hQ
   have hb := RdL.mono hles56 hb
   have hx := RdL.mono hles56 hx
   have hl := RdL.mono hles56 hl
   have hpl := rd.mono hles56 hpl
   have hr := RdL.mono hles56 hr
   have hpr := rd.mono hles56 hpr
   have hc := RdL.mono hles56 hc
   have hpc := rd.mono hles56 hpc
   refine TL.pickT rfl rfl rfl rfl ?_
   refine TL.move rfl rfl ?_
   refine TL.gyes rfl rfl rfl ?_
   refine TL.load_ownA 1 0 [_, _] rfl rfl rfl ⟨rfl, rfl, trivial⟩ rfl rfl ?_
   refine TL.gyes rfl rfl rfl ?_
   refine TL.load_ownA 3 0 [_, _] rfl rfl rfl ⟨rfl, rfl, trivial⟩ rfl rfl ?_
   refine TL.gyes rfl rfl rfl ?_
   refine TL.call (ref_same _ _ _ (Nat.le_refl _) hr hx) ⟨rfl, rfl, trivial⟩ rfl ?_
   rintro _ own Hs61 ⟨rfl, rfl, hles61⟩
   rw [eqb_self]
   have hL := Le.trans hL hles61
   have hA := rd.mono hles61 hA
   have hQ := rd.mono hles61 hQ
   have hb := RdL.mono hles61 hb
   have hx := RdL.mono hles61 hx
   have hl := RdL.mono hles61 hl
   have hpl := rd.mono hles61 hpl
   have hr := RdL.mono hles61 hr
   have hpr := rd.mono hles61 hpr
   have hc := RdL.mono hles61 hc
   have hpc := rd.mono hles61 hpc
   refine TL.pickT rfl rfl rfl rfl ?_
   refine TL.move rfl rfl ?_
   refine TL.gyes rfl rfl rfl ?_
   refine TL.load_ownA 0 0 [_, _] rfl rfl rfl ⟨rfl, rfl, trivial⟩ rfl rfl ?_
   refine TL.gyes rfl rfl rfl ?_
   refine TL.load_ownA 3 0 [_, _] rfl rfl rfl ⟨rfl, rfl, trivial⟩ rfl rfl ?_
   refine TL.gyes rfl rfl rfl ?_
   refine TL.call (ref_same _ _ _ (Nat.le_refl _) hc hx) ⟨rfl, rfl, trivial⟩ rfl ?_
   rintro _ own Hs66 ⟨rfl, rfl, hles66⟩
   rw [eqb_self]
   have hL := Le.trans hL hles66
   have hA := rd.mono hles66 hA
   have hQ := rd.mono hles66 hQ
   have hb := RdL.mono hles66 hb
   have hx := RdL.mono hles66 hx
   have hl := RdL.mono hles66 hl
   have hpl := rd.mono hles66 hpl
   have hr := RdL.mono hles66 hr
   have hpr := rd.mono hles66 hpr
   have hc := RdL.mono hles66 hc
   have hpc := rd.mono hles66 hpc
   refine TL.pickT rfl rfl rfl rfl ?_
   refine TL.assign rfl rfl ?_
   refine TL.nil ?_
   refine TQ.then_n ?_
   refine TC.ret ?_
   refine TQ.ret1 5 rfl rfl ?_
   exact ⟨rfl, rfl, hL⟩
  ·
   omega -- dead
theorem law_symmetric {s : List Int} (hs : ∀ n ∈ s, I64 n) {q r : List (Int × Int × Int)} (hqq : QOk q) (hqr : QOk r) {w0 : World} {H : Hp} {own : List Seg} {v vq vr : Value} (hA : rd H (.s 1 (ints s)) v) (hQq : rd H (.s 3 (trips q)) vq) (hQr : rd H (.s 3 (trips r)) vr) :
    Fn Try.prog 6 [v, vq, vr] w0 H own (fun r own' H' => r = .bool true ∧ own' = own ∧ Le H H') := by
  have hsl : s.length ≤ 9223372036854775807 := by
    obtain ⟨_, _, _, h1, h2⟩ := vals_len hA
    rw [List.length_map] at h1; omega
  have hz := made_size s
  have hcz := changedP_size (madeP s) q
  have hcr := changedP_size (madeP s) r
  refine Fn.enter Try.func6 rfl Try.ntmps6 rfl ?_
  have hL := Le.refl H
  refine TC.seq ?_
  refine TC.region ?_
  refine TL.assign rfl rfl ?_
  refine TL.nil ?_
  refine TQ.then_n ?_
  refine TC.seq ?_
  refine TC.region ?_
  refine TL.call (law_sanity) trivial rfl ?_
  rintro _ own Hsn ⟨rfl, rfl, hlesn⟩
  have hL := Le.trans hL hlesn
  have hA := rd.mono hlesn hA
  have hQq := rd.mono hlesn hQq
  have hQr := rd.mono hlesn hQr
  refine TL.assign rfl rfl ?_
  refine TL.nil ?_
  refine TQ.then_n ?_
  refine TC.seq ?_
  refine TC.region ?_
  refine TL.move rfl rfl ?_
  refine TL.call (ref_Made hs hsl hA) ⟨rfl, trivial⟩ rfl ?_
  rintro _ own Hb15 ⟨b0, b1, rfl, hb, rfl, hle15⟩
  have hL := Le.trans hL hle15
  have hA := rd.mono hle15 hA
  have hQq := rd.mono hle15 hQq
  have hQr := rd.mono hle15 hQr
  refine TL.new rfl ?_; intro g8
  refine TL.storeA 0 0 (vs := [b0, b1]) (c' := #[_, _]) (own' := [(_, .cells #[_, _] _ _)] :: _) rfl rfl rfl rfl rfl (tr_ones hb) (by simp) rfl rfl rfl ?_
  refine TL.nil ?_
  refine TQ.then_n ?_
  refine TC.seq ?_
  refine TC.drawQV 13  [(0, _), (1, _), (2, _), (6, _), (7, _), (8, _)] follows_mixed ⟨rfl, rfl, rfl, rfl, rfl, rfl, trivial⟩ ?_
  refine ChainV.q (some 17) [] (by
   intro H' X F hle
   have hL := Le.trans hL hle
   have hA := rd.mono hle hA
   have hQq := rd.mono hle hQq
   have hQr := rd.mono hle hQr
   have hb := RdL.mono hle hb
   intro hF
   refine TL.load_ownA 0 0 [_, _] rfl rfl rfl ⟨rfl, rfl, trivial⟩ rfl rfl ?_
   refine TL.nil ?_
   exact TQ.one [] hF (Le.refl _) ⟨rfl, rfl⟩) ?_
  refine ChainV.q (some 18) [] (by
   intro H' X F hle
   have hL := Le.trans hL hle
   have hA := rd.mono hle hA
   have hQq := rd.mono hle hQq
   have hQr := rd.mono hle hQr
   have hb := RdL.mono hle hb
   intro hF
   refine TL.load_ownA 0 0 [_, _] rfl rfl rfl ⟨rfl, rfl, trivial⟩ rfl rfl ?_
   refine TL.nil ?_
   exact TQ.one [] hF (Le.refl _) ⟨rfl, rfl⟩) ?_
  refine ChainV.q (some 19) [] (by
   intro H' X F hle
   have hL := Le.trans hL hle
   have hA := rd.mono hle hA
   have hQq := rd.mono hle hQq
   have hQr := rd.mono hle hQr
   have hb := RdL.mono hle hb
   intro hF
   refine TL.move rfl rfl ?_
   refine TL.nil ?_
   exact TQ.one [] hF (Le.refl _) ⟨rfl, rfl⟩) ?_
  refine ChainV.r (some 20) [(1, 1), (2, 0)] ([]) (fun _ => fun u s_ H => ∃ c0 c1, u = .agg #[c0, c1] ∧ RdL H (changedP (madeP s) q).d [c0, c1] ∧ s_ = []) (by
   intro H' X F hle
   have hL := Le.trans hL hle
   have hA := rd.mono hle hA
   have hQq := rd.mono hle hQq
   have hQr := rd.mono hle hQr
   have hb := RdL.mono hle hb
   intro hF
   refine TL.call (law_changed (by omega) hqq hb hQq) ⟨rfl, rfl, trivial⟩ rfl ?_
   rintro _ own H7 ⟨c0, c1, rfl, hr, rfl, hle7⟩
   refine TL.nil ?_
   exact TQ.one [] hF hle7 ⟨_, _, rfl, hr, rfl⟩) ?_
  refine ChainV.q (some 21) [] (by
   intro H' X F hle
   have hL := Le.trans hL hle
   have hA := rd.mono hle hA
   have hQq := rd.mono hle hQq
   have hQr := rd.mono hle hQr
   have hb := RdL.mono hle hb
   intro hF
   refine TL.load_ownA 0 0 [_, _] rfl rfl rfl ⟨rfl, rfl, trivial⟩ rfl rfl ?_
   refine TL.nil ?_
   exact TQ.one [] hF (Le.refl _) ⟨rfl, rfl⟩) ?_
  refine ChainV.q (some 22) [] (by
   intro H' X F hle
   have hL := Le.trans hL hle
   have hA := rd.mono hle hA
   have hQq := rd.mono hle hQq
   have hQr := rd.mono hle hQr
   have hb := RdL.mono hle hb
   intro hF
   refine TL.move rfl rfl ?_
   refine TL.nil ?_
   exact TQ.one [] hF (Le.refl _) ⟨rfl, rfl⟩) ?_
  refine ChainV.r (some 23) [(4, 1), (5, 0)] ([]) (fun _ => fun u s_ H => ∃ c0 c1, u = .agg #[c0, c1] ∧ RdL H (changedP (madeP s) r).d [c0, c1] ∧ s_ = []) (by
   intro H' X F hle
   have hL := Le.trans hL hle
   have hA := rd.mono hle hA
   have hQq := rd.mono hle hQq
   have hQr := rd.mono hle hQr
   have hb := RdL.mono hle hb
   intro hF
   refine TL.call (law_changed (by omega) hqr hb hQr) ⟨rfl, rfl, trivial⟩ rfl ?_
   rintro _ own H7 ⟨c0, c1, rfl, hr, rfl, hle7⟩
   refine TL.nil ?_
   exact TQ.one [] hF hle7 ⟨_, _, rfl, hr, rfl⟩) ?_
  refine ChainV.r (some 24) [(0, 6), (3, 3), (6, 0)] ([]) (fun _ => fun u s_ H => ∃ c0 c1 pv, u = .tuple #[.agg #[c0, c1], pv] ∧ RdL H (mergeR (madeP s) (changedP (madeP s) q) (changedP (madeP s) r)).1.d [c0, c1] ∧ rd H (.s 1 ((mergeR (madeP s) (changedP (madeP s) q) (changedP (madeP s) r)).2.map pD)) pv ∧ s_ = []) (by
   intro H' X F hle
   have hL := Le.trans hL hle
   have hA := rd.mono hle hA
   have hQq := rd.mono hle hQq
   have hQr := rd.mono hle hQr
   have hb := RdL.mono hle hb
   intro _
   rintro _ _ H20 hle20 ⟨lq0, lq1, rfl, hlq, rfl⟩
   replace hlq := RdL.mono hle20 hlq
   intro _
   rintro _ _ H23 hle23 ⟨lr0, lr1, rfl, hlr, rfl⟩
   replace hlr := RdL.mono hle23 hlr
   intro hF
   refine TL.call (merge_top (by omega) (by omega) (by omega) hb hlq hlr) ⟨rfl, rfl, rfl, trivial⟩ rfl ?_
   rintro _ own H8 ⟨c0, c1, pv, rfl, hm, hpm, rfl, hle8⟩
   refine TL.nil ?_
   exact TQ.one [] hF hle8 ⟨_, _, _, rfl, hm, hpm, rfl⟩) ?_
  refine ChainV.r (some 16) [(7, 0)] ([]) (fun _ => fun u s_ H => ∃ c0 c1 pv, u = .tuple #[.agg #[c0, c1], pv] ∧ RdL H (mergeR (madeP s) (changedP (madeP s) q) (changedP (madeP s) r)).1.d [c0, c1] ∧ rd H (.s 1 ((mergeR (madeP s) (changedP (madeP s) q) (changedP (madeP s) r)).2.map pD)) pv ∧ s_ = []) (by
   intro H' X F hle
   have hL := Le.trans hL hle
   have hA := rd.mono hle hA
   have hQq := rd.mono hle hQq
   have hQr := rd.mono hle hQr
   have hb := RdL.mono hle hb
   intro _
   rintro _ _ H24 hle24 ⟨c0, c1, pv, rfl, hm, hpm, rfl⟩
   replace hm := RdL.mono hle24 hm
   replace hpm := rd.mono hle24 hpm
   intro hF
   refine TL.move rfl rfl ?_
   refine TL.nil ?_
   exact TQ.one [] hF (Le.refl _) ⟨_, _, _, rfl, hm, hpm, rfl⟩) ?_
  refine ChainV.r (some 25) [(8, 0)] ([]) (fun _ => fun u s_ H => ∃ c0 c1, u = .agg #[c0, c1] ∧ RdL H (mergeR (madeP s) (changedP (madeP s) q) (changedP (madeP s) r)).1.d [c0, c1] ∧ s_ = []) (by
   intro H' X F hle
   have hL := Le.trans hL hle
   have hA := rd.mono hle hA
   have hQq := rd.mono hle hQq
   have hQr := rd.mono hle hQr
   have hb := RdL.mono hle hb
   intro _
   rintro _ _ H16 hle16 ⟨c0, c1, pv, rfl, hm, hpm, rfl⟩
   replace hm := RdL.mono hle16 hm
   replace hpm := rd.mono hle16 hpm
   intro hF
   refine TL.extract rfl rfl rfl ?_
   refine TL.nil ?_
   exact TQ.one [] hF (Le.refl _) ⟨_, _, rfl, hm, rfl⟩) ?_
  refine ChainV.r (some 26) [(8, 1)] ([]) (fun _ => fun u s_ H => rd H (.s 1 ((mergeR (madeP s) (changedP (madeP s) q) (changedP (madeP s) r)).2.map pD)) u ∧ s_ = []) (by
   intro H' X F hle
   have hL := Le.trans hL hle
   have hA := rd.mono hle hA
   have hQq := rd.mono hle hQq
   have hQr := rd.mono hle hQr
   have hb := RdL.mono hle hb
   intro _
   rintro _ _ H16 hle16 ⟨c0, c1, pv, rfl, hm, hpm, rfl⟩
   replace hm := RdL.mono hle16 hm
   replace hpm := rd.mono hle16 hpm
   intro hF
   refine TL.extract rfl rfl rfl ?_
   refine TL.nil ?_
   exact TQ.one [] hF (Le.refl _) ⟨hpm, rfl⟩) ?_
  refine ChainV.t true [] (some 9) [] ([]) (fun _ => fun u s_ H => ∃ g, u = .pointer (some ⟨g, 0, none⟩) ∧ s_ = [[(g, .cells #[.string ⟨#[]⟩, .slice none 0 0] 27 (0, 0))]]) (by
   intro H' X F hle
   have hL := Le.trans hL hle
   have hA := rd.mono hle hA
   have hQq := rd.mono hle hQq
   have hQr := rd.mono hle hQr
   have hb := RdL.mono hle hb
   intro hF
   refine TL.new rfl ?_; intro g9
   refine TL.nil ?_
   exact TQ.one [_] hF (Le.refl _) ⟨_, rfl, rfl⟩) ?_
  refine ChainV.t false [11] none [(11, 0), (9, 2)] ([]) (fun vs u s_ H => ∃ g c0 c1, nthV vs 0 = .pointer (some ⟨g, 0, none⟩) ∧ s_ = [[(g, .cells #[c0, c1] 27 (0, 0))]] ∧ RdL H (mergeR (madeP s) (changedP (madeP s) q) (changedP (madeP s) r)).1.d [c0, c1]) (by
   intro H' X F hle
   have hL := Le.trans hL hle
   have hA := rd.mono hle hA
   have hQq := rd.mono hle hQq
   have hQr := rd.mono hle hQr
   have hb := RdL.mono hle hb
   intro _
   rintro _ _ H9 hle9 ⟨g9, rfl, rfl⟩
   intro _
   rintro _ _ H25 hle25 ⟨m10, m11, rfl, hm1, rfl⟩
   replace hm1 := RdL.mono hle25 hm1
   intro hF
   refine TL.toOwn (own' := _ :: _) rfl ?_
   refine TL.storeA 0 0 (vs := [m10, m11]) (c' := #[_, _]) (own' := [(_, .cells #[_, _] _ _)] :: _) rfl rfl rfl rfl rfl (tr_ones hm1) (by simp) rfl rfl rfl ?_
   refine TL.nil ?_
   exact TQ.one [_] hF (Le.refl _) ⟨_, _, _, rfl, rfl, hm1⟩) ?_
  refine ⟨by kernel_rfl, .refl _, ?_⟩
  ·
   intro H1 hle
   rintro _ _ H20 hle20 ⟨lq0, lq1, rfl, hlq, rfl⟩
   replace hlq := RdL.mono hle20 hlq
   rintro _ _ H23 hle23 ⟨lr0, lr1, rfl, hlr, rfl⟩
   replace hlr := RdL.mono hle23 hlr
   rintro _ _ _ _ ⟨_, _, _, rfl, _, _, rfl⟩
   rintro _ _ _ _ ⟨_, _, _, rfl, _, _, rfl⟩
   rintro _ _ H25 hle25 ⟨m10, m11, rfl, hm1, rfl⟩
   replace hm1 := RdL.mono hle25 hm1
   rintro pm1 _ H26 hle26 ⟨hpm1, rfl⟩
   replace hpm1 := rd.mono hle26 hpm1
   rintro _ _ H9 hle9 ⟨g9, rfl, rfl⟩
   rintro _ _ Hg9 hleg9 ⟨g, m10, m11, he, rfl, hm1⟩
   replace he : Value.pointer (some ⟨g9, 0, none⟩) = .pointer (some ⟨g, 0, none⟩) := he
   injection he with he; injection he with he; injection he with he; subst he
   replace hm1 := RdL.mono hleg9 hm1
   have hL := Le.trans hL hle
   have hA := rd.mono hle hA
   have hQq := rd.mono hle hQq
   have hQr := rd.mono hle hQr
   have hb := RdL.mono hle hb
   refine TL.toOwn (own' := _ :: _ :: own) rfl ?_
   refine TL.wk (env' := [(0, _), (1, _), (2, _), (6, _), (7, _), (8, _), (26, _), (9, _)]) ⟨rfl, rfl, rfl, rfl, rfl, rfl, rfl, rfl, trivial⟩ ?_
   refine TL.assign rfl rfl ?_
   refine TL.nil ?_
   refine TQ.then_n ?_
   refine TC.seq ?_
   refine TC.drawQV 13  [(0, _), (1, _), (2, _), (6, _), (7, _), (8, _), (9, _), (10, _)] follows_mixed ⟨rfl, rfl, rfl, rfl, rfl, rfl, rfl, rfl, trivial⟩ ?_
   refine ChainV.q (some 28) [] (by
    intro H' X F hle
    have hL := Le.trans hL hle
    have hA := rd.mono hle hA
    have hQq := rd.mono hle hQq
    have hQr := rd.mono hle hQr
    have hb := RdL.mono hle hb
    have hm1 := RdL.mono hle hm1
    have hpm1 := rd.mono hle hpm1
    intro hF
    refine TL.load_ownA 1 0 [_, _] rfl rfl rfl ⟨rfl, rfl, trivial⟩ rfl rfl ?_
    refine TL.nil ?_
    exact TQ.one [] hF (Le.refl _) ⟨rfl, rfl⟩) ?_
   refine ChainV.q (some 29) [] (by
    intro H' X F hle
    have hL := Le.trans hL hle
    have hA := rd.mono hle hA
    have hQq := rd.mono hle hQq
    have hQr := rd.mono hle hQr
    have hb := RdL.mono hle hb
    have hm1 := RdL.mono hle hm1
    have hpm1 := rd.mono hle hpm1
    intro hF
    refine TL.load_ownA 1 0 [_, _] rfl rfl rfl ⟨rfl, rfl, trivial⟩ rfl rfl ?_
    refine TL.nil ?_
    exact TQ.one [] hF (Le.refl _) ⟨rfl, rfl⟩) ?_
   refine ChainV.q (some 30) [] (by
    intro H' X F hle
    have hL := Le.trans hL hle
    have hA := rd.mono hle hA
    have hQq := rd.mono hle hQq
    have hQr := rd.mono hle hQr
    have hb := RdL.mono hle hb
    have hm1 := RdL.mono hle hm1
    have hpm1 := rd.mono hle hpm1
    intro hF
    refine TL.move rfl rfl ?_
    refine TL.nil ?_
    exact TQ.one [] hF (Le.refl _) ⟨rfl, rfl⟩) ?_
   refine ChainV.r (some 31) [(1, 1), (2, 0)] ([]) (fun _ => fun u s_ H => ∃ c0 c1, u = .agg #[c0, c1] ∧ RdL H (changedP (madeP s) r).d [c0, c1] ∧ s_ = []) (by
    intro H' X F hle
    have hL := Le.trans hL hle
    have hA := rd.mono hle hA
    have hQq := rd.mono hle hQq
    have hQr := rd.mono hle hQr
    have hb := RdL.mono hle hb
    have hm1 := RdL.mono hle hm1
    have hpm1 := rd.mono hle hpm1
    intro hF
    refine TL.call (law_changed (by omega) hqr hb hQr) ⟨rfl, rfl, trivial⟩ rfl ?_
    rintro _ own H7 ⟨c0, c1, rfl, hr, rfl, hle7⟩
    refine TL.nil ?_
    exact TQ.one [] hF hle7 ⟨_, _, rfl, hr, rfl⟩) ?_
   refine ChainV.q (some 32) [] (by
    intro H' X F hle
    have hL := Le.trans hL hle
    have hA := rd.mono hle hA
    have hQq := rd.mono hle hQq
    have hQr := rd.mono hle hQr
    have hb := RdL.mono hle hb
    have hm1 := RdL.mono hle hm1
    have hpm1 := rd.mono hle hpm1
    intro hF
    refine TL.load_ownA 1 0 [_, _] rfl rfl rfl ⟨rfl, rfl, trivial⟩ rfl rfl ?_
    refine TL.nil ?_
    exact TQ.one [] hF (Le.refl _) ⟨rfl, rfl⟩) ?_
   refine ChainV.q (some 33) [] (by
    intro H' X F hle
    have hL := Le.trans hL hle
    have hA := rd.mono hle hA
    have hQq := rd.mono hle hQq
    have hQr := rd.mono hle hQr
    have hb := RdL.mono hle hb
    have hm1 := RdL.mono hle hm1
    have hpm1 := rd.mono hle hpm1
    intro hF
    refine TL.move rfl rfl ?_
    refine TL.nil ?_
    exact TQ.one [] hF (Le.refl _) ⟨rfl, rfl⟩) ?_
   refine ChainV.r (some 34) [(4, 1), (5, 0)] ([]) (fun _ => fun u s_ H => ∃ c0 c1, u = .agg #[c0, c1] ∧ RdL H (changedP (madeP s) q).d [c0, c1] ∧ s_ = []) (by
    intro H' X F hle
    have hL := Le.trans hL hle
    have hA := rd.mono hle hA
    have hQq := rd.mono hle hQq
    have hQr := rd.mono hle hQr
    have hb := RdL.mono hle hb
    have hm1 := RdL.mono hle hm1
    have hpm1 := rd.mono hle hpm1
    intro hF
    refine TL.call (law_changed (by omega) hqq hb hQq) ⟨rfl, rfl, trivial⟩ rfl ?_
    rintro _ own H7 ⟨c0, c1, rfl, hr, rfl, hle7⟩
    refine TL.nil ?_
    exact TQ.one [] hF hle7 ⟨_, _, rfl, hr, rfl⟩) ?_
   refine ChainV.r (some 35) [(0, 6), (3, 3), (6, 0)] ([]) (fun _ => fun u s_ H => ∃ c0 c1 pv, u = .tuple #[.agg #[c0, c1], pv] ∧ RdL H (mergeR (madeP s) (changedP (madeP s) r) (changedP (madeP s) q)).1.d [c0, c1] ∧ rd H (.s 1 ((mergeR (madeP s) (changedP (madeP s) r) (changedP (madeP s) q)).2.map pD)) pv ∧ s_ = []) (by
    intro H' X F hle
    have hL := Le.trans hL hle
    have hA := rd.mono hle hA
    have hQq := rd.mono hle hQq
    have hQr := rd.mono hle hQr
    have hb := RdL.mono hle hb
    have hm1 := RdL.mono hle hm1
    have hpm1 := rd.mono hle hpm1
    intro _
    rintro _ _ H31 hle31 ⟨lr0, lr1, rfl, hlr, rfl⟩
    replace hlr := RdL.mono hle31 hlr
    intro _
    rintro _ _ H34 hle34 ⟨lq0, lq1, rfl, hlq, rfl⟩
    replace hlq := RdL.mono hle34 hlq
    intro hF
    refine TL.call (merge_top (by omega) (by omega) (by omega) hb hlr hlq) ⟨rfl, rfl, rfl, trivial⟩ rfl ?_
    rintro _ own H8 ⟨c0, c1, pv, rfl, hm, hpm, rfl, hle8⟩
    refine TL.nil ?_
    exact TQ.one [] hF hle8 ⟨_, _, _, rfl, hm, hpm, rfl⟩) ?_
   refine ChainV.r (some 27) [(7, 0)] ([]) (fun _ => fun u s_ H => ∃ c0 c1 pv, u = .tuple #[.agg #[c0, c1], pv] ∧ RdL H (mergeR (madeP s) (changedP (madeP s) r) (changedP (madeP s) q)).1.d [c0, c1] ∧ rd H (.s 1 ((mergeR (madeP s) (changedP (madeP s) r) (changedP (madeP s) q)).2.map pD)) pv ∧ s_ = []) (by
    intro H' X F hle
    have hL := Le.trans hL hle
    have hA := rd.mono hle hA
    have hQq := rd.mono hle hQq
    have hQr := rd.mono hle hQr
    have hb := RdL.mono hle hb
    have hm1 := RdL.mono hle hm1
    have hpm1 := rd.mono hle hpm1
    intro _
    rintro _ _ H35 hle35 ⟨c0, c1, pv, rfl, hm, hpm, rfl⟩
    replace hm := RdL.mono hle35 hm
    replace hpm := rd.mono hle35 hpm
    intro hF
    refine TL.move rfl rfl ?_
    refine TL.nil ?_
    exact TQ.one [] hF (Le.refl _) ⟨_, _, _, rfl, hm, hpm, rfl⟩) ?_
   refine ChainV.r (some 36) [(8, 0)] ([]) (fun _ => fun u s_ H => ∃ c0 c1, u = .agg #[c0, c1] ∧ RdL H (mergeR (madeP s) (changedP (madeP s) r) (changedP (madeP s) q)).1.d [c0, c1] ∧ s_ = []) (by
    intro H' X F hle
    have hL := Le.trans hL hle
    have hA := rd.mono hle hA
    have hQq := rd.mono hle hQq
    have hQr := rd.mono hle hQr
    have hb := RdL.mono hle hb
    have hm1 := RdL.mono hle hm1
    have hpm1 := rd.mono hle hpm1
    intro _
    rintro _ _ H27 hle27 ⟨c0, c1, pv, rfl, hm, hpm, rfl⟩
    replace hm := RdL.mono hle27 hm
    replace hpm := rd.mono hle27 hpm
    intro hF
    refine TL.extract rfl rfl rfl ?_
    refine TL.nil ?_
    exact TQ.one [] hF (Le.refl _) ⟨_, _, rfl, hm, rfl⟩) ?_
   refine ChainV.r (some 37) [(8, 1)] ([]) (fun _ => fun u s_ H => rd H (.s 1 ((mergeR (madeP s) (changedP (madeP s) r) (changedP (madeP s) q)).2.map pD)) u ∧ s_ = []) (by
    intro H' X F hle
    have hL := Le.trans hL hle
    have hA := rd.mono hle hA
    have hQq := rd.mono hle hQq
    have hQr := rd.mono hle hQr
    have hb := RdL.mono hle hb
    have hm1 := RdL.mono hle hm1
    have hpm1 := rd.mono hle hpm1
    intro _
    rintro _ _ H27 hle27 ⟨c0, c1, pv, rfl, hm, hpm, rfl⟩
    replace hm := RdL.mono hle27 hm
    replace hpm := rd.mono hle27 hpm
    intro hF
    refine TL.extract rfl rfl rfl ?_
    refine TL.nil ?_
    exact TQ.one [] hF (Le.refl _) ⟨hpm, rfl⟩) ?_
   refine ChainV.t true [] (some 11) [] ([]) (fun _ => fun u s_ H => ∃ g, u = .pointer (some ⟨g, 0, none⟩) ∧ s_ = [[(g, .cells #[.string ⟨#[]⟩, .slice none 0 0] 27 (0, 0))]]) (by
    intro H' X F hle
    have hL := Le.trans hL hle
    have hA := rd.mono hle hA
    have hQq := rd.mono hle hQq
    have hQr := rd.mono hle hQr
    have hb := RdL.mono hle hb
    have hm1 := RdL.mono hle hm1
    have hpm1 := rd.mono hle hpm1
    intro hF
    refine TL.new rfl ?_; intro g11
    refine TL.nil ?_
    exact TQ.one [_] hF (Le.refl _) ⟨_, rfl, rfl⟩) ?_
   refine ChainV.t false [11] none [(11, 0), (9, 2)] ([]) (fun vs u s_ H => ∃ g c0 c1, nthV vs 0 = .pointer (some ⟨g, 0, none⟩) ∧ s_ = [[(g, .cells #[c0, c1] 27 (0, 0))]] ∧ RdL H (mergeR (madeP s) (changedP (madeP s) r) (changedP (madeP s) q)).1.d [c0, c1]) (by
    intro H' X F hle
    have hL := Le.trans hL hle
    have hA := rd.mono hle hA
    have hQq := rd.mono hle hQq
    have hQr := rd.mono hle hQr
    have hb := RdL.mono hle hb
    have hm1 := RdL.mono hle hm1
    have hpm1 := rd.mono hle hpm1
    intro _
    rintro _ _ H11 hle11 ⟨g11, rfl, rfl⟩
    intro _
    rintro _ _ H36 hle36 ⟨m20, m21, rfl, hm2, rfl⟩
    replace hm2 := RdL.mono hle36 hm2
    intro hF
    refine TL.toOwn (own' := _ :: _) rfl ?_
    refine TL.storeA 0 0 (vs := [m20, m21]) (c' := #[_, _]) (own' := [(_, .cells #[_, _] _ _)] :: _) rfl rfl rfl rfl rfl (tr_ones hm2) (by simp) rfl rfl rfl ?_
    refine TL.nil ?_
    exact TQ.one [_] hF (Le.refl _) ⟨_, _, _, rfl, rfl, hm2⟩) ?_
   refine ⟨by kernel_rfl, .refl _, ?_⟩
   ·
    intro H2 hle
    rintro _ _ H31 hle31 ⟨lr0, lr1, rfl, hlr, rfl⟩
    replace hlr := RdL.mono hle31 hlr
    rintro _ _ H34 hle34 ⟨lq0, lq1, rfl, hlq, rfl⟩
    replace hlq := RdL.mono hle34 hlq
    rintro _ _ _ _ ⟨_, _, _, rfl, _, _, rfl⟩
    rintro _ _ _ _ ⟨_, _, _, rfl, _, _, rfl⟩
    rintro _ _ H36 hle36 ⟨m20, m21, rfl, hm2, rfl⟩
    replace hm2 := RdL.mono hle36 hm2
    rintro pm2 _ H37 hle37 ⟨hpm2, rfl⟩
    replace hpm2 := rd.mono hle37 hpm2
    rintro _ _ H11 hle11 ⟨g11, rfl, rfl⟩
    rintro _ _ Hg11 hleg11 ⟨g, m20, m21, he, rfl, hm2⟩
    replace he : Value.pointer (some ⟨g11, 0, none⟩) = .pointer (some ⟨g, 0, none⟩) := he
    injection he with he; injection he with he; injection he with he; subst he
    replace hm2 := RdL.mono hleg11 hm2
    have hL := Le.trans hL hle
    have hA := rd.mono hle hA
    have hQq := rd.mono hle hQq
    have hQr := rd.mono hle hQr
    have hb := RdL.mono hle hb
    have hm1 := RdL.mono hle hm1
    have hpm1 := rd.mono hle hpm1
    refine TL.toOwn (own' := _ :: _ :: _ :: own) rfl ?_
    refine TL.wk (env' := [(0, _), (1, _), (2, _), (6, _), (7, _), (8, _), (9, _), (10, _), (37, _), (11, _)]) ⟨rfl, rfl, rfl, rfl, rfl, rfl, rfl, rfl, rfl, rfl, trivial⟩ ?_
    rw [mergeR_sym] at hm2 hpm2
    refine TL.assign rfl rfl ?_
    refine TL.nil ?_
    refine TQ.then_n ?_
    refine TC.seq ?_
    refine TC.region ?_
    refine TL.move rfl rfl ?_
    refine TL.move rfl rfl ?_
    refine TL.gyes rfl rfl rfl ?_
    refine TL.load_ownA 1 0 [_, _] rfl rfl rfl ⟨rfl, rfl, trivial⟩ rfl rfl ?_
    refine TL.gyes rfl rfl rfl ?_
    refine TL.load_ownA 0 0 [_, _] rfl rfl rfl ⟨rfl, rfl, trivial⟩ rfl rfl ?_
    refine TL.gyes rfl rfl rfl ?_
    refine TL.call (ref_same _ _ _ (Nat.le_refl _) hm1 hm2) ⟨rfl, rfl, trivial⟩ rfl ?_
    rintro _ own Hs42 ⟨rfl, rfl, hles42⟩
    rw [eqb_self]
    have hL := Le.trans hL hles42
    have hA := rd.mono hles42 hA
    have hQq := rd.mono hles42 hQq
    have hQr := rd.mono hles42 hQr
    have hb := RdL.mono hles42 hb
    have hm1 := RdL.mono hles42 hm1
    have hpm1 := rd.mono hles42 hpm1
    have hm2 := RdL.mono hles42 hm2
    have hpm2 := rd.mono hles42 hpm2
    refine TL.pickT rfl rfl rfl rfl ?_
    refine TL.move rfl rfl ?_
    refine TL.gyes rfl rfl rfl ?_
    refine TL.move rfl rfl ?_
    refine TL.gyes rfl rfl rfl ?_
    refine TL.move rfl rfl ?_
    refine TL.gyes rfl rfl rfl ?_
    refine TL.call (ref_Paths hpm1 hpm2) ⟨rfl, rfl, trivial⟩ rfl ?_
    rintro _ own Hs47 ⟨rfl, rfl, hle47⟩
    rw [decide_eq_true rfl]
    have hL := Le.trans hL hle47
    have hA := rd.mono hle47 hA
    have hQq := rd.mono hle47 hQq
    have hQr := rd.mono hle47 hQr
    have hb := RdL.mono hle47 hb
    have hm1 := RdL.mono hle47 hm1
    have hpm1 := rd.mono hle47 hpm1
    have hm2 := RdL.mono hle47 hm2
    have hpm2 := rd.mono hle47 hpm2
    refine TL.pickT rfl rfl rfl rfl ?_
    refine TL.assign rfl rfl ?_
    refine TL.nil ?_
    refine TQ.then_n ?_
    refine TC.ret ?_
    refine TQ.ret1 3 rfl rfl ?_
    exact ⟨rfl, rfl, hL⟩
theorem law_keeps {s : List Int} (hs : ∀ n ∈ s, I64 n) {q r : List (Int × Int × Int)} (hqq : QOk q) (hqr : QOk r) {w0 : World} {H : Hp} {own : List Seg} {v vq vr : Value} (hA : rd H (.s 1 (ints s)) v) (hQq : rd H (.s 3 (trips q)) vq) (hQr : rd H (.s 3 (trips r)) vr) :
    Fn Try.prog 10 [v, vq, vr] w0 H own (fun r own' H' => r = .bool true ∧ own' = own ∧ Le H H') := by
  have hsl : s.length ≤ 9223372036854775807 := by
    obtain ⟨_, _, _, h1, h2⟩ := vals_len hA
    rw [List.length_map] at h1; omega
  have hz := made_size s
  have hcz := changedP_size (madeP s) q
  have hcr := changedP_size (madeP s) r
  refine Fn.enter Try.func10 rfl Try.ntmps10 rfl ?_
  have hL := Le.refl H
  refine TC.seq ?_
  refine TC.region ?_
  refine TL.assign rfl rfl ?_
  refine TL.nil ?_
  refine TQ.then_n ?_
  refine TC.seq ?_
  refine TC.region ?_
  refine TL.call (law_sanity) trivial rfl ?_
  rintro _ own Hsn ⟨rfl, rfl, hlesn⟩
  have hL := Le.trans hL hlesn
  have hA := rd.mono hlesn hA
  have hQq := rd.mono hlesn hQq
  have hQr := rd.mono hlesn hQr
  refine TL.assign rfl rfl ?_
  refine TL.nil ?_
  refine TQ.then_n ?_
  refine TC.seq ?_
  refine TC.region ?_
  refine TL.move rfl rfl ?_
  refine TL.call (ref_Made hs hsl hA) ⟨rfl, trivial⟩ rfl ?_
  rintro _ own Hb17 ⟨b0, b1, rfl, hb, rfl, hle17⟩
  have hL := Le.trans hL hle17
  have hA := rd.mono hle17 hA
  have hQq := rd.mono hle17 hQq
  have hQr := rd.mono hle17 hQr
  refine TL.new rfl ?_; intro g8
  refine TL.storeA 0 0 (vs := [b0, b1]) (c' := #[_, _]) (own' := [(_, .cells #[_, _] _ _)] :: _) rfl rfl rfl rfl rfl (tr_ones hb) (by simp) rfl rfl rfl ?_
  refine TL.nil ?_
  refine TQ.then_n ?_
  refine TC.seq ?_
  refine TC.region ?_
  refine TL.load_ownA 0 0 [_, _] rfl rfl rfl ⟨rfl, rfl, trivial⟩ rfl rfl ?_
  refine TL.move rfl rfl ?_
  refine TL.call (law_changed (by omega) hqq hb hQq) ⟨rfl, rfl, trivial⟩ rfl ?_
  rintro _ own Hc20 ⟨lq0, lq1, rfl, hlq, rfl, hle20⟩
  have hL := Le.trans hL hle20
  have hA := rd.mono hle20 hA
  have hQq := rd.mono hle20 hQq
  have hQr := rd.mono hle20 hQr
  have hb := RdL.mono hle20 hb
  refine TL.new rfl ?_; intro g9
  refine TL.storeA 0 0 (vs := [lq0, lq1]) (c' := #[_, _]) (own' := [(_, .cells #[_, _] _ _)] :: _) rfl rfl rfl rfl rfl (tr_ones hlq) (by simp) rfl rfl rfl ?_
  refine TL.nil ?_
  refine TQ.then_n ?_
  refine TC.seq ?_
  refine TC.region ?_
  refine TL.load_ownA 1 0 [_, _] rfl rfl rfl ⟨rfl, rfl, trivial⟩ rfl rfl ?_
  refine TL.move rfl rfl ?_
  refine TL.call (law_changed (by omega) hqr hb hQr) ⟨rfl, rfl, trivial⟩ rfl ?_
  rintro _ own Hc23 ⟨lr0, lr1, rfl, hlr, rfl, hle23⟩
  have hL := Le.trans hL hle23
  have hA := rd.mono hle23 hA
  have hQq := rd.mono hle23 hQq
  have hQr := rd.mono hle23 hQr
  have hb := RdL.mono hle23 hb
  have hlq := RdL.mono hle23 hlq
  refine TL.new rfl ?_; intro g10
  refine TL.storeA 0 0 (vs := [lr0, lr1]) (c' := #[_, _]) (own' := [(_, .cells #[_, _] _ _)] :: _) rfl rfl rfl rfl rfl (tr_ones hlr) (by simp) rfl rfl rfl ?_
  refine TL.nil ?_
  refine TQ.then_n ?_
  refine TC.seq ?_
  refine TC.region ?_
  refine TL.load_ownA 2 0 [_, _] rfl rfl rfl ⟨rfl, rfl, trivial⟩ rfl rfl ?_
  refine TL.load_ownA 1 0 [_, _] rfl rfl rfl ⟨rfl, rfl, trivial⟩ rfl rfl ?_
  refine TL.load_ownA 0 0 [_, _] rfl rfl rfl ⟨rfl, rfl, trivial⟩ rfl rfl ?_
  refine TL.call (merge_top (by omega) (by omega) (by omega) hb hlq hlr) ⟨rfl, rfl, rfl, trivial⟩ rfl ?_
  rintro _ own Hm28 ⟨m10, m11, pm1, rfl, hm1, hpm1, rfl, hle28⟩
  have hL := Le.trans hL hle28
  have hA := rd.mono hle28 hA
  have hQq := rd.mono hle28 hQq
  have hQr := rd.mono hle28 hQr
  have hb := RdL.mono hle28 hb
  have hlq := RdL.mono hle28 hlq
  have hlr := RdL.mono hle28 hlr
  refine TL.move rfl rfl ?_
  refine TL.extract rfl rfl rfl ?_
  refine TL.extract rfl rfl rfl ?_
  refine TL.new rfl ?_; intro g11
  refine TL.storeA 0 0 (vs := [m10, m11]) (c' := #[_, _]) (own' := [(_, .cells #[_, _] _ _)] :: _) rfl rfl rfl rfl rfl (tr_ones hm1) (by simp) rfl rfl rfl ?_
  refine TL.assign rfl rfl ?_
  refine TL.nil ?_
  refine TQ.then_n ?_
  refine TC.seq ?_
  refine TC.region ?_
  refine TL.move rfl rfl ?_
  refine TL.call (ref_Made hs hsl hA) ⟨rfl, trivial⟩ rfl ?_
  rintro _ own Hb33 ⟨b20, b21, rfl, hb2, rfl, hle33⟩
  have hL := Le.trans hL hle33
  have hA := rd.mono hle33 hA
  have hQq := rd.mono hle33 hQq
  have hQr := rd.mono hle33 hQr
  have hb := RdL.mono hle33 hb
  have hlq := RdL.mono hle33 hlq
  have hlr := RdL.mono hle33 hlr
  have hm1 := RdL.mono hle33 hm1
  have hpm1 := rd.mono hle33 hpm1
  refine TL.move rfl rfl ?_
  refine TL.call (ref_Made hs hsl hA) ⟨rfl, trivial⟩ rfl ?_
  rintro _ own Hb35 ⟨b30, b31, rfl, hb3, rfl, hle35⟩
  have hL := Le.trans hL hle35
  have hA := rd.mono hle35 hA
  have hQq := rd.mono hle35 hQq
  have hQr := rd.mono hle35 hQr
  have hb := RdL.mono hle35 hb
  have hlq := RdL.mono hle35 hlq
  have hlr := RdL.mono hle35 hlr
  have hm1 := RdL.mono hle35 hm1
  have hpm1 := rd.mono hle35 hpm1
  have hb2 := RdL.mono hle35 hb2
  refine TL.move rfl rfl ?_
  refine TL.call (law_changed (by omega) hqq hb3 hQq) ⟨rfl, rfl, trivial⟩ rfl ?_
  rintro _ own Hc37 ⟨lq20, lq21, rfl, hlq2, rfl, hle37⟩
  have hL := Le.trans hL hle37
  have hA := rd.mono hle37 hA
  have hQq := rd.mono hle37 hQq
  have hQr := rd.mono hle37 hQr
  have hb := RdL.mono hle37 hb
  have hlq := RdL.mono hle37 hlq
  have hlr := RdL.mono hle37 hlr
  have hm1 := RdL.mono hle37 hm1
  have hpm1 := rd.mono hle37 hpm1
  have hb2 := RdL.mono hle37 hb2
  have hb3 := RdL.mono hle37 hb3
  refine TL.move rfl rfl ?_
  refine TL.call (ref_Made hs hsl hA) ⟨rfl, trivial⟩ rfl ?_
  rintro _ own Hb39 ⟨b40, b41, rfl, hb4, rfl, hle39⟩
  have hL := Le.trans hL hle39
  have hA := rd.mono hle39 hA
  have hQq := rd.mono hle39 hQq
  have hQr := rd.mono hle39 hQr
  have hb := RdL.mono hle39 hb
  have hlq := RdL.mono hle39 hlq
  have hlr := RdL.mono hle39 hlr
  have hm1 := RdL.mono hle39 hm1
  have hpm1 := rd.mono hle39 hpm1
  have hb2 := RdL.mono hle39 hb2
  have hb3 := RdL.mono hle39 hb3
  have hlq2 := RdL.mono hle39 hlq2
  refine TL.move rfl rfl ?_
  refine TL.call (law_changed (by omega) hqr hb4 hQr) ⟨rfl, rfl, trivial⟩ rfl ?_
  rintro _ own Hc41 ⟨lr20, lr21, rfl, hlr2, rfl, hle41⟩
  have hL := Le.trans hL hle41
  have hA := rd.mono hle41 hA
  have hQq := rd.mono hle41 hQq
  have hQr := rd.mono hle41 hQr
  have hb := RdL.mono hle41 hb
  have hlq := RdL.mono hle41 hlq
  have hlr := RdL.mono hle41 hlr
  have hm1 := RdL.mono hle41 hm1
  have hpm1 := rd.mono hle41 hpm1
  have hb2 := RdL.mono hle41 hb2
  have hb3 := RdL.mono hle41 hb3
  have hlq2 := RdL.mono hle41 hlq2
  have hb4 := RdL.mono hle41 hb4
  refine TL.call (merge_top (by omega) (by omega) (by omega) hb2 hlq2 hlr2) ⟨rfl, rfl, rfl, trivial⟩ rfl ?_
  rintro _ own Hm42 ⟨m20, m21, pm2, rfl, hm2, hpm2, rfl, hle42⟩
  have hL := Le.trans hL hle42
  have hA := rd.mono hle42 hA
  have hQq := rd.mono hle42 hQq
  have hQr := rd.mono hle42 hQr
  have hb := RdL.mono hle42 hb
  have hlq := RdL.mono hle42 hlq
  have hlr := RdL.mono hle42 hlr
  have hm1 := RdL.mono hle42 hm1
  have hpm1 := rd.mono hle42 hpm1
  have hb2 := RdL.mono hle42 hb2
  have hb3 := RdL.mono hle42 hb3
  have hlq2 := RdL.mono hle42 hlq2
  have hb4 := RdL.mono hle42 hb4
  have hlr2 := RdL.mono hle42 hlr2
  refine TL.move rfl rfl ?_
  refine TL.extract rfl rfl rfl ?_
  refine TL.extract rfl rfl rfl ?_
  refine TL.new rfl ?_; intro g13
  refine TL.storeA 0 0 (vs := [m20, m21]) (c' := #[_, _]) (own' := [(_, .cells #[_, _] _ _)] :: _) rfl rfl rfl rfl rfl (tr_ones hm2) (by simp) rfl rfl rfl ?_
  refine TL.assign rfl rfl ?_
  refine TL.nil ?_
  refine TQ.then_n ?_
  refine TC.seq ?_
  refine TC.drawQV 23  [(0, _), (1, _), (2, _), (6, _), (7, _), (8, _), (9, _), (10, _), (11, _), (12, _), (13, _), (14, _)] follows_mixed ⟨rfl, rfl, rfl, rfl, rfl, rfl, rfl, rfl, rfl, rfl, rfl, rfl, trivial⟩ ?_
  refine ChainV.q (some 45) [] (by
   intro H' X F hle
   have hL := Le.trans hL hle
   have hA := rd.mono hle hA
   have hQq := rd.mono hle hQq
   have hQr := rd.mono hle hQr
   have hb := RdL.mono hle hb
   have hlq := RdL.mono hle hlq
   have hlr := RdL.mono hle hlr
   have hm1 := RdL.mono hle hm1
   have hpm1 := rd.mono hle hpm1
   have hb2 := RdL.mono hle hb2
   have hb3 := RdL.mono hle hb3
   have hlq2 := RdL.mono hle hlq2
   have hb4 := RdL.mono hle hb4
   have hlr2 := RdL.mono hle hlr2
   have hm2 := RdL.mono hle hm2
   have hpm2 := rd.mono hle hpm2
   intro hF
   refine TL.move rfl rfl ?_
   refine TL.nil ?_
   exact TQ.one [] hF (Le.refl _) ⟨rfl, rfl⟩) ?_
  refine ChainV.q (some 46) [(0, 0)] (by
   intro H' X F hle
   have hL := Le.trans hL hle
   have hA := rd.mono hle hA
   have hQq := rd.mono hle hQq
   have hQr := rd.mono hle hQr
   have hb := RdL.mono hle hb
   have hlq := RdL.mono hle hlq
   have hlr := RdL.mono hle hlr
   have hm1 := RdL.mono hle hm1
   have hpm1 := rd.mono hle hpm1
   have hb2 := RdL.mono hle hb2
   have hb3 := RdL.mono hle hb3
   have hlq2 := RdL.mono hle hlq2
   have hb4 := RdL.mono hle hb4
   have hlr2 := RdL.mono hle hlr2
   have hm2 := RdL.mono hle hm2
   have hpm2 := rd.mono hle hpm2
   intro hF
   refine TL.move rfl rfl ?_
   refine TL.nil ?_
   exact TQ.one [] hF (Le.refl _) ⟨rfl, rfl⟩) ?_
  refine ChainV.q (some 47) [(1, 0)] (by
   intro H' X F hle
   have hL := Le.trans hL hle
   have hA := rd.mono hle hA
   have hQq := rd.mono hle hQq
   have hQr := rd.mono hle hQr
   have hb := RdL.mono hle hb
   have hlq := RdL.mono hle hlq
   have hlr := RdL.mono hle hlr
   have hm1 := RdL.mono hle hm1
   have hpm1 := rd.mono hle hpm1
   have hb2 := RdL.mono hle hb2
   have hb3 := RdL.mono hle hb3
   have hlq2 := RdL.mono hle hlq2
   have hb4 := RdL.mono hle hb4
   have hlr2 := RdL.mono hle hlr2
   have hm2 := RdL.mono hle hm2
   have hpm2 := rd.mono hle hpm2
   intro hF
   refine TL.gyes rfl rfl rfl ?_
   refine TL.load_ownA 1 0 [_, _] rfl rfl rfl ⟨rfl, rfl, trivial⟩ rfl rfl ?_
   refine TL.nil ?_
   exact TQ.one [] hF (Le.refl _) ⟨rfl, rfl⟩) ?_
  refine ChainV.q (some 48) [(1, 1)] (by
   intro H' X F hle
   have hL := Le.trans hL hle
   have hA := rd.mono hle hA
   have hQq := rd.mono hle hQq
   have hQr := rd.mono hle hQr
   have hb := RdL.mono hle hb
   have hlq := RdL.mono hle hlq
   have hlr := RdL.mono hle hlr
   have hm1 := RdL.mono hle hm1
   have hpm1 := rd.mono hle hpm1
   have hb2 := RdL.mono hle hb2
   have hb3 := RdL.mono hle hb3
   have hlq2 := RdL.mono hle hlq2
   have hb4 := RdL.mono hle hb4
   have hlr2 := RdL.mono hle hlr2
   have hm2 := RdL.mono hle hm2
   have hpm2 := rd.mono hle hpm2
   intro hF
   refine TL.gyes rfl rfl rfl ?_
   refine TL.load_ownA 0 0 [_, _] rfl rfl rfl ⟨rfl, rfl, trivial⟩ rfl rfl ?_
   refine TL.nil ?_
   exact TQ.one [] hF (Le.refl _) ⟨rfl, rfl⟩) ?_
  refine ChainV.q (some 49) [(2, 1), (3, 0), (1, 2)] (by
   intro H' X F hle
   have hL := Le.trans hL hle
   have hA := rd.mono hle hA
   have hQq := rd.mono hle hQq
   have hQr := rd.mono hle hQr
   have hb := RdL.mono hle hb
   have hlq := RdL.mono hle hlq
   have hlr := RdL.mono hle hlr
   have hm1 := RdL.mono hle hm1
   have hpm1 := rd.mono hle hpm1
   have hb2 := RdL.mono hle hb2
   have hb3 := RdL.mono hle hb3
   have hlq2 := RdL.mono hle hlq2
   have hb4 := RdL.mono hle hb4
   have hlr2 := RdL.mono hle hlr2
   have hm2 := RdL.mono hle hm2
   have hpm2 := rd.mono hle hpm2
   intro hF
   refine TL.gyes rfl rfl rfl ?_
   refine TL.call (ref_same _ _ _ (Nat.le_refl _) hm1 hm2) ⟨rfl, rfl, trivial⟩ rfl ?_
   rintro _ own Hs49 ⟨rfl, rfl, hles49⟩
   rw [eqb_self]
   have hL := Le.trans hL hles49
   have hA := rd.mono hles49 hA
   have hQq := rd.mono hles49 hQq
   have hQr := rd.mono hles49 hQr
   have hb := RdL.mono hles49 hb
   have hlq := RdL.mono hles49 hlq
   have hlr := RdL.mono hles49 hlr
   have hm1 := RdL.mono hles49 hm1
   have hpm1 := rd.mono hles49 hpm1
   have hb2 := RdL.mono hles49 hb2
   have hb3 := RdL.mono hles49 hb3
   have hlq2 := RdL.mono hles49 hlq2
   have hb4 := RdL.mono hles49 hb4
   have hlr2 := RdL.mono hles49 hlr2
   have hm2 := RdL.mono hles49 hm2
   have hpm2 := rd.mono hles49 hpm2
   refine TL.nil ?_
   exact TQ.one [] hF hles49 ⟨rfl, rfl⟩) ?_
  refine ChainV.q (some 50) [(1, 3), (4, 0)] (by
   intro H' X F hle
   have hL := Le.trans hL hle
   have hA := rd.mono hle hA
   have hQq := rd.mono hle hQq
   have hQr := rd.mono hle hQr
   have hb := RdL.mono hle hb
   have hlq := RdL.mono hle hlq
   have hlr := RdL.mono hle hlr
   have hm1 := RdL.mono hle hm1
   have hpm1 := rd.mono hle hpm1
   have hb2 := RdL.mono hle hb2
   have hb3 := RdL.mono hle hb3
   have hlq2 := RdL.mono hle hlq2
   have hb4 := RdL.mono hle hb4
   have hlr2 := RdL.mono hle hlr2
   have hm2 := RdL.mono hle hm2
   have hpm2 := rd.mono hle hpm2
   intro hF
   refine TL.pickT rfl rfl rfl rfl ?_
   refine TL.nil ?_
   exact TQ.one [] hF (Le.refl _) ⟨rfl, rfl⟩) ?_
  refine ChainV.q (some 51) [(5, 0)] (by
   intro H' X F hle
   have hL := Le.trans hL hle
   have hA := rd.mono hle hA
   have hQq := rd.mono hle hQq
   have hQr := rd.mono hle hQr
   have hb := RdL.mono hle hb
   have hlq := RdL.mono hle hlq
   have hlr := RdL.mono hle hlr
   have hm1 := RdL.mono hle hm1
   have hpm1 := rd.mono hle hpm1
   have hb2 := RdL.mono hle hb2
   have hb3 := RdL.mono hle hb3
   have hlq2 := RdL.mono hle hlq2
   have hb4 := RdL.mono hle hb4
   have hlr2 := RdL.mono hle hlr2
   have hm2 := RdL.mono hle hm2
   have hpm2 := rd.mono hle hpm2
   intro hF
   refine TL.move rfl rfl ?_
   refine TL.nil ?_
   exact TQ.one [] hF (Le.refl _) ⟨rfl, rfl⟩) ?_
  refine ChainV.q (some 52) [(6, 0)] (by
   intro H' X F hle
   have hL := Le.trans hL hle
   have hA := rd.mono hle hA
   have hQq := rd.mono hle hQq
   have hQr := rd.mono hle hQr
   have hb := RdL.mono hle hb
   have hlq := RdL.mono hle hlq
   have hlr := RdL.mono hle hlr
   have hm1 := RdL.mono hle hm1
   have hpm1 := rd.mono hle hpm1
   have hb2 := RdL.mono hle hb2
   have hb3 := RdL.mono hle hb3
   have hlq2 := RdL.mono hle hlq2
   have hb4 := RdL.mono hle hb4
   have hlr2 := RdL.mono hle hlr2
   have hm2 := RdL.mono hle hm2
   have hpm2 := rd.mono hle hpm2
   intro hF
   refine TL.gyes rfl rfl rfl ?_
   refine TL.move rfl rfl ?_
   refine TL.nil ?_
   exact TQ.one [] hF (Le.refl _) ⟨rfl, rfl⟩) ?_
  refine ChainV.q (some 53) [(6, 1)] (by
   intro H' X F hle
   have hL := Le.trans hL hle
   have hA := rd.mono hle hA
   have hQq := rd.mono hle hQq
   have hQr := rd.mono hle hQr
   have hb := RdL.mono hle hb
   have hlq := RdL.mono hle hlq
   have hlr := RdL.mono hle hlr
   have hm1 := RdL.mono hle hm1
   have hpm1 := rd.mono hle hpm1
   have hb2 := RdL.mono hle hb2
   have hb3 := RdL.mono hle hb3
   have hlq2 := RdL.mono hle hlq2
   have hb4 := RdL.mono hle hb4
   have hlr2 := RdL.mono hle hlr2
   have hm2 := RdL.mono hle hm2
   have hpm2 := rd.mono hle hpm2
   intro hF
   refine TL.gyes rfl rfl rfl ?_
   refine TL.move rfl rfl ?_
   refine TL.nil ?_
   exact TQ.one [] hF (Le.refl _) ⟨rfl, rfl⟩) ?_
  refine ChainV.q (some 54) [(7, 1), (8, 0), (6, 2)] (by
   intro H' X F hle
   have hL := Le.trans hL hle
   have hA := rd.mono hle hA
   have hQq := rd.mono hle hQq
   have hQr := rd.mono hle hQr
   have hb := RdL.mono hle hb
   have hlq := RdL.mono hle hlq
   have hlr := RdL.mono hle hlr
   have hm1 := RdL.mono hle hm1
   have hpm1 := rd.mono hle hpm1
   have hb2 := RdL.mono hle hb2
   have hb3 := RdL.mono hle hb3
   have hlq2 := RdL.mono hle hlq2
   have hb4 := RdL.mono hle hb4
   have hlr2 := RdL.mono hle hlr2
   have hm2 := RdL.mono hle hm2
   have hpm2 := rd.mono hle hpm2
   intro hF
   refine TL.gyes rfl rfl rfl ?_
   refine TL.call (ref_Paths hpm1 hpm2) ⟨rfl, rfl, trivial⟩ rfl ?_
   rintro _ own Hs54 ⟨rfl, rfl, hle54⟩
   rw [decide_eq_true rfl]
   refine TL.nil ?_
   exact TQ.one [] hF hle54 ⟨rfl, rfl⟩) ?_
  refine ChainV.q (some 55) [(6, 3), (9, 0)] (by
   intro H' X F hle
   have hL := Le.trans hL hle
   have hA := rd.mono hle hA
   have hQq := rd.mono hle hQq
   have hQr := rd.mono hle hQr
   have hb := RdL.mono hle hb
   have hlq := RdL.mono hle hlq
   have hlr := RdL.mono hle hlr
   have hm1 := RdL.mono hle hm1
   have hpm1 := rd.mono hle hpm1
   have hb2 := RdL.mono hle hb2
   have hb3 := RdL.mono hle hb3
   have hlq2 := RdL.mono hle hlq2
   have hb4 := RdL.mono hle hb4
   have hlr2 := RdL.mono hle hlr2
   have hm2 := RdL.mono hle hm2
   have hpm2 := rd.mono hle hpm2
   intro hF
   refine TL.pickT rfl rfl rfl rfl ?_
   refine TL.nil ?_
   exact TQ.one [] hF (Le.refl _) ⟨rfl, rfl⟩) ?_
  refine ChainV.q (some 56) [(10, 0)] (by
   intro H' X F hle
   have hL := Le.trans hL hle
   have hA := rd.mono hle hA
   have hQq := rd.mono hle hQq
   have hQr := rd.mono hle hQr
   have hb := RdL.mono hle hb
   have hlq := RdL.mono hle hlq
   have hlr := RdL.mono hle hlr
   have hm1 := RdL.mono hle hm1
   have hpm1 := rd.mono hle hpm1
   have hb2 := RdL.mono hle hb2
   have hb3 := RdL.mono hle hb3
   have hlq2 := RdL.mono hle hlq2
   have hb4 := RdL.mono hle hb4
   have hlr2 := RdL.mono hle hlr2
   have hm2 := RdL.mono hle hm2
   have hpm2 := rd.mono hle hpm2
   intro hF
   refine TL.move rfl rfl ?_
   refine TL.nil ?_
   exact TQ.one [] hF (Le.refl _) ⟨rfl, rfl⟩) ?_
  refine ChainV.q (some 57) [(11, 0)] (by
   intro H' X F hle
   have hL := Le.trans hL hle
   have hA := rd.mono hle hA
   have hQq := rd.mono hle hQq
   have hQr := rd.mono hle hQr
   have hb := RdL.mono hle hb
   have hlq := RdL.mono hle hlq
   have hlr := RdL.mono hle hlr
   have hm1 := RdL.mono hle hm1
   have hpm1 := rd.mono hle hpm1
   have hb2 := RdL.mono hle hb2
   have hb3 := RdL.mono hle hb3
   have hlq2 := RdL.mono hle hlq2
   have hb4 := RdL.mono hle hb4
   have hlr2 := RdL.mono hle hlr2
   have hm2 := RdL.mono hle hm2
   have hpm2 := rd.mono hle hpm2
   intro hF
   refine TL.gyes rfl rfl rfl ?_
   refine TL.load_ownA 4 0 [_, _] rfl rfl rfl ⟨rfl, rfl, trivial⟩ rfl rfl ?_
   refine TL.nil ?_
   exact TQ.one [] hF (Le.refl _) ⟨rfl, rfl⟩) ?_
  refine ChainV.q (some 58) [(11, 1)] (by
   intro H' X F hle
   have hL := Le.trans hL hle
   have hA := rd.mono hle hA
   have hQq := rd.mono hle hQq
   have hQr := rd.mono hle hQr
   have hb := RdL.mono hle hb
   have hlq := RdL.mono hle hlq
   have hlr := RdL.mono hle hlr
   have hm1 := RdL.mono hle hm1
   have hpm1 := rd.mono hle hpm1
   have hb2 := RdL.mono hle hb2
   have hb3 := RdL.mono hle hb3
   have hlq2 := RdL.mono hle hlq2
   have hb4 := RdL.mono hle hb4
   have hlr2 := RdL.mono hle hlr2
   have hm2 := RdL.mono hle hm2
   have hpm2 := rd.mono hle hpm2
   intro hF
   refine TL.gyes rfl rfl rfl ?_
   refine TL.move rfl rfl ?_
   refine TL.nil ?_
   exact TQ.one [] hF (Le.refl _) ⟨rfl, rfl⟩) ?_
  refine ChainV.r (some 59) [(13, 0), (11, 2)] ([]) (fun _ => fun u s_ H => ∃ c0 c1, u = .agg #[c0, c1] ∧ RdL H (madeP s).d [c0, c1] ∧ s_ = []) (by
   intro H' X F hle
   have hL := Le.trans hL hle
   have hA := rd.mono hle hA
   have hQq := rd.mono hle hQq
   have hQr := rd.mono hle hQr
   have hb := RdL.mono hle hb
   have hlq := RdL.mono hle hlq
   have hlr := RdL.mono hle hlr
   have hm1 := RdL.mono hle hm1
   have hpm1 := rd.mono hle hpm1
   have hb2 := RdL.mono hle hb2
   have hb3 := RdL.mono hle hb3
   have hlq2 := RdL.mono hle hlq2
   have hb4 := RdL.mono hle hb4
   have hlr2 := RdL.mono hle hlr2
   have hm2 := RdL.mono hle hm2
   have hpm2 := rd.mono hle hpm2
   intro hF
   refine TL.gyes rfl rfl rfl ?_
   refine TL.call (ref_Made hs hsl hA) ⟨rfl, trivial⟩ rfl ?_
   rintro _ own H7 ⟨c0, c1, rfl, hr, rfl, hle7⟩
   refine TL.nil ?_
   exact TQ.one [] hF hle7 ⟨_, _, rfl, hr, rfl⟩) ?_
  refine ChainV.q (some 60) [(12, 2), (14, 0), (11, 3)] (by
   intro H' X F hle
   have hL := Le.trans hL hle
   have hA := rd.mono hle hA
   have hQq := rd.mono hle hQq
   have hQr := rd.mono hle hQr
   have hb := RdL.mono hle hb
   have hlq := RdL.mono hle hlq
   have hlr := RdL.mono hle hlr
   have hm1 := RdL.mono hle hm1
   have hpm1 := rd.mono hle hpm1
   have hb2 := RdL.mono hle hb2
   have hb3 := RdL.mono hle hb3
   have hlq2 := RdL.mono hle hlq2
   have hb4 := RdL.mono hle hb4
   have hlr2 := RdL.mono hle hlr2
   have hm2 := RdL.mono hle hm2
   have hpm2 := rd.mono hle hpm2
   intro _
   rintro _ _ H59 hle59 ⟨b50, b51, rfl, hb5, rfl⟩
   replace hb5 := RdL.mono hle59 hb5
   intro hF
   refine TL.gyes rfl rfl rfl ?_
   refine TL.call (ref_same _ _ _ (Nat.le_refl _) hb hb5) ⟨rfl, rfl, trivial⟩ rfl ?_
   rintro _ own Hs60 ⟨rfl, rfl, hles60⟩
   rw [eqb_self]
   have hL := Le.trans hL hles60
   have hA := rd.mono hles60 hA
   have hQq := rd.mono hles60 hQq
   have hQr := rd.mono hles60 hQr
   have hb := RdL.mono hles60 hb
   have hlq := RdL.mono hles60 hlq
   have hlr := RdL.mono hles60 hlr
   have hm1 := RdL.mono hles60 hm1
   have hpm1 := rd.mono hles60 hpm1
   have hb2 := RdL.mono hles60 hb2
   have hb3 := RdL.mono hles60 hb3
   have hlq2 := RdL.mono hles60 hlq2
   have hb4 := RdL.mono hles60 hb4
   have hlr2 := RdL.mono hles60 hlr2
   have hm2 := RdL.mono hles60 hm2
   have hpm2 := rd.mono hles60 hpm2
   refine TL.nil ?_
   exact TQ.one [] hF hles60 ⟨rfl, rfl⟩) ?_
  refine ChainV.q (some 61) [(11, 4), (15, 0)] (by
   intro H' X F hle
   have hL := Le.trans hL hle
   have hA := rd.mono hle hA
   have hQq := rd.mono hle hQq
   have hQr := rd.mono hle hQr
   have hb := RdL.mono hle hb
   have hlq := RdL.mono hle hlq
   have hlr := RdL.mono hle hlr
   have hm1 := RdL.mono hle hm1
   have hpm1 := rd.mono hle hpm1
   have hb2 := RdL.mono hle hb2
   have hb3 := RdL.mono hle hb3
   have hlq2 := RdL.mono hle hlq2
   have hb4 := RdL.mono hle hb4
   have hlr2 := RdL.mono hle hlr2
   have hm2 := RdL.mono hle hm2
   have hpm2 := rd.mono hle hpm2
   intro hF
   refine TL.pickT rfl rfl rfl rfl ?_
   refine TL.nil ?_
   exact TQ.one [] hF (Le.refl _) ⟨rfl, rfl⟩) ?_
  refine ChainV.q (some 62) [(16, 0)] (by
   intro H' X F hle
   have hL := Le.trans hL hle
   have hA := rd.mono hle hA
   have hQq := rd.mono hle hQq
   have hQr := rd.mono hle hQr
   have hb := RdL.mono hle hb
   have hlq := RdL.mono hle hlq
   have hlr := RdL.mono hle hlr
   have hm1 := RdL.mono hle hm1
   have hpm1 := rd.mono hle hpm1
   have hb2 := RdL.mono hle hb2
   have hb3 := RdL.mono hle hb3
   have hlq2 := RdL.mono hle hlq2
   have hb4 := RdL.mono hle hb4
   have hlr2 := RdL.mono hle hlr2
   have hm2 := RdL.mono hle hm2
   have hpm2 := rd.mono hle hpm2
   intro hF
   refine TL.move rfl rfl ?_
   refine TL.nil ?_
   exact TQ.one [] hF (Le.refl _) ⟨rfl, rfl⟩) ?_
  refine ChainV.q (some 63) [(17, 0)] (by
   intro H' X F hle
   have hL := Le.trans hL hle
   have hA := rd.mono hle hA
   have hQq := rd.mono hle hQq
   have hQr := rd.mono hle hQr
   have hb := RdL.mono hle hb
   have hlq := RdL.mono hle hlq
   have hlr := RdL.mono hle hlr
   have hm1 := RdL.mono hle hm1
   have hpm1 := rd.mono hle hpm1
   have hb2 := RdL.mono hle hb2
   have hb3 := RdL.mono hle hb3
   have hlq2 := RdL.mono hle hlq2
   have hb4 := RdL.mono hle hb4
   have hlr2 := RdL.mono hle hlr2
   have hm2 := RdL.mono hle hm2
   have hpm2 := rd.mono hle hpm2
   intro hF
   refine TL.gyes rfl rfl rfl ?_
   refine TL.load_ownA 3 0 [_, _] rfl rfl rfl ⟨rfl, rfl, trivial⟩ rfl rfl ?_
   refine TL.nil ?_
   exact TQ.one [] hF (Le.refl _) ⟨rfl, rfl⟩) ?_
  refine ChainV.q (some 64) [(17, 1)] (by
   intro H' X F hle
   have hL := Le.trans hL hle
   have hA := rd.mono hle hA
   have hQq := rd.mono hle hQq
   have hQr := rd.mono hle hQr
   have hb := RdL.mono hle hb
   have hlq := RdL.mono hle hlq
   have hlr := RdL.mono hle hlr
   have hm1 := RdL.mono hle hm1
   have hpm1 := rd.mono hle hpm1
   have hb2 := RdL.mono hle hb2
   have hb3 := RdL.mono hle hb3
   have hlq2 := RdL.mono hle hlq2
   have hb4 := RdL.mono hle hb4
   have hlr2 := RdL.mono hle hlr2
   have hm2 := RdL.mono hle hm2
   have hpm2 := rd.mono hle hpm2
   intro hF
   refine TL.gyes rfl rfl rfl ?_
   refine TL.move rfl rfl ?_
   refine TL.nil ?_
   exact TQ.one [] hF (Le.refl _) ⟨rfl, rfl⟩) ?_
  refine ChainV.r (some 65) [(19, 0), (17, 2)] ([]) (fun _ => fun u s_ H => ∃ c0 c1, u = .agg #[c0, c1] ∧ RdL H (madeP s).d [c0, c1] ∧ s_ = []) (by
   intro H' X F hle
   have hL := Le.trans hL hle
   have hA := rd.mono hle hA
   have hQq := rd.mono hle hQq
   have hQr := rd.mono hle hQr
   have hb := RdL.mono hle hb
   have hlq := RdL.mono hle hlq
   have hlr := RdL.mono hle hlr
   have hm1 := RdL.mono hle hm1
   have hpm1 := rd.mono hle hpm1
   have hb2 := RdL.mono hle hb2
   have hb3 := RdL.mono hle hb3
   have hlq2 := RdL.mono hle hlq2
   have hb4 := RdL.mono hle hb4
   have hlr2 := RdL.mono hle hlr2
   have hm2 := RdL.mono hle hm2
   have hpm2 := rd.mono hle hpm2
   intro hF
   refine TL.gyes rfl rfl rfl ?_
   refine TL.call (ref_Made hs hsl hA) ⟨rfl, trivial⟩ rfl ?_
   rintro _ own H7 ⟨c0, c1, rfl, hr, rfl, hle7⟩
   refine TL.nil ?_
   exact TQ.one [] hF hle7 ⟨_, _, rfl, hr, rfl⟩) ?_
  refine ChainV.q (some 66) [(17, 3)] (by
   intro H' X F hle
   have hL := Le.trans hL hle
   have hA := rd.mono hle hA
   have hQq := rd.mono hle hQq
   have hQr := rd.mono hle hQr
   have hb := RdL.mono hle hb
   have hlq := RdL.mono hle hlq
   have hlr := RdL.mono hle hlr
   have hm1 := RdL.mono hle hm1
   have hpm1 := rd.mono hle hpm1
   have hb2 := RdL.mono hle hb2
   have hb3 := RdL.mono hle hb3
   have hlq2 := RdL.mono hle hlq2
   have hb4 := RdL.mono hle hb4
   have hlr2 := RdL.mono hle hlr2
   have hm2 := RdL.mono hle hm2
   have hpm2 := rd.mono hle hpm2
   intro hF
   refine TL.gyes rfl rfl rfl ?_
   refine TL.move rfl rfl ?_
   refine TL.nil ?_
   exact TQ.one [] hF (Le.refl _) ⟨rfl, rfl⟩) ?_
  refine ChainV.r (some 67) [(20, 1), (21, 0), (17, 4)] ([]) (fun _ => fun u s_ H => ∃ c0 c1, u = .agg #[c0, c1] ∧ RdL H (changedP (madeP s) q).d [c0, c1] ∧ s_ = []) (by
   intro H' X F hle
   have hL := Le.trans hL hle
   have hA := rd.mono hle hA
   have hQq := rd.mono hle hQq
   have hQr := rd.mono hle hQr
   have hb := RdL.mono hle hb
   have hlq := RdL.mono hle hlq
   have hlr := RdL.mono hle hlr
   have hm1 := RdL.mono hle hm1
   have hpm1 := rd.mono hle hpm1
   have hb2 := RdL.mono hle hb2
   have hb3 := RdL.mono hle hb3
   have hlq2 := RdL.mono hle hlq2
   have hb4 := RdL.mono hle hb4
   have hlr2 := RdL.mono hle hlr2
   have hm2 := RdL.mono hle hm2
   have hpm2 := rd.mono hle hpm2
   intro _
   rintro _ _ H65 hle65 ⟨b60, b61, rfl, hb6, rfl⟩
   replace hb6 := RdL.mono hle65 hb6
   intro hF
   refine TL.gyes rfl rfl rfl ?_
   refine TL.call (law_changed (by omega) hqq hb6 hQq) ⟨rfl, rfl, trivial⟩ rfl ?_
   rintro _ own H7 ⟨c0, c1, rfl, hr, rfl, hle7⟩
   refine TL.nil ?_
   exact TQ.one [] hF hle7 ⟨_, _, rfl, hr, rfl⟩) ?_
  refine ⟨by kernel_rfl, .refl _, ?_⟩
  ·
   intro H1 hle
   rintro _ _ H59 hle59 ⟨b50, b51, rfl, hb5, rfl⟩
   replace hb5 := RdL.mono hle59 hb5
   rintro _ _ H65 hle65 ⟨b60, b61, rfl, hb6, rfl⟩
   replace hb6 := RdL.mono hle65 hb6
   rintro _ _ H67 hle67 ⟨lq30, lq31, rfl, hlq3, rfl⟩
   replace hlq3 := RdL.mono hle67 hlq3
   have hL := Le.trans hL hle
   have hA := rd.mono hle hA
   have hQq := rd.mono hle hQq
   have hQr := rd.mono hle hQr
   have hb := RdL.mono hle hb
   have hlq := RdL.mono hle hlq
   have hlr := RdL.mono hle hlr
   have hm1 := RdL.mono hle hm1
   have hpm1 := rd.mono hle hpm1
   have hb2 := RdL.mono hle hb2
   have hb3 := RdL.mono hle hb3
   have hlq2 := RdL.mono hle hlq2
   have hb4 := RdL.mono hle hb4
   have hlr2 := RdL.mono hle hlr2
   have hm2 := RdL.mono hle hm2
   have hpm2 := rd.mono hle hpm2
   refine TL.toOwn (own' := _ :: _ :: _ :: _ :: _ :: own) rfl ?_
   refine TL.wk (env' := [(0, _), (1, _), (2, _), (6, _), (8, _), (9, _), (10, _), (11, _), (13, _), (62, _), (63, _), (67, _)]) ⟨rfl, rfl, rfl, rfl, rfl, rfl, rfl, rfl, rfl, rfl, rfl, rfl, trivial⟩ ?_
   refine TL.gyes rfl rfl rfl ?_
   refine TL.call (ref_same _ _ _ (Nat.le_refl _) hlq hlq3) ⟨rfl, rfl, trivial⟩ rfl ?_
   rintro _ own Hs68 ⟨rfl, rfl, hles68⟩
   rw [eqb_self]
   have hL := Le.trans hL hles68
   have hA := rd.mono hles68 hA
   have hQq := rd.mono hles68 hQq
   have hQr := rd.mono hles68 hQr
   have hb := RdL.mono hles68 hb
   have hlq := RdL.mono hles68 hlq
   have hlr := RdL.mono hles68 hlr
   have hm1 := RdL.mono hles68 hm1
   have hpm1 := rd.mono hles68 hpm1
   have hb2 := RdL.mono hles68 hb2
   have hb3 := RdL.mono hles68 hb3
   have hlq2 := RdL.mono hles68 hlq2
   have hb4 := RdL.mono hles68 hb4
   have hlr2 := RdL.mono hles68 hlr2
   have hm2 := RdL.mono hles68 hm2
   have hpm2 := rd.mono hles68 hpm2
   have hlq3 := RdL.mono hles68 hlq3
   refine TL.pickT rfl rfl rfl rfl ?_
   refine TL.assign rfl rfl ?_
   refine TL.nil ?_
   refine TQ.then_n ?_
   refine TC.ret ?_
   refine TQ.ret1 5 rfl rfl ?_
   exact ⟨rfl, rfl, hL⟩

end Go.Proofs.Ytapmmfabdmhdnaa.K
