/-
  Same of the reference.
-/
import Derived.Test.YtapmmfabdmhdnaaTree
import Derived.Test.YtapmmfabdmhdnaaTypes
import Derived.Test.YtapmmfabdmhdnaaBase
set_option linter.unusedVariables false
set_option linter.unusedSimpArgs false
set_option maxHeartbeats 4000000
namespace Go.Proofs.Ytapmmfabdmhdnaa.K
open Go Go.RowKit Go.Proofs

theorem same_lab {l l' : ByteArray} {ks ks' : List Tr} (h : l ≠ l') : Value.bool false = .bool ((Tr.node l ks).eqb (.node l' ks')) := by
  rw [Tr.eqb_eq, decide_eq_false (by simp [h])]
theorem same_len {l l' : ByteArray} {ks ks' : List Tr} (h : (ks.length : Int) ≠ ks'.length) : Value.bool false = .bool ((Tr.node l ks).eqb (.node l' ks')) := by
  rw [Tr.eqb_eq, decide_eq_false (by simp only [Tr.node.injEq]; rintro ⟨_, rfl⟩; exact h rfl)]
theorem same_kid {l l' : ByteArray} {ks ks' : List Tr} {k : Nat} {x y : Tr} (hx : ks[k]? = some x) (hy : ks'[k]? = some y) (h : x.eqb y = false) : Value.bool false = .bool ((Tr.node l ks).eqb (.node l' ks')) := by
  rw [Tr.eqb_eq, decide_eq_false]
  simp only [Tr.node.injEq]
  rintro ⟨_, rfl⟩
  rw [hx] at hy
  injection hy with hy
  subst hy
  simp [Tr.eqb_eq] at h
theorem same_all {l l' : ByteArray} {ks ks' : List Tr} {k : Nat} (hl : l = l') (hn : (ks.length : Int) = ks'.length) (h : ks.take k = ks'.take k) (hk : (ks.length : Int) ≤ k) : Value.bool true = .bool ((Tr.node l ks).eqb (.node l' ks')) := by
  rw [List.take_of_length_le (by omega), List.take_of_length_le (by omega)] at h
  rw [Tr.eqb_eq, decide_eq_true (by rw [hl, h])]

theorem ref_same (k : Nat) : ∀ (t u : Tr), t.size ≤ k → ∀ {w0 : World} {H : Hp} {own : List Seg} {a0 a1 b0 b1 : Value}, RdL H t.d [a0, a1] → RdL H u.d [b0, b1] →
    Fn Try.prog 18 [.agg #[a0, a1], .agg #[b0, b1]] w0 H own (fun v own' H' => v = .bool (t.eqb u) ∧ own' = own ∧ Le H H') := by
  induction k with
  | zero => intro t u h; have := t.size_pos; omega
  | succ k ih =>
    rintro ⟨l, ks⟩ ⟨l', ks'⟩ hk w0 H own a0 a1 b0 b1 ht hu
    obtain ⟨rfl, A, c, rfl, hc1, hc2, hA⟩ := tr_cells ht
    obtain ⟨rfl, B, c', rfl, hc1', hc2', hB⟩ := tr_cells hu
    refine Fn.enter Try.func18 rfl Try.ntmps18 rfl ?_
    have hL := Le.refl H
    refine TC.seq ?_
    refine TC.region ?_
    refine TL.box (c := #[_, _]) rfl rfl rfl ?_; intro g2
    refine TL.box (c := #[_, _]) rfl rfl rfl ?_; intro g3
    refine TL.assign rfl rfl ?_
    refine TL.nil ?_
    refine TQ.then_n ?_
    refine TC.seq ?_
    refine TC.seq ?_
    refine TC.region ?_
    refine TL.fieldAddr rfl rfl ?_
    refine TL.load_own 1 0 rfl rfl rfl rfl rfl ?_
    refine TL.fieldAddr rfl rfl ?_
    refine TL.load_own 0 0 rfl rfl rfl rfl rfl ?_
    refine TL.neqSB rfl rfl rfl (fun hl => ?_) (fun hl => ?_)
    ·
     refine TL.move rfl rfl ?_
     refine TL.gno rfl rfl rfl rfl ?_
     refine TL.gno rfl rfl rfl rfl ?_
     refine TL.gno rfl rfl rfl rfl ?_
     refine TL.gno rfl rfl rfl rfl ?_
     refine TL.gno rfl rfl rfl rfl ?_
     refine TL.gno rfl rfl rfl rfl ?_
     refine TL.gno rfl rfl rfl rfl ?_
     refine TL.pickT rfl rfl rfl rfl ?_
     refine TL.nil ?_
     refine TQ.then_n ?_
     refine TC.cond_t rfl ?_
     refine TC.seq ?_
     refine TC.region ?_
     refine TL.assign rfl rfl ?_
     refine TL.nil ?_
     refine TQ.then_n ?_
     refine TC.ret ?_
     refine TQ.then_r ?_
     refine TQ.ret1 2 rfl rfl ?_
     refine ⟨?_, rfl, hL⟩
     first
       | exact same_lab (by assumption)
       | exact same_len (by assumption)
       | exact same_kid hx hy hne
       | exact same_all hl hn hk2 hlt
    ·
     refine TL.move rfl rfl ?_
     refine TL.gyes rfl rfl rfl ?_
     refine TL.fieldAddr rfl rfl ?_
     refine TL.gyes rfl rfl rfl ?_
     refine TL.load_own 1 0 rfl rfl rfl rfl rfl ?_
     refine TL.gyes rfl rfl rfl ?_
     refine TL.len_slice rfl rfl ?_
     refine TL.gyes rfl rfl rfl ?_
     refine TL.fieldAddr rfl rfl ?_
     refine TL.gyes rfl rfl rfl ?_
     refine TL.load_own 0 0 rfl rfl rfl rfl rfl ?_
     refine TL.gyes rfl rfl rfl ?_
     refine TL.len_slice rfl rfl ?_
     refine TL.gyes rfl rfl rfl ?_
     refine TL.neqB rfl rfl rfl (fun hn => ?_) (fun hn => ?_)
     ·
      refine TL.pickF rfl rfl rfl rfl ?_
      refine TL.nil ?_
      refine TQ.then_n ?_
      refine TC.cond_t rfl ?_
      refine TC.seq ?_
      refine TC.region ?_
      refine TL.assign rfl rfl ?_
      refine TL.nil ?_
      refine TQ.then_n ?_
      refine TC.ret ?_
      refine TQ.then_r ?_
      refine TQ.ret1 2 rfl rfl ?_
      refine ⟨?_, rfl, hL⟩
      first
        | exact same_lab (by assumption)
        | exact same_len (by assumption)
        | exact same_kid hx hy hne
        | exact same_all hl hn hk2 hlt
     ·
      refine TL.pickF rfl rfl rfl rfl ?_
      refine TL.nil ?_
      refine TQ.then_n ?_
      refine TC.cond_f rfl ?_
      refine TC.skip ?_
      refine TQ.then_n ?_
      refine TC.seq ?_
      refine TC.seq ?_
      refine TC.region ?_
      refine TL.assign rfl rfl ?_
      refine TL.nil ?_
      refine TQ.then_n ?_
      refine TC.block ?_
      refine TC.loop (fun n env' own' H' => ∃ k : Nat, n = ks.length - k ∧ k ≤ ks.length ∧ ks.take k = ks'.take k ∧ env' = [(2, .pointer (some ⟨g2, 0, none⟩)), (3, .pointer (some ⟨g3, 0, none⟩)), (5, .int .i64 (k : Int))] ∧ own' = [(g3, .cells #[.string l', .slice B ks'.length c'] 27 (0, 0))] :: [(g2, .cells #[.string l, .slice A ks.length c] 27 (0, 0))] :: own ∧ Le H H') ks.length [(2, _), (3, _), (5, _)] ⟨rfl, rfl, rfl, trivial⟩ ⟨0, by omega, by omega, by simp, rfl, rfl, Le.refl _⟩ ?_
      rintro n _ _ H1 ⟨k, rfl, hk1, hk2, rfl, rfl, hle⟩
      have hle0 := hle
      have hL := Le.trans hL hle
      have hA := rd.mono hle hA
      have hB := rd.mono hle hB
      refine TC.seq ?_
      refine TC.seq ?_
      refine TC.region ?_
      refine TL.move rfl rfl ?_
      refine TL.fieldAddr rfl rfl ?_
      refine TL.load_own 1 0 rfl rfl rfl rfl rfl ?_
      refine TL.len_slice rfl rfl ?_
      refine TL.lssB rfl rfl rfl (fun hlt => ?_) (fun hlt => ?_)
      ·
       obtain ⟨x, hx⟩ : ∃ x, ks[k]? = some x := ⟨_, List.getElem?_eq_getElem (by omega)⟩
       obtain ⟨y, hy⟩ : ∃ y, ks'[k]? = some y := ⟨_, List.getElem?_eq_getElem (by omega)⟩
       obtain ⟨b1, o1, p0, p1, rfl, hp, hpr⟩ := trs_at hA hx
       obtain ⟨b2, o2, q0, q1, rfl, hq, hqr⟩ := trs_at hB hy
       refine TL.nil ?_
       refine TQ.then_n ?_
       refine TC.cond_t rfl ?_
       refine TC.skip ?_
       refine TQ.then_n ?_
       refine TC.seq ?_
       refine TC.block ?_
       refine TC.seq ?_
       refine TC.drawQV 10  [(2, _), (3, _), (5, _)] follows_mixed ⟨rfl, rfl, rfl, trivial⟩ ?_
       refine ChainV.q (some 28) [] (by
        intro H' X F hle
        intro hF
        refine TL.fieldAddr rfl rfl ?_
        refine TL.nil ?_
        exact TQ.one [] hF (Le.refl _) ⟨rfl, rfl⟩) ?_
       refine ChainV.q (some 29) [(0, 0)] (by
        intro H' X F hle
        have hL := Le.trans hL hle
        have hA := rd.mono hle hA
        have hB := rd.mono hle hB
        have hle0 := Le.trans hle0 hle
        have hp := hAt.mono hle hp
        have hpr := RdL.mono hle hpr
        have hq := hAt.mono hle hq
        have hqr := RdL.mono hle hqr
        intro hF
        refine TL.load_own 1 0 rfl rfl rfl rfl rfl ?_
        refine TL.nil ?_
        exact TQ.one [] hF (Le.refl _) ⟨rfl, rfl⟩) ?_
       refine ChainV.q (some 30) [] (by
        intro H' X F hle
        intro hF
        refine TL.move rfl rfl ?_
        refine TL.nil ?_
        exact TQ.one [] hF (Le.refl _) ⟨rfl, rfl⟩) ?_
       refine ChainV.q (some 31) [(1, 1), (2, 0)] (by
        intro H' X F hle
        intro hF
        refine TL.indexAddr (k) rfl rfl rfl (by omega) rfl ?_
        refine TL.nil ?_
        exact TQ.one [] hF (Le.refl _) ⟨rfl, rfl⟩) ?_
       refine ChainV.q (some 32) [(3, 0)] (by
        intro H' X F hle
        have hL := Le.trans hL hle
        have hA := rd.mono hle hA
        have hB := rd.mono hle hB
        have hle0 := Le.trans hle0 hle
        have hp := hAt.mono hle hp
        have hpr := RdL.mono hle hpr
        have hq := hAt.mono hle hq
        have hqr := RdL.mono hle hqr
        intro hF
        refine TL.load_immA rfl (hp) rfl rfl ?_
        refine TL.nil ?_
        exact TQ.one [] hF (Le.refl _) ⟨rfl, rfl⟩) ?_
       refine ChainV.q (some 33) [] (by
        intro H' X F hle
        intro hF
        refine TL.fieldAddr rfl rfl ?_
        refine TL.nil ?_
        exact TQ.one [] hF (Le.refl _) ⟨rfl, rfl⟩) ?_
       refine ChainV.q (some 34) [(5, 0)] (by
        intro H' X F hle
        have hL := Le.trans hL hle
        have hA := rd.mono hle hA
        have hB := rd.mono hle hB
        have hle0 := Le.trans hle0 hle
        have hp := hAt.mono hle hp
        have hpr := RdL.mono hle hpr
        have hq := hAt.mono hle hq
        have hqr := RdL.mono hle hqr
        intro hF
        refine TL.load_own 0 0 rfl rfl rfl rfl rfl ?_
        refine TL.nil ?_
        exact TQ.one [] hF (Le.refl _) ⟨rfl, rfl⟩) ?_
       refine ChainV.q (some 35) [] (by
        intro H' X F hle
        intro hF
        refine TL.move rfl rfl ?_
        refine TL.nil ?_
        exact TQ.one [] hF (Le.refl _) ⟨rfl, rfl⟩) ?_
       refine ChainV.q (some 36) [(6, 1), (7, 0)] (by
        intro H' X F hle
        intro hF
        refine TL.indexAddr (k) rfl rfl rfl (by omega) rfl ?_
        refine TL.nil ?_
        exact TQ.one [] hF (Le.refl _) ⟨rfl, rfl⟩) ?_
       refine ChainV.q (some 37) [(8, 0)] (by
        intro H' X F hle
        have hL := Le.trans hL hle
        have hA := rd.mono hle hA
        have hB := rd.mono hle hB
        have hle0 := Le.trans hle0 hle
        have hp := hAt.mono hle hp
        have hpr := RdL.mono hle hpr
        have hq := hAt.mono hle hq
        have hqr := RdL.mono hle hqr
        intro hF
        refine TL.load_immA rfl (hq) rfl rfl ?_
        refine TL.nil ?_
        exact TQ.one [] hF (Le.refl _) ⟨rfl, rfl⟩) ?_
       refine ⟨by kernel_rfl, .refl _, ?_⟩
       ·
        intro H1 hle
        have hL := Le.trans hL hle
        have hA := rd.mono hle hA
        have hB := rd.mono hle hB
        have hle0 := Le.trans hle0 hle
        have hp := hAt.mono hle hp
        have hpr := RdL.mono hle hpr
        have hq := hAt.mono hle hq
        have hqr := RdL.mono hle hqr
        refine TL.toOwn (own' := _ :: _ :: own) rfl ?_
        refine TL.wk (env' := [(2, _), (3, _), (5, _), (32, _), (37, _)]) ⟨rfl, rfl, rfl, rfl, rfl, trivial⟩ ?_
        refine TL.call (ih x y (Tr.size_kid (List.mem_of_getElem? hx) hk) hpr hqr) ⟨rfl, rfl, trivial⟩ rfl ?_
        rintro _ _ H2 ⟨rfl, rfl, hle2⟩
        have hL := Le.trans hL hle2
        have hA := rd.mono hle2 hA
        have hB := rd.mono hle2 hB
        have hle0 := Le.trans hle0 hle2
        have hp := hAt.mono hle2 hp
        have hpr := RdL.mono hle2 hpr
        have hq := hAt.mono hle2 hq
        have hqr := RdL.mono hle2 hqr
        refine TL.assign rfl rfl ?_
        refine TL.nil ?_
        refine TQ.then_n ?_
        refine TC.seq ?_
        refine TC.region ?_
        refine TL.move rfl rfl ?_
        refine TL.not rfl rfl ?_
        refine TL.nil ?_
        refine TQ.then_n ?_
        refine TC.cond rfl (fun hb => ?_) (fun hb => ?_)
        ·
         have hne : x.eqb y = false := by simpa using hb
         refine TC.seq ?_
         refine TC.region ?_
         refine TL.assign rfl rfl ?_
         refine TL.nil ?_
         refine TQ.then_n ?_
         refine TC.ret ?_
         refine TQ.in_r ?_
         refine TQ.then_r ?_
         refine TQ.then_r ?_
         refine TQ.in_r ?_
         refine TQ.then_r ?_
         refine TQ.ret1 2 rfl rfl ?_
         refine ⟨?_, rfl, hL⟩
         first
           | exact same_lab (by assumption)
           | exact same_len (by assumption)
           | exact same_kid hx hy hne
           | exact same_all hl hn hk2 hlt
        ·
         replace hb : x = y := (Tr.eqb_iff x y).1 (by simpa using hb)
         refine TC.skip ?_
         refine TQ.in_n ?_
         refine TQ.then_n ?_
         refine TC.region ?_
         refine TL.move rfl rfl ?_
         refine TL.add rfl rfl rfl ⟨by omega, by omega⟩ ?_
         refine TL.assign rfl rfl ?_
         refine TL.nil ?_
         refine TQ.next (ks.length - (k + 1)) [(2, _), (3, _), (5, _)] (by omega) ⟨rfl, rfl, rfl, trivial⟩ ⟨k + 1, rfl, by omega, ?_, by simp, rfl, hle0⟩
         rw [List.take_add_one, List.take_add_one, hx, hy, hk2, hb]
      ·
       refine TL.nil ?_
       refine TQ.then_n ?_
       refine TC.cond_f rfl ?_
       refine TC.exit ?_
       refine TQ.then_e ?_
       refine TQ.then_e ?_
       refine TQ.in_e ?_
       refine TQ.then_n ?_
       refine TC.seq ?_
       refine TC.region ?_
       refine TL.assign rfl rfl ?_
       refine TL.nil ?_
       refine TQ.then_n ?_
       refine TC.ret ?_
       refine TQ.ret1 2 rfl rfl ?_
       refine ⟨?_, rfl, hL⟩
       first
         | exact same_lab (by assumption)
         | exact same_len (by assumption)
         | exact same_kid hx hy hne
         | exact same_all hl hn hk2 hlt

end Go.Proofs.Ytapmmfabdmhdnaa.K
