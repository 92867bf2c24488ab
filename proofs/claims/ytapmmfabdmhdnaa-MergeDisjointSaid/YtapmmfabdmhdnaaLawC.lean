/-
  deep; the walk of MergeConflicts.
-/
import Derived.Test.YtapmmfabdmhdnaaLaw0
import Derived.Test.YtapmmfabdmhdnaaConf
set_option linter.unusedVariables false
set_option linter.unusedSimpArgs false
set_option maxHeartbeats 4000000
namespace Go.Proofs.Ytapmmfabdmhdnaa.K
open Go Go.RowKit Go.Proofs

theorem kints_len {H : Hp} {k : IntKind} {l : List Int} {v : Value} (h : rd H (.s 1 (kints k l)) v) : ∃ A c, v = .slice A l.length c ∧ l.length ≤ c ∧ c ≤ 9223372036854775807 := by
  obtain ⟨A, c, e, h1, h2⟩ := vals_len h
  rw [List.length_map] at e h1
  exact ⟨A, c, e, h1, h2⟩
theorem kints_at {H : Hp} {k : IntKind} {l : List Int} {A : Option Addr} {n c : Nat} (h : rd H (.s 1 (kints k l)) (.slice A n c)) {i : Nat} {x : Int} (hi : l[i]? = some x) : ∃ b o, A = some ⟨b, o, none⟩ ∧ cel H b (o + i * 1) = some (.int k x) :=
  vals_at h (by simp [hi])
theorem kints_cut {H : Hp} {k : IntKind} {xs : List Int} {A : Option Addr} {n c : Nat} (h : rd H (.s 1 (kints k xs)) (.slice A n c)) {l r : Nat} (hlr : l ≤ r) (hr : r ≤ n) :
    rd H (.s 1 (kints k ((xs.drop l).take (r - l)))) (.slice (if c = l then A else A.map (·.add (l * 1))) (r - l) (c - l)) := by
  have := h.cut hlr hr
  simp only [Nat.mul_one] at this ⊢
  simpa only [kints, List.map_drop, List.map_take] using this
abbrev BOk (l : List Int) : Prop := ∀ x ∈ l, InK .u8 x
theorem u8_in {x : Int} (h : InK .u8 x) : 0 ≤ x ∧ x ≤ 255 := by
  have e1 : IntKind.u8.min = 0 := by decide
  have e2 : IntKind.u8.max = 255 := by decide
  obtain ⟨h1, h2⟩ := h
  rw [e1] at h1; rw [e2] at h2
  exact ⟨h1, h2⟩
theorem law_deep {s : ByteArray} : ∀ {l : List Int}, BOk l → l.length ≤ 8 → ∀ {w0 : World} {H : Hp} {own : List Seg} {v : Value}, rd H (.s 1 (kints .u8 l)) v →
    Fn Try.prog 21 [v, .string s] w0 H own (fun r own' H' => ∃ c0 c1, r = .agg #[c0, c1] ∧ RdL H' (deepP s l).d [c0, c1] ∧ own' = own ∧ Le H H') := by
  intro l
  induction l with
  | nil =>
    intro hl hlen w0 H own v hA
    obtain ⟨A, c, rfl, hc1, hc2⟩ := kints_len hA
    refine Fn.enter Try.func21 rfl Try.ntmps21 rfl ?_
    have hL := Le.refl H
    refine TC.seq ?_
    refine TC.region ?_
    refine TL.new rfl ?_; intro g4
    refine TL.nil ?_
    refine TQ.then_n ?_
    refine TC.seq ?_
    refine TC.seq ?_
    refine TC.region ?_
    refine TL.move rfl rfl ?_
    refine TL.len_slice rfl rfl ?_
    refine TL.eqlB rfl rfl rfl (fun h0 => ?_) (fun h0 => ?_)
    ·
     refine TL.nil ?_
     refine TQ.then_n ?_
     refine TC.cond_t rfl ?_
     refine TC.seq ?_
     refine TC.region ?_
     refine TL.move rfl rfl ?_
     refine TL.call (law_leaf) ⟨rfl, trivial⟩ rfl ?_
     rintro _ own H2 ⟨rfl, rfl, hle2⟩
     have hL := Le.trans hL hle2
     have hA := rd.mono hle2 hA
     refine TL.storeA 0 0 (vs := [.string s, .slice none 0 0]) (c' := #[_, _]) (own' := [(_, .cells #[_, _] _ _)] :: _) rfl rfl rfl rfl rfl ⟨rfl, rfl, trivial⟩ (by simp) rfl rfl rfl ?_
     refine TL.nil ?_
     refine TQ.then_n ?_
     refine TC.ret ?_
     refine TQ.then_r ?_
     refine TQ.retC 0 0 1 [_, _] rfl rfl rfl rfl ⟨rfl, rfl, trivial⟩ rfl rfl ?_
     exact ⟨_, _, rfl, tr_mk (rd.nil _ _), rfl, hL⟩
    ·
     exact absurd rfl h0 -- dead
  | cons p r ih =>
    intro hl hlen w0 H own v hA
    obtain ⟨A, c, rfl, hc1, hc2⟩ := kints_len hA
    obtain ⟨b1, o1, rfl, hp⟩ := kints_at hA (i := 0) (x := p) rfl
    have hp8 := u8_in (hl p (by simp))
    have hr8 : BOk r := fun x hx => hl x (by simp [hx])
    have ht := kints_cut hA (l := 1) (r := (p :: r).length) (by simp) (Nat.le_refl _)
    rw [show ((p :: r).drop 1).take ((p :: r).length - 1) = r by simp] at ht
    have hm : p.tmod 3 = ((p % 3).toNat : Int) := by
      have h1 := Int.emod_nonneg p (b := 3) (by omega)
      rw [Int.tmod_eq_emod_of_nonneg hp8.1]; omega
    have hi3 : (p % 3).toNat < 3 := by
      have h2 := Int.emod_lt_of_pos p (b := 3) (by omega)
      omega
    simp only [List.length_cons] at hlen hc1 ht
    refine Fn.enter Try.func21 rfl Try.ntmps21 rfl ?_
    have hL := Le.refl H
    refine TC.seq ?_
    refine TC.region ?_
    refine TL.new rfl ?_; intro g4
    refine TL.nil ?_
    refine TQ.then_n ?_
    refine TC.seq ?_
    refine TC.seq ?_
    refine TC.region ?_
    refine TL.move rfl rfl ?_
    refine TL.len_slice rfl rfl ?_
    refine TL.eqlB rfl rfl rfl (fun h0 => ?_) (fun h0 => ?_)
    ·
     simp only [List.length_cons] at h0; omega -- dead
    ·
     refine TL.nil ?_
     refine TQ.then_n ?_
     refine TC.cond_f rfl ?_
     refine TC.skip ?_
     refine TQ.then_n ?_
     refine TC.seq ?_
     refine TC.region ?_
     refine TL.litF (r := [_, _, _]) [(0, [_]), (1, [_]), (2, [_])] ⟨rfl, ⟨_, rfl, rfl⟩, rfl, ⟨_, rfl, rfl⟩, rfl, ⟨_, rfl, rfl⟩, trivial⟩ rfl rfl rfl rfl ?_; intro g11
     refine TL.freeze (fun H1 hle hz_g11 => ?_)
     have hL := Le.trans hL hle
     have hA := rd.mono hle hA
     have hp := cel_le hle hp
     have ht := rd.mono hle ht
     refine TL.call (law_node0 (l := [⟨#[97]⟩, ⟨#[98]⟩, ⟨#[99]⟩]) (by decide) (strs_lit (l := [⟨#[97]⟩, ⟨#[98]⟩, ⟨#[99]⟩]) (by decide) hz_g11)) ⟨rfl, rfl, trivial⟩ rfl ?_
     rintro _ _ H3 ⟨vk, xs, seg, rfl, rfl, hrow, hxs, hle3⟩
     obtain ⟨hxl2, gr, cap, cur, rfl, rfl, hcap, hcapm, hsz, hcur⟩ := RowA.open (.inl hrow) (by decide)
     simp only [List.length_cons, List.length_nil, Nat.zero_add] at hcap hcur hxl2
     have hL := Le.trans hL hle3
     have hA := rd.mono hle3 hA
     have hp := cel_le hle3 hp
     have ht := rd.mono hle3 ht
     have hz_g11 := hz.mono hle3 hz_g11
     refine TL.new rfl ?_; intro g5
     refine TL.storeA 0 0 (c' := #[_, _]) (own' := [(_, .cells #[_, _] _ _)] :: _) rfl rfl rfl rfl rfl ⟨rfl, rfl, trivial⟩ (by simp) rfl rfl rfl ?_
     refine TL.nil ?_
     refine TQ.then_n ?_
     refine TC.seq ?_
     refine TC.drawQV 10  [(0, _), (1, _), (4, _), (5, _)] follows_mixed ⟨rfl, rfl, rfl, rfl, trivial⟩ ?_
     refine ChainV.q (some 13) [] (by
      intro H' X F hle
      have hL := Le.trans hL hle
      have hA := rd.mono hle hA
      have hp := cel_le hle hp
      have ht := rd.mono hle ht
      have hz_g11 := hz.mono hle hz_g11
      have hxs := RdL.mono hle hxs
      intro hF
      refine TL.fieldAddr rfl rfl ?_
      refine TL.nil ?_
      exact TQ.one [] hF (Le.refl _) ⟨rfl, rfl⟩) ?_
     refine ChainV.q (some 14) [(0, 0)] (by
      intro H' X F hle
      have hL := Le.trans hL hle
      have hA := rd.mono hle hA
      have hp := cel_le hle hp
      have ht := rd.mono hle ht
      have hz_g11 := hz.mono hle hz_g11
      have hxs := RdL.mono hle hxs
      intro hF
      refine TL.load_own 0 0 rfl rfl rfl rfl rfl ?_
      refine TL.nil ?_
      exact TQ.one [] hF (Le.refl _) ⟨rfl, rfl⟩) ?_
     refine ChainV.q (some 15) [] (by
      intro H' X F hle
      have hL := Le.trans hL hle
      have hA := rd.mono hle hA
      have hp := cel_le hle hp
      have ht := rd.mono hle ht
      have hz_g11 := hz.mono hle hz_g11
      have hxs := RdL.mono hle hxs
      intro hF
      refine TL.move rfl rfl ?_
      refine TL.nil ?_
      exact TQ.one [] hF (Le.refl _) ⟨rfl, rfl⟩) ?_
     refine ChainV.q (some 16) [(2, 0)] (by
      intro H' X F hle
      have hL := Le.trans hL hle
      have hA := rd.mono hle hA
      have hp := cel_le hle hp
      have ht := rd.mono hle ht
      have hz_g11 := hz.mono hle hz_g11
      have hxs := RdL.mono hle hxs
      intro hF
      refine TL.indexAddr (0) rfl rfl rfl (by simp) rfl ?_
      refine TL.nil ?_
      exact TQ.one [] hF (Le.refl _) ⟨rfl, rfl⟩) ?_
     refine ChainV.q (some 17) [(3, 0)] (by
      intro H' X F hle
      have hL := Le.trans hL hle
      have hA := rd.mono hle hA
      have hp := cel_le hle hp
      have ht := rd.mono hle ht
      have hz_g11 := hz.mono hle hz_g11
      have hxs := RdL.mono hle hxs
      intro hF
      refine TL.load_imm rfl (hp) rfl ?_
      refine TL.nil ?_
      exact TQ.one [] hF (Le.refl _) ⟨rfl, rfl⟩) ?_
     refine ChainV.q (some 18) [(4, 0)] (by
      intro H' X F hle
      have hL := Le.trans hL hle
      have hA := rd.mono hle hA
      have hp := cel_le hle hp
      have ht := rd.mono hle ht
      have hz_g11 := hz.mono hle hz_g11
      have hxs := RdL.mono hle hxs
      intro hF
      refine TL.rem rfl rfl rfl (by omega) ?_
      refine TL.nil ?_
      exact TQ.one [] hF (Le.refl _) ⟨rfl, rfl⟩) ?_
     refine ChainV.q (some 19) [] (by
      intro H' X F hle
      have hL := Le.trans hL hle
      have hA := rd.mono hle hA
      have hp := cel_le hle hp
      have ht := rd.mono hle ht
      have hz_g11 := hz.mono hle hz_g11
      have hxs := RdL.mono hle hxs
      intro hF
      refine TL.move rfl rfl ?_
      refine TL.nil ?_
      exact TQ.one [] hF (Le.refl _) ⟨rfl, rfl⟩) ?_
     refine ChainV.q (some 20) [(6, 0)] (by
      intro H' X F hle
      have hL := Le.trans hL hle
      have hA := rd.mono hle hA
      have hp := cel_le hle hp
      have ht := rd.mono hle ht
      have hz_g11 := hz.mono hle hz_g11
      have hxs := RdL.mono hle hxs
      intro hF
      refine TL.slice (1) ((p :: r).length) rfl ⟨_, _, rfl, rfl⟩ rfl rfl rfl (by simp) (by simp; omega) rfl ?_
      refine TL.nil ?_
      exact TQ.one [] hF (Le.refl _) ⟨rfl, rfl⟩) ?_
     refine ChainV.q (some 21) [] (by
      intro H' X F hle
      have hL := Le.trans hL hle
      have hA := rd.mono hle hA
      have hp := cel_le hle hp
      have ht := rd.mono hle ht
      have hz_g11 := hz.mono hle hz_g11
      have hxs := RdL.mono hle hxs
      intro hF
      refine TL.move rfl rfl ?_
      refine TL.nil ?_
      exact TQ.one [] hF (Le.refl _) ⟨rfl, rfl⟩) ?_
     refine ChainV.r (some 22) [(7, 1), (8, 0)] ([]) (fun _ => fun u s_ H => ∃ d0 d1, u = .agg #[d0, d1] ∧ RdL H (deepP s r).d [d0, d1] ∧ s_ = []) (by
      intro H' X F hle
      have hL := Le.trans hL hle
      have hA := rd.mono hle hA
      have hp := cel_le hle hp
      have ht := rd.mono hle ht
      have hz_g11 := hz.mono hle hz_g11
      have hxs := RdL.mono hle hxs
      intro hF
      refine TL.call (ih hr8 (by omega) ht) ⟨rfl, rfl, trivial⟩ rfl ?_
      rintro _ own H4 ⟨d0, d1, rfl, hd, rfl, hle4⟩
      refine TL.nil ?_
      exact TQ.one [] hF hle4 ⟨_, _, rfl, hd, rfl⟩) ?_
     refine ⟨by kernel_rfl, .refl _, ?_⟩
     ·
      intro H2 hle
      rintro _ _ H22 hle22 ⟨d0, d1, rfl, hd, rfl⟩
      replace hd := RdL.mono hle22 hd
      have hL := Le.trans hL hle
      have hA := rd.mono hle hA
      have hp := cel_le hle hp
      have ht := rd.mono hle ht
      have hz_g11 := hz.mono hle hz_g11
      have hxs := RdL.mono hle hxs
      refine TL.toOwn (own' := _ :: _ :: _ :: own) rfl ?_
      refine TL.wk (env' := [(0, _), (1, _), (4, _), (5, _), (14, _), (18, _), (22, _)]) ⟨rfl, rfl, rfl, rfl, rfl, rfl, rfl, trivial⟩ ?_
      refine TL.indexAddr ((p % 3).toNat) rfl rfl hm (by simpa using hi3) rfl ?_
      refine TL.storeA 1 0 (vs := [d0, d1]) (c' := _) (own' := _ :: _ :: _) rfl rfl rfl rfl rfl (tr_ones hd) (by simp; omega) rfl rfl rfl ?_
      refine TL.nil ?_
      refine TQ.then_n ?_
      refine TC.seq ?_
      refine TC.region ?_
      refine TL.load_ownA 0 0 [_, _] rfl rfl rfl ⟨rfl, rfl, trivial⟩ rfl rfl ?_
      refine TL.storeA 2 0 (c' := #[_, _]) (own' := _ :: _ :: [(_, .cells #[_, _] _ _)] :: _) rfl rfl rfl rfl rfl ⟨rfl, rfl, trivial⟩ (by simp) rfl rfl rfl ?_
      refine TL.nil ?_
      refine TQ.then_n ?_
      refine TC.ret ?_
      refine TQ.sel 3 [1, 0, 2] rfl (fun o ho => ?_)
      simp only [K.sel, List.map_cons, List.map_nil, List.getD_cons_zero, List.getD_cons_succ, List.drop_succ_cons, List.drop_zero, List.cons_append, List.nil_append, List.set_cons_zero, List.set_cons_succ] at ho; subst ho
      refine TQ.freeze (fun H3 hle hz_row => ?_)
      have hL := Le.trans hL hle
      have hA := rd.mono hle hA
      have hp := cel_le hle hp
      have ht := rd.mono hle ht
      have hz_g11 := hz.mono hle hz_g11
      have hxs := RdL.mono hle hxs
      have hd := RdL.mono hle hd
      refine TQ.retC 1 0 2 [_, _] rfl rfl rfl rfl ⟨rfl, rfl, trivial⟩ rfl rfl ?_
      refine ⟨_, _, rfl, ?_, rfl, hL⟩
      have hrow2 : Row 27 2 (.slice (some ⟨gr, 0, none⟩) 3 cap) 3 ((xs.set ((p % 3).toNat * 2) d0).set ((p % 3).toNat * 2 + 1) d1) [(gr, .cells (putC cur (0 + (p % 3).toNat * 2) [d0, d1]) 27 (0, 0))] :=
        ⟨by simpa using hxl2, .inr ⟨gr, cap, _, rfl, rfl, hcap, hcapm, by rw [putC_size]; exact hsz, row_put _ _ hcur (by omega)⟩⟩
      exact tr_mk (rd.ofRow hrow2 hz_row (trs_set hxs hd) (Le.refl _))
theorem law_conflicts {l : List Int} (hl : BOk l) {w0 : World} {H : Hp} {own : List Seg} {v : Value} (hA : rd H (.s 1 (kints .u8 l)) v) :
    Fn Try.prog 8 [v] w0 H own (fun r own' H' => r = .bool true ∧ own' = own ∧ Le H H') := by
  obtain ⟨A, c, rfl, hc1, hc2⟩ := kints_len hA
  obtain ⟨m, hm⟩ : ∃ m, m = min l.length 8 := ⟨_, rfl⟩
  have hT := kints_cut hA (l := 0) (r := m) (by omega) (by omega)
  rw [show (l.drop 0).take (m - 0) = l.take m by simp] at hT
  obtain ⟨k, hk⟩ : ∃ k, k = l.take m := ⟨_, rfl⟩
  rw [← hk] at hT
  have hkl : k.length = m := by rw [hk]; simp; omega
  have hk8 : BOk k := fun x hx => hl x (List.mem_of_mem_take (hk ▸ hx))
  have z1 := deep_size ⟨#[109]⟩ k
  have z2 := deep_size ⟨#[120]⟩ k
  have z3 := deep_size ⟨#[121]⟩ k
  refine Fn.enter Try.func8 rfl Try.ntmps8 rfl ?_
  have hL := Le.refl H
  refine TC.seq ?_
  refine TC.region ?_
  refine TL.assign rfl rfl ?_
  refine TL.nil ?_
  refine TQ.then_n ?_
  refine TC.seq ?_
  refine TC.region ?_
  refine TL.call (law_sanity) trivial rfl ?_
  rintro _ own Hsn ⟨rfl, rfl, hlesn⟩
  have hL := Le.trans hL hlesn
  have hA := rd.mono hlesn hA
  have hT := rd.mono hlesn hT
  refine TL.assign rfl rfl ?_
  refine TL.nil ?_
  refine TQ.then_n ?_
  refine TC.seq ?_
  refine TC.region ?_
  refine TL.move rfl rfl ?_
  refine TL.move rfl rfl ?_
  refine TL.len_slice rfl rfl ?_
  refine TL.min2 rfl rfl rfl ?_
  rw [show min ((l.length : Nat) : Int) 8 = (m : Int) by omega]
  refine TL.slice 0 m rfl rfl ⟨_, _, rfl, rfl⟩ rfl rfl (by omega) (by omega) rfl ?_
  obtain ⟨Ak, ck, hv, _⟩ := kints_len hT
  rw [hv] at hT ⊢
  rw [hkl] at hT ⊢
  refine TL.assign rfl rfl ?_
  refine TL.nil ?_
  refine TQ.then_n ?_
  refine TC.seq ?_
  refine TC.region ?_
  refine TL.move rfl rfl ?_
  refine TL.call (law_deep hk8 (by omega) hT) ⟨rfl, rfl, trivial⟩ rfl ?_
  rintro _ own Hd20 ⟨b0, b1, rfl, hb, rfl, hle20⟩
  have hL := Le.trans hL hle20
  have hA := rd.mono hle20 hA
  have hT := rd.mono hle20 hT
  refine TL.new rfl ?_; intro g4
  refine TL.storeA 0 0 (vs := [b0, b1]) (c' := #[_, _]) (own' := [(_, .cells #[_, _] _ _)] :: _) rfl rfl rfl rfl rfl (tr_ones hb) (by simp) rfl rfl rfl ?_
  refine TL.nil ?_
  refine TQ.then_n ?_
  refine TC.seq ?_
  refine TC.region ?_
  refine TL.move rfl rfl ?_
  refine TL.call (law_deep hk8 (by omega) hT) ⟨rfl, rfl, trivial⟩ rfl ?_
  rintro _ own Hd22 ⟨x0, x1, rfl, hx, rfl, hle22⟩
  have hL := Le.trans hL hle22
  have hA := rd.mono hle22 hA
  have hT := rd.mono hle22 hT
  have hb := RdL.mono hle22 hb
  refine TL.new rfl ?_; intro g5
  refine TL.storeA 0 0 (vs := [x0, x1]) (c' := #[_, _]) (own' := [(_, .cells #[_, _] _ _)] :: _) rfl rfl rfl rfl rfl (tr_ones hx) (by simp) rfl rfl rfl ?_
  refine TL.nil ?_
  refine TQ.then_n ?_
  refine TC.seq ?_
  refine TC.region ?_
  refine TL.move rfl rfl ?_
  refine TL.call (law_deep hk8 (by omega) hT) ⟨rfl, rfl, trivial⟩ rfl ?_
  rintro _ own Hd24 ⟨y0, y1, rfl, hy, rfl, hle24⟩
  have hL := Le.trans hL hle24
  have hA := rd.mono hle24 hA
  have hT := rd.mono hle24 hT
  have hb := RdL.mono hle24 hb
  have hx := RdL.mono hle24 hx
  refine TL.new rfl ?_; intro g6
  refine TL.storeA 0 0 (vs := [y0, y1]) (c' := #[_, _]) (own' := [(_, .cells #[_, _] _ _)] :: _) rfl rfl rfl rfl rfl (tr_ones hy) (by simp) rfl rfl rfl ?_
  refine TL.nil ?_
  refine TQ.then_n ?_
  refine TC.seq ?_
  refine TC.region ?_
  refine TL.assign rfl rfl ?_
  refine TL.nil ?_
  refine TQ.then_n ?_
  refine TC.seq ?_
  refine TC.seq ?_
  refine TC.nilseg ?_
  refine TC.region ?_
  refine TL.assign rfl rfl ?_
  refine TL.nil ?_
  refine TQ.then_n ?_
  refine TC.block ?_
  refine TC.loop (fun z env' own' H' => ∃ (i : Nat) (u : Value) (xs : List Value) (seg : Seg), z = m - i ∧ i ≤ m ∧ Row 3 1 u i xs seg ∧ xs = pV (pathP (k.take i)) ∧ env' = [(0, .slice Ak m ck), (3, .bool true), (4, .pointer (some ⟨g4, 0, none⟩)), (5, .pointer (some ⟨g5, 0, none⟩)), (6, .pointer (some ⟨g6, 0, none⟩)), (7, u), (8, .int .i64 (i : Int))] ∧ own' = seg :: [(g6, .cells #[y0, y1] 27 (0, 0))] :: [(g5, .cells #[x0, x1] 27 (0, 0))] :: [(g4, .cells #[b0, b1] 27 (0, 0))] :: own ∧ Le Hd24 H') m [(0, _), (3, _), (4, _), (5, _), (6, _), (7, _), (8, _)] ⟨rfl, rfl, rfl, rfl, rfl, rfl, rfl, trivial⟩ ⟨0, _, [], [], by omega, by omega, Row.nil 3 1, by simp [pathP, pV], rfl, rfl, Le.refl _⟩ ?_
  rintro z _ _ H8 ⟨i, u, xs, seg, rfl, hi1, hrow, hxs, rfl, rfl, hle8⟩
  have hL := Le.trans hL hle8
  have hA := rd.mono hle8 hA
  have hT := rd.mono hle8 hT
  have hb := RdL.mono hle8 hb
  have hx := RdL.mono hle8 hx
  have hy := RdL.mono hle8 hy
  refine TC.seq ?_
  refine TC.seq ?_
  refine TC.region ?_
  refine TL.move rfl rfl ?_
  refine TL.move rfl rfl ?_
  refine TL.len_slice rfl rfl ?_
  refine TL.lssB rfl rfl rfl (fun hlt => ?_) (fun hlt => ?_)
  ·
   obtain ⟨x, hx⟩ : ∃ x, k[i]? = some x := ⟨_, List.getElem?_eq_getElem (by omega)⟩
   obtain ⟨b9, o9, rfl, hp⟩ := kints_at hT hx
   have hx8 := u8_in (hk8 x (List.mem_of_getElem? hx))
   have hw : IntKind.i64.wrap (x.tmod 3) = x.tmod 3 := by
     have e2 := Int.emod_nonneg x (b := 3) (by omega)
     have e3 := Int.emod_lt_of_pos x (b := 3) (by omega)
     rw [Int.tmod_eq_emod_of_nonneg hx8.1]
     exact wrap_i64 ⟨by omega, by omega⟩
   refine TL.nil ?_
   refine TQ.then_n ?_
   refine TC.cond_t rfl ?_
   refine TC.skip ?_
   refine TQ.then_n ?_
   refine TC.seq ?_
   refine TC.block ?_
   refine TC.region ?_
   refine TL.move rfl rfl ?_
   refine TL.move rfl rfl ?_
   refine TL.move rfl rfl ?_
   refine TL.indexAddr (i) rfl rfl rfl (by omega) rfl ?_
   refine TL.load_imm rfl (hp) rfl ?_
   refine TL.rem rfl rfl rfl (by omega) ?_
   refine TL.convI rfl rfl ?_
   rw [hw]
   refine TL.litF (r := [_]) [(0, [_])] ⟨rfl, ⟨_, rfl, rfl⟩, trivial⟩ rfl rfl rfl rfl ?_; intro g38
   refine TL.append 1 rfl rfl rfl hrow (Src.ofOwn 0 0 rfl rfl rfl (Ones.all (show Ones [_] from ⟨by rfl, trivial⟩)) ⟨rfl, trivial⟩) (by omega) (by omega) rfl ?_
   intro v' seg' hrow'
   refine TL.assign rfl rfl ?_
   refine TL.nil ?_
   refine TQ.in_n ?_
   refine TQ.then_n ?_
   refine TC.region ?_
   refine TL.move rfl rfl ?_
   refine TL.add rfl rfl rfl ⟨by omega, by omega⟩ ?_
   refine TL.assign rfl rfl ?_
   refine TL.nil ?_
   refine TQ.sel 5 [1, 2, 3, 4] rfl (fun o ho => ?_)
   simp only [K.sel, List.map_cons, List.map_nil, List.getD_cons_zero, List.getD_cons_succ, List.drop_succ_cons, List.drop_zero, List.cons_append, List.nil_append, List.set_cons_zero, List.set_cons_succ] at ho; subst ho
   refine TQ.next (m - (i + 1)) [(0, _), (3, _), (4, _), (5, _), (6, _), (7, _), (8, _)] (by omega) ⟨rfl, rfl, rfl, rfl, rfl, rfl, rfl, trivial⟩ ⟨i + 1, v', _, seg', rfl, by omega, hrow', ?_, by simp, rfl, hle8⟩
   rw [List.take_add_one, hx]
   have e1 := u8_in (hk8 x (List.mem_of_getElem? hx))
   have e2 := Int.emod_nonneg x (b := 3) (by omega)
   simp only [pathP, pV, Option.toList_some, List.map_append, List.map_cons, List.map_nil] at hxs ⊢
   rw [hxs, Int.tmod_eq_emod_of_nonneg e1.1, Int.toNat_of_nonneg e2]
  ·
   refine TL.nil ?_
   refine TQ.then_n ?_
   refine TC.cond_f rfl ?_
   refine TC.exit ?_
   refine TQ.then_e ?_
   refine TQ.then_e ?_
   refine TQ.in_e ?_
   refine TQ.then_n ?_
   refine TC.seq ?_
   have him : i = m := by omega
   subst him
   rw [List.take_of_length_le (by omega)] at hxs
   refine TC.region ?_
   refine TL.load_ownA 3 0 [_, _] rfl rfl rfl ⟨rfl, rfl, trivial⟩ rfl rfl ?_
   refine TL.load_ownA 2 0 [_, _] rfl rfl rfl ⟨rfl, rfl, trivial⟩ rfl rfl ?_
   refine TL.load_ownA 1 0 [_, _] rfl rfl rfl ⟨rfl, rfl, trivial⟩ rfl rfl ?_
   refine TL.call (merge_top (by omega) (by omega) (by omega) hb hx hy) ⟨rfl, rfl, rfl, trivial⟩ rfl ?_
   rintro _ _ H11 ⟨t0, t1, pt, rfl, ht, hpt, rfl, hle11⟩
   rw [conf_R] at ht hpt
   have hL := Le.trans hL hle11
   have hA := rd.mono hle11 hA
   have hT := rd.mono hle11 hT
   have hb := RdL.mono hle11 hb
   have hx := RdL.mono hle11 hx
   have hy := RdL.mono hle11 hy
   have hle8 := Le.trans hle8 hle11
   refine TL.move rfl rfl ?_
   refine TL.extract rfl rfl rfl ?_
   refine TL.extract rfl rfl rfl ?_
   refine TL.new rfl ?_; intro g9
   refine TL.storeA 0 0 (vs := [t0, t1]) (c' := #[_, _]) (own' := [(_, .cells #[_, _] _ _)] :: _) rfl rfl rfl rfl rfl (tr_ones ht) (by simp) rfl rfl rfl ?_
   refine TL.assign rfl rfl ?_
   refine TL.nil ?_
   refine TQ.then_n ?_
   refine TC.seq ?_
   refine TC.region ?_
   refine TL.load_ownA 4 0 [_, _] rfl rfl rfl ⟨rfl, rfl, trivial⟩ rfl rfl ?_
   refine TL.load_ownA 3 0 [_, _] rfl rfl rfl ⟨rfl, rfl, trivial⟩ rfl rfl ?_
   refine TL.load_ownA 3 0 [_, _] rfl rfl rfl ⟨rfl, rfl, trivial⟩ rfl rfl ?_
   refine TL.call (merge_top (by omega) (by omega) (by omega) hb hx hx) ⟨rfl, rfl, rfl, trivial⟩ rfl ?_
   rintro _ _ H12 ⟨r0, r1, pr, rfl, hr, hpr, rfl, hle12⟩
   rw [mergeR_both] at hr hpr
   obtain ⟨Ar, cr, rfl⟩ := nil_paths hpr
   have hL := Le.trans hL hle12
   have hA := rd.mono hle12 hA
   have hT := rd.mono hle12 hT
   have hb := RdL.mono hle12 hb
   have hx := RdL.mono hle12 hx
   have hy := RdL.mono hle12 hy
   have hle8 := Le.trans hle8 hle12
   have ht := RdL.mono hle12 ht
   have hpt := rd.mono hle12 hpt
   refine TL.move rfl rfl ?_
   refine TL.extract rfl rfl rfl ?_
   refine TL.extract rfl rfl rfl ?_
   refine TL.new rfl ?_; intro g11
   refine TL.storeA 0 0 (vs := [r0, r1]) (c' := #[_, _]) (own' := [(_, .cells #[_, _] _ _)] :: _) rfl rfl rfl rfl rfl (tr_ones hr) (by simp) rfl rfl rfl ?_
   refine TL.assign rfl rfl ?_
   refine TL.nil ?_
   refine TQ.then_n ?_
   refine TC.seq ?_
   refine TC.region ?_
   refine TL.move rfl rfl ?_
   refine TL.move rfl rfl ?_
   refine TL.gyes rfl rfl rfl ?_
   refine TL.load_ownA 1 0 [_, _] rfl rfl rfl ⟨rfl, rfl, trivial⟩ rfl rfl ?_
   refine TL.gyes rfl rfl rfl ?_
   refine TL.struct [] trivial rfl rfl ?_
   refine TL.gyes rfl rfl rfl ?_
   refine TL.call (ref_same _ _ _ (Nat.le_refl _) ht (show RdL _ Tr.zero.d [.string ⟨#[]⟩, .slice none 0 0] from tr_mk (rd.nil _ _))) ⟨rfl, rfl, trivial⟩ rfl ?_
   rintro _ _ H13 ⟨rfl, rfl, hle13⟩
   rw [eqb_self]
   have hL := Le.trans hL hle13
   have hA := rd.mono hle13 hA
   have hT := rd.mono hle13 hT
   have hb := RdL.mono hle13 hb
   have hx := RdL.mono hle13 hx
   have hy := RdL.mono hle13 hy
   have hle8 := Le.trans hle8 hle13
   have ht := RdL.mono hle13 ht
   have hpt := rd.mono hle13 hpt
   have hr := RdL.mono hle13 hr
   refine TL.pickT rfl rfl rfl rfl ?_
   refine TL.move rfl rfl ?_
   refine TL.gyes rfl rfl rfl ?_
   refine TL.move rfl rfl ?_
   refine TL.gyes rfl rfl rfl ?_
   refine TL.move rfl rfl ?_
   refine TL.gyes rfl rfl rfl ?_
   refine TL.litF (r := [_]) [(0, [_])] ⟨rfl, ⟨_, rfl, one_cells hrow.one⟩, trivial⟩ rfl rfl rfl rfl ?_; intro g63
   refine TL.sel 7 [3, 0, 1, 2, 4, 5, 6] rfl (fun o ho => ?_)
   simp only [K.sel, List.map_cons, List.map_nil, List.getD_cons_zero, List.getD_cons_succ, List.drop_succ_cons, List.drop_zero, List.cons_append, List.nil_append, List.set_cons_zero, List.set_cons_succ] at ho; subst ho
   refine TL.freeze (fun H1 hle hz_row => ?_)
   have hL := Le.trans hL hle
   have hA := rd.mono hle hA
   have hT := rd.mono hle hT
   have hb := RdL.mono hle hb
   have hx := RdL.mono hle hx
   have hy := RdL.mono hle hy
   have hle8 := Le.trans hle8 hle
   have ht := RdL.mono hle ht
   have hpt := rd.mono hle hpt
   have hr := RdL.mono hle hr
   refine TL.freeze (fun H2 hle hz_g63 => ?_)
   have hL := Le.trans hL hle
   have hA := rd.mono hle hA
   have hT := rd.mono hle hT
   have hb := RdL.mono hle hb
   have hx := RdL.mono hle hx
   have hy := RdL.mono hle hy
   have hle8 := Le.trans hle8 hle
   have ht := RdL.mono hle ht
   have hpt := rd.mono hle hpt
   have hr := RdL.mono hle hr
   have hz_row := hz.mono hle hz_row
   refine TL.gyes rfl rfl rfl ?_
   refine TL.call (ref_Paths (ps := [pathP k]) (qs := [pathP k]) hpt (rd.ofRow (Row.lit _ 1 1 _ _ rfl (by omega)) hz_g63 (ds := [pD (pathP k)]) ⟨rd.ofRow hrow hz_row (by rw [hxs]; exact RdL.vals (pV (pathP k))) (Le.refl _), trivial⟩ (Le.refl _))) ⟨rfl, rfl, trivial⟩ rfl ?_
   rintro _ _ H14 ⟨rfl, rfl, hle14⟩
   rw [decide_eq_true rfl]
   have hL := Le.trans hL hle14
   have hA := rd.mono hle14 hA
   have hT := rd.mono hle14 hT
   have hb := RdL.mono hle14 hb
   have hx := RdL.mono hle14 hx
   have hy := RdL.mono hle14 hy
   have hle8 := Le.trans hle8 hle14
   have ht := RdL.mono hle14 ht
   have hpt := rd.mono hle14 hpt
   have hr := RdL.mono hle14 hr
   have hz_row := hz.mono hle14 hz_row
   have hz_g63 := hz.mono hle14 hz_g63
   refine TL.pickT rfl rfl rfl rfl ?_
   refine TL.move rfl rfl ?_
   refine TL.gyes rfl rfl rfl ?_
   refine TL.load_ownA 0 0 [_, _] rfl rfl rfl ⟨rfl, rfl, trivial⟩ rfl rfl ?_
   refine TL.gyes rfl rfl rfl ?_
   refine TL.load_ownA 3 0 [_, _] rfl rfl rfl ⟨rfl, rfl, trivial⟩ rfl rfl ?_
   refine TL.gyes rfl rfl rfl ?_
   refine TL.call (ref_same _ _ _ (Nat.le_refl _) hr hx) ⟨rfl, rfl, trivial⟩ rfl ?_
   rintro _ _ H15 ⟨rfl, rfl, hle15⟩
   rw [eqb_self]
   have hL := Le.trans hL hle15
   have hA := rd.mono hle15 hA
   have hT := rd.mono hle15 hT
   have hb := RdL.mono hle15 hb
   have hx := RdL.mono hle15 hx
   have hy := RdL.mono hle15 hy
   have hle8 := Le.trans hle8 hle15
   have ht := RdL.mono hle15 ht
   have hpt := rd.mono hle15 hpt
   have hr := RdL.mono hle15 hr
   have hz_row := hz.mono hle15 hz_row
   have hz_g63 := hz.mono hle15 hz_g63
   refine TL.pickT rfl rfl rfl rfl ?_
   refine TL.move rfl rfl ?_
   refine TL.gyes rfl rfl rfl ?_
   refine TL.move rfl rfl ?_
   refine TL.gyes rfl rfl rfl ?_
   refine TL.len_slice rfl rfl ?_
   refine TL.gyes rfl rfl rfl ?_
   refine TL.eqlB rfl rfl rfl (fun hz0 => ?_) (fun hz0 => ?_)
   ·
    refine TL.pickT rfl rfl rfl rfl ?_
    refine TL.assign rfl rfl ?_
    refine TL.nil ?_
    refine TQ.then_n ?_
    refine TC.ret ?_
    refine TQ.ret1 5 rfl rfl ?_
    exact ⟨rfl, rfl, hL⟩
   ·
    exact absurd rfl hz0 -- dead

end Go.Proofs.Ytapmmfabdmhdnaa.K
