/-
  turn.
-/
import Derived.Test.YtapmmfabdmhdnaaMade1
import Derived.Test.YtapmmfabdmhdnaaTurn
set_option linter.unusedVariables false
set_option linter.unusedSimpArgs false
set_option maxHeartbeats 4000000
namespace Go.Proofs.Ytapmmfabdmhdnaa.K
open Go Go.RowKit Go.Proofs

theorem set_same {α : Type} : ∀ {l : List α} {k : Nat} {t : α}, l[k]? = some t → l.set k t = l
  | [], _, _, h => by simp at h
  | a :: r, 0, t, h => by simp at h; subst h; rfl
  | a :: r, k + 1, t, h => by simp only [List.set_cons_succ]; rw [set_same (l := r) (by simpa using h)]
theorem turnTo_keep {f : Tr → Nat → Tr} {ks : List Tr} {n k : Nat} {t : Tr} (h : ks[k]? = some t) (hu : (turnL f ks n 1)[k]? = some t) : turnTo f ks n (k + 1) = turnTo f ks n k := by
  rw [turnTo_succ h hu, set_same (turnTo_get h)]
theorem lab112 {x : Int} (h0 : 0 ≤ x) (h1 : x < 6) : IntKind.u8.wrap (112 + x) = ((UInt8.ofNat (112 + x.toNat)).toNat : Int) := by
  have : (UInt8.ofNat (112 + x.toNat)).toNat = 112 + x.toNat := by simp; omega
  rw [this]
  have : IntKind.u8.wrap (112 + x) = 112 + x := by
    simp only [IntKind.wrap, IntKind.bits, IntKind.signed, Bool.false_and, Bool.false_eq_true, if_false]
    omega
  rw [this]; omega
theorem tdiv_in {q : Int} (h : I64 q) : I64 (q.tdiv 7) := by
  obtain ⟨h1, h2⟩ := h
  rcases Int.le_total 0 q with hq | hq
  · rw [Int.tdiv_eq_ediv_of_nonneg hq]; exact ⟨by omega, by omega⟩
  · obtain ⟨r, rfl⟩ : ∃ r, q = -r := ⟨-q, by omega⟩
    rw [Int.neg_tdiv, Int.tdiv_eq_ediv_of_nonneg (by omega)]; exact ⟨by omega, by omega⟩
/-- The first i kids taken from the back. -/
def revTo (ks : List Tr) (i : Nat) : List Tr := ks.reverse.take i ++ ks.drop i
theorem revTo_len (ks : List Tr) (i : Nat) (h : i ≤ ks.length) : (revTo ks i).length = ks.length := by simp [revTo]; omega
theorem revTo_succ {ks : List Tr} {i : Nat} {x : Tr} (h : i < ks.length) (hx : ks[ks.length - 1 - i]? = some x) : revTo ks (i + 1) = (revTo ks i).set i x := by
  have e : (ks.reverse.take i).length = i := by simp; omega
  have hr : ks.reverse[i]? = some x := by rw [List.getElem?_reverse h]; exact hx
  unfold revTo
  rw [List.set_append_right _ _ (by omega), e, Nat.sub_self, List.take_add_one, hr, List.drop_eq_getElem_cons h, List.set_cons_zero]
  simp only [Option.toList_some, List.append_assoc, List.cons_append, List.nil_append]
theorem revTo_all (ks : List Tr) (i : Nat) (h : ks.length ≤ i) : revTo ks i = ks.reverse := by
  unfold revTo
  rw [List.take_of_length_le (by simpa using h), List.drop_of_length_le h, List.append_nil]
theorem edit_0 {q1 q2 : Int} {l : ByteArray} {ks : List Tr} (h : q1 % 5 = 0) : editP q1 q2 l ks = .node (freshP q2).lab ks := by unfold editP; simp only [h, if_true]
theorem edit_1 {q1 q2 : Int} {l : ByteArray} {ks : List Tr} {k : Nat} (h : q1 % 5 = 1) (hk : q2 % ((ks.length : Int) + 1) = (k : Int)) : editP q1 q2 l ks = .node l (ks.take k ++ [freshP q2] ++ ks.drop k) := by
  unfold editP; simp only [h, hk, Int.toNat_natCast]; rfl
theorem edit_2 {q1 q2 : Int} {l : ByteArray} {ks : List Tr} {k : Nat} (h : q1 % 5 = 2) (hk : q2 % ((ks.length : Int) + 1) = (k : Int)) : editP q1 q2 l ks = .node l (if k < ks.length then ks.take k ++ ks.drop (k + 1) else ks) := by
  unfold editP; simp only [h, hk, Int.toNat_natCast]; rfl
theorem edit_3 {q1 q2 : Int} {l : ByteArray} {ks : List Tr} {k : Nat} (h : q1 % 5 = 3) (hk : q2 % ((ks.length : Int) + 1) = (k : Int)) : editP q1 q2 l ks = .node l (if k < ks.length then ks.set k (freshP q2) else ks) := by
  unfold editP; simp only [h, hk, Int.toNat_natCast]; rfl
theorem edit_4 {q1 q2 : Int} {l : ByteArray} {ks : List Tr} (h0 : q1 % 5 ≠ 0) (h1 : q1 % 5 ≠ 1) (h2 : q1 % 5 ≠ 2) (h3 : q1 % 5 ≠ 3) : editP q1 q2 l ks = .node l ks.reverse := by
  unfold editP; simp only [h0, h1, h2, h3, if_false]
theorem fresh_d (H : Hp) (q2 : Int) : RdL H (freshP q2).d [.string (freshP q2).lab, .slice none 0 0] := tr_mk (rd.nil _ _)

theorem ref_turn {q0 q1 q2 : Int} (i1 : I64 q1) (i2 : I64 q2) (k : Nat) : ∀ (t : Tr), t.size ≤ k → k ≤ 1000 → ∀ {n : Int} {m : Nat}, n = (m : Int) → m < t.size → ∀ {w0 : World} {H : Hp} {own : List Seg} {a0 a1 : Value}, RdL H t.d [a0, a1] →
    Fn Try.prog 50 [.agg #[a0, a1], .int .i64 n, .agg #[.int .i64 q0, .int .i64 q1, .int .i64 q2]] w0 H own (fun r own' H' => ∃ c0 c1, r = .agg #[c0, c1] ∧ RdL H' (turnP q1 q2 k t m).d [c0, c1] ∧ own' = own ∧ Le H H') := by
  induction k with
  | zero => intro t h; have := t.size_pos; omega
  | succ k ih =>
    rintro ⟨l, ks⟩ hk hlim n m rfl hm w0 H own a0 a1 ht
    obtain ⟨rfl, A, c, rfl, hc1, hc2, hA⟩ := tr_cells ht
    have hkl := Tr.len_le ks
    simp only [Tr.size] at hk hm
    have hks : ks.length ≤ 1000 := by omega
    obtain ⟨f, hf⟩ : ∃ f, f = turnP q1 q2 k := ⟨_, rfl⟩
    have hd7 := tdiv_in i2
    have hw7 := wrap_i64 hd7
    have e1 := Int.emod_nonneg (q2.tdiv 7) (b := 6) (by omega)
    have e2 := Int.emod_lt_of_pos (q2.tdiv 7) (b := 6) (by omega)
    have hlab := lab112 e1 e2
    have e3 := Int.emod_nonneg q2 (b := (ks.length : Int) + 1) (by omega)
    have e4 := Int.emod_lt_of_pos q2 (b := (ks.length : Int) + 1) (by omega)
    obtain ⟨kk, hkk⟩ : ∃ kk : Nat, q2 % ((ks.length : Int) + 1) = (kk : Int) := ⟨_, (Int.toNat_of_nonneg e3).symm⟩
    have hkk2 : kk ≤ ks.length := by omega
    have hq1a := Int.emod_nonneg q1 (b := 5) (by omega)
    have hq1b := Int.emod_lt_of_pos q1 (b := 5) (by omega)
    refine Fn.enter Try.func50 rfl Try.ntmps50 rfl ?_
    have hL := Le.refl H
    refine TC.seq ?_
    refine TC.region ?_
    refine TL.box (c := #[_, _]) rfl rfl rfl ?_; intro g3
    refine TL.box (c := #[_, _, _]) rfl rfl rfl ?_; intro g5
    refine TL.new rfl ?_; intro g6
    refine TL.nil ?_
    refine TQ.then_n ?_
    refine TC.seq ?_
    refine TC.drawQV 8  [(0, _), (1, _), (2, _), (3, _), (5, _), (6, _)] follows_mixed ⟨rfl, rfl, rfl, rfl, rfl, rfl, trivial⟩ ?_
    refine ChainV.q (some 14) [] (by
     intro H' X F hle
     have hL := Le.trans hL hle
     have hA := rd.mono hle hA
     intro hF
     refine TL.fieldAddr rfl rfl ?_
     refine TL.nil ?_
     exact TQ.one [] hF (Le.refl _) ⟨rfl, rfl⟩) ?_
    refine ChainV.q (some 15) [(0, 0)] (by
     intro H' X F hle
     have hL := Le.trans hL hle
     have hA := rd.mono hle hA
     intro hF
     refine TL.load_own 2 0 rfl rfl rfl rfl rfl ?_
     refine TL.nil ?_
     exact TQ.one [] hF (Le.refl _) ⟨rfl, rfl⟩) ?_
    refine ChainV.r (some 16) [] ([]) (fun _ => fun u s H => ∃ g, u = .slice (some ⟨g, 0, none⟩) 0 0 ∧ s = [[(g, .cells #[] 27 (0, 0))]]) (by
     intro H' X F hle
     have hL := Le.trans hL hle
     have hA := rd.mono hle hA
     intro hF
     refine TL.litF (r := []) [] trivial rfl rfl rfl rfl ?_; intro g16
     refine TL.nil ?_
     exact TQ.one [_] hF (Le.refl _) ⟨_, rfl, rfl⟩) ?_
    refine ChainV.q (some 17) [] (by
     intro H' X F hle
     have hL := Le.trans hL hle
     have hA := rd.mono hle hA
     intro hF
     refine TL.fieldAddr rfl rfl ?_
     refine TL.nil ?_
     exact TQ.one [] hF (Le.refl _) ⟨rfl, rfl⟩) ?_
    refine ChainV.q (some 18) [(3, 0)] (by
     intro H' X F hle
     have hL := Le.trans hL hle
     have hA := rd.mono hle hA
     intro hF
     refine TL.load_own 2 0 rfl rfl rfl rfl rfl ?_
     refine TL.nil ?_
     exact TQ.one [] hF (Le.refl _) ⟨rfl, rfl⟩) ?_
    refine ChainV.r (some 19) [(2, 2), (4, 0)] ([]) (fun _ => fun u s H => ∃ xs sg, s = [sg] ∧ RowA 27 2 u ks.length xs sg ∧ RdL H (Tr.ds ks) xs) (by
     intro H' X F hle
     have hL := Le.trans hL hle
     have hA := rd.mono hle hA
     intro _
     rintro _ _ Hgg16 hlegg16 ⟨g16, rfl, rfl⟩
     intro hF
     obtain ⟨news, hsrc, hn⟩ := hA.src (Tr.ds_one ks)
     refine TL.nilseg ?_
     refine TL.appendA 0 rfl rfl rfl (.inr ⟨_, rfl, rfl, rfl, rfl⟩) (hsrc _ _) (by omega) (by omega) rfl ?_
     intro u19 sg19 hrow19
     refine TL.nil ?_
     exact TQ.one [_] hF (Le.refl _) ⟨_, _, rfl, by simpa using hrow19, hn⟩) ?_
    refine ChainV.r (some 20) [(1, 4), (5, 0)] ([]) (fun vs u s H => u = .agg #[.string l, nthV vs 1] ∧ s = []) (by
     intro H' X F hle
     have hL := Le.trans hL hle
     have hA := rd.mono hle hA
     intro _
     rintro u19 _ Hr19 hler19 ⟨xs, sg19, rfl, hrow, hxs⟩
     replace hxs := RdL.mono hler19 hxs
     intro hF
     refine TL.struct [(0, [_]), (1, [_])] ⟨rfl, ⟨_, rfl, rfl⟩, rfl, ⟨_, rfl, one_cells hrow.one⟩, trivial⟩ rfl rfl ?_
     refine TL.nil ?_
     exact TQ.one [] hF (Le.refl _) ⟨rfl, rfl⟩) ?_
    refine ChainV.r (some 7) [] ([]) (fun _ => fun u s H => ∃ g, u = .pointer (some ⟨g, 0, none⟩) ∧ s = [[(g, .cells #[.string ⟨#[]⟩, .slice none 0 0] 27 (0, 0))]]) (by
     intro H' X F hle
     have hL := Le.trans hL hle
     have hA := rd.mono hle hA
     intro hF
     refine TL.new rfl ?_; intro g7
     refine TL.nil ?_
     exact TQ.one [_] hF (Le.refl _) ⟨_, rfl, rfl⟩) ?_
    refine ⟨by kernel_rfl, .refl _, ?_⟩
    ·
     intro H1 hle
     rintro _ _ Hgg16 hlegg16 ⟨g16, rfl, rfl⟩
     rintro u19 _ Hr19 hler19 ⟨xs, sg19, rfl, hrow, hxs⟩
     replace hxs := RdL.mono hler19 hxs
     rintro _ _ H20 hle20 ⟨rfl, rfl⟩
     rintro _ _ H7 hle7 ⟨g7, rfl, rfl⟩
     have hL := Le.trans hL hle
     have hA := rd.mono hle hA
     refine TL.toOwn (own' := _ :: _ :: _ :: _ :: _ :: _ :: own) rfl ?_
     refine TL.wk (env' := [(0, _), (1, _), (2, _), (3, _), (5, _), (6, _), (20, _), (7, _)]) ⟨rfl, rfl, rfl, rfl, rfl, rfl, rfl, rfl, trivial⟩ ?_
     refine TL.storeA 0 0 (vs := [.string l, u19]) (c' := #[_, _]) (own' := [(_, .cells #[_, _] _ _)] :: _) rfl rfl rfl rfl rfl ⟨rfl, hrow.one, trivial⟩ (by simp) rfl rfl rfl ?_
     refine TL.nil ?_
     refine TQ.then_n ?_
     refine TC.seq ?_
     refine TC.sel 6 [1, 0, 3, 4, 5] rfl (fun o ho => ?_)
     simp only [K.sel, List.map_cons, List.map_nil, List.getD_cons_zero, List.getD_cons_succ, List.drop_succ_cons, List.drop_zero, List.cons_append, List.nil_append, List.set_cons_zero, List.set_cons_succ] at ho; subst ho
     refine TC.region ?_
     refine TL.assign rfl rfl ?_
     refine TL.nil ?_
     refine TQ.then_n ?_
     refine TC.seq ?_
     refine TC.seq ?_
     refine TC.region ?_
     refine TL.assign rfl rfl ?_
     refine TL.nil ?_
     refine TQ.then_n ?_
     refine TC.block ?_
     have hrow0 := hrow
     refine TC.loop (fun z env' own' H' => ∃ (i : Nat) (u : Value) (xs : List Value) (seg : Seg), z = ks.length - i ∧ i ≤ ks.length ∧ RowA 27 2 u ks.length xs seg ∧ RdL H' (Tr.ds (turnTo f ks m i)) xs ∧ env' = [(1, .int .i64 (m : Int)), (3, .pointer (some ⟨g3, 0, none⟩)), (5, .pointer (some ⟨g5, 0, none⟩)), (6, .pointer (some ⟨g6, 0, none⟩)), (7, .pointer (some ⟨g7, 0, none⟩)), (8, .int .i64 ((1 + Tr.sizes (ks.take i) : Nat) : Int)), (9, .int .i64 (i : Int))] ∧ own' = seg :: [(g7, .cells #[.string l, u] 27 (0, 0))] :: [(g6, .cells #[.string ⟨#[]⟩, .slice none 0 0] 27 (0, 0))] :: [(g5, .cells #[.int .i64 q0, .int .i64 q1, .int .i64 q2] 76 (0, 0))] :: [(g3, .cells #[.string l, .slice A ks.length c] 27 (0, 0))] :: own ∧ Le H1 H') ks.length [(1, _), (3, _), (5, _), (6, _), (7, _), (8, _), (9, _)] ⟨rfl, rfl, rfl, rfl, rfl, rfl, rfl, trivial⟩ ⟨0, _, _, _, by omega, by omega, hrow, by rw [turnTo_zero]; exact hxs, rfl, rfl, Le.refl _⟩ ?_
     clear hrow0 hrow hxs
     rintro z _ _ H4 ⟨i, u, xs, seg, rfl, hi1, hrow, hxs, rfl, rfl, hle4⟩
     obtain ⟨⟨Au, cu, rfl, hcu1, hcu2⟩, hxl⟩ := hrow.len
     have hL := Le.trans hL hle4
     have hA := rd.mono hle4 hA
     refine TC.seq ?_
     refine TC.seq ?_
     refine TC.region ?_
     refine TL.move rfl rfl ?_
     refine TL.fieldAddr rfl rfl ?_
     refine TL.load_own 1 0 rfl rfl rfl rfl rfl ?_
     refine TL.len_slice rfl rfl ?_
     refine TL.lssB rfl rfl rfl (fun hlt => ?_) (fun hlt => ?_)
     ·
      obtain ⟨x, hx⟩ : ∃ x, ks[i]? = some x := ⟨_, List.getElem?_eq_getElem (by omega)⟩
      obtain ⟨c0, c1, hg0, hg1, hrt⟩ := trs_get hxs (turnTo_get hx)
      have hxz := Tr.size_mem (List.mem_of_getElem? hx)
      have hst := sizes_take_succ hx
      have hsl := sizes_take' ks (i + 1)
      obtain ⟨hxl2, gr, cap, cur, he, rfl, hcap, hcapm, hsz, hcur⟩ := hrow.open (by omega)
      injection he with hea heb hec
      subst hea; subst hec
      refine TL.nil ?_
      refine TQ.then_n ?_
      refine TC.cond_t rfl ?_
      refine TC.skip ?_
      refine TQ.then_n ?_
      refine TC.seq ?_
      refine TC.block ?_
      refine TC.seq ?_
      refine TC.region ?_
      refine TL.fieldAddr rfl rfl ?_
      refine TL.load_own 1 0 rfl rfl rfl rfl rfl ?_
      refine TL.move rfl rfl ?_
      refine TL.indexAddr (i) rfl rfl rfl (by omega) rfl ?_
      refine TL.load_ownA 0 0 [_, _] rfl rfl rfl (row_cells hcur hg0 hg1) rfl rfl ?_
      refine TL.call (ref_Size _ _ (Nat.le_refl _) (by omega) hrt) ⟨rfl, trivial⟩ rfl ?_
      rintro _ _ H5 ⟨rfl, rfl, hle5⟩
      have hL := Le.trans hL hle5
      have hA := rd.mono hle5 hA
      have hle4 := Le.trans hle4 hle5
      have hxs := RdL.mono hle5 hxs
      have hrt := RdL.mono hle5 hrt
      refine TL.assign rfl rfl ?_
      refine TL.nil ?_
      refine TQ.then_n ?_
      refine TC.seq ?_
      refine TC.seq ?_
      refine TC.region ?_
      refine TL.move rfl rfl ?_
      refine TL.move rfl rfl ?_
      refine TL.geqB rfl rfl rfl (fun ha => ?_) (fun ha => ?_)
      ·
       refine TL.move rfl rfl ?_
       refine TL.gyes rfl rfl rfl ?_
       refine TL.move rfl rfl ?_
       refine TL.gyes rfl rfl rfl ?_
       refine TL.move rfl rfl ?_
       refine TL.gyes rfl rfl rfl ?_
       refine TL.move rfl rfl ?_
       refine TL.gyes rfl rfl rfl ?_
       refine TL.add rfl rfl rfl ⟨by omega, by omega⟩ ?_
       refine TL.gyes rfl rfl rfl ?_
       refine TL.lssB rfl rfl rfl (fun hb => ?_) (fun hb => ?_)
       ·
        refine TL.pickT rfl rfl rfl rfl ?_
        refine TL.nil ?_
        refine TQ.then_n ?_
        refine TC.cond_t rfl ?_
        refine TC.drawQV 13  [(1, _), (3, _), (5, _), (6, _), (7, _), (8, _), (9, _), (10, _)] follows_mixed ⟨rfl, rfl, rfl, rfl, rfl, rfl, rfl, rfl, trivial⟩ ?_
        refine ChainV.q (some 44) [] (by
         intro H' X F hle
         have hL := Le.trans hL hle
         have hA := rd.mono hle hA
         have hle4 := Le.trans hle4 hle
         have hxs := RdL.mono hle hxs
         have hrt := RdL.mono hle hrt
         intro hF
         refine TL.fieldAddr rfl rfl ?_
         refine TL.nil ?_
         exact TQ.one [] hF (Le.refl _) ⟨rfl, rfl⟩) ?_
        refine ChainV.q (some 45) [(0, 0)] (by
         intro H' X F hle
         have hL := Le.trans hL hle
         have hA := rd.mono hle hA
         have hle4 := Le.trans hle4 hle
         have hxs := RdL.mono hle hxs
         have hrt := RdL.mono hle hrt
         intro hF
         refine TL.load_own 1 0 rfl rfl rfl rfl rfl ?_
         refine TL.nil ?_
         exact TQ.one [] hF (Le.refl _) ⟨rfl, rfl⟩) ?_
        refine ChainV.q (some 46) [] (by
         intro H' X F hle
         have hL := Le.trans hL hle
         have hA := rd.mono hle hA
         have hle4 := Le.trans hle4 hle
         have hxs := RdL.mono hle hxs
         have hrt := RdL.mono hle hrt
         intro hF
         refine TL.move rfl rfl ?_
         refine TL.nil ?_
         exact TQ.one [] hF (Le.refl _) ⟨rfl, rfl⟩) ?_
        refine ChainV.q (some 47) [] (by
         intro H' X F hle
         have hL := Le.trans hL hle
         have hA := rd.mono hle hA
         have hle4 := Le.trans hle4 hle
         have hxs := RdL.mono hle hxs
         have hrt := RdL.mono hle hrt
         intro hF
         refine TL.fieldAddr rfl rfl ?_
         refine TL.nil ?_
         exact TQ.one [] hF (Le.refl _) ⟨rfl, rfl⟩) ?_
        refine ChainV.q (some 48) [(3, 0)] (by
         intro H' X F hle
         have hL := Le.trans hL hle
         have hA := rd.mono hle hA
         have hle4 := Le.trans hle4 hle
         have hxs := RdL.mono hle hxs
         have hrt := RdL.mono hle hrt
         intro hF
         refine TL.load_own 1 0 rfl rfl rfl rfl rfl ?_
         refine TL.nil ?_
         exact TQ.one [] hF (Le.refl _) ⟨rfl, rfl⟩) ?_
        refine ChainV.q (some 49) [] (by
         intro H' X F hle
         have hL := Le.trans hL hle
         have hA := rd.mono hle hA
         have hle4 := Le.trans hle4 hle
         have hxs := RdL.mono hle hxs
         have hrt := RdL.mono hle hrt
         intro hF
         refine TL.move rfl rfl ?_
         refine TL.nil ?_
         exact TQ.one [] hF (Le.refl _) ⟨rfl, rfl⟩) ?_
        refine ChainV.q (some 50) [(4, 1), (5, 0)] (by
         intro H' X F hle
         have hL := Le.trans hL hle
         have hA := rd.mono hle hA
         have hle4 := Le.trans hle4 hle
         have hxs := RdL.mono hle hxs
         have hrt := RdL.mono hle hrt
         intro hF
         refine TL.indexAddr (i) rfl rfl rfl (by omega) rfl ?_
         refine TL.nil ?_
         exact TQ.one [] hF (Le.refl _) ⟨rfl, rfl⟩) ?_
        refine ChainV.q (some 51) [(6, 0)] (by
         intro H' X F hle
         have hL := Le.trans hL hle
         have hA := rd.mono hle hA
         have hle4 := Le.trans hle4 hle
         have hxs := RdL.mono hle hxs
         have hrt := RdL.mono hle hrt
         intro hF
         refine TL.load_ownA 0 0 [_, _] rfl rfl rfl (row_cells hcur hg0 hg1) rfl rfl ?_
         refine TL.nil ?_
         exact TQ.one [] hF (Le.refl _) ⟨rfl, rfl⟩) ?_
        refine ChainV.q (some 52) [] (by
         intro H' X F hle
         have hL := Le.trans hL hle
         have hA := rd.mono hle hA
         have hle4 := Le.trans hle4 hle
         have hxs := RdL.mono hle hxs
         have hrt := RdL.mono hle hrt
         intro hF
         refine TL.move rfl rfl ?_
         refine TL.nil ?_
         exact TQ.one [] hF (Le.refl _) ⟨rfl, rfl⟩) ?_
        refine ChainV.q (some 53) [] (by
         intro H' X F hle
         have hL := Le.trans hL hle
         have hA := rd.mono hle hA
         have hle4 := Le.trans hle4 hle
         have hxs := RdL.mono hle hxs
         have hrt := RdL.mono hle hrt
         intro hF
         refine TL.move rfl rfl ?_
         refine TL.nil ?_
         exact TQ.one [] hF (Le.refl _) ⟨rfl, rfl⟩) ?_
        refine ChainV.q (some 54) [(8, 1), (9, 0)] (by
         intro H' X F hle
         have hL := Le.trans hL hle
         have hA := rd.mono hle hA
         have hle4 := Le.trans hle4 hle
         have hxs := RdL.mono hle hxs
         have hrt := RdL.mono hle hrt
         intro hF
         refine TL.sub rfl rfl rfl ⟨by omega, by omega⟩ ?_
         refine TL.nil ?_
         exact TQ.one [] hF (Le.refl _) ⟨rfl, rfl⟩) ?_
        refine ChainV.q (some 55) [] (by
         intro H' X F hle
         have hL := Le.trans hL hle
         have hA := rd.mono hle hA
         have hle4 := Le.trans hle4 hle
         have hxs := RdL.mono hle hxs
         have hrt := RdL.mono hle hrt
         intro hF
         refine TL.load_ownA 3 0 [_, _, _] rfl rfl rfl ⟨rfl, rfl, rfl, trivial⟩ rfl rfl ?_
         refine TL.nil ?_
         exact TQ.one [] hF (Le.refl _) ⟨rfl, rfl⟩) ?_
        refine ChainV.r (some 56) [(7, 4), (10, 1), (11, 0)] ([]) (fun _ => fun u s H => ∃ d0 d1, u = .agg #[d0, d1] ∧ RdL H (f x (m - (1 + Tr.sizes (ks.take i)))).d [d0, d1] ∧ s = []) (by
         intro H' X F hle
         have hL := Le.trans hL hle
         have hA := rd.mono hle hA
         have hle4 := Le.trans hle4 hle
         have hxs := RdL.mono hle hxs
         have hrt := RdL.mono hle hrt
         intro hF
         refine TL.call (ih x (by omega) (by omega) (n := (m : Int) - ((1 + Tr.sizes (ks.take i) : Nat) : Int)) (m := m - (1 + Tr.sizes (ks.take i))) (by omega) (by omega) hrt) ⟨rfl, rfl, rfl, trivial⟩ rfl ?_
         rintro _ _ H6 ⟨d0, d1, rfl, hr, rfl, hle6⟩
         rw [← hf] at hr
         refine TL.nil ?_
         exact TQ.one [] hF hle6 ⟨_, _, rfl, hr, rfl⟩) ?_
        refine ⟨by kernel_rfl, .refl _, ?_⟩
        ·
         intro H2 hle
         rintro _ _ H56 hle56 ⟨d0, d1, rfl, hr, rfl⟩
         replace hr := RdL.mono hle56 hr
         have hL := Le.trans hL hle
         have hA := rd.mono hle hA
         have hle4 := Le.trans hle4 hle
         have hxs := RdL.mono hle hxs
         have hrt := RdL.mono hle hrt
         refine TL.toOwn (own' := _ :: _ :: _ :: _ :: _ :: own) rfl ?_
         refine TL.wk (env' := [(1, _), (3, _), (5, _), (6, _), (7, _), (8, _), (9, _), (10, _), (45, _), (46, _), (56, _)]) ⟨rfl, rfl, rfl, rfl, rfl, rfl, rfl, rfl, rfl, rfl, rfl, trivial⟩ ?_
         refine TL.indexAddr (i) rfl rfl rfl (by omega) rfl ?_
         refine TL.storeA 0 0 (vs := [d0, d1]) (c' := _) (own' := _ :: _) rfl rfl rfl rfl rfl (tr_ones hr) (by simp; omega) rfl rfl rfl ?_
         refine TL.nil ?_
         refine TQ.then_n ?_
         refine TC.region ?_
         refine TL.move rfl rfl ?_
         refine TL.move rfl rfl ?_
         refine TL.add rfl rfl rfl ⟨by omega, by omega⟩ ?_
         refine TL.assign rfl rfl ?_
         refine TL.nil ?_
         refine TQ.in_n ?_
         refine TQ.then_n ?_
         refine TC.region ?_
         refine TL.move rfl rfl ?_
         refine TL.add rfl rfl rfl ⟨by omega, by omega⟩ ?_
         refine TL.assign rfl rfl ?_
         refine TL.nil ?_
         refine TQ.toOwn (own' := _ :: _ :: _ :: _ :: _ :: own) rfl ?_
         refine TQ.next (ks.length - (i + 1)) [(1, _), (3, _), (5, _), (6, _), (7, _), (8, _), (9, _)] (by omega) ⟨rfl, rfl, rfl, rfl, rfl, rfl, rfl, trivial⟩ ⟨i + 1, _, (xs.set (i * 2) d0).set (i * 2 + 1) d1, [(gr, .cells (putC cur (0 + i * 2) [d0, d1]) 27 (0, 0))], rfl, by omega, .inl ⟨?_, .inr ⟨gr, _, _, rfl, rfl, hcap, hcapm, by rw [putC_size]; exact hsz, row_put _ _ hcur (by omega)⟩⟩, ?_, ?_, rfl, hle4⟩
         · simpa using hxl2
         · rw [turnTo_succ hx (by rw [turnL_get hx, if_pos ⟨by omega, by omega⟩])]
           exact trs_set hxs hr
         · have e := sizes_take_succ hx
           rw [show ((1 + Tr.sizes (ks.take (i + 1)) : Nat) : Int) = ((1 + Tr.sizes (ks.take i) : Nat) : Int) + (x.size : Int) by omega]
           simp
       ·
        refine TL.pickT rfl rfl rfl rfl ?_
        refine TL.nil ?_
        refine TQ.then_n ?_
        refine TC.cond_f rfl ?_
        refine TC.skip ?_
        refine TQ.then_n ?_
        refine TC.region ?_
        refine TL.move rfl rfl ?_
        refine TL.move rfl rfl ?_
        refine TL.add rfl rfl rfl ⟨by omega, by omega⟩ ?_
        refine TL.assign rfl rfl ?_
        refine TL.nil ?_
        refine TQ.in_n ?_
        refine TQ.then_n ?_
        refine TC.region ?_
        refine TL.move rfl rfl ?_
        refine TL.add rfl rfl rfl ⟨by omega, by omega⟩ ?_
        refine TL.assign rfl rfl ?_
        refine TL.nil ?_
        refine TQ.toOwn (own' := _ :: _ :: _ :: _ :: _ :: own) rfl ?_
        refine TQ.next (ks.length - (i + 1)) [(1, _), (3, _), (5, _), (6, _), (7, _), (8, _), (9, _)] (by omega) ⟨rfl, rfl, rfl, rfl, rfl, rfl, rfl, trivial⟩ ⟨i + 1, _, xs, _, rfl, by omega, hrow, ?_, ?_, rfl, hle4⟩
        · rw [turnTo_keep hx (by rw [turnL_get hx, if_neg (by omega)])]
          exact hxs
        · have e := sizes_take_succ hx
          rw [show ((1 + Tr.sizes (ks.take (i + 1)) : Nat) : Int) = ((1 + Tr.sizes (ks.take i) : Nat) : Int) + (x.size : Int) by omega]
          simp
      ·
       refine TL.move rfl rfl ?_
       refine TL.gno rfl rfl rfl rfl ?_
       refine TL.gno rfl rfl rfl rfl ?_
       refine TL.gno rfl rfl rfl rfl ?_
       refine TL.gno rfl rfl rfl rfl ?_
       refine TL.gno rfl rfl rfl rfl ?_
       refine TL.pickF rfl rfl rfl rfl ?_
       refine TL.nil ?_
       refine TQ.then_n ?_
       refine TC.cond_f rfl ?_
       refine TC.skip ?_
       refine TQ.then_n ?_
       refine TC.region ?_
       refine TL.move rfl rfl ?_
       refine TL.move rfl rfl ?_
       refine TL.add rfl rfl rfl ⟨by omega, by omega⟩ ?_
       refine TL.assign rfl rfl ?_
       refine TL.nil ?_
       refine TQ.in_n ?_
       refine TQ.then_n ?_
       refine TC.region ?_
       refine TL.move rfl rfl ?_
       refine TL.add rfl rfl rfl ⟨by omega, by omega⟩ ?_
       refine TL.assign rfl rfl ?_
       refine TL.nil ?_
       refine TQ.toOwn (own' := _ :: _ :: _ :: _ :: _ :: own) rfl ?_
       refine TQ.next (ks.length - (i + 1)) [(1, _), (3, _), (5, _), (6, _), (7, _), (8, _), (9, _)] (by omega) ⟨rfl, rfl, rfl, rfl, rfl, rfl, rfl, trivial⟩ ⟨i + 1, _, xs, _, rfl, by omega, hrow, ?_, ?_, rfl, hle4⟩
       · rw [turnTo_keep hx (by rw [turnL_get hx, if_neg (by omega)])]
         exact hxs
       · have e := sizes_take_succ hx
         rw [show ((1 + Tr.sizes (ks.take (i + 1)) : Nat) : Int) = ((1 + Tr.sizes (ks.take i) : Nat) : Int) + (x.size : Int) by omega]
         simp
     ·
      refine TL.nil ?_
      refine TQ.then_n ?_
      refine TC.cond_f rfl ?_
      refine TC.exit ?_
      refine TQ.then_e ?_
      refine TQ.then_e ?_
      refine TQ.in_e ?_
      refine TQ.then_n ?_
      refine TC.seq ?_
      refine TC.seq ?_
      have hik : i = ks.length := by omega
      rw [turnTo_all _ _ _ _ (by omega)] at hxs
      refine TC.region ?_
      refine TL.move rfl rfl ?_
      refine TL.neqB rfl rfl rfl (fun hn0 => ?_) (fun hn0 => ?_)
      ·
       refine TL.nil ?_
       refine TQ.then_n ?_
       refine TC.cond_t rfl ?_
       refine TC.seq ?_
       refine TC.region ?_
       refine TL.load_ownA 1 0 [_, _] rfl rfl rfl ⟨rfl, rfl, trivial⟩ rfl rfl ?_
       refine TL.storeA 2 0 (c' := #[_, _]) (own' := _ :: _ :: [(_, .cells #[_, _] _ _)] :: _) rfl rfl rfl rfl rfl ⟨rfl, hrow.one, trivial⟩ (by simp) rfl rfl rfl ?_
       refine TL.nil ?_
       refine TQ.then_n ?_
       refine TC.ret ?_
       refine TQ.then_r ?_
       refine TQ.freeze (fun H3 hle hz_row => ?_)
       have hL := Le.trans hL hle
       have hA := rd.mono hle hA
       have hle4 := Le.trans hle4 hle
       have hxs := RdL.mono hle hxs
       refine TQ.retC 1 0 4 [_, _] rfl rfl rfl rfl ⟨rfl, rfl, trivial⟩ rfl rfl ?_
       exact ⟨_, _, rfl, by rw [turnP, if_neg (show ¬ m = 0 by omega), ← hf]; exact tr_mk (rd.ofRowA hrow hz_row hxs (Le.refl _)), rfl, hL⟩
      ·
       have hm0 : m = 0 := by omega
       subst hm0
       rw [turnL_zero _ _ _ (by omega)] at hxs
       refine TL.nil ?_
       refine TQ.then_n ?_
       refine TC.cond_f rfl ?_
       refine TC.skip ?_
       refine TQ.then_n ?_
       refine TC.seq ?_
       refine TC.region ?_
       refine TL.indexArr (2) rfl rfl rfl (by omega) rfl ?_
       refine TL.load_own 3 0 rfl rfl rfl rfl rfl ?_
       refine TL.fieldAddr rfl rfl ?_
       refine TL.load_own 1 0 rfl rfl rfl rfl rfl ?_
       refine TL.len_slice rfl rfl ?_
       refine TL.add rfl rfl rfl ⟨by omega, by omega⟩ ?_
       refine TL.call (ref_Mod i2 (by omega) (by omega)) ⟨rfl, rfl, trivial⟩ rfl ?_
       rintro _ _ H8 ⟨rfl, rfl, hle8⟩
       have hL := Le.trans hL hle8
       have hA := rd.mono hle8 hA
       have hle4 := Le.trans hle4 hle8
       have hxs := RdL.mono hle8 hxs
       refine TL.assign rfl rfl ?_
       refine TL.nil ?_
       refine TQ.then_n ?_
       refine TC.seq ?_
       refine TC.region ?_
       refine TL.indexArr (2) rfl rfl rfl (by omega) rfl ?_
       refine TL.load_own 3 0 rfl rfl rfl rfl rfl ?_
       refine TL.quo rfl rfl rfl (by omega) ?_
       rw [hw7]
       refine TL.call (ref_Mod hd7 (m := 6) (by omega) (by omega)) ⟨rfl, rfl, trivial⟩ rfl ?_
       rintro _ _ H9 ⟨rfl, rfl, hle9⟩
       have hL := Le.trans hL hle9
       have hA := rd.mono hle9 hA
       have hle4 := Le.trans hle4 hle9
       have hxs := RdL.mono hle9 hxs
       refine TL.add rfl rfl rfl ⟨by omega, by omega⟩ ?_
       refine TL.convI rfl rfl ?_
       refine TL.litF (r := [_]) [(0, [_])] ⟨rfl, ⟨_, rfl, rfl⟩, trivial⟩ rfl rfl rfl rfl ?_; intro g77
       refine TL.convBS 0 0 [UInt8.ofNat (112 + (q2.tdiv 7 % 6).toNat)] rfl rfl rfl rfl ⟨congrArg (fun z => some (Value.int .u8 z)) hlab, trivial⟩ rfl ?_
       refine TL.struct [(0, [_])] ⟨rfl, ⟨_, rfl, rfl⟩, trivial⟩ rfl rfl ?_
       refine TL.new rfl ?_; intro g12
       refine TL.storeA 0 0 (vs := [.string (freshP q2).lab, .slice none 0 0]) (c' := #[_, _]) (own' := [(_, .cells #[_, _] _ _)] :: _) rfl rfl rfl rfl rfl ⟨rfl, rfl, trivial⟩ (by simp) rfl rfl rfl ?_
       refine TL.nil ?_
       refine TQ.then_n ?_
       refine TC.cut (fun env' own' H' => ∃ (lb : ByteArray) (ks' : List Tr) (u : Value) (xs : List Value) (seg : Seg), env' = [(6, .pointer (some ⟨g6, 0, none⟩)), (7, .pointer (some ⟨g7, 0, none⟩))] ∧ own' = seg :: [(g7, .cells #[.string lb, u] 27 (0, 0))] :: [(g6, .cells #[.string ⟨#[]⟩, .slice none 0 0] 27 (0, 0))] :: own ∧ RowA 27 2 u ks'.length xs seg ∧ RdL H' (Tr.ds ks') xs ∧ editP q1 q2 l ks = .node lb ks' ∧ Le H9 H') ?_ ?_
       ·
        have hcut := Le.refl H9
        refine TC.seq ?_
        refine TC.region ?_
        refine TL.indexArr (1) rfl rfl rfl (by omega) rfl ?_
        refine TL.load_own 5 0 rfl rfl rfl rfl rfl ?_
        refine TL.call (ref_Mod i1 (m := 5) (by omega) (by omega)) ⟨rfl, rfl, trivial⟩ rfl ?_
        rintro _ _ H10 ⟨rfl, rfl, hle10⟩
        have hL := Le.trans hL hle10
        have hA := rd.mono hle10 hA
        have hle4 := Le.trans hle4 hle10
        have hxs := RdL.mono hle10 hxs
        have hcut := Le.trans hcut hle10
        refine TL.nil ?_
        refine TQ.then_n ?_
        refine TC.block ?_
        refine TC.seq ?_
        refine TC.region ?_
        refine TL.eqlB rfl rfl rfl (fun h50 => ?_) (fun h50 => ?_)
        ·
         refine TL.assign rfl rfl ?_
         refine TL.nil ?_
         refine TQ.then_n ?_
         refine TC.cond_t rfl ?_
         refine TC.region ?_
         refine TL.fieldAddr rfl rfl ?_
         refine TL.load_own 0 0 rfl rfl rfl rfl rfl ?_
         refine TL.fieldAddr rfl rfl ?_
         refine TL.store1 3 0 (c' := #[_, _]) (own' := _ :: _ :: _ :: [(_, .cells #[_, _] _ _)] :: _) rfl rfl rfl rfl rfl (by simp) rfl rfl rfl ?_
         refine TL.nil ?_
         refine TQ.in_n ?_
         refine TQ.sel 7 [2, 3, 4] rfl (fun o ho => ?_)
         simp only [K.sel, List.map_cons, List.map_nil, List.getD_cons_zero, List.getD_cons_succ, List.drop_succ_cons, List.drop_zero, List.cons_append, List.nil_append, List.set_cons_zero, List.set_cons_succ] at ho; subst ho
         first
           | exact TQ.mid [(6, _), (7, _)] ⟨rfl, rfl, trivial⟩ ⟨_, ks, _, _, _, rfl, rfl, hrow, hxs, edit_0 h50, hcut⟩
           | exact TQ.mid [(6, _), (7, _)] ⟨rfl, rfl, trivial⟩ ⟨l, ks.take kk ++ [freshP q2] ++ ks.drop kk, _, _, _, rfl, rfl, by rw [show (ks.take kk ++ [freshP q2] ++ ks.drop kk).length = kk + 1 + (ks.length - kk) by simp; omega]; exact hrow2, hxs2, edit_1 h51 hkk, hcut⟩
           | exact TQ.mid [(6, _), (7, _)] ⟨rfl, rfl, trivial⟩ ⟨l, ks.take kk ++ ks.drop (kk + 1), _, _, _, rfl, rfl, by rw [show (ks.take kk ++ ks.drop (kk + 1)).length = kk + (ks.length - (kk + 1)) by simp; omega]; exact hrow2, hxs2, by rw [edit_2 h52 hkk, if_pos (by omega)], hcut⟩
           | exact TQ.mid [(6, _), (7, _)] ⟨rfl, rfl, trivial⟩ ⟨l, ks, _, _, _, rfl, rfl, hrow, hxs, by rw [edit_2 h52 hkk, if_neg (by omega)], hcut⟩
           | exact TQ.mid [(6, _), (7, _)] ⟨rfl, rfl, trivial⟩ ⟨l, ks, _, _, _, rfl, rfl, hrow, hxs, by rw [edit_3 h53 hkk, if_neg (by omega)], hcut⟩
           | exact TQ.mid [(6, _), (7, _)] ⟨rfl, rfl, trivial⟩ ⟨l, ks.set kk (freshP q2), _, (xs.set (kk * 2) (.string (freshP q2).lab)).set (kk * 2 + 1) (.slice none 0 0), [(gr, .cells (putC cur (0 + kk * 2) [.string (freshP q2).lab, .slice none 0 0]) 27 (0, 0))], rfl, rfl, .inl ⟨by simpa using hxl2, .inr ⟨gr, cu, _, by rw [List.length_set], rfl, by rw [List.length_set]; exact hcap, hcapm, by rw [putC_size]; exact hsz, by rw [List.length_set]; exact row_put _ _ hcur (by omega)⟩⟩, trs_set hxs (fresh_d _ _), by rw [edit_3 h53 hkk, if_pos (by omega)], hcut⟩
           | exact TQ.mid [(6, _), (7, _)] ⟨rfl, rfl, trivial⟩ ⟨l, ks.reverse, _, _, _, rfl, rfl, by simpa using hrow, by rw [revTo_all _ _ (by omega)] at hxs; exact hxs, edit_4 h50 h51 h52 h53, hcut⟩
        ·
         refine TL.assign rfl rfl ?_
         refine TL.nil ?_
         refine TQ.then_n ?_
         refine TC.cond_f rfl ?_
         refine TC.seq ?_
         refine TC.region ?_
         refine TL.eqlB rfl rfl rfl (fun h51 => ?_) (fun h51 => ?_)
         ·
          refine TL.assign rfl rfl ?_
          refine TL.nil ?_
          refine TQ.then_n ?_
          refine TC.cond_t rfl ?_
          refine TC.drawQV 13  [(1, _), (3, _), (5, _), (6, _), (7, _), (8, _), (9, _), (11, _), (12, _), (82, _)] follows_mixed ⟨rfl, rfl, rfl, rfl, rfl, rfl, rfl, rfl, rfl, rfl, trivial⟩ ?_
          refine ChainV.r (some 111) [] ([]) (fun _ => fun u s H => ∃ g, u = .slice (some ⟨g, 0, none⟩) 0 0 ∧ s = [[(g, .cells #[] 27 (0, 0))]]) (by
           intro H' X F hle
           have hL := Le.trans hL hle
           have hA := rd.mono hle hA
           have hle4 := Le.trans hle4 hle
           have hxs := RdL.mono hle hxs
           have hcut := Le.trans hcut hle
           intro hF
           refine TL.litF (r := []) [] trivial rfl rfl rfl rfl ?_; intro g111
           refine TL.nil ?_
           exact TQ.one [_] hF (Le.refl _) ⟨_, rfl, rfl⟩) ?_
          refine ChainV.q (some 112) [] (by
           intro H' X F hle
           have hL := Le.trans hL hle
           have hA := rd.mono hle hA
           have hle4 := Le.trans hle4 hle
           have hxs := RdL.mono hle hxs
           have hcut := Le.trans hcut hle
           intro hF
           refine TL.fieldAddr rfl rfl ?_
           refine TL.nil ?_
           exact TQ.one [] hF (Le.refl _) ⟨rfl, rfl⟩) ?_
          refine ChainV.q (some 113) [(1, 0)] (by
           intro H' X F hle
           have hL := Le.trans hL hle
           have hA := rd.mono hle hA
           have hle4 := Le.trans hle4 hle
           have hxs := RdL.mono hle hxs
           have hcut := Le.trans hcut hle
           intro hF
           refine TL.load_own 6 0 rfl rfl rfl rfl rfl ?_
           refine TL.nil ?_
           exact TQ.one [] hF (Le.refl _) ⟨rfl, rfl⟩) ?_
          refine ChainV.q (some 114) [] (by
           intro H' X F hle
           have hL := Le.trans hL hle
           have hA := rd.mono hle hA
           have hle4 := Le.trans hle4 hle
           have hxs := RdL.mono hle hxs
           have hcut := Le.trans hcut hle
           intro hF
           refine TL.move rfl rfl ?_
           refine TL.nil ?_
           exact TQ.one [] hF (Le.refl _) ⟨rfl, rfl⟩) ?_
          refine ChainV.q (some 115) [(2, 1), (3, 0)] (by
           intro H' X F hle
           have hL := Le.trans hL hle
           have hA := rd.mono hle hA
           have hle4 := Le.trans hle4 hle
           have hxs := RdL.mono hle hxs
           have hcut := Le.trans hcut hle
           intro hF
           refine TL.slice (0) (kk) rfl rfl ⟨_, _, rfl, rfl⟩ rfl hkk (by omega) (by omega) rfl ?_
           refine TL.nil ?_
           exact TQ.one [] hF (Le.refl _) ⟨rfl, rfl⟩) ?_
          refine ChainV.t true [] (some 116) [(0, 4), (4, 0)] ([]) (fun _ => fun u s H => ∃ xs sg, s = [sg] ∧ RowA 27 2 u kk xs sg ∧ RdL H (Tr.ds (ks.take kk)) xs) (by
           intro H' X F hle
           have hL := Le.trans hL hle
           have hA := rd.mono hle hA
           have hle4 := Le.trans hle4 hle
           have hxs := RdL.mono hle hxs
           have hcut := Le.trans hcut hle
           intro _
           rintro _ _ Hgg111 hlegg111 ⟨g111, rfl, rfl⟩
           intro hF
           obtain ⟨news, hsrc, hn⟩ := (trs_cut hA (l := 0) (r := kk) (by omega) (by omega)).src (Tr.ds_one _)
           refine TL.nilseg ?_
           refine TL.appendA 0 rfl rfl rfl (.inr ⟨_, rfl, rfl, rfl, rfl⟩) (hsrc _ _) (by omega) (by omega) rfl ?_
           intro u16 sg16 hrow16
           refine TL.nil ?_
           exact TQ.one [_] hF (Le.refl _) ⟨_, _, rfl, by simpa using hrow16, by simpa using hn⟩) ?_
          refine ChainV.q (some 117) [] (by
           intro H' X F hle
           have hL := Le.trans hL hle
           have hA := rd.mono hle hA
           have hle4 := Le.trans hle4 hle
           have hxs := RdL.mono hle hxs
           have hcut := Le.trans hcut hle
           intro hF
           refine TL.load_ownA 0 0 [_, _] rfl rfl rfl ⟨rfl, rfl, trivial⟩ rfl rfl ?_
           refine TL.nil ?_
           exact TQ.one [] hF (Le.refl _) ⟨rfl, rfl⟩) ?_
          refine ChainV.t true [] (some 118) [(6, 0)] ([]) (fun _ => fun u s H => ∃ g, u = .slice (some ⟨g, 0, none⟩) 1 1 ∧ s = [[(g, .cells #[.string (freshP q2).lab, .slice none 0 0] 27 (0, 0))]]) (by
           intro H' X F hle
           have hL := Le.trans hL hle
           have hA := rd.mono hle hA
           have hle4 := Le.trans hle4 hle
           have hxs := RdL.mono hle hxs
           have hcut := Le.trans hcut hle
           intro hF
           refine TL.litF (r := [_, _]) [(0, [_, _])] ⟨rfl, ⟨_, rfl, rfl⟩, trivial⟩ rfl rfl rfl rfl ?_; intro g118
           refine TL.nil ?_
           exact TQ.one [_] hF (Le.refl _) ⟨_, rfl, rfl⟩) ?_
          refine ChainV.t false [5, 7] (some 119) [(5, 2), (7, 0)] ([]) (fun _ => fun u s H => ∃ xs sg, s = [sg] ∧ RowA 27 2 u (kk + 1) xs sg ∧ RdL H (Tr.ds (ks.take kk ++ [freshP q2])) xs) (by
           intro H' X F hle
           have hL := Le.trans hL hle
           have hA := rd.mono hle hA
           have hle4 := Le.trans hle4 hle
           have hxs := RdL.mono hle hxs
           have hcut := Le.trans hcut hle
           intro _
           rintro u116 _ H16 hle16 ⟨xs16, sg16, rfl, hrow16, hxs16⟩
           replace hxs16 := RdL.mono hle16 hxs16
           intro _
           rintro _ _ H18 hle18 ⟨g118, rfl, rfl⟩
           intro hF
           refine TL.toOwn (own' := _ :: _ :: _) rfl ?_
           refine TL.appendA 0 rfl rfl rfl hrow16 (Src.ofOwn 1 0 rfl rfl rfl (Ones.all (show Ones [.string (freshP q2).lab, .slice none 0 0] from ⟨by rfl, by rfl, trivial⟩)) ⟨rfl, rfl, trivial⟩) (by omega) (by omega) rfl ?_
           intro u119 sg119 hrow119
           refine TL.nil ?_
           refine TQ.bring 1 ?_
           refine TQ.drop 1 ?_
           exact TQ.one [_] hF (Le.refl _) ⟨_, _, rfl, hrow119, trs_snoc hxs16 (fresh_d _ _)⟩) ?_
          refine ChainV.q (some 120) [] (by
           intro H' X F hle
           have hL := Le.trans hL hle
           have hA := rd.mono hle hA
           have hle4 := Le.trans hle4 hle
           have hxs := RdL.mono hle hxs
           have hcut := Le.trans hcut hle
           intro hF
           refine TL.fieldAddr rfl rfl ?_
           refine TL.nil ?_
           exact TQ.one [] hF (Le.refl _) ⟨rfl, rfl⟩) ?_
          refine ChainV.q (some 121) [(9, 0)] (by
           intro H' X F hle
           have hL := Le.trans hL hle
           have hA := rd.mono hle hA
           have hle4 := Le.trans hle4 hle
           have hxs := RdL.mono hle hxs
           have hcut := Le.trans hcut hle
           intro hF
           refine TL.load_own 6 0 rfl rfl rfl rfl rfl ?_
           refine TL.nil ?_
           exact TQ.one [] hF (Le.refl _) ⟨rfl, rfl⟩) ?_
          refine ChainV.q (some 122) [] (by
           intro H' X F hle
           have hL := Le.trans hL hle
           have hA := rd.mono hle hA
           have hle4 := Le.trans hle4 hle
           have hxs := RdL.mono hle hxs
           have hcut := Le.trans hcut hle
           intro hF
           refine TL.move rfl rfl ?_
           refine TL.nil ?_
           exact TQ.one [] hF (Le.refl _) ⟨rfl, rfl⟩) ?_
          refine ChainV.q (some 123) [(10, 1), (11, 0)] (by
           intro H' X F hle
           have hL := Le.trans hL hle
           have hA := rd.mono hle hA
           have hle4 := Le.trans hle4 hle
           have hxs := RdL.mono hle hxs
           have hcut := Le.trans hcut hle
           intro hF
           refine TL.slice (kk) (ks.length) rfl ⟨_, _, rfl, rfl⟩ rfl hkk rfl (by omega) (by omega) rfl ?_
           refine TL.nil ?_
           exact TQ.one [] hF (Le.refl _) ⟨rfl, rfl⟩) ?_
          refine ⟨by kernel_rfl, .refl _, ?_⟩
          ·
           intro H4 hle
           rintro _ _ Hgg111 hlegg111 ⟨g111, rfl, rfl⟩
           rintro u116 _ H16 hle16 ⟨xs16, sg16, rfl, hrow16, hxs16⟩
           replace hxs16 := RdL.mono hle16 hxs16
           rintro _ _ H18 hle18 ⟨g118, rfl, rfl⟩
           rintro u119 _ H119 hle119 ⟨xs119, sg119, rfl, hrow119, hxs119⟩
           replace hxs119 := RdL.mono hle119 hxs119
           have hL := Le.trans hL hle
           have hA := rd.mono hle hA
           have hle4 := Le.trans hle4 hle
           have hxs := RdL.mono hle hxs
           have hcut := Le.trans hcut hle
           refine TL.toOwn (own' := _ :: _ :: _ :: _ :: _ :: _ :: _ :: _ :: _ :: own) rfl ?_
           refine TL.wk (env' := [(1, _), (3, _), (5, _), (6, _), (7, _), (8, _), (9, _), (11, _), (12, _), (82, _), (119, _), (123, _)]) ⟨rfl, rfl, rfl, rfl, rfl, rfl, rfl, rfl, rfl, rfl, rfl, rfl, trivial⟩ ?_
           obtain ⟨news, hsrc, hn⟩ := (trs_cut hA (l := kk) (r := ks.length) (by omega) (by omega)).src (Tr.ds_one _)
           refine TL.appendA 0 rfl rfl rfl hrow119 (hsrc _ _) (by omega) (by omega) rfl ?_
           intro u124 sg124 hrow2
           rw [List.take_of_length_le (by simp)] at hn
           have hxs2 := trs_append hxs119 hn
           refine TL.fieldAddr rfl rfl ?_
           refine TL.store1 5 0 (c' := #[_, _]) (own' := _ :: _ :: _ :: _ :: _ :: [(_, .cells #[_, _] _ _)] :: _) rfl rfl rfl rfl hrow2.one (by simp) rfl rfl rfl ?_
           refine TL.nil ?_
           refine TQ.in_n ?_
           refine TQ.sel 9 [0, 5, 6] rfl (fun o ho => ?_)
           simp only [K.sel, List.map_cons, List.map_nil, List.getD_cons_zero, List.getD_cons_succ, List.drop_succ_cons, List.drop_zero, List.cons_append, List.nil_append, List.set_cons_zero, List.set_cons_succ] at ho; subst ho
           first
             | exact TQ.mid [(6, _), (7, _)] ⟨rfl, rfl, trivial⟩ ⟨_, ks, _, _, _, rfl, rfl, hrow, hxs, edit_0 h50, hcut⟩
             | exact TQ.mid [(6, _), (7, _)] ⟨rfl, rfl, trivial⟩ ⟨l, ks.take kk ++ [freshP q2] ++ ks.drop kk, _, _, _, rfl, rfl, by rw [show (ks.take kk ++ [freshP q2] ++ ks.drop kk).length = kk + 1 + (ks.length - kk) by simp; omega]; exact hrow2, hxs2, edit_1 h51 hkk, hcut⟩
             | exact TQ.mid [(6, _), (7, _)] ⟨rfl, rfl, trivial⟩ ⟨l, ks.take kk ++ ks.drop (kk + 1), _, _, _, rfl, rfl, by rw [show (ks.take kk ++ ks.drop (kk + 1)).length = kk + (ks.length - (kk + 1)) by simp; omega]; exact hrow2, hxs2, by rw [edit_2 h52 hkk, if_pos (by omega)], hcut⟩
             | exact TQ.mid [(6, _), (7, _)] ⟨rfl, rfl, trivial⟩ ⟨l, ks, _, _, _, rfl, rfl, hrow, hxs, by rw [edit_2 h52 hkk, if_neg (by omega)], hcut⟩
             | exact TQ.mid [(6, _), (7, _)] ⟨rfl, rfl, trivial⟩ ⟨l, ks, _, _, _, rfl, rfl, hrow, hxs, by rw [edit_3 h53 hkk, if_neg (by omega)], hcut⟩
             | exact TQ.mid [(6, _), (7, _)] ⟨rfl, rfl, trivial⟩ ⟨l, ks.set kk (freshP q2), _, (xs.set (kk * 2) (.string (freshP q2).lab)).set (kk * 2 + 1) (.slice none 0 0), [(gr, .cells (putC cur (0 + kk * 2) [.string (freshP q2).lab, .slice none 0 0]) 27 (0, 0))], rfl, rfl, .inl ⟨by simpa using hxl2, .inr ⟨gr, cu, _, by rw [List.length_set], rfl, by rw [List.length_set]; exact hcap, hcapm, by rw [putC_size]; exact hsz, by rw [List.length_set]; exact row_put _ _ hcur (by omega)⟩⟩, trs_set hxs (fresh_d _ _), by rw [edit_3 h53 hkk, if_pos (by omega)], hcut⟩
             | exact TQ.mid [(6, _), (7, _)] ⟨rfl, rfl, trivial⟩ ⟨l, ks.reverse, _, _, _, rfl, rfl, by simpa using hrow, by rw [revTo_all _ _ (by omega)] at hxs; exact hxs, edit_4 h50 h51 h52 h53, hcut⟩
         ·
          refine TL.assign rfl rfl ?_
          refine TL.nil ?_
          refine TQ.then_n ?_
          refine TC.cond_f rfl ?_
          refine TC.seq ?_
          refine TC.region ?_
          refine TL.eqlB rfl rfl rfl (fun h52 => ?_) (fun h52 => ?_)
          ·
           refine TL.assign rfl rfl ?_
           refine TL.nil ?_
           refine TQ.then_n ?_
           refine TC.cond_t rfl ?_
           refine TC.seq ?_
           refine TC.region ?_
           refine TL.move rfl rfl ?_
           refine TL.fieldAddr rfl rfl ?_
           refine TL.load_own 6 0 rfl rfl rfl rfl rfl ?_
           refine TL.len_slice rfl rfl ?_
           refine TL.lssB rfl rfl rfl (fun hk2 => ?_) (fun hk2 => ?_)
           ·
            refine TL.nil ?_
            refine TQ.then_n ?_
            refine TC.cond_t rfl ?_
            refine TC.drawQV 11  [(1, _), (3, _), (5, _), (6, _), (7, _), (8, _), (9, _), (11, _), (12, _), (82, _)] follows_mixed ⟨rfl, rfl, rfl, rfl, rfl, rfl, rfl, rfl, rfl, rfl, trivial⟩ ?_
            refine ChainV.r (some 133) [] ([]) (fun _ => fun u s H => ∃ g, u = .slice (some ⟨g, 0, none⟩) 0 0 ∧ s = [[(g, .cells #[] 27 (0, 0))]]) (by
             intro H' X F hle
             have hL := Le.trans hL hle
             have hA := rd.mono hle hA
             have hle4 := Le.trans hle4 hle
             have hxs := RdL.mono hle hxs
             have hcut := Le.trans hcut hle
             intro hF
             refine TL.litF (r := []) [] trivial rfl rfl rfl rfl ?_; intro g133
             refine TL.nil ?_
             exact TQ.one [_] hF (Le.refl _) ⟨_, rfl, rfl⟩) ?_
            refine ChainV.q (some 134) [] (by
             intro H' X F hle
             have hL := Le.trans hL hle
             have hA := rd.mono hle hA
             have hle4 := Le.trans hle4 hle
             have hxs := RdL.mono hle hxs
             have hcut := Le.trans hcut hle
             intro hF
             refine TL.fieldAddr rfl rfl ?_
             refine TL.nil ?_
             exact TQ.one [] hF (Le.refl _) ⟨rfl, rfl⟩) ?_
            refine ChainV.q (some 135) [(1, 0)] (by
             intro H' X F hle
             have hL := Le.trans hL hle
             have hA := rd.mono hle hA
             have hle4 := Le.trans hle4 hle
             have hxs := RdL.mono hle hxs
             have hcut := Le.trans hcut hle
             intro hF
             refine TL.load_own 6 0 rfl rfl rfl rfl rfl ?_
             refine TL.nil ?_
             exact TQ.one [] hF (Le.refl _) ⟨rfl, rfl⟩) ?_
            refine ChainV.q (some 136) [] (by
             intro H' X F hle
             have hL := Le.trans hL hle
             have hA := rd.mono hle hA
             have hle4 := Le.trans hle4 hle
             have hxs := RdL.mono hle hxs
             have hcut := Le.trans hcut hle
             intro hF
             refine TL.move rfl rfl ?_
             refine TL.nil ?_
             exact TQ.one [] hF (Le.refl _) ⟨rfl, rfl⟩) ?_
            refine ChainV.q (some 137) [(2, 1), (3, 0)] (by
             intro H' X F hle
             have hL := Le.trans hL hle
             have hA := rd.mono hle hA
             have hle4 := Le.trans hle4 hle
             have hxs := RdL.mono hle hxs
             have hcut := Le.trans hcut hle
             intro hF
             refine TL.slice (0) (kk) rfl rfl ⟨_, _, rfl, rfl⟩ rfl hkk (by omega) (by omega) rfl ?_
             refine TL.nil ?_
             exact TQ.one [] hF (Le.refl _) ⟨rfl, rfl⟩) ?_
            refine ChainV.r (some 138) [(0, 4), (4, 0)] ([]) (fun _ => fun u s H => ∃ xs sg, s = [sg] ∧ RowA 27 2 u kk xs sg ∧ RdL H (Tr.ds (ks.take kk)) xs) (by
             intro H' X F hle
             have hL := Le.trans hL hle
             have hA := rd.mono hle hA
             have hle4 := Le.trans hle4 hle
             have hxs := RdL.mono hle hxs
             have hcut := Le.trans hcut hle
             intro _
             rintro _ _ Hgg133 hlegg133 ⟨g133, rfl, rfl⟩
             intro hF
             obtain ⟨news, hsrc, hn⟩ := (trs_cut hA (l := 0) (r := kk) (by omega) (by omega)).src (Tr.ds_one _)
             refine TL.nilseg ?_
             refine TL.appendA 0 rfl rfl rfl (.inr ⟨_, rfl, rfl, rfl, rfl⟩) (hsrc _ _) (by omega) (by omega) rfl ?_
             intro u16 sg16 hrow16
             refine TL.nil ?_
             exact TQ.one [_] hF (Le.refl _) ⟨_, _, rfl, by simpa using hrow16, by simpa using hn⟩) ?_
            refine ChainV.q (some 139) [] (by
             intro H' X F hle
             have hL := Le.trans hL hle
             have hA := rd.mono hle hA
             have hle4 := Le.trans hle4 hle
             have hxs := RdL.mono hle hxs
             have hcut := Le.trans hcut hle
             intro hF
             refine TL.fieldAddr rfl rfl ?_
             refine TL.nil ?_
             exact TQ.one [] hF (Le.refl _) ⟨rfl, rfl⟩) ?_
            refine ChainV.q (some 140) [(6, 0)] (by
             intro H' X F hle
             have hL := Le.trans hL hle
             have hA := rd.mono hle hA
             have hle4 := Le.trans hle4 hle
             have hxs := RdL.mono hle hxs
             have hcut := Le.trans hcut hle
             intro hF
             refine TL.load_own 6 0 rfl rfl rfl rfl rfl ?_
             refine TL.nil ?_
             exact TQ.one [] hF (Le.refl _) ⟨rfl, rfl⟩) ?_
            refine ChainV.q (some 141) [] (by
             intro H' X F hle
             have hL := Le.trans hL hle
             have hA := rd.mono hle hA
             have hle4 := Le.trans hle4 hle
             have hxs := RdL.mono hle hxs
             have hcut := Le.trans hcut hle
             intro hF
             refine TL.move rfl rfl ?_
             refine TL.nil ?_
             exact TQ.one [] hF (Le.refl _) ⟨rfl, rfl⟩) ?_
            refine ChainV.q (some 142) [(8, 0)] (by
             intro H' X F hle
             have hL := Le.trans hL hle
             have hA := rd.mono hle hA
             have hle4 := Le.trans hle4 hle
             have hxs := RdL.mono hle hxs
             have hcut := Le.trans hcut hle
             intro hF
             refine TL.add rfl rfl rfl ⟨by omega, by omega⟩ ?_
             refine TL.nil ?_
             exact TQ.one [] hF (Le.refl _) ⟨rfl, rfl⟩) ?_
            refine ChainV.q (some 143) [(7, 2), (9, 0)] (by
             intro H' X F hle
             have hL := Le.trans hL hle
             have hA := rd.mono hle hA
             have hle4 := Le.trans hle4 hle
             have hxs := RdL.mono hle hxs
             have hcut := Le.trans hcut hle
             intro hF
             refine TL.slice (kk + 1) (ks.length) rfl ⟨_, _, rfl, rfl⟩ rfl (by simp only [Option.getD_some]; omega) rfl (by omega) (by omega) rfl ?_
             refine TL.nil ?_
             exact TQ.one [] hF (Le.refl _) ⟨rfl, rfl⟩) ?_
            refine ⟨by kernel_rfl, .refl _, ?_⟩
            ·
             intro H5 hle
             rintro _ _ Hgg133 hlegg133 ⟨g133, rfl, rfl⟩
             rintro u138 _ H16 hle16 ⟨xs16, sg16, rfl, hrow16, hxs16⟩
             replace hxs16 := RdL.mono hle16 hxs16
             have hL := Le.trans hL hle
             have hA := rd.mono hle hA
             have hle4 := Le.trans hle4 hle
             have hxs := RdL.mono hle hxs
             have hcut := Le.trans hcut hle
             refine TL.toOwn (own' := _ :: _ :: _ :: _ :: _ :: _ :: _ :: _ :: _ :: own) rfl ?_
             refine TL.wk (env' := [(1, _), (3, _), (5, _), (6, _), (7, _), (8, _), (9, _), (11, _), (12, _), (82, _), (138, _), (143, _)]) ⟨rfl, rfl, rfl, rfl, rfl, rfl, rfl, rfl, rfl, rfl, rfl, rfl, trivial⟩ ?_
             obtain ⟨news, hsrc, hn⟩ := (trs_cut hA (l := kk + 1) (r := ks.length) (by omega) (by omega)).src (Tr.ds_one _)
             refine TL.appendA 0 rfl rfl rfl hrow16 (hsrc _ _) (by omega) (by omega) rfl ?_
             intro u144 sg144 hrow2
             rw [List.take_of_length_le (by simp)] at hn
             have hxs2 := trs_append hxs16 hn
             refine TL.fieldAddr rfl rfl ?_
             refine TL.store1 5 0 (c' := #[_, _]) (own' := _ :: _ :: _ :: _ :: _ :: [(_, .cells #[_, _] _ _)] :: _) rfl rfl rfl rfl hrow2.one (by simp) rfl rfl rfl ?_
             refine TL.nil ?_
             refine TQ.in_n ?_
             refine TQ.sel 9 [0, 5, 6] rfl (fun o ho => ?_)
             simp only [K.sel, List.map_cons, List.map_nil, List.getD_cons_zero, List.getD_cons_succ, List.drop_succ_cons, List.drop_zero, List.cons_append, List.nil_append, List.set_cons_zero, List.set_cons_succ] at ho; subst ho
             first
               | exact TQ.mid [(6, _), (7, _)] ⟨rfl, rfl, trivial⟩ ⟨_, ks, _, _, _, rfl, rfl, hrow, hxs, edit_0 h50, hcut⟩
               | exact TQ.mid [(6, _), (7, _)] ⟨rfl, rfl, trivial⟩ ⟨l, ks.take kk ++ [freshP q2] ++ ks.drop kk, _, _, _, rfl, rfl, by rw [show (ks.take kk ++ [freshP q2] ++ ks.drop kk).length = kk + 1 + (ks.length - kk) by simp; omega]; exact hrow2, hxs2, edit_1 h51 hkk, hcut⟩
               | exact TQ.mid [(6, _), (7, _)] ⟨rfl, rfl, trivial⟩ ⟨l, ks.take kk ++ ks.drop (kk + 1), _, _, _, rfl, rfl, by rw [show (ks.take kk ++ ks.drop (kk + 1)).length = kk + (ks.length - (kk + 1)) by simp; omega]; exact hrow2, hxs2, by rw [edit_2 h52 hkk, if_pos (by omega)], hcut⟩
               | exact TQ.mid [(6, _), (7, _)] ⟨rfl, rfl, trivial⟩ ⟨l, ks, _, _, _, rfl, rfl, hrow, hxs, by rw [edit_2 h52 hkk, if_neg (by omega)], hcut⟩
               | exact TQ.mid [(6, _), (7, _)] ⟨rfl, rfl, trivial⟩ ⟨l, ks, _, _, _, rfl, rfl, hrow, hxs, by rw [edit_3 h53 hkk, if_neg (by omega)], hcut⟩
               | exact TQ.mid [(6, _), (7, _)] ⟨rfl, rfl, trivial⟩ ⟨l, ks.set kk (freshP q2), _, (xs.set (kk * 2) (.string (freshP q2).lab)).set (kk * 2 + 1) (.slice none 0 0), [(gr, .cells (putC cur (0 + kk * 2) [.string (freshP q2).lab, .slice none 0 0]) 27 (0, 0))], rfl, rfl, .inl ⟨by simpa using hxl2, .inr ⟨gr, cu, _, by rw [List.length_set], rfl, by rw [List.length_set]; exact hcap, hcapm, by rw [putC_size]; exact hsz, by rw [List.length_set]; exact row_put _ _ hcur (by omega)⟩⟩, trs_set hxs (fresh_d _ _), by rw [edit_3 h53 hkk, if_pos (by omega)], hcut⟩
               | exact TQ.mid [(6, _), (7, _)] ⟨rfl, rfl, trivial⟩ ⟨l, ks.reverse, _, _, _, rfl, rfl, by simpa using hrow, by rw [revTo_all _ _ (by omega)] at hxs; exact hxs, edit_4 h50 h51 h52 h53, hcut⟩
           ·
            refine TL.nil ?_
            refine TQ.then_n ?_
            refine TC.cond_f rfl ?_
            refine TC.skip ?_
            refine TQ.in_n ?_
            refine TQ.sel 7 [2, 3, 4] rfl (fun o ho => ?_)
            simp only [K.sel, List.map_cons, List.map_nil, List.getD_cons_zero, List.getD_cons_succ, List.drop_succ_cons, List.drop_zero, List.cons_append, List.nil_append, List.set_cons_zero, List.set_cons_succ] at ho; subst ho
            first
              | exact TQ.mid [(6, _), (7, _)] ⟨rfl, rfl, trivial⟩ ⟨_, ks, _, _, _, rfl, rfl, hrow, hxs, edit_0 h50, hcut⟩
              | exact TQ.mid [(6, _), (7, _)] ⟨rfl, rfl, trivial⟩ ⟨l, ks.take kk ++ [freshP q2] ++ ks.drop kk, _, _, _, rfl, rfl, by rw [show (ks.take kk ++ [freshP q2] ++ ks.drop kk).length = kk + 1 + (ks.length - kk) by simp; omega]; exact hrow2, hxs2, edit_1 h51 hkk, hcut⟩
              | exact TQ.mid [(6, _), (7, _)] ⟨rfl, rfl, trivial⟩ ⟨l, ks.take kk ++ ks.drop (kk + 1), _, _, _, rfl, rfl, by rw [show (ks.take kk ++ ks.drop (kk + 1)).length = kk + (ks.length - (kk + 1)) by simp; omega]; exact hrow2, hxs2, by rw [edit_2 h52 hkk, if_pos (by omega)], hcut⟩
              | exact TQ.mid [(6, _), (7, _)] ⟨rfl, rfl, trivial⟩ ⟨l, ks, _, _, _, rfl, rfl, hrow, hxs, by rw [edit_2 h52 hkk, if_neg (by omega)], hcut⟩
              | exact TQ.mid [(6, _), (7, _)] ⟨rfl, rfl, trivial⟩ ⟨l, ks, _, _, _, rfl, rfl, hrow, hxs, by rw [edit_3 h53 hkk, if_neg (by omega)], hcut⟩
              | exact TQ.mid [(6, _), (7, _)] ⟨rfl, rfl, trivial⟩ ⟨l, ks.set kk (freshP q2), _, (xs.set (kk * 2) (.string (freshP q2).lab)).set (kk * 2 + 1) (.slice none 0 0), [(gr, .cells (putC cur (0 + kk * 2) [.string (freshP q2).lab, .slice none 0 0]) 27 (0, 0))], rfl, rfl, .inl ⟨by simpa using hxl2, .inr ⟨gr, cu, _, by rw [List.length_set], rfl, by rw [List.length_set]; exact hcap, hcapm, by rw [putC_size]; exact hsz, by rw [List.length_set]; exact row_put _ _ hcur (by omega)⟩⟩, trs_set hxs (fresh_d _ _), by rw [edit_3 h53 hkk, if_pos (by omega)], hcut⟩
              | exact TQ.mid [(6, _), (7, _)] ⟨rfl, rfl, trivial⟩ ⟨l, ks.reverse, _, _, _, rfl, rfl, by simpa using hrow, by rw [revTo_all _ _ (by omega)] at hxs; exact hxs, edit_4 h50 h51 h52 h53, hcut⟩
          ·
           refine TL.assign rfl rfl ?_
           refine TL.nil ?_
           refine TQ.then_n ?_
           refine TC.cond_f rfl ?_
           refine TC.seq ?_
           refine TC.region ?_
           refine TL.eqlB rfl rfl rfl (fun h53 => ?_) (fun h53 => ?_)
           ·
            refine TL.assign rfl rfl ?_
            refine TL.nil ?_
            refine TQ.then_n ?_
            refine TC.cond_t rfl ?_
            refine TC.seq ?_
            refine TC.region ?_
            refine TL.move rfl rfl ?_
            refine TL.fieldAddr rfl rfl ?_
            refine TL.load_own 6 0 rfl rfl rfl rfl rfl ?_
            refine TL.len_slice rfl rfl ?_
            refine TL.lssB rfl rfl rfl (fun hk3 => ?_) (fun hk3 => ?_)
            ·
             obtain ⟨hxl2, gr, cap, cur, he, rfl, hcap, hcapm, hsz, hcur⟩ := hrow.open (by omega)
             injection he with hea heb hec
             subst hea; subst hec
             refine TL.nil ?_
             refine TQ.then_n ?_
             refine TC.cond_t rfl ?_
             refine TC.region ?_
             refine TL.fieldAddr rfl rfl ?_
             refine TL.load_own 3 0 rfl rfl rfl rfl rfl ?_
             refine TL.move rfl rfl ?_
             refine TL.load_ownA 0 0 [_, _] rfl rfl rfl ⟨rfl, rfl, trivial⟩ rfl rfl ?_
             refine TL.indexAddr (kk) rfl rfl hkk (by omega) rfl ?_
             refine TL.storeA 2 0 (vs := [.string (freshP q2).lab, .slice none 0 0]) (c' := _) (own' := _ :: _ :: _ :: _) rfl rfl rfl rfl rfl ⟨rfl, rfl, trivial⟩ (by simp; omega) rfl rfl rfl ?_
             refine TL.nil ?_
             refine TQ.in_n ?_
             refine TQ.sel 7 [2, 3, 4] rfl (fun o ho => ?_)
             simp only [K.sel, List.map_cons, List.map_nil, List.getD_cons_zero, List.getD_cons_succ, List.drop_succ_cons, List.drop_zero, List.cons_append, List.nil_append, List.set_cons_zero, List.set_cons_succ] at ho; subst ho
             first
               | exact TQ.mid [(6, _), (7, _)] ⟨rfl, rfl, trivial⟩ ⟨_, ks, _, _, _, rfl, rfl, hrow, hxs, edit_0 h50, hcut⟩
               | exact TQ.mid [(6, _), (7, _)] ⟨rfl, rfl, trivial⟩ ⟨l, ks.take kk ++ [freshP q2] ++ ks.drop kk, _, _, _, rfl, rfl, by rw [show (ks.take kk ++ [freshP q2] ++ ks.drop kk).length = kk + 1 + (ks.length - kk) by simp; omega]; exact hrow2, hxs2, edit_1 h51 hkk, hcut⟩
               | exact TQ.mid [(6, _), (7, _)] ⟨rfl, rfl, trivial⟩ ⟨l, ks.take kk ++ ks.drop (kk + 1), _, _, _, rfl, rfl, by rw [show (ks.take kk ++ ks.drop (kk + 1)).length = kk + (ks.length - (kk + 1)) by simp; omega]; exact hrow2, hxs2, by rw [edit_2 h52 hkk, if_pos (by omega)], hcut⟩
               | exact TQ.mid [(6, _), (7, _)] ⟨rfl, rfl, trivial⟩ ⟨l, ks, _, _, _, rfl, rfl, hrow, hxs, by rw [edit_2 h52 hkk, if_neg (by omega)], hcut⟩
               | exact TQ.mid [(6, _), (7, _)] ⟨rfl, rfl, trivial⟩ ⟨l, ks, _, _, _, rfl, rfl, hrow, hxs, by rw [edit_3 h53 hkk, if_neg (by omega)], hcut⟩
               | exact TQ.mid [(6, _), (7, _)] ⟨rfl, rfl, trivial⟩ ⟨l, ks.set kk (freshP q2), _, (xs.set (kk * 2) (.string (freshP q2).lab)).set (kk * 2 + 1) (.slice none 0 0), [(gr, .cells (putC cur (0 + kk * 2) [.string (freshP q2).lab, .slice none 0 0]) 27 (0, 0))], rfl, rfl, .inl ⟨by simpa using hxl2, .inr ⟨gr, cu, _, by rw [List.length_set], rfl, by rw [List.length_set]; exact hcap, hcapm, by rw [putC_size]; exact hsz, by rw [List.length_set]; exact row_put _ _ hcur (by omega)⟩⟩, trs_set hxs (fresh_d _ _), by rw [edit_3 h53 hkk, if_pos (by omega)], hcut⟩
               | exact TQ.mid [(6, _), (7, _)] ⟨rfl, rfl, trivial⟩ ⟨l, ks.reverse, _, _, _, rfl, rfl, by simpa using hrow, by rw [revTo_all _ _ (by omega)] at hxs; exact hxs, edit_4 h50 h51 h52 h53, hcut⟩
            ·
             refine TL.nil ?_
             refine TQ.then_n ?_
             refine TC.cond_f rfl ?_
             refine TC.skip ?_
             refine TQ.in_n ?_
             refine TQ.sel 7 [2, 3, 4] rfl (fun o ho => ?_)
             simp only [K.sel, List.map_cons, List.map_nil, List.getD_cons_zero, List.getD_cons_succ, List.drop_succ_cons, List.drop_zero, List.cons_append, List.nil_append, List.set_cons_zero, List.set_cons_succ] at ho; subst ho
             first
               | exact TQ.mid [(6, _), (7, _)] ⟨rfl, rfl, trivial⟩ ⟨_, ks, _, _, _, rfl, rfl, hrow, hxs, edit_0 h50, hcut⟩
               | exact TQ.mid [(6, _), (7, _)] ⟨rfl, rfl, trivial⟩ ⟨l, ks.take kk ++ [freshP q2] ++ ks.drop kk, _, _, _, rfl, rfl, by rw [show (ks.take kk ++ [freshP q2] ++ ks.drop kk).length = kk + 1 + (ks.length - kk) by simp; omega]; exact hrow2, hxs2, edit_1 h51 hkk, hcut⟩
               | exact TQ.mid [(6, _), (7, _)] ⟨rfl, rfl, trivial⟩ ⟨l, ks.take kk ++ ks.drop (kk + 1), _, _, _, rfl, rfl, by rw [show (ks.take kk ++ ks.drop (kk + 1)).length = kk + (ks.length - (kk + 1)) by simp; omega]; exact hrow2, hxs2, by rw [edit_2 h52 hkk, if_pos (by omega)], hcut⟩
               | exact TQ.mid [(6, _), (7, _)] ⟨rfl, rfl, trivial⟩ ⟨l, ks, _, _, _, rfl, rfl, hrow, hxs, by rw [edit_2 h52 hkk, if_neg (by omega)], hcut⟩
               | exact TQ.mid [(6, _), (7, _)] ⟨rfl, rfl, trivial⟩ ⟨l, ks, _, _, _, rfl, rfl, hrow, hxs, by rw [edit_3 h53 hkk, if_neg (by omega)], hcut⟩
               | exact TQ.mid [(6, _), (7, _)] ⟨rfl, rfl, trivial⟩ ⟨l, ks.set kk (freshP q2), _, (xs.set (kk * 2) (.string (freshP q2).lab)).set (kk * 2 + 1) (.slice none 0 0), [(gr, .cells (putC cur (0 + kk * 2) [.string (freshP q2).lab, .slice none 0 0]) 27 (0, 0))], rfl, rfl, .inl ⟨by simpa using hxl2, .inr ⟨gr, cu, _, by rw [List.length_set], rfl, by rw [List.length_set]; exact hcap, hcapm, by rw [putC_size]; exact hsz, by rw [List.length_set]; exact row_put _ _ hcur (by omega)⟩⟩, trs_set hxs (fresh_d _ _), by rw [edit_3 h53 hkk, if_pos (by omega)], hcut⟩
               | exact TQ.mid [(6, _), (7, _)] ⟨rfl, rfl, trivial⟩ ⟨l, ks.reverse, _, _, _, rfl, rfl, by simpa using hrow, by rw [revTo_all _ _ (by omega)] at hxs; exact hxs, edit_4 h50 h51 h52 h53, hcut⟩
           ·
            refine TL.assign rfl rfl ?_
            refine TL.nil ?_
            refine TQ.then_n ?_
            refine TC.cond_f rfl ?_
            refine TC.seq ?_
            refine TC.sel 7 [2, 3, 4, 6] rfl (fun o ho => ?_)
            simp only [K.sel, List.map_cons, List.map_nil, List.getD_cons_zero, List.getD_cons_succ, List.drop_succ_cons, List.drop_zero, List.cons_append, List.nil_append, List.set_cons_zero, List.set_cons_succ] at ho; subst ho
            refine TC.region ?_
            refine TL.assign rfl rfl ?_
            refine TL.nil ?_
            refine TQ.then_n ?_
            refine TC.block ?_
            refine TC.loop (fun z env' own' H' => ∃ (i : Nat) (u : Value) (xs : List Value) (seg : Seg), z = ks.length - i ∧ i ≤ ks.length ∧ RowA 27 2 u ks.length xs seg ∧ RdL H' (Tr.ds (revTo ks i)) xs ∧ env' = [(3, .pointer (some ⟨g3, 0, none⟩)), (6, .pointer (some ⟨g6, 0, none⟩)), (7, .pointer (some ⟨g7, 0, none⟩)), (13, .int .i64 (i : Int))] ∧ own' = seg :: [(g7, .cells #[.string l, u] 27 (0, 0))] :: [(g6, .cells #[.string ⟨#[]⟩, .slice none 0 0] 27 (0, 0))] :: [(g3, .cells #[.string l, .slice A ks.length c] 27 (0, 0))] :: own ∧ Le H10 H') ks.length [(3, _), (6, _), (7, _), (13, _)] ⟨rfl, rfl, rfl, rfl, trivial⟩ ⟨0, _, xs, _, by omega, by omega, hrow, by simpa [revTo] using hxs, rfl, rfl, Le.refl _⟩ ?_
            clear hrow hxs hxl
            rintro z _ _ H14 ⟨j, u, xs, seg, rfl, hj1, hrow, hxs, rfl, rfl, hle14⟩
            obtain ⟨⟨Aw, cw, rfl, hcw1, hcw2⟩, hxl⟩ := hrow.len
            have hL := Le.trans hL hle14
            have hA := rd.mono hle14 hA
            have hle4 := Le.trans hle4 hle14
            have hcut := Le.trans hcut hle14
            refine TC.seq ?_
            refine TC.seq ?_
            refine TC.region ?_
            refine TL.move rfl rfl ?_
            refine TL.fieldAddr rfl rfl ?_
            refine TL.load_own 3 0 rfl rfl rfl rfl rfl ?_
            refine TL.len_slice rfl rfl ?_
            refine TL.lssB rfl rfl rfl (fun hlt3 => ?_) (fun hlt3 => ?_)
            ·
             obtain ⟨x, hx⟩ : ∃ x, ks[ks.length - 1 - j]? = some x := ⟨_, List.getElem?_eq_getElem (by omega)⟩
             obtain ⟨b1, o1, p0, p1, rfl, hp, hpr⟩ := trs_at hA hx
             obtain ⟨hxl2, gr, cap, cur, he, rfl, hcap, hcapm, hsz, hcur⟩ := hrow.open (by omega)
             injection he with hea heb hec
             subst hea; subst hec
             refine TL.nil ?_
             refine TQ.then_n ?_
             refine TC.cond_t rfl ?_
             refine TC.skip ?_
             refine TQ.then_n ?_
             refine TC.seq ?_
             refine TC.block ?_
             refine TC.drawQV 13  [(3, _), (6, _), (7, _), (13, _)] follows_mixed ⟨rfl, rfl, rfl, rfl, trivial⟩ ?_
             refine ChainV.q (some 90) [] (by
              intro H' X F hle
              have hL := Le.trans hL hle
              have hA := rd.mono hle hA
              have hle4 := Le.trans hle4 hle
              have hcut := Le.trans hcut hle
              have hle14 := Le.trans hle14 hle
              have hxs := RdL.mono hle hxs
              have hp := hAt.mono hle hp
              have hpr := RdL.mono hle hpr
              intro hF
              refine TL.fieldAddr rfl rfl ?_
              refine TL.nil ?_
              exact TQ.one [] hF (Le.refl _) ⟨rfl, rfl⟩) ?_
             refine ChainV.q (some 91) [(0, 0)] (by
              intro H' X F hle
              have hL := Le.trans hL hle
              have hA := rd.mono hle hA
              have hle4 := Le.trans hle4 hle
              have hcut := Le.trans hcut hle
              have hle14 := Le.trans hle14 hle
              have hxs := RdL.mono hle hxs
              have hp := hAt.mono hle hp
              have hpr := RdL.mono hle hpr
              intro hF
              refine TL.load_own 1 0 rfl rfl rfl rfl rfl ?_
              refine TL.nil ?_
              exact TQ.one [] hF (Le.refl _) ⟨rfl, rfl⟩) ?_
             refine ChainV.q (some 92) [] (by
              intro H' X F hle
              have hL := Le.trans hL hle
              have hA := rd.mono hle hA
              have hle4 := Le.trans hle4 hle
              have hcut := Le.trans hcut hle
              have hle14 := Le.trans hle14 hle
              have hxs := RdL.mono hle hxs
              have hp := hAt.mono hle hp
              have hpr := RdL.mono hle hpr
              intro hF
              refine TL.move rfl rfl ?_
              refine TL.nil ?_
              exact TQ.one [] hF (Le.refl _) ⟨rfl, rfl⟩) ?_
             refine ChainV.q (some 93) [] (by
              intro H' X F hle
              have hL := Le.trans hL hle
              have hA := rd.mono hle hA
              have hle4 := Le.trans hle4 hle
              have hcut := Le.trans hcut hle
              have hle14 := Le.trans hle14 hle
              have hxs := RdL.mono hle hxs
              have hp := hAt.mono hle hp
              have hpr := RdL.mono hle hpr
              intro hF
              refine TL.fieldAddr rfl rfl ?_
              refine TL.nil ?_
              exact TQ.one [] hF (Le.refl _) ⟨rfl, rfl⟩) ?_
             refine ChainV.q (some 94) [(3, 0)] (by
              intro H' X F hle
              have hL := Le.trans hL hle
              have hA := rd.mono hle hA
              have hle4 := Le.trans hle4 hle
              have hcut := Le.trans hcut hle
              have hle14 := Le.trans hle14 hle
              have hxs := RdL.mono hle hxs
              have hp := hAt.mono hle hp
              have hpr := RdL.mono hle hpr
              intro hF
              refine TL.load_own 3 0 rfl rfl rfl rfl rfl ?_
              refine TL.nil ?_
              exact TQ.one [] hF (Le.refl _) ⟨rfl, rfl⟩) ?_
             refine ChainV.q (some 95) [] (by
              intro H' X F hle
              have hL := Le.trans hL hle
              have hA := rd.mono hle hA
              have hle4 := Le.trans hle4 hle
              have hcut := Le.trans hcut hle
              have hle14 := Le.trans hle14 hle
              have hxs := RdL.mono hle hxs
              have hp := hAt.mono hle hp
              have hpr := RdL.mono hle hpr
              intro hF
              refine TL.fieldAddr rfl rfl ?_
              refine TL.nil ?_
              exact TQ.one [] hF (Le.refl _) ⟨rfl, rfl⟩) ?_
             refine ChainV.q (some 96) [(5, 0)] (by
              intro H' X F hle
              have hL := Le.trans hL hle
              have hA := rd.mono hle hA
              have hle4 := Le.trans hle4 hle
              have hcut := Le.trans hcut hle
              have hle14 := Le.trans hle14 hle
              have hxs := RdL.mono hle hxs
              have hp := hAt.mono hle hp
              have hpr := RdL.mono hle hpr
              intro hF
              refine TL.load_own 3 0 rfl rfl rfl rfl rfl ?_
              refine TL.nil ?_
              exact TQ.one [] hF (Le.refl _) ⟨rfl, rfl⟩) ?_
             refine ChainV.q (some 97) [(6, 0)] (by
              intro H' X F hle
              have hL := Le.trans hL hle
              have hA := rd.mono hle hA
              have hle4 := Le.trans hle4 hle
              have hcut := Le.trans hcut hle
              have hle14 := Le.trans hle14 hle
              have hxs := RdL.mono hle hxs
              have hp := hAt.mono hle hp
              have hpr := RdL.mono hle hpr
              intro hF
              refine TL.len_slice rfl rfl ?_
              refine TL.nil ?_
              exact TQ.one [] hF (Le.refl _) ⟨rfl, rfl⟩) ?_
             refine ChainV.q (some 98) [(7, 0)] (by
              intro H' X F hle
              have hL := Le.trans hL hle
              have hA := rd.mono hle hA
              have hle4 := Le.trans hle4 hle
              have hcut := Le.trans hcut hle
              have hle14 := Le.trans hle14 hle
              have hxs := RdL.mono hle hxs
              have hp := hAt.mono hle hp
              have hpr := RdL.mono hle hpr
              intro hF
              refine TL.sub rfl rfl rfl ⟨by omega, by omega⟩ ?_
              refine TL.nil ?_
              exact TQ.one [] hF (Le.refl _) ⟨rfl, rfl⟩) ?_
             refine ChainV.q (some 99) [] (by
              intro H' X F hle
              have hL := Le.trans hL hle
              have hA := rd.mono hle hA
              have hle4 := Le.trans hle4 hle
              have hcut := Le.trans hcut hle
              have hle14 := Le.trans hle14 hle
              have hxs := RdL.mono hle hxs
              have hp := hAt.mono hle hp
              have hpr := RdL.mono hle hpr
              intro hF
              refine TL.move rfl rfl ?_
              refine TL.nil ?_
              exact TQ.one [] hF (Le.refl _) ⟨rfl, rfl⟩) ?_
             refine ChainV.q (some 100) [(8, 1), (9, 0)] (by
              intro H' X F hle
              have hL := Le.trans hL hle
              have hA := rd.mono hle hA
              have hle4 := Le.trans hle4 hle
              have hcut := Le.trans hcut hle
              have hle14 := Le.trans hle14 hle
              have hxs := RdL.mono hle hxs
              have hp := hAt.mono hle hp
              have hpr := RdL.mono hle hpr
              intro hF
              refine TL.sub rfl rfl rfl ⟨by omega, by omega⟩ ?_
              refine TL.nil ?_
              exact TQ.one [] hF (Le.refl _) ⟨rfl, rfl⟩) ?_
             refine ChainV.q (some 101) [(4, 6), (10, 0)] (by
              intro H' X F hle
              have hL := Le.trans hL hle
              have hA := rd.mono hle hA
              have hle4 := Le.trans hle4 hle
              have hcut := Le.trans hcut hle
              have hle14 := Le.trans hle14 hle
              have hxs := RdL.mono hle hxs
              have hp := hAt.mono hle hp
              have hpr := RdL.mono hle hpr
              intro hF
              refine TL.indexAddr (ks.length - 1 - j) rfl rfl (by omega) (by omega) rfl ?_
              refine TL.nil ?_
              exact TQ.one [] hF (Le.refl _) ⟨rfl, rfl⟩) ?_
             refine ChainV.q (some 102) [(11, 0)] (by
              intro H' X F hle
              have hL := Le.trans hL hle
              have hA := rd.mono hle hA
              have hle4 := Le.trans hle4 hle
              have hcut := Le.trans hcut hle
              have hle14 := Le.trans hle14 hle
              have hxs := RdL.mono hle hxs
              have hp := hAt.mono hle hp
              have hpr := RdL.mono hle hpr
              intro hF
              refine TL.load_immA rfl (hp) rfl rfl ?_
              refine TL.nil ?_
              exact TQ.one [] hF (Le.refl _) ⟨rfl, rfl⟩) ?_
             refine ⟨by kernel_rfl, .refl _, ?_⟩
             ·
              intro H6 hle
              have hL := Le.trans hL hle
              have hA := rd.mono hle hA
              have hle4 := Le.trans hle4 hle
              have hcut := Le.trans hcut hle
              have hle14 := Le.trans hle14 hle
              have hxs := RdL.mono hle hxs
              have hp := hAt.mono hle hp
              have hpr := RdL.mono hle hpr
              refine TL.toOwn (own' := _ :: _ :: _ :: _ :: own) rfl ?_
              refine TL.wk (env' := [(3, _), (6, _), (7, _), (13, _), (91, _), (92, _), (102, _)]) ⟨rfl, rfl, rfl, rfl, rfl, rfl, rfl, trivial⟩ ?_
              refine TL.indexAddr (j) rfl rfl rfl (by omega) rfl ?_
              refine TL.storeA 0 0 (vs := [p0, p1]) (c' := _) (own' := _ :: _) rfl rfl rfl rfl rfl (tr_ones hpr) (by simp; omega) rfl rfl rfl ?_
              refine TL.nil ?_
              refine TQ.in_n ?_
              refine TQ.then_n ?_
              refine TC.region ?_
              refine TL.move rfl rfl ?_
              refine TL.add rfl rfl rfl ⟨by omega, by omega⟩ ?_
              refine TL.assign rfl rfl ?_
              refine TL.nil ?_
              refine TQ.toOwn (own' := _ :: _ :: _ :: _ :: own) rfl ?_
              refine TQ.next (ks.length - (j + 1)) [(3, _), (6, _), (7, _), (13, _)] (by omega) ⟨rfl, rfl, rfl, rfl, trivial⟩ ⟨j + 1, _, (xs.set (j * 2) p0).set (j * 2 + 1) p1, [(gr, .cells (putC cur (0 + j * 2) [p0, p1]) 27 (0, 0))], rfl, by omega, .inl ⟨?_, .inr ⟨gr, _, _, rfl, rfl, hcap, hcapm, by rw [putC_size]; exact hsz, row_put _ _ hcur (by omega)⟩⟩, ?_, by simp, rfl, hle14⟩
              · simpa using hxl2
              · rw [revTo_succ (by omega) hx]
                exact trs_set hxs hpr
            ·
             refine TL.nil ?_
             refine TQ.then_n ?_
             refine TC.cond_f rfl ?_
             refine TC.exit ?_
             refine TQ.then_e ?_
             refine TQ.then_e ?_
             refine TQ.in_e ?_
             refine TQ.in_n ?_
             refine TQ.sel 4 [0, 1, 2] rfl (fun o ho => ?_)
             simp only [K.sel, List.map_cons, List.map_nil, List.getD_cons_zero, List.getD_cons_succ, List.drop_succ_cons, List.drop_zero, List.cons_append, List.nil_append, List.set_cons_zero, List.set_cons_succ] at ho; subst ho
             first
               | exact TQ.mid [(6, _), (7, _)] ⟨rfl, rfl, trivial⟩ ⟨_, ks, _, _, _, rfl, rfl, hrow, hxs, edit_0 h50, hcut⟩
               | exact TQ.mid [(6, _), (7, _)] ⟨rfl, rfl, trivial⟩ ⟨l, ks.take kk ++ [freshP q2] ++ ks.drop kk, _, _, _, rfl, rfl, by rw [show (ks.take kk ++ [freshP q2] ++ ks.drop kk).length = kk + 1 + (ks.length - kk) by simp; omega]; exact hrow2, hxs2, edit_1 h51 hkk, hcut⟩
               | exact TQ.mid [(6, _), (7, _)] ⟨rfl, rfl, trivial⟩ ⟨l, ks.take kk ++ ks.drop (kk + 1), _, _, _, rfl, rfl, by rw [show (ks.take kk ++ ks.drop (kk + 1)).length = kk + (ks.length - (kk + 1)) by simp; omega]; exact hrow2, hxs2, by rw [edit_2 h52 hkk, if_pos (by omega)], hcut⟩
               | exact TQ.mid [(6, _), (7, _)] ⟨rfl, rfl, trivial⟩ ⟨l, ks, _, _, _, rfl, rfl, hrow, hxs, by rw [edit_2 h52 hkk, if_neg (by omega)], hcut⟩
               | exact TQ.mid [(6, _), (7, _)] ⟨rfl, rfl, trivial⟩ ⟨l, ks, _, _, _, rfl, rfl, hrow, hxs, by rw [edit_3 h53 hkk, if_neg (by omega)], hcut⟩
               | exact TQ.mid [(6, _), (7, _)] ⟨rfl, rfl, trivial⟩ ⟨l, ks.set kk (freshP q2), _, (xs.set (kk * 2) (.string (freshP q2).lab)).set (kk * 2 + 1) (.slice none 0 0), [(gr, .cells (putC cur (0 + kk * 2) [.string (freshP q2).lab, .slice none 0 0]) 27 (0, 0))], rfl, rfl, .inl ⟨by simpa using hxl2, .inr ⟨gr, cu, _, by rw [List.length_set], rfl, by rw [List.length_set]; exact hcap, hcapm, by rw [putC_size]; exact hsz, by rw [List.length_set]; exact row_put _ _ hcur (by omega)⟩⟩, trs_set hxs (fresh_d _ _), by rw [edit_3 h53 hkk, if_pos (by omega)], hcut⟩
               | exact TQ.mid [(6, _), (7, _)] ⟨rfl, rfl, trivial⟩ ⟨l, ks.reverse, _, _, _, rfl, rfl, by simpa using hrow, by rw [revTo_all _ _ (by omega)] at hxs; exact hxs, edit_4 h50 h51 h52 h53, hcut⟩
       clear hrow hxs
       rintro _ _ H11 ⟨lb, ks2, u, xs, seg, rfl, rfl, hrow, hxs, hedit, hle11⟩
       have hL := Le.trans hL hle11
       have hA := rd.mono hle11 hA
       have hle4 := Le.trans hle4 hle11
       refine TC.seq ?_
       refine TC.region ?_
       refine TL.load_ownA 1 0 [_, _] rfl rfl rfl ⟨rfl, rfl, trivial⟩ rfl rfl ?_
       refine TL.storeA 2 0 (c' := #[_, _]) (own' := _ :: _ :: [(_, .cells #[_, _] _ _)] :: _) rfl rfl rfl rfl rfl ⟨rfl, hrow.one, trivial⟩ (by simp) rfl rfl rfl ?_
       refine TL.nil ?_
       refine TQ.then_n ?_
       refine TC.ret ?_
       refine TQ.freeze (fun H7 hle hz_row => ?_)
       have hL := Le.trans hL hle
       have hA := rd.mono hle hA
       have hle4 := Le.trans hle4 hle
       have hxs := RdL.mono hle hxs
       refine TQ.retC 1 0 2 [_, _] rfl rfl rfl rfl ⟨rfl, rfl, trivial⟩ rfl rfl ?_
       exact ⟨_, _, rfl, by rw [turnP, if_pos rfl, hedit]; exact tr_mk (rd.ofRowA hrow hz_row hxs (Le.refl _)), rfl, hL⟩

end Go.Proofs.Ytapmmfabdmhdnaa.K
