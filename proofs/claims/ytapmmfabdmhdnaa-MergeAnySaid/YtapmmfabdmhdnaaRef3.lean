/-
  The reference: Align.
-/
import Derived.Test.YtapmmfabdmhdnaaRef2
import Derived.Test.YtapmmfabdmhdnaaTurn
import Derived.Test.YtapmmfabdmhdnaaWTurn
set_option linter.unusedVariables false
set_option linter.unusedSimpArgs false
set_option maxHeartbeats 4000000
namespace Go.Proofs.Ytapmmfabdmhdnaa.K
open Go Go.RowKit Go.Proofs

def tagV (F : List Fate) : List Value := F.map fun f => Value.int .i64 f.tag
def sideD (a : Al) : List D := [.s 1 ((tagV a.F).map D.c), .s 2 (Tr.ds (a.F.map Fate.to)), .s 1 (insD a.I)]
theorem tagV_len (F : List Fate) : (tagV F).length = F.length := by simp [tagV]
theorem tagV_set (F : List Fate) (k : Nat) (f : Fate) : tagV (F.set k f) = (tagV F).set k (.int .i64 f.tag) := by simp [tagV, List.map_set]
theorem set2_toArr (l : List Value) {o k : Nat} (a b : Value) (h : o = k) : putC l.toArray o [a, b] = ((l.set k a).set (k + 1) b).toArray := by subst h; simp [putC]
theorem made_tags {n : Nat} {z : Value} (hz : z.cells = #[.int .i64 0]) : madeCells z.cells (n * 1) = (tagV (List.replicate n .kept)).toArray := by
  rw [hz]
  refine Array.ext_getElem? fun q => ?_
  simp only [madeCells, tagV]
  by_cases h : q < n
  · simp [h, Nat.mod_one, Fate.tag]
  · simp [h]
theorem made_trees {n : Nat} {z : Value} (hz : z.cells = #[.string ⟨#[]⟩, .slice none 0 0]) : madeCells z.cells (n * 2) = ((List.replicate n [Value.string ⟨#[]⟩, Value.slice none 0 0]).flatten).toArray := by
  rw [hz]
  have gen : ∀ n : Nat, (Array.range (n * 2)).toList.map (fun k => (#[Value.string ⟨#[]⟩, Value.slice none 0 0] : Array Value).getD (k % 2) undef) = (List.replicate n [Value.string ⟨#[]⟩, Value.slice none 0 0]).flatten := by
    intro n
    induction n with
    | zero => simp
    | succ n ih =>
      rw [List.replicate_succ', List.flatten_append, ← ih]
      simp only [Array.toList_range]
      rw [show (n + 1) * 2 = n * 2 + 1 + 1 by omega, List.range_succ, List.range_succ]
      simp [show (n * 2 + 1) % 2 = 1 by omega, show n * 2 % 2 = 0 by omega]
  refine Array.ext' ?_
  rw [← gen n]
  simp only [madeCells, Array.toList_map]
  refine List.map_congr_left fun k _ => ?_
  have h3 : k % 2 = 0 ∨ k % 2 = 1 := by omega
  rcases h3 with h3 | h3 <;> simp [h3]
theorem trees_zero (H : Hp) (n : Nat) : RdL H (Tr.ds ((List.replicate n Fate.kept).map Fate.to)) ((List.replicate n [Value.string ⟨#[]⟩, Value.slice none 0 0]).flatten) := by
  induction n with
  | zero => trivial
  | succ n ih =>
    simp only [List.replicate_succ, List.map_cons, Tr.ds, List.flatten_cons]
    exact RdL.append (tr_mk (rd.nil _ _)) ih
theorem ref_align {b x : List Tr} (hbl : b.length ≤ 8192) (hxl : x.length ≤ 8192) {w0 : World} {H : Hp} {own : List Seg} {bv xv : Value} (hB : rd H (.s 2 (Tr.ds b)) bv) (hX : rd H (.s 2 (Tr.ds x)) xv) :
    Fn Try.prog 71 [bv, xv] w0 H own (fun v own' H' => ∃ c0 c1 c2, v = .agg #[c0, c1, c2] ∧ RdL H' (sideD (alignP b x)) [c0, c1, c2] ∧ own' = own ∧ Le H H') := by
  obtain ⟨A, ca, rfl, ha1, ha2⟩ := trs_len hB
  obtain ⟨B, cb, rfl, hb1, hb2⟩ := trs_len hX
  refine Fn.enter Try.func71 rfl Try.ntmps71 rfl ?_
  have hL := Le.refl H
  refine TC.seq ?_
  refine TC.region ?_
  refine TL.new rfl ?_; intro g4
  refine TL.nil ?_
  refine TQ.then_n ?_
  refine TC.seq ?_
  refine TC.drawQV 12  [(0, _), (1, _), (4, _)] follows_mixed ⟨rfl, rfl, rfl, trivial⟩ ?_
  refine ChainV.q (some 13) [] (by
   intro H' X F hle
   have hL := Le.trans hL hle
   have hB := rd.mono hle hB
   have hX := rd.mono hle hX
   intro hF
   refine TL.move rfl rfl ?_
   refine TL.nil ?_
   exact TQ.one [] hF (Le.refl _) ⟨rfl, rfl⟩) ?_
  refine ChainV.q (some 14) [(0, 0)] (by
   intro H' X F hle
   have hL := Le.trans hL hle
   have hB := rd.mono hle hB
   have hX := rd.mono hle hX
   intro hF
   refine TL.len_slice rfl rfl ?_
   refine TL.nil ?_
   exact TQ.one [] hF (Le.refl _) ⟨rfl, rfl⟩) ?_
  refine ChainV.r (some 15) [(1, 0)] ([]) (fun _ => fun u s_ H => ∃ gk, u = .slice (some ⟨gk, 0, none⟩) b.length b.length ∧ s_ = [[(gk, .cells (tagV (List.replicate b.length .kept)).toArray 3 (0, 0))]]) (by
   intro H' X F hle
   have hL := Le.trans hL hle
   have hB := rd.mono hle hB
   have hX := rd.mono hle hX
   intro hF
   refine TL.makeSlice (b.length) rfl rfl rfl (by omega) (by omega) rfl ?_; intro g15
   refine TL.nil ?_
   exact TQ.one [_] hF (Le.refl _) ⟨_, rfl, by rw [made_tags rfl]⟩) ?_
  refine ChainV.q (some 16) [] (by
   intro H' X F hle
   have hL := Le.trans hL hle
   have hB := rd.mono hle hB
   have hX := rd.mono hle hX
   intro hF
   refine TL.move rfl rfl ?_
   refine TL.nil ?_
   exact TQ.one [] hF (Le.refl _) ⟨rfl, rfl⟩) ?_
  refine ChainV.q (some 17) [(3, 0)] (by
   intro H' X F hle
   have hL := Le.trans hL hle
   have hB := rd.mono hle hB
   have hX := rd.mono hle hX
   intro hF
   refine TL.len_slice rfl rfl ?_
   refine TL.nil ?_
   exact TQ.one [] hF (Le.refl _) ⟨rfl, rfl⟩) ?_
  refine ChainV.r (some 18) [(4, 0)] ([]) (fun _ => fun u s_ H => ∃ gt tv, u = .slice (some ⟨gt, 0, none⟩) b.length b.length ∧ s_ = [[(gt, .cells (List.toArray tv) 27 (0, 0))]] ∧ RdL H (Tr.ds ((List.replicate b.length Fate.kept).map Fate.to)) tv) (by
   intro H' X F hle
   have hL := Le.trans hL hle
   have hB := rd.mono hle hB
   have hX := rd.mono hle hX
   intro hF
   refine TL.makeSlice (b.length) rfl rfl rfl (by omega) (by omega) rfl ?_; intro g18
   refine TL.nil ?_
   exact TQ.one [_] hF (Le.refl _) ⟨_, _, rfl, by rw [made_trees rfl], trees_zero _ _⟩) ?_
  refine ChainV.q (some 19) [] (by
   intro H' X F hle
   have hL := Le.trans hL hle
   have hB := rd.mono hle hB
   have hX := rd.mono hle hX
   intro hF
   refine TL.move rfl rfl ?_
   refine TL.nil ?_
   exact TQ.one [] hF (Le.refl _) ⟨rfl, rfl⟩) ?_
  refine ChainV.q (some 20) [(6, 0)] (by
   intro H' X F hle
   have hL := Le.trans hL hle
   have hB := rd.mono hle hB
   have hX := rd.mono hle hX
   intro hF
   refine TL.len_slice rfl rfl ?_
   refine TL.nil ?_
   exact TQ.one [] hF (Le.refl _) ⟨rfl, rfl⟩) ?_
  refine ChainV.q (some 21) [(7, 0)] (by
   intro H' X F hle
   have hL := Le.trans hL hle
   have hB := rd.mono hle hB
   have hX := rd.mono hle hX
   intro hF
   refine TL.add rfl rfl rfl ⟨by omega, by omega⟩ ?_
   refine TL.nil ?_
   exact TQ.one [] hF (Le.refl _) ⟨rfl, rfl⟩) ?_
  refine ChainV.r (some 22) [(8, 0)] ([]) (fun _ => fun u s_ H => ∃ gn, u = .slice (some ⟨gn, 0, none⟩) (b.length + 1) (b.length + 1) ∧ s_ = [[(gn, .cells (List.replicate (b.length + 1) (Value.slice none 0 0)).toArray 25 (0, 0))]]) (by
   intro H' X F hle
   have hL := Le.trans hL hle
   have hB := rd.mono hle hB
   have hX := rd.mono hle hX
   intro hF
   refine TL.makeSlice (b.length + 1) rfl rfl (by omega) (by omega) (by omega) rfl ?_; intro g22
   refine TL.nil ?_
   exact TQ.one [_] hF (Le.refl _) ⟨_, rfl, by rw [made_ins rfl]⟩) ?_
  refine ChainV.r (some 23) [(2, 7), (5, 4), (9, 0)] ([]) (fun vs u s_ H => u = .agg #[nthV vs 0, nthV vs 1, nthV vs 2] ∧ s_ = []) (by
   intro H' X F hle
   have hL := Le.trans hL hle
   have hB := rd.mono hle hB
   have hX := rd.mono hle hX
   intro _
   rintro _ _ Hk hlek ⟨gk, rfl, rfl⟩
   intro _
   rintro _ _ Ht hlet ⟨gt, tv, rfl, rfl, htv⟩
   replace htv := RdL.mono hlet htv
   intro _
   rintro _ _ Hn hlen ⟨gn, rfl, rfl⟩
   intro hF
   refine TL.struct [(0, [_]), (1, [_]), (2, [_])] ⟨rfl, ⟨_, rfl, rfl⟩, rfl, ⟨_, rfl, rfl⟩, rfl, ⟨_, rfl, rfl⟩, trivial⟩ rfl rfl ?_
   refine TL.nil ?_
   exact TQ.one [] hF (Le.refl _) ⟨rfl, rfl⟩) ?_
  refine ChainV.r (some 5) [] ([]) (fun _ => fun u s_ H => ∃ g, u = .pointer (some ⟨g, 0, none⟩) ∧ s_ = [[(g, .cells #[.slice none 0 0, .slice none 0 0, .slice none 0 0] 145 (0, 0))]]) (by
   intro H' X F hle
   have hL := Le.trans hL hle
   have hB := rd.mono hle hB
   have hX := rd.mono hle hX
   intro hF
   refine TL.new rfl ?_; intro g5
   refine TL.nil ?_
   exact TQ.one [_] hF (Le.refl _) ⟨_, rfl, rfl⟩) ?_
  refine ⟨by kernel_rfl, .refl _, ?_⟩
  ·
   intro H1 hle
   rintro _ _ Hk hlek ⟨gk, rfl, rfl⟩
   rintro _ _ Ht hlet ⟨gt, tv, rfl, rfl, htv⟩
   replace htv := RdL.mono hlet htv
   rintro _ _ Hn hlen ⟨gn, rfl, rfl⟩
   rintro _ _ Ha hlea ⟨rfl, rfl⟩
   rintro _ _ Hp hlep ⟨g5, rfl, rfl⟩
   have hL := Le.trans hL hle
   have hB := rd.mono hle hB
   have hX := rd.mono hle hX
   refine TL.toOwn (own' := _ :: _ :: _ :: _ :: _ :: own) rfl ?_
   refine TL.wk (env' := [(0, _), (1, _), (4, _), (23, _), (5, _)]) ⟨rfl, rfl, rfl, rfl, rfl, trivial⟩ ?_
   refine TL.storeA 0 0 (c' := #[_, _, _]) (own' := [(_, .cells #[_, _, _] _ _)] :: _) rfl rfl rfl rfl rfl ⟨rfl, rfl, rfl, trivial⟩ (by simp) rfl rfl rfl ?_
   refine TL.nil ?_
   refine TQ.then_n ?_
   refine TC.seq ?_
   refine TC.region ?_
   refine TL.move rfl rfl ?_
   refine TL.move rfl rfl ?_
   refine TL.call (ref_pairs hbl hxl hB hX) ⟨rfl, rfl, trivial⟩ rfl ?_
   rintro v26 _ H2 ⟨hps, rfl, hle2⟩
   have hL := Le.trans hL hle2
   have hB := rd.mono hle2 hB
   have hX := rd.mono hle2 hX
   have htv := RdL.mono hle2 htv
   obtain ⟨Ap, cp, rfl⟩ := pairs_len hps
   refine TL.assign rfl rfl ?_
   refine TL.nil ?_
   refine TQ.then_n ?_
   refine TC.seq ?_
   refine TC.region ?_
   refine TL.assign rfl rfl ?_
   refine TL.nil ?_
   refine TQ.then_n ?_
   refine TC.seq ?_
   refine TC.region ?_
   refine TL.assign rfl rfl ?_
   refine TL.nil ?_
   refine TQ.then_n ?_
   refine TC.seq ?_
   refine TC.seq ?_
   refine TC.sel 5 [3, 2, 1, 0, 4] rfl (fun o ho => ?_)
   simp only [K.sel, List.map_cons, List.map_nil, List.getD_cons_zero, List.getD_cons_succ, List.drop_succ_cons, List.drop_zero, List.cons_append, List.nil_append, List.set_cons_zero, List.set_cons_succ] at ho; subst ho
   refine TC.region ?_
   refine TL.assign rfl rfl ?_
   refine TL.nil ?_
   refine TQ.then_n ?_
   refine TC.block ?_
   have hplen := pairsP_len b x
   refine TC.loop (fun z env' own' H' => ∃ (k i j : Nat) (F : List Fate) (I : List (List Tr)) (tv iv : List Value), z = (pairsP b x).length - k ∧ k ≤ (pairsP b x).length ∧ alignGo x ((pairsP b x).drop k) i j ⟨F, I⟩ = alignP b x ∧ F.length = b.length ∧ I.length = b.length + 1 ∧
     (∀ q, i ≤ q → q < F.length → F[q]? = some .kept) ∧ Ord b.length x.length ((pairsP b x).drop k) i j ∧ RdL H' (Tr.ds (F.map Fate.to)) tv ∧ RdL H' (insD I) iv ∧ (∀ q, i ≤ q → q ≤ b.length → iv[q]? = some (.slice none 0 0)) ∧ env' = [(1, .slice B x.length cb), (4, .pointer (some ⟨g4, 0, none⟩)), (5, .pointer (some ⟨g5, 0, none⟩)), (6, .slice Ap (pairsP b x).length cp), (7, .int .i64 (i : Int)), (8, .int .i64 (j : Int)), (9, .int .i64 (k : Int))] ∧ own' = [(gk, .cells (tagV F).toArray 3 (0, 0))] :: [(gt, .cells tv.toArray 27 (0, 0))] :: [(gn, .cells iv.toArray 25 (0, 0))] :: [(g5, .cells #[.slice (some ⟨gk, 0, none⟩) b.length b.length, .slice (some ⟨gt, 0, none⟩) b.length b.length, .slice (some ⟨gn, 0, none⟩) (b.length + 1) (b.length + 1)] 145 (0, 0))] :: [(g4, .cells #[.slice none 0 0, .slice none 0 0, .slice none 0 0] 145 (0, 0))] :: own ∧ Le H2 H') (pairsP b x).length [(1, _), (4, _), (5, _), (6, _), (7, _), (8, _), (9, _)] ⟨rfl, rfl, rfl, rfl, rfl, rfl, rfl, trivial⟩
     ⟨0, 0, 0, _, _, tv, _, rfl, by omega, rfl, by simp, by simp, fun q _ hq => by simp at hq; simp [hq], pairsP_ord b x, htv, ins_none _ _, fun q _ hq => by rw [List.getElem?_replicate, if_pos (by omega)], rfl, rfl, Le.refl _⟩ ?_
   clear htv
   rintro z _ _ H1 ⟨k, i, j, F, I, tv, iv, rfl, hk1, hal, hFl, hIl, hkept, hord, ht, hi, hnil, rfl, rfl, hle0⟩
   have hil := hi.len
   simp only [insD, List.length_map] at hil
   have htl := ht.len
   rw [Tr.ds_len, List.length_map] at htl
   have hL := Le.trans hL hle0
   have hB := rd.mono hle0 hB
   have hX := rd.mono hle0 hX
   have hps := rd.mono hle0 hps
   refine TC.seq ?_
   refine TC.seq ?_
   refine TC.region ?_
   refine TL.move rfl rfl ?_
   refine TL.move rfl rfl ?_
   refine TL.len_slice rfl rfl ?_
   refine TL.lssB rfl rfl rfl (fun hlt => ?_) (fun hlt => ?_)
   ·
    obtain ⟨⟨n, m⟩, hget⟩ : ∃ p, (pairsP b x)[k]? = some p := ⟨_, List.getElem?_eq_getElem (by omega)⟩
    obtain ⟨b1, o1, rfl, hp⟩ := pairs_at hps hget
    rw [drop_cons hget] at hal hord
    obtain ⟨hn1, hm1, hn2, hm2, hord'⟩ := hord
    simp only [alignGo] at hal
    refine TL.nil ?_
    refine TQ.then_n ?_
    refine TC.cond_t rfl ?_
    refine TC.skip ?_
    refine TQ.then_n ?_
    refine TC.seq ?_
    refine TC.block ?_
    refine TC.seq ?_
    refine TC.region ?_
    refine TL.move rfl rfl ?_
    refine TL.move rfl rfl ?_
    refine TL.indexAddr (k) rfl rfl rfl (by omega) rfl ?_
    refine TL.indexArr (0) rfl rfl rfl (by omega) rfl ?_
    refine TL.load_imm rfl (hp.1) rfl ?_
    refine TL.move rfl rfl ?_
    refine TL.sub rfl rfl rfl ⟨by omega, by omega⟩ ?_
    refine TL.assign rfl rfl ?_
    refine TL.nil ?_
    refine TQ.then_n ?_
    refine TC.seq ?_
    refine TC.region ?_
    refine TL.move rfl rfl ?_
    refine TL.move rfl rfl ?_
    refine TL.indexAddr (k) rfl rfl rfl (by omega) rfl ?_
    refine TL.indexArr (1) rfl rfl rfl (by omega) rfl ?_
    refine TL.load_imm rfl (hp.2.1) rfl ?_
    refine TL.move rfl rfl ?_
    refine TL.sub rfl rfl rfl ⟨by omega, by omega⟩ ?_
    refine TL.assign rfl rfl ?_
    refine TL.nil ?_
    refine TQ.then_n ?_
    refine TC.seq ?_
    refine TC.seq ?_
    refine TC.region ?_
    refine TL.assign rfl rfl ?_
    refine TL.nil ?_
    refine TQ.then_n ?_
    refine TC.block ?_
    refine TC.loop (fun z env' own' H' => ∃ (c : Nat) (tv2 : List Value), z = (n - i) - c ∧ c ≤ n - i ∧ RdL H' (Tr.ds ((gapK x i j n m c F).map Fate.to)) tv2 ∧ env' = [(1, .slice B x.length cb), (4, .pointer (some ⟨g4, 0, none⟩)), (5, .pointer (some ⟨g5, 0, none⟩)), (6, .slice (some ⟨b1, o1, none⟩) (pairsP b x).length cp), (7, .int .i64 (i : Int)), (8, .int .i64 (j : Int)), (9, .int .i64 (k : Int)), (10, .int .i64 ((n : Int) - (i : Int))), (11, .int .i64 ((m : Int) - (j : Int))), (12, .int .i64 (c : Int))] ∧ own' = [(gk, .cells (tagV (gapK x i j n m c F)).toArray 3 (0, 0))] :: [(gt, .cells tv2.toArray 27 (0, 0))] :: [(gn, .cells iv.toArray 25 (0, 0))] :: [(g5, .cells #[.slice (some ⟨gk, 0, none⟩) b.length b.length, .slice (some ⟨gt, 0, none⟩) b.length b.length, .slice (some ⟨gn, 0, none⟩) (b.length + 1) (b.length + 1)] 145 (0, 0))] :: [(g4, .cells #[.slice none 0 0, .slice none 0 0, .slice none 0 0] 145 (0, 0))] :: own ∧ Le H1 H') (n - i) [(1, _), (4, _), (5, _), (6, _), (7, _), (8, _), (9, _), (10, _), (11, _), (12, _)] ⟨rfl, rfl, rfl, rfl, rfl, rfl, rfl, rfl, rfl, rfl, trivial⟩ ⟨0, tv, rfl, by omega, ht, rfl, rfl, Le.refl _⟩ ?_
    clear ht htl
    rintro z _ _ H3 ⟨c, tv2, rfl, hc1, ht2, rfl, rfl, hle3⟩
    have htl := ht2.len
    rw [Tr.ds_len, List.length_map, gapK_len] at htl
    have hL := Le.trans hL hle3
    have hB := rd.mono hle3 hB
    have hX := rd.mono hle3 hX
    have hps := rd.mono hle3 hps
    have hle0 := Le.trans hle0 hle3
    have hi := RdL.mono hle3 hi
    have hp := hAt.mono hle3 hp
    refine TC.seq ?_
    refine TC.seq ?_
    refine TC.region ?_
    refine TL.move rfl rfl ?_
    refine TL.move rfl rfl ?_
    refine TL.lssB rfl rfl rfl (fun hlc => ?_) (fun hlc => ?_)
    ·
     have hgk : (gapK x i j n m c F)[i + c]? = some .kept := by rw [gapK_get _ _ _ _ _ _ _ _ (by omega)]; exact hkept _ (by omega) (by omega)
     refine TL.nil ?_
     refine TQ.then_n ?_
     refine TC.cond_t rfl ?_
     refine TC.skip ?_
     refine TQ.then_n ?_
     refine TC.seq ?_
     refine TC.block ?_
     refine TC.seq ?_
     refine TC.region ?_
     refine TL.fieldAddr rfl rfl ?_
     refine TL.load_own 3 0 rfl rfl rfl rfl rfl ?_
     refine TL.move rfl rfl ?_
     refine TL.move rfl rfl ?_
     refine TL.add rfl rfl rfl ⟨by omega, by omega⟩ ?_
     refine TL.indexAddr (i + c) rfl rfl (by omega) (by omega) rfl ?_
     refine TL.store1 0 0 (c' := ((tagV (gapK x i j n m c F)).set (i + c) (.int .i64 2)).toArray) (own' := [(_, .cells ((tagV (gapK x i j n m c F)).set (i + c) (.int .i64 2)).toArray _ _)] :: _) rfl rfl rfl rfl rfl (by simp [tagV_len, gapK_len]; omega) (set_toArr _ _ (by omega)) rfl rfl ?_
     refine TL.nil ?_
     refine TQ.then_n ?_
     refine TC.seq ?_
     refine TC.region ?_
     refine TL.move rfl rfl ?_
     refine TL.move rfl rfl ?_
     refine TL.eqlB rfl rfl rfl (fun heq => ?_) (fun heq => ?_)
     ·
      obtain ⟨t, ht⟩ : ∃ t, x[j + c]? = some t := ⟨_, List.getElem?_eq_getElem (by omega)⟩
      obtain ⟨b2, o2, p0, p1, rfl, hq, hpr⟩ := trs_at hX ht
      refine TL.nil ?_
      refine TQ.then_n ?_
      refine TC.cond_t rfl ?_
      refine TC.seq ?_
      refine TC.region ?_
      refine TL.fieldAddr rfl rfl ?_
      refine TL.load_own 3 0 rfl rfl rfl rfl rfl ?_
      refine TL.move rfl rfl ?_
      refine TL.move rfl rfl ?_
      refine TL.add rfl rfl rfl ⟨by omega, by omega⟩ ?_
      refine TL.indexAddr (i + c) rfl rfl (by omega) (by omega) rfl ?_
      refine TL.store1 0 0 (c' := (((tagV (gapK x i j n m c F)).set (i + c) (.int .i64 2)).set (i + c) (.int .i64 1)).toArray) (own' := [(_, .cells (((tagV (gapK x i j n m c F)).set (i + c) (.int .i64 2)).set (i + c) (.int .i64 1)).toArray _ _)] :: _) rfl rfl rfl rfl rfl (by simp [tagV_len, gapK_len]; omega) (set_toArr _ _ (by omega)) rfl rfl ?_
      refine TL.nil ?_
      refine TQ.then_n ?_
      refine TC.drawQV 11  [(1, _), (4, _), (5, _), (6, _), (7, _), (8, _), (9, _), (10, _), (11, _), (12, _)] follows_mixed ⟨rfl, rfl, rfl, rfl, rfl, rfl, rfl, rfl, rfl, rfl, trivial⟩ ?_
      refine ChainV.q (some 67) [] (by
       intro H' X F hle
       have hL := Le.trans hL hle
       have hB := rd.mono hle hB
       have hX := rd.mono hle hX
       have hps := rd.mono hle hps
       have hle0 := Le.trans hle0 hle
       have hi := RdL.mono hle hi
       have hp := hAt.mono hle hp
       have hle3 := Le.trans hle3 hle
       have ht2 := RdL.mono hle ht2
       have hq := hAt.mono hle hq
       have hpr := RdL.mono hle hpr
       intro hF
       refine TL.fieldAddr rfl rfl ?_
       refine TL.nil ?_
       exact TQ.one [] hF (Le.refl _) ⟨rfl, rfl⟩) ?_
      refine ChainV.q (some 68) [(0, 0)] (by
       intro H' X F hle
       have hL := Le.trans hL hle
       have hB := rd.mono hle hB
       have hX := rd.mono hle hX
       have hps := rd.mono hle hps
       have hle0 := Le.trans hle0 hle
       have hi := RdL.mono hle hi
       have hp := hAt.mono hle hp
       have hle3 := Le.trans hle3 hle
       have ht2 := RdL.mono hle ht2
       have hq := hAt.mono hle hq
       have hpr := RdL.mono hle hpr
       intro hF
       refine TL.load_own 3 0 rfl rfl rfl rfl rfl ?_
       refine TL.nil ?_
       exact TQ.one [] hF (Le.refl _) ⟨rfl, rfl⟩) ?_
      refine ChainV.q (some 69) [] (by
       intro H' X F hle
       have hL := Le.trans hL hle
       have hB := rd.mono hle hB
       have hX := rd.mono hle hX
       have hps := rd.mono hle hps
       have hle0 := Le.trans hle0 hle
       have hi := RdL.mono hle hi
       have hp := hAt.mono hle hp
       have hle3 := Le.trans hle3 hle
       have ht2 := RdL.mono hle ht2
       have hq := hAt.mono hle hq
       have hpr := RdL.mono hle hpr
       intro hF
       refine TL.move rfl rfl ?_
       refine TL.nil ?_
       exact TQ.one [] hF (Le.refl _) ⟨rfl, rfl⟩) ?_
      refine ChainV.q (some 70) [] (by
       intro H' X F hle
       have hL := Le.trans hL hle
       have hB := rd.mono hle hB
       have hX := rd.mono hle hX
       have hps := rd.mono hle hps
       have hle0 := Le.trans hle0 hle
       have hi := RdL.mono hle hi
       have hp := hAt.mono hle hp
       have hle3 := Le.trans hle3 hle
       have ht2 := RdL.mono hle ht2
       have hq := hAt.mono hle hq
       have hpr := RdL.mono hle hpr
       intro hF
       refine TL.move rfl rfl ?_
       refine TL.nil ?_
       exact TQ.one [] hF (Le.refl _) ⟨rfl, rfl⟩) ?_
      refine ChainV.q (some 71) [(2, 1), (3, 0)] (by
       intro H' X F hle
       have hL := Le.trans hL hle
       have hB := rd.mono hle hB
       have hX := rd.mono hle hX
       have hps := rd.mono hle hps
       have hle0 := Le.trans hle0 hle
       have hi := RdL.mono hle hi
       have hp := hAt.mono hle hp
       have hle3 := Le.trans hle3 hle
       have ht2 := RdL.mono hle ht2
       have hq := hAt.mono hle hq
       have hpr := RdL.mono hle hpr
       intro hF
       refine TL.add rfl rfl rfl ⟨by omega, by omega⟩ ?_
       refine TL.nil ?_
       exact TQ.one [] hF (Le.refl _) ⟨rfl, rfl⟩) ?_
      refine ChainV.q (some 72) [] (by
       intro H' X F hle
       have hL := Le.trans hL hle
       have hB := rd.mono hle hB
       have hX := rd.mono hle hX
       have hps := rd.mono hle hps
       have hle0 := Le.trans hle0 hle
       have hi := RdL.mono hle hi
       have hp := hAt.mono hle hp
       have hle3 := Le.trans hle3 hle
       have ht2 := RdL.mono hle ht2
       have hq := hAt.mono hle hq
       have hpr := RdL.mono hle hpr
       intro hF
       refine TL.move rfl rfl ?_
       refine TL.nil ?_
       exact TQ.one [] hF (Le.refl _) ⟨rfl, rfl⟩) ?_
      refine ChainV.q (some 73) [] (by
       intro H' X F hle
       have hL := Le.trans hL hle
       have hB := rd.mono hle hB
       have hX := rd.mono hle hX
       have hps := rd.mono hle hps
       have hle0 := Le.trans hle0 hle
       have hi := RdL.mono hle hi
       have hp := hAt.mono hle hp
       have hle3 := Le.trans hle3 hle
       have ht2 := RdL.mono hle ht2
       have hq := hAt.mono hle hq
       have hpr := RdL.mono hle hpr
       intro hF
       refine TL.move rfl rfl ?_
       refine TL.nil ?_
       exact TQ.one [] hF (Le.refl _) ⟨rfl, rfl⟩) ?_
      refine ChainV.q (some 74) [] (by
       intro H' X F hle
       have hL := Le.trans hL hle
       have hB := rd.mono hle hB
       have hX := rd.mono hle hX
       have hps := rd.mono hle hps
       have hle0 := Le.trans hle0 hle
       have hi := RdL.mono hle hi
       have hp := hAt.mono hle hp
       have hle3 := Le.trans hle3 hle
       have ht2 := RdL.mono hle ht2
       have hq := hAt.mono hle hq
       have hpr := RdL.mono hle hpr
       intro hF
       refine TL.move rfl rfl ?_
       refine TL.nil ?_
       exact TQ.one [] hF (Le.refl _) ⟨rfl, rfl⟩) ?_
      refine ChainV.q (some 75) [(6, 1), (7, 0)] (by
       intro H' X F hle
       have hL := Le.trans hL hle
       have hB := rd.mono hle hB
       have hX := rd.mono hle hX
       have hps := rd.mono hle hps
       have hle0 := Le.trans hle0 hle
       have hi := RdL.mono hle hi
       have hp := hAt.mono hle hp
       have hle3 := Le.trans hle3 hle
       have ht2 := RdL.mono hle ht2
       have hq := hAt.mono hle hq
       have hpr := RdL.mono hle hpr
       intro hF
       refine TL.add rfl rfl rfl ⟨by omega, by omega⟩ ?_
       refine TL.nil ?_
       exact TQ.one [] hF (Le.refl _) ⟨rfl, rfl⟩) ?_
      refine ChainV.q (some 76) [(5, 3), (8, 0)] (by
       intro H' X F hle
       have hL := Le.trans hL hle
       have hB := rd.mono hle hB
       have hX := rd.mono hle hX
       have hps := rd.mono hle hps
       have hle0 := Le.trans hle0 hle
       have hi := RdL.mono hle hi
       have hp := hAt.mono hle hp
       have hle3 := Le.trans hle3 hle
       have ht2 := RdL.mono hle ht2
       have hq := hAt.mono hle hq
       have hpr := RdL.mono hle hpr
       intro hF
       refine TL.indexAddr (j + c) rfl rfl (by omega) (by omega) rfl ?_
       refine TL.nil ?_
       exact TQ.one [] hF (Le.refl _) ⟨rfl, rfl⟩) ?_
      refine ChainV.q (some 77) [(9, 0)] (by
       intro H' X F hle
       have hL := Le.trans hL hle
       have hB := rd.mono hle hB
       have hX := rd.mono hle hX
       have hps := rd.mono hle hps
       have hle0 := Le.trans hle0 hle
       have hi := RdL.mono hle hi
       have hp := hAt.mono hle hp
       have hle3 := Le.trans hle3 hle
       have ht2 := RdL.mono hle ht2
       have hq := hAt.mono hle hq
       have hpr := RdL.mono hle hpr
       intro hF
       refine TL.load_immA rfl (hq) rfl rfl ?_
       refine TL.nil ?_
       exact TQ.one [] hF (Le.refl _) ⟨rfl, rfl⟩) ?_
      refine ⟨by kernel_rfl, .refl _, ?_⟩
      ·
       intro H2 hle
       have hL := Le.trans hL hle
       have hB := rd.mono hle hB
       have hX := rd.mono hle hX
       have hps := rd.mono hle hps
       have hle0 := Le.trans hle0 hle
       have hi := RdL.mono hle hi
       have hp := hAt.mono hle hp
       have hle3 := Le.trans hle3 hle
       have ht2 := RdL.mono hle ht2
       have hq := hAt.mono hle hq
       have hpr := RdL.mono hle hpr
       refine TL.toOwn (own' := _ :: _ :: _ :: _ :: _ :: own) rfl ?_
       refine TL.wk (env' := [(1, _), (4, _), (5, _), (6, _), (7, _), (8, _), (9, _), (10, _), (11, _), (12, _), (68, _), (71, _), (77, _)]) ⟨rfl, rfl, rfl, rfl, rfl, rfl, rfl, rfl, rfl, rfl, rfl, rfl, rfl, trivial⟩ ?_
       refine TL.indexAddr (i + c) rfl rfl (by omega) (by omega) rfl ?_
       refine TL.storeA 1 0 (vs := [p0, p1]) (c' := ((tv2.set ((i + c) * 2) p0).set ((i + c) * 2 + 1) p1).toArray) (own' := _ :: [(_, .cells ((tv2.set ((i + c) * 2) p0).set ((i + c) * 2 + 1) p1).toArray _ _)] :: _) rfl rfl rfl rfl rfl (tr_ones hpr) (by simp; omega) (set2_toArr _ _ _ (by omega)) rfl rfl ?_
       refine TL.nil ?_
       refine TQ.in_n ?_
       refine TQ.then_n ?_
       refine TC.region ?_
       refine TL.move rfl rfl ?_
       refine TL.add rfl rfl rfl ⟨by omega, by omega⟩ ?_
       refine TL.assign rfl rfl ?_
       refine TL.nil ?_
       refine TQ.toOwn (own' := _ :: _ :: _ :: _ :: _ :: own) rfl ?_
       refine TQ.next ((n - i) - (c + 1)) [(1, _), (4, _), (5, _), (6, _), (7, _), (8, _), (9, _), (10, _), (11, _), (12, _)] (by omega) ⟨rfl, rfl, rfl, rfl, rfl, rfl, rfl, rfl, rfl, rfl, trivial⟩ ⟨c + 1, (tv2.set ((i + c) * 2) p0).set ((i + c) * 2 + 1) p1, rfl, by omega, ?_, by simp, ?_, hle3⟩
       · rw [gapK_eq (by omega) ht, List.map_set]
         exact trs_set ht2 hpr
       · rw [gapK_eq (by omega) ht, tagV_set, List.set_set]
         rfl
     ·
      refine TL.nil ?_
      refine TQ.then_n ?_
      refine TC.cond_f rfl ?_
      refine TC.skip ?_
      refine TQ.in_n ?_
      refine TQ.then_n ?_
      refine TC.region ?_
      refine TL.move rfl rfl ?_
      refine TL.add rfl rfl rfl ⟨by omega, by omega⟩ ?_
      refine TL.assign rfl rfl ?_
      refine TL.nil ?_
      refine TQ.toOwn (own' := _ :: _ :: _ :: _ :: _ :: own) rfl ?_
      refine TQ.next ((n - i) - (c + 1)) [(1, _), (4, _), (5, _), (6, _), (7, _), (8, _), (9, _), (10, _), (11, _), (12, _)] (by omega) ⟨rfl, rfl, rfl, rfl, rfl, rfl, rfl, rfl, rfl, rfl, trivial⟩ ⟨c + 1, tv2, rfl, by omega, ?_, by simp, ?_, hle3⟩
      · rw [gapK_ne (by omega), List.map_set, set_same (by rw [List.getElem?_map, hgk]; rfl)]
        exact ht2
      · rw [gapK_ne (by omega), tagV_set]
        rfl
    ·
     refine TL.nil ?_
     refine TQ.then_n ?_
     refine TC.cond_f rfl ?_
     refine TC.exit ?_
     refine TQ.then_e ?_
     refine TQ.then_e ?_
     refine TQ.in_e ?_
     refine TQ.then_n ?_
     refine TC.seq ?_
     refine TC.seq ?_
     have hcn : c = n - i := by omega
     subst hcn
     refine TC.region ?_
     refine TL.move rfl rfl ?_
     refine TL.move rfl rfl ?_
     refine TL.neqB rfl rfl rfl (fun hne => ?_) (fun hne => ?_)
     ·
      refine TL.nil ?_
      refine TQ.then_n ?_
      refine TC.cond_t rfl ?_
      refine TC.drawQV 15  [(1, _), (4, _), (5, _), (6, _), (7, _), (8, _), (9, _), (10, _), (11, _), (12, _)] follows_mixed ⟨rfl, rfl, rfl, rfl, rfl, rfl, rfl, rfl, rfl, rfl, trivial⟩ ?_
      refine ChainV.q (some 82) [] (by
       intro H' X F hle
       have hL := Le.trans hL hle
       have hB := rd.mono hle hB
       have hX := rd.mono hle hX
       have hps := rd.mono hle hps
       have hle0 := Le.trans hle0 hle
       have hi := RdL.mono hle hi
       have hp := hAt.mono hle hp
       have hle3 := Le.trans hle3 hle
       have ht2 := RdL.mono hle ht2
       intro hF
       refine TL.fieldAddr rfl rfl ?_
       refine TL.nil ?_
       exact TQ.one [] hF (Le.refl _) ⟨rfl, rfl⟩) ?_
      refine ChainV.q (some 83) [(0, 0)] (by
       intro H' X F hle
       have hL := Le.trans hL hle
       have hB := rd.mono hle hB
       have hX := rd.mono hle hX
       have hps := rd.mono hle hps
       have hle0 := Le.trans hle0 hle
       have hi := RdL.mono hle hi
       have hp := hAt.mono hle hp
       have hle3 := Le.trans hle3 hle
       have ht2 := RdL.mono hle ht2
       intro hF
       refine TL.load_own 3 0 rfl rfl rfl rfl rfl ?_
       refine TL.nil ?_
       exact TQ.one [] hF (Le.refl _) ⟨rfl, rfl⟩) ?_
      refine ChainV.q (some 84) [] (by
       intro H' X F hle
       have hL := Le.trans hL hle
       have hB := rd.mono hle hB
       have hX := rd.mono hle hX
       have hps := rd.mono hle hps
       have hle0 := Le.trans hle0 hle
       have hi := RdL.mono hle hi
       have hp := hAt.mono hle hp
       have hle3 := Le.trans hle3 hle
       have ht2 := RdL.mono hle ht2
       intro hF
       refine TL.move rfl rfl ?_
       refine TL.nil ?_
       exact TQ.one [] hF (Le.refl _) ⟨rfl, rfl⟩) ?_
      refine ChainV.q (some 85) [] (by
       intro H' X F hle
       have hL := Le.trans hL hle
       have hB := rd.mono hle hB
       have hX := rd.mono hle hX
       have hps := rd.mono hle hps
       have hle0 := Le.trans hle0 hle
       have hi := RdL.mono hle hi
       have hp := hAt.mono hle hp
       have hle3 := Le.trans hle3 hle
       have ht2 := RdL.mono hle ht2
       intro hF
       refine TL.fieldAddr rfl rfl ?_
       refine TL.nil ?_
       exact TQ.one [] hF (Le.refl _) ⟨rfl, rfl⟩) ?_
      refine ChainV.q (some 86) [(3, 0)] (by
       intro H' X F hle
       have hL := Le.trans hL hle
       have hB := rd.mono hle hB
       have hX := rd.mono hle hX
       have hps := rd.mono hle hps
       have hle0 := Le.trans hle0 hle
       have hi := RdL.mono hle hi
       have hp := hAt.mono hle hp
       have hle3 := Le.trans hle3 hle
       have ht2 := RdL.mono hle ht2
       intro hF
       refine TL.load_own 3 0 rfl rfl rfl rfl rfl ?_
       refine TL.nil ?_
       exact TQ.one [] hF (Le.refl _) ⟨rfl, rfl⟩) ?_
      refine ChainV.q (some 87) [] (by
       intro H' X F hle
       have hL := Le.trans hL hle
       have hB := rd.mono hle hB
       have hX := rd.mono hle hX
       have hps := rd.mono hle hps
       have hle0 := Le.trans hle0 hle
       have hi := RdL.mono hle hi
       have hp := hAt.mono hle hp
       have hle3 := Le.trans hle3 hle
       have ht2 := RdL.mono hle ht2
       intro hF
       refine TL.move rfl rfl ?_
       refine TL.nil ?_
       exact TQ.one [] hF (Le.refl _) ⟨rfl, rfl⟩) ?_
      refine ChainV.q (some 88) [(4, 1), (5, 0)] (by
       intro H' X F hle
       have hL := Le.trans hL hle
       have hB := rd.mono hle hB
       have hX := rd.mono hle hX
       have hps := rd.mono hle hps
       have hle0 := Le.trans hle0 hle
       have hi := RdL.mono hle hi
       have hp := hAt.mono hle hp
       have hle3 := Le.trans hle3 hle
       have ht2 := RdL.mono hle ht2
       intro hF
       refine TL.indexAddr (i) rfl rfl rfl (by omega) rfl ?_
       refine TL.nil ?_
       exact TQ.one [] hF (Le.refl _) ⟨rfl, rfl⟩) ?_
      refine ChainV.q (some 89) [(6, 0)] (by
       intro H' X F hle
       have hL := Le.trans hL hle
       have hB := rd.mono hle hB
       have hX := rd.mono hle hX
       have hps := rd.mono hle hps
       have hle0 := Le.trans hle0 hle
       have hi := RdL.mono hle hi
       have hp := hAt.mono hle hp
       have hle3 := Le.trans hle3 hle
       have ht2 := RdL.mono hle ht2
       intro hF
       refine TL.load_own 2 0 rfl rfl rfl (by rw [lget_arr]; simpa using hnil i (Nat.le_refl _) (by omega)) rfl ?_
       refine TL.nil ?_
       exact TQ.one [] hF (Le.refl _) ⟨rfl, rfl⟩) ?_
      refine ChainV.q (some 90) [] (by
       intro H' X F hle
       have hL := Le.trans hL hle
       have hB := rd.mono hle hB
       have hX := rd.mono hle hX
       have hps := rd.mono hle hps
       have hle0 := Le.trans hle0 hle
       have hi := RdL.mono hle hi
       have hp := hAt.mono hle hp
       have hle3 := Le.trans hle3 hle
       have ht2 := RdL.mono hle ht2
       intro hF
       refine TL.move rfl rfl ?_
       refine TL.nil ?_
       exact TQ.one [] hF (Le.refl _) ⟨rfl, rfl⟩) ?_
      refine ChainV.q (some 91) [] (by
       intro H' X F hle
       have hL := Le.trans hL hle
       have hB := rd.mono hle hB
       have hX := rd.mono hle hX
       have hps := rd.mono hle hps
       have hle0 := Le.trans hle0 hle
       have hi := RdL.mono hle hi
       have hp := hAt.mono hle hp
       have hle3 := Le.trans hle3 hle
       have ht2 := RdL.mono hle ht2
       intro hF
       refine TL.move rfl rfl ?_
       refine TL.nil ?_
       exact TQ.one [] hF (Le.refl _) ⟨rfl, rfl⟩) ?_
      refine ChainV.q (some 92) [] (by
       intro H' X F hle
       have hL := Le.trans hL hle
       have hB := rd.mono hle hB
       have hX := rd.mono hle hX
       have hps := rd.mono hle hps
       have hle0 := Le.trans hle0 hle
       have hi := RdL.mono hle hi
       have hp := hAt.mono hle hp
       have hle3 := Le.trans hle3 hle
       have ht2 := RdL.mono hle ht2
       intro hF
       refine TL.move rfl rfl ?_
       refine TL.nil ?_
       exact TQ.one [] hF (Le.refl _) ⟨rfl, rfl⟩) ?_
      refine ChainV.q (some 93) [] (by
       intro H' X F hle
       have hL := Le.trans hL hle
       have hB := rd.mono hle hB
       have hX := rd.mono hle hX
       have hps := rd.mono hle hps
       have hle0 := Le.trans hle0 hle
       have hi := RdL.mono hle hi
       have hp := hAt.mono hle hp
       have hle3 := Le.trans hle3 hle
       have ht2 := RdL.mono hle ht2
       intro hF
       refine TL.move rfl rfl ?_
       refine TL.nil ?_
       exact TQ.one [] hF (Le.refl _) ⟨rfl, rfl⟩) ?_
      refine ChainV.q (some 94) [(10, 1), (11, 0)] (by
       intro H' X F hle
       have hL := Le.trans hL hle
       have hB := rd.mono hle hB
       have hX := rd.mono hle hX
       have hps := rd.mono hle hps
       have hle0 := Le.trans hle0 hle
       have hi := RdL.mono hle hi
       have hp := hAt.mono hle hp
       have hle3 := Le.trans hle3 hle
       have ht2 := RdL.mono hle ht2
       intro hF
       refine TL.add rfl rfl rfl ⟨by omega, by omega⟩ ?_
       refine TL.nil ?_
       exact TQ.one [] hF (Le.refl _) ⟨rfl, rfl⟩) ?_
      refine ChainV.q (some 95) [(8, 4), (9, 3), (12, 0)] (by
       intro H' X F hle
       have hL := Le.trans hL hle
       have hB := rd.mono hle hB
       have hX := rd.mono hle hX
       have hps := rd.mono hle hps
       have hle0 := Le.trans hle0 hle
       have hi := RdL.mono hle hi
       have hp := hAt.mono hle hp
       have hle3 := Le.trans hle3 hle
       have ht2 := RdL.mono hle ht2
       intro hF
       refine TL.slice (j) (m) rfl ⟨_, _, rfl, rfl⟩ ⟨_, _, rfl, rfl⟩ rfl (by simp only [Option.getD_some]; omega) (by omega) (by omega) rfl ?_
       refine TL.nil ?_
       exact TQ.one [] hF (Le.refl _) ⟨rfl, rfl⟩) ?_
      refine ChainV.r (some 96) [(7, 6), (13, 0)] ([]) (fun _ => fun u s_ H => rd H (.s 2 (Tr.ds ((x.drop j).take (m - j)))) u ∧ s_ = []) (by
       intro H' X F hle
       have hL := Le.trans hL hle
       have hB := rd.mono hle hB
       have hX := rd.mono hle hX
       have hps := rd.mono hle hps
       have hle0 := Le.trans hle0 hle
       have hi := RdL.mono hle hi
       have hp := hAt.mono hle hp
       have hle3 := Le.trans hle3 hle
       have ht2 := RdL.mono hle ht2
       intro hF
       obtain ⟨news, hsrc, hn⟩ := (trs_cut hX hm1 hm2).src (Tr.ds_one _)
       refine TL.nilseg ?_
       refine TL.appendA 0 rfl rfl rfl (.inl (Row.nil 27 2)) (hsrc _ _) (by omega) (by omega) rfl ?_
       intro u96 sg96 hrow96
       refine TL.nil ?_
       refine TQ.freeze (fun H9 hle9 hz => ?_)
       exact TQ.one [] hF hle9 ⟨rd.ofRowA hrow96 hz (by simpa using hn) hle9, rfl⟩) ?_
      refine ⟨by kernel_rfl, .refl _, ?_⟩
      ·
       intro H3 hle
       rintro u96 _ H96 hle96 ⟨hr96, rfl⟩
       replace hr96 := rd.mono hle96 hr96
       have hL := Le.trans hL hle
       have hB := rd.mono hle hB
       have hX := rd.mono hle hX
       have hps := rd.mono hle hps
       have hle0 := Le.trans hle0 hle
       have hi := RdL.mono hle hi
       have hp := hAt.mono hle hp
       have hle3 := Le.trans hle3 hle
       have ht2 := RdL.mono hle ht2
       refine TL.toOwn (own' := _ :: _ :: _ :: _ :: _ :: own) rfl ?_
       refine TL.wk (env' := [(1, _), (4, _), (5, _), (6, _), (7, _), (8, _), (9, _), (10, _), (11, _), (12, _), (83, _), (84, _), (96, _)]) ⟨rfl, rfl, rfl, rfl, rfl, rfl, rfl, rfl, rfl, rfl, rfl, rfl, rfl, trivial⟩ ?_
       refine TL.indexAddr (i) rfl rfl rfl (by omega) rfl ?_
       refine TL.store1 2 0 (c' := (iv.set i u96).toArray) (own' := _ :: _ :: [(_, .cells (iv.set i u96).toArray _ _)] :: _) rfl rfl rfl rfl (rd.one (sz := 2) hr96) (by simp; omega) (set_toArr _ _ (by omega)) rfl rfl ?_
       refine TL.nil ?_
       refine TQ.then_n ?_
       refine TC.seq ?_
       refine TC.region ?_
       refine TL.move rfl rfl ?_
       refine TL.move rfl rfl ?_
       refine TL.indexAddr (k) rfl rfl rfl (by omega) rfl ?_
       refine TL.indexArr (0) rfl rfl rfl (by omega) rfl ?_
       refine TL.load_imm rfl (hp.1) rfl ?_
       refine TL.add rfl rfl rfl ⟨by omega, by omega⟩ ?_
       refine TL.assign rfl rfl ?_
       refine TL.nil ?_
       refine TQ.then_n ?_
       refine TC.region ?_
       refine TL.move rfl rfl ?_
       refine TL.move rfl rfl ?_
       refine TL.indexAddr (k) rfl rfl rfl (by omega) rfl ?_
       refine TL.indexArr (1) rfl rfl rfl (by omega) rfl ?_
       refine TL.load_imm rfl (hp.2.1) rfl ?_
       refine TL.add rfl rfl rfl ⟨by omega, by omega⟩ ?_
       refine TL.assign rfl rfl ?_
       refine TL.nil ?_
       refine TQ.in_n ?_
       refine TQ.then_n ?_
       refine TC.region ?_
       refine TL.move rfl rfl ?_
       refine TL.add rfl rfl rfl ⟨by omega, by omega⟩ ?_
       refine TL.assign rfl rfl ?_
       refine TL.nil ?_
       refine TQ.toOwn (own' := _ :: _ :: _ :: _ :: _ :: own) rfl ?_
       refine TQ.next ((pairsP b x).length - (k + 1)) [(1, _), (4, _), (5, _), (6, _), (7, _), (8, _), (9, _)] (by omega) ⟨rfl, rfl, rfl, rfl, rfl, rfl, rfl, trivial⟩ ⟨k + 1, n + 1, m + 1, _, _, tv2, (iv.set i u96), rfl, by omega, hal, by rw [gapK_len]; exact hFl, by rw [gapI_len]; exact hIl, fun q h1 h2 => ?_, hord', ht2, ?_, ?_, by simp, rfl, hle0⟩
       · rw [gapK_len] at h2
         rw [gapK_get x i j n m (n - i) F q (by omega)]
         exact hkept q (by omega) h2
       · unfold gapI
         rw [if_neg (by omega)]
         exact ins_set hi hr96
       · intro q h1 h2
         rw [List.getElem?_set_ne (by omega)]
         exact hnil q (by omega) h2
     ·
      refine TL.nil ?_
      refine TQ.then_n ?_
      refine TC.cond_f rfl ?_
      refine TC.skip ?_
      refine TQ.then_n ?_
      refine TC.seq ?_
      refine TC.region ?_
      refine TL.move rfl rfl ?_
      refine TL.move rfl rfl ?_
      refine TL.indexAddr (k) rfl rfl rfl (by omega) rfl ?_
      refine TL.indexArr (0) rfl rfl rfl (by omega) rfl ?_
      refine TL.load_imm rfl (hp.1) rfl ?_
      refine TL.add rfl rfl rfl ⟨by omega, by omega⟩ ?_
      refine TL.assign rfl rfl ?_
      refine TL.nil ?_
      refine TQ.then_n ?_
      refine TC.region ?_
      refine TL.move rfl rfl ?_
      refine TL.move rfl rfl ?_
      refine TL.indexAddr (k) rfl rfl rfl (by omega) rfl ?_
      refine TL.indexArr (1) rfl rfl rfl (by omega) rfl ?_
      refine TL.load_imm rfl (hp.2.1) rfl ?_
      refine TL.add rfl rfl rfl ⟨by omega, by omega⟩ ?_
      refine TL.assign rfl rfl ?_
      refine TL.nil ?_
      refine TQ.in_n ?_
      refine TQ.then_n ?_
      refine TC.region ?_
      refine TL.move rfl rfl ?_
      refine TL.add rfl rfl rfl ⟨by omega, by omega⟩ ?_
      refine TL.assign rfl rfl ?_
      refine TL.nil ?_
      refine TQ.toOwn (own' := _ :: _ :: _ :: _ :: _ :: own) rfl ?_
      refine TQ.next ((pairsP b x).length - (k + 1)) [(1, _), (4, _), (5, _), (6, _), (7, _), (8, _), (9, _)] (by omega) ⟨rfl, rfl, rfl, rfl, rfl, rfl, rfl, trivial⟩ ⟨k + 1, n + 1, m + 1, _, _, tv2, iv, rfl, by omega, hal, by rw [gapK_len]; exact hFl, by rw [gapI_len]; exact hIl, fun q h1 h2 => ?_, hord', ht2, ?_, ?_, by simp, rfl, hle0⟩
      · rw [gapK_len] at h2
        rw [gapK_get x i j n m (n - i) F q (by omega)]
        exact hkept q (by omega) h2
      · unfold gapI
        rw [if_pos (by omega)]
        exact hi
      · exact fun q h1 h2 => hnil q (by omega) h2
   ·
    refine TL.nil ?_
    refine TQ.then_n ?_
    refine TC.cond_f rfl ?_
    refine TC.exit ?_
    refine TQ.then_e ?_
    refine TQ.then_e ?_
    refine TQ.in_e ?_
    refine TQ.then_n ?_
    refine TC.seq ?_
    have hkn : k = (pairsP b x).length := by omega
    rw [hkn, List.drop_length] at hal
    refine TC.region ?_
    refine TL.load_ownA 3 0 [_, _, _] rfl rfl rfl ⟨rfl, rfl, rfl, trivial⟩ rfl rfl ?_
    refine TL.storeA 4 0 (c' := #[_, _, _]) (own' := _ :: _ :: _ :: _ :: [(_, .cells #[_, _, _] _ _)] :: _) rfl rfl rfl rfl rfl ⟨rfl, rfl, rfl, trivial⟩ (by simp) rfl rfl rfl ?_
    refine TL.nil ?_
    refine TQ.then_n ?_
    refine TC.ret ?_
    refine TQ.freeze (fun H4 hle hz_gk => ?_)
    have hL := Le.trans hL hle
    have hB := rd.mono hle hB
    have hX := rd.mono hle hX
    have hps := rd.mono hle hps
    have hle0 := Le.trans hle0 hle
    have ht := RdL.mono hle ht
    have hi := RdL.mono hle hi
    refine TQ.freeze (fun H5 hle hz_gt => ?_)
    have hL := Le.trans hL hle
    have hB := rd.mono hle hB
    have hX := rd.mono hle hX
    have hps := rd.mono hle hps
    have hle0 := Le.trans hle0 hle
    have ht := RdL.mono hle ht
    have hi := RdL.mono hle hi
    have hz_gk := hz.mono hle hz_gk
    refine TQ.freeze (fun H6 hle hz_gn => ?_)
    have hL := Le.trans hL hle
    have hB := rd.mono hle hB
    have hX := rd.mono hle hX
    have hps := rd.mono hle hps
    have hle0 := Le.trans hle0 hle
    have ht := RdL.mono hle ht
    have hi := RdL.mono hle hi
    have hz_gk := hz.mono hle hz_gk
    have hz_gt := hz.mono hle hz_gt
    refine TQ.retC 1 0 2 [_, _, _] rfl rfl rfl rfl ⟨rfl, rfl, rfl, trivial⟩ rfl rfl ?_
    refine ⟨_, _, _, rfl, ?_, rfl, hL⟩
    rw [← hal]
    exact ⟨rd.ofRow (Row.lit 3 1 b.length gk (tagV F).toArray (by simp [tagV_len]; omega) (by omega)) hz_gk (RdL.vals _) (Le.refl _), rd.ofRow (Row.lit 27 2 b.length gt tv.toArray (by simp; omega) (by omega)) hz_gt ht (Le.refl _), rd.ofRow (Row.lit 25 1 (b.length + 1) gn iv.toArray (by simp; omega) (by omega)) hz_gn hi (Le.refl _), trivial⟩

end Go.Proofs.Ytapmmfabdmhdnaa.K
