/-
  slices.CompactFunc.
-/
import Derived.Test.YtapmmfabdmhdnaaPlain
import Derived.Test.YtapmmfabdmhdnaaComp
set_option linter.unusedVariables false
set_option linter.unusedSimpArgs false
set_option maxHeartbeats 4000000
namespace Go.Proofs.Ytapmmfabdmhdnaa.K
open Go Go.RowKit Go.Proofs

theorem dedF_snoc {y x : Path} : ∀ {l : List Path} {p : Path}, (p :: l)[l.length]? = some x → dedF p (l ++ [y]) = dedF p l ++ (if y = x then [] else [y])
  | [], p, h => by simp at h; subst h; simp [dedF]
  | a :: r, p, h => by
    have h' : (a :: r)[r.length]? = some x := by simpa using h
    simp only [List.cons_append, dedF]
    split
    · rename_i e; subst e; exact dedF_snoc h'
    · rw [dedF_snoc h']; rfl
theorem ded_step {ps : List Path} {i : Nat} {x y : Path} (hx : ps[i]? = some x) (hy : ps[i + 1]? = some y) : dedP (ps.take (i + 2)) = dedP (ps.take (i + 1)) ++ (if y = x then [] else [y]) := by
  cases ps with
  | nil => simp at hx
  | cons p r =>
    have hy' : r[i]? = some y := by simpa using hy
    have hlt : i < r.length := (List.getElem?_eq_some_iff.1 hy').1
    simp only [List.take_succ_cons, dedP]
    rw [List.take_add_one, hy']
    simp only [Option.toList_some, List.cons_append]
    rw [dedF_snoc (x := x)]
    have e : (r.take i).length = i := by simp; omega
    rw [e, ← List.take_succ_cons, List.getElem?_take, if_pos (by omega)]
    exact hx
theorem ded_one {ps : List Path} (h : ps.length ≤ 1) : dedP ps = ps := by
  match ps, h with
  | [], _ => rfl
  | [p], _ => rfl
theorem RdL.take {H : Hp} : ∀ {ds : List D} {vs : List Value} (k : Nat), RdL H ds vs → RdL H (ds.take k) (vs.take k)
  | [], [], k, _ => by simp [RdL]
  | _ :: _, _ :: _, 0, _ => by simp [RdL]
  | _ :: _, _ :: _, k + 1, h => ⟨h.1, RdL.take k h.2⟩
  | [], _ :: _, _, h => h.elim
  | _ :: _, [], _, h => h.elim
theorem zero22 (n : Nat) : (Builtin.zeroCells (Value.slice none 0 0).cells n).toList = List.replicate n (Value.slice none 0 0) := by
  have hzc : (Value.slice none 0 0).cells = #[Value.slice none 0 0] := rfl
  rw [hzc]
  simp [Builtin.zeroCells]
  apply List.ext_getElem
  · simp
  · intro i h1 h2
    simp [Nat.mod_one]
section
variable {P : Program} {w0 : World} {N : Nat} {Q : Exit → Act → World → Prop} {env : Env} {own : List Seg} {H : Hp} {ops : Array Oper} {rest : List Oper}
variable {d : Option Tmp} {ty : TypeId} {pos : String} {af : Array Edge}
/-- A slice of a slice that leads somewhere: its address. -/
theorem TL.sliceP {t e : TypeId} {x : Operand} {lo hi : Option Operand} {b o : Nat} {n c : Nat} {sz by_ : Nat} {z : Value} {li ri : Option Int} (l r : Nat) (hx : ev env x = some (.slice (some ⟨b, o, none⟩) n c)) [hU : Sl P t e sz by_ z]
    (h1 : optI env lo li) (h2 : optI env hi ri) (hl : li.getD 0 = (l : Int)) (hr : ri.getD (n : Int) = (r : Int)) (hlr : l ≤ r) (hrc : r ≤ c) (hlc : l < c) (hd : okD N d = true)
    (h : TL P w0 N Q ops rest (putE d (.slice (some ⟨b, o + l * sz, none⟩) (r - l) (c - l)) env) own H) :
    TL P w0 N Q ops ({ dst := d, op := .slice t x lo hi none, type := ty, pos := pos, after := af, guard := none } :: rest) env own H :=
  TL.slice l r hx h1 h2 hl hr hlr hrc hd (by rw [if_neg (by omega)]; simpa [add_off] using h)
end
theorem take_set_succ {c : Array Value} {k o : Nat} {v : Value} (h : k < c.size) (ho : o = k) : (c.setIfInBounds o v).toList.take (k + 1) = c.toList.take k ++ [v] := by
  subst ho
  rw [Array.toList_setIfInBounds, List.take_add_one, List.take_set_of_le (Nat.le_refl _)]
  simp [h]

theorem merge_compact {ps : List Path} (hne : ps ≠ []) (hlim : ps.length ≤ 1073741824) {w0 : World} {H : Hp} {own : List Seg} {u : Value} {seg : Seg} (hlog : Log H u ps seg) :
    Fn Try.prog 35 [u, .func (.func 36) #[] #[]] w0 H (seg :: own) (fun r own' H' => ∃ seg', own' = seg' :: own ∧ Log H' r (dedP ps) seg' ∧ Le H H') := by
  obtain ⟨xs, ⟨hlen, hrow⟩, hxs⟩ := hlog
  have hpos : 0 < ps.length := List.length_pos_iff.2 hne
  rcases hrow with ⟨_, h0, _⟩ | ⟨g, cap, cur, rfl, rfl, h1, h2, h3, h4⟩
  · omega
  have h2' : cap ≤ 9223372036854775807 := by simpa [maxLen] using h2
  have hcur : ∀ (q : Nat) (v : Value), xs[q]? = some v → lget cur.toList (0 + q * 1) = some v := by
    intro q v hv
    rw [← h4, List.getElem?_take] at hv
    split at hv
    · rw [lget_eq, Nat.zero_add, Nat.mul_one]; exact hv
    · cases hv
  refine Fn.enter Try.func35 rfl Try.ntmps35 rfl ?_
  have hL := Le.refl H
  refine TC.seq ?_
  refine TC.region ?_
  refine TL.assign rfl rfl ?_
  refine TL.nil ?_
  refine TQ.then_n ?_
  refine TC.seq ?_
  refine TC.seq ?_
  refine TC.region ?_
  refine TL.move rfl rfl ?_
  refine TL.len_slice rfl rfl ?_
  refine TL.lssB rfl rfl rfl (fun hn2 => ?_) (fun hn2 => ?_)
  ·
   refine TL.nil ?_
   refine TQ.then_n ?_
   refine TC.cond_t rfl ?_
   refine TC.seq ?_
   refine TC.region ?_
   refine TL.move rfl rfl ?_
   refine TL.assign rfl rfl ?_
   refine TL.nil ?_
   refine TQ.then_n ?_
   refine TC.ret ?_
   refine TQ.then_r ?_
   refine TQ.ret1 0 rfl rfl ?_
   first
     | exact ⟨_, rfl, by rw [ded_one (by omega)]; exact ⟨xs, ⟨hlen, .inr ⟨g, cap, cur, rfl, rfl, h1, h2, h3, h4⟩⟩, hxs⟩, hL⟩
     | exact ⟨_, rfl, by
         rw [List.take_of_length_le (by omega)] at hk2
         rw [hk2]
         exact ⟨xs, ⟨hlen, .inr ⟨g, cap, cur, rfl, rfl, h1, h2, h3, h4⟩⟩, hxs⟩, hL⟩
     | (rw [List.take_of_length_le (show ps.length ≤ k + j by omega)] at hdl hdr
        refine ⟨_, rfl, ⟨cur2.toList.take k', ⟨by simp; omega, .inr ⟨g, cap, _, by rw [hdl]; rfl, rfl, by omega, h2, by rw [putC_size]; omega, ?_⟩⟩, hdr⟩, hL⟩
        rw [hdl, Nat.mul_one]
        refine List.ext_getElem? fun q => ?_
        rw [List.getElem?_take, List.getElem?_take]
        split
        · rw [Array.getElem?_toList, Array.getElem?_toList, putC_lt _ _ _ _ (by omega)]
        · rfl)
  ·
   refine TL.nil ?_
   refine TQ.then_n ?_
   refine TC.cond_f rfl ?_
   refine TC.skip ?_
   refine TQ.then_n ?_
   refine TC.seq ?_
   refine TC.seq ?_
   refine TC.region ?_
   refine TL.assign rfl rfl ?_
   refine TL.nil ?_
   refine TQ.then_n ?_
   refine TC.block ?_
   refine TC.loop (fun z env' own' H' => ∃ k : Nat, z = ps.length - k ∧ 1 ≤ k ∧ k ≤ ps.length ∧ dedP (ps.take k) = ps.take k ∧ env' = [(0, .slice (some ⟨g, 0, none⟩) ps.length cap), (1, .func (.func 36) #[] #[]), (5, .int .i64 (k : Int))] ∧ own' = [(g, .cells cur 22 (0, 0))] :: own ∧ Le H H') (ps.length - 1) [(0, _), (1, _), (5, _)] ⟨rfl, rfl, rfl, trivial⟩ ⟨1, rfl, by omega, by omega, ded_one (by simp; omega), rfl, rfl, Le.refl _⟩ ?_
   rintro z _ _ H1 ⟨k, rfl, hk0, hk1, hk2, rfl, rfl, hle0⟩
   have hL := Le.trans hL hle0
   have hxs := RdL.mono hle0 hxs
   refine TC.seq ?_
   refine TC.seq ?_
   refine TC.region ?_
   refine TL.move rfl rfl ?_
   refine TL.move rfl rfl ?_
   refine TL.len_slice rfl rfl ?_
   refine TL.lssB rfl rfl rfl (fun hlt => ?_) (fun hlt => ?_)
   ·
    obtain ⟨x, hx⟩ : ∃ x, ps[k]? = some x := ⟨_, List.getElem?_eq_getElem (by omega)⟩
    obtain ⟨y, hy⟩ : ∃ x, ps[k - 1]? = some x := ⟨_, List.getElem?_eq_getElem (by omega)⟩
    obtain ⟨vx, hvx, hrvx⟩ := RdL.get hxs (k) (pD x) (by simp [hx])
    obtain ⟨vy, hvy, hrvy⟩ := RdL.get hxs (k - 1) (pD y) (by simp [hy])
    refine TL.nil ?_
    refine TQ.then_n ?_
    refine TC.cond_t rfl ?_
    refine TC.skip ?_
    refine TQ.then_n ?_
    refine TC.seq ?_
    refine TC.block ?_
    refine TC.seq ?_
    refine TC.drawQV 10  [(0, _), (1, _), (5, _)] follows_mixed ⟨rfl, rfl, rfl, trivial⟩ ?_
    refine ChainV.q (some 18) [] (by
     intro H' X F hle
     intro hF
     refine TL.move rfl rfl ?_
     refine TL.nil ?_
     exact TQ.one [] hF (Le.refl _) ⟨rfl, rfl⟩) ?_
    refine ChainV.q (some 19) [] (by
     intro H' X F hle
     intro hF
     refine TL.move rfl rfl ?_
     refine TL.nil ?_
     exact TQ.one [] hF (Le.refl _) ⟨rfl, rfl⟩) ?_
    refine ChainV.q (some 20) [] (by
     intro H' X F hle
     intro hF
     refine TL.move rfl rfl ?_
     refine TL.nil ?_
     exact TQ.one [] hF (Le.refl _) ⟨rfl, rfl⟩) ?_
    refine ChainV.q (some 21) [(1, 1), (2, 0)] (by
     intro H' X F hle
     intro hF
     refine TL.indexAddr (k) rfl rfl rfl (by omega) rfl ?_
     refine TL.nil ?_
     exact TQ.one [] hF (Le.refl _) ⟨rfl, rfl⟩) ?_
    refine ChainV.q (some 22) [(3, 0)] (by
     intro H' X F hle
     have hL := Le.trans hL hle
     have hxs := RdL.mono hle hxs
     have hle0 := Le.trans hle0 hle
     have hrvx := rd.mono hle hrvx
     have hrvy := rd.mono hle hrvy
     intro hF
     refine TL.load_own 0 0 rfl rfl rfl (hcur k _ hvx) rfl ?_
     refine TL.nil ?_
     exact TQ.one [] hF (Le.refl _) ⟨rfl, rfl⟩) ?_
    refine ChainV.q (some 23) [] (by
     intro H' X F hle
     intro hF
     refine TL.move rfl rfl ?_
     refine TL.nil ?_
     exact TQ.one [] hF (Le.refl _) ⟨rfl, rfl⟩) ?_
    refine ChainV.q (some 24) [] (by
     intro H' X F hle
     intro hF
     refine TL.move rfl rfl ?_
     refine TL.nil ?_
     exact TQ.one [] hF (Le.refl _) ⟨rfl, rfl⟩) ?_
    refine ChainV.q (some 25) [(6, 0)] (by
     intro H' X F hle
     intro hF
     refine TL.sub rfl rfl rfl ⟨by omega, by omega⟩ ?_
     refine TL.nil ?_
     exact TQ.one [] hF (Le.refl _) ⟨rfl, rfl⟩) ?_
    refine ChainV.q (some 26) [(5, 2), (7, 0)] (by
     intro H' X F hle
     intro hF
     refine TL.indexAddr (k - 1) rfl rfl (by omega) (by omega) rfl ?_
     refine TL.nil ?_
     exact TQ.one [] hF (Le.refl _) ⟨rfl, rfl⟩) ?_
    refine ChainV.q (some 27) [(8, 0)] (by
     intro H' X F hle
     have hL := Le.trans hL hle
     have hxs := RdL.mono hle hxs
     have hle0 := Le.trans hle0 hle
     have hrvx := rd.mono hle hrvx
     have hrvy := rd.mono hle hrvy
     intro hF
     refine TL.load_own 0 0 rfl rfl rfl (hcur (k - 1) _ hvy) rfl ?_
     refine TL.nil ?_
     exact TQ.one [] hF (Le.refl _) ⟨rfl, rfl⟩) ?_
    refine ⟨by kernel_rfl, .refl _, ?_⟩
    ·
     intro H1 hle
     have hL := Le.trans hL hle
     have hxs := RdL.mono hle hxs
     have hle0 := Le.trans hle0 hle
     have hrvx := rd.mono hle hrvx
     have hrvy := rd.mono hle hrvy
     refine TL.toOwn (own' := _ :: own) rfl ?_
     refine TL.wk (env' := [(0, _), (1, _), (5, _), (18, _), (22, _), (27, _)]) ⟨rfl, rfl, rfl, rfl, rfl, rfl, trivial⟩ ?_
     refine TL.callV (vs := [_, _]) rfl (slices_equal hrvx hrvy) ⟨rfl, rfl, trivial⟩ rfl rfl ?_
     rintro _ _ H2 ⟨rfl, rfl, hle2⟩
     have hL := Le.trans hL hle2
     have hxs := RdL.mono hle2 hxs
     have hle0 := Le.trans hle0 hle2
     have hrvx := rd.mono hle2 hrvx
     have hrvy := rd.mono hle2 hrvy
     refine TL.nil ?_
     refine TQ.then_n ?_
     refine TC.cond rfl (fun hc => ?_) (fun hc => ?_)
     ·
      replace hc : x = y := of_decide_eq_true hc
      refine TC.seq ?_
      refine TC.region ?_
      refine TL.move rfl rfl ?_
      refine TL.move rfl rfl ?_
      refine TL.sliceP k ps.length rfl ⟨_, _, rfl, rfl⟩ rfl rfl rfl (by omega) (by omega) (by omega) rfl ?_
      refine TL.assign rfl rfl ?_
      refine TL.nil ?_
      refine TQ.then_n ?_
      refine TC.seq ?_
      refine TC.seq ?_
      refine TC.region ?_
      refine TL.assign rfl rfl ?_
      refine TL.nil ?_
      refine TQ.then_n ?_
      refine TC.block ?_
      refine TC.loop (fun z env' own' H' => ∃ (j k' : Nat) (cur2 : Array Value), z = ps.length - k - j ∧ 1 ≤ j ∧ k + j ≤ ps.length ∧ k' + 1 ≤ k + j ∧ cur2.size = cap ∧ (∀ (q : Nat) (v : Value), k' ≤ q → xs[q]? = some v → lget cur2.toList (0 + q * 1) = some v) ∧ (dedP (ps.take (k + j))).length = k' ∧ RdL H' ((dedP (ps.take (k + j))).map pD) (cur2.toList.take k') ∧ env' = [(0, .slice (some ⟨g, 0, none⟩) ps.length cap), (1, .func (.func 36) #[] #[]), (5, .int .i64 (k' : Int)), (6, .slice (some ⟨g, 0 + k * 1, none⟩) (ps.length - k) (cap - k)), (7, .int .i64 (j : Int))] ∧ own' = [(g, .cells cur2 22 (0, 0))] :: own ∧ Le H2 H') (ps.length - k - 1) [(0, _), (1, _), (5, _), (6, _), (7, _)] ⟨rfl, rfl, rfl, rfl, rfl, trivial⟩
        ⟨1, k, cur, rfl, by omega, by omega, by omega, by omega, fun q v _ h => hcur q v h, ?_, ?_, rfl, rfl, Le.refl _⟩ ?_
      · obtain ⟨i, rfl⟩ : ∃ i, k = i + 1 := ⟨k - 1, by omega⟩
        rw [ded_step (i := i) hy hx, if_pos hc, hk2]
        simp; omega
      · obtain ⟨i, rfl⟩ : ∃ i, k = i + 1 := ⟨k - 1, by omega⟩
        rw [ded_step (i := i) hy hx, if_pos hc, hk2, List.append_nil]
        have e : cur.toList.take (i + 1) = xs.take (i + 1) := by rw [← h4, List.take_take, Nat.min_eq_left (by omega)]
        rw [e, List.map_take]
        exact RdL.take _ hxs
      rintro z _ _ H3 ⟨j, k', cur2, rfl, hj0, hj1, hj2, hsz, hget, hdl, hdr, rfl, rfl, hle3⟩
      have hL := Le.trans hL hle3
      have hxs := RdL.mono hle3 hxs
      have hle0 := Le.trans hle0 hle3
      have hrvx := rd.mono hle3 hrvx
      have hrvy := rd.mono hle3 hrvy
      refine TC.seq ?_
      refine TC.seq ?_
      refine TC.region ?_
      refine TL.move rfl rfl ?_
      refine TL.move rfl rfl ?_
      refine TL.len_slice rfl rfl ?_
      refine TL.lssB rfl rfl rfl (fun hlt2 => ?_) (fun hlt2 => ?_)
      ·
       obtain ⟨x2, hx2⟩ : ∃ x, ps[k + j]? = some x := ⟨_, List.getElem?_eq_getElem (by omega)⟩
       obtain ⟨y2, hy2⟩ : ∃ x, ps[k + j - 1]? = some x := ⟨_, List.getElem?_eq_getElem (by omega)⟩
       obtain ⟨vx2, hvx2, hrvx2⟩ := RdL.get hxs (k + j) (pD x2) (by simp [hx2])
       obtain ⟨vy2, hvy2, hrvy2⟩ := RdL.get hxs (k + j - 1) (pD y2) (by simp [hy2])
       refine TL.nil ?_
       refine TQ.then_n ?_
       refine TC.cond_t rfl ?_
       refine TC.skip ?_
       refine TQ.then_n ?_
       refine TC.seq ?_
       refine TC.block ?_
       refine TC.seq ?_
       refine TC.drawQV 10  [(0, _), (1, _), (5, _), (6, _), (7, _)] follows_mixed ⟨rfl, rfl, rfl, rfl, rfl, trivial⟩ ?_
       refine ChainV.q (some 38) [] (by
        intro H' X F hle
        intro hF
        refine TL.move rfl rfl ?_
        refine TL.nil ?_
        exact TQ.one [] hF (Le.refl _) ⟨rfl, rfl⟩) ?_
       refine ChainV.q (some 39) [] (by
        intro H' X F hle
        intro hF
        refine TL.move rfl rfl ?_
        refine TL.nil ?_
        exact TQ.one [] hF (Le.refl _) ⟨rfl, rfl⟩) ?_
       refine ChainV.q (some 40) [] (by
        intro H' X F hle
        intro hF
        refine TL.move rfl rfl ?_
        refine TL.nil ?_
        exact TQ.one [] hF (Le.refl _) ⟨rfl, rfl⟩) ?_
       refine ChainV.q (some 41) [(1, 1), (2, 0)] (by
        intro H' X F hle
        intro hF
        refine TL.indexAddr (j) rfl rfl rfl (by omega) rfl ?_
        refine TL.nil ?_
        exact TQ.one [] hF (Le.refl _) ⟨rfl, rfl⟩) ?_
       refine ChainV.q (some 42) [(3, 0)] (by
        intro H' X F hle
        have hL := Le.trans hL hle
        have hxs := RdL.mono hle hxs
        have hle0 := Le.trans hle0 hle
        have hrvx := rd.mono hle hrvx
        have hrvy := rd.mono hle hrvy
        have hle3 := Le.trans hle3 hle
        have hdr := RdL.mono hle hdr
        have hrvx2 := rd.mono hle hrvx2
        have hrvy2 := rd.mono hle hrvy2
        intro hF
        refine TL.load_own 0 0 rfl rfl rfl (by rw [show 0 + k * 1 + j * 1 = 0 + (k + j) * 1 by omega]; exact hget _ _ (by omega) hvx2) rfl ?_
        refine TL.nil ?_
        exact TQ.one [] hF (Le.refl _) ⟨rfl, rfl⟩) ?_
       refine ChainV.q (some 43) [] (by
        intro H' X F hle
        intro hF
        refine TL.move rfl rfl ?_
        refine TL.nil ?_
        exact TQ.one [] hF (Le.refl _) ⟨rfl, rfl⟩) ?_
       refine ChainV.q (some 44) [] (by
        intro H' X F hle
        intro hF
        refine TL.move rfl rfl ?_
        refine TL.nil ?_
        exact TQ.one [] hF (Le.refl _) ⟨rfl, rfl⟩) ?_
       refine ChainV.q (some 45) [(6, 0)] (by
        intro H' X F hle
        intro hF
        refine TL.sub rfl rfl rfl ⟨by omega, by omega⟩ ?_
        refine TL.nil ?_
        exact TQ.one [] hF (Le.refl _) ⟨rfl, rfl⟩) ?_
       refine ChainV.q (some 46) [(5, 2), (7, 0)] (by
        intro H' X F hle
        intro hF
        refine TL.indexAddr (j - 1) rfl rfl (by omega) (by omega) rfl ?_
        refine TL.nil ?_
        exact TQ.one [] hF (Le.refl _) ⟨rfl, rfl⟩) ?_
       refine ChainV.q (some 47) [(8, 0)] (by
        intro H' X F hle
        have hL := Le.trans hL hle
        have hxs := RdL.mono hle hxs
        have hle0 := Le.trans hle0 hle
        have hrvx := rd.mono hle hrvx
        have hrvy := rd.mono hle hrvy
        have hle3 := Le.trans hle3 hle
        have hdr := RdL.mono hle hdr
        have hrvx2 := rd.mono hle hrvx2
        have hrvy2 := rd.mono hle hrvy2
        intro hF
        refine TL.load_own 0 0 rfl rfl rfl (by rw [show 0 + k * 1 + (j - 1) * 1 = 0 + (k + j - 1) * 1 by omega]; exact hget _ _ (by omega) hvy2) rfl ?_
        refine TL.nil ?_
        exact TQ.one [] hF (Le.refl _) ⟨rfl, rfl⟩) ?_
       refine ⟨by kernel_rfl, .refl _, ?_⟩
       ·
        intro H3 hle
        have hL := Le.trans hL hle
        have hxs := RdL.mono hle hxs
        have hle0 := Le.trans hle0 hle
        have hrvx := rd.mono hle hrvx
        have hrvy := rd.mono hle hrvy
        have hle3 := Le.trans hle3 hle
        have hdr := RdL.mono hle hdr
        have hrvx2 := rd.mono hle hrvx2
        have hrvy2 := rd.mono hle hrvy2
        refine TL.toOwn (own' := _ :: own) rfl ?_
        refine TL.wk (env' := [(0, _), (1, _), (5, _), (6, _), (7, _), (38, _), (42, _), (47, _)]) ⟨rfl, rfl, rfl, rfl, rfl, rfl, rfl, rfl, trivial⟩ ?_
        refine TL.callV (vs := [_, _]) rfl (slices_equal hrvx2 hrvy2) ⟨rfl, rfl, trivial⟩ rfl rfl ?_
        rintro _ _ H4 ⟨rfl, rfl, hle4⟩
        have hL := Le.trans hL hle4
        have hxs := RdL.mono hle4 hxs
        have hle0 := Le.trans hle0 hle4
        have hrvx := rd.mono hle4 hrvx
        have hrvy := rd.mono hle4 hrvy
        have hle3 := Le.trans hle3 hle4
        have hdr := RdL.mono hle4 hdr
        have hrvx2 := rd.mono hle4 hrvx2
        have hrvy2 := rd.mono hle4 hrvy2
        refine TL.not rfl rfl ?_
        refine TL.nil ?_
        refine TQ.then_n ?_
        refine TC.cond rfl (fun hc2 => ?_) (fun hc2 => ?_)
        ·
         replace hc2 : ¬ x2 = y2 := by simpa using hc2
         refine TC.seq ?_
         refine TC.region ?_
         refine TL.move rfl rfl ?_
         refine TL.move rfl rfl ?_
         refine TL.move rfl rfl ?_
         refine TL.move rfl rfl ?_
         refine TL.indexAddr (j) rfl rfl rfl (by omega) rfl ?_
         refine TL.load_own 0 0 rfl rfl rfl (by rw [show 0 + k * 1 + j * 1 = 0 + (k + j) * 1 by omega]; exact hget _ _ (by omega) hvx2) rfl ?_
         refine TL.indexAddr (k') rfl rfl rfl (by omega) rfl ?_
         refine TL.store1 0 0 (c' := _) (own' := _ :: _) rfl rfl rfl rfl (rd.one (sz := 1) hrvx2) (by omega) rfl rfl rfl ?_
         refine TL.nil ?_
         refine TQ.then_n ?_
         refine TC.region ?_
         refine TL.move rfl rfl ?_
         refine TL.add rfl rfl rfl ⟨by omega, by omega⟩ ?_
         refine TL.assign rfl rfl ?_
         refine TL.nil ?_
         refine TQ.in_n ?_
         refine TQ.then_n ?_
         refine TC.region ?_
         refine TL.move rfl rfl ?_
         refine TL.add rfl rfl rfl ⟨by omega, by omega⟩ ?_
         refine TL.assign rfl rfl ?_
         refine TL.nil ?_
         first
           | refine TQ.next (ps.length - k - (j + 1)) [(0, _), (1, _), (5, _), (6, _), (7, _)] (by omega) ⟨rfl, rfl, rfl, rfl, rfl, trivial⟩ ⟨j + 1, k' + 1, _, rfl, by omega, by omega, by omega, by simpa using hsz, ?_, ?_, ?_, by simp, rfl, hle3⟩
             · intro q v hq hv
               have := hget q v (by omega) hv
               rw [lget_arr] at this ⊢
               rw [Array.getElem?_setIfInBounds_ne (by omega)]
               exact this
             · rw [show k + (j + 1) = k + j - 1 + 2 by omega, ded_step hy2 (by rw [show k + j - 1 + 1 = k + j by omega]; exact hx2), if_neg hc2, List.length_append, show k + j - 1 + 1 = k + j by omega, hdl]; rfl
             · rw [show k + (j + 1) = k + j - 1 + 2 by omega, ded_step hy2 (by rw [show k + j - 1 + 1 = k + j by omega]; exact hx2), if_neg hc2, show k + j - 1 + 1 = k + j by omega, take_set_succ (by omega) (by omega), List.map_append]
               exact RdL.append hdr ⟨hrvx2, trivial⟩
           | refine TQ.next (ps.length - k - (j + 1)) [(0, _), (1, _), (5, _), (6, _), (7, _)] (by omega) ⟨rfl, rfl, rfl, rfl, rfl, trivial⟩ ⟨j + 1, k', _, rfl, by omega, by omega, by omega, hsz, hget, ?_, ?_, by simp, rfl, hle3⟩
             · rw [show k + (j + 1) = k + j - 1 + 2 by omega, ded_step hy2 (by rw [show k + j - 1 + 1 = k + j by omega]; exact hx2), if_pos hc2, List.append_nil, show k + j - 1 + 1 = k + j by omega, hdl]
             · rw [show k + (j + 1) = k + j - 1 + 2 by omega, ded_step hy2 (by rw [show k + j - 1 + 1 = k + j by omega]; exact hx2), if_pos hc2, List.append_nil, show k + j - 1 + 1 = k + j by omega]
               exact hdr
        ·
         replace hc2 : x2 = y2 := by simpa using hc2
         refine TC.skip ?_
         refine TQ.in_n ?_
         refine TQ.then_n ?_
         refine TC.region ?_
         refine TL.move rfl rfl ?_
         refine TL.add rfl rfl rfl ⟨by omega, by omega⟩ ?_
         refine TL.assign rfl rfl ?_
         refine TL.nil ?_
         first
           | refine TQ.next (ps.length - k - (j + 1)) [(0, _), (1, _), (5, _), (6, _), (7, _)] (by omega) ⟨rfl, rfl, rfl, rfl, rfl, trivial⟩ ⟨j + 1, k' + 1, _, rfl, by omega, by omega, by omega, by simpa using hsz, ?_, ?_, ?_, by simp, rfl, hle3⟩
             · intro q v hq hv
               have := hget q v (by omega) hv
               rw [lget_arr] at this ⊢
               rw [Array.getElem?_setIfInBounds_ne (by omega)]
               exact this
             · rw [show k + (j + 1) = k + j - 1 + 2 by omega, ded_step hy2 (by rw [show k + j - 1 + 1 = k + j by omega]; exact hx2), if_neg hc2, List.length_append, show k + j - 1 + 1 = k + j by omega, hdl]; rfl
             · rw [show k + (j + 1) = k + j - 1 + 2 by omega, ded_step hy2 (by rw [show k + j - 1 + 1 = k + j by omega]; exact hx2), if_neg hc2, show k + j - 1 + 1 = k + j by omega, take_set_succ (by omega) (by omega), List.map_append]
               exact RdL.append hdr ⟨hrvx2, trivial⟩
           | refine TQ.next (ps.length - k - (j + 1)) [(0, _), (1, _), (5, _), (6, _), (7, _)] (by omega) ⟨rfl, rfl, rfl, rfl, rfl, trivial⟩ ⟨j + 1, k', _, rfl, by omega, by omega, by omega, hsz, hget, ?_, ?_, by simp, rfl, hle3⟩
             · rw [show k + (j + 1) = k + j - 1 + 2 by omega, ded_step hy2 (by rw [show k + j - 1 + 1 = k + j by omega]; exact hx2), if_pos hc2, List.append_nil, show k + j - 1 + 1 = k + j by omega, hdl]
             · rw [show k + (j + 1) = k + j - 1 + 2 by omega, ded_step hy2 (by rw [show k + j - 1 + 1 = k + j by omega]; exact hx2), if_pos hc2, List.append_nil, show k + j - 1 + 1 = k + j by omega]
               exact hdr
      ·
       refine TL.nil ?_
       refine TQ.then_n ?_
       refine TC.cond_f rfl ?_
       refine TC.exit ?_
       refine TQ.then_e ?_
       refine TQ.then_e ?_
       refine TQ.in_e ?_
       refine TQ.then_n ?_
       refine TC.seq ?_
       refine TC.region ?_
       refine TL.move rfl rfl ?_
       refine TL.move rfl rfl ?_
       refine TL.sliceP k' ps.length rfl ⟨_, _, rfl, rfl⟩ rfl rfl rfl (by omega) (by omega) (by omega) rfl ?_
       refine TL.clear 0 0 rfl rfl rfl (by omega) (by rw [zero22]; intro u hu; rw [List.eq_of_mem_replicate hu]; rfl) (by rw [zero22]; simp; omega) rfl ?_
       refine TL.nil ?_
       refine TQ.then_n ?_
       refine TC.seq ?_
       refine TC.region ?_
       refine TL.move rfl rfl ?_
       refine TL.move rfl rfl ?_
       refine TL.sliceP 0 k' rfl rfl ⟨_, _, rfl, rfl⟩ rfl rfl (by omega) (by omega) (by omega) rfl ?_
       refine TL.assign rfl rfl ?_
       refine TL.nil ?_
       refine TQ.then_n ?_
       refine TC.ret ?_
       refine TQ.in_r ?_
       refine TQ.then_r ?_
       refine TQ.then_r ?_
       refine TQ.in_r ?_
       refine TQ.then_r ?_
       refine TQ.ret1 0 rfl rfl ?_
       first
         | exact ⟨_, rfl, by rw [ded_one (by omega)]; exact ⟨xs, ⟨hlen, .inr ⟨g, cap, cur, rfl, rfl, h1, h2, h3, h4⟩⟩, hxs⟩, hL⟩
         | exact ⟨_, rfl, by
             rw [List.take_of_length_le (by omega)] at hk2
             rw [hk2]
             exact ⟨xs, ⟨hlen, .inr ⟨g, cap, cur, rfl, rfl, h1, h2, h3, h4⟩⟩, hxs⟩, hL⟩
         | (rw [List.take_of_length_le (show ps.length ≤ k + j by omega)] at hdl hdr
            refine ⟨_, rfl, ⟨cur2.toList.take k', ⟨by simp; omega, .inr ⟨g, cap, _, by rw [hdl]; rfl, rfl, by omega, h2, by rw [putC_size]; omega, ?_⟩⟩, hdr⟩, hL⟩
            rw [hdl, Nat.mul_one]
            refine List.ext_getElem? fun q => ?_
            rw [List.getElem?_take, List.getElem?_take]
            split
            · rw [Array.getElem?_toList, Array.getElem?_toList, putC_lt _ _ _ _ (by omega)]
            · rfl)
     ·
      replace hc : ¬ x = y := of_decide_eq_false hc
      refine TC.skip ?_
      refine TQ.in_n ?_
      refine TQ.then_n ?_
      refine TC.region ?_
      refine TL.move rfl rfl ?_
      refine TL.add rfl rfl rfl ⟨by omega, by omega⟩ ?_
      refine TL.assign rfl rfl ?_
      refine TL.nil ?_
      refine TQ.next (ps.length - (k + 1)) [(0, _), (1, _), (5, _)] (by omega) ⟨rfl, rfl, rfl, trivial⟩ ⟨k + 1, rfl, by omega, by omega, ?_, by simp, rfl, hle0⟩
      obtain ⟨i, rfl⟩ : ∃ i, k = i + 1 := ⟨k - 1, by omega⟩
      rw [ded_step (i := i) hy hx, if_neg hc, hk2, List.take_add_one (i := i + 1), hx]
      rfl
   ·
    refine TL.nil ?_
    refine TQ.then_n ?_
    refine TC.cond_f rfl ?_
    refine TC.exit ?_
    refine TQ.then_e ?_
    refine TQ.then_e ?_
    refine TQ.in_e ?_
    refine TQ.then_n ?_
    refine TC.seq ?_
    refine TC.region ?_
    refine TL.move rfl rfl ?_
    refine TL.assign rfl rfl ?_
    refine TL.nil ?_
    refine TQ.then_n ?_
    refine TC.ret ?_
    refine TQ.ret1 0 rfl rfl ?_
    first
      | exact ⟨_, rfl, by rw [ded_one (by omega)]; exact ⟨xs, ⟨hlen, .inr ⟨g, cap, cur, rfl, rfl, h1, h2, h3, h4⟩⟩, hxs⟩, hL⟩
      | exact ⟨_, rfl, by
          rw [List.take_of_length_le (by omega)] at hk2
          rw [hk2]
          exact ⟨xs, ⟨hlen, .inr ⟨g, cap, cur, rfl, rfl, h1, h2, h3, h4⟩⟩, hxs⟩, hL⟩
      | (rw [List.take_of_length_le (show ps.length ≤ k + j by omega)] at hdl hdr
         refine ⟨_, rfl, ⟨cur2.toList.take k', ⟨by simp; omega, .inr ⟨g, cap, _, by rw [hdl]; rfl, rfl, by omega, h2, by rw [putC_size]; omega, ?_⟩⟩, hdr⟩, hL⟩
         rw [hdl, Nat.mul_one]
         refine List.ext_getElem? fun q => ?_
         rw [List.getElem?_take, List.getElem?_take]
         split
         · rw [Array.getElem?_toList, Array.getElem?_toList, putC_lt _ _ _ _ (by omega)]
         · rfl)

end Go.Proofs.Ytapmmfabdmhdnaa.K
