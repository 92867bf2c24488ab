/-
  Part 4 of 6 of the proof that DiffTrees returns true for every list of numbers and every two triples, and leaves its arguments as they were. No condition beyond the given statement.
-/
import Derived.Test.YtlmahofogapkgaaGreatDoorPkX3
set_option linter.unusedVariables false
set_option linter.unusedSimpArgs false
set_option linter.defProp false
set_option linter.all false
set_option maxRecDepth 20000
set_option maxHeartbeats 8000000
namespace Go.Proofs.YtlmahofogapkgaaGreatDoor.X
section
open Go Go.RowKit Go.Proofs K
variable {pk : Pk}
theorem oz {l : List Ex} (tr : Ex → Tr) {fc : FuncId} {fs cs : List D} (hl : l.length ≤ 1000000000) (hcl : ∀ x ∈ l, XQ Tryz.prog pk fc (cs9 fs cs [xd (exD x)]) (xd (trd (tr x)))) :
    XN Tryz.prog pk 141 [xr (l.map exD), xf fc fs cs] (.a (.c (.l 0 0 2 0 l.length l.length))) [⟨0, 0, .row l.length (aN (l.map tr)) 35 2⟩] 1 := by
  refine XN.en Tryz.func141 Tryz.ntmps141 (fun w0 own H V v0 hf => ?_)
  refine G (T := T) 1000 rfl ?_
  refine (Nr 5 35 2 rfl rfl).c ?_
  refine Lq [1, 8, 9] (fun (q : Nat × List (List D)) r => (5, .a (.c (.l 0 1 2 0 q.1 q.1))) :: (10, xi (q.1 : Nat)) :: r) (fun q => [⟨0, 1, .row q.1 q.2 35 2⟩]) 1 (fun q => q.1 ≤ l.length ∧ q.2 = aN ((l.take q.1).map tr)) (fun q => l.length - q.1) (0, []) rfl ⟨Nat.zero_le _, rfl⟩ ?_
  rintro ⟨j, R⟩ ⟨hj, hR⟩; dsimp only at hj hR ⊢
  refine G (T := T) 1000 rfl ?_
  refine If rfl (fun h => ?_) (fun h => ?_)
  · have hjl := of_decide_eq_true h; rw [List.length_map] at hjl
    obtain ⟨y, hy⟩ := al (l := l) (j := j) (by omega)
    refine G (T := T) 12 rfl ?_
    refine Ix (T := T) j (aa hy) rfl rfl rfl rfl ⟨rfl, rfl⟩ rfl rfl ?_
    refine G (T := T) 1000 rfl ?_
    refine Cv (hcl y (List.mem_of_getElem? hy)) rfl rfl rfl rfl rfl ⟨rfl, rfl⟩ ?_
    refine G (T := T) 1000 rfl ?_
    exact Nq (j + 1, R ++ [trd (tr y)]) ⟨by omega, by dsimp only; rw [hR, aT tr hy, aK]⟩ (by show _ - (j + 1) < _ - j; omega)
  · have hjl := of_decide_eq_false h; rw [List.length_map] at hjl
    refine G (T := T) 1000 rfl ?_
    obtain rfl : j = l.length := by omega
    rw [List.take_of_length_le (Nat.le_refl _)] at hR; subst hR
    exact Fz (T := T) (fun _ => 0) rfl ⟨⟨_, _, rfl, rfl⟩, rfl, rfl⟩
theorem kR {k n : Int} {nm : ByteArray} {t : Ty4} {xs : List Ex} {b el : List Sm} {cs : List (List Sm)} (h : rSm (.mk k nm t n xs b el cs) = true) : (1 ≤ k ∧ k ≤ 14) ∧ (k = 1 → rTy t = true) ∧ (∀ x ∈ xs, rEx x = true) ∧ (∀ x ∈ b, rSm x = true) ∧ (∀ x ∈ el, rSm x = true) ∧ ∀ c ∈ cs, ∀ x ∈ c, rSm x = true := by
  rw [rSm, be, aH, aH, dD] at h
  simp only [Bool.and_eq_true] at h
  obtain ⟨⟨⟨⟨⟨⟨⟨⟨⟨⟨⟨⟨⟨⟨h1, _⟩, _⟩, h4⟩, _⟩, h6⟩, _⟩, _⟩, _⟩, _⟩, _⟩, _⟩, hb⟩, he⟩, hc⟩ := h
  refine ⟨of_decide_eq_true h1, fun hk => by rw [if_pos hk] at h6; exact h6, List.all_eq_true.1 h4, List.all_eq_true.1 hb, List.all_eq_true.1 he, fun c hcm x hx => ?_⟩
  have := List.all_eq_true.1 hc c hcm
  rw [aH] at this
  exact List.all_eq_true.1 this x hx
theorem diff_Stmt (hT : ∀ H, pk.hy H → TabH H) : ∀ (m : Nat), m ≤ 1000000000 → ∀ {s : Sm}, s.size ≤ m → s.ok → rSm s = true → XQ Tryz.prog pk 91 [xd (smD s)] (xd (trd (tSm s))) := by
  intro m
  induction m with
  | zero => intro _ e hm; have := e.size_pos; omega
  | succ m ih =>
  intro hB s hm hok hr
  obtain ⟨k, nm, t, n, es, b, el, cs⟩ := s
  obtain ⟨hk, hn, ht, hn2, hx, hb, he, hc⟩ := hok
  obtain ⟨hk14, rt, rx, rb, re, rc⟩ := kR hr
  have hsz : (Sm.mk k nm t n es b el cs).size = t.size + Ex.sizes es + Sm.sizes b + Sm.sizes el + Sm.csizes cs + 1 := rfl
  have l1 := Ex.len_le es
  have l2 := Sm.clen_le cs
  have blk : ∀ {l : List Sm}, Sm.sizes l ≤ m → Sm.oks l → (∀ s ∈ l, rSm s = true) → XQ Tryz.prog pk 90 [xr (l.map smD), xf 91 [] []] (xr (aN (l.map tSm))) := fun {l} h1 h2 h3 => (dl pk).2.2.2.2.1 tSm (fs := []) (cs := []) (by have := Sm.len_le l; omega) (fun s hs => ih (by omega) (by have := Sm.size_mem hs; omega) (Sm.oks_mem h2 hs) (h3 s hs))
  rw [dW]
  refine XQ.en Tryz.func91 Tryz.ntmps91 (fun w0 own H V v0 hf => ?_)
  refine G (T := T) 100001 rfl ?_
  refine (FzTo.bz 0 rfl).c ?_
  refine G (T := T) 1000 rfl ?_
  refine Cn (oz tEx (fs := []) (cs := []) (by omega) (fun x hxm => diff_Expr hT _ (by have := Ex.size_mem hxm; omega) (Nat.le_refl _) (Ex.oks_mem hx hxm) (rx x hxm))) rfl rfl rfl rfl rfl ⟨rfl, rfl⟩ ?_
  refine G (T := T) 1000 rfl ?_
  refine Cq (blk (by omega) hb rb) rfl rfl rfl rfl rfl ⟨rfl, rfl⟩ ?_
  refine G (T := T) 1000 rfl ?_
  refine If rfl (fun h => ?_) (fun h => ?_)
  · have h9 := of_decide_eq_true h
    obtain ⟨y, rfl, e⟩ := tSm_1 h9 hr
    rw [e]
    refine Zc 2 rfl ?_
    refine G (T := T) 1000 rfl ?_
    refine Cq (gx hT ht (.inl (rt h9))) rfl rfl rfl rfl rfl ⟨rfl, rfl⟩ ?_
    refine G (T := T) 1000 rfl ?_
    refine Ix (T := T) 0 (r := trd (tEx y)) rfl rfl rfl rfl rfl ⟨rfl, rfl⟩ rfl rfl ?_
    refine G (T := T) 1000 rfl ?_
    refine Cq (am (ks := [tTy t, tEx y]) (by decide) (by omega)) rfl rfl rfl rfl rfl ⟨rfl, rfl⟩ ?_
    refine G (T := T) 1000 rfl ?_
    exact Fq (T := T) rfl rfl
  have := of_decide_eq_false h
  refine G (T := T) 1000 rfl ?_
  refine If rfl (fun h => ?_) (fun h => ?_)
  · have h9 := of_decide_eq_true h
    rw [tSm_2 h9 hr]
    refine Zc 2 rfl ?_
    refine G (T := T) 1000 rfl ?_
    refine Cq (an (ks := es.map tEx) (by decide)) rfl rfl rfl rfl rfl ⟨rfl, rfl⟩ ?_
    refine G (T := T) 1000 rfl ?_
    exact Fq (T := T) rfl rfl
  have := of_decide_eq_false h
  refine G (T := T) 1000 rfl ?_
  refine If rfl (fun h => ?_) (fun h => ?_)
  · have h9 := of_decide_eq_true h
    obtain ⟨y, rfl, e⟩ := tSm_3 h9 hr
    rw [e]
    refine Zc 2 rfl ?_
    refine G (T := T) 1000 rfl ?_
    refine Ix (T := T) 0 (r := trd (tEx y)) rfl rfl rfl rfl rfl ⟨rfl, rfl⟩ rfl rfl ?_
    refine G (T := T) 1000 rfl ?_
    refine Cq (an (ks := b.map tSm) (by decide)) rfl rfl rfl rfl rfl ⟨rfl, rfl⟩ ?_
    refine G (T := T) 1000 rfl ?_
    refine Cq (blk (by omega) he re) rfl rfl rfl rfl rfl ⟨rfl, rfl⟩ ?_
    refine G (T := T) 1000 rfl ?_
    refine Cq (an (ks := el.map tSm) (by decide)) rfl rfl rfl rfl rfl ⟨rfl, rfl⟩ ?_
    refine G (T := T) 1000 rfl ?_
    refine Cq (an (ks := [tEx y, .node gT (b.map tSm), .node gV (el.map tSm)]) (by decide)) rfl rfl rfl rfl rfl ⟨rfl, rfl⟩ ?_
    refine G (T := T) 1000 rfl ?_
    exact Fq (T := T) rfl rfl
  have := of_decide_eq_false h
  refine G (T := T) 1000 rfl ?_
  refine If rfl (fun h => ?_) (fun h => ?_)
  · have h9 := of_decide_eq_true h
    obtain ⟨y, rfl, e⟩ := tSm_4 h9 hr
    rw [e]
    refine Zc 2 rfl ?_
    refine G (T := T) 1000 rfl ?_
    refine Ix (T := T) 0 (r := trd (tEx y)) rfl rfl rfl rfl rfl ⟨rfl, rfl⟩ rfl rfl ?_
    refine G (T := T) 1000 rfl ?_
    refine Cq (an (ks := b.map tSm) (by decide)) rfl rfl rfl rfl rfl ⟨rfl, rfl⟩ ?_
    refine G (T := T) 1000 rfl ?_
    refine Cq (am (ks := [tEx y, .node dK (b.map tSm)]) (by decide) (by omega)) rfl rfl rfl rfl rfl ⟨rfl, rfl⟩ ?_
    refine G (T := T) 1000 rfl ?_
    exact Fq (T := T) rfl rfl
  have := of_decide_eq_false h
  refine G (T := T) 1000 rfl ?_
  refine If rfl (fun h => ?_) (fun h => ?_)
  · have h9 := of_decide_eq_true h
    obtain ⟨rfl, e⟩ := tSm_5 h9 hr
    rw [e]
    refine G (T := T) 1000 rfl ?_
    refine Cq (am (ks := b.map tSm) (by decide) (by omega)) rfl rfl rfl rfl rfl ⟨rfl, rfl⟩ ?_
    refine G (T := T) 1000 rfl ?_
    exact Fq (T := T) rfl rfl
  have := of_decide_eq_false h
  refine G (T := T) 1000 rfl ?_
  refine If rfl (fun h => ?_) (fun h => ?_)
  · have h9 := of_decide_eq_true h
    obtain ⟨rfl, e⟩ := tSm_6 h9 hr
    rw [e]
    refine G (T := T) 1000 rfl ?_
    refine Cq (am (ks := b.map tSm) (by decide) (by omega)) rfl rfl rfl rfl rfl ⟨rfl, rfl⟩ ?_
    refine G (T := T) 1000 rfl ?_
    exact Fq (T := T) rfl rfl
  have := of_decide_eq_false h
  refine G (T := T) 1000 rfl ?_
  refine If rfl (fun h => ?_) (fun h => ?_)
  · have h9 := of_decide_eq_true h
    obtain ⟨rfl, e⟩ := tSm_7 h9 hr
    rw [e]
    refine G (T := T) 1000 rfl ?_
    refine Cq (am (ks := []) (by decide) (by omega)) rfl rfl rfl rfl rfl ⟨rfl, rfl⟩ ?_
    refine G (T := T) 1000 rfl ?_
    exact Fq (T := T) rfl rfl
  have := of_decide_eq_false h
  refine G (T := T) 1000 rfl ?_
  refine If rfl (fun h => ?_) (fun h => ?_)
  · have h9 := of_decide_eq_true h
    obtain ⟨rfl, e⟩ := tSm_8 h9 hr
    rw [e]
    refine G (T := T) 1000 rfl ?_
    refine Cq (am (ks := []) (by decide) (by omega)) rfl rfl rfl rfl rfl ⟨rfl, rfl⟩ ?_
    refine G (T := T) 1000 rfl ?_
    exact Fq (T := T) rfl rfl
  have := of_decide_eq_false h
  refine G (T := T) 1000 rfl ?_
  refine If rfl (fun h => ?_) (fun h => ?_)
  · have h9 := of_decide_eq_true h
    rw [tSm_9 h9 hr]
    refine G (T := T) 1000 rfl ?_
    refine Lq [1, 2, 80, 81] (fun (q : Nat × Nat × List (List D)) r => (3, .a (.c (.l 2 1 2 0 q.2.1 q.2.1))) :: (82, xi (q.1 : Nat)) :: r) (fun q => [⟨2, 1, .row q.2.1 q.2.2 35 2⟩, ⟨1, 0, .cells [.d (.c (.string eS)), .z] 35⟩]) 3 (fun q => q.1 ≤ cs.length ∧ q.2.1 = es.length + q.1 ∧ q.2.2 = aN (es.map tEx ++ (cs.take q.1).map cQ)) (fun q => cs.length - q.1) (0, es.length, aN (es.map tEx)) rfl ⟨Nat.zero_le _, rfl, by simp⟩ ?_
    rintro ⟨j, z, R⟩ ⟨hj, hz, hR⟩; dsimp only at hj hz hR ⊢
    refine G (T := T) 1000 rfl ?_
    refine If rfl (fun h => ?_) (fun h => ?_)
    · have hjl := of_decide_eq_true h; rw [List.length_map] at hjl
      obtain ⟨c, hcj⟩ := al (l := cs) (j := j) (by omega)
      have hcm := List.mem_of_getElem? hcj
      refine G (T := T) 1000 rfl ?_
      refine Ix (T := T) j (aa hcj) rfl rfl rfl rfl ⟨rfl, rfl⟩ rfl rfl ?_
      refine G (T := T) 1000 rfl ?_
      refine Cq (blk (by have := Sm.csize_mem hcm; omega) (Sm.okc_mem hc hcm) (rc c hcm)) rfl rfl rfl rfl rfl ⟨rfl, rfl⟩ ?_
      refine G (T := T) 1000 rfl ?_
      refine Cq (an (ks := c.map tSm) (by decide)) rfl rfl rfl rfl rfl ⟨rfl, rfl⟩ ?_
      refine G (T := T) 1000 rfl ?_
      exact Nq (j + 1, z + 1, R ++ [trd (cQ c)]) ⟨by omega, by dsimp only; omega, by dsimp only; rw [hR, aT cQ hcj, ← List.append_assoc, aK]⟩ (by show _ - (j + 1) < _ - j; omega)
    have hjl := of_decide_eq_false h; rw [List.length_map] at hjl
    rw [List.take_of_length_le (by omega)] at hR
    refine G (T := T) 1000 rfl ?_
    refine Cq (blk (by omega) he re) rfl rfl rfl rfl rfl ⟨rfl, rfl⟩ ?_
    refine G (T := T) 1000 rfl ?_
    refine Cq (an (ks := el.map tSm) (by decide)) rfl rfl rfl rfl rfl ⟨rfl, rfl⟩ ?_
    refine G (T := T) 1000 rfl ?_
    subst hR
    refine Zr 2 rfl ?_
    refine Cq (an (w := eG) (ks := es.map tEx ++ cs.map cQ ++ [.node cz (el.map tSm)]) (by decide)) rfl rfl rfl rfl (by rw [aK]; rfl) ⟨rfl, rfl⟩ ?_
    refine G (T := T) 1000 rfl ?_
    exact Fq (T := T) rfl rfl
  have := of_decide_eq_false h
  refine G (T := T) 1000 rfl ?_
  refine If rfl (fun h => ?_) (fun h => ?_)
  · have h9 := of_decide_eq_true h
    rw [tSm_10 h9 hr]
    refine Zc 2 rfl ?_
    refine G (T := T) 1000 rfl ?_
    refine Cq (an (ks := es.map tEx) (by decide)) rfl rfl rfl rfl rfl ⟨rfl, rfl⟩ ?_
    refine G (T := T) 1000 rfl ?_
    exact Fq (T := T) rfl rfl
  have := of_decide_eq_false h
  refine G (T := T) 1000 rfl ?_
  refine If rfl (fun h => ?_) (fun h => ?_)
  · have h9 := of_decide_eq_true h
    rw [tSm_11 h9 hr]
    refine Zc 2 rfl ?_
    refine G (T := T) 1000 rfl ?_
    refine Cq (fe hT hn2.1 hn2.2) rfl rfl rfl rfl rfl ⟨rfl, rfl⟩ ?_
    refine G (T := T) 1000 rfl ?_
    refine Cq (am (ks := es.map tEx) (by decide) (bX hn2.1 (by omega))) rfl rfl rfl rfl rfl ⟨rfl, rfl⟩ ?_
    refine G (T := T) 1000 rfl ?_
    exact Fq (T := T) rfl rfl
  have := of_decide_eq_false h
  refine G (T := T) 1000 rfl ?_
  refine If rfl (fun h => ?_) (fun h => ?_)
  · have h9 := of_decide_eq_true h
    obtain ⟨rfl, e⟩ := tSm_12 h9 hr
    rw [e]
    refine G (T := T) 1000 rfl ?_
    refine Cq (an (ks := []) (by decide)) rfl rfl rfl rfl rfl ⟨rfl, rfl⟩ ?_
    refine G (T := T) 1000 rfl ?_
    exact Fq (T := T) rfl rfl
  have := of_decide_eq_false h
  refine G (T := T) 1000 rfl ?_
  refine If rfl (fun h => ?_) (fun h => ?_)
  · have h9 := of_decide_eq_true h
    obtain ⟨rfl, e⟩ := tSm_13 h9 hr
    rw [e]
    refine G (T := T) 1000 rfl ?_
    refine Cq (an (ks := []) (by decide)) rfl rfl rfl rfl rfl ⟨rfl, rfl⟩ ?_
    refine G (T := T) 1000 rfl ?_
    exact Fq (T := T) rfl rfl
  have := of_decide_eq_false h
  rw [tSm_14 (by omega) hr]
  refine G (T := T) 1000 rfl ?_
  refine Zr 2 rfl ?_
  refine Cq (an (ks := es.map tEx) (by decide)) rfl rfl rfl rfl rfl ⟨rfl, rfl⟩ ?_
  refine G (T := T) 1000 rfl ?_
  exact Fq (T := T) rfl rfl
end
section
open Go Go.RowKit Go.Proofs K
variable {pk : Pk}
theorem eK (w : ByteArray) : XQ Tryz.prog pk 85 [xs w] (xf 139 [] [.p [.c (.string w)]]) := by
  refine XQ.en Tryz.func85 Tryz.ntmps85 (fun w0 own H V v0 hf => ?_)
  refine G (T := T) 100001 rfl ?_
  refine (FzTo.bz 0 rfl).c ?_
  refine G (T := T) 1000 rfl ?_
  exact Fq (T := T) rfl rfl
theorem oA (hT : ∀ H, pk.hy H → TabH H) {w : ByteArray} (hw : w.size ≤ 1000) {p : Par} {B : Nat} (hok : p.ok B) (hr : cN p = true) : XQ Tryz.prog pk 139 [xd (paD p), .a (.c (.d (.p [.c (.string w)])))] (xd (trd (eH w p))) := by
  obtain ⟨h1, h2, h3⟩ := hok
  rw [cN, Bool.and_eq_true] at hr
  refine XQ.en Tryz.func139 Tryz.ntmps139 (fun w0 own H V v0 hf => ?_)
  refine G (T := T) 100001 rfl ?_
  refine (FzTo.bz 0 rfl).c ?_
  refine G (T := T) 1000 rfl ?_
  refine Cq (gx hT h2 (.inl hr.2)) rfl rfl rfl rfl rfl ⟨rfl, rfl⟩ ?_
  refine G (T := T) 1000 rfl ?_
  refine Cq (am (ks := [tTy p.ty]) hw (by omega)) rfl rfl rfl rfl rfl ⟨rfl, rfl⟩ ?_
  refine G (T := T) 1000 rfl ?_
  exact Fq (T := T) rfl rfl
theorem it (hT : ∀ H, pk.hy H → TabH H) {w : ByteArray} (hw : w.size ≤ 1000) {l : List Par} {B : Nat} (hl : l.length ≤ 1000000000) (hok : ∀ p ∈ l, p.ok B) (hr : l.all cN = true) : XQ Tryz.prog pk 84 [xr (l.map paD), xf 139 [] [.p [.c (.string w)]]] (xr (aN (l.map (eH w)))) :=
  (dl pk).2.2.2.1 (eH w) (fs := []) (cs := [.p [.c (.string w)]]) hl (fun p hp => oA hT hw (hok p hp) (List.all_eq_true.1 hr p hp))
theorem diff_Def (hT : ∀ H, pk.hy H → TabH H) {t : Td} {B : Nat} (hB : B ≤ 1000000000) (hok : t.ok B) (hr : rTd t = true) : XQ Tryz.prog pk 35 [xd (tdD t)] (xd (trd (tTd t))) := by
  obtain ⟨h1, h2, h3⟩ := hok
  rw [rTd, Bool.and_eq_true] at hr
  refine XQ.en Tryz.func35 Tryz.ntmps35 (fun w0 own H V v0 hf => ?_)
  refine G (T := T) 100001 rfl ?_
  refine (FzTo.bz 0 rfl).c ?_
  refine G (T := T) 1000 rfl ?_
  refine Cf [1, 2] (fun (_ : Unit) r => (3, xs (if t.un then iM else ge)) :: r) (fun _ => [⟨1, 0, .cells [.d (.c (.string eS)), .z] 35⟩]) 2 (fun _ => True) rfl ?_ ?_
  · refine If rfl (fun h => ?_) (fun h => ?_)
    · refine G (T := T) 1000 rfl ?_
      rw [if_pos h]
      exact Dn () trivial
    · refine G (T := T) 1000 rfl ?_
      rw [if_neg (by rw [h]; simp)]
      exact Dn () trivial
  rintro _ -
  refine G (T := T) 1000 rfl ?_
  refine Cq (eK fa) rfl rfl rfl rfl rfl ⟨rfl, rfl⟩ ?_
  refine G (T := T) 1000 rfl ?_
  refine Cq (it hT (w := fa) (by decide) (by omega) h3 hr.2) rfl rfl rfl rfl rfl ⟨rfl, rfl⟩ ?_
  refine G (T := T) 1000 rfl ?_
  refine Cq (am (ks := t.fs.map (eH fa)) (by split <;> decide) (by omega)) rfl rfl rfl rfl rfl ⟨rfl, rfl⟩ ?_
  refine G (T := T) 1000 rfl ?_
  exact Fq (T := T) rfl rfl
theorem nQ (hT : ∀ H, pk.hy H → TabH H) {g : Gb} {B : Nat} (hB : B ≤ 900000000) (hok : g.ok B) (hr : rGb g = true) : XQ Tryz.prog pk 37 [xd (gbD g)] (xd (trd (tGb g))) := by
  obtain ⟨h1, h2, h3, h4, h5, h6⟩ := hok
  rw [rGb] at hr
  simp only [Bool.and_eq_true, Bool.or_eq_true, decide_eq_true_eq] at hr
  obtain ⟨⟨r1, r2⟩, r3⟩ := hr
  refine XQ.en Tryz.func37 Tryz.ntmps37 (fun w0 own H V v0 hf => ?_)
  refine G (T := T) 100001 rfl ?_
  refine (FzTo.bz 0 rfl).c ?_
  refine G (T := T) 1000 rfl ?_
  refine Cq (fe hT h5.1 h5.2) rfl rfl rfl rfl rfl ⟨rfl, rfl⟩ ?_
  refine G (T := T) 1000 rfl ?_
  refine Cq (am (w := w_at) (ks := []) (by decide) (bX h5.1 (by omega))) rfl rfl rfl rfl rfl ⟨rfl, rfl⟩ ?_
  refine G (T := T) 1000 rfl ?_
  refine If rfl (fun h => ?_) (fun h => ?_)
  · have h9 := of_decide_eq_true h
    rw [tGb, if_pos (by omega)]
    refine G (T := T) 1000 rfl ?_
    refine Cq (gx hT h2 (.inl r2)) rfl rfl rfl rfl rfl ⟨rfl, rfl⟩ ?_
    refine G (T := T) 1000 rfl ?_
    refine Cq (am (w := w_var) (ks := [tTy g.ty, iD w_at g.addr]) (by decide) (by omega)) rfl rfl rfl rfl rfl ⟨rfl, rfl⟩ ?_
    refine G (T := T) 1000 rfl ?_
    exact Fq (T := T) rfl rfl
  have h9 := of_decide_eq_false h
  rw [tGb, if_neg (by omega)]
  refine G (T := T) 1000 rfl ?_
  refine Cq (gx hT h2 (.inl r2)) rfl rfl rfl rfl rfl ⟨rfl, rfl⟩ ?_
  refine G (T := T) 1000 rfl ?_
  refine Cq (fd hT (n := g.bank) (by omega) (by omega)) rfl rfl rfl rfl rfl ⟨rfl, rfl⟩ ?_
  refine G (T := T) 1000 rfl ?_
  refine Cq (am (w := dX) (ks := []) (by decide) (bX (by omega) (by omega))) rfl rfl rfl rfl rfl ⟨rfl, rfl⟩ ?_
  refine G (T := T) 1000 rfl ?_
  refine Cq (diff_hex (by omega)) rfl rfl rfl rfl rfl ⟨rfl, rfl⟩ ?_
  refine G (T := T) 1000 rfl ?_
  refine Cq (am (w := iN) (ks := []) (by decide) (by rw [kL]; omega)) rfl rfl rfl rfl rfl ⟨rfl, rfl⟩ ?_
  refine G (T := T) 1000 rfl ?_
  refine Cq (am (w := ms) (ks := [tTy g.ty, iD dX g.bank, iD w_at g.addr, .node (au iN (hexB g.bytes)) []]) (by decide) (by omega)) rfl rfl rfl rfl rfl ⟨rfl, rfl⟩ ?_
  refine G (T := T) 1000 rfl ?_
  exact Fq (T := T) rfl rfl
theorem diff_Func (hT : ∀ H, pk.hy H → TabH H) {f : Fu} {B : Nat} (hB : B ≤ 900000000) (hok : f.ok B) (hr : rFu f = true) : XQ Tryz.prog pk 39 [xd (fuD f)] (xd (trd (tFu f))) := by
  obtain ⟨h1, h2, h3, h4, h5, h6, h7, h8, h9⟩ := hok
  rw [rFu] at hr
  simp only [Bool.and_eq_true, Bool.or_eq_true] at hr
  obtain ⟨⟨⟨r1, r2⟩, r3⟩, r4⟩ := hr
  refine XQ.en Tryz.func39 Tryz.ntmps39 (fun w0 own H V v0 hf => ?_)
  refine G (T := T) 100001 rfl ?_
  refine (FzTo.bz 0 rfl).c ?_
  refine G (T := T) 1000 rfl ?_
  refine Cq (eK cF) rfl rfl rfl rfl rfl ⟨rfl, rfl⟩ ?_
  refine G (T := T) 1000 rfl ?_
  refine Cq (it hT (w := cF) (by decide) (by omega) h3 r2) rfl rfl rfl rfl rfl ⟨rfl, rfl⟩ ?_
  refine G (T := T) 1000 rfl ?_
  refine Cq (an (w := dh) (ks := f.ps.map (eH cF)) (by decide)) rfl rfl rfl rfl rfl ⟨rfl, rfl⟩ ?_
  refine G (T := T) 1000 rfl ?_
  refine Cq (gx hT h4 r3.symm) rfl rfl rfl rfl rfl ⟨rfl, rfl⟩ ?_
  refine G (T := T) 1000 rfl ?_
  refine Cq (an (w := di) (ks := [tTy f.res]) (by decide)) rfl rfl rfl rfl rfl ⟨rfl, rfl⟩ ?_
  refine G (T := T) 1000 rfl ?_
  refine If rfl (fun h => ?_) (fun h => ?_)
  · rw [if_pos h] at r4
    simp only [Bool.and_eq_true, decide_eq_true_eq] at r4
    rw [tFu, if_pos h]
    refine G (T := T) 1000 rfl ?_
    refine Cq (fd hT (n := f.x) (by omega) (by omega)) rfl rfl rfl rfl rfl ⟨rfl, rfl⟩ ?_
    refine G (T := T) 1000 rfl ?_
    refine Cq (am (w := dX) (ks := []) (by decide) (bX (by omega) (by omega))) rfl rfl rfl rfl rfl ⟨rfl, rfl⟩ ?_
    refine G (T := T) 1000 rfl ?_
    refine Cq (fe hT h9.1 h9.2) rfl rfl rfl rfl rfl ⟨rfl, rfl⟩ ?_
    refine G (T := T) 1000 rfl ?_
    refine Cq (am (w := w_at) (ks := []) (by decide) (bX h9.1 (by omega))) rfl rfl rfl rfl rfl ⟨rfl, rfl⟩ ?_
    refine G (T := T) 1000 rfl ?_
    refine Cq (am (w := gf) (ks := [.node dh (f.ps.map (eH cF)), .node di [tTy f.res], iD dX f.x, iD w_at f.y]) (by decide) (by omega)) rfl rfl rfl rfl rfl ⟨rfl, rfl⟩ ?_
    refine G (T := T) 1000 rfl ?_
    exact Fq (T := T) rfl rfl
  rw [if_neg (by rw [h]; simp)] at r4
  simp only [Bool.and_eq_true, aH] at r4
  rw [tFu, if_neg (by rw [h]; simp), dP]
  refine G (T := T) 1000 rfl ?_
  refine Cq ((dl pk).2.2.2.2.1 tSm (fs := []) (cs := []) (by have := Sm.len_le f.body; omega) (fun s hs => diff_Stmt hT _ (by have := Sm.size_mem hs; omega) (Nat.le_refl _) (Sm.oks_mem h6 hs) (List.all_eq_true.1 r4.2 s hs))) rfl rfl rfl rfl rfl ⟨rfl, rfl⟩ ?_
  refine G (T := T) 1000 rfl ?_
  refine Cq (an (w := dK) (ks := f.body.map tSm) (by decide)) rfl rfl rfl rfl rfl ⟨rfl, rfl⟩ ?_
  refine G (T := T) 1000 rfl ?_
  refine Cq (am (w := w_fn) (ks := [.node dh (f.ps.map (eH cF)), .node di [tTy f.res], .node dK (f.body.map tSm)]) (by decide) (by omega)) rfl rfl rfl rfl rfl ⟨rfl, rfl⟩ ?_
  refine G (T := T) 1000 rfl ?_
  exact Fq (T := T) rfl rfl
theorem cf (hT : ∀ H, pk.hy H → TabH H) {p : Pg} {B : Nat} (hB : B ≤ 900000000) (hok : p.ok B) : XQ Tryz.prog pk 12 [xd (pgD p)] (xd (trd (dj p))) := by
  refine XQ.en Tryz.func12 Tryz.ntmps12 (fun w0 own H V v0 hf => ?_)
  refine G (T := T) 100001 rfl ?_
  refine (FzTo.bz 0 rfl).c ?_
  refine G (T := T) 1000 rfl ?_
  refine Cq (syn_Right hok) rfl rfl rfl rfl rfl ⟨rfl, rfl⟩ ?_
  refine G (T := T) 1000 rfl ?_
  refine If rfl (fun h => ?_) (fun h => ?_)
  · rw [dj, if_neg (by simpa using h)]
    refine G (T := T) 1000 rfl ?_
    exact Fq (T := T) rfl rfl
  have h9 : rPg p = true := by simpa using h
  rw [dj, if_pos h9, tPg]
  rw [rPg] at h9
  simp only [Bool.and_eq_true] at h9
  refine G (T := T) 1000 rfl ?_
  refine Cq ((dl pk).1 tTd (fs := []) (cs := []) (by have := hok.tl; omega) (fun x hx => diff_Def hT (B := B) (by omega) (hok.t x hx) (List.all_eq_true.1 h9.1.1 x hx))) rfl rfl rfl rfl rfl ⟨rfl, rfl⟩ ?_
  refine G (T := T) 1000 rfl ?_
  refine Cq (an (w := dE) (ks := p.ts.map tTd) (by decide)) rfl rfl rfl rfl rfl ⟨rfl, rfl⟩ ?_
  refine G (T := T) 1000 rfl ?_
  refine Cq ((dl pk).2.1 tGb (fs := []) (cs := []) (by have := hok.gl; omega) (fun x hx => nQ hT hB (hok.g x hx) (List.all_eq_true.1 h9.1.2 x hx))) rfl rfl rfl rfl rfl ⟨rfl, rfl⟩ ?_
  refine G (T := T) 1000 rfl ?_
  refine Cq (an (w := cW) (ks := p.gs.map tGb) (by decide)) rfl rfl rfl rfl rfl ⟨rfl, rfl⟩ ?_
  refine G (T := T) 1000 rfl ?_
  refine Cq ((dl pk).2.2.1 tFu (fs := []) (cs := []) (by have := hok.fl; omega) (fun x hx => diff_Func hT hB (hok.f x hx) (List.all_eq_true.1 h9.2 x hx))) rfl rfl rfl rfl rfl ⟨rfl, rfl⟩ ?_
  refine G (T := T) 1000 rfl ?_
  refine Cq (an (w := gh) (ks := p.fs.map tFu) (by decide)) rfl rfl rfl rfl rfl ⟨rfl, rfl⟩ ?_
  refine G (T := T) 1000 rfl ?_
  refine Cq (an (w := gW) (ks := [.node dE (p.ts.map tTd), .node cW (p.gs.map tGb), .node gh (p.fs.map tFu)]) (by decide)) rfl rfl rfl rfl rfl ⟨rfl, rfl⟩ ?_
  refine G (T := T) 1000 rfl ?_
  exact Fq (T := T) rfl rfl
end
section
open Go Go.RowKit Go.Proofs K
variable {pk : Pk}
theorem aQ {w p : ByteArray} (hw : w.size ≤ 1000) (hp9 : p.size ≤ 2000000000) : XQ Tryz.prog pk 58 [xs w, xs p] (.a (.a [.d (.c (.string (au w p))), .z])) := by
  refine XQ.en Tryz.func58 Tryz.ntmps58 (fun w0 own H V v0 hf => ?_)
  refine G (T := T) 1000 rfl ?_
  refine If rfl (fun h => ?_) (fun h => ?_)
  · rw [show au w p = w from if_pos (of_decide_eq_true h)]
    refine G (T := T) 1000 rfl ?_
    exact Fq (T := T) rfl rfl
  · rw [show au w p = (w ++ ⟨#[32]⟩) ++ p from by rw [au, if_neg (of_decide_eq_false h)]; exact (ByteArray.append_assoc (a := w)).symm]
    refine G (T := T) 1000 rfl ?_ ⟨by rw [ByteArray.size_append]; show w.size + 1 + p.size ≤ _; omega, by show w.size + 1 ≤ _; omega, trivial⟩
    exact Fq (T := T) rfl rfl
theorem ref_DecN {n : Nat} (hn : n ≤ 9223372036854775807) : XQ Tryz.prog pk 111 [xi (n : Nat)] (xs (bo n)) := by
  refine XQ.en Tryz.func111 Tryz.ntmps111 (fun w0 own H V v0 hf => ?_)
  have t1 : ∀ m : Nat, 0 ≤ (m : Int).tmod 10 ∧ (m : Int).tmod 10 < 10 := fun m => ⟨Int.tmod_nonneg 10 (Int.natCast_nonneg m), Int.tmod_lt_of_pos (m : Int) (by omega)⟩
  have t2 := t1 n
  refine G (T := T) 9 rfl ?_
  rw [fC n]
  refine Cd (T := T) [UInt8.ofNat (48 + n % 10)] rfl rfl rfl rfl rfl rfl ⟨rfl, rfl⟩ ?_
  refine G (T := T) 1000 rfl ?_
  refine Lq [] (fun (q : Nat × List UInt8) r => (0, xi (q.1 : Nat)) :: (3, xs (bb q.2)) :: r) (fun q => []) 0 (fun q => q.1 ≤ n ∧ decI n q.1 q.2) (fun q => q.1) (n, [UInt8.ofNat (48 + n % 10)]) rfl ⟨Nat.le_refl _, decI_0 n⟩ ?_
  rintro ⟨m, s⟩ ⟨hm, hS⟩; dsimp only at hm hS ⊢
  refine G (T := T) 1000 rfl ?_
  refine If rfl (fun h => ?_) (fun h => ?_)
  · have hge : 10 ≤ m := by have := of_decide_eq_true h; omega
    have t3 := t1 (m / 10)
    have e9 : ((m : Nat) : Int).tdiv 10 = ((m / 10 : Nat) : Int) := rfl
    refine G (T := T) 14 rfl ?_ ⟨by rw [e9]; exact ⟨by omega, by omega⟩, by omega, trivial⟩
    rw [e9]
    refine G (T := T) 19 rfl ?_
    rw [fC (m / 10)]
    refine Cd (T := T) [UInt8.ofNat (48 + m / 10 % 10)] rfl rfl rfl rfl rfl rfl ⟨rfl, rfl⟩ ?_
    refine G (T := T) 1000 rfl ?_ ⟨by show (bb _).size + (bb s).size ≤ _; rw [fL, fL]; have := decI_len hS (by omega); simp; omega, trivial⟩
    rw [show (⟨#[UInt8.ofNat (48 + m / 10 % 10)]⟩ : ByteArray) ++ bb s = bb (UInt8.ofNat (48 + m / 10 % 10) :: s) from gN [_] s]
    exact Nq (m / 10, UInt8.ofNat (48 + m / 10 % 10) :: s) ⟨by dsimp only; omega, decI_step hS (by omega)⟩ (by show m / 10 < m; omega)
  · have hlt : m < 10 := by have := of_decide_eq_false h; omega
    refine G (T := T) 1000 rfl ?_
    exact Fe (T := T) rfl (by rw [bo, decI_end hS (by omega)]; rfl)
theorem bj {n : Int} (h0 : 0 ≤ n) (h1 : n ≤ 9223372036854775807) : XQ Tryz.prog pk 111 [xi n] (xs (bo n.toNat)) := by
  obtain ⟨m, rfl⟩ := Int.eq_ofNat_of_zero_le h0
  exact ref_DecN (by omega)
theorem ref_hex {t : ByteArray} (ht : t.size ≤ 1000000000) : XQ Tryz.prog pk 112 [xs t] (xs (hexB t)) := by
  refine XQ.en Tryz.func112 Tryz.ntmps112 (fun w0 own H V v0 hf => ?_)
  refine G (T := T) 1000 rfl ?_
  refine Lq [0, 3] (fun (q : Nat × List UInt8) r => (4, xs (bb q.2)) :: (5, xi (q.1 : Nat)) :: r) (fun q => []) 0 (fun q => q.1 ≤ t.size ∧ q.2 = gX (t.data.toList.take q.1)) (fun q => t.size - q.1) (0, []) rfl ⟨Nat.zero_le _, rfl⟩ ?_
  rintro ⟨k, acc⟩ ⟨hk, hA⟩; dsimp only at hk hA ⊢
  have hlen : acc.length = 2 * k := by rw [hA, gt, List.length_take]; simp; omega
  refine G (T := T) 1000 rfl ?_
  refine If rfl (fun h => ?_) (fun h => ?_)
  · have hlt : k < t.size := by have := of_decide_eq_true h; omega
    have hb : t.data.toList[k]? = some (t.data.getD ((k : Nat) : Int).toNat 0) := by
      rw [Array.getElem?_toList, Array.getElem?_eq_getElem hlt, Array.getD, dif_pos (by exact hlt)]; rfl
    have hb3 := (t.data.getD ((k : Nat) : Int).toNat 0).toNat_lt
    generalize hbb : t.data.getD ((k : Nat) : Int).toNat 0 = b at hb
    have hb2 := b.toNat_lt
    have e1 : (ByteArray.mk #[48, 49, 50, 51, 52, 53, 54, 55, 56, 57, 97, 98, 99, 100, 101, 102]).extract ((b.toNat / 16 : Nat) : Int).toNat (((b.toNat / 16 : Nat) : Int) + 1).toNat = bb [dO (b.toNat / 16)] := dig_ext _ (by omega)
    have e2 : (ByteArray.mk #[48, 49, 50, 51, 52, 53, 54, 55, 56, 57, 97, 98, 99, 100, 101, 102]).extract ((b.toNat % 16 : Nat) : Int).toNat (((b.toNat % 16 : Nat) : Int) + 1).toNat = bb [dO (b.toNat % 16)] := dig_ext _ (by omega)
    have h16 : (ByteArray.mk #[48, 49, 50, 51, 52, 53, 54, 55, 56, 57, 97, 98, 99, 100, 101, 102]).size = 16 := rfl
    have z1 : (bb acc).size = acc.length := fL _
    have z2 : (bb [dO (b.toNat / 16)]).size = 1 := rfl
    have z3 : (bb [dO (b.toNat % 16)]).size = 1 := rfl
    have z4 : (bb acc ++ bb [dO (b.toNat / 16)]).size = acc.length + 1 := by rw [ByteArray.size_append, z1, z2]
    have q1 : (b.toNat : Int).tdiv 16 = ((b.toNat / 16 : Nat) : Int) := rfl
    have q2 : (b.toNat : Int).tmod 16 = ((b.toNat % 16 : Nat) : Int) := rfl
    refine G (T := T) 18 rfl ?_
    rw [hbb]
    refine G (T := T) 19 rfl ?_ ⟨by rw [q1]; exact ⟨by omega, by omega⟩, by omega, trivial⟩
    rw [q1]
    refine G (T := T) 23 rfl ?_
    rw [hbb]
    refine G (T := T) 24 rfl ?_
    rw [q2]
    refine G (T := T) 30 rfl ?_
    rw [e1]
    refine G (T := T) 36 rfl ?_
    rw [e2]
    refine G (T := T) 1000 rfl ?_
    rw [show bb acc ++ bb [dO (b.toNat / 16)] ++ bb [dO (b.toNat % 16)] = bb (acc ++ [dO (b.toNat / 16), dO (b.toNat % 16)]) from by rw [gN, gN, List.append_assoc]; rfl]
    exact Nq (k + 1, acc ++ [dO (b.toNat / 16), dO (b.toNat % 16)]) ⟨hlt, by dsimp only; rw [hA, kK hb]⟩ (by show _ - (k + 1) < _ - k; omega)
  · have hlt : t.size ≤ k := by have := of_decide_eq_false h; omega
    refine G (T := T) 1000 rfl ?_
    exact Fe (T := T) rfl (by rw [hA, List.take_of_length_le (by simpa using hlt)]; rfl)
end
section
open Go Go.RowKit Go.Proofs K
variable {pk : Pk}
theorem ty_nn {k n : Int} {nm : ByteArray} {ts : List Ty4} (h : rTy (.mk k nm n ts) = true ∨ az (.mk k nm n ts) 7 = true) : 0 ≤ n ∧ (1 ≤ k ∧ k ≤ 7) ∧ (k = 4 → nm ≠ ⟨#[]⟩) := by
  rcases h with h | h
  · rw [rTy] at h
    split at h
    · simp only [Bool.and_eq_true, decide_eq_true_eq] at h
      have h1 := h.1.1
      rw [ae] at h1
      simp only [Bool.and_eq_true, decide_eq_true_eq] at h1
      exact ⟨by omega, by omega, fun _ => h1.1.1.1.1⟩
    · split at h
      · simp only [Bool.and_eq_true, decide_eq_true_eq] at h
        exact ⟨by omega, by omega, fun e => by omega⟩
      · split at h
        · simp only [Bool.and_eq_true, decide_eq_true_eq] at h
          exact ⟨by omega, by omega, fun e => by omega⟩
        · cases h
  · simp only [az, Bool.and_eq_true, decide_eq_true_eq] at h
    exact ⟨by omega, by omega, fun e => by omega⟩
theorem g6 {w p q : ByteArray} (hp : p ≠ ⟨#[]⟩) (hq : w ++ ⟨#[32]⟩ = q) : au w p = q ++ p := by rw [au, if_neg hp, ← hq]; exact (ByteArray.append_assoc (a := w)).symm
theorem oB : ∀ (m : Nat), m ≤ 1000000000 → ∀ {t : Ty4}, t.size ≤ m → t.ok → (rTy t = true ∨ az t 7 = true) → XQ Tryz.prog pk 110 [xd (tyD t)] (xd (trd (tTy t))) := by
  intro m
  induction m with
  | zero => intro _ t hm; have := t.size_pos; omega
  | succ m ih =>
  intro hB t hm hok hr
  obtain ⟨k, nm, n, ts⟩ := t
  obtain ⟨hk, hn, hn2, hts⟩ := hok
  obtain ⟨s1, s2⟩ := ty_kids hr
  obtain ⟨hn0, hk7, hnm⟩ := ty_nn hr
  have aP : ∀ u ∈ ts, rTy u = true := fun u hu => by
    by_cases h5 : k = 5 ∨ k = 6
    · exact List.all_eq_true.1 (ty_num hr h5).2 u hu
    · rw [s2 h5] at hu; cases hu
  have hsz : (Ty4.mk k nm n ts).size = Ty4.sizes ts + 1 := rfl
  have hlen := Ty4.len_le ts
  have hdec := bX hn0 (by omega)
  rw [gR, show tTy (.mk k nm n ts) = .node (tyL k nm n) (ts.map tTy) from by rw [tTy, nz], aZ]
  refine XQ.en Tryz.func110 Tryz.ntmps110 (fun w0 own H V v0 hf => ?_)
  refine G (T := T) 100001 rfl ?_
  refine (FzTo.bz 0 rfl).c ?_
  have z1 : (ByteArray.mk #[116, 121, 112, 101, 32]).size = 5 := rfl
  have z2 : (ByteArray.mk #[97, 114, 114, 97, 121, 32]).size = 6 := rfl
  have z3 : (ByteArray.mk #[112, 116, 114, 32]).size = 4 := rfl
  refine G (T := T) 1000 rfl ?_
  refine Cq (bj hn0 (by omega)) rfl rfl rfl rfl rfl ⟨rfl, rfl⟩ ?_
  refine G (T := T) 1000 rfl ?_
  refine Cq (bj hn0 (by omega)) rfl rfl rfl rfl rfl ⟨rfl, rfl⟩ ?_
  refine G (T := T) 21 rfl ?_
  refine Lo (T := T) (.d (.c (.string (tyL k nm n)))) ?_ rfl rfl rfl rfl rfl ⟨rfl, rfl⟩ ?_
  · obtain rfl | rfl | rfl | rfl | rfl | rfl | rfl : k = 1 ∨ k = 2 ∨ k = 3 ∨ k = 4 ∨ k = 5 ∨ k = 6 ∨ k = 7 := by omega
    · rfl
    · rfl
    · rfl
    · rw [show tyL 4 nm n = au jF nm from rfl, g6 (hnm rfl) (q := ⟨#[116, 121, 112, 101, 32]⟩) rfl]; rfl
    · rw [show tyL 5 nm n = au fW (bo n.toNat) from rfl, g6 (decB_ne _) (q := ⟨#[97, 114, 114, 97, 121, 32]⟩) rfl]; rfl
    · rw [show tyL 6 nm n = au w_ptr (bo n.toNat) from rfl, g6 (decB_ne _) (q := ⟨#[112, 116, 114, 32]⟩) rfl]; rfl
    · rfl
  refine G (T := T) 1000 rfl ?_
  refine (Nrh 3 1 35 2 rfl rfl rfl rfl rfl).c ?_
  refine Lq [1, 2, 4] (fun (q : Nat × List (List D)) r => (5, xi (q.1 : Nat)) :: r) (fun q => [⟨4, 1, .row q.1 q.2 35 2⟩, ⟨3, 0, .cells [.d (.c (.string (tyL k nm n))), .l 4 1 2 0 q.1 q.1] 35⟩, ⟨1, 0, .cells [.d (.c (.string eS)), .z] 35⟩]) 5 (fun q => q.1 ≤ ts.length ∧ q.2 = aN ((ts.take q.1).map tTy)) (fun q => ts.length - q.1) (0, []) rfl ⟨Nat.zero_le _, rfl⟩ ?_
  rintro ⟨j, R⟩ ⟨hj, hR⟩; dsimp only at hj hR ⊢
  refine G (T := T) 1000 rfl ?_
  refine If rfl (fun h => ?_) (fun h => ?_)
  · have hjl := of_decide_eq_true h; rw [List.length_map] at hjl
    obtain ⟨y, hy⟩ := al (l := ts) (j := j) (by omega)
    have hym := List.mem_of_getElem? hy
    refine G (T := T) 35 rfl ?_
    refine Ix (T := T) j (aa hy) rfl rfl rfl rfl ⟨rfl, rfl⟩ rfl rfl ?_
    refine G (T := T) 1000 rfl ?_
    refine Cq (ih (t := y) (by omega) (by have := Ty4.size_mem hym; omega) (Ty4.oks_mem hts hym) (.inl (aP y hym))) rfl rfl rfl rfl rfl ⟨rfl, rfl⟩ ?_
    refine G (T := T) 1000 rfl ?_
    exact Nq (j + 1, R ++ [trd (tTy y)]) ⟨by omega, by dsimp only; rw [hR, aT tTy hy, aK]⟩ (by show _ - (j + 1) < _ - j; omega)
  · have hjl := of_decide_eq_false h; rw [List.length_map] at hjl
    refine G (T := T) 1000 rfl ?_
    rw [List.take_of_length_le (by omega)] at hR; subst hR
    refine MS.fze 4 rfl ?_ (by repeat' (first | exact trivial | apply And.intro | rfl))
    exact Fq (T := T) rfl rfl
theorem oC : ∀ (m : Nat), m ≤ 1000000000 → ∀ {e : Ex}, e.size ≤ m → e.ok → rEx e = true → XQ Tryz.prog pk 180 [xd (exD e)] (xd (trd (tEx e))) := by
  intro m
  induction m with
  | zero => intro _ e hm; have := e.size_pos; omega
  | succ m ih =>
  intro hB e hm hok hr
  obtain ⟨k, nm, n, ks⟩ := e
  obtain ⟨hk, hn, hn2, hks⟩ := hok
  have hsz : (Ex.mk k nm n ks).size = Ex.sizes ks + 1 := rfl
  have hlen := Ex.len_le ks
  rw [rEx, be] at hr
  simp only [Bool.and_eq_true] at hr
  have hk15 := of_decide_eq_true hr.1.1.1.1
  have aP := List.all_eq_true.1 hr.2
  have hdec := bX hn2.1 (by omega)
  rw [jC, show tEx (.mk k nm n ks) = .node (au (exW k) (if dF k then bo n.toNat else nm)) (ks.map tEx) from by rw [tEx, gj], aZ]
  refine XQ.en Tryz.func180 Tryz.ntmps180 (fun w0 own H V v0 hf => ?_)
  refine G (T := T) 100001 rfl ?_
  refine (FzTo.bz 0 rfl).c ?_
  refine G (T := T) 10 rfl ?_
  have lbl : ∀ {cs : List XC}, cs = [.d (.c (.string eS)), .d (.c (.string w_num)), .d (.c (.string w_id)), .d (.c (.string eE)), .d (.c (.string fX)), .d (.c (.string fY)), .d (.c (.string jG)), .d (.c (.string jH)), .d (.c (.string fZ)), .d (.c (.string jI)), .d (.c (.string f9)), .d (.c (.string w_in)), .d (.c (.string ga)), .d (.c (.string eF)), .d (.c (.string jJ)), .d (.c (.string jK))] → at_ cs (0 + k.toNat * 1) = some (.d (.c (.string (exW k)))) := by
    rintro _ rfl
    rcases kind15 hk15 with rfl | rfl | rfl | rfl | rfl | rfl | rfl | rfl | rfl | rfl | rfl | rfl | rfl | rfl | rfl <;> rfl
  refine Lo (T := T) (.d (.c (.string (exW k)))) (lbl rfl) rfl rfl rfl rfl rfl ⟨rfl, rfl⟩ ?_
  refine G (T := T) 1000 rfl ?_
  refine Cq (aQ (w := exW k) (p := nm) (exW_le k) (by omega)) rfl rfl rfl rfl rfl ⟨rfl, rfl⟩ ?_
  refine Gs (T := T) 1000 rfl ?_
  refine Cf [1, 2, 4] (fun (_ : Unit) r => r) (fun _ => [⟨3, 0, .cells [.d (.c (.string (au (exW k) (if dF k then bo n.toNat else nm)))), .z] 35⟩, ⟨1, 0, .cells [.d (.c (.string eS)), .z] 35⟩]) 4 (fun _ => True) rfl ?_ ?_
  · refine If rfl (fun h => ?_) (fun h => ?_)
    · have h9 : dF k = true := by rw [← h]; simp [dF, Bool.or_assoc]
      rw [if_pos h9]
      refine G (T := T) 35 rfl ?_
      refine Lo (T := T) (.d (.c (.string (exW k)))) (lbl rfl) rfl rfl rfl rfl rfl ⟨rfl, rfl⟩ ?_
      refine G (T := T) 1000 rfl ?_
      refine Cq (bj hn2.1 (by omega)) rfl rfl rfl rfl rfl ⟨rfl, rfl⟩ ?_
      refine G (T := T) 1000 rfl ?_
      refine Cq (aQ (w := exW k) (p := bo n.toNat) (exW_le k) (by omega)) rfl rfl rfl rfl rfl ⟨rfl, rfl⟩ ?_
      refine G (T := T) 1000 rfl ?_
      exact Dn () trivial
    · have h9 : ¬ dF k = true := by
        rw [show dF k = false from by rw [← h]; simp [dF, Bool.or_assoc]]; simp
      rw [if_neg h9]
      refine G (T := T) 1000 rfl ?_
      exact Dn () trivial
  rintro _ -
  refine G (T := T) 1000 rfl ?_
  refine (Nrh 3 1 35 2 rfl rfl rfl rfl rfl).c ?_
  generalize au (exW k) (if dF k then bo n.toNat else nm) = L
  refine Lq [1, 2, 4] (fun (q : Nat × List (List D)) r => (5, xi (q.1 : Nat)) :: r) (fun q => [⟨4, 1, .row q.1 q.2 35 2⟩, ⟨3, 0, .cells [.d (.c (.string L)), .l 4 1 2 0 q.1 q.1] 35⟩, ⟨1, 0, .cells [.d (.c (.string eS)), .z] 35⟩]) 5 (fun q => q.1 ≤ ks.length ∧ q.2 = aN ((ks.take q.1).map tEx)) (fun q => ks.length - q.1) (0, []) rfl ⟨Nat.zero_le _, rfl⟩ ?_
  rintro ⟨j, R⟩ ⟨hj, hR⟩; dsimp only at hj hR ⊢
  refine G (T := T) 1000 rfl ?_
  refine If rfl (fun h => ?_) (fun h => ?_)
  · have hjl := of_decide_eq_true h; rw [List.length_map] at hjl
    obtain ⟨y, hy⟩ := al (l := ks) (j := j) (by omega)
    have hym := List.mem_of_getElem? hy
    refine G (T := T) 53 rfl ?_
    refine Ix (T := T) j (aa hy) rfl rfl rfl rfl ⟨rfl, rfl⟩ rfl rfl ?_
    refine G (T := T) 1000 rfl ?_
    refine Cq (ih (e := y) (by omega) (by have := Ex.size_mem hym; omega) (Ex.oks_mem hks hym) (aP y hym)) rfl rfl rfl rfl rfl ⟨rfl, rfl⟩ ?_
    refine G (T := T) 1000 rfl ?_
    exact Nq (j + 1, R ++ [trd (tEx y)]) ⟨by omega, by dsimp only; rw [hR, aT tEx hy, aK]⟩ (by show _ - (j + 1) < _ - j; omega)
  · have hjl := of_decide_eq_false h; rw [List.length_map] at hjl
    refine G (T := T) 1000 rfl ?_
    rw [List.take_of_length_le (by omega)] at hR; subst hR
    refine MS.fze 4 rfl ?_ (by repeat' (first | exact trivial | apply And.intro | rfl))
    exact Fq (T := T) rfl rfl
end
section
open Go Go.RowKit Go.Proofs K
variable {pk : Pk}
theorem jQ {t : Ty4} (hs : t.size ≤ 1000000000) (h : t.ok) (hr : rTy t = true ∨ az t 7 = true) : XQ Tryz.prog pk 110 [xd (tyD t)] (xd (trd (tTy t))) := oB _ hs (Nat.le_refl _) h hr
theorem gy {w : ByteArray} (hw : w.size ≤ 1000) {l : List Par} {B : Nat} (hB : B ≤ 1000000000) (hl : l.length ≤ B) (hok : ∀ p ∈ l, p.ok B) (hr : ∀ p ∈ l, cN p = true) : XQ Tryz.prog pk 59 [xs w, xr (l.map paD)] (xr (aN (l.map (eH w)))) := by
  refine XQ.en Tryz.func59 Tryz.ntmps59 (fun w0 own H V v0 hf => ?_)
  refine G (T := T) 1000 rfl ?_
  refine (Nr 5 35 2 rfl rfl).c ?_
  refine Lq [0, 1] (fun (q : Nat × List (List D)) r => (5, .a (.c (.l 0 1 2 0 q.1 q.1))) :: (6, xi (q.1 : Nat)) :: r) (fun q => [⟨0, 1, .row q.1 q.2 35 2⟩]) 1 (fun q => q.1 ≤ l.length ∧ q.2 = aN ((l.take q.1).map (eH w))) (fun q => l.length - q.1) (0, []) rfl ⟨Nat.zero_le _, rfl⟩ ?_
  rintro ⟨j, R⟩ ⟨hj, hR⟩; dsimp only at hj hR ⊢
  refine G (T := T) 1000 rfl ?_
  refine If rfl (fun h => ?_) (fun h => ?_)
  · have hjl := of_decide_eq_true h; rw [List.length_map] at hjl
    obtain ⟨y, hy⟩ := al (l := l) (j := j) (by omega)
    have hym := List.mem_of_getElem? hy
    obtain ⟨o1, o2, o3⟩ := hok y hym
    have hry := hr y hym
    rw [cN, Bool.and_eq_true] at hry
    refine G (T := T) 1000 rfl ?_
    refine Ix (T := T) j (aa hy) rfl rfl rfl rfl ⟨rfl, rfl⟩ rfl rfl ?_
    refine G (T := T) 1000 rfl ?_
    refine Cq (aQ hw (p := y.nm) (by omega)) rfl rfl rfl rfl rfl ⟨rfl, rfl⟩ ?_
    refine G (T := T) 1000 rfl ?_
    refine Ix (T := T) j (aa hy) rfl rfl rfl rfl ⟨rfl, rfl⟩ rfl rfl ?_
    refine G (T := T) 1000 rfl ?_
    refine Cq (jQ (by omega) o2 (.inl hry.2)) rfl rfl rfl rfl rfl ⟨rfl, rfl⟩ ?_
    refine G (T := T) 1000 rfl ?_
    exact Nq (j + 1, R ++ [trd (eH w y)]) ⟨by omega, by dsimp only; rw [hR, aT (eH w) hy, aK]⟩ (by show _ - (j + 1) < _ - j; omega)
  · have hjl := of_decide_eq_false h; rw [List.length_map] at hjl
    refine G (T := T) 1000 rfl ?_
    rw [List.take_of_length_le (by omega)] at hR; subst hR
    refine MS.fze 0 rfl ?_ (by repeat' (first | exact trivial | apply And.intro | rfl))
    exact Fq (T := T) rfl rfl
theorem iu {l : List Sm} (hl : l.length ≤ 1000000000) (hs : ∀ s ∈ l, XQ Tryz.prog pk 152 [xd (smD s)] (xd (trd (tSm s)))) : XQ Tryz.prog pk 113 [xr (l.map smD)] (xr (aN (l.map tSm))) := by
  refine XQ.en Tryz.func113 Tryz.ntmps113 (fun w0 own H V v0 hf => ?_)
  refine G (T := T) 1000 rfl ?_
  refine (Nr 3 35 2 rfl rfl).c ?_
  refine Lq [0] (fun (q : Nat × List (List D)) r => (3, .a (.c (.l 0 1 2 0 q.1 q.1))) :: (4, xi (q.1 : Nat)) :: r) (fun q => [⟨0, 1, .row q.1 q.2 35 2⟩]) 1 (fun q => q.1 ≤ l.length ∧ q.2 = aN ((l.take q.1).map tSm)) (fun q => l.length - q.1) (0, []) rfl ⟨Nat.zero_le _, rfl⟩ ?_
  rintro ⟨j, R⟩ ⟨hj, hR⟩; dsimp only at hj hR ⊢
  refine G (T := T) 1000 rfl ?_
  refine If rfl (fun h => ?_) (fun h => ?_)
  · have hjl := of_decide_eq_true h; rw [List.length_map] at hjl
    obtain ⟨y, hy⟩ := al (l := l) (j := j) (by omega)
    have hym := List.mem_of_getElem? hy
    refine G (T := T) 1000 rfl ?_
    refine Ix (T := T) j (aa hy) rfl rfl rfl rfl ⟨rfl, rfl⟩ rfl rfl ?_
    refine G (T := T) 1000 rfl ?_
    refine Cq (hs y hym) rfl rfl rfl rfl rfl ⟨rfl, rfl⟩ ?_
    refine G (T := T) 1000 rfl ?_
    exact Nq (j + 1, R ++ [trd (tSm y)]) ⟨by omega, by dsimp only; rw [hR, aT tSm hy, aK]⟩ (by show _ - (j + 1) < _ - j; omega)
  · have hjl := of_decide_eq_false h; rw [List.length_map] at hjl
    refine G (T := T) 1000 rfl ?_
    rw [List.take_of_length_le (by omega)] at hR; subst hR
    refine MS.fze 0 rfl ?_ (by repeat' (first | exact trivial | apply And.intro | rfl))
    exact Fq (T := T) rfl rfl
theorem mG {g : Gb} {B : Nat} (hB : B ≤ 900000000) (hok : g.ok B) (hr : rGb g = true) : XQ Tryz.prog pk 60 [xd (gbD g)] (xd (trd (tGb g))) := by
  obtain ⟨h1, h2, h3, h4, h5, h6⟩ := hok
  rw [rGb] at hr
  simp only [Bool.and_eq_true, Bool.or_eq_true, decide_eq_true_eq] at hr
  obtain ⟨⟨r1, r2⟩, r3⟩ := hr
  have hd1 := bX h5.1 (by omega)
  refine XQ.en Tryz.func60 Tryz.ntmps60 (fun w0 own H V v0 hf => ?_)
  refine G (T := T) 100001 rfl ?_
  refine (FzTo.bz 0 rfl).c ?_
  refine G (T := T) 1000 rfl ?_
  refine Cq (bj h5.1 (by omega)) rfl rfl rfl rfl rfl ⟨rfl, rfl⟩ ?_
  refine G (T := T) 1000 rfl ?_
  refine Cq (aQ (w := w_at) (p := bo g.addr.toNat) (by decide) (by omega)) rfl rfl rfl rfl rfl ⟨rfl, rfl⟩ ?_
  refine G (T := T) 1000 rfl ?_
  refine If rfl (fun h => ?_) (fun h => ?_)
  · have h9 := of_decide_eq_true h
    rw [tGb, if_pos (by omega)]
    refine G (T := T) 1000 rfl ?_
    refine Cq (aQ (w := w_var) (p := g.nm) (by decide) (by omega)) rfl rfl rfl rfl rfl ⟨rfl, rfl⟩ ?_
    refine G (T := T) 1000 rfl ?_
    refine Cq (jQ (by omega) h2 (.inl r2)) rfl rfl rfl rfl rfl ⟨rfl, rfl⟩ ?_
    refine G (T := T) 1000 rfl ?_
    exact Fq (T := T) rfl rfl
  have h9 := of_decide_eq_false h
  have hd2 := bX (n := g.bank) (by omega) (by omega)
  have hd3 : (hexB g.bytes).size ≤ 2000000000 := by rw [kL]; omega
  rw [tGb, if_neg (by omega)]
  refine G (T := T) 1000 rfl ?_
  refine Cq (aQ (w := ms) (p := g.nm) (by decide) (by omega)) rfl rfl rfl rfl rfl ⟨rfl, rfl⟩ ?_
  refine G (T := T) 1000 rfl ?_
  refine Cq (jQ (by omega) h2 (.inl r2)) rfl rfl rfl rfl rfl ⟨rfl, rfl⟩ ?_
  refine G (T := T) 1000 rfl ?_
  refine Cq (bj (n := g.bank) (by omega) (by omega)) rfl rfl rfl rfl rfl ⟨rfl, rfl⟩ ?_
  refine G (T := T) 1000 rfl ?_
  refine Cq (aQ (w := dX) (p := bo g.bank.toNat) (by decide) (by omega)) rfl rfl rfl rfl rfl ⟨rfl, rfl⟩ ?_
  refine G (T := T) 1000 rfl ?_
  refine Cq (ref_hex (by omega)) rfl rfl rfl rfl rfl ⟨rfl, rfl⟩ ?_
  refine G (T := T) 1000 rfl ?_
  refine Cq (aQ (w := iN) (p := hexB g.bytes) (by decide) hd3) rfl rfl rfl rfl rfl ⟨rfl, rfl⟩ ?_
  refine G (T := T) 1000 rfl ?_
  exact Fq (T := T) rfl rfl
theorem oD (hS : ∀ {s : Sm}, s.size ≤ 1000000000 → s.ok → rSm s = true → XQ Tryz.prog pk 152 [xd (smD s)] (xd (trd (tSm s)))) {f : Fu} {B : Nat} (hB : B ≤ 900000000) (hok : f.ok B) (hr : rFu f = true) : XQ Tryz.prog pk 61 [xd (fuD f)] (xd (trd (tFu f))) := by
  obtain ⟨h1, h2, h3, h4, h5, h6, h7, h8, h9⟩ := hok
  rw [rFu] at hr
  simp only [Bool.and_eq_true, Bool.or_eq_true] at hr
  obtain ⟨⟨⟨r1, r2⟩, r3⟩, r4⟩ := hr
  refine XQ.en Tryz.func61 Tryz.ntmps61 (fun w0 own H V v0 hf => ?_)
  refine G (T := T) 100001 rfl ?_
  refine (FzTo.bz 0 rfl).c ?_
  refine G (T := T) 1000 rfl ?_
  refine Cq (gy (w := cF) (B := B) (by decide) (by omega) h2 h3 (List.all_eq_true.1 r2)) rfl rfl rfl rfl rfl ⟨rfl, rfl⟩ ?_
  refine G (T := T) 1000 rfl ?_
  refine Cq (jQ (by omega) h4 r3.symm) rfl rfl rfl rfl rfl ⟨rfl, rfl⟩ ?_
  refine G (T := T) 1000 rfl ?_
  refine If rfl (fun h => ?_) (fun h => ?_)
  · rw [if_pos h] at r4
    simp only [Bool.and_eq_true, decide_eq_true_eq] at r4
    have hd1 := bX (n := f.x) (by omega) (by omega)
    have hd2 := bX h9.1 (by omega)
    rw [tFu, if_pos h]
    refine G (T := T) 1000 rfl ?_
    refine Cq (aQ (w := gf) (p := f.nm) (by decide) (by omega)) rfl rfl rfl rfl rfl ⟨rfl, rfl⟩ ?_
    refine G (T := T) 1000 rfl ?_
    refine Cq (bj (n := f.x) (by omega) (by omega)) rfl rfl rfl rfl rfl ⟨rfl, rfl⟩ ?_
    refine G (T := T) 1000 rfl ?_
    refine Cq (aQ (w := dX) (p := bo f.x.toNat) (by decide) (by omega)) rfl rfl rfl rfl rfl ⟨rfl, rfl⟩ ?_
    refine G (T := T) 1000 rfl ?_
    refine Cq (bj h9.1 (by omega)) rfl rfl rfl rfl rfl ⟨rfl, rfl⟩ ?_
    refine G (T := T) 1000 rfl ?_
    refine Cq (aQ (w := w_at) (p := bo f.y.toNat) (by decide) (by omega)) rfl rfl rfl rfl rfl ⟨rfl, rfl⟩ ?_
    refine G (T := T) 1000 rfl ?_
    refine Fq (T := T) rfl ?_
    rw [aZ]
    show _ = xd [.c (.string (au gf f.nm)), .s [trd (.node dh (f.ps.map (eH cF))), trd (.node di [tTy f.res]), trd (iD dX f.x), trd (iD w_at f.y)]]
    rw [aZ, aZ]
    rfl
  rw [if_neg (by rw [h]; simp)] at r4
  simp only [Bool.and_eq_true, aH] at r4
  rw [tFu, if_neg (by rw [h]; simp), dP]
  refine G (T := T) 1000 rfl ?_
  refine Cq (aQ (w := w_fn) (p := f.nm) (by decide) (by omega)) rfl rfl rfl rfl rfl ⟨rfl, rfl⟩ ?_
  refine G (T := T) 1000 rfl ?_
  refine Cq (iu (by have := Sm.len_le f.body; omega) (fun s hs => hS (by have := Sm.size_mem hs; omega) (Sm.oks_mem h6 hs) (List.all_eq_true.1 r4.2 s hs))) rfl rfl rfl rfl rfl ⟨rfl, rfl⟩ ?_
  refine G (T := T) 1000 rfl ?_
  refine Fq (T := T) rfl ?_
  rw [aZ]
  show _ = xd [.c (.string (au w_fn f.nm)), .s [trd (.node dh (f.ps.map (eH cF))), trd (.node di [tTy f.res]), trd (.node dK (f.body.map tSm))]]
  rw [aZ, aZ, aZ]
  rfl
end
section
open Go Go.RowKit Go.Proofs K
variable {pk : Pk}
theorem smW_le (k : Int) : (smW k).size ≤ 1000 := by unfold smW; repeat' (first | apply ite_le | decide)
theorem oE : ∀ (m : Nat), m ≤ 1000000000 → ∀ {s : Sm}, s.size ≤ m → s.ok → rSm s = true → XQ Tryz.prog pk 152 [xd (smD s)] (xd (trd (tSm s))) := by
  intro m
  induction m with
  | zero => intro _ e hm; have := e.size_pos; omega
  | succ m ih =>
  intro hB s hm hok hr
  obtain ⟨k, nm, t, n, es, b, el, cs⟩ := s
  obtain ⟨hk, hn, ht, hn2, hx, hb, he, hc⟩ := hok
  obtain ⟨hk14, rt, rx, rb, re, rc⟩ := kR hr
  have hsz : (Sm.mk k nm t n es b el cs).size = t.size + Ex.sizes es + Sm.sizes b + Sm.sizes el + Sm.csizes cs + 1 := rfl
  have l1 := Ex.len_le es
  have l2 := Sm.clen_le cs
  have l3 := Sm.len_le b
  have hdec := bX hn2.1 (by omega)
  have blk : ∀ {l : List Sm}, Sm.sizes l ≤ m → Sm.oks l → (∀ s ∈ l, rSm s = true) → XQ Tryz.prog pk 113 [xr (l.map smD)] (xr (aN (l.map tSm))) := fun {l} h1 h2 h3 => iu (by have := Sm.len_le l; omega) (fun s hs => ih (by omega) (by have := Sm.size_mem hs; omega) (Sm.oks_mem h2 hs) (h3 s hs))
  rw [dW, bW, aZ]
  refine XQ.en Tryz.func152 Tryz.ntmps152 (fun w0 own H V v0 hf => ?_)
  refine G (T := T) 100001 rfl ?_
  refine (FzTo.bz 0 rfl).c ?_
  refine G (T := T) 13 rfl ?_
  refine Lo (T := T) (.d (.c (.string (smW k)))) ?_ rfl rfl rfl rfl rfl ⟨rfl, rfl⟩ ?_
  · rcases kind14 hk14 with rfl | rfl | rfl | rfl | rfl | rfl | rfl | rfl | rfl | rfl | rfl | rfl | rfl | rfl <;> rfl
  refine G (T := T) 1000 rfl ?_
  refine Cq (aQ (w := smW k) (p := nm) (smW_le k) (by omega)) rfl rfl rfl rfl rfl ⟨rfl, rfl⟩ ?_
  refine G (T := T) 1000 rfl ?_
  refine Cf [1, 2, 4] (fun (_ : Unit) r => r) (fun _ => [⟨3, 0, .cells [.d (.c (.string (smL k nm n))), .z] 35⟩, ⟨1, 0, .cells [.d (.c (.string eS)), .z] 35⟩]) 4 (fun _ => True) rfl ?_ ?_
  · refine If rfl (fun h => ?_) (fun h => ?_)
    · have h9 := of_decide_eq_true h
      refine G (T := T) 1000 rfl ?_
      refine Cq (bj hn2.1 (by omega)) rfl rfl rfl rfl rfl ⟨rfl, rfl⟩ ?_
      refine G (T := T) 1000 rfl ?_
      refine Cq (aQ (w := kG) (p := bo n.toNat) (by decide) (by omega)) rfl rfl rfl rfl rfl ⟨rfl, rfl⟩ ?_
      refine G (T := T) 1000 rfl ?_
      rw [show smL k nm n = au kG (bo n.toNat) from by subst h9; rfl]
      exact Dn () trivial
    · have h9 := of_decide_eq_false h
      refine G (T := T) 1000 rfl ?_
      rw [show smL k nm n = au (smW k) nm from by rw [smL, if_neg h9]]
      exact Dn () trivial
  rintro _ -
  refine G (T := T) 100005 rfl ?_
  refine (Nrh 3 1 35 2 rfl rfl rfl rfl rfl).c ?_
  generalize smL k nm n = L
  refine G (T := T) 1000 rfl ?_
  refine Cf [1, 2, 4] (fun (q : Nat × List (List D)) r => r) (fun q => [⟨4, 1, .row q.1 q.2 35 2⟩, ⟨3, 0, .cells [.d (.c (.string L)), .l 4 1 2 0 q.1 q.1] 35⟩, ⟨1, 0, .cells [.d (.c (.string eS)), .z] 35⟩]) 5 (fun q => q.1 ≤ 1 ∧ q.2 = aN (if k = 1 then [tTy t] else [])) rfl ?_ ?_
  · refine If rfl (fun h => ?_) (fun h => ?_)
    · have h9 := of_decide_eq_true h
      refine G (T := T) 1000 rfl ?_
      refine Cq (jQ (by omega) ht (.inl (rt h9))) rfl rfl rfl rfl rfl ⟨rfl, rfl⟩ ?_
      refine G (T := T) 1000 rfl ?_
      exact Dn (1, [trd (tTy t)]) ⟨by dsimp only; omega, by rw [if_pos h9]; rfl⟩
    · have h9 := of_decide_eq_false h
      refine G (T := T) 1000 rfl ?_
      exact Dn (0, []) ⟨by dsimp only; omega, by rw [if_neg h9]; rfl⟩
  rintro ⟨c0, R0⟩ ⟨hc0, hR0⟩; dsimp only at hc0 hR0 ⊢
  refine G (T := T) 1000 rfl ?_
  refine Lq [1, 2, 4] (fun (q : Nat × Nat × List (List D)) r => (5, xi (q.1 : Nat)) :: r) (fun q => [⟨4, 1, .row q.2.1 q.2.2 35 2⟩, ⟨3, 0, .cells [.d (.c (.string L)), .l 4 1 2 0 q.2.1 q.2.1] 35⟩, ⟨1, 0, .cells [.d (.c (.string eS)), .z] 35⟩]) 5 (fun q => q.1 ≤ es.length ∧ q.2.1 = c0 + q.1 ∧ q.2.2 = R0 ++ aN ((es.take q.1).map tEx)) (fun q => es.length - q.1) (0, c0, R0) rfl ⟨Nat.zero_le _, rfl, by simp⟩ ?_
  rintro ⟨j, z, R⟩ ⟨hj, hz, hR⟩; dsimp only at hj hz hR ⊢
  refine G (T := T) 1000 rfl ?_
  refine If rfl (fun h => ?_) (fun h => ?_)
  · have hjl := of_decide_eq_true h; rw [List.length_map] at hjl
    obtain ⟨y, hy⟩ := al (l := es) (j := j) (by omega)
    have hym := List.mem_of_getElem? hy
    refine G (T := T) 48 rfl ?_
    refine Ix (T := T) j (aa hy) rfl rfl rfl rfl ⟨rfl, rfl⟩ rfl rfl ?_
    refine G (T := T) 1000 rfl ?_
    refine Cq (oC _ (by have := Ex.size_mem hym; omega) (Nat.le_refl _) (Ex.oks_mem hx hym) (rx y hym)) rfl rfl rfl rfl rfl ⟨rfl, rfl⟩ ?_
    refine G (T := T) 1000 rfl ?_
    exact Nq (j + 1, z + 1, R ++ [trd (tEx y)]) ⟨by omega, by dsimp only; omega, by dsimp only; rw [hR, aT tEx hy, aK, List.append_assoc]⟩ (by show _ - (j + 1) < _ - j; omega)
  have hjl := of_decide_eq_false h; rw [List.length_map] at hjl
  rw [List.take_of_length_le (by omega)] at hR
  refine G (T := T) 1000 rfl ?_
  refine Cq (blk (by omega) hb rb) rfl rfl rfl rfl rfl ⟨rfl, rfl⟩ ?_
  refine G (T := T) 1000 rfl ?_
  refine Cq (blk (by omega) he re) rfl rfl rfl rfl rfl ⟨rfl, rfl⟩ ?_
  have fin : ∀ {X : List Tr} {rows : List (List D)}, smT k (b.map tSm) (el.map tSm) (cs.map cQ) = X → rows = aN X → aN ((if k = 1 then [tTy t] else []) ++ (es.map tEx ++ smT k (b.map tSm) (el.map tSm) (cs.map cQ))) = R ++ rows := fun h1 h2 => by
    rw [h1, h2, hR, hR0]; simp only [aN, List.map_append, List.append_assoc]
  have hzl : z ≤ 1000000001 := by omega
  refine G (T := T) 1000 rfl ?_
  refine If rfl (fun h => ?_) (fun h => ?_)
  · have h9 := of_decide_eq_true h
    refine G (T := T) 1000 rfl ?_
    refine MS.fze 4 rfl ?_ (by repeat' (first | exact trivial | apply And.intro | rfl))
    refine Fq (T := T) rfl ?_
    rw [fin (X := [.node gT (b.map tSm), .node gV (el.map tSm)]) (rows := [[.c (.string gT), .s (aN (b.map tSm))], [.c (.string gV), .s (aN (el.map tSm))]]) (by rw [smT, if_pos h9]) (by rw [← aZ, ← aZ]; rfl)]
    rfl
  have h3 := of_decide_eq_false h
  refine G (T := T) 1000 rfl ?_
  refine If rfl (fun h => ?_) (fun h => ?_)
  · have h9 := of_decide_eq_true h
    refine G (T := T) 1000 rfl ?_
    refine MS.fze 4 rfl ?_ (by repeat' (first | exact trivial | apply And.intro | rfl))
    refine Fq (T := T) rfl ?_
    rw [fin (X := [.node dK (b.map tSm)]) (rows := [[.c (.string dK), .s (aN (b.map tSm))]]) (by rw [smT, if_neg h3, if_pos h9]) (by rw [← aZ]; rfl)]
    rfl
  have h4 := of_decide_eq_false h
  have hB2 : ∀ r ∈ aN (b.map tSm), r.length = 2 := fun r hr => by
    simp only [aN, List.mem_map] at hr
    obtain ⟨u, _, rfl⟩ := hr
    rfl
  have hBl : (aN (b.map tSm)).length ≤ 1000000000 := by simp only [aN, List.length_map]; omega
  have fin5 : k = 5 ∨ k = 6 → aN ((if k = 1 then [tTy t] else []) ++ (es.map tEx ++ smT k (b.map tSm) (el.map tSm) (cs.map cQ))) = R ++ aN (b.map tSm) := fun hq => fin (by rw [smT, if_neg h3, if_neg h4, if_pos hq]) rfl
  generalize aN ((if k = 1 then [tTy t] else []) ++ (es.map tEx ++ smT k (b.map tSm) (el.map tSm) (cs.map cQ))) = W at fin fin5 ⊢
  generalize aN (b.map tSm) = BB at hB2 hBl fin5 ⊢
  refine G (T := T) 1000 rfl ?_
  refine If rfl (fun h => ?_) (fun h => ?_)
  · have h9 := of_decide_eq_true h
    refine G (T := T) 1000 rfl ?_
    refine IfT rfl h ?_
    rw [fin5 (.inl h9)]
    rcases BB with _ | ⟨q1, _ | ⟨q2, _ | ⟨q3, qr⟩⟩⟩ <;>
    (refine Gs (T := T) 1000 rfl ?_
     refine MS.fze 4 rfl ?_ (by repeat' (first | exact trivial | apply And.intro | rfl))
     exact Fq (T := T) rfl rfl)
  have h5 := of_decide_eq_false h
  refine G (T := T) 1000 rfl ?_
  refine If rfl (fun h => ?_) (fun h => ?_)
  · have h9 := of_decide_eq_true h
    rw [fin5 (.inr h9)]
    rcases BB with _ | ⟨q1, _ | ⟨q2, _ | ⟨q3, qr⟩⟩⟩ <;>
    (refine Gs (T := T) 1000 rfl ?_
     refine MS.fze 4 rfl ?_ (by repeat' (first | exact trivial | apply And.intro | rfl))
     exact Fq (T := T) rfl rfl)
  have h6 := of_decide_eq_false h
  refine G (T := T) 1000 rfl ?_
  refine If rfl (fun h => ?_) (fun h => ?_)
  · have h9 := of_decide_eq_true h
    refine G (T := T) 1000 rfl ?_
    refine Lq [1, 2, 4, 7] (fun (q : Nat × Nat × List (List D)) r => (8, xi (q.1 : Nat)) :: r) (fun q => [⟨4, 1, .row q.2.1 q.2.2 35 2⟩, ⟨3, 0, .cells [.d (.c (.string L)), .l 4 1 2 0 q.2.1 q.2.1] 35⟩, ⟨1, 0, .cells [.d (.c (.string eS)), .z] 35⟩]) 5 (fun q => q.1 ≤ cs.length ∧ q.2.1 = z + q.1 ∧ q.2.2 = R ++ aN ((cs.take q.1).map cQ)) (fun q => cs.length - q.1) (0, z, R) rfl ⟨Nat.zero_le _, rfl, by simp⟩ ?_
    rintro ⟨i, z2, R2⟩ ⟨hi, hz2, hR2⟩; dsimp only at hi hz2 hR2 ⊢
    refine G (T := T) 1000 rfl ?_
    refine If rfl (fun h => ?_) (fun h => ?_)
    · have hil := of_decide_eq_true h; rw [List.length_map] at hil
      obtain ⟨c, hci⟩ := al (l := cs) (j := i) (by omega)
      have hcm := List.mem_of_getElem? hci
      refine G (T := T) 104 rfl ?_
      refine Ix (T := T) i (aa hci) rfl rfl rfl rfl ⟨rfl, rfl⟩ rfl rfl ?_
      refine G (T := T) 1000 rfl ?_
      refine Cq (blk (by have := Sm.csize_mem hcm; omega) (Sm.okc_mem hc hcm) (rc c hcm)) rfl rfl rfl rfl rfl ⟨rfl, rfl⟩ ?_
      refine G (T := T) 1000 rfl ?_
      exact Nq (i + 1, z2 + 1, R2 ++ [[.c (.string mr), .s (aN (c.map tSm))]]) ⟨by omega, by dsimp only; omega, by dsimp only; rw [hR2, aT cQ hci, aK, aZ, List.append_assoc]⟩ (by show _ - (i + 1) < _ - i; omega)
    have hil := of_decide_eq_false h; rw [List.length_map] at hil
    rw [List.take_of_length_le (by omega)] at hR2
    refine G (T := T) 1000 rfl ?_
    refine MS.fze 4 rfl ?_ (by repeat' (first | exact trivial | apply And.intro | rfl))
    refine Fq (T := T) rfl ?_
    rw [fin (X := cs.map cQ ++ [.node cz (el.map tSm)]) (rows := aN (cs.map cQ) ++ [[.c (.string cz), .s (aN (el.map tSm))]]) (by rw [smT, if_neg h3, if_neg h4, if_neg (by omega), if_pos h9]) (by rw [aK, aZ]), ← List.append_assoc, ← hR2]
    rfl
  have h9 := of_decide_eq_false h
  refine G (T := T) 1000 rfl ?_
  refine MS.fze 4 rfl ?_ (by repeat' (first | exact trivial | apply And.intro | rfl))
  refine Fq (T := T) rfl ?_
  rw [fin (X := []) (rows := []) (by rw [smT, if_neg h3, if_neg h4, if_neg (by omega), if_neg h9]) rfl, List.append_nil]
  rfl
end
section
open Go Go.RowKit Go.Proofs K
variable {pk : Pk}
abbrev c0B : XB := ⟨1, 0, .cells [.d (.c (.string eS)), .z] 35⟩
theorem dp {p : Pg} {B : Nat} (hB : B ≤ 900000000) (hok : p.ok B) (hR : XQ Tryz.prog pk 11 [xd (pgD p)] (xb (rPg p))) : XQ Tryz.prog pk 19 [xd (pgD p)] (xd (trd (dj p))) := by
  have htl := hok.tl
  have hgl := hok.gl
  have hfl := hok.fl
  refine XQ.en Tryz.func19 Tryz.ntmps19 (fun w0 own H V v0 hf => ?_)
  refine G (T := T) 100001 rfl ?_
  refine (FzTo.bz 0 rfl).c ?_
  refine G (T := T) 1000 rfl ?_
  refine Cq hR rfl rfl rfl rfl rfl ⟨rfl, rfl⟩ ?_
  refine G (T := T) 1000 rfl ?_
  refine If rfl (fun h => ?_) (fun h => ?_)
  · rw [dj, if_neg (by simpa using h)]
    refine G (T := T) 1000 rfl ?_
    exact Fq (T := T) rfl rfl
  have h9 : rPg p = true := by simpa using h
  rw [dj, if_pos h9, tPg]
  rw [rPg] at h9
  simp only [Bool.and_eq_true] at h9
  refine G (T := T) 1000 rfl ?_
  refine (Nrh 2 1 35 2 rfl rfl rfl rfl rfl).c ?_
  refine Lq [1, 2, 4] (fun (q : Nat × List (List D)) r => (5, xi (q.1 : Nat)) :: r) (fun q => [⟨3, 1, .row q.1 q.2 35 2⟩, ⟨2, 0, .cells [.d (.c (.string dE)), .l 3 1 2 0 q.1 q.1] 35⟩, c0B]) 4 (fun q => q.1 ≤ p.ts.length ∧ q.2 = aN ((p.ts.take q.1).map tTd)) (fun q => p.ts.length - q.1) (0, []) rfl ⟨Nat.zero_le _, rfl⟩ ?_
  rintro ⟨j, R⟩ ⟨hj, hR1⟩; dsimp only at hj hR1 ⊢
  refine G (T := T) 1000 rfl ?_
  refine If rfl (fun h => ?_) (fun h => ?_)
  · have hjl := of_decide_eq_true h; rw [List.length_map] at hjl
    obtain ⟨y, hy⟩ := al (l := p.ts) (j := j) (by omega)
    have hym := List.mem_of_getElem? hy
    obtain ⟨o1, o2, o3⟩ := hok.t y hym
    have hry := List.all_eq_true.1 h9.1.1 y hym
    rw [rTd, Bool.and_eq_true] at hry
    refine G (T := T) 1000 rfl ?_
    refine Ix (T := T) j (aa hy) rfl rfl rfl rfl ⟨rfl, rfl⟩ rfl rfl ?_
    refine G (T := T) 1000 rfl ?_
    refine Cf [1, 2, 4, 5] (fun (_ : Unit) r => (6, xs (if y.un then iM else ge)) :: r) (fun _ => [⟨3, 1, .row j R 35 2⟩, ⟨2, 0, .cells [.d (.c (.string dE)), .l 3 1 2 0 j j] 35⟩, c0B]) 4 (fun _ => True) rfl ?_ ?_
    · refine If rfl (fun h => ?_) (fun h => ?_)
      · refine G (T := T) 1000 rfl ?_
        rw [if_pos h]
        exact Dn () trivial
      · refine G (T := T) 1000 rfl ?_
        rw [if_neg (by rw [h]; simp)]
        exact Dn () trivial
    rintro _ -
    refine G (T := T) 1000 rfl ?_
    refine Ix (T := T) j (aa hy) rfl rfl rfl rfl ⟨rfl, rfl⟩ rfl rfl ?_
    refine G (T := T) 1000 rfl ?_
    refine Cq (aQ (p := y.nm) (by split <;> decide) (by omega)) rfl rfl rfl rfl rfl ⟨rfl, rfl⟩ ?_
    refine G (T := T) 1000 rfl ?_
    refine Ix (T := T) j (aa hy) rfl rfl rfl rfl ⟨rfl, rfl⟩ rfl rfl ?_
    refine G (T := T) 1000 rfl ?_
    refine Cq (gy (w := fa) (B := B) (by decide) (by omega) o2 o3 (List.all_eq_true.1 hry.2)) rfl rfl rfl rfl rfl ⟨rfl, rfl⟩ ?_
    refine G (T := T) 1000 rfl ?_
    exact Nq (j + 1, R ++ [[.c (.string (au (if y.un then iM else ge) y.nm)), .s (aN (y.fs.map (eH fa)))]]) ⟨by omega, by dsimp only; rw [hR1, aT tTd hy, aK, tTd, aZ]⟩ (by show _ - (j + 1) < _ - j; omega)
  have hjl := of_decide_eq_false h; rw [List.length_map] at hjl
  rw [List.take_of_length_le (by omega)] at hR1; subst hR1
  refine G (T := T) 100014 rfl ?_
  refine Zc 3 rfl ?_
  refine G (T := T) 1000 rfl ?_
  refine (Nrh 4 1 35 2 rfl rfl rfl rfl rfl).c ?_
  refine Lq [1, 2, 4, 8] (fun (q : Nat × List (List D)) r => (9, xi (q.1 : Nat)) :: r) (fun q => [⟨5, 1, .row q.1 q.2 35 2⟩, ⟨4, 0, .cells [.d (.c (.string cW)), .l 5 1 2 0 q.1 q.1] 35⟩, ⟨2, 0, .cells [.d (.c (.string dE)), .d (.s (aN (p.ts.map tTd)))] 35⟩, c0B]) 6 (fun q => q.1 ≤ p.gs.length ∧ q.2 = aN ((p.gs.take q.1).map tGb)) (fun q => p.gs.length - q.1) (0, []) rfl ⟨Nat.zero_le _, rfl⟩ ?_
  rintro ⟨j, R⟩ ⟨hj, hR1⟩; dsimp only at hj hR1 ⊢
  refine G (T := T) 1000 rfl ?_
  refine If rfl (fun h => ?_) (fun h => ?_)
  · have hjl := of_decide_eq_true h; rw [List.length_map] at hjl
    obtain ⟨y, hy⟩ := al (l := p.gs) (j := j) (by omega)
    have hym := List.mem_of_getElem? hy
    refine G (T := T) 66 rfl ?_
    refine Ix (T := T) j (aa hy) rfl rfl rfl rfl ⟨rfl, rfl⟩ rfl rfl ?_
    refine G (T := T) 1000 rfl ?_
    refine Cq (mG hB (hok.g y hym) (List.all_eq_true.1 h9.1.2 y hym)) rfl rfl rfl rfl rfl ⟨rfl, rfl⟩ ?_
    refine G (T := T) 1000 rfl ?_
    exact Nq (j + 1, R ++ [trd (tGb y)]) ⟨by omega, by dsimp only; rw [hR1, aT tGb hy, aK]⟩ (by show _ - (j + 1) < _ - j; omega)
  have hjl := of_decide_eq_false h; rw [List.length_map] at hjl
  rw [List.take_of_length_le (by omega)] at hR1; subst hR1
  refine G (T := T) 100019 rfl ?_
  refine Zc 5 rfl ?_
  refine G (T := T) 1000 rfl ?_
  refine (Nrh 6 1 35 2 rfl rfl rfl rfl rfl).c ?_
  refine Lq [1, 2, 4, 8, 10] (fun (q : Nat × List (List D)) r => (11, xi (q.1 : Nat)) :: r) (fun q => [⟨7, 1, .row q.1 q.2 35 2⟩, ⟨6, 0, .cells [.d (.c (.string gh)), .l 7 1 2 0 q.1 q.1] 35⟩, ⟨4, 0, .cells [.d (.c (.string cW)), .d (.s (aN (p.gs.map tGb)))] 35⟩, ⟨2, 0, .cells [.d (.c (.string dE)), .d (.s (aN (p.ts.map tTd)))] 35⟩, c0B]) 8 (fun q => q.1 ≤ p.fs.length ∧ q.2 = aN ((p.fs.take q.1).map tFu)) (fun q => p.fs.length - q.1) (0, []) rfl ⟨Nat.zero_le _, rfl⟩ ?_
  rintro ⟨j, R⟩ ⟨hj, hR1⟩; dsimp only at hj hR1 ⊢
  refine G (T := T) 1000 rfl ?_
  refine If rfl (fun h => ?_) (fun h => ?_)
  · have hjl := of_decide_eq_true h; rw [List.length_map] at hjl
    obtain ⟨y, hy⟩ := al (l := p.fs) (j := j) (by omega)
    have hym := List.mem_of_getElem? hy
    refine G (T := T) 85 rfl ?_
    refine Ix (T := T) j (aa hy) rfl rfl rfl rfl ⟨rfl, rfl⟩ rfl rfl ?_
    refine G (T := T) 1000 rfl ?_
    refine Cq (oD (fun h1 h2 h3 => oE _ h1 (Nat.le_refl _) h2 h3) hB (hok.f y hym) (List.all_eq_true.1 h9.2 y hym)) rfl rfl rfl rfl rfl ⟨rfl, rfl⟩ ?_
    refine G (T := T) 1000 rfl ?_
    exact Nq (j + 1, R ++ [trd (tFu y)]) ⟨by omega, by dsimp only; rw [hR1, aT tFu hy, aK]⟩ (by show _ - (j + 1) < _ - j; omega)
  have hjl := of_decide_eq_false h; rw [List.length_map] at hjl
  rw [List.take_of_length_le (by omega)] at hR1; subst hR1
  refine G (T := T) 100024 rfl ?_
  refine Zc 7 rfl ?_
  refine G (T := T) 1000 rfl ?_
  refine Fq (T := T) rfl ?_
  rw [aZ]
  show _ = xd [.c (.string gW), .s [trd (.node dE (p.ts.map tTd)), trd (.node cW (p.gs.map tGb)), trd (.node gh (p.fs.map tFu))]]
  rw [aZ, aZ, aZ]
  rfl
end
section
open Go Go.RowKit Go.Proofs K
variable {pk : Pk}
end
section
open Go Go.RowKit Go.Proofs K
variable {pk : Pk}
def eb (n : Int) : Bool := (decide (97 ≤ n) && decide (n ≤ 122)) || (decide (65 ≤ n) && decide (n ≤ 90))
theorem kS (b : UInt8) : fS (b.toNat : Int) = eb (b.toNat : Int) := by
  have h : ∀ n : Nat, n < 256 → fS (n : Int) = eb (n : Int) := by decide +kernel
  exact h _ b.toNat_lt
theorem ref_digit (n : Int) : XQ Tryz.prog pk 76 [xu8 n] (xb (jz n)) := by
  refine XQ.en Tryz.func76 Tryz.ntmps76 (fun w0 own H V v0 hf => ?_)
  refine Gs (T := T) 1000 rfl ?_
  exact Fe (T := T) rfl rfl
theorem jR (n : Int) : XQ Tryz.prog pk 75 [xu8 n] (xb (eb n)) := by
  refine XQ.en Tryz.func75 Tryz.ntmps75 (fun w0 own H V v0 hf => ?_)
  refine Gs (T := T) 1000 rfl ?_
  exact Fe (T := T) rfl rfl
theorem kT {l : List ByteArray} (hl : l.length ≤ 1000000) (s : ByteArray) : XQ Tryz.prog pk 73 [xs s, xr (l.map cq)] (xb (aC s l)) := by
  refine XQ.en Tryz.func73 Tryz.ntmps73 (fun w0 own H V v0 hf => ?_)
  refine G (T := T) 1000 rfl ?_
  refine Lq [0, 1] (fun q r => (4, xb false) :: (5, xi (q : Nat)) :: r) (fun q => []) 0 (fun q => q ≤ l.length ∧ (l.take q).any (fun x => decide (x = s)) = false) (fun q => l.length - q) 0 rfl ⟨Nat.zero_le _, rfl⟩ ?_
  rintro j ⟨hj, hI⟩
  refine G (T := T) 1000 rfl ?_
  refine If rfl (fun h => ?_) (fun h => ?_)
  · have hjl := of_decide_eq_true h; rw [List.length_map] at hjl
    obtain ⟨y, hy⟩ := al (l := l) (j := j) (by omega)
    refine G (T := T) 1000 rfl ?_
    refine Ix (T := T) j (aa hy) rfl rfl rfl rfl ⟨rfl, rfl⟩ rfl rfl ?_
    refine G (T := T) 1000 rfl ?_
    refine If rfl (fun h => ?_) (fun h => ?_)
    · refine G (T := T) 1000 rfl ?_
      exact Fe (T := T) rfl (congrArg xb (List.any_eq_true.2 ⟨y, List.mem_of_getElem? hy, h⟩).symm)
    · refine G (T := T) 1000 rfl ?_
      exact Nq (j + 1) ⟨by omega, eD hI hy h⟩ (by show _ - (j + 1) < _ - j; omega)
  · have hjl := of_decide_eq_false h; rw [List.length_map] at hjl
    refine G (T := T) 1000 rfl ?_
    rw [List.take_of_length_le (by omega)] at hI
    exact Fe (T := T) rfl (congrArg xb hI.symm)
theorem mH : XQ Tryz.prog pk 74 [] (xr (kws.map cq)) := by
  refine XQ.en Tryz.func74 Tryz.ntmps74 (fun w0 own H V v0 hf => ?_)
  refine G (T := T) 1000 rfl ?_
  exact Fe (T := T) rfl rfl
theorem bY {s : ByteArray} (hs : s.size ≤ 9223372036854775806) : XQ Tryz.prog pk 28 [xs s] (xb (ae s)) := by
  refine XQ.en Tryz.func28 Tryz.ntmps28 (fun w0 own H V v0 hf => ?_)
  refine G (T := T) 1000 rfl ?_
  refine Cq mH rfl rfl rfl rfl rfl ⟨rfl, rfl⟩ ?_
  refine G (T := T) 1000 rfl ?_
  refine Cq (kT (by decide) s) rfl rfl rfl rfl rfl ⟨rfl, rfl⟩ ?_
  refine G (T := T) 12 rfl ?_
  refine Sp 11 rfl (fun h => ?_) (fun h => ?_)
  · have h1 : s.size = 0 := by have := of_decide_eq_true h; omega
    have h2 : s = ⟨#[]⟩ := by obtain ⟨a⟩ := s; exact congrArg ByteArray.mk (Array.eq_empty_of_size_eq_zero h1)
    refine G (T := T) 1000 rfl ?_
    refine IfT rfl rfl ?_
    refine G (T := T) 1000 rfl ?_
    exact Fe (T := T) rfl (congrArg xb (by rw [ae, h2]; simp))
  have h1 : 1 ≤ s.size := by have := of_decide_eq_false h; omega
  have hne : s ≠ ⟨#[]⟩ := fun e => by rw [e] at h1; exact absurd h1 (by decide)
  refine Gs (T := T) 1000 rfl ?_
  refine Cs (fun _ => jR _) rfl rfl rfl rfl rfl rfl rfl rfl ?_
  refine Gs (T := T) 1000 rfl ?_
  have hid : ae s = (!(((false || decide (24 < (s.size : Int))) || !eb ((s.data.getD (0 : Int).toNat 0).toNat : Int)) || aC s kws) && decide (eA (fun b => im (b.toNat : Int)) s.data.toList 0 = s.size)) := by
    rw [ae, decide_eq_true hne, Bool.true_and, jE s hne, kS, show decide (24 < (s.size : Int)) = !decide (s.size ≤ 24) from by rw [← decide_not]; exact decide_eq_decide.2 (by omega)]
    show _ = (!(((false || _) || _) || (kws.any fun x => decide (x = s))) && _)
    cases decide (s.size ≤ 24) <;> cases eb ((s.data.getD (0 : Int).toNat 0).toNat : Int) <;> cases (kws.any fun x => decide (x = s)) <;> simp
  refine If rfl (fun h => ?_) (fun h => ?_)
  · refine G (T := T) 1000 rfl ?_
    exact Fe (T := T) rfl (congrArg xb (by rw [hid, h]; rfl))
  rw [h, Bool.not_false, Bool.true_and] at hid
  refine G (T := T) 1000 rfl ?_
  refine Lq [0] (fun q r => (2, xb false) :: (4, xi (q : Nat)) :: r) (fun q => []) 0 (fun k => k ≤ s.size ∧ eA (fun b => im (b.toNat : Int)) s.data.toList 0 = eA (fun b => im (b.toNat : Int)) (s.data.toList.drop k) k) (fun q => s.size - q) 0 rfl ⟨Nat.zero_le _, rfl⟩ ?_
  rintro k ⟨hk, hI⟩
  refine G (T := T) 1000 rfl ?_
  refine If rfl (fun h => ?_) (fun h => ?_)
  · have hlt : k < s.size := by have := of_decide_eq_true h; omega
    rw [sp_at hlt] at hI; simp only [eA] at hI
    refine Gs (T := T) 1000 rfl ?_
    refine Cq (jR _) rfl rfl rfl rfl rfl ⟨rfl, rfl⟩ ?_
    refine Gs (T := T) 1000 rfl ?_
    refine Cs (fun _ => ref_digit _) rfl rfl rfl rfl rfl rfl rfl rfl ?_
    refine Gs (T := T) 1000 rfl ?_
    have hp : ∀ b : UInt8, (((!eb (b.toNat : Int)) && !jz (b.toNat : Int)) && decide ((b.toNat : Int) ≠ 95)) = !im (b.toNat : Int) := fun b => by
      rw [im, kS, decide_not]
      cases eb (b.toNat : Int) <;> cases jz (b.toNat : Int) <;> simp
    refine If rfl (fun h => ?_) (fun h => ?_)
    · rw [hp] at h
      refine G (T := T) 1000 rfl ?_
      exact Fe (T := T) rfl (congrArg xb (by rw [hid, hI, if_neg (by simpa using h)]; exact (decide_eq_false (by omega)).symm))
    · rw [hp] at h
      refine G (T := T) 1000 rfl ?_
      exact Nq (k + 1) ⟨hlt, by rw [hI, if_pos (by simpa using h)]⟩ (by show _ - (k + 1) < _ - k; omega)
  · have hlt : s.size ≤ k := by have := of_decide_eq_false h; omega
    refine G (T := T) 1000 rfl ?_
    exact Fe (T := T) rfl (congrArg xb (by rw [hid, hI, List.drop_of_length_le (by simpa using hlt)]; exact (decide_eq_true (show k = s.size by omega)).symm))
end
section
open Go Go.RowKit Go.Proofs K
variable {pk : Pk}
theorem len0 {α : Type} {f : α → List D} {l : List α} : decide (((l.map f).length : Int) = 0) = decide (l.length = 0) := by rw [List.length_map]; exact decide_eq_decide.2 (by omega)
theorem oF (t : Ty4) : XQ Tryz.prog pk 158 [xd (tyD t)] (xb (az t 0)) := by
  obtain ⟨k', nm, n, ts⟩ := t
  rw [gR]
  refine XQ.en Tryz.func158 Tryz.ntmps158 (fun w0 own H V v0 hf => ?_)
  refine Gs (T := T) 100001 rfl ?_
  refine (FzTo.bz 0 rfl).c ?_
  refine Gs (T := T) 1000 rfl ?_
  refine Fe (T := T) rfl ?_
  show xb (_ && decide (((ts.map tyD).length : Int) = 0)) = _
  rw [len0]; rfl
theorem ec : ∀ (m : Nat) {t : Ty4}, t.size ≤ m → t.ok → XQ Tryz.prog pk 30 [xd (tyD t)] (xb (rTy t)) := by
  intro m
  induction m with
  | zero => intro t hm; have := t.size_pos; omega
  | succ m ih =>
  intro t hm hok
  obtain ⟨k, nm, n, ts⟩ := t
  obtain ⟨hk, hn, hn2, hts⟩ := hok
  rw [gR]
  have hsz : (Ty4.mk k nm n ts).size = Ty4.sizes ts + 1 := rfl
  obtain ⟨u0, hu0⟩ : ∃ u0 : Ty4, ts.length = 1 → ts = [u0] := by
    match ts with
    | [] => exact ⟨.mk 0 eS 0 [], fun h => by simp at h⟩
    | [x] => exact ⟨x, fun _ => rfl⟩
    | _ :: _ :: _ => exact ⟨.mk 0 eS 0 [], fun h => by simp at h⟩
  have l1 : decide (((ts.map tyD).length : Int) = 1) = true → ts = [u0] := fun h => hu0 (by have := of_decide_eq_true h; rw [List.length_map] at this; omega)
  have hu : decide (((ts.map tyD).length : Int) = 1) = true → (ts.map tyD)[0]? = some (tyD u0) := fun h => by rw [l1 h]; rfl
  have ihu : decide (((ts.map tyD).length : Int) = 1) = true → XQ Tryz.prog pk 30 [xd (tyD u0)] (xb (rTy u0)) := fun h => by
    have e := l1 h
    subst e
    exact ih (by simp only [Ty4.sizes] at hsz; omega) hts.1
  have last : k = 5 ∨ k = 6 → ((((decide (nm = ⟨#[]⟩) && decide (0 ≤ n)) && decide (n ≤ if k = 6 then 64 else 65535)) && decide (((ts.map tyD).length : Int) = 1)) && rTy u0) = rTy (.mk k nm n ts) := fun hq => by
    rw [ty_eq (.inr ⟨hq, rfl, rfl⟩)]
    cases hl : decide (((ts.map tyD).length : Int) = 1) with
    | true => rw [List.length_map] at hl; rw [hl, l1 (by rw [List.length_map]; exact hl)]; simp
    | false => rw [List.length_map] at hl; rw [hl]; simp
  refine XQ.en Tryz.func30 Tryz.ntmps30 (fun w0 own H V v0 hf => ?_)
  refine Gs (T := T) 100001 rfl ?_
  refine (FzTo.bz 0 rfl).c ?_
  refine Gs (T := T) 1000 rfl ?_
  refine If rfl (fun h => ?_) (fun h => ?_)
  · have h9 := of_decide_eq_true h
    refine Gs (T := T) 1000 rfl ?_
    refine IfT rfl h ?_
    refine Gs (T := T) 1000 rfl ?_
    exact Fe (T := T) rfl (by
      rw [rTy, if_neg (by omega), if_pos (by omega)]
      show xb (_ && decide (((ts.map tyD).length : Int) = 0)) = _
      rw [len0])
  have h2 := of_decide_eq_false h
  refine Gs (T := T) 1000 rfl ?_
  refine If rfl (fun h => ?_) (fun h => ?_)
  · have h9 := of_decide_eq_true h
    refine Gs (T := T) 1000 rfl ?_
    refine IfT rfl h ?_
    refine Gs (T := T) 1000 rfl ?_
    exact Fe (T := T) rfl (by
      rw [rTy, if_neg (by omega), if_pos (by omega)]
      show xb (_ && decide (((ts.map tyD).length : Int) = 0)) = _
      rw [len0])
  have h1 := of_decide_eq_false h
  refine Gs (T := T) 1000 rfl ?_
  refine If rfl (fun h => ?_) (fun h => ?_)
  · have h9 := of_decide_eq_true h
    refine Gs (T := T) 1000 rfl ?_
    exact Fe (T := T) rfl (by
      rw [rTy, if_neg (by omega), if_pos (by omega)]
      show xb (_ && decide (((ts.map tyD).length : Int) = 0)) = _
      rw [len0])
  have h3 := of_decide_eq_false h
  refine Gs (T := T) 1000 rfl ?_
  refine If rfl (fun h => ?_) (fun h => ?_)
  · have h9 := of_decide_eq_true h
    refine Gs (T := T) 1000 rfl ?_
    refine Cq (bY (by omega)) rfl rfl rfl rfl rfl ⟨rfl, rfl⟩ ?_
    refine Gs (T := T) 1000 rfl ?_
    exact Fe (T := T) rfl (by
      rw [rTy, if_pos h9]
      show xb (_ && decide (((ts.map tyD).length : Int) = 0)) = _
      rw [len0])
  have h4 := of_decide_eq_false h
  refine Gs (T := T) 1000 rfl ?_
  refine If rfl (fun h => ?_) (fun h => ?_)
  · have h9 := of_decide_eq_true h
    refine Gs (T := T) 1000 rfl ?_
    refine IfT rfl h ?_
    refine G (T := T) 1000 rfl ?_
    refine Cf [1] (fun (_ : Unit) r => (4, xi (if k = 6 then 64 else 65535)) :: r) (fun _ => []) 1 (fun _ => True) rfl ?_ ?_
    · refine If rfl (fun h => ?_) (fun h => ?_)
      · rw [if_pos (of_decide_eq_true h)]
        refine G (T := T) 1000 rfl ?_
        exact Dn () trivial
      · rw [if_neg (of_decide_eq_false h)]
        refine G (T := T) 1000 rfl ?_
        exact Dn () trivial
    rintro _ -
    refine Gs (T := T) 1000 rfl ?_
    refine Is (T := T) 0 (tyD u0) (fun h => ⟨hu (Bool.and_eq_true_iff.1 h).2, rfl⟩) rfl rfl rfl rfl rfl rfl rfl rfl ?_
    refine Gs (T := T) 1000 rfl ?_
    refine Cs (fun h => ihu (Bool.and_eq_true_iff.1 h).2) rfl rfl rfl rfl rfl rfl rfl rfl ?_
    refine Gs (T := T) 1000 rfl ?_
    exact Fe (T := T) rfl (congrArg xb (last (by omega)))
  have h5 := of_decide_eq_false h
  refine Gs (T := T) 1000 rfl ?_
  refine If rfl (fun h => ?_) (fun h => ?_)
  · have h9 := of_decide_eq_true h
    refine G (T := T) 1000 rfl ?_
    refine Cf [1] (fun (_ : Unit) r => (4, xi (if k = 6 then 64 else 65535)) :: r) (fun _ => []) 1 (fun _ => True) rfl ?_ ?_
    · refine If rfl (fun h => ?_) (fun h => ?_)
      · rw [if_pos (of_decide_eq_true h)]
        refine G (T := T) 1000 rfl ?_
        exact Dn () trivial
      · rw [if_neg (of_decide_eq_false h)]
        refine G (T := T) 1000 rfl ?_
        exact Dn () trivial
    rintro _ -
    refine Gs (T := T) 1000 rfl ?_
    refine Is (T := T) 0 (tyD u0) (fun h => ⟨hu (Bool.and_eq_true_iff.1 h).2, rfl⟩) rfl rfl rfl rfl rfl rfl rfl rfl ?_
    refine Gs (T := T) 1000 rfl ?_
    refine Cs (fun h => ihu (Bool.and_eq_true_iff.1 h).2) rfl rfl rfl rfl rfl rfl rfl rfl ?_
    refine Gs (T := T) 1000 rfl ?_
    exact Fe (T := T) rfl (congrArg xb (last (by omega)))
  have h6 := of_decide_eq_false h
  refine Gs (T := T) 1000 rfl ?_
  exact Fe (T := T) rfl (congrArg xb (by rw [rTy, if_neg (by omega), if_neg (by omega), if_neg (by omega)]))
theorem cL {α : Type} {p : α → Bool} {l : List α} {j : Nat} {y : α} (h : (l.take j).all p = true) (hy : l[j]? = some y) (hp : p y = true) : (l.take (j + 1)).all p = true := by
  rw [List.take_succ, hy, List.all_append, h]; simp [hp]
theorem cm {α : Type} {p : α → Bool} {l : List α} {y : α} (hy : y ∈ l) (hp : p y = false) : l.all p = false := by
  rw [Bool.eq_false_iff]; intro h
  rw [List.all_eq_true.1 h y hy] at hp; cases hp
theorem jS {l : List Par} (hl : l.length ≤ 1000000000) (hok : ∀ p ∈ l, p.nm.size ≤ 1000000 ∧ p.ty.ok) : XQ Tryz.prog pk 29 [xr (l.map paD)] (xb (l.all cN)) := by
  refine XQ.en Tryz.func29 Tryz.ntmps29 (fun w0 own H V v0 hf => ?_)
  refine G (T := T) 1000 rfl ?_
  refine Lq [0] (fun q r => (2, xb false) :: (3, xi (q : Nat)) :: r) (fun q => []) 0 (fun q => q ≤ l.length ∧ (l.take q).all cN = true) (fun q => l.length - q) 0 rfl ⟨Nat.zero_le _, rfl⟩ ?_
  rintro j ⟨hj, hI⟩
  refine G (T := T) 1000 rfl ?_
  refine If rfl (fun h => ?_) (fun h => ?_)
  · have hjl := of_decide_eq_true h; rw [List.length_map] at hjl
    obtain ⟨y, hy⟩ := al (l := l) (j := j) (by omega)
    have hym := List.mem_of_getElem? hy
    obtain ⟨o1, o2⟩ := hok y hym
    refine G (T := T) 1000 rfl ?_
    refine Ix (T := T) j (aa hy) rfl rfl rfl rfl ⟨rfl, rfl⟩ rfl rfl ?_
    refine G (T := T) 1000 rfl ?_
    refine Cq (bY (by omega)) rfl rfl rfl rfl rfl ⟨rfl, rfl⟩ ?_
    refine G (T := T) 1000 rfl ?_
    refine Ix (T := T) j (aa hy) rfl rfl rfl rfl ⟨rfl, rfl⟩ rfl rfl ?_
    refine G (T := T) 1000 rfl ?_
    refine Cq (ec _ (Nat.le_refl _) o2) rfl rfl rfl rfl rfl ⟨rfl, rfl⟩ ?_
    refine Gs (T := T) 1000 rfl ?_
    have e9 : (!ae y.nm || !rTy y.ty) = !cN y := by rw [cN, Bool.not_and]
    refine If rfl (fun h => ?_) (fun h => ?_)
    · rw [e9] at h
      refine G (T := T) 1000 rfl ?_
      exact Fe (T := T) rfl (congrArg xb (cm hym (by simpa using h)).symm)
    · rw [e9] at h
      refine G (T := T) 1000 rfl ?_
      exact Nq (j + 1) ⟨by omega, cL hI hy (by simpa using h)⟩ (by show _ - (j + 1) < _ - j; omega)
  · have hjl := of_decide_eq_false h; rw [List.length_map] at hjl
    refine G (T := T) 1000 rfl ?_
    rw [List.take_of_length_le (by omega)] at hI
    exact Fe (T := T) rfl (congrArg xb hI.symm)
end
section
open Go Go.RowKit Go.Proofs K
variable {pk : Pk}
theorem ref_shape (k : Int) (a b c : D) : XQ Tryz.prog pk 181 [xd [.c (.int .i64 k), a, b, c]] (xd [.c (.int .i64 (shp k).1), .c (.int .i64 (shp k).2.1), .c (.int .i64 (shp k).2.2)]) := by
  refine XQ.en Tryz.func181 Tryz.ntmps181 (fun w0 own H V v0 hf => ?_)
  refine G (T := T) 100001 rfl ?_
  refine (FzTo.bz 0 rfl).c ?_
  refine G (T := T) 1000 rfl ?_
  iterate 15
    refine If rfl (fun h => ?_) (fun h => ?_)
    rotate_left
    have := of_decide_eq_false h
    refine G (T := T) 1000 rfl ?_
  · rw [show shp k = (-1, 0, 0) from by unfold shp; (repeat rw [if_neg (by omega)])]
    exact Fq (T := T) rfl rfl
  all_goals
    have h9 := of_decide_eq_true h
    subst h9
    refine G (T := T) 1000 rfl ?_
    first
      | exact Fq (T := T) rfl rfl
      | (refine IfT rfl h ?_; refine G (T := T) 1000 rfl ?_; exact Fq (T := T) rfl rfl)
end
section
open Go Go.RowKit Go.Proofs K
variable {pk : Pk}
theorem oG : XQ Tryz.prog pk 202 [] (xr (levL.map fun l => [D.s (l.map cq)])) := by
  refine XQ.en Tryz.func202 Tryz.ntmps202 (fun w0 own H V v0 hf => ?_)
  refine G (T := T) 1000 rfl ?_
  exact Fq (T := T) rfl rfl
def rankI (s : ByteArray) : Int := idxI (aC s) levL
theorem rank_lev (s : ByteArray) : decide (0 ≤ rankI s) = aC s opsL := by rw [ops_lev]; exact iL _ _
theorem ref_rank (s : ByteArray) : XQ Tryz.prog pk 182 [xs s] (xi (rankI s)) := by
  refine XQ.en Tryz.func182 Tryz.ntmps182 (fun w0 own H V v0 hf => ?_)
  refine G (T := T) 1000 rfl ?_
  refine Cq oG rfl rfl rfl rfl rfl ⟨rfl, rfl⟩ ?_
  have hl : levL.length = 8 := rfl
  have hb : ∀ l ∈ levL, l.length ≤ 1000000 := by decide
  rw [rankI]
  generalize levL = L at hl hb ⊢
  refine G (T := T) 1000 rfl ?_
  refine Lq [0, 3] (fun q r => (2, xi 0) :: (4, xi (q : Nat)) :: r) (fun q => []) 0 (fun q => q ≤ L.length ∧ (L.take q).any (aC s) = false) (fun q => L.length - q) 0 rfl ⟨Nat.zero_le _, rfl⟩ ?_
  rintro j ⟨hj, hI⟩
  refine G (T := T) 1000 rfl ?_
  refine If rfl (fun h => ?_) (fun h => ?_)
  · have hjl := of_decide_eq_true h; rw [List.length_map] at hjl
    obtain ⟨y, hy⟩ := al (l := L) (j := j) (by omega)
    refine G (T := T) 1000 rfl ?_
    refine Ix (T := T) j (aa hy) rfl rfl rfl rfl ⟨rfl, rfl⟩ rfl rfl ?_
    refine G (T := T) 1000 rfl ?_
    refine Cq (kT (hb y (List.mem_of_getElem? hy)) s) rfl rfl rfl rfl rfl ⟨rfl, rfl⟩ ?_
    refine G (T := T) 1000 rfl ?_
    refine If rfl (fun h => ?_) (fun h => ?_)
    · refine G (T := T) 1000 rfl ?_
      exact Fe (T := T) rfl (by show xi _ = xi _; rw [eZ hI hy h])
    · refine G (T := T) 1000 rfl ?_
      exact Nq (j + 1) ⟨by omega, eD hI hy h⟩ (by show _ - (j + 1) < _ - j; omega)
  · have hjl := of_decide_eq_false h; rw [List.length_map] at hjl
    refine G (T := T) 1000 rfl ?_
    exact Fe (T := T) rfl (by show xi _ = xi _; rw [fU hI (by omega)])
theorem oH : ∀ (m : Nat), m ≤ 1000000000 → ∀ {e : Ex}, e.size ≤ m → e.ok → XQ Tryz.prog pk 159 [xd (exD e)] (xb (rEx e)) := by
  intro m
  induction m with
  | zero => intro _ e hm; have := e.size_pos; omega
  | succ m ih =>
  intro hB e hm hok
  obtain ⟨k, nm, n, ks⟩ := e
  obtain ⟨hk, hn, hn2, hks⟩ := hok
  have hsz : (Ex.mk k nm n ks).size = Ex.sizes ks + 1 := rfl
  have hlen := Ex.len_le ks
  rw [jC, rEx_split hn2.1]
  refine XQ.en Tryz.func159 Tryz.ntmps159 (fun w0 own H V v0 hf => ?_)
  refine G (T := T) 100001 rfl ?_
  refine (FzTo.bz 0 rfl).c ?_
  refine G (T := T) 1000 rfl ?_
  refine Cq (ref_shape k _ _ _) rfl rfl rfl rfl rfl ⟨rfl, rfl⟩ ?_
  refine Gs (T := T) 1000 rfl ?_
  have e1 : ((decide (0 ≤ (shp k).1) && decide (((ks.map exD).length : Int) ≠ (shp k).1)) || decide ((shp k).2.1 ≤ n)) = ir k n ks.length := by rw [ir, List.length_map]
  refine If rfl (fun h => ?_) (fun h => ?_)
  · rw [show ir k n ks.length = true from e1.symm.trans h]
    refine G (T := T) 1000 rfl ?_
    exact Fe (T := T) rfl rfl
  have h1 : ir k n ks.length = false := e1.symm.trans h
  have hin := exOne_in hn2.1 h1
  rw [h1]
  refine G (T := T) 200000 rfl ?_
  refine Cf [1, 2] (fun (_ : Unit) r => (4, xb (bx k nm)) :: r) (fun _ => []) 2 (fun _ => True) rfl ?_ ?_
  · refine G (T := T) 1000 rfl ?_
    refine If rfl (fun h => ?_) (fun h => ?_)
    · rw [nF ((shp_nm1 hin).1 (of_decide_eq_true h))]
      refine G (T := T) 1000 rfl ?_
      refine Cq (bY (by omega)) rfl rfl rfl rfl rfl ⟨rfl, rfl⟩ ?_
      refine G (T := T) 1000 rfl ?_
      exact Dn () trivial
    have h2 : ¬ (k = 2 ∨ k = 3 ∨ k = 14) := fun q => absurd ((shp_nm1 hin).2 q) (of_decide_eq_false h)
    refine G (T := T) 1000 rfl ?_
    refine If rfl (fun h => ?_) (fun h => ?_)
    · rw [exName_un (of_decide_eq_true h)]
      refine Gs (T := T) 1000 rfl ?_
      exact Dn () trivial
    have h3 := of_decide_eq_false h
    refine G (T := T) 1000 rfl ?_
    refine If rfl (fun h => ?_) (fun h => ?_)
    · rw [nG (of_decide_eq_true h)]
      refine Gs (T := T) 1000 rfl ?_
      exact Dn () trivial
    have h4 := of_decide_eq_false h
    refine G (T := T) 1000 rfl ?_
    refine If rfl (fun h => ?_) (fun h => ?_)
    · rw [ou (of_decide_eq_true h), ← rank_lev]
      refine G (T := T) 1000 rfl ?_
      refine Cq (ref_rank nm) rfl rfl rfl rfl rfl ⟨rfl, rfl⟩ ?_
      refine G (T := T) 1000 rfl ?_
      exact Dn () trivial
    have h5 := of_decide_eq_false h
    rw [nH h2 h3 h4 h5]
    refine G (T := T) 1000 rfl ?_
    exact Dn () trivial
  rintro _ -
  refine G (T := T) 1000 rfl ?_
  refine If rfl (fun h => ?_) (fun h => ?_)
  · rw [notT h]
    refine G (T := T) 1000 rfl ?_
    exact Fe (T := T) rfl rfl
  rw [notF h, Bool.not_false, Bool.true_and, Bool.true_and]
  refine G (T := T) 1000 rfl ?_
  refine Lq [1] (fun q r => (2, xb false) :: (5, xi (q : Nat)) :: r) (fun q => []) 2 (fun q => q ≤ ks.length ∧ (ks.take q).all rEx = true) (fun q => ks.length - q) 0 rfl ⟨Nat.zero_le _, rfl⟩ ?_
  rintro j ⟨hj, hI⟩
  refine G (T := T) 1000 rfl ?_
  refine If rfl (fun h => ?_) (fun h => ?_)
  · have hjl := of_decide_eq_true h; rw [List.length_map] at hjl
    obtain ⟨y, hy⟩ := al (l := ks) (j := j) (by omega)
    have hym := List.mem_of_getElem? hy
    refine G (T := T) 1000 rfl ?_
    refine Ix (T := T) j (aa hy) rfl rfl rfl rfl ⟨rfl, rfl⟩ rfl rfl ?_
    refine G (T := T) 1000 rfl ?_
    refine Cq (ih (by omega) (by have := Ex.size_mem hym; omega) (Ex.oks_mem hks hym)) rfl rfl rfl rfl rfl ⟨rfl, rfl⟩ ?_
    refine G (T := T) 1000 rfl ?_
    refine If rfl (fun h => ?_) (fun h => ?_)
    · refine G (T := T) 1000 rfl ?_
      exact Fe (T := T) rfl (congrArg xb (cm hym (by simpa using h)).symm)
    · refine G (T := T) 1000 rfl ?_
      exact Nq (j + 1) ⟨by omega, cL hI hy (by simpa using h)⟩ (by show _ - (j + 1) < _ - j; omega)
  · have hjl := of_decide_eq_false h; rw [List.length_map] at hjl
    refine G (T := T) 1000 rfl ?_
    rw [List.take_of_length_le (by omega)] at hI
    exact Fe (T := T) rfl (congrArg xb hI.symm)
end
section
open Go Go.RowKit Go.Proofs K
variable {pk : Pk}
theorem ref_kind (s : Sm) : XQ Tryz.prog pk 157 [xd (smD s)] (xd [.c (.int .i64 (K.kd (sk s) 0)), .c (.int .i64 (K.kd (sk s) 1)), .c (.int .i64 (K.kd (sk s) 2)), .c (.int .i64 (K.kd (sk s) 3)), .c (.int .i64 (K.kd (sk s) 4)), .c (.int .i64 (K.kd (sk s) 5))]) := by
  unfold smD
  generalize sk s = k
  refine XQ.en Tryz.func157 Tryz.ntmps157 (fun w0 own H V v0 hf => ?_)
  refine G (T := T) 100001 rfl ?_
  refine (FzTo.bz 0 rfl).c ?_
  refine G (T := T) 1000 rfl ?_
  iterate 14
    refine If rfl (fun h => ?_) (fun h => ?_)
    rotate_left
    have := of_decide_eq_false h
    refine G (T := T) 1000 rfl ?_
    try (refine IfF rfl h ?_; refine G (T := T) 1000 rfl ?_)
  · have e : ∀ j, K.kd k j = [1, 0, 0, 0, 0, 0].getD j 0 := fun j => by unfold K.kd; rw [mA (by omega)]
    rw [e, e, e, e, e, e]
    exact Fq (T := T) rfl rfl
  all_goals
    have h9 := of_decide_eq_true h
    subst h9
    refine G (T := T) 1000 rfl ?_
    first
      | exact Fq (T := T) rfl rfl
      | (refine IfT rfl h ?_; refine G (T := T) 1000 rfl ?_; exact Fq (T := T) rfl rfl)
abbrev smE (l : List Sm) (f : FuncId) (pk : Pk) : Prop := ∀ s ∈ l, XQ Tryz.prog pk f [xd (smD s)] (xb (rSm s))
theorem kU {l : List Sm} (hl : l.length ≤ 1000000000) (h : smE l 126 pk) : XQ Tryz.prog pk 77 [xr (l.map smD)] (xb (cT l)) := by
  rw [aH]
  refine XQ.en Tryz.func77 Tryz.ntmps77 (fun w0 own H V v0 hf => ?_)
  refine G (T := T) 1000 rfl ?_
  refine Lq [0] (fun q r => (2, xb false) :: (3, xi (q : Nat)) :: r) (fun q => []) 0 (fun q => q ≤ l.length ∧ (l.take q).all rSm = true) (fun q => l.length - q) 0 rfl ⟨Nat.zero_le _, rfl⟩ ?_
  rintro j ⟨hj, hI⟩
  refine G (T := T) 1000 rfl ?_
  refine If rfl (fun h => ?_) (fun h => ?_)
  · have hjl := of_decide_eq_true h; rw [List.length_map] at hjl
    obtain ⟨y, hy⟩ := al (l := l) (j := j) (by omega)
    have hym := List.mem_of_getElem? hy
    refine G (T := T) 1000 rfl ?_
    refine Ix (T := T) j (aa hy) rfl rfl rfl rfl ⟨rfl, rfl⟩ rfl rfl ?_
    refine G (T := T) 15 rfl ?_
    refine Cq (by first | exact h y hym | (rename_i hh _ _ _ _ _ _ _ _ _; exact hh y hym) | exact (‹smE l 126 pk› y hym)) rfl rfl rfl rfl rfl ⟨rfl, rfl⟩ ?_
    refine G (T := T) 1000 rfl ?_
    refine If rfl (fun h => ?_) (fun h => ?_)
    · refine G (T := T) 1000 rfl ?_
      exact Fe (T := T) rfl (congrArg xb (cm hym (by simpa using h)).symm)
    · refine G (T := T) 1000 rfl ?_
      exact Nq (j + 1) ⟨by omega, cL hI hy (by simpa using h)⟩ (by show _ - (j + 1) < _ - j; omega)
  · have hjl := of_decide_eq_false h; rw [List.length_map] at hjl
    refine G (T := T) 1000 rfl ?_
    rw [List.take_of_length_le (by omega)] at hI
    exact Fe (T := T) rfl (congrArg xb hI.symm)
theorem ek_kind (e : Ex) : ek e = e.kind := by cases e; rfl
theorem place_neq (k : Int) : (((((decide (k ≠ 2) && decide (k ≠ 3)) && decide (k ≠ 4)) && decide (k ≠ 5)) && decide (k ≠ 7)) && decide (k ≠ 8)) = !bn k := by
  unfold bn
  rw [Bool.eq_iff_iff]
  simp only [Bool.and_eq_true, decide_eq_true_eq, Bool.not_eq_true', decide_eq_false_iff_not]
  omega
theorem oI : ∀ (m : Nat), m ≤ 1000000000 → ∀ {s : Sm}, s.size ≤ m → s.ok → XQ Tryz.prog pk 126 [xd (smD s)] (xb (rSm s)) := by
  intro m
  induction m with
  | zero => intro _ e hm; have := e.size_pos; omega
  | succ m ih =>
  intro hB s hm hok
  have hkind := ref_kind (pk := pk) s
  obtain ⟨k, nm, t, n, es, b, el, cs⟩ := s
  obtain ⟨hk, hn, ht, hn2, hx, hb, he, hc⟩ := hok
  have hsz : (Sm.mk k nm t n es b el cs).size = t.size + Ex.sizes es + Sm.sizes b + Sm.sizes el + Sm.csizes cs + 1 := rfl
  have l1 := Ex.len_le es
  have l2 := Sm.clen_le cs
  have l3 := Sm.len_le b
  have l4 := Sm.len_le el
  have blk : ∀ {l : List Sm}, Sm.sizes l ≤ m → Sm.oks l → XQ Tryz.prog pk 77 [xr (l.map smD)] (xb (cT l)) := fun {l} h1 h2 => kU (by have := Sm.len_le l; omega) (fun s hs => ih (by omega) (by have := Sm.size_mem hs; omega) (Sm.oks_mem h2 hs))
  rw [dW] at hkind ⊢
  change XQ Tryz.prog pk 157 _ (xd [.c (.int .i64 (K.kd k 0)), .c (.int .i64 (K.kd k 1)), .c (.int .i64 (K.kd k 2)), .c (.int .i64 (K.kd k 3)), .c (.int .i64 (K.kd k 4)), .c (.int .i64 (K.kd k 5))]) at hkind
  rw [rSm_split hn2.1]
  refine XQ.en Tryz.func126 Tryz.ntmps126 (fun w0 own H V v0 hf => ?_)
  refine G (T := T) 100001 rfl ?_
  refine (FzTo.bz 0 rfl).c ?_
  refine G (T := T) 1000 rfl ?_
  refine Cq hkind rfl rfl rfl rfl rfl ⟨rfl, rfl⟩ ?_
  refine G (T := T) 1000 rfl ?_
  refine Cq (bY (s := nm) (by omega)) rfl rfl rfl rfl rfl ⟨rfl, rfl⟩ ?_
  refine Gs (T := T) 1000 rfl ?_
  let KB : XH := [⟨1, 0, .cells [.d (.c (.int .i64 (K.kd k 0))), .d (.c (.int .i64 (K.kd k 1))), .d (.c (.int .i64 (K.kd k 2))), .d (.c (.int .i64 (K.kd k 3))), .d (.c (.int .i64 (K.kd k 4))), .d (.c (.int .i64 (K.kd k 5)))] 220⟩]
  refine Cf [1, 2, 3] (fun (_ : Unit) r => (4, xb (eJ k nm)) :: r) (fun _ => KB) 2 (fun _ => True) rfl ?_ ?_
  · refine If rfl (fun h => ?_) (fun h => ?_)
    · have h2 : K.kd k 2 = 0 ∨ (K.kd k 2 = 2 ∧ nm = ⟨#[]⟩) := by simpa using h
      rw [eJ, if_pos h2]
      refine Gs (T := T) 1000 rfl ?_
      exact Dn () trivial
    · have h2 : ¬ (K.kd k 2 = 0 ∨ (K.kd k 2 = 2 ∧ nm = ⟨#[]⟩)) := fun q => by
        have e : (decide (K.kd k 2 = 0) || (decide (K.kd k 2 = 2) && decide (nm = ⟨#[]⟩))) = true := by simpa using q
        rw [show (decide (K.kd k 2 = 0) || (decide (K.kd k 2 = 2) && decide (nm = ⟨#[]⟩))) = false from h] at e; cases e
      rw [eJ, if_neg h2]
      refine G (T := T) 1000 rfl ?_
      exact Dn () trivial
  rintro _ -
  refine G (T := T) 1000 rfl ?_
  refine Cq (oF t) rfl rfl rfl rfl rfl ⟨rfl, rfl⟩ ?_
  refine G (T := T) 1000 rfl ?_
  refine Cf [1, 2, 3, 4] (fun (_ : Unit) r => (5, xb (dG k t)) :: r) (fun _ => KB) 2 (fun _ => True) rfl ?_ ?_
  · refine If rfl (fun h => ?_) (fun h => ?_)
    · rw [dG, if_pos (of_decide_eq_true h)]
      refine G (T := T) 1000 rfl ?_
      refine Cq (ec _ (Nat.le_refl _) ht) rfl rfl rfl rfl rfl ⟨rfl, rfl⟩ ?_
      refine G (T := T) 1000 rfl ?_
      exact Dn () trivial
    · rw [dG, if_neg (of_decide_eq_false h)]
      refine G (T := T) 1000 rfl ?_
      exact Dn () trivial
  rintro _ -
  refine Gs (T := T) 1000 rfl ?_
  have e8 : (((((decide (((es.map exD).length : Int) < K.kd k 0) || decide (K.kd k 1 < ((es.map exD).length : Int))) || !eJ k nm) || !dG k t) || decide (255 < n)) || (decide (k ≠ 11) && decide (n ≠ 0))) = cG k n es.length (eJ k nm) (dG k t) := by rw [cG, List.length_map]
  refine If rfl (fun h => ?_) (fun h => ?_)
  · rw [show cG k n es.length (eJ k nm) (dG k t) = true from e8.symm.trans h]
    refine G (T := T) 1000 rfl ?_
    exact Fe (T := T) rfl rfl
  have h8 : cG k n es.length (eJ k nm) (dG k t) = false := e8.symm.trans h
  have hleast := nI h8
  rw [h8]
  refine Gs (T := T) 1000 rfl ?_
  have e10 : (((decide (K.kd k 3 = 0) && decide (0 < ((b.map smD).length : Int))) || (decide (K.kd k 4 = 0) && decide (0 < ((el.map smD).length : Int)))) || (decide (K.kd k 5 = 0) && decide (0 < ((cs.map blD).length : Int)))) = kM k b.length el.length cs.length := by rw [kM, List.length_map, List.length_map, List.length_map]
  refine If rfl (fun h => ?_) (fun h => ?_)
  · rw [show kM k b.length el.length cs.length = true from e10.symm.trans h]
    refine G (T := T) 1000 rfl ?_
    exact Fe (T := T) rfl rfl
  rw [show kM k b.length el.length cs.length = false from e10.symm.trans h]
  simp only [Bool.not_false, Bool.true_and]
  refine G (T := T) 1000 rfl ?_
  refine Lq [1] (fun q r => (2, xb false) :: (6, xi (q : Nat)) :: r) (fun q => []) 2 (fun q => q ≤ es.length ∧ (es.take q).all rEx = true) (fun q => es.length - q) 0 rfl ⟨Nat.zero_le _, rfl⟩ ?_
  rintro j ⟨hj, hI⟩
  refine G (T := T) 1000 rfl ?_
  refine If rfl (fun h => ?_) (fun h => ?_)
  · have hjl := of_decide_eq_true h; rw [List.length_map] at hjl
    obtain ⟨y, hy⟩ := al (l := es) (j := j) (by omega)
    have hym := List.mem_of_getElem? hy
    refine G (T := T) 1000 rfl ?_
    refine Ix (T := T) j (aa hy) rfl rfl rfl rfl ⟨rfl, rfl⟩ rfl rfl ?_
    refine G (T := T) 1000 rfl ?_
    refine Cq (oH _ (by have := Ex.size_mem hym; omega) (Nat.le_refl _) (Ex.oks_mem hx hym)) rfl rfl rfl rfl rfl ⟨rfl, rfl⟩ ?_
    refine G (T := T) 1000 rfl ?_
    refine If rfl (fun h => ?_) (fun h => ?_)
    · refine G (T := T) 1000 rfl ?_
      rw [cm hym (by simpa using h)]
      exact Fe (T := T) rfl rfl
    · refine G (T := T) 1000 rfl ?_
      exact Nq (j + 1) ⟨by omega, cL hI hy (by simpa using h)⟩ (by show _ - (j + 1) < _ - j; omega)
  have hjl := of_decide_eq_false h; rw [List.length_map] at hjl
  rw [List.take_of_length_le (by omega)] at hI
  rw [hI, Bool.true_and]
  obtain ⟨u, hu⟩ : ∃ u : Ex, 1 ≤ es.length → es[0]? = some u ∧ es.map exD = exD u :: (es.drop 1).map exD ∧ ∀ p, bA p es = p (ek u) := by
    match es with
    | [] => exact ⟨.mk 0 eS 0 [], fun h => by simp at h⟩
    | x :: r => exact ⟨x, fun _ => ⟨rfl, rfl, fun p => by rw [ek_kind]; rfl⟩⟩
  have k14 : k = 14 → 1 ≤ es.length := fun q => by subst q; have : K.kd 14 0 = 1 := rfl; omega
  have k2 : k = 2 → 1 ≤ es.length := fun q => by subst q; have : K.kd 2 0 = 2 := rfl; omega
  refine Gs (T := T) 132 rfl ?_
  refine Is (T := T) 0 (exD u) (fun h => ⟨by rw [(hu (k14 (of_decide_eq_true h))).2.1]; rfl, rfl⟩) rfl rfl rfl rfl rfl rfl rfl rfl ?_
  refine Gs (T := T) 1000 rfl ?_
  have a1 : (decide (k = 14) && decide (ek u ≠ 14)) = (decide (k = 14) && !bA (fun j => decide (j = 14)) es) := by
    by_cases q : k = 14
    · rw [decide_eq_true q, (hu (k14 q)).2.2, decide_not]
    · rw [decide_eq_false q]; rfl
  refine If rfl (fun h => ?_) (fun h => ?_)
  · rw [show (decide (k = 14) && !bA (fun j => decide (j = 14)) es) = true from a1.symm.trans h]
    refine G (T := T) 1000 rfl ?_
    exact Fe (T := T) rfl rfl
  rw [show (decide (k = 14) && !bA (fun j => decide (j = 14)) es) = false from a1.symm.trans h, Bool.not_false, Bool.true_and]
  refine G (T := T) 1000 rfl ?_
  generalize hZ : ((decide (k = 2) && !bA bn es)) = Z
  refine Cf [1, 2] (fun (_ : Unit) r => r) (fun _ => []) 2 (fun _ => Z = false) rfl ?_ ?_
  · refine If rfl (fun h => ?_) (fun h => ?_)
    · have h2 := of_decide_eq_true h
      refine Gs (T := T) 142 rfl ?_
      refine Ix (T := T) 0 (r := exD u) (by rw [(hu (k2 h2)).2.1]; rfl) rfl rfl rfl rfl ⟨rfl, rfl⟩ rfl rfl ?_
      refine Gs (T := T) 1000 rfl ?_
      have a2 : (((((decide (ek u ≠ 2) && decide (ek u ≠ 3)) && decide (ek u ≠ 4)) && decide (ek u ≠ 5)) && decide (ek u ≠ 7)) && decide (ek u ≠ 8)) = Z := by rw [place_neq, ← hZ, decide_eq_true h2, (hu (k2 h2)).2.2, Bool.true_and]
      refine If rfl (fun h => ?_) (fun h => ?_)
      · have a3 : Z = true := a2.symm.trans h
        subst a3
        refine G (T := T) 1000 rfl ?_
        exact Fe (T := T) rfl rfl
      · have a3 : Z = false := a2.symm.trans h
        refine G (T := T) 1000 rfl ?_
        exact Dn () a3
    · refine G (T := T) 1000 rfl ?_
      exact Dn () (by rw [← hZ, h]; rfl)
  rintro _ rfl
  rw [Bool.not_false, Bool.true_and]
  refine G (T := T) 1000 rfl ?_
  refine Lq [1] (fun q r => (2, xb false) :: (9, xi (q : Nat)) :: r) (fun q => []) 2 (fun q => q ≤ cs.length ∧ (cs.take q).all cT = true) (fun q => cs.length - q) 0 rfl ⟨Nat.zero_le _, rfl⟩ ?_
  rintro j ⟨hj, hI⟩
  refine G (T := T) 1000 rfl ?_
  refine If rfl (fun h => ?_) (fun h => ?_)
  · have hjl := of_decide_eq_true h; rw [List.length_map] at hjl
    obtain ⟨y, hy⟩ := al (l := cs) (j := j) (by omega)
    have hym := List.mem_of_getElem? hy
    refine G (T := T) 1000 rfl ?_
    refine Ix (T := T) j (aa hy) rfl rfl rfl rfl ⟨rfl, rfl⟩ rfl rfl ?_
    refine G (T := T) 1000 rfl ?_
    refine Cq (blk (by have := Sm.csize_mem hym; omega) (Sm.okc_mem hc hym)) rfl rfl rfl rfl rfl ⟨rfl, rfl⟩ ?_
    refine G (T := T) 1000 rfl ?_
    refine If rfl (fun h => ?_) (fun h => ?_)
    · refine G (T := T) 1000 rfl ?_
      rw [cm hym (by simpa using h)]
      exact Fe (T := T) rfl rfl
    · refine G (T := T) 1000 rfl ?_
      exact Nq (j + 1) ⟨by omega, cL hI hy (by simpa using h)⟩ (by show _ - (j + 1) < _ - j; omega)
  have hjl := of_decide_eq_false h; rw [List.length_map] at hjl
  rw [List.take_of_length_le (by omega)] at hI
  rw [hI, Bool.true_and, ← aH, ← aH]
  refine G (T := T) 1000 rfl ?_
  refine Cq (blk (by omega) hb) rfl rfl rfl rfl rfl ⟨rfl, rfl⟩ ?_
  refine G (T := T) 1000 rfl ?_
  refine Cq (blk (by omega) he) rfl rfl rfl rfl rfl ⟨rfl, rfl⟩ ?_
  refine Gs (T := T) 1000 rfl ?_
  exact Fe (T := T) rfl rfl
end
section
open Go Go.RowKit Go.Proofs K
variable {pk : Pk}
theorem tyS_len (t : Ty4) : az t 7 = (((decide (tk t = 7) && decide (tnm t = eS)) && decide (tn t = 0)) && decide (((tyS t).length : Int) = 0)) := by
  obtain ⟨k, nm, n, ts⟩ := t
  show _ = (((decide (k = 7) && decide (nm = eS)) && decide (n = 0)) && decide (((tyR ts).length : Int) = 0))
  rw [tyR_eq, len0]; rfl
theorem oJ {f : Fu} {B : Nat} (hB : B ≤ 900000000) (hok : f.ok B) : XQ Tryz.prog pk 31 [xd (fuD f)] (xb (rFu f)) := by
  obtain ⟨h1, h2, h3, h4, h5, h6, h7, h8, h9⟩ := hok
  have hbl := Sm.len_le f.body
  have hty := ec (pk := pk) _ (Nat.le_refl _) h4
  have hst := kU (pk := pk) (l := f.body) (by omega) (fun s hs => oI _ (by have := Sm.size_mem hs; omega) (Nat.le_refl _) (Sm.oks_mem h6 hs))
  unfold fuD rFu
  refine XQ.en Tryz.func31 Tryz.ntmps31 (fun w0 own H V v0 hf => ?_)
  refine G (T := T) 100001 rfl ?_
  refine (FzTo.bz 0 rfl).c ?_
  refine G (T := T) 1000 rfl ?_
  refine Cq (bY (s := f.nm) (by omega)) rfl rfl rfl rfl rfl ⟨rfl, rfl⟩ ?_
  refine G (T := T) 1000 rfl ?_
  refine Cq (jS (l := f.ps) (by omega) (fun p hp => ⟨(h3 p hp).1, (h3 p hp).2.1⟩)) rfl rfl rfl rfl rfl ⟨rfl, rfl⟩ ?_
  refine Gs (T := T) 100004 rfl ?_
  refine Gs (T := T) 1000 rfl ?_
  refine Cq hty rfl rfl rfl rfl rfl ⟨rfl, rfl⟩ ?_
  refine Gs (T := T) 1000 rfl ?_
  have a1 : ((!ae f.nm || !f.ps.all cN) || (!(((decide (tk f.res = 7) && decide (tnm f.res = eS)) && decide (tn f.res = 0)) && decide (((tyS f.res).length : Int) = 0)) && !rTy f.res)) = !((ae f.nm && f.ps.all cN) && (az f.res 7 || rTy f.res)) := by
    rw [← tyS_len, Bool.not_and, Bool.not_and, Bool.not_or]
  refine If rfl (fun h => ?_) (fun h => ?_)
  · rw [notT (a1.symm.trans h), Bool.false_and]
    refine G (T := T) 1000 rfl ?_
    exact Fe (T := T) rfl rfl
  rw [notF (a1.symm.trans h), Bool.true_and]
  refine G (T := T) 1000 rfl ?_
  refine If rfl (fun h => ?_) (fun h => ?_)
  · rw [if_pos h]
    refine Gs (T := T) 1000 rfl ?_
    refine Fe (T := T) rfl ?_
    show xb ((decide (((f.body.map smD).length : Int) = 0) && _) && _) = _
    rw [len0]
  · rw [if_neg (by rw [h]; exact Bool.false_ne_true)]
    refine Gs (T := T) 74 rfl ?_
    refine Eqs rfl rfl rfl rfl rfl (by kernel_rfl) (nO _ _ _ _) ⟨rfl, rfl⟩ ?_
    refine Gs (T := T) 1000 rfl ?_
    refine Cs (fun _ => hst) rfl rfl rfl rfl rfl rfl rfl rfl ?_
    refine Gs (T := T) 1000 rfl ?_
    refine Fe (T := T) rfl (congrArg xb ?_)
    congr 1
    rw [Bool.eq_iff_iff]; simp
theorem ref_Right {p : Pg} {B : Nat} (hB : B ≤ 900000000) (hok : p.ok B) : XQ Tryz.prog pk 11 [xd (pgD p)] (xb (rPg p)) := by
  have htl := hok.tl
  have hgl := hok.gl
  have hfl := hok.fl
  refine XQ.en Tryz.func11 Tryz.ntmps11 (fun w0 own H V v0 hf => ?_)
  unfold rPg
  refine G (T := T) 100001 rfl ?_
  refine (FzTo.bz 0 rfl).c ?_
  refine G (T := T) 1000 rfl ?_
  refine Lq [1] (fun q r => (2, xb false) :: (3, xi (q : Nat)) :: r) (fun q => []) 1 (fun q => q ≤ p.ts.length ∧ (p.ts.take q).all rTd = true) (fun q => p.ts.length - q) 0 rfl ⟨Nat.zero_le _, rfl⟩ ?_
  rintro j ⟨hj, hI⟩
  refine G (T := T) 1000 rfl ?_
  refine If rfl (fun h => ?_) (fun h => ?_)
  · have hjl := of_decide_eq_true h; rw [List.length_map] at hjl
    obtain ⟨y, hy⟩ := al (l := p.ts) (j := j) (by omega)
    have hym := List.mem_of_getElem? hy
    obtain ⟨o1, o2, o3⟩ := hok.t y hym
    refine G (T := T) 1000 rfl ?_
    refine Ix (T := T) j (aa hy) rfl rfl rfl rfl ⟨rfl, rfl⟩ rfl rfl ?_
    refine G (T := T) 1000 rfl ?_
    refine Cq (bY (s := y.nm) (by omega)) rfl rfl rfl rfl rfl ⟨rfl, rfl⟩ ?_
    refine G (T := T) 1000 rfl ?_
    refine Ix (T := T) j (aa hy) rfl rfl rfl rfl ⟨rfl, rfl⟩ rfl rfl ?_
    refine G (T := T) 1000 rfl ?_
    refine Cq (jS (l := y.fs) (by omega) (fun p hp => ⟨(o3 p hp).1, (o3 p hp).2.1⟩)) rfl rfl rfl rfl rfl ⟨rfl, rfl⟩ ?_
    refine Gs (T := T) 1000 rfl ?_
    have e9 : (!ae y.nm || !y.fs.all cN) = !rTd y := by rw [rTd, Bool.not_and]
    refine If rfl (fun h => ?_) (fun h => ?_)
    · rw [e9] at h
      refine G (T := T) 1000 rfl ?_
      rw [cm hym (by simpa using h)]
      exact Fe (T := T) rfl rfl
    · rw [e9] at h
      refine G (T := T) 1000 rfl ?_
      exact Nq (j + 1) ⟨by omega, cL hI hy (by simpa using h)⟩ (by show _ - (j + 1) < _ - j; omega)
  have hjl := of_decide_eq_false h; rw [List.length_map] at hjl
  rw [List.take_of_length_le (by omega)] at hI
  rw [hI, Bool.true_and]
  refine G (T := T) 1000 rfl ?_
  refine Lq [1] (fun q r => (2, xb false) :: (6, xi (q : Nat)) :: r) (fun q => []) 1 (fun q => q ≤ p.gs.length ∧ (p.gs.take q).all rGb = true) (fun q => p.gs.length - q) 0 rfl ⟨Nat.zero_le _, rfl⟩ ?_
  rintro j ⟨hj, hI⟩
  refine G (T := T) 1000 rfl ?_
  refine If rfl (fun h => ?_) (fun h => ?_)
  · have hjl := of_decide_eq_true h; rw [List.length_map] at hjl
    obtain ⟨y, hy⟩ := al (l := p.gs) (j := j) (by omega)
    have hym := List.mem_of_getElem? hy
    obtain ⟨o1, o2, o3, o4, o5, o6⟩ := hok.g y hym
    refine G (T := T) 1000 rfl ?_
    refine Ix (T := T) j (aa hy) rfl rfl rfl rfl ⟨rfl, rfl⟩ rfl rfl ?_
    refine G (T := T) 100012 rfl ?_
    refine (FzTo.bz 1 rfl).c ?_
    refine G (T := T) 1000 rfl ?_
    refine Cq (bY (s := y.nm) (by omega)) rfl rfl rfl rfl rfl ⟨rfl, rfl⟩ ?_
    refine G (T := T) 1000 rfl ?_
    refine Cq (ec _ (Nat.le_refl _) o2) rfl rfl rfl rfl rfl ⟨rfl, rfl⟩ ?_
    refine Gs (T := T) 1000 rfl ?_
    have e9 : ((((!ae y.nm || !rTy y.ty) || decide (y.bank < -1)) || decide (63 < y.bank)) || (decide (y.bank < 0) && decide (y.bytes ≠ ⟨#[]⟩))) = !rGb y := by
      rw [rGb, decide_not]
      have i1 : decide (y.bank < -1) = !decide (-1 ≤ y.bank) := by rw [← decide_not]; exact decide_eq_decide.2 (by omega)
      have i2 : decide (63 < y.bank) = !decide (y.bank < 64) := by rw [← decide_not]; exact decide_eq_decide.2 (by omega)
      have i3 : decide (y.bank < 0) = !decide (0 ≤ y.bank) := by rw [← decide_not]; exact decide_eq_decide.2 (by omega)
      have i4 : decide (y.bank = -1) = (decide (-1 ≤ y.bank) && !decide (0 ≤ y.bank)) := by rw [← i3, ← Bool.decide_and]; exact decide_eq_decide.2 (by omega)
      have i5 : decide (0 ≤ y.bank) = true → decide (-1 ≤ y.bank) = true := fun h => decide_eq_true (by have := of_decide_eq_true h; omega)
      have i6 : decide (0 ≤ y.bank) = false → decide (y.bank < 64) = true := fun h => decide_eq_true (by have := of_decide_eq_false h; omega)
      rw [i1, i2, i3, i4]
      revert i5 i6
      generalize decide (0 ≤ y.bank) = A
      generalize decide (-1 ≤ y.bank) = C
      generalize decide (y.bank < 64) = D'
      cases ae y.nm <;> cases rTy y.ty <;> cases A <;> cases C <;> cases D' <;> simp
    refine If rfl (fun h => ?_) (fun h => ?_)
    · rw [e9] at h
      refine G (T := T) 1000 rfl ?_
      rw [cm hym (by simpa using h)]
      exact Fe (T := T) rfl rfl
    · rw [e9] at h
      refine G (T := T) 1000 rfl ?_
      exact Nq (j + 1) ⟨by omega, cL hI hy (by simpa using h)⟩ (by show _ - (j + 1) < _ - j; omega)
  have hjl := of_decide_eq_false h; rw [List.length_map] at hjl
  rw [List.take_of_length_le (by omega)] at hI
  rw [hI, Bool.true_and]
  refine G (T := T) 1000 rfl ?_
  refine Lq [1] (fun q r => (2, xb false) :: (10, xi (q : Nat)) :: r) (fun q => []) 1 (fun q => q ≤ p.fs.length ∧ (p.fs.take q).all rFu = true) (fun q => p.fs.length - q) 0 rfl ⟨Nat.zero_le _, rfl⟩ ?_
  rintro j ⟨hj, hI⟩
  refine G (T := T) 1000 rfl ?_
  refine If rfl (fun h => ?_) (fun h => ?_)
  · have hjl := of_decide_eq_true h; rw [List.length_map] at hjl
    obtain ⟨y, hy⟩ := al (l := p.fs) (j := j) (by omega)
    have hym := List.mem_of_getElem? hy
    refine G (T := T) 1000 rfl ?_
    refine Ix (T := T) j (aa hy) rfl rfl rfl rfl ⟨rfl, rfl⟩ rfl rfl ?_
    refine G (T := T) 1000 rfl ?_
    refine Cq (oJ hB (hok.f y hym)) rfl rfl rfl rfl rfl ⟨rfl, rfl⟩ ?_
    refine G (T := T) 1000 rfl ?_
    refine If rfl (fun h => ?_) (fun h => ?_)
    · refine G (T := T) 1000 rfl ?_
      rw [cm hym (by simpa using h)]
      exact Fe (T := T) rfl rfl
    · refine G (T := T) 1000 rfl ?_
      exact Nq (j + 1) ⟨by omega, cL hI hy (by simpa using h)⟩ (by show _ - (j + 1) < _ - j; omega)
  have hjl := of_decide_eq_false h; rw [List.length_map] at hjl
  rw [List.take_of_length_le (by omega)] at hI
  rw [hI]
  refine G (T := T) 1000 rfl ?_
  exact Fe (T := T) rfl rfl
end
open Go Go.RowKit K
structure XM (P : Program) (pk : Pk) (f : FuncId) (args : List XV) (B : XH) (m m' : Nat) (Φ : XV → XH → Prop) : Prop where
  can : fR m args B = true
  le : Nat.ble m m' = true
  call : Callable P f
  fn : XFn P pk f args B m m' Φ
section
variable {P : Program} {pk : Pk} {f : FuncId} {fn : Func} {c : Code} {args : List XV} {N m m' : Nat} {B : XH} {Φ : XV → XH → Prop}
abbrev Cw (P : Program) (pk : Pk) (w0 : World) (own : List Seg) (H : Hp) (V : Vn) (m : Nat) (F : List Nat) (v0 : ∀ g t, V g t ≠ none → t = 0 ∧ g ∈ F) (hf : (∀ g ∈ F, g < m) ∧ pk.hy H) (N : Nat) (fn : Func) (m' : Nat) (Φ : XV → XH → Prop) : Cx P := Cx.of P (Bs.mk w0 own H V m F pk v0 hf) N fn m' Φ
theorem XM.en (hf : P.funcs[f]? = some fn) (hN : fn.ntmps = N) (h : ∀ w0 own H V v0 hf, (MS.c c [] ⟨dB 0 args, B, m⟩).ok (Cw P pk w0 own H V m (names B) v0 hf N fn m' Φ)) (hb : fn.body = some c := by rfl) (hn : (fn.name == "runtime.NumGoroutine") = false := by rfl) (hl : Nat.ble args.length N = true := by rfl) (hc : fR m args B = true := by rfl) (hd : (bc (names B) && B.all fun b => Nat.blt b.g m) = true := by rfl) (hm : Nat.ble m m' = true := by rfl) : XM P pk f args B m m' Φ :=
  ⟨hc, hm, Callable.of hf hn hb, XFn.enter hf hb hN hl hd h⟩
theorem Fm {T : Tb P} {w0 : World} {own : List Seg} {H : Hp} {V : Vn} {F : List Nat} {v0 : ∀ g t, V g t ≠ none → t = 0 ∧ g ∈ F} {hf : (∀ g ∈ F, g < m) ∧ pk.hy H} {s : XS} {e : Exit} {us : List XA} (nm : Nat → Nat) (r : XV) (hp' : XH) (hΦ : Φ r hp') (hr : df T s fn.results.toList = some us) (hm : Mt m F ⟨[(0, co1 r (cP us))], s.hp, s.nx⟩ ⟨[(0, r)], hp', m'⟩ nm := by exact ⟨⟨_, _, rfl, rfl⟩, rfl, rfl⟩) (he : e = .ret ∨ e = .normal := by first | exact .inl rfl | exact .inr rfl) :
    (MS.e e [] s).ok (Cw P pk w0 own H V m F v0 hf N fn m' Φ) := ME.fin nm he hr hm hΦ
variable {x : Cx P} {k : List Fr} {E Er : XE} {hp : XH} {nx i : Nat} {ops : List Oper} {dm : Option (List Rc)} {l : List (Nat × Oper)} {d : Option Tmp} {ty : TypeId} {pos : String} {af : Array Edge} {g : Option (Nat × Bool)}
theorem Cm {opd : Operand} {xs : List Operand} {tys : Array TypeId} {fv : XV} {us : List XV} {ps rest : XH} (gs : List Nat) (h : XM P x.B.pk f args B m m' Φ)
    (hEr : vis dm ops { dst := d, op := .call { callee := .value opd, args := xs.toArray, argTypes := tys }, type := ty, pos := pos, after := af, guard := g } E = Er) (hfv : xev Er opd = some fv) (hfn : fnv fv = some (f, [], [])) (hus : fo (xev Er) xs = some us) (hpk : fO gs hp = some (ps, rest))
    (hargs : cos (XVs.ren (muc gs m nx (ps.map (·.t))) args) us = XVs.ren (muc gs m nx (ps.map (·.t))) args) (hfp : ps = bm (muc gs m nx (ps.map (·.t))) B) (hb : (ax ops Er g = some true ∧ names ps = gs) ∧ (okD x.N d && (bc gs && gs.all (fun g => Nat.blt g nx))) = true)
    (hk : ∀ r hp', Φ r hp' → (MS.r ops (bE dm ⟨i, gs ++ List.range' nx (m' - m), true, true⟩) l k ⟨bl d (r.ren (muc gs m nx (ps.map (·.t)))) E, bm (muc gs m nx (ps.map (·.t))) hp' ++ rest, nx + (m' - m)⟩).ok x)
    (hdk : DkM dm ops ⟨i, gs ++ List.range' nx (m' - m), true, true⟩ := by first | exact trivial | (refine DK.mk ?_; decide +kernel)) (hrl : RlM dm ops i l := by first | exact trivial | (refine RL.mk ?_; decide +kernel)) :
    (MS.r ops dm ((i, { dst := d, op := .call { callee := .value opd, args := xs.toArray, argTypes := tys }, type := ty, pos := pos, after := af, guard := g }) :: l) k ⟨E, hp, nx⟩).ok x := by
  obtain ⟨hc, hm, hcl, h3⟩ := h
  have e0 : names ps ++ List.range' nx (nx + (m' - m) - nx) = gs ++ List.range' nx (m' - m) := by rw [hb.1.2, Nat.add_sub_cancel_left]
  refine MS.call gs true true h3 hEr hfv hfn hcl hus hpk (SubV.stat hargs) hfp hc ⟨hb.1, ?_⟩ (by rw [e0]; exact hdk) (fun h => by cases h) (fun h => by cases h) (fun _ => hrl) ?_
  · have h2 := hb.2
    simp only [Bool.and_eq_true] at h2 ⊢
    exact ⟨h2.1, h2.2.1, h2.2.2, hm⟩
  · intro r hp' hΦ
    rw [e0]
    exact hk r hp' hΦ
def pickL (ops : List Oper) : List Nat → Option (List (Nat × Oper))
  | [] => some []
  | i :: r => match ops[i]?, pickL ops r with
    | some o, some l => some ((i, o) :: l)
    | _, _ => none
theorem nR {ops : List Oper} : ∀ {π : List Nat} {l : List (Nat × Oper)}, pickL ops π = some l → fsts l = π ∧ ∀ p ∈ l, ops[p.1]? = some p.2
  | [], l, h => by cases h; exact ⟨rfl, fun _ h => by cases h⟩
  | i :: r, l, h => by
    simp only [pickL] at h
    split at h
    · rename_i o l' h1 h2
      cases h
      obtain ⟨h3, h4⟩ := nR h2
      refine ⟨by simp only [fsts, h3], fun p hp => ?_⟩
      rcases List.mem_cons.1 hp with rfl | hp
      · exact h1
      · exact h4 p hp
    · cases h
structure OdK (ops : List Oper) (π : List Nat) : Prop where
  ok : ((List.range ops.length).all π.contains && bck ops 0) = true
theorem Od {T : Tb P} {j : Nat} {ops : Array Oper} {s : XS} {L : List (Nat × Oper)} (π : List Nat) (hl : pickL ops.toList π = some L) (h : (MS.r ops.toList (some []) L k s).ok x) (hπ : OdK ops.toList π := by exact ⟨by decide +kernel⟩) : (MS.c (.region j ops true) k s).ok x := by
  obtain ⟨h1, h2⟩ := nR hl
  exact MC.draw (l := ops.toList) T.mx (todo := π) hπ.ok (h1 ▸ h h2)
theorem Ods {T : Tb P} {j : Nat} {ops : Array Oper} {b : Code} {s : XS} {L : List (Nat × Oper)} (π : List Nat) (hl : pickL ops.toList π = some L) (h : (MS.r ops.toList (some []) L (.s b :: k) s).ok x) (hπ : OdK ops.toList π := by exact ⟨by decide +kernel⟩) : (MS.c (.seq (.region j ops true) b) k s).ok x := MC.seq (Od (T := T) π hl h hπ)
end
section
variable {P : Program} {x : Cx P} {T : Tb P} {k : List Fr} {E Er : XE} {hp hp' : XH} {nx i : Nat} {ops : List Oper} {dm : Option (List Rc)} {l : List (Nat × Oper)} {d : Tmp} {dd : Option Tmp} {ty : TypeId} {pos : String} {af : Array Edge} {g : Option (Nat × Bool)}
theorem MS.rd1 {op : Op} {R : XV} {gp t0 : Nat} {o : XO} (hg : ah hp gp = some ⟨gp, t0, o⟩) (hEr : vis dm ops { dst := some d, op := op, type := ty, pos := pos, after := af, guard := g } E = Er) (hb : ax ops Er g = some true ∧ okD x.N (some d) = true)
    (hL : LS P x.B.pk ops.toArray { dst := some d, op := op, type := ty, pos := pos, after := af, guard := none } Er [⟨gp, t0, o⟩] nx nx (fun x fp' => x = R ∧ fp' = [⟨gp, t0, o⟩]))
    (hdk : DkM dm ops ⟨i, [gp], false, false⟩) (hk : (MS.r ops (bE dm ⟨i, [gp], false, false⟩) l k ⟨(d, R) :: E, hp, nx⟩).ok x) : (MS.r ops dm ((i, { dst := some d, op := op, type := ty, pos := pos, after := af, guard := g }) :: l) k ⟨E, hp, nx⟩).ok x := by
  subst hEr
  obtain ⟨p1, p2, p3⟩ := aD hg
  have e0 : names [(⟨gp, t0, o⟩ : XB)] ++ List.range' nx (nx - nx) = [gp] := by simp [names]
  refine MS.op (fp := [⟨gp, t0, o⟩]) (rest := bi hp gp) false false hb.2 p1 (Nat.le_refl _) (LS.yes (o := { dst := some d, op := op, type := ty, pos := pos, after := af, guard := g }) hb.1 hL) (by rw [e0]; exact hdk) (fun _ => ⟨_, _, ⟨rfl, rfl⟩, fun _ _ h => h⟩) (fun h => by cases h) ?_
  rintro q fp' ⟨rfl, rfl⟩
  refine ⟨by simp [names], by simp [names], fun _ => ⟨rfl, rfl⟩, hp, p1, ?_⟩
  rw [e0]; exact hk
theorem MS.wr1 {op : Op} {R : XV} {gp t0 t1 : Nat} {o o' : XO} (hg : ah hp gp = some ⟨gp, t0, o⟩) (hset' : aF hp gp t1 o' = some hp') (hEr : vis dm ops { dst := dd, op := op, type := ty, pos := pos, after := af, guard := g } E = Er) (hb : ax ops Er g = some true ∧ okD x.N dd = true)
    (hL : LS P x.B.pk ops.toArray { dst := dd, op := op, type := ty, pos := pos, after := af, guard := none } Er [⟨gp, t0, o⟩] nx nx (fun x fp' => x = R ∧ fp' = [⟨gp, t1, o'⟩]))
    (hdk : DkM dm ops ⟨i, [gp], true, false⟩) (hk : (MS.r ops (bE dm ⟨i, [gp], true, false⟩) l k ⟨bl dd R E, hp', nx⟩).ok x) : (MS.r ops dm ((i, { dst := dd, op := op, type := ty, pos := pos, after := af, guard := g }) :: l) k ⟨E, hp, nx⟩).ok x := by
  subst hEr
  obtain ⟨p1, p2, p3⟩ := aD hg
  have e0 : names [(⟨gp, t0, o⟩ : XB)] ++ List.range' nx (nx - nx) = [gp] := by simp [names]
  refine MS.op (fp := [⟨gp, t0, o⟩]) (rest := bi hp gp) true false hb.2 p1 (Nat.le_refl _) (LS.yes (o := { dst := dd, op := op, type := ty, pos := pos, after := af, guard := g }) hb.1 hL) (by rw [e0]; exact hdk) (fun _ => ⟨_, _, ⟨rfl, rfl⟩, fun _ _ h => h⟩) (fun h => by cases h) ?_
  rintro q fp' ⟨rfl, rfl⟩
  refine ⟨by simp [names], by simp [names], fun h => (by cases h), hp', p3 _ _ _ hset', ?_⟩
  rw [e0]; exact hk
end
theorem row_at {H : Hp} {sz : Nat} : ∀ {rows : List (List D)} {us : List Value}, rdL H rows.flatten us → (∀ r ∈ rows, r.length = sz) → ∀ {j : Nat} {r : List D}, rows[j]? = some r → ∃ v1 vs v2, us = v1 ++ (vs ++ v2) ∧ v1.length = j * sz ∧ rdL H r vs ∧ vs.length = sz ∧ rdL H (rows.take j).flatten v1 ∧ rdL H (rows.drop (j + 1)).flatten v2
  | [], _, _, _, _, _, h => by simp at h
  | q :: rs, us, h, hl, 0, r, hj => by
    simp only [List.getElem?_cons_zero, Option.some.injEq] at hj
    subst hj
    rw [List.flatten_cons] at h
    obtain ⟨v1, v2, rfl, h1, h2⟩ := rdL.split h
    exact ⟨[], v1, v2, rfl, by simp, h1, by rw [← h1.len]; exact hl q (List.mem_cons_self ..), trivial, h2⟩
  | q :: rs, us, h, hl, j + 1, r, hj => by
    rw [List.flatten_cons] at h
    obtain ⟨v1, v2, rfl, h1, h2⟩ := rdL.split h
    obtain ⟨w1, ws, w2, rfl, k1, k2, k3, k4, k5⟩ := row_at h2 (fun r hr => hl r (List.mem_cons_of_mem _ hr)) (by simpa using hj)
    refine ⟨v1 ++ w1, ws, w2, by simp, ?_, k2, k3, ?_, by simpa using k5⟩
    · rw [List.length_append, k1, ← h1.len, hl q (List.mem_cons_self ..), Nat.add_mul]; omega
    · rw [List.take_succ_cons, List.flatten_cons]; exact rdL.append h1 k4
theorem putC_at : ∀ (vs : List Value) (c : Array Value) (o : Nat), o + vs.length ≤ c.size → (ba c o vs).toList = c.toList.take o ++ (vs ++ c.toList.drop (o + vs.length))
  | [], c, o, _ => by simp [ba]
  | v :: r, c, o, h => by
    have hlt : o < c.toList.length := by simp at h ⊢; omega
    simp only [ba]
    rw [putC_at r _ (o + 1) (by simp at h ⊢; omega), Array.toList_setIfInBounds]
    rw [List.take_succ, List.getElem?_set_self hlt, List.take_set_of_le (Nat.le_refl _), List.drop_set_of_lt (by simp only [List.length_cons] at h; omega)]
    simp only [Option.toList_some, List.append_assoc, List.singleton_append, List.length_cons, List.cons_append, List.nil_append]
    rw [show o + 1 + r.length = o + (r.length + 1) by omega]
section
variable {P : Program} {pk : Pk} {T : Tb P} {Er : XE} {nx : Nat} {ops : Array Oper} {d : Option Tmp} {ty : TypeId} {pos : String} {af : Array Edge}
theorem HRr {V : Vn} {H : Hp} {gp t0 n : Nat} {rows : List (List D)} {e sz : Nat} {sg : Seg} (h : HR V H [⟨gp, t0, .row n rows e sz⟩] sg) :
    (∃ b us jk ex, sg = [(b, .cells (us ++ jk).toArray e (0, 0))] ∧ V gp t0 = some (some b, ex) ∧ n = rows.length ∧ rdL H rows.flatten us ∧ (∀ r ∈ rows, r.length = sz) ∧ jk.length = ex * sz ∧ n + ex ≤ maxLen ∧ 0 < sz) ∨ (sg = [] ∧ V gp t0 = some (none, 0) ∧ n = 0 ∧ rows = []) := by
  obtain ⟨s1, s2, rfl, h1, rfl⟩ := h
  rcases h1 with ⟨b, ob, ex, rfl, h2, us, j, h3, h4, h5, rfl, h6, h7, h8⟩ | ⟨rfl, h2, e', sz', h3, _⟩
  · exact .inl ⟨b, us, j, ex, rfl, h2, h3, h4, h5, h6, h7, h8⟩
  · simp only [XO.row.injEq] at h3
    exact .inr ⟨rfl, h2, h3.1, h3.2.1⟩
theorem LS.iq {t : TypeId} {o iv : Operand} {ki : IntKind} {jv : Int} {e sz by_ gp t0 n c e' m : Nat} {rows : List (List D)} (j : Nat)
    (ho : xev Er o = some (.a (.c (.l gp t0 sz 0 n c)))) (hi : xev Er iv = some (xv (.int ki jv))) (ht : T.bt.get t = some (.sl e sz by_)) (hj : jv = (j : Int)) (hlt : j < n) (hm : n = m) :
    LS P pk ops { dst := d, op := .indexAddr t o iv, type := ty, pos := pos, after := af, guard := none } Er [⟨gp, t0, .row m rows e' sz⟩] nx nx (fun x fp' => x = .a (.c (.q gp t0 sz j 0)) ∧ fp' = [⟨gp, t0, .row m rows e' sz⟩]) := by
  subst hm
  intro w0 N Q rest env own H V sg hl hV htp hf hd _ hh
  obtain ⟨v, h1, h2⟩ := hl.lks _ _ ho
  obtain ⟨w, h3, h4⟩ := hl.lks _ _ hi
  have := bD h4; subst this
  simp only [XV.rel, XA.rel, XC.rel] at h2
  obtain ⟨b, ex, h5, rfl⟩ := h2
  obtain ⟨z, hS⟩ := cM (BT.all_get T.ok ht)
  rcases HRr hV with ⟨b', us, jk, ex', _, h6, _⟩ | ⟨_, _, h6, _⟩
  · rw [h5] at h6
    cases h6
    rw [Option.map_some, Nat.zero_mul] at h1
    refine Qg j h1 h3 hj hlt hd (hh _ _ _ V H _ ⟨rfl, rfl⟩ ?_ hV htp (VX.refl _ _ _) (Le.refl _))
    simp only [XV.rel, XA.rel, XC.rel]
    exact ⟨b', _, h5, by rw [Nat.zero_add, Nat.add_zero]⟩
  · omega
theorem LS.lr {tt : TypeId} {y : Operand} {ti : TI} {gp t0 sz j o n e : Nat} {rows : List (List D)} {r : List D} {u : XV} (hr : rows[j]? = some r) (hy : xev Er y = some (.a (.c (.q gp t0 sz j o)))) (ht : T.bt.get tt = some ti) (hn : (ti.agg || Nat.beq ti.n 1) = true) (hu : il (r.drop o) ti.agg ti.n = some u) :
    LS P pk ops { dst := d, op := .load tt y, type := ty, pos := pos, after := af, guard := none } Er [⟨gp, t0, .row n rows e sz⟩] nx nx (fun x fp' => x = u ∧ fp' = [⟨gp, t0, .row n rows e sz⟩]) := by
  intro w0 N Q rest env own H V sg hl hV htp hf hd _ hh
  obtain ⟨v, h1, h2⟩ := hl.lks _ _ hy
  simp only [XV.rel, XA.rel, XC.rel] at h2
  obtain ⟨b, ex, h5, rfl⟩ := h2
  have htk := BT.all_get T.ok ht
  have hty := ej htk
  rcases HRr hV with ⟨b', us, jk, ex', rfl, h6, h7, h8, h9, _⟩ | ⟨_, _, _, h6⟩
  · rw [h5] at h6
    cases h6
    obtain ⟨v1, vs, v2, rfl, k1, k2, k3, _⟩ := row_at h8 h9 hr
    have hc : ∀ (q : Nat) (v : Value), vs[q]? = some v → (((v1 ++ (vs ++ v2)) ++ jk).toArray.toList)[j * sz + q]? = some v := fun q v hq => by
      simp only [List.append_assoc]
      rw [List.getElem?_append_right (by omega), k1, Nat.add_sub_cancel_left, List.getElem?_append_left (List.getElem?_eq_some_iff.1 hq).1]
      exact hq
    have fin : ∀ v, u.rel V H v → TL P w0 N Q ops rest (ab d v env) ([(b, .cells ((v1 ++ (vs ++ v2)) ++ jk).toArray e (0, 0))] :: own) H := fun v hv => hh v u _ V H _ ⟨rfl, rfl⟩ hv hV htp (VX.refl _ _ _) (Le.refl _)
    cases ha : ti.agg with
    | true =>
      rw [ha] at hu hty
      simp only [il] at hu
      split at hu
      · rename_i ds hs
        cases hu
        obtain ⟨rfl, e1⟩ := gQ hs
        rw [Nat.zero_add, List.length_drop, k2.len] at e1
        refine Qb 0 0 ((vs.drop o).take ti.n) h1 rfl rfl (lT fun q v hv => ?_) (by rw [List.length_take, List.length_drop]; omega) hd (fin _ ⟨_, rfl, ?_⟩)
        · rw [List.getElem?_take] at hv
          split at hv
          · rw [List.getElem?_drop] at hv
            have := hc (o + q) v hv
            rwa [← Nat.add_assoc] at this
          · cases hv
        · have key : ∀ {m : Nat} {a : List D} {c : List Value}, rdL H a c → rdL H (a.drop m) (c.drop m) := by
            intro m
            induction m with
            | zero => intro a c h; exact h
            | succ m ih => intro a c h; cases a with
              | nil => cases c with
                | nil => exact h
                | cons => exact h.elim
              | cons => cases c with
                | nil => exact h.elim
                | cons => exact ih h.2
          simpa using (key (m := o) k2).take (n := ti.n)
      · cases hu
    | false =>
      rw [ha] at hu hty hn
      have e1 : ti.n = 1 := Nat.eq_of_beq_eq_true (by simpa using hn)
      rw [e1] at hty
      simp only [il] at hu
      split at hu
      · rename_i z zs hd2
        cases hu
        have key : ∀ {m : Nat} {a : List D} {c : List Value} {y : D} {ys : List D}, rdL H a c → a.drop m = y :: ys → ∃ v, c[m]? = some v ∧ rd H y v := by
          intro m
          induction m with
          | zero => intro a c y ys h he; cases c with
            | nil => simp only [List.drop_zero] at he; subst he; exact h.elim
            | cons v c => simp only [List.drop_zero] at he; subst he; exact ⟨v, rfl, h.1⟩
          | succ m ih => intro a c y ys h he; cases a with
            | nil => simp at he
            | cons => cases c with
              | nil => exact h.elim
              | cons => exact ih h.2 (by simpa using he)
        obtain ⟨v, e2, e3⟩ := key k2 hd2
        exact Qf 0 0 h1 rfl rfl (by rw [cR]; exact hc o v e2) hd (fin _ (by simp only [XV.rel, XA.rel, XC.rel]; exact e3))
      · cases hu
  · subst h6; simp at hr
def setR (rows : List (List D)) (j o : Nat) (ds : List D) : List (List D) := match rows[j]? with
  | some r => rows.set j (r.take o ++ (ds ++ r.drop (o + ds.length)))
  | none => rows
theorem LS.sr {tt : TypeId} {y z : Operand} {ti : TI} {gp t0 sz j o n e : Nat} {rows : List (List D)} {r ds : List D} {u : XA} (hr : rows[j]? = some r) (hy : xev Er y = some (.a (.c (.q gp t0 sz j o)))) (hz : xev Er z = some (.a u)) (hds : gM u.cells = some ds) (ht : T.bt.get tt = some ti) (hn : ds.length = ti.n) (hb : Nat.ble (o + ds.length) sz = true) :
    LS P pk ops { dst := d, op := .store tt y z, type := ty, pos := pos, after := af, guard := none } Er [⟨gp, t0, .row n rows e sz⟩] nx nx (fun x fp' => x = .u ∧ fp' = [⟨gp, t0, .row n (setR rows j o ds) e sz⟩]) := by
  intro w0 N Q rest env own H V sg hl hV htp hf hd _ hh
  obtain ⟨v, h1, h2⟩ := hl.lks _ _ hy
  obtain ⟨w, h3, h4⟩ := hl.lks _ _ hz
  simp only [XV.rel, XA.rel, XC.rel] at h2
  obtain ⟨b, ex, h5, rfl⟩ := h2
  have htk := BT.all_get T.ok ht
  have hty := ej htk
  have hcell := XA.cells_ok h4
  have hdv := cD hds hcell
  have hb := Nat.le_of_ble_eq_true hb
  have hlen := hdv.len
  rcases HRr hV with ⟨b', us, jk, ex', rfl, h6, h7, h8, h9, q1, q2, q3⟩ | ⟨_, _, _, h6⟩
  · rw [h5] at h6
    cases h6
    obtain ⟨v1, vs, v2, rfl, k1, k2, k3, k4, k5⟩ := row_at h8 h9 hr
    have hrl : r.length = sz := by rw [k2.len, k3]
    obtain ⟨a1, a2, rfl, b1, b2⟩ := rdL.split (ds := r.take o) (es := r.drop o) (by rw [List.take_append_drop]; exact k2)
    have hl1 : a1.length = o := by rw [← b1.len, List.length_take]; omega
    obtain ⟨a3, a4, rfl, b3, b4⟩ := rdL.split (ds := (r.drop o).take ds.length) (es := (r.drop o).drop ds.length) (by rw [List.take_append_drop]; exact b2)
    have hl3 : a3.length = ds.length := by rw [← b3.len, List.length_take, List.length_drop]; omega
    have hput : ba ((v1 ++ ((a1 ++ (a3 ++ a4)) ++ v2)) ++ jk).toArray (j * sz + o) w.cells.toList = ((v1 ++ ((a1 ++ (w.cells.toList ++ a4)) ++ v2)) ++ jk).toArray := by
      rw [← Array.toList_inj, putC_at _ _ _ (by rw [← hlen]; simp only [List.size_toArray, List.length_append]; omega)]
      have e1 : ((v1 ++ ((a1 ++ (a3 ++ a4)) ++ v2)) ++ jk) = (v1 ++ a1) ++ (a3 ++ (a4 ++ (v2 ++ jk))) := by simp
      have e2 : (v1 ++ a1).length = j * sz + o := by rw [List.length_append]; omega
      simp only [e1]
      rw [List.take_append_of_le_length (by omega), List.take_of_length_le (by omega), List.drop_append, List.drop_of_length_le (l := v1 ++ a1) (by omega)]
      rw [show j * sz + o + w.cells.toList.length - (v1 ++ a1).length = a3.length by omega, List.drop_append, List.drop_of_length_le (Nat.le_refl _)]
      simp
    have aF : setR rows j o ds = rows.set j (r.take o ++ (ds ++ (r.drop o).drop ds.length)) := by
      rw [setR, hr, List.drop_drop]
    have hjl : j < rows.length := (List.getElem?_eq_some_iff.1 hr).1
    have hfl : (setR rows j o ds).flatten = (rows.take j).flatten ++ ((r.take o ++ (ds ++ (r.drop o).drop ds.length)) ++ (rows.drop (j + 1)).flatten) := by
      rw [aF, List.set_eq_take_append_cons_drop, if_pos hjl, List.flatten_append, List.flatten_cons]
    refine TL.store 0 0 h1 h3 rfl rfl (vs := w.cells.toList) (by simp) (by rw [← hlen, hn]) hcell.ones (by rw [← hlen]; simp only [List.size_toArray, List.length_append]; omega) hput rfl hd ?_
    refine hh undef .u _ V H _ ⟨rfl, rfl⟩ rfl (HR.one (.inl ⟨_, _, ex, rfl, h5, _, jk, ?_, ?_, ?_, rfl, q1, q2, q3⟩)) ?_ (VX.refl _ _ _) (Le.refl _)
    · rw [aF, List.length_set]; exact h7
    · rw [hfl]
      exact rdL.append k4 (rdL.append (rdL.append b1 (rdL.append hdv b4)) k5)
    · intro q hq
      rw [aF] at hq
      rcases List.mem_or_eq_of_mem_set hq with hq | rfl
      · exact h9 q hq
      · simp only [List.length_append, List.length_take, List.length_drop]; omega
    · intro y hy' t hlt
      obtain rfl := List.mem_singleton.1 hy'
      exact htp _ (List.mem_singleton.2 rfl) t hlt
  · subst h6; simp at hr
theorem LS.pop {t : TypeId} {o iv : Operand} {ki : IntKind} {jv : Int} {e sz by_ gp t0 n c e' m : Nat} {rows : List (List D)} (j : Nat)
    (ho : xev Er o = some (.a (.c (.l gp t0 sz 0 n c)))) (hi : xev Er iv = some (xv (.int ki jv))) (ht : T.bt.get t = some (.sl e sz by_)) (hj : jv = (j : Int)) (hlt : j ≤ n) (hm : n = m) (hc : c = m) :
    LS P pk ops { dst := d, op := .slice t o none (some iv) none, type := ty, pos := pos, after := af, guard := none } Er [⟨gp, t0, .row m rows e' sz⟩] nx nx (fun x fp' => x = .a (.c (.l gp (t0 + 1) sz 0 j j)) ∧ fp' = [⟨gp, t0 + 1, .row j (rows.take j) e' sz⟩]) := by
  subst hm hc
  intro w0 N Q rest env own H V sg hl hV htp hf hd _ hh
  obtain ⟨v, h1, h2⟩ := hl.lks _ _ ho
  obtain ⟨w, h3, h4⟩ := hl.lks _ _ hi
  have := bD h4; subst this
  simp only [XV.rel, XA.rel, XC.rel] at h2
  obtain ⟨b, ex, h5, rfl⟩ := h2
  obtain ⟨z, hS⟩ := cM (BT.all_get T.ok ht)
  have hnone : V gp (t0 + 1) = none := htp _ (List.mem_singleton.2 rfl) (t0 + 1) (by show t0 < _; omega)
  have htop : ∀ i, Top (V.new gp (t0 + 1) i) [⟨gp, t0 + 1, .row j (rows.take j) e' sz⟩] := fun i y hy t hlt => by
    obtain rfl := List.mem_singleton.1 hy
    rw [Vn.new_ne]
    · exact htp _ (List.mem_singleton.2 rfl) t (by simp only at hlt ⊢; omega)
    · rintro ⟨_, h⟩; simp only at hlt; omega
  have hvx : ∀ i, VX V (V.new gp (t0 + 1) i) [⟨gp, t0, .row c rows e' sz⟩] nx nx := fun i => ⟨Vn.new_le _ hnone, fun h t k1 k2 => by
    by_cases e9 : h = gp ∧ t = t0 + 1
    · exact .inr (by simp [names, e9.1])
    · rw [Vn.new_ne _ _ e9] at k2; exact absurd k1 k2⟩
  rcases HRr hV with ⟨b', us, jk, ex', rfl, h6, h7, h8, h9, q1, q2, q3⟩ | ⟨rfl, h6, h7, h8⟩
  · rw [h5] at h6
    cases h6
    rw [Option.map_some, Nat.zero_mul] at h1
    have hlen : (rows.take j).length = j := by rw [List.length_take]; omega
    have hA : (if c + ex = 0 then some (⟨b', 0, none⟩ : Addr) else (some ⟨b', 0, none⟩ : Option Addr).map (·.add (0 * sz))) = some ⟨b', 0, none⟩ := by split <;> simp [Addr.add]
    refine TL.slice (li := none) (ri := some jv) 0 j h1 rfl ⟨ki, jv, rfl, h3⟩ rfl hj (Nat.zero_le _) (by omega) hd ?_
    rw [hA, Nat.sub_zero, Nat.sub_zero]
    obtain ⟨v1, v2, e1, e2, e3⟩ := rdL.split (ds := (rows.take j).flatten) (es := (rows.drop j).flatten) (by rw [← List.flatten_append, List.take_append_drop]; exact h8)
    subst e1
    have hv2 : v2.length = (c - j) * sz := by
      rw [← e3.len]
      have key : ∀ {q : List (List D)}, (∀ r ∈ q, r.length = sz) → q.flatten.length = q.length * sz := by
        intro q
        induction q with
        | nil => intro _; simp
        | cons a q ih => intro h; rw [List.flatten_cons, List.length_append, h a (List.mem_cons_self ..), ih (fun r hr => h r (List.mem_cons_of_mem _ hr)), List.length_cons, Nat.add_mul]; omega
      rw [key (fun r hr => h9 r (List.mem_of_mem_drop hr)), List.length_drop, ← h7]
    refine hh _ _ _ (V.new gp (t0 + 1) (some b', (c - j) + ex)) H _ ⟨rfl, rfl⟩ ?_ (HR.one (.inl ⟨b', _, _, rfl, Vn.new_at .., v1, v2 ++ jk, hlen.symm, e2, fun r hr => h9 r (List.mem_of_mem_take hr), by rw [List.append_assoc], ?_, by omega, q3⟩)) (htop _) (hvx _) (Le.refl _)
    · simp only [XV.rel, XA.rel, XC.rel]
      exact ⟨some b', _, Vn.new_at .., by rw [Option.map_some, Nat.zero_mul, show j + (c - j + ex) = c + ex by omega]⟩
    · rw [List.length_append, hv2, q1, Nat.add_mul]
  · rw [h5] at h6
    cases h6
    subst h7 h8
    have hj0 : j = 0 := by omega
    subst hj0
    refine TL.slice (li := none) (ri := some jv) 0 0 h1 rfl ⟨ki, jv, rfl, h3⟩ rfl hj (Nat.le_refl _) (Nat.zero_le _) hd ?_
    have hsz : 0 < sz := hS.pos
    refine hh _ _ _ (V.new gp (t0 + 1) (none, 0)) H _ ⟨rfl, rfl⟩ ?_ (HR.one (.inr ⟨rfl, Vn.new_at .., e', sz, by simp, hsz⟩)) (htop _) (hvx _) (Le.refl _)
    simp only [XV.rel, XA.rel, XC.rel]
    exact ⟨none, 0, Vn.new_at .., by simp⟩
def bndI (Er : XE) : Option Operand → Option Int → Prop
  | none, r => r = none
  | some y, r => ∃ ki n, r = some n ∧ xev Er y = some (xv (.int ki n))
theorem bndI_ok {V : Vn} {H : Hp} {env : Env} (hl : Lk V H env Er) : ∀ {o : Option Operand} {r : Option Int}, bndI Er o r → optI env o r
  | none, _, h => h
  | some y, _, ⟨ki, n, h1, h2⟩ => by
    obtain ⟨w, h3, h4⟩ := hl.lks _ _ h2
    have := bD h4; subst this
    exact ⟨ki, n, h1, h3⟩
theorem LS.sd {t : TypeId} {o : Operand} {lo hi : Option Operand} {li ri : Option Int} {e sz by_ : Nat} {rows : List (List D)} (a b : Nat)
    (ho : xev Er o = some (.a (.c (.d (.s rows))))) (h1 : bndI Er lo li) (h2 : bndI Er hi ri) (ht : T.bt.get t = some (.sl e sz by_)) (ha : li.getD 0 = (a : Int)) (hb : ri.getD (rows.length : Int) = (b : Int)) (hab : a ≤ b) (hbl : b ≤ rows.length) (hsz : ∀ r ∈ rows, r.length = sz) :
    LS P pk ops { dst := d, op := .slice t o lo hi none, type := ty, pos := pos, after := af, guard := none } Er [] nx nx (fun x fp' => x = .a (.c (.d (.s ((rows.drop a).take (b - a))))) ∧ fp' = []) := by
  intro w0 N Q rest env own H V sg hl hV htp hf hd _ hh
  obtain ⟨v, h3, h4⟩ := hl.lks _ _ ho
  simp only [XV.rel, XA.rel, XC.rel, rd] at h4
  obtain ⟨A, c, sz', rfl, h5, h6, h7⟩ := h4
  obtain ⟨z, hS⟩ := cM (BT.all_get T.ok ht)
  refine TL.slice a b h3 (bndI_ok hl h1) (bndI_ok hl h2) ha hb hab (by omega) hd (hh _ _ _ V H _ ⟨rfl, rfl⟩ ?_ hV htp (VX.refl _ _ _) (Le.refl _))
  simp only [XV.rel, XA.rel, XC.rel, rd]
  refine ⟨_, c - a, sz, by rw [show ((rows.drop a).take (b - a)).length = b - a by rw [List.length_take, List.length_drop]; omega], by rw [List.length_take, List.length_drop]; omega, by omega, ?_⟩
  by_cases h8 : (rows.drop a).take (b - a) = []
  · exact .inl h8
  · right
    rcases h7 with h7 | ⟨b', q, rfl, h7⟩
    · subst h7; simp at h8
    · have hne : rows ≠ [] := fun e => by rw [e] at h8; simp at h8
      have hal : a < rows.length := by
        rcases Nat.lt_or_ge a rows.length with h | h
        · exact h
        · rw [List.drop_of_length_le h] at h8; simp at h8
      have hszz : sz' = sz := by
        obtain ⟨r, hr⟩ : ∃ r, rows[a]? = some r := ⟨_, List.getElem?_eq_getElem hal⟩
        rw [← (h7.get hr).1]
        exact hsz r (List.mem_of_getElem? hr)
      subst hszz
      rw [if_neg (by omega), Option.map_some, bB]
      exact ⟨b', _, rfl, (h7.drop).take⟩
theorem LS.mk {t : TypeId} {y z : Operand} {kl kc : IntKind} {jl : Int} {e sz by_ : Nat} (n : Nat) (dz : List D) (hy : xev Er y = some (xv (.int kl jl))) (hz : xev Er z = some (xv (.int kc jl))) (ht : T.bt.get t = some (.sl e sz by_)) (hj : jl = (n : Int)) (hb : by_ * n ≤ 281474976710656) (hm : n ≤ 9223372036854775807)
    (hzero : ∀ z : Value, Sl P t e sz by_ z → ∀ H, rdL H dz z.cells.toList) :
    LS P pk ops { dst := d, op := .makeSlice t y z, type := ty, pos := pos, after := af, guard := none } Er [] nx (nx + 1) (fun x fp' => x = .a (.c (.l nx 0 sz 0 n n)) ∧ fp' = [⟨nx, 0, .row n (List.replicate n dz) e sz⟩]) := by
  intro w0 N Q rest env own H V sg hl hV htp hf hd _ hh
  obtain ⟨v, h1, h2⟩ := hl.lks _ _ hy
  have := bD h2; subst this
  obtain ⟨w, h3, h4⟩ := hl.lks _ _ hz
  have := bD h4; subst this
  obtain ⟨zv, hS⟩ := cM (BT.all_get T.ok ht)
  have hzc := hzero zv hS
  have hzs : zv.cells.toList.length = sz := by simpa using hS.zs
  obtain rfl := HR0 hV
  refine TL.makeSlice n h1 h3 hj hb hm hd fun gn => ?_
  have hdl : dz.length = sz := by rw [(hzc H).len, hzs]
  have hmade : madeCells zv.cells (n * sz) = ((List.replicate n zv.cells.toList).flatten ++ []).toArray := by
    rw [List.append_nil]
    refine Array.ext_getElem? fun q => ?_
    simp only [madeCells, List.getElem?_toArray]
    have key : ∀ (n q : Nat), (List.replicate n zv.cells.toList).flatten[q]? = if q < n * sz then some (zv.cells.getD (q % sz) undef) else none := by
      intro n
      induction n with
      | zero => intro q; simp
      | succ n ih =>
        intro q
        rw [List.replicate_succ, List.flatten_cons]
        by_cases hq : q < sz
        · rw [List.getElem?_append_left (by omega), if_pos (by rw [Nat.add_mul]; omega), Nat.mod_eq_of_lt hq]
          simp [Array.getD_eq_getD_getElem?, show q < zv.cells.size from by simpa using (hzs ▸ hq : q < zv.cells.toList.length)]
        · rw [List.getElem?_append_right (by omega), hzs, ih]
          have e1 : (q - sz < n * sz) ↔ (q < (n + 1) * sz) := by rw [Nat.add_mul]; omega
          have e2 : (q - sz) % sz = q % sz := (Nat.mod_eq_sub_mod (by omega)).symm
          simp only [e1, e2]
    rw [key]
    by_cases hq : q < n * sz
    · have hlt : q % sz < zv.cells.size := by rw [hS.zs]; exact Nat.mod_lt _ hS.pos
      simp only [hq, hS.zs, if_true, Array.getElem?_ofFn, Array.getD_eq_getD_getElem?]
      simp [hq, hlt]
    · simp [hq]
  rw [hmade]
  obtain ⟨f1, f2, f3⟩ := cU (V := V) (H := H) (nx := nx) (g := gn) (ex := 0) (o := .cells ((List.replicate n zv.cells.toList).flatten ++ []).toArray e (0, 0)) (xo := .row n (List.replicate n dz) e sz) hf ⟨(List.replicate n zv.cells.toList).flatten, [], by simp, by
      have key : ∀ n : Nat, rdL H (List.replicate n dz).flatten (List.replicate n zv.cells.toList).flatten := by
        intro n
        induction n with
        | zero => exact trivial
        | succ n ih => rw [List.replicate_succ, List.replicate_succ, List.flatten_cons, List.flatten_cons]; exact rdL.append (hzc H) ih
      exact key n, fun r hr => by rw [(List.mem_replicate.1 hr).2, hdl], rfl, by simp, by simpa [maxLen] using hm, hS.pos⟩
  exact TL.flat (own' := [(gn, .cells ((List.replicate n zv.cells.toList).flatten ++ []).toArray e (0, 0))] :: own) (List.Perm.refl _) (hh _ _ _ _ H _ ⟨rfl, rfl⟩ (by
    simp only [XV.rel, XA.rel, XC.rel]
    exact ⟨some gn, 0, Vn.new_at .., by simp⟩) f1 f2 f3 (Le.refl _))
theorem LS.subw {tx t' : TypeId} {y z : Operand} {ki : IntKind} {m n : Int} (hy : xev Er y = some (xv (.int ki m))) (hz : xev Er z = some (xv (.int ki n))) :
    LS P pk ops { dst := d, op := .binOp .sub tx y z t', type := ty, pos := pos, after := af, guard := none } Er [] nx nx (fun x fp' => x = xv (.int ki (ki.wrap (m - n))) ∧ fp' = []) := by
  intro w0 N Q rest env own H V sg hl hV htp hf hd _ hh
  obtain ⟨v, h1, h2⟩ := hl.lks _ _ hy
  have := bD h2; subst this
  obtain ⟨w, h3, h4⟩ := hl.lks _ _ hz
  have := bD h4; subst this
  exact TL.subW h1 h3 hd (hh _ _ _ V H _ ⟨rfl, rfl⟩ (by simp only [XV.rel, XA.rel, XC.rel, rd]; exact ⟨trivial, rfl⟩) hV htp (VX.refl _ _ _) (Le.refl _))
end
section
variable {P : Program} {x : Cx P} {T : Tb P} {k : List Fr} {E Er : XE} {hp hp' : XH} {nx i : Nat} {ops : List Oper} {dm : Option (List Rc)} {l : List (Nat × Oper)} {d : Tmp} {dd : Option Tmp} {ty : TypeId} {pos : String} {af : Array Edge} {g : Option (Nat × Bool)}
variable {t : TypeId} {o iv y z : Operand} {ki : IntKind} {jv : Int} {e sz by_ gp t0 n c e' m : Nat} {rows : List (List D)} {ti : TI} {r ds : List D}
theorem Iq (j : Nat) (ho : xev Er o = some (.a (.c (.l gp t0 sz 0 n c)))) (hEr : vis dm ops { dst := some d, op := .indexAddr t o iv, type := ty, pos := pos, after := af, guard := g } E = Er) (hi : xev Er iv = some (xv (.int ki jv))) (hg : ah hp gp = some ⟨gp, t0, .row m rows e' sz⟩) (ht : T.bt.get t = some (.sl e sz by_)) (hb : ax ops Er g = some true ∧ okD x.N (some d) = true) (hj : jv = (j : Int)) (hlt : j < n) (hm : n = m)
    (hk : (MS.r ops (bE dm ⟨i, [gp], false, false⟩) l k ⟨(d, .a (.c (.q gp t0 sz j 0))) :: E, hp, nx⟩).ok x) (hdk : DkM dm ops ⟨i, [gp], false, false⟩ := by first | exact trivial | (refine DK.mk ?_; decide +kernel)) : (MS.r ops dm ((i, { dst := some d, op := .indexAddr t o iv, type := ty, pos := pos, after := af, guard := g }) :: l) k ⟨E, hp, nx⟩).ok x :=
  MS.rd1 hg hEr hb (LS.iq (T := T) j ho hi ht hj hlt hm) hdk hk
theorem Lr {j q : Nat} {u : XV} (hr : rows[j]? = some r) (hEr : vis dm ops { dst := some d, op := .load t y, type := ty, pos := pos, after := af, guard := g } E = Er) (hy : xev Er y = some (.a (.c (.q gp t0 sz j q)))) (hg : ah hp gp = some ⟨gp, t0, .row m rows e sz⟩) (ht : T.bt.get t = some ti) (hb : ax ops Er g = some true ∧ okD x.N (some d) = true) (hn : (ti.agg || Nat.beq ti.n 1) = true) (hu : il (r.drop q) ti.agg ti.n = some u)
    (hk : (MS.r ops (bE dm ⟨i, [gp], false, false⟩) l k ⟨(d, u) :: E, hp, nx⟩).ok x) (hdk : DkM dm ops ⟨i, [gp], false, false⟩ := by first | exact trivial | (refine DK.mk ?_; decide +kernel)) : (MS.r ops dm ((i, { dst := some d, op := .load t y, type := ty, pos := pos, after := af, guard := g }) :: l) k ⟨E, hp, nx⟩).ok x :=
  MS.rd1 hg hEr hb (LS.lr (T := T) hr hy ht hn hu) hdk hk
theorem Sr {j q : Nat} {u : XA} (hr : rows[j]? = some r) (hEr : vis dm ops { dst := dd, op := .store t y z, type := ty, pos := pos, after := af, guard := g } E = Er) (hy : xev Er y = some (.a (.c (.q gp t0 sz j q)))) (hz : xev Er z = some (.a u)) (hds : gM u.cells = some ds) (hg : ah hp gp = some ⟨gp, t0, .row m rows e sz⟩) (hset' : aF hp gp t0 (.row m (setR rows j q ds) e sz) = some hp') (ht : T.bt.get t = some ti) (hb : ax ops Er g = some true ∧ okD x.N dd = true) (hn : ds.length = ti.n) (hq : Nat.ble (q + ds.length) sz = true)
    (hk : (MS.r ops (bE dm ⟨i, [gp], true, false⟩) l k ⟨bl dd .u E, hp', nx⟩).ok x) (hdk : DkM dm ops ⟨i, [gp], true, false⟩ := by first | exact trivial | (refine DK.mk ?_; decide +kernel)) : (MS.r ops dm ((i, { dst := dd, op := .store t y z, type := ty, pos := pos, after := af, guard := g }) :: l) k ⟨E, hp, nx⟩).ok x :=
  MS.wr1 hg hset' hEr hb (LS.sr (T := T) hr hy hz hds ht hn hq) hdk hk
theorem Po (j : Nat) (ho : xev Er o = some (.a (.c (.l gp t0 sz 0 n c)))) (hEr : vis dm ops { dst := some d, op := .slice t o none (some iv) none, type := ty, pos := pos, after := af, guard := g } E = Er) (hi : xev Er iv = some (xv (.int ki jv))) (hg : ah hp gp = some ⟨gp, t0, .row m rows e' sz⟩) (hset' : aF hp gp (t0 + 1) (.row j (rows.take j) e' sz) = some hp') (ht : T.bt.get t = some (.sl e sz by_)) (hb : ax ops Er g = some true ∧ okD x.N (some d) = true) (hj : jv = (j : Int)) (hlt : j ≤ n) (hm : n = m) (hc : c = m)
    (hk : (MS.r ops (bE dm ⟨i, [gp], true, false⟩) l k ⟨(d, .a (.c (.l gp (t0 + 1) sz 0 j j))) :: E, hp', nx⟩).ok x) (hdk : DkM dm ops ⟨i, [gp], true, false⟩ := by first | exact trivial | (refine DK.mk ?_; decide +kernel)) : (MS.r ops dm ((i, { dst := some d, op := .slice t o none (some iv) none, type := ty, pos := pos, after := af, guard := g }) :: l) k ⟨E, hp, nx⟩).ok x :=
  MS.wr1 hg hset' hEr hb (LS.pop (T := T) j ho hi ht hj hlt hm hc) hdk hk
theorem Sd {lo hi : Option Operand} {li ri : Option Int} (a b : Nat) (h1 : bndI Er lo li) (h2 : bndI Er hi ri) (hEr : vis dm ops { dst := some d, op := .slice t o lo hi none, type := ty, pos := pos, after := af, guard := g } E = Er) (ho : xev Er o = some (.a (.c (.d (.s rows))))) (ht : T.bt.get t = some (.sl e sz by_)) (hb : ax ops Er g = some true ∧ okD x.N (some d) = true) (ha : li.getD 0 = (a : Int)) (hbn : ri.getD (rows.length : Int) = (b : Int)) (hab : a ≤ b) (hbl : b ≤ rows.length) (hsz : ∀ r ∈ rows, r.length = sz)
    (hk : (MS.r ops (bE dm ⟨i, [], false, false⟩) l k ⟨(d, .a (.c (.d (.s ((rows.drop a).take (b - a)))))) :: E, hp, nx⟩).ok x) (hdk : DkM dm ops ⟨i, [], false, false⟩ := by first | exact trivial | (refine DK.mk ?_; decide +kernel)) : (MS.r ops dm ((i, { dst := some d, op := .slice t o lo hi none, type := ty, pos := pos, after := af, guard := g }) :: l) k ⟨E, hp, nx⟩).ok x :=
  MS.val hEr hb (LS.sd (T := T) a b ho h1 h2 ht ha hbn hab hbl hsz) hdk hk
theorem Sw {tx t' : TypeId} {m n : Int} (hy : xev Er y = some (xv (.int ki m))) (hz : xev Er z = some (xv (.int ki n))) (hEr : vis dm ops { dst := some d, op := .binOp .sub tx y z t', type := ty, pos := pos, after := af, guard := g } E = Er) (hb : ax ops Er g = some true ∧ okD x.N (some d) = true)
    (hk : (MS.r ops (bE dm ⟨i, [], false, false⟩) l k ⟨(d, xv (.int ki (ki.wrap (m - n)))) :: E, hp, nx⟩).ok x) (hdk : DkM dm ops ⟨i, [], false, false⟩ := by first | exact trivial | (refine DK.mk ?_; decide +kernel)) : (MS.r ops dm ((i, { dst := some d, op := .binOp .sub tx y z t', type := ty, pos := pos, after := af, guard := g }) :: l) k ⟨E, hp, nx⟩).ok x :=
  MS.val hEr hb (LS.subw hy hz) hdk hk
theorem Mz {jl : Int} {kl kc : IntKind} (n : Nat) (dz : List D) (hy : xev Er y = some (xv (.int kl jl))) (hz : xev Er z = some (xv (.int kc jl))) (hEr : vis dm ops { dst := some d, op := .makeSlice t y z, type := ty, pos := pos, after := af, guard := g } E = Er) (ht : T.bt.get t = some (.sl e sz by_)) (hb : ax ops Er g = some true ∧ okD x.N (some d) = true) (hj : jl = (n : Int)) (hbn : by_ * n ≤ 281474976710656) (hm : n ≤ 9223372036854775807) (hzero : ∀ z : Value, Sl P t e sz by_ z → ∀ H, rdL H dz z.cells.toList)
    (hk : (MS.r ops (bE dm ⟨i, [nx], true, false⟩) l k ⟨(d, .a (.c (.l nx 0 sz 0 n n))) :: E, ⟨nx, 0, .row n (List.replicate n dz) e sz⟩ :: hp, nx + 1⟩).ok x) (hdk : DkM dm ops ⟨i, [nx], true, false⟩ := by first | exact trivial | (refine DK.mk ?_; decide +kernel)) : (MS.r ops dm ((i, { dst := some d, op := .makeSlice t y z, type := ty, pos := pos, after := af, guard := g }) :: l) k ⟨E, hp, nx⟩).ok x := by
  subst hEr
  have e0 : names ([] : XH) ++ List.range' nx (nx + 1 - nx) = [nx] := by simp [names]
  refine MS.op (fp := []) (rest := hp) true false hb.2 (.refl _) (Nat.le_succ _) (LS.yes (o := { dst := some d, op := .makeSlice t y z, type := ty, pos := pos, after := af, guard := g }) hb.1 (LS.mk (T := T) n dz hy hz ht hj hbn hm hzero)) (by rw [e0]; exact hdk) (fun _ => ⟨_, _, ⟨rfl, rfl⟩, fun _ _ h => h⟩) (fun h => by cases h) ?_
  rintro q fp' ⟨rfl, rfl⟩
  refine ⟨fun b' hb' => .inr ?_, by simp [names], fun h => (by cases h), _, .refl _, ?_⟩
  · obtain rfl := List.mem_singleton.1 hb'
    exact ⟨Nat.le_refl _, Nat.lt_succ_self _⟩
  · rw [e0]; exact hk
end
theorem HR.cset {V : Vn} {H : Hp} {Pw : Value → Prop} {g o t e : Nat} {c : List XC} : ∀ {hp : XH} {sg : Seg}, ah hp g = some ⟨g, t, .cells c e⟩ → at_ c o = some (.w Pw) → HR V H hp sg → ∃ v, v.oneCell' = true ∧ Pw v ∧ ∀ c' hp', co c o [.d (.c v)] = some c' → aF hp g t (.cells c' e) = some hp' → HR V H hp' sg ∧ hp'.map (fun b => (b.g, b.t)) = hp.map fun b => (b.g, b.t)
  | [], _, h, _, _ => by cases h
  | ⟨g', t', o'⟩ :: r, sg, h, hc, ⟨s1, s2, h0, h1, h2⟩ => by
    simp only [ah] at h
    cases hb : Nat.beq g' g with
    | true =>
      rw [hb] at h
      simp only [cond_true, Option.some.injEq, XB.mk.injEq] at h
      obtain ⟨rfl, rfl, rfl⟩ := h
      rcases h1 with ⟨b, ob, ex, k1, k2, us, k3, k4⟩ | ⟨_, _, _, _, k3, _⟩
      · obtain ⟨v, q1, q2⟩ := k3.get o _ (ik hc)
        simp only [XC.rel] at q2
        refine ⟨v, q2.1, q2.2, fun c' hp' e1 e2 => ?_⟩
        simp only [aF, hb, cond_true, Option.some.injEq] at e2
        subst e2
        refine ⟨⟨s1, s2, h0, .inl ⟨b, ob, ex, k1, k2, us, ?_, k4⟩, h2⟩, rfl⟩
        have := (dV (us := [v]) e1 k3 ⟨by simp only [XC.rel, rd]; exact ⟨trivial, q2.1⟩, trivial⟩).1
        simp only [ba] at this
        have e9 : (us.toArray.setIfInBounds o v).toList = us := by
          rw [List.setIfInBounds_toArray]
          show us.set o v = us
          have hlt : o < us.length := (List.getElem?_eq_some_iff.1 q1).1
          apply List.ext_getElem?
          intro i
          rw [List.getElem?_set]
          split
          · rename_i e; subst e; first | exact q1.symm | rw [if_pos hlt, q1]
          · rfl
        rw [e9] at this
        exact this
      · cases k3
    | false =>
      rw [hb] at h
      simp only [cond_false] at h
      obtain ⟨v, q1, q2, q3⟩ := HR.cset h hc h2
      refine ⟨v, q1, q2, fun c' hp' e1 e2 => ?_⟩
      simp only [aF, hb, cond_false] at e2
      split at e2
      · rename_i l hl
        cases e2
        obtain ⟨k1, k2⟩ := q3 c' l e1 hl
        exact ⟨⟨s1, s2, h0, h1, k1⟩, by simp only [List.map_cons, k2]⟩
      · cases e2
theorem SR.same {B : Bs} {E : XE} {hp hp' : XH} {nx : Nat} {V : Vn} {H : Hp} {sg : Seg} {env : Env} (hs : SR B ⟨E, hp, nx⟩ V H sg env) (hH : HR V H hp' sg) (hn : hp'.map (fun b => (b.g, b.t)) = hp.map fun b => (b.g, b.t)) : SR B ⟨E, hp', nx⟩ V H sg env := by
  have hmem : ∀ b ∈ hp', ∃ c ∈ hp, c.g = b.g ∧ c.t = b.t := fun b hb => by
    have : (b.g, b.t) ∈ hp.map fun b => (b.g, b.t) := hn ▸ List.mem_map.2 ⟨b, hb, rfl⟩
    obtain ⟨c, hc, e9⟩ := List.mem_map.1 this
    simp only [Prod.mk.injEq] at e9
    exact ⟨c, hc, e9.1, e9.2⟩
  have hnn : names hp' = names hp := by
    have := congrArg (List.map Prod.fst) hn
    simpa [names, List.map_map, Function.comp_def] using this
  refine ⟨hs.lk, hH, fun b hb t ht => ?_, by rw [show names hp' = names hp from hnn]; exact hs.nd, hs.fresh, hs.le, hs.vle, hs.keep, fun b hb => ?_, hs.nxle⟩
  · obtain ⟨c, hc, e1, e2⟩ := hmem b hb
    rw [← e1]; exact hs.top c hc t (by omega)
  · obtain ⟨c, hc, e1, _⟩ := hmem b hb
    rw [← e1]; exact hs.sub c hc
section
variable {P : Program} {x : Cx P} {T : Tb P} {k : List Fr} {E : XE} {hp : XH} {nx : Nat} {Pw : Value → Prop} {c : List XC} {e t : Nat}
theorem Op {q : Code} (g o : Nat) (hg : ah hp g = some ⟨g, t, .cells c e⟩) (hc : at_ c o = some (.w Pw)) (hk : ∀ v, Pw v → ∃ c' hp', co c o [.d (.c v)] = some c' ∧ aF hp g t (.cells c' e) = some hp' ∧ (MS.c q k ⟨E, hp', nx⟩).ok x) : (MS.c q k ⟨E, hp, nx⟩).ok x := fun V H sg env hs => by
  obtain ⟨v, h1, h2, h3⟩ := HR.cset hg hc hs.hr
  obtain ⟨c', hp', e1, e2, e3⟩ := hk v h2
  obtain ⟨k1, k2⟩ := h3 c' hp' e1 e2
  exact e3 V H sg env (hs.same k1 k2)
theorem HR.wk {V : Vn} {H : Hp} {g t e o : Nat} {c c' : List XC} {v : Value} {hp' : XH} (hv : Pw v) (hc : at_ c o = some (.d (.c v))) (hput : co c o [.w Pw] = some c') : ∀ {hp hp' : XH} {sg : Seg}, ah hp g = some ⟨g, t, .cells c e⟩ → aF hp g t (.cells c' e) = some hp' → HR V H hp sg → HR V H hp' sg ∧ hp'.map (fun b => (b.g, b.t)) = hp.map fun b => (b.g, b.t)
  | [], _, _, h, _, _ => by cases h
  | ⟨g', t', o'⟩ :: r, hp', sg, h, hst, ⟨s1, s2, h0, h1, h2⟩ => by
    simp only [ah] at h
    simp only [aF] at hst
    cases hb : Nat.beq g' g with
    | true =>
      rw [hb] at h hst
      simp only [cond_true, Option.some.injEq, XB.mk.injEq] at h hst
      obtain ⟨rfl, rfl, rfl⟩ := h
      subst hst
      rcases h1 with ⟨b, ob, ex, k1, k2, us, k3, k4⟩ | ⟨_, _, _, _, k3, _⟩
      · obtain ⟨u, q1, q2⟩ := k3.get o _ (ik hc)
        simp only [XC.rel, rd] at q2
        obtain ⟨rfl, q3⟩ := q2
        refine ⟨⟨s1, s2, h0, .inl ⟨b, ob, ex, k1, k2, us, ?_, k4⟩, h2⟩, rfl⟩
        have := (dV (us := [u]) hput k3 ⟨by simp only [XC.rel]; exact ⟨q3, hv⟩, trivial⟩).1
        simp only [ba] at this
        have e9 : (us.toArray.setIfInBounds o u).toList = us := by
          rw [List.setIfInBounds_toArray]
          show us.set o u = us
          have hlt : o < us.length := (List.getElem?_eq_some_iff.1 q1).1
          apply List.ext_getElem?
          intro i
          rw [List.getElem?_set]
          split
          · rename_i e; subst e; first | exact q1.symm | rw [if_pos hlt, q1]
          · rfl
        rw [e9] at this
        exact this
      · cases k3
    | false =>
      rw [hb] at h hst
      simp only [cond_false] at h hst
      split at hst
      · rename_i l hl
        cases hst
        obtain ⟨k1, k2⟩ := HR.wk (hp' := hp') hv hc hput h hl h2
        exact ⟨⟨s1, s2, h0, h1, k1⟩, by simp only [List.map_cons, k2]⟩
      · cases hst
theorem SRto.wk {c' : List XC} {v : Value} {hp' : XH} (g o : Nat) (Pw : Value → Prop) (hg : ah hp g = some ⟨g, t, .cells c e⟩) (hc : at_ c o = some (.d (.c v))) (hput : co c o [.w Pw] = some c') (hset' : aF hp g t (.cells c' e) = some hp') (hv : Pw v) : SRto ⟨E, hp, nx⟩ ⟨E, hp', nx⟩ := fun B V H sg env hs => by
  obtain ⟨k1, k2⟩ := HR.wk (hp' := hp') hv hc hput hg hset' hs.hr
  exact ⟨V, hs.same k1 k2⟩
end
abbrev XKp (P : Program) (pk : Pk) (f : FuncId) (args : List XV) (B : XH) (m : Nat) (Ψ : XV → Prop) : Prop := XM P pk f args B m m (fun r hp' => Ψ r ∧ hp' = B)
section
variable {P : Program} {f : FuncId} {fn : Func} {args : List XV} {N m : Nat} {B : XH} {Ψ : XV → Prop}
variable {x : Cx P} {k : List Fr} {E Er : XE} {hp : XH} {nx i : Nat} {ops : List Oper} {dm : Option (List Rc)} {l : List (Nat × Oper)} {d : Option Tmp} {ty : TypeId} {pos : String} {af : Array Edge} {g : Option (Nat × Bool)}
theorem Ck {opd : Operand} {xs : List Operand} {tys : Array TypeId} {fv : XV} {us : List XV} {ps rest : XH} (gs : List Nat) (h : XKp P x.B.pk f args B m Ψ)
    (hEr : vis dm ops { dst := d, op := .call { callee := .value opd, args := xs.toArray, argTypes := tys }, type := ty, pos := pos, after := af, guard := g } E = Er) (hfv : xev Er opd = some fv) (hfn : fnv fv = some (f, [], [])) (hus : fo (xev Er) xs = some us) (hpk : fO gs hp = some (ps, rest))
    (hargs : cos (XVs.ren (muc gs m nx (ps.map (·.t))) args) us = XVs.ren (muc gs m nx (ps.map (·.t))) args) (hfp : ps = bm (muc gs m nx (ps.map (·.t))) B) (hb : (ax ops Er g = some true ∧ names ps = gs) ∧ (okD x.N d && (bc gs && gs.all (fun g => Nat.blt g nx))) = true)
    (hk : ∀ r, Ψ r → (MS.r ops (bE dm ⟨i, gs, false, true⟩) l k ⟨bl d (r.ren (muc gs m nx (ps.map (·.t)))) E, ps ++ rest, nx⟩).ok x)
    (hdk : DkM dm ops ⟨i, gs, false, true⟩ := by first | exact trivial | (refine DK.mk ?_; decide +kernel)) (hrl : RlM dm ops i l := by first | exact trivial | (refine RL.mk ?_; decide +kernel)) :
    (MS.r ops dm ((i, { dst := d, op := .call { callee := .value opd, args := xs.toArray, argTypes := tys }, type := ty, pos := pos, after := af, guard := g }) :: l) k ⟨E, hp, nx⟩).ok x := by
  obtain ⟨hc, hm, hcl, h3⟩ := h
  have e1 : List.range' nx (nx + (m - m) - nx) = [] := by simp
  have e0 : names ps ++ List.range' nx (nx + (m - m) - nx) = gs := by rw [hb.1.2, e1, List.append_nil]
  refine MS.call gs false true h3 hEr hfv hfn hcl hus hpk (SubV.stat hargs) hfp hc ⟨hb.1, ?_⟩ (by rw [e0]; exact hdk) (fun _ r hp' h => ⟨by rw [h.2]; exact hfp.symm, by simp⟩) (fun h => by cases h) (fun _ => hrl) ?_
  · have h2 := hb.2
    simp only [Bool.and_eq_true] at h2 ⊢
    exact ⟨h2.1, h2.2.1, h2.2.2, hm⟩
  · rintro r hp' ⟨hΦ, rfl⟩
    rw [e0, ← hfp, Nat.sub_self, Nat.add_zero]
    exact hk r hΦ
abbrev XS' (P : Program) (pk : Pk) (f : FuncId) (args : List XV) (B : XH) (m : Nat) {α : Type} (I : α → Prop) (R : α → XV) (F : α → XH) : Prop := XM P pk f args B m m (fun r hp' => ∃ a, I a ∧ r = R a ∧ hp' = F a)
theorem Cx' {opd : Operand} {xs : List Operand} {tys : Array TypeId} {fv : XV} {us : List XV} {ps rest : XH} {α : Type} {I : α → Prop} {R : α → XV} {F : α → XH} (gs : List Nat) (X : α → XH) (h : XS' P x.B.pk f args B m I R F)
    (hEr : vis dm ops { dst := d, op := .call { callee := .value opd, args := xs.toArray, argTypes := tys }, type := ty, pos := pos, after := af, guard := g } E = Er) (hfv : xev Er opd = some fv) (hfn : fnv fv = some (f, [], [])) (hus : fo (xev Er) xs = some us) (hpk : fO gs hp = some (ps, rest))
    (hargs : cos (XVs.ren (muc gs m nx (ps.map (·.t))) args) us = XVs.ren (muc gs m nx (ps.map (·.t))) args) (hfp : ps = bm (muc gs m nx (ps.map (·.t))) B) (hb : (ax ops Er g = some true ∧ names ps = gs) ∧ (okD x.N d && (bc gs && gs.all (fun g => Nat.blt g nx))) = true) (hX : ∀ a, bm (muc gs m nx (ps.map (·.t))) (F a) = X a) (hR : ∀ a, pure (R a) = true)
    (hk : ∀ a, I a → (MS.r ops (bE dm ⟨i, gs, true, true⟩) l k ⟨bl d (R a) E, X a ++ rest, nx⟩).ok x)
    (hdk : DkM dm ops ⟨i, gs, true, true⟩ := by first | exact trivial | (refine DK.mk ?_; decide +kernel)) (hrl : RlM dm ops i l := by first | exact trivial | (refine RL.mk ?_; decide +kernel)) :
    (MS.r ops dm ((i, { dst := d, op := .call { callee := .value opd, args := xs.toArray, argTypes := tys }, type := ty, pos := pos, after := af, guard := g }) :: l) k ⟨E, hp, nx⟩).ok x := by
  have e1 : gs ++ List.range' nx (m - m) = gs := by simp
  refine Cm gs h hEr hfv hfn hus hpk hargs hfp hb ?_ (by rw [e1]; exact hdk) hrl
  rintro r hp' ⟨a, hI, rfl, rfl⟩
  rw [e1, hX a, XV.ren_pure (hR a), Nat.sub_self, Nat.add_zero]
  exact hk a hI
theorem Cy {opd : Operand} {xs : List Operand} {tys : Array TypeId} {fv : XV} {us : List XV} {ps rest : XH} {α : Type} {I : α → Prop} {R : α → XV} {F : α → XH} {m' nx' : Nat} {d : Tmp} (gs : List Nat) (R' : α → XV) (X : α → XH) (h : XM P x.B.pk f args B m m' (fun r hp' => ∃ a, I a ∧ r = R a ∧ hp' = F a))
    (hEr : vis dm ops { dst := some d, op := .call { callee := .value opd, args := xs.toArray, argTypes := tys }, type := ty, pos := pos, after := af, guard := g } E = Er) (hfv : xev Er opd = some fv) (hfn : fnv fv = some (f, [], [])) (hus : fo (xev Er) xs = some us) (hpk : fO gs hp = some (ps, rest))
    (hargs : cos (XVs.ren (muc gs m nx (ps.map (·.t))) args) us = XVs.ren (muc gs m nx (ps.map (·.t))) args) (hfp : ps = bm (muc gs m nx (ps.map (·.t))) B) (hb : (ax ops Er g = some true ∧ names ps = gs) ∧ (okD x.N (some d) && (bc gs && gs.all (fun g => Nat.blt g nx))) = true) (hX : ∀ a, bm (muc gs m nx (ps.map (·.t))) (F a) = X a) (hR : ∀ a, (R a).ren (muc gs m nx (ps.map (·.t))) = R' a) (hn : nx + (m' - m) = nx')
    (hk : ∀ a, I a → (MS.r ops (bE dm ⟨i, gs ++ List.range' nx (m' - m), true, true⟩) l k ⟨(d, R' a) :: E, X a ++ rest, nx'⟩).ok x)
    (hdk : DkM dm ops ⟨i, gs ++ List.range' nx (m' - m), true, true⟩ := by first | exact trivial | (refine DK.mk ?_; decide +kernel)) (hrl : RlM dm ops i l := by first | exact trivial | (refine RL.mk ?_; decide +kernel)) :
    (MS.r ops dm ((i, { dst := some d, op := .call { callee := .value opd, args := xs.toArray, argTypes := tys }, type := ty, pos := pos, after := af, guard := g }) :: l) k ⟨E, hp, nx⟩).ok x := by
  refine Cm gs h hEr hfv hfn hus hpk hargs hfp hb ?_ hdk hrl
  rintro r hp' ⟨a, hI, rfl, rfl⟩
  rw [hX a, hn]
  show (MS.r _ _ _ _ ⟨(d, (R a).ren _) :: E, _, _⟩).ok x
  rw [hR a]
  exact hk a hI
theorem Nqn {α : Type} {S : α → XS} {I : α → Prop} {μ : α → Nat} {n : Nat} {s : XS} (nm : Nat → Nat) (a : α) (hI : I a) (hlt : μ a < n) (hm : Mt x.B.nx0 x.B.F s (S a) nm := by exact ⟨⟨_, _, rfl, rfl⟩, rfl, rfl⟩) : (MS.e .normal (.l (fun n s => ∃ a, I a ∧ n = μ a ∧ s = S a) n :: k) s).ok x := ME.next (μ a) hm hlt ⟨a, hI, rfl, rfl⟩
end
section
variable {P : Program} {pk : Pk} {T : Tb P} {Er : XE} {nx : Nat} {ops : Array Oper} {d : Option Tmp} {ty : TypeId} {pos : String} {af : Array Edge}
theorem LS.br {t : TypeId} {len e sz by_ : Nat} {ps : List (Nat × Operand)} {l : List (Nat × List XC)} {rows : List (List D)} (h1 : cx (xev Er) ps = some l) (hti : T.bt.get t = some (.sl e sz by_)) (hb : (Nat.beq l.length len && Nat.ble (len * sz) 16777216) = true) (hr : kC sz 0 l = some rows) :
    LS P pk ops { dst := d, op := .buildSlice t len ps.toArray, type := ty, pos := pos, after := af, guard := none } Er [] nx (nx + 1) (fun x fp' => x = .a (.c (.l nx 0 sz 0 len len)) ∧ fp' = [⟨nx, 0, .row len rows e sz⟩]) := by
  intro w0 N Q rest env own H V sg hl hV htp hf hd _ hh
  have htk := BT.all_get T.ok hti
  simp only [Bool.and_eq_true] at hb
  obtain ⟨pv, h2, h3⟩ := bC hl.lks h1
  obtain ⟨z, hS⟩ := cM htk
  obtain ⟨k1, k2, k3, k4⟩ := jq hr h3
  have hlen : pv.length = len := by
    rw [← Nat.eq_of_beq_eq_true hb.1]
    clear k1 k2 k3 h2 hr h1 hb
    induction l generalizing pv with
    | nil => cases pv with | nil => rfl | cons => exact h3.elim
    | cons a l ih => cases pv with | nil => exact h3.elim | cons p pv => rw [List.length_cons, List.length_cons, ih pv h3.2]
  obtain rfl := HR0 hV
  have hsz := hS.pos
  have hb2 := Nat.le_of_ble_eq_true hb.2
  have hl2 : len ≤ len * sz := Nat.le_mul_of_pos_right _ hsz
  have := TL.litF (hu := hS) (ty := ty) (pos := pos) (af := af) (rest := rest) (ops := ops) (Q := Q) (own := [] :: own) (H := H) (w0 := w0) pv h2 hb.2 (by rw [k1, hlen]; simp) rfl hd (fun g => ?_)
  · simpa using this
  · obtain ⟨f1, f2, f3⟩ := cU (V := V) (H := H) (nx := nx) (g := g) (ex := 0) (o := .cells (pv.flatMap (·.2)).toArray e (0, 0)) (xo := .row len rows e sz) hf ⟨pv.flatMap (·.2), [], by rw [k3, hlen], k2, k4, by simp, by simp, by have : maxLen = 9223372036854775807 := rfl; omega, hsz⟩
    exact TL.flat (own' := [(g, .cells (pv.flatMap (·.2)).toArray e (0, 0))] :: own) (List.Perm.refl _) (hh _ _ _ _ H _ ⟨rfl, rfl⟩ (by
      simp only [XV.rel, XA.rel, XC.rel]
      exact ⟨some g, 0, Vn.new_at .., by simp⟩) f1 f2 f3 (Le.refl _))
theorem LS.ap {t : TypeId} {o y : Operand} {e sz by_ g t0 n m' : Nat} {rows rows' : List (List D)} (ho : xev Er o = some (.a (.c (.l g t0 sz 0 n n)))) (hy : xev Er y = some (.a (.c (.d (.s rows'))))) (ht : T.bt.get t = some (.sl e sz by_)) (hm : m' = rows'.length) (hl : ∀ r ∈ rows', r.length = sz) (h1 : n + m' ≤ 9223372036854775807) (h2 : (n + m') * by_ ≤ 140737488355328) :
    LS P pk ops { dst := d, op := .call { callee := .builtin .append, args := [o, y].toArray, argTypes := [t, t].toArray }, type := ty, pos := pos, after := af, guard := none } Er [⟨g, t0, .row n rows e sz⟩] nx nx (fun x fp' => x = .a (.c (.l g (t0 + 1) sz 0 (n + m') (n + m'))) ∧ fp' = [⟨g, t0 + 1, .row (n + m') (rows ++ rows') e sz⟩]) := by
  intro w0 N Q rest env own H V sg hlk hV htp hf hd _ hh
  obtain ⟨v, a1, a2⟩ := hlk.lks _ _ ho
  obtain ⟨w, a3, a4⟩ := hlk.lks _ _ hy
  obtain ⟨z, hS⟩ := cM (BT.all_get T.ok ht)
  simp only [XV.rel, XA.rel] at a2
  simp only [XV.rel, XA.rel, XC.rel] at a4
  have hx : jr nx (fun _ => some ⟨g, t0, .row n rows e sz⟩) e sz by_ rows' m' [∀ r ∈ rows', r.length = sz] (.l g t0 sz 0 n n) = some (.w (.a (.c (.l g (t0 + 1) sz 0 (n + m') (n + m')))) g (t0 + 1) (.row (n + m') (rows ++ rows') e sz), [t0 = t0, n = n, n = n, n + m' ≤ 9223372036854775807, (n + m') * by_ ≤ 140737488355328, ∀ r ∈ rows', r.length = sz]) := by
    simp only [jr, show ∀ a, Nat.beq a a = true from Nat.beq_refl, Bool.and_self, cond_true]
  exact fM (ob0 := [∀ r ∈ rows', r.length = sz]) (get := fun _ => some ⟨g, t0, .row n rows e sz⟩) hS hm (fun h => h.1) hx ⟨rfl, rfl, rfl, h1, h2, hl, trivial⟩ ⟨v, a1, a2⟩ ⟨w, a3, a4⟩ hV htp hf hd hh
end
section
variable {P : Program} {x : Cx P} {T : Tb P} {k : List Fr} {E Er : XE} {hp hp' : XH} {nx i : Nat} {ops : List Oper} {dm : Option (List Rc)} {l : List (Nat × Oper)} {d : Tmp} {ty : TypeId} {pos : String} {af : Array Edge} {g : Option (Nat × Bool)}
theorem Br {t : TypeId} {len e sz by_ : Nat} {ps : List (Nat × Operand)} {lx : List (Nat × List XC)} {rows : List (List D)} (hEr : vis dm ops { dst := some d, op := .buildSlice t len ps.toArray, type := ty, pos := pos, after := af, guard := g } E = Er) (h1 : cx (xev Er) ps = some lx) (ht : T.bt.get t = some (.sl e sz by_)) (hbl : (Nat.beq lx.length len && Nat.ble (len * sz) 16777216) = true) (hr : kC sz 0 lx = some rows) (hb : ax ops Er g = some true ∧ okD x.N (some d) = true)
    (hk : (MS.r ops (bE dm ⟨i, [nx], true, false⟩) l k ⟨(d, .a (.c (.l nx 0 sz 0 len len))) :: E, ⟨nx, 0, .row len rows e sz⟩ :: hp, nx + 1⟩).ok x) (hdk : DkM dm ops ⟨i, [nx], true, false⟩ := by first | exact trivial | (refine DK.mk ?_; decide +kernel)) : (MS.r ops dm ((i, { dst := some d, op := .buildSlice t len ps.toArray, type := ty, pos := pos, after := af, guard := g }) :: l) k ⟨E, hp, nx⟩).ok x := by
  subst hEr
  have e0 : names ([] : XH) ++ List.range' nx (nx + 1 - nx) = [nx] := by simp [names]
  refine MS.op (fp := []) (rest := hp) true false hb.2 (.refl _) (Nat.le_succ _) (LS.yes (o := { dst := some d, op := .buildSlice t len ps.toArray, type := ty, pos := pos, after := af, guard := g }) hb.1 (LS.br (T := T) h1 ht hbl hr)) (by rw [e0]; exact hdk) (fun _ => ⟨_, _, ⟨rfl, rfl⟩, fun _ _ h => h⟩) (fun h => by cases h) ?_
  rintro q fp' ⟨rfl, rfl⟩
  refine ⟨fun b' hb' => .inr ?_, by simp [names], fun h => (by cases h), _, .refl _, ?_⟩
  · obtain rfl := List.mem_singleton.1 hb'
    exact ⟨Nat.le_refl _, Nat.lt_succ_self _⟩
  · rw [e0]; exact hk
theorem Ap {t : TypeId} {o y : Operand} {e sz by_ gp t0 n m' : Nat} {rows rows' : List (List D)} (hm : m' = rows'.length) (hl : ∀ r ∈ rows', r.length = sz) (hEr : vis dm ops { dst := some d, op := .call { callee := .builtin .append, args := [o, y].toArray, argTypes := [t, t].toArray }, type := ty, pos := pos, after := af, guard := g } E = Er) (ho : xev Er o = some (.a (.c (.l gp t0 sz 0 n n)))) (hy : xev Er y = some (.a (.c (.d (.s rows'))))) (hg : ah hp gp = some ⟨gp, t0, .row n rows e sz⟩) (hset' : aF hp gp (t0 + 1) (.row (n + m') (rows ++ rows') e sz) = some hp') (ht : T.bt.get t = some (.sl e sz by_)) (hb : ax ops Er g = some true ∧ okD x.N (some d) = true) (h1 : n + m' ≤ 9223372036854775807) (h2 : (n + m') * by_ ≤ 140737488355328)
    (hk : (MS.r ops (bE dm ⟨i, [gp], true, false⟩) l k ⟨(d, .a (.c (.l gp (t0 + 1) sz 0 (n + m') (n + m')))) :: E, hp', nx⟩).ok x) (hdk : DkM dm ops ⟨i, [gp], true, false⟩ := by first | exact trivial | (refine DK.mk ?_; decide +kernel)) : (MS.r ops dm ((i, { dst := some d, op := .call { callee := .builtin .append, args := [o, y].toArray, argTypes := [t, t].toArray }, type := ty, pos := pos, after := af, guard := g }) :: l) k ⟨E, hp, nx⟩).ok x :=
  MS.wr1 hg hset' hEr hb (LS.ap (T := T) ho hy ht hm hl h1 h2) hdk hk
end
open Go.Proofs
def ao (s : ByteArray) : Ex := .mk 2 s 0 []
def bK (n : Int) : Ex := .mk 1 eS n []
def eL (op : ByteArray) (a b : Ex) : Ex := .mk 13 op 0 [a, b]
def iE (e : Ex) (s : ByteArray) : Ex := .mk 3 s 0 [e]
def iF (e i : Ex) : Ex := .mk 4 eS 0 [e, i]
def locL : List ByteArray := [⟨#[97]⟩, ⟨#[98]⟩, ⟨#[99]⟩, ⟨#[112]⟩, ⟨#[118, 49]⟩, ⟨#[118, 50]⟩, ⟨#[118, 51]⟩, ⟨#[118, 52]⟩, ⟨#[118, 53]⟩, ⟨#[118, 54]⟩, ⟨#[118, 55]⟩, ⟨#[118, 56]⟩, ⟨#[118, 57]⟩]
def gloL : List ByteArray := [⟨#[103, 48]⟩, ⟨#[103, 49]⟩, ⟨#[103, 50]⟩, ⟨#[97, 114, 114]⟩, ⟨#[98, 121, 116, 101, 115]⟩, ⟨#[103, 115]⟩, ⟨#[103, 117]⟩, ⟨#[116, 97, 98]⟩, ⟨#[119, 111, 114, 100, 115]⟩]
def funL : List ByteArray := [⟨#[109, 97, 105, 110]⟩, ⟨#[102, 105, 114, 115, 116]⟩, ⟨#[115, 101, 99, 111, 110, 100]⟩, ⟨#[116, 104, 105, 114, 100, 95, 102, 117, 110, 99, 116, 105, 111, 110, 95, 111, 102, 95, 116, 104, 101, 109, 95, 88]⟩]
def dR (s : ByteArray) : Bool := aC s locL
def gloN (s : ByteArray) : Bool := aC s gloL
def funN (s : ByteArray) : Bool := aC s funL
theorem eM {s : ByteArray} {l : List ByteArray} (hl : (l.all ae) = true) (h : aC s l = true) : ae s = true := by
  obtain ⟨x, hx, hs⟩ := List.any_eq_true.1 h
  simp only [decide_eq_true_eq] at hs
  subst hs
  exact List.all_eq_true.1 hl x hx
theorem mI {s : ByteArray} (h : dR s = true) : ae s = true := eM (by decide +kernel) h
theorem gloN_id {s : ByteArray} (h : gloN s = true) : ae s = true := eM (by decide +kernel) h
theorem mJ {s : ByteArray} (h : funN s = true) : ae s = true := eM (by decide +kernel) h
def nmK (k : Int) (nm : ByteArray) : Bool := if k = 2 then dR nm || gloN nm else if k = 14 then funN nm else true
mutual
def nmE : Ex → Bool
  | .mk k nm _ ks => nmK k nm && nmEs ks
def nmEs : List Ex → Bool
  | [] => true
  | t :: r => nmE t && nmEs r
end
theorem jT : ∀ l, nmEs l = l.all nmE
  | [] => rfl
  | t :: r => by simp only [nmEs, List.all_cons, jT r]
mutual
def nmS : Sm → Bool
  | .mk k nm _ _ xs b el cs => (decide (k ≠ 1) || dR nm) && nmEs xs && nmSs b && nmSs el && nmCs cs
def nmSs : List Sm → Bool
  | [] => true
  | t :: r => nmS t && nmSs r
def nmCs : List (List Sm) → Bool
  | [] => true
  | c :: r => nmSs c && nmCs r
end
theorem gz : ∀ l, nmSs l = l.all nmS
  | [] => rfl
  | t :: r => by simp only [nmSs, List.all_cons, gz r]
theorem jU : ∀ l, nmCs l = l.all nmSs
  | [] => rfl
  | t :: r => by simp only [nmCs, List.all_cons, jU r]
structure EG (B : Nat) (e : Ex) : Prop where
  r : rEx e = true
  o : e.ok
  s : e.size ≤ B
  u : nmE e = true
def EGp (B : Nat) (e : Ex) : Prop := EG B e ∧ bn e.kind = true
def EGc (B : Nat) (e : Ex) : Prop := EG B e ∧ e.kind = 14
structure EGs (B : Nat) (l : List Ex) : Prop where
  r : rExs l = true
  o : Ex.oks l
  s : Ex.sizes l ≤ B
  u : nmEs l = true
theorem EG.mono {B C : Nat} {e : Ex} (h : EG B e) (hl : B ≤ C) : EG C e := ⟨h.r, h.o, Nat.le_trans h.s hl, h.u⟩
theorem EGs.mono {B C : Nat} {e : List Ex} (h : EGs B e) (hl : B ≤ C) : EGs C e := ⟨h.r, h.o, Nat.le_trans h.s hl, h.u⟩
theorem EGs.nil : EGs 0 [] := ⟨rfl, trivial, Nat.le_refl _, rfl⟩
theorem EGs.cons {B C : Nat} {e : Ex} {l : List Ex} (h : EG B e) (k : EGs C l) : EGs (B + C) (e :: l) := ⟨by simp [rExs, h.r, k.r], ⟨h.o, k.o⟩, by have := h.s; have := k.s; simp only [Ex.sizes]; omega, by simp [nmEs, h.u, k.u]⟩
theorem EGs.one {B : Nat} {e : Ex} (h : EG B e) : EGs B [e] := (EGs.cons h EGs.nil).mono (by omega)
theorem EGs.snoc {B C : Nat} {e : Ex} {l : List Ex} (h : EGs B l) (k : EG C e) : EGs (B + C) (l ++ [e]) := ⟨by rw [be, List.all_append, ← be]; simp [h.r, k.r], Ex.oks_append.2 ⟨h.o, k.o, trivial⟩, by have := h.s; have := k.s; simp only [Ex.sizes_append, Ex.sizes]; omega, by rw [jT, List.all_append, ← jT]; simp [h.u, k.u]⟩
theorem aA {s : ByteArray} (h : ae s = true) : s.size ≤ 24 := by
  simp only [ae, Bool.and_eq_true, decide_eq_true_eq] at h
  exact h.1.1.1.2
theorem EG.of {B : Nat} {k n : Int} {nm : ByteArray} {ks : List Ex} (hk : 1 ≤ k ∧ k ≤ 15) (hn : bx k nm = true) (hs : nm.size ≤ 1000000) (hl : k = 14 ∨ (ks.length : Int) = dg k) (h0 : 0 ≤ n) (h1 : n < cK k) (h : EGs B ks) (hu : nmK k nm = true := by rfl) : EG (B + 1) (.mk k nm n ks) := by
  have hx : cK k ≤ 65536 := by unfold cK; split; omega; split; omega; split <;> omega
  refine ⟨?_, ⟨⟨by omega, by omega⟩, hs, ⟨h0, by omega⟩, h.o⟩, by have := h.s; simp only [Ex.size]; omega, by rw [nmE, hu, h.u]; rfl⟩
  simp only [rEx, Bool.and_eq_true, Bool.or_eq_true, decide_eq_true_eq]
  exact ⟨⟨⟨⟨hk, hn⟩, hl⟩, h1⟩, h.r⟩
theorem eg_nm {s : ByteArray} (h : dR s = true ∨ gloN s = true) : EG 1 (ao s) := by
  have hi : ae s = true := h.elim mI gloN_id
  exact EG.of (k := 2) (by omega) hi (by have := aA hi; omega) (.inr rfl) (by omega) (by decide) EGs.nil (by show (dR s || gloN s) = true; rcases h with h | h <;> simp [h])
theorem hO {s : ByteArray} (h : dR s = true) : EG 1 (ao s) := eg_nm (.inl h)
theorem bL {s : ByteArray} (h : gloN s = true) : EG 1 (ao s) := eg_nm (.inr h)
theorem fD {n : Int} (h0 : 0 ≤ n) (h1 : n ≤ 65535) : EG 1 (bK n) := EG.of (k := 1) (by omega) rfl (by decide) (.inr rfl) h0 (by show n < 65536; omega) EGs.nil
theorem eN {s : ByteArray} {l : List ByteArray} {m : Nat} (hl : (l.all fun x => Nat.ble x.size m) = true) (h : aC s l = true) : s.size ≤ m := by
  obtain ⟨x, hx, hs⟩ := List.any_eq_true.1 h
  have := List.all_eq_true.1 hl x hx
  simp only [decide_eq_true_eq] at hs
  subst hs
  exact Nat.le_of_ble_eq_true this
theorem eO {A B : Nat} {op : ByteArray} {a b : Ex} (h : aC op opsL = true) (ha : EG A a) (hb : EG B b) : EG (A + B + 1) (eL op a b) :=
  EG.of (k := 13) (by omega) h (Nat.le_trans (eN (m := 2) (by decide) h) (by omega)) (.inr rfl) (by omega) (by decide) ((EGs.cons ha (EGs.one hb)))
theorem jV {A : Nat} {s : ByteArray} {e : Ex} (h : ae s = true) (ha : EG A e) : EG (A + 1) (iE e s) := EG.of (k := 3) (by omega) h (by have := aA h; omega) (.inr rfl) (by omega) (by decide) (EGs.one ha)
theorem mK {A B : Nat} {a b : Ex} (ha : EG A a) (hb : EG B b) : EG (A + B + 1) (iF a b) := EG.of (k := 4) (by omega) rfl (by decide) (.inr rfl) (by omega) (by decide) ((EGs.cons ha (EGs.one hb)))
theorem eg_one {A : Nat} {k : Int} {e : Ex} (hk : k = 5 ∨ k = 6) (ha : EG A e) : EG (A + 1) (.mk k eS 0 [e]) := by
  rcases hk with rfl | rfl
  · exact EG.of (k := 5) (by omega) rfl (by decide) (.inr rfl) (by omega) (by decide) (EGs.one ha)
  · exact EG.of (k := 6) (by omega) rfl (by decide) (.inr rfl) (by omega) (by decide) (EGs.one ha)
theorem eg_un {A : Nat} {op : ByteArray} {e : Ex} (h : aC op unL = true) (ha : EG A e) : EG (A + 1) (.mk 12 op 0 [e]) := EG.of (k := 12) (by omega) h (Nat.le_trans (eN (m := 1) (by decide) h) (by omega)) (.inr rfl) (by omega) (by decide) (EGs.one ha)
theorem eg_cast {A : Nat} {op : ByteArray} {e : Ex} (h : aC op castL = true) (ha : EG A e) : EG (A + 1) (.mk 15 op 0 [e]) := EG.of (k := 15) (by omega) h (Nat.le_trans (eN (m := 3) (by decide) h) (by omega)) (.inr rfl) (by omega) (by decide) (EGs.one ha)
theorem eg_inp {n : Int} (h0 : 0 ≤ n) (h1 : n < 256) : EG 1 (.mk 11 eS n []) := EG.of (k := 11) (by omega) rfl (by decide) (.inr rfl) h0 (by show n < 256; omega) EGs.nil
theorem eg_call {A : Nat} {nm : ByteArray} {l : List Ex} (h : funN nm = true) (ha : EGs A l) : EG (A + 1) (.mk 14 nm 0 l) := EG.of (k := 14) (by omega) (mJ h) (by have := aA (mJ h); omega) (.inl rfl) (by omega) (by decide) ha h
structure FR (f : Fu) : Prop where
  nm : funN f.nm = true
  ps : ∀ p ∈ f.ps, dR p.nm = true ∧ rTy p.ty = true ∧ p.ty.ok ∧ p.ty.size ≤ 8
  pl : f.ps.length ≤ 3
  res : (rTy f.res = true ∨ az f.res 7 = true) ∧ f.res.ok ∧ f.res.size ≤ 8
  body : f.body = [] ∧ f.fl = false ∧ f.x = 0 ∧ f.y = 0
def SB (d : Nat) : Nat := 8 * 4 ^ d
theorem iQ (d : Nat) : SB (d + 1) = 4 * SB d := by unfold SB; rw [Nat.pow_succ]; omega
theorem hP : ∀ d : Nat, 8 ≤ SB d
  | 0 => by decide
  | d + 1 => by have := hP d; rw [iQ]; omega
def constL : List Int := [0, 1, 2, 3, 5, 7, 15, 16, 127, 128, 255, 256, 1000, 32767, 32768, 65535]
theorem constL_in {i : Nat} {x : Int} (h : constL[i]? = some x) : 0 ≤ x ∧ x ≤ 65535 := by
  have : ∀ x ∈ constL, 0 ≤ x ∧ x ≤ 65535 := by decide
  exact this x (List.mem_of_getElem? h)
theorem EGs.step {i d : Nat} {es : List Ex} {e : Ex} (h : EGs (i * SB d) es) (he : EG (SB d) e) : EGs ((i + 1) * SB d) (es ++ [e]) := (h.snoc he).mono (by rw [Nat.add_mul]; omega)
structure SG (B : Nat) (e : Sm) : Prop where
  r : rSm e = true
  o : e.ok
  s : e.size ≤ B
  u : nmS e = true
structure SGs (B : Nat) (l : List Sm) : Prop where
  r : cT l = true
  o : Sm.oks l
  s : Sm.sizes l ≤ B
  u : nmSs l = true
structure SGc (B : Nat) (l : List (List Sm)) : Prop where
  r : rCs l = true
  o : Sm.okc l
  s : Sm.csizes l ≤ B
  u : nmCs l = true
theorem SG.mono {B C : Nat} {e : Sm} (h : SG B e) (hl : B ≤ C) : SG C e := ⟨h.r, h.o, Nat.le_trans h.s hl, h.u⟩
theorem SGs.mono {B C : Nat} {e : List Sm} (h : SGs B e) (hl : B ≤ C) : SGs C e := ⟨h.r, h.o, Nat.le_trans h.s hl, h.u⟩
theorem SGc.mono {B C : Nat} {e : List (List Sm)} (h : SGc B e) (hl : B ≤ C) : SGc C e := ⟨h.r, h.o, Nat.le_trans h.s hl, h.u⟩
theorem SGs.nil : SGs 0 [] := ⟨rfl, trivial, Nat.le_refl _, rfl⟩
theorem SGc.nil : SGc 0 [] := ⟨rfl, trivial, Nat.le_refl _, rfl⟩
theorem SGs.cons {B C : Nat} {e : Sm} {l : List Sm} (h : SG B e) (k : SGs C l) : SGs (B + C) (e :: l) := ⟨by simp [cT, h.r, k.r], ⟨h.o, k.o⟩, by have := h.s; have := k.s; simp only [Sm.sizes]; omega, by simp [nmSs, h.u, k.u]⟩
theorem SGs.one {B : Nat} {e : Sm} (h : SG B e) : SGs B [e] := (SGs.cons h SGs.nil).mono (by omega)
theorem SGs.append {B C : Nat} {a b : List Sm} (h : SGs B a) (k : SGs C b) : SGs (B + C) (a ++ b) := ⟨by rw [aH, List.all_append, ← aH, ← aH]; simp [h.r, k.r], Sm.oks_append.2 ⟨h.o, k.o⟩, by have := h.s; have := k.s; simp only [Sm.sizes_append]; omega, by rw [gz, List.all_append, ← gz, ← gz]; simp [h.u, k.u]⟩
theorem SGs.snoc {B C : Nat} {e : Sm} {l : List Sm} (h : SGs B l) (k : SG C e) : SGs (B + C) (l ++ [e]) := h.append (SGs.one k)
theorem SGc.snoc {B C : Nat} {e : List Sm} {l : List (List Sm)} (h : SGc B l) (k : SGs C e) : SGc (B + C + 1) (l ++ [e]) := ⟨by rw [dD, List.all_append, ← dD]; simp [h.r, k.r], Sm.okc_append.2 ⟨h.o, k.o, trivial⟩, by have := h.s; have := k.s; simp only [Sm.csizes_append, Sm.csizes]; omega, by rw [jU, List.all_append, ← jU]; simp [h.u, nmCs, k.u]⟩
theorem ay : ty4z.ok := ⟨⟨by omega, by omega⟩, by decide, ⟨by omega, by omega⟩, trivial⟩
theorem SG.of {A B C D T : Nat} {k n : Int} {nm : ByteArray} {t : Ty4} {xs : List Ex} {b el : List Sm} {cs : List (List Sm)} (hk : 1 ≤ k ∧ k ≤ 14) (hl : aB k ≤ (xs.length : Int)) (hm : (xs.length : Int) ≤ aY k) (hnm : bU k nm = true) (hns : nm.size ≤ 1000000)
    (ht : (if k = 1 then rTy t else az t 0) = true) (hto : t.ok) (hts : t.size ≤ T) (hn : n = 0 ∨ smPo k = true) (h0 : 0 ≤ n) (h1 : n < 256) (hb : iA k = true ∨ b = []) (hel : iB k = true ∨ el = []) (hcs : iC k = true ∨ cs = [])
    (hd : k = 14 → bA (fun j => decide (j = 14)) xs = true) (ha : k = 2 → bA bn xs = true) (hx : EGs A xs) (hB : SGs B b) (hE : SGs C el) (hC : SGc D cs) (hu : k = 1 → dR nm = true := by omega) : SG (T + A + B + C + D + 1) (.mk k nm t n xs b el cs) := by
  refine ⟨?_, ⟨⟨by omega, by omega⟩, hns, hto, ⟨h0, by omega⟩, hx.o, hB.o, hE.o, hC.o⟩, by have := hx.s; have := hB.s; have := hE.s; have := hC.s; simp only [Sm.size]; omega, ?_⟩
  rotate_left
  · rw [nmS, hx.u, hB.u, hE.u, hC.u, Bool.and_true, Bool.and_true, Bool.and_true, Bool.and_true]
    by_cases q : k = 1
    · rw [hu q]; simp
    · simp [q]
  simp only [rSm, Bool.and_eq_true, Bool.or_eq_true, decide_eq_true_eq, Bool.not_eq_true', decide_eq_false_iff_not, List.length_eq_zero_iff]
  refine ⟨⟨⟨⟨⟨⟨⟨⟨⟨⟨⟨⟨⟨⟨hk, hl⟩, hm⟩, hx.r⟩, hnm⟩, ht⟩, ?_⟩, hb⟩, hel⟩, hcs⟩, ?_⟩, ?_⟩, hB.r⟩, hE.r⟩, hC.r⟩
  · rcases hn with h | h
    · exact .inl h
    · exact .inr ⟨h, h1⟩
  · by_cases h : k = 14
    · exact .inr (hd h)
    · exact .inl h
  · by_cases h : k = 2
    · exact .inr (ha h)
    · exact .inl h
theorem sg_let {A T : Nat} {nm : ByteArray} {t : Ty4} {e : Ex} (hl : dR nm = true) (ht : rTy t = true) (ho : t.ok) (hs : t.size ≤ T) (he : EG A e) : SG (T + A + 1) (.mk 1 nm t 0 [e] [] [] []) := by
  have h := mI hl
  exact SG.of (B := 0) (C := 0) (D := 0) (k := 1) (by omega) (show (1 : Int) ≤ 1 from by omega) (show (1 : Int) ≤ 1 from by omega) h (by have := aA h; omega) ht ho hs (.inl rfl) (by omega) (by omega) (.inr rfl) (.inr rfl) (.inr rfl) (by omega) (by omega) (EGs.one he) SGs.nil SGs.nil SGc.nil (fun _ => hl)
theorem sg_asg {A B : Nat} {a e : Ex} (ha : EGp A a) (he : EG B e) : SG (1 + (A + B) + 1) (.mk 2 eS ty4z 0 [a, e] [] [] []) :=
  SG.of (B := 0) (C := 0) (D := 0) (k := 2) (by omega) (show (2 : Int) ≤ 2 from by omega) (show (2 : Int) ≤ 2 from by omega) rfl (by decide) (by decide) ay (by decide) (.inl rfl) (by omega) (by omega) (.inr rfl) (.inr rfl) (.inr rfl) (by omega) (fun _ => ha.2) (EGs.cons ha.1 (EGs.one he)) SGs.nil SGs.nil SGc.nil
theorem kV {A B C : Nat} {e : Ex} {b el : List Sm} (he : EG A e) (hb : SGs B b) (hc : SGs C el) : SG (1 + A + B + C + 1) (.mk 3 eS ty4z 0 [e] b el []) :=
  SG.of (D := 0) (k := 3) (by omega) (show (1 : Int) ≤ 1 from by omega) (show (1 : Int) ≤ 1 from by omega) rfl (by decide) (by decide) ay (by decide) (.inl rfl) (by omega) (by omega) (.inl rfl) (.inl rfl) (.inr rfl) (by omega) (by omega) (EGs.one he) hb hc SGc.nil
theorem sg_while {A B : Nat} {nm : ByteArray} {e : Ex} {b : List Sm} (h : nm = eS ∨ ae nm = true) (he : EG A e) (hb : SGs B b) : SG (1 + A + B + 1) (.mk 4 nm ty4z 0 [e] b [] []) :=
  SG.of (C := 0) (D := 0) (k := 4) (by omega) (show (1 : Int) ≤ 1 from by omega) (show (1 : Int) ≤ 1 from by omega) (by rcases h with rfl | h; exact rfl; simp [bU, eB, fA, h]) (by rcases h with rfl | h; decide; have := aA h; omega) (by decide) ay (by decide) (.inl rfl) (by omega) (by omega) (.inl rfl) (.inr rfl) (.inr rfl) (by omega) (by omega) (EGs.one he) hb SGs.nil SGc.nil
theorem sg_loop {B : Nat} {k : Int} {nm : ByteArray} {b : List Sm} (hk : k = 5 ∨ k = 6) (h : ae nm = true) (hb : SGs B b) : SG (1 + B + 1) (.mk k nm ty4z 0 [] b [] []) := by
  have hs := aA h
  rcases hk with rfl | rfl
  · exact (SG.of (A := 0) (C := 0) (D := 0) (k := 5) (by omega) (by decide) (by decide) (by simp [bU, eB, fA, h]) (by omega) (by decide) ay (by decide : ty4z.size ≤ 1) (.inl rfl) (by omega) (by omega) (.inl rfl) (.inr rfl) (.inr rfl) (by omega) (by omega) EGs.nil hb SGs.nil SGc.nil).mono (by omega)
  · exact (SG.of (A := 0) (C := 0) (D := 0) (k := 6) (by omega) (by decide) (by decide) (by simp [bU, eB, fA, h]) (by omega) (by decide) ay (by decide : ty4z.size ≤ 1) (.inl rfl) (by omega) (by omega) (.inl rfl) (.inr rfl) (.inr rfl) (by omega) (by omega) EGs.nil hb SGs.nil SGc.nil).mono (by omega)
theorem mL {k : Int} {nm : ByteArray} (hk : k = 7 ∨ k = 8) (h : ae nm = true) : SG 2 (.mk k nm ty4z 0 [] [] [] []) := by
  have hs := aA h
  rcases hk with rfl | rfl
  · exact (SG.of (A := 0) (B := 0) (C := 0) (D := 0) (k := 7) (by omega) (by decide) (by decide) (by simp [bU, eB, h]) (by omega) (by decide) ay (by decide : ty4z.size ≤ 1) (.inl rfl) (by omega) (by omega) (.inr rfl) (.inr rfl) (.inr rfl) (by omega) (by omega) EGs.nil SGs.nil SGs.nil SGc.nil).mono (by omega)
  · exact (SG.of (A := 0) (B := 0) (C := 0) (D := 0) (k := 8) (by omega) (by decide) (by decide) (by simp [bU, eB, h]) (by omega) (by decide) ay (by decide : ty4z.size ≤ 1) (.inl rfl) (by omega) (by omega) (.inr rfl) (.inr rfl) (.inr rfl) (by omega) (by omega) EGs.nil SGs.nil SGs.nil SGc.nil).mono (by omega)
theorem sg_switch {A C D : Nat} {e : Ex} {el : List Sm} {cs : List (List Sm)} (he : EG A e) (hc : SGs C el) (hd : SGc D cs) : SG (1 + A + C + D + 1) (.mk 9 eS ty4z 0 [e] [] el cs) :=
  (SG.of (B := 0) (xs := [e]) (k := 9) (by omega) (show (1 : Int) ≤ 1 from by omega) (show (1 : Int) ≤ 1 from by omega) rfl (by decide) (by decide) ay (by decide : ty4z.size ≤ 1) (.inl rfl) (by omega) (by omega) (.inr rfl) (.inl rfl) (.inl rfl) (by omega) (by omega) (EGs.one he) SGs.nil hc hd).mono (by omega)
theorem sg_ret {A : Nat} {l : List Ex} (hl : l.length ≤ 1) (he : EGs A l) : SG (1 + A + 1) (.mk 10 eS ty4z 0 l [] [] []) :=
  (SG.of (B := 0) (C := 0) (D := 0) (k := 10) (by omega) (by show (0 : Int) ≤ _; omega) (by show _ ≤ (1 : Int); omega) rfl (by decide) (by decide) ay (by decide : ty4z.size ≤ 1) (.inl rfl) (by omega) (by omega) (.inr rfl) (.inr rfl) (.inr rfl) (by omega) (by omega) he SGs.nil SGs.nil SGc.nil).mono (by omega)
theorem sg_out {A : Nat} {n : Int} {e : Ex} (h0 : 0 ≤ n) (h1 : n < 256) (he : EG A e) : SG (1 + A + 1) (.mk 11 eS ty4z n [e] [] [] []) :=
  (SG.of (B := 0) (C := 0) (D := 0) (xs := [e]) (k := 11) (by omega) (show (1 : Int) ≤ 1 from by omega) (show (1 : Int) ≤ 1 from by omega) rfl (by decide) (by decide) ay (by decide : ty4z.size ≤ 1) (.inr rfl) h0 h1 (.inr rfl) (.inr rfl) (.inr rfl) (by omega) (by omega) (EGs.one he) SGs.nil SGs.nil SGc.nil).mono (by omega)
theorem sg_mark {k : Int} (hk : k = 12 ∨ k = 13) : SG 2 (.mk k eS ty4z 0 [] [] [] []) := by
  rcases hk with rfl | rfl
  · exact (SG.of (A := 0) (B := 0) (C := 0) (D := 0) (k := 12) (by omega) (by decide) (by decide) rfl (by decide) (by decide) ay (by decide : ty4z.size ≤ 1) (.inl rfl) (by omega) (by omega) (.inr rfl) (.inr rfl) (.inr rfl) (by omega) (by omega) EGs.nil SGs.nil SGs.nil SGc.nil).mono (by omega)
  · exact (SG.of (A := 0) (B := 0) (C := 0) (D := 0) (k := 13) (by omega) (by decide) (by decide) rfl (by decide) (by decide) ay (by decide : ty4z.size ≤ 1) (.inl rfl) (by omega) (by omega) (.inr rfl) (.inr rfl) (.inr rfl) (by omega) (by omega) EGs.nil SGs.nil SGs.nil SGc.nil).mono (by omega)
theorem sg_do {A : Nat} {e : Ex} (he : EGc A e) : SG (1 + A + 1) (.mk 14 eS ty4z 0 [e] [] [] []) :=
  (SG.of (B := 0) (C := 0) (D := 0) (xs := [e]) (k := 14) (by omega) (show (1 : Int) ≤ 1 from by omega) (show (1 : Int) ≤ 1 from by omega) rfl (by decide) (by decide) ay (by decide : ty4z.size ≤ 1) (.inl rfl) (by omega) (by omega) (.inr rfl) (.inr rfl) (.inr rfl) (fun _ => by simp [bA, he.2]) (by omega) (EGs.one he.1) SGs.nil SGs.nil SGc.nil).mono (by omega)
def ZB : Nat → Nat
  | 0 => 20000
  | k + 1 => 24 * ZB k + 100000
theorem ZB_pos : ∀ k, 20000 ≤ ZB k
  | 0 => Nat.le_refl _
  | k + 1 => by have := ZB_pos k; simp only [ZB]; omega
theorem ZB_le {k : Nat} (h : k ≤ 4) : ZB k ≤ 10000000000 := by
  have : k = 0 ∨ k = 1 ∨ k = 2 ∨ k = 3 ∨ k = 4 := by omega
  rcases this with rfl | rfl | rfl | rfl | rfl <;> simp [ZB]
def PB : Nat → Nat
  | 0 => 5000
  | k + 1 => 4 * ZB k + 12000
theorem PB_le (k : Nat) : 4 * PB k ≤ ZB k := by
  cases k with
  | zero => show 4 * 5000 ≤ 20000; omega
  | succ k =>
    have h := ZB_pos k
    have e1 : PB (k + 1) = 4 * ZB k + 12000 := rfl
    have e2 : ZB (k + 1) = 24 * ZB k + 100000 := rfl
    omega
theorem PB_pos (k : Nat) : 5000 ≤ PB k := by
  cases k with
  | zero => exact Nat.le_refl _
  | succ k =>
    have e1 : PB (k + 1) = 4 * ZB k + 12000 := rfl
    omega
theorem PB_pred {k : Nat} (h : 1 ≤ k) : PB k = 4 * ZB (k - 1) + 12000 := by
  obtain ⟨j, rfl⟩ : ∃ j, k = j + 1 := ⟨k - 1, by omega⟩
  rfl
theorem pb_step {i k B : Nat} (h : B ≤ PB k) : i * PB k + B ≤ (i + 1) * PB k := by rw [Nat.add_mul]; omega
theorem pb_all {i k : Nat} (h : i ≤ 4) : i * PB k ≤ 4 * PB k := Nat.mul_le_mul_right _ h
theorem SB2 : SB 2 = 128 := by decide
theorem SB3 : SB 3 = 512 := by decide
theorem SB4 : SB 4 = 2048 := by decide
theorem nS {k q A z : Nat} (hz : PB k = 4 * z + 12000) (hq : q ≤ 3) (hA : A ≤ 600 := by rw [SB3]; omega) : 1 + A + z + q * (z + 1) + 1 ≤ PB k := by
  have : q * (z + 1) ≤ 3 * (z + 1) := Nat.mul_le_mul_right _ hq
  omega
section
open Go Go.RowKit Go.Proofs K
variable {pk : Pk}
def modR (n m : Int) : Int := (n.tmod m + m).tmod m
theorem ff {n m : Int} (hm : 0 < m) : 0 ≤ modR n m ∧ modR n m < m := by
  unfold modR
  have h1 : -m < n.tmod m := by
    have := Int.lt_tmod_of_pos n hm; omega
  exact ⟨Int.tmod_nonneg _ (by omega), Int.tmod_lt_of_pos _ hm⟩
theorem bQ {n m : Int} (hm : 0 < m) (hm2 : m ≤ 1000000) : XQ Tryz.prog pk 26 [xi n, xi m] (xi (modR n m)) := by
  have h1 : -m < n.tmod m := by
    have := Int.lt_tmod_of_pos n hm; omega
  have h2 := Int.tmod_lt_of_pos n hm
  refine XQ.en Tryz.func26 Tryz.ntmps26 (fun w0 own H V v0 hf => ?_)
  refine G (T := T) 1000 rfl ?_
  exact Fe (T := T) rfl rfl
theorem mM {n : Int} (h0 : 0 ≤ n) (h1 : n ≤ 65535) : IntKind.u16.wrap n = n := by
  obtain ⟨k, rfl⟩ := Int.eq_ofNat_of_zero_le h0
  simp only [IntKind.wrap, IntKind.signed, IntKind.bits, Bool.false_and]
  rw [if_neg (by simp)]
  omega
theorem av {n : Int} (h0 : 0 ≤ n) (h1 : n ≤ 65535) : XQ Tryz.prog pk 71 [xi n] (xd (exD (bK n))) := by
  refine XQ.en Tryz.func71 Tryz.ntmps71 (fun w0 own H V v0 hf => ?_)
  refine G (T := T) 1000 rfl ?_
  rw [mM h0 h1]
  exact Fq (T := T) rfl rfl
theorem ad (s : ByteArray) : XQ Tryz.prog pk 69 [xs s] (xd (exD (ao s))) := by
  refine XQ.en Tryz.func69 Tryz.ntmps69 (fun w0 own H V v0 hf => ?_)
  refine G (T := T) 1000 rfl ?_
  exact Fq (T := T) rfl rfl
theorem aE (op : ByteArray) (a b : Ex) : XQ Tryz.prog pk 70 [xs op, xd (exD a), xd (exD b)] (xd (exD (eL op a b))) := by
  refine XQ.en Tryz.func70 Tryz.ntmps70 (fun w0 own H V v0 hf => ?_)
  refine G (T := T) 1000 rfl ?_
  exact Fq (T := T) rfl rfl
theorem bG (e : Ex) (s : ByteArray) : XQ Tryz.prog pk 124 [xd (exD e), xs s] (xd (exD (iE e s))) := by
  refine XQ.en Tryz.func124 Tryz.ntmps124 (fun w0 own H V v0 hf => ?_)
  refine G (T := T) 1000 rfl ?_
  exact Fq (T := T) rfl rfl
theorem aX (a b : Ex) : XQ Tryz.prog pk 125 [xd (exD a), xd (exD b)] (xd (exD (iF a b))) := by
  refine XQ.en Tryz.func125 Tryz.ntmps125 (fun w0 own H V v0 hf => ?_)
  refine G (T := T) 1000 rfl ?_
  exact Fq (T := T) rfl rfl
def atP (l : List Int) (v : Value) : Prop := ∃ a : Nat, a ≤ l.length ∧ v = .int .i64 (a : Int)
def ndP (v : Value) : Prop := ∃ n : Int, v = .int .i64 n
structure KC where
  l : List Int
  fs : List Fu
  tn : Nat
  me : Nat
  vars : List ByteArray
  labels : List ByteArray
  lf : Nat
  mn : Nat
  ct : Nat
abbrev mkQx (a b c : Nat) (l : List Int) (fs : List Fu) (tn me n : Nat) (R : List (List D)) (labels : List ByteArray) (lf mn ct t1 t2 : Nat) : XH := [⟨a, 0, .cells [.d (.s (l.map gu)), .w (atP l), .d (.c (.int .i64 (tn : Int))), .d (.c (.int .i64 (lf : Int))), .w ndP, .l b t1 1 0 n n, .d (.c (.int .i64 (mn : Int))), .l c t2 1 0 labels.length labels.length, .d (.c (.int .i64 (ct : Int))), .d (.c (.int .i64 (me : Int))), .d (.s (fs.map fuD))] 138⟩,
  ⟨b, t1, .row n R 9 1⟩, ⟨c, t2, .row labels.length (labels.map cq) 9 1⟩]
abbrev mkQn (a b c : Nat) (l : List Int) (fs : List Fu) (tn me : Nat) (vars labels : List ByteArray) (lf mn ct t1 t2 : Nat) : XH := mkQx a b c l fs tn me vars.length (vars.map cq) labels lf mn ct t1 t2
abbrev mkQ (l : List Int) (fs : List Fu) (tn me : Nat) (vars labels : List ByteArray) (lf mn ct t1 t2 : Nat) : XH := mkQn 0 1 2 l fs tn me vars labels lf mn ct t1 t2
abbrev mkT (c : KC) (t : Nat) : XH := mkQ c.l c.fs c.tn c.me c.vars c.labels c.lf c.mn c.ct t t
abbrev mkB (c : KC) : XH := mkT c 0
structure KC.ok (c : KC) : Prop where
  hl : ∀ n ∈ c.l, I64 n
  hll : c.l.length ≤ 1000000
  hv : ∀ s ∈ c.vars, dR s = true
  hvl : c.vars.length ≤ 1000
  hme : c.me < c.fs.length
  hfl : c.fs.length ≤ 1000
  hf : ∀ f ∈ c.fs, FR f
  htn : c.tn ≤ 1000
  hlb : ∀ s ∈ c.labels, ae s = true
  hlbl : c.labels.length ≤ 1000
abbrev pm : XV := .a (.c (.p 0 0 0))
theorem aw {c : KC} (h1 : ∀ n ∈ c.l, I64 n) (h2 : c.l.length ≤ 1000000) {n : Int} (hn : 0 < n) (hn2 : n ≤ 1000000) : XKp Tryz.prog pk 65 [pm, xi n] (mkB c) 3 (fun r => ∃ k : Int, r = xi k ∧ 0 ≤ k ∧ k < n) := by
  refine XM.en Tryz.func65 Tryz.ntmps65 (fun w0 own H V v0 hf => ?_)
  refine G (T := T) 100001 rfl ?_
  refine Op 0 1 rfl rfl ?_
  rintro _ ⟨a, ha, rfl⟩
  refine ⟨_, _, rfl, rfl, ?_⟩
  refine G (T := T) 1000 rfl ?_
  refine If rfl (fun h => ?_) (fun h => ?_)
  · refine G (T := T) 1000 rfl ?_
    refine (SRto.wk 0 1 (atP c.l) rfl rfl rfl rfl ⟨a, ha, rfl⟩).e ?_
    exact Fm (T := T) id (xi 0) (mkB c) ⟨⟨0, rfl, Int.le_refl _, hn⟩, rfl⟩ rfl
  · have hlt := of_decide_eq_false h; rw [List.length_map] at hlt
    obtain ⟨y, hy⟩ := al (l := c.l) (j := a) (by omega)
    refine G (T := T) 1000 rfl ?_
    refine Ix (T := T) a (aa hy) rfl rfl rfl rfl ⟨rfl, rfl⟩ (by omega) rfl ?_
    refine G (T := T) 1000 rfl ?_
    refine Cq (bQ hn hn2) rfl rfl rfl rfl rfl ⟨rfl, rfl⟩ ?_
    refine G (T := T) 1000 rfl ?_
    refine (SRto.wk 0 1 (atP c.l) rfl rfl rfl rfl ⟨a + 1, by omega, by push_cast; rfl⟩).e ?_
    have := ff (n := y) hn
    exact Fm (T := T) id (xi (modR y n)) (mkB c) ⟨⟨_, rfl, this.1, this.2⟩, rfl⟩ rfl
theorem nT {c : KC} (h1 : ∀ n ∈ c.l, I64 n) (h2 : c.l.length ≤ 1000000) : XKp Tryz.prog pk 155 [pm] (mkB c) 3 (fun r => ∃ e, r = xd (exD e) ∧ EG 1 e) := by
  refine XM.en Tryz.func155 Tryz.ntmps155 (fun w0 own H V v0 hf => ?_)
  refine G (T := T) 1000 rfl ?_
  refine Ck [0, 1, 2] (aw h1 h2 (n := 16) (by omega) (by omega)) rfl rfl rfl rfl rfl rfl rfl ⟨⟨rfl, rfl⟩, rfl⟩ ?_
  rintro _ ⟨k, rfl, k1, k2⟩
  obtain ⟨j, rfl⟩ := Int.eq_ofNat_of_zero_le k1
  obtain ⟨y, hy⟩ := al (l := constL) (j := j) (by show j < 16; omega)
  have hyc := constL_in hy
  refine G (T := T) 10 rfl ?_
  refine Ix (T := T) (rows := constL.map gu) j (aa hy) rfl rfl rfl rfl ⟨rfl, rfl⟩ rfl rfl ?_
  refine G (T := T) 1000 rfl ?_
  refine Cq (av hyc.1 hyc.2) rfl rfl rfl rfl rfl ⟨rfl, rfl⟩ ?_
  refine G (T := T) 1000 rfl ?_
  exact Fm (T := T) id (xd (exD (bK y))) (mkB c) ⟨⟨_, rfl, fD hyc.1 hyc.2⟩, rfl⟩ rfl
end
section
open Go Go.RowKit Go.Proofs K
variable {pk : Pk}
def ExprC (pk : Pk) (d : Nat) : Prop := ∀ c : KC, c.ok → XKp Tryz.prog pk 117 [pm, xi (d : Nat)] (mkB c) 3 (fun r => ∃ e, r = xd (exD e) ∧ EG (SB d) e)
abbrev ex0 (g : Nat) : XB := ⟨g, 0, .cells [.d (.c (.int .i64 0)), .d (.c (.string eS)), .d (.c (.int .u16 0)), .z] 87⟩
theorem dS {d : Nat} (ih : ExprC pk d) (hd : d ≤ 100) {c : KC} (hc : c.ok) {n : Nat} (h1 : 1 ≤ n) (hn : n ≤ 1000) : XKp Tryz.prog pk 154 [pm, xi ((d + 1 : Nat) : Int), xi (n : Nat)] (mkB c) 3 (fun r => ∃ e, r = xd (exD e) ∧ EG (SB d + 2) e) := by
  refine XM.en Tryz.func154 Tryz.ntmps154 (fun w0 own H V v0 hf => ?_)
  refine G (T := T) 1000 rfl ?_
  rw [show ((d + 1 : Nat) : Int) - 1 = (d : Nat) by omega]
  refine Ck [0, 1, 2] (ih c hc) rfl rfl rfl rfl rfl rfl rfl ⟨⟨rfl, rfl⟩, rfl⟩ ?_
  rintro _ ⟨e, rfl, he⟩
  refine G (T := T) 1000 rfl ?_
  refine Cq (av (n := (n : Nat) - 1) (by omega) (by omega)) rfl rfl rfl rfl rfl ⟨rfl, rfl⟩ ?_
  refine G (T := T) 1000 rfl ?_
  refine Cq (aE ⟨#[38]⟩ e (bK ((n : Nat) - 1))) rfl rfl rfl rfl rfl ⟨rfl, rfl⟩ ?_
  refine G (T := T) 1000 rfl ?_
  exact Fm (T := T) id (xd (exD (eL ⟨#[38]⟩ e (bK ((n : Nat) - 1))))) (mkB c) ⟨⟨_, rfl, (eO (by decide) he (fD (by omega) (by omega))).mono (by omega)⟩, rfl⟩ rfl
theorem hY {c : KC} (hc : c.ok) : XKp Tryz.prog pk 156 [pm] (mkB c) 3 (fun r => ∃ e, r = xd (exD e) ∧ EG 2 e ∧ bn e.kind = true) := by
  obtain ⟨f, hf9⟩ := al (l := c.fs) (j := c.me) hc.hme
  have hF := hc.hf f (List.mem_of_getElem? hf9)
  obtain ⟨p, hp⟩ : ∃ p : Par, 0 < f.ps.length → f.ps[0]? = some p ∧ p ∈ f.ps := by
    match f.ps with
    | [] => exact ⟨⟨eS, .mk 0 eS 0 []⟩, fun h => by simp at h⟩
    | x :: r => exact ⟨x, fun _ => ⟨rfl, List.mem_cons_self ..⟩⟩
  refine XM.en Tryz.func156 Tryz.ntmps156 (fun w0 own H V v0 hf => ?_)
  refine G (T := T) 12 rfl ?_
  refine Ix (T := T) c.me (aa hf9) rfl rfl rfl rfl ⟨rfl, rfl⟩ rfl rfl ?_
  refine G (T := T) 100002 rfl ?_
  refine (FzTo.bz 4 rfl).c ?_
  refine Gs (T := T) 21 rfl ?_
  refine Is (T := T) 0 (paD p) (fun h => ?_) rfl rfl rfl rfl rfl rfl rfl rfl ?_
  · have h9 := of_decide_eq_true h; rw [List.length_map] at h9
    exact ⟨aa (hp (by omega)).1, rfl⟩
  refine Gs (T := T) 28 rfl ?_
  generalize hb9 : (decide ((0 : Int) < ((f.ps.map paD).length : Int)) && decide (tk p.ty = 6)) = b9
  have fin : ∀ {e : Ex}, EG 2 e → bn e.kind = true → (fun (r : XV) (hp' : XH) => (∃ e, r = xd (exD e) ∧ EG 2 e ∧ bn e.kind = true) ∧ hp' = mkB c) (xd (exD e)) (mkB c) := fun h1 h2 => ⟨⟨_, rfl, h1, h2⟩, rfl⟩
  cases b9 with
  | true =>
    simp only [Bool.and_eq_true] at hb9
    have h9 := of_decide_eq_true hb9.1; rw [List.length_map] at h9
    obtain ⟨hp1, hp2⟩ := hp (by omega)
    refine G (T := T) 1000 rfl ?_
    refine Ck [0, 1, 2] (aw hc.hl hc.hll (n := 2) (by omega) (by omega)) rfl rfl rfl rfl rfl rfl rfl ⟨⟨rfl, rfl⟩, rfl⟩ ?_
    rintro _ ⟨k, rfl, k1, k2⟩
    refine G (T := T) 1000 rfl ?_
    refine If rfl (fun h => ?_) (fun h => ?_)
    · refine G (T := T) 34 rfl ?_
      refine Ix (T := T) 0 (aa hp1) rfl rfl rfl rfl ⟨rfl, rfl⟩ rfl rfl ?_
      refine G (T := T) 1000 rfl ?_
      refine Cq (ad p.nm) rfl rfl rfl rfl rfl ⟨rfl, rfl⟩ ?_
      refine G (T := T) 1000 rfl ?_
      exact Fm (T := T) id (xd (exD (.mk 5 eS 0 [ao p.nm]))) (mkB c) (fin (eg_one (.inl rfl) (hO (hF.ps p hp2).1)) rfl) rfl
    · refine G (T := T) 1000 rfl ?_
      refine Cq (ad ⟨#[103, 115]⟩) rfl rfl rfl rfl rfl ⟨rfl, rfl⟩ ?_
      refine G (T := T) 1000 rfl ?_
      exact Fm (T := T) id (xd (exD (ao ⟨#[103, 115]⟩))) (mkB c) (fin ((bL (by decide)).mono (by omega)) rfl) rfl
  | false =>
    refine G (T := T) 1000 rfl ?_
    refine IfF rfl rfl ?_
    refine G (T := T) 1000 rfl ?_
    refine Cq (ad ⟨#[103, 115]⟩) rfl rfl rfl rfl rfl ⟨rfl, rfl⟩ ?_
    refine G (T := T) 1000 rfl ?_
    exact Fm (T := T) id (xd (exD (ao ⟨#[103, 115]⟩))) (mkB c) (fin ((bL (by decide)).mono (by omega)) rfl) rfl
theorem dH {l : List ByteArray} {p : ByteArray → Prop} (h : ∀ s ∈ l, p s) {k : Int} (h0 : 0 ≤ k) (h1 : k < (l.length : Int)) : ∃ j y, k = ((j : Nat) : Int) ∧ l[j]? = some y ∧ p y := by
  obtain ⟨j, rfl⟩ := Int.eq_ofNat_of_zero_le h0
  obtain ⟨y, hy⟩ := al (l := l) (j := j) (by omega)
  exact ⟨j, y, rfl, hy, h y (List.mem_of_getElem? hy)⟩
theorem nU {d : Nat} (ih : ExprC pk d) (hd : d ≤ 100) {c : KC} (hc : c.ok) : XKp Tryz.prog pk 118 [pm, xi ((d + 1 : Nat) : Int)] (mkB c) 3 (fun r => ∃ e, r = xd (exD e) ∧ EGp (SB d + 8) e) := by
  have hvl := hc.hvl
  have fin : ∀ {e : Ex} {B : Nat}, EG B e → B ≤ SB d + 8 → bn e.kind = true → (fun (r : XV) (hp' : XH) => (∃ e, r = xd (exD e) ∧ EGp (SB d + 8) e) ∧ hp' = mkB c) (xd (exD e)) (mkB c) := fun h1 h2 h3 => ⟨⟨_, rfl, h1.mono h2, h3⟩, rfl⟩
  have hpos := hP d
  refine XM.en Tryz.func118 Tryz.ntmps118 (fun w0 own H V v0 hf => ?_)
  refine G (T := T) 1000 rfl ?_
  refine Ck [0, 1, 2] (aw hc.hl hc.hll (n := 14) (by omega) (by omega)) rfl rfl rfl rfl rfl rfl rfl ⟨⟨rfl, rfl⟩, rfl⟩ ?_
  rintro _ ⟨k0, rfl, _, _⟩
  refine G (T := T) 100002 rfl ?_
  refine Op 0 4 rfl rfl ?_
  rintro _ ⟨nd, rfl⟩
  refine ⟨_, _, rfl, rfl, ?_⟩
  refine G (T := T) 13 rfl ?_
  refine Sw rfl rfl rfl ⟨rfl, rfl⟩ ?_
  refine G (T := T) 1000 rfl ?_
  refine Cf [0, 1, 4] (fun (k : Int) r => (5, xi k) :: r) (fun _ => mkB c ++ [ex0 3]) 4 (fun _ => True) rfl ?_ ?_
  · refine If rfl (fun h => ?_) (fun h => ?_)
    · refine G (T := T) 1000 rfl ?_
      refine (SRto.wk 0 4 ndP rfl rfl rfl rfl ⟨_, rfl⟩).e ?_
      exact Dn 13 trivial
    · refine G (T := T) 1000 rfl ?_
      refine (SRto.wk 0 4 ndP rfl rfl rfl rfl ⟨_, rfl⟩).e ?_
      exact Dn k0 trivial
  rintro k -
  refine Gs (T := T) 1000 rfl ?_
  refine If rfl (fun h => ?_) (fun h => ?_)
  · have hlen : 0 < c.vars.length := by
      have := of_decide_eq_true (Bool.and_eq_true_iff.1 h).2; omega
    refine G (T := T) 1000 rfl ?_
    refine Ck [0, 1, 2] (aw hc.hl hc.hll (n := (c.vars.length : Nat)) (by omega) (by omega)) rfl rfl rfl rfl rfl rfl rfl ⟨⟨rfl, rfl⟩, rfl⟩ ?_
    rintro _ ⟨q, rfl, q1, q2⟩
    obtain ⟨j, y, rfl, hy, hyl⟩ := dH hc.hv q1 q2
    refine G (T := T) 43 rfl ?_
    refine Iq (T := T) j rfl rfl rfl rfl rfl ⟨rfl, rfl⟩ rfl (by omega) rfl ?_
    refine Lr (T := T) (aa hy) rfl rfl rfl rfl ⟨rfl, rfl⟩ rfl rfl ?_
    refine G (T := T) 1000 rfl ?_
    refine Cq (ad y) rfl rfl rfl rfl rfl ⟨rfl, rfl⟩ ?_
    refine G (T := T) 1000 rfl ?_
    exact Fm (T := T) id (xd (exD (ao y))) (mkB c) (fin (hO hyl) (by omega) rfl) rfl
  refine Gs (T := T) 1000 rfl ?_
  refine If rfl (fun h => ?_) (fun h => ?_)
  · refine G (T := T) 1000 rfl ?_
    refine Cq (ad ⟨#[97, 114, 114]⟩) rfl rfl rfl rfl rfl ⟨rfl, rfl⟩ ?_
    refine G (T := T) 1000 rfl ?_
    refine Ck [0, 1, 2] (dS ih hd hc (n := 8) (by omega) (by omega)) rfl rfl rfl rfl rfl rfl rfl ⟨⟨rfl, rfl⟩, rfl⟩ ?_
    rintro _ ⟨e, rfl, he⟩
    refine G (T := T) 1000 rfl ?_
    refine Cq (aX (ao ⟨#[97, 114, 114]⟩) e) rfl rfl rfl rfl rfl ⟨rfl, rfl⟩ ?_
    refine G (T := T) 1000 rfl ?_
    exact Fm (T := T) id (xd (exD (iF (ao ⟨#[97, 114, 114]⟩) e))) (mkB c) (fin (mK (bL (by decide)) he) (by omega) rfl) rfl
  refine Gs (T := T) 1000 rfl ?_
  refine If rfl (fun h => ?_) (fun h => ?_)
  · refine G (T := T) 1000 rfl ?_
    refine Cq (ad ⟨#[98, 121, 116, 101, 115]⟩) rfl rfl rfl rfl rfl ⟨rfl, rfl⟩ ?_
    refine G (T := T) 1000 rfl ?_
    refine Ck [0, 1, 2] (dS ih hd hc (n := 16) (by omega) (by omega)) rfl rfl rfl rfl rfl rfl rfl ⟨⟨rfl, rfl⟩, rfl⟩ ?_
    rintro _ ⟨e, rfl, he⟩
    refine G (T := T) 1000 rfl ?_
    refine Cq (aX (ao ⟨#[98, 121, 116, 101, 115]⟩) e) rfl rfl rfl rfl rfl ⟨rfl, rfl⟩ ?_
    refine G (T := T) 1000 rfl ?_
    exact Fm (T := T) id (xd (exD (iF (ao ⟨#[98, 121, 116, 101, 115]⟩) e))) (mkB c) (fin (mK (bL (by decide)) he) (by omega) rfl) rfl
  refine Gs (T := T) 1000 rfl ?_
  refine If rfl (fun h => ?_) (fun h => ?_)
  · refine G (T := T) 1000 rfl ?_
    refine Ck [0, 1, 2] (hY hc) rfl rfl rfl rfl rfl rfl rfl ⟨⟨rfl, rfl⟩, rfl⟩ ?_
    rintro _ ⟨e, rfl, he, hp⟩
    refine G (T := T) 1000 rfl ?_
    refine Cq (bG e ⟨#[97]⟩) rfl rfl rfl rfl rfl ⟨rfl, rfl⟩ ?_
    refine G (T := T) 1000 rfl ?_
    exact Fm (T := T) id (xd (exD (iE e ⟨#[97]⟩))) (mkB c) (fin (jV (by decide +kernel) he) (by omega) rfl) rfl
  refine Gs (T := T) 1000 rfl ?_
  refine If rfl (fun h => ?_) (fun h => ?_)
  · refine G (T := T) 1000 rfl ?_
    refine Ck [0, 1, 2] (hY hc) rfl rfl rfl rfl rfl rfl rfl ⟨⟨rfl, rfl⟩, rfl⟩ ?_
    rintro _ ⟨e, rfl, he, hp⟩
    refine G (T := T) 1000 rfl ?_
    refine Cq (bG e ⟨#[98]⟩) rfl rfl rfl rfl rfl ⟨rfl, rfl⟩ ?_
    refine G (T := T) 1000 rfl ?_
    exact Fm (T := T) id (xd (exD (iE e ⟨#[98]⟩))) (mkB c) (fin (jV (by decide +kernel) he) (by omega) rfl) rfl
  refine Gs (T := T) 1000 rfl ?_
  refine If rfl (fun h => ?_) (fun h => ?_)
  · refine G (T := T) 1000 rfl ?_
    refine Ck [0, 1, 2] (hY hc) rfl rfl rfl rfl rfl rfl rfl ⟨⟨rfl, rfl⟩, rfl⟩ ?_
    rintro _ ⟨e, rfl, he, hp⟩
    refine G (T := T) 1000 rfl ?_
    refine Cq (bG e ⟨#[100]⟩) rfl rfl rfl rfl rfl ⟨rfl, rfl⟩ ?_
    refine G (T := T) 1000 rfl ?_
    refine Ck [0, 1, 2] (dS ih hd hc (n := 4) (by omega) (by omega)) rfl rfl rfl rfl rfl rfl rfl ⟨⟨rfl, rfl⟩, rfl⟩ ?_
    rintro _ ⟨e2, rfl, he2⟩
    refine G (T := T) 1000 rfl ?_
    refine Cq (aX (iE e ⟨#[100]⟩) e2) rfl rfl rfl rfl rfl ⟨rfl, rfl⟩ ?_
    refine G (T := T) 1000 rfl ?_
    exact Fm (T := T) id (xd (exD (iF (iE e ⟨#[100]⟩) e2))) (mkB c) (fin (mK (jV (by decide +kernel) he) he2) (by omega) rfl) rfl
  refine Gs (T := T) 1000 rfl ?_
  refine If rfl (fun h => ?_) (fun h => ?_)
  · refine G (T := T) 1000 rfl ?_
    refine Cq (ad ⟨#[103, 117]⟩) rfl rfl rfl rfl rfl ⟨rfl, rfl⟩ ?_
    refine G (T := T) 1000 rfl ?_
    refine Cq (bG (ao ⟨#[103, 117]⟩) ⟨#[119]⟩) rfl rfl rfl rfl rfl ⟨rfl, rfl⟩ ?_
    refine G (T := T) 1000 rfl ?_
    exact Fm (T := T) id (xd (exD (iE (ao ⟨#[103, 117]⟩) ⟨#[119]⟩))) (mkB c) (fin (jV (by decide +kernel) (bL (by decide))) (by omega) rfl) rfl
  refine Gs (T := T) 1000 rfl ?_
  refine If rfl (fun h => ?_) (fun h => ?_)
  · refine G (T := T) 1000 rfl ?_
    refine Cq (ad ⟨#[103, 117]⟩) rfl rfl rfl rfl rfl ⟨rfl, rfl⟩ ?_
    refine G (T := T) 1000 rfl ?_
    refine Cq (bG (ao ⟨#[103, 117]⟩) ⟨#[108]⟩) rfl rfl rfl rfl rfl ⟨rfl, rfl⟩ ?_
    refine G (T := T) 1000 rfl ?_
    exact Fm (T := T) id (xd (exD (iE (ao ⟨#[103, 117]⟩) ⟨#[108]⟩))) (mkB c) (fin (jV (by decide +kernel) (bL (by decide))) (by omega) rfl) rfl
  refine Gs (T := T) 1000 rfl ?_
  refine If rfl (fun h => ?_) (fun h => ?_)
  · refine G (T := T) 1000 rfl ?_
    refine Cq (ad ⟨#[103, 49]⟩) rfl rfl rfl rfl rfl ⟨rfl, rfl⟩ ?_
    refine G (T := T) 1000 rfl ?_
    exact Fm (T := T) id (xd (exD (ao ⟨#[103, 49]⟩))) (mkB c) (fin (bL (by decide)) (by omega) rfl) rfl
  refine Gs (T := T) 1000 rfl ?_
  refine If rfl (fun h => ?_) (fun h => ?_)
  · refine G (T := T) 1000 rfl ?_
    refine Cq (ad ⟨#[103, 50]⟩) rfl rfl rfl rfl rfl ⟨rfl, rfl⟩ ?_
    refine G (T := T) 1000 rfl ?_
    exact Fm (T := T) id (xd (exD (ao ⟨#[103, 50]⟩))) (mkB c) (fin (bL (by decide)) (by omega) rfl) rfl
  refine G (T := T) 1000 rfl ?_
  refine Cq (ad ⟨#[103, 48]⟩) rfl rfl rfl rfl rfl ⟨rfl, rfl⟩ ?_
  refine G (T := T) 1000 rfl ?_
  exact Fm (T := T) id (xd (exD (ao ⟨#[103, 48]⟩))) (mkB c) (fin (bL (by decide)) (by omega) rfl) rfl
end
section
open Go Go.RowKit Go.Proofs K
variable {pk : Pk}
def gsA : Ex := .mk 6 eS 0 [ao ⟨#[103, 115]⟩]
def callE (f : Fu) (l : List Ex) : Ex := .mk 14 f.nm 0 l
theorem mk_call {d : Nat} (ih : ExprC pk d) (hd : d ≤ 100) {c : KC} (hc : c.ok) {f : Fu} (hF : FR f) : XKp Tryz.prog pk 121 [pm, xd (fuD f), xi ((d + 1 : Nat) : Int)] (mkB c) 3 (fun r => ∃ e, r = xd (exD e) ∧ EGc (3 * SB d + 1) e) := by
  have hpl := hF.pl
  have hpos := hP d
  refine XM.en Tryz.func121 Tryz.ntmps121 (fun w0 own H V v0 hf => ?_)
  refine G (T := T) 100001 rfl ?_
  refine (FzTo.bz 3 rfl).c ?_
  refine G (T := T) 100002 rfl ?_
  refine (Nrh 5 3 87 4 rfl rfl rfl rfl rfl).c ?_
  refine G (T := T) 1000 rfl ?_
  refine Lq [0, 2, 4, 6, 7] (fun (q : Nat × List Ex) r => (8, xi (q.1 : Nat)) :: r) (fun q => mkB c ++ [⟨6, 1, .row q.2.length (q.2.map exD) 87 4⟩, ⟨5, 0, .cells [.d (.c (.int .i64 14)), .d (.c (.string f.nm)), .d (.c (.int .u16 0)), .l 6 1 4 0 q.2.length q.2.length] 87⟩, ex0 4]) 7 (fun q => q.1 ≤ f.ps.length ∧ q.2.length = q.1 ∧ EGs (q.1 * SB d) q.2) (fun q => f.ps.length - q.1) (0, []) rfl ⟨Nat.zero_le _, rfl, EGs.nil.mono (by omega)⟩ ?_
  rintro ⟨j, L⟩ ⟨hj, hL, hE⟩; dsimp only at hj hL hE ⊢
  refine G (T := T) 1000 rfl ?_
  refine If rfl (fun h => ?_) (fun h => ?_)
  · have hjl := of_decide_eq_true h; rw [List.length_map] at hjl
    obtain ⟨y, hy⟩ := al (l := f.ps) (j := j) (by omega)
    refine G (T := T) 1000 rfl ?_
    refine Ix (T := T) j (aa hy) rfl rfl rfl rfl ⟨rfl, rfl⟩ rfl rfl ?_
    refine G (T := T) 1000 rfl ?_
    have nxt : ∀ {e : Ex}, EG (SB d) e → (j + 1 ≤ f.ps.length ∧ (L ++ [e]).length = j + 1 ∧ EGs ((j + 1) * SB d) (L ++ [e])) := fun h => ⟨by omega, by rw [List.length_append, hL]; rfl, hE.step h⟩
    refine If rfl (fun h => ?_) (fun h => ?_)
    · refine G (T := T) 1000 rfl ?_
      refine Cq (ad ⟨#[103, 115]⟩) rfl rfl rfl rfl rfl ⟨rfl, rfl⟩ ?_
      refine G (T := T) 1000 rfl ?_
      have e9 : L.map exD ++ [exD gsA] = (L ++ [gsA]).map exD := by rw [List.map_append]; rfl
      refine Nq (j + 1, L ++ [gsA]) (nxt ((eg_one (.inr rfl) (bL (by decide))).mono (by omega))) (by show _ - (j + 1) < _ - j; omega) ?_
      dsimp only
      rw [← e9, List.length_append]
      exact ⟨⟨_, _, rfl, rfl⟩, rfl, rfl⟩
    · refine G (T := T) 1000 rfl ?_
      rw [show ((d + 1 : Nat) : Int) - 1 = (d : Nat) by omega]
      refine Ck [0, 1, 2] (ih c hc) rfl rfl rfl rfl rfl rfl rfl ⟨⟨rfl, rfl⟩, rfl⟩ ?_
      rintro _ ⟨e, rfl, he⟩
      refine G (T := T) 1000 rfl ?_
      have e9 : L.map exD ++ [exD e] = (L ++ [e]).map exD := by rw [List.map_append]; rfl
      refine Nq (j + 1, L ++ [e]) (nxt he) (by show _ - (j + 1) < _ - j; omega) ?_
      dsimp only
      rw [← e9, List.length_append]
      exact ⟨⟨_, _, rfl, rfl⟩, rfl, rfl⟩
  · have hjl := of_decide_eq_false h; rw [List.length_map] at hjl
    have hjj : j ≤ 3 := by omega
    refine G (T := T) 100008 rfl ?_
    refine Zc 6 rfl ?_
    refine G (T := T) 1000 rfl ?_
    have hB := Nat.mul_le_mul_right (SB d) hjj
    exact Fm (T := T) id (xd [.c (.int .i64 14), .c (.string f.nm), .c (.int .u16 0), .s (L.map exD)]) (mkB c) ⟨⟨callE f L, by rw [callE, jC], eg_call hF.nm (hE.mono hB), rfl⟩, rfl⟩ rfl
end
section
open Go Go.RowKit Go.Proofs K
variable {pk : Pk}
def glo3 : List ByteArray := [⟨#[103, 48]⟩, ⟨#[103, 49]⟩, ⟨#[103, 50]⟩]
def una3 : List ByteArray := [⟨#[45]⟩, ⟨#[126]⟩, ⟨#[33]⟩]
def cas3 : List ByteArray := [⟨#[117, 56]⟩, ⟨#[117, 49, 54]⟩, ⟨#[115, 49, 54]⟩]
def div2 : List ByteArray := [⟨#[47]⟩, ⟨#[37]⟩]
def bin16 : List ByteArray := [⟨#[43]⟩, ⟨#[45]⟩, ⟨#[42]⟩, ⟨#[38]⟩, ⟨#[124]⟩, ⟨#[94]⟩, ⟨#[60, 60]⟩, ⟨#[62, 62]⟩, ⟨#[60]⟩, ⟨#[60, 61]⟩, ⟨#[62]⟩, ⟨#[62, 61]⟩, ⟨#[61, 61]⟩, ⟨#[33, 61]⟩, ⟨#[43]⟩, ⟨#[45]⟩]
theorem bR : ∀ d, d ≤ 100 → ExprC pk d := by
  intro D
  induction D using Nat.strongRecOn with
  | _ D ih =>
  intro hD c hc
  have hvl := hc.hvl
  have hfl := hc.hfl
  have hme := hc.hme
  have hmap : (c.fs.map fuD).length = c.fs.length := List.length_map ..
  have hpos := hP D
  have big : 2 ≤ D → ∃ d, D = d + 2 ∧ SB D = 4 * SB (d + 1) ∧ SB (d + 1) = 4 * SB d ∧ 8 ≤ SB d := fun h => by
    obtain ⟨d, rfl⟩ : ∃ d, D = d + 2 := ⟨D - 2, by omega⟩
    exact ⟨d, rfl, iQ _, iQ _, hP _⟩
  have fin : ∀ {e : Ex} {B : Nat}, EG B e → B ≤ SB D → (fun (r : XV) (hp' : XH) => (∃ e, r = xd (exD e) ∧ EG (SB D) e) ∧ hp' = mkB c) (xd (exD e)) (mkB c) := fun h1 h2 => ⟨⟨_, rfl, h1.mono h2⟩, rfl⟩
  have tab : ∀ {s : ByteArray} {d : Nat} {e : Ex}, gloN s = true → D = d + 2 → EG (SB (d + 1) + 2) e → (fun (r : XV) (hp' : XH) => (∃ e, r = xd (exD e) ∧ EG (SB D) e) ∧ hp' = mkB c) (xd (exD (iF (ao s) e))) (mkB c) := fun {s d e} h1 h2 h3 => fin (mK (bL h1) h3) (by have : SB (d + 2) = 4 * SB (d + 1) := iQ (d + 1); have := hP (d + 1); subst h2; omega)
  refine XM.en Tryz.func117 Tryz.ntmps117 (fun w0 own H V v0 hf => ?_)
  refine G (T := T) 100001 rfl ?_
  refine Op 0 4 rfl rfl ?_
  rintro _ ⟨nd, rfl⟩
  refine ⟨_, _, rfl, rfl, ?_⟩
  refine G (T := T) 16 rfl ?_
  refine Sw rfl rfl rfl ⟨rfl, rfl⟩ ?_
  refine G (T := T) 100002 rfl ?_
  refine (SRto.wk 0 4 ndP rfl rfl rfl rfl ⟨_, rfl⟩).c ?_
  refine G (T := T) 1000 rfl ?_
  refine Ck [0, 1, 2] (aw hc.hl hc.hll (n := 20) (by omega) (by omega)) rfl rfl rfl rfl rfl rfl rfl ⟨⟨rfl, rfl⟩, rfl⟩ ?_
  rintro _ ⟨k0, rfl, k1, k2⟩
  refine G (T := T) 100003 rfl ?_
  refine Op 0 4 rfl rfl ?_
  rintro _ ⟨nd2, rfl⟩
  refine ⟨_, _, rfl, rfl, ?_⟩
  refine Gs (T := T) 1000 rfl ?_
  refine Cf [0, 1, 4] (fun (k : Int) r => (5, xi k) :: r) (fun _ => mkB c ++ [ex0 3]) 4 (fun k => 2 ≤ D ∨ k ≤ 4) rfl ?_ ?_
  · refine If rfl (fun h => ?_) (fun h => ?_)
    · refine G (T := T) 1000 rfl ?_
      refine (SRto.wk 0 4 ndP rfl rfl rfl rfl ⟨_, rfl⟩).e ?_
      have := Int.tmod_lt_of_pos k0 (show (0 : Int) < 5 by omega)
      exact Dn (k0.tmod 5) (.inr (by omega))
    · have h9 := of_decide_eq_false (Bool.or_eq_false_iff.1 h).1
      refine G (T := T) 1000 rfl ?_
      refine (SRto.wk 0 4 ndP rfl rfl rfl rfl ⟨_, rfl⟩).e ?_
      exact Dn k0 (.inl (by omega))
  rintro k hk
  refine Gs (T := T) 1000 rfl ?_
  refine If rfl (fun h => ?_) (fun h => ?_)
  · have hlen : 0 < c.vars.length := by
      rcases Bool.or_eq_true_iff.1 h with h | h
      all_goals have := of_decide_eq_true (Bool.and_eq_true_iff.1 h).2; omega
    refine G (T := T) 1000 rfl ?_
    refine Ck [0, 1, 2] (aw hc.hl hc.hll (n := (c.vars.length : Nat)) (by omega) (by omega)) rfl rfl rfl rfl rfl rfl rfl ⟨⟨rfl, rfl⟩, rfl⟩ ?_
    rintro _ ⟨q, rfl, q1, q2⟩
    obtain ⟨j, y, rfl, hy, hyl⟩ := dH hc.hv q1 q2
    refine G (T := T) 66 rfl ?_
    refine Iq (T := T) j rfl rfl rfl rfl rfl ⟨rfl, rfl⟩ rfl (by omega) rfl ?_
    refine Lr (T := T) (aa hy) rfl rfl rfl rfl ⟨rfl, rfl⟩ rfl rfl ?_
    refine G (T := T) 1000 rfl ?_
    refine Cq (ad y) rfl rfl rfl rfl rfl ⟨rfl, rfl⟩ ?_
    refine G (T := T) 1000 rfl ?_
    exact Fm (T := T) id (xd (exD (ao y))) (mkB c) (fin (hO hyl) (by omega)) rfl
  refine Gs (T := T) 1000 rfl ?_
  refine If rfl (fun h => ?_) (fun h => ?_)
  · refine G (T := T) 1000 rfl ?_
    refine Ck [0, 1, 2] (aw hc.hl hc.hll (n := 5) (by omega) (by omega)) rfl rfl rfl rfl rfl rfl rfl ⟨⟨rfl, rfl⟩, rfl⟩ ?_
    rintro _ ⟨q, rfl, q1, q2⟩
    refine G (T := T) 76 rfl ?_
    rw [mM (n := 1 + q) (by omega) (by omega)]
    refine G (T := T) 1000 rfl ?_
    exact Fm (T := T) id (xd (exD (.mk 11 eS (1 + q) []))) (mkB c) (fin (eg_inp (by omega) (by omega)) (by omega)) rfl
  refine Gs (T := T) 1000 rfl ?_
  refine If rfl (fun h => ?_) (fun h => ?_)
  · refine G (T := T) 1000 rfl ?_
    refine Ck [0, 1, 2] (aw hc.hl hc.hll (n := 3) (by omega) (by omega)) rfl rfl rfl rfl rfl rfl rfl ⟨⟨rfl, rfl⟩, rfl⟩ ?_
    rintro _ ⟨q, rfl, q1, q2⟩
    obtain ⟨j, y, rfl, hy, hyl⟩ := dH (l := glo3) (p := fun s => gloN s = true) (by decide) q1 q2
    refine G (T := T) 83 rfl ?_
    refine Ix (T := T) (rows := glo3.map cq) j (aa hy) rfl rfl rfl rfl ⟨rfl, rfl⟩ rfl rfl ?_
    refine G (T := T) 1000 rfl ?_
    refine Cq (ad y) rfl rfl rfl rfl rfl ⟨rfl, rfl⟩ ?_
    refine G (T := T) 1000 rfl ?_
    exact Fm (T := T) id (xd (exD (ao y))) (mkB c) (fin (bL hyl) (by omega)) rfl
  refine Gs (T := T) 1000 rfl ?_
  refine If rfl (fun h => ?_) (fun h => ?_)
  · obtain ⟨d, rfl, s1, s2, s3⟩ := big (by
      rcases Bool.or_eq_true_iff.1 h with h | h
      all_goals have := of_decide_eq_true h; omega)
    refine G (T := T) 1000 rfl ?_
    refine Ck [0, 1, 2] (nU (ih (d + 1) (by omega) (by omega)) (by omega) hc) rfl rfl rfl rfl rfl rfl rfl ⟨⟨rfl, rfl⟩, rfl⟩ ?_
    rintro _ ⟨e, rfl, he⟩
    refine G (T := T) 1000 rfl ?_
    exact Fm (T := T) id (xd (exD e)) (mkB c) (fin he.1 (by omega)) rfl
  refine Gs (T := T) 1000 rfl ?_
  refine If rfl (fun h => ?_) (fun h => ?_)
  · obtain ⟨d, hd, s1, s2, s3⟩ := big (by have := of_decide_eq_true h; omega)
    refine G (T := T) 100014 rfl ?_
    refine Op 0 4 rfl rfl ?_
    rintro _ ⟨nd3, rfl⟩
    refine ⟨_, _, rfl, rfl, ?_⟩
    refine G (T := T) 104 rfl ?_
    refine Sw rfl rfl rfl ⟨rfl, rfl⟩ ?_
    refine G (T := T) 100015 rfl ?_
    refine (SRto.wk 0 4 ndP rfl rfl rfl rfl ⟨_, rfl⟩).c ?_
    refine G (T := T) 1000 rfl ?_
    refine Cq (ad ⟨#[116, 97, 98]⟩) rfl rfl rfl rfl rfl ⟨rfl, rfl⟩ ?_
    refine G (T := T) 1000 rfl ?_
    subst hd
    refine Ck [0, 1, 2] (dS (ih (d + 1) (by omega) (by omega)) (by omega) hc (n := 8) (by omega) (by omega)) rfl rfl rfl rfl rfl rfl rfl ⟨⟨rfl, rfl⟩, rfl⟩ ?_
    rintro _ ⟨e, rfl, he⟩
    refine G (T := T) 1000 rfl ?_
    refine Cq (aX (ao ⟨#[116, 97, 98]⟩) e) rfl rfl rfl rfl rfl ⟨rfl, rfl⟩ ?_
    refine G (T := T) 1000 rfl ?_
    exact Fm (T := T) id (xd (exD (iF (ao ⟨#[116, 97, 98]⟩) e))) (mkB c) (tab (by decide) rfl he) rfl
  refine Gs (T := T) 1000 rfl ?_
  refine If rfl (fun h => ?_) (fun h => ?_)
  · obtain ⟨d, hd, s1, s2, s3⟩ := big (by have := of_decide_eq_true h; omega)
    refine G (T := T) 100017 rfl ?_
    refine Op 0 4 rfl rfl ?_
    rintro _ ⟨nd3, rfl⟩
    refine ⟨_, _, rfl, rfl, ?_⟩
    refine G (T := T) 120 rfl ?_
    refine Sw rfl rfl rfl ⟨rfl, rfl⟩ ?_
    refine G (T := T) 100018 rfl ?_
    refine (SRto.wk 0 4 ndP rfl rfl rfl rfl ⟨_, rfl⟩).c ?_
    refine G (T := T) 1000 rfl ?_
    refine Cq (ad ⟨#[119, 111, 114, 100, 115]⟩) rfl rfl rfl rfl rfl ⟨rfl, rfl⟩ ?_
    refine G (T := T) 1000 rfl ?_
    subst hd
    refine Ck [0, 1, 2] (dS (ih (d + 1) (by omega) (by omega)) (by omega) hc (n := 4) (by omega) (by omega)) rfl rfl rfl rfl rfl rfl rfl ⟨⟨rfl, rfl⟩, rfl⟩ ?_
    rintro _ ⟨e, rfl, he⟩
    refine G (T := T) 1000 rfl ?_
    refine Cq (aX (ao ⟨#[119, 111, 114, 100, 115]⟩) e) rfl rfl rfl rfl rfl ⟨rfl, rfl⟩ ?_
    refine G (T := T) 1000 rfl ?_
    exact Fm (T := T) id (xd (exD (iF (ao ⟨#[119, 111, 114, 100, 115]⟩) e))) (mkB c) (tab (by decide) rfl he) rfl
  have one : ∀ {d : Nat}, D = d + 2 → ((D : Nat) : Int) - 1 = ((d + 1 : Nat) : Int) := fun h => by omega
  refine Gs (T := T) 1000 rfl ?_
  refine If rfl (fun h => ?_) (fun h => ?_)
  · obtain ⟨d, hd, s1, s2, s3⟩ := big (by have := of_decide_eq_true h; omega)
    refine G (T := T) 100020 rfl ?_
    refine Ods (T := T) [0, 1, 5, 6, 7, 2, 3, 4, 8, 9, 10, 11] rfl ?_
    refine G (T := T) 1000 rfl ?_
    refine Ck [0, 1, 2] (aw hc.hl hc.hll (n := 3) (by omega) (by omega)) rfl rfl rfl rfl rfl rfl rfl ⟨⟨rfl, rfl⟩, rfl⟩ ?_
    rintro _ ⟨q, rfl, q1, q2⟩
    obtain ⟨j, y, rfl, hy, hyl⟩ := dH (l := una3) (p := fun s => aC s unL = true) (by decide) q1 q2
    refine G (T := T) 134 rfl ?_
    refine Ix (T := T) (rows := una3.map cq) j (aa hy) rfl rfl rfl rfl ⟨rfl, rfl⟩ rfl rfl ?_
    refine G (T := T) 1000 rfl ?_
    rw [one hd]
    refine Ck [0, 1, 2] (ih (d + 1) (by omega) (by omega) c hc) rfl rfl rfl rfl rfl rfl rfl ⟨⟨rfl, rfl⟩, rfl⟩ ?_
    rintro _ ⟨e, rfl, he⟩
    refine G (T := T) 1000 rfl ?_
    exact Fm (T := T) id (xd (exD (.mk 12 y 0 [e]))) (mkB c) (fin (eg_un hyl he) (by omega)) rfl
  refine Gs (T := T) 1000 rfl ?_
  refine If rfl (fun h => ?_) (fun h => ?_)
  · obtain ⟨d, hd, s1, s2, s3⟩ := big (by have := of_decide_eq_true h; omega)
    refine G (T := T) 100022 rfl ?_
    refine Ods (T := T) [0, 1, 5, 6, 7, 2, 3, 4, 8, 9, 10, 11] rfl ?_
    refine G (T := T) 1000 rfl ?_
    refine Ck [0, 1, 2] (aw hc.hl hc.hll (n := 3) (by omega) (by omega)) rfl rfl rfl rfl rfl rfl rfl ⟨⟨rfl, rfl⟩, rfl⟩ ?_
    rintro _ ⟨q, rfl, q1, q2⟩
    obtain ⟨j, y, rfl, hy, hyl⟩ := dH (l := cas3) (p := fun s => aC s castL = true) (by decide) q1 q2
    refine G (T := T) 148 rfl ?_
    refine Ix (T := T) (rows := cas3.map cq) j (aa hy) rfl rfl rfl rfl ⟨rfl, rfl⟩ rfl rfl ?_
    refine G (T := T) 1000 rfl ?_
    rw [one hd]
    refine Ck [0, 1, 2] (ih (d + 1) (by omega) (by omega) c hc) rfl rfl rfl rfl rfl rfl rfl ⟨⟨rfl, rfl⟩, rfl⟩ ?_
    rintro _ ⟨e, rfl, he⟩
    refine G (T := T) 1000 rfl ?_
    exact Fm (T := T) id (xd (exD (.mk 15 y 0 [e]))) (mkB c) (fin (eg_cast hyl he) (by omega)) rfl
  refine G (T := T) 100023 rfl ?_
  refine Cu [0, 1, 4, 5] (fun (_ : Unit) r => (156, xb (decide (k = 11) && decide ((c.me : Int) + 1 < ((c.fs.map fuD).length : Int)))) :: r) (fun _ => mkB c ++ [ex0 3]) 4 (fun _ => True) rfl ?_ ?_
  · refine G (T := T) 160 rfl ?_
    refine Sp 159 rfl (fun h => ?_) (fun h => ?_)
    · refine G (T := T) 1000 rfl ?_
      rw [h, Bool.true_and]
      exact Dn () trivial
    · refine G (T := T) 1000 rfl ?_
      rw [h, Bool.false_and]
      exact Dn () trivial
  rintro _ -
  have hcon := nT (pk := pk) hc.hl hc.hll
  refine If rfl (fun h => ?_) (fun h => ?_)
  · have h9 := (Bool.and_eq_true_iff.1 h).2
    obtain ⟨d, hd, s1, s2, s3⟩ := big (by have := of_decide_eq_true (Bool.and_eq_true_iff.1 h).1; omega)
    have hlen := of_decide_eq_true h9
    have hlen2 := hlen
    rw [List.length_map] at hlen2
    refine G (T := T) 100024 rfl ?_
    refine Ods (T := T) [0, 1, 2, 3, 4, 5, 6, 7, 8, 9, 10, 11, 12, 13, 14, 15, 16, 17, 18, 19, 20, 25, 21, 22, 23, 24, 26] rfl ?_
    refine G (T := T) 1000 rfl ?_
    refine Ck [0, 1, 2] (aw hc.hl hc.hll (n := ((c.fs.map fuD).length : Int) - (c.me : Int) - 1) (by omega) (by rw [List.length_map]; omega)) rfl rfl rfl rfl rfl rfl rfl ⟨⟨rfl, rfl⟩, rfl⟩ ?_
    rintro _ ⟨q, rfl, q1, q2⟩
    rw [List.length_map] at q2
    obtain ⟨j, rfl⟩ := Int.eq_ofNat_of_zero_le q1
    obtain ⟨f, hf9⟩ := al (l := c.fs) (j := c.me + 1 + j) (by omega)
    have hF := hc.hf f (List.mem_of_getElem? hf9)
    refine G (T := T) 195 rfl ?_
    refine Ix (T := T) (c.me + 1 + j) (aa hf9) rfl rfl rfl rfl ⟨rfl, rfl⟩ (by push_cast; rfl) rfl ?_
    refine G (T := T) 100025 rfl ?_
    refine (FzTo.bz 4 rfl).c ?_
    refine G (T := T) 1000 rfl ?_
    refine If rfl (fun h => ?_) (fun h => ?_)
    · refine G (T := T) 1000 rfl ?_
      subst hd
      refine Ck [0, 1, 2] (mk_call (ih (d + 1) (by omega) (by omega)) (by omega) hc hF) rfl rfl rfl rfl rfl rfl rfl ⟨⟨rfl, rfl⟩, rfl⟩ ?_
      rintro _ ⟨e, rfl, he⟩
      refine G (T := T) 1000 rfl ?_
      exact Fm (T := T) id (xd (exD e)) (mkB c) (fin he.1 (by omega)) rfl
    · refine G (T := T) 1000 rfl ?_
      refine Ck [0, 1, 2] hcon rfl rfl rfl rfl rfl rfl rfl ⟨⟨rfl, rfl⟩, rfl⟩ ?_
      rintro _ ⟨e, rfl, he⟩
      refine G (T := T) 1000 rfl ?_
      exact Fm (T := T) id (xd (exD e)) (mkB c) (fin he (by omega)) rfl
  refine G (T := T) 1000 rfl ?_
  refine If rfl (fun h => ?_) (fun h => ?_)
  · obtain ⟨d, hd, s1, s2, s3⟩ := big (by have := of_decide_eq_true h; omega)
    refine G (T := T) 100028 rfl ?_
    refine Op 0 4 rfl rfl ?_
    rintro _ ⟨nd3, rfl⟩
    refine ⟨_, _, rfl, rfl, ?_⟩
    refine G (T := T) 213 rfl ?_
    refine Sw rfl rfl rfl ⟨rfl, rfl⟩ ?_
    refine G (T := T) 100029 rfl ?_
    refine (SRto.wk 0 4 ndP rfl rfl rfl rfl ⟨_, rfl⟩).c ?_
    refine G (T := T) 1000 rfl ?_
    refine Ck [0, 1, 2] (aw hc.hl hc.hll (n := 2) (by omega) (by omega)) rfl rfl rfl rfl rfl rfl rfl ⟨⟨rfl, rfl⟩, rfl⟩ ?_
    rintro _ ⟨q, rfl, q1, q2⟩
    obtain ⟨j, y, rfl, hy, hyl⟩ := dH (l := div2) (p := fun s => aC s opsL = true) (by decide) q1 q2
    refine G (T := T) 219 rfl ?_
    refine Ix (T := T) (rows := div2.map cq) j (aa hy) rfl rfl rfl rfl ⟨rfl, rfl⟩ rfl rfl ?_
    refine G (T := T) 1000 rfl ?_
    rw [one hd]
    refine Ck [0, 1, 2] (ih (d + 1) (by omega) (by omega) c hc) rfl rfl rfl rfl rfl rfl rfl ⟨⟨rfl, rfl⟩, rfl⟩ ?_
    rintro _ ⟨e, rfl, he⟩
    refine G (T := T) 100031 rfl ?_
    refine (FzTo.bz 4 rfl).c ?_
    refine G (T := T) 1000 rfl ?_
    refine Ck [0, 1, 2] (aw hc.hl hc.hll (n := 8) (by omega) (by omega)) rfl rfl rfl rfl rfl rfl rfl ⟨⟨rfl, rfl⟩, rfl⟩ ?_
    rintro _ ⟨q8, rfl, _, _⟩
    refine G (T := T) 1000 rfl ?_
    refine If rfl (fun h => ?_) (fun h => ?_)
    · refine G (T := T) 1000 rfl ?_
      rw [one hd]
      refine Ck [0, 1, 2] (ih (d + 1) (by omega) (by omega) c hc) rfl rfl rfl rfl rfl rfl rfl ⟨⟨rfl, rfl⟩, rfl⟩ ?_
      rintro _ ⟨e2, rfl, he2⟩
      refine G (T := T) 1000 rfl ?_
      refine Cq (aE y e e2) rfl rfl rfl rfl rfl ⟨rfl, rfl⟩ ?_
      refine G (T := T) 1000 rfl ?_
      exact Fm (T := T) id (xd (exD (eL y e e2))) (mkB c) (fin (eO hyl he he2) (by omega)) rfl
    · refine G (T := T) 1000 rfl ?_
      rw [show ((D : Nat) : Int) - 2 = ((d : Nat) : Int) by omega]
      refine Ck [0, 1, 2] (ih d (by omega) (by omega) c hc) rfl rfl rfl rfl rfl rfl rfl ⟨⟨rfl, rfl⟩, rfl⟩ ?_
      rintro _ ⟨e2, rfl, he2⟩
      refine G (T := T) 1000 rfl ?_
      refine Cq (av (n := 1) (by omega) (by omega)) rfl rfl rfl rfl rfl ⟨rfl, rfl⟩ ?_
      refine G (T := T) 1000 rfl ?_
      refine Cq (aE ⟨#[124]⟩ e2 (bK 1)) rfl rfl rfl rfl rfl ⟨rfl, rfl⟩ ?_
      refine G (T := T) 1000 rfl ?_
      refine Cq (aE y e (eL ⟨#[124]⟩ e2 (bK 1))) rfl rfl rfl rfl rfl ⟨rfl, rfl⟩ ?_
      refine G (T := T) 1000 rfl ?_
      exact Fm (T := T) id (xd (exD (eL y e (eL ⟨#[124]⟩ e2 (bK 1))))) (mkB c) (fin (eO hyl he (eO (by decide) he2 (fD (by omega) (by omega)))) (by omega)) rfl
  refine G (T := T) 1000 rfl ?_
  refine If rfl (fun h => ?_) (fun h => ?_)
  · obtain ⟨d, hd, s1, s2, s3⟩ := big (by have := of_decide_eq_true h; omega)
    refine G (T := T) 1000 rfl ?_
    refine Ck [0, 1, 2] (aw hc.hl hc.hll (n := 16) (by omega) (by omega)) rfl rfl rfl rfl rfl rfl rfl ⟨⟨rfl, rfl⟩, rfl⟩ ?_
    rintro _ ⟨q, rfl, q1, q2⟩
    obtain ⟨j, y, rfl, hy, hyl⟩ := dH (l := bin16) (p := fun s => aC s opsL = true) (by decide) q1 q2
    refine G (T := T) 253 rfl ?_
    refine Ix (T := T) (rows := bin16.map cq) j (aa hy) rfl rfl rfl rfl ⟨rfl, rfl⟩ rfl rfl ?_
    refine G (T := T) 1000 rfl ?_
    rw [one hd]
    refine Ck [0, 1, 2] (ih (d + 1) (by omega) (by omega) c hc) rfl rfl rfl rfl rfl rfl rfl ⟨⟨rfl, rfl⟩, rfl⟩ ?_
    rintro _ ⟨e, rfl, he⟩
    refine G (T := T) 100038 rfl ?_
    refine (FzTo.bz 4 rfl).c ?_
    refine G (T := T) 1000 rfl ?_
    rw [one hd]
    refine Ck [0, 1, 2] (ih (d + 1) (by omega) (by omega) c hc) rfl rfl rfl rfl rfl rfl rfl ⟨⟨rfl, rfl⟩, rfl⟩ ?_
    rintro _ ⟨e2, rfl, he2⟩
    refine G (T := T) 1000 rfl ?_
    refine Cq (aE y e e2) rfl rfl rfl rfl rfl ⟨rfl, rfl⟩ ?_
    refine G (T := T) 1000 rfl ?_
    exact Fm (T := T) id (xd (exD (eL y e e2))) (mkB c) (fin (eO hyl he he2) (by omega)) rfl
  refine G (T := T) 1000 rfl ?_
  refine Ck [0, 1, 2] hcon rfl rfl rfl rfl rfl rfl rfl ⟨⟨rfl, rfl⟩, rfl⟩ ?_
  rintro _ ⟨e, rfl, he⟩
  refine G (T := T) 1000 rfl ?_
  exact Fm (T := T) id (xd (exD e)) (mkB c) (fin he (by omega)) rfl
end
section
open Go Go.RowKit Go.Proofs K
variable {pk : Pk}
def dg1 (n : Nat) : UInt8 := UInt8.ofNat (48 + n)
def vN (n : Nat) : ByteArray := ⟨#[118, dg1 n]⟩
def lN (n : Nat) : ByteArray := ⟨#[76, dg1 n]⟩
theorem vN_loc : ∀ n, 1 ≤ n → n ≤ 9 → dR (vN n) = true := by
  intro n h1 h2
  have : ∀ n : Nat, n ≤ 9 → 1 ≤ n → dR (vN n) = true := by decide +kernel
  exact this n h2 h1
theorem lN_id : ∀ n, n ≤ 9 → ae (lN n) = true := by decide +kernel
theorem ia {n : Nat} (h : n < 10) : XQ Tryz.prog pk 153 [xi (n : Nat)] (xs ⟨#[dg1 n]⟩) := by
  refine XQ.en Tryz.func153 Tryz.ntmps153 (fun w0 own H V v0 hf => ?_)
  have t1 : 0 ≤ (n : Int).tmod 10 ∧ (n : Int).tmod 10 < 10 := ⟨Int.tmod_nonneg 10 (Int.natCast_nonneg n), Int.tmod_lt_of_pos (n : Int) (by omega)⟩
  refine G (T := T) 9 rfl ?_
  rw [fC n, Nat.mod_eq_of_lt h]
  refine Cd (T := T) [dg1 n] rfl rfl rfl rfl rfl rfl ⟨rfl, rfl⟩ ?_
  refine G (T := T) 1000 rfl ?_
  refine IfT rfl (decide_eq_true (by omega)) ?_
  refine G (T := T) 1000 rfl ?_
  exact Fe (T := T) rfl rfl
theorem nV {c : KC} (h : c.mn < 8) : XS' Tryz.prog pk 116 [pm] (mkB c) 3 (fun _ : Unit => True) (fun _ => xs (vN (c.mn + 1))) (fun _ => mkQ c.l c.fs c.tn c.me c.vars c.labels c.lf (c.mn + 1) c.ct 0 0) := by
  refine XM.en Tryz.func116 Tryz.ntmps116 (fun w0 own H V v0 hf => ?_)
  refine G (T := T) 1000 rfl ?_
  refine Cq (ia (n := c.mn + 1) (by omega)) rfl rfl rfl rfl rfl ⟨rfl, rfl⟩ ?_
  refine G (T := T) 1000 rfl ?_ ⟨by show 1 + 1 ≤ 9223372036854775807; omega, trivial⟩
  exact Fm (T := T) id (xs (vN (c.mn + 1))) (mkQ c.l c.fs c.tn c.me c.vars c.labels c.lf (c.mn + 1) c.ct 0 0) ⟨(), trivial, rfl, rfl⟩ rfl
def outS (n : Int) (e : Ex) : Sm := .mk 11 eS ty4z n [e] [] [] []
theorem kW {c : KC} (hc : c.ok) : XKp Tryz.prog pk 123 [pm] (mkB c) 3 (fun r => ∃ s, r = xd (smD s) ∧ SG (SB 4 + 2) s) := by
  refine XM.en Tryz.func123 Tryz.ntmps123 (fun w0 own H V v0 hf => ?_)
  refine G (T := T) 1000 rfl ?_
  refine Ck [0, 1, 2] (aw hc.hl hc.hll (n := 9) (by omega) (by omega)) rfl rfl rfl rfl rfl rfl rfl ⟨⟨rfl, rfl⟩, rfl⟩ ?_
  rintro _ ⟨q, rfl, q1, q2⟩
  refine G (T := T) 7 rfl ?_
  rw [mM (n := 1 + q) (by omega) (by omega)]
  refine G (T := T) 1000 rfl ?_
  refine Ck [0, 1, 2] (bR 4 (by omega) c hc) rfl rfl rfl rfl rfl rfl rfl ⟨⟨rfl, rfl⟩, rfl⟩ ?_
  rintro _ ⟨e, rfl, he⟩
  refine G (T := T) 1000 rfl ?_
  exact Fm (T := T) id (xd (smD (outS (1 + q) e))) (mkB c) ⟨⟨_, rfl, (sg_out (by omega) (by omega) he).mono (by omega)⟩, rfl⟩ rfl
theorem mk_giving {c : KC} (hc : c.ok) : XKp Tryz.prog pk 122 [pm] (mkB c) 3 (fun r => ∃ s, r = xd (smD s) ∧ SG (SB 3 + 2) s) := by
  obtain ⟨f, hf9⟩ := al (l := c.fs) (j := c.me) hc.hme
  have hme := hc.hme
  have hfl := hc.hfl
  refine XM.en Tryz.func122 Tryz.ntmps122 (fun w0 own H V v0 hf => ?_)
  refine G (T := T) 13 rfl ?_
  refine Ix (T := T) c.me (aa hf9) rfl rfl rfl rfl ⟨rfl, rfl⟩ rfl rfl ?_
  refine G (T := T) 1000 rfl ?_
  refine If rfl (fun h => ?_) (fun h => ?_)
  · refine G (T := T) 1000 rfl ?_
    refine Ck [0, 1, 2] (bR 3 (by omega) c hc) rfl rfl rfl rfl rfl rfl rfl ⟨⟨rfl, rfl⟩, rfl⟩ ?_
    rintro _ ⟨e, rfl, he⟩
    refine G (T := T) 1000 rfl ?_
    exact Fm (T := T) id (xd (smD (.mk 10 eS ty4z 0 [e] [] [] []))) (mkB c) ⟨⟨_, rfl, (sg_ret (by simp) (EGs.one he)).mono (by omega)⟩, rfl⟩ rfl
  · refine G (T := T) 1000 rfl ?_
    exact Fm (T := T) id (xd (smD (.mk 10 eS ty4z 0 [] [] [] []))) (mkB c) ⟨⟨_, rfl, (sg_ret (by simp) EGs.nil).mono (by omega)⟩, rfl⟩ rfl
end
section
open Go Go.RowKit Go.Proofs K
variable {pk : Pk}
structure KV where
  vars : List ByteArray
  lf : Nat
  mn : Nat
  ct : Nat
structure KI (V : Nat) (v : KV) : Prop where
  hv : ∀ s ∈ v.vars, dR s = true
  vl : v.vars.length + v.lf ≤ V
  m8 : v.mn ≤ 8
  cl : v.ct + v.lf ≤ 8
  V5 : V ≤ 500
abbrev KW (c : KC) (v : KV) (lab : List ByteArray) : KC := ⟨c.l, c.fs, c.tn, c.me, v.vars, lab, v.lf, v.mn, v.ct⟩
theorem KC.ok.kw {c : KC} (h : c.ok) {V : Nat} {v : KV} (k : KI V v) {lab : List ByteArray} (h1 : ∀ s ∈ lab, ae s = true) (h2 : lab.length ≤ 1000) : (KW c v lab).ok := ⟨h.hl, h.hll, k.hv, by have := k.vl; have := k.V5; show v.vars.length ≤ 1000; omega, h.hme, h.hfl, h.hf, h.htn, h1, h2⟩
abbrev StC (pk : Pk) (f : FuncId) (args : List XV) (c : KC) (V B : Nat) : Prop := XS' Tryz.prog pk f args (mkB c) 3 (fun a : KV × List Sm => KI V a.1 ∧ SGs B a.2) (fun a => xr (a.2.map smD)) (fun a => mkQ c.l c.fs c.tn c.me a.1.vars c.labels a.1.lf a.1.mn a.1.ct 1 1)
def jW (pk : Pk) (k : Nat) : Prop := ∀ (c : KC) (V deep : Nat), c.ok → KI V ⟨c.vars, c.lf, c.mn, c.ct⟩ → deep + k = 4 → c.labels.length + k ≤ 8 → StC pk 68 [pm, xi (deep : Nat)] c V (ZB k)
theorem gA (l : List Sm) : ∀ r ∈ l.map smD, r.length = 11 := fun r hr => by
  obtain ⟨s, _, rfl⟩ := List.mem_map.1 hr
  rfl
theorem SGs.len {B : Nat} {l : List Sm} (h : SGs B l) : l.length ≤ B := Nat.le_trans (Sm.len_le l) h.s
def downS (n : ByteArray) : Sm := .mk 2 eS ty4z 0 [ao n, eL ⟨#[45]⟩ (ao n) (bK 1)] [] [] []
def letS (n : ByteArray) (k : Int) (e : Ex) : Sm := .mk 1 n (.mk k eS 0 []) 0 [e] [] [] []
def whiS (l n : ByteArray) (b : List Sm) : Sm := .mk 4 l ty4z 0 [ao n] b [] []
def jmp2 : List Int := [7, 8]
def jumpS (k : Int) (l : ByteArray) : Sm := .mk k l ty4z 0 [] [] [] []
def ifS (e : Ex) (b el : List Sm) : Sm := .mk 3 eS ty4z 0 [e] b el []
theorem jmp2_get {q : Int} (h0 : 0 ≤ q) (h1 : q < 2) : ∃ j k, q = ((j : Nat) : Int) ∧ jmp2[j]? = some k ∧ (k = 7 ∨ k = 8) := by
  obtain ⟨j, rfl⟩ := Int.eq_ofNat_of_zero_le h0
  have : j = 0 ∨ j = 1 := by omega
  rcases this with rfl | rfl
  · exact ⟨0, 7, rfl, rfl, .inl rfl⟩
  · exact ⟨1, 8, rfl, rfl, .inr rfl⟩
theorem tyk_G {k : Int} (h : k = 1 ∨ k = 2 ∨ k = 3) : rTy (.mk k eS 0 []) = true ∧ (Ty4.mk k eS 0 []).ok ∧ (Ty4.mk k eS 0 []).size ≤ 1 := by
  refine ⟨by rcases h with rfl | rfl | rfl <;> rfl, ⟨⟨by omega, by omega⟩, by decide, ⟨by omega, by omega⟩, trivial⟩, by simp [Ty4.size, Ty4.sizes]⟩
theorem mN {n : ByteArray} (h : dR n = true) : SG 6 (downS n) := (sg_asg (A := 1) (B := 3) ⟨hO h, rfl⟩ (eO (by decide) (hO h) (fD (by omega) (by omega)))).mono (by omega)
abbrev smB (g : Nat) (k : Int) (nm : ByteArray) (xs : XC) (b : XC) : XB := ⟨g, 0, .cells [.d (.c (.int .i64 k)), .d (.c (.string nm)), .d (.c (.int .i64 0)), .d (.c (.string eS)), .d (.c (.int .i64 0)), .z, .d (.c (.int .u16 0)), xs, b, .z, .z] 66⟩
theorem oK {k : Nat} (ih : jW pk k) (hk : k ≤ 3) {c : KC} {V deep : Nat} (hc : c.ok) (hI : KI V ⟨c.vars, c.lf, c.mn, c.ct⟩) (hV : c.vars.length + c.lf + 1 ≤ V) (hC : c.ct + c.lf + 1 ≤ 8) (h8 : c.mn < 8) (hd : deep + 1 + k = 4) (hlab : c.labels.length + k + 1 ≤ 8) :
    StC pk 119 [pm, xi (deep : Nat)] c V (ZB k + 2400) := by
  have hz := ZB_le (k := k) (by omega)
  have hV5 := hI.V5
  have hvn := vN_loc (c.mn + 1) (by omega) (by omega)
  refine XM.en Tryz.func119 Tryz.ntmps119 (fun w0 own H V' v0 hf => ?_)
  refine G (T := T) 1000 rfl ?_
  refine Cx' [0, 1, 2] (fun _ => mkQ c.l c.fs c.tn c.me c.vars c.labels c.lf (c.mn + 1) c.ct 0 0) (nV h8) rfl rfl rfl rfl rfl rfl rfl ⟨⟨rfl, rfl⟩, rfl⟩ (fun _ => rfl) (fun _ => rfl) ?_
  rintro _ -
  refine G (T := T) 1000 rfl ?_
  refine Cq (ad (vN (c.mn + 1))) rfl rfl rfl rfl rfl ⟨rfl, rfl⟩ ?_
  refine G (T := T) 100003 rfl ?_
  refine (FzTo.bz 3 rfl).c ?_
  generalize hN : vN (c.mn + 1) = N at hvn ⊢
  have hc1 : ({ c with mn := c.mn + 1 } : KC).ok := ⟨hc.hl, hc.hll, hc.hv, hc.hvl, hc.hme, hc.hfl, hc.hf, hc.htn, hc.hlb, hc.hlbl⟩
  refine G (T := T) 1000 rfl ?_
  refine Ck [0, 1, 2] (aw hc1.hl hc1.hll (n := 5) (by omega) (by omega)) rfl rfl rfl rfl rfl rfl rfl ⟨⟨rfl, rfl⟩, rfl⟩ ?_
  rintro _ ⟨q, rfl, q1, q2⟩
  refine G (T := T) 1000 rfl ?_
  refine Cq (av (n := q) q1 (by omega)) rfl rfl rfl rfl rfl ⟨rfl, rfl⟩ ?_
  refine G (T := T) 100004 rfl ?_
  refine (FzTo.bz 4 rfl).c ?_
  refine G (T := T) 1000 rfl ?_
  refine Cq (av (n := 1) (by omega) (by omega)) rfl rfl rfl rfl rfl ⟨rfl, rfl⟩ ?_
  refine G (T := T) 1000 rfl ?_
  refine Cq (aE ⟨#[45]⟩ (ao N) (bK 1)) rfl rfl rfl rfl rfl ⟨rfl, rfl⟩ ?_
  refine G (T := T) 100006 rfl ?_
  refine (FzTo.bz 6 rfl).c ?_
  refine G (T := T) 1000 rfl ?_
  refine Ck [0, 1, 2] (aw hc1.hl hc1.hll (n := 2) (by omega) (by omega)) rfl rfl rfl rfl rfl rfl rfl ⟨⟨rfl, rfl⟩, rfl⟩ ?_
  rintro _ ⟨q2', rfl, _, _⟩
  refine G (T := T) 1000 rfl ?_
  refine Cf [0, 5, 7, 8] (fun (_ : ByteArray × KV × Nat × List (List D) × List Sm) r => r) (fun a => mkQ c.l c.fs c.tn c.me a.2.1.vars c.labels a.2.1.lf a.2.1.mn a.2.1.ct 1 1 ++ [smB 5 4 a.1 (.d (.s [exD (ao N)])) (.l 7 1 11 0 a.2.2.1 a.2.2.1), ⟨7, 1, .row a.2.2.1 a.2.2.2.1 66 11⟩]) 8 (fun a => a.2.2.1 = a.2.2.2.2.length ∧ a.2.2.2.1 = a.2.2.2.2.map smD ∧ (a.1 = eS ∨ ae a.1 = true) ∧ KI (V - 1) a.2.1 ∧ SGs (ZB k + 2300) a.2.2.2.2) rfl ?_ ?_
  · refine If rfl (fun h => ?_) (fun h => ?_)
    · refine G (T := T) 1000 rfl ?_
      refine Cq (ia (n := c.ct + 1) (by omega)) rfl rfl rfl rfl rfl ⟨rfl, rfl⟩ ?_
      have hln := lN_id (c.ct + 1) (by omega)
      refine G (T := T) 47 rfl ?_ ⟨by show 1 + 1 ≤ 9223372036854775807; omega, trivial⟩
      rw [show (⟨#[76]⟩ : ByteArray) ++ ⟨#[dg1 (c.ct + 1)]⟩ = lN (c.ct + 1) from rfl]
      generalize lN (c.ct + 1) = L at hln ⊢
      refine G (T := T) 60 rfl ?_
      have e1 : c.labels.map cq ++ [[D.c (.string L)]] = (c.labels ++ [L]).map cq := by rw [List.map_append]; rfl
      have e2 : c.labels.length + 1 = (c.labels ++ [L]).length := by simp
      rw [e1, e2]
      have hlb : ∀ s ∈ c.labels ++ [L], ae s = true := fun s hs => by
        rcases List.mem_append.1 hs with hs | hs
        · exact hc.hlb s hs
        · rw [List.mem_singleton.1 hs]; exact hln
      have hll2 : (c.labels ++ [L]).length ≤ 1000 := by rw [← e2]; omega
      refine Br (T := T) rfl rfl rfl rfl rfl ⟨rfl, rfl⟩ ?_
      refine G (T := T) 1000 rfl ?_
      have hI0 : KI (V - 1) ⟨c.vars, c.lf, c.mn + 1, c.ct + 1⟩ := ⟨hI.hv, by show c.vars.length + c.lf ≤ _; omega, by show c.mn + 1 ≤ 8; omega, by show c.ct + 1 + c.lf ≤ 8; omega, by omega⟩
      refine Cx' [0, 1, 2] (fun a => mkQ c.l c.fs c.tn c.me a.1.vars (c.labels ++ [L]) a.1.lf a.1.mn a.1.ct 1 2) (ih (KW c ⟨c.vars, c.lf, c.mn + 1, c.ct + 1⟩ (c.labels ++ [L])) (V - 1) (deep + 1) (hc.kw hI0 hlb hll2) hI0 hd (by show (c.labels ++ [L]).length + k ≤ 8; omega)) rfl rfl rfl rfl rfl rfl rfl ⟨⟨rfl, rfl⟩, rfl⟩ (fun _ => rfl) (fun _ => rfl) ?_
      rintro ⟨v, ss⟩ ⟨hI2, hS⟩; dsimp only at hI2 hS ⊢
      have hlen := hS.len
      have hmap : (ss.map smD).length = ss.length := List.length_map ..
      have hc2 := hc.kw hI2 hlb hll2
      refine G (T := T) 65 rfl ?_
      refine Ap (T := T) rfl (gA ss) rfl rfl rfl rfl rfl rfl ⟨rfl, rfl⟩ (by rw [List.length_map]; omega) (by rw [List.length_map]; omega) ?_
      refine G (T := T) 1000 rfl ?_
      refine Ck [0, 1, 2] (aw (c := KW c v (c.labels ++ [L])) hc2.hl hc2.hll (n := 2) (by omega) (by omega)) rfl rfl rfl rfl rfl rfl rfl ⟨⟨rfl, rfl⟩, rfl⟩ ?_
      rintro _ ⟨q3, rfl, _, _⟩
      refine G (T := T) 1000 rfl ?_
      refine Cf [0, 5, 7, 8] (fun (_ : Nat × List (List D) × List Sm) r => r) (fun a => mkQ c.l c.fs c.tn c.me v.vars (c.labels ++ [L]) v.lf v.mn v.ct 1 1 ++ [smB 5 4 L (.d (.s [exD (ao N)])) (.l 7 1 11 0 a.1 a.1), ⟨7, 1, .row a.1 a.2.1 66 11⟩]) 8 (fun a => a.1 = a.2.2.length ∧ a.2.1 = a.2.2.map smD ∧ SGs (ZB k + 2300) a.2.2) rfl ?_ ?_
      · refine If rfl (fun h => ?_) (fun h => ?_)
        · refine G (T := T) 100012 rfl ?_
          refine Ods (T := T) [0, 1, 5, 6, 8, 2, 3, 4, 7, 9] rfl ?_
          refine G (T := T) 1000 rfl ?_
          refine Ck [0, 1, 2] (aw (c := KW c v (c.labels ++ [L])) hc2.hl hc2.hll (n := 2) (by omega) (by omega)) rfl rfl rfl rfl rfl rfl rfl ⟨⟨rfl, rfl⟩, rfl⟩ ?_
          rintro _ ⟨q4, rfl, q41, q42⟩
          obtain ⟨j, jk, rfl, hj, hjk⟩ := jmp2_get q41 q42
          refine G (T := T) 73 rfl ?_
          refine Ix (T := T) (rows := jmp2.map gu) j (aa hj) rfl rfl rfl rfl ⟨rfl, rfl⟩ rfl rfl ?_
          refine G (T := T) 100013 rfl ?_
          refine (FzTo.bz 8 rfl).c ?_
          refine Ods (T := T) [0, 1, 2, 5, 6, 3, 4, 7, 8, 9, 10, 11] rfl ?_
          refine G (T := T) 1000 rfl ?_
          refine Ck [0, 1, 2] (bR 2 (by omega) _ hc2) rfl rfl rfl rfl rfl rfl rfl ⟨⟨rfl, rfl⟩, rfl⟩ ?_
          rintro _ ⟨e, rfl, he⟩
          refine G (T := T) 1000 rfl ?_
          refine Ck [0, 1, 2] (kW hc2) rfl rfl rfl rfl rfl rfl rfl ⟨⟨rfl, rfl⟩, rfl⟩ ?_
          rintro _ ⟨s, rfl, hs⟩
          refine G (T := T) 1000 rfl ?_
          refine Dn (_, _, ((downS N :: ss) ++ [ifS e [jumpS jk L] []]) ++ [s]) ⟨?_, ?_, (((SGs.cons (mN hvn) hS).snoc (kV he (SGs.one (mL hjk hln)) SGs.nil)).snoc hs).mono (by rw [SB2, SB4]; omega)⟩ ⟨⟨_, _, rfl, rfl⟩, rfl, rfl⟩
          · dsimp only; rw [List.length_map, List.length_append, List.length_append, List.length_cons]; simp only [List.length_cons, List.length_nil]; omega
          · dsimp only; rw [List.map_append, List.map_append]; rfl
        · refine G (T := T) 1000 rfl ?_
          refine Dn (_, _, downS N :: ss) ⟨?_, ?_, (SGs.cons (mN hvn) hS).mono (by omega)⟩ ⟨⟨_, _, rfl, rfl⟩, rfl, rfl⟩
          · dsimp only; rw [List.length_map, List.length_cons]; omega
          · rfl
      rintro ⟨n, R, bs⟩ ⟨hn9, hR9, hS3⟩; dsimp only at hn9 hR9 hS3 ⊢; subst hn9 hR9
      refine G (T := T) 107 rfl ?_
      refine Po (T := T) c.labels.length rfl rfl rfl rfl rfl rfl ⟨rfl, rfl⟩ (by rw [← e2]; omega) (by rw [← e2]; omega) rfl rfl ?_
      rw [show ((c.labels ++ [L]).map cq).take c.labels.length = c.labels.map cq by simp]
      refine G (T := T) 1000 rfl ?_
      exact Dn (L, v, _, _, bs) ⟨rfl, rfl, .inr hln, hI2, hS3⟩
    · refine G (T := T) 111 rfl ?_
      refine Br (T := T) rfl rfl rfl rfl rfl ⟨rfl, rfl⟩ ?_
      refine G (T := T) 1000 rfl ?_
      refine Cx' [0, 1, 2] (fun a => mkQ c.l c.fs c.tn c.me a.1.vars c.labels a.1.lf a.1.mn a.1.ct 1 1) (ih (KW c ⟨c.vars, c.lf, c.mn + 1, c.ct⟩ c.labels) (V - 1) (deep + 1) hc1 ⟨hI.hv, by show c.vars.length + c.lf ≤ _; omega, by show c.mn + 1 ≤ 8; omega, hI.cl, by omega⟩ hd (by show c.labels.length + k ≤ 8; omega)) rfl rfl rfl rfl rfl rfl rfl ⟨⟨rfl, rfl⟩, rfl⟩ (fun _ => rfl) (fun _ => rfl) ?_
      rintro ⟨v, ss⟩ ⟨hI2, hS⟩; dsimp only at hI2 hS ⊢
      have hlen := hS.len
      have hmap : (ss.map smD).length = ss.length := List.length_map ..
      refine G (T := T) 116 rfl ?_
      refine Ap (T := T) rfl (gA ss) rfl rfl rfl rfl rfl rfl ⟨rfl, rfl⟩ (by rw [List.length_map]; omega) (by rw [List.length_map]; omega) ?_
      refine G (T := T) 1000 rfl ?_
      refine Dn (eS, v, _, _, downS N :: ss) ⟨?_, ?_, .inl rfl, hI2, (SGs.cons (mN hvn) hS).mono (by omega)⟩ ⟨⟨_, _, rfl, rfl⟩, rfl, rfl⟩
      · dsimp only; rw [List.length_map, List.length_cons]; omega
      · rfl
  rintro ⟨nm, v, n, R, bs⟩ ⟨hn9, hR9, hnm, hI2, hS⟩; dsimp only at hn9 hR9 hnm hI2 hS ⊢; subst hn9 hR9
  have hvl2 := hI2.vl
  have hbl := hS.len
  refine G (T := T) 100018 rfl ?_
  have e1 : v.vars.map cq ++ [[D.c (.string N)]] = (v.vars ++ [N]).map cq := by rw [List.map_append]; rfl
  have e2 : v.vars.length + 1 = (v.vars ++ [N]).length := by simp
  rw [e1, e2]
  refine Zc 7 rfl ?_
  refine G (T := T) 1000 rfl ?_
  have hT := tyk_G (k := 1) (.inl rfl)
  refine Fm (T := T) id (xr [smD (letS N 1 (bK q)), [.c (.int .i64 4), .c (.string nm), .c (.int .i64 0), .c (.string eS), .c (.int .i64 0), .s [], .c (.int .u16 0), .s [exD (ao N)], .s (bs.map smD), .s [], .s []]]) (mkQ c.l c.fs c.tn c.me (v.vars ++ [N]) c.labels v.lf v.mn v.ct 1 1) ⟨(⟨v.vars ++ [N], v.lf, v.mn, v.ct⟩, [letS N 1 (bK q), whiS nm N bs]), ⟨⟨fun s hs => ?_, by show (v.vars ++ [N]).length + v.lf ≤ V; omega, hI2.m8, hI2.cl, hV5⟩, ?_⟩, ?_, rfl⟩ rfl
  · rcases List.mem_append.1 hs with hs | hs
    · exact hI2.hv s hs
    · rw [List.mem_singleton.1 hs]; exact hvn
  · exact (SGs.cons (sg_let hvn hT.1 hT.2.1 hT.2.2 (fD q1 (by omega))) (SGs.one (sg_while hnm (hO hvn) hS))).mono (by omega)
  · show _ = xr [smD (letS N 1 (bK q)), smD (whiS nm N bs)]
    rw [whiS, dW]
    rfl
end
section
open Go Go.RowKit Go.Proofs K
variable {pk : Pk}
def blkS (k : Int) (l : ByteArray) (b : List Sm) : Sm := .mk k l ty4z 0 [] b [] []
theorem nW {k : Nat} (ih : jW pk k) (hk : k ≤ 3) {c : KC} {V deep : Nat} (hc : c.ok) (hI : KI V ⟨c.vars, c.lf, c.mn, c.ct⟩) (hC : c.ct + c.lf + 1 ≤ 8) (hd : deep + 1 + k = 4) (hlab : c.labels.length + k + 1 ≤ 8) :
    XS' Tryz.prog pk 120 [pm, xi (deep : Nat)] (mkB c) 3 (fun a : KV × Sm => KI V a.1 ∧ SG (ZB k + 700) a.2) (fun a => xd (smD a.2)) (fun a => mkQ c.l c.fs c.tn c.me a.1.vars c.labels a.1.lf a.1.mn a.1.ct 1 1) := by
  have hz := ZB_le (k := k) (by omega)
  have hV5 := hI.V5
  refine XM.en Tryz.func120 Tryz.ntmps120 (fun w0 own H V' v0 hf => ?_)
  refine G (T := T) 1000 rfl ?_
  refine Cq (ia (n := c.ct + 1) (by omega)) rfl rfl rfl rfl rfl ⟨rfl, rfl⟩ ?_
  have hln := lN_id (c.ct + 1) (by omega)
  refine G (T := T) 20 rfl ?_ ⟨by show 1 + 1 ≤ 9223372036854775807; omega, trivial⟩
  rw [show (⟨#[76]⟩ : ByteArray) ++ ⟨#[dg1 (c.ct + 1)]⟩ = lN (c.ct + 1) from rfl]
  generalize lN (c.ct + 1) = L at hln ⊢
  refine G (T := T) 100004 rfl ?_
  have e1 : c.labels.map cq ++ [[D.c (.string L)]] = (c.labels ++ [L]).map cq := by rw [List.map_append]; rfl
  have e2 : c.labels.length + 1 = (c.labels ++ [L]).length := by simp
  rw [e1, e2]
  have hlb : ∀ s ∈ c.labels ++ [L], ae s = true := fun s hs => by
    rcases List.mem_append.1 hs with hs | hs
    · exact hc.hlb s hs
    · rw [List.mem_singleton.1 hs]; exact hln
  have hll2 : (c.labels ++ [L]).length ≤ 1000 := by rw [← e2]; omega
  have hI0 : KI V ⟨c.vars, c.lf, c.mn, c.ct + 1⟩ := ⟨hI.hv, hI.vl, hI.m8, by show c.ct + 1 + c.lf ≤ 8; omega, hV5⟩
  have hc1 := hc.kw hI0 hlb hll2
  refine Ods (T := T) [0, 1, 2, 3, 4, 5, 6, 7, 8, 9, 14, 10, 11, 12, 13, 15] rfl ?_
  refine G (T := T) 1000 rfl ?_
  refine Ck [0, 1, 2] (aw (c := KW c ⟨c.vars, c.lf, c.mn, c.ct + 1⟩ (c.labels ++ [L])) hc1.hl hc1.hll (n := ((c.labels ++ [L]).length : Nat)) (by omega) (by omega)) rfl rfl rfl rfl rfl rfl rfl ⟨⟨rfl, rfl⟩, rfl⟩ ?_
  rintro _ ⟨q, rfl, q1, q2⟩
  obtain ⟨j, y, rfl, hy, hyl⟩ := dH hlb q1 q2
  refine G (T := T) 43 rfl ?_
  refine Iq (T := T) j rfl rfl rfl rfl rfl ⟨rfl, rfl⟩ rfl (by omega) rfl ?_
  refine Lr (T := T) (aa hy) rfl rfl rfl rfl ⟨rfl, rfl⟩ rfl rfl ?_
  refine G (T := T) 100005 rfl ?_
  refine (FzTo.bz 5 rfl).c ?_
  refine Ods (T := T) [0, 3, 4, 1, 2, 5, 6, 7, 8] rfl ?_
  refine G (T := T) 1000 rfl ?_
  refine Ck [0, 1, 2] (bR 3 (by omega) _ hc1) rfl rfl rfl rfl rfl rfl rfl ⟨⟨rfl, rfl⟩, rfl⟩ ?_
  rintro _ ⟨e, rfl, he⟩
  refine G (T := T) 52 rfl ?_
  refine Br (T := T) rfl rfl rfl rfl rfl ⟨rfl, rfl⟩ ?_
  refine G (T := T) 1000 rfl ?_
  refine Cx' [0, 1, 2] (fun a => mkQ c.l c.fs c.tn c.me a.1.vars (c.labels ++ [L]) a.1.lf a.1.mn a.1.ct 1 2) (ih (KW c ⟨c.vars, c.lf, c.mn, c.ct + 1⟩ (c.labels ++ [L])) V (deep + 1) hc1 hI0 hd (by show (c.labels ++ [L]).length + k ≤ 8; omega)) rfl rfl rfl rfl rfl rfl rfl ⟨⟨rfl, rfl⟩, rfl⟩ (fun _ => rfl) (fun _ => rfl) ?_
  rintro ⟨v, ss⟩ ⟨hI2, hS⟩; dsimp only at hI2 hS ⊢
  have hlen := hS.len
  have hmap : (ss.map smD).length = ss.length := List.length_map ..
  have hc2 := hc.kw hI2 hlb hll2
  refine G (T := T) 60 rfl ?_
  refine Ap (T := T) rfl (gA ss) rfl rfl rfl rfl rfl rfl ⟨rfl, rfl⟩ (by rw [List.length_map]; omega) (by rw [List.length_map]; omega) ?_
  refine G (T := T) 1000 rfl ?_
  refine Ck [0, 1, 2] (aw (c := KW c v (c.labels ++ [L])) hc2.hl hc2.hll (n := 2) (by omega) (by omega)) rfl rfl rfl rfl rfl rfl rfl ⟨⟨rfl, rfl⟩, rfl⟩ ?_
  rintro _ ⟨q3, rfl, _, _⟩
  refine G (T := T) 1000 rfl ?_
  have hif : SG 516 (ifS e [jumpS 7 y] []) := (kV he (SGs.one (mL (.inl rfl) hyl)) SGs.nil).mono (by rw [SB3]; omega)
  have hS2 := SGs.cons hif hS
  refine Cf [0, 4, 5] (fun (_ : Int × Nat × List (List D) × List Sm) r => r) (fun a => mkQ c.l c.fs c.tn c.me v.vars (c.labels ++ [L]) v.lf v.mn v.ct 1 1 ++ [smB 4 a.1 L .z (.l 6 1 11 0 a.2.1 a.2.1), ⟨6, 1, .row a.2.1 a.2.2.1 66 11⟩, smB 3 0 eS .z .z]) 7 (fun a => (a.1 = 5 ∨ a.1 = 6) ∧ a.2.1 = a.2.2.2.length ∧ a.2.2.1 = a.2.2.2.map smD ∧ SGs (ZB k + 600) a.2.2.2) rfl ?_ ?_
  · refine If rfl (fun h => ?_) (fun h => ?_)
    · refine G (T := T) 1000 rfl ?_
      refine Dn (5, _, _, (ifS e [jumpS 7 y] [] :: ss) ++ [jumpS 7 L]) ⟨.inl rfl, ?_, ?_, (hS2.snoc (mL (.inl rfl) hln)).mono (by omega)⟩ ⟨⟨_, _, rfl, rfl⟩, rfl, rfl⟩
      · dsimp only; rw [List.length_map, List.length_append, List.length_cons]; simp only [List.length_cons, List.length_nil]; omega
      · dsimp only; rw [List.map_append]; rfl
    · refine G (T := T) 1000 rfl ?_
      refine Dn (6, _, _, ifS e [jumpS 7 y] [] :: ss) ⟨.inr rfl, ?_, ?_, hS2.mono (by omega)⟩ ⟨⟨_, _, rfl, rfl⟩, rfl, rfl⟩
      · dsimp only; rw [List.length_map, List.length_cons]; omega
      · rfl
  rintro ⟨kk, n, R, bs⟩ ⟨hkk, hn9, hR9, hS3⟩; dsimp only at hkk hn9 hR9 hS3 ⊢; subst hn9 hR9
  refine G (T := T) 85 rfl ?_
  refine Po (T := T) c.labels.length rfl rfl rfl rfl rfl rfl ⟨rfl, rfl⟩ (by rw [← e2]; omega) (by rw [← e2]; omega) rfl rfl ?_
  rw [show ((c.labels ++ [L]).map cq).take c.labels.length = c.labels.map cq by simp]
  refine G (T := T) 100011 rfl ?_
  refine Zc 6 rfl ?_
  refine G (T := T) 1000 rfl ?_
  refine Fm (T := T) id (xd [.c (.int .i64 kk), .c (.string L), .c (.int .i64 0), .c (.string eS), .c (.int .i64 0), .s [], .c (.int .u16 0), .s [], .s (bs.map smD), .s [], .s []]) (mkQ c.l c.fs c.tn c.me v.vars c.labels v.lf v.mn v.ct 1 1) ⟨(v, blkS kk L bs), ⟨hI2, (sg_loop hkk hln hS3).mono (by omega)⟩, ?_, rfl⟩ rfl
  dsimp only
  rw [blkS, dW]
  rfl
end
section
open Go Go.RowKit Go.Proofs K
variable {pk : Pk}
def knd4 : List Int := [1, 1, 2, 3]
theorem knd4_get {q : Int} (h0 : 0 ≤ q) (h1 : q < 4) : ∃ j k, q = ((j : Nat) : Int) ∧ knd4[j]? = some k ∧ (k = 1 ∨ k = 2 ∨ k = 3) := by
  obtain ⟨j, rfl⟩ := Int.eq_ofNat_of_zero_le h0
  have : j = 0 ∨ j = 1 ∨ j = 2 ∨ j = 3 := by omega
  rcases this with rfl | rfl | rfl | rfl
  · exact ⟨0, 1, rfl, rfl, .inl rfl⟩
  · exact ⟨1, 1, rfl, rfl, .inl rfl⟩
  · exact ⟨2, 2, rfl, rfl, .inr (.inl rfl)⟩
  · exact ⟨3, 3, rfl, rfl, .inr (.inr rfl)⟩
abbrev StΦ (b : Bool) (c : KC) (V B : Nat) (r : XV) (hp' : XH) : Prop := ∃ a : KV × List Sm, (KI V a.1 ∧ SGs B a.2) ∧ r = cond b (xr (a.2.map smD)) (.a (.c (.l 3 1 11 0 a.2.length a.2.length))) ∧ hp' = cond b (mkQ c.l c.fs c.tn c.me a.1.vars c.labels a.1.lf a.1.mn a.1.ct 1 1) (mkQ c.l c.fs c.tn c.me a.1.vars c.labels a.1.lf a.1.mn a.1.ct 1 1 ++ [⟨3, 1, .row a.2.length (a.2.map smD) 66 11⟩])
theorem kX (b : Bool) (k : Nat) (ih0 : ∀ j, j < k → j ≤ 3 → jW pk j) (hk : k ≤ 3) (c : KC) (V deep : Nat) (hc : c.ok) (hI : KI V ⟨c.vars, c.lf, c.mn, c.ct⟩) (hd : deep + k = 4) (hlab : c.labels.length + k ≤ 8) : XM Tryz.prog pk 68 [pm, xi (deep : Nat)] (mkB c) 3 (cond b 3 4) (StΦ b c V (ZB k)) := by
  have ih1 : 1 ≤ k → jW pk (k - 1) := fun h => ih0 (k - 1) (by omega) (by omega)
  have hpb := PB_pos k
  have hpz := PB_le k
  have hzb := ZB_le (k := k) (by omega)
  have hzp : 1 ≤ k → PB k = 4 * ZB (k - 1) + 12000 ∧ ZB (k - 1) ≤ 10000000000 ∧ deep + 1 + (k - 1) = 4 := fun h => ⟨PB_pred h, ZB_le (by omega), by omega⟩
  have hme := hc.hme
  have hfl := hc.hfl
  have hV5 := hI.V5
  have hfm : (c.fs.map fuD).length = c.fs.length := List.length_map ..
  have b2 := SB2
  have b3 := SB3
  have b4 := SB4
  refine XM.en (hm := by cases b <;> rfl) Tryz.func68 Tryz.ntmps68 (fun w0 own H V' v0 hf => ?_)
  refine G (T := T) 1000 rfl ?_
  refine Ck [0, 1, 2] (aw hc.hl hc.hll (n := 4) (by omega) (by omega)) rfl rfl rfl rfl rfl rfl rfl ⟨⟨rfl, rfl⟩, rfl⟩ ?_
  rintro _ ⟨k0, rfl, k01, k02⟩
  refine G (T := T) 100003 rfl ?_
  refine (Nr 5 66 11 rfl rfl).c ?_
  refine G (T := T) 1000 rfl ?_
  refine Lq [0, 1, 6] (fun (q : Nat × KV × Nat × List (List D) × List Sm) r => (5, .a (.c (.l 3 1 11 0 q.2.2.1 q.2.2.1))) :: (7, xi (q.1 : Nat)) :: r) (fun q => mkQ c.l c.fs c.tn c.me q.2.1.vars c.labels q.2.1.lf q.2.1.mn q.2.1.ct 1 1 ++ [⟨3, 1, .row q.2.2.1 q.2.2.2.1 66 11⟩]) 4 (fun q => (q.1 : Int) ≤ 1 + k0 ∧ q.2.2.1 = q.2.2.2.2.length ∧ q.2.2.2.1 = q.2.2.2.2.map smD ∧ KI V q.2.1 ∧ SGs (q.1 * PB k) q.2.2.2.2) (fun q => 4 - q.1) (0, ⟨c.vars, c.lf, c.mn, c.ct⟩, 0, [], []) rfl ⟨by dsimp only; omega, rfl, rfl, hI, SGs.nil.mono (by omega)⟩ ?_
  rintro ⟨i, v, n, R, ss⟩ ⟨hi, hn9, hR9, hI2, hS⟩; dsimp only at hi hn9 hR9 hI2 hS ⊢; subst hn9 hR9
  have hvl := hI2.vl
  have hm8 := hI2.m8
  have hcl := hI2.cl
  have hi4 : i ≤ 4 := by omega
  have hpa := pb_all (k := k) hi4
  have hslen := hS.len
  have hmap : (ss.map smD).length = ss.length := List.length_map ..
  refine Gs (T := T) 1000 rfl ?_
  refine If rfl (fun h => ?_) (fun h => ?_)
  rotate_left
  · refine G (T := T) 100045 rfl ?_
    cases b with
    | true =>
      refine Zc 3 rfl ?_
      refine G (T := T) 1000 rfl ?_
      exact Fm (T := T) id (xr (ss.map smD)) (mkQ c.l c.fs c.tn c.me v.vars c.labels v.lf v.mn v.ct 1 1) ⟨(v, ss), ⟨hI2, hS.mono (by omega)⟩, rfl, rfl⟩ rfl
    | false =>
      refine G (T := T) 1000 rfl ?_
      exact Fm (T := T) id (.a (.c (.l 3 1 11 0 ss.length ss.length))) (mkQ c.l c.fs c.tn c.me v.vars c.labels v.lf v.mn v.ct 1 1 ++ [⟨3, 1, .row ss.length (ss.map smD) 66 11⟩]) ⟨(v, ss), ⟨hI2, hS.mono (by omega)⟩, rfl, rfl⟩ rfl
  · have hi1 := of_decide_eq_true (Bool.and_eq_true_iff.1 h).1
    have hlf := of_decide_eq_true (Bool.and_eq_true_iff.1 h).2
    refine G (T := T) 200001 rfl ?_
    refine Cf [0, 1, 6, 7] (fun (q : KV × Nat × List (List D) × List Sm) r => (5, .a (.c (.l 3 1 11 0 q.2.1 q.2.1))) :: r) (fun q => mkQ c.l c.fs c.tn c.me q.1.vars c.labels q.1.lf q.1.mn q.1.ct 1 1 ++ [⟨3, 1, .row q.2.1 q.2.2.1 66 11⟩]) 4 (fun q => q.2.1 = q.2.2.2.length ∧ q.2.2.1 = q.2.2.2.map smD ∧ KI V q.1 ∧ SGs ((i + 1) * PB k) q.2.2.2) rfl ?_ ?_
    rotate_left
    · rintro ⟨v2, n2, R2, ss2⟩ ⟨hn9, hR9, hI4, hS2⟩; dsimp only at hn9 hR9 hI4 hS2 ⊢
      refine G (T := T) 1000 rfl ?_
      exact Nq (i + 1, v2, n2, R2, ss2) ⟨by dsimp only; omega, hn9, hR9, hI4, hS2⟩ (by show 4 - (i + 1) < 4 - i; omega)
    refine G (T := T) 1000 rfl ?_
    rw [show (v.lf : Int) - 1 = ((v.lf - 1 : Nat) : Int) by omega]
    have hI3 : KI V ⟨v.vars, v.lf - 1, v.mn, v.ct⟩ := ⟨hI2.hv, by show v.vars.length + (v.lf - 1) ≤ V; omega, hI2.m8, by show v.ct + (v.lf - 1) ≤ 8; omega, hV5⟩
    have hc1 := hc.kw hI3 hc.hlb hc.hlbl
    refine Ck [0, 1, 2] (aw (c := KW c ⟨v.vars, v.lf - 1, v.mn, v.ct⟩ c.labels) hc1.hl hc1.hll (n := 18) (by omega) (by omega)) rfl rfl rfl rfl rfl rfl rfl ⟨⟨rfl, rfl⟩, rfl⟩ ?_
    rintro _ ⟨kk, rfl, _, _⟩
    have one : ∀ {B : Nat} {s : Sm}, SG B s → B ≤ PB k → SGs ((i + 1) * PB k) (ss ++ [s]) := fun h1 h2 => (hS.snoc h1).mono (pb_step h2)
    have l1 : ∀ s : Sm, ss.length + 1 = (ss ++ [s]).length := fun s => by simp
    refine Gs (T := T) 1000 rfl ?_
    refine If rfl (fun h => ?_) (fun h => ?_)
    · have h8 : v.mn < 8 := by have := of_decide_eq_true (Bool.and_eq_true_iff.1 h).2; omega
      have hvn := vN_loc (v.mn + 1) (by omega) (by omega)
      have hI5 : KI V ⟨v.vars, v.lf - 1, v.mn + 1, v.ct⟩ := ⟨hI3.hv, hI3.vl, by show v.mn + 1 ≤ 8; omega, hI3.cl, hV5⟩
      have hc2 := hc.kw hI5 hc.hlb hc.hlbl
      refine G (T := T) 1000 rfl ?_
      refine Cx' [0, 1, 2] (fun _ => mkQ c.l c.fs c.tn c.me v.vars c.labels (v.lf - 1) (v.mn + 1) v.ct 1 1) (nV (c := KW c ⟨v.vars, v.lf - 1, v.mn, v.ct⟩ c.labels) h8) rfl rfl rfl rfl rfl rfl rfl ⟨⟨rfl, rfl⟩, rfl⟩ (fun _ => rfl) (fun _ => rfl) ?_
      rintro _ -
      change (MS.r _ _ _ _ ⟨(57, xs (vN (v.mn + 1))) :: _, _, _⟩).ok _
      generalize vN (v.mn + 1) = N at hvn ⊢
      refine G (T := T) 1000 rfl ?_
      refine Ck [0, 1, 2] (aw (c := KW c ⟨v.vars, v.lf - 1, v.mn + 1, v.ct⟩ c.labels) hc2.hl hc2.hll (n := 4) (by omega) (by omega)) rfl rfl rfl rfl rfl rfl rfl ⟨⟨rfl, rfl⟩, rfl⟩ ?_
      rintro _ ⟨q, rfl, q1, q2⟩
      obtain ⟨j, tk, rfl, hj, htk⟩ := knd4_get q1 q2
      refine G (T := T) 61 rfl ?_
      refine Ix (T := T) (rows := knd4.map gu) j (aa hj) rfl rfl rfl rfl ⟨rfl, rfl⟩ rfl rfl ?_
      refine G (T := T) 100012 rfl ?_
      refine (FzTo.bz 4 rfl).c ?_
      refine G (T := T) 1000 rfl ?_
      refine Ck [0, 1, 2] (bR 4 (by omega) _ hc2) rfl rfl rfl rfl rfl rfl rfl ⟨⟨rfl, rfl⟩, rfl⟩ ?_
      rintro _ ⟨e, rfl, he⟩
      refine G (T := T) 1000 rfl ?_
      have e1 : v.vars.map cq ++ [[D.c (.string N)]] = (v.vars ++ [N]).map cq := by rw [List.map_append]; rfl
      have e2 : v.vars.length + 1 = (v.vars ++ [N]).length := by simp
      rw [e1, e2]
      have hT := tyk_G htk
      refine Dn (⟨v.vars ++ [N], v.lf - 1, v.mn + 1, v.ct⟩, _, _, ss ++ [letS N tk e]) ⟨l1 _, ?_, ⟨fun s hs => ?_, by show (v.vars ++ [N]).length + (v.lf - 1) ≤ V; omega, by show v.mn + 1 ≤ 8; omega, hI3.cl, hV5⟩, one (sg_let hvn hT.1 hT.2.1 hT.2.2 he) (by omega)⟩ ⟨⟨_, _, rfl, rfl⟩, rfl, rfl⟩
      · dsimp only; rw [List.map_append]; rfl
      · rcases List.mem_append.1 hs with hs | hs
        · exact hI2.hv s hs
        · rw [List.mem_singleton.1 hs]; exact hvn
    refine G (T := T) 1000 rfl ?_
    refine If rfl (fun h => ?_) (fun h => ?_)
    · refine G (T := T) 1000 rfl ?_
      refine Ck [0, 1, 2] (nU (d := 2) (bR 2 (by omega)) (by omega) hc1) rfl rfl rfl rfl rfl rfl rfl ⟨⟨rfl, rfl⟩, rfl⟩ ?_
      rintro _ ⟨a, rfl, ha⟩
      refine G (T := T) 1000 rfl ?_
      refine Ck [0, 1, 2] (bR 4 (by omega) _ hc1) rfl rfl rfl rfl rfl rfl rfl ⟨⟨rfl, rfl⟩, rfl⟩ ?_
      rintro _ ⟨e, rfl, he⟩
      refine G (T := T) 1000 rfl ?_
      refine Dn (⟨v.vars, v.lf - 1, v.mn, v.ct⟩, _, _, ss ++ [.mk 2 eS ty4z 0 [a, e] [] [] []]) ⟨l1 _, ?_, hI3, one (sg_asg ha he) (by omega)⟩ ⟨⟨_, _, rfl, rfl⟩, rfl, rfl⟩
      dsimp only; rw [List.map_append]; rfl
    refine Gs (T := T) 1000 rfl ?_
    refine If rfl (fun h => ?_) (fun h => ?_)
    · have hk1 : 1 ≤ k := by have := of_decide_eq_true (Bool.and_eq_true_iff.1 h).2; omega
      obtain ⟨p1, p2, p3⟩ := hzp hk1
      refine G (T := T) 1000 rfl ?_
      refine Ck [0, 1, 2] (bR 3 (by omega) _ hc1) rfl rfl rfl rfl rfl rfl rfl ⟨⟨rfl, rfl⟩, rfl⟩ ?_
      rintro _ ⟨e, rfl, he⟩
      refine G (T := T) 1000 rfl ?_
      refine Cx' [0, 1, 2] (fun a => mkQ c.l c.fs c.tn c.me a.1.vars c.labels a.1.lf a.1.mn a.1.ct 2 2) (ih1 hk1 (KW c ⟨v.vars, v.lf - 1, v.mn, v.ct⟩ c.labels) V (deep + 1) hc1 hI3 p3 (by show c.labels.length + (k - 1) ≤ 8; omega)) rfl rfl rfl rfl rfl rfl rfl ⟨⟨rfl, rfl⟩, rfl⟩ (fun _ => rfl) (fun _ => rfl) ?_
      rintro ⟨v2, bs⟩ ⟨hI4, hS2⟩; dsimp only at hI4 hS2 ⊢
      have hc2 := hc.kw hI4 hc.hlb hc.hlbl
      refine G (T := T) 1000 rfl ?_
      refine Ck [0, 1, 2] (aw (c := KW c v2 c.labels) hc2.hl hc2.hll (n := 2) (by omega) (by omega)) rfl rfl rfl rfl rfl rfl rfl ⟨⟨rfl, rfl⟩, rfl⟩ ?_
      rintro _ ⟨q3, rfl, _, _⟩
      refine G (T := T) 1000 rfl ?_
      refine If rfl (fun h => ?_) (fun h => ?_)
      · refine G (T := T) 1000 rfl ?_
        refine Cx' [0, 1, 2] (fun a => mkQ c.l c.fs c.tn c.me a.1.vars c.labels a.1.lf a.1.mn a.1.ct 3 3) (ih1 hk1 (KW c v2 c.labels) V (deep + 1) hc2 hI4 p3 (by show c.labels.length + (k - 1) ≤ 8; omega)) rfl rfl rfl rfl rfl rfl rfl ⟨⟨rfl, rfl⟩, rfl⟩ (fun _ => rfl) (fun _ => rfl) ?_
        rintro ⟨v3, es⟩ ⟨hI5, hS3⟩; dsimp only at hI5 hS3 ⊢
        refine G (T := T) 1000 rfl ?_
        refine Dn (v3, _, _, ss ++ [ifS e bs es]) ⟨l1 _, ?_, hI5, one (kV he hS2 hS3) (by omega)⟩ ⟨⟨_, _, rfl, rfl⟩, rfl, rfl⟩
        dsimp only; rw [List.map_append, List.map_singleton, ifS, dW]; rfl
      · refine G (T := T) 1000 rfl ?_
        refine Dn (v2, _, _, ss ++ [ifS e bs []]) ⟨l1 _, ?_, hI4, one (kV he hS2 SGs.nil) (by omega)⟩ ⟨⟨_, _, rfl, rfl⟩, rfl, rfl⟩
        dsimp only; rw [List.map_append, List.map_singleton, ifS, dW]; rfl
    refine Gs (T := T) 1000 rfl ?_
    refine If rfl (fun h => ?_) (fun h => ?_)
    · have h8 : v.mn < 8 := by have := of_decide_eq_true (Bool.and_eq_true_iff.1 h).2; omega
      have hk1 : 1 ≤ k := by have := of_decide_eq_true (Bool.and_eq_true_iff.1 (Bool.and_eq_true_iff.1 h).1).2; omega
      obtain ⟨p1, p2, p3⟩ := hzp hk1
      refine G (T := T) 1000 rfl ?_
      refine Cx' [0, 1, 2] (fun a => mkQ c.l c.fs c.tn c.me a.1.vars c.labels a.1.lf a.1.mn a.1.ct 2 2) (oK (ih1 hk1) (by omega) hc1 hI3 (by show v.vars.length + (v.lf - 1) + 1 ≤ V; omega) (by show v.ct + (v.lf - 1) + 1 ≤ 8; omega) h8 p3 (by show c.labels.length + (k - 1) + 1 ≤ 8; omega)) rfl rfl rfl rfl rfl rfl rfl ⟨⟨rfl, rfl⟩, rfl⟩ (fun _ => rfl) (fun _ => rfl) ?_
      rintro ⟨v2, bs⟩ ⟨hI4, hS2⟩; dsimp only at hI4 hS2 ⊢
      have hblen := hS2.len
      refine G (T := T) 142 rfl ?_
      refine Ap (T := T) rfl (gA bs) rfl rfl rfl rfl rfl rfl ⟨rfl, rfl⟩ (by rw [List.length_map]; omega) (by rw [List.length_map]; omega) ?_
      refine G (T := T) 1000 rfl ?_
      refine Dn (v2, _, _, ss ++ bs) ⟨by dsimp only; rw [List.length_map, List.length_append], ?_, hI4, (hS.append hS2).mono (pb_step (by omega))⟩ ⟨⟨_, _, rfl, rfl⟩, rfl, rfl⟩
      dsimp only; rw [List.map_append]
    refine Gs (T := T) 1000 rfl ?_
    refine If rfl (fun h => ?_) (fun h => ?_)
    · have hk1 : 1 ≤ k := by have := of_decide_eq_true (Bool.and_eq_true_iff.1 h).2; omega
      obtain ⟨p1, p2, p3⟩ := hzp hk1
      refine G (T := T) 1000 rfl ?_
      refine Cx' [0, 1, 2] (fun a => mkQ c.l c.fs c.tn c.me a.1.vars c.labels a.1.lf a.1.mn a.1.ct 2 2) (nW (ih1 hk1) (by omega) hc1 hI3 (by show v.ct + (v.lf - 1) + 1 ≤ 8; omega) p3 (by show c.labels.length + (k - 1) + 1 ≤ 8; omega)) rfl rfl rfl rfl rfl rfl rfl ⟨⟨rfl, rfl⟩, rfl⟩ (fun _ => rfl) (fun _ => rfl) ?_
      rintro ⟨v2, s⟩ ⟨hI4, hS2⟩; dsimp only at hI4 hS2 ⊢
      refine G (T := T) 1000 rfl ?_
      refine Dn (v2, _, _, ss ++ [s]) ⟨l1 _, ?_, hI4, one hS2 (by omega)⟩ ⟨⟨_, _, rfl, rfl⟩, rfl, rfl⟩
      dsimp only; rw [List.map_append]; rfl
    refine Gs (T := T) 1000 rfl ?_
    refine If rfl (fun h => ?_) (fun h => ?_)
    · have hk1 : 1 ≤ k := by have := of_decide_eq_true (Bool.and_eq_true_iff.1 h).2; omega
      obtain ⟨p1, p2, p3⟩ := hzp hk1
      have sz0 : PB k = 4 * ZB (k - 1) + 12000 := p1
      refine G (T := T) 1000 rfl ?_
      refine Ck [0, 1, 2] (bR 3 (by omega) _ hc1) rfl rfl rfl rfl rfl rfl rfl ⟨⟨rfl, rfl⟩, rfl⟩ ?_
      rintro _ ⟨e, rfl, he⟩
      refine G (T := T) 1000 rfl ?_
      refine Cq (av (n := 3) (by omega) (by omega)) rfl rfl rfl rfl rfl ⟨rfl, rfl⟩ ?_
      refine G (T := T) 1000 rfl ?_
      refine Cq (aE ⟨#[38]⟩ e (bK 3)) rfl rfl rfl rfl rfl ⟨rfl, rfl⟩ ?_
      refine G (T := T) 1000 rfl ?_
      have hsw : EG 514 (eL ⟨#[38]⟩ e (bK 3)) := (eO (by decide) he (fD (by omega) (by omega))).mono (by omega)
      generalize eL ⟨#[38]⟩ e (bK 3) = sw at hsw ⊢
      refine Ck [0, 1, 2] (aw (c := KW c ⟨v.vars, v.lf - 1, v.mn, v.ct⟩ c.labels) hc1.hl hc1.hll (n := 3) (by omega) (by omega)) rfl rfl rfl rfl rfl rfl rfl ⟨⟨rfl, rfl⟩, rfl⟩ ?_
      rintro _ ⟨q3, rfl, q31, q32⟩
      refine G (T := T) 100030 rfl ?_
      refine (Nrh 4 10 63 1 rfl rfl rfl rfl rfl).c ?_
      refine G (T := T) 1000 rfl ?_
      refine Lq [0, 1, 5, 6, 7, 13, 14] (fun (q : Nat × KV × Nat × List (List D) × List (List Sm)) r => (15, xi (q.1 : Nat)) :: r) (fun q => mkQ c.l c.fs c.tn c.me q.2.1.vars c.labels q.2.1.lf q.2.1.mn q.2.1.ct 1 1 ++ [⟨3, 1, .row ss.length (ss.map smD) 66 11⟩, ⟨4, 0, .cells [.d (.c (.int .i64 9)), .d (.c (.string eS)), .d (.c (.int .i64 0)), .d (.c (.string eS)), .d (.c (.int .i64 0)), .z, .d (.c (.int .u16 0)), .d (.s [exD sw]), .z, .z, .l 5 1 1 0 q.2.2.1 q.2.2.1] 66⟩, ⟨5, 1, .row q.2.2.1 q.2.2.2.1 63 1⟩]) 6 (fun q => (q.1 : Int) ≤ 1 + q3 ∧ q.2.2.1 = q.2.2.2.2.length ∧ q.2.2.2.1 = q.2.2.2.2.map blD ∧ KI V q.2.1 ∧ SGc (q.1 * (ZB (k - 1) + 1)) q.2.2.2.2) (fun q => 3 - q.1) (0, ⟨v.vars, v.lf - 1, v.mn, v.ct⟩, 0, [], []) rfl ⟨by dsimp only; omega, rfl, rfl, hI3, SGc.nil.mono (by omega)⟩ ?_
      rintro ⟨j, v2, n2, R2, cs⟩ ⟨hj, hn9, hR9, hI4, hC⟩; dsimp only at hj hn9 hR9 hI4 hC ⊢; subst hn9 hR9
      have hc2 := hc.kw hI4 hc.hlb hc.hlbl
      have hcl2 : cs.length ≤ 3 * (ZB (k - 1) + 1) := by
        have := Sm.clen_le cs
        have := hC.s
        have := Nat.mul_le_mul_right (ZB (k - 1) + 1) (show j ≤ 3 by omega)
        omega
      refine G (T := T) 1000 rfl ?_
      refine If rfl (fun h => ?_) (fun h => ?_)
      · have hj1 := of_decide_eq_true h
        refine G (T := T) 1000 rfl ?_
        refine Cx' [0, 1, 2] (fun a => mkQ c.l c.fs c.tn c.me a.1.vars c.labels a.1.lf a.1.mn a.1.ct 2 2) (ih1 hk1 (KW c v2 c.labels) V (deep + 1) hc2 hI4 p3 (by show c.labels.length + (k - 1) ≤ 8; omega)) rfl rfl rfl rfl rfl rfl rfl ⟨⟨rfl, rfl⟩, rfl⟩ (fun _ => rfl) (fun _ => rfl) ?_
        rintro ⟨v3, bs⟩ ⟨hI5, hS3⟩; dsimp only at hI5 hS3 ⊢
        refine G (T := T) 1000 rfl ?_
        refine Nq (j + 1, v3, _, _, cs ++ [bs]) ⟨by dsimp only; omega, ?_, ?_, hI5, (hC.snoc hS3).mono (by rw [Nat.add_mul]; omega)⟩ (by show 3 - (j + 1) < 3 - j; omega) ⟨⟨_, _, rfl, rfl⟩, rfl, rfl⟩
        · dsimp only; rw [List.length_append]; rfl
        · dsimp only; rw [List.map_append]; rfl
      · have hj3 : j ≤ 3 := by omega
        refine G (T := T) 1000 rfl ?_
        refine Cx' [0, 1, 2] (fun a => mkQ c.l c.fs c.tn c.me a.1.vars c.labels a.1.lf a.1.mn a.1.ct 2 2) (ih1 hk1 (KW c v2 c.labels) V (deep + 1) hc2 hI4 p3 (by show c.labels.length + (k - 1) ≤ 8; omega)) rfl rfl rfl rfl rfl rfl rfl ⟨⟨rfl, rfl⟩, rfl⟩ (fun _ => rfl) (fun _ => rfl) ?_
        rintro ⟨v3, es⟩ ⟨hI5, hS3⟩; dsimp only at hI5 hS3 ⊢
        refine G (T := T) 192 rfl ?_
        refine Zr 5 rfl ?_
        refine G (T := T) 1000 rfl ?_
        refine Dn (v3, _, _, ss ++ [.mk 9 eS ty4z 0 [sw] [] es cs]) ⟨l1 _, ?_, hI5, one (sg_switch hsw hS3 hC) (nS sz0 hj3 (by omega))⟩ ⟨⟨_, _, rfl, rfl⟩, rfl, rfl⟩
        dsimp only; rw [List.map_append, List.map_singleton, dW]; rfl
    have happ : ∀ s : Sm, ss.map smD ++ [smD s] = (ss ++ [s]).map smD := fun s => by rw [List.map_append]; rfl
    let HP : XH := mkQ c.l c.fs c.tn c.me v.vars c.labels (v.lf - 1) v.mn v.ct 1 1 ++ [⟨3, 1, .row ss.length (ss.map smD) 66 11⟩]
    refine G (T := T) 100036 rfl ?_
    refine Cu [0, 1, 5, 6, 7, 8] (fun (_ : Unit) r => (195, xb (decide (kk = 11) && decide ((c.me : Int) + 1 < ((c.fs.map fuD).length : Int)))) :: r) (fun _ => HP) 4 (fun _ => True) rfl ?_ ?_
    · refine G (T := T) 199 rfl ?_
      refine Sp 198 rfl (fun h => ?_) (fun h => ?_)
      · refine G (T := T) 1000 rfl ?_
        rw [h, Bool.true_and]
        exact Dn () trivial
      · refine G (T := T) 1000 rfl ?_
        rw [h, Bool.false_and]
        exact Dn () trivial
    rintro _ -
    refine If rfl (fun h => ?_) (fun h => ?_)
    · have h9 := (Bool.and_eq_true_iff.1 h).2
      have hlen := of_decide_eq_true h9
      have hlen2 := hlen
      rw [List.length_map] at hlen2
      refine G (T := T) 100037 rfl ?_
      refine Ods (T := T) [0, 1, 2, 3, 4, 5, 6, 7, 8, 9, 10, 11, 12, 13, 14, 15, 16, 17, 18, 19, 20, 25, 21, 22, 23, 24, 26] rfl ?_
      refine G (T := T) 1000 rfl ?_
      refine Ck [0, 1, 2] (aw (c := KW c ⟨v.vars, v.lf - 1, v.mn, v.ct⟩ c.labels) hc1.hl hc1.hll (n := ((c.fs.map fuD).length : Int) - (c.me : Int) - 1) (by omega) (by rw [List.length_map]; omega)) rfl rfl rfl rfl rfl rfl rfl ⟨⟨rfl, rfl⟩, rfl⟩ ?_
      rintro _ ⟨q, rfl, q1, q2⟩
      rw [List.length_map] at q2
      obtain ⟨j, rfl⟩ := Int.eq_ofNat_of_zero_le q1
      obtain ⟨f, hf9⟩ := al (l := c.fs) (j := c.me + 1 + j) (by omega)
      have hF := hc.hf f (List.mem_of_getElem? hf9)
      refine G (T := T) 234 rfl ?_
      refine Ix (T := T) (c.me + 1 + j) (aa hf9) rfl rfl rfl rfl ⟨rfl, rfl⟩ (by push_cast; rfl) rfl ?_
      refine G (T := T) 1000 rfl ?_
      refine Ck [0, 1, 2] (mk_call (d := 2) (bR 2 (by omega)) (by omega) hc1 hF) rfl rfl rfl rfl rfl rfl rfl ⟨⟨rfl, rfl⟩, rfl⟩ ?_
      rintro _ ⟨e, rfl, he⟩
      refine G (T := T) 1000 rfl ?_
      refine Dn (⟨v.vars, v.lf - 1, v.mn, v.ct⟩, _, _, ss ++ [.mk 14 eS ty4z 0 [e] [] [] []]) ⟨l1 _, ?_, hI3, one (sg_do he) (by omega)⟩ ⟨⟨_, _, rfl, rfl⟩, rfl, rfl⟩
      exact happ (.mk 14 eS ty4z 0 [e] [] [] [])
    refine Gs (T := T) 1000 rfl ?_
    refine If rfl (fun h => ?_) (fun h => ?_)
    · refine G (T := T) 1000 rfl ?_
      refine Dn (⟨v.vars, v.lf - 1, v.mn, v.ct⟩, _, _, ss ++ [.mk 12 eS ty4z 0 [] [] [] []]) ⟨l1 _, ?_, hI3, one (sg_mark (.inl rfl)) (by omega)⟩ ⟨⟨_, _, rfl, rfl⟩, rfl, rfl⟩
      exact happ (.mk 12 eS ty4z 0 [] [] [] [])
    refine G (T := T) 100041 rfl ?_
    refine Cu [0, 1, 5, 6, 7, 8] (fun (b : Bool) r => (258, xb b) :: r) (fun _ => HP) 4 (fun _ => True) rfl ?_ ?_
    · refine G (T := T) 262 rfl ?_
      refine Sp 261 rfl (fun h => ?_) (fun h => ?_)
      · refine G (T := T) 1000 rfl ?_
        refine Ck [0, 1, 2] (aw (c := KW c ⟨v.vars, v.lf - 1, v.mn, v.ct⟩ c.labels) hc1.hl hc1.hll (n := 3) (by omega) (by omega)) rfl rfl rfl rfl rfl rfl rfl ⟨⟨rfl, rfl⟩, rfl⟩ ?_
        rintro _ ⟨q, rfl, q1, q2⟩
        refine G (T := T) 1000 rfl ?_
        exact Dn (decide (q = 0)) trivial
      · refine G (T := T) 1000 rfl ?_
        exact Dn false trivial
    rintro b13 -
    refine If rfl (fun h => ?_) (fun h => ?_)
    · refine G (T := T) 1000 rfl ?_
      refine Ck [0, 1, 2] (bR 2 (by omega) _ hc1) rfl rfl rfl rfl rfl rfl rfl ⟨⟨rfl, rfl⟩, rfl⟩ ?_
      rintro _ ⟨e, rfl, he⟩
      refine G (T := T) 1000 rfl ?_
      refine Ck [0, 1, 2] (mk_giving hc1) rfl rfl rfl rfl rfl rfl rfl ⟨⟨rfl, rfl⟩, rfl⟩ ?_
      rintro _ ⟨s, rfl, hs⟩
      refine G (T := T) 1000 rfl ?_
      refine Dn (⟨v.vars, v.lf - 1, v.mn, v.ct⟩, _, _, ss ++ [ifS e [s] []]) ⟨l1 _, ?_, hI3, one (kV he (SGs.one hs) SGs.nil) (by omega)⟩ ⟨⟨_, _, rfl, rfl⟩, rfl, rfl⟩
      exact happ (ifS e [s] [])
    refine G (T := T) 100043 rfl ?_
    refine Cu [0, 1, 5, 6, 7, 8] (fun (b : Bool) r => (276, xb b) :: r) (fun _ => HP) 4 (fun _ => True) rfl ?_ ?_
    · refine G (T := T) 280 rfl ?_
      refine Sp 279 rfl (fun h => ?_) (fun h => ?_)
      · refine G (T := T) 1000 rfl ?_
        refine Ck [0, 1, 2] (aw (c := KW c ⟨v.vars, v.lf - 1, v.mn, v.ct⟩ c.labels) hc1.hl hc1.hll (n := 6) (by omega) (by omega)) rfl rfl rfl rfl rfl rfl rfl ⟨⟨rfl, rfl⟩, rfl⟩ ?_
        rintro _ ⟨q, rfl, q1, q2⟩
        refine G (T := T) 1000 rfl ?_
        exact Dn (decide (q = 1)) trivial
      · refine G (T := T) 1000 rfl ?_
        exact Dn false trivial
    rintro b14 -
    refine If rfl (fun h => ?_) (fun h => ?_)
    · refine G (T := T) 1000 rfl ?_
      refine Ck [0, 1, 2] (bR 2 (by omega) _ hc1) rfl rfl rfl rfl rfl rfl rfl ⟨⟨rfl, rfl⟩, rfl⟩ ?_
      rintro _ ⟨e, rfl, he⟩
      refine G (T := T) 1000 rfl ?_
      refine Dn (⟨v.vars, v.lf - 1, v.mn, v.ct⟩, _, _, ss ++ [ifS e [.mk 13 eS ty4z 0 [] [] [] []] []]) ⟨l1 _, ?_, hI3, one (kV he (SGs.one (sg_mark (.inr rfl))) SGs.nil) (by omega)⟩ ⟨⟨_, _, rfl, rfl⟩, rfl, rfl⟩
      exact happ (ifS e [.mk 13 eS ty4z 0 [] [] [] []] [])
    refine G (T := T) 1000 rfl ?_
    refine Ck [0, 1, 2] (kW hc1) rfl rfl rfl rfl rfl rfl rfl ⟨⟨rfl, rfl⟩, rfl⟩ ?_
    rintro _ ⟨s, rfl, hs⟩
    refine G (T := T) 1000 rfl ?_
    refine Dn (⟨v.vars, v.lf - 1, v.mn, v.ct⟩, _, _, ss ++ [s]) ⟨l1 _, ?_, hI3, one hs (by omega)⟩ ⟨⟨_, _, rfl, rfl⟩, rfl, rfl⟩
    exact happ s
theorem mk_stmts : ∀ k, k ≤ 3 → jW pk k := by
  intro k
  induction k using Nat.strongRecOn with
  | _ k ih => exact fun hk c V deep hc hI hd hlab => kX true k ih hk c V deep hc hI hd hlab
end
section
open Go Go.RowKit Go.Proofs K
variable {pk : Pk}
abbrev mkRx (a b c d : Nat) (l : List Int) (n : Nat) (R : List (List D)) (tn t3 : Nat) : XH := [⟨a, 0, .cells [.d (.s (l.map gu)), .w (atP l), .d (.c (.int .i64 (tn : Int))), .d (.c (.int .i64 0)), .w ndP, .l b 0 1 0 0 0, .d (.c (.int .i64 0)), .l c 0 1 0 0 0, .d (.c (.int .i64 0)), .d (.c (.int .i64 0)), .l d t3 10 0 n n] 138⟩,
  ⟨b, 0, .row 0 [] 9 1⟩, ⟨c, 0, .row 0 [] 9 1⟩, ⟨d, t3, .row n R 71 10⟩]
abbrev mkRn (a b c d : Nat) (l : List Int) (fs : List Fu) (tn t3 : Nat) : XH := mkRx a b c d l fs.length (fs.map fuD) tn t3
abbrev mkR (l : List Int) (fs : List Fu) (tn t3 : Nat) : XH := mkRn 0 1 2 3 l fs tn t3
theorem dq {l : List Int} {fs : List Fu} {tn : Nat} (h1 : ∀ n ∈ l, I64 n) (h2 : l.length ≤ 1000000) {n : Int} (hn : 0 < n) (hn2 : n ≤ 1000000) : XKp Tryz.prog pk 65 [pm, xi n] (mkR l fs tn 0) 4 (fun r => ∃ k : Int, r = xi k ∧ 0 ≤ k ∧ k < n) := by
  refine XM.en Tryz.func65 Tryz.ntmps65 (fun w0 own H V v0 hf => ?_)
  refine G (T := T) 100001 rfl ?_
  refine Op 0 1 rfl rfl ?_
  rintro _ ⟨a, ha, rfl⟩
  refine ⟨_, _, rfl, rfl, ?_⟩
  refine G (T := T) 1000 rfl ?_
  refine If rfl (fun h => ?_) (fun h => ?_)
  · refine G (T := T) 1000 rfl ?_
    refine (SRto.wk 0 1 (atP l) rfl rfl rfl rfl ⟨a, ha, rfl⟩).e ?_
    exact Fm (T := T) id (xi 0) (mkR l fs tn 0) ⟨⟨0, rfl, Int.le_refl _, hn⟩, rfl⟩ rfl
  · have hlt := of_decide_eq_false h; rw [List.length_map] at hlt
    obtain ⟨y, hy⟩ := al (l := l) (j := a) (by omega)
    refine G (T := T) 1000 rfl ?_
    refine Ix (T := T) a (aa hy) rfl rfl rfl rfl ⟨rfl, rfl⟩ (by omega) rfl ?_
    refine G (T := T) 1000 rfl ?_
    refine Cq (bQ hn hn2) rfl rfl rfl rfl rfl ⟨rfl, rfl⟩ ?_
    refine G (T := T) 1000 rfl ?_
    refine (SRto.wk 0 1 (atP l) rfl rfl rfl rfl ⟨a + 1, by omega, by push_cast; rfl⟩).e ?_
    have := ff (n := y) hn
    exact Fm (T := T) id (xi (modR y n)) (mkR l fs tn 0) ⟨⟨_, rfl, this.1, this.2⟩, rfl⟩ rfl
def sig3 : List Ty4 := [.mk 1 eS 0 [], .mk 3 eS 0 [], .mk 2 eS 0 []]
def abc3 : List ByteArray := [⟨#[97]⟩, ⟨#[98]⟩, ⟨#[99]⟩]
theorem nX {q : Int} (h0 : 0 ≤ q) (h1 : q < 3) : ∃ j k, q = ((j : Nat) : Int) ∧ sig3[j]? = some (.mk k eS 0 []) ∧ (k = 1 ∨ k = 2 ∨ k = 3) := by
  obtain ⟨j, rfl⟩ := Int.eq_ofNat_of_zero_le h0
  have : j = 0 ∨ j = 1 ∨ j = 2 := by omega
  rcases this with rfl | rfl | rfl
  · exact ⟨0, 1, rfl, rfl, .inl rfl⟩
  · exact ⟨1, 3, rfl, rfl, .inr (.inr rfl)⟩
  · exact ⟨2, 2, rfl, rfl, .inr (.inl rfl)⟩
def PrG' (p : Par) : Prop := dR p.nm = true ∧ rTy p.ty = true ∧ p.ty.ok ∧ p.ty.size ≤ 8
theorem parP_G' : PrG' ⟨⟨#[112]⟩, .mk 6 eS 0 [.mk 4 ⟨#[83]⟩ 0 []]⟩ := ⟨by decide +kernel, by decide +kernel, ⟨⟨by omega, by omega⟩, by decide, ⟨by omega, by omega⟩, ⟨⟨by omega, by omega⟩, by decide, ⟨by omega, by omega⟩, trivial⟩, trivial⟩, by simp [Ty4.size, Ty4.sizes]⟩
theorem tyk_P {k : Int} {s : ByteArray} (hs : dR s = true) (h : k = 1 ∨ k = 2 ∨ k = 3) : PrG' ⟨s, .mk k eS 0 []⟩ := by
  obtain ⟨h1, h2, h3⟩ := tyk_G h
  exact ⟨hs, h1, h2, Nat.le_trans h3 (by omega)⟩
abbrev fuB (g : Nat) (nm : ByteArray) (ps : XC) (k : Int) : XB := ⟨g, 0, .cells [.d (.c (.string nm)), ps, .d (.c (.int .i64 k)), .d (.c (.string eS)), .d (.c (.int .i64 0)), .z, .z, .d (.c (.bool false)), .d (.c (.int .i64 0)), .d (.c (.int .u16 0))] 71⟩
abbrev fuB' (g : Nat) (nm : ByteArray) (ps : XC) (k : Int) (z : XC) : XB := ⟨g, 0, .cells [.d (.c (.string nm)), ps, .d (.c (.int .i64 k)), .d (.c (.string eS)), .d (.c (.int .i64 0)), z, .z, .d (.c (.bool false)), .d (.c (.int .i64 0)), .d (.c (.int .u16 0))] 71⟩
theorem paDs_snoc (l : List Par) (p : Par) : l.map paD ++ [paD p] = (l ++ [p]).map paD := by rw [List.map_append]; rfl
theorem mO {l : List Int} {fs : List Fu} {tn : Nat} (h1 : ∀ n ∈ l, I64 n) (h2 : l.length ≤ 1000000) (nm : ByteArray) :
    XS' Tryz.prog pk 67 [pm, .a (.c (.p 4 0 0))] (mkR l fs tn 0 ++ [fuB 4 nm .z 7]) 5 (fun a : List Par × Int × Bool => (∀ p ∈ a.1, PrG' p) ∧ a.1.length ≤ 3 ∧ (a.2.1 = 1 ∨ a.2.1 = 2 ∨ a.2.1 = 3 ∨ a.2.1 = 7)) (fun _ => .t []) (fun a => mkR l fs tn 0 ++ [fuB' 4 nm (.d (.s (a.1.map paD))) a.2.1 (cond a.2.2 .z (.d (.s [])))]) := by
  refine XM.en Tryz.func67 Tryz.ntmps67 (fun w0 own H V v0 hf => ?_)
  refine G (T := T) 1000 rfl ?_
  refine Ck [0, 1, 2, 3] (dq (fs := fs) (tn := tn) h1 h2 (n := 5) (by omega) (by omega)) rfl rfl rfl rfl rfl rfl rfl ⟨⟨rfl, rfl⟩, rfl⟩ ?_
  rintro _ ⟨k0, rfl, k01, k02⟩
  refine G (T := T) 100002 rfl ?_
  refine (Nrh 4 1 83 5 rfl rfl rfl rfl rfl).c ?_
  refine Gs (T := T) 1000 rfl ?_
  refine Cf [0, 1, 4] (fun (q : Int × Nat × List (List D) × List Par) r => (5, xi q.1) :: r) (fun q => mkR l fs tn 0 ++ [fuB 4 nm (.l 5 1 5 0 q.2.1 q.2.1) 7, ⟨5, 1, .row q.2.1 q.2.2.1 83 5⟩]) 6 (fun q => 0 ≤ q.1 ∧ q.1 ≤ 4 ∧ q.2.1 = q.2.2.2.length ∧ q.2.2.1 = q.2.2.2.map paD ∧ (∀ p ∈ q.2.2.2, PrG' p) ∧ (q.2.2.2 = [] ∨ q.1 = 1 ∧ q.2.2.2.length = 1)) rfl ?_ ?_
  · refine If rfl (fun h => ?_) (fun h => ?_)
    · refine G (T := T) 1000 rfl ?_
      exact Dn (1, 0 + 1, _, [⟨⟨#[112]⟩, .mk 6 eS 0 [.mk 4 ⟨#[83]⟩ 0 []]⟩]) ⟨by dsimp only; omega, by dsimp only; omega, rfl, rfl, fun p hp => by rw [List.mem_singleton.1 hp]; exact parP_G', .inr ⟨rfl, rfl⟩⟩
    · refine G (T := T) 1000 rfl ?_
      exact Dn (k0, 0, [], []) ⟨k01, by dsimp only; omega, rfl, rfl, fun p hp => (by cases hp), .inl rfl⟩
  rintro ⟨k, n, R, ps⟩ ⟨hk0, hk4, hn9, hR9, hG, hp1⟩; dsimp only at hk0 hk4 hn9 hR9 hG hp1 ⊢; subst hn9 hR9
  have hmod : 0 ≤ k.tmod 4 ∧ k.tmod 4 ≤ 3 := ⟨Int.tmod_nonneg 4 hk0, by have := Int.tmod_lt_of_pos k (show (0 : Int) < 4 by omega); omega⟩
  have hone : k = 1 → k.tmod 4 = 1 := fun h => by subst h; rfl
  have hbase : ps.length + (k.tmod 4).toNat ≤ 3 := by
    rcases hp1 with rfl | ⟨q1, q2⟩
    · simp only [List.length_nil]; omega
    · rw [q2, hone q1]; decide
  refine G (T := T) 1000 rfl ?_
  refine Lq [0, 1, 4, 5] (fun (q : Nat × Nat × List (List D) × List Par) r => (6, xi (q.1 : Nat)) :: r) (fun q => mkR l fs tn 0 ++ [fuB 4 nm (.l 5 1 5 0 q.2.1 q.2.1) 7, ⟨5, 1, .row q.2.1 q.2.2.1 83 5⟩]) 6 (fun q => (q.1 : Int) ≤ k.tmod 4 ∧ q.2.1 = q.2.2.2.length ∧ q.2.2.1 = q.2.2.2.map paD ∧ (∀ p ∈ q.2.2.2, PrG' p) ∧ q.2.2.2.length = ps.length + q.1) (fun q => 3 - q.1) (0, ps.length, ps.map paD, ps) rfl ⟨hmod.1, rfl, rfl, hG, rfl⟩ ?_
  rintro ⟨i, n, R, qs⟩ ⟨hi, hn9, hR9, hG2, hl⟩; dsimp only at hi hn9 hR9 hG2 hl ⊢; subst hn9 hR9
  refine G (T := T) 1000 rfl ?_
  refine If rfl (fun h => ?_) (fun h => ?_)
  · have hi1 := of_decide_eq_true h
    obtain ⟨y, hy⟩ := al (l := abc3) (j := i) (by show i < 3; omega)
    have hyl : dR y = true := by
      have : ∀ s ∈ abc3, dR s = true := by decide
      exact this y (List.mem_of_getElem? hy)
    refine G (T := T) 49 rfl ?_
    refine Ix (T := T) (rows := abc3.map cq) i (aa hy) rfl rfl rfl rfl ⟨rfl, rfl⟩ rfl rfl ?_
    refine G (T := T) 1000 rfl ?_
    refine Ck [0, 1, 2, 3] (dq (fs := fs) (tn := tn) h1 h2 (n := 3) (by omega) (by omega)) rfl rfl rfl rfl rfl rfl rfl ⟨⟨rfl, rfl⟩, rfl⟩ ?_
    rintro _ ⟨q, rfl, q1, q2⟩
    obtain ⟨j, tk, rfl, hj, htk⟩ := nX q1 q2
    refine G (T := T) 54 rfl ?_
    refine Ix (T := T) (rows := sig3.map tyD) j (aa hj) rfl rfl rfl rfl ⟨rfl, rfl⟩ rfl rfl ?_
    refine G (T := T) 1000 rfl ?_
    refine Nq (i + 1, _, _, qs ++ [⟨y, .mk tk eS 0 []⟩]) ⟨by dsimp only; omega, ?_, paDs_snoc qs ⟨y, .mk tk eS 0 []⟩, fun p hp => ?_, by dsimp only; rw [List.length_append, hl]; rfl⟩ (by show 3 - (i + 1) < 3 - i; omega) ⟨⟨_, _, rfl, rfl⟩, rfl, rfl⟩
    · dsimp only; rw [List.length_append]; rfl
    · rcases List.mem_append.1 hp with hp | hp
      · exact hG2 p hp
      · rw [List.mem_singleton.1 hp]; exact tyk_P hyl htk
  · have hlen : qs.length ≤ 3 := by omega
    refine G (T := T) 100009 rfl ?_
    refine Zc 5 rfl ?_
    refine G (T := T) 1000 rfl ?_
    refine Ck [0, 1, 2, 3] (dq (fs := fs) (tn := tn) h1 h2 (n := 4) (by omega) (by omega)) rfl rfl rfl rfl rfl rfl rfl ⟨⟨rfl, rfl⟩, rfl⟩ ?_
    rintro _ ⟨r0, rfl, r01, r02⟩
    refine G (T := T) 1000 rfl ?_
    refine If rfl (fun h => ?_) (fun h => ?_)
    · have hr := of_decide_eq_true h
      obtain ⟨j, tk, rfl, hj, htk⟩ := nX r01 hr
      refine G (T := T) 68 rfl ?_
      refine Ix (T := T) (rows := sig3.map tyD) j (aa hj) rfl rfl rfl rfl ⟨rfl, rfl⟩ rfl rfl ?_
      refine G (T := T) 1000 rfl ?_
      exact Fm (T := T) id (.t []) (mkR l fs tn 0 ++ [fuB' 4 nm (.d (.s (qs.map paD))) tk (.d (.s []))]) ⟨(qs, tk, false), ⟨hG2, hlen, by dsimp only; omega⟩, rfl, rfl⟩ rfl
    · refine G (T := T) 1000 rfl ?_
      exact Fm (T := T) id (.t []) (mkR l fs tn 0 ++ [fuB' 4 nm (.d (.s (qs.map paD))) 7 .z]) ⟨(qs, 7, true), ⟨hG2, hlen, by dsimp only; omega⟩, rfl, rfl⟩ rfl
end
end Go.Proofs.YtlmahofogapkgaaGreatDoor.X
