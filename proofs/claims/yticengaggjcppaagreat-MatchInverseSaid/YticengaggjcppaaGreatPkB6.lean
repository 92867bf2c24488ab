/-
  Part 6 of 6 of the proof that MatchInverse returns true for every two lists of numbers and every number, and leaves its arguments as they were.. No condition beyond the given statement.
-/
import Derived.Maps.RangeRun
import Derived.Maps.Range
import Derived.Maps.Own
import Derived.DeepKeys4
import Derived.ProofKit
import Derived.Deep.Slices
import Derived.OpenShut
import Derived.WideKeyArr2
import Derived.Test.YticengaggjcppaaGreatRows
import Derived.Test.YticengaggjcppaaGreatPkB5
set_option linter.unusedVariables false
set_option linter.unusedSimpArgs false
set_option linter.all false
set_option maxRecDepth 100000
set_option maxHeartbeats 8000000
namespace Go.Proofs.YticengaggjcppaaGreat.X
section
open Go Go.RowKit Go.Proofs K
variable {a c : Pg} {B : Nat}
theorem QS.nil {a c : Pg} : QS a c (.map #[] 0) := ⟨⟨[], List.nodup_nil, by simp⟩, ML.nil⟩
theorem QF.nil {a c : Pg} : QF a c (.map #[] 0) := ⟨⟨[], List.nodup_nil, by simp⟩, ML.nil⟩
theorem lf_lt {p : Pg} {nm : ByteArray} {x : Nat} (h : lkL (sdP p).lf nm = some x) : x < p.fs.length := by
  have h : lkL (cW (p.fs.map (·.nm)) (dn p.fs.length)) nm = some x := h
  have h2 := eI (p.fs.map (·.nm)) nm
  rw [List.length_map] at h2
  rw [h2] at h
  have := fM h
  rwa [List.length_map] at this
abbrev nmsG : List ByteArray := [⟨#[109, 97, 105, 110]⟩, ⟨#[105, 110, 116, 101, 114, 114, 117, 112, 116]⟩]
def jY (a c : Pg) (s : Gst) (nm : ByteArray) : Gst := match lkL (sdP a).lf nm, lkL (sdP c).lf nm with
  | some x, some y => adG a c (if aL a c x y then 1 else 4) s ((true, x), (true, y))
  | _, _ => s
def zerG : Gst := ⟨[], [], [], []⟩
abbrev gX (a c : Pg) (v : Nat) (s : Gst) : XH := [⟨11, 0, .cells [.p 5 0 0, .p 8 0 0, .m 3 0, .m 4 0, .l 12 v 4 0 s.f1.length s.f1.length, .l 13 v 4 0 s.g1.length s.g1.length] 105⟩, ⟨5, 0, .cells (sidC a 7) 111⟩, ⟨8, 0, .cells (sidC c 10) 111⟩, ⟨7, 0, .mp (ML kvR 3 aS s.la)⟩, ⟨10, 0, .mp (ML kvR 3 aS s.lc)⟩, ⟨3, 0, .mp (QS a c)⟩, ⟨4, 0, .mp (QF a c)⟩, ⟨12, v, .row s.f1.length (s.f1.map pqD) 48 4⟩, ⟨13, v, .row s.g1.length (s.g1.map pqD) 48 4⟩]
abbrev gR (a c : Pg) (v : Nat) (s : Gst) : XH := gX a c v s ++ [⟨2, 0, .cells [.z, .z] 34⟩]
def iW (a c : Pg) (q : Nat) : Gst := (nmsG.take q).foldl (jY a c) zerG
theorem ng {a c : Pg} {q : Nat} {nm : ByteArray} (h : nmsG[q]? = some nm) : iW a c (q + 1) = jY a c (iW a c q) nm := by
  rw [iW, aw h, List.foldl_append]; rfl
theorem iniG_bd {a c : Pg} {s : Gst} {nm : ByteArray} {n : Nat} (h : s.bd n) : (jY a c s nm).bd (n + 1) := by
  unfold jY
  split
  · exact h.ad
  · exact ⟨Nat.le_succ_of_le h.a, Nat.le_succ_of_le h.c, Nat.le_succ_of_le h.f, Nat.le_succ_of_le h.g⟩
theorem iniL_bd {a c : Pg} : ∀ q, q ≤ 2 → (iW a c q).bd q
  | 0, _ => ⟨Nat.le_refl _, Nat.le_refl _, Nat.le_refl _, Nat.le_refl _⟩
  | q + 1, h => by
    obtain ⟨nm, hn⟩ := ai (l := nmsG) (j := q) (by show q < 2; omega)
    rw [ng hn]
    exact iniG_bd (iniL_bd q (by omega))
def prD (a c : Pg) (p : Pr) : List D := pqD (p.a, p.b, ak a c p.a p.b, p.why)
def prG (p : Pr) : List D := pqD (p.a, p.b, 1000, 5)
theorem pV (hcol : ColC) (ha : a.ok B) (hc : c.ok B) (hB : B ≤ 1000000000) (fa : Fw a) (fc : Fw c) (hf1 : ∀ {m : Ms} {s : Gst} {l : List Pq}, m.eqv (aT a c (a.fs.length + a.gs.length + 1) (db a c)) → Lnk a c m s → l.Perm s.f1 → l.Pairwise (fun x y => ¬ y.1 < x.1) → l.map pqD = (aM a c).1.map (prD a c)) (hf2 : ∀ {m : Ms} {s : Gst} {l : List Pq}, m.eqv (aT a c (a.fs.length + a.gs.length + 1) (db a c)) → Lnk a c m s → l.Perm s.g1 → l.Pairwise (fun x y => ¬ y.1 < x.1) → l.map pqD = (aM a c).2.map prG) (hini : LpI a c (iW a c 2) (db a c) (a.fs.length + a.gs.length + 1)) : XQ Tryz.prog pk0 15 [xd (pgD a), xd (pgD c)] (.a (.a [.d (.s ((aM a c).1.map (prD a c))), .d (.s ((aM a c).2.map prG))])) := by
  refine XQ.en Tryz.func15 Tryz.ntmps15 (fun w0 own H V v0 hf => ?_)
  refine G (T := T) 100001 rfl ?_
  refine Ods (T := T) [0, 2, 4, 5, 1, 3, 6, 7, 8] rfl ?_
  refine G9 rfl (Mmd (QS a c) QS.nil rfl ⟨rfl, rfl⟩ ?_)
  refine G9 rfl (Mmd (QF a c) QF.nil rfl ⟨rfl, rfl⟩ ?_)
  refine G9 rfl (Cmc [] (side_of ha hB) rfl rfl rfl rfl rfl rfl rfl ⟨⟨rfl, rfl⟩, rfl⟩ ?_)
  rintro r hp' ⟨rfl, rfl⟩
  refine G9 rfl (Cmc [] (side_of hc hB) rfl rfl rfl rfl rfl rfl rfl ⟨⟨rfl, rfl⟩, rfl⟩ ?_)
  rintro r hp' ⟨rfl, rfl⟩
  refine G9 rfl (MS.fzc 6 rfl ?_ (by repeat' (first | exact trivial | apply And.intro | rfl)))
  refine MS.fzc 9 rfl ?_ (by repeat' (first | exact trivial | apply And.intro | rfl))
  rw [rfsR_eq, rfsR_eq]
  refine (Nrh 11 4 48 4 rfl rfl rfl rfl rfl).c ?_
  refine (Nrh 11 5 48 4 rfl rfl rfl rfl rfl).c ?_
  refine Lq [4, 5, 22, 23] (fun (q : Nat) r => (24, xi (q : Nat)) :: r) (fun q => gR a c 1 (iW a c q)) 14 (fun q => q ≤ 2) (fun q => 2 - q) 0 rfl (Nat.zero_le _) ?_
  intro q hq
  refine G9 rfl (If rfl (fun h => ?_) (fun h => ?_))
  · have hql : (q : Int) < ((2 : Nat) : Int) := of_decide_eq_true h
    obtain ⟨nm, hnm⟩ := ai (l := nmsG) (j := q) (by show q < 2; omega)
    have hbd := iniL_bd (a := a) (c := c) q (by omega)
    have e9 := ng (a := a) (c := c) hnm
    have hsz : kvS.ok nm := by
      have : nm ∈ nmsG := List.mem_of_getElem? hnm
      simp only [nmsG, List.mem_cons, List.not_mem_nil, or_false] at this
      rcases this with rfl | rfl <;> (show _ ≤ _; decide)
    have hrow : (nmsG.map fun s => [D.c (.string s)])[q]? = some [D.c (.string nm)] := ab hnm
    generalize iW a c q = S at *
    refine G9 rfl (Ix (T := T) q hrow rfl rfl rfl rfl ⟨rfl, rfl⟩ rfl rfl ?_)
    refine G9 rfl ?_
    cases ho : lkL (sdP a).lf nm with
    | none =>
      have e10 : jY a c S nm = S := by unfold jY; rw [ho]
      refine Lk2 (T := T) kvS (a := nm) _ false (aA _) (by rw [ho]; rfl) aW hsz rfl rfl rfl rfl rfl ⟨rfl, rfl⟩ rfl ?_
      refine G9 rfl (Lk2 (T := T) kvS (a := nm) _ _ (aA _) rfl aW hsz rfl rfl rfl rfl rfl ⟨rfl, rfl⟩ rfl ?_)
      refine G9 rfl (IfT rfl rfl ?_)
      refine G9 rfl ?_
      refine Nq (q + 1) (by show q + 1 ≤ _; omega) (by show _ - (q + 1) < _ - q; omega) ?_
      show Mt _ _ _ ⟨_, gR a c 1 (iW a c (q + 1)), 14⟩ _
      rw [e9, e10]
      exact ⟨⟨_, _, rfl, rfl⟩, rfl, rfl⟩
    | some x =>
      refine Lk2 (T := T) kvS (a := nm) _ true (aA _) (by rw [ho]; rfl) aW hsz rfl rfl rfl rfl rfl ⟨rfl, rfl⟩ rfl ?_
      rw [ho]
      refine G9 rfl ?_
      cases hp : lkL (sdP c).lf nm with
      | none =>
        have e10 : jY a c S nm = S := by unfold jY; rw [ho, hp]
        refine Lk2 (T := T) kvS (a := nm) _ false (aA _) (by rw [hp]; rfl) aW hsz rfl rfl rfl rfl rfl ⟨rfl, rfl⟩ rfl ?_
        refine G9 rfl (IfT rfl rfl ?_)
        refine G9 rfl ?_
        refine Nq (q + 1) (by show q + 1 ≤ _; omega) (by show _ - (q + 1) < _ - q; omega) ?_
        show Mt _ _ _ ⟨_, gR a c 1 (iW a c (q + 1)), 14⟩ _
        rw [e9, e10]
        exact ⟨⟨_, _, rfl, rfl⟩, rfl, rfl⟩
      | some y =>
        have e10 : jY a c S nm = adG a c (if aL a c x y then 1 else 4) S ((true, x), (true, y)) := by unfold jY; rw [ho, hp]
        have hx := lf_lt ho
        have hy := lf_lt hp
        refine Lk2 (T := T) kvS (a := nm) _ true (aA _) (by rw [hp]; rfl) aW hsz rfl rfl rfl rfl rfl ⟨rfl, rfl⟩ rfl ?_
        rw [hp]
        refine G9 rfl (IfF rfl rfl ?_)
        refine G9 rfl (Czc [11, 5, 8, 7, 10, 3, 4, 12, 13] (gX a c 1 S) (lL (la := S.la) (lc := S.lc) (n := S.f1.length) (m := S.g1.length) (F' := S.f1.map pqD) (G' := S.g1.map pqD) ha hc hB hx hy) rfl rfl rfl rfl rfl rfl rfl ⟨⟨rfl, rfl⟩, rfl⟩ rfl rfl ?_)
        refine G9 rfl ?_
        have hok : Cok a c ((true, x), (true, y)) := ⟨rfl, hx, hy⟩
        have hb9 : S.bd 1000000000 := ⟨Nat.le_trans hbd.a (by omega), Nat.le_trans hbd.c (by omega), Nat.le_trans hbd.f (by omega), Nat.le_trans hbd.g (by omega)⟩
        refine If rfl (fun h => ?_) (fun h => ?_)
        · rw [h, if_pos rfl] at e10
          refine G9 rfl (Czc [11, 5, 8, 7, 10, 3, 4, 12, 13] (gX a c 2 (adG a c 1 S ((true, x), (true, y)))) (fQ ha hc hB hb9 hok) rfl rfl rfl rfl rfl rfl rfl ⟨⟨rfl, rfl⟩, rfl⟩ rfl rfl ?_)
          refine G9 rfl ?_
          refine Nq (q + 1) (by show q + 1 ≤ _; omega) (by show _ - (q + 1) < _ - q; omega) ?_
          show Mt _ _ _ ⟨_, gR a c 1 (iW a c (q + 1)), 14⟩ _
          rw [e9, e10]
          exact ⟨⟨_, _, rfl, rfl⟩, rfl, rfl⟩
        · rw [h, if_neg (by simp)] at e10
          refine G9 rfl (Czc [11, 5, 8, 7, 10, 3, 4, 12, 13] (gX a c 2 (adG a c 4 S ((true, x), (true, y)))) (fQ ha hc hB hb9 hok) rfl rfl rfl rfl rfl rfl rfl ⟨⟨rfl, rfl⟩, rfl⟩ rfl rfl ?_)
          refine G9 rfl ?_
          refine Nq (q + 1) (by show q + 1 ≤ _; omega) (by show _ - (q + 1) < _ - q; omega) ?_
          show Mt _ _ _ ⟨_, gR a c 1 (iW a c (q + 1)), 14⟩ _
          rw [e9, e10]
          exact ⟨⟨_, _, rfl, rfl⟩, rfl, rfl⟩
  have hql : ¬ (q : Int) < ((2 : Nat) : Int) := of_decide_eq_false h
  obtain rfl : q = 2 := by omega
  refine G9 rfl (Lq [4, 5] (fun (_ : Gst × Ms × Nat) r => r) (fun q => gR a c 1 q.1) 14 (fun q => LpI a c q.1 q.2.1 q.2.2) (fun q => a.fs.length + a.gs.length + 1 - (q.2.1.fs.length + q.2.1.gs.length)) (iW a c 2, db a c, a.fs.length + a.gs.length + 1) rfl hini ?_)
  rintro ⟨s, m, k⟩ hI; dsimp only at hI ⊢
  refine G9 rfl (Cmc [11, 5, 8, 7, 10, 3, 4, 12, 13] (mt_step hcol ha hc hB fa fc (hI.inr fa) (hI.bd fa)) rfl rfl rfl rfl rfl rfl rfl ⟨⟨rfl, rfl⟩, rfl⟩ ?_)
  rintro r hp' ⟨d, ⟨hd1, hd2⟩, rfl, rfl⟩
  rcases hI.lk.step hd1 hd2 with ⟨e1, e2⟩ | ⟨m', m'', s', e1, e2, e3, e4⟩
  · rw [e2]
    have hfin := hI.stop e1
    refine G9 rfl (IfF rfl rfl ?_)
    refine Ks [4, 5] rfl ?_
    refine G9 rfl ?_
    have hbd := hI.bd fa
    refine Cmc [12] (pT (l := s.f1) (Nat.le_trans hbd.f (by omega))) rfl rfl rfl rfl rfl rfl rfl ⟨⟨rfl, rfl⟩, rfl⟩ ?_
    rintro r hp' ⟨l1, ⟨hp1, hs1⟩, rfl, rfl⟩
    rw [hp1.length_eq]
    refine G9 rfl (Cmc [13] (pT (l := s.g1) (Nat.le_trans hbd.g (by omega))) rfl rfl rfl rfl rfl rfl rfl ⟨⟨rfl, rfl⟩, rfl⟩ ?_)
    rintro r hp' ⟨l2, ⟨hp2, hs2⟩, rfl, rfl⟩
    rw [hp2.length_eq]
    refine G9 rfl (MS.fze 12 rfl ?_ (by repeat' (first | exact trivial | apply And.intro | rfl | exact (hp1.length_eq ▸ (List.length_map ..).symm))))
    refine MS.fz9 13 rfl ?_
    rw [show l1.map pqD = (aM a c).1.map (prD a c) from hf1 hfin hI.lk hp1 hs1, show l2.map pqD = (aM a c).2.map prG from hf2 hfin hI.lk hp2 hs2]
    exact Fe (T := T) rfl rfl
  · rw [e3]
    obtain ⟨h1, h2, h3⟩ := hI.next e1 e2 e4
    refine G9 rfl (IfT rfl rfl ?_)
    refine G9 rfl ?_
    exact Nq (s', m', k - 1) h1 (by show _ - (m'.fs.length + m'.gs.length) < _ - (m.fs.length + m.gs.length); omega)
end
open Go Go.RowKit K
theorem lV (p : Pr) : ∀ l : List Pr, (insP p l).Perm (p :: l)
  | [] => .refl _
  | q :: r => by
    rw [insP]
    split
    · exact .refl _
    · exact ((lV p r).cons q).trans (.swap p q r)
theorem eo : ∀ l : List Pr, (iE l).Perm l
  | [] => .refl _
  | p :: r => (lV p (iE r)).trans ((eo r).cons p)
theorem lW (p : Pr) : ∀ {l : List Pr}, l.Pairwise (fun x y => x.a ≤ y.a) → (insP p l).Pairwise (fun x y => x.a ≤ y.a)
  | [], _ => List.pairwise_singleton ..
  | q :: r, h => by
    rw [insP]
    have h2 := List.pairwise_cons.1 h
    split
    · rename_i hle
      refine List.pairwise_cons.2 ⟨fun y hy => ?_, h⟩
      rcases List.mem_cons.1 hy with rfl | hy
      · exact hle
      · exact Nat.le_trans hle (h2.1 y hy)
    · rename_i hle
      refine List.pairwise_cons.2 ⟨fun y hy => ?_, lW p h2.2⟩
      rcases List.mem_cons.1 ((lV p r).mem_iff.1 hy) with rfl | hy
      · omega
      · exact h2.1 y hy
theorem jP : ∀ l : List Pr, (iE l).Pairwise (fun x y => x.a ≤ y.a)
  | [] => .nil
  | p :: r => lW p (jP r)
theorem nh {α : Type} (f : α → Nat) : ∀ {l k : List α}, l.Perm k → l.Pairwise (fun x y => f x ≤ f y) → k.Pairwise (fun x y => f x ≤ f y) → (k.map f).Nodup → l = k
  | [], k, h, _, _, _ => by rw [List.nil_perm.1 h]
  | x :: l, [], h, _, _, _ => absurd h.length_eq (by simp)
  | x :: l, y :: k, h, h1, h2, hn => by
    have a1 := List.pairwise_cons.1 h1
    have a2 := List.pairwise_cons.1 h2
    rw [List.map_cons, List.nodup_cons] at hn
    have e : x = y := by
      have m1 : x ∈ y :: k := h.mem_iff.1 List.mem_cons_self
      have m2 : y ∈ x :: l := h.mem_iff.2 List.mem_cons_self
      rcases List.mem_cons.1 m1 with e | m1
      · exact e
      · rcases List.mem_cons.1 m2 with e | m2
        · exact e.symm
        · have b1 := a1.1 y m2
          have b2 := a2.1 x m1
          exact absurd (List.mem_map.2 ⟨x, m1, Nat.le_antisymm b1 b2⟩) hn.1
    subst e
    rw [nh f ((List.perm_cons x).1 h) a1.2 a2.2 hn.2]
section
variable {a c : Pg} {m M : Ms} {s : Gst} {l : List Pq}
theorem ni {e : Pr → Pq} (he : ∀ p, (e p).1 = p.a) {fs : List Pr} (hn : (fs.map (·.a)).Nodup) (hp : l.Perm (fs.map e)) (hs : l.Pairwise (fun x y => ¬ y.1 < x.1)) : l = (iE fs).map e := by
  have h1 : l.Perm ((iE fs).map e) := hp.trans ((eo fs).map e).symm
  refine nh (fun q : Pq => q.1) h1 (hs.imp fun {x y} h => by omega) ?_ ?_
  · rw [List.pairwise_map]
    exact (jP fs).imp fun {x y} h => by rw [he, he]; exact h
  · rw [List.map_map]
    have : ((fun q : Pq => q.1) ∘ e) = fun p : Pr => p.a := funext fun p => he p
    rw [this]
    exact ((eo fs).map (·.a)).nodup_iff.2 hn
theorem fin_f (h : m.eqv M) (hd : M.dis) (lk : Lnk a c m s) (hp : l.Perm s.f1) (hs : l.Pairwise (fun x y => ¬ y.1 < x.1)) : l.map pqD = (iE M.fs).map (prD a c) := by
  rw [lk.f] at hp
  rw [ni (e := fun p => (p.a, p.b, ak a c p.a p.b, p.why)) (fun _ => rfl) hd.fa (hp.trans (h.1.map _)) hs, List.map_map]
  rfl
theorem fin_g (h : m.eqv M) (hd : M.dis) (lk : Lnk a c m s) (hp : l.Perm s.g1) (hs : l.Pairwise (fun x y => ¬ y.1 < x.1)) : l.map pqD = (iE M.gs).map prG := by
  rw [lk.g] at hp
  rw [ni (e := fun p => (p.a, p.b, 1000, 5)) (fun _ => rfl) hd.ga (hp.trans (h.2.map _)) hs, List.map_map]
  rfl
end
theorem match_of {a c : Pg} {B : Nat} (hcol : ColC) (ha : a.ok B) (hc : c.ok B) (hB : B ≤ 1000000000) (fa : Fw a) (fc : Fw c) (hini : LpI a c (iW a c 2) (db a c) (a.fs.length + a.gs.length + 1)) : XQ Tryz.prog pk0 15 [xd (pgD a), xd (pgD c)] (.a (.a [.d (.s ((aM a c).1.map (prD a c))), .d (.s ((aM a c).2.map prG))])) :=
  pV hcol ha hc hB fa fc (fun h lk hp hs => fin_f h (iN _ hini.d) lk hp hs) (fun h lk hp hs => fin_g h (iN _ hini.d) lk hp hs) hini
section
open Go Go.RowKit K
variable {a c : Pg}
theorem pW (p : Pg) (nm : ByteArray) : lkL (sdP p).lf nm = aB (p.fs.map (·.nm)) nm := by
  have h2 := eI (p.fs.map (·.nm)) nm
  rw [List.length_map] at h2
  exact h2
def jC (a c : Pg) (m : Ms) (s : ByteArray) : Ms := match aB (a.fs.map (·.nm)) s, aB (c.fs.map (·.nm)) s with
  | some x, some y => m.add (if aL a c x y then 1 else 4) ((true, x), (true, y))
  | _, _ => m
theorem l7 : db a c = nmsG.foldl (jC a c) ⟨[], []⟩ := rfl
theorem iX {l : List ByteArray} {s : ByteArray} {i : Nat} (h : aB l s = some i) : l[i]? = some s := by
  unfold aB at h
  obtain ⟨h1, h2, _⟩ := List.findIdx?_eq_some_iff_getElem.1 h
  rw [List.getElem?_eq_getElem h1]
  exact congrArg some (of_decide_eq_true h2)
theorem Lnk.zero : Lnk a c ⟨[], []⟩ zerG := ⟨fun r => by cases r with | mk b k => cases b <;> rfl, fun r => by cases r with | mk b k => cases b <;> rfl, rfl, rfl, Nat.le_refl _, Nat.le_refl _⟩
theorem Lnk.ini {m : Ms} {s : Gst} {nm : ByteArray} (h : Lnk a c m s) (hf : ∀ x y, aB (a.fs.map (·.nm)) nm = some x → aB (c.fs.map (·.nm)) nm = some y → cD m ((true, x), (true, y))) : Lnk a c (jC a c m nm) (jY a c s nm) := by
  unfold jC jY
  rw [pW, pW]
  cases h1 : aB (a.fs.map (·.nm)) nm with
  | none => exact h
  | some x => cases h2 : aB (c.fs.map (·.nm)) nm with
    | none => exact h
    | some y => exact h.ad (hf x y h1 h2)
theorem ini_dr {m : Ms} {nm : ByteArray} (hd : m.dis) (hr : m.rng a c) (hf : ∀ x y, aB (a.fs.map (·.nm)) nm = some x → aB (c.fs.map (·.nm)) nm = some y → cD m ((true, x), (true, y))) : (jC a c m nm).dis ∧ (jC a c m nm).rng a c := by
  unfold jC
  split
  · rename_i x y h1 h2
    have hx := fM h1
    have hy := fM h2
    rw [List.length_map] at hx hy
    refine ⟨pw (l := [((true, x), (true, y))]) hd (fun p hp => ?_) (by simp) (by simp), pA (l := [((true, x), (true, y))]) hr (fun p hp => ?_)⟩
    · rw [List.mem_singleton] at hp; subst hp; exact hf x y h1 h2
    · rw [List.mem_singleton] at hp; subst hp; exact ⟨rfl, hx, hy⟩
  · exact ⟨hd, hr⟩
theorem free_0 {x y : Nat} : cD ⟨[], []⟩ ((true, x), (true, y)) := ⟨rfl, rfl, rfl⟩
theorem nms_ne : (⟨#[109, 97, 105, 110]⟩ : ByteArray) ≠ ⟨#[105, 110, 116, 101, 114, 114, 117, 112, 116]⟩ := by decide
theorem free_1 {n0 n1 : ByteArray} (hn : n0 ≠ n1) (x y : Nat) (h1 : aB (a.fs.map (·.nm)) n1 = some x) (h2 : aB (c.fs.map (·.nm)) n1 = some y) : cD (jC a c ⟨[], []⟩ n0) ((true, x), (true, y)) := by
  unfold jC
  split
  · rename_i x0 y0 h3 h4
    have a1 := iX h1
    have a2 := iX h2
    have a3 := iX h3
    have a4 := iX h4
    refine ⟨rfl, ?_, ?_⟩
    · unfold bE
      rw [pa_add rfl, if_neg (fun e => by cases e; rw [a1] at a3; cases a3; exact hn rfl)]
      rfl
    · unfold bp
      rw [pc_add rfl rfl, if_neg (fun e => by cases e; rw [a2] at a4; cases a4; exact hn rfl)]
      rfl
  · exact free_0
theorem ig : LpI a c (iW a c 2) (db a c) (a.fs.length + a.gs.length + 1) := by
  have l1 := (Lnk.zero (a := a) (c := c)).ini (nm := ⟨#[109, 97, 105, 110]⟩) (fun _ _ _ _ => free_0)
  have l2 := l1.ini (nm := ⟨#[105, 110, 116, 101, 114, 114, 117, 112, 116]⟩) (fun x y h1 h2 => free_1 nms_ne x y h1 h2)
  have d1 := ini_dr (a := a) (c := c) (m := ⟨[], []⟩) (nm := ⟨#[109, 97, 105, 110]⟩) ⟨.nil, .nil, .nil, .nil⟩ ⟨by simp, by simp⟩ (fun _ _ _ _ => free_0)
  have d2 := ini_dr (nm := ⟨#[105, 110, 116, 101, 114, 114, 117, 112, 116]⟩) d1.1 d1.2 (fun x y h1 h2 => free_1 nms_ne x y h1 h2)
  exact ⟨l2, d2.1, d2.2, Ms.eqv.refl _, Nat.le_add_right _ _⟩
end
end Go.Proofs.YticengaggjcppaaGreat.X
namespace Go.Proofs.YticengaggjcppaaGreat.K
open Go Go.RowKit Go.ChangeMaps Go.MapKept Go.WideMaps
open Go.WideElems (Fit rg rd_val)
open Go.Maps (Keyed fit_look fit_store notKey_iff)
def MapK (P : Program) (k : TypeId) (o : Obj) (n : Nat) (f : Value → Option Value) : Prop :=
  ∃ es clock, o = .map es clock ∧ Fit P k R0 es clock ∧ es.size = n ∧ (∀ x ∈ es.toList, f x.key = some x.val) ∧ ∀ key, f key ≠ none → ∃ x ∈ es.toList, x.key = key
def entries : Obj → List MapEntry
  | .map es _ => es.toList
  | _ => []
def IterK (o : Obj) (b r : Nat) (done : List MapEntry) (seg : Seg) : Prop :=
  ∃ es clock seen, o = .map es clock ∧ seg = [(r, .mapIter (some b) clock seen clock)] ∧ seen.toList = done.map (·.born) ∧ done.Nodup ∧ ∀ x ∈ done, x ∈ entries o
theorem MapK.entries {P : Program} {k : TypeId} {o : Obj} {n : Nat} {f : Value → Option Value} (h : MapK P k o n f) : (K.entries o).length = n ∧ ((K.entries o).map (·.key)).Nodup ∧ (∀ x ∈ K.entries o, f x.key = some x.val) ∧ ∀ key, f key ≠ none → ∃ x ∈ K.entries o, x.key = key := by
  obtain ⟨es, clock, rfl, F, rfl, hf, hg⟩ := h
  exact ⟨by simp [K.entries], F.stamped.2.2, hf, hg⟩
section
variable {P : Program} {w0 : World} {N : Nat} {Q : Exit → Act → World → Prop} {env : Env} {own : List Seg} {H : Hp} {ops : Array Oper} {rest : List Oper}
variable {d : Option Tmp} {ty : TypeId} {pos : String} {af : Array Edge}
theorem TL.rangeK {t k e : TypeId} {x : Operand} {b n : Nat} {o : Obj} {f : Value → Option Value} (hx : ev env x = some (.map (some b))) (hb : H b = some o) [ht : Und P t (.map k e)] (ho : MapK P k o n f) (hd : okD N d = true)
    (h : ∀ r seg, IterK o b r [] seg → TL P w0 N Q ops rest (aq d (.pointer (some ⟨r, 0, none⟩)) env) (seg :: own) H) :
    TL P w0 N Q ops ({ dst := d, op := .range t x, type := ty, pos := pos, after := af, guard := none } :: rest) env own H := by
  obtain ⟨es, clock, rfl, F, rfl, hf, hg⟩ := ho
  refine TL.valE (φ := fun v own' H' => ∃ r, v = .pointer (some ⟨r, 0, none⟩) ∧ own' = [(r, .mapIter (some b) clock #[] clock)] :: own ∧ H' = H) rfl hd
    (fun a w ha hw => ⟨_, _, _, w.alloc (.mapIter (some b) clock #[] clock), ?_, ⟨w.heap.size, rfl, rfl, rfl⟩, hw.new _⟩) ?_
  · have hb' := MapKept.run_getObj_map (P := P) (hw.imm b _ hb)
    have : (Instr.range t (.map (some b))).run P w = .ok (.pointer (some ⟨w.heap.size, 0, none⟩)) (w.alloc (.mapIter (some b) clock #[] clock)) := by
      simp [Instr.range, run_underlying ht.eq, hb', Result.andThen]
    simp [execOp, ha.ev hx, this]
  · rintro v own' H' ⟨r, rfl, rfl, rfl⟩
    exact h r _ ⟨es, clock, #[], rfl, rfl, rfl, List.nodup_nil, by simp⟩
theorem TL.nextK (i : Nat) {k : TypeId} {x : Operand} {b r n : Nat} {o : Obj} {f : Value → Option Value} {done : List MapEntry} {seg : Seg} (hx : ev env x = some (.pointer (some ⟨r, 0, none⟩))) (hi : own[i]? = some seg) (hit : IterK o b r done seg) (hb : H b = some o) (ho : MapK P k o n f) (hd : okD N d = true)
    (hover : (∀ e ∈ entries o, e ∈ done) → TL P w0 N Q ops rest (aq d (.tuple #[.bool false]) env) own H)
    (hnext : ∀ e seg', e ∈ entries o → e ∉ done → IterK o b r (done ++ [e]) seg' → TL P w0 N Q ops rest (aq d (.tuple #[.bool true, e.key, e.val]) env) (own.set i seg') H) :
    TL P w0 N Q ops ({ dst := d, op := .next x false, type := ty, pos := pos, after := af, guard := none } :: rest) env own H := fun a w ha hw => by
  obtain ⟨es, clock, seen, rfl, rfl, hseen, hnd, hsub⟩ := hit
  obtain ⟨es', clock', he, F, _, _, _⟩ := ho
  cases he
  have hr : w.heap[r]? = some (.mapIter (some b) clock seen clock) := hw.own_blk (j := 0) hi rfl
  have hmem : ∀ e ∈ es.toList, (seen.contains e.born = true ↔ e ∈ done) := by
    intro e hes
    constructor
    · intro h
      have h2 : e.born ∈ seen.toList := by simpa using h
      rw [hseen] at h2
      obtain ⟨x', hx', hb'⟩ := List.mem_map.1 h2
      have hx2 := hsub x' hx'
      have hn := F.stamped.2.1
      have : x' = e := by
        obtain ⟨p, hp⟩ := List.getElem?_of_mem hx2
        obtain ⟨q, hq⟩ := List.getElem?_of_mem hes
        have hpl := (List.getElem?_eq_some_iff.1 hp).1
        have e1 : (es.toList.map (·.born))[p]? = some x'.born := by rw [List.getElem?_map]; simp only [entries] at hp; rw [hp]; rfl
        have e2 : (es.toList.map (·.born))[q]? = some e.born := by rw [List.getElem?_map, hq]; rfl
        rw [hb', ← e2] at e1
        have := (List.getElem?_inj (by simpa [entries] using hpl) hn).1 e1
        subst this
        simp only [entries] at hp
        rw [hp] at hq
        exact Option.some.inj hq
      exact this ▸ hx'
    · intro h
      have : e.born ∈ seen.toList := by rw [hseen]; exact List.mem_map.2 ⟨e, h, rfl⟩
      simpa using this
  refine wpList_plain rfl fun K hK => ?_
  unfold Oper.wp
  rcases run_next_at (P := P) w ty r b clock clock seen es clock hr (hw.imm b _ hb) F.stamped.1 (Nat.le_refl _) with ⟨h0, hrun⟩ | ⟨e, he, w1, hw1, hrun⟩
  · have hop : (execOp a.eval { dst := d, op := .next x false, type := ty, pos := pos, after := af, guard := none }).run P w = .ok (.value (.tuple #[.bool false])) w := by simp [execOp, ha.ev hx, hrun]
    rw [hop]
    refine hK _ _ (hover (fun e hes => ?_) _ _ (ha.put hd _) hw)
    rw [← hmem e hes]
    cases hc : seen.contains e.born with
    | true => rfl
    | false =>
      have : e ∈ leftOf es seen := by
        unfold leftOf
        rw [Array.mem_filter]
        exact ⟨by simpa [entries] using hes, by simp only [hc]; rfl⟩
      rw [Array.eq_empty_of_size_eq_zero h0] at this
      simp at this
  · have hop : (execOp a.eval { dst := d, op := .next x false, type := ty, pos := pos, after := af, guard := none }).run P w = .ok (.value (.tuple #[.bool true, e.key, e.val])) (setBlock w1 r (.mapIter (some b) clock (seen.push e.born) clock)) := by simp [execOp, ha.ev hx, hrun]
    rw [hop]
    have he2 : e ∈ es.toList ∧ seen.contains e.born = false := by
      have h1 : e ∈ es ∧ ¬ e.born ∈ seen := by simpa [leftOf] using he
      exact ⟨by simpa using h1.1, by simpa using h1.2⟩
    have hno : e ∉ done := fun h => by rw [← hmem e he2.1, he2.2] at h; cases h
    have hst : St w0 H own w1 := by
      rcases hw1 with rfl | rfl
      · exact hw
      · exact hw.drew
    exact hK _ _ (hnext e [(r, .mapIter (some b) clock (seen.push e.born) clock)] he2.1 hno ⟨es, clock, seen.push e.born, rfl, rfl, by simp [hseen], by
      rw [List.nodup_append]
      exact ⟨hnd, by simp, by intro x' h1 y' h2 h3; simp at h2; subst h2; subst h3; exact hno h1⟩, by
      intro x' h1
      rcases List.mem_append.1 h1 with h1 | h1
      · exact hsub x' h1
      · simp at h1; subst h1; exact he2.1⟩ _ _ (ha.put hd _) (by simpa using hst.setObj (j := 0) hi rfl))
theorem TL.entryK (i : Nat) {k : TypeId} {x : Operand} {b r n : Nat} {o : Obj} {f : Value → Option Value} {done : List MapEntry} {e : MapEntry} {seg : Seg} (hx : ev env x = some (.pointer (some ⟨r, 0, none⟩))) (hi : own[i]? = some seg) (hit : IterK o b r (done ++ [e]) seg) (hb : H b = some o) (ho : MapK P k o n f) (hd : okD N d = true)
    (h : TL P w0 N Q ops rest (aq d (.tuple #[e.key, e.val]) env) own H) :
    TL P w0 N Q ops ({ dst := d, op := .entry x, type := ty, pos := pos, after := af, guard := none } :: rest) env own H := by
  obtain ⟨es, clock, seen, rfl, rfl, hseen, _, hsub⟩ := hit
  obtain ⟨es', clock', he, F, _, _, _⟩ := ho
  cases he
  refine TL.val rfl hd (fun a w ha hw => ⟨w, ?_, hw⟩) h
  have hs : seen = ((done.map (·.born)).toArray).push e.born := by
    have : seen.toList = (((done.map (·.born)).toArray).push e.born).toList := by simp [hseen]
    exact Array.toList_inj.1 this
  have hr : w.heap[r]? = some (.mapIter (some b) clock (((done.map (·.born)).toArray).push e.born) clock) := by rw [← hs]; exact hw.own_blk (j := 0) hi rfl
  have := run_entry_at (P := P) w r b clock _ es clock e hr (hw.imm b _ hb) (hsub e (by simp)) F.stamped.2.1
  simp [execOp, ha.ev hx, this]
end
end Go.Proofs.YticengaggjcppaaGreat.K
namespace Go.Proofs.YticengaggjcppaaGreat.X
open Go Go.RowKit Go.MapKept Go.ChangeMaps Go.Proofs K
def encC (x : aj) : List Value := [.bool x.1.1, .int .i64 (x.1.2 : Nat), .bool x.2.1, .int .i64 (x.2.2 : Nat)]
def jQ (l : List aj) : List Value := l.flatMap encC
theorem nj {a b : Seg} {r : List Seg} : ((b :: a :: r).flatten).Perm ((a :: b :: r).flatten) := by
  simp only [List.flatten_cons, ← List.append_assoc]
  exact List.perm_append_comm.append_right _
theorem ML.mapK {P : Program} {k e : TypeId} {α β : Type} [DecidableEq α] {kv : KV P k α} {vv : β → Value} {l : List (α × β)} {o : Obj} (h : ML kv e vv l o) : ∃ f, MapK P k o l.length f := by
  obtain ⟨_, h2, f, ⟨es, clock, rfl, F, hn, hf, hg⟩, h4, h5⟩ := h
  refine ⟨f, es, clock, rfl, F, hn, hf, fun key hk => ?_⟩
  obtain ⟨a, rfl⟩ := h5 key hk
  have : lkL l a ≠ none := fun e => hk (by rw [h4, e]; rfl)
  obtain ⟨b, hb⟩ := Option.ne_none_iff_exists'.1 this
  obtain ⟨kl, hkl⟩ := kv.key a (h2 _ (cz hb))
  exact hg _ kl hkl hk
theorem oj (o : Obj) : K.entries o = X.entries o := by cases o <;> rfl
theorem zrC : K.Zr Tryz.prog 177 #[.bool false, .int .i64 0, .bool false, .int .i64 0] := ⟨_, _, (show Tryz.prog.info? 177 = some Tryz.t177 from by kernel_rfl), rfl, rfl⟩
theorem qD {gf : FuncId} [Callable Tryz.prog gf] {lb : List Value} {S : List aj → Prop} {w0 : World} {H : Hp} {own : List Seg} (hit : iI Tryz.prog gf lb (fun k : aj => [r2V k]) S (fun ks => ks.length ≤ 4000000000000) w0 H) :
    K.Fn Tryz.prog 188 [.slice none 0 0, .func (.func gf) #[] lb.toArray] w0 H own (fun r own' H' => ∃ ks seg, S ks ∧ Row 177 4 r ks.length (jQ ks) seg ∧ own' = seg :: own ∧ Le H H') := by
  obtain ⟨z, hS⟩ := aZ (BT.all_get T.ok (show T.bt.get 175 = some (.sl 177 4 32) from rfl))
  haveI := hS
  haveI : Und Tryz.prog 175 (.slice 177) := ⟨hS.und⟩
  haveI : Ty Tryz.prog 175 false 1 := bZ (BT.all_get T.ok (show T.bt.get 175 = some (.sl 177 4 32) from rfl))
  haveI : Ty Tryz.prog 177 true 4 := bZ (BT.all_get T.ok (i := 177) rfl)
  haveI := zrC
  refine Fn.enterX Tryz.func188 rfl Tryz.ntmps188 rfl ?_
  refine TCX.seq ?_; refine TCX.region ?_
  refine TLX.step rfl (TL.box (c := #[_]) rfl rfl rfl (fun g2 => Qc (TQX.go ?_)))
  refine TLX.step rfl (TL.assign rfl rfl (Qc (TQX.go ?_)))
  refine TLX.nil ?_; refine TQX.then_n ?_
  refine TCX.seq ?_; refine TCX.seq ?_; refine TCX.region ?_
  refine TLX.step rfl (TL.move rfl rfl (Qc (TQX.go ?_)))
  refine TLX.nil ?_; refine TQX.then_n ?_
  refine TCX.block ?_
  refine TCX.flat (own' := [] :: [(g2, .cells #[.slice none 0 0] 175 (0, 0))] :: own) (.refl _) ?_
  refine TCX.rangeFunc rfl hit (fun _ => rfl) rfl
    (fun pre own1 _ => ∃ u seg, Row 177 4 u pre.length (jQ pre) seg ∧ own1 = seg :: [(g2, .cells #[u] 175 (0, 0))] :: own) (fun _ _ _ _ => False) ?_ ?_ ?_ ?_
  {
  exact ⟨_, _, Row.nil _ 4, rfl⟩}; {
  rintro l D fn tmps mine pre k own1 H1 QB Kb hle1 ⟨u, seg, hrow, rfl⟩ hSp hRE hbody
  rw [List.length_append] at hSp
  simp only [List.length_cons, List.length_nil] at hSp
  refine TCX.region ?_
  refine TLX.step rfl (TL.new rfl (fun g5 => Qc (TQX.go ?_)))
  refine TLX.step rfl (TL.storeA 0 0 (c' := #[_, _, _, _]) (own' := [(_, .cells #[_, _, _, _] _ _)] :: _) rfl rfl rfl rfl rfl ⟨rfl, rfl, rfl, rfl, trivial⟩ (Nat.le_refl 4) rfl rfl rfl (Qc (TQX.go ?_)))
  refine TLX.nil ?_
  refine TQX.flat nj ?_
  refine hbody _ _ _ ?_
  refine TCX.block ?_; refine TCX.region ?_
  refine TLX.step rfl (TL.load_own 3 0 rfl rfl rfl rfl rfl (Qc (TQX.go ?_)))
  refine TLX.step rfl (TL.load_ownA 1 0 [_, _, _, _] rfl rfl rfl ⟨rfl, rfl, rfl, rfl, trivial⟩ rfl rfl (Qc (TQX.go ?_)))
  refine TLX.step rfl (TL.litF (r := [_, _, _, _]) [(0, [_, _, _, _])] ⟨rfl, ⟨_, rfl, rfl⟩, trivial⟩ rfl rfl rfl rfl (fun g10 => Qc (TQX.go ?_)))
  refine TLX.step rfl (TL.append 3 rfl rfl rfl hrow (Src.ofOwn 0 0 rfl rfl rfl (Ones.all (show Ones [_, _, _, _] from ⟨by rfl, by rfl, by rfl, by rfl, trivial⟩)) ⟨rfl, rfl, rfl, rfl, trivial⟩) (by omega) (by omega) rfl (fun v' seg' hrow' => Qc (TQX.go ?_)))
  refine TLX.step rfl (TL.store1 4 0 (c' := #[_]) (own' := _ :: _ :: _ :: _ :: [(_, .cells #[_] _ _)] :: _) rfl rfl rfl rfl hrow'.one (by simp) rfl rfl rfl (Qc (TQX.go ?_)))
  refine TLX.nil ?_
  refine TQX.in_n ?_
  refine TQX.ofQ ?_
  refine TQ.sel 5 [1, 3, 4] rfl (fun o ho => ?_)
  simp only [K.sel, nrm] at ho; subst ho
  intro a w ha hw
  refine hRE.n a w (_ :: _ :: own) _ ⟨Le.refl _, _, _, ?_, rfl⟩ hw
  rw [show jQ (pre ++ [k]) = jQ pre ++ encC k by simp [jQ], List.length_append]
  exact hrow'}; {
  rintro l D r xs own1 H1 hle1 hS ⟨u, seg, hrow, rfl⟩
  refine TQX.in_n ?_
  refine TQX.then_n ?_
  refine TCX.seq ?_; refine TCX.region ?_
  refine TLX.step rfl (TL.load_own 2 0 rfl rfl rfl rfl rfl (Qc (TQX.go ?_)))
  refine TLX.step rfl (TL.assign rfl rfl (Qc (TQX.go ?_)))
  refine TLX.nil ?_; refine TQX.then_n ?_
  refine TCX.ret ?_
  refine TQX.flat (own' := az l D r :: [(g2, .cells #[u] 175 (0, 0))] :: seg :: own) ?_ ?_; {
  exact List.Perm.append_left _ nj}
  exact TQX.ret1 1 rfl rfl rfl ⟨xs, seg, hS, hrow, rfl, hle1⟩}; {
  rintro l D r c pre own1 H1 _ _ hf
  exact hf.elim}
theorem keys_iter {l : List (aj × Unit)} {w0 : World} {HO : Hp} {ga gz go : Nat} {o : Obj} (hn : l.length ≤ 4000000000000) (h1 : cel HO ga gz = some (.map (some go))) (h3 : HO go = some o) (hm : ML kvC 4 cV l o) : iI Tryz.prog 189 [.pointer (some ⟨ga, gz, none⟩)] (fun k : aj => [r2V k]) (fun ks => ks.Perm (l.map (·.1))) (fun ks => ks.length ≤ 4000000000000) w0 HO := by
  intro L J Jx own H hle0' hy hJ0
  replace h1 := eV hle0' h1
  replace h3 := hle0' _ _ h3
  obtain ⟨f, h4⟩ := hm.mapK
  have hen := h4.entries.1
  obtain ⟨he1, _⟩ := hm.ent
  haveI : Und Tryz.prog 226 (.map 177 4) := Und.mk (mo (BT.all_get T.ok (show T.bt.get 226 = some (.m 177 4) from rfl)))
  haveI : Ty Tryz.prog 226 false 1 := bZ (BT.all_get T.ok (show T.bt.get 226 = some (.m 177 4) from rfl))
  haveI : Ty Tryz.prog 177 true 4 := bZ (BT.all_get T.ok (i := 177) rfl)
  haveI := zrC
  refine Fn.enter Tryz.func189 rfl Tryz.ntmps189 rfl ?_; have hL := Le.refl H; refine TC.seq ?_; refine TC.region ?_; refine TL.load_imm rfl (h1) rfl ?_
  refine TL.rangeK rfl h3 h4 rfl ?_; intro r it hit; refine Qc ?_; refine Qd ?_; refine TC.block ?_
  refine TC.loop (fun n env' own' H' => ∃ (done : List MapEntry) (d : List (aj × Unit)) (it : Seg) (own1 : List Seg), n = (K.entries o).length - done.length ∧ IterK o go r done it ∧ (Came kvC cV done d ∧ (d.map (·.1)).Nodup ∧ ∀ p ∈ d, p ∈ l) ∧ J (d.map (·.1)) own1 H' ∧ env' = [(0, .func (.yield L) #[] #[]), (1, .pointer (some ⟨ga, gz, none⟩)), (5, .pointer (some ⟨r, 0, none⟩))] ∧ own' = it :: own1 ∧ Le H H') (K.entries o).length [(0, _), (1, _), (5, _)] ⟨rfl, rfl, rfl, trivial⟩ ⟨[], [], it, _, by simp, hit, ⟨Came.nil, List.nodup_nil, by simp⟩, hJ0, rfl, rfl, Le.refl _⟩ ?_
  rintro n _ _ H1 ⟨done, d, it, own1, rfl, hit, ⟨hc1, hc2, hc3⟩, hJ, rfl, rfl, hle0⟩
  have hit' := hit
  obtain ⟨es, clock, seen, _, _, _, hdn, hds⟩ := hit'
  have hL := Le.trans hL hle0; have h3 := hle0 _ _ h3; refine TC.seq ?_; refine TC.region ?_
  refine TL.nextK 0 rfl rfl hit h3 h4 rfl (fun cw => ?_) (fun e it2 he hno hit2 => ?_); {
  refine TL.extract rfl rfl rfl ?_; refine Qc ?_; refine Qd ?_; refine TC.seq ?_; refine TC.cond_f rfl ?_; refine TC.exit ?_; refine TQ.then_e ?_; refine TQ.then_e ?_; refine TQ.in_e ?_; refine TQ.end0 1 rfl ?_
  exact ⟨hL, .inl ⟨_, (hc1.all hm hc2 hc3 (by rw [← oj]; exact cw)).map _, hJ⟩⟩}; {
  have hit3 := hit2
  obtain ⟨_, _, _, _, _, _, hd2, hs2⟩ := hit3
  obtain ⟨p, hp, ek, ev⟩ := he1 e (by rw [← oj]; exact he)
  have hnew := Came.new hm hc1 (by rw [← oj]; exact hds) (by rw [← oj]; exact he) hno ek
  have hc1' := hc1.snoc ek ev
  have hc2' : ((d ++ [p]).map (·.1)).Nodup := by
    rw [List.map_append, List.nodup_append]
    exact ⟨hc2, by simp, fun x hx y hy e => by rw [List.map_cons, List.map_nil, List.mem_singleton] at hy; exact hnew (hy ▸ e ▸ hx)⟩
  have hc3' : ∀ x ∈ d ++ [p], x ∈ l := fun x hx => by
    rcases List.mem_append.1 hx with hx | hx
    {
    exact hc3 x hx}; {
    rw [List.mem_singleton.1 hx]; exact hp}
  have hdl : (d ++ [p]).length ≤ l.length := kY (List.Pairwise.of_map (S := (· ≠ ·)) (·.1) (fun a b h e => h (e ▸ rfl)) hc2') hc3'
  have hdl2 := kY hd2 hs2
  refine TL.extract rfl rfl rfl ?_; refine Qc ?_; refine Qd ?_; refine TC.seq ?_; refine TC.cond_t rfl ?_; refine TC.skip ?_; refine Qd ?_; refine TC.block ?_; refine TC.seq ?_; refine TC.region ?_; refine TL.entryK 0 rfl rfl hit2 h3 h4 rfl ?_
  rw [ek]
  refine TL.extract rfl rfl rfl ?_
  refine TL.new rfl ?_; intro g3; refine TL.storeA 0 0 (c' := #[_, _, _, _]) (own' := [(_, .cells #[_, _, _, _] _ _)] :: _) rfl rfl rfl rfl rfl ⟨rfl, rfl, rfl, rfl, trivial⟩ (by simp) rfl rfl rfl ?_; refine Qc ?_; refine Qd ?_; refine TC.seq ?_; refine TC.ofX ?_; refine TCX.region ?_
  refine TLX.step rfl (TL.move rfl rfl (Qc (TQX.go ?_)))
  refine TLX.step rfl (TL.load_ownA 0 0 [_, _, _, _] rfl rfl rfl ⟨rfl, rfl, rfl, rfl, trivial⟩ rfl rfl (Qc (TQX.go ?_)))
  refine TLX.yield (xs := [_]) (vs := [r2V p.1]) [_, _] own1 rfl ⟨rfl, trivial⟩ rfl (hy (d.map (·.1)) p.1 own1 _ hL hJ (by show (d.map (·.1) ++ [p.1]).length ≤ 4000000000000; rw [List.length_append, List.length_map]; rw [List.length_append] at hdl; simp only [List.length_cons, List.length_nil] at hdl ⊢; omega)) rfl ?_
  rintro _ own2 H2 ⟨hle2, ⟨rfl, hJ2⟩ | ⟨rfl, hJ2⟩⟩; {
  refine TLX.step rfl (TL.not rfl rfl (Qc (TQX.go ?_)))
  refine TLX.nil ?_; refine TQX.ofQ ?_; have hL := Le.trans hL hle2; have h3 := hle2 _ _ h3; have hle0 := Le.trans hle0 hle2; refine Qd ?_; refine TC.cond_f rfl ?_; refine TC.skip ?_; refine TQ.in_n ?_
  refine TQ.sel 2 [1] rfl (fun o ho => ?_)
  simp only [K.sel, nrm] at ho; subst ho
  refine TQ.next ((K.entries ‹Obj›).length - (done ++ [e]).length) [(0, _), (1, _), (5, _)] (by simp only [List.length_append, List.length_cons, List.length_nil] at hdl2 ⊢; omega) ⟨rfl, rfl, rfl, trivial⟩ ⟨done ++ [e], d ++ [p], _, _, rfl, hit2, ⟨hc1', hc2', hc3'⟩, by rw [List.map_append]; exact hJ2, rfl, rfl, hle0⟩}; {
  refine TLX.step rfl (TL.not rfl rfl (Qc (TQX.go ?_)))
  refine TLX.nil ?_; refine TQX.ofQ ?_; have hL := Le.trans hL hle2; have h3 := hle2 _ _ h3; refine Qd ?_; refine TC.cond_t rfl ?_; refine TC.ret ?_; refine TQ.in_r ?_; refine TQ.then_r ?_; refine TQ.in_r ?_; refine TQ.ret0 2 rfl ?_
  exact ⟨hL, .inr ⟨_, by show (d.map (·.1) ++ [p.1]).length ≤ 4000000000000; rw [List.length_append, List.length_map]; rw [List.length_append] at hdl; simp only [List.length_cons, List.length_nil] at hdl ⊢; omega, hJ2⟩⟩}}
theorem ol {w0 : World} {H : Hp} {own : List Seg} {gf : FuncId} [Callable Tryz.prog gf] {lb : List Value} {S : List aj → Prop} (hit : iI Tryz.prog gf lb (fun k : aj => [r2V k]) S (fun ks => ks.length ≤ 4000000000000) w0 H) :
    K.Fn Tryz.prog 129 [.func (.func gf) #[] lb.toArray] w0 H own (fun r own' H' => ∃ ks seg, S ks ∧ Row 177 4 r ks.length (jQ ks) seg ∧ own' = seg :: own ∧ Le H H') := by
  haveI : Callable Tryz.prog 188 := Callable.of Tryz.func188 rfl rfl
  refine Fn.enter Tryz.func129 rfl Tryz.ntmps129 rfl ?_; have hL := Le.refl H; refine TC.seq ?_; refine TC.region ?_; refine TL.assign rfl rfl ?_; refine Qc ?_; refine Qd ?_; refine TC.seq ?_; refine TC.region ?_; refine TL.move rfl rfl ?_; refine TL.call (qD hit) ⟨rfl, rfl, trivial⟩ rfl ?_
  rintro r4 _ H4 ⟨ks, seg, hS, hrow, rfl, hle4⟩
  have hL := Le.trans hL hle4; refine TL.assign rfl rfl ?_; refine Qc ?_; refine Qd ?_; refine TC.ret ?_; refine TQ.ret1 0 rfl rfl ?_
  exact ⟨_, _, hS, hrow, rfl, hL⟩
theorem encs_rd {H : Hp} : ∀ l : List aj, rdL H (l.map cdD).flatten (jQ l)
  | [] => trivial
  | x :: r => by
    rw [List.map_cons, List.flatten_cons]
    exact rdL.append (show rdL H (cdD x) (encC x) from ⟨⟨rfl, rfl⟩, ⟨rfl, rfl⟩, ⟨rfl, rfl⟩, ⟨rfl, rfl⟩, trivial⟩) (encs_rd r)
theorem col_c : ColC := by
  intro l hl
  refine ⟨rfl, ?_, Callable.of Tryz.func129 rfl rfl, ?_⟩
  · rintro r ⟨d, _, rfl⟩; rfl
  rintro ⟨w0, own, H, V, nx0, F, pk', v0, hF⟩ rfl rfl rfl sg vals ha hr ht w hw
  obtain rfl := HR0 hr
  match vals, ha with
  | [v], ⟨h1, _⟩ =>
    simp only [XV.rel, XA.rel, XC.rel, rd] at h1
    obtain ⟨us, ws, rfl, h2, h3⟩ := h1
    have hus : us = #[] := by
      cases us with | mk q => cases q with | nil => rfl | cons => exact h2.elim
    subst hus
    obtain ⟨wl⟩ := ws
    match wl, h3 with
    | [u], ⟨h4, _⟩ =>
      simp only [rd] at h4
      obtain ⟨b, o, rfl, h5⟩ := h4
      obtain ⟨⟨q, h6, h7⟩, _⟩ := h5
      simp only [rd] at h7
      obtain ⟨bo, ob, rfl, h8, h9⟩ := h7
      haveI : Callable Tryz.prog 189 := Callable.of Tryz.func189 rfl rfl
      have hw' : St w0 H own w := hw.flat (List.Perm.refl _)
      refine Calls.mono (ol (own := own) (keys_iter hl h6 h8 h9) w hw') ?_
      rintro e w' ⟨v, own', H', rfl, ⟨ks, seg, hp, hrow, rfl, hle⟩, hw2⟩
      obtain ⟨f1, f2, f3⟩ := hw2.freeze
      refine .inl ⟨v, xr (ks.map cdD), [], V, addH H' seg, [], rfl, ⟨⟨ks, hp, rfl⟩, rfl⟩, ?_, rfl, (by intro b hb; simp at hb), List.nodup_nil, (fun b hb => by simp at hb), VLe.refl _, fun g t hg => ?_, fun g t h1 h2 => absurd h1 h2, hle.trans f2, f1.flat (List.Perm.refl _)⟩
      · simp only [XV.rel, XA.rel, XC.rel, rd]
        rcases hrow.2 with ⟨rfl, h0, _⟩ | ⟨g, cap, cur, rfl, rfl, c1, c2, c3, c4⟩
        · have : ks = [] := List.length_eq_zero_iff.1 h0
          subst this
          exact ⟨none, 0, 4, rfl, Nat.le_refl _, by simp [maxLen], .inl rfl⟩
        · refine ⟨some ⟨g, 0, none⟩, cap, 4, by rw [List.length_map], by rw [List.length_map]; exact c1, c2, .inr ⟨g, 0, rfl, ?_⟩⟩
          have hb := f3 _ (List.mem_singleton.2 rfl)
          have hat := nV (us := jQ ks) (j := cur.toList.drop (ks.length * 4)) (e := 177) (by rw [← c4, List.take_append_drop]; exact hb) 0
          rw [List.drop_zero] at hat
          exact rdr.of hat (encs_rd ks) (fun r hr => by obtain ⟨x, _, rfl⟩ := List.mem_map.1 hr; rfl)
      · cases hv : V g t with
        | none => rfl
        | some i =>
          have := (v0 g t (by show V g t ≠ none; rw [hv]; simp)).2
          cases this
theorem ref_Match {a c : Pg} {B : Nat} (ha : a.ok B) (hc : c.ok B) (hB : B ≤ 1000000000) (fa : Fw a) (fc : Fw c) : XQ Tryz.prog pk0 15 [xd (pgD a), xd (pgD c)] (.a (.a [.d (.s ((aM a c).1.map (prD a c))), .d (.s ((aM a c).2.map prG))])) := match_of col_c ha hc hB fa fc ig
section
open Go Go.RowKit Go.Proofs K
def mtL (a c : Pg) : List Pq := (aM a c).1.map fun p => (p.a, p.b, ak a c p.a p.b, p.why)
def mtG (a c : Pg) : List Pq := (aM a c).2.map fun p => (p.a, p.b, 1000, 5)
theorem dK {a c : Pg} {B : Nat} (ha : a.ok B) (hc : c.ok B) (hB : B ≤ 1000000000) (fa : Fw a) (fc : Fw c) : XQ Tryz.prog pk0 15 [xd (pgD a), xd (pgD c)] (.a (.a [.d (.s ((mtL a c).map pqD)), .d (.s ((mtG a c).map pqD))])) := by
  have h := ref_Match ha hc hB fa fc
  rw [mtL, mtG, List.map_map, List.map_map]
  exact h
variable {pk : Pk}
def hasF (l : List Pq) (a b w : Int) : Bool := match l.find? fun q => decide ((q.1 : Int) = a) && decide ((q.2.1 : Int) = b) with
  | some q => decide (q.2.2.2 = w)
  | none => false
theorem iY {l : List Pq} (hl : l.length ≤ 1000000000) (a b w : Int) : XQ Tryz.prog pk 30 [xr (l.map pqD), xi a, xi b, xi w] (xb (hasF l a b w)) := by
  refine XQ.en Tryz.func30 Tryz.ntmps30 (fun w0 own H V v0 hf => ?_)
  refine G9 rfl (Lq [0, 1, 2, 3] (fun q r => (8, xb false) :: (9, xi (q : Nat)) :: r) (fun q => []) 0 (fun q => q ≤ l.length ∧ ∀ x ∈ l.take q, (decide ((x.1 : Int) = a) && decide ((x.2.1 : Int) = b)) = false) (fun q => l.length - q) 0 rfl ⟨Nat.zero_le _, fun x hx => by cases hx⟩ ?_)
  rintro j ⟨hj, hI⟩
  refine G9 rfl (If rfl (fun h => ?_) (fun h => ?_))
  · have hjl := of_decide_eq_true h; rw [List.length_map] at hjl
    obtain ⟨y, hy⟩ := ai (l := l) (j := j) (by omega)
    refine G9 rfl (Ix (T := T) j (ab (f := pqD) hy) rfl rfl rfl rfl ⟨rfl, rfl⟩ rfl rfl ?_)
    refine Gs (T := T) 1000 rfl ?_
    refine Is (T := T) j (pqD y) (fun _ => ⟨ab (f := pqD) hy, rfl⟩) rfl rfl rfl rfl rfl rfl rfl rfl ?_
    refine Gs (T := T) 1000 rfl ?_
    refine If rfl (fun h => ?_) (fun h => ?_)
    · refine G9 rfl ?_
      refine Ix (T := T) j (ab (f := pqD) hy) rfl rfl rfl rfl ⟨rfl, rfl⟩ rfl rfl ?_
      refine G9 rfl (Fe (T := T) rfl (congrArg xb (by rw [hasF, find_at hI hy h])))
    · refine G9 rfl ?_
      exact Nq (j + 1) ⟨by omega, jn hI hy h⟩ (by show _ - (j + 1) < _ - j; omega)
  · have hjl := of_decide_eq_false h; rw [List.length_map] at hjl
    refine G9 rfl ?_
    rw [List.take_of_length_le (by omega)] at hI
    exact Fe (T := T) rfl (congrArg xb (by rw [hasF, List.find?_eq_none.2 (fun x hx => by rw [hI x hx]; simp)]))
theorem cF {nm : ByteArray} {b : List Sm} (h1 : nm.size ≤ 4) (h2 : Sm.oks b) (h3 : Sm.sizes b ≤ 100) : (fnV nm b).ok 100 :=
  ⟨by show nm.size ≤ _; omega, by show 0 ≤ 100; decide, fun x h => (by cases h), ⟨⟨by omega, by omega⟩, by decide, ⟨by omega, by omega⟩, trivial⟩, by show (Ty4.mk 7 eS 0 []).size ≤ 100; decide, h2, h3, (show I64 0 from ⟨by omega, by omega⟩), (show (0 : Int) ≤ 0 ∧ (0 : Int) ≤ 65535 by omega)⟩
theorem eJ : outS.ok := ⟨⟨by omega, by omega⟩, by decide, aE, ⟨by omega, by omega⟩, ⟨⟨⟨by omega, by omega⟩, by decide, ⟨by omega, by omega⟩, trivial⟩, trivial⟩, trivial, trivial, trivial⟩
theorem et {nm : ByteArray} (h : nm.size ≤ 4) : (kV nm).ok := ⟨⟨by omega, by omega⟩, by decide, aE, ⟨by omega, by omega⟩, ⟨⟨⟨by omega, by omega⟩, by show nm.size ≤ _; omega, ⟨by omega, by omega⟩, trivial⟩, trivial⟩, trivial, trivial, trivial⟩
theorem l8 {k : Int} (h : U63 k) : (simpS k).ok := ⟨h, by decide, aE, ⟨by omega, by omega⟩, trivial, trivial, trivial, trivial⟩
theorem nk {fs : List Fu} (h1 : fs.length ≤ 100) (h : ∀ f ∈ fs, f.ok 100) : Pg.ok 100 ⟨[], [], fs⟩ ∧ Fw ⟨[], [], fs⟩ := ⟨⟨Nat.zero_le _, Nat.zero_le _, h1, fun x h => (by cases h), fun x h => (by cases h), h⟩, ⟨by show fs.length ≤ _; omega, Nat.zero_le _⟩⟩
theorem eK {α : Type} {p : α → Prop} : ∀ {l : List α}, (l.foldr (fun x r => p x ∧ r) True) → ∀ x ∈ l, p x
  | [], _, x, h => by cases h
  | y :: r, h, x, hx => by
    rcases List.mem_cons.1 hx with rfl | hx
    · exact h.1
    · exact eK h.2 x hx
theorem ok_X1 : exX1.ok 100 ∧ Fw exX1 := nk (by decide) (eK ⟨cF (by decide) ⟨et (by decide), et (by decide), trivial⟩ (by decide), cF (by decide) ⟨eJ, trivial⟩ (by decide), cF (by decide) ⟨eJ, trivial⟩ (by decide), trivial⟩)
theorem ok_X2 : exX2.ok 100 ∧ Fw exX2 := nk (by decide) (eK ⟨cF (by decide) ⟨et (by decide), et (by decide), trivial⟩ (by decide), cF (by decide) ⟨eJ, trivial⟩ (by decide), cF (by decide) ⟨eJ, trivial⟩ (by decide), trivial⟩)
theorem ok_Y1 : exY1.ok 100 ∧ Fw exY1 := nk (by decide) (eK ⟨cF (by decide) trivial (by decide), cF (by decide) ⟨eJ, trivial⟩ (by decide), trivial⟩)
theorem ok_Y2 : exY2.ok 100 ∧ Fw exY2 := nk (by decide) (eK ⟨cF (by decide) ⟨l8 ⟨by omega, by omega⟩, trivial⟩ (by decide), cF (by decide) ⟨eJ, trivial⟩ (by decide), trivial⟩)
theorem ok_Z1 : exZ1.ok 100 ∧ Fw exZ1 := nk (by decide) (eK ⟨cF (by decide) ⟨et (by decide), trivial⟩ (by decide), cF (by decide) ⟨eJ, trivial⟩ (by decide), trivial⟩)
theorem ok_Z2 : exZ2.ok 100 ∧ Fw exZ2 := nk (by decide) (eK ⟨cF (by decide) ⟨l8 ⟨by omega, by omega⟩, et (by decide), trivial⟩ (by decide), cF (by decide) ⟨l8 ⟨by omega, by omega⟩, trivial⟩ (by decide), trivial⟩)
theorem jD {s : ByteArray} (h : s.data.toList.all (fun b => !decide (b = 47)) = true) : noS s := fun b hb e => by
  have := List.all_eq_true.1 h b hb
  rw [decide_eq_true e] at this; cases this
theorem qE : XQ Tryz.prog pk0 12 [] (xb true) := by
  have pX1 := cN (pk := pk0) (s := scX1) (by decide) (jD nos_X1) src_X1
  have pX2 := cN (pk := pk0) (s := scX2) (by decide) (jD nos_X2) src_X2
  have pY1 := cN (pk := pk0) (s := scY1) (by decide) (jD nos_Y1) src_Y1
  have pY2 := cN (pk := pk0) (s := scY2) (by decide) (jD nos_Y2) src_Y2
  have pZ1 := cN (pk := pk0) (s := scZ1) (by decide) (jD nos_Z1) src_Z1
  have pZ2 := cN (pk := pk0) (s := scZ2) (by decide) (jD nos_Z2) src_Z2
  have mX := dK ok_X1.1 ok_X2.1 (by decide) ok_X1.2 ok_X2.2
  have mY := dK ok_Y1.1 ok_Y2.1 (by decide) ok_Y1.2 ok_Y2.2
  have mZ := dK ok_Z1.1 ok_Z2.1 (by decide) ok_Z1.2 ok_Z2.2
  have eX : mtL exX1 exX2 = [(0, 0, ak exX1 exX2 0 0, 1), (1, 2, ak exX1 exX2 1 2, 2), (2, 1, ak exX1 exX2 2 1, 2)] := by rw [mtL, ex_x]; rfl
  have eY : mtL exY1 exY2 = [(0, 0, ak exY1 exY2 0 0, 4), (1, 1, ak exY1 exY2 1 1, 1)] := by rw [mtL, ex_y]; rfl
  have eZ : mtL exZ1 exZ2 = [(0, 0, ak exZ1 exZ2 0 0, 4), (1, 1, ak exZ1 exZ2 1 1, 2)] := by rw [mtL, ex_z]; rfl
  have h1 := iY (pk := pk0) (l := mtL exX1 exX2) (by rw [eX]; decide) 1 2 2
  have h2 := iY (pk := pk0) (l := mtL exX1 exX2) (by rw [eX]; decide) 2 1 2
  have h3 := iY (pk := pk0) (l := mtL exY1 exY2) (by rw [eY]; decide) 0 0 4
  have h4 := iY (pk := pk0) (l := mtL exY1 exY2) (by rw [eY]; decide) 1 1 1
  have h5 := iY (pk := pk0) (l := mtL exZ1 exZ2) (by rw [eZ]; decide) 1 1 2
  rw [show hasF (mtL exX1 exX2) 1 2 2 = true from by rw [eX]; rfl] at h1
  rw [show hasF (mtL exX1 exX2) 2 1 2 = true from by rw [eX]; rfl] at h2
  rw [show hasF (mtL exY1 exY2) 0 0 4 = true from by rw [eY]; rfl] at h3
  rw [show hasF (mtL exY1 exY2) 1 1 1 = true from by rw [eY]; rfl] at h4
  rw [show hasF (mtL exZ1 exZ2) 1 1 2 = true from by rw [eZ]; rfl] at h5
  clear eX eY eZ
  generalize hx1 : pgD exX1 = X1 at mX
  generalize hx2 : pgD exX2 = X2 at mX
  generalize hy1 : pgD exY1 = Y1 at mY
  generalize hy2 : pgD exY2 = Y2 at mY
  generalize hz1 : pgD exZ1 = Z1 at mZ
  generalize hz2 : pgD exZ2 = Z2 at mZ
  rw [show (⟨[], [], exX1.fs⟩ : Pg) = exX1 from rfl, hx1] at pX1
  rw [show (⟨[], [], exX2.fs⟩ : Pg) = exX2 from rfl, hx2] at pX2
  rw [show (⟨[], [], exY1.fs⟩ : Pg) = exY1 from rfl, hy1] at pY1
  rw [show (⟨[], [], exY2.fs⟩ : Pg) = exY2 from rfl, hy2] at pY2
  rw [show (⟨[], [], exZ1.fs⟩ : Pg) = exZ1 from rfl, hz1] at pZ1
  rw [show (⟨[], [], exZ2.fs⟩ : Pg) = exZ2 from rfl, hz2] at pZ2
  clear hx1 hx2 hy1 hy2 hz1 hz2
  generalize mtL exX1 exX2 = lX at mX h1 h2
  generalize mtG exX1 exX2 = gX at mX
  generalize mtL exY1 exY2 = lY at mY h3 h4
  generalize mtG exY1 exY2 = gY at mY
  generalize mtL exZ1 exZ2 = lZ at mZ h5
  generalize mtG exZ1 exZ2 = gZ at mZ
  refine XQ.en Tryz.func12 Tryz.ntmps12 (fun w0 own H V v0 hf => ?_)
  refine G9 rfl (Cq pX1 rfl rfl rfl rfl rfl ⟨rfl, rfl⟩ ?_)
  refine G9 rfl (Cq pX2 rfl rfl rfl rfl rfl ⟨rfl, rfl⟩ ?_)
  refine G9 rfl (Cq mX rfl rfl rfl rfl rfl ⟨rfl, rfl⟩ ?_)
  refine G9 rfl (Cq pY1 rfl rfl rfl rfl rfl ⟨rfl, rfl⟩ ?_)
  refine G9 rfl (Cq pY2 rfl rfl rfl rfl rfl ⟨rfl, rfl⟩ ?_)
  refine G9 rfl (Cq mY rfl rfl rfl rfl rfl ⟨rfl, rfl⟩ ?_)
  refine G9 rfl (Cq pZ1 rfl rfl rfl rfl rfl ⟨rfl, rfl⟩ ?_)
  refine G9 rfl (Cq pZ2 rfl rfl rfl rfl rfl ⟨rfl, rfl⟩ ?_)
  refine G9 rfl (Cq mZ rfl rfl rfl rfl rfl ⟨rfl, rfl⟩ ?_)
  refine G9 rfl (Cq h1 rfl rfl rfl rfl rfl ⟨rfl, rfl⟩ ?_)
  refine G9 rfl (Cq h2 rfl rfl rfl rfl rfl ⟨rfl, rfl⟩ ?_)
  refine G9 rfl (Cq h3 rfl rfl rfl rfl rfl ⟨rfl, rfl⟩ ?_)
  refine G9 rfl (Cq h4 rfl rfl rfl rfl rfl ⟨rfl, rfl⟩ ?_)
  refine G9 rfl (Cq h5 rfl rfl rfl rfl rfl ⟨rfl, rfl⟩ ?_)
  refine G9 rfl (Fe (T := T) rfl rfl)
end
theorem MP.few {p : Pg} (h : MP p) : p.ok BG ∧ Fw p ∧ 1 ≤ p.fs.length ∧ 1 ≤ p.gs.length := by
  have hok := h.facts.2
  obtain ⟨tn, s1, s2, fs, hd, ht, h1, h2, rfl, hl1, hl2, hn, hF, hh⟩ := h
  have l0 : (c6 tn).length ≤ 7 := by unfold c6; (repeat' split) <;> decide
  have e2 : (c6 tn ++ [gbT s1, gbW s2]).length = (c6 tn).length + 2 := by rw [List.length_append]; rfl
  have l3 : (fs ++ hd).length ≤ 5 ∧ 1 ≤ (fs ++ hd).length := by
    rw [List.length_append]
    rcases hh with rfl | ⟨b, rfl, _⟩ <;> simp only [List.length_cons, List.length_nil] <;> omega
  exact ⟨hok, ⟨by show (fs ++ hd).length ≤ _; omega, by show (c6 tn ++ [gbT s1, gbW s2]).length ≤ _; omega⟩, l3.2, by show 1 ≤ (c6 tn ++ [gbT s1, gbW s2]).length; omega⟩
theorem MP.small {p : Pg} (h : MP p) : p.fs.length ≤ 5 ∧ p.gs.length ≤ 9 := by
  obtain ⟨tn, s1, s2, fs, hd, ht, h1, h2, rfl, hl1, hl2, hn, hF, hh⟩ := h
  have l0 : (c6 tn).length ≤ 7 := by unfold c6; (repeat' split) <;> decide
  have e2 : (c6 tn ++ [gbT s1, gbW s2]).length = (c6 tn).length + 2 := by rw [List.length_append]; rfl
  have l3 : (fs ++ hd).length ≤ 5 := by
    rw [List.length_append]
    rcases hh with rfl | ⟨b, rfl, _⟩ <;> simp only [List.length_cons, List.length_nil] <;> omega
  exact ⟨l3, by show (c6 tn ++ [gbT s1, gbW s2]).length ≤ _; omega⟩
section
variable {a c : Pg} {R : Rf → Prop} {good : Nat → Prop} {σ : Rf → Rf} {m : Ms}
end
section
variable {a c : Pg}
theorem match_perm : (aM a c).1.Perm (aT a c (a.fs.length + a.gs.length + 1) (db a c)).fs ∧ (aM a c).2.Perm (aT a c (a.fs.length + a.gs.length + 1) (db a c)).gs := ⟨eo _, eo _⟩
theorem pX : ∀ (k : Nat) {m : Ms}, m.rng a c → (aT a c k m).rng a c
  | 0, _, h => h
  | k + 1, m, h => by
    rw [aT]
    split
    · rename_i m' hm; exact pX k (iP h hm).1
    · exact h
theorem match_dis : (⟨(aM a c).1, (aM a c).2⟩ : Ms).dis ∧ (⟨(aM a c).1, (aM a c).2⟩ : Ms).rng a c := by
  have hd := iN (a := a) (c := c) (a.fs.length + a.gs.length + 1) (ig (a := a) (c := c)).d
  have hr := pX (a := a) (c := c) (a.fs.length + a.gs.length + 1) (ig (a := a) (c := c)).r
  obtain ⟨h1, h2⟩ := match_perm (a := a) (c := c)
  have e : (aT a c (a.fs.length + a.gs.length + 1) (db a c)).eqv ⟨(aM a c).1, (aM a c).2⟩ := ⟨h1.symm, h2.symm⟩
  exact ⟨e.dis hd, fun p hp => hr.f p (h1.mem_iff.1 hp), fun p hp => hr.g p (h2.mem_iff.1 hp)⟩
end
structure Tr where
  τ : aj → aj
  tf : Pr → Pr
  tg : Pr → Pr
def Ms.tr (t : Tr) (m : Ms) : Ms := ⟨m.fs.map t.tf, m.gs.map t.tg⟩
structure TrOk (t : Tr) (dom : aj → Prop) : Prop where
  fl : ∀ p, dom p → (t.τ p).1.1 = p.1.1
  add : ∀ p w, dom p → p.1.1 = true → t.tf ⟨p.1.2, p.2.2, w⟩ = ⟨(t.τ p).1.2, (t.τ p).2.2, w⟩
  adg : ∀ p, dom p → p.1.1 = false → t.tg ⟨p.1.2, p.2.2, 5⟩ = ⟨(t.τ p).1.2, (t.τ p).2.2, 5⟩
  cf : ∀ p q, dom p → dom q → ((t.τ p).1 = (t.τ q).1 ∨ (t.τ p).2 = (t.τ q).2 ↔ p.1 = q.1 ∨ p.2 = q.2)
  inj : ∀ p q, dom p → dom q → t.τ p = t.τ q → p = q
theorem gI {α β : Type} [BEq β] [LawfulBEq β] {f : α → β} {l : List α} (hn : l.Nodup) {p : α} (hp : p ∈ l) : (l.map f).count (f p) ≤ 1 ↔ ∀ q ∈ l, f q = f p → q = p := by
  rw [List.count_eq_countP, List.countP_map, List.countP_eq_length_filter]
  constructor
  · intro h q hq e
    have hpf : p ∈ l.filter ((fun x => x == f p) ∘ f) := List.mem_filter.2 ⟨hp, by simp⟩
    have hqf : q ∈ l.filter ((fun x => x == f p) ∘ f) := List.mem_filter.2 ⟨hq, by simp [e]⟩
    generalize l.filter ((fun x => x == f p) ∘ f) = L at *
    match L, h, hpf, hqf with
    | [x], _, h1, h2 => rw [List.mem_singleton.1 h1, List.mem_singleton.1 h2]
    | _ :: _ :: _, h, _, _ => simp at h
  · intro h
    have h1 : (l.filter ((fun x => x == f p) ∘ f)).Nodup := hn.filter _
    have h2 : ∀ x ∈ l.filter ((fun x => x == f p) ∘ f), x = p := fun x hx => by
      obtain ⟨h3, h4⟩ := List.mem_filter.1 hx
      exact h x h3 (by simpa using h4)
    generalize l.filter ((fun x => x == f p) ∘ f) = L at *
    match L, h1, h2 with
    | [], _, _ => simp
    | [x], _, _ => simp
    | x :: y :: r, h1, h2 =>
      rw [h2 x (by simp), h2 y (by simp)] at h1
      simp at h1
theorem jE {l : List aj} (hn : l.Nodup) {p : aj} : p ∈ ah l ↔ p ∈ l ∧ ∀ q ∈ l, (q.1 = p.1 ∨ q.2 = p.2) → q = p := by
  unfold ah
  rw [List.mem_filter]
  refine and_congr_right fun hp => ?_
  rw [decide_eq_true_eq, gI hn hp, gI hn hp]
  exact ⟨fun h q hq e => e.elim (h.1 q hq) (h.2 q hq), fun h => ⟨fun q hq e => h q hq (.inl e), fun q hq e => h q hq (.inr e)⟩⟩
section
variable {t : Tr} {dom : aj → Prop} (ht : TrOk t dom)
include ht
theorem iZ : ∀ {l : List aj}, l.Nodup → (∀ p ∈ l, dom p) → (l.map t.τ).Nodup
  | [], _, _ => List.nodup_nil
  | p :: r, hn, hd => by
    rw [List.map_cons, List.nodup_cons]
    rw [List.nodup_cons] at hn
    refine ⟨fun h => ?_, iZ hn.2 fun q hq => hd q (List.mem_cons_of_mem _ hq)⟩
    obtain ⟨q, hq, e⟩ := List.mem_map.1 h
    exact hn.1 (ht.inj q p (hd q (List.mem_cons_of_mem _ hq)) (hd p List.mem_cons_self) e ▸ hq)
theorem clear_tr {l l' : List aj} (hn : l.Nodup) (hd : ∀ p ∈ l, dom p) (h : l'.Perm (l.map t.τ)) : (ah l').Perm ((ah l).map t.τ) := by
  refine (lC h).trans ?_
  refine (List.perm_ext_iff_of_nodup ((iZ ht hn hd).filter _) (iZ ht (hn.filter _) fun p hp => hd p (List.mem_filter.1 hp).1)).2 fun p => ?_
  show p ∈ ah (l.map t.τ) ↔ p ∈ (ah l).map t.τ
  rw [jE (iZ ht hn hd)]
  refine Iff.trans ?_ List.mem_map.symm
  constructor
  · rintro ⟨h1, h2⟩
    obtain ⟨q, hq, rfl⟩ := List.mem_map.1 h1
    refine ⟨q, (jE hn).2 ⟨hq, fun r hr e => ?_⟩, rfl⟩
    exact ht.inj r q (hd r hr) (hd q hq) (h2 _ (List.mem_map.2 ⟨r, hr, rfl⟩) ((ht.cf r q (hd r hr) (hd q hq)).2 e))
  · rintro ⟨q, hq, rfl⟩
    obtain ⟨h1, h2⟩ := (jE hn).1 hq
    refine ⟨List.mem_map.2 ⟨q, h1, rfl⟩, fun r hr e => ?_⟩
    obtain ⟨u, hu, e'⟩ := List.mem_map.1 hr
    subst e'
    rw [h2 u hu ((ht.cf u q (hd u hu) (hd q h1)).1 e)]
theorem add_tr {l l' : List aj} {m : Ms} (w : Int) (hd : ∀ p ∈ l, dom p) (h : l'.Perm (l.map t.τ)) : (l'.foldl (fun m p => m.add w p) (m.tr t)).eqv ((l.foldl (fun m p => m.add w p) m).tr t) := by
  obtain ⟨e1, e2⟩ := dk w l m
  obtain ⟨e3, e4⟩ := dk w l' (m.tr t)
  refine ⟨?_, ?_⟩
  · rw [e3]
    show List.Perm _ ((l.foldl (fun m p => m.add w p) m).fs.map t.tf)
    rw [e1, List.map_append, List.map_map]
    refine (List.Perm.refl _).append (((h.filter _).map _).trans (.of_eq ?_))
    clear e1 e2 e3 e4 h
    induction l with
    | nil => rfl
    | cons p r ih =>
      have hp := hd p List.mem_cons_self
      have ih := ih fun q hq => hd q (List.mem_cons_of_mem _ hq)
      rw [List.map_cons, List.filter_cons, List.filter_cons, ht.fl p hp]
      split
      · rename_i hb
        rw [List.map_cons, List.map_cons, ih]
        congr 1
        exact (ht.add p w hp hb).symm
      · exact ih
  · rw [e4]
    show List.Perm _ ((l.foldl (fun m p => m.add w p) m).gs.map t.tg)
    rw [e2, List.map_append, List.map_map]
    refine (List.Perm.refl _).append (((h.filter _).map _).trans (.of_eq ?_))
    clear e1 e2 e3 e4 h
    induction l with
    | nil => rfl
    | cons p r ih =>
      have hp := hd p List.mem_cons_self
      have ih := ih fun q hq => hd q (List.mem_cons_of_mem _ hq)
      rw [List.map_cons, List.filter_cons, List.filter_cons, ht.fl p hp]
      split
      · rename_i hb
        rw [List.map_cons, List.map_cons, ih]
        congr 1
        exact (ht.adg p hp (by simpa using hb)).symm
      · exact ih
def RuT (t : Tr) (dom : aj → Prop) (L L' : List (List aj × Int)) : Prop := Fa (fun p q : List aj × Int => q.1.Perm (p.1.map t.τ) ∧ p.2 = q.2 ∧ p.1.Nodup ∧ ∀ x ∈ p.1, dom x) L L'
theorem find_tr {L L' : List (List aj × Int)} {m : Ms} (h : RuT t dom L L') :
    OptE (((L'.map fun (l, w) => (ah l, w)).find? (fun (l, _) => !l.isEmpty)).map fun (l, w) => l.foldl (fun m p => m.add w p) (m.tr t)) ((((L.map fun (l, w) => (ah l, w)).find? (fun (l, _) => !l.isEmpty)).map fun (l, w) => l.foldl (fun m p => m.add w p) m).map (Ms.tr t)) := by
  induction h with
  | nil => exact trivial
  | @cons p q L L' hpq _ ih =>
    obtain ⟨l, w1⟩ := p
    obtain ⟨l', w2⟩ := q
    obtain ⟨h1, rfl, h3, h4⟩ := hpq
    simp only at h1 h3 h4
    have hc := clear_tr ht h3 h4 h1
    have hb : (ah l').isEmpty = (ah l).isEmpty := by
      rw [iO hc]
      cases ah l <;> rfl
    simp only [List.map_cons, List.find?_cons]
    rw [hb]
    cases (ah l).isEmpty with
    | true => exact ih
    | false => exact add_tr ht w1 (fun p hp => h4 p ((aY l).subset hp)) hc
end
section
variable {a c a' c' : Pg} {t : Tr} {dom : aj → Prop}
theorem step_tr (ht : TrOk t dom) {m : Ms} (h : RuT t dom (bF a c m) (bF a' c' (m.tr t))) : OptE (bG a' c' (m.tr t)) ((bG a c m).map (Ms.tr t)) := find_tr ht h
theorem loop_tr (ht : TrOk t dom) (hr : ∀ m : Ms, m.dis → m.rng a c → (m.tr t).dis ∧ RuT t dom (bF a c m) (bF a' c' (m.tr t))) : ∀ (k : Nat) {m : Ms}, m.dis → m.rng a c → (aT a' c' k (m.tr t)).eqv ((aT a c k m).tr t)
  | 0, _, _, _ => Ms.eqv.refl _
  | k + 1, m, hd, hg => by
    obtain ⟨h1, h2⟩ := hr m hd hg
    have hs := step_tr ht h2
    rw [aT, aT]
    cases e : bG a c m with
    | none =>
      rw [e] at hs
      cases e' : bG a' c' (m.tr t) with
      | none => exact Ms.eqv.refl _
      | some y => rw [e'] at hs; exact hs.elim
    | some x =>
      rw [e] at hs
      cases e' : bG a' c' (m.tr t) with
      | none => rw [e'] at hs; exact hs.elim
      | some y =>
        rw [e'] at hs
        have hs : y.eqv (x.tr t) := hs
        have hx := ei hd e
        have hxr := (iP hg e).1
        exact (lD k hs (ei h1 e')).trans (loop_tr ht hr k hx hxr)
theorem pY : ∀ (k : Nat) {m : Ms}, m.dis → m.rng a c → a.fs.length + a.gs.length < k + (m.fs.length + m.gs.length) → bG a c (aT a c k m) = none
  | 0, m, hd, hr, hk => by have := hr.le hd; omega
  | k + 1, m, hd, hr, hk => by
    rw [aT]
    cases h : bG a c m with
    | none => exact h
    | some m' =>
      obtain ⟨h1, h2⟩ := iP hr h
      exact pY k (ei hd h) h1 (by omega)
theorem nl {m : Ms} (hd : m.dis) (hr : m.rng a c) {k : Nat} (hk : a.fs.length + a.gs.length < k) (j : Nat) : aT a c (k + j) m = aT a c k m := by
  rw [pC, jx (pY k hd hr (by omega))]
end
section
variable {a c : Pg} {m : Ms}
theorem nn {fn : Bool} {ok : Nat → Nat → Bool} {p : aj} : p ∈ bK a c m fn ok ↔ p.1.1 = fn ∧ p.2.1 = fn ∧ p.1.2 ∈ unA a m fn ∧ p.2.2 ∈ unC c m fn ∧ ok p.1.2 p.2.2 = true := by
  unfold bK
  rw [List.mem_flatMap]
  constructor
  · rintro ⟨x, hx, h⟩
    obtain ⟨y, hy, rfl⟩ := List.mem_map.1 h
    obtain ⟨hy, ho⟩ := List.mem_filter.1 hy
    exact ⟨rfl, rfl, hx, hy, ho⟩
  · obtain ⟨⟨b1, x⟩, ⟨b2, y⟩⟩ := p
    rintro ⟨rfl, h1, hx, hy, ho⟩
    have h1 : b2 = b1 := h1
    subst h1
    exact ⟨x, hx, List.mem_map.2 ⟨y, List.mem_filter.2 ⟨hy, ho⟩, rfl⟩⟩
theorem eL {α β : Type} {f : α → β} : ∀ {l : List α}, l.Nodup → (∀ x ∈ l, ∀ y ∈ l, f x = f y → x = y) → (l.map f).Nodup
  | [], _, _ => List.nodup_nil
  | p :: r, hn, hi => by
    rw [List.map_cons, List.nodup_cons]
    rw [List.nodup_cons] at hn
    refine ⟨fun h => ?_, eL hn.2 fun x hx y hy => hi x (List.mem_cons_of_mem _ hx) y (List.mem_cons_of_mem _ hy)⟩
    obtain ⟨q, hq, e⟩ := List.mem_map.1 h
    exact hn.1 (hi q (List.mem_cons_of_mem _ hq) p List.mem_cons_self e ▸ hq)
theorem pZ {fn : Bool} : (unA a m fn).Nodup ∧ (unC c m fn).Nodup := ⟨List.nodup_range.filter _, List.nodup_range.filter _⟩
theorem pairs_nodup {fn : Bool} {ok : Nat → Nat → Bool} : (bK a c m fn ok).Nodup := by
  unfold bK
  have h1 := (pZ (a := a) (c := c) (m := m) (fn := fn)).1
  generalize unA a m fn = L at h1
  induction L with
  | nil => exact List.nodup_nil
  | cons x r ih =>
    rw [List.nodup_cons] at h1
    rw [List.flatMap_cons]
    refine List.nodup_append.2 ⟨eL ((pZ (a := a) (c := c) (m := m) (fn := fn)).2.filter _) (fun y _ z _ e => by simpa using e), ih h1.2, fun p hp q hq e => ?_⟩
    obtain ⟨y, _, rfl⟩ := List.mem_map.1 hp
    obtain ⟨z, hz, hq⟩ := List.mem_flatMap.1 hq
    obtain ⟨w, _, rfl⟩ := List.mem_map.1 hq
    simp only [Prod.mk.injEq, true_and] at e
    exact h1.1 (e.1 ▸ hz)
end
mutual
theorem cZ : ∀ t u : Ty4, bj t u = bj u t
  | .mk k nm n ts, .mk k' nm' n' ts' => by
    rw [bj, bj, i7 ts ts']
    congr 1
    exact decide_eq_decide.2 ⟨fun ⟨h1, h2, h3⟩ => ⟨h1.symm, h2.symm, h3.symm⟩, fun ⟨h1, h2, h3⟩ => ⟨h1.symm, h2.symm, h3.symm⟩⟩
theorem i7 : ∀ l r : List Ty4, bJ l r = bJ r l
  | [], [] => rfl
  | [], _ :: _ => by rw [bJ, bJ] <;> simp
  | _ :: _, [] => by rw [bJ, bJ] <;> simp
  | x :: l, y :: r => by rw [bJ, bJ, cZ x y, i7 l r]
end
theorem jR : ∀ l r : List Par, fB l r = fB r l
  | [], [] => rfl
  | [], _ :: _ => rfl
  | _ :: _, [] => rfl
  | x :: l, y :: r => by rw [fB, fB, cZ x.ty y.ty, jR l r, show decide (x.nm = y.nm) = decide (y.nm = x.nm) from decide_eq_decide.2 eq_comm]
section
variable (a c : Pg) (la lc : List ByteArray)
mutual
theorem qF : ∀ e e' : Ex, eO a c la lc e e' = eO c a lc la e' e
  | .mk k nm n ks, .mk k' nm' n' ks' => by
    rw [eO, eO, fT ks ks']
    generalize (be a la (.mk k nm n ks)).isSome = x
    generalize (be c lc (.mk k' nm' n' ks')).isSome = y
    rw [show decide (nm = nm') = decide (nm' = nm) from decide_eq_decide.2 eq_comm]
    congr 1
    have e : decide (k = k' ∧ n = n' ∧ x = y) = decide (k' = k ∧ n' = n ∧ y = x) := decide_eq_decide.2 ⟨fun ⟨h1, h2, h3⟩ => ⟨h1.symm, h2.symm, h3.symm⟩, fun ⟨h1, h2, h3⟩ => ⟨h1.symm, h2.symm, h3.symm⟩⟩
    rw [e]
    by_cases h : x = y
    · rw [h]
    · rw [decide_eq_false (fun h9 => h h9.2.2.symm)]; rfl
theorem fT : ∀ l r : List Ex, bg a c la lc l r = bg c a lc la r l
  | [], [] => by rw [bg, bg]
  | [], _ :: _ => by rw [bg, bg] <;> simp
  | _ :: _, [] => by rw [bg, bg] <;> simp
  | x :: l, y :: r => by rw [bg, bg, qF x y, fT l r]
end
mutual
theorem qG : ∀ s s' : Sm, eP a c la lc s s' = eP c a lc la s' s
  | .mk k nm t n es b el cs, .mk k' nm' t' n' es' b' el' cs' => by
    rw [eP, eP, cZ t t', fT, c5 b b', c5 el el', jS cs cs', show decide (k = k' ∧ nm = nm' ∧ n = n') = decide (k' = k ∧ nm' = nm ∧ n' = n) from decide_eq_decide.2 ⟨fun ⟨h1, h2, h3⟩ => ⟨h1.symm, h2.symm, h3.symm⟩, fun ⟨h1, h2, h3⟩ => ⟨h1.symm, h2.symm, h3.symm⟩⟩]
theorem c5 : ∀ l r : List Sm, aJ a c la lc l r = aJ c a lc la r l
  | [], [] => by rw [aJ, aJ]
  | [], _ :: _ => by rw [aJ, aJ] <;> simp
  | _ :: _, [] => by rw [aJ, aJ] <;> simp
  | x :: l, y :: r => by rw [aJ, aJ, qG x y, c5 l r]
theorem jS : ∀ l r : List (List Sm), bl a c la lc l r = bl c a lc la r l
  | [], [] => by rw [bl, bl]
  | [], _ :: _ => by rw [bl, bl] <;> simp
  | _ :: _, [] => by rw [bl, bl] <;> simp
  | x :: l, y :: r => by rw [bl, bl, c5 x y, jS l r]
end
end
section
variable {a c : Pg} {m : Ms}
theorem fU (x y : Nat) : aL c a y x = aL a c x y := by
  unfold aL d6
  rw [jR, cZ, c5, show decide ((eD c y).fl = (eD a x).fl) = decide ((eD a x).fl = (eD c y).fl) from decide_eq_decide.2 eq_comm]
theorem i8 (x y : Nat) : aC c a y x = aC a c x y := by
  unfold aC
  rw [cZ]
  congr 1
  exact decide_eq_decide.2 ⟨Iff.symm, Iff.symm⟩
theorem dl (x y : Nat) : ak c a y x = ak a c x y := simF_comm _ _
theorem gJ (x y : Nat) : aN c a y x = aN a c x y := Bool.and_comm ..
def swP (p : Pr) : Pr := ⟨p.b, p.a, p.why⟩
def swT : Tr := ⟨fun p => (p.2, p.1), swP, swP⟩
theorem sw_ok : TrOk swT fun p => p.1.1 = p.2.1 :=
  ⟨fun _ h => h.symm, fun _ _ _ _ => rfl, fun _ _ _ => rfl, fun _ _ _ _ => Or.comm, fun p q _ _ h => by
    obtain ⟨h1, h2⟩ := Prod.mk.injEq .. ▸ h
    exact Prod.ext h2 h1⟩
theorem find_sw {l : List Pr} {k : Nat} : ((l.map swP).find? fun p => p.a == k).map (·.b) = (l.find? fun p => p.b == k).map (·.a) := by
  rw [List.find?_map, Option.map_map]; rfl
theorem p4 {l : List Pr} {k : Nat} : ((l.map swP).find? fun p => p.b == k).map (·.a) = (l.find? fun p => p.a == k).map (·.b) := by
  rw [List.find?_map, Option.map_map]; rfl
theorem pa_sw (r : Rf) : (m.tr swT).pa r = m.pc r := by
  obtain ⟨b, n⟩ := r
  cases b
  · exact find_sw
  · exact find_sw
theorem pc_sw (r : Rf) : (m.tr swT).pc r = m.pa r := by
  obtain ⟨b, n⟩ := r
  cases b
  · exact p4
  · exact p4
theorem p5 (r : Rf) : bE (m.tr swT) r = bp m r := by unfold bE bp; rw [pa_sw]
theorem p6 (r : Rf) : bp (m.tr swT) r = bE m r := by unfold bE bp; rw [pc_sw]
theorem un_sw (fn : Bool) : unA c (m.tr swT) fn = unC c m fn ∧ unC a (m.tr swT) fn = unA a m fn := by
  unfold unA unC
  exact ⟨by congr 1; funext k; rw [p5], by congr 1; funext k; rw [p6]⟩
theorem dis_sw (h : m.dis) : (m.tr swT).dis := by
  have e : ∀ l : List Pr, (l.map swP).map (·.a) = l.map (·.b) ∧ (l.map swP).map (·.b) = l.map (·.a) := fun l => ⟨by rw [List.map_map]; rfl, by rw [List.map_map]; rfl⟩
  exact ⟨by show ((m.fs.map swP).map _).Nodup; rw [(e _).1]; exact h.fb, by show ((m.fs.map swP).map _).Nodup; rw [(e _).2]; exact h.fa, by show ((m.gs.map swP).map _).Nodup; rw [(e _).1]; exact h.gb, by show ((m.gs.map swP).map _).Nodup; rw [(e _).2]; exact h.ga⟩
theorem om {p q : aj} (h : swT.τ p = swT.τ q) : p = q := by
  obtain ⟨h1, h2⟩ := Prod.mk.injEq .. ▸ h
  exact Prod.ext h2 h1
theorem oo {l l' : List aj} (hn : l.Nodup) (hn' : l'.Nodup) (h : ∀ p, (p.2, p.1) ∈ l' ↔ p ∈ l) : l'.Perm (l.map swT.τ) := by
  refine (List.perm_ext_iff_of_nodup hn' (eL hn fun _ _ _ _ e => om e)).2 fun p => ?_
  rw [List.mem_map]
  constructor
  · intro hp
    exact ⟨(p.2, p.1), (h (p.2, p.1)).1 hp, rfl⟩
  · rintro ⟨q, hq, rfl⟩
    exact (h q).2 hq
theorem fV {fn : Bool} {ok ok' : Nat → Nat → Bool} (h : ∀ x y, ok' y x = ok x y) : (bK c a (m.tr swT) fn ok').Perm ((bK a c m fn ok).map swT.τ) := by
  refine oo pairs_nodup pairs_nodup fun p => ?_
  rw [nn, nn, (un_sw (a := a) (c := c) fn).1, (un_sw (a := a) (c := c) fn).2]
  show _ ∧ _ ∧ _ ∧ _ ∧ ok' p.2.2 p.1.2 = true ↔ _
  rw [h]
  exact ⟨fun ⟨h1, h2, h3, h4, h5⟩ => ⟨h2, h1, h4, h3, h5⟩, fun ⟨h1, h2, h3, h4, h5⟩ => ⟨h2, h1, h4, h3, h5⟩⟩
theorem zip_sw {α β : Type} : ∀ (l : List α) (r : List β), List.zip r l = (List.zip l r).map Prod.swap
  | [], [] => rfl
  | [], _ :: _ => rfl
  | _ :: _, [] => rfl
  | x :: l, y :: r => by rw [List.zip_cons_cons, List.zip_cons_cons, List.map_cons, zip_sw l r]; rfl
theorem agree_sw (x y : Nat) : dU c a (m.tr swT) y x = dU a c m x y := by
  unfold dU
  simp only [zip_sw (aD a x) (aD c y), List.all_map, pa_sw, pc_sw]
  congr 1
  · congr 1
    funext p
    exact Bool.and_comm ..
  · congr 1
    funext p
    show (List.all _ _) = _
    congr 1
    funext q
    exact decide_eq_decide.2 ⟨Iff.symm, Iff.symm⟩
theorem all_any {l : List Pr} {f g : Pr → Bool} (h : l.all (fun p => f p == g p) = true) : l.any f = l.any g := by
  induction l with
  | nil => rfl
  | cons p r ih =>
    simp only [List.all_cons, Bool.and_eq_true, beq_iff_eq] at h
    rw [List.any_cons, List.any_cons, h.1, ih h.2]
theorem both_sw {l : List Pr} {f g f' g' : Pr → Bool} (hf : ∀ p, f' (swP p) = g p) (hg : ∀ p, g' (swP p) = f p) : ((l.map swP).all (fun p => f' p == g' p) && (l.map swP).any f') = (l.all (fun p => f p == g p) && l.any f) := by
  rw [List.all_map, List.any_map]
  have e1 : ((fun p => f' p == g' p) ∘ swP) = fun p => f p == g p := funext fun p => by
    show (f' (swP p) == g' (swP p)) = _
    rw [hf, hg]; exact Bool.beq_comm
  have e2 : (f' ∘ swP) = g := funext hf
  rw [e1, e2]
  cases h : l.all (fun p => f p == g p) with
  | true => rw [all_any h]
  | false => rfl
theorem p7 (r s : Rf) : dD c a (m.tr swT) s r = dD a c m r s := both_sw (l := m.fs) (fun _ => rfl) (fun _ => rfl)
theorem qH (x y : Nat) : cy c a (m.tr swT) y x = cy a c m x y := both_sw (l := m.fs) (fun _ => rfl) (fun _ => rfl)
theorem oq : (bm c a (m.tr swT)).Perm ((bm a c m).map swT.τ) := by
  refine oo (bH _) (bH _) fun p => ?_
  unfold bm
  rw [dedup_mem, dedup_mem, List.mem_flatMap, List.mem_flatMap]
  have key : ∀ q : Pr, ((p.2, p.1) ∈ (if aL c a (swP q).a (swP q).b then (List.zip (aD c (swP q).a) (aD a (swP q).b)).filter fun (x, y) => bE (m.tr swT) x && bp (m.tr swT) y && (x.1 || aC c a x.2 y.2) else [])) ↔ p ∈ (if aL a c q.a q.b then (List.zip (aD a q.a) (aD c q.b)).filter fun (x, y) => bE m x && bp m y && (x.1 || aC a c x.2 y.2) else []) := fun q => by
    show ((p.2, p.1) ∈ (if aL c a q.b q.a then (List.zip (aD c q.b) (aD a q.a)).filter _ else [])) ↔ _
    rw [fU]
    split
    · rename_i hf
      rw [List.mem_filter, List.mem_filter, zip_sw (aD a q.a) (aD c q.b), List.mem_map]
      have e1 : (∃ r ∈ List.zip (aD a q.a) (aD c q.b), Prod.swap r = (p.2, p.1)) ↔ p ∈ List.zip (aD a q.a) (aD c q.b) := by
        constructor
        · rintro ⟨r, hr, e⟩
          obtain ⟨h1, h2⟩ := Prod.mk.injEq .. ▸ (show (r.2, r.1) = (p.2, p.1) from e)
          rw [← show r = p from Prod.ext h2 h1]; exact hr
        · intro h; exact ⟨p, h, rfl⟩
      rw [e1]
      refine and_congr_right fun hz => ?_
      have hfl := (ef (show d6 a c (eD a q.a) (eD c q.b) = true from hf)).zip p hz
      show (bE (m.tr swT) p.2 && bp (m.tr swT) p.1 && (p.2.1 || aC c a p.2.2 p.1.2)) = true ↔ (bE m p.1 && bp m p.2 && (p.1.1 || aC a c p.1.2 p.2.2)) = true
      rw [p5, p6, i8, ← hfl, Bool.and_comm (bp m p.2)]
    · rename_i hf
      have e0 : ∀ x : aj, ¬ x ∈ ([] : List aj) := fun x h => by cases h
      constructor
      · intro h; exact absurd h (e0 _)
      · intro h; exact absurd h (e0 _)
  constructor
  · rintro ⟨q, hq, k⟩
    obtain ⟨q1, hq1, e⟩ := List.mem_map.1 (show q ∈ m.fs.map swP from hq)
    subst e
    exact ⟨q1, hq1, (key q1).1 k⟩
  · rintro ⟨q, hq, k⟩
    exact ⟨swP q, List.mem_map.2 ⟨q, hq, rfl⟩, (key q).2 k⟩
theorem qI : (ci c a (m.tr swT)).Perm ((ci a c m).map swT.τ) := by
  refine oo (pairs_nodup.filter _) (pairs_nodup.filter _) fun p => ?_
  unfold ci
  have hp := fV (a := a) (c := c) (m := m) (fn := true) (ok := aN a c) (ok' := aN c a) fun x y => gJ x y
  simp only
  rw [List.mem_filter, List.mem_filter, lB hp, hp.mem_iff, List.any_map]
  refine and_congr ?_ ?_
  · rw [List.mem_map]
    exact ⟨fun ⟨q, hq, e⟩ => (om (q := p) e) ▸ hq, fun h => ⟨p, h, rfl⟩⟩
  · have e : ((fun o : aj => decide (o ≠ (p.2, p.1) ∧ (o.1 = p.2 ∨ o.2 = p.1) ∧ ak c a p.2.2 p.1.2 ≤ ak c a o.1.2 o.2.2)) ∘ swT.τ) = fun o : aj => decide (o ≠ p ∧ (o.1 = p.1 ∨ o.2 = p.2) ∧ ak a c p.1.2 p.2.2 ≤ ak a c o.1.2 o.2.2) := funext fun o => by
      show decide ((o.2, o.1) ≠ (p.2, p.1) ∧ (o.2 = p.2 ∨ o.1 = p.1) ∧ ak c a p.2.2 p.1.2 ≤ ak c a o.2.2 o.1.2) = _
      rw [dl p.1.2 p.2.2, dl o.1.2 o.2.2]
      refine decide_eq_decide.2 (and_congr (not_congr ?_) (and_congr Or.comm Iff.rfl))
      exact ⟨fun h => om h, fun h => by rw [h]⟩
    show (decide (600 ≤ ak c a p.2.2 p.1.2) && !List.any _ ((fun o : aj => decide (o ≠ (p.2, p.1) ∧ (o.1 = p.2 ∨ o.2 = p.1) ∧ ak c a p.2.2 p.1.2 ≤ ak c a o.1.2 o.2.2)) ∘ swT.τ)) = true ↔ _
    rw [e, dl p.1.2 p.2.2]
theorem rules_sw : RuT swT (fun p => p.1.1 = p.2.1) (bF a c m) (bF c a (m.tr swT)) := by
  have dm : ∀ {l : List aj} {w : Int}, (l, w) ∈ bF a c m → ∀ x ∈ l, x.1.1 = x.2.1 := fun h x hx => (iM h x hx).1
  have e : ∀ {l : List aj} {w : Int}, (l, w) ∈ bF a c m → ∀ x ∈ l, x.1.1 = x.2.1 := dm
  unfold bF at e ⊢
  simp only [List.mem_cons, List.not_mem_nil, or_false] at e
  refine .cons ⟨oq, rfl, bH _, e (.inl rfl)⟩ (.cons ⟨fV fun x y => ?_, rfl, pairs_nodup, e (.inr (.inl rfl))⟩ (.cons ⟨fV fun x y => p7 _ _, rfl, pairs_nodup, e (.inr (.inr (.inl rfl)))⟩ (.cons ⟨fV fun x y => qH _ _, rfl, pairs_nodup, e (.inr (.inr (.inr (.inl rfl))))⟩ (.cons ⟨fV fun x y => ?_, rfl, pairs_nodup, e (.inr (.inr (.inr (.inr (.inl rfl)))))⟩ (.cons ⟨qI, rfl, pairs_nodup.filter _, e (.inr (.inr (.inr (.inr (.inr rfl)))))⟩ .nil)))))
  · rw [gJ, fU, agree_sw]
  · rw [i8, p7]
theorem ini_sw : db c a = (db a c).tr swT := by
  have step : ∀ (m : Ms) (nm : ByteArray), jC c a (m.tr swT) nm = (jC a c m nm).tr swT := fun m nm => by
    unfold jC
    cases h1 : aB (a.fs.map (·.nm)) nm with
    | none => cases h2 : aB (c.fs.map (·.nm)) nm <;> rfl
    | some x => cases h2 : aB (c.fs.map (·.nm)) nm with
      | none => rfl
      | some y =>
        simp only
        rw [fU]
        show Ms.add _ _ _ = _
        unfold Ms.tr Ms.add
        simp only [if_true, List.map_append]
        rfl
  rw [l7, l7]
  simp only [nmsG, List.foldl_cons, List.foldl_nil]
  rw [← step, ← step]
  rfl
theorem qa : (aM c a).1.Perm ((aM a c).1.map swP) ∧ (aM c a).2.Perm ((aM a c).2.map swP) := by
  have hd := (ig (a := a) (c := c)).d
  have hr := (ig (a := a) (c := c)).r
  have hd' := (ig (a := c) (c := a)).d
  have hr' := (ig (a := c) (c := a)).r
  obtain ⟨h1, h2⟩ := match_perm (a := a) (c := c)
  obtain ⟨h3, h4⟩ := match_perm (a := c) (c := a)
  have key := loop_tr (t := swT) (a := a) (c := c) (a' := c) (c' := a) sw_ok (fun m hm _ => ⟨dis_sw hm, rules_sw⟩) (a.fs.length + a.gs.length + 1 + (c.fs.length + c.gs.length + 1)) hd hr
  rw [← ini_sw, nl hd hr (by omega), Nat.add_comm (a.fs.length + a.gs.length + 1), nl hd' hr' (by omega)] at key
  exact ⟨h3.trans (key.1.trans (h1.map _).symm), h4.trans (key.2.trans (h2.map _).symm)⟩
end
section
open Go Go.RowKit Go.Proofs K
variable {pk : Pk}
theorem ou (l : List Par) : ∀ r ∈ l.map paD, r.length = 5 := fun r hr => by
  obtain ⟨x, _, rfl⟩ := List.mem_map.1 hr; rfl
theorem gb_eight (l : List Gb) : ∀ r ∈ l.map gbD, r.length = 8 := fun r hr => by
  obtain ⟨x, _, rfl⟩ := List.mem_map.1 hr; rfl
abbrev fuK (a b : Nat) (f : Fu) : List XC := [.d (.c (.string f.nm)), .l a 1 5 0 f.ps.length f.ps.length, .d (.c (.int .i64 (tk f.res))), .d (.c (.string (tnm f.res))), .d (.c (.int .i64 (tn f.res))), .d (.s (tyS f.res)), .l b 1 11 0 f.body.length f.body.length, .d (.c (.bool f.fl)), .d (.c (.int .i64 f.x)), .d (.c (.int .u16 f.y))]
theorem jF (l : List Sm) : ∀ r ∈ l.map smD, r.length = 11 := fun r hr => by
  obtain ⟨x, _, rfl⟩ := List.mem_map.1 hr
  obtain ⟨k, nm, t, n, es, b, el, cs⟩ := x
  rw [a8]; rfl
abbrev ownR (a b c : Nat) : XV := .a (.a [.l 0 1 3 0 a a, .l 1 1 8 0 b b, .l 2 1 10 0 c c])
abbrev ownB (p : Pg) (f : Fu) (pre post : List (List D)) : XH := [⟨0, 1, .row p.ts.length (p.ts.map tdD) 87 3⟩, ⟨1, 1, .row p.gs.length (p.gs.map gbD) 63 8⟩, ⟨2, 1, .rowk p.fs.length pre (fuK 3 4 f) post 61 10⟩, ⟨3, 1, .row f.ps.length (f.ps.map paD) 85 5⟩, ⟨4, 1, .row f.body.length (f.body.map smD) 71 11⟩]
theorem ref_Own {p : Pg} {B : Nat} (hok : p.ok B) (hB : B ≤ 900000000) {j : Nat} {f : Fu} (hf9 : p.fs[j]? = some f) : XM Tryz.prog pk 26 [xd (pgD p)] [] 0 5 (fun r hp' => ∃ _ : Unit, True ∧ r = ownR p.ts.length p.gs.length p.fs.length ∧ hp' = ownB p f ((p.fs.take j).map fuD) ((p.fs.drop (j + 1)).map fuD)) := by
  have htl := hok.tl
  have hgl := hok.gl
  have hfl := hok.fl
  have l1 : (p.ts.map tdD).length = p.ts.length := List.length_map ..
  have l2 : (p.gs.map gbD).length = p.gs.length := List.length_map ..
  have l3 : (p.fs.map fuD).length = p.fs.length := List.length_map ..
  refine XM.en Tryz.func26 Tryz.ntmps26 (fun w0 own H V v0 hf => ?_)
  refine G (T := T) 100001 rfl ?_
  refine (FzTo.bz 0 rfl).c ?_
  refine G (T := T) 8 rfl ?_
  refine Br (T := T) (lx := []) (rows := []) rfl rfl rfl rfl rfl ⟨rfl, rfl⟩ ?_
  refine G (T := T) 11 rfl ?_
  refine Ap (T := T) l2.symm (gb_eight _) rfl rfl rfl rfl rfl rfl ⟨rfl, rfl⟩ (by omega) (by omega) ?_
  rw [show 0 + p.gs.length = p.gs.length from Nat.zero_add _]
  refine G (T := T) 100002 rfl ?_
  refine (Nrh 3 0 87 3 rfl rfl rfl rfl rfl).c ?_
  refine (Nrh 3 2 61 10 rfl rfl rfl rfl rfl).c ?_
  refine G9 rfl (Lq [1, 2, 3] (fun (q : Nat × List (List D)) r => (4, xi (q.1 : Nat)) :: r) (fun q => [⟨4, 1, .row q.1 q.2 87 3⟩, ⟨5, 0, .row 0 [] 61 10⟩, ⟨3, 0, .cells [.l 4 1 3 0 q.1 q.1, .l 2 1 8 0 p.gs.length p.gs.length, .l 5 0 10 0 0 0] 29⟩, ⟨2, 1, .row p.gs.length (p.gs.map gbD) 63 8⟩, ⟨1, 0, .cells [.z, .z, .z] 29⟩]) 6 (fun q => q.1 ≤ p.ts.length ∧ q.2 = (p.ts.take q.1).map tdD) (fun q => p.ts.length - q.1) (0, []) rfl ⟨Nat.zero_le _, rfl⟩ ?_)
  rintro ⟨i, R⟩ ⟨hi, hR⟩; dsimp only at hi hR ⊢
  refine G9 rfl (If rfl (fun h => ?_) (fun h => ?_))
  · have hil := of_decide_eq_true h; rw [l1] at hil
    obtain ⟨y, hy⟩ := ai (l := p.ts) (j := i) (by omega)
    obtain ⟨y1, y2, y3⟩ := hok.t y (List.mem_of_getElem? hy)
    have l4 : (y.fs.map paD).length = y.fs.length := List.length_map ..
    refine G9 rfl (Ix (T := T) i (ab (f := tdD) hy) rfl rfl rfl rfl ⟨rfl, rfl⟩ rfl rfl ?_)
    refine G (T := T) 25 rfl ?_
    refine Br (T := T) (lx := []) (rows := []) rfl rfl rfl rfl rfl ⟨rfl, rfl⟩ ?_
    refine G (T := T) 28 rfl ?_
    refine Ap (T := T) l4.symm (ou _) rfl rfl rfl rfl rfl rfl ⟨rfl, rfl⟩ (by omega) (by omega) ?_
    refine G (T := T) 30 rfl ?_
    refine Zr 7 rfl ?_
    refine G9 rfl ?_
    exact Nq (i + 1, R ++ [tdD y]) ⟨by dsimp only; omega, by dsimp only; rw [hR, List.take_succ, hy, List.map_append]; rfl⟩ (by show _ - (i + 1) < _ - i; omega)
  have hie : i = p.ts.length := by have := of_decide_eq_false h; rw [l1] at this; omega
  rw [List.take_of_length_le (by omega)] at hR
  subst hR
  refine G9 rfl ?_
  refine Lq [1, 2, 3] (fun (q : Nat × List (List D) × Option (List (List D))) r => (6, xi (q.1 : Nat)) :: r) (fun q => (match q.2.2 with
    | none => [⟨5, 1, .row q.1 q.2.1 61 10⟩]
    | some post => [⟨5, 1, .rowk q.1 q.2.1 (fuK 6 7 f) post 61 10⟩, ⟨6, 1, .row f.ps.length (f.ps.map paD) 85 5⟩, ⟨7, 1, .row f.body.length (f.body.map smD) 71 11⟩]) ++ [⟨4, 1, .row p.ts.length (p.ts.map tdD) 87 3⟩, ⟨3, 0, .cells [.l 4 1 3 0 p.ts.length p.ts.length, .l 2 1 8 0 p.gs.length p.gs.length, .l 5 1 10 0 q.1 q.1] 29⟩, ⟨2, 1, .row p.gs.length (p.gs.map gbD) 63 8⟩, ⟨1, 0, .cells [.z, .z, .z] 29⟩]) 8 (fun q => q.1 ≤ p.fs.length ∧ ((q.1 ≤ j ∧ q.2.1 = (p.fs.take q.1).map fuD ∧ q.2.2 = none) ∨ (j < q.1 ∧ q.2.1 = (p.fs.take j).map fuD ∧ q.2.2 = some (((p.fs.take q.1).drop (j + 1)).map fuD)))) (fun q => p.fs.length - q.1) (0, [], none) rfl ⟨Nat.zero_le _, .inl ⟨Nat.zero_le _, rfl, rfl⟩⟩ ?_ (by subst hie; exact ⟨⟨_, _, rfl, rfl⟩, rfl, rfl⟩)
  rintro ⟨i2, R, ph⟩ ⟨hi2, hph⟩; dsimp only at hi2 hph ⊢
  rcases hph with ⟨hle, rfl, rfl⟩ | ⟨hlt, rfl, rfl⟩
  · dsimp only
    refine G9 rfl (If rfl (fun h => ?_) (fun h => ?_))
    · have hil := of_decide_eq_true h; rw [l3] at hil
      obtain ⟨y, hy⟩ := ai (l := p.fs) (j := i2) (by omega)
      obtain ⟨y1, y2, y3, y4, y5, y6, y7, y8, y9⟩ := hok.f y (List.mem_of_getElem? hy)
      have l4 : (y.ps.map paD).length = y.ps.length := List.length_map ..
      have l5 : (y.body.map smD).length = y.body.length := List.length_map ..
      have l6 := Sm.len_le y.body
      refine G9 rfl (Ix (T := T) i2 (ab (f := fuD) hy) rfl rfl rfl rfl ⟨rfl, rfl⟩ rfl rfl ?_)
      refine G (T := T) 48 rfl ?_
      refine Br (T := T) (lx := []) (rows := []) rfl rfl rfl rfl rfl ⟨rfl, rfl⟩ ?_
      refine G (T := T) 51 rfl ?_
      refine Ap (T := T) l4.symm (ou _) rfl rfl rfl rfl rfl rfl ⟨rfl, rfl⟩ (by omega) (by omega) ?_
      rw [show 0 + y.ps.length = y.ps.length from Nat.zero_add _]
      refine G (T := T) 53 rfl ?_
      refine Br (T := T) (lx := []) (rows := []) rfl rfl rfl rfl rfl ⟨rfl, rfl⟩ ?_
      refine G (T := T) 56 rfl ?_
      refine Ap (T := T) l5.symm (jF _) rfl rfl rfl rfl rfl rfl ⟨rfl, rfl⟩ (by omega) (by omega) ?_
      rw [show 0 + y.body.length = y.body.length from Nat.zero_add _]
      by_cases hij : i2 = j
      · subst hij
        rw [hf9] at hy; cases hy
        refine G (T := T) 61 rfl ?_
        refine Bkk (T := T) rfl rfl rfl rfl ⟨rfl, rfl⟩ ?_
        refine G (T := T) 62 rfl ?_
        refine Akk (T := T) rfl rfl rfl rfl rfl rfl ⟨rfl, rfl⟩ (by omega) (by omega) ?_
        refine G9 rfl ?_
        refine Nqn (fun g => bif Nat.beq g 6 then 9 else bif Nat.beq g 7 then 10 else g) (i2 + 1, (p.fs.take i2).map fuD, some (((p.fs.take (i2 + 1)).drop (i2 + 1)).map fuD)) ⟨by dsimp only; omega, .inr ⟨Nat.lt_succ_self _, rfl, rfl⟩⟩ (by show _ - (i2 + 1) < _ - i2; omega) ?_
        rw [show (p.fs.take (i2 + 1)).drop (i2 + 1) = [] from List.drop_of_length_le (by rw [List.length_take]; omega)]
        exact ⟨⟨_, _, rfl, rfl⟩, rfl, rfl⟩
      · refine G (T := T) 58 rfl ?_
        refine Zr 9 rfl ?_
        refine Zr 10 rfl ?_
        refine G9 rfl ?_
        exact Nq (i2 + 1, (p.fs.take i2).map fuD ++ [fuD y], none) ⟨by dsimp only; omega, .inl ⟨by dsimp only; omega, by dsimp only; rw [List.take_succ, hy, List.map_append]; rfl, rfl⟩⟩ (by show _ - (i2 + 1) < _ - i2; omega)
    · have := of_decide_eq_false h; rw [l3] at this
      have := (List.getElem?_eq_some_iff.1 hf9).1
      omega
  · dsimp only
    refine G9 rfl (If rfl (fun h => ?_) (fun h => ?_))
    · have hil := of_decide_eq_true h; rw [l3] at hil
      obtain ⟨y, hy⟩ := ai (l := p.fs) (j := i2) (by omega)
      obtain ⟨y1, y2, y3, y4, y5, y6, y7, y8, y9⟩ := hok.f y (List.mem_of_getElem? hy)
      have l4 : (y.ps.map paD).length = y.ps.length := List.length_map ..
      have l5 : (y.body.map smD).length = y.body.length := List.length_map ..
      have l6 := Sm.len_le y.body
      refine G9 rfl (Ix (T := T) i2 (ab (f := fuD) hy) rfl rfl rfl rfl ⟨rfl, rfl⟩ rfl rfl ?_)
      refine G (T := T) 48 rfl ?_
      refine Br (T := T) (lx := []) (rows := []) rfl rfl rfl rfl rfl ⟨rfl, rfl⟩ ?_
      refine G (T := T) 51 rfl ?_
      refine Ap (T := T) l4.symm (ou _) rfl rfl rfl rfl rfl rfl ⟨rfl, rfl⟩ (by omega) (by omega) ?_
      rw [show 0 + y.ps.length = y.ps.length from Nat.zero_add _]
      refine G (T := T) 53 rfl ?_
      refine Br (T := T) (lx := []) (rows := []) rfl rfl rfl rfl rfl ⟨rfl, rfl⟩ ?_
      refine G (T := T) 56 rfl ?_
      refine Ap (T := T) l5.symm (jF _) rfl rfl rfl rfl rfl rfl ⟨rfl, rfl⟩ (by omega) (by omega) ?_
      rw [show 0 + y.body.length = y.body.length from Nat.zero_add _]
      refine G (T := T) 58 rfl ?_
      refine Zr 9 rfl ?_
      refine Zr 10 rfl ?_
      refine G (T := T) 62 rfl ?_
      refine Adk (T := T) (m' := 1) rfl (fun r hr => by rw [List.mem_singleton.1 hr]; rfl) rfl rfl rfl rfl rfl rfl ⟨rfl, rfl⟩ (by omega) (by omega) ?_
      refine G9 rfl ?_
      have e9 : ((p.fs.take (i2 + 1)).drop (j + 1)).map fuD = ((p.fs.take i2).drop (j + 1)).map fuD ++ [fuD y] := by
        rw [List.take_succ, hy, List.drop_append_of_le_length (by rw [List.length_take]; omega), List.map_append]; rfl
      exact Nq (i2 + 1, (p.fs.take j).map fuD, some (((p.fs.take i2).drop (j + 1)).map fuD ++ [fuD y])) ⟨by dsimp only; omega, .inr ⟨by dsimp only; omega, rfl, by dsimp only; rw [e9]⟩⟩ (by show _ - (i2 + 1) < _ - i2; omega)
    · have hie2 : i2 = p.fs.length := by have := of_decide_eq_false h; rw [l3] at this; omega
      subst hie2
      rw [show p.fs.take p.fs.length = p.fs from List.take_length]
      refine G9 rfl (Fm (T := T) (fun g => [4, 2, 5, 6, 7].getD g 0) _ _ ⟨(), trivial, rfl, rfl⟩ rfl)
end
section
open Go Go.RowKit Go.Proofs K
variable {pk : Pk}
abbrev eGs : Ex := au ⟨#[103, 115]⟩
abbrev eArr : Ex := au ⟨#[97, 114, 114]⟩
abbrev ePtr : Ex := .mk 6 eS 0 [eArr]
abbrev eAt : Ex := .mk 6 eS 0 [eGs]
def expsL : List Ex := [eGs, eArr, ePtr, eAt, (au ⟨#[110, 111, 112, 101]⟩), (au ⟨#[118, 49]⟩), (au ⟨#[112]⟩), (jV eGs ⟨#[97]⟩), (jV eGs ⟨#[120]⟩), (jV (au ⟨#[103, 48]⟩) ⟨#[97]⟩), (jW (au ⟨#[103, 48]⟩) (b7 1)), (jW eArr ePtr), (.mk 5 eS 0 [eAt]), (.mk 5 eS 0 [(au ⟨#[103, 48]⟩)]), (jV (.mk 5 eS 0 [eAt]) ⟨#[99]⟩), (.mk 6 eS 0 [(au ⟨#[118, 49]⟩)]), (.mk 6 eS 0 [(jW (au ⟨#[116, 97, 98]⟩) (b7 1))]), (fm ⟨#[61, 61]⟩ eAt eAt), (fm ⟨#[61, 61]⟩ eAt ePtr), (fm ⟨#[61, 61]⟩ eAt (b7 0)), (fm ⟨#[43]⟩ eAt (b7 1)), (fm ⟨#[60]⟩ eAt eAt), (.mk 12 ⟨#[45]⟩ 0 [eAt]), (.mk 15 ⟨#[117, 49, 54]⟩ 0 [eAt]), (.mk 15 ⟨#[117, 56]⟩ 0 [eAt]), (.mk 15 ⟨#[115, 49, 54]⟩ 0 [eGs]), (.mk 14 ⟨#[102, 105, 114, 115, 116]⟩ 0 []), (.mk 14 ⟨#[102, 105, 114, 115, 116]⟩ 0 [(b7 1)]), (.mk 14 ⟨#[102, 105, 114, 115, 116]⟩ 0 [eAt, (b7 1)]), (.mk 14 ⟨#[109, 97, 105, 110]⟩ 0 []), (.mk 14 ⟨#[109, 105, 115, 115, 105, 110, 103]⟩ 0 []), (.mk 7 eS 0 [eAt]), (.mk 8 eS 0 [(b7 3)]), (.mk 9 eS 63 [(b7 3)]), (.mk 11 eS 0 []), (.mk 10 eS 99 [(b7 3)]), (.mk 99 eS 0 []), (jW (au ⟨#[116, 97, 98]⟩) (b7 9))]
mutual
def Ex.okB : Ex → Bool
  | .mk k nm n ks => decide (0 ≤ k) && decide (k ≤ 9223372036854775807) && decide (nm.size ≤ 1000000) && decide (0 ≤ n) && decide (n ≤ 65535) && Ex.oksB ks
def Ex.oksB : List Ex → Bool
  | [] => true
  | t :: r => Ex.okB t && Ex.oksB r
end
mutual
theorem Ex.okB_ok : ∀ e : Ex, Ex.okB e = true → e.ok
  | .mk k nm n ks, h => by
    simp only [Ex.okB, Bool.and_eq_true, decide_eq_true_eq] at h
    exact ⟨⟨h.1.1.1.1.1, h.1.1.1.1.2⟩, h.1.1.1.2, ⟨h.1.1.2, h.1.2⟩, Ex.oksB_ok ks h.2⟩
theorem Ex.oksB_ok : ∀ l : List Ex, Ex.oksB l = true → Ex.oks l
  | [], _ => trivial
  | t :: r, h => by
    simp only [Ex.oksB, Bool.and_eq_true] at h
    exact ⟨Ex.okB_ok t h.1, Ex.oksB_ok r h.2⟩
end
theorem exps_ok : ∀ e ∈ expsL, e.ok ∧ e.size ≤ 10 := by
  have h : ∀ e ∈ expsL, Ex.okB e = true ∧ e.size ≤ 10 := by decide +kernel
  exact fun e he => ⟨Ex.okB_ok e (h e he).1, (h e he).2⟩
theorem ref_exprs : XQ Tryz.prog pk 58 [] (xr (expsL.map exD)) := by
  refine XQ.en Tryz.func58 Tryz.ntmps58 (fun w0 own H V v0 hf => ?_)
  refine G9 rfl (Cq (al _) rfl rfl rfl rfl rfl ⟨rfl, rfl⟩ ?_)
  refine G9 rfl (Cq (al _) rfl rfl rfl rfl rfl ⟨rfl, rfl⟩ ?_)
  refine G9 rfl (Cq (al _) rfl rfl rfl rfl rfl ⟨rfl, rfl⟩ ?_)
  refine G9 rfl (Cq (al _) rfl rfl rfl rfl rfl ⟨rfl, rfl⟩ ?_)
  refine G9 rfl (Cq (al _) rfl rfl rfl rfl rfl ⟨rfl, rfl⟩ ?_)
  refine G9 rfl (Cq (bW eGs _) rfl rfl rfl rfl rfl ⟨rfl, rfl⟩ ?_)
  refine G9 rfl (Cq (bW eGs _) rfl rfl rfl rfl rfl ⟨rfl, rfl⟩ ?_)
  refine G9 rfl (Cq (al _) rfl rfl rfl rfl rfl ⟨rfl, rfl⟩ ?_)
  refine G9 rfl (Cq (bW (au ⟨#[103, 48]⟩) _) rfl rfl rfl rfl rfl ⟨rfl, rfl⟩ ?_)
  refine G9 rfl (Cq (al _) rfl rfl rfl rfl rfl ⟨rfl, rfl⟩ ?_)
  refine G9 rfl (Cq (ax (by omega) (by omega)) rfl rfl rfl rfl rfl ⟨rfl, rfl⟩ ?_)
  refine G9 rfl (Cq (bi (au ⟨#[103, 48]⟩) (b7 1)) rfl rfl rfl rfl rfl ⟨rfl, rfl⟩ ?_)
  refine G9 rfl (Cq (bi eArr ePtr) rfl rfl rfl rfl rfl ⟨rfl, rfl⟩ ?_)
  refine G9 rfl (Cq (al _) rfl rfl rfl rfl rfl ⟨rfl, rfl⟩ ?_)
  refine G9 rfl (Cq (bW (.mk 5 eS 0 [eAt]) _) rfl rfl rfl rfl rfl ⟨rfl, rfl⟩ ?_)
  refine G9 rfl (Cq (al _) rfl rfl rfl rfl rfl ⟨rfl, rfl⟩ ?_)
  refine G9 rfl (Cq (al _) rfl rfl rfl rfl rfl ⟨rfl, rfl⟩ ?_)
  refine G9 rfl (Cq (ax (by omega) (by omega)) rfl rfl rfl rfl rfl ⟨rfl, rfl⟩ ?_)
  refine G9 rfl (Cq (bi (au ⟨#[116, 97, 98]⟩) (b7 1)) rfl rfl rfl rfl rfl ⟨rfl, rfl⟩ ?_)
  refine G9 rfl (Cq (aP _ eAt eAt) rfl rfl rfl rfl rfl ⟨rfl, rfl⟩ ?_)
  refine G9 rfl (Cq (aP _ eAt ePtr) rfl rfl rfl rfl rfl ⟨rfl, rfl⟩ ?_)
  refine G9 rfl (Cq (ax (by omega) (by omega)) rfl rfl rfl rfl rfl ⟨rfl, rfl⟩ ?_)
  refine G9 rfl (Cq (aP _ eAt (b7 0)) rfl rfl rfl rfl rfl ⟨rfl, rfl⟩ ?_)
  refine G9 rfl (Cq (ax (by omega) (by omega)) rfl rfl rfl rfl rfl ⟨rfl, rfl⟩ ?_)
  refine G9 rfl (Cq (aP _ eAt (b7 1)) rfl rfl rfl rfl rfl ⟨rfl, rfl⟩ ?_)
  refine G9 rfl (Cq (aP _ eAt eAt) rfl rfl rfl rfl rfl ⟨rfl, rfl⟩ ?_)
  refine G9 rfl (Cq (ax (by omega) (by omega)) rfl rfl rfl rfl rfl ⟨rfl, rfl⟩ ?_)
  refine G9 rfl (Cq (ax (by omega) (by omega)) rfl rfl rfl rfl rfl ⟨rfl, rfl⟩ ?_)
  refine G9 rfl (Cq (ax (by omega) (by omega)) rfl rfl rfl rfl rfl ⟨rfl, rfl⟩ ?_)
  refine G9 rfl (Cq (ax (by omega) (by omega)) rfl rfl rfl rfl rfl ⟨rfl, rfl⟩ ?_)
  refine G9 rfl (Cq (ax (by omega) (by omega)) rfl rfl rfl rfl rfl ⟨rfl, rfl⟩ ?_)
  refine G9 rfl (Cq (al _) rfl rfl rfl rfl rfl ⟨rfl, rfl⟩ ?_)
  refine G9 rfl (Cq (ax (by omega) (by omega)) rfl rfl rfl rfl rfl ⟨rfl, rfl⟩ ?_)
  refine G9 rfl (Cq (bi (au ⟨#[116, 97, 98]⟩) (b7 9)) rfl rfl rfl rfl rfl ⟨rfl, rfl⟩ ?_)
  refine G9 rfl (Fq (T := T) rfl rfl)
end
section
open Go Go.RowKit Go.Proofs K
variable {pk : Pk}
def labL : List ByteArray := [⟨#[]⟩, ⟨#[76, 49]⟩, ⟨#[76, 50]⟩, ⟨#[105, 102]⟩]
def nmL5 : List ByteArray := [⟨#[118, 49]⟩, ⟨#[120]⟩, ⟨#[103, 48]⟩, ⟨#[109, 97, 105, 110]⟩, ⟨#[97]⟩]
def jmpL : List Int := [7, 8]
def tyl : List Ty4 := [.mk 1 eS 0 [], .mk 6 eS 0 [.mk 4 ⟨#[83]⟩ 0 []], .mk 4 ⟨#[83]⟩ 0 [], .mk 7 eS 0 [], .mk 6 eS 1 [.mk 2 eS 0 []]]
theorem tyl_ok : ∀ t ∈ tyl, t.ok ∧ t.size ≤ 3 := fun t h => by
  simp only [tyl, List.mem_cons, List.not_mem_nil, or_false] at h
  have a : ∀ {k : Int} {s : ByteArray} {l : List Ty4} {n : Int}, 0 ≤ k ∧ k ≤ 9 → s.size ≤ 1000000 → 0 ≤ n ∧ n ≤ 9 → Ty4.oks l → (Ty4.mk k s n l).ok := fun h1 h2 h3 h4 => ⟨⟨by omega, by omega⟩, h2, ⟨by omega, by omega⟩, h4⟩
  rcases h with rfl | rfl | rfl | rfl | rfl
  · exact ⟨a (by omega) (by decide) (by omega) trivial, by decide⟩
  · exact ⟨a (by omega) (by decide) (by omega) ⟨a (by omega) (by decide) (by omega) trivial, trivial⟩, by decide⟩
  · exact ⟨a (by omega) (by decide) (by omega) trivial, by decide⟩
  · exact ⟨a (by omega) (by decide) (by omega) trivial, by decide⟩
  · exact ⟨a (by omega) (by decide) (by omega) ⟨a (by omega) (by decide) (by omega) trivial, trivial⟩, by decide⟩
theorem cv {k n : Int} {nm : ByteArray} {t : Ty4} {xs : List Ex} {b el : List Sm} {cs : List (List Sm)} (hk : 0 ≤ k ∧ k ≤ 99) (hn : nm.size ≤ 1000000) (ht : t.ok) (h0 : 0 ≤ n ∧ n ≤ 300) (hx : Ex.oks xs) (hb : Sm.oks b) (he : Sm.oks el) (hc : Sm.okc cs) : (Sm.mk k nm t n xs b el cs).ok := ⟨⟨by omega, by omega⟩, hn, ht, ⟨by omega, by omega⟩, hx, hb, he, hc⟩
theorem dp {α : Type} {l : List α} {n m : Int} (hl : (l.length : Int) = m) (hm : 0 < m) : ∃ (j : Nat) (a : α), eB n m = (j : Int) ∧ l[j]? = some a ∧ a ∈ l := by
  have h := bu (n := n) hm
  obtain ⟨j, hj⟩ := Int.eq_ofNat_of_zero_le h.1
  have hlt : j < l.length := by omega
  exact ⟨j, l[j], hj, List.getElem?_eq_getElem hlt, List.getElem_mem hlt⟩
theorem mb {q0 q1 q2 : Int} : XP Tryz.prog pk 31 [xd [.c (.int .i64 q0), .c (.int .i64 q1), .c (.int .i64 q2)]] (fun r => ∃ s, r = xd (smD s) ∧ s.ok ∧ s.size ≤ 100) := by
  obtain ⟨j1, e1, hj1, he1, m1⟩ := dp (l := expsL) (n := q1) (m := 38) rfl (by omega)
  obtain ⟨j2, e2, hj2, he2, m2⟩ := dp (l := expsL) (n := q2) (m := 38) rfl (by omega)
  obtain ⟨j3, lb, hj3, he3, m3⟩ := dp (l := labL) (n := q2) (m := 4) rfl (by omega)
  obtain ⟨ko1, ks1⟩ := exps_ok e1 m1
  obtain ⟨ko2, ks2⟩ := exps_ok e2 m2
  have hlb : lb.size ≤ 1000000 := (show ∀ s ∈ labL, s.size ≤ 1000000 by decide) lb m3
  refine XP.en Tryz.func31 Tryz.ntmps31 (by rintro _ ⟨p, rfl, _⟩; rfl) (fun w0 own H V v0 hf => ?_)
  refine G9 rfl (Cq ref_exprs rfl rfl rfl rfl rfl ⟨rfl, rfl⟩ ?_)
  refine G9 rfl (Cq (bV (n := q1) (m := 38) (by omega) (by omega)) rfl rfl rfl rfl rfl ⟨rfl, rfl⟩ ?_)
  refine G (T := T) 14 rfl ?_
  rw [hj1]
  refine Ix (T := T) (rows := expsL.map exD) j1 (ab he1) rfl rfl rfl rfl ⟨rfl, rfl⟩ rfl rfl ?_
  refine G9 rfl (Cq (bV (n := q2) (m := 38) (by omega) (by omega)) rfl rfl rfl rfl rfl ⟨rfl, rfl⟩ ?_)
  refine G (T := T) 22 rfl ?_
  rw [hj2]
  refine Ix (T := T) (rows := expsL.map exD) j2 (ab he2) rfl rfl rfl rfl ⟨rfl, rfl⟩ rfl rfl ?_
  refine G9 rfl (Cq (bV (n := q2) (m := 4) (by omega) (by omega)) rfl rfl rfl rfl rfl ⟨rfl, rfl⟩ ?_)
  refine G (T := T) 28 rfl ?_
  rw [hj3]
  refine Ix (T := T) (rows := labL.map aX) j3 (ab he3) rfl rfl rfl rfl ⟨rfl, rfl⟩ rfl rfl ?_
  refine G9 rfl (Cq (bV (n := q0) (m := 14) (by omega) (by omega)) rfl rfl rfl rfl rfl ⟨rfl, rfl⟩ ?_)
  generalize eB q0 14 = z
  refine G9 rfl (If rfl (fun h => ?_) (fun h => ?_))
  · obtain ⟨j4, nm, hj4, he4, m4⟩ := dp (l := nmL5) (n := q2) (m := 5) rfl (by omega)
    obtain ⟨j5, ty, hj5, he5, m5⟩ := dp (l := tyl) (n := q0) (m := 5) rfl (by omega)
    have hnm : nm.size ≤ 1000000 := (show ∀ s ∈ nmL5, s.size ≤ 1000000 by decide) nm m4
    obtain ⟨hty, hts⟩ := tyl_ok ty m5
    refine G9 rfl (Cq (bV (n := q2) (m := 5) (by omega) (by omega)) rfl rfl rfl rfl rfl ⟨rfl, rfl⟩ ?_)
    refine G (T := T) 39 rfl ?_
    rw [hj4]
    refine Ix (T := T) (rows := nmL5.map aX) j4 (ab he4) rfl rfl rfl rfl ⟨rfl, rfl⟩ rfl rfl ?_
    refine G9 rfl (Cq (bV (n := q0) (m := 5) (by omega) (by omega)) rfl rfl rfl rfl rfl ⟨rfl, rfl⟩ ?_)
    refine G (T := T) 54 rfl ?_
    rw [hj5]
    refine Ix (T := T) (rows := tyl.map tyD) j5 (ab he5) rfl rfl rfl rfl ⟨rfl, rfl⟩ rfl rfl ?_
    refine G9 rfl ?_
    exact Fp (T := T) (xd (smD (.mk 1 nm ty 0 [e1] [] [] []))) ⟨_, rfl, (cv ⟨by omega, by omega⟩ hnm hty ⟨by omega, by omega⟩ ⟨ko1, trivial⟩ trivial trivial trivial), (by simp only [Sm.size, Sm.sizes, Sm.csizes, Ex.sizes, Ty4.size, Ty4.sizes, ty4z]; omega)⟩ rfl rfl
  refine G9 rfl (If rfl (fun h => ?_) (fun h => ?_))
  · refine G9 rfl ?_
    refine If rfl (fun _ => ?_) (fun h2 => (by cases h.symm.trans h2))
    refine G9 rfl ?_
    exact Fp (T := T) (xd (smD (.mk 2 eS ty4z 0 [e1, e2] [] [] []))) ⟨_, rfl, (cv ⟨by omega, by omega⟩ (by decide) aE ⟨by omega, by omega⟩ ⟨ko1, ko2, trivial⟩ trivial trivial trivial), (by simp only [Sm.size, Sm.sizes, Sm.csizes, Ex.sizes, Ty4.size, Ty4.sizes, ty4z]; omega)⟩ rfl rfl
  refine G9 rfl (If rfl (fun h => ?_) (fun h => ?_))
  · refine G9 rfl ?_
    refine If rfl (fun _ => ?_) (fun h2 => (by cases h.symm.trans h2))
    refine G9 rfl ?_
    exact Fp (T := T) (xd (smD (.mk 2 eS ty4z 0 [e1, e2] [] [] []))) ⟨_, rfl, (cv ⟨by omega, by omega⟩ (by decide) aE ⟨by omega, by omega⟩ ⟨ko1, ko2, trivial⟩ trivial trivial trivial), (by simp only [Sm.size, Sm.sizes, Sm.csizes, Ex.sizes, Ty4.size, Ty4.sizes, ty4z]; omega)⟩ rfl rfl
  refine G9 rfl (If rfl (fun h => ?_) (fun h => ?_))
  · refine G9 rfl ?_
    exact Fp (T := T) (xd (smD (.mk 2 eS ty4z 0 [e1, e2] [] [] []))) ⟨_, rfl, (cv ⟨by omega, by omega⟩ (by decide) aE ⟨by omega, by omega⟩ ⟨ko1, ko2, trivial⟩ trivial trivial trivial), (by simp only [Sm.size, Sm.sizes, Sm.csizes, Ex.sizes, Ty4.size, Ty4.sizes, ty4z]; omega)⟩ rfl rfl
  refine G9 rfl (If rfl (fun h => ?_) (fun h => ?_))
  · refine G9 rfl ?_
    exact Fp (T := T) (xd (smD (.mk 3 eS ty4z 0 [e1] [.mk 7 lb ty4z 0 [] [] [] []] [] []))) ⟨_, rfl, (cv ⟨by omega, by omega⟩ (by decide) aE ⟨by omega, by omega⟩ ⟨ko1, trivial⟩ ⟨(cv ⟨by omega, by omega⟩ hlb aE ⟨by omega, by omega⟩ trivial trivial trivial trivial), trivial⟩ trivial trivial), (by simp only [Sm.size, Sm.sizes, Sm.csizes, Ex.sizes, Ty4.size, Ty4.sizes, ty4z]; omega)⟩ rfl rfl
  refine G9 rfl (If rfl (fun h => ?_) (fun h => ?_))
  · obtain ⟨j4, k, hj4, he4, m4⟩ := dp (l := jmpL) (n := q1) (m := 2) rfl (by omega)
    have hk : 0 ≤ k ∧ k ≤ 99 := (show ∀ s ∈ jmpL, 0 ≤ s ∧ s ≤ 99 by decide) k m4
    refine G9 rfl (Cq (bV (n := q1) (m := 2) (by omega) (by omega)) rfl rfl rfl rfl rfl ⟨rfl, rfl⟩ ?_)
    refine G (T := T) 82 rfl ?_
    rw [hj4]
    refine Ix (T := T) (rows := jmpL.map intD) j4 (ab he4) rfl rfl rfl rfl ⟨rfl, rfl⟩ rfl rfl ?_
    refine G9 rfl ?_
    exact Fp (T := T) (xd (smD (.mk 6 lb ty4z 0 [] [.mk k ⟨#[76, 49]⟩ ty4z 0 [] [] [] []] [] []))) ⟨_, rfl, (cv ⟨by omega, by omega⟩ hlb aE ⟨by omega, by omega⟩ trivial ⟨(cv hk (by decide) aE ⟨by omega, by omega⟩ trivial trivial trivial trivial), trivial⟩ trivial trivial), (by simp only [Sm.size, Sm.sizes, Sm.csizes, Ex.sizes, Ty4.size, Ty4.sizes, ty4z]; omega)⟩ rfl rfl
  refine G9 rfl (If rfl (fun h => ?_) (fun h => ?_))
  · refine G9 rfl ?_
    exact Fp (T := T) (xd (smD (.mk 5 lb ty4z 0 [] [.mk 5 ⟨#[76, 49]⟩ ty4z 0 [] [.mk 8 ⟨#[76, 49]⟩ ty4z 0 [] [] [] []] [] []] [] []))) ⟨_, rfl, (cv ⟨by omega, by omega⟩ hlb aE ⟨by omega, by omega⟩ trivial ⟨(cv ⟨by omega, by omega⟩ (by decide) aE ⟨by omega, by omega⟩ trivial ⟨(cv ⟨by omega, by omega⟩ (by decide) aE ⟨by omega, by omega⟩ trivial trivial trivial trivial), trivial⟩ trivial trivial), trivial⟩ trivial trivial), (by simp only [Sm.size, Sm.sizes, Sm.csizes, Ex.sizes, Ty4.size, Ty4.sizes, ty4z]; omega)⟩ rfl rfl
  refine G9 rfl (If rfl (fun h => ?_) (fun h => ?_))
  · refine G9 rfl ?_
    exact Fp (T := T) (xd (smD (.mk 10 eS ty4z 0 [e1] [] [] []))) ⟨_, rfl, (cv ⟨by omega, by omega⟩ (by decide) aE ⟨by omega, by omega⟩ ⟨ko1, trivial⟩ trivial trivial trivial), (by simp only [Sm.size, Sm.sizes, Sm.csizes, Ex.sizes, Ty4.size, Ty4.sizes, ty4z]; omega)⟩ rfl rfl
  refine G9 rfl (If rfl (fun h => ?_) (fun h => ?_))
  · refine G9 rfl ?_
    exact Fp (T := T) (xd (smD (.mk 10 eS ty4z 0 [] [] [] []))) ⟨_, rfl, (cv ⟨by omega, by omega⟩ (by decide) aE ⟨by omega, by omega⟩ trivial trivial trivial trivial), (by simp only [Sm.size, Sm.sizes, Sm.csizes, Ex.sizes, Ty4.size, Ty4.sizes, ty4z]; omega)⟩ rfl rfl
  refine G9 rfl (If rfl (fun h => ?_) (fun h => ?_))
  · obtain ⟨n0, n1⟩ := bu (n := q2) (show (0 : Int) < 300 by omega)
    refine G9 rfl (Cq (bV (n := q2) (m := 300) (by omega) (by omega)) rfl rfl rfl rfl rfl ⟨rfl, rfl⟩ ?_)
    refine G (T := T) 111 rfl ?_
    rw [hZ n0 (by omega)]
    generalize eB q2 300 = n at n0 n1 ⊢
    refine G9 rfl ?_
    exact Fp (T := T) (xd (smD (.mk 11 eS ty4z n [e1] [] [] []))) ⟨_, rfl, (cv ⟨by omega, by omega⟩ (by decide) aE ⟨by omega, by omega⟩ ⟨ko1, trivial⟩ trivial trivial trivial), (by simp only [Sm.size, Sm.sizes, Sm.csizes, Ex.sizes, Ty4.size, Ty4.sizes, ty4z]; omega)⟩ rfl rfl
  refine G9 rfl (If rfl (fun h => ?_) (fun h => ?_))
  · refine G9 rfl ?_
    exact Fp (T := T) (xd (smD (.mk 9 eS ty4z 0 [e1] [] [] [[.mk 14 eS ty4z 0 [e2] [] [] []]]))) ⟨_, rfl, (cv ⟨by omega, by omega⟩ (by decide) aE ⟨by omega, by omega⟩ ⟨ko1, trivial⟩ trivial trivial ⟨⟨(cv ⟨by omega, by omega⟩ (by decide) aE ⟨by omega, by omega⟩ ⟨ko2, trivial⟩ trivial trivial trivial), trivial⟩, trivial⟩), (by simp only [Sm.size, Sm.sizes, Sm.csizes, Ex.sizes, Ty4.size, Ty4.sizes, ty4z]; omega)⟩ rfl rfl
  refine G9 rfl (If rfl (fun h => ?_) (fun h => ?_))
  · obtain ⟨n0, n1⟩ := bu (n := q2) (show (0 : Int) < 16 by omega)
    refine G9 rfl (Cq (bV (n := q2) (m := 16) (by omega) (by omega)) rfl rfl rfl rfl rfl ⟨rfl, rfl⟩ ?_)
    generalize eB q2 16 = n at n0 n1 ⊢
    refine G9 rfl ?_
    exact Fp (T := T) (xd (smD (.mk 4 eS ty4z 0 [e1] [] [.mk n eS ty4z 0 [] [] [] []] []))) ⟨_, rfl, (cv ⟨by omega, by omega⟩ (by decide) aE ⟨by omega, by omega⟩ ⟨ko1, trivial⟩ trivial ⟨(cv ⟨by omega, by omega⟩ (by decide) aE ⟨by omega, by omega⟩ trivial trivial trivial trivial), trivial⟩ trivial), (by simp only [Sm.size, Sm.sizes, Sm.csizes, Ex.sizes, Ty4.size, Ty4.sizes, ty4z]; omega)⟩ rfl rfl
  refine G9 rfl (If rfl (fun h => ?_) (fun h => ?_))
  · refine G9 rfl ?_
    exact Fp (T := T) (xd (smD (.mk 14 eS ty4z 0 [e2] [] [] []))) ⟨_, rfl, (cv ⟨by omega, by omega⟩ (by decide) aE ⟨by omega, by omega⟩ ⟨ko2, trivial⟩ trivial trivial trivial), (by simp only [Sm.size, Sm.sizes, Sm.csizes, Ex.sizes, Ty4.size, Ty4.sizes, ty4z]; omega)⟩ rfl rfl
  refine G9 rfl ?_
  obtain ⟨n0, n1⟩ := bu (n := q1) (show (0 : Int) < 16 by omega)
  refine Cq (bV (n := q1) (m := 16) (by omega) (by omega)) rfl rfl rfl rfl rfl ⟨rfl, rfl⟩ ?_
  generalize eB q1 16 = n at n0 n1 ⊢
  refine G9 rfl ?_
  exact Fp (T := T) (xd (smD (.mk n lb ty4z 0 [e2] [] [] []))) ⟨_, rfl, (cv ⟨by omega, by omega⟩ hlb aE ⟨by omega, by omega⟩ ⟨ko2, trivial⟩ trivial trivial trivial), (by simp only [Sm.size, Sm.sizes, Sm.csizes, Ex.sizes, Ty4.size, Ty4.sizes, ty4z]; omega)⟩ rfl rfl
end
section
open Go Go.RowKit Go.Proofs K
variable {pk : Pk}
abbrev q3 (a b c : Int) : XV := xd [.c (.int .i64 a), .c (.int .i64 b), .c (.int .i64 c)]
def wroL : List ByteArray := [⟨#[109, 97, 105, 110]⟩, ⟨#[105, 110, 116, 101, 114, 114, 117, 112, 116]⟩, ⟨#[103, 48]⟩, ⟨#[83]⟩, ⟨#[102, 105, 114, 115, 116]⟩, ⟨#[49, 120]⟩, ⟨#[97, 95, 110, 97, 109, 101, 95, 111, 102, 95, 50, 53, 95, 99, 104, 97, 114, 97, 99, 116, 101, 114, 115, 95, 120]⟩]
theorem wro_sz : ∀ s ∈ wroL, s.size ≤ 25 := by decide
def abL : List ByteArray := [⟨#[97]⟩, ⟨#[98]⟩]
theorem w16_rg (n : Int) : 0 ≤ IntKind.u16.wrap n ∧ IntKind.u16.wrap n ≤ 65535 := by
  unfold IntKind.wrap
  simp [IntKind.bits, IntKind.signed] <;> omega
def TurR (B N M : Nat) (r : XV) : Prop := ∃ p', r = xd (pgD p') ∧ p'.ok B ∧ 1 ≤ p'.fs.length ∧ 1 ≤ p'.gs.length ∧ p'.fs.length = N ∧ p'.gs.length ≤ M + 1
theorem i9 {gs : List Gb} {j o : Nat} {g g' : Gb} {ds : List D} (h : gs[j]? = some g) (hd : (gbD g).take o ++ (ds ++ (gbD g).drop (o + ds.length)) = gbD g') : df (gs.map gbD) j o ds = (gs.set j g').map gbD := by
  rw [df, List.getElem?_map, h]
  show (gs.map gbD).set j _ = _
  rw [hd, List.map_set]
theorem bT {n m : Int} (hm : 0 < m) (hm2 : m ≤ 4000000000000000000) : XQ Tryz.prog pk 25 [xi n, xi m] (xi (eB n m)) := by
  have h1 : -m < n.tmod m := by
    have := Int.lt_tmod_of_pos n hm; omega
  have h2 := Int.tmod_lt_of_pos n hm
  refine XQ.en Tryz.func25 Tryz.ntmps25 (fun w0 own H V v0 hf => ?_)
  refine G9 rfl (Fe (T := T) rfl rfl)
theorem qJ {p : Pg} {B : Nat} (hok : p.ok B) (hB : B ≤ 900000000) (hfs : 1 ≤ p.fs.length) (hgs : 1 ≤ p.gs.length) {a b c : Int} : XP Tryz.prog pk 13 [xd (pgD p), q3 a b c] (TurR (B + 200) p.fs.length p.gs.length) := by
  have hfl := hok.fl
  have hgl := hok.gl
  obtain ⟨j, hj⟩ := Int.eq_ofNat_of_zero_le (bu (n := c) (show (0 : Int) < (p.fs.length : Int) by omega)).1
  have hjl := (bu (n := c) (show (0 : Int) < (p.fs.length : Int) by omega)).2
  obtain ⟨j2, hj2⟩ := Int.eq_ofNat_of_zero_le (bu (n := c) (show (0 : Int) < (p.gs.length : Int) by omega)).1
  have hj2l := (bu (n := c) (show (0 : Int) < (p.gs.length : Int) by omega)).2
  obtain ⟨f, hf9⟩ := ai (l := p.fs) (j := j) (by omega)
  obtain ⟨g9, hg9⟩ := ai (l := p.gs) (j := j2) (by omega)
  have hO := ref_Own (pk := pk) hok hB hf9
  have hmf := bT (pk := pk) (n := c) (m := (p.fs.length : Nat)) (by omega) (by omega)
  have hmg := bT (pk := pk) (n := c) (m := (p.gs.length : Nat)) (by omega) (by omega)
  rw [hj] at hmf
  rw [hj2] at hmg
  obtain ⟨jw, nm, hjw, hnm, mw⟩ := dp (l := wroL) (n := b) (m := 7) rfl (by omega)
  have hnmz := wro_sz nm mw
  refine XP.en Tryz.func13 Tryz.ntmps13 (by rintro _ ⟨p', rfl, _⟩; rfl) (fun w0 own H V v0 hf => ?_)
  refine G9 rfl (Cy [] (fun _ => .a (.a [.l 3 1 3 0 p.ts.length p.ts.length, .l 4 1 8 0 p.gs.length p.gs.length, .l 5 1 10 0 p.fs.length p.fs.length])) (fun _ => [⟨3, 1, .row p.ts.length (p.ts.map tdD) 87 3⟩, ⟨4, 1, .row p.gs.length (p.gs.map gbD) 63 8⟩, ⟨5, 1, .rowk p.fs.length ((p.fs.take j).map fuD) (fuK 6 7 f) ((p.fs.drop (j + 1)).map fuD) 61 10⟩, ⟨6, 1, .row f.ps.length (f.ps.map paD) 85 5⟩, ⟨7, 1, .row f.body.length (f.body.map smD) 71 11⟩]) hO rfl rfl rfl rfl rfl rfl rfl ⟨⟨rfl, rfl⟩, rfl⟩ (fun _ => rfl) (fun _ => rfl) rfl ?_)
  rintro _ -
  refine Gs (T := T) 1000 rfl ?_
  refine IfF rfl ?_ ?_
  · rw [decide_eq_false (by omega), decide_eq_false (by omega)]; rfl
  have lt : (p.fs.take j).length = j := by rw [List.length_take]; omega
  refine G9 rfl (Cq hmf rfl rfl rfl rfl rfl ⟨rfl, rfl⟩ ?_)
  refine G (T := T) 32 rfl ?_
  refine Qk (T := T) j rfl rfl rfl rfl rfl ⟨rfl, rfl⟩ rfl (by omega) ?_
  refine G9 rfl (Cq hmg rfl rfl rfl rfl rfl ⟨rfl, rfl⟩ ?_)
  refine G (T := T) 41 rfl ?_
  refine Iq (T := T) j2 rfl rfl rfl rfl rfl ⟨rfl, rfl⟩ rfl (by omega) rfl ?_
  refine G9 rfl ?_
  have hm7 := bT (pk := pk) (n := b) (m := 7) (by omega) (by omega)
  rw [hjw] at hm7
  refine Cq hm7 rfl rfl rfl rfl rfl ⟨rfl, rfl⟩ ?_
  refine G (T := T) 47 rfl ?_
  refine Ix (T := T) (rows := wroL.map aX) jw (ab hnm) rfl rfl rfl rfl ⟨rfl, rfl⟩ rfl rfl ?_
  refine G9 rfl (Cq (bT (n := a) (m := 24) (by omega) (by omega)) rfl rfl rfl rfl rfl ⟨rfl, rfl⟩ ?_)
  have lt2 : j = ((p.fs.take j).map fuD).length := by rw [List.length_map]; exact lt.symm
  have hgr := ab (f := gbD) hg9
  have tl2 : p.ts.length ≤ B + 200 := Nat.le_trans hok.tl (by omega)
  have ft : ∀ x ∈ p.ts, x.ok (B + 200) := fun x hx => (hok.t x hx).mono (by omega)
  have fg : ∀ x ∈ p.gs, x.ok (B + 200) := fun x hx => (hok.g x hx).mono (by omega)
  have ff : ∀ x ∈ p.fs, x.ok (B + 200) := fun x hx => (hok.f x hx).mono (by omega)
  have fin : ∀ {ts : List Td} {gs : List Gb} {f' : Fu}, ts.length ≤ B + 200 → (∀ x ∈ ts, x.ok (B + 200)) → 1 ≤ gs.length ∧ gs.length ≤ p.gs.length + 1 → (∀ x ∈ gs, x.ok (B + 200)) → f'.ok (B + 200) → TurR (B + 200) p.fs.length p.gs.length (xd [.s (ts.map tdD), .s (gs.map gbD), .s ((p.fs.take j).map fuD ++ fuD f' :: (p.fs.drop (j + 1)).map fuD)]) := fun {ts gs f'} h1 h2 h3 h4 h5 => by
    have hfe : (p.fs.take j ++ f' :: p.fs.drop (j + 1)).length = p.fs.length := by
      rw [List.length_append, List.length_cons, List.length_take, List.length_drop]; omega
    refine ⟨⟨ts, gs, p.fs.take j ++ f' :: p.fs.drop (j + 1)⟩, by rw [pgD, List.map_append, List.map_cons], ⟨h1, by show gs.length ≤ _; omega, by rw [hfe]; omega, h2, h4, fun x hx => ?_⟩, by rw [hfe]; exact hfs, h3.1, hfe, h3.2⟩
    rcases List.mem_append.1 hx with hx | hx
    · exact ff x (List.mem_of_mem_take hx)
    · rcases List.mem_cons.1 hx with rfl | hx
      · exact h5
      · exact ff x (List.mem_of_mem_drop hx)
  have fin1 : ∀ {f' : Fu}, f'.ok (B + 200) → TurR (B + 200) p.fs.length p.gs.length (xd [.s (p.ts.map tdD), .s (p.gs.map gbD), .s ((p.fs.take j).map fuD ++ fuD f' :: (p.fs.drop (j + 1)).map fuD)]) := fun h => fin tl2 ft ⟨hgs, by omega⟩ fg h
  have fin2 : ∀ {g' : Gb}, g'.ok (B + 200) → TurR (B + 200) p.fs.length p.gs.length (xd [.s (p.ts.map tdD), .s ((p.gs.set j2 g').map gbD), .s ((p.fs.take j).map fuD ++ fuD f :: (p.fs.drop (j + 1)).map fuD)]) := fun {g'} h => fin tl2 ft (by rw [List.length_set]; exact ⟨hgs, by omega⟩) (fun x hx => by
    rcases List.mem_or_eq_of_mem_set hx with hx | rfl
    · exact fg x hx
    · exact h) (ff f (List.mem_of_getElem? hf9))
  have hf0 := hok.f f (List.mem_of_getElem? hf9)
  have hg0 := hok.g g9 (List.mem_of_getElem? hg9)
  have hf0 := hok.f f (List.mem_of_getElem? hf9)
  have hg0 := hok.g g9 (List.mem_of_getElem? hg9)
  have hf0 := hok.f f (List.mem_of_getElem? hf9)
  have hg0 := hok.g g9 (List.mem_of_getElem? hg9)
  have hf0 := hok.f f (List.mem_of_getElem? hf9)
  have hg0 := hok.g g9 (List.mem_of_getElem? hg9)
  have hf0 := hok.f f (List.mem_of_getElem? hf9)
  have hg0 := hok.g g9 (List.mem_of_getElem? hg9)
  have hf0 := hok.f f (List.mem_of_getElem? hf9)
  have hg0 := hok.g g9 (List.mem_of_getElem? hg9)
  obtain ⟨fo1, fo2, fo3, fo4, fo5, fo6, fo7, fo8, fo9⟩ := hf0
  obtain ⟨go1, go2, go3, go4, go5, go6⟩ := hg0
  generalize eB a 24 = d
  refine G9 rfl (If rfl (fun h => ?_) (fun h => ?_))
  · refine G9 rfl ?_
    refine Skk (T := T) lt2 rfl rfl rfl rfl rfl rfl rfl ⟨rfl, rfl⟩ rfl rfl ?_
    refine G9 rfl (MS.fz9 6 rfl ?_)
    refine MS.fz9 7 rfl ((SRto.kr 5 rfl rfl rfl rfl).e ?_)
    refine MS.fz9 5 rfl (MS.fz9 4 rfl ?_)
    refine MS.fz9 3 rfl ?_
    exact Fp (T := T) _ (fin1 (f' := ⟨nm, f.ps, f.res, f.body, f.fl, f.x, f.y⟩) ⟨Nat.le_trans hnmz (by decide), by first | omega | (dsimp only; omega), fun x hx => (fo3 x hx).mono (by omega), fo4, by first | omega | (dsimp only; omega), fo6, by first | omega | (dsimp only; omega), fo8, fo9⟩) rfl rfl
  refine G9 rfl (If rfl (fun h => ?_) (fun h => ?_))
  · refine G9 rfl ?_
    refine Sr (T := T) hgr rfl rfl rfl rfl rfl rfl rfl ⟨rfl, rfl⟩ rfl rfl ?_
    rw [i9 (g' := ⟨nm, g9.ty, g9.bank, g9.addr, g9.bytes⟩) hg9 rfl]
    refine G9 rfl (MS.fz9 6 rfl ?_)
    refine MS.fz9 7 rfl ((SRto.kr 5 rfl rfl rfl rfl).e ?_)
    refine MS.fz9 5 rfl (MS.fz9 4 rfl ?_)
    refine MS.fz9 3 rfl ?_
    exact Fp (T := T) _ (fin2 (g' := ⟨nm, g9.ty, g9.bank, g9.addr, g9.bytes⟩) ⟨Nat.le_trans hnmz (by decide), go2, by first | omega | (dsimp only; omega), go4, go5, by first | omega | (dsimp only; omega)⟩) rfl rfl
  refine G9 rfl (If rfl (fun h => ?_) (fun h => ?_))
  · refine G9 rfl ?_
    refine Lr (T := T) hgr rfl rfl rfl rfl ⟨rfl, rfl⟩ rfl rfl ?_
    have hk := bu (n := b) (m := 50) (by omega)
    refine G9 rfl (Cq (bT (n := b) (m := 50) (by omega) (by omega)) rfl rfl rfl rfl rfl ⟨rfl, rfl⟩ ?_)
    generalize eB b 50 = k at *
    refine G (T := T) 102 rfl ?_
    refine Aw rfl rfl rfl ⟨rfl, rfl⟩ ?_
    refine G (T := T) 103 rfl ?_
    refine Sw rfl rfl rfl ⟨rfl, rfl⟩ ?_
    generalize IntKind.u16.wrap (g9.addr + _) - 25 = w9
    refine G9 rfl (Sr (T := T) hgr rfl rfl rfl rfl rfl rfl rfl ⟨rfl, rfl⟩ rfl rfl ?_)
    rw [i9 (g' := ⟨g9.nm, g9.ty, g9.bank, IntKind.u16.wrap w9, g9.bytes⟩) hg9 rfl]
    refine G9 rfl (MS.fz9 6 rfl ?_)
    refine MS.fz9 7 rfl ((SRto.kr 5 rfl rfl rfl rfl).e ?_)
    refine MS.fz9 5 rfl (MS.fz9 4 rfl ?_)
    refine MS.fz9 3 rfl ?_
    exact Fp (T := T) _ (fin2 (g' := ⟨g9.nm, g9.ty, g9.bank, IntKind.u16.wrap w9, g9.bytes⟩) ⟨go1, go2, by first | omega | (dsimp only; omega), go4, w16_rg _, by first | omega | (dsimp only; omega)⟩) rfl rfl
  refine G9 rfl (If rfl (fun h => ?_) (fun h => ?_))
  · have hk := bu (n := b) (m := 66) (by omega)
    refine G9 rfl (Cq (bT (n := b) (m := 66) (by omega) (by omega)) rfl rfl rfl rfl rfl ⟨rfl, rfl⟩ ?_)
    generalize eB b 66 = k at *
    refine G9 rfl (Sr (T := T) hgr rfl rfl rfl rfl rfl rfl rfl ⟨rfl, rfl⟩ rfl rfl ?_)
    rw [i9 (g' := ⟨g9.nm, g9.ty, k - 1, g9.addr, g9.bytes⟩) hg9 rfl]
    refine G9 rfl (MS.fz9 6 rfl ?_)
    refine MS.fz9 7 rfl ((SRto.kr 5 rfl rfl rfl rfl).e ?_)
    refine MS.fz9 5 rfl (MS.fz9 4 rfl ?_)
    refine MS.fz9 3 rfl ?_
    exact Fp (T := T) _ (fin2 (g' := ⟨g9.nm, g9.ty, k - 1, g9.addr, g9.bytes⟩) ⟨go1, go2, by first | omega | (dsimp only; omega), ⟨by dsimp only; omega, by dsimp only; omega⟩, go5, by first | omega | (dsimp only; omega)⟩) rfl rfl
  refine G9 rfl (If rfl (fun h => ?_) (fun h => ?_))
  · refine G9 rfl ?_
    refine Lr (T := T) hgr rfl rfl rfl rfl ⟨rfl, rfl⟩ rfl rfl ?_
    have z1 : (⟨#[120]⟩ : ByteArray).size = 1 := rfl
    refine G9 rfl (Sr (T := T) hgr rfl rfl rfl rfl rfl rfl rfl ⟨rfl, rfl⟩ rfl rfl ?_)
    rw [i9 (g' := ⟨g9.nm, g9.ty, g9.bank, g9.addr, g9.bytes ++ ⟨#[120]⟩⟩) hg9 rfl]
    refine G9 rfl (MS.fz9 6 rfl ?_)
    refine MS.fz9 7 rfl ((SRto.kr 5 rfl rfl rfl rfl).e ?_)
    refine MS.fz9 5 rfl (MS.fz9 4 rfl ?_)
    refine MS.fz9 3 rfl ?_
    exact Fp (T := T) _ (fin2 (g' := ⟨g9.nm, g9.ty, g9.bank, g9.addr, g9.bytes ++ ⟨#[120]⟩⟩) ⟨go1, go2, by first | omega | (dsimp only; omega), go4, go5, by rw [ByteArray.size_append]; have : (⟨#[120]⟩ : ByteArray).size = 1 := rfl; omega⟩) rfl rfl
  refine G9 rfl (If rfl (fun h => ?_) (fun h => ?_))
  · have hk := bu (n := b) (m := 5000) (by omega)
    refine G9 rfl (Cq (bT (n := b) (m := 5000) (by omega) (by omega)) rfl rfl rfl rfl rfl ⟨rfl, rfl⟩ ?_)
    generalize eB b 5000 = k at *
    refine G9 rfl (Lr (T := T) hgr rfl rfl rfl rfl ⟨rfl, rfl⟩ rfl rfl ?_)
    refine G9 rfl (Sr (T := T) hgr rfl rfl rfl rfl rfl rfl rfl ⟨rfl, rfl⟩ rfl rfl ?_)
    rw [i9 (g' := ⟨g9.nm, .mk 5 eS k [g9.ty], g9.bank, g9.addr, g9.bytes⟩) hg9 rfl]
    refine G9 rfl (MS.fz9 6 rfl ?_)
    refine MS.fz9 7 rfl ((SRto.kr 5 rfl rfl rfl rfl).e ?_)
    refine MS.fz9 5 rfl (MS.fz9 4 rfl ?_)
    refine MS.fz9 3 rfl ?_
    exact Fp (T := T) _ (fin2 (g' := ⟨g9.nm, .mk 5 eS k [g9.ty], g9.bank, g9.addr, g9.bytes⟩) ⟨go1, ⟨⟨by omega, by omega⟩, by decide, ⟨by omega, by omega⟩, go2, trivial⟩, by simp only [Ty4.size, Ty4.sizes]; omega, go4, go5, by first | omega | (dsimp only; omega)⟩) rfl rfl
  refine G9 rfl (If rfl (fun h => ?_) (fun h => ?_))
  · refine G9 rfl ?_
    refine Lkk (T := T) lt2 rfl rfl rfl rfl ⟨rfl, rfl⟩ rfl rfl ?_
    refine G9 rfl (Lr (T := T) hgr rfl rfl rfl rfl ⟨rfl, rfl⟩ rfl rfl ?_)
    refine G9 rfl (Skk (T := T) lt2 rfl rfl rfl rfl rfl rfl rfl ⟨rfl, rfl⟩ rfl rfl ?_)
    refine G9 rfl (MS.fz9 6 rfl ?_)
    refine MS.fz9 7 rfl ((SRto.kr 5 rfl rfl rfl rfl).e ?_)
    refine MS.fz9 5 rfl (MS.fz9 4 rfl ?_)
    refine MS.fz9 3 rfl ?_
    have h9 := fin1 (f' := ⟨f.nm, f.ps ++ [⟨⟨#[97]⟩, g9.ty⟩], f.res, f.body, f.fl, f.x, f.y⟩) ⟨fo1, by rw [List.length_append]; show f.ps.length + 1 ≤ _; omega, fun x hx => by
        rcases List.mem_append.1 hx with hx | hx
        · exact (fo3 x hx).mono (by omega)
        · rw [List.mem_singleton.1 hx]; exact ⟨(by decide : (⟨#[97]⟩ : ByteArray).size ≤ 1000000), go2, by show g9.ty.size ≤ _; omega⟩, fo4, by first | omega | (dsimp only; omega), fo6, by first | omega | (dsimp only; omega), fo8, fo9⟩
    simp only [fuD, List.map_append, List.map_cons, List.map_nil] at h9
    exact Fp (T := T) _ h9 rfl rfl
  refine G9 rfl (If rfl (fun h => ?_) (fun h => ?_))
  · refine G9 rfl ?_
    refine Lr (T := T) hgr rfl rfl rfl rfl ⟨rfl, rfl⟩ rfl rfl ?_
    refine G9 rfl (Skk (T := T) lt2 rfl rfl rfl rfl rfl rfl rfl ⟨rfl, rfl⟩ rfl rfl ?_)
    refine G9 rfl (MS.fz9 6 rfl ?_)
    refine MS.fz9 7 rfl ((SRto.kr 5 rfl rfl rfl rfl).e ?_)
    refine MS.fz9 5 rfl (MS.fz9 4 rfl ?_)
    refine MS.fz9 3 rfl ?_
    exact Fp (T := T) _ (fin1 (f' := ⟨f.nm, f.ps, g9.ty, f.body, f.fl, f.x, f.y⟩) ⟨fo1, by first | omega | (dsimp only; omega), fun x hx => (fo3 x hx).mono (by omega), go2, by first | omega | (dsimp only; omega), fo6, by first | omega | (dsimp only; omega), fo8, fo9⟩) rfl rfl
  refine G9 rfl (If rfl (fun h => ?_) (fun h => ?_))
  · refine G9 rfl ?_
    refine Skk (T := T) lt2 rfl rfl rfl rfl rfl rfl rfl ⟨rfl, rfl⟩ rfl rfl ?_
    have hk := bu (n := b) (m := 3) (by omega)
    refine G9 rfl (Cq (bT (n := b) (m := 3) (by omega) (by omega)) rfl rfl rfl rfl rfl ⟨rfl, rfl⟩ ?_)
    generalize eB b 3 = k at *
    refine G9 rfl (Skk (T := T) lt2 rfl rfl rfl rfl rfl rfl rfl ⟨rfl, rfl⟩ rfl rfl ?_)
    refine G9 rfl (MS.fz9 6 rfl ?_)
    refine MS.fz9 7 rfl ((SRto.kr 5 rfl rfl rfl rfl).e ?_)
    refine MS.fz9 5 rfl (MS.fz9 4 rfl ?_)
    refine MS.fz9 3 rfl ?_
    exact Fp (T := T) _ (fin1 (f' := ⟨f.nm, f.ps, f.res, f.body, true, k, 4160⟩) ⟨fo1, by first | omega | (dsimp only; omega), fun x hx => (fo3 x hx).mono (by omega), fo4, by first | omega | (dsimp only; omega), fo6, by first | omega | (dsimp only; omega), ⟨by show _ ≤ k; omega, by show k ≤ _; omega⟩, ⟨by show (0 : Int) ≤ 4160; omega, by show (4160 : Int) ≤ _; omega⟩⟩) rfl rfl
  refine G9 rfl (If rfl (fun h => ?_) (fun h => ?_))
  · obtain ⟨j1, e1, hj1, he1, m1⟩ := dp (l := abL) (n := c) (m := 2) rfl (by omega)
    obtain ⟨j3, e2, hj3, he3, m3⟩ := dp (l := [⟨#[83]⟩, ⟨#[84]⟩, nm]) (n := c) (m := 3) rfl (by omega)
    have hm2 := bT (pk := pk) (n := c) (m := 2) (by omega) (by omega)
    have hm3 := bT (pk := pk) (n := c) (m := 3) (by omega) (by omega)
    rw [hj1] at hm2
    rw [hj3] at hm3
    have z1 : e1.size ≤ 1000000 := (by decide : ∀ s ∈ abL, s.size ≤ 1000000) e1 m1
    have z2 : e2.size ≤ 1000000 := by
      simp only [List.mem_cons, List.not_mem_nil, or_false] at m3
      rcases m3 with rfl | rfl | rfl
      · decide
      · decide
      · omega
    refine G9 rfl (Lr (T := T) hgr rfl rfl rfl rfl ⟨rfl, rfl⟩ rfl rfl ?_)
    refine G9 rfl (Cq hm2 rfl rfl rfl rfl rfl ⟨rfl, rfl⟩ ?_)
    refine G (T := T) 190 rfl ?_
    refine Ix (T := T) (rows := abL.map aX) j1 (ab he1) rfl rfl rfl rfl ⟨rfl, rfl⟩ rfl rfl ?_
    refine G9 rfl (Cq hm3 rfl rfl rfl rfl rfl ⟨rfl, rfl⟩ ?_)
    refine G (T := T) 197 rfl ?_
    refine Ix (T := T) (rows := [⟨#[83]⟩, ⟨#[84]⟩, nm].map aX) j3 (ab he3) rfl rfl rfl rfl ⟨rfl, rfl⟩ rfl rfl ?_
    refine G9 rfl (MS.fz9 6 rfl ?_)
    refine MS.fz9 7 rfl ((SRto.kr 5 rfl rfl rfl rfl).e ?_)
    refine MS.fz9 5 rfl (MS.fz9 4 rfl ?_)
    refine MS.fz9 3 rfl ?_
    have h9 := fin (ts := p.ts ++ [⟨nm, false, [⟨⟨#[97]⟩, g9.ty⟩, ⟨e1, .mk 4 e2 0 []⟩]⟩]) (gs := p.gs) (f' := f) (by rw [List.length_append]; show p.ts.length + 1 ≤ _; have := hok.tl; omega) (fun x hx => by
        rcases List.mem_append.1 hx with hx | hx
        · exact ft x hx
        · rw [List.mem_singleton.1 hx]
          refine ⟨Nat.le_trans hnmz (by decide), by show 2 ≤ _; omega, fun q hq => ?_⟩
          simp only [List.mem_cons, List.not_mem_nil, or_false] at hq
          rcases hq with rfl | rfl
          · exact ⟨(by decide : (⟨#[97]⟩ : ByteArray).size ≤ 1000000), go2, by show g9.ty.size ≤ _; omega⟩
          · exact ⟨z1, ⟨⟨by omega, by omega⟩, z2, ⟨by omega, by omega⟩, trivial⟩, by simp only [Ty4.size, Ty4.sizes]; omega⟩) ⟨hgs, by omega⟩ fg (ff f (List.mem_of_getElem? hf9))
    rw [List.map_append] at h9
    exact Fp (T := T) _ h9 rfl rfl
  refine G9 rfl (If rfl (fun h => ?_) (fun h => ?_))
  · have hk := bu (n := b) (m := 40) (by omega)
    refine G9 rfl (Cq (bT (n := b) (m := 40) (by omega) (by omega)) rfl rfl rfl rfl rfl ⟨rfl, rfl⟩ ?_)
    generalize eB b 40 = k at *
    refine G (T := T) 218 rfl ?_
    rw [show IntKind.u16.wrap (240 + k) = 240 + k from hZ (by omega) (by omega)]
    refine G9 rfl (MS.fz9 6 rfl ?_)
    refine MS.fz9 7 rfl ((SRto.kr 5 rfl rfl rfl rfl).e ?_)
    refine MS.fz9 5 rfl (MS.fz9 4 rfl ?_)
    refine MS.fz9 3 rfl ?_
    have h9 := fin (ts := p.ts) (gs := p.gs ++ [⟨⟨#[109, 111, 114, 101]⟩, .mk 5 eS 3 [.mk 2 eS 0 []], 1, 240 + k, ⟨#[97, 98, 99]⟩⟩]) (f' := f) tl2 ft (by rw [List.length_append]; show 1 ≤ p.gs.length + 1 ∧ p.gs.length + 1 ≤ _; omega) (fun x hx => by
        rcases List.mem_append.1 hx with hx | hx
        · exact fg x hx
        · rw [List.mem_singleton.1 hx]
          exact ⟨(by decide : (⟨#[109, 111, 114, 101]⟩ : ByteArray).size ≤ 1000000), ⟨⟨by omega, by omega⟩, by decide, ⟨by omega, by omega⟩, ⟨⟨by omega, by omega⟩, by decide, ⟨by omega, by omega⟩, trivial⟩, trivial⟩, by simp only [Ty4.size, Ty4.sizes]; omega, ⟨by show _ ≤ (1 : Int); omega, by show (1 : Int) ≤ _; omega⟩, ⟨by show 0 ≤ 240 + k; omega, by show 240 + k ≤ _; omega⟩, Nat.le_trans (by decide : (3 : Nat) ≤ 200) (by omega)⟩) (ff f (List.mem_of_getElem? hf9))
    rw [List.map_append] at h9
    exact Fp (T := T) _ h9 rfl rfl
  refine G9 rfl (If rfl (fun h => ?_) (fun h => ?_))
  · have l5 : (f.body.map smD).length = f.body.length := List.length_map ..
    have l6 := Sm.len_le f.body
    have hlast : ∀ z : List D, (f.body.map smD ++ [z])[f.body.length]? = some z := fun z => by rw [← l5, List.getElem?_append_right (Nat.le_refl _), Nat.sub_self]; rfl
    have hsl : ∀ z ds : List D, ds.length = z.length → df (f.body.map smD ++ [z]) f.body.length 0 ds = f.body.map smD ++ [ds] := fun z ds h => by have := mO (rows := f.body.map smD) h; rwa [l5] at this
    refine G9 rfl (Lkk (T := T) lt2 rfl rfl rfl rfl ⟨rfl, rfl⟩ rfl rfl ?_)
    refine G (T := T) 235 rfl ?_
    refine Iq (T := T) f.body.length rfl rfl rfl rfl rfl ⟨rfl, rfl⟩ rfl (by omega) rfl ?_
    refine G9 rfl (Sr (T := T) (hlast _) rfl rfl rfl rfl rfl rfl rfl ⟨rfl, rfl⟩ rfl rfl ?_)
    rw [hsl _ _ (by rfl)]
    refine G9 rfl (Skk (T := T) lt2 rfl rfl rfl rfl rfl rfl rfl ⟨rfl, rfl⟩ rfl rfl ?_)
    refine G9 rfl (MS.fz9 6 rfl ?_)
    refine MS.fz9 7 rfl ((SRto.kr 5 rfl rfl rfl rfl).e ?_)
    refine MS.fz9 5 rfl (MS.fz9 4 rfl ?_)
    refine MS.fz9 3 rfl ?_
    have h9 := fin1 (f' := ⟨f.nm, f.ps, f.res, f.body ++ [.mk 14 eS ty4z 0 [.mk 14 nm 0 []] [] [] []], f.fl, f.x, f.y⟩) ⟨fo1, by first | omega | (dsimp only; omega), fun x hx => (fo3 x hx).mono (by omega), fo4, by first | omega | (dsimp only; omega), Sm.oks_append.2 ⟨fo6, (show Sm.ok (.mk 14 eS ty4z 0 [.mk 14 nm 0 []] [] [] []) from ⟨⟨by omega, by omega⟩, by decide, aE, ⟨by omega, by omega⟩, ⟨⟨⟨by omega, by omega⟩, by omega, ⟨by omega, by omega⟩, trivial⟩, trivial⟩, trivial, trivial, trivial⟩), trivial⟩, by rw [Sm.sizes_append]; simp only [Sm.sizes, Sm.size, Sm.csizes, Ex.sizes, Ex.size, ty4z, Ty4.size, Ty4.sizes]; omega, fo8, fo9⟩
    simp only [fuD, a8, a7, List.map_append, List.map_cons, List.map_nil] at h9
    exact Fp (T := T) _ h9 rfl rfl
  have l5 : (f.body.map smD).length = f.body.length := List.length_map ..
  have l6 := Sm.len_le f.body
  have hlast : ∀ z : List D, (f.body.map smD ++ [z])[f.body.length]? = some z := fun z => by rw [← l5, List.getElem?_append_right (Nat.le_refl _), Nat.sub_self]; rfl
  have hsl : ∀ z ds : List D, ds.length = z.length → df (f.body.map smD ++ [z]) f.body.length 0 ds = f.body.map smD ++ [ds] := fun z ds h => by have := mO (rows := f.body.map smD) h; rwa [l5] at this
  refine G9 rfl (Ce (mb (q0 := a) (q1 := b) (q2 := c)) rfl rfl rfl rfl rfl ⟨rfl, rfl⟩ ?_)
  rintro _ ⟨⟨k, sn, sy, n, es, bd, el, cs⟩, rfl, so, sz⟩
  rw [a8]
  refine G9 rfl (If rfl (fun h => ?_) (fun h => ?_))
  · refine Zc 7 rfl ?_
    refine G (T := T) 60 rfl ?_
    refine Br (T := T) rfl rfl rfl rfl rfl ⟨rfl, rfl⟩ ?_
    refine G9 rfl (Lkk (T := T) lt2 rfl rfl rfl rfl ⟨rfl, rfl⟩ rfl rfl ?_)
    refine G (T := T) 65 rfl ?_
    refine Ap (T := T) l5.symm (jF _) rfl rfl rfl rfl rfl rfl ⟨rfl, rfl⟩ (by omega) (by omega) ?_
    refine G9 rfl (Skk (T := T) lt2 rfl rfl rfl rfl rfl rfl rfl ⟨rfl, rfl⟩ rfl rfl ?_)
    refine G9 rfl (MS.fz9 6 rfl ?_)
    refine MS.fz9 10 rfl ((SRto.kr 5 rfl rfl rfl rfl).e ?_)
    refine MS.fz9 5 rfl (MS.fz9 4 rfl ?_)
    refine MS.fz9 3 rfl ?_
    have h9 := fin1 (f' := ⟨f.nm, f.ps, f.res, .mk k sn sy n es bd el cs :: f.body, f.fl, f.x, f.y⟩) ⟨fo1, by first | omega | (dsimp only; omega), fun x hx => (fo3 x hx).mono (by omega), fo4, by first | omega | (dsimp only; omega), ⟨so, fo6⟩, by simp only [Sm.sizes]; omega, fo8, fo9⟩
    simp only [fuD, a8, a7, List.map_append, List.map_cons, List.map_nil] at h9
    exact Fp (T := T) _ h9 rfl rfl
  · refine G9 rfl ?_
    refine Lkk (T := T) lt2 rfl rfl rfl rfl ⟨rfl, rfl⟩ rfl rfl ?_
    refine G (T := T) 76 rfl ?_
    refine Iq (T := T) f.body.length rfl rfl rfl rfl rfl ⟨rfl, rfl⟩ rfl (by omega) rfl ?_
    refine G9 rfl (Sr (T := T) (hlast _) rfl rfl rfl rfl rfl rfl rfl ⟨rfl, rfl⟩ rfl rfl ?_)
    rw [hsl _ _ (by rfl)]
    refine G9 rfl (Skk (T := T) lt2 rfl rfl rfl rfl rfl rfl rfl ⟨rfl, rfl⟩ rfl rfl ?_)
    refine G9 rfl (MS.fz9 6 rfl ?_)
    refine MS.fz9 7 rfl ((SRto.kr 5 rfl rfl rfl rfl).e ?_)
    refine MS.fz9 5 rfl (MS.fz9 4 rfl ?_)
    refine MS.fz9 3 rfl ?_
    have h9 := fin1 (f' := ⟨f.nm, f.ps, f.res, f.body ++ [.mk k sn sy n es bd el cs], f.fl, f.x, f.y⟩) ⟨fo1, by first | omega | (dsimp only; omega), fun x hx => (fo3 x hx).mono (by omega), fo4, by first | omega | (dsimp only; omega), Sm.oks_append.2 ⟨fo6, so, trivial⟩, by rw [Sm.sizes_append]; simp only [Sm.sizes]; omega, fo8, fo9⟩
    simp only [fuD, a8, a7, List.map_append, List.map_cons, List.map_nil] at h9
    exact Fp (T := T) _ h9 rfl rfl
end
section
open Go Go.RowKit Go.MapKept Go.ChangeMaps Go.WideMaps Go.Proofs K
theorem lawPair : KeyLaw Tryz.prog 48 := deep_law_laid fG (m := 4) (by omega) (of_decide_eq_true (by kernel_rfl)) (by kernel_rfl) (by rw [Tryz.underlying48])
theorem pair_keys : Tryz.prog.keyType 48 = true ∧ Tryz.prog.cellsOf 48 = 4 := ⟨by kernel_rfl, by kernel_rfl⟩
def pqV (q : Pq) : Value := .agg #[.int .i64 (q.1 : Nat), .int .i64 (q.2.1 : Nat), .int .i64 q.2.2.1, .int .i64 q.2.2.2]
structure PqOk (q : Pq) : Prop where
  a : q.1 ≤ 1000000000000
  b : q.2.1 ≤ 1000000000000
  s : I64 q.2.2.1
  w : I64 q.2.2.2
theorem key_pair {q : Pq} (h : PqOk q) : ∃ kl, keyOf Tryz.prog 48 (pqV q) = some kl := by
  obtain ⟨n, hn⟩ := tsize
  unfold keyOf pqV
  simp only [Tryz.underlying48]
  rw [if_pos (by simp [pair_keys, Value.formed, Tryz.underlying48]), hn]
  unfold Program.keyLits
  simp only [Tryz.underlying48, Value.cells]
  rw [if_pos ⟨by rw [pair_keys.2]; rfl, by decide +kernel⟩]
  simp [Program.keyLits, Tryz.underlying3, kCel, wfN h.a, wfN h.b, wf64 h.s, wf64 h.w]
def kvQ : KV Tryz.prog 48 Pq := ⟨lawPair, pqV, PqOk, fun a b h => by
  obtain ⟨a1, a2, a3, a4⟩ := a; obtain ⟨b1, b2, b3, b4⟩ := b
  simp [pqV] at h
  obtain ⟨h1, h2, rfl, rfl⟩ := h
  simp; omega, fun a h => key_pair h⟩
theorem eqQ : kvQ.Eq := KV.eq_deep (by kernel_rfl) (fun _ => ⟨_, rfl⟩) (m := 4) (by omega) (by kernel_rfl) (by rw [Tryz.underlying48])
def swQ (q : Pq) : Pq := (q.2.1, q.1, q.2.2.1, q.2.2.2)
variable {pk : Pk}
theorem jT {l m : List Pq} (h1 : ∀ q ∈ l, PqOk q) (h2 : ∀ q ∈ m, PqOk q) (he : l.length = m.length) (hl : l.length ≤ 1000000000) (hm : ∀ q ∈ l, swQ q ∈ m) : XQ Tryz.prog pk 20 [xr (l.map pqD), xr (m.map pqD)] (xb true) := by
  refine XQ.en Tryz.func20 Tryz.ntmps20 (fun w0 own H V v0 hf => ?_)
  refine G9 rfl ?_
  refine IfF rfl (decide_eq_false (by rw [List.length_map, List.length_map, he]; exact fun h => h rfl)) ?_
  refine G9 rfl (Lq [0, 1] (fun (q : Nat) r => (4, xb false) :: (5, xi (q : Nat)) :: r) (fun _ => []) 0 (fun q => q ≤ l.length) (fun q => l.length - q) 0 rfl (Nat.zero_le _) ?_)
  intro i hi
  refine G9 rfl (If rfl (fun h => ?_) (fun h => ?_))
  · have hil := of_decide_eq_true h; rw [List.length_map] at hil
    obtain ⟨y, hy⟩ := ai (l := l) (j := i) (by omega)
    have hyk := h1 y (List.mem_of_getElem? hy)
    have hym := hm y (List.mem_of_getElem? hy)
    refine G9 rfl (Lq [0, 1, 5] (fun (q : Nat × Bool) r => (4, xb false) :: (6, xb q.2) :: (7, xi (q.1 : Nat)) :: r) (fun _ => []) 0 (fun q => q.1 ≤ m.length ∧ q.2 = (m.take q.1).any (fun z => decide (z = swQ y))) (fun q => m.length - q.1) (0, false) rfl ⟨Nat.zero_le _, rfl⟩ ?_)
    rintro ⟨j, b⟩ ⟨hj, hb⟩; dsimp only at hj hb ⊢
    refine G9 rfl (If rfl (fun h => ?_) (fun h => ?_))
    · have hjl := of_decide_eq_true h; rw [List.length_map] at hjl
      obtain ⟨z, hz⟩ := ai (l := m) (j := j) (by omega)
      have hzk := h2 z (List.mem_of_getElem? hz)
      have hst : (m.take (j + 1)).any (fun z => decide (z = swQ y)) = ((m.take j).any (fun z => decide (z = swQ y)) || decide (z = swQ y)) := by rw [List.take_add_one, hz, List.any_append]; simp
      rw [← hb] at hst
      cases b with
      | true =>
        refine G9 rfl ?_
        exact Nq (j + 1, true) ⟨by show j + 1 ≤ _; omega, by show true = _; rw [hst]; rfl⟩ (by show _ - (j + 1) < _ - j; omega)
      | false =>
        refine G9 rfl (Ix (T := T) j (ab (f := pqD) hz) rfl rfl rfl rfl ⟨rfl, rfl⟩ rfl rfl ?_)
        refine G9 rfl ?_
        iterate 4
          refine Ix (T := T) i (ab (f := pqD) hy) rfl rfl rfl rfl ⟨rfl, rfl⟩ rfl rfl ?_
          refine G9 rfl ?_
        refine Eqk kvQ z (swQ y) eqQ hzk (show PqOk (swQ y) from ⟨hyk.b, hyk.a, hyk.s, hyk.w⟩) rfl rfl rfl rfl rfl ⟨rfl, rfl⟩ ?_
        refine G9 rfl ?_
        exact Nq (j + 1, decide (z = swQ y)) ⟨by show j + 1 ≤ _; omega, by show _ = _; rw [hst]; rfl⟩ (by show _ - (j + 1) < _ - j; omega)
    · have hjl := of_decide_eq_false h; rw [List.length_map] at hjl
      rw [List.take_of_length_le (by omega)] at hb
      have hbt : b = true := by rw [hb]; exact List.any_eq_true.2 ⟨_, hym, by simp⟩
      subst hbt
      refine G9 rfl (IfF rfl rfl ?_)
      refine G9 rfl ?_
      exact Nq (i + 1) (by show i + 1 ≤ _; omega) (by show _ - (i + 1) < _ - i; omega)
  have hil := of_decide_eq_false h; rw [List.length_map] at hil
  refine G9 rfl (Fe (T := T) rfl rfl)
section
variable {a c : Pg}
theorem add_why {m : Ms} {l : List aj} {w : Int} (hw : 1 ≤ w ∧ w ≤ 5) (hm : ∀ p ∈ m.fs, 1 ≤ p.why ∧ p.why ≤ 5) : ∀ p ∈ (l.foldl (fun m p => m.add w p) m).fs, 1 ≤ p.why ∧ p.why ≤ 5 := by
  obtain ⟨e1, _⟩ := dk w l m
  rw [e1]
  intro p hp
  rcases List.mem_append.1 hp with hp | hp
  · exact hm p hp
  · obtain ⟨q, _, rfl⟩ := List.mem_map.1 hp; exact hw
theorem rules_why {m : Ms} {l : List aj} {w : Int} (h : (l, w) ∈ bF a c m) : 1 ≤ w ∧ w ≤ 5 := by
  simp only [bF, List.mem_cons, Prod.mk.injEq, List.not_mem_nil, or_false] at h
  rcases h with ⟨_, rfl⟩ | ⟨_, rfl⟩ | ⟨_, rfl⟩ | ⟨_, rfl⟩ | ⟨_, rfl⟩ | ⟨_, rfl⟩ <;> omega
theorem qb : ∀ (k : Nat) {m : Ms}, (∀ p ∈ m.fs, 1 ≤ p.why ∧ p.why ≤ 5) → ∀ p ∈ (aT a c k m).fs, 1 ≤ p.why ∧ p.why ≤ 5
  | 0, _, h => h
  | k + 1, m, h => by
    rw [aT]
    split
    · rename_i m' hm
      obtain ⟨l, w, h1, _, rfl⟩ := lz hm
      exact qb k (add_why (rules_why h1) h)
    · exact h
theorem match_why : ∀ p ∈ (aM a c).1, 1 ≤ p.why ∧ p.why ≤ 5 := by
  intro p hp
  refine qb (a := a) (c := c) (a.fs.length + a.gs.length + 1) (m := db a c) ?_ p (match_perm.1.mem_iff.1 hp)
  have st : ∀ (m : Ms) (nm : ByteArray), (∀ p ∈ m.fs, 1 ≤ p.why ∧ p.why ≤ 5) → ∀ p ∈ (jC a c m nm).fs, 1 ≤ p.why ∧ p.why ≤ 5 := fun m nm hm => by
    unfold jC
    split
    · intro p hp
      simp only [Ms.add, if_true, List.mem_append, List.mem_singleton] at hp
      rcases hp with hp | rfl
      · exact hm p hp
      · refine ⟨?_, ?_⟩ <;> (dsimp only; split <;> omega)
    · exact hm
  rw [l7]
  exact st _ _ (st _ _ (fun p h => by cases h))
theorem mtL_ok (fa : Fw a) (fc : Fw c) : ∀ q ∈ mtL a c, PqOk q := by
  intro q hq
  obtain ⟨p, hp, rfl⟩ := List.mem_map.1 hq
  have h1 := match_dis.2.f p hp
  have h2 := match_why p hp
  have h3 := qk (eD a p.a) (eD c p.b)
  have f1 := fa.f
  have f2 := fc.f
  exact ⟨by show p.a ≤ _; omega, by show p.b ≤ _; omega, ⟨by show _ ≤ gv _ _; omega, by show gv _ _ ≤ _; omega⟩, ⟨by show _ ≤ p.why; omega, by show p.why ≤ _; omega⟩⟩
theorem mtG_ok (fa : Fw a) (fc : Fw c) : ∀ q ∈ mtG a c, PqOk q := by
  intro q hq
  obtain ⟨p, hp, rfl⟩ := List.mem_map.1 hq
  have h1 := match_dis.2.g p hp
  have f1 := fa.g
  have f2 := fc.g
  exact ⟨by show p.a ≤ _; omega, by show p.b ≤ _; omega, ⟨by show _ ≤ (1000 : Int); omega, by show (1000 : Int) ≤ _; omega⟩, ⟨by show _ ≤ (5 : Int); omega, by show (5 : Int) ≤ _; omega⟩⟩
theorem mtL_sw : (mtL a c).length = (mtL c a).length ∧ ∀ q ∈ mtL a c, swQ q ∈ mtL c a := by
  have h := (qa (a := a) (c := c)).1
  refine ⟨by rw [mtL, mtL, List.length_map, List.length_map, h.length_eq, List.length_map], fun q hq => ?_⟩
  obtain ⟨p, hp, rfl⟩ := List.mem_map.1 hq
  refine List.mem_map.2 ⟨swP p, h.mem_iff.2 (List.mem_map.2 ⟨p, hp, rfl⟩), ?_⟩
  show (p.b, p.a, ak c a p.b p.a, p.why) = (p.b, p.a, ak a c p.a p.b, p.why)
  rw [dl]
theorem mtG_sw : (mtG a c).length = (mtG c a).length ∧ ∀ q ∈ mtG a c, swQ q ∈ mtG c a := by
  have h := (qa (a := a) (c := c)).2
  refine ⟨by rw [mtG, mtG, List.length_map, List.length_map, h.length_eq, List.length_map], fun q hq => ?_⟩
  obtain ⟨p, hp, rfl⟩ := List.mem_map.1 hq
  exact List.mem_map.2 ⟨swP p, h.mem_iff.2 (List.mem_map.2 ⟨p, hp, rfl⟩), rfl⟩
theorem mt_len (fa : Fw a) : (mtL a c).length ≤ 1000000000 ∧ (mtG a c).length ≤ 1000000000 := by
  have h := match_dis.2.le (a := a) (c := c) match_dis.1
  have f1 := fa.f
  have f2 := fa.g
  rw [mtL, mtG, List.length_map, List.length_map]
  exact ⟨Nat.le_trans h.1 (by omega), Nat.le_trans h.2 (by omega)⟩
end
theorem jG {l : List Int} {a b c s : Int} (h1 : ∀ n ∈ l, I64 n) (hs : I64 s) : XQ Tryz.prog pk0 6 [xr (l.map intD), q3 a b c, xi s] (xb true) := by
  have hBG : BG = 400000000 := rfl
  refine XQ.en Tryz.func6 Tryz.ntmps6 (fun w0 own H V v0 hf => ?_)
  refine Ln 0 rfl (fun hl => ?_); rw [List.length_map] at hl
  refine G9 rfl (Cq qE rfl rfl rfl rfl rfl ⟨rfl, rfl⟩ ?_)
  refine G9 rfl (Ce (mk_Made h1 hl) rfl rfl rfl rfl rfl ⟨rfl, rfl⟩ ?_)
  rintro _ ⟨p, rfl, hp⟩
  obtain ⟨pok, pfw, pf1, pg1⟩ := hp.few
  have pfl := pfw.f
  have pgl := pfw.g
  have hsm := hp.small
  refine G9 rfl (Ce (qJ pok (by omega) pf1 pg1 (a := a) (b := b) (c := c)) rfl rfl rfl rfl rfl ⟨rfl, rfl⟩ ?_)
  rintro _ ⟨t, rfl, tok, tf1, tg1, tfn, tgn⟩
  refine G9 rfl (Ce (qm tok (by omega) (by omega) (by omega) hs) rfl rfl rfl rfl rfl ⟨rfl, rfl⟩ ?_)
  rintro _ ⟨x, f, g, rfl, hv⟩
  obtain ⟨xok, xfw⟩ := hv.ok tok ⟨by omega, by omega⟩
  have pok2 : p.ok (BG + 200) := pok.mono (by omega)
  refine G9 rfl (Cq (dK pok2 xok (by omega) pfw xfw) rfl rfl rfl rfl rfl ⟨rfl, rfl⟩ ?_)
  refine G9 rfl (Cq (dK xok pok2 (by omega) xfw pfw) rfl rfl rfl rfl rfl ⟨rfl, rfl⟩ ?_)
  refine G9 rfl (Cq (jT (mtL_ok pfw xfw) (mtL_ok xfw pfw) mtL_sw.1 (mt_len pfw).1 mtL_sw.2) rfl rfl rfl rfl rfl ⟨rfl, rfl⟩ ?_)
  refine G9 rfl (Cq (jT (mtG_ok pfw xfw) (mtG_ok xfw pfw) mtG_sw.1 (mt_len pfw).2 mtG_sw.2) rfl rfl rfl rfl rfl ⟨rfl, rfl⟩ ?_)
  refine G9 rfl (Fe (T := T) rfl rfl)
end
end Go.Proofs.YticengaggjcppaaGreat.X
namespace Go.Proofs.YticengaggjcppaaGreat.K
open Go Go.RowKit Go.ChangeShapes Go.WideShapes Go.Deep
def jU (k : IntKind) (l : List Int) : List D := (l.map (Value.int k)).map D.c
abbrev InK (k : IntKind) (n : Int) : Prop := k.min ≤ n ∧ n ≤ k.max
theorem lit_in {k : IntKind} {n : Int} (h : (Lit.int k n).wf = true) : InK k n := by
  unfold Lit.wf at h
  simp only [Bool.and_eq_true, decide_eq_true_eq] at h
  exact h
theorem ov {n : Int} (h : InK .i64 n) : -9223372036854775808 ≤ n ∧ n ≤ 9223372036854775807 := by
  have e1 : IntKind.i64.min = -9223372036854775808 := by decide
  have e2 : IntKind.i64.max = 9223372036854775807 := by decide
  obtain ⟨h1, h2⟩ := h
  rw [e1] at h1; rw [e2] at h2
  exact ⟨h1, h2⟩
def allH (W : World) : Hp := fun b => W.heap[b]?
theorem St.all (W : World) : St W (allH W) [] W := ⟨rfl, ⟨rfl, by omega⟩, rfl, fun _ _ h => h, by simp, by simp, by simp⟩
theorem spot_none {W : World} {a : Addr} {v : Value} (h : W.cell? a = some v) : a = ⟨a.block, a.off, none⟩ := by
  obtain ⟨b, o, s⟩ := a
  cases s with
  | none => rfl
  | some s =>
    unfold World.cell? at h
    split at h <;> simp at h
theorem cel_of {W : World} {b o : Nat} {v : Value} (h : W.cell? ⟨b, o, none⟩ = some v) : cel (allH W) b o = some v := by
  unfold World.cell? at h
  unfold cel allH
  split at h
  · rename_i hb
    rw [hb]
    simpa using h
  · cases h
theorem add_zero' (a : Addr) : a.add 0 = a := by unfold Addr.add; simp
section
variable {P : Program} {H : Type} {enc : TypeId × Value → H} {W : World}
theorem qK {t e : TypeId} {k : IntKind} (ht : P.underlying t = some (.slice e)) (he : P.underlying e = some (.int k)) (hc : P.cellsOf e = 1) {a : Option Addr} {len cap : Nat} {d : DataW H} {ps : List MemPlace}
    (h : DataW.Trod enc P W 0 (fun _ => true) true t (.slice a len cap) d ps) : ∃ l : List Int, (∀ n ∈ l, InK k n) ∧ rd (allH W) (.s 1 (jU k l)) (.slice a len cap) := by
  obtain ⟨fuel, hf⟩ := h
  have hcs : (Value.slice a len cap).cells.toList = [.slice a len cap] := rfl
  rw [hcs] at hf
  rcases open_ints ht he hc hf with ⟨hcs, _⟩ | ⟨a, len', cap', zs, hcs, _, hl, hm, hz, _, hcell, hwz⟩
  · simp only [List.cons.injEq, Value.slice.injEq, and_true] at hcs
    obtain ⟨rfl, rfl, rfl⟩ := hcs
    exact ⟨[], by simp, rd.nil _ _⟩
  · simp only [List.cons.injEq, Value.slice.injEq, and_true] at hcs
    obtain ⟨rfl, rfl, rfl⟩ := hcs
    simp only [if_true] at hz
    refine ⟨zs.take len, fun n hn => ?_, ?_⟩
    · exact lit_in (hwz n (List.mem_of_mem_take hn))
    · simp only [rd]
      refine ⟨_, _, _, rfl, by simp [jU]; omega, hl, by simpa [maxLen] using hm, ?_⟩
      by_cases h0 : len = 0
      · exact .inl h0
      · have e := hcell 0 (by omega)
        rw [add_zero'] at e
        have ea := spot_none e
        refine .inr ⟨a.block, a.off, by rw [← ea], rds.mk fun i x hx => ?_⟩
        simp only [jU, List.getElem?_map, List.getElem?_take] at hx
        split at hx
        · rename_i hlt
          have h1 := hcell i (by omega)
          have h2 : zs[i]? = some zs[i] := List.getElem?_eq_getElem (by omega)
          rw [h2] at hx
          simp only [Option.map_some, Option.some.injEq] at hx
          subst hx
          refine ⟨.int k zs[i], ?_, by simp [rd]⟩
          rw [ea, dc] at h1
          rw [List.getD_eq_getElem?_getD, h2] at h1
          exact cel_of h1
        · simp at hx
theorem np (hl : laidOutB P = true) {W' : World} (hb : ∀ k, k < W.heap.size → W'.heap[k]? = W.heap[k]?) {sp : Nat → Bool} : ∀ {ts : List TypeId} {vs : List Value} {ds : List (DataW H)} {ps : List MemPlace},
    (ts.all fun t => P.readableRec t && decide (t < P.types.size)) = true → DataW.TrodAll enc P W 0 (fun _ => true) true ts vs ds ps → (∀ x ∈ ps, x.block < W.heap.size) → (∀ x ∈ ps, sp x.block = true) → DataW.TrodAll enc P W' 0 sp true ts vs ds ps
  | [], [], [], _, _, h, _, _ => h
  | t :: ts, v :: vs, d :: ds, _, hts, h, hlt, hsp => by
    obtain ⟨p, q, h1, h2, rfl⟩ := h
    simp only [List.all_cons, Bool.and_eq_true, decide_eq_true_eq] at hts
    refine ⟨p, q, WideElems.Trod_stays hl hts.1.1 hts.1.2 h1 (fun x hx => ?_) (fun x hx => hsp x (List.mem_append_left _ hx)), np hl hb hts.2 h2 (fun x hx => hlt x (List.mem_append_right _ hx)) (fun x hx => hsp x (List.mem_append_right _ hx)), rfl⟩
    have hx' := hlt x (List.mem_append_left _ hx)
    cases x with
    | cell b o => exact World.cell?_of_block (w := W) (hb b hx')
    | map b => exact hb b hx'
theorem law_post {f : Func} {s : ChangeSpec} {apart fresh handsOn again : Bool} {W' : World} {args : Array Value} {ds gs : List (DataW H)} {fe : List MemPlace} {bt : TypeId} (hl : laidOutB P = true)
    (hW : DataW.Whole enc P f.params.toList s.vars apart W args.toList ds gs fe) (hvs : s.vars = []) (hfn : s.fn H (ds ++ gs) = { results := [.lit (.bool true)], args := ds }) (hrt : f.resultTypes = #[bt]) (hbt : P.underlying bt = some .bool)
    (hts : (f.params.toList.all fun t => P.readableRec t && decide (t < P.types.size)) = true)
    (hos : W'.os = W.os) (hout : W'.output = W.output) (hb : ∀ k, k < W.heap.size → W'.heap[k]? = W.heap[k]?) : s.post enc P f apart fresh handsOn again W args (.bool true) W' := by
  have hlt := hW.lt
  have hW0 := hW
  obtain ⟨p, q, hA, hV, rfl, hfz, hnd⟩ := hW
  have hq : q = [] := by
    rw [hvs] at hV
    obtain ⟨_, rfl⟩ := trodVars_none hV
    rfl
  subst hq
  have hg : gs = [] := by
    rw [hvs] at hV
    obtain ⟨rfl, _⟩ := trodVars_none hV
    rfl
  subst hg
  simp only [List.append_nil] at hlt hfz hnd hW0
  have hres : ∀ (b : Nat) (sp : Nat → Bool) (hd : Bool), DataW.TrodAll enc P W' b sp hd f.resultTypes.toList ((Value.bool true).resultList f.resultTypes.size) (s.fn H (ds ++ [])).results [] := by
    intro b sp hd
    rw [hfn, hrt]
    exact trodAll_mk1 (shut_bool hbt true)
  have hargs : ∀ sp : Nat → Bool, (∀ x ∈ p, sp x.block = true) → DataW.TrodAll enc P W' 0 sp true f.params.toList args.toList (s.fn H (ds ++ [])).args p := by
    intro sp hsp
    rw [hfn]
    exact np hl hb hts hA hlt hsp
  have hvars : ∀ sp : Nat → Bool, DataW.TrodVars enc P W' sp s.vars (s.fn H (ds ++ [])).vars [] := by
    intro sp
    rw [hfn, hvs]
    rfl
  have hok : ∀ (j : Nat) (t : TypeId) (r : Value), f.resultTypes[j]? = some t → ((Value.bool true).resultList f.resultTypes.size)[j]? = some r → Value.okWide P W' .any 0 t r := by
    rw [hrt]
    intro j t r hj hr
    match j, hj, hr with
    | 0, hj, hr =>
      simp [Value.resultList] at hj hr
      subst hj; subst hr
      simp [Value.okWide, hbt, Cell.okWide, Cell.ok]
    | j + 1, hj, hr => simp at hj
  have hk : W.keptBut W' (fun x => x ∈ p ∧ (x ∈ ([] : List MemPlace) ∨ x ∈ p ∨ x ∈ ([] : List MemPlace))) := by
    refine ⟨hos, hout, fun i hi => ?_⟩
    rw [hb i hi]
    split <;> simp_all
  have hfz' : W'.noneFrozen p := by
    intro b off hp
    have := hfz b off hp
    rw [← this]
    exact World.frozen?_of_block (w := W) (hb b (hlt _ hp))
  refine ⟨ds, [], p, [], p, [], by simpa using hW0, hres _ _ _, hargs _ (fun x hx => by simpa using hlt x hx), hvars _, hk, fun _ => ⟨hok, _, _, ([] ++ p) ++ [], ⟨[] ++ p, [], trodAll_append (hargs _ (fun _ _ => rfl)) (hres _ _ _), hvars _, rfl, by simpa using hfz', fun ha => by simpa using hnd ha⟩, fun x hx _ => by simpa using hx⟩⟩
end
section
end
end Go.Proofs.YticengaggjcppaaGreat.K
namespace Go.Proofs.YticengaggjcppaaGreat.X
open Go Go.RowKit K
theorem nq {H : Hp} {b : Nat} {k : IntKind} : ∀ {l : List Int} {o : Nat}, K.rds H b o (jU k l) → rdr H b 1 o (l.map fun n => [.c (.int k n)])
  | [], o, _ => by simp only [List.map_nil, rdr]
  | n :: l, o, h => by
    simp only [jU, List.map_cons, K.rds] at h
    simp only [List.map_cons, rdr, rds]
    obtain ⟨⟨u, h1, h2⟩, h3⟩ := h
    exact ⟨⟨rfl, ⟨u, h1, by simp only [rd]; exact ⟨h2, rfl⟩⟩, trivial⟩, nq (l := l) h3⟩
theorem rd_kints {H : Hp} {k : IntKind} {l : List Int} {v : Value} (h : K.rd H (.s 1 (jU k l)) v) : rd H (.s (l.map fun n => [.c (.int k n)])) v := by
  simp only [K.rd] at h
  obtain ⟨A, n, c, rfl, h1, h2, h3, h4⟩ := h
  have hn : n = (l.map fun n => [D.c (.int k n)]).length := by simpa [jU] using h1.symm
  simp only [rd]
  refine ⟨A, c, 1, by rw [hn], by rw [← hn]; exact h2, (by simpa [maxLen] using h3), ?_⟩
  rcases h4 with h4 | ⟨b, o, rfl, h4⟩
  · exact .inl (List.eq_nil_of_length_eq_zero (by rw [← hn]; exact h4))
  · exact .inr ⟨b, o, rfl, nq h4⟩
end Go.Proofs.YticengaggjcppaaGreat.X
namespace Go.Proofs.YticengaggjcppaaGreat.K
open Go Go.RowKit Go.Proofs Go.ChangeShapes Go.WideShapes Go.Deep
section
variable {P : Program} {H : Type} {enc : TypeId × Value → H} {W : World}
theorem open_arrI {t e : TypeId} {n : Nat} (ht : P.underlying t = some (.array n e)) (he : P.underlying e = some (.int .i64)) (hc : P.cellsOf t = n) (hc1 : P.cellsOf e = 1) {fuel : Nat} {cs : List Value} {x : DataW H × List MemPlace} (hl : cs.length = n)
    (h : DataW.trod enc P W 0 (fun _ => true) true fuel t cs = some x) : ∃ l : List Int, l.length = n ∧ (∀ y ∈ l, I64 y) ∧ cs = l.map (Value.int .i64) := by
  obtain ⟨xs, mm, _, _, _, hxs, hel⟩ := DataW.trod_array ht h
  have one : ∀ i, i < n → ∃ y : Int, I64 y ∧ cs[i]? = some (.int .i64 y) := by
    intro i hi
    have e1 := hel i (by omega)
    rw [List.getElem?_eq_getElem (by omega), hc1, Nat.mul_one] at e1
    obtain ⟨y, g, _, w⟩ := DataW.trod_int he e1
    refine ⟨y, ov (lit_in w), ?_⟩
    have h2 := congrArg (fun l => l[0]?) g
    simp only [List.getElem?_cons_zero] at h2
    rw [List.getElem?_take, if_pos (by omega), List.getElem?_drop] at h2
    simpa using h2
  obtain ⟨f, hF⟩ := choose_lt one
  refine ⟨(List.range n).map f, by simp, fun y hy => ?_, ?_⟩
  · obtain ⟨i, hi, rfl⟩ := List.mem_map.1 hy
    exact (hF i (List.mem_range.1 hi)).1
  · refine List.ext_getElem? fun i => ?_
    by_cases hi : i < n
    · rw [(hF i hi).2]
      simp [hi]
    · rw [List.getElem?_eq_none (by omega), List.getElem?_eq_none (by simp; omega)]
theorem open_arrV {t e : TypeId} {n : Nat} (ht : P.underlying t = some (.array n e)) (he : P.underlying e = some (.int .i64)) (hc : P.cellsOf t = n) (hc1 : P.cellsOf e = 1) {r : Reach} {b0 : Nat} {v : Value} {d : DataW H} {ps : List MemPlace} (hval : Value.okWide P W r b0 t v)
    (h : DataW.Trod enc P W 0 (fun _ => true) true t v d ps) : ∃ l : List Int, l.length = n ∧ (∀ y ∈ l, I64 y) ∧ v = .agg (l.map (Value.int .i64)).toArray := by
  simp only [Value.okWide, ht] at hval
  obtain ⟨cs, rfl, h2, _⟩ := hval
  rw [hc] at h2
  obtain ⟨fuel, hf⟩ := h
  obtain ⟨l, h3, h4, h5⟩ := open_arrI ht he hc hc1 (cs := cs.toList) (by simpa using h2) hf
  exact ⟨l, h3, h4, by rw [← h5]⟩
end
section
variable {H : Type} {enc : TypeId × Value → H} {W : World}
theorem qL {v : Value} {d : DataW H} {ps : List MemPlace} {r : Reach} {b0 : Nat} (hval : Value.okWide Tryz.prog W r b0 23 v) (h : DataW.Trod enc Tryz.prog W 0 (fun _ => true) true 23 v d ps) : ∃ a b c : Int, I64 a ∧ I64 b ∧ I64 c ∧ v = .agg #[.int .i64 a, .int .i64 b, .int .i64 c] := by
  obtain ⟨l, h1, h2, rfl⟩ := open_arrV Tryz.underlying23 Tryz.underlying3 (by kernel_rfl) (by kernel_rfl) hval h
  match l, h1, h2 with
  | [a, b, c], _, h2 => exact ⟨a, b, c, h2 a (by simp), h2 b (by simp), h2 c (by simp), rfl⟩
end
end Go.Proofs.YticengaggjcppaaGreat.K
namespace Go.Proofs.YticengaggjcppaaGreat.X
open Go Go.RowKit Go.Proofs K
theorem res_true {P : Program} {f : FuncId} {vals : List Value} {w0 : World} {own : List Seg} {H : Hp} (h : K.Fn P f vals w0 H own (fun r o H' => (xb true).rel (fun _ _ => none) H' r ∧ o = own ∧ Le H H')) : K.Fn P f vals w0 H own (fun r o H' => r = .bool true ∧ o = own ∧ Le H H') :=
  h.mono fun r o H' ⟨h1, h2, h3⟩ => ⟨by
    simp only [XV.rel, XA.rel, XC.rel, rd] at h1
    exact h1.1, h2, h3⟩
end Go.Proofs.YticengaggjcppaaGreat.X
namespace Go.Proofs.YticengaggjcppaaGreat.K
open Go Go.RowKit Go.Proofs
theorem law_inv {l : List Int} {a b c n : Int} (h1 : ∀ n ∈ l, I64 n) (ha : I64 a) (hb : I64 b) (hc : I64 c) (h3 : I64 n) {w0 : World} {H : Hp} {own : List Seg} {v1 : Value} (hA : rd H (.s 1 (jU .i64 l)) v1) :
    Fn Tryz.prog 6 [v1, .agg #[.int .i64 a, .int .i64 b, .int .i64 c], .int .i64 n] w0 H own (fun r o H' => r = .bool true ∧ o = own ∧ Le H H') :=
  X.res_true (X.XQ.toFn (X.jG (l := l) (a := a) (b := b) (c := c) (s := n) h1 h3) id trivial ⟨X.rd_kints hA, by simp only [X.XV.rel, X.XA.rel]; exact ⟨_, rfl, by simp only [X.rdL, X.rd]; exact ⟨⟨trivial, rfl⟩, ⟨trivial, rfl⟩, ⟨trivial, rfl⟩, trivial⟩⟩, by simp only [X.XV.rel, X.XA.rel, X.XC.rel, X.rd]; exact ⟨trivial, rfl⟩, trivial⟩)
end Go.Proofs.YticengaggjcppaaGreat.K
namespace Go.Proofs.YticengaggjcppaaGreat
open Go Go.RowKit Go.ChangeShapes Go.WideShapes
namespace Row6
theorem own0 : ownKnob Tryz.prog.godebug = none := by kernel_rfl
theorem laid0 : laidOutB Tryz.prog = true := by kernel_rfl
theorem lifted (os : Os) (started : os.Started) (H : Type) (enc : TypeId × Value → H) :
    ReturnsInHanded {} Tryz.checked os 6 .any (Rows.matchInverseSpec.pre6 enc Tryz.prog Tryz.f6 Rows.matchInverseRow.domain false) (Rows.matchInverseSpec.post enc Tryz.prog Tryz.f6 false true false false) := by
  refine returnsInHanded_of_change (C := Tryz.checked) own0 started (by kernel_rfl) Tryz.func6
    (ChangeSpec.witness6 (enc := enc) (C := Tryz.checked) false ⟨#[], #[.slice none 0 0, .agg #[.int .i64 0, .int .i64 0, .int .i64 0], .int .i64 0], []⟩ 8 (by kernel_rfl) (by kernel_rfl) (by kernel_rfl) (by kernel_rfl)) ?_
  intro W base args ds gs fe hval0 hW hcnd _
  have hval : ∀ (j : Nat) t v, Tryz.f6.params[j]? = some t → args[j]? = some v → Value.okWide Tryz.prog W .any base t v := hval0
  have hW' : DataW.Whole enc Tryz.prog Tryz.f6.params.toList Rows.matchInverseSpec.vars false W args.toList ds gs fe := hW
  obtain ⟨p, q, hA0, hV, rfl, hfz, hnd⟩ := hW
  have hA : DataW.TrodAll enc Tryz.prog W 0 (fun _ => true) true Tryz.f6.params.toList args.toList ds p := hA0
  rw [Tryz.params6] at hA hval
  obtain ⟨v0, v1, v2, d0, d1, d2, p0, p1, p2, rfl, rfl, rfl, h0, h1, h2⟩ := trodAll_three hA
  obtain ⟨rfl, rfl⟩ := trodVars_none hV
  obtain ⟨a0, n0, c0, rfl⟩ := okWide_slice Tryz.underlying22 (hval 0 22 v0 rfl rfl)
  obtain ⟨l0, k0, r0⟩ := K.qK Tryz.underlying22 Tryz.underlying3 (by kernel_rfl) h0
  obtain ⟨a1, b1, c1, ka1, kb1, kc1, rfl⟩ := K.qL (hval 1 23 v1 rfl rfl) h1
  obtain ⟨l2, rfl, _, _, k2⟩ := open_int Tryz.underlying3 (hval 2 3 v2 rfl rfl) h2
  refine (K.law_inv (fun n h => K.ov (k0 n h)) ka1 kb1 kc1 (K.ov (K.lit_in k2)) r0 W (K.St.all W)).mono fun e W1 hh => ?_
  obtain ⟨v, own1, H1, rfl, ⟨rfl, _, hle⟩, hst⟩ := hh
  exact ⟨_, rfl, K.law_post laid0 hW' rfl rfl rfl Tryz.underlying4 (by kernel_rfl) hst.os hst.output (fun k hk => by
    have e1 : W.heap[k]? = some W.heap[k] := by simp [hk]
    rw [e1]
    exact hst.imm k _ (hle k _ e1))⟩
end Row6
theorem inverse_holds : Rows.MatchInverseSaid :=
  OpenClaim.holds_of_wide 6 Tryz.f6 rfl rfl rfl rfl rfl rfl rfl ⟨rfl, rfl, rfl, rfl, rfl⟩ rfl rfl rfl rfl rfl (by kernel_rfl) Tryz.func6 (by kernel_rfl)
    (of_decide_eq_true (by kernel_rfl)) (by unfold Func.isWrapper; first | (rw [if_pos (by decide +kernel)]; kernel_rfl) | (rw [if_neg (by decide +kernel)]; exact ⟨rfl, rfl⟩))
    (fun os started H enc _ => Row6.lifted os started H enc)
end Go.Proofs.YticengaggjcppaaGreat
