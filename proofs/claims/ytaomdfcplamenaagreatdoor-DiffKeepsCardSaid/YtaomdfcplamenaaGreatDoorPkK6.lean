/-
  Part 6 of 6 of the proof that DiffKeeps returns true for every three lists of numbers, and leaves its arguments as they were.. No condition beyond the given statement.
-/
import Derived.ProofKit
import Derived.Deep.Slices
import Derived.OpenShut
import Derived.Test.YtaomdfcplamenaaGreatDoorRows
import Derived.Test.YtaomdfcplamenaaGreatDoorTie
import Derived.Test.YtaomdfcplamenaaGreatDoorCards
import Derived.LaidMore
import Derived.Stop.Joined
import Derived.Test.YtaomdfcplamenaaGreatDoorPkK5
set_option linter.unusedVariables false
set_option linter.unusedSimpArgs false
set_option linter.defProp false
set_option maxHeartbeats 4000000
set_option maxRecDepth 100000
namespace Go.Proofs.YtaomdfcplamenaaGreatDoor.K
open Go Go.RowKit Go.Proofs

section
variable {es : List Ei} {t : Tr} {w0 : World} {H : Hp} {own : List Seg} {a0 a1 ve : Value}
theorem Apply_bad {c : Int} (hs : applyI t es = .inl c) (hpl : ∀ e ∈ es, e.path.length ≤ 1000000) (hsz : t.size + treesI es ≤ 1000000) (hel : es.length ≤ 1000000) (ht : RdL H t.d [a0, a1]) (hve : rd H (.s 4 (eiD es)) ve) :
    Fn Tryz.prog 17 [.agg #[a0, a1], ve] w0 H own (fun r o H' => r = .tuple #[.agg #[.string ⟨#[]⟩, .slice none 0 0], .int .i64 c] ∧ o = own ∧ Le H H') :=
  (diff_Apply hpl hsz hel ht hve).mono fun r o H' h => by
    obtain ⟨⟨c', h1, h2, h3⟩ | ⟨u, _, _, _, h1, _⟩, h4⟩ := h
    · rw [hs] at h1; cases h1; exact ⟨h2, h3, h4⟩
    · rw [hs] at h1; cases h1
theorem Apply_ok {u : Tr} (hs : applyI t es = .inr u) (hpl : ∀ e ∈ es, e.path.length ≤ 1000000) (hsz : t.size + treesI es ≤ 1000000) (hel : es.length ≤ 1000000) (ht : RdL H t.d [a0, a1]) (hve : rd H (.s 4 (eiD es)) ve) :
    Fn Tryz.prog 17 [.agg #[a0, a1], ve] w0 H own (fun r o H' => ∃ u0 u1 S, r = .tuple #[.agg #[u0, u1], .int .i64 0] ∧ ownT u u0 u1 S ∧ o = S :: own ∧ Le H H') :=
  (diff_Apply hpl hsz hel ht hve).mono fun r o H' h => by
    obtain ⟨⟨c', h1, h2, h3⟩ | ⟨u', u0, u1, S, h1, h2, h3, h5⟩, h4⟩ := h
    · rw [hs] at h1; cases h1
    · rw [hs] at h1; cases h1; exact ⟨u0, u1, S, h2, h3, h5, h4⟩
theorem Apply_okF {u : Tr} (hs : applyI t es = .inr u) (hpl : ∀ e ∈ es, e.path.length ≤ 1000000) (hsz : t.size + treesI es ≤ 1000000) (hel : es.length ≤ 1000000) (ht : RdL H t.d [a0, a1]) (hve : rd H (.s 4 (eiD es)) ve) :
    Fn Tryz.prog 17 [.agg #[a0, a1], ve] w0 H own (fun r o H' => (∃ u0 u1, r = .tuple #[.agg #[u0, u1], .int .i64 0] ∧ RdL H' u.d [u0, u1]) ∧ o = own ∧ Le H H') :=
  Fn.froze (R := fun v S _ => ∃ u0 u1, v = .tuple #[.agg #[u0, u1], .int .i64 0] ∧ ownT u u0 u1 S) (S := fun v H' => ∃ u0 u1, v = .tuple #[.agg #[u0, u1], .int .i64 0] ∧ RdL H' u.d [u0, u1])
    ((Apply_ok hs hpl hsz hel ht hve).mono fun r o H' ⟨u0, u1, S, h1, h2, h3, h4⟩ => ⟨S, ⟨u0, u1, h1, h2⟩, h3, h4⟩)
    (fun v seg H' H'' ⟨u0, u1, h1, h2⟩ _ hz => ⟨u0, u1, h1, h2.rd hz⟩)
theorem Invert_ok {bs : List Ei} (hs : invertI t es = .inr bs) (hpl : ∀ e ∈ es, e.path.length ≤ 1000000) (hsz : t.size + treesI es ≤ 1000000) (hel : es.length ≤ 1000000) (ht : RdL H t.d [a0, a1]) (hve : rd H (.s 4 (eiD es)) ve) :
    Fn Tryz.prog 19 [.agg #[a0, a1], ve] w0 H own (fun r o H' => (∃ v, r = .tuple #[v, .int .i64 0] ∧ rd H' (.s 4 (eiD bs)) v) ∧ o = own ∧ Le H H') :=
  Fn.froze (R := fun r seg H' => ∃ v, r = .tuple #[v, .int .i64 0] ∧ EiLog H' v bs seg) (S := fun r H' => ∃ v, r = .tuple #[v, .int .i64 0] ∧ rd H' (.s 4 (eiD bs)) v)
    ((diff_Invert hpl hsz hel ht hve).mono fun r o H' h => by
      obtain ⟨⟨c', h1, h2, h3⟩ | ⟨bs', v, seg, h1, h2, h3, h5⟩, h4⟩ := h
      · rw [hs] at h1; cases h1
      · rw [hs] at h1; cases h1; exact ⟨seg, ⟨v, h2, h3⟩, h5, h4⟩)
    (fun r seg H' H'' ⟨v, h1, h2⟩ hl hz => ⟨v, h1, h2.rd hz hl⟩)
end
def lA : ByteArray := ⟨#[97]⟩
def lB : ByteArray := ⟨#[98]⟩
def lX : ByteArray := ⟨#[120]⟩
def lY : ByteArray := ⟨#[121]⟩
def sA : Tr := .node lA []
def sB : Tr := .node lB []
def sXab : Tr := .node lX [sA, sB]
def sXb : Tr := .node lX [sB]
def sXa : Tr := .node lX [sA]
def sYa : Tr := .node lY [sA]
theorem uni1 : Uni [sXab, sXb, sA, sB] := ⟨by decide, by decide +kernel, by decide +kernel⟩
theorem uni2 : Uni [sXa, sYa, sA] := ⟨by decide, by decide +kernel, by decide +kernel⟩
theorem ed1 : edT sXab sXb [] = [⟨2, [0], Tr.zero⟩] := by
  have hne : sXab ≠ sXb := by decide +kernel
  have hf : fro sXab.kids sXb.kids = 0 := by decide +kernel
  have hb : bak 0 sXab.kids sXb.kids = 1 := by decide +kernel
  rw [edT_eq, if_neg hne, if_neg (by decide +kernel)]
  unfold midA midB
  rw [hf, hb]
  show wk edT [] [sA] [] 0 = _
  rw [wk_cn, wk_nn]
  rfl
theorem ed2 : edT sXa sYa [] = [⟨3, [], sYa⟩] := by
  rw [edT_eq, if_neg (by decide +kernel), if_pos (by decide +kernel)]
theorem ap3 : applyI sXa [⟨1, [2], sB⟩] = .inl 101 := by decide +kernel
theorem iv4 : invertI sXab [⟨2, [1], Tr.zero⟩] = .inr [⟨1, [1], sB⟩] := by rfl
end Go.Proofs.YtaomdfcplamenaaGreatDoor.K

namespace Go.Proofs.YtaomdfcplamenaaGreatDoor.K
open Go Go.RowKit Go.Proofs

/-- One result in a slot, one in a block of our own. -/
theorem TQ.retTC {P : Program} {w0 : World} {N : Nat} {env : Env} {own : List Seg} {H : Hp} {fn : Func} {φ : Value → List Seg → Hp → Prop} (i j k : Nat) {t u : Tmp} {ty : TypeId} {g o : Nat} {seg : Seg} {c : Array Value} {e : TypeId} {fz : Nat × Nat} {agg : Bool} {n : Nat} {v x : Value} (vs : List Value) (hr : fn.results = #[.tmp u, .cell t ty])
    (hv : lk env t = some (.pointer (some ⟨g, o, none⟩))) (hx : lk env u = some x) (hi : own[i]? = some seg) (hj : seg[j]? = some (g, .cells c e fz)) [ht : Ty P ty agg n] (hc : cAt c o vs) (hn : vs.length = n) (hm : mkV agg vs = some v)
    (h : φ (.tuple #[x, v]) (own.drop k) H) : TQ w0 N (bodyPost P fn (Ret w0 φ)) .ret env own H := fun a w ha hw => by
  have hb := hw.own_blk hi hj
  have hl := run_loadVar (P := P) (w := w) (b := g) (o := o) ht hn hm (fun k u hu => by rw [cell_of_cells hb]; exact hc.get k u hu)
  refine bodyPost_ret (v := .tuple #[x, v]) ?_ ha.defers ⟨.tuple #[x, v], own.drop k, H, rfl, h, hw.drop k⟩
  have h1 := ha.slots t _ hv; have h2 := ha.slots u _ hx
  simp [results, hr, Array.getD_eq_getD_getElem?, h1, h2, asAddr, hl]
/-- A way down into a tree that numbers choose: the path, the node, the numbers used. -/
def walkC (l : List Int) : Nat → Tr → Nat → List Int × Tr × Nat
  | 0, x, a => ([], x, a)
  | d + 1, .node lb ks, a =>
    match ks[(takeV l a ks.length).toNat]? with
    | none => ([], .node lb ks, a)
    | some y => (takeV l a ks.length :: (walkC l d y (a + 1)).1, (walkC l d y (a + 1)).2)
theorem walkC_none (l : List Int) (d : Nat) (x : Tr) (a : Nat) (h : x.kids.length = 0) : walkC l d x a = ([], x, a) := by
  obtain ⟨lb, ks⟩ := x
  have : ks = [] := List.eq_nil_of_length_eq_zero h
  subst this
  cases d <;> simp [walkC]
theorem walkC_some {l : List Int} {d : Nat} {lb : ByteArray} {ks : List Tr} {a : Nat} {y : Tr} (h : ks[(takeV l a ks.length).toNat]? = some y) : walkC l (d + 1) (.node lb ks) a = (takeV l a ks.length :: (walkC l d y (a + 1)).1, (walkC l d y (a + 1)).2) := by
  simp only [walkC, h]
structure RndC where
  op : Int
  path : List Int
  x : Tr
  at_ : Nat
/-- One round: the edit that numbers choose for a tree, and the numbers used. -/
def pathC (l : List Int) (t : Tr) (a : Nat) : List Int × Tr × Nat := walkC l (takeV l a 6).toNat t (a + 1)
def roundE (l : List Int) (p : List Int × Tr × Nat) : Ei × Nat :=
  if takeV l p.2.2 3 = 0 then (⟨1, p.1 ++ [takeV l (p.2.2 + 1) ((p.2.1.kids.length : Int) + 1)], (growT l 1 (p.2.2 + 2)).1⟩, (growT l 1 (p.2.2 + 2)).2)
  else if takeV l p.2.2 3 = 1 then (⟨2, p.1, Tr.zero⟩, p.2.2 + 1)
  else (⟨3, p.1, (growT l 1 (p.2.2 + 1)).1⟩, (growT l 1 (p.2.2 + 1)).2)
def roundC (l : List Int) (t : Tr) (a : Nat) : Tr × Nat × List Ei :=
  match stepI t (roundE l (pathC l t a)).1 with
  | .inl _ => (t, (roundE l (pathC l t a)).2, [])
  | .inr (_, u) => (u, (roundE l (pathC l t a)).2, [(roundE l (pathC l t a)).1])
def changedN (l : List Int) : Nat → Tr → Nat → List Ei → List Ei × Tr
  | 0, t, _, outs => (outs, t)
  | n + 1, t, a, outs => changedN l n (roundC l t a).1 (roundC l t a).2.1 (outs ++ (roundC l t a).2.2)
/-- The edits that numbers choose for a tree, and what they make of it. -/
def changedI (t : Tr) (l : List Int) : List Ei × Tr := changedN l (min (l.length / 4) 6) t 0 []
theorem roundC_bad {l : List Int} {t : Tr} {a : Nat} {c : Int} (h : stepI t (roundE l (pathC l t a)).1 = .inl c) : roundC l t a = (t, (roundE l (pathC l t a)).2, []) := by
  simp only [roundC, h]
theorem roundC_ok {l : List Int} {t u : Tr} {a : Nat} {b : Ei} (h : stepI t (roundE l (pathC l t a)).1 = .inr (b, u)) : roundC l t a = (u, (roundE l (pathC l t a)).2, [(roundE l (pathC l t a)).1]) := by
  simp only [roundC, h]
theorem walkC_le (l : List Int) : ∀ (d : Nat) (x : Tr) (a : Nat), (walkC l d x a).2.2 ≤ a + d ∧ (walkC l d x a).1.length ≤ d ∧ (walkC l d x a).2.1.size ≤ x.size
  | 0, x, a => by simp [walkC]
  | d + 1, .node lb ks, a => by
    simp only [walkC]
    split
    · exact ⟨by simp, by simp, Nat.le_refl _⟩
    · rename_i y hy
      have h1 := walkC_le l d y (a + 1)
      have h2 := Tr.size_mem (List.mem_of_getElem? hy)
      refine ⟨by simp only; omega, by simp only [List.length_cons]; omega, ?_⟩
      simp only [Tr.size] at *
      omega
theorem grow1_le (l : List Int) (a : Nat) : (growT l 1 a).2 ≤ a + 8 ∧ (growT l 1 a).1.size ≤ 4 := ⟨growT_le l 1 a, growT_size l 1 a⟩
theorem ref_Changed {l : List Int} (hl : ∀ n ∈ l, I64 n) (hlen : l.length ≤ 1000000000000) {t : Tr} (hts : t.size ≤ 900) {w0 : World} {H : Hp} {own : List Seg} {c0 c1 vl : Value} (ht : RdL H t.d [c0, c1]) (hA : rd H (.s 1 (ints l)) vl) :
    Fn Tryz.prog 16 [.agg #[c0, c1], vl] w0 H own (fun r o H' => (∃ v d0 d1, r = .tuple #[v, .agg #[d0, d1]] ∧ rd H' (.s 4 (eiD (changedI t l).1)) v ∧ RdL H' (changedI t l).2.d [d0, d1]) ∧ o = own ∧ Le H H') := by
  have hv := hA.one
  obtain ⟨A, c, rfl, hc1, hc2⟩ := vals_len hA
  simp only [List.length_map] at hA hc1 hv ⊢
  obtain ⟨N0, hN0⟩ : ∃ N0, N0 = min (l.length / 4) 6 := ⟨_, rfl⟩
  have hq : IntKind.i64.wrap ((l.length : Int).tdiv 4) = ((l.length / 4 : Nat) : Int) := by
    rw [Int.tdiv_eq_ediv_of_nonneg (by omega), wrap_i64 ⟨by omega, by omega⟩]; omega
  have hmn : min ((l.length / 4 : Nat) : Int) 6 = (N0 : Int) := by omega
  refine Fn.enter Tryz.func16 rfl Tryz.ntmps16 rfl ?_; have hL := Le.refl H; refine Qj (Qh ?_)
  refine Zx (c := #[_, _]) rfl rfl rfl ?_; intro g2; refine Qe rfl rfl ?_
  refine Zc rfl ?_; intro g5; refine Q3 (Qb rfl rfl ?_); refine Q8 [(0, [_])] ⟨rfl, ⟨_, rfl, rfl⟩, trivial⟩ rfl rfl ?_
  refine Zx (c := #[_, _]) rfl rfl rfl ?_; intro g19; refine Qe rfl rfl (Q3 (Qe rfl rfl (Qi (Qc (Qj ?_))))); refine Qj ?_; refine TC.toOwn (own' := _ :: _ :: _ :: own) rfl (Qh (Qb rfl rfl (Qn rfl rfl (TL.quo rfl rfl rfl (by omega) ?_))))
  rw [hq]
  refine TL.min2 rfl rfl rfl ?_
  rw [hmn]
  refine Qe rfl rfl (Qi (Qc (Q6 (Z4 ?_))))
  refine Z2 4 [1, 3, 2, 0] rfl (fun o ho => ?_)
  simp only [K.sel, nrm] at ho; subst ho
  refine Zv (fun z env' own' H' => ∃ (n : Nat) (t1 : Tr) (outs : List Ei) (a : Nat) (v7 u0 u1 : Value) (log : Seg), n = z ∧ changedI t l = changedN l n t1 a outs ∧ n ≤ 6 ∧ a ≤ (6 - n) * 20 ∧ t1.size ≤ 900 + (6 - n) * 4 ∧ RdL H' t1.d [u0, u1] ∧ EiLog H' v7 outs log ∧ outs.length + n ≤ 6 ∧ env' = [(2, .pointer (some ⟨g2, 0, none⟩)), (5, .pointer (some ⟨g5, 0, none⟩)), (6, .pointer (some ⟨g19, 0, none⟩)), (7, v7), (8, .int .i64 ((n : Nat) : Int))] ∧ own' = [(g19, .cells #[.slice A l.length c, .int .i64 (a : Int)] 80 (0, 0))] :: [(g2, .cells #[u0, u1] 26 (0, 0))] :: [(g5, .cells #[.string ⟨#[]⟩, .slice none 0 0] 26 (0, 0))] :: log :: own ∧ Le H H') N0 [(2, _), (5, _), (6, _), (7, _), (8, _)] ⟨rfl, rfl, rfl, rfl, rfl, trivial⟩ ⟨N0, t, [], 0, _, c0, c1, [], rfl, by rw [changedI, hN0], by omega, by omega, by omega, ht, EiLog.nil _, by simp; omega, rfl, rfl, Le.refl _⟩ ?_
  rintro z _ _ H1 ⟨n, t1, outs, a, v7, u0, u1, log, rfl, hinv, hn6, ha, hts1, hu, hlog, hol, rfl, rfl, hle0⟩
  have hL := Le.trans hL hle0; have hA := rd.mono hle0 hA; refine Qj (Qj (Qh (Qb rfl rfl ?_)))
  refine TL.gtrB rfl rfl rfl (fun hn => ?_) (fun hn => ?_)
  ·
   obtain ⟨n, rfl⟩ : ∃ m, n = m + 1 := ⟨n - 1, by omega⟩
   have hb6 := takeV_bd (l := l) (at_ := a) (n := 6) (by omega)
   obtain ⟨D0, hD0⟩ : ∃ D0 : Nat, takeV l a 6 = (D0 : Int) := ⟨(takeV l a 6).toNat, (Int.toNat_of_nonneg hb6.1).symm⟩
   have hpc0 : pathC l t1 a = walkC l D0 t1 (a + 1) := by rw [pathC, hD0]; rfl
   refine Qi (Qc (Qv rfl (Q2 (Qc (Qj ?_))))); refine Q6 (Qj (Qh (Qe rfl rfl (Q3 ?_)))); refine Qm 1 0 [_, _] rfl rfl rfl ⟨rfl, rfl, trivial⟩ rfl rfl ?_
   refine Zc rfl ?_; intro g10; refine Qq 0 0 (c' := #[_, _]) (own' := [(_, .cells #[_, _] _ _)] :: _) rfl rfl rfl rfl rfl (tr_ones hu) (by simp) rfl rfl rfl (Qi (Qc (Qj (Qj (Qh ?_))))); refine Qb rfl rfl ?_
   refine TL.sel 5 [1, 0, 2, 3, 4] rfl (fun o ho => ?_)
   simp only [K.sel, nrm] at ho; subst ho
   refine Qs (ref_take hl (m := 6) (by omega) (by omega) (by omega) hA) ⟨rfl, rfl, trivial⟩ rfl ?_
   rintro _ _ Hk30 ⟨rfl, rfl, hlek30⟩
   rw [hD0]
   have hL := Le.trans hL hlek30; have hA := rd.mono hlek30 hA; have hle0 := Le.trans hle0 hlek30; have hu := RdL.mono hlek30 hu; have hlog := EiLog.mono hlek30 hlog; refine Qe rfl rfl (Qi (Qc (Q6 (Z4 ?_))))
   refine Z2 6 [0, 2, 1, 3, 4, 5] rfl (fun o ho => ?_)
   simp only [K.sel, nrm] at ho; subst ho
   refine Zv (fun z env' own' H' => ∃ (dd : Nat) (path : List Int) (x : Tr) (b : Nat) (vp x0 x1 : Value) (rowp : Seg), dd = z ∧ pathC l t1 a = (path ++ (walkC l dd x b).1, (walkC l dd x b).2) ∧ dd + path.length ≤ 5 ∧ b + dd ≤ a + 6 ∧ x.size ≤ 1000 ∧ RdL H' x.d [x0, x1] ∧ Row 3 1 vp path.length (path.map (Value.int .i64)) rowp ∧ env' = [(2, .pointer (some ⟨g2, 0, none⟩)), (5, .pointer (some ⟨g5, 0, none⟩)), (6, .pointer (some ⟨g19, 0, none⟩)), (7, v7), (8, .int .i64 ((n + 1 : Nat) : Int)), (9, vp), (10, .pointer (some ⟨g10, 0, none⟩)), (11, .int .i64 ((dd : Nat) : Int))] ∧ own' = rowp :: [(g10, .cells #[x0, x1] 26 (0, 0))] :: [(g19, .cells #[.slice A l.length c, .int .i64 (b : Int)] 80 (0, 0))] :: [(g2, .cells #[u0, u1] 26 (0, 0))] :: [(g5, .cells #[.string ⟨#[]⟩, .slice none 0 0] 26 (0, 0))] :: log :: own ∧ Le Hk30 H') D0 [(2, _), (5, _), (6, _), (7, _), (8, _), (9, _), (10, _), (11, _)] ⟨rfl, rfl, rfl, rfl, rfl, rfl, rfl, rfl, trivial⟩ ⟨D0, [], t1, a + 1, _, u0, u1, [], rfl, by rw [hpc0]; rfl, by simp; omega, by omega, by omega, hu, Row.nil 3 1, rfl, rfl, Le.refl _⟩ ?_
   rintro z _ _ H2 ⟨dd, path, x, b, vp, x0, x1, rowp, rfl, hpc, hdp, hbd, hxs, hx, hrowp, rfl, rfl, hle1⟩
   obtain ⟨lb, ks⟩ := x
   obtain ⟨rfl, A9, c9, rfl, hc91, hc92, hA9⟩ := tr_cells hx
   have hks := Tr.len_le ks
   simp only [Tr.size] at hxs
   have hL := Le.trans hL hle1; have hA := rd.mono hle1 hA; have hle0 := Le.trans hle0 hle1; have hu := RdL.mono hle1 hu; have hlog := EiLog.mono hle1 hlog; refine Qj (Qj (Qh (Qb rfl rfl ?_)))
   refine TL.gtrB rfl rfl rfl (fun hdd => ?_) (fun hdd => ?_)
   ·
    refine Qb rfl rfl ?_; refine Qf rfl rfl rfl (Qg rfl rfl ?_); refine Qf rfl rfl rfl (Qk 1 0 rfl rfl rfl rfl rfl ?_); refine Qf rfl rfl rfl (Qn rfl rfl ?_); refine Qf rfl rfl rfl ?_
    refine TL.gtrB rfl rfl rfl (fun hkk => ?_) (fun hkk => ?_)
    ·
     obtain ⟨dd, rfl⟩ : ∃ m, dd = m + 1 := ⟨dd - 1, by omega⟩
     have hkb := takeV_bd (l := l) (at_ := b) (n := (ks.length : Int)) (by omega)
     obtain ⟨y, hy⟩ : ∃ y, ks[(takeV l b ks.length).toNat]? = some y := ⟨_, List.getElem?_eq_getElem (by omega)⟩
     have hyz := Tr.size_mem (List.mem_of_getElem? hy)
     obtain ⟨b3, o3, p0, p1, rfl, hp, hpr⟩ := trs_at hA9 hy
     refine Qz rfl rfl rfl rfl (Qi (Qc (Qv rfl (Q2 (Qc ?_))))); refine Qj (Q6 (Qj (Qh (Qb rfl rfl (Qg rfl rfl ?_))))); refine Qk 1 0 rfl rfl rfl rfl rfl (Qn rfl rfl ?_)
     refine TL.sel 6 [2, 0, 1, 3, 4, 5] rfl (fun o ho => ?_)
     simp only [K.sel, nrm] at ho; subst ho
     refine Qs (ref_take hl (m := ks.length) (by omega) (by omega) (by omega) hA) ⟨rfl, rfl, trivial⟩ rfl ?_
     rintro _ _ Hk45 ⟨rfl, rfl, hlek45⟩
     have hL := Le.trans hL hlek45; have hle1 := Le.trans hle1 hlek45; have hp := hAt.mono hlek45 hp; have hpr := RdL.mono hlek45 hpr; refine Qe rfl rfl (Q3 (Qb rfl rfl (Qb rfl rfl ?_)))
     refine Zg (r := [_]) [(0, [_])] ⟨rfl, ⟨_, rfl, rfl⟩, trivial⟩ rfl rfl rfl rfl ?_; intro g48; refine Zh 2 rfl rfl rfl hrowp (Src.ofOwn 0 0 rfl rfl rfl (Ones.all (show Ones [_] from ⟨by rfl, trivial⟩)) ⟨rfl, trivial⟩) (by omega) (by omega) rfl ?_; intro v2 seg2 hrow2; refine Qe rfl rfl (Qi (Qc (Qh (Qg rfl rfl (Qk 3 0 rfl rfl rfl rfl rfl ?_))))); refine Qb rfl rfl ?_; refine Qo ((takeV l b ks.length).toNat) rfl rfl (by omega) (by omega) rfl ?_; refine Zd rfl (hp) rfl rfl ?_; refine Qq 3 0 (c' := #[_, _]) (own' := _ :: _ :: _ :: [(_, .cells #[_, _] _ _)] :: _) rfl rfl rfl rfl rfl (tr_ones hpr) (by simp) rfl rfl rfl (Qi (Ze (Qc (Qh (Qb rfl rfl ?_)))))
     refine Zu rfl rfl rfl ⟨by omega, by omega⟩ (Qe rfl rfl (Qi ?_))
     refine Zj 7 [2, 3, 1, 4, 5, 6] rfl (fun o ho => ?_)
     simp only [K.sel, nrm] at ho; subst ho
     refine Zf dd [(2, _), (5, _), (6, _), (7, _), (8, _), (9, _), (10, _), (11, _)] (by omega) ⟨rfl, rfl, rfl, rfl, rfl, rfl, rfl, rfl, trivial⟩ ⟨dd, path ++ [takeV l b ks.length], y, b + 1, v2, _, _, seg2, rfl, ?_, by simp; omega, by omega, by omega, hpr, by simpa using hrow2, by simp, rfl, hle1⟩
     rw [hpc, walkC_some hy]
     simp
    ·
     refine Qz rfl rfl rfl rfl (Qi (Qc (Qr rfl (Zo (Q1 ?_))))); refine Q1 (Zp (Qc (Qj ?_)))
     have hpx : pathC l t1 a = (path, .node lb ks, b) := by
       rw [hpc]
       first
         | (rw [show dd = 0 by omega]; simp [walkC]; done)
         | (rw [walkC_none _ _ _ _ (show (Tr.node lb ks).kids.length = 0 by show ks.length = 0; omega)]; simp)
     have hb3 := takeV_bd (l := l) (at_ := b) (n := 3) (by omega)
     obtain ⟨x3, hx3⟩ : ∃ x3, x3 = takeV l b 3 := ⟨_, rfl⟩
     rw [← hx3] at hb3
     have hgr1 := grow1_le l (b + 1)
     have hgr2 := grow1_le l (b + 2)
     refine Qh (Qb rfl rfl ?_)
     refine TL.sel 6 [2, 0, 1, 3, 4, 5] rfl (fun o ho => ?_)
     simp only [K.sel, nrm] at ho; subst ho
     refine Qs (ref_take hl (m := 3) (by omega) (by omega) (by omega) hA) ⟨rfl, rfl, trivial⟩ rfl ?_
     rintro _ _ Hk56 ⟨rfl, rfl, hlek56⟩
     rw [← hx3]
     have hL := Le.trans hL hlek56; have hA := rd.mono hlek56 hA; have hle0 := Le.trans hle0 hlek56; have hu := RdL.mono hlek56 hu; have hlog := EiLog.mono hlek56 hlog; refine Zb rfl rfl rfl ⟨by omega, by omega⟩ (Qb rfl rfl ?_); refine Q8 [(0, [_]), (1, [_])] ⟨rfl, ⟨_, rfl, rfl⟩, rfl, ⟨_, rfl, one_cells hrowp.one⟩, trivial⟩ rfl rfl ?_
     refine Zc rfl ?_; intro g13; refine Qq 0 0 (c' := #[_, _, _, _]) (own' := [(_, .cells #[_, _, _, _] _ _)] :: _) rfl rfl rfl rfl rfl ⟨rfl, hrowp.one, rfl, rfl, trivial⟩ (by simp [putC]) rfl rfl rfl ?_; refine Qi (Qc (Qj (Qj ?_)))
     have hcase : x3 = 0 ∨ x3 = 1 ∨ x3 = 2 := by omega
     rcases hcase with rfl | rfl | rfl
     ·
      have hre : roundE l (pathC l t1 a) = (⟨1, path ++ [takeV l (b + 1) ((ks.length : Int) + 1)], (growT l 1 (b + 2)).1⟩, (growT l 1 (b + 2)).2) := by rw [hpx, roundE]; simp only [← hx3, if_true]; rfl
      have hkb := takeV_bd (l := l) (at_ := b + 1) (n := (ks.length : Int) + 1) (by omega)
      refine Qh (Qg rfl rfl (Qk 0 0 rfl rfl rfl rfl rfl (Za rfl rfl rfl ?_)))
      rw [decide_eq_true (by decide)]
      refine Qi (Qc (Qv rfl (Qh (Qb rfl rfl (Qb rfl rfl ?_))))); refine Qg rfl rfl (Qk 3 0 rfl rfl rfl rfl rfl (Qn rfl rfl ?_)); refine Zb rfl rfl rfl ⟨by omega, by omega⟩ ?_
      refine TL.sel 7 [1, 0, 2, 3, 4, 5, 6] rfl (fun o ho => ?_)
      simp only [K.sel, nrm] at ho; subst ho
      refine Qs (ref_take hl (m := (ks.length : Int) + 1) (by omega) (by omega) (by omega) hA) ⟨rfl, rfl, trivial⟩ rfl ?_
      rintro _ _ Hk69 ⟨rfl, rfl, hlek69⟩
      have hL := Le.trans hL hlek69; have hA := rd.mono hlek69 hA; have hle0 := Le.trans hle0 hlek69; have hu := RdL.mono hlek69 hu; have hlog := EiLog.mono hlek69 hlog
      refine Zg (r := [_]) [(0, [_])] ⟨rfl, ⟨_, rfl, rfl⟩, trivial⟩ rfl rfl rfl rfl ?_; intro g70; refine Zh 3 rfl rfl rfl hrowp (Src.ofOwn 0 0 rfl rfl rfl (Ones.all (show Ones [_] from ⟨by rfl, trivial⟩)) ⟨rfl, trivial⟩) (by omega) (by omega) rfl ?_; intro v2 seg2 hrow2; refine Qg rfl rfl ?_; refine Zq 2 0 (c' := #[_, _, _, _]) (own' := _ :: _ :: [(_, .cells #[_, _, _, _] _ _)] :: _) rfl rfl rfl rfl hrow2.one (by simp) rfl rfl rfl (Qi (Qc (Qj (Qj (Qh ?_))))); refine Qg rfl rfl (Qk 2 0 rfl rfl rfl rfl rfl (TL.neq rfl rfl rfl ?_))
      rw [decide_eq_true (by decide)]
      refine Qi (Qc (Qv rfl (Qh (Qb rfl rfl ?_))))
      refine TL.sel 8 [1, 0, 2, 3, 4, 5, 6, 7] rfl (fun o ho => ?_)
      simp only [K.sel, nrm] at ho; subst ho
      refine Qs (ref_tree hl 1 (deep := 1) rfl (by omega) (by omega) hA) ⟨rfl, rfl, trivial⟩ rfl ?_
      rintro _ _ H5 ⟨k0, k1, rfl, hk, rfl, hle5⟩
      have hL := Le.trans hL hle5; have hle0 := Le.trans hle0 hle5; have hu := RdL.mono hle5 hu; have hlog := EiLog.mono hle5 hlog; refine Qg rfl rfl ?_; refine Qq 2 0 (c' := #[_, _, _, _]) (own' := _ :: _ :: [(_, .cells #[_, _, _, _] _ _)] :: _) rfl rfl rfl rfl rfl (tr_ones hk) (by simp) rfl rfl rfl (Qi (Qc (Qj (Qj (Qh ?_))))); refine Qg rfl rfl (Qk 2 0 rfl rfl rfl rfl rfl (Za rfl rfl rfl ?_))
      rw [decide_eq_false (by decide)]
      refine Qb rfl rfl ?_; refine Ql rfl rfl rfl rfl ?_; refine Ql rfl rfl rfl rfl ?_; refine Ql rfl rfl rfl rfl ?_; refine Qx rfl rfl rfl rfl (Qi (Qc (Qr rfl (Q2 (Qc ?_))))); refine Qj ?_
      refine Z2 8 [3, 0, 1, 2, 4, 5, 6, 7] rfl (fun o ho => ?_)
      simp only [K.sel, nrm] at ho; subst ho
      refine TC.freeze (fun H1 hle hz_rowp => ?_)
      have hL := Le.trans hL hle; have hle0 := Le.trans hle0 hle; have hu := RdL.mono hle hu; have hlog := EiLog.mono hle hlog; have hk := RdL.mono hle hk
      have hvp : rd H1 (.s 1 (ints (path ++ [takeV l (b + 1) ((ks.length : Int) + 1)]))) v2 := rd.ofRow (show Row 3 1 v2 (path ++ [takeV l (b + 1) ((ks.length : Int) + 1)]).length ((path ++ [takeV l (b + 1) ((ks.length : Int) + 1)]).map (Value.int .i64)) seg2 from by simpa using hrow2) hz_rowp (RdL.vals _) (Le.refl _)
      have hnode := hk
      rcases hst : stepI t1 (⟨1, path ++ [takeV l (b + 1) ((ks.length : Int) + 1)], (growT l 1 (b + 2)).1⟩ : Ei) with cc | ⟨eb, eu⟩
      ·
       refine Qh ?_; refine Qm 4 0 [_, _] rfl rfl rfl ⟨rfl, rfl, trivial⟩ rfl rfl ?_; refine Qm 2 0 [_, _, _, _] rfl rfl rfl ⟨rfl, rfl, rfl, rfl, trivial⟩ rfl rfl ?_; refine Qs (ref_Step_bad (e := (⟨1, path ++ [takeV l (b + 1) ((ks.length : Int) + 1)], (growT l 1 (b + 2)).1⟩ : Ei)) hst (by simp; omega) (by omega) (by simp only; have hz1 : Tr.zero.size = 1 := rfl; omega) hu hvp hnode) ⟨rfl, rfl, trivial⟩ rfl ?_
       rintro _ _ H6 ⟨rfl, rfl, hle6⟩
       have hL := Le.trans hL hle6; have hle0 := Le.trans hle0 hle6; have hu := RdL.mono hle6 hu; have hlog := EiLog.mono hle6 hlog; refine Qb rfl rfl (Qu rfl rfl rfl (Qu rfl rfl rfl (Qu rfl rfl rfl ?_)))
       refine Zc rfl ?_; intro g14; refine Qq 0 0 (c' := #[_, _]) (own' := [(_, .cells #[_, _] _ _)] :: _) rfl rfl rfl rfl rfl ⟨rfl, rfl, trivial⟩ (by simp) rfl rfl rfl (Qe rfl rfl (Qe rfl rfl (Q3 (Qb rfl rfl (Za rfl rfl rfl ?_)))))
       rw [decide_eq_false (by have := stepI_code hst; omega)]
       refine Qi (Qc (Qr rfl (Q2 (Ze (Qc ?_))))); refine Qh (Qb rfl rfl ?_); refine Zu rfl rfl rfl ⟨by omega, by omega⟩ (Qe rfl rfl (Qi ?_))
       refine Zj 8 [1, 5, 6, 7] rfl (fun o ho => ?_)
       simp only [K.sel, nrm] at ho; subst ho
       refine Zf n [(2, _), (5, _), (6, _), (7, _), (8, _)] (by omega) ⟨rfl, rfl, rfl, rfl, rfl, trivial⟩ ⟨n, t1, outs, (growT l 1 (b + 2)).2, v7, u0, u1, log, rfl, ?_, by omega, by omega, by omega, hu, hlog, by omega, by simp, rfl, hle0⟩
       rw [hinv, changedN, roundC_bad (by rw [hre]; exact hst), hre, List.append_nil]
      ·
       have hsu := stepI_size hst
       simp only at hsu
       have hz1 : Tr.zero.size = 1 := rfl
       refine Qh ?_; refine Qm 4 0 [_, _] rfl rfl rfl ⟨rfl, rfl, trivial⟩ rfl rfl ?_; refine Qm 2 0 [_, _, _, _] rfl rfl rfl ⟨rfl, rfl, rfl, rfl, trivial⟩ rfl rfl ?_; refine Qs (ref_Step_ok (e := (⟨1, path ++ [takeV l (b + 1) ((ks.length : Int) + 1)], (growT l 1 (b + 2)).1⟩ : Ei)) hst (by simp; omega) (by omega) (by simp only; have hz1 : Tr.zero.size = 1 := rfl; omega) hu hvp hnode) ⟨rfl, rfl, trivial⟩ rfl ?_
       rintro _ _ H6 ⟨f0, f1, rfl, hf, rfl, hle6⟩
       have hL := Le.trans hL hle6; have hle0 := Le.trans hle0 hle6; have hlog := EiLog.mono hle6 hlog; have hvp := rd.mono hle6 hvp; have hnode := RdL.mono hle6 hnode; refine Qb rfl rfl (Qu rfl rfl rfl (Qu rfl rfl rfl (Qu rfl rfl rfl ?_)))
       refine Zc rfl ?_; intro g14; refine Qq 0 0 (c' := #[_, _]) (own' := [(_, .cells #[_, _] _ _)] :: _) rfl rfl rfl rfl rfl (tr_ones hf) (by simp) rfl rfl rfl (Qe rfl rfl (Qe rfl rfl (Q3 (Qb rfl rfl (Za rfl rfl rfl ?_)))))
       rw [decide_eq_true rfl]
       refine Qi (Qc (Qv rfl (Qj ?_)))
       obtain ⟨xs7, hrow7, hxs7⟩ := hlog
       have hedr := ei_mk (e := (⟨1, path ++ [takeV l (b + 1) ((ks.length : Int) + 1)], (growT l 1 (b + 2)).1⟩ : Ei)) hvp hnode
       have hones := RdL.ones hedr (Ei.d_one _)
       refine Qh (Qb rfl rfl ?_); refine Qm 3 0 [_, _, _, _] rfl rfl rfl ⟨rfl, rfl, rfl, rfl, trivial⟩ rfl rfl ?_
       refine Zg (r := [_, _, _, _]) [(0, [_, _, _, _])] ⟨rfl, ⟨_, rfl, rfl⟩, trivial⟩ rfl rfl rfl rfl ?_; intro g98; refine Zh 8 rfl rfl rfl hrow7 (Src.ofOwn 0 0 rfl rfl rfl (Ones.all hones) ⟨rfl, rfl, rfl, rfl, trivial⟩) (by omega) (by omega) rfl ?_; intro v31 sg31 hrow31; have hxs31 := ei_snoc hxs7 hedr; refine Qe rfl rfl (Qi (Qc (Qh ?_))); refine Qm 1 0 [_, _] rfl rfl rfl ⟨rfl, rfl, trivial⟩ rfl rfl ?_; refine Qq 6 0 (c' := #[_, _]) (own' := _ :: _ :: _ :: _ :: _ :: _ :: [(_, .cells #[_, _] _ _)] :: _) rfl rfl rfl rfl rfl (tr_ones hf) (by simp) rfl rfl rfl (Qi (Ze (Qc (Qh (Qb rfl rfl ?_))))); refine Zu rfl rfl rfl ⟨by omega, by omega⟩ (Qe rfl rfl (Qi ?_))
       refine Zj 9 [2, 6, 7, 8] rfl (fun o ho => ?_)
       simp only [K.sel, nrm] at ho; subst ho
       refine Zf n [(2, _), (5, _), (6, _), (7, _), (8, _)] (by omega) ⟨rfl, rfl, rfl, rfl, rfl, trivial⟩ ⟨n, eu, outs ++ [(⟨1, path ++ [takeV l (b + 1) ((ks.length : Int) + 1)], (growT l 1 (b + 2)).1⟩ : Ei)], (growT l 1 (b + 2)).2, v31, f0, f1, sg31, rfl, ?_, by omega, by omega, by omega, hf, ⟨_, by simpa using hrow31, hxs31⟩, by simp; omega, by simp, rfl, hle0⟩
       rw [hinv, changedN, roundC_ok (b := eb) (u := eu) (by rw [hre]; exact hst), hre]
     ·
      have hre : roundE l (pathC l t1 a) = (⟨2, path, Tr.zero⟩, b + 1) := by rw [hpx, roundE]; simp only [← hx3]; rfl
      obtain ⟨Ap, cp, rfl, _, _⟩ := hrowp.sl
      refine Qh (Qg rfl rfl (Qk 0 0 rfl rfl rfl rfl rfl (Za rfl rfl rfl ?_)))
      rw [decide_eq_false (by decide)]
      refine Qi (Qc (Qr rfl (Q2 (Qc (Qj ?_))))); refine Qj (Qh (Qg rfl rfl (Qk 0 0 rfl rfl rfl rfl rfl (TL.neq rfl rfl rfl ?_))))
      rw [decide_eq_false (by decide)]
      refine Qi (Qc (Qr rfl (Q2 (Qc (Qj ?_))))); refine Qj (Qh (Qg rfl rfl (Qk 0 0 rfl rfl rfl rfl rfl (Za rfl rfl rfl ?_))))
      rw [decide_eq_true (by decide)]
      refine Qb rfl rfl ?_; refine Qf rfl rfl rfl (Qb rfl rfl ?_); refine Qf rfl rfl rfl (Qn rfl rfl ?_); refine Qf rfl rfl rfl ?_
      refine TL.eqlB rfl rfl rfl (fun hp0 => ?_) (fun hp0 => ?_)
      ·
       refine Qz rfl rfl rfl rfl (Qi (Qc (Qv rfl (Zo (Q1 ?_))))); refine Zp (Qc (Qh (Qb rfl rfl ?_))); refine Zu rfl rfl rfl ⟨by omega, by omega⟩ (Qe rfl rfl (Qi ?_))
       refine Zj 7 [1, 4, 5, 6] rfl (fun o ho => ?_)
       simp only [K.sel, nrm] at ho; subst ho
       refine Zf n [(2, _), (5, _), (6, _), (7, _), (8, _)] (by omega) ⟨rfl, rfl, rfl, rfl, rfl, trivial⟩ ⟨n, t1, outs, (b + 1), v7, u0, u1, log, rfl, ?_, by omega, by omega, by omega, hu, hlog, by omega, by simp, rfl, hle0⟩
       have hst : stepI t1 (⟨2, path, Tr.zero⟩ : Ei) = .inl 1 := step_bad (.inr (.inr ⟨List.eq_nil_of_length_eq_zero (show path.length = 0 by omega), show (2 : Int) ≠ 3 by decide⟩))
       rw [hinv, changedN, roundC_bad (by rw [hre]; exact hst), hre, List.append_nil]
      ·
       refine Qz rfl rfl rfl rfl (Qi (Qc (Qr rfl (Q2 (Qc ?_))))); refine Qj ?_
       refine Z2 7 [2, 0, 1, 3, 4, 5, 6] rfl (fun o ho => ?_)
       simp only [K.sel, nrm] at ho; subst ho
       refine TC.freeze (fun H2 hle hz_rowp => ?_)
       have hL := Le.trans hL hle; have hle0 := Le.trans hle0 hle; have hu := RdL.mono hle hu; have hlog := EiLog.mono hle hlog
       have hvp : rd H2 (.s 1 (ints path)) _ := rd.ofRow hrowp hz_rowp (RdL.vals _) (Le.refl _)
       have hnode := zero_rd H2
       rcases hst : stepI t1 (⟨2, path, Tr.zero⟩ : Ei) with cc | ⟨eb, eu⟩
       ·
        refine Qh ?_; refine Qm 3 0 [_, _] rfl rfl rfl ⟨rfl, rfl, trivial⟩ rfl rfl ?_; refine Qm 0 0 [_, _, _, _] rfl rfl rfl ⟨rfl, rfl, rfl, rfl, trivial⟩ rfl rfl ?_; refine Qs (ref_Step_bad (e := (⟨2, path, Tr.zero⟩ : Ei)) hst (by simp; omega) (by omega) (by simp only; have hz1 : Tr.zero.size = 1 := rfl; omega) hu hvp hnode) ⟨rfl, rfl, trivial⟩ rfl ?_
        rintro _ _ H6 ⟨rfl, rfl, hle6⟩
        have hL := Le.trans hL hle6; have hle0 := Le.trans hle0 hle6; have hu := RdL.mono hle6 hu; have hlog := EiLog.mono hle6 hlog; refine Qb rfl rfl (Qu rfl rfl rfl (Qu rfl rfl rfl (Qu rfl rfl rfl ?_)))
        refine Zc rfl ?_; intro g14; refine Qq 0 0 (c' := #[_, _]) (own' := [(_, .cells #[_, _] _ _)] :: _) rfl rfl rfl rfl rfl ⟨rfl, rfl, trivial⟩ (by simp) rfl rfl rfl (Qe rfl rfl (Qe rfl rfl (Q3 (Qb rfl rfl (Za rfl rfl rfl ?_)))))
        rw [decide_eq_false (by have := stepI_code hst; omega)]
        refine Qi (Qc (Qr rfl (Q2 (Ze (Qc ?_))))); refine Qh (Qb rfl rfl ?_); refine Zu rfl rfl rfl ⟨by omega, by omega⟩ (Qe rfl rfl (Qi ?_))
        refine Zj 7 [2, 4, 5, 6] rfl (fun o ho => ?_)
        simp only [K.sel, nrm] at ho; subst ho
        refine Zf n [(2, _), (5, _), (6, _), (7, _), (8, _)] (by omega) ⟨rfl, rfl, rfl, rfl, rfl, trivial⟩ ⟨n, t1, outs, (b + 1), v7, u0, u1, log, rfl, ?_, by omega, by omega, by omega, hu, hlog, by omega, by simp, rfl, hle0⟩
        rw [hinv, changedN, roundC_bad (by rw [hre]; exact hst), hre, List.append_nil]
       ·
        have hsu := stepI_size hst
        simp only at hsu
        have hz1 : Tr.zero.size = 1 := rfl
        refine Qh ?_; refine Qm 3 0 [_, _] rfl rfl rfl ⟨rfl, rfl, trivial⟩ rfl rfl ?_; refine Qm 0 0 [_, _, _, _] rfl rfl rfl ⟨rfl, rfl, rfl, rfl, trivial⟩ rfl rfl ?_; refine Qs (ref_Step_ok (e := (⟨2, path, Tr.zero⟩ : Ei)) hst (by simp; omega) (by omega) (by simp only; have hz1 : Tr.zero.size = 1 := rfl; omega) hu hvp hnode) ⟨rfl, rfl, trivial⟩ rfl ?_
        rintro _ _ H6 ⟨f0, f1, rfl, hf, rfl, hle6⟩
        have hL := Le.trans hL hle6; have hle0 := Le.trans hle0 hle6; have hlog := EiLog.mono hle6 hlog; have hvp := rd.mono hle6 hvp; have hnode := RdL.mono hle6 hnode; refine Qb rfl rfl (Qu rfl rfl rfl (Qu rfl rfl rfl (Qu rfl rfl rfl ?_)))
        refine Zc rfl ?_; intro g14; refine Qq 0 0 (c' := #[_, _]) (own' := [(_, .cells #[_, _] _ _)] :: _) rfl rfl rfl rfl rfl (tr_ones hf) (by simp) rfl rfl rfl (Qe rfl rfl (Qe rfl rfl (Q3 (Qb rfl rfl (Za rfl rfl rfl ?_)))))
        rw [decide_eq_true rfl]
        refine Qi (Qc (Qv rfl (Qj ?_)))
        obtain ⟨xs7, hrow7, hxs7⟩ := hlog
        have hedr := ei_mk (e := (⟨2, path, Tr.zero⟩ : Ei)) hvp hnode
        have hones := RdL.ones hedr (Ei.d_one _)
        refine Qh (Qb rfl rfl ?_); refine Qm 1 0 [_, _, _, _] rfl rfl rfl ⟨rfl, rfl, rfl, rfl, trivial⟩ rfl rfl ?_
        refine Zg (r := [_, _, _, _]) [(0, [_, _, _, _])] ⟨rfl, ⟨_, rfl, rfl⟩, trivial⟩ rfl rfl rfl rfl ?_; intro g98; refine Zh 7 rfl rfl rfl hrow7 (Src.ofOwn 0 0 rfl rfl rfl (Ones.all hones) ⟨rfl, rfl, rfl, rfl, trivial⟩) (by omega) (by omega) rfl ?_; intro v31 sg31 hrow31; have hxs31 := ei_snoc hxs7 hedr; refine Qe rfl rfl (Qi (Qc (Qh ?_))); refine Qm 1 0 [_, _] rfl rfl rfl ⟨rfl, rfl, trivial⟩ rfl rfl ?_; refine Qq 5 0 (c' := #[_, _]) (own' := _ :: _ :: _ :: _ :: _ :: [(_, .cells #[_, _] _ _)] :: _) rfl rfl rfl rfl rfl (tr_ones hf) (by simp) rfl rfl rfl (Qi (Ze (Qc (Qh (Qb rfl rfl ?_))))); refine Zu rfl rfl rfl ⟨by omega, by omega⟩ (Qe rfl rfl (Qi ?_))
        refine Zj 8 [3, 5, 6, 7] rfl (fun o ho => ?_)
        simp only [K.sel, nrm] at ho; subst ho
        refine Zf n [(2, _), (5, _), (6, _), (7, _), (8, _)] (by omega) ⟨rfl, rfl, rfl, rfl, rfl, trivial⟩ ⟨n, eu, outs ++ [(⟨2, path, Tr.zero⟩ : Ei)], (b + 1), v31, f0, f1, sg31, rfl, ?_, by omega, by omega, by omega, hf, ⟨_, by simpa using hrow31, hxs31⟩, by simp; omega, by simp, rfl, hle0⟩
        rw [hinv, changedN, roundC_ok (b := eb) (u := eu) (by rw [hre]; exact hst), hre]
     ·
      have hre : roundE l (pathC l t1 a) = (⟨3, path, (growT l 1 (b + 1)).1⟩, (growT l 1 (b + 1)).2) := by rw [hpx, roundE]; simp only [← hx3]; rfl
      refine Qh (Qg rfl rfl (Qk 0 0 rfl rfl rfl rfl rfl (Za rfl rfl rfl ?_)))
      rw [decide_eq_false (by decide)]
      refine Qi (Qc (Qr rfl (Q2 (Qc (Qj ?_))))); refine Qj (Qh (Qg rfl rfl (Qk 0 0 rfl rfl rfl rfl rfl (TL.neq rfl rfl rfl ?_))))
      rw [decide_eq_true (by decide)]
      refine Qi (Qc (Qv rfl (Qh (Qb rfl rfl ?_))))
      refine TL.sel 7 [1, 0, 2, 3, 4, 5, 6] rfl (fun o ho => ?_)
      simp only [K.sel, nrm] at ho; subst ho
      refine Qs (ref_tree hl 1 (deep := 1) rfl (by omega) (by omega) hA) ⟨rfl, rfl, trivial⟩ rfl ?_
      rintro _ _ H5 ⟨k0, k1, rfl, hk, rfl, hle5⟩
      have hL := Le.trans hL hle5; have hle0 := Le.trans hle0 hle5; have hu := RdL.mono hle5 hu; have hlog := EiLog.mono hle5 hlog; refine Qg rfl rfl ?_; refine Qq 1 0 (c' := #[_, _, _, _]) (own' := _ :: [(_, .cells #[_, _, _, _] _ _)] :: _) rfl rfl rfl rfl rfl (tr_ones hk) (by simp) rfl rfl rfl (Qi (Qc (Qj (Qj (Qh ?_))))); refine Qg rfl rfl (Qk 1 0 rfl rfl rfl rfl rfl (Za rfl rfl rfl ?_))
      rw [decide_eq_false (by decide)]
      refine Qb rfl rfl ?_; refine Ql rfl rfl rfl rfl ?_; refine Ql rfl rfl rfl rfl ?_; refine Ql rfl rfl rfl rfl ?_; refine Qx rfl rfl rfl rfl (Qi (Qc (Qr rfl (Q2 (Qc ?_))))); refine Qj ?_
      refine Z2 7 [2, 0, 1, 3, 4, 5, 6] rfl (fun o ho => ?_)
      simp only [K.sel, nrm] at ho; subst ho
      refine TC.freeze (fun H3 hle hz_rowp => ?_)
      have hL := Le.trans hL hle; have hle0 := Le.trans hle0 hle; have hu := RdL.mono hle hu; have hlog := EiLog.mono hle hlog; have hk := RdL.mono hle hk
      have hvp : rd H3 (.s 1 (ints path)) _ := rd.ofRow hrowp hz_rowp (RdL.vals _) (Le.refl _)
      have hnode := hk
      rcases hst : stepI t1 (⟨3, path, (growT l 1 (b + 1)).1⟩ : Ei) with cc | ⟨eb, eu⟩
      ·
       refine Qh ?_; refine Qm 3 0 [_, _] rfl rfl rfl ⟨rfl, rfl, trivial⟩ rfl rfl ?_; refine Qm 1 0 [_, _, _, _] rfl rfl rfl ⟨rfl, rfl, rfl, rfl, trivial⟩ rfl rfl ?_; refine Qs (ref_Step_bad (e := (⟨3, path, (growT l 1 (b + 1)).1⟩ : Ei)) hst (by simp; omega) (by omega) (by simp only; have hz1 : Tr.zero.size = 1 := rfl; omega) hu hvp hnode) ⟨rfl, rfl, trivial⟩ rfl ?_
       rintro _ _ H6 ⟨rfl, rfl, hle6⟩
       have hL := Le.trans hL hle6; have hle0 := Le.trans hle0 hle6; have hu := RdL.mono hle6 hu; have hlog := EiLog.mono hle6 hlog; refine Qb rfl rfl (Qu rfl rfl rfl (Qu rfl rfl rfl (Qu rfl rfl rfl ?_)))
       refine Zc rfl ?_; intro g14; refine Qq 0 0 (c' := #[_, _]) (own' := [(_, .cells #[_, _] _ _)] :: _) rfl rfl rfl rfl rfl ⟨rfl, rfl, trivial⟩ (by simp) rfl rfl rfl (Qe rfl rfl (Qe rfl rfl (Q3 (Qb rfl rfl (Za rfl rfl rfl ?_)))))
       rw [decide_eq_false (by have := stepI_code hst; omega)]
       refine Qi (Qc (Qr rfl (Q2 (Ze (Qc ?_))))); refine Qh (Qb rfl rfl ?_); refine Zu rfl rfl rfl ⟨by omega, by omega⟩ (Qe rfl rfl (Qi ?_))
       refine Zj 7 [1, 4, 5, 6] rfl (fun o ho => ?_)
       simp only [K.sel, nrm] at ho; subst ho
       refine Zf n [(2, _), (5, _), (6, _), (7, _), (8, _)] (by omega) ⟨rfl, rfl, rfl, rfl, rfl, trivial⟩ ⟨n, t1, outs, (growT l 1 (b + 1)).2, v7, u0, u1, log, rfl, ?_, by omega, by omega, by omega, hu, hlog, by omega, by simp, rfl, hle0⟩
       rw [hinv, changedN, roundC_bad (by rw [hre]; exact hst), hre, List.append_nil]
      ·
       have hsu := stepI_size hst
       simp only at hsu
       have hz1 : Tr.zero.size = 1 := rfl
       refine Qh ?_; refine Qm 3 0 [_, _] rfl rfl rfl ⟨rfl, rfl, trivial⟩ rfl rfl ?_; refine Qm 1 0 [_, _, _, _] rfl rfl rfl ⟨rfl, rfl, rfl, rfl, trivial⟩ rfl rfl ?_; refine Qs (ref_Step_ok (e := (⟨3, path, (growT l 1 (b + 1)).1⟩ : Ei)) hst (by simp; omega) (by omega) (by simp only; have hz1 : Tr.zero.size = 1 := rfl; omega) hu hvp hnode) ⟨rfl, rfl, trivial⟩ rfl ?_
       rintro _ _ H6 ⟨f0, f1, rfl, hf, rfl, hle6⟩
       have hL := Le.trans hL hle6; have hle0 := Le.trans hle0 hle6; have hlog := EiLog.mono hle6 hlog; have hvp := rd.mono hle6 hvp; have hnode := RdL.mono hle6 hnode; refine Qb rfl rfl (Qu rfl rfl rfl (Qu rfl rfl rfl (Qu rfl rfl rfl ?_)))
       refine Zc rfl ?_; intro g14; refine Qq 0 0 (c' := #[_, _]) (own' := [(_, .cells #[_, _] _ _)] :: _) rfl rfl rfl rfl rfl (tr_ones hf) (by simp) rfl rfl rfl (Qe rfl rfl (Qe rfl rfl (Q3 (Qb rfl rfl (Za rfl rfl rfl ?_)))))
       rw [decide_eq_true rfl]
       refine Qi (Qc (Qv rfl (Qj ?_)))
       obtain ⟨xs7, hrow7, hxs7⟩ := hlog
       have hedr := ei_mk (e := (⟨3, path, (growT l 1 (b + 1)).1⟩ : Ei)) hvp hnode
       have hones := RdL.ones hedr (Ei.d_one _)
       refine Qh (Qb rfl rfl ?_); refine Qm 2 0 [_, _, _, _] rfl rfl rfl ⟨rfl, rfl, rfl, rfl, trivial⟩ rfl rfl ?_
       refine Zg (r := [_, _, _, _]) [(0, [_, _, _, _])] ⟨rfl, ⟨_, rfl, rfl⟩, trivial⟩ rfl rfl rfl rfl ?_; intro g98; refine Zh 7 rfl rfl rfl hrow7 (Src.ofOwn 0 0 rfl rfl rfl (Ones.all hones) ⟨rfl, rfl, rfl, rfl, trivial⟩) (by omega) (by omega) rfl ?_; intro v31 sg31 hrow31; have hxs31 := ei_snoc hxs7 hedr; refine Qe rfl rfl (Qi (Qc (Qh ?_))); refine Qm 1 0 [_, _] rfl rfl rfl ⟨rfl, rfl, trivial⟩ rfl rfl ?_; refine Qq 5 0 (c' := #[_, _]) (own' := _ :: _ :: _ :: _ :: _ :: [(_, .cells #[_, _] _ _)] :: _) rfl rfl rfl rfl rfl (tr_ones hf) (by simp) rfl rfl rfl (Qi (Ze (Qc (Qh (Qb rfl rfl ?_))))); refine Zu rfl rfl rfl ⟨by omega, by omega⟩ (Qe rfl rfl (Qi ?_))
       refine Zj 8 [2, 5, 6, 7] rfl (fun o ho => ?_)
       simp only [K.sel, nrm] at ho; subst ho
       refine Zf n [(2, _), (5, _), (6, _), (7, _), (8, _)] (by omega) ⟨rfl, rfl, rfl, rfl, rfl, trivial⟩ ⟨n, eu, outs ++ [(⟨3, path, (growT l 1 (b + 1)).1⟩ : Ei)], (growT l 1 (b + 1)).2, v31, f0, f1, sg31, rfl, ?_, by omega, by omega, by omega, hf, ⟨_, by simpa using hrow31, hxs31⟩, by simp; omega, by simp, rfl, hle0⟩
       rw [hinv, changedN, roundC_ok (b := eb) (u := eu) (by rw [hre]; exact hst), hre]
   ·
    refine Qb rfl rfl ?_; refine Ql rfl rfl rfl rfl ?_; refine Ql rfl rfl rfl rfl ?_; refine Ql rfl rfl rfl rfl ?_; refine Ql rfl rfl rfl rfl ?_; refine Qx rfl rfl rfl rfl (Qi (Qc (Qr rfl (Zo (Q1 ?_))))); refine Q1 (Zp (Qc (Qj ?_)))
    have hpx : pathC l t1 a = (path, .node lb ks, b) := by
      rw [hpc]
      first
        | (rw [show dd = 0 by omega]; simp [walkC]; done)
        | (rw [walkC_none _ _ _ _ (show (Tr.node lb ks).kids.length = 0 by show ks.length = 0; omega)]; simp)
    have hb3 := takeV_bd (l := l) (at_ := b) (n := 3) (by omega)
    obtain ⟨x3, hx3⟩ : ∃ x3, x3 = takeV l b 3 := ⟨_, rfl⟩
    rw [← hx3] at hb3
    have hgr1 := grow1_le l (b + 1)
    have hgr2 := grow1_le l (b + 2)
    refine Qh (Qb rfl rfl ?_)
    refine TL.sel 6 [2, 0, 1, 3, 4, 5] rfl (fun o ho => ?_)
    simp only [K.sel, nrm] at ho; subst ho
    refine Qs (ref_take hl (m := 3) (by omega) (by omega) (by omega) hA) ⟨rfl, rfl, trivial⟩ rfl ?_
    rintro _ _ Hk56 ⟨rfl, rfl, hlek56⟩
    rw [← hx3]
    have hL := Le.trans hL hlek56; have hA := rd.mono hlek56 hA; have hle0 := Le.trans hle0 hlek56; have hu := RdL.mono hlek56 hu; have hlog := EiLog.mono hlek56 hlog; refine Zb rfl rfl rfl ⟨by omega, by omega⟩ (Qb rfl rfl ?_); refine Q8 [(0, [_]), (1, [_])] ⟨rfl, ⟨_, rfl, rfl⟩, rfl, ⟨_, rfl, one_cells hrowp.one⟩, trivial⟩ rfl rfl ?_
    refine Zc rfl ?_; intro g13; refine Qq 0 0 (c' := #[_, _, _, _]) (own' := [(_, .cells #[_, _, _, _] _ _)] :: _) rfl rfl rfl rfl rfl ⟨rfl, hrowp.one, rfl, rfl, trivial⟩ (by simp [putC]) rfl rfl rfl ?_; refine Qi (Qc (Qj (Qj ?_)))
    have hcase : x3 = 0 ∨ x3 = 1 ∨ x3 = 2 := by omega
    rcases hcase with rfl | rfl | rfl
    ·
     have hre : roundE l (pathC l t1 a) = (⟨1, path ++ [takeV l (b + 1) ((ks.length : Int) + 1)], (growT l 1 (b + 2)).1⟩, (growT l 1 (b + 2)).2) := by rw [hpx, roundE]; simp only [← hx3, if_true]; rfl
     have hkb := takeV_bd (l := l) (at_ := b + 1) (n := (ks.length : Int) + 1) (by omega)
     refine Qh (Qg rfl rfl (Qk 0 0 rfl rfl rfl rfl rfl (Za rfl rfl rfl ?_)))
     rw [decide_eq_true (by decide)]
     refine Qi (Qc (Qv rfl (Qh (Qb rfl rfl (Qb rfl rfl ?_))))); refine Qg rfl rfl (Qk 3 0 rfl rfl rfl rfl rfl (Qn rfl rfl ?_)); refine Zb rfl rfl rfl ⟨by omega, by omega⟩ ?_
     refine TL.sel 7 [1, 0, 2, 3, 4, 5, 6] rfl (fun o ho => ?_)
     simp only [K.sel, nrm] at ho; subst ho
     refine Qs (ref_take hl (m := (ks.length : Int) + 1) (by omega) (by omega) (by omega) hA) ⟨rfl, rfl, trivial⟩ rfl ?_
     rintro _ _ Hk69 ⟨rfl, rfl, hlek69⟩
     have hL := Le.trans hL hlek69; have hA := rd.mono hlek69 hA; have hle0 := Le.trans hle0 hlek69; have hu := RdL.mono hlek69 hu; have hlog := EiLog.mono hlek69 hlog
     refine Zg (r := [_]) [(0, [_])] ⟨rfl, ⟨_, rfl, rfl⟩, trivial⟩ rfl rfl rfl rfl ?_; intro g70; refine Zh 3 rfl rfl rfl hrowp (Src.ofOwn 0 0 rfl rfl rfl (Ones.all (show Ones [_] from ⟨by rfl, trivial⟩)) ⟨rfl, trivial⟩) (by omega) (by omega) rfl ?_; intro v2 seg2 hrow2; refine Qg rfl rfl ?_; refine Zq 2 0 (c' := #[_, _, _, _]) (own' := _ :: _ :: [(_, .cells #[_, _, _, _] _ _)] :: _) rfl rfl rfl rfl hrow2.one (by simp) rfl rfl rfl (Qi (Qc (Qj (Qj (Qh ?_))))); refine Qg rfl rfl (Qk 2 0 rfl rfl rfl rfl rfl (TL.neq rfl rfl rfl ?_))
     rw [decide_eq_true (by decide)]
     refine Qi (Qc (Qv rfl (Qh (Qb rfl rfl ?_))))
     refine TL.sel 8 [1, 0, 2, 3, 4, 5, 6, 7] rfl (fun o ho => ?_)
     simp only [K.sel, nrm] at ho; subst ho
     refine Qs (ref_tree hl 1 (deep := 1) rfl (by omega) (by omega) hA) ⟨rfl, rfl, trivial⟩ rfl ?_
     rintro _ _ H5 ⟨k0, k1, rfl, hk, rfl, hle5⟩
     have hL := Le.trans hL hle5; have hle0 := Le.trans hle0 hle5; have hu := RdL.mono hle5 hu; have hlog := EiLog.mono hle5 hlog; refine Qg rfl rfl ?_; refine Qq 2 0 (c' := #[_, _, _, _]) (own' := _ :: _ :: [(_, .cells #[_, _, _, _] _ _)] :: _) rfl rfl rfl rfl rfl (tr_ones hk) (by simp) rfl rfl rfl (Qi (Qc (Qj (Qj (Qh ?_))))); refine Qg rfl rfl (Qk 2 0 rfl rfl rfl rfl rfl (Za rfl rfl rfl ?_))
     rw [decide_eq_false (by decide)]
     refine Qb rfl rfl ?_; refine Ql rfl rfl rfl rfl ?_; refine Ql rfl rfl rfl rfl ?_; refine Ql rfl rfl rfl rfl ?_; refine Qx rfl rfl rfl rfl (Qi (Qc (Qr rfl (Q2 (Qc ?_))))); refine Qj ?_
     refine Z2 8 [3, 0, 1, 2, 4, 5, 6, 7] rfl (fun o ho => ?_)
     simp only [K.sel, nrm] at ho; subst ho
     refine TC.freeze (fun H4 hle hz_rowp => ?_)
     have hL := Le.trans hL hle; have hle0 := Le.trans hle0 hle; have hu := RdL.mono hle hu; have hlog := EiLog.mono hle hlog; have hk := RdL.mono hle hk
     have hvp : rd H4 (.s 1 (ints (path ++ [takeV l (b + 1) ((ks.length : Int) + 1)]))) v2 := rd.ofRow (show Row 3 1 v2 (path ++ [takeV l (b + 1) ((ks.length : Int) + 1)]).length ((path ++ [takeV l (b + 1) ((ks.length : Int) + 1)]).map (Value.int .i64)) seg2 from by simpa using hrow2) hz_rowp (RdL.vals _) (Le.refl _)
     have hnode := hk
     rcases hst : stepI t1 (⟨1, path ++ [takeV l (b + 1) ((ks.length : Int) + 1)], (growT l 1 (b + 2)).1⟩ : Ei) with cc | ⟨eb, eu⟩
     ·
      refine Qh ?_; refine Qm 4 0 [_, _] rfl rfl rfl ⟨rfl, rfl, trivial⟩ rfl rfl ?_; refine Qm 2 0 [_, _, _, _] rfl rfl rfl ⟨rfl, rfl, rfl, rfl, trivial⟩ rfl rfl ?_; refine Qs (ref_Step_bad (e := (⟨1, path ++ [takeV l (b + 1) ((ks.length : Int) + 1)], (growT l 1 (b + 2)).1⟩ : Ei)) hst (by simp; omega) (by omega) (by simp only; have hz1 : Tr.zero.size = 1 := rfl; omega) hu hvp hnode) ⟨rfl, rfl, trivial⟩ rfl ?_
      rintro _ _ H6 ⟨rfl, rfl, hle6⟩
      have hL := Le.trans hL hle6; have hle0 := Le.trans hle0 hle6; have hu := RdL.mono hle6 hu; have hlog := EiLog.mono hle6 hlog; refine Qb rfl rfl (Qu rfl rfl rfl (Qu rfl rfl rfl (Qu rfl rfl rfl ?_)))
      refine Zc rfl ?_; intro g14; refine Qq 0 0 (c' := #[_, _]) (own' := [(_, .cells #[_, _] _ _)] :: _) rfl rfl rfl rfl rfl ⟨rfl, rfl, trivial⟩ (by simp) rfl rfl rfl (Qe rfl rfl (Qe rfl rfl (Q3 (Qb rfl rfl (Za rfl rfl rfl ?_)))))
      rw [decide_eq_false (by have := stepI_code hst; omega)]
      refine Qi (Qc (Qr rfl (Q2 (Ze (Qc ?_))))); refine Qh (Qb rfl rfl ?_); refine Zu rfl rfl rfl ⟨by omega, by omega⟩ (Qe rfl rfl (Qi ?_))
      refine Zj 8 [1, 5, 6, 7] rfl (fun o ho => ?_)
      simp only [K.sel, nrm] at ho; subst ho
      refine Zf n [(2, _), (5, _), (6, _), (7, _), (8, _)] (by omega) ⟨rfl, rfl, rfl, rfl, rfl, trivial⟩ ⟨n, t1, outs, (growT l 1 (b + 2)).2, v7, u0, u1, log, rfl, ?_, by omega, by omega, by omega, hu, hlog, by omega, by simp, rfl, hle0⟩
      rw [hinv, changedN, roundC_bad (by rw [hre]; exact hst), hre, List.append_nil]
     ·
      have hsu := stepI_size hst
      simp only at hsu
      have hz1 : Tr.zero.size = 1 := rfl
      refine Qh ?_; refine Qm 4 0 [_, _] rfl rfl rfl ⟨rfl, rfl, trivial⟩ rfl rfl ?_; refine Qm 2 0 [_, _, _, _] rfl rfl rfl ⟨rfl, rfl, rfl, rfl, trivial⟩ rfl rfl ?_; refine Qs (ref_Step_ok (e := (⟨1, path ++ [takeV l (b + 1) ((ks.length : Int) + 1)], (growT l 1 (b + 2)).1⟩ : Ei)) hst (by simp; omega) (by omega) (by simp only; have hz1 : Tr.zero.size = 1 := rfl; omega) hu hvp hnode) ⟨rfl, rfl, trivial⟩ rfl ?_
      rintro _ _ H6 ⟨f0, f1, rfl, hf, rfl, hle6⟩
      have hL := Le.trans hL hle6; have hle0 := Le.trans hle0 hle6; have hlog := EiLog.mono hle6 hlog; have hvp := rd.mono hle6 hvp; have hnode := RdL.mono hle6 hnode; refine Qb rfl rfl (Qu rfl rfl rfl (Qu rfl rfl rfl (Qu rfl rfl rfl ?_)))
      refine Zc rfl ?_; intro g14; refine Qq 0 0 (c' := #[_, _]) (own' := [(_, .cells #[_, _] _ _)] :: _) rfl rfl rfl rfl rfl (tr_ones hf) (by simp) rfl rfl rfl (Qe rfl rfl (Qe rfl rfl (Q3 (Qb rfl rfl (Za rfl rfl rfl ?_)))))
      rw [decide_eq_true rfl]
      refine Qi (Qc (Qv rfl (Qj ?_)))
      obtain ⟨xs7, hrow7, hxs7⟩ := hlog
      have hedr := ei_mk (e := (⟨1, path ++ [takeV l (b + 1) ((ks.length : Int) + 1)], (growT l 1 (b + 2)).1⟩ : Ei)) hvp hnode
      have hones := RdL.ones hedr (Ei.d_one _)
      refine Qh (Qb rfl rfl ?_); refine Qm 3 0 [_, _, _, _] rfl rfl rfl ⟨rfl, rfl, rfl, rfl, trivial⟩ rfl rfl ?_
      refine Zg (r := [_, _, _, _]) [(0, [_, _, _, _])] ⟨rfl, ⟨_, rfl, rfl⟩, trivial⟩ rfl rfl rfl rfl ?_; intro g98; refine Zh 8 rfl rfl rfl hrow7 (Src.ofOwn 0 0 rfl rfl rfl (Ones.all hones) ⟨rfl, rfl, rfl, rfl, trivial⟩) (by omega) (by omega) rfl ?_; intro v31 sg31 hrow31; have hxs31 := ei_snoc hxs7 hedr; refine Qe rfl rfl (Qi (Qc (Qh ?_))); refine Qm 1 0 [_, _] rfl rfl rfl ⟨rfl, rfl, trivial⟩ rfl rfl ?_; refine Qq 6 0 (c' := #[_, _]) (own' := _ :: _ :: _ :: _ :: _ :: _ :: [(_, .cells #[_, _] _ _)] :: _) rfl rfl rfl rfl rfl (tr_ones hf) (by simp) rfl rfl rfl (Qi (Ze (Qc (Qh (Qb rfl rfl ?_))))); refine Zu rfl rfl rfl ⟨by omega, by omega⟩ (Qe rfl rfl (Qi ?_))
      refine Zj 9 [2, 6, 7, 8] rfl (fun o ho => ?_)
      simp only [K.sel, nrm] at ho; subst ho
      refine Zf n [(2, _), (5, _), (6, _), (7, _), (8, _)] (by omega) ⟨rfl, rfl, rfl, rfl, rfl, trivial⟩ ⟨n, eu, outs ++ [(⟨1, path ++ [takeV l (b + 1) ((ks.length : Int) + 1)], (growT l 1 (b + 2)).1⟩ : Ei)], (growT l 1 (b + 2)).2, v31, f0, f1, sg31, rfl, ?_, by omega, by omega, by omega, hf, ⟨_, by simpa using hrow31, hxs31⟩, by simp; omega, by simp, rfl, hle0⟩
      rw [hinv, changedN, roundC_ok (b := eb) (u := eu) (by rw [hre]; exact hst), hre]
    ·
     have hre : roundE l (pathC l t1 a) = (⟨2, path, Tr.zero⟩, b + 1) := by rw [hpx, roundE]; simp only [← hx3]; rfl
     obtain ⟨Ap, cp, rfl, _, _⟩ := hrowp.sl
     refine Qh (Qg rfl rfl (Qk 0 0 rfl rfl rfl rfl rfl (Za rfl rfl rfl ?_)))
     rw [decide_eq_false (by decide)]
     refine Qi (Qc (Qr rfl (Q2 (Qc (Qj ?_))))); refine Qj (Qh (Qg rfl rfl (Qk 0 0 rfl rfl rfl rfl rfl (TL.neq rfl rfl rfl ?_))))
     rw [decide_eq_false (by decide)]
     refine Qi (Qc (Qr rfl (Q2 (Qc (Qj ?_))))); refine Qj (Qh (Qg rfl rfl (Qk 0 0 rfl rfl rfl rfl rfl (Za rfl rfl rfl ?_))))
     rw [decide_eq_true (by decide)]
     refine Qb rfl rfl ?_; refine Qf rfl rfl rfl (Qb rfl rfl ?_); refine Qf rfl rfl rfl (Qn rfl rfl ?_); refine Qf rfl rfl rfl ?_
     refine TL.eqlB rfl rfl rfl (fun hp0 => ?_) (fun hp0 => ?_)
     ·
      refine Qz rfl rfl rfl rfl (Qi (Qc (Qv rfl (Zo (Q1 ?_))))); refine Zp (Qc (Qh (Qb rfl rfl ?_))); refine Zu rfl rfl rfl ⟨by omega, by omega⟩ (Qe rfl rfl (Qi ?_))
      refine Zj 7 [1, 4, 5, 6] rfl (fun o ho => ?_)
      simp only [K.sel, nrm] at ho; subst ho
      refine Zf n [(2, _), (5, _), (6, _), (7, _), (8, _)] (by omega) ⟨rfl, rfl, rfl, rfl, rfl, trivial⟩ ⟨n, t1, outs, (b + 1), v7, u0, u1, log, rfl, ?_, by omega, by omega, by omega, hu, hlog, by omega, by simp, rfl, hle0⟩
      have hst : stepI t1 (⟨2, path, Tr.zero⟩ : Ei) = .inl 1 := step_bad (.inr (.inr ⟨List.eq_nil_of_length_eq_zero (show path.length = 0 by omega), show (2 : Int) ≠ 3 by decide⟩))
      rw [hinv, changedN, roundC_bad (by rw [hre]; exact hst), hre, List.append_nil]
     ·
      refine Qz rfl rfl rfl rfl (Qi (Qc (Qr rfl (Q2 (Qc ?_))))); refine Qj ?_
      refine Z2 7 [2, 0, 1, 3, 4, 5, 6] rfl (fun o ho => ?_)
      simp only [K.sel, nrm] at ho; subst ho
      refine TC.freeze (fun H5 hle hz_rowp => ?_)
      have hL := Le.trans hL hle; have hle0 := Le.trans hle0 hle; have hu := RdL.mono hle hu; have hlog := EiLog.mono hle hlog
      have hvp : rd H5 (.s 1 (ints path)) _ := rd.ofRow hrowp hz_rowp (RdL.vals _) (Le.refl _)
      have hnode := zero_rd H5
      rcases hst : stepI t1 (⟨2, path, Tr.zero⟩ : Ei) with cc | ⟨eb, eu⟩
      ·
       refine Qh ?_; refine Qm 3 0 [_, _] rfl rfl rfl ⟨rfl, rfl, trivial⟩ rfl rfl ?_; refine Qm 0 0 [_, _, _, _] rfl rfl rfl ⟨rfl, rfl, rfl, rfl, trivial⟩ rfl rfl ?_; refine Qs (ref_Step_bad (e := (⟨2, path, Tr.zero⟩ : Ei)) hst (by simp; omega) (by omega) (by simp only; have hz1 : Tr.zero.size = 1 := rfl; omega) hu hvp hnode) ⟨rfl, rfl, trivial⟩ rfl ?_
       rintro _ _ H6 ⟨rfl, rfl, hle6⟩
       have hL := Le.trans hL hle6; have hle0 := Le.trans hle0 hle6; have hu := RdL.mono hle6 hu; have hlog := EiLog.mono hle6 hlog; refine Qb rfl rfl (Qu rfl rfl rfl (Qu rfl rfl rfl (Qu rfl rfl rfl ?_)))
       refine Zc rfl ?_; intro g14; refine Qq 0 0 (c' := #[_, _]) (own' := [(_, .cells #[_, _] _ _)] :: _) rfl rfl rfl rfl rfl ⟨rfl, rfl, trivial⟩ (by simp) rfl rfl rfl (Qe rfl rfl (Qe rfl rfl (Q3 (Qb rfl rfl (Za rfl rfl rfl ?_)))))
       rw [decide_eq_false (by have := stepI_code hst; omega)]
       refine Qi (Qc (Qr rfl (Q2 (Ze (Qc ?_))))); refine Qh (Qb rfl rfl ?_); refine Zu rfl rfl rfl ⟨by omega, by omega⟩ (Qe rfl rfl (Qi ?_))
       refine Zj 7 [2, 4, 5, 6] rfl (fun o ho => ?_)
       simp only [K.sel, nrm] at ho; subst ho
       refine Zf n [(2, _), (5, _), (6, _), (7, _), (8, _)] (by omega) ⟨rfl, rfl, rfl, rfl, rfl, trivial⟩ ⟨n, t1, outs, (b + 1), v7, u0, u1, log, rfl, ?_, by omega, by omega, by omega, hu, hlog, by omega, by simp, rfl, hle0⟩
       rw [hinv, changedN, roundC_bad (by rw [hre]; exact hst), hre, List.append_nil]
      ·
       have hsu := stepI_size hst
       simp only at hsu
       have hz1 : Tr.zero.size = 1 := rfl
       refine Qh ?_; refine Qm 3 0 [_, _] rfl rfl rfl ⟨rfl, rfl, trivial⟩ rfl rfl ?_; refine Qm 0 0 [_, _, _, _] rfl rfl rfl ⟨rfl, rfl, rfl, rfl, trivial⟩ rfl rfl ?_; refine Qs (ref_Step_ok (e := (⟨2, path, Tr.zero⟩ : Ei)) hst (by simp; omega) (by omega) (by simp only; have hz1 : Tr.zero.size = 1 := rfl; omega) hu hvp hnode) ⟨rfl, rfl, trivial⟩ rfl ?_
       rintro _ _ H6 ⟨f0, f1, rfl, hf, rfl, hle6⟩
       have hL := Le.trans hL hle6; have hle0 := Le.trans hle0 hle6; have hlog := EiLog.mono hle6 hlog; have hvp := rd.mono hle6 hvp; have hnode := RdL.mono hle6 hnode; refine Qb rfl rfl (Qu rfl rfl rfl (Qu rfl rfl rfl (Qu rfl rfl rfl ?_)))
       refine Zc rfl ?_; intro g14; refine Qq 0 0 (c' := #[_, _]) (own' := [(_, .cells #[_, _] _ _)] :: _) rfl rfl rfl rfl rfl (tr_ones hf) (by simp) rfl rfl rfl (Qe rfl rfl (Qe rfl rfl (Q3 (Qb rfl rfl (Za rfl rfl rfl ?_)))))
       rw [decide_eq_true rfl]
       refine Qi (Qc (Qv rfl (Qj ?_)))
       obtain ⟨xs7, hrow7, hxs7⟩ := hlog
       have hedr := ei_mk (e := (⟨2, path, Tr.zero⟩ : Ei)) hvp hnode
       have hones := RdL.ones hedr (Ei.d_one _)
       refine Qh (Qb rfl rfl ?_); refine Qm 1 0 [_, _, _, _] rfl rfl rfl ⟨rfl, rfl, rfl, rfl, trivial⟩ rfl rfl ?_
       refine Zg (r := [_, _, _, _]) [(0, [_, _, _, _])] ⟨rfl, ⟨_, rfl, rfl⟩, trivial⟩ rfl rfl rfl rfl ?_; intro g98; refine Zh 7 rfl rfl rfl hrow7 (Src.ofOwn 0 0 rfl rfl rfl (Ones.all hones) ⟨rfl, rfl, rfl, rfl, trivial⟩) (by omega) (by omega) rfl ?_; intro v31 sg31 hrow31; have hxs31 := ei_snoc hxs7 hedr; refine Qe rfl rfl (Qi (Qc (Qh ?_))); refine Qm 1 0 [_, _] rfl rfl rfl ⟨rfl, rfl, trivial⟩ rfl rfl ?_; refine Qq 5 0 (c' := #[_, _]) (own' := _ :: _ :: _ :: _ :: _ :: [(_, .cells #[_, _] _ _)] :: _) rfl rfl rfl rfl rfl (tr_ones hf) (by simp) rfl rfl rfl (Qi (Ze (Qc (Qh (Qb rfl rfl ?_))))); refine Zu rfl rfl rfl ⟨by omega, by omega⟩ (Qe rfl rfl (Qi ?_))
       refine Zj 8 [3, 5, 6, 7] rfl (fun o ho => ?_)
       simp only [K.sel, nrm] at ho; subst ho
       refine Zf n [(2, _), (5, _), (6, _), (7, _), (8, _)] (by omega) ⟨rfl, rfl, rfl, rfl, rfl, trivial⟩ ⟨n, eu, outs ++ [(⟨2, path, Tr.zero⟩ : Ei)], (b + 1), v31, f0, f1, sg31, rfl, ?_, by omega, by omega, by omega, hf, ⟨_, by simpa using hrow31, hxs31⟩, by simp; omega, by simp, rfl, hle0⟩
       rw [hinv, changedN, roundC_ok (b := eb) (u := eu) (by rw [hre]; exact hst), hre]
    ·
     have hre : roundE l (pathC l t1 a) = (⟨3, path, (growT l 1 (b + 1)).1⟩, (growT l 1 (b + 1)).2) := by rw [hpx, roundE]; simp only [← hx3]; rfl
     refine Qh (Qg rfl rfl (Qk 0 0 rfl rfl rfl rfl rfl (Za rfl rfl rfl ?_)))
     rw [decide_eq_false (by decide)]
     refine Qi (Qc (Qr rfl (Q2 (Qc (Qj ?_))))); refine Qj (Qh (Qg rfl rfl (Qk 0 0 rfl rfl rfl rfl rfl (TL.neq rfl rfl rfl ?_))))
     rw [decide_eq_true (by decide)]
     refine Qi (Qc (Qv rfl (Qh (Qb rfl rfl ?_))))
     refine TL.sel 7 [1, 0, 2, 3, 4, 5, 6] rfl (fun o ho => ?_)
     simp only [K.sel, nrm] at ho; subst ho
     refine Qs (ref_tree hl 1 (deep := 1) rfl (by omega) (by omega) hA) ⟨rfl, rfl, trivial⟩ rfl ?_
     rintro _ _ H5 ⟨k0, k1, rfl, hk, rfl, hle5⟩
     have hL := Le.trans hL hle5; have hle0 := Le.trans hle0 hle5; have hu := RdL.mono hle5 hu; have hlog := EiLog.mono hle5 hlog; refine Qg rfl rfl ?_; refine Qq 1 0 (c' := #[_, _, _, _]) (own' := _ :: [(_, .cells #[_, _, _, _] _ _)] :: _) rfl rfl rfl rfl rfl (tr_ones hk) (by simp) rfl rfl rfl (Qi (Qc (Qj (Qj (Qh ?_))))); refine Qg rfl rfl (Qk 1 0 rfl rfl rfl rfl rfl (Za rfl rfl rfl ?_))
     rw [decide_eq_false (by decide)]
     refine Qb rfl rfl ?_; refine Ql rfl rfl rfl rfl ?_; refine Ql rfl rfl rfl rfl ?_; refine Ql rfl rfl rfl rfl ?_; refine Qx rfl rfl rfl rfl (Qi (Qc (Qr rfl (Q2 (Qc ?_))))); refine Qj ?_
     refine Z2 7 [2, 0, 1, 3, 4, 5, 6] rfl (fun o ho => ?_)
     simp only [K.sel, nrm] at ho; subst ho
     refine TC.freeze (fun H6 hle hz_rowp => ?_)
     have hL := Le.trans hL hle; have hle0 := Le.trans hle0 hle; have hu := RdL.mono hle hu; have hlog := EiLog.mono hle hlog; have hk := RdL.mono hle hk
     have hvp : rd H6 (.s 1 (ints path)) _ := rd.ofRow hrowp hz_rowp (RdL.vals _) (Le.refl _)
     have hnode := hk
     rcases hst : stepI t1 (⟨3, path, (growT l 1 (b + 1)).1⟩ : Ei) with cc | ⟨eb, eu⟩
     ·
      refine Qh ?_; refine Qm 3 0 [_, _] rfl rfl rfl ⟨rfl, rfl, trivial⟩ rfl rfl ?_; refine Qm 1 0 [_, _, _, _] rfl rfl rfl ⟨rfl, rfl, rfl, rfl, trivial⟩ rfl rfl ?_; refine Qs (ref_Step_bad (e := (⟨3, path, (growT l 1 (b + 1)).1⟩ : Ei)) hst (by simp; omega) (by omega) (by simp only; have hz1 : Tr.zero.size = 1 := rfl; omega) hu hvp hnode) ⟨rfl, rfl, trivial⟩ rfl ?_
      rintro _ _ H6 ⟨rfl, rfl, hle6⟩
      have hL := Le.trans hL hle6; have hle0 := Le.trans hle0 hle6; have hu := RdL.mono hle6 hu; have hlog := EiLog.mono hle6 hlog; refine Qb rfl rfl (Qu rfl rfl rfl (Qu rfl rfl rfl (Qu rfl rfl rfl ?_)))
      refine Zc rfl ?_; intro g14; refine Qq 0 0 (c' := #[_, _]) (own' := [(_, .cells #[_, _] _ _)] :: _) rfl rfl rfl rfl rfl ⟨rfl, rfl, trivial⟩ (by simp) rfl rfl rfl (Qe rfl rfl (Qe rfl rfl (Q3 (Qb rfl rfl (Za rfl rfl rfl ?_)))))
      rw [decide_eq_false (by have := stepI_code hst; omega)]
      refine Qi (Qc (Qr rfl (Q2 (Ze (Qc ?_))))); refine Qh (Qb rfl rfl ?_); refine Zu rfl rfl rfl ⟨by omega, by omega⟩ (Qe rfl rfl (Qi ?_))
      refine Zj 7 [1, 4, 5, 6] rfl (fun o ho => ?_)
      simp only [K.sel, nrm] at ho; subst ho
      refine Zf n [(2, _), (5, _), (6, _), (7, _), (8, _)] (by omega) ⟨rfl, rfl, rfl, rfl, rfl, trivial⟩ ⟨n, t1, outs, (growT l 1 (b + 1)).2, v7, u0, u1, log, rfl, ?_, by omega, by omega, by omega, hu, hlog, by omega, by simp, rfl, hle0⟩
      rw [hinv, changedN, roundC_bad (by rw [hre]; exact hst), hre, List.append_nil]
     ·
      have hsu := stepI_size hst
      simp only at hsu
      have hz1 : Tr.zero.size = 1 := rfl
      refine Qh ?_; refine Qm 3 0 [_, _] rfl rfl rfl ⟨rfl, rfl, trivial⟩ rfl rfl ?_; refine Qm 1 0 [_, _, _, _] rfl rfl rfl ⟨rfl, rfl, rfl, rfl, trivial⟩ rfl rfl ?_; refine Qs (ref_Step_ok (e := (⟨3, path, (growT l 1 (b + 1)).1⟩ : Ei)) hst (by simp; omega) (by omega) (by simp only; have hz1 : Tr.zero.size = 1 := rfl; omega) hu hvp hnode) ⟨rfl, rfl, trivial⟩ rfl ?_
      rintro _ _ H6 ⟨f0, f1, rfl, hf, rfl, hle6⟩
      have hL := Le.trans hL hle6; have hle0 := Le.trans hle0 hle6; have hlog := EiLog.mono hle6 hlog; have hvp := rd.mono hle6 hvp; have hnode := RdL.mono hle6 hnode; refine Qb rfl rfl (Qu rfl rfl rfl (Qu rfl rfl rfl (Qu rfl rfl rfl ?_)))
      refine Zc rfl ?_; intro g14; refine Qq 0 0 (c' := #[_, _]) (own' := [(_, .cells #[_, _] _ _)] :: _) rfl rfl rfl rfl rfl (tr_ones hf) (by simp) rfl rfl rfl (Qe rfl rfl (Qe rfl rfl (Q3 (Qb rfl rfl (Za rfl rfl rfl ?_)))))
      rw [decide_eq_true rfl]
      refine Qi (Qc (Qv rfl (Qj ?_)))
      obtain ⟨xs7, hrow7, hxs7⟩ := hlog
      have hedr := ei_mk (e := (⟨3, path, (growT l 1 (b + 1)).1⟩ : Ei)) hvp hnode
      have hones := RdL.ones hedr (Ei.d_one _)
      refine Qh (Qb rfl rfl ?_); refine Qm 2 0 [_, _, _, _] rfl rfl rfl ⟨rfl, rfl, rfl, rfl, trivial⟩ rfl rfl ?_
      refine Zg (r := [_, _, _, _]) [(0, [_, _, _, _])] ⟨rfl, ⟨_, rfl, rfl⟩, trivial⟩ rfl rfl rfl rfl ?_; intro g98; refine Zh 7 rfl rfl rfl hrow7 (Src.ofOwn 0 0 rfl rfl rfl (Ones.all hones) ⟨rfl, rfl, rfl, rfl, trivial⟩) (by omega) (by omega) rfl ?_; intro v31 sg31 hrow31; have hxs31 := ei_snoc hxs7 hedr; refine Qe rfl rfl (Qi (Qc (Qh ?_))); refine Qm 1 0 [_, _] rfl rfl rfl ⟨rfl, rfl, trivial⟩ rfl rfl ?_; refine Qq 5 0 (c' := #[_, _]) (own' := _ :: _ :: _ :: _ :: _ :: [(_, .cells #[_, _] _ _)] :: _) rfl rfl rfl rfl rfl (tr_ones hf) (by simp) rfl rfl rfl (Qi (Ze (Qc (Qh (Qb rfl rfl ?_))))); refine Zu rfl rfl rfl ⟨by omega, by omega⟩ (Qe rfl rfl (Qi ?_))
      refine Zj 8 [2, 5, 6, 7] rfl (fun o ho => ?_)
      simp only [K.sel, nrm] at ho; subst ho
      refine Zf n [(2, _), (5, _), (6, _), (7, _), (8, _)] (by omega) ⟨rfl, rfl, rfl, rfl, rfl, trivial⟩ ⟨n, eu, outs ++ [(⟨3, path, (growT l 1 (b + 1)).1⟩ : Ei)], (growT l 1 (b + 1)).2, v31, f0, f1, sg31, rfl, ?_, by omega, by omega, by omega, hf, ⟨_, by simpa using hrow31, hxs31⟩, by simp; omega, by simp, rfl, hle0⟩
      rw [hinv, changedN, roundC_ok (b := eb) (u := eu) (by rw [hre]; exact hst), hre]
  ·
   refine Qi (Qc (Qr rfl (Zo (Q1 (Q1 ?_))))); refine Zp (Qc (Qj ?_)); refine Q4 3  [(2, _), (5, _), (6, _), (7, _), (8, _)] follows_mixed ⟨rfl, rfl, rfl, rfl, rfl, trivial⟩ ?_; refine Qa (some 101) [] (fun _ _ _ _ hF => Qb rfl rfl (Qd hF)) ?_
   refine Qa (some 102) [] (by
    intro H' X F hle; have hL := Le.trans hL hle; intro hF; refine Qm 1 0 [_, _] rfl rfl rfl ⟨rfl, rfl, trivial⟩ rfl rfl ?_
    exact Qd hF) ?_
   refine Qa (some 4) [(0, 1)] (fun _ _ _ _ hF => Qe rfl rfl (Qd hF)) ?_
   refine ⟨by kernel_rfl, .refl _, ?_⟩
   ·
    intro H7 hle; have hL := Le.trans hL hle; have hu := RdL.mono hle hu; have hlog := EiLog.mono hle hlog; refine Qw (own' := _ :: _ :: _ :: _ :: own) rfl ?_; refine Zi (env' := [(2, _), (5, _), (6, _), (7, _), (8, _), (102, _), (4, _)]) ⟨rfl, rfl, rfl, rfl, rfl, rfl, rfl, trivial⟩ ?_; refine Qq 2 0 (c' := #[_, _]) (own' := _ :: _ :: [(_, .cells #[_, _] _ _)] :: _) rfl rfl rfl rfl rfl (tr_ones hu) (by simp) rfl rfl rfl (Qi (Qc (Qy ?_)))
    refine Zj 4 [3, 2] rfl (fun o ho => ?_)
    simp only [K.sel, nrm] at ho; subst ho
    refine Zs (fun H99 hle hz_log => ?_)
    have hL := Le.trans hL hle; have hu := RdL.mono hle hu; have hlog := EiLog.mono hle hlog
    have hlv := hlog.rd hz_log (Le.refl _)
    refine TQ.retTC 0 0 1 [_, _] rfl rfl rfl rfl rfl ⟨rfl, rfl, trivial⟩ rfl rfl ?_
    exact ⟨⟨v7, u0, u1, rfl, by rw [hinv, show n = 0 by omega]; exact hlv, by rw [hinv, show n = 0 by omega]; exact hu⟩, rfl, hL⟩

end Go.Proofs.YtaomdfcplamenaaGreatDoor.K

namespace Go.Proofs.YtaomdfcplamenaaGreatDoor.K
open Go Go.RowKit Go.Proofs

theorem main_mk {H : Hp} {v : Value} (h : rd H (.s 11 pollD) v) : RdL H mainD [.string ⟨#[109, 97, 105, 110]⟩, .slice none 0 0, .int .i64 7, .string ⟨#[]⟩, .int .i64 0, .slice none 0 0, v, .bool false, .int .i64 0, .int .u16 0] :=
  ⟨by simp [rd], by simp [rd], by simp [rd], by simp [rd], by simp [rd], by simp [rd], h, by simp [rd], by simp [rd], by simp [rd], trivial⟩
theorem eqb_self (t : Tr) : t.eqb t = true := by rw [Tr.eqb_iff]
theorem lab_of {H : Hp} {l : ByteArray} {ks : List Tr} {c0 c1 : Value} (h : RdL H (Tr.node l ks).d [c0, c1]) : c0 = .string l := (tr_cells h).1
theorem law_sanity {w0 : World} {H : Hp} {own : List Seg} : Fn Tryz.prog 10 [] w0 H own (fun r o H' => r = .bool true ∧ o = own ∧ Le H H') := by
  have hsz : mainT.size = 10 := by decide +kernel
  refine Fn.enter Tryz.func10 rfl Tryz.ntmps10 rfl ?_; have hL := Le.refl H; refine Qj (Qh (Qe rfl rfl (Q3 ?_))); refine Q8 [(0, [_])] ⟨rfl, ⟨_, rfl, rfl⟩, trivial⟩ rfl rfl ?_; refine Q8 [(0, [_])] ⟨rfl, ⟨_, rfl, rfl⟩, trivial⟩ rfl rfl ?_
  refine Zg (r := [_, _, _, _, _, _, _, _, _, _, _]) [(0, [_, _, _, _, _, _, _, _, _, _, _])] ⟨rfl, ⟨_, rfl, rfl⟩, trivial⟩ rfl rfl rfl rfl ?_; intro g13
  refine Zy (fun H1 hle hz_g13 => ?_)
  have hL := Le.trans hL hle
  have hpd : rd H1 (.s 11 pollD) _ := rd.ofRow (Row.lit 56 11 1 _ _ rfl (by omega)) hz_g13 (RdL.vals _) (Le.refl _)
  refine Q8 [(0, [_]), (2, [_, _, _, _]), (3, [_])] ⟨rfl, ⟨_, rfl, rfl⟩, rfl, ⟨_, rfl, rfl⟩, rfl, ⟨_, rfl, rfl⟩, trivial⟩ rfl rfl ?_
  refine Zg (r := [_, _, _, _, _, _, _, _, _, _]) [(0, [_, _, _, _, _, _, _, _, _, _])] ⟨rfl, ⟨_, rfl, rfl⟩, trivial⟩ rfl rfl rfl rfl ?_; intro g15
  refine Zy (fun H2 hle hz_g15 => ?_)
  have hL := Le.trans hL hle; have hpd := rd.mono hle hpd
  have hmd : rd H2 (.s 10 mainD) _ := rd.ofRow (Row.lit 61 10 1 _ _ rfl (by omega)) hz_g15 (main_mk hpd) (Le.refl _)
  refine Q8 [(2, [_])] ⟨rfl, ⟨_, rfl, rfl⟩, trivial⟩ rfl rfl ?_
  refine Zc rfl ?_; intro g1; refine Qq 0 0 (c' := #[_, _, _]) (own' := [(_, .cells #[_, _, _] _ _)] :: _) rfl rfl rfl rfl rfl ⟨rfl, rfl, rfl, trivial⟩ (by simp) rfl rfl rfl (Q3 ?_); refine Qs (law_tree (t := (.node ⟨#[116, 121, 112, 101, 115]⟩ [])) (rd.nil _ _)) ⟨rfl, rfl, trivial⟩ rfl ?_
  rintro _ own H17 ⟨a17, b17, rfl, hr17, rfl, hle17⟩
  have hL := Le.trans hL hle17; have hmd := rd.mono hle17 hmd; refine Qs (law_tree (t := (.node ⟨#[103, 108, 111, 98, 97, 108, 115]⟩ [])) (rd.nil _ _)) ⟨rfl, rfl, trivial⟩ rfl ?_
  rintro _ own H18 ⟨a18, b18, rfl, hr18, rfl, hle18⟩
  have hL := Le.trans hL hle18; have hmd := rd.mono hle18 hmd; have hr17 := RdL.mono hle18 hr17; refine Qs (law_tree (t := (.node ⟨#[112, 97, 114, 97, 109, 115]⟩ [])) (rd.nil _ _)) ⟨rfl, rfl, trivial⟩ rfl ?_
  rintro _ own H19 ⟨a19, b19, rfl, hr19, rfl, hle19⟩
  have hL := Le.trans hL hle19; have hmd := rd.mono hle19 hmd; have hr17 := RdL.mono hle19 hr17; have hr18 := RdL.mono hle19 hr18; refine Qs (law_tree (t := (.node ⟨#[118, 111, 105, 100]⟩ [])) (rd.nil _ _)) ⟨rfl, rfl, trivial⟩ rfl ?_
  rintro _ own H20 ⟨a20, b20, rfl, hr20, rfl, hle20⟩
  have hL := Le.trans hL hle20; have hmd := rd.mono hle20 hmd; have hr17 := RdL.mono hle20 hr17; have hr18 := RdL.mono hle20 hr18; have hr19 := RdL.mono hle20 hr19
  refine Zg (r := [_, _]) [(0, [_, _])] ⟨rfl, ⟨_, rfl, rfl⟩, trivial⟩ rfl rfl rfl rfl ?_; intro g21
  refine Zy (fun H3 hle hz_g21 => ?_)
  have hL := Le.trans hL hle; have hmd := rd.mono hle hmd; have hr17 := RdL.mono hle hr17; have hr18 := RdL.mono hle hr18; have hr19 := RdL.mono hle hr19; have hr20 := RdL.mono hle hr20
  have hk21 : rd H3 (.s 2 (Tr.ds [(.node ⟨#[118, 111, 105, 100]⟩ [])])) _ := rd.ofRow (Row.lit 26 2 1 _ _ rfl (by omega)) hz_g21 (trs_cons hr20 (trivial)) (Le.refl _)
  refine Qs (law_tree (t := (.node ⟨#[114, 101, 115, 117, 108, 116]⟩ [(.node ⟨#[118, 111, 105, 100]⟩ [])])) hk21) ⟨rfl, rfl, trivial⟩ rfl ?_
  rintro _ own H22 ⟨a22, b22, rfl, hr22, rfl, hle22⟩
  have hL := Le.trans hL hle22; have hmd := rd.mono hle22 hmd; have hr17 := RdL.mono hle22 hr17; have hr18 := RdL.mono hle22 hr18; have hr19 := RdL.mono hle22 hr19; refine Qs (law_tree (t := (.node ⟨#[112, 111, 108, 108]⟩ [])) (rd.nil _ _)) ⟨rfl, rfl, trivial⟩ rfl ?_
  rintro _ own H23 ⟨a23, b23, rfl, hr23, rfl, hle23⟩
  have hL := Le.trans hL hle23; have hmd := rd.mono hle23 hmd; have hr17 := RdL.mono hle23 hr17; have hr18 := RdL.mono hle23 hr18; have hr19 := RdL.mono hle23 hr19; have hr22 := RdL.mono hle23 hr22
  refine Zg (r := [_, _]) [(0, [_, _])] ⟨rfl, ⟨_, rfl, rfl⟩, trivial⟩ rfl rfl rfl rfl ?_; intro g24
  refine Zy (fun H4 hle hz_g24 => ?_)
  have hL := Le.trans hL hle; have hmd := rd.mono hle hmd; have hr17 := RdL.mono hle hr17; have hr18 := RdL.mono hle hr18; have hr19 := RdL.mono hle hr19; have hr22 := RdL.mono hle hr22; have hr23 := RdL.mono hle hr23
  have hk24 : rd H4 (.s 2 (Tr.ds [(.node ⟨#[112, 111, 108, 108]⟩ [])])) _ := rd.ofRow (Row.lit 26 2 1 _ _ rfl (by omega)) hz_g24 (trs_cons hr23 (trivial)) (Le.refl _)
  refine Qs (law_tree (t := (.node ⟨#[98, 111, 100, 121]⟩ [(.node ⟨#[112, 111, 108, 108]⟩ [])])) hk24) ⟨rfl, rfl, trivial⟩ rfl ?_
  rintro _ own H25 ⟨a25, b25, rfl, hr25, rfl, hle25⟩
  have hL := Le.trans hL hle25; have hmd := rd.mono hle25 hmd; have hr17 := RdL.mono hle25 hr17; have hr18 := RdL.mono hle25 hr18; have hr19 := RdL.mono hle25 hr19; have hr22 := RdL.mono hle25 hr22
  refine Zg (r := [_, _, _, _, _, _]) [(0, [_, _]), (1, [_, _]), (2, [_, _])] ⟨rfl, ⟨_, rfl, rfl⟩, rfl, ⟨_, rfl, rfl⟩, rfl, ⟨_, rfl, rfl⟩, trivial⟩ rfl rfl rfl rfl ?_; intro g26
  refine Zy (fun H5 hle hz_g26 => ?_)
  have hL := Le.trans hL hle; have hmd := rd.mono hle hmd; have hr17 := RdL.mono hle hr17; have hr18 := RdL.mono hle hr18; have hr19 := RdL.mono hle hr19; have hr22 := RdL.mono hle hr22; have hr25 := RdL.mono hle hr25
  have hk26 : rd H5 (.s 2 (Tr.ds [(.node ⟨#[112, 97, 114, 97, 109, 115]⟩ []), (.node ⟨#[114, 101, 115, 117, 108, 116]⟩ [(.node ⟨#[118, 111, 105, 100]⟩ [])]), (.node ⟨#[98, 111, 100, 121]⟩ [(.node ⟨#[112, 111, 108, 108]⟩ [])])])) _ := rd.ofRow (Row.lit 26 2 3 _ _ rfl (by omega)) hz_g26 (trs_cons hr19 (trs_cons hr22 (trs_cons hr25 (trivial)))) (Le.refl _)
  refine Qs (law_tree (t := (.node ⟨#[102, 110, 32, 109, 97, 105, 110]⟩ [(.node ⟨#[112, 97, 114, 97, 109, 115]⟩ []), (.node ⟨#[114, 101, 115, 117, 108, 116]⟩ [(.node ⟨#[118, 111, 105, 100]⟩ [])]), (.node ⟨#[98, 111, 100, 121]⟩ [(.node ⟨#[112, 111, 108, 108]⟩ [])])])) hk26) ⟨rfl, rfl, trivial⟩ rfl ?_
  rintro _ own H27 ⟨a27, b27, rfl, hr27, rfl, hle27⟩
  have hL := Le.trans hL hle27; have hmd := rd.mono hle27 hmd; have hr17 := RdL.mono hle27 hr17; have hr18 := RdL.mono hle27 hr18
  refine Zg (r := [_, _]) [(0, [_, _])] ⟨rfl, ⟨_, rfl, rfl⟩, trivial⟩ rfl rfl rfl rfl ?_; intro g28
  refine Zy (fun H6 hle hz_g28 => ?_)
  have hL := Le.trans hL hle; have hmd := rd.mono hle hmd; have hr17 := RdL.mono hle hr17; have hr18 := RdL.mono hle hr18; have hr27 := RdL.mono hle hr27
  have hk28 : rd H6 (.s 2 (Tr.ds [(.node ⟨#[102, 110, 32, 109, 97, 105, 110]⟩ [(.node ⟨#[112, 97, 114, 97, 109, 115]⟩ []), (.node ⟨#[114, 101, 115, 117, 108, 116]⟩ [(.node ⟨#[118, 111, 105, 100]⟩ [])]), (.node ⟨#[98, 111, 100, 121]⟩ [(.node ⟨#[112, 111, 108, 108]⟩ [])])])])) _ := rd.ofRow (Row.lit 26 2 1 _ _ rfl (by omega)) hz_g28 (trs_cons hr27 (trivial)) (Le.refl _)
  refine Qs (law_tree (t := (.node ⟨#[102, 117, 110, 99, 115]⟩ [(.node ⟨#[102, 110, 32, 109, 97, 105, 110]⟩ [(.node ⟨#[112, 97, 114, 97, 109, 115]⟩ []), (.node ⟨#[114, 101, 115, 117, 108, 116]⟩ [(.node ⟨#[118, 111, 105, 100]⟩ [])]), (.node ⟨#[98, 111, 100, 121]⟩ [(.node ⟨#[112, 111, 108, 108]⟩ [])])])])) hk28) ⟨rfl, rfl, trivial⟩ rfl ?_
  rintro _ own H29 ⟨a29, b29, rfl, hr29, rfl, hle29⟩
  have hL := Le.trans hL hle29; have hmd := rd.mono hle29 hmd; have hr17 := RdL.mono hle29 hr17; have hr18 := RdL.mono hle29 hr18
  refine Zg (r := [_, _, _, _, _, _]) [(0, [_, _]), (1, [_, _]), (2, [_, _])] ⟨rfl, ⟨_, rfl, rfl⟩, rfl, ⟨_, rfl, rfl⟩, rfl, ⟨_, rfl, rfl⟩, trivial⟩ rfl rfl rfl rfl ?_; intro g30
  refine Zy (fun H7 hle hz_g30 => ?_)
  have hL := Le.trans hL hle; have hmd := rd.mono hle hmd; have hr17 := RdL.mono hle hr17; have hr18 := RdL.mono hle hr18; have hr29 := RdL.mono hle hr29
  have hk30 : rd H7 (.s 2 (Tr.ds [(.node ⟨#[116, 121, 112, 101, 115]⟩ []), (.node ⟨#[103, 108, 111, 98, 97, 108, 115]⟩ []), (.node ⟨#[102, 117, 110, 99, 115]⟩ [(.node ⟨#[102, 110, 32, 109, 97, 105, 110]⟩ [(.node ⟨#[112, 97, 114, 97, 109, 115]⟩ []), (.node ⟨#[114, 101, 115, 117, 108, 116]⟩ [(.node ⟨#[118, 111, 105, 100]⟩ [])]), (.node ⟨#[98, 111, 100, 121]⟩ [(.node ⟨#[112, 111, 108, 108]⟩ [])])])])])) _ := rd.ofRow (Row.lit 26 2 3 _ _ rfl (by omega)) hz_g30 (trs_cons hr17 (trs_cons hr18 (trs_cons hr29 (trivial)))) (Le.refl _)
  refine Qs (law_tree (t := mainT) hk30) ⟨rfl, rfl, trivial⟩ rfl ?_
  rintro _ own H31 ⟨a31, b31, rfl, hr31, rfl, hle31⟩
  have hL := Le.trans hL hle31; have hmd := rd.mono hle31 hmd
  refine Zc rfl ?_; intro g2; refine Qq 0 0 (c' := #[_, _]) (own' := [(_, .cells #[_, _] _ _)] :: _) rfl rfl rfl rfl rfl (tr_ones hr31) (by simp) rfl rfl rfl (Q3 ?_); refine Qs (law_tree (t := sA) (rd.nil _ _)) ⟨rfl, rfl, trivial⟩ rfl ?_
  rintro _ own H32 ⟨a32, b32, rfl, hr32, rfl, hle32⟩
  have hL := Le.trans hL hle32; have hmd := rd.mono hle32 hmd; have hr31 := RdL.mono hle32 hr31; refine Qs (law_tree (t := sB) (rd.nil _ _)) ⟨rfl, rfl, trivial⟩ rfl ?_
  rintro _ own H33 ⟨a33, b33, rfl, hr33, rfl, hle33⟩
  have hL := Le.trans hL hle33; have hmd := rd.mono hle33 hmd; have hr31 := RdL.mono hle33 hr31; have hr32 := RdL.mono hle33 hr32
  refine Zc rfl ?_; intro g3
  refine Zc rfl ?_; intro g4; refine Qq 1 0 (c' := #[_, _]) (own' := _ :: [(_, .cells #[_, _] _ _)] :: _) rfl rfl rfl rfl rfl (tr_ones hr32) (by simp) rfl rfl rfl ?_; refine Qq 0 0 (c' := #[_, _]) (own' := [(_, .cells #[_, _] _ _)] :: _) rfl rfl rfl rfl rfl (tr_ones hr33) (by simp) rfl rfl rfl (Qi (Qc (Qj ?_))); refine Q4 6  [(0, _), (1, _), (2, _), (3, _), (4, _)] follows_mixed ⟨rfl, rfl, rfl, rfl, rfl, trivial⟩ ?_
  refine Qa (some 34) [] (by
   intro H' X F hle; have hL := Le.trans hL hle; intro hF; refine Qm 1 0 [_, _] rfl rfl rfl ⟨rfl, rfl, trivial⟩ rfl rfl ?_
   exact Qd hF) ?_
  refine Qa (some 35) [] (by
   intro H' X F hle; have hL := Le.trans hL hle; intro hF; refine Qm 0 0 [_, _] rfl rfl rfl ⟨rfl, rfl, trivial⟩ rfl rfl ?_
   exact Qd hF) ?_
  refine Q9 (some 36) [(0, 1), (1, 0)] ([]) (fun _ => fun u sg H => rd H (.s 2 (Tr.ds [sA, sB])) u ∧ sg = []) (by
   intro H' X F hle; have hL := Le.trans hL hle; have hr32 := RdL.mono hle hr32; have hr33 := RdL.mono hle hr33; intro hF
   refine Zg (r := [_, _, _, _]) [(0, [_, _]), (1, [_, _])] ⟨rfl, ⟨_, rfl, rfl⟩, rfl, ⟨_, rfl, rfl⟩, trivial⟩ rfl rfl rfl rfl ?_; intro g36; refine Qi ?_
   refine Zs (fun H9 hle9 hz => ?_)
   exact Q7 [] hF hle9 ⟨rd.ofRow (Row.lit 26 2 2 _ _ rfl (by omega)) hz (trs_cons hr32 (trs_cons hr33 (trivial))) hle9, rfl⟩) ?_
  refine Q9 (some 37) [(2, 0)] ([]) (fun _ => fun u sg H => ∃ d0 d1, u = .agg #[d0, d1] ∧ RdL H sXab.d [d0, d1] ∧ sg = []) (by
   intro H' X F hle; have hL := Le.trans hL hle; intro _
   rintro v36 _ Hi36 hle36 ⟨hr36, rfl⟩
   replace hr36 := rd.mono hle36 hr36
   intro hF; refine Qs (law_tree (t := sXab) hr36) ⟨rfl, rfl, trivial⟩ rfl ?_
   rintro _ own H37 ⟨a37, b37, rfl, hr37, rfl, hle37⟩
   have hL := Le.trans hL hle37; refine Qi ?_
   exact Q7 [] hF hle37 ⟨a37, b37, rfl, hr37, rfl⟩) ?_
  refine Qa (some 38) [] (by
   intro H' X F hle; have hL := Le.trans hL hle; intro hF; refine Qm 0 0 [_, _] rfl rfl rfl ⟨rfl, rfl, trivial⟩ rfl rfl ?_
   exact Qd hF) ?_
  refine Q9 (some 39) [(4, 0)] ([]) (fun _ => fun u sg H => rd H (.s 2 (Tr.ds [sB])) u ∧ sg = []) (by
   intro H' X F hle; have hL := Le.trans hL hle; have hr33 := RdL.mono hle hr33; intro hF
   refine Zg (r := [_, _]) [(0, [_, _])] ⟨rfl, ⟨_, rfl, rfl⟩, trivial⟩ rfl rfl rfl rfl ?_; intro g39; refine Qi ?_
   refine Zs (fun H9 hle9 hz => ?_)
   exact Q7 [] hF hle9 ⟨rd.ofRow (Row.lit 26 2 1 _ _ rfl (by omega)) hz (trs_cons hr33 (trivial)) hle9, rfl⟩) ?_
  refine ⟨by kernel_rfl, .refl _, ?_⟩
  ·
   intro H8 hle
   rintro v36 _ Hi36 hle36 ⟨hr36, rfl⟩
   rintro _ _ Hi37 hle37 ⟨a37, b37, rfl, hr37, rfl⟩
   replace hr37 := RdL.mono hle37 hr37
   rintro v39 _ Hi39 hle39 ⟨hr39, rfl⟩
   replace hr39 := rd.mono hle39 hr39
   have hL := Le.trans hL hle; have hmd := rd.mono hle hmd; have hr31 := RdL.mono hle hr31; have hr32 := RdL.mono hle hr32; have hr33 := RdL.mono hle hr33; refine Qw (own' := _ :: _ :: _ :: _ :: own) rfl ?_; refine Zi (env' := [(0, _), (1, _), (2, _), (3, _), (4, _), (37, _), (39, _)]) ⟨rfl, rfl, rfl, rfl, rfl, rfl, rfl, trivial⟩ ?_; refine Qs (law_tree (t := sXb) hr39) ⟨rfl, rfl, trivial⟩ rfl ?_
   rintro _ own H40 ⟨a40, b40, rfl, hr40, rfl, hle40⟩
   have hL := Le.trans hL hle40; have hmd := rd.mono hle40 hmd; have hr31 := RdL.mono hle40 hr31; have hr32 := RdL.mono hle40 hr32; have hr33 := RdL.mono hle40 hr33; have hr37 := RdL.mono hle40 hr37; refine Qs (Diff_n uni1 (by simp) (by simp) (by decide) hr37 hr40) ⟨rfl, rfl, trivial⟩ rfl ?_
   rintro v41 own H41 ⟨hr41, rfl, hle41⟩
   replace hr41 : rd H41 (.s 4 (eiD [⟨2, [0], Tr.zero⟩])) v41 := by
     rw [ed1, ← eiD_of] at hr41
     exact hr41
   have hL := Le.trans hL hle41; have hmd := rd.mono hle41 hmd; have hr31 := RdL.mono hle41 hr31; have hr32 := RdL.mono hle41 hr32; have hr33 := RdL.mono hle41 hr33; refine Qe rfl rfl (Qi (Qc (Qj ?_))); refine Q4 5  [(0, _), (1, _), (2, _), (3, _), (4, _), (5, _)] follows_mixed ⟨rfl, rfl, rfl, rfl, rfl, rfl, trivial⟩ ?_
   refine Qa (some 42) [] (by
    intro H' X F hle; have hL := Le.trans hL hle; intro hF; refine Qm 1 0 [_, _] rfl rfl rfl ⟨rfl, rfl, trivial⟩ rfl rfl ?_
    exact Qd hF) ?_
   refine Q9 (some 43) [(0, 0)] ([]) (fun _ => fun u sg H => rd H (.s 2 (Tr.ds [sA])) u ∧ sg = []) (by
    intro H' X F hle; have hL := Le.trans hL hle; have hr32 := RdL.mono hle hr32; intro hF
    refine Zg (r := [_, _]) [(0, [_, _])] ⟨rfl, ⟨_, rfl, rfl⟩, trivial⟩ rfl rfl rfl rfl ?_; intro g43; refine Qi ?_
    refine Zs (fun H9 hle9 hz => ?_)
    exact Q7 [] hF hle9 ⟨rd.ofRow (Row.lit 26 2 1 _ _ rfl (by omega)) hz (trs_cons hr32 (trivial)) hle9, rfl⟩) ?_
   refine Q9 (some 44) [(1, 0)] ([]) (fun _ => fun u sg H => ∃ d0 d1, u = .agg #[d0, d1] ∧ RdL H sXa.d [d0, d1] ∧ sg = []) (by
    intro H' X F hle; have hL := Le.trans hL hle; intro _
    rintro v43 _ Hi43 hle43 ⟨hr43, rfl⟩
    replace hr43 := rd.mono hle43 hr43
    intro hF; refine Qs (law_tree (t := sXa) hr43) ⟨rfl, rfl, trivial⟩ rfl ?_
    rintro _ own H44 ⟨a44, b44, rfl, hr44, rfl, hle44⟩
    have hL := Le.trans hL hle44; refine Qi ?_
    exact Q7 [] hF hle44 ⟨a44, b44, rfl, hr44, rfl⟩) ?_
   refine Qa (some 45) [] (by
    intro H' X F hle; have hL := Le.trans hL hle; intro hF; refine Qm 1 0 [_, _] rfl rfl rfl ⟨rfl, rfl, trivial⟩ rfl rfl ?_
    exact Qd hF) ?_
   refine Q9 (some 46) [(3, 0)] ([]) (fun _ => fun u sg H => rd H (.s 2 (Tr.ds [sA])) u ∧ sg = []) (by
    intro H' X F hle; have hL := Le.trans hL hle; have hr32 := RdL.mono hle hr32; intro hF
    refine Zg (r := [_, _]) [(0, [_, _])] ⟨rfl, ⟨_, rfl, rfl⟩, trivial⟩ rfl rfl rfl rfl ?_; intro g46; refine Qi ?_
    refine Zs (fun H9 hle9 hz => ?_)
    exact Q7 [] hF hle9 ⟨rd.ofRow (Row.lit 26 2 1 _ _ rfl (by omega)) hz (trs_cons hr32 (trivial)) hle9, rfl⟩) ?_
   refine ⟨by kernel_rfl, .refl _, ?_⟩
   ·
    intro H9 hle
    rintro v43 _ Hi43 hle43 ⟨hr43, rfl⟩
    rintro _ _ Hi44 hle44 ⟨a44, b44, rfl, hr44, rfl⟩
    replace hr44 := RdL.mono hle44 hr44
    rintro v46 _ Hi46 hle46 ⟨hr46, rfl⟩
    replace hr46 := rd.mono hle46 hr46
    have hL := Le.trans hL hle; have hmd := rd.mono hle hmd; have hr31 := RdL.mono hle hr31; have hr32 := RdL.mono hle hr32; have hr33 := RdL.mono hle hr33; have hr41 := rd.mono hle hr41; refine Qw (own' := _ :: _ :: _ :: _ :: own) rfl ?_; refine Zi (env' := [(0, _), (1, _), (2, _), (3, _), (4, _), (5, _), (44, _), (46, _)]) ⟨rfl, rfl, rfl, rfl, rfl, rfl, rfl, rfl, trivial⟩ ?_; refine Qs (law_tree (t := sYa) hr46) ⟨rfl, rfl, trivial⟩ rfl ?_
    rintro _ own H47 ⟨a47, b47, rfl, hr47, rfl, hle47⟩
    have hL := Le.trans hL hle47; have hmd := rd.mono hle47 hmd; have hr31 := RdL.mono hle47 hr31; have hr32 := RdL.mono hle47 hr32; have hr33 := RdL.mono hle47 hr33; have hr41 := rd.mono hle47 hr41; have hr44 := RdL.mono hle47 hr44; refine Qs (Diff_n uni2 (by simp) (by simp) (by decide) hr44 hr47) ⟨rfl, rfl, trivial⟩ rfl ?_
    rintro v48 own H48 ⟨hr48, rfl, hle48⟩
    replace hr48 : rd H48 (.s 4 (eiD [⟨3, [], sYa⟩])) v48 := by
      rw [ed2, ← eiD_of] at hr48
      exact hr48
    have hL := Le.trans hL hle48; have hmd := rd.mono hle48 hmd; have hr31 := RdL.mono hle48 hr31; have hr32 := RdL.mono hle48 hr32; have hr33 := RdL.mono hle48 hr33; have hr41 := rd.mono hle48 hr41; refine Qe rfl rfl (Qi (Qc (Qj ?_))); refine Q4 13  [(0, _), (1, _), (2, _), (3, _), (4, _), (5, _), (6, _)] follows_mixed ⟨rfl, rfl, rfl, rfl, rfl, rfl, rfl, trivial⟩ ?_
    refine Qa (some 50) [] (by
     intro H' X F hle; have hL := Le.trans hL hle; intro hF; refine Qm 1 0 [_, _] rfl rfl rfl ⟨rfl, rfl, trivial⟩ rfl rfl ?_
     exact Qd hF) ?_
    refine Q9 (some 51) [(0, 0)] ([]) (fun _ => fun u sg H => rd H (.s 2 (Tr.ds [sA])) u ∧ sg = []) (by
     intro H' X F hle; have hL := Le.trans hL hle; have hr32 := RdL.mono hle hr32; intro hF
     refine Zg (r := [_, _]) [(0, [_, _])] ⟨rfl, ⟨_, rfl, rfl⟩, trivial⟩ rfl rfl rfl rfl ?_; intro g51; refine Qi ?_
     refine Zs (fun H9 hle9 hz => ?_)
     exact Q7 [] hF hle9 ⟨rd.ofRow (Row.lit 26 2 1 _ _ rfl (by omega)) hz (trs_cons hr32 (trivial)) hle9, rfl⟩) ?_
    refine Q9 (some 52) [(1, 0)] ([]) (fun _ => fun u sg H => ∃ d0 d1, u = .agg #[d0, d1] ∧ RdL H sXa.d [d0, d1] ∧ sg = []) (by
     intro H' X F hle; have hL := Le.trans hL hle; intro _
     rintro v51 _ Hi51 hle51 ⟨hr51, rfl⟩
     replace hr51 := rd.mono hle51 hr51
     intro hF; refine Qs (law_tree (t := sXa) hr51) ⟨rfl, rfl, trivial⟩ rfl ?_
     rintro _ own H52 ⟨a52, b52, rfl, hr52, rfl, hle52⟩
     have hL := Le.trans hL hle52; refine Qi ?_
     exact Q7 [] hF hle52 ⟨a52, b52, rfl, hr52, rfl⟩) ?_
    refine Q9 (some 53) [] ([]) (fun _ => fun u sg H => rd H (.s 1 (ints [2])) u ∧ sg = []) (by
     intro H' X F hle; have hL := Le.trans hL hle; intro hF
     refine Zg (r := [_]) [(0, [_])] ⟨rfl, ⟨_, rfl, rfl⟩, trivial⟩ rfl rfl rfl rfl ?_; intro g53; refine Qi ?_
     refine Zs (fun H9 hle9 hz => ?_)
     exact Q7 [] hF hle9 ⟨rd.ofRow (Row.lit 3 1 1 _ _ rfl (by omega)) hz (RdL.vals [.int .i64 2]) hle9, rfl⟩) ?_
    refine Qa (some 54) [] (by
     intro H' X F hle; have hL := Le.trans hL hle; intro hF; refine Qm 0 0 [_, _] rfl rfl rfl ⟨rfl, rfl, trivial⟩ rfl rfl ?_
     exact Qd hF) ?_
    refine Q9 (some 55) [(3, 1), (4, 0)] ([]) (fun _ => fun u sg H => ∃ a b c d, u = .agg #[a, b, c, d] ∧ RdL H (Ei.d ⟨1, [2], sB⟩) [a, b, c, d] ∧ sg = []) (by
     intro H' X F hle; have hL := Le.trans hL hle; have hr33 := RdL.mono hle hr33; intro _
     rintro v53 _ Hi53 hle53 ⟨hr53, rfl⟩
     replace hr53 := rd.mono hle53 hr53
     intro hF; refine Q8 [(0, [_]), (1, [_]), (2, [_, _])] ⟨rfl, ⟨_, rfl, rfl⟩, rfl, ⟨_, rfl, one_cells hr53.one⟩, rfl, ⟨_, rfl, rfl⟩, trivial⟩ rfl rfl (Qi ?_)
     exact Q7 [] hF (Le.refl _) ⟨_, _, _, _, rfl, ei_mk (e := ⟨1, [2], sB⟩) hr53 hr33, rfl⟩) ?_
    refine Q9 (some 56) [(5, 0)] ([]) (fun _ => fun u sg H => rd H (.s 4 (eiD [⟨1, [2], sB⟩])) u ∧ sg = []) (by
     intro H' X F hle; have hL := Le.trans hL hle; intro _
     rintro _ _ Hi55 hle55 ⟨p0, p1, p2, p3, rfl, hr55, rfl⟩
     replace hr55 := RdL.mono hle55 hr55
     intro hF
     refine Zg (r := [_, _, _, _]) [(0, [_, _, _, _])] ⟨rfl, ⟨_, rfl, rfl⟩, trivial⟩ rfl rfl rfl rfl ?_; intro g56; refine Qi ?_
     refine Zs (fun H9 hle9 hz => ?_)
     exact Q7 [] hF hle9 ⟨rd.ofRow (Row.lit 46 4 1 _ _ rfl (by omega)) hz (by simpa [eiD] using hr55) hle9, rfl⟩) ?_
    refine Qa (some 57) [(2, 4), (6, 0)] (by
     intro H' X F hle; have hL := Le.trans hL hle; intro _
     rintro _ _ Hi52 hle52 ⟨a52, b52, rfl, hr52, rfl⟩
     replace hr52 := RdL.mono hle52 hr52
     intro _
     rintro v56 _ Hi56 hle56 ⟨hr56, rfl⟩
     replace hr56 := rd.mono hle56 hr56
     intro hF; refine Qs (Apply_bad ap3 (by decide) (by decide) (by decide) hr52 hr56) ⟨rfl, rfl, trivial⟩ rfl ?_
     rintro _ own H57 ⟨rfl, rfl, hle57⟩
     have hL := Le.trans hL hle57; refine Qi ?_
     exact Q7 [] hF hle57 ⟨rfl, rfl⟩) ?_
    refine Qa (some 49) [(7, 0)] (fun _ _ _ _ hF => Qb rfl rfl (Qd hF)) ?_; refine Qa (some 58) [(8, 0)] (fun _ _ _ _ hF => Qu rfl rfl rfl (Qd hF)) ?_; refine Qa (some 59) [(8, 1)] (fun _ _ _ _ hF => Qu rfl rfl rfl (Qd hF)) ?_
    refine Z5 true [] (some 7) [] ([]) (fun _ => fun u sg H => ∃ g, u = .pointer (some ⟨g, 0, none⟩) ∧ sg = [[(g, .cells #[.string ⟨#[]⟩, .slice none 0 0] 26 (0, 0))]]) (by
     intro H' X F hle; have hL := Le.trans hL hle; intro hF
     refine Zc rfl ?_; intro g7; refine Qi ?_
     exact Q7 [_] hF (Le.refl _) ⟨_, rfl, rfl⟩) ?_
    refine Z5 false [11] none [(11, 0), (9, 2)] ([]) (fun vs u sg H => ∃ g, nthV vs 0 = .pointer (some ⟨g, 0, none⟩) ∧ sg = [[(g, .cells #[.string ⟨#[]⟩, .slice none 0 0] 26 (0, 0))]]) (by
     intro H' X F hle; have hL := Le.trans hL hle; intro _
     rintro _ _ Hr hler ⟨g7, rfl, rfl⟩
     intro hF; refine Qw (own' := _ :: _) rfl ?_; refine Qq 0 0 (c' := #[_, _]) (own' := [(_, .cells #[_, _] _ _)] :: _) rfl rfl rfl rfl rfl ⟨rfl, rfl, trivial⟩ (by simp) rfl rfl rfl (Qi ?_)
     exact Q7 [_] hF (Le.refl _) ⟨_, rfl, rfl⟩) ?_
    refine ⟨by kernel_rfl, .refl _, ?_⟩
    ·
     intro H10 hle
     rintro v51 _ Hi51 hle51 ⟨hr51, rfl⟩
     rintro _ _ Hi52 hle52 ⟨a52, b52, rfl, hr52, rfl⟩
     rintro v53 _ Hi53 hle53 ⟨hr53, rfl⟩
     rintro _ _ Hi55 hle55 ⟨p0, p1, p2, p3, rfl, hr55, rfl⟩
     rintro v56 _ Hi56 hle56 ⟨hr56, rfl⟩
     rintro _ _ Hr hler ⟨g7, rfl, rfl⟩
     rintro _ _ Hr hler ⟨g7, e7, rfl⟩
     cases e7
     have hL := Le.trans hL hle; have hmd := rd.mono hle hmd; have hr31 := RdL.mono hle hr31; have hr32 := RdL.mono hle hr32; have hr33 := RdL.mono hle hr33; have hr41 := rd.mono hle hr41; have hr48 := rd.mono hle hr48; refine Qw (own' := _ :: _ :: _ :: _ :: _ :: own) rfl ?_; refine Zi (env' := [(0, _), (1, _), (2, _), (3, _), (4, _), (5, _), (6, _), (59, _)]) ⟨rfl, rfl, rfl, rfl, rfl, rfl, rfl, rfl, trivial⟩ (Qe rfl rfl (Q3 ?_)); refine Qm 2 0 [_, _] rfl rfl rfl ⟨rfl, rfl, trivial⟩ rfl rfl ?_; refine Qm 1 0 [_, _] rfl rfl rfl ⟨rfl, rfl, trivial⟩ rfl rfl ?_
     refine Zg (r := [_, _, _, _]) [(0, [_, _]), (1, [_, _])] ⟨rfl, ⟨_, rfl, rfl⟩, rfl, ⟨_, rfl, rfl⟩, trivial⟩ rfl rfl rfl rfl ?_; intro g63
     refine Zy (fun H11 hle hz_g63 => ?_)
     have hL := Le.trans hL hle; have hmd := rd.mono hle hmd; have hr31 := RdL.mono hle hr31; have hr32 := RdL.mono hle hr32; have hr33 := RdL.mono hle hr33; have hr41 := rd.mono hle hr41; have hr48 := rd.mono hle hr48
     have hk63 : rd H11 (.s 2 (Tr.ds [sA, sB])) _ := rd.ofRow (Row.lit 26 2 2 _ _ rfl (by omega)) hz_g63 (trs_cons hr32 (trs_cons hr33 (trivial))) (Le.refl _)
     refine Qs (law_tree (t := sXab) hk63) ⟨rfl, rfl, trivial⟩ rfl ?_
     rintro _ own H64 ⟨a64, b64, rfl, hr64, rfl, hle64⟩
     have hL := Le.trans hL hle64; have hmd := rd.mono hle64 hmd; have hr31 := RdL.mono hle64 hr31; have hr41 := rd.mono hle64 hr41; have hr48 := rd.mono hle64 hr48
     refine Zg (r := [_]) [(0, [_])] ⟨rfl, ⟨_, rfl, rfl⟩, trivial⟩ rfl rfl rfl rfl ?_; intro g65
     refine Zy (fun H12 hle hz_g65 => ?_)
     have hL := Le.trans hL hle; have hmd := rd.mono hle hmd; have hr31 := RdL.mono hle hr31; have hr41 := rd.mono hle hr41; have hr48 := rd.mono hle hr48; have hr64 := RdL.mono hle hr64
     have hr65 : rd H12 (.s 1 (ints [1])) _ := rd.ofRow (Row.lit 3 1 1 _ _ rfl (by omega)) hz_g65 (RdL.vals [.int .i64 1]) (Le.refl _)
     refine Q8 [(0, [_]), (1, [_])] ⟨rfl, ⟨_, rfl, rfl⟩, rfl, ⟨_, rfl, rfl⟩, trivial⟩ rfl rfl ?_
     refine Zg (r := [_, _, _, _]) [(0, [_, _, _, _])] ⟨rfl, ⟨_, rfl, rfl⟩, trivial⟩ rfl rfl rfl rfl ?_; intro g67
     refine Zy (fun H13 hle hz_g67 => ?_)
     have hL := Le.trans hL hle; have hmd := rd.mono hle hmd; have hr31 := RdL.mono hle hr31; have hr41 := rd.mono hle hr41; have hr48 := rd.mono hle hr48; have hr64 := RdL.mono hle hr64; have hr65 := rd.mono hle hr65
     have hr67 : rd H13 (.s 4 (eiD [⟨2, [1], Tr.zero⟩])) _ := rd.ofRow (Row.lit 46 4 1 _ _ rfl (by omega)) hz_g67 (ei_mk (e := ⟨2, [1], Tr.zero⟩) hr65 (zero_rd _)) (Le.refl _)
     refine Qs (Invert_ok iv4 (by decide) (by decide) (by decide) hr64 hr67) ⟨rfl, rfl, trivial⟩ rfl ?_
     rintro _ own H68 ⟨⟨v68, rfl, hr68⟩, rfl, hle68⟩
     have hL := Le.trans hL hle68; have hmd := rd.mono hle68 hmd; have hr31 := RdL.mono hle68 hr31; have hr41 := rd.mono hle68 hr41; have hr48 := rd.mono hle68 hr48; refine Qb rfl rfl (Qu rfl rfl rfl (Qu rfl rfl rfl (Qe rfl rfl (Qe rfl rfl (Qi ?_))))); refine Qc (Qj ?_)
     obtain ⟨A5, c5, rfl, _, _⟩ := eis_len hr41
     obtain ⟨b5, o5, p5, x5, y5, rfl, ha1, hpp1, _⟩ := eis_at hr41 (i := 0) (e := ⟨2, [0], Tr.zero⟩) rfl
     obtain ⟨A6, c6, rfl, _, _⟩ := vals_len (l := [Value.int .i64 0]) hpp1
     obtain ⟨b6, o6, rfl, hp1⟩ := vals_at (l := [Value.int .i64 0]) hpp1 (i := 0) rfl
     obtain ⟨A7, c7, rfl, _, _⟩ := eis_len hr48
     obtain ⟨b7, o7, p7, x7, y7, rfl, ha2, _, _⟩ := eis_at hr48 (i := 0) (e := ⟨3, [], sYa⟩) rfl
     obtain ⟨A8, c8, rfl, _, _⟩ := eis_len hr68
     obtain ⟨b8, o8, p8, x8, y8, rfl, ha3, _, hx8⟩ := eis_at hr68 (i := 0) (e := ⟨1, [1], sB⟩) rfl
     obtain rfl := lab_of hx8
     refine Q4 3  [(0, _), (1, _), (2, _), (3, _), (4, _), (5, _), (6, _), (8, _), (9, _), (10, _)] follows_mixed ⟨rfl, rfl, rfl, rfl, rfl, rfl, rfl, rfl, rfl, rfl, trivial⟩ ?_
     refine Qa (some 71) [] (by
      intro H' X F hle; have hL := Le.trans hL hle; intro hF; refine Qm 4 0 [_, _, _] rfl rfl rfl ⟨rfl, rfl, rfl, trivial⟩ rfl rfl ?_
      exact Qd hF) ?_
     refine Q9 (some 72) [(0, 0)] ([]) (fun _ => fun u sg H => ∃ d0 d1, u = .agg #[d0, d1] ∧ RdL H mainT.d [d0, d1] ∧ sg = []) (by
      intro H' X F hle; have hL := Le.trans hL hle; have hmd := rd.mono hle hmd; intro hF; refine Qs (diff_ToTree hmd) ⟨rfl, trivial⟩ rfl ?_
      rintro _ own H72 ⟨a72, b72, rfl, hr72, rfl, hle72⟩
      have hL := Le.trans hL hle72; refine Qi ?_
      exact Q7 [] hF hle72 ⟨a72, b72, rfl, hr72, rfl⟩) ?_
     refine Qa (some 73) [] (by
      intro H' X F hle; have hL := Le.trans hL hle; intro hF; refine Qm 3 0 [_, _] rfl rfl rfl ⟨rfl, rfl, trivial⟩ rfl rfl ?_
      exact Qd hF) ?_
     refine ⟨by kernel_rfl, .refl _, ?_⟩
     ·
      intro H14 hle
      rintro _ _ Hi72 hle72 ⟨a72, b72, rfl, hr72, rfl⟩
      replace hr72 := RdL.mono hle72 hr72
      have hL := Le.trans hL hle; have hr31 := RdL.mono hle hr31; have ha1 := hAt.mono hle ha1; have ha2 := hAt.mono hle ha2; have ha3 := hAt.mono hle ha3; have hp1 := cel_le hle hp1; refine Qw (own' := _ :: _ :: _ :: _ :: _ :: own) rfl ?_; refine Zi (env' := [(0, _), (1, _), (2, _), (3, _), (4, _), (5, _), (6, _), (8, _), (9, _), (10, _), (72, _), (73, _)]) ⟨rfl, rfl, rfl, rfl, rfl, rfl, rfl, rfl, rfl, rfl, rfl, rfl, trivial⟩ ?_; refine Qs (ref_same _ _ _ (Nat.le_refl _) hr72 hr31) ⟨rfl, rfl, trivial⟩ rfl ?_
      rintro _ own Hs74 ⟨rfl, rfl, hles74⟩
      rw [eqb_self]
      have hL := Le.trans hL hles74; have hr31 := RdL.mono hles74 hr31; have ha1 := hAt.mono hles74 ha1; have ha2 := hAt.mono hles74 ha2; have ha3 := hAt.mono hles74 ha3; have hp1 := cel_le hles74 hp1; refine Qb rfl rfl ?_; refine Qf rfl rfl rfl (Qb rfl rfl ?_); refine Qf rfl rfl rfl (Qn rfl rfl ?_); refine Qf rfl rfl rfl (Za rfl rfl rfl ?_)
      rw [decide_eq_true (by first | rfl | decide | omega)]
      refine Qz rfl rfl rfl rfl (Qb rfl rfl ?_); refine Qf rfl rfl rfl (Qb rfl rfl ?_); refine Qf rfl rfl rfl ?_; refine Qo (0) rfl rfl rfl (by simp) rfl ?_; refine Qf rfl rfl rfl (Qg rfl rfl ?_); refine Qf rfl rfl rfl ?_; refine Qp rfl (ha1.1) rfl ?_; refine Qf rfl rfl rfl (Za rfl rfl rfl ?_)
      rw [decide_eq_true (by first | rfl | decide | omega)]
      refine Qz rfl rfl rfl rfl (Qb rfl rfl ?_); refine Qf rfl rfl rfl (Qb rfl rfl ?_); refine Qf rfl rfl rfl ?_; refine Qo (0) rfl rfl rfl (by simp) rfl ?_; refine Qf rfl rfl rfl (Qg rfl rfl ?_); refine Qf rfl rfl rfl ?_; refine Qp rfl (ha1.2.1) rfl ?_; refine Qf rfl rfl rfl (Qn rfl rfl ?_); refine Qf rfl rfl rfl (Za rfl rfl rfl ?_)
      rw [decide_eq_true (by first | rfl | decide | omega)]
      refine Qz rfl rfl rfl rfl (Qb rfl rfl ?_); refine Qf rfl rfl rfl (Qb rfl rfl ?_); refine Qf rfl rfl rfl ?_; refine Qo (0) rfl rfl rfl (by simp) rfl ?_; refine Qf rfl rfl rfl (Qg rfl rfl ?_); refine Qf rfl rfl rfl ?_; refine Qp rfl (ha1.2.1) rfl ?_; refine Qf rfl rfl rfl ?_; refine Qo (0) rfl rfl rfl (by simp) rfl ?_; refine Qf rfl rfl rfl ?_; refine Qp rfl (hp1) rfl ?_; refine Qf rfl rfl rfl (Za rfl rfl rfl ?_)
      rw [decide_eq_true (by first | rfl | decide | omega)]
      refine Qz rfl rfl rfl rfl (Qb rfl rfl ?_); refine Qf rfl rfl rfl (Qb rfl rfl ?_); refine Qf rfl rfl rfl (Qn rfl rfl ?_); refine Qf rfl rfl rfl (Za rfl rfl rfl ?_)
      rw [decide_eq_true (by first | rfl | decide | omega)]
      refine Qz rfl rfl rfl rfl (Qb rfl rfl ?_); refine Qf rfl rfl rfl (Qb rfl rfl ?_); refine Qf rfl rfl rfl ?_; refine Qo (0) rfl rfl rfl (by simp) rfl ?_; refine Qf rfl rfl rfl (Qg rfl rfl ?_); refine Qf rfl rfl rfl ?_; refine Qp rfl (ha2.1) rfl ?_; refine Qf rfl rfl rfl (Za rfl rfl rfl ?_)
      rw [decide_eq_true (by first | rfl | decide | omega)]
      refine Qz rfl rfl rfl rfl (Qb rfl rfl ?_); refine Qf rfl rfl rfl (Qb rfl rfl ?_); refine Qf rfl rfl rfl (Za rfl rfl rfl ?_)
      rw [decide_eq_true (by first | rfl | decide | omega)]
      refine Qz rfl rfl rfl rfl (Qb rfl rfl ?_); refine Qf rfl rfl rfl (Qb rfl rfl ?_); refine Qf rfl rfl rfl (Qn rfl rfl ?_); refine Qf rfl rfl rfl (Za rfl rfl rfl ?_)
      rw [decide_eq_true (by first | rfl | decide | omega)]
      refine Qz rfl rfl rfl rfl (Qb rfl rfl ?_); refine Qf rfl rfl rfl (Qb rfl rfl ?_); refine Qf rfl rfl rfl (Za rfl rfl rfl ?_)
      rw [decide_eq_true (by first | rfl | decide | omega)]
      refine Qz rfl rfl rfl rfl (Qb rfl rfl ?_); refine Qf rfl rfl rfl (Qb rfl rfl ?_); refine Qf rfl rfl rfl ?_; refine Qo (0) rfl rfl rfl (by simp) rfl ?_; refine Qf rfl rfl rfl (Qg rfl rfl ?_); refine Qf rfl rfl rfl ?_; refine Qp rfl (ha3.1) rfl ?_; refine Qf rfl rfl rfl (Za rfl rfl rfl ?_)
      rw [decide_eq_true (by first | rfl | decide | omega)]
      refine Qz rfl rfl rfl rfl (Qb rfl rfl ?_); refine Qf rfl rfl rfl (Qb rfl rfl ?_); refine Qf rfl rfl rfl ?_; refine Qo (0) rfl rfl rfl (by simp) rfl ?_; refine Qf rfl rfl rfl (Qg rfl rfl ?_); refine Qf rfl rfl rfl (Qg rfl rfl ?_); refine Qf rfl rfl rfl ?_; refine Qp rfl (ha3.2.2.1) rfl ?_; refine Qf rfl rfl rfl (TL.eqlS rfl rfl rfl ?_)
      rw [decide_eq_true (show lB = ⟨#[98]⟩ from rfl)]
      refine Qz rfl rfl rfl rfl (Qb rfl rfl ?_); refine Qf rfl rfl rfl ?_; refine Qm 3 0 [_, _] rfl rfl rfl ⟨rfl, rfl, trivial⟩ rfl rfl ?_; refine Qf rfl rfl rfl ?_; refine Qs (diff_Count _ mainT (Nat.le_refl _) (by omega) hr31) ⟨rfl, trivial⟩ rfl ?_
      rintro _ own H146 ⟨rfl, rfl, hle146⟩
      rw [hsz]
      have hL := Le.trans hL hle146; refine Qf rfl rfl rfl (Za rfl rfl rfl ?_)
      rw [decide_eq_true (by first | rfl | decide | omega)]
      refine Qz rfl rfl rfl rfl (Qe rfl rfl (Qi (Qc (Qy (Q5 5 rfl rfl ?_)))))
      exact ⟨rfl, rfl, hL⟩

end Go.Proofs.YtaomdfcplamenaaGreatDoor.K

namespace Go.Proofs.YtaomdfcplamenaaGreatDoor.K
open Go Go.RowKit Go.Proofs

theorem ints_le {H : Hp} {l : List Int} {v : Value} (h : rd H (.s 1 (ints l)) v) : l.length ≤ 9223372036854775807 := by
  obtain ⟨A, c, rfl, h1, h2⟩ := vals_len h
  rw [List.length_map] at h1; omega
section
variable {P : Program} {w0 : World} {N : Nat} {Q : Exit → Act → World → Prop} {env : Env} {own : List Seg} {H : Hp} {ops : Array Oper} {rest : List Oper}
variable {d : Option Tmp} {ty : TypeId} {pos : String} {af : Array Edge}
end
theorem changedN_size {l : List Int} : ∀ (n : Nat) (t : Tr) (a : Nat) (outs : List Ei), (changedN l n t a outs).2.size ≤ t.size + n * 4
  | 0, t, a, outs => by simp [changedN]
  | n + 1, t, a, outs => by
    have ih := changedN_size (l := l) n (roundC l t a).1 (roundC l t a).2.1 (outs ++ (roundC l t a).2.2)
    have hr : (roundC l t a).1.size ≤ t.size + 4 := by
      cases hst : stepI t (roundE l (pathC l t a)).1 with
      | inl c => rw [roundC_bad hst]; simp
      | inr p =>
        obtain ⟨b, u⟩ := p
        rw [roundC_ok hst]
        have h1 := (stepI_size hst).1
        have h2 : (roundE l (pathC l t a)).1.tree.size ≤ 4 := by
          unfold roundE
          split
          · exact (grow1_le _ _).2
          · split
            · show Tr.zero.size ≤ 4; decide
            · exact (grow1_le _ _).2
        simp only
        omega
    simp only [changedN]
    rw [Nat.add_mul]
    omega
theorem changedI_size (t : Tr) (l : List Int) : (changedI t l).2.size ≤ t.size + 24 := by
  have h := changedN_size (l := l) (min (l.length / 4) 6) t 0 []
  have h2 : min (l.length / 4) 6 * 4 ≤ 24 := by omega
  unfold changedI
  omega
end Go.Proofs.YtaomdfcplamenaaGreatDoor.K

namespace Go.Proofs.YtaomdfcplamenaaGreatDoor.K
open Go Go.RowKit Go.Proofs

theorem sub_putT : ∀ (p : Path) (t : Tr) {s : Tr} (x : Tr), sub t p = some s → sub (putT t p x) p = some x
  | [], t, s, x, _ => by cases x; simp [putT, sub]
  | i :: q, .node l ks, s, x, h => by
    simp only [sub, Option.bind_eq_some_iff] at h
    obtain ⟨u, hu, hs⟩ := h
    have hi := (List.getElem?_eq_some_iff.1 hu).1
    simp only [putT, hu, sub, List.getElem?_set_self hi, Option.bind_some]
    exact sub_putT q u x hs
theorem putT_putT : ∀ (p : Path) (t : Tr) {s : Tr} (x y : Tr), sub t p = some s → putT (putT t p x) p y = putT t p y
  | [], t, s, x, y, _ => by simp [putT]
  | i :: q, .node l ks, s, x, y, h => by
    simp only [sub, Option.bind_eq_some_iff] at h
    obtain ⟨u, hu, hs⟩ := h
    have hi := (List.getElem?_eq_some_iff.1 hu).1
    simp only [putT, hu, List.getElem?_set_self hi, List.set_set, putT_putT q u x y hs]
theorem putT_same : ∀ (p : Path) (t : Tr) {s : Tr}, sub t p = some s → putT t p s = t
  | [], t, s, h => by
    have h : t = s := by simpa [sub] using h
    simp [putT, h]
  | i :: q, .node l ks, s, h => by
    simp only [sub, Option.bind_eq_some_iff] at h
    obtain ⟨u, hu, hs⟩ := h
    simp only [putT, hu, putT_same q u hs]
    congr 1
    refine List.ext_getElem? fun k => ?_
    rw [List.getElem?_set]
    split
    · rename_i e
      subst e
      rw [if_pos (List.getElem?_eq_some_iff.1 hu).1, hu]
    · rfl
theorem subI_nn : ∀ (p : List Int) (t : Tr) {s : Tr}, subI t p = some s → ∀ x ∈ p, 0 ≤ x
  | [], _, _, _, x, hx => by simp at hx
  | i :: q, .node l ks, s, h, x, hx => by
    simp only [subI] at h
    split at h
    · cases h
    · simp only [Option.bind_eq_some_iff] at h
      obtain ⟨u, hu, hs⟩ := h
      rcases List.mem_cons.1 hx with rfl | hx
      · omega
      · exact subI_nn q u hs x hx
theorem subI_of_sub : ∀ (p : List Int) (t : Tr), (∀ x ∈ p, 0 ≤ x) → subI t p = sub t (p.map Int.toNat)
  | [], t, _ => by cases t; rfl
  | i :: q, .node l ks, h => by
    simp only [subI, List.map_cons, sub, if_neg (show ¬ i < 0 by have := h i (by simp); omega)]
    cases ks[i.toNat]? with
    | none => rfl
    | some u => exact subI_of_sub q u (fun x hx => h x (by simp [hx]))
theorem subI_put {t s x : Tr} {p : List Int} (h : subI t p = some s) : subI (putT t (p.map Int.toNat) x) p = some x := by
  rw [subI_of_sub _ _ (subI_nn p t h)]
  exact sub_putT _ _ _ (subI_sub p t h)
/-- The edit as it comes back. -/
def normI (e : Ei) : Ei := ⟨e.op, e.path, if e.op = 2 then Tr.zero else e.tree⟩
theorem del_ins (s x : Tr) (k : Nat) (hk : k ≤ s.kids.length) : delT (insT s k x) k = s := by
  obtain ⟨l, ks⟩ := s
  simp only [delT, insT, Tr.kids, Tr.lab] at *
  congr 1
  rw [List.append_assoc, List.take_append_of_le_length (by simp; omega), List.take_of_length_le (by simp; omega), List.drop_append, List.drop_of_length_le (by simp; omega)]
  simp only [List.nil_append, List.length_take, Nat.min_eq_left hk, show k + 1 - k = 1 by omega, List.singleton_append, List.drop_succ_cons, List.drop_zero]
  exact List.take_append_drop k ks
theorem ins_del (s y : Tr) (k : Nat) (hk : s.kids[k]? = some y) : insT (delT s k) k y = s := by
  obtain ⟨l, ks⟩ := s
  simp only [delT, insT, Tr.kids, Tr.lab] at *
  have hlt := (List.getElem?_eq_some_iff.1 hk).1
  congr 1
  rw [List.take_append_of_le_length (by simp; omega), List.take_of_length_le (by simp; omega), List.drop_append, List.drop_of_length_le (by simp; omega)]
  simp only [List.nil_append, List.length_take, Nat.min_eq_left (show k ≤ ks.length by omega), Nat.sub_self, List.drop_zero]
  rw [List.append_assoc, List.singleton_append, ← drop_cons hk]
  exact List.take_append_drop k ks
theorem insT_at (s x : Tr) (k : Nat) (hk : k ≤ s.kids.length) : (insT s k x).kids[k]? = some x := by
  obtain ⟨l, ks⟩ := s
  simp only [Tr.kids] at hk
  simp only [insT, Tr.kids]
  rw [List.append_assoc, List.getElem?_append_right (by simp; omega)]
  simp [Nat.min_eq_left hk]
theorem ins_len (s x : Tr) (k : Nat) (hk : k ≤ s.kids.length) : (insT s k x).kids.length = s.kids.length + 1 := by
  simp only [insT, Tr.kids, List.length_append, List.length_take, List.length_drop, List.length_singleton]; omega
theorem del_len (s : Tr) (k : Nat) (hk : k < s.kids.length) : (delT s k).kids.length = s.kids.length - 1 := by
  obtain ⟨l, ks⟩ := s
  simp only [Tr.kids] at hk
  simp only [delT, Tr.kids, List.length_append, List.length_take, List.length_drop]; omega
theorem step_inv {t u : Tr} {e b : Ei} (h : stepI t e = .inr (b, u)) : stepI u b = .inr (normI e, t) := by
  rcases stepI_cases h with ⟨h3, s, hs, rfl, rfl⟩ | ⟨h1, hp, s, hs, h0, hk, rfl, rfl⟩ | ⟨h2, hp, s, hs, h0, hk, rfl, rfl⟩
  · rw [step_rep (e := ⟨3, e.path, s⟩) (s := e.tree) rfl (subI_put hs)]
    simp only [normI, h3]
    rw [putT_putT _ _ _ _ (subI_sub _ _ hs), putT_same _ _ (subI_sub _ _ hs)]
    simp
  · have hkn : (e.path.getLastD 0).toNat ≤ s.kids.length := by omega
    rw [step_del (e := ⟨2, e.path, Tr.zero⟩) (s := insT s (e.path.getLastD 0).toNat e.tree) rfl hp (subI_put hs) (by rw [ins_len _ _ _ hkn]; simp only; omega)]
    simp only [normI, h1]
    rw [putT_putT _ _ _ _ (subI_sub _ _ hs), del_ins _ _ _ hkn, putT_same _ _ (subI_sub _ _ hs), List.getD_eq_getElem?_getD, insT_at _ _ _ hkn]
    simp
  · have hkn : (e.path.getLastD 0).toNat < s.kids.length := by omega
    obtain ⟨y, hy⟩ : ∃ y, s.kids[(e.path.getLastD 0).toNat]? = some y := ⟨_, List.getElem?_eq_getElem hkn⟩
    have hyd : s.kids.getD (e.path.getLastD 0).toNat Tr.zero = y := by rw [List.getD_eq_getElem?_getD, hy]; rfl
    rw [hyd]
    rw [step_ins (e := ⟨1, e.path, y⟩) (s := delT s (e.path.getLastD 0).toNat) rfl hp (subI_put hs) (by rw [del_len _ _ hkn]; simp only; omega)]
    simp only [normI, h2]
    rw [putT_putT _ _ _ _ (subI_sub _ _ hs), ins_del _ _ _ hy, putT_same _ _ (subI_sub _ _ hs)]
    simp
theorem applyI_append {t u : Tr} : ∀ {a b : List Ei}, applyI t a = .inr u → applyI t (a ++ b) = applyI u b := by
  intro a
  induction a generalizing t with
  | nil => intro b h; simp only [applyI, Sum.inr.injEq] at h; rw [h]; rfl
  | cons e r ih =>
    intro b h
    cases hst : stepI t e with
    | inl c => rw [applyI_bad hst] at h; cases h
    | inr p =>
      obtain ⟨b', t1⟩ := p
      rw [applyI_cons hst] at h
      rw [List.cons_append, applyI_cons hst]
      exact ih h
theorem invert_apply {t u : Tr} : ∀ {es : List Ei}, applyI t es = .inr u → ∃ bs, invertI t es = .inr bs ∧ applyI u bs = .inr t ∧ bs.length = es.length := by
  intro es
  induction es generalizing t with
  | nil => intro h; simp only [applyI, Sum.inr.injEq] at h; exact ⟨[], rfl, by simp [applyI, h], rfl⟩
  | cons e r ih =>
    intro h
    cases hst : stepI t e with
    | inl c => rw [applyI_bad hst] at h; cases h
    | inr p =>
      obtain ⟨b, t1⟩ := p
      rw [applyI_cons hst] at h
      obtain ⟨bs, h1, h2, h3⟩ := ih h
      refine ⟨bs ++ [b], by simp only [invertI, hst, h1], ?_, by simp [h3]⟩
      rw [applyI_append h2, applyI_cons (step_inv hst)]
      rfl
theorem treesI_le {B : Nat} : ∀ {es : List Ei}, (∀ e ∈ es, e.tree.size ≤ B) → treesI es ≤ es.length * B
  | [], _ => by simp [treesI]
  | e :: r, h => by
    have := treesI_le (B := B) (es := r) (fun x hx => h x (by simp [hx]))
    have h1 := h e (by simp)
    rw [treesI_cons, List.length_cons, Nat.add_mul]; omega
/-- What Changed hands out can be applied. -/
theorem walkC_len (l : List Int) (d : Nat) (x : Tr) (a : Nat) : (walkC l d x a).1.length ≤ d := (walkC_le l d x a).2.1
theorem roundE_bd (l : List Int) (t : Tr) (a : Nat) : (roundE l (pathC l t a)).1.path.length ≤ 6 ∧ (roundE l (pathC l t a)).1.tree.size ≤ 4 := by
  have hb6 := takeV_bd (l := l) (at_ := a) (n := 6) (by omega)
  have h1 := walkC_len l (takeV l a 6).toNat t (a + 1)
  have h2 : (pathC l t a).1.length ≤ 5 := by unfold pathC; omega
  unfold roundE
  split
  · exact ⟨by simp; omega, (grow1_le _ _).2⟩
  · split
    · exact ⟨by simp only; omega, by show Tr.zero.size ≤ 4; decide⟩
    · exact ⟨by simp only; omega, (grow1_le _ _).2⟩
theorem changedN_ok {l : List Int} : ∀ (n : Nat) (t t0 : Tr) (a : Nat) (outs : List Ei), applyI t0 outs = .inr t → (∀ e ∈ outs, e.path.length ≤ 6 ∧ e.tree.size ≤ 4) →
    applyI t0 (changedN l n t a outs).1 = .inr (changedN l n t a outs).2 ∧ (∀ e ∈ (changedN l n t a outs).1, e.path.length ≤ 6 ∧ e.tree.size ≤ 4) ∧ (changedN l n t a outs).1.length ≤ outs.length + n
  | 0, t, t0, a, outs, h, hb => by simp only [changedN]; exact ⟨h, hb, by omega⟩
  | n + 1, t, t0, a, outs, h, hb => by
    simp only [changedN]
    cases hst : stepI t (roundE l (pathC l t a)).1 with
    | inl c =>
      rw [roundC_bad hst]
      simp only [List.append_nil]
      have := changedN_ok (l := l) n t t0 (roundE l (pathC l t a)).2 outs h hb
      exact ⟨this.1, this.2.1, by omega⟩
    | inr p =>
      obtain ⟨b, u⟩ := p
      rw [roundC_ok hst]
      have := changedN_ok (l := l) n u t0 (roundE l (pathC l t a)).2 (outs ++ [(roundE l (pathC l t a)).1]) (by rw [applyI_append h, applyI_cons hst]; rfl) (fun e he => by
        rcases List.mem_append.1 he with he | he
        · exact hb e he
        · simp at he; subst he; exact roundE_bd l t a)
      refine ⟨this.1, this.2.1, ?_⟩
      have h3 := this.2.2
      have h4 : (outs ++ [(roundE l (pathC l t a)).1]).length = outs.length + 1 := by simp
      show (changedN l n u (roundE l (pathC l t a)).2 (outs ++ [(roundE l (pathC l t a)).1])).1.length ≤ _
      omega
theorem changedI_ok (t : Tr) (l : List Int) : applyI t (changedI t l).1 = .inr (changedI t l).2 ∧ (∀ e ∈ (changedI t l).1, e.path.length ≤ 6 ∧ e.tree.size ≤ 4) ∧ (changedI t l).1.length ≤ 6 := by
  have h := changedN_ok (l := l) (min (l.length / 4) 6) t t 0 [] rfl (by simp)
  refine ⟨h.1, h.2.1, ?_⟩
  have := h.2.2
  simp only [List.length_nil] at this
  unfold changedI
  omega
end Go.Proofs.YtaomdfcplamenaaGreatDoor.K

namespace Go.Proofs.YtaomdfcplamenaaGreatDoor.K
open Go Go.RowKit Go.Proofs

section
variable {d : Tr → Tr → Nat}
theorem alD_del (u : Tr) (a b : List Tr) : alD d (u :: a) b ≤ alD d a b + u.size := by
  cases b with
  | nil => rw [alD_nil2, alD_nil2]; simp only [Tr.sizes]; omega
  | cons v b => rw [alD_cons]; omega
theorem alD_ins (v : Tr) (a b : List Tr) : alD d a (v :: b) ≤ alD d a b + v.size := by
  cases a with
  | nil => rw [alD_nil, alD_nil]; simp only [Tr.sizes]; omega
  | cons u a => rw [alD_cons]; omega
theorem alD_lip : ∀ (a b : List Tr), (∀ x ∈ a, ∀ y ∈ b, x.size ≤ d x y + y.size ∧ y.size ≤ d x y + x.size) → Tr.sizes a ≤ alD d a b + Tr.sizes b ∧ Tr.sizes b ≤ alD d a b + Tr.sizes a
  | [], b, _ => by rw [alD_nil]; simp only [Tr.sizes]; omega
  | x :: a, [], _ => by rw [alD_nil2]; simp only [Tr.sizes]; omega
  | x :: a, y :: b, h => by
    have h0 := h x (by simp) y (by simp)
    have h1 := alD_lip a b (fun u hu v hv => h u (by simp [hu]) v (by simp [hv]))
    have h2 := alD_lip a (y :: b) (fun u hu v hv => h u (by simp [hu]) v hv)
    have h3 := alD_lip (x :: a) b (fun u hu v hv => h u hu v (by simp [hv]))
    rw [alD_cons]
    simp only [Tr.sizes] at *
    omega
termination_by a b => a.length + b.length
theorem alD_self : ∀ (a : List Tr), (∀ x ∈ a, d x x = 0) → alD d a a = 0
  | [], _ => by rw [alD_nil]; rfl
  | x :: a, h => by
    have h0 := h x (by simp)
    have h1 := alD_self a (fun u hu => h u (by simp [hu]))
    rw [alD_cons]; omega
/-! what is alike at both ends -/
theorem del_r (hl : ∀ x y, x.size ≤ d x y + y.size ∧ y.size ≤ d x y + x.size) (y : Tr) (b : List Tr) : ∀ (a : List Tr), alD d a b ≤ alD d a (y :: b) + y.size
  | [] => by rw [alD_nil, alD_nil]; simp only [Tr.sizes]; omega
  | u :: a => by
    have h1 := alD_del (d := d) u a b
    have h2 := del_r hl y b a
    have h3 := hl u y
    have e := alD_cons d u y a b
    omega
theorem del_l (hl : ∀ x y, x.size ≤ d x y + y.size ∧ y.size ≤ d x y + x.size) (x : Tr) (a : List Tr) : ∀ (b : List Tr), alD d a b ≤ alD d (x :: a) b + x.size
  | [] => by rw [alD_nil2, alD_nil2]; simp only [Tr.sizes]; omega
  | v :: b => by
    have h1 := alD_ins (d := d) v a b
    have h2 := del_l hl x a b
    have h3 := hl x v
    have e := alD_cons d x v a b
    omega
theorem alD_head (hl : ∀ x y, x.size ≤ d x y + y.size ∧ y.size ≤ d x y + x.size) (h0 : ∀ x, d x x = 0) (x : Tr) (a b : List Tr) : alD d (x :: a) (x :: b) = alD d a b := by
  have h1 := del_r hl x b a
  have h2 := del_l hl x a b
  have h3 := h0 x
  have e := alD_cons d x x a b
  omega
theorem alD_pre (hl : ∀ x y, x.size ≤ d x y + y.size ∧ y.size ≤ d x y + x.size) (h0 : ∀ x, d x x = 0) (a b : List Tr) : ∀ p : List Tr, alD d (p ++ a) (p ++ b) = alD d a b
  | [] => rfl
  | x :: p => by rw [List.cons_append, List.cons_append, alD_head hl h0, alD_pre hl h0 a b p]
theorem addmin (a b c : Nat) : min a b + c = min (a + c) (b + c) := by omega
theorem snoc3 (S T p q x y u : Nat) : min (min (S + (x + 0) + q) (min (min (S + p) (T + x)) (S + (x + 0) + y) + u)) (u + (S + (x + 0)) + y) = min (min (u + S + p) (min (min (S + q) (T + u)) (u + S + y) + x)) (u + (S + (x + 0)) + y) := by
  simp only [addmin, Nat.add_zero]
  rw [show S + x + q = S + q + x by omega, show S + p + u = u + S + p by omega, show T + x + u = T + u + x by omega, show S + x + y + u = u + S + y + x by omega, show u + (S + x) + y = u + S + y + x by omega]
  simp only [Nat.min_assoc, Nat.min_left_comm, Nat.min_comm, Nat.min_self, Nat.min_self_assoc]
theorem min9 (A7 A3 A1 A8 A4 A2 A9 A6 A5 p x y q u v : Nat) :
    min (min (min (min (A7 + p) (A3 + x)) (A1 + y) + q) (min (min (A8 + p) (A4 + x)) (A2 + y) + u)) (min (min (A9 + p) (A6 + x)) (A5 + y) + v) =
    min (min (min (min (A7 + q) (A8 + u)) (A9 + v) + p) (min (min (A3 + q) (A4 + u)) (A6 + v) + x)) (min (min (A1 + q) (A2 + u)) (A5 + v) + y) := by
  simp only [addmin]
  rw [Nat.add_right_comm A7 p q, Nat.add_right_comm A3 x q, Nat.add_right_comm A1 y q, Nat.add_right_comm A8 p u, Nat.add_right_comm A4 x u, Nat.add_right_comm A2 y u, Nat.add_right_comm A9 p v, Nat.add_right_comm A6 x v, Nat.add_right_comm A5 y v]
  simp only [Nat.min_assoc, Nat.min_left_comm, Nat.min_comm]
theorem alD_snoc (x y : Tr) : ∀ (a b : List Tr), alD d (a ++ [x]) (b ++ [y]) = min (min (alD d a b + d x y) (alD d a (b ++ [y]) + x.size)) (alD d (a ++ [x]) b + y.size)
  | [], [] => by
    simp only [List.nil_append]
    rw [alD_cons]
  | [], v :: b => by
    have ih := alD_snoc x y [] b
    have e1 := alD_cons d x v [] (b ++ [y])
    have e2 := alD_cons d x v [] b
    have n1 := alD_nil d (b ++ [y])
    have n2 := alD_nil d b
    have n3 := alD_nil d (v :: b)
    have n4 := alD_nil d (v :: (b ++ [y]))
    have s1 := Tr.sizes_append b [y]
    have s2 : Tr.sizes [y] = y.size := rfl
    have s3 : Tr.sizes (v :: b) = v.size + Tr.sizes b := rfl
    have s4 : Tr.sizes (v :: (b ++ [y])) = v.size + Tr.sizes (b ++ [y]) := rfl
    rw [List.nil_append] at ih ⊢
    rw [List.cons_append, e1, e2, ih, n1, n2, n3, n4, s4, s3, s1, s2]
    omega
  | u :: a, [] => by
    have ih := alD_snoc x y a []
    have e1 := alD_cons d u y (a ++ [x]) []
    have e2 := alD_cons d u y a []
    rw [List.nil_append] at ih ⊢
    rw [List.cons_append, e1, e2, ih]
    simp only [alD_nil2]
    rw [show Tr.sizes (u :: a) = u.size + Tr.sizes a from rfl, show Tr.sizes (u :: (a ++ [x])) = u.size + Tr.sizes (a ++ [x]) from rfl, Tr.sizes_append a [x], show Tr.sizes [x] = x.size + 0 from rfl]
    exact snoc3 _ _ _ _ _ _ _
  | u :: a, v :: b => by
    have i1 := alD_snoc x y a b
    have i2 := alD_snoc x y a (v :: b)
    have i3 := alD_snoc x y (u :: a) b
    have e1 := alD_cons d u v (a ++ [x]) (b ++ [y])
    have e2 := alD_cons d u v a b
    have e3 := alD_cons d u v a (b ++ [y])
    have e4 := alD_cons d u v (a ++ [x]) b
    rw [List.cons_append] at i2 i3
    rw [List.cons_append, List.cons_append, e1, i1, i2, i3, e2, e3, e4]
    exact min9 _ _ _ _ _ _ _ _ _ _ _ _ _ _ _
termination_by a b => a.length + b.length
theorem del_rs (hl : ∀ x y, x.size ≤ d x y + y.size ∧ y.size ≤ d x y + x.size) (y : Tr) : ∀ (a b : List Tr), alD d a b ≤ alD d a (b ++ [y]) + y.size
  | [], b => by rw [alD_nil, alD_nil, Tr.sizes_append]; omega
  | a, [] => by
    have := (alD_lip a [y] (fun x _ y _ => hl x y)).1
    rw [alD_nil2]
    simp only [List.nil_append, Tr.sizes] at *
    omega
  | u :: a, v :: b => by
    have i1 := del_rs hl y a b
    have i2 := del_rs hl y a (v :: b)
    have i3 := del_rs hl y (u :: a) b
    simp only [List.cons_append] at *
    have e1 := alD_cons d u v a b
    have e2 := alD_cons d u v a (b ++ [y])
    omega
termination_by a b => a.length + b.length
theorem del_ls (hl : ∀ x y, x.size ≤ d x y + y.size ∧ y.size ≤ d x y + x.size) (x : Tr) : ∀ (a b : List Tr), alD d a b ≤ alD d (a ++ [x]) b + x.size
  | a, [] => by rw [alD_nil2, alD_nil2, Tr.sizes_append]; omega
  | [], b => by
    have := (alD_lip [x] b (fun x _ y _ => hl x y)).2
    rw [alD_nil]
    simp only [List.nil_append, Tr.sizes] at *
    omega
  | u :: a, v :: b => by
    have i1 := del_ls hl x a b
    have i2 := del_ls hl x a (v :: b)
    have i3 := del_ls hl x (u :: a) b
    simp only [List.cons_append] at *
    have e1 := alD_cons d u v a b
    have e2 := alD_cons d u v (a ++ [x]) b
    omega
termination_by a b => a.length + b.length
theorem alD_suf (hl : ∀ x y, x.size ≤ d x y + y.size ∧ y.size ≤ d x y + x.size) (h0 : ∀ x, d x x = 0) : ∀ (s a b : List Tr), alD d (a ++ s) (b ++ s) = alD d a b
  | [], a, b => by simp
  | x :: s, a, b => by
    have h1 := del_rs hl x a b
    have h2 := del_ls hl x a b
    have h3 := h0 x
    have e := alD_snoc (d := d) x x a b
    have ih := alD_suf hl h0 s (a ++ [x]) (b ++ [x])
    rw [List.append_assoc, List.append_assoc, List.singleton_append] at ih
    rw [ih]
    omega
end
/-- The distance by the definition. -/
def dRK : Nat → Tr → Tr → Nat
  | 0, _, _ => 0
  | k + 1, x, y => if x.lab ≠ y.lab then x.size + y.size else alD (dRK k) x.kids y.kids
theorem dRK_eq : ∀ (k k' : Nat) (x y : Tr), x.size ≤ k → x.size ≤ k' → dRK k x y = dRK k' x y
  | 0, _, x, _, h, _ => by have := x.size_pos; omega
  | _ + 1, 0, x, _, _, h => by have := x.size_pos; omega
  | k + 1, k' + 1, x, y, h1, h2 => by
    simp only [dRK]
    rw [alD_congr (d := dRK k) (d' := dRK k')]
    intro c hc d _
    have := kid_size hc
    exact dRK_eq k k' c d (by omega) (by omega)
def dR (x y : Tr) : Nat := dRK x.size x y
theorem dR_eq (x y : Tr) : dR x y = if x.lab ≠ y.lab then x.size + y.size else alD dR x.kids y.kids := by
  obtain ⟨k, hk⟩ : ∃ k, x.size = k + 1 := ⟨x.size - 1, by have := x.size_pos; omega⟩
  have e1 : alD (dRK k) x.kids y.kids = alD dR x.kids y.kids := by
    refine alD_congr _ _ ?_
    intro c hc d _
    have := kid_size hc
    exact dRK_eq _ _ c d (by omega) (by omega)
  show dRK x.size x y = _
  rw [← e1]
  rw [show dRK x.size x y = dRK (k + 1) x y by rw [hk]]
  simp only [dRK]
theorem dR_lip' (n : Nat) : ∀ x y : Tr, x.size ≤ n → x.size ≤ dR x y + y.size ∧ y.size ≤ dR x y + x.size := by
  induction n with
  | zero => intro x y h; have := x.size_pos; omega
  | succ n ih =>
    intro x y h
    have hx := size_kids x
    have hy := size_kids y
    rw [dR_eq]
    split
    · omega
    · have := alD_lip (d := dR) x.kids y.kids (fun u hu v _ => ih u v (by have := kid_size hu; omega))
      omega
theorem dR_lip (x y : Tr) : x.size ≤ dR x y + y.size ∧ y.size ≤ dR x y + x.size := dR_lip' x.size x y (Nat.le_refl _)
theorem dR_self' (n : Nat) : ∀ x : Tr, x.size ≤ n → dR x x = 0 := by
  induction n with
  | zero => intro x h; have := x.size_pos; omega
  | succ n ih =>
    intro x h
    rw [dR_eq, if_neg (by simp)]
    exact alD_self _ (fun u hu => ih u (by have := kid_size hu; omega))
theorem dR_self (x : Tr) : dR x x = 0 := dR_self' x.size x (Nat.le_refl _)
theorem dR_le (x y : Tr) : dR x y ≤ x.size + y.size := by
  have hx := size_kids x
  have hy := size_kids y
  rw [dR_eq]
  split
  · omega
  · have := alD_le dR x.kids y.kids; omega
end Go.Proofs.YtaomdfcplamenaaGreatDoor.K

namespace Go.Proofs.YtaomdfcplamenaaGreatDoor.K
open Go Go.RowKit Go.Proofs

theorem mid_split (a b : List Tr) : ∃ s, a = a.take (fro a b) ++ (midA a b ++ s) ∧ b = a.take (fro a b) ++ (midB a b ++ s) := by
  have hf := fro_take a b
  have hfl := fro_le a b
  have hb := bak_le (fro a b) a b
  have hk := fro_take (rv (fro a b) a) (rv (fro a b) b)
  have hk2 : (rv (fro a b) a).take (bak (fro a b) a b) = (rv (fro a b) b).take (bak (fro a b) a b) := hk
  have e1 : ∀ (c : List Tr), bak (fro a b) a b ≤ c.length - fro a b → (c.drop (fro a b)).drop (c.length - bak (fro a b) a b - fro a b) = ((rv (fro a b) c).take (bak (fro a b) a b)).reverse := by
    intro c hc
    unfold rv
    rw [List.take_reverse, List.reverse_reverse, List.length_drop]
    congr 1
    omega
  refine ⟨(a.drop (fro a b)).drop (a.length - bak (fro a b) a b - fro a b), ?_, ?_⟩
  · unfold midA
    rw [List.take_append_drop, List.take_append_drop]
  · rw [e1 a hb.1, hk2, ← e1 b hb.2, hf]
    unfold midB
    rw [List.take_append_drop, List.take_append_drop]
theorem dist_dR' (n : Nat) : ∀ x y : Tr, x.size ≤ n → dist x y = dR x y := by
  induction n with
  | zero => intro x y h; have := x.size_pos; omega
  | succ n ih =>
    intro x y h
    rw [dist_eq]
    split
    · rename_i e; rw [e, dR_self]
    · rw [dR_eq]
      split
      · rfl
      · obtain ⟨s, h1, h2⟩ := mid_split x.kids y.kids
        have e1 : alD dist (midA x.kids y.kids) (midB x.kids y.kids) = alD dR (midA x.kids y.kids) (midB x.kids y.kids) := by
          refine alD_congr _ _ fun u hu v _ => ih u v ?_
          have := kid_size (mem_mid hu)
          omega
        have e2 : alD dR x.kids y.kids = alD dR (midA x.kids y.kids) (midB x.kids y.kids) := by
          rw [show alD dR x.kids y.kids = alD dR (x.kids.take (fro x.kids y.kids) ++ (midA x.kids y.kids ++ s)) (x.kids.take (fro x.kids y.kids) ++ (midB x.kids y.kids ++ s)) from by rw [← h1, ← h2]]
          rw [alD_pre dR_lip dR_self, alD_suf dR_lip dR_self]
        rw [e1, e2]
theorem dist_dR (x y : Tr) : dist x y = dR x y := dist_dR' x.size x y (Nat.le_refl _)
/-! the edits -/
def edI (l : List Ed) : List Ei := l.map Ed.i
theorem edI_append (a b : List Ed) : edI (a ++ b) = edI a ++ edI b := by simp [edI]
theorem nat_path (p : Path) : (p.map Int.ofNat).map Int.toNat = p := by
  induction p with
  | nil => rfl
  | cons i q ih => simp only [List.map_cons, List.cons.injEq]; exact ⟨by simp, ih⟩
theorem subI_nat (t : Tr) (p : Path) : subI t (p.map Int.ofNat) = sub t p := by
  rw [subI_of_sub, nat_path]
  intro x hx
  obtain ⟨k, _, rfl⟩ := List.mem_map.1 hx
  exact Int.natCast_nonneg k
theorem sub_app : ∀ (p q : Path) (t : Tr), sub t (p ++ q) = (sub t p).bind fun u => sub u q
  | [], q, t => by cases t; rfl
  | i :: p, q, .node l ks => by
    simp only [List.cons_append, sub]
    cases ks[i]? with
    | none => rfl
    | some u => exact sub_app p q u
theorem putT_app : ∀ (p q : Path) (t : Tr) {s : Tr} (x : Tr), sub t p = some s → putT t (p ++ q) x = putT t p (putT s q x)
  | [], q, t, s, x, h => by
    have h : t = s := by simpa [sub] using h
    simp [putT, h]
  | i :: p, q, .node l ks, s, x, h => by
    simp only [sub, Option.bind_eq_some_iff] at h
    obtain ⟨u, hu, hs⟩ := h
    simp only [List.cons_append, putT, hu, putT_app p q u x hs]
/-- Edits that lead from T to T', and their cost. -/
def Leads (T : Tr) (es : List Ei) (T' : Tr) (c : Nat) : Prop := applyI T es = .inr T' ∧ costI T es = c
theorem Leads.nil (T : Tr) : Leads T [] T 0 := ⟨rfl, rfl⟩
theorem Leads.cons {T u T' : Tr} {e b : Ei} {r : List Ei} {c k : Nat} (h : stepI T e = .inr (b, u)) (hr : Leads u r T' c) (hk : k = stepCost e b + c) : Leads T (e :: r) T' k :=
  ⟨by rw [applyI_cons h, hr.1], by rw [costI_cons h, hr.2, hk]⟩
theorem Leads.append {T u T' : Tr} : ∀ {a b : List Ei} {c k : Nat}, Leads T a u c → Leads u b T' k → Leads T (a ++ b) T' (c + k) := by
  intro a
  induction a generalizing T with
  | nil =>
    intro b c k h h2
    obtain ⟨h1, h3⟩ := h
    simp only [applyI, Sum.inr.injEq] at h1
    subst h1
    simp only [costI] at h3
    subst h3
    simpa using h2
  | cons e r ih =>
    intro b c k h h2
    obtain ⟨h1, h3⟩ := h
    cases hst : stepI T e with
    | inl q => rw [applyI_bad hst] at h1; cases h1
    | inr p =>
      obtain ⟨b', t1⟩ := p
      rw [applyI_cons hst] at h1
      rw [costI_cons hst] at h3
      exact Leads.cons hst (ih ⟨h1, rfl⟩ h2) (by omega)
theorem path_split (p : Path) (q : Nat) : (p ++ [q]).map Int.ofNat ≠ [] ∧ ((p ++ [q]).map Int.ofNat).dropLast = p.map Int.ofNat ∧ ((p ++ [q]).map Int.ofNat).getLastD 0 = (q : Int) := by
  refine ⟨by simp, by simp, ?_⟩
  rw [List.map_append]
  simp
section
variable {T : Tr} {p : Path} {l : ByteArray} {P S : List Tr}
theorem leads_del {x : Tr} {a : List Tr} {b : List Tr} {r : List Ei} {c : Nat} (hT : sub T p = some (.node l (P ++ (x :: a ++ S)))) (hr : Leads (putT T p (.node l (P ++ (a ++ S)))) r (putT T p (.node l (P ++ (b ++ S)))) c) :
    Leads T ((Ed.i ⟨2, p ++ [P.length], Tr.zero⟩) :: r) (putT T p (.node l (P ++ (b ++ S)))) (x.size + c) := by
  obtain ⟨h1, h2, h3⟩ := path_split p P.length
  have hs : subI T ((Ed.i ⟨2, p ++ [P.length], Tr.zero⟩).path.dropLast) = some (.node l (P ++ (x :: a ++ S))) := by
    show subI T (((p ++ [P.length]).map Int.ofNat).dropLast) = _
    rw [h2, subI_nat, hT]
  have hst := step_del (t := T) (e := Ed.i ⟨2, p ++ [P.length], Tr.zero⟩) rfl h1 hs (by
    show ¬ (((p ++ [P.length]).map Int.ofNat).getLastD 0 < 0 ∨ ((P ++ (x :: a ++ S)).length : Int) < ((p ++ [P.length]).map Int.ofNat).getLastD 0 ∨ (((p ++ [P.length]).map Int.ofNat).getLastD 0 = ((P ++ (x :: a ++ S)).length : Int) ∧ (2 : Int) = 2))
    rw [h3]
    simp only [List.length_append, List.length_cons]
    omega)
  have e3 : ((Ed.i ⟨2, p ++ [P.length], Tr.zero⟩).path.getLastD 0).toNat = P.length := by
    show (((p ++ [P.length]).map Int.ofNat).getLastD 0).toNat = _
    rw [h3]; simp
  have e2 : (Ed.i ⟨2, p ++ [P.length], Tr.zero⟩).path.dropLast.map Int.toNat = p := by
    show (((p ++ [P.length]).map Int.ofNat).dropLast).map Int.toNat = p
    rw [h2, nat_path]
  rw [e2, e3] at hst
  have e4 : delT (.node l (P ++ (x :: a ++ S))) P.length = .node l (P ++ (a ++ S)) := by
    simp only [delT, Tr.kids, Tr.lab]
    congr 1
    rw [List.take_left, List.drop_append, List.drop_of_length_le (by omega)]
    simp
  have e5 : (Tr.node l (P ++ (x :: a ++ S))).kids.getD P.length Tr.zero = x := by
    simp [Tr.kids, List.getD_eq_getElem?_getD]
  rw [e4, e5] at hst
  refine Leads.cons hst hr ?_
  show x.size + c = stepCost _ _ + c
  unfold stepCost
  rw [if_pos (show (Ed.i ⟨2, p ++ [P.length], Tr.zero⟩).op = 2 from rfl), if_neg (show ¬ (Ed.i ⟨2, p ++ [P.length], Tr.zero⟩).op = 1 from (show ¬ (2 : Int) = 1 from by decide))]
  simp
theorem leads_ins {y : Tr} {a b : List Tr} {r : List Ei} {c : Nat} (hT : sub T p = some (.node l (P ++ (a ++ S)))) (hr : Leads (putT T p (.node l (P ++ (y :: (a ++ S))))) r (putT T p (.node l (P ++ (y :: b ++ S)))) c) :
    Leads T ((Ed.i ⟨1, p ++ [P.length], y⟩) :: r) (putT T p (.node l (P ++ (y :: b ++ S)))) (y.size + c) := by
  obtain ⟨h1, h2, h3⟩ := path_split p P.length
  have hs : subI T ((Ed.i ⟨1, p ++ [P.length], y⟩).path.dropLast) = some (.node l (P ++ (a ++ S))) := by
    show subI T (((p ++ [P.length]).map Int.ofNat).dropLast) = _
    rw [h2, subI_nat, hT]
  have hst := step_ins (t := T) (e := Ed.i ⟨1, p ++ [P.length], y⟩) rfl h1 hs (by
    show ¬ (((p ++ [P.length]).map Int.ofNat).getLastD 0 < 0 ∨ ((P ++ (a ++ S)).length : Int) < ((p ++ [P.length]).map Int.ofNat).getLastD 0 ∨ (((p ++ [P.length]).map Int.ofNat).getLastD 0 = ((P ++ (a ++ S)).length : Int) ∧ (1 : Int) = 2))
    rw [h3]
    simp only [List.length_append]
    omega)
  have e3 : ((Ed.i ⟨1, p ++ [P.length], y⟩).path.getLastD 0).toNat = P.length := by
    show (((p ++ [P.length]).map Int.ofNat).getLastD 0).toNat = _
    rw [h3]; simp
  have e2 : (Ed.i ⟨1, p ++ [P.length], y⟩).path.dropLast.map Int.toNat = p := by
    show (((p ++ [P.length]).map Int.ofNat).dropLast).map Int.toNat = p
    rw [h2, nat_path]
  rw [e2, e3] at hst
  have e4 : insT (.node l (P ++ (a ++ S))) P.length (Ed.i ⟨1, p ++ [P.length], y⟩).tree = .node l (P ++ (y :: (a ++ S))) := by
    simp only [insT, Tr.kids, Tr.lab, Ed.i]
    congr 1
    rw [List.take_left, List.drop_left]
    simp
  rw [e4] at hst
  refine Leads.cons hst hr ?_
  show y.size + c = stepCost _ _ + c
  unfold stepCost
  rw [if_neg (show ¬ (Ed.i ⟨1, p ++ [P.length], y⟩).op = 2 from (show ¬ (1 : Int) = 2 from by decide)), if_pos (show (Ed.i ⟨1, p ++ [P.length], y⟩).op = 1 from rfl)]
  simp [Ed.i]
end
/-- The walk between two lists of kids. -/
theorem wk_leads {e : Tr → Tr → Path → List Ed} {p : Path} {l : ByteArray} {S : List Tr} : ∀ (a b P : List Tr) (T : Tr), sub T p = some (.node l (P ++ (a ++ S))) →
    (∀ x ∈ a, ∀ y ∈ b, ∀ (q : Path) (U : Tr), sub U q = some x → Leads U (edI (e x y q)) (putT U q y) (dist x y)) →
    Leads T (edI (wk e p a b P.length)) (putT T p (.node l (P ++ (b ++ S)))) (alD dist a b)
  | [], [], P, T, hT, _ => by
    rw [wk_nn, alD_nil, putT_same _ _ hT]
    exact Leads.nil T
  | x :: a, [], P, T, hT, h => by
    rw [wk_cn, alD_nil2]
    have hT2 := sub_putT p T (.node l (P ++ (a ++ S))) hT
    have ih := wk_leads (e := e) (p := p) (l := l) (S := S) a [] P (putT T p (.node l (P ++ (a ++ S)))) hT2 (fun x _ y hy => by cases hy)
    rw [putT_putT _ _ _ _ hT, alD_nil2] at ih
    exact leads_del (b := []) hT ih
  | [], y :: b, P, T, hT, h => by
    rw [wk_nc, alD_nil]
    have hT2 := sub_putT p T (.node l (P ++ (y :: ([] ++ S)))) hT
    have ih := wk_leads (e := e) (p := p) (l := l) (S := S) [] b (P ++ [y]) (putT T p (.node l (P ++ (y :: ([] ++ S))))) (by rw [hT2]; simp) (fun x hx => by cases hx)
    rw [putT_putT _ _ _ _ hT, alD_nil, List.length_append, List.length_singleton] at ih
    have e1 : P ++ [y] ++ (b ++ S) = P ++ (y :: b ++ S) := by simp
    rw [e1] at ih
    exact leads_ins hT ih
  | x :: a, y :: b, P, T, hT, h => by
    rw [wk_cc]
    split
    · rename_i hm
      rw [hm, edI_append, Nat.add_comm (alD dist a b)]
      have hx : sub T (p ++ [P.length]) = some x := by
        rw [sub_app, hT]
        simp [sub]
      have h1 := h x (by simp) y (by simp) (p ++ [P.length]) T hx
      have e2 : putT T (p ++ [P.length]) y = putT T p (.node l (P ++ (y :: a ++ S))) := by
        rw [putT_app _ _ _ _ hT]
        simp [putT]
      rw [e2] at h1
      have hT2 := sub_putT p T (.node l (P ++ (y :: a ++ S))) hT
      have ih := wk_leads (e := e) (p := p) (l := l) (S := S) a b (P ++ [y]) (putT T p (.node l (P ++ (y :: a ++ S)))) (by rw [hT2]; simp) (fun u hu v hv => h u (by simp [hu]) v (by simp [hv]))
      rw [putT_putT _ _ _ _ hT, List.length_append, List.length_singleton] at ih
      have e1 : P ++ [y] ++ (b ++ S) = P ++ (y :: b ++ S) := by simp
      rw [e1] at ih
      exact h1.append ih
    · split
      · rename_i hm
        rw [hm, Nat.add_comm (alD dist a (y :: b))]
        have hT2 := sub_putT p T (.node l (P ++ (a ++ S))) hT
        have ih := wk_leads (e := e) (p := p) (l := l) (S := S) a (y :: b) P (putT T p (.node l (P ++ (a ++ S)))) hT2 (fun u hu v hv => h u (by simp [hu]) v hv)
        rw [putT_putT _ _ _ _ hT] at ih
        exact leads_del (b := y :: b) hT ih
      · rename_i hm1 hm2
        have hc := alD_cons dist x y a b
        have hc2 : alD dist (x :: a) (y :: b) = y.size + alD dist (x :: a) b := by omega
        rw [hc2]
        have hT2 := sub_putT p T (.node l (P ++ (y :: (x :: a ++ S)))) hT
        have ih := wk_leads (e := e) (p := p) (l := l) (S := S) (x :: a) b (P ++ [y]) (putT T p (.node l (P ++ (y :: (x :: a ++ S))))) (by rw [hT2]; simp) (fun u hu v hv => h u hu v (by simp [hv]))
        rw [putT_putT _ _ _ _ hT, List.length_append, List.length_singleton] at ih
        have e1 : P ++ [y] ++ (b ++ S) = P ++ (y :: b ++ S) := by simp
        rw [e1] at ih
        exact leads_ins hT ih
termination_by a b => a.length + b.length
theorem edT_leads' (n : Nat) : ∀ (x y : Tr) (p : Path) (T : Tr), x.size ≤ n → sub T p = some x → Leads T (edI (edT x y p)) (putT T p y) (dist x y) := by
  induction n with
  | zero => intro x y p T h; have := x.size_pos; omega
  | succ n ih =>
    intro x y p T h hT
    rw [edT_eq, dist_eq]
    split
    · rename_i e
      subst e
      rw [putT_same _ _ hT]
      exact Leads.nil T
    · split
      · have hst := step_rep (t := T) (e := Ed.i ⟨3, p, y⟩) (s := x) rfl (by show subI T (p.map Int.ofNat) = _; rw [subI_nat, hT])
        have e2 : (Ed.i ⟨3, p, y⟩).path.map Int.toNat = p := nat_path p
        rw [e2] at hst
        refine Leads.cons hst (Leads.nil _) ?_
        unfold stepCost
        rw [if_neg (show ¬ (Ed.i ⟨3, p, y⟩).op = 2 from (show ¬ (3 : Int) = 2 from by decide)), if_neg (show ¬ (Ed.i ⟨3, p, y⟩).op = 1 from (show ¬ (3 : Int) = 1 from by decide))]
        simp only [Ed.i]
        omega
      · rename_i hl
        obtain ⟨s, h1, h2⟩ := mid_split x.kids y.kids
        have hf := fro_le x.kids y.kids
        have hPl : (x.kids.take (fro x.kids y.kids)).length = fro x.kids y.kids := by simp; omega
        have hx : x = .node x.lab (x.kids.take (fro x.kids y.kids) ++ (midA x.kids y.kids ++ s)) := by
          rw [← h1]; cases x; rfl
        have hy : y = .node x.lab (x.kids.take (fro x.kids y.kids) ++ (midB x.kids y.kids ++ s)) := by
          rw [← h2, Classical.not_not.1 hl]; cases y; rfl
        have hw := wk_leads (e := edT) (p := p) (l := x.lab) (S := s) (midA x.kids y.kids) (midB x.kids y.kids) (x.kids.take (fro x.kids y.kids)) T (by rw [hT]; exact congrArg some hx) (fun u hu v _ q U hU => ih u v q U (by have := kid_size (mem_mid hu); omega) hU)
        rw [hPl, ← hy] at hw
        exact hw
/-- The program's edits lead from a to b at the cost of their distance. -/
theorem edT_leads (a b : Tr) : applyI a (edI (edT a b [])) = .inr b ∧ costI a (edI (edT a b [])) = dR a b := by
  have h := edT_leads' a.size a b [] a (Nat.le_refl _) (by cases a; rfl)
  rw [dist_dR] at h
  have e : putT a [] b = b := by cases a; rfl
  rw [e] at h
  exact h
end Go.Proofs.YtaomdfcplamenaaGreatDoor.K

namespace Go.Proofs.YtaomdfcplamenaaGreatDoor.K
open Go Go.RowKit Go.Proofs

mutual
/-- The nodes that have kids. -/
def Tr.inn : Tr → List Tr
  | .node l ks => (if ks = [] then [] else [.node l ks]) ++ Tr.inns ks
def Tr.inns : List Tr → List Tr
  | [] => []
  | t :: r => t.inn ++ Tr.inns r
end
mutual
/-- All labels are among the seven. -/
def Tr.l7 : Tr → Prop
  | .node l ks => l ∈ labels7 ∧ Tr.l7s ks
def Tr.l7s : List Tr → Prop
  | [] => True
  | t :: r => t.l7 ∧ Tr.l7s r
end
theorem l7s_iff : ∀ {ks : List Tr}, Tr.l7s ks ↔ ∀ k ∈ ks, k.l7
  | [] => by simp [Tr.l7s]
  | t :: r => by simp only [Tr.l7s, l7s_iff (ks := r), List.mem_cons, forall_eq_or_imp]
theorem mem_inns {x : Tr} : ∀ {ks : List Tr}, x ∈ Tr.inns ks ↔ ∃ k ∈ ks, x ∈ k.inn
  | [] => by simp [Tr.inns]
  | t :: r => by simp only [Tr.inns, List.mem_append, mem_inns (ks := r), List.mem_cons, exists_eq_or_imp]
theorem inns_append : ∀ (a b : List Tr), Tr.inns (a ++ b) = Tr.inns a ++ Tr.inns b
  | [], b => by simp [Tr.inns]
  | t :: r, b => by simp only [List.cons_append, Tr.inns, inns_append r b, List.append_assoc]
def leaves7 : List Tr := labels7.map fun l => .node l []
theorem inn_self {t : Tr} (h : t.l7) : t ∈ leaves7 ∨ t ∈ t.inn := by
  obtain ⟨l, ks⟩ := t
  simp only [Tr.l7] at h
  by_cases hk : ks = []
  · subst hk; exact .inl (List.mem_map.2 ⟨l, h.1, rfl⟩)
  · exact .inr (by simp [Tr.inn, hk])
theorem inn_kid (n : Nat) : ∀ t : Tr, t.size ≤ n → t.l7 → ∀ x ∈ t.inn, x.lab ∈ labels7 ∧ ∀ k ∈ x.kids, k ∈ leaves7 ∨ k ∈ t.inn := by
  induction n with
  | zero => intro t h; have := t.size_pos; omega
  | succ n ih =>
    rintro ⟨l, ks⟩ hn h7 x hx
    have h8 := h7
    simp only [Tr.l7] at h8
    simp only [Tr.inn, List.mem_append] at hx ⊢
    rcases hx with hx | hx
    · split at hx
      · simp at hx
      · simp at hx; subst hx
        refine ⟨h8.1, fun k hk => ?_⟩
        rcases inn_self (l7s_iff.1 h8.2 k hk) with h | h
        · exact .inl h
        · exact .inr (.inr (mem_inns.2 ⟨k, hk, h⟩))
    · obtain ⟨k, hk, hx⟩ := mem_inns.1 hx
      have := ih k (by have := Tr.size_kid hk hn; omega) (l7s_iff.1 h8.2 k hk) x hx
      refine ⟨this.1, fun c hc => ?_⟩
      rcases this.2 c hc with h | h
      · exact .inl h
      · exact .inr (.inr (mem_inns.2 ⟨k, hk, h⟩))
theorem leaves7_ok : ∀ x ∈ leaves7, x.lab.size ≤ 1000000 ∧ x.kids = [] := by
  intro x hx
  obtain ⟨l, hl, rfl⟩ := List.mem_map.1 hx
  have h : ∀ l ∈ labels7, l.size ≤ 1000000 := by decide
  exact ⟨h l hl, rfl⟩
theorem labels7_ok : ∀ l ∈ labels7, l.size ≤ 1000000 := by decide
theorem uni7 {a b : Tr} (ha : a.l7) (hb : b.l7) (h : a.inn.length + b.inn.length ≤ 93) : Uni (leaves7 ++ (a.inn ++ b.inn)) := by
  have ka := inn_kid a.size a (Nat.le_refl _) ha
  have kb := inn_kid b.size b (Nat.le_refl _) hb
  refine ⟨?_, fun x hx k hk => ?_, fun x hx => ?_⟩
  · have h7 : leaves7.length = 7 := rfl
    simp only [List.length_append]
    omega
  · rcases List.mem_append.1 hx with hx | hx
    · rw [(leaves7_ok x hx).2] at hk; cases hk
    · rcases List.mem_append.1 hx with hx | hx
      · rcases (ka x hx).2 k hk with h | h
        · exact List.mem_append_left _ h
        · exact List.mem_append_right _ (List.mem_append_left _ h)
      · rcases (kb x hx).2 k hk with h | h
        · exact List.mem_append_left _ h
        · exact List.mem_append_right _ (List.mem_append_right _ h)
  · rcases List.mem_append.1 hx with hx | hx
    · exact (leaves7_ok x hx).1
    · rcases List.mem_append.1 hx with hx | hx
      · exact labels7_ok _ (ka x hx).1
      · exact labels7_ok _ (kb x hx).1
/-! the edits' bounds -/
theorem wk_bd {e : Tr → Tr → Path → List Ed} {p : Path} {K B : Nat} (hp : p.length + 1 ≤ K) (hB : 1 ≤ B) : ∀ (a b : List Tr) (q : Nat), (∀ y ∈ b, y.size ≤ B) → (∀ x ∈ a, ∀ y ∈ b, ∀ q', ∀ f ∈ e x y (p ++ [q']), f.path.length ≤ K ∧ f.tree.size ≤ B) →
    ∀ f ∈ wk e p a b q, f.path.length ≤ K ∧ f.tree.size ≤ B
  | [], [], q, _, _ => by rw [wk_nn]; simp
  | x :: a, [], q, hb, h => by
    rw [wk_cn]
    intro f hf
    rcases List.mem_cons.1 hf with rfl | hf
    · exact ⟨by simp; omega, by show Tr.zero.size ≤ B; exact hB⟩
    · exact wk_bd hp hB a [] q hb (fun x _ y hy => by cases hy) f hf
  | [], y :: b, q, hb, h => by
    rw [wk_nc]
    intro f hf
    rcases List.mem_cons.1 hf with rfl | hf
    · exact ⟨by simp; omega, hb y (by simp)⟩
    · exact wk_bd hp hB [] b (q + 1) (fun y hy => hb y (by simp [hy])) (fun x hx => by cases hx) f hf
  | x :: a, y :: b, q, hb, h => by
    rw [wk_cc]
    split
    · intro f hf
      rcases List.mem_append.1 hf with hf | hf
      · exact h x (by simp) y (by simp) q f hf
      · exact wk_bd hp hB a b (q + 1) (fun y hy => hb y (by simp [hy])) (fun u hu v hv => h u (by simp [hu]) v (by simp [hv])) f hf
    · split
      · intro f hf
        rcases List.mem_cons.1 hf with rfl | hf
        · exact ⟨by simp; omega, by show Tr.zero.size ≤ B; exact hB⟩
        · exact wk_bd hp hB a (y :: b) q hb (fun u hu v hv => h u (by simp [hu]) v hv) f hf
      · intro f hf
        rcases List.mem_cons.1 hf with rfl | hf
        · exact ⟨by simp; omega, hb y (by simp)⟩
        · exact wk_bd hp hB (x :: a) b (q + 1) (fun y hy => hb y (by simp [hy])) (fun u hu v hv => h u hu v (by simp [hv])) f hf
termination_by a b => a.length + b.length
theorem edT_bd (n : Nat) : ∀ (x y : Tr) (p : Path), x.size ≤ n → ∀ f ∈ edT x y p, f.path.length ≤ p.length + n ∧ f.tree.size ≤ y.size := by
  induction n with
  | zero => intro x y p h; have := x.size_pos; omega
  | succ n ih =>
    intro x y p h
    rw [edT_eq]
    split
    · simp
    · split
      · intro f hf
        simp at hf; subst hf
        exact ⟨by simp only; omega, Nat.le_refl _⟩
      · refine wk_bd (by omega) y.size_pos _ _ _ (fun v hv => ?_) (fun u hu v hv q' f hf => ?_)
        · have := kid_size (mem_mid hv); omega
        · have h1 := kid_size (mem_mid hu)
          have h2 := kid_size (mem_mid hv)
          have := ih u v (p ++ [q']) (by omega) f hf
          simp only [List.length_append, List.length_singleton] at this
          omega
theorem edI_bd (x y : Tr) : (∀ e ∈ edI (edT x y []), e.path.length ≤ x.size ∧ e.tree.size ≤ y.size) ∧ (edI (edT x y [])).length ≤ x.size + y.size := by
  refine ⟨fun e he => ?_, ?_⟩
  · obtain ⟨f, hf, rfl⟩ := List.mem_map.1 he
    have := edT_bd x.size x y [] (Nat.le_refl _) f hf
    simp only [Ed.i, List.length_map]
    simpa using this
  · unfold edI
    rw [List.length_map]
    exact edT_len _ _ _ _ (Nat.le_refl _)
theorem law_diff {a b : Tr} (ha : a.l7) (hb : b.l7) (hi : a.inn.length + b.inn.length ≤ 93) (hsz : a.size + b.size ≤ 1000000) {w0 : World} {H : Hp} {own : List Seg} {a0 a1 b0 b1 : Value} (hta : RdL H a.d [a0, a1]) (htb : RdL H b.d [b0, b1]) :
    Fn Tryz.prog 13 [.agg #[a0, a1], .agg #[b0, b1]] w0 H own (fun r own' H' => rd H' (.s 4 (eiD (edI (edT a b [])))) r ∧ own' = own ∧ Le H H') := by
  refine (Diff_n (uni7 ha hb hi) ?_ ?_ hsz hta htb).mono fun r o H' h => ?_
  · rcases inn_self ha with h | h
    · exact List.mem_append_left _ h
    · exact List.mem_append_right _ (List.mem_append_left _ h)
  · rcases inn_self hb with h | h
    · exact List.mem_append_left _ h
    · exact List.mem_append_right _ (List.mem_append_right _ h)
  · unfold edI
    rw [eiD_of]
    exact h
/-! the made trees -/
theorem labelP_mem {x : Int} (h : x.toNat < 7) : labelP x ∈ labels7 := by
  unfold labelP
  rw [List.getD_eq_getElem?_getD, List.getElem?_eq_getElem (show x.toNat < labels7.length from h)]
  exact List.getElem_mem _
theorem take7 (l : List Int) (a : Nat) : labelP (takeV l a 7) ∈ labels7 := by
  have := takeV_bd (l := l) (at_ := a) (n := 7) (by omega)
  exact labelP_mem (by omega)
theorem growK_l7 {f : Nat → Tr × Nat} (hf : ∀ a, (f a).1.l7) (at_ : Nat) : ∀ n, ∀ k ∈ (growK f n at_).1, k.l7
  | 0 => by simp [growK]
  | n + 1 => by
    intro k hk
    simp only [growK, List.mem_append, List.mem_singleton] at hk
    rcases hk with hk | rfl
    · exact growK_l7 hf at_ n k hk
    · exact hf _
theorem growT_l7 (l : List Int) : ∀ (d at_ : Nat), (growT l d at_).1.l7
  | 0, at_ => by simp only [growT, Tr.l7, Tr.l7s, and_true]; exact take7 _ _
  | d + 1, at_ => by
    simp only [growT, Tr.l7]
    exact ⟨take7 _ _, l7s_iff.2 (growK_l7 (growT_l7 l d) _ _)⟩
theorem growK_inn {f : Nat → Tr × Nat} {b : Nat} (hf : ∀ a, (f a).1.inn.length ≤ b) (at_ : Nat) : ∀ n, (Tr.inns (growK f n at_).1).length ≤ n * b
  | 0 => by simp [growK, Tr.inns]
  | n + 1 => by
    have h1 := growK_inn hf at_ n
    have h2 := hf (growK f n at_).2
    simp only [growK, inns_append, Tr.inns, List.append_nil, List.length_append, Nat.add_mul, Nat.one_mul]; omega
/-- Inner nodes of a grown tree of that depth. -/
def innB : Nat → Nat
  | 0 => 0
  | d + 1 => 1 + 3 * innB d
theorem growT_inn (l : List Int) : ∀ (d at_ : Nat), (growT l d at_).1.inn.length ≤ innB d
  | 0, at_ => by simp [growT, Tr.inn, Tr.inns]
  | d + 1, at_ => by
    have h1 := (takeV_bd (l := l) (at_ := at_ + 1) (n := 4) (by omega)).2
    have h2 := growK_inn (growT_inn l d) (at_ + 2) (takeV l (at_ + 1) 4).toNat
    have h4 := Nat.mul_le_mul_right (innB d) (show (takeV l (at_ + 1) 4).toNat ≤ 3 by omega)
    simp only [growT, Tr.inn, List.length_append, innB]
    split <;> simp <;> omega
theorem madeT_l7 (l : List Int) : (madeT l).l7 := growT_l7 l 3 0
theorem madeT_inn (l : List Int) : (madeT l).inn.length ≤ 13 := growT_inn l 3 0
end Go.Proofs.YtaomdfcplamenaaGreatDoor.K

namespace Go.Proofs.YtaomdfcplamenaaGreatDoor.K
open Go Go.RowKit Go.Proofs

/-! labels and inner nodes -/
theorem l7_sub : ∀ (p : Path) (t : Tr) {s : Tr}, sub t p = some s → t.l7 → s.l7
  | [], t, s, h, h7 => by
    have h : t = s := by simpa [sub] using h
    exact h ▸ h7
  | i :: q, .node l ks, s, h, h7 => by
    simp only [sub, Option.bind_eq_some_iff] at h
    obtain ⟨u, hu, hs⟩ := h
    simp only [Tr.l7] at h7
    exact l7_sub q u hs (l7s_iff.1 h7.2 u (List.mem_of_getElem? hu))
theorem l7_put : ∀ (p : Path) (t : Tr) {s x : Tr}, sub t p = some s → t.l7 → x.l7 → (putT t p x).l7
  | [], t, s, x, _, _, hx => by
    have e : putT t [] x = x := by cases t; rfl
    rw [e]; exact hx
  | i :: q, .node l ks, s, x, h, h7, hx => by
    simp only [sub, Option.bind_eq_some_iff] at h
    obtain ⟨u, hu, hs⟩ := h
    simp only [Tr.l7] at h7
    simp only [putT, hu, Tr.l7]
    refine ⟨h7.1, l7s_iff.2 fun k hk => ?_⟩
    rcases List.mem_or_eq_of_mem_set hk with hk | rfl
    · exact l7s_iff.1 h7.2 k hk
    · exact l7_put q u hs (l7s_iff.1 h7.2 u (List.mem_of_getElem? hu)) hx
theorem inns_set : ∀ (ks : List Tr) (i : Nat) {u : Tr} (x : Tr), ks[i]? = some u → (Tr.inns (ks.set i x)).length + u.inn.length = (Tr.inns ks).length + x.inn.length
  | t :: r, 0, u, x, h => by
    simp only [List.getElem?_cons_zero, Option.some.injEq] at h
    subst h
    simp only [List.set_cons_zero, Tr.inns, List.length_append]; omega
  | t :: r, i + 1, u, x, h => by
    simp only [List.getElem?_cons_succ] at h
    have := inns_set r i x h
    simp only [List.set_cons_succ, Tr.inns, List.length_append]; omega
  | [], i, u, x, h => by simp at h
theorem inn_put : ∀ (p : Path) (t : Tr) {s : Tr} (x : Tr), sub t p = some s → (putT t p x).inn.length + s.inn.length = t.inn.length + x.inn.length
  | [], t, s, x, h => by
    have h : t = s := by simpa [sub] using h
    have e : putT t [] x = x := by cases t; rfl
    rw [e, h]; omega
  | i :: q, .node l ks, s, x, h => by
    simp only [sub, Option.bind_eq_some_iff] at h
    obtain ⟨u, hu, hs⟩ := h
    have ih := inn_put q u x hs
    have h2 := inns_set ks i (putT u q x) hu
    have hne : ks ≠ [] := by rintro rfl; simp at hu
    have hne2 : ks.set i (putT u q x) ≠ [] := by simpa using hne
    simp only [putT, hu, Tr.inn, if_neg hne, if_neg hne2, List.length_append, List.length_singleton]
    omega
theorem inn_ins (s y : Tr) (k : Nat) : (insT s k y).inn.length ≤ s.inn.length + 1 + y.inn.length := by
  obtain ⟨l, ks⟩ := s
  have e : (Tr.inns (ks.take k)).length + (Tr.inns (ks.drop k)).length = (Tr.inns ks).length := by
    rw [← List.length_append, ← inns_append, List.take_append_drop]
  simp only [insT, Tr.kids, Tr.lab, Tr.inn, inns_append, Tr.inns, List.length_append, List.append_nil]
  split <;> split <;> simp <;> omega
theorem inn_del (s : Tr) (k : Nat) : (delT s k).inn.length ≤ s.inn.length := by
  obtain ⟨l, ks⟩ := s
  have e : (Tr.inns (ks.take k)).length + (Tr.inns (ks.drop k)).length = (Tr.inns ks).length := by
    rw [← List.length_append, ← inns_append, List.take_append_drop]
  have e2 : (Tr.inns (ks.drop (k + 1))).length ≤ (Tr.inns (ks.drop k)).length := by
    rw [← List.drop_drop]
    cases h : ks.drop k with
    | nil => simp [Tr.inns]
    | cons c r => simp [Tr.inns]
  simp only [delT, Tr.kids, Tr.lab, Tr.inn, inns_append, List.length_append]
  split
  · split <;> simp <;> omega
  · rename_i h
    have hne : ks ≠ [] := by rintro rfl; simp at h
    rw [if_neg hne]
    simp
    omega
theorem l7_ins {s y : Tr} {k : Nat} (hs : s.l7) (hy : y.l7) : (insT s k y).l7 := by
  obtain ⟨l, ks⟩ := s
  simp only [Tr.l7] at hs
  simp only [insT, Tr.kids, Tr.lab, Tr.l7]
  refine ⟨hs.1, l7s_iff.2 fun c hc => ?_⟩
  simp only [List.mem_append, List.mem_singleton] at hc
  rcases hc with (hc | rfl) | hc
  · exact l7s_iff.1 hs.2 c (List.mem_of_mem_take hc)
  · exact hy
  · exact l7s_iff.1 hs.2 c (List.mem_of_mem_drop hc)
theorem l7_del {s : Tr} {k : Nat} (hs : s.l7) : (delT s k).l7 := by
  obtain ⟨l, ks⟩ := s
  simp only [Tr.l7] at hs
  simp only [delT, Tr.kids, Tr.lab, Tr.l7]
  refine ⟨hs.1, l7s_iff.2 fun c hc => ?_⟩
  rcases List.mem_append.1 hc with hc | hc
  · exact l7s_iff.1 hs.2 c (List.mem_of_mem_take hc)
  · exact l7s_iff.1 hs.2 c (List.mem_of_mem_drop hc)
theorem step_l7 {t u : Tr} {e b : Ei} (h : stepI t e = .inr (b, u)) (ht : t.l7) (he : e.tree.l7) : u.l7 ∧ u.inn.length ≤ t.inn.length + 1 + e.tree.inn.length := by
  rcases stepI_cases h with ⟨h3, s, hs, rfl, rfl⟩ | ⟨h1, hp, s, hs, h0, hk, rfl, rfl⟩ | ⟨h2, hp, s, hs, h0, hk, rfl, rfl⟩
  · have h4 := inn_put _ t e.tree (subI_sub _ _ hs)
    exact ⟨l7_put _ t (subI_sub _ _ hs) ht he, by omega⟩
  · have h4 := inn_put _ t (insT s (e.path.getLastD 0).toNat e.tree) (subI_sub _ _ hs)
    have h5 := inn_ins s e.tree (e.path.getLastD 0).toNat
    exact ⟨l7_put _ t (subI_sub _ _ hs) ht (l7_ins (l7_sub _ _ (subI_sub _ _ hs) ht) he), by omega⟩
  · have h4 := inn_put _ t (delT s (e.path.getLastD 0).toNat) (subI_sub _ _ hs)
    have h5 := inn_del s (e.path.getLastD 0).toNat
    exact ⟨l7_put _ t (subI_sub _ _ hs) ht (l7_del (l7_sub _ _ (subI_sub _ _ hs) ht)), by omega⟩
theorem grow1_7 (l : List Int) (a : Nat) : (growT l 1 a).1.l7 ∧ (growT l 1 a).1.inn.length ≤ 1 := ⟨growT_l7 l 1 a, growT_inn l 1 a⟩
theorem zero_l7 : Tr.zero.l7 ∧ Tr.zero.inn.length ≤ 1 := by
  refine ⟨?_, by decide⟩
  simp only [Tr.zero, Tr.l7, Tr.l7s, and_true]
  exact .tail _ (.tail _ (.tail _ (.tail _ (.head _))))
theorem roundE_7 (l : List Int) (p : List Int × Tr × Nat) : (roundE l p).1.tree.l7 ∧ (roundE l p).1.tree.inn.length ≤ 1 := by
  unfold roundE
  split
  · exact grow1_7 _ _
  · split
    · exact zero_l7
    · exact grow1_7 _ _
theorem changedN_7 {l : List Int} : ∀ (n : Nat) (t : Tr) (a : Nat) (outs : List Ei), t.l7 → (changedN l n t a outs).2.l7 ∧ (changedN l n t a outs).2.inn.length ≤ t.inn.length + n * 2
  | 0, t, a, outs, h => by simp only [changedN]; exact ⟨h, by omega⟩
  | n + 1, t, a, outs, h => by
    simp only [changedN]
    rw [Nat.add_mul]
    cases hst : stepI t (roundE l (pathC l t a)).1 with
    | inl c =>
      rw [roundC_bad hst]
      have := changedN_7 (l := l) n t (roundE l (pathC l t a)).2 (outs ++ []) h
      refine ⟨this.1, ?_⟩
      have h2 := this.2
      show (changedN l n t (roundE l (pathC l t a)).2 (outs ++ [])).2.inn.length ≤ _
      omega
    | inr p =>
      obtain ⟨b, u⟩ := p
      rw [roundC_ok hst]
      have h7 := roundE_7 l (pathC l t a)
      have hs := step_l7 hst h h7.1
      have := changedN_7 (l := l) n u (roundE l (pathC l t a)).2 (outs ++ [(roundE l (pathC l t a)).1]) hs.1
      refine ⟨this.1, ?_⟩
      have h2 := this.2
      have h3 := hs.2
      have h4 := h7.2
      show (changedN l n u (roundE l (pathC l t a)).2 (outs ++ [(roundE l (pathC l t a)).1])).2.inn.length ≤ _
      omega
theorem changedI_7 {t : Tr} (l : List Int) (h : t.l7) : (changedI t l).2.l7 ∧ (changedI t l).2.inn.length ≤ t.inn.length + 12 := by
  have := changedN_7 (l := l) (min (l.length / 4) 6) t 0 [] h
  unfold changedI
  exact ⟨this.1, by have := this.2; omega⟩
end Go.Proofs.YtaomdfcplamenaaGreatDoor.K

namespace Go.Proofs.YtaomdfcplamenaaGreatDoor.K
open Go Go.RowKit Go.Proofs

end Go.Proofs.YtaomdfcplamenaaGreatDoor.K

namespace Go.Proofs.YtaomdfcplamenaaGreatDoor.K
open Go Go.RowKit Go.Proofs

section
variable {es : List Ei} {t : Tr} {w0 : World} {H : Hp} {own : List Seg} {a0 a1 ve : Value}
theorem rApply_ok {u : Tr} (hs : applyI t es = .inr u) (hpl : ∀ e ∈ es, e.path.length ≤ 1000000) (hsz : t.size + treesI es ≤ 1000000) (hel : es.length ≤ 1000000) (ht : RdL H t.d [a0, a1]) (hve : rd H (.s 4 (eiD es)) ve) :
    Fn Tryz.prog 12 [.agg #[a0, a1], ve] w0 H own (fun r o H' => (∃ d0 d1, r = .tuple #[.agg #[d0, d1], .int .i64 (costI t es : Int), .int .i64 0] ∧ RdL H' u.d [d0, d1]) ∧ o = own ∧ Le H H') :=
  (ref_Apply hpl hsz hel ht hve).mono fun r o H' h => by
    obtain ⟨⟨c', h1, h2⟩ | ⟨u', d0, d1, h1, h2, h5⟩, h3, h4⟩ := h
    · rw [hs] at h1; cases h1
    · rw [hs] at h1; cases h1; exact ⟨⟨d0, d1, h2, h5⟩, h3, h4⟩
end
end Go.Proofs.YtaomdfcplamenaaGreatDoor.K

namespace Go.Proofs.YtaomdfcplamenaaGreatDoor.K
open Go Go.RowKit Go.Proofs

theorem law_cost {a b : Tr} (ha : a.l7) (hb : b.l7) (hi : a.inn.length + b.inn.length ≤ 93) (hsa : a.size ≤ 100) (hsb : b.size ≤ 100) {w0 : World} {H : Hp} {own : List Seg} {a0 a1 b0 b1 : Value} (hta : RdL H a.d [a0, a1]) (htb : RdL H b.d [b0, b1]) :
    Fn Tryz.prog 20 [.agg #[a0, a1], .agg #[b0, b1]] w0 H own (fun r o H' => r = .int .i64 (dR a b : Int) ∧ o = own ∧ Le H H') := by
  obtain ⟨hEb, hEl⟩ := edI_bd a b
  have tE := treesI_le (B := 100) (fun e he => Nat.le_trans (hEb e he).2 hsb)
  have pE : ∀ e ∈ (edI (edT a b [])), e.path.length ≤ 1000000 := fun e he => by have := (hEb e he).1; omega
  have hEa := (edT_leads a b).1
  have hEc := (edT_leads a b).2
  refine Fn.enter Tryz.func20 rfl Tryz.ntmps20 rfl ?_; have hL := Le.refl H; refine Qj (Qh ?_)
  refine Zx (c := #[_, _]) rfl rfl rfl ?_; intro g2
  refine Zx (c := #[_, _]) rfl rfl rfl ?_; intro g3; refine Qe rfl rfl (Qi (Qc (Qj ?_))); refine Q4 12  [(0, _), (1, _), (2, _), (3, _), (4, _)] follows_mixed ⟨rfl, rfl, rfl, rfl, rfl, trivial⟩ ?_
  refine Qa (some 9) [] (by
   intro H' X F hle; have hL := Le.trans hL hle; intro hF; refine Qm 1 0 [_, _] rfl rfl rfl ⟨rfl, rfl, trivial⟩ rfl rfl ?_
   exact Qd hF) ?_
  refine Qa (some 10) [] (by
   intro H' X F hle; have hL := Le.trans hL hle; intro hF; refine Qm 1 0 [_, _] rfl rfl rfl ⟨rfl, rfl, trivial⟩ rfl rfl ?_
   exact Qd hF) ?_
  refine Qa (some 11) [] (by
   intro H' X F hle; have hL := Le.trans hL hle; intro hF; refine Qm 0 0 [_, _] rfl rfl rfl ⟨rfl, rfl, trivial⟩ rfl rfl ?_
   exact Qd hF) ?_
  refine Q9 (some 12) [(1, 1), (2, 0)] ([]) (fun _ => fun u sg H => rd H (.s 4 (eiD (edI (edT a b [])))) u ∧ sg = []) (by
   intro H' X F hle; have hL := Le.trans hL hle; have hta := RdL.mono hle hta; have htb := RdL.mono hle htb; intro hF; refine Qs (law_diff ha hb hi (by omega) hta htb) ⟨rfl, rfl, trivial⟩ rfl ?_
   rintro v12 own H12 ⟨hr12, rfl, hle12⟩
   have hL := Le.trans hL hle12; refine Qi ?_
   exact Q7 [] hF hle12 ⟨hr12, rfl⟩) ?_
  refine Q9 (some 13) [(0, 3), (3, 0)] ([]) (fun _ => fun u sg H => ∃ d0 d1, u = .tuple #[.agg #[d0, d1], .int .i64 (dR a b : Int), .int .i64 0] ∧ RdL H b.d [d0, d1] ∧ sg = []) (by
   intro H' X F hle; have hL := Le.trans hL hle; have hta := RdL.mono hle hta; intro _
   rintro v12 _ Hi12 hle12 ⟨hr12, rfl⟩
   replace hr12 := rd.mono hle12 hr12
   intro hF; refine Qs (rApply_ok hEa pE (by omega) (by omega) hta hr12) ⟨rfl, rfl, trivial⟩ rfl ?_
   rintro _ own H13 ⟨⟨p0, p1, rfl, hpt⟩, rfl, hle13⟩
   rw [hEc]
   have hL := Le.trans hL hle13; refine Qi ?_
   exact Q7 [] hF hle13 ⟨_, _, rfl, hpt, rfl⟩) ?_
  refine Q9 (some 8) [(4, 0)] ([]) (fun _ => fun u sg H => ∃ d0 d1, u = .tuple #[.agg #[d0, d1], .int .i64 (dR a b : Int), .int .i64 0] ∧ RdL H b.d [d0, d1] ∧ sg = []) (by
   intro H' X F hle; have hL := Le.trans hL hle; intro _
   rintro _ _ Hi13 hle13 ⟨p0, p1, rfl, hpt, rfl⟩
   replace hpt := RdL.mono hle13 hpt
   intro hF; refine Qb rfl rfl (Qi ?_)
   exact Q7 [] hF (Le.refl _) ⟨_, _, rfl, hpt, rfl⟩) ?_
  refine Q9 (some 14) [(5, 0)] ([]) (fun _ => fun u sg H => ∃ d0 d1, u = .agg #[d0, d1] ∧ RdL H b.d [d0, d1] ∧ sg = []) (by
   intro H' X F hle; have hL := Le.trans hL hle; intro _
   rintro _ _ Hi13 hle13 ⟨p0, p1, rfl, hpt, rfl⟩
   replace hpt := RdL.mono hle13 hpt
   intro hF; refine Qu rfl rfl rfl (Qi ?_)
   exact Q7 [] hF (Le.refl _) ⟨_, _, rfl, hpt, rfl⟩) ?_
  refine Qa (some 15) [(5, 1)] (by
   intro H' X F hle; intro _
   rintro _ _ Hi13 hle13 ⟨p0, p1, rfl, hpt, rfl⟩
   intro hF; refine Qu rfl rfl rfl ?_
   exact Qd hF) ?_
  refine Qa (some 16) [(5, 2)] (by
   intro H' X F hle; intro _
   rintro _ _ Hi13 hle13 ⟨p0, p1, rfl, hpt, rfl⟩
   intro hF; refine Qu rfl rfl rfl ?_
   exact Qd hF) ?_
  refine Z5 true [] (some 5) [] ([]) (fun _ => fun u sg H => ∃ g, u = .pointer (some ⟨g, 0, none⟩) ∧ sg = [[(g, .cells #[.string ⟨#[]⟩, .slice none 0 0] 26 (0, 0))]]) (by
   intro H' X F hle; have hL := Le.trans hL hle; intro hF
   refine Zc rfl ?_; intro g5; refine Qi ?_
   exact Q7 [_] hF (Le.refl _) ⟨_, rfl, rfl⟩) ?_
  refine Z5 false [9] none [(9, 0), (6, 3)] ([]) (fun vs u sg H => ∃ g d0 d1, nthV vs 0 = .pointer (some ⟨g, 0, none⟩) ∧ sg = [[(g, .cells #[d0, d1] 26 (0, 0))]] ∧ RdL H b.d [d0, d1]) (by
   intro H' X F hle; have hL := Le.trans hL hle; intro _
   rintro _ _ Hr hler ⟨g5, rfl, rfl⟩
   intro _
   rintro _ _ HiB hleB ⟨b0, b1, rfl, hB5, rfl⟩
   replace hB5 := RdL.mono hleB hB5
   intro hF; refine Qw (own' := _ :: _) rfl ?_; refine Qq 0 0 (vs := [b0, b1]) (c' := #[_, _]) (own' := [(_, .cells #[_, _] _ _)] :: _) rfl rfl rfl rfl rfl (tr_ones hB5) (by simp) rfl rfl rfl (Qi ?_)
   exact Q7 [_] hF (Le.refl _) ⟨_, _, _, rfl, rfl, hB5⟩) ?_
  refine Qa (some 6) [(7, 3)] (fun _ _ _ _ hF => Qe rfl rfl (Qd hF)) ?_
  refine ⟨by kernel_rfl, .refl _, ?_⟩
  ·
   intro H1 hle
   rintro v12 _ Hi12 hle12 ⟨hr12, rfl⟩
   rintro _ _ _ _ ⟨_, _, rfl, _, rfl⟩
   rintro _ _ _ _ ⟨_, _, rfl, _, rfl⟩
   rintro _ _ HiB hleB ⟨b0, b1, rfl, hB5, rfl⟩
   replace hB5 := RdL.mono hleB hB5
   rintro _ _ Hr hler ⟨g5, rfl, rfl⟩
   rintro _ _ Hr hler ⟨g, b0, b1, he, rfl, hB5⟩
   replace he : Value.pointer (some ⟨g5, 0, none⟩) = .pointer (some ⟨g, 0, none⟩) := he
   injection he with he; injection he with he; injection he with he; subst he
   replace hB5 := RdL.mono hler hB5
   have hL := Le.trans hL hle; have htb := RdL.mono hle htb; refine Qw (own' := _ :: _ :: _ :: own) rfl ?_; refine Zi (env' := [(0, _), (1, _), (3, _), (4, _), (16, _), (5, _), (6, _)]) ⟨rfl, rfl, rfl, rfl, rfl, rfl, rfl, trivial⟩ (Qe rfl rfl (Qi (Qc (Qj (Qj ?_))))); refine Qh (Qb rfl rfl (TL.neq rfl rfl rfl ?_))
   rw [decide_eq_false (by simp)]
   refine Qb rfl rfl ?_; refine Qf rfl rfl rfl ?_; refine Qm 0 0 [_, _] rfl rfl rfl ⟨rfl, rfl, trivial⟩ rfl rfl ?_; refine Qf rfl rfl rfl ?_; refine Qm 1 0 [_, _] rfl rfl rfl ⟨rfl, rfl, trivial⟩ rfl rfl ?_; refine Qf rfl rfl rfl ?_; refine Qs (ref_same _ _ _ (Nat.le_refl _) hB5 htb) ⟨rfl, rfl, trivial⟩ rfl ?_
   rintro _ own Hd22 ⟨rfl, rfl, hled22⟩
   rw [eqb_self]
   have hL := Le.trans hL hled22; refine Qf rfl rfl rfl (Z1 rfl rfl ?_); refine Qx rfl rfl rfl rfl (Qi (Qc (Qr rfl (Q2 (Zm ?_))))); refine Qb rfl rfl (Qe rfl rfl (Qi (Qc (Qy (Q5 3 rfl rfl ?_)))))
   exact ⟨rfl, rfl, hL⟩

end Go.Proofs.YtaomdfcplamenaaGreatDoor.K

namespace Go.Proofs.YtaomdfcplamenaaGreatDoor.K
open Go Go.RowKit Go.Proofs

/-- One row of the reference's table. -/
def rowV (f : Nat → Nat) (n : Nat) : List Value := (List.range n).map fun j => .int .i64 (f j : Int)
theorem rowV_len (f : Nat → Nat) (n : Nat) : (rowV f n).length = n := by simp [rowV]
theorem rowV_get {f : Nat → Nat} {n j : Nat} (h : j < n) : (rowV f n)[j]? = some (.int .i64 (f j : Int)) := by
  simp [rowV, h]
theorem rowV_succ {f : Nat → Nat} {n : Nat} {z : Int} (h : z = (f n : Int)) : rowV f n ++ [.int .i64 z] = rowV f (n + 1) := by
  simp [rowV, List.range_succ, h]
theorem row_rd {H : Hp} {f : Nat → Nat} {n m c b o j : Nat} (h : rd H (.s 1 ((rowV f n).map D.c)) (.slice (some ⟨b, o, none⟩) m c)) (hj : j < n) : cel H b (o + j * 1) = some (.int .i64 (f j : Int)) := by
  obtain ⟨b', o', he, hc⟩ := vals_at h (rowV_get hj)
  injection he with he
  injection he with h1 h2 h3
  subst h1 h2
  exact hc
theorem row_own {f : Nat → Nat} {n j : Nat} {cur : Array Value} (h : cur.toList.take (n * 1) = rowV f n) (hj : j < n) : lget cur.toList (0 + j * 1) = some (.int .i64 (f j : Int)) := by
  have h1 := rowV_get (f := f) hj
  rw [← h, List.getElem?_take, if_pos (by omega)] at h1
  rw [lget_eq, Nat.zero_add, Nat.mul_one]
  exact h1
theorem row_sl {H : Hp} {f : Nat → Nat} {n : Nat} {v : Value} (h : rd H (.s 1 ((rowV f n).map D.c)) v) (hn : 0 < n) : ∃ b o c, v = .slice (some ⟨b, o, none⟩) n c := by
  obtain ⟨A, c, rfl, _, _⟩ := vals_len h
  obtain ⟨b, o, rfl, _⟩ := vals_at h (rowV_get hn)
  exact ⟨b, o, c, by rw [rowV_len]⟩
theorem Row.toV {f : Nat → Nat} {n : Nat} {v : Value} {seg : Seg} {z : Int} (h : Row 3 1 v (n + 1) (rowV f n ++ [.int .i64 z]) seg) (hz : z = (f n : Int)) : Row 3 1 v (n + 1) (rowV f (n + 1)) seg := by
  rw [← rowV_succ hz]; exact h
/-- The reference's table. -/
def tabR (a b : List Tr) (k j : Nat) : Nat := alD dR (a.take k) (b.take j)
theorem tabR_le (a b : List Tr) (k j : Nat) : tabR a b k j ≤ Tr.sizes a + Tr.sizes b := by
  have h1 := alD_le dR (a.take k) (b.take j)
  have h2 := Tr.sizes_take_le a k
  have h3 := Tr.sizes_take_le b j
  unfold tabR
  omega
theorem tabR_0 (a b : List Tr) (k : Nat) : tabR a b k 0 = Tr.sizes (a.take k) := by
  unfold tabR
  rw [List.take_zero, alD_nil2]
theorem tabR_00 (a b : List Tr) : tabR a b 0 0 = 0 := by rw [tabR_0]; simp [Tr.sizes]
theorem tabR_row0 {a b : List Tr} {j : Nat} {y : Tr} (hy : b[j]? = some y) : tabR a b 0 (j + 1) = tabR a b 0 j + y.size := by
  unfold tabR
  rw [List.take_zero, alD_nil, alD_nil, Tr.sizes_take b j y hy]
theorem tabR_col {a b : List Tr} {k : Nat} {x : Tr} (hx : a[k]? = some x) : tabR a b (k + 1) 0 = tabR a b k 0 + x.size := by
  rw [tabR_0, tabR_0, Tr.sizes_take a k x hx]
theorem tabR_step {a b : List Tr} {k j : Nat} {x y : Tr} (hx : a[k]? = some x) (hy : b[j]? = some y) :
    tabR a b (k + 1) (j + 1) = min (min (tabR a b k j + dR x y) (tabR a b k (j + 1) + x.size)) (tabR a b (k + 1) j + y.size) := by
  unfold tabR
  rw [List.take_add_one (i := k), hx, List.take_add_one (i := j), hy]
  exact alD_snoc x y _ _
theorem tabR_end (l : ByteArray) (a b : List Tr) : tabR a b a.length b.length = dR (.node l a) (.node l b) := by
  unfold tabR
  rw [List.take_length, List.take_length, dR_eq]
  simp [Tr.lab, Tr.kids]
theorem dist_lab {la lb : ByteArray} {a b : List Tr} (h : la ≠ lb) : Value.int .i64 (((Tr.node la a).size : Int) + ((Tr.node lb b).size : Int)) = .int .i64 (dR (.node la a) (.node lb b) : Int) := by
  rw [dR_eq, if_pos (by simpa [Tr.lab] using h), Int.natCast_add]
theorem dist_end {la lb : ByteArray} {a b : List Tr} (h : la = lb) : Value.int .i64 (tabR a b a.length b.length : Int) = .int .i64 (dR (.node la a) (.node lb b) : Int) := by
  rw [h, ← tabR_end]
end Go.Proofs.YtaomdfcplamenaaGreatDoor.K

namespace Go.Proofs.YtaomdfcplamenaaGreatDoor.K
open Go Go.RowKit Go.Proofs

theorem ref_Distance (k : Nat) : ∀ (a b : Tr), a.size ≤ k → k ≤ 1000000 → b.size ≤ 1000000 → ∀ {w0 : World} {H : Hp} {own : List Seg} {a0 a1 b0 b1 : Value}, RdL H a.d [a0, a1] → RdL H b.d [b0, b1] →
    Fn Tryz.prog 15 [.agg #[a0, a1], .agg #[b0, b1]] w0 H own (fun r own' H' => r = .int .i64 (dR a b : Int) ∧ own' = own ∧ Le H H') := by
  induction k with
  | zero => intro a b h; have := a.size_pos; omega
  | succ k ih =>
    rintro ⟨la, ks⟩ ⟨lb, js⟩ hk hlim hbl w0 H own a0 a1 b0 b1 hta htb
    obtain ⟨rfl, A, c, rfl, hc1, hc2, hA⟩ := tr_cells hta
    obtain ⟨rfl, B, d, rfl, hd1, hd2, hB⟩ := tr_cells htb
    have has : ks.length ≤ 1000000 := by have := Tr.len_le ks; simp only [Tr.size] at hk; omega
    have hbs : js.length ≤ 1000000 := by have := Tr.len_le js; simp only [Tr.size] at hbl; omega
    have hsa : Tr.sizes ks ≤ 1000000 := by simp only [Tr.size] at hk; omega
    have hsb : Tr.sizes js ≤ 1000000 := by simp only [Tr.size] at hbl; omega
    refine Fn.enter Tryz.func15 rfl Tryz.ntmps15 rfl ?_; have hL := Le.refl H; refine Qj (Qh ?_)
    refine Zx (c := #[_, _]) rfl rfl rfl ?_; intro g2
    refine Zx (c := #[_, _]) rfl rfl rfl ?_; intro g3; refine Qe rfl rfl (Qi (Qc (Qj (Qj (Qh ?_))))); refine Qg rfl rfl (Qk 1 0 rfl rfl rfl rfl rfl (Qg rfl rfl (Qk 0 0 rfl rfl rfl rfl rfl ?_)))
    refine TL.neqSB rfl rfl rfl (fun hl => ?_) (fun hl => ?_)
    ·
     refine Qi (Qc (Qv rfl (Qj ?_))); refine Q4 3  [(0, _), (1, _), (2, _), (3, _), (4, _)] follows_mixed ⟨rfl, rfl, rfl, rfl, rfl, trivial⟩ ?_
     refine Qa (some 17) [] (by
      intro H' X F hle; have hL := Le.trans hL hle; intro hF; refine Qm 1 0 [_, _] rfl rfl rfl ⟨rfl, rfl, trivial⟩ rfl rfl ?_
      exact Qd hF) ?_
     refine Qa (some 18) [(0, 0)] (by
      intro H' X F hle; have hL := Le.trans hL hle; have hta := RdL.mono hle hta; intro hF; refine Qs (ref_Count _ (Tr.node la ks) (Nat.le_refl _) (by omega) hta) ⟨rfl, trivial⟩ rfl ?_
      rintro _ own Hn18 ⟨rfl, rfl, hlen18⟩
      have hL := Le.trans hL hlen18; refine Qi ?_
      exact Q7 [] hF hlen18 ⟨rfl, rfl⟩) ?_
     refine Qa (some 19) [] (by
      intro H' X F hle; have hL := Le.trans hL hle; intro hF; refine Qm 0 0 [_, _] rfl rfl rfl ⟨rfl, rfl, trivial⟩ rfl rfl ?_
      exact Qd hF) ?_
     refine ⟨by kernel_rfl, .refl _, ?_⟩
     ·
      intro H1 hle; have hL := Le.trans hL hle; have htb := RdL.mono hle htb; refine Qw (own' := _ :: _ :: own) rfl ?_; refine Zi (env' := [(0, _), (1, _), (2, _), (3, _), (4, _), (18, _), (19, _)]) ⟨rfl, rfl, rfl, rfl, rfl, rfl, rfl, trivial⟩ ?_; refine Qs (ref_Count _ (Tr.node lb js) (Nat.le_refl _) (by omega) htb) ⟨rfl, trivial⟩ rfl ?_
      rintro _ own Hn20 ⟨rfl, rfl, hlen20⟩
      have hL := Le.trans hL hlen20; refine Zb rfl rfl rfl ⟨by omega, by omega⟩ (Qe rfl rfl (Qi (Qc (Qy (Q0 ?_))))); refine Q5 2 rfl rfl ?_
      refine ⟨?_, rfl, hL⟩
      first
        | exact dist_lab hl
        | exact dist_end hl
    ·
     refine Qi (Qc (Qr rfl (Q2 (Zm (Qe rfl rfl ?_))))); refine Qi (Qc (Qj (Z4 (Qh (Qb rfl rfl ?_)))))
     refine Zg (r := [_]) [(0, [_])] ⟨rfl, ⟨_, rfl, rfl⟩, trivial⟩ rfl rfl rfl rfl ?_; intro g23; refine Zh 1 rfl rfl rfl (Row.nil 3 1) (Src.ofOwn 0 0 rfl rfl rfl (Ones.all (show Ones [_] from ⟨by rfl, trivial⟩)) ⟨rfl, trivial⟩) (by omega) (by omega) rfl ?_; intro v5 seg5 hrow0; refine Qe rfl rfl (Qi (Qc (Qj (Qj (Qh ?_))))); refine Qe rfl rfl (Qi (Qc (Q6 ?_)))
     refine Z2 4 [1, 2, 3] rfl (fun o ho => ?_)
     simp only [K.sel, nrm] at ho; subst ho
     refine Zv (fun n env' own' H' => ∃ i u seg, n = js.length - i ∧ i ≤ js.length ∧ Row 3 1 u (i + 1) (rowV (tabR ks js 0) (i + 1)) seg ∧ env' = [(2, .pointer (some ⟨g2, 0, none⟩)), (3, .pointer (some ⟨g3, 0, none⟩)), (5, u), (6, .int .i64 (i : Int))] ∧ own' = seg :: [(g3, .cells #[.string lb, .slice B js.length d] 26 (0, 0))] :: [(g2, .cells #[.string la, .slice A ks.length c] 26 (0, 0))] :: own ∧ Le H H') js.length [(2, _), (3, _), (5, _), (6, _)] ⟨rfl, rfl, rfl, rfl, trivial⟩ ⟨0, v5, seg5, by omega, by omega, by rw [show rowV (tabR ks js 0) (0 + 1) = [.int .i64 0] from by simp [rowV, tabR_00]]; exact hrow0, by simp, rfl, Le.refl _⟩ ?_
     rintro n _ _ H1 ⟨i, u, seg, rfl, hi1, hrow, rfl, rfl, hle0⟩
     have hf0 := tabR_le ks js 0 i; have hL := Le.trans hL hle0; have hA := rd.mono hle0 hA; have hB := rd.mono hle0 hB; refine Qj (Qj (Qh (Qb rfl rfl (Qg rfl rfl (Qk 1 0 rfl rfl rfl rfl rfl ?_))))); refine Qn rfl rfl ?_
     refine Zz rfl rfl rfl (fun hlt => ?_) (fun hlt => ?_)
     ·
      obtain ⟨y, hy⟩ : ∃ y, js[i]? = some y := ⟨_, List.getElem?_eq_getElem (by omega)⟩
      have hys := Tr.size_mem (List.mem_of_getElem? hy)
      obtain ⟨b2, o2, q0, q1, rfl, hpy, hpry⟩ := trs_at hB hy
      obtain ⟨A5, c5, rfl, hc5, hc5'⟩ := hrow.sl
      obtain ⟨g5, cur, rfl, rfl, hcs, hct, hcl⟩ := hrow.blk (by omega)
      
      refine Qi (Qc (Qv rfl (Q2 (Qc (Qj ?_))))); refine Q6 ?_; refine Q4 13  [(2, _), (3, _), (5, _), (6, _)] follows_mixed ⟨rfl, rfl, rfl, rfl, trivial⟩ ?_; refine Qa (some 32) [] (fun _ _ _ _ hF => Qb rfl rfl (Qd hF)) ?_; refine Qa (some 33) [] (fun _ _ _ _ hF => Qb rfl rfl (Qd hF)) ?_; refine Qa (some 34) [] (fun _ _ _ _ hF => Qb rfl rfl (Qd hF)) ?_; refine Qa (some 35) [(1, 1), (2, 0)] (fun _ _ _ _ hF => Qo (i) rfl rfl rfl (by omega) rfl (Qd hF)) ?_
      refine Qa (some 36) [(3, 0)] (by
       intro H' X F hle; have hL := Le.trans hL hle; intro hF; refine Qk 0 0 rfl rfl rfl (row_own (n := i + 1) (j := i) hct (by omega)) rfl ?_
       exact Qd hF) ?_
      refine Qa (some 37) [] (fun _ _ _ _ hF => Qg rfl rfl (Qd hF)) ?_
      refine Qa (some 38) [(5, 0)] (by
       intro H' X F hle; have hL := Le.trans hL hle; intro hF; refine Qk 1 0 rfl rfl rfl rfl rfl ?_
       exact Qd hF) ?_
      refine Qa (some 39) [] (fun _ _ _ _ hF => Qb rfl rfl (Qd hF)) ?_; refine Qa (some 40) [(6, 1), (7, 0)] (fun _ _ _ _ hF => Qo (i) rfl rfl rfl (by omega) rfl (Qd hF)) ?_
      refine Qa (some 41) [(8, 0)] (by
       intro H' X F hle; have hL := Le.trans hL hle; have hpy := hAt.mono hle hpy; intro hF; refine Zd rfl (hpy) rfl rfl ?_
       exact Qd hF) ?_
      refine Qa (some 42) [(9, 0)] (by
       intro H' X F hle; have hL := Le.trans hL hle; have hpry := RdL.mono hle hpry; intro hF; refine Qs (ref_Count _ y (Nat.le_refl _) (by omega) hpry) ⟨rfl, trivial⟩ rfl ?_
       rintro _ own Hn42 ⟨rfl, rfl, hlen42⟩
       have hL := Le.trans hL hlen42; refine Qi ?_
       exact Q7 [] hF hlen42 ⟨rfl, rfl⟩) ?_
      refine Qa (some 43) [(4, 6), (10, 0)] (fun _ _ _ _ hF => Zb rfl rfl rfl ⟨by omega, by omega⟩ (Qd hF)) ?_
      refine Q9 (some 44) [(11, 0)] ([]) (fun _ => fun u s H => ∃ g, u = .slice (some ⟨g, 0, none⟩) 1 1 ∧ s = [[(g, .cells #[.int .i64 ((tabR ks js 0 i : Int) + (y.size : Int))] 3 (0, 0))]]) (by
       intro H' X F hle; have hL := Le.trans hL hle; intro hF
       refine Zg (r := [_]) [(0, [_])] ⟨rfl, ⟨_, rfl, rfl⟩, trivial⟩ rfl rfl rfl rfl ?_; intro g44; refine Qi ?_
       exact Q7 [_] hF (Le.refl _) ⟨_, rfl, rfl⟩) ?_
      refine ⟨by kernel_rfl, .refl _, ?_⟩
      ·
       intro H2 hle
       rintro _ _ Hr hler ⟨g44, rfl, rfl⟩
       have hL := Le.trans hL hle; have hle0 := Le.trans hle0 hle; refine Qw (own' := _ :: _ :: _ :: _ :: own) rfl ?_; refine Zi (env' := [(2, _), (3, _), (5, _), (6, _), (32, _), (44, _)]) ⟨rfl, rfl, rfl, rfl, rfl, rfl, trivial⟩ ?_; refine Zh 1 rfl rfl rfl hrow (Src.ofOwn 0 0 rfl rfl rfl (Ones.all (show Ones [_] from ⟨by rfl, trivial⟩)) ⟨rfl, trivial⟩) (by omega) (by omega) rfl ?_; intro v' seg' hrow'; refine Qe rfl rfl (Qi (Ze (Qc (Qh (Qb rfl rfl ?_))))); refine Zb rfl rfl rfl ⟨by omega, by omega⟩ (Qe rfl rfl (Qi ?_))
       refine Zj 4 [1, 2, 3] rfl (fun o ho => ?_)
       simp only [K.sel, nrm] at ho; subst ho
       refine Zf (js.length - (i + 1)) [(2, _), (3, _), (5, _), (6, _)] (by omega) ⟨rfl, rfl, rfl, rfl, trivial⟩ ⟨i + 1, v', seg', rfl, by omega, Row.toV hrow' (by rw [tabR_row0 hy]; omega), by simp, rfl, hle0⟩
     ·
      have hi : i = js.length := by omega
      subst hi
      refine Qi (Qc (Qr rfl (Zo (Q1 (Q1 ?_))))); refine Zp (Qc (Qj (Qj (Qh ?_))))
      refine Zy (fun H3 hle hz_row => ?_)
      have hL := Le.trans hL hle; have hA := rd.mono hle hA; have hB := rd.mono hle hB
      have hprev : rd H3 (.s 1 ((rowV (tabR ks js 0) (js.length + 1)).map D.c)) u := rd.ofRow hrow hz_row (RdL.vals _) (Le.refl _)
      refine Qe rfl rfl (Qi (Qc (Q6 ?_))); refine Zv (fun n env' own' H' => ∃ q uq, n = ks.length - q ∧ q ≤ ks.length ∧ rd H' (.s 1 ((rowV (tabR ks js q) (js.length + 1)).map D.c)) uq ∧ env' = [(2, .pointer (some ⟨g2, 0, none⟩)), (3, .pointer (some ⟨g3, 0, none⟩)), (5, uq), (7, .int .i64 (q : Int))] ∧ own' = [(g3, .cells #[.string lb, .slice B js.length d] 26 (0, 0))] :: [(g2, .cells #[.string la, .slice A ks.length c] 26 (0, 0))] :: own ∧ Le H3 H') ks.length [(2, _), (3, _), (5, _), (7, _)] ⟨rfl, rfl, rfl, rfl, trivial⟩ ⟨0, u, by omega, by omega, hprev, by simp, rfl, Le.refl _⟩ ?_
      rintro n _ _ H3 ⟨q, uq, rfl, hq1, hprev, rfl, rfl, hle9⟩
      obtain ⟨bP, oP, cP, rfl⟩ := row_sl hprev (by omega)
      have hL := Le.trans hL hle9; have hA := rd.mono hle9 hA; have hB := rd.mono hle9 hB; refine Qj (Qj (Qh (Qb rfl rfl (Qg rfl rfl (Qk 1 0 rfl rfl rfl rfl rfl ?_))))); refine Qn rfl rfl ?_
      refine Zz rfl rfl rfl (fun hlt2 => ?_) (fun hlt2 => ?_)
      ·
       obtain ⟨x, hx⟩ : ∃ x, ks[q]? = some x := ⟨_, List.getElem?_eq_getElem (by omega)⟩
       have hxs := Tr.size_mem (List.mem_of_getElem? hx)
       obtain ⟨b1, o1, p0, p1, rfl, hpx, hprx⟩ := trs_at hA hx
       have hf1 := tabR_le ks js q 0; refine Qi (Qc (Qv rfl (Q2 (Qc (Qj ?_))))); refine Q6 (Qj (Qh (Qg rfl rfl (Qk 1 0 rfl rfl rfl rfl rfl (Qb rfl rfl ?_))))); refine Qo (q) rfl rfl rfl (by omega) rfl ?_; refine Zd rfl (hpx) rfl rfl ?_; refine Qs (ref_Count _ x (Nat.le_refl _) (by omega) hprx) ⟨rfl, trivial⟩ rfl ?_
       rintro _ own Hn58 ⟨rfl, rfl, hlen58⟩
       have hL := Le.trans hL hlen58; have hB := rd.mono hlen58 hB; have hle9 := Le.trans hle9 hlen58; have hprev := rd.mono hlen58 hprev; have hpx := hAt.mono hlen58 hpx; have hprx := RdL.mono hlen58 hprx; refine Qe rfl rfl (Q3 (Qb rfl rfl ?_)); refine Qo (0) rfl rfl rfl (by omega) rfl ?_; refine Qp rfl ((row_rd hprev (j := 0) (by omega))) rfl (Qb rfl rfl ?_); refine Zb rfl rfl rfl ⟨by omega, by omega⟩ ?_
       refine Zg (r := [_]) [(0, [_])] ⟨rfl, ⟨_, rfl, rfl⟩, trivial⟩ rfl rfl rfl rfl ?_; intro g64; refine Qe rfl rfl (Qi (Qc (Qj (Qj (Qh ?_))))); refine Qe rfl rfl (Qi (Qc (Q6 ?_)))
       refine Zv (fun n env' own' H' => ∃ j u9 seg9, n = js.length - j ∧ j ≤ js.length ∧ Row 3 1 u9 (j + 1) (rowV (tabR ks js (q + 1)) (j + 1)) seg9 ∧ env' = [(2, .pointer (some ⟨g2, 0, none⟩)), (3, .pointer (some ⟨g3, 0, none⟩)), (5, .slice (some ⟨bP, oP, none⟩) (js.length + 1) cP), (7, .int .i64 (q : Int)), (8, .int .i64 (x.size : Int)), (9, u9), (10, .int .i64 (j : Int))] ∧ own' = seg9 :: [(g3, .cells #[.string lb, .slice B js.length d] 26 (0, 0))] :: [(g2, .cells #[.string la, .slice (some ⟨b1, o1, none⟩) ks.length c] 26 (0, 0))] :: own ∧ Le Hn58 H') js.length [(2, _), (3, _), (5, _), (7, _), (8, _), (9, _), (10, _)] ⟨rfl, rfl, rfl, rfl, rfl, rfl, rfl, trivial⟩ ⟨0, .slice (some ⟨g64, 0, none⟩) 1 1, [(g64, .cells #[.int .i64 ((tabR ks js q 0 : Int) + (x.size : Int))] 3 (0, 0))], by omega, by omega, by rw [show rowV (tabR ks js (q + 1)) (0 + 1) = [.int .i64 ((tabR ks js q 0 : Int) + (x.size : Int))] from by simp [rowV, tabR_col hx]]; exact Row.lit 3 1 1 _ #[_] rfl (by omega), by simp, rfl, Le.refl _⟩ ?_
       rintro n _ _ H5 ⟨j, u9, seg9, rfl, hj1, hrow, rfl, rfl, hle8⟩
       have hf2 := tabR_le ks js q (j + 1)
       have hf3 := tabR_le ks js q j
       have hf4 := tabR_le ks js (q + 1) j
       have hL := Le.trans hL hle8; have hB := rd.mono hle8 hB; have hle9 := Le.trans hle9 hle8; have hprev := rd.mono hle8 hprev; have hpx := hAt.mono hle8 hpx; have hprx := RdL.mono hle8 hprx; refine Qj (Qj (Qh (Qb rfl rfl (Qg rfl rfl (Qk 1 0 rfl rfl rfl rfl rfl ?_))))); refine Qn rfl rfl ?_
       refine Zz rfl rfl rfl (fun hlt3 => ?_) (fun hlt3 => ?_)
       ·
        obtain ⟨y, hy⟩ : ∃ y, js[j]? = some y := ⟨_, List.getElem?_eq_getElem (by omega)⟩
        have hys := Tr.size_mem (List.mem_of_getElem? hy)
        obtain ⟨b2, o2, q0, q1, rfl, hpy, hpry⟩ := trs_at hB hy
        obtain ⟨A5, c5, rfl, hc5, hc5'⟩ := hrow.sl
        obtain ⟨g5, cur, rfl, rfl, hcs, hct, hcl⟩ := hrow.blk (by omega)
        have hdl := dR_le x y; refine Qi (Qc (Qv rfl (Q2 (Qc (Qj ?_))))); refine Q6 (Qj (Qh (Qb rfl rfl (Qb rfl rfl ?_)))); refine Zb rfl rfl rfl ⟨by omega, by omega⟩ ?_; refine Qo (j + 1) rfl rfl (by omega) (by omega) rfl ?_; refine Qp rfl ((row_rd hprev (j := j + 1) (by omega))) rfl (Qb rfl rfl ?_); refine Zb rfl rfl rfl ⟨by omega, by omega⟩ (Qe rfl rfl (Qi (Qc (Qj ?_)))); refine Q4 12  [(2, _), (3, _), (5, _), (7, _), (8, _), (9, _), (10, _), (11, _)] follows_mixed ⟨rfl, rfl, rfl, rfl, rfl, rfl, rfl, rfl, trivial⟩ ?_; refine Qa (some 79) [] (fun _ _ _ _ hF => Qb rfl rfl (Qd hF)) ?_
        refine Qa (some 80) [] (fun _ _ _ _ hF => Qb rfl rfl (Qd hF)) ?_; refine Qa (some 81) [] (fun _ _ _ _ hF => Qb rfl rfl (Qd hF)) ?_; refine Qa (some 82) [(1, 1), (2, 0)] (fun _ _ _ _ hF => Qo (j) rfl rfl rfl (by omega) rfl (Qd hF)) ?_
        refine Qa (some 83) [(3, 0)] (by
         intro H' X F hle; have hL := Le.trans hL hle; intro hF; refine Qk 0 0 rfl rfl rfl (row_own (n := j + 1) (j := j) hct (by omega)) rfl ?_
         exact Qd hF) ?_
        refine Qa (some 84) [] (fun _ _ _ _ hF => Qg rfl rfl (Qd hF)) ?_
        refine Qa (some 85) [(5, 0)] (by
         intro H' X F hle; have hL := Le.trans hL hle; intro hF; refine Qk 1 0 rfl rfl rfl rfl rfl ?_
         exact Qd hF) ?_
        refine Qa (some 86) [] (fun _ _ _ _ hF => Qb rfl rfl (Qd hF)) ?_; refine Qa (some 87) [(6, 1), (7, 0)] (fun _ _ _ _ hF => Qo (j) rfl rfl rfl (by omega) rfl (Qd hF)) ?_
        refine Qa (some 88) [(8, 0)] (by
         intro H' X F hle; have hL := Le.trans hL hle; have hpy := hAt.mono hle hpy; intro hF; refine Zd rfl (hpy) rfl rfl ?_
         exact Qd hF) ?_
        refine Qa (some 89) [(9, 0)] (by
         intro H' X F hle; have hL := Le.trans hL hle; have hpry := RdL.mono hle hpry; intro hF; refine Qs (ref_Count _ y (Nat.le_refl _) (by omega) hpry) ⟨rfl, trivial⟩ rfl ?_
         rintro _ own Hn89 ⟨rfl, rfl, hlen89⟩
         have hL := Le.trans hL hlen89; refine Qi ?_
         exact Q7 [] hF hlen89 ⟨rfl, rfl⟩) ?_
        refine Qa (some 90) [(4, 6), (10, 0)] (fun _ _ _ _ hF => Zb rfl rfl rfl ⟨by omega, by omega⟩ (Qd hF)) ?_
        refine ⟨by kernel_rfl, .refl _, ?_⟩
        ·
         intro H4 hle; have hL := Le.trans hL hle; have hprev := rd.mono hle hprev; have hpx := hAt.mono hle hpx; have hprx := RdL.mono hle hprx; have hle8 := Le.trans hle8 hle; have hpy := hAt.mono hle hpy; have hpry := RdL.mono hle hpry; refine Qw (own' := _ :: _ :: _ :: own) rfl ?_; refine Zi (env' := [(2, _), (3, _), (5, _), (7, _), (8, _), (9, _), (10, _), (11, _), (79, _), (90, _)]) ⟨rfl, rfl, rfl, rfl, rfl, rfl, rfl, rfl, rfl, rfl, trivial⟩ (TL.min2 rfl rfl rfl (Qe rfl rfl (Qi (Qc (Qj ?_))))); refine Q4 17  [(2, _), (3, _), (5, _), (7, _), (8, _), (9, _), (10, _), (11, _)] follows_mixed ⟨rfl, rfl, rfl, rfl, rfl, rfl, rfl, rfl, trivial⟩ ?_; refine Qa (some 92) [] (fun _ _ _ _ hF => Qb rfl rfl (Qd hF)) ?_; refine Qa (some 93) [] (fun _ _ _ _ hF => Qb rfl rfl (Qd hF)) ?_
         refine Qa (some 94) [] (fun _ _ _ _ hF => Qb rfl rfl (Qd hF)) ?_; refine Qa (some 95) [(1, 1), (2, 0)] (fun _ _ _ _ hF => Qo (j) rfl rfl rfl (by omega) rfl (Qd hF)) ?_
         refine Qa (some 96) [(3, 0)] (by
          intro H' X F hle; have hL := Le.trans hL hle; have hprev := rd.mono hle hprev; intro hF; refine Qp rfl ((row_rd hprev (j := j) (by omega))) rfl ?_
          exact Qd hF) ?_
         refine Qa (some 97) [] (fun _ _ _ _ hF => Qg rfl rfl (Qd hF)) ?_
         refine Qa (some 98) [(5, 0)] (by
          intro H' X F hle; have hL := Le.trans hL hle; intro hF; refine Qk 2 0 rfl rfl rfl rfl rfl ?_
          exact Qd hF) ?_
         refine Qa (some 99) [] (fun _ _ _ _ hF => Qb rfl rfl (Qd hF)) ?_; refine Qa (some 100) [(6, 1), (7, 0)] (fun _ _ _ _ hF => Qo (q) rfl rfl rfl (by omega) rfl (Qd hF)) ?_
         refine Qa (some 101) [(8, 0)] (by
          intro H' X F hle; have hL := Le.trans hL hle; have hpx := hAt.mono hle hpx; intro hF; refine Zd rfl (hpx) rfl rfl ?_
          exact Qd hF) ?_
         refine Qa (some 102) [] (fun _ _ _ _ hF => Qg rfl rfl (Qd hF)) ?_
         refine Qa (some 103) [(10, 0)] (by
          intro H' X F hle; have hL := Le.trans hL hle; intro hF; refine Qk 1 0 rfl rfl rfl rfl rfl ?_
          exact Qd hF) ?_
         refine Qa (some 104) [] (fun _ _ _ _ hF => Qb rfl rfl (Qd hF)) ?_; refine Qa (some 105) [(11, 1), (12, 0)] (fun _ _ _ _ hF => Qo (j) rfl rfl rfl (by omega) rfl (Qd hF)) ?_
         refine Qa (some 106) [(13, 0)] (by
          intro H' X F hle; have hL := Le.trans hL hle; have hpy := hAt.mono hle hpy; intro hF; refine Zd rfl (hpy) rfl rfl ?_
          exact Qd hF) ?_
         refine Qa (some 107) [(9, 5), (14, 0)] (by
          intro H' X F hle; have hL := Le.trans hL hle; have hprx := RdL.mono hle hprx; have hpry := RdL.mono hle hpry; intro hF; refine Qs (ih x y (Tr.size_kid (List.mem_of_getElem? hx) hk) (by omega) (by omega) hprx hpry) ⟨rfl, rfl, trivial⟩ rfl ?_
          rintro _ _ H6 ⟨rfl, rfl, hle6⟩
          have hL := Le.trans hL hle6; refine Qi ?_
          exact Q7 [] hF hle6 ⟨rfl, rfl⟩) ?_
         refine Qa (some 108) [(4, 11), (15, 0)] (fun _ _ _ _ hF => Zb rfl rfl rfl ⟨by omega, by omega⟩ (Qd hF)) ?_
         refine ⟨by kernel_rfl, .refl _, ?_⟩
         ·
          intro H5 hle; have hL := Le.trans hL hle; have hle8 := Le.trans hle8 hle; refine Qw (own' := _ :: _ :: _ :: own) rfl ?_; refine Zi (env' := [(2, _), (3, _), (5, _), (7, _), (8, _), (9, _), (10, _), (11, _), (92, _), (108, _)]) ⟨rfl, rfl, rfl, rfl, rfl, rfl, rfl, rfl, rfl, rfl, trivial⟩ (TL.min2 rfl rfl rfl (Qe rfl rfl (Qi (Qc (Qh ?_))))); refine Qb rfl rfl (Qb rfl rfl ?_)
          refine Zg (r := [_]) [(0, [_])] ⟨rfl, ⟨_, rfl, rfl⟩, trivial⟩ rfl rfl rfl rfl ?_; intro g112; refine Zh 1 rfl rfl rfl hrow (Src.ofOwn 0 0 rfl rfl rfl (Ones.all (show Ones [_] from ⟨by rfl, trivial⟩)) ⟨rfl, trivial⟩) (by omega) (by omega) rfl ?_; intro v' seg' hrow'; refine Qe rfl rfl (Qi (Ze (Qc (Qh (Qb rfl rfl ?_))))); refine Zb rfl rfl rfl ⟨by omega, by omega⟩ (Qe rfl rfl (Qi ?_))
          refine Zj 4 [1, 2, 3] rfl (fun o ho => ?_)
          simp only [K.sel, nrm] at ho; subst ho
          refine Zf (js.length - (j + 1)) [(2, _), (3, _), (5, _), (7, _), (8, _), (9, _), (10, _)] (by omega) ⟨rfl, rfl, rfl, rfl, rfl, rfl, rfl, trivial⟩ ⟨j + 1, v', seg', rfl, by omega, Row.toV hrow' (by rw [tabR_step hx hy]; omega), by simp, rfl, hle8⟩
       ·
        have hj : j = js.length := by omega
        subst hj
        refine Qi (Qc (Qr rfl (Zo (Q1 (Q1 ?_))))); refine Zp (Qc (Qh ?_))
        refine Zy (fun H6 hle hz_row9 => ?_)
        have hL := Le.trans hL hle; have hle9 := Le.trans hle9 hle
        have hprev2 : rd H6 (.s 1 ((rowV (tabR ks js (q + 1)) (js.length + 1)).map D.c)) u9 := rd.ofRow hrow hz_row9 (RdL.vals _) (Le.refl _)
        refine Qb rfl rfl (Qe rfl rfl (Qi (Ze (Qc (Qh ?_))))); refine Qb rfl rfl ?_; refine Zb rfl rfl rfl ⟨by omega, by omega⟩ (Qe rfl rfl (Qi ?_)); refine Zn (own' := _ :: _ :: own) rfl ?_
        refine Zf (ks.length - (q + 1)) [(2, _), (3, _), (5, _), (7, _)] (by omega) ⟨rfl, rfl, rfl, rfl, trivial⟩ ⟨q + 1, u9, rfl, by omega, hprev2, by simp, rfl, hle9⟩
      ·
       have hq : q = ks.length := by omega
       subst hq
       refine Qi (Qc (Qr rfl (Zo (Q1 (Q1 ?_))))); refine Zp (Zm (Qb rfl rfl (Qg rfl rfl (Qk 0 0 rfl rfl rfl rfl rfl (Qn rfl rfl ?_))))); refine Qo (js.length) rfl rfl rfl (by omega) rfl ?_; refine Qp rfl ((row_rd hprev (j := js.length) (by omega))) rfl (Qe rfl rfl (Qi (Qc (Qy (Q5 2 rfl rfl ?_)))))
       refine ⟨?_, rfl, hL⟩
       first
         | exact dist_lab hl
         | exact dist_end hl

end Go.Proofs.YtaomdfcplamenaaGreatDoor.K

namespace Go.Proofs.YtaomdfcplamenaaGreatDoor.K
open Go Go.RowKit Go.Proofs

theorem Apply_own {es : List Ei} {t u : Tr} {w0 : World} {H : Hp} {own : List Seg} {a0 a1 ve : Value} (hs : applyI t es = .inr u) (hpl : ∀ e ∈ es, e.path.length ≤ 1000000) (hsz : t.size + treesI es ≤ 1000000) (hel : es.length ≤ 1000000) (ht : RdL H t.d [a0, a1]) (hve : rd H (.s 4 (eiD es)) ve) :
    Fn Tryz.prog 17 [.agg #[a0, a1], ve] w0 H own (fun r o H' => ∃ u0 u1 S, r = .tuple #[.agg #[u0, u1], .int .i64 0] ∧ ownT u u0 u1 S ∧ o = S :: own ∧ Le H H') :=
  (diff_Apply hpl hsz hel ht hve).mono fun r o H' h => by
    obtain ⟨⟨c, h1, _⟩ | ⟨u', u0, u1, S, h1, h2, h3, h4⟩, h5⟩ := h
    · rw [hs] at h1; cases h1
    · rw [hs] at h1; cases h1; exact ⟨u0, u1, S, h2, h3, h4, h5⟩
theorem law_diff_o {a b : Tr} (ha : a.l7) (hb : b.l7) (hi : a.inn.length + b.inn.length ≤ 93) (hsz : a.size + b.size ≤ 1000000) {w0 : World} {H : Hp} {own : List Seg} {a0 a1 b0 b1 : Value} (hta : RdL H a.d [a0, a1]) (htb : RdL H b.d [b0, b1]) :
    Fn Tryz.prog 13 [.agg #[a0, a1], .agg #[b0, b1]] w0 H own (fun r own' H' => ∃ seg, EdLog H' r (edT a b []) seg ∧ own' = seg :: own ∧ Le H H') := by
  refine Diff_o (uni7 ha hb hi) ?_ ?_ hsz hta htb
  · rcases inn_self ha with h | h
    · exact List.mem_append_left _ h
    · exact List.mem_append_right _ (List.mem_append_left _ h)
  · rcases inn_self hb with h | h
    · exact List.mem_append_left _ h
    · exact List.mem_append_right _ (List.mem_append_right _ h)
/-- A block of n chunks of z cells whose cells at k are strings that are not long. -/
def Strs (n z k B : Nat) (cur : Array Value) : Prop := n * z ≤ cur.size ∧ ∀ i, i < n → ∃ s : ByteArray, cur[i * z + k]? = some (.string s) ∧ s.size ≤ B
theorem Strs.set {n z k B i : Nat} {cur : Array Value} (h : Strs n z k B cur) (hk : k < z) (hi : i < n) {s : ByteArray} (hs : s.size ≤ B + 1) : Strs n z k (B + 1) (cur.setIfInBounds (i * z + k) (.string s)) := by
  refine ⟨by simpa using h.1, fun j hj => ?_⟩
  have hz : i * z + k < cur.size := by
    have := Nat.mul_le_mul_right z (show i + 1 ≤ n by omega)
    have h1 := h.1
    rw [Nat.add_mul, Nat.one_mul] at this
    omega
  by_cases e : j = i
  · subst e
    exact ⟨s, by rw [Array.getElem?_setIfInBounds]; simp [hz], hs⟩
  · obtain ⟨s', h1, h2⟩ := h.2 j hj
    refine ⟨s', ?_, by omega⟩
    rw [Array.getElem?_setIfInBounds, if_neg (fun hh => ?_)]
    · exact h1
    · rcases Nat.lt_or_gt_of_ne e with h3 | h3
      · have := Nat.mul_le_mul_right z (show j + 1 ≤ i by omega); rw [Nat.add_mul, Nat.one_mul] at this; omega
      · have := Nat.mul_le_mul_right z (show i + 1 ≤ j by omega); rw [Nat.add_mul, Nat.one_mul] at this; omega
theorem ownL.lab : ∀ {ks : List Tr} {xs : List Value} {s : Seg}, ownL ks xs s → ∀ (i : Nat) (t : Tr), ks[i]? = some t → xs[i * 2]? = some (.string t.lab)
  | [], _, _, _, i, t, h => by simp at h
  | k :: r, xs, s, h, i, t, hi => by
    simp only [ownL] at h
    obtain ⟨v0, v1, ys, s1, s2, rfl, _, h3, h4⟩ := h
    cases i with
    | zero =>
      simp only [List.getElem?_cons_zero, Option.some.injEq] at hi
      subst hi
      rw [h3.open.1]; rfl
    | succ i =>
      simp only [List.getElem?_cons_succ] at hi
      have := ownL.lab h4 i t hi
      rw [show (i + 1) * 2 = i * 2 + 1 + 1 by omega]
      exact this
/-- The row of a tree's kids, as one block with labels that are not long. -/
theorem ownT.strs {u : Tr} {u0 u1 : Value} {S : Seg} (h : ownT u u0 u1 S) (h7 : u.l7) : ∃ c A sr sk, u1 = .slice A u.kids.length c ∧ S.Perm (sr ++ sk) ∧ (0 < u.kids.length → ∃ g cur, A = some ⟨g, 0, none⟩ ∧ sr = [(g, .cells cur 26 (0, 0))] ∧ Strs u.kids.length 2 0 100 cur) := by
  obtain ⟨_, xs, sr, sk, h1, h2, h3⟩ := h.open
  obtain ⟨A, c, rfl, hc1, _⟩ := h1.sl
  refine ⟨c, A, sr, sk, rfl, h2, fun hn => ?_⟩
  obtain ⟨g, cur, hA, hs, hcs, hct, _⟩ := h1.blk hn
  refine ⟨g, cur, hA, hs, by rw [hcs]; exact Nat.mul_le_mul_right 2 hc1, fun i hi => ?_⟩
  have h4 := ownL.lab h3 i _ (List.getElem?_eq_getElem hi)
  rw [← hct, List.getElem?_take, if_pos (by omega)] at h4
  refine ⟨_, by rw [Nat.add_zero, ← Array.getElem?_toList]; exact h4, ?_⟩
  obtain ⟨l, ks⟩ := u
  simp only [Tr.l7] at h7
  have h8 := l7s_iff.1 h7.2 _ (List.getElem_mem hi)
  have h9 : ∀ l ∈ labels7, l.size ≤ 100 := by decide
  generalize hk : (Tr.node l ks).kids[i] = k at *
  obtain ⟨l', ks'⟩ := k
  have h10 : Tr.l7 (.node l' ks') := hk ▸ h8
  simp only [Tr.l7] at h10
  exact h9 _ h10.1
/-- One cell of a row written anew. -/
theorem Row.set {e : TypeId} {sz n g c j : Nat} {xs : List Value} {cur : Array Value} (h : Row e sz (.slice (some ⟨g, 0, none⟩) n c) n xs [(g, .cells cur e (0, 0))]) (hj : j < n * sz) (x : Value) :
    Row e sz (.slice (some ⟨g, 0, none⟩) n c) n (xs.set j x) [(g, .cells (cur.setIfInBounds j x) e (0, 0))] := by
  obtain ⟨h1, h2 | ⟨g', cap, cur', h2, h3, h4, h5, h6, h7⟩⟩ := h
  · obtain ⟨h2, _⟩ := h2; cases h2
  · cases h2
    simp only [List.cons.injEq, Prod.mk.injEq, Obj.cells.injEq, and_true, true_and] at h3
    subst h3
    exact ⟨by simpa using h1, .inr ⟨g, c, _, rfl, rfl, h4, h5, by simpa using h6, by rw [Array.toList_setIfInBounds, List.take_set, h7]⟩⟩
theorem wk_all {e : Tr → Tr → Path → List Ed} {p : Path} {R : Ed → Prop} (M : Nat) (hd : ∀ q ≤ M, R ⟨2, p ++ [q], Tr.zero⟩) : ∀ (a b : List Tr) (q : Nat), q + b.length ≤ M → (∀ q ≤ M, ∀ y ∈ b, R ⟨1, p ++ [q], y⟩) → (∀ x ∈ a, ∀ y ∈ b, ∀ q ≤ M, ∀ f ∈ e x y (p ++ [q]), R f) → ∀ f ∈ wk e p a b q, R f
  | [], [], q, _, _, _ => by rw [wk_nn]; simp
  | x :: a, [], q, hq, hi, h => by
    rw [wk_cn]
    intro f hf
    rcases List.mem_cons.1 hf with rfl | hf
    · exact hd q (by simpa using hq)
    · exact wk_all M hd a [] q hq hi (fun x _ y hy => by cases hy) f hf
  | [], y :: b, q, hq, hi, h => by
    simp only [List.length_cons] at hq
    rw [wk_nc]
    intro f hf
    rcases List.mem_cons.1 hf with rfl | hf
    · exact hi q (by omega) y (by simp)
    · exact wk_all M hd [] b (q + 1) (by omega) (fun q hq y hy => hi q hq y (by simp [hy])) (fun x hx => by cases hx) f hf
  | x :: a, y :: b, q, hq, hi, h => by
    have hq2 := hq
    simp only [List.length_cons] at hq2
    rw [wk_cc]
    split
    · intro f hf
      rcases List.mem_append.1 hf with hf | hf
      · exact h x (by simp) y (by simp) q (by omega) f hf
      · exact wk_all M hd a b (q + 1) (by omega) (fun q hq y hy => hi q hq y (by simp [hy])) (fun u hu v hv => h u (by simp [hu]) v (by simp [hv])) f hf
    · split
      · intro f hf
        rcases List.mem_cons.1 hf with rfl | hf
        · exact hd q (by omega)
        · exact wk_all M hd a (y :: b) q hq hi (fun u hu v hv => h u (by simp [hu]) v hv) f hf
      · intro f hf
        rcases List.mem_cons.1 hf with rfl | hf
        · exact hi q (by omega) y (by simp)
        · exact wk_all M hd (x :: a) b (q + 1) (by omega) (fun q hq y hy => hi q hq y (by simp [hy])) (fun u hu v hv => h u hu v (by simp [hv])) f hf
termination_by a b => a.length + b.length
theorem lab_short {t : Tr} (h : t.l7) : t.lab.size ≤ 100 := by
  obtain ⟨l, ks⟩ := t
  simp only [Tr.l7] at h
  have h9 : ∀ l ∈ labels7, l.size ≤ 100 := by decide
  exact h9 l h.1
theorem l7_kid {t k : Tr} (h : t.l7) (hk : k ∈ t.kids) : k.l7 := by
  obtain ⟨l, ks⟩ := t
  simp only [Tr.l7] at h
  exact l7s_iff.1 h.2 k hk
/-- Short labels and small numbers in the edits between two trees. -/
theorem edT_small (n : Nat) : ∀ (x y : Tr) (p : Path), x.size ≤ n → y.l7 → y.size ≤ 1000000 → (∀ i ∈ p, i ≤ 1000000) → ∀ f ∈ edT x y p, f.tree.lab.size ≤ 100 ∧ ∀ i ∈ f.path, i ≤ 1000000 := by
  induction n with
  | zero => intro x y p h; have := x.size_pos; omega
  | succ n ih =>
    intro x y p h h7 hy hp
    have hq : ∀ q ≤ 1000000, ∀ i ∈ p ++ [q], i ≤ 1000000 := fun q hq i hi => by
      rcases List.mem_append.1 hi with hi | hi
      · exact hp i hi
      · simp at hi; omega
    rw [edT_eq]
    split
    · simp
    · split
      · intro f hf
        simp at hf; subst hf
        exact ⟨lab_short h7, hp⟩
      · have hf := fro_le x.kids y.kids
        have hb := bak_le (fro x.kids y.kids) x.kids y.kids
        have hl := Tr.len_le y.kids
        have hs := size_kids y
        have hm : (midB x.kids y.kids).length ≤ y.kids.length - fro x.kids y.kids := by unfold midB; simp; omega
        refine wk_all 1000000 (fun q h1 => ⟨show Tr.zero.lab.size ≤ 100 from by decide, hq q h1⟩) _ _ _ (by omega) (fun q h1 v hv => ⟨lab_short (l7_kid h7 (mem_mid hv)), hq q h1⟩) (fun u hu v hv q h1 f hf => ?_)
        have h2 := kid_size (mem_mid hu)
        have h3 := kid_size (mem_mid hv)
        exact ih u v (p ++ [q]) (by omega) (l7_kid h7 (mem_mid hv)) (by omega) (hq q h1) f hf
theorem tr_lab {H : Hp} {t : Tr} {c0 c1 : Value} (h : RdL H t.d [c0, c1]) : c0 = .string t.lab := by
  obtain ⟨l, ks⟩ := t
  exact (tr_cells h).1
theorem row_cell {cur : Array Value} {xs : List Value} {n o q : Nat} {v : Value} (hct : cur.toList.take n = xs) (h : (xs.drop o)[q]? = some v) : lget cur.toList (0 + o + q) = some v := by
  rw [lget_eq, Nat.zero_add]
  rw [List.getElem?_drop, ← hct, List.getElem?_take] at h
  split at h
  · exact h
  · cases h
theorem row_cell_set {cur : Array Value} {j k : Nat} {x v : Value} (h : lget cur.toList k = some v) (hne : j ≠ k) : lget (cur.setIfInBounds j x).toList k = some v := by
  rw [lget_arr] at h ⊢
  rw [Array.getElem?_setIfInBounds, if_neg hne]
  exact h
/-- Numbers of a path, one of them one more. -/
theorem bump_path {l : List Int} {j : Nat} {x B : Int} (h : ∀ y ∈ l, 0 ≤ y ∧ y ≤ B) (hx : l[j]? = some x) : ∀ y ∈ l.set j (x + 1), 0 ≤ y ∧ y ≤ B + 1 := by
  intro y hy
  rcases List.mem_or_eq_of_mem_set hy with hy | rfl
  · have := h y hy; omega
  · have := h x (List.mem_of_getElem? hx); omega
end Go.Proofs.YtaomdfcplamenaaGreatDoor.K

namespace Go.Proofs.YtaomdfcplamenaaGreatDoor.K
open Go Go.RowKit Go.Proofs

theorem law_keeps {l m q : List Int} (hl : ∀ n ∈ l, I64 n) (hm : ∀ n ∈ m, I64 n) (hq : ∀ n ∈ q, I64 n) {w0 : World} {H : Hp} {own : List Seg} {v0 v1 v2 : Value} (h0 : rd H (.s 1 (ints l)) v0) (h1 : rd H (.s 1 (ints m)) v1) (h2 : rd H (.s 1 (ints q)) v2) :
    Fn Tryz.prog 8 [v0, v1, v2] w0 H own (fun r o H' => r = .bool true ∧ o = own ∧ Le H H') := by
  have L0 := ints_le h0
  have L1 := ints_le h1
  have L2 := ints_le h2
  obtain ⟨A1, c1, rfl, hc11, hc12⟩ := vals_len h2
  simp only [List.length_map] at h2 hc11 ⊢
  have haz := madeT_size (l.take 150)
  have hbz := madeT_size (m.take 150)
  have hai := madeT_inn (l.take 150)
  have hbi := madeT_inn (m.take 150)
  have ha7 := madeT_l7 (l.take 150)
  have hb7 := madeT_l7 (m.take 150)
  obtain ⟨mm, hmm⟩ : ∃ mm, mm = min q.length 30 := ⟨_, rfl⟩
  have hmml : min ((q.length : Nat) : Int) 30 = (mm : Int) := by omega
  have hmmi : ∀ n ∈ q.take mm, I64 n := fun n hn => hq n (List.mem_of_mem_take hn)
  obtain ⟨hap, hEb, hEl⟩ := changedI_ok (madeT (l.take 150)) (q.take mm)
  obtain ⟨bs, hbs, hbu, hbl⟩ := invert_apply hap
  have tE := treesI_le (B := 4) (fun e he => (hEb e he).2)
  have pE : ∀ e ∈ (changedI (madeT (l.take 150)) (q.take mm)).1, e.path.length ≤ 1000000 := fun e he => by have := (hEb e he).1; omega
  have hcz := changedI_size (madeT (l.take 150)) (q.take mm)
  have hc7 := (changedI_7 (q.take mm) ha7).1
  have hUl : (changedI (madeT (l.take 150)) (q.take mm)).2.kids.length ≤ 1000000 := by have h1 := Tr.len_le (changedI (madeT (l.take 150)) (q.take mm)).2.kids; have h2 := size_kids (changedI (madeT (l.take 150)) (q.take mm)).2; omega
  have hsm := edT_small _ (madeT (l.take 150)) (madeT (m.take 150)) [] (Nat.le_refl _) hb7 (by omega) (by simp)
  have hDl := edT_len _ (madeT (l.take 150)) (madeT (m.take 150)) [] (Nat.le_refl _)
  obtain ⟨hDb, _⟩ := edI_bd (madeT (l.take 150)) (madeT (m.take 150))
  have hDp : ∀ e ∈ edT (madeT (l.take 150)) (madeT (m.take 150)) [], e.path.length ≤ 1000000 := fun e he => by
    have := (hDb e.i (List.mem_map.2 ⟨e, he, rfl⟩)).1
    simp only [Ed.i, List.length_map] at this; omega
  refine Fn.enter Tryz.func8 rfl Tryz.ntmps8 rfl ?_; have hL := Le.refl H; refine Qj (Qh (Qe rfl rfl (Q3 ?_))); refine Qs (law_sanity) trivial rfl ?_
  rintro _ own Hsn ⟨rfl, rfl, hlesn⟩
  have hL := Le.trans hL hlesn; have h0 := rd.mono hlesn h0; have h1 := rd.mono hlesn h1; have h2 := rd.mono hlesn h2; refine Qe rfl rfl (Q3 (Qb rfl rfl ?_)); refine Qs (law_made hl h0 L0) ⟨rfl, trivial⟩ rfl ?_
  rintro _ own H24 ⟨a24, b24, rfl, hr24, rfl, hle24⟩
  have hL := Le.trans hL hle24; have h1 := rd.mono hle24 h1; have h2 := rd.mono hle24 h2; refine Qb rfl rfl ?_; refine Qs (law_made hm h1 L1) ⟨rfl, trivial⟩ rfl ?_
  rintro _ own H26 ⟨a26, b26, rfl, hr26, rfl, hle26⟩
  have hL := Le.trans hL hle26; have h2 := rd.mono hle26 h2; have hr24 := RdL.mono hle26 hr24
  refine Zc rfl ?_; intro g8
  refine Zc rfl ?_; intro g9; refine Qq 1 0 (c' := #[_, _]) (own' := _ :: [(_, .cells #[_, _] _ _)] :: _) rfl rfl rfl rfl rfl (tr_ones hr24) (by simp) rfl rfl rfl ?_; refine Qq 0 0 (c' := #[_, _]) (own' := [(_, .cells #[_, _] _ _)] :: _) rfl rfl rfl rfl rfl (tr_ones hr26) (by simp) rfl rfl rfl (Qi (Qc (Qj ?_))); refine Q4 6  [(0, _), (1, _), (2, _), (6, _), (7, _), (8, _), (9, _)] follows_mixed ⟨rfl, rfl, rfl, rfl, rfl, rfl, rfl, trivial⟩ ?_
  refine Qa (some 27) [] (by
   intro H' X F hle; have hL := Le.trans hL hle; intro hF; refine Qm 1 0 [_, _] rfl rfl rfl ⟨rfl, rfl, trivial⟩ rfl rfl ?_
   exact Qd hF) ?_
  refine Q9 (some 28) [(0, 0)] ([]) (fun _ => fun u sg H => ∃ d0 d1, u = .agg #[d0, d1] ∧ RdL H (madeT (l.take 150)).d [d0, d1] ∧ sg = []) (by
   intro H' X F hle; have hL := Le.trans hL hle; have hr24 := RdL.mono hle hr24; intro hF; refine Qs (ref_Own _ (madeT (l.take 150)) (Nat.le_refl _) (by omega) hr24) ⟨rfl, trivial⟩ rfl ?_
   rintro _ own H28 ⟨a28, b28, rfl, hr28, rfl, hle28⟩
   have hL := Le.trans hL hle28; refine Qi ?_
   exact Q7 [] hF hle28 ⟨a28, b28, rfl, hr28, rfl⟩) ?_
  refine Qa (some 29) [] (by
   intro H' X F hle; have hL := Le.trans hL hle; intro hF; refine Qm 0 0 [_, _] rfl rfl rfl ⟨rfl, rfl, trivial⟩ rfl rfl ?_
   exact Qd hF) ?_
  refine Q9 (some 30) [(2, 0)] ([]) (fun _ => fun u sg H => ∃ d0 d1, u = .agg #[d0, d1] ∧ RdL H (madeT (m.take 150)).d [d0, d1] ∧ sg = []) (by
   intro H' X F hle; have hL := Le.trans hL hle; have hr26 := RdL.mono hle hr26; intro hF; refine Qs (ref_Own _ (madeT (m.take 150)) (Nat.le_refl _) (by omega) hr26) ⟨rfl, trivial⟩ rfl ?_
   rintro _ own H30 ⟨a30, b30, rfl, hr30, rfl, hle30⟩
   have hL := Le.trans hL hle30; refine Qi ?_
   exact Q7 [] hF hle30 ⟨a30, b30, rfl, hr30, rfl⟩) ?_
  refine Q9 (some 10) [] ([]) (fun _ => fun u sg H => ∃ g, u = .pointer (some ⟨g, 0, none⟩) ∧ sg = [[(g, .cells #[.string ⟨#[]⟩, .slice none 0 0] 26 (0, 0))]]) (by
   intro H' X F hle; have hL := Le.trans hL hle; intro hF
   refine Zc rfl ?_; intro g10; refine Qi ?_
   exact Q7 [_] hF (Le.refl _) ⟨_, rfl, rfl⟩) ?_
  refine Q9 (some 11) [] ([]) (fun _ => fun u sg H => ∃ g, u = .pointer (some ⟨g, 0, none⟩) ∧ sg = [[(g, .cells #[.string ⟨#[]⟩, .slice none 0 0] 26 (0, 0))]]) (by
   intro H' X F hle; have hL := Le.trans hL hle; intro hF
   refine Zc rfl ?_; intro g11; refine Qi ?_
   exact Q7 [_] hF (Le.refl _) ⟨_, rfl, rfl⟩) ?_
  refine ⟨by kernel_rfl, .refl _, ?_⟩
  ·
   intro H1 hle
   rintro _ _ Hi28 hle28 ⟨a28, b28, rfl, hr28, rfl⟩
   replace hr28 := RdL.mono hle28 hr28
   rintro _ _ Hi30 hle30 ⟨a30, b30, rfl, hr30, rfl⟩
   replace hr30 := RdL.mono hle30 hr30
   rintro _ _ Hr hler ⟨g10, rfl, rfl⟩
   rintro _ _ Hr hler ⟨g11, rfl, rfl⟩
   have hL := Le.trans hL hle; have h2 := rd.mono hle h2; have hr24 := RdL.mono hle hr24; have hr26 := RdL.mono hle hr26; refine Qw (own' := _ :: _ :: _ :: _ :: own) rfl ?_; refine Zi (env' := [(0, _), (1, _), (2, _), (6, _), (7, _), (8, _), (9, _), (28, _), (30, _), (10, _), (11, _)]) ⟨rfl, rfl, rfl, rfl, rfl, rfl, rfl, rfl, rfl, rfl, rfl, trivial⟩ ?_; refine Qq 1 0 (c' := #[_, _]) (own' := _ :: [(_, .cells #[_, _] _ _)] :: _) rfl rfl rfl rfl rfl (tr_ones hr28) (by simp) rfl rfl rfl ?_; refine Qq 0 0 (c' := #[_, _]) (own' := [(_, .cells #[_, _] _ _)] :: _) rfl rfl rfl rfl rfl (tr_ones hr30) (by simp) rfl rfl rfl (Qi (Qc (Qj ?_))); refine Q4 12  [(0, _), (1, _), (2, _), (6, _), (7, _), (8, _), (9, _), (10, _), (11, _)] follows_mixed ⟨rfl, rfl, rfl, rfl, rfl, rfl, rfl, rfl, rfl, trivial⟩ ?_
   refine Qa (some 32) [] (by
    intro H' X F hle; have hL := Le.trans hL hle; intro hF; refine Qm 3 0 [_, _] rfl rfl rfl ⟨rfl, rfl, trivial⟩ rfl rfl ?_
    exact Qd hF) ?_
   refine Qa (some 33) [] (fun _ _ _ _ hF => Qb rfl rfl (Qd hF)) ?_; refine Qa (some 34) [] (fun _ _ _ _ hF => Qb rfl rfl (Qd hF)) ?_
   refine Qa (some 35) [(2, 0)] (by
    intro H' X F hle; have hL := Le.trans hL hle; intro hF; refine Qn rfl rfl ?_
    exact Qd hF) ?_
   refine Qa (some 36) [(3, 0)] (by
    intro H' X F hle; have hL := Le.trans hL hle; intro hF; refine TL.min2 rfl rfl rfl ?_
    rw [hmml]
    exact Qd hF) ?_
   refine Q9 (some 37) [(1, 3), (4, 0)] ([]) (fun _ => fun u sg H => rd H (.s 1 (ints (q.take mm))) u ∧ sg = []) (by
    intro H' X F hle; have hL := Le.trans hL hle; have h2 := rd.mono hle h2; intro hF; refine Z3 (0) (mm) rfl rfl ⟨_, _, rfl, rfl⟩ rfl (by simp only [Option.getD_some]) (by omega) (by omega) rfl ?_; refine Qi ?_
    exact Q7 [] hF (Le.refl _) ⟨by
      have h := rd.cut h2 (l := 0) (r := mm) (by omega) (by omega)
      rw [show ((ints q).drop (0 * 1)).take ((mm - 0) * 1) = ints (q.take mm) from by simp [ints]] at h
      exact h, rfl⟩) ?_
   refine Q9 (some 38) [(0, 5), (5, 0)] ([]) (fun _ => fun u sg H => ∃ v d0 d1, u = .tuple #[v, .agg #[d0, d1]] ∧ rd H (.s 4 (eiD (changedI (madeT (l.take 150)) (q.take mm)).1)) v ∧ RdL H (changedI (madeT (l.take 150)) (q.take mm)).2.d [d0, d1] ∧ sg = []) (by
    intro H' X F hle; have hL := Le.trans hL hle; have hr24 := RdL.mono hle hr24; intro _
    rintro v37 _ Hi37 hle37 ⟨hv37, rfl⟩
    replace hv37 := rd.mono hle37 hv37
    intro hF; refine Qs (ref_Changed hmmi (by simp; omega) (by omega) hr24 hv37) ⟨rfl, rfl, trivial⟩ rfl ?_
    rintro _ own H8 ⟨⟨pv, p0, p1, rfl, hpe, hpt⟩, rfl, hle8⟩
    refine Qi ?_
    exact Q7 [] hF hle8 ⟨_, _, _, rfl, hpe, hpt, rfl⟩) ?_
   refine Q9 (some 31) [(6, 0)] ([]) (fun _ => fun u sg H => ∃ v d0 d1, u = .tuple #[v, .agg #[d0, d1]] ∧ rd H (.s 4 (eiD (changedI (madeT (l.take 150)) (q.take mm)).1)) v ∧ RdL H (changedI (madeT (l.take 150)) (q.take mm)).2.d [d0, d1] ∧ sg = []) (by
    intro H' X F hle; have hL := Le.trans hL hle; intro _
    rintro _ _ Hi38 hle38 ⟨pv, p0, p1, rfl, hpe, hpt, rfl⟩
    replace hpe := rd.mono hle38 hpe
    replace hpt := RdL.mono hle38 hpt
    intro hF; refine Qb rfl rfl (Qi ?_)
    exact Q7 [] hF (Le.refl _) ⟨_, _, _, rfl, hpe, hpt, rfl⟩) ?_
   refine Q9 (some 39) [(7, 0)] ([]) (fun _ => fun u sg H => rd H (.s 4 (eiD (changedI (madeT (l.take 150)) (q.take mm)).1)) u ∧ sg = []) (by
    intro H' X F hle; have hL := Le.trans hL hle; intro _
    rintro _ _ Hi31 hle31 ⟨pv, p0, p1, rfl, hpe, hpt, rfl⟩
    replace hpe := rd.mono hle31 hpe
    intro hF; refine Qu rfl rfl rfl (Qi ?_)
    exact Q7 [] hF (Le.refl _) ⟨hpe, rfl⟩) ?_
   refine Q9 (some 40) [(7, 1)] ([]) (fun _ => fun u sg H => ∃ d0 d1, u = .agg #[d0, d1] ∧ RdL H (changedI (madeT (l.take 150)) (q.take mm)).2.d [d0, d1] ∧ sg = []) (by
    intro H' X F hle; have hL := Le.trans hL hle; intro _
    rintro _ _ Hi31 hle31 ⟨pv, p0, p1, rfl, hpe, hpt, rfl⟩
    replace hpt := RdL.mono hle31 hpt
    intro hF; refine Qu rfl rfl rfl (Qi ?_)
    exact Q7 [] hF (Le.refl _) ⟨_, _, rfl, hpt, rfl⟩) ?_
   refine Q9 (some 13) [] ([]) (fun _ => fun u sg H => ∃ g, u = .pointer (some ⟨g, 0, none⟩) ∧ sg = [[(g, .cells #[.string ⟨#[]⟩, .slice none 0 0] 26 (0, 0))]]) (by
    intro H' X F hle; have hL := Le.trans hL hle; intro hF
    refine Zc rfl ?_; intro g13; refine Qi ?_
    exact Q7 [_] hF (Le.refl _) ⟨_, rfl, rfl⟩) ?_
   refine Q9 (some 12) [(8, 2)] ([]) (fun _ => fun u sg H => rd H (.s 4 (eiD (changedI (madeT (l.take 150)) (q.take mm)).1)) u ∧ sg = []) (by
    intro H' X F hle; have hL := Le.trans hL hle; intro _
    rintro vE _ HiE hleE ⟨hE, rfl⟩
    replace hE := rd.mono hleE hE
    intro hF; refine Qe rfl rfl (Qi ?_)
    exact Q7 [] hF (Le.refl _) ⟨hE, rfl⟩) ?_
   refine ⟨by kernel_rfl, .refl _, ?_⟩
   ·
    intro H2 hle
    rintro v37 _ Hi37 hle37 ⟨hv37, rfl⟩
    rintro _ _ _ _ ⟨_, _, _, rfl, _, _, rfl⟩
    rintro _ _ _ _ ⟨_, _, _, rfl, _, _, rfl⟩
    rintro vE _ HiE hleE ⟨hE, rfl⟩
    rintro _ _ HiB hleB ⟨b0, b1, rfl, hB, rfl⟩
    replace hB := RdL.mono hleB hB
    rintro _ _ Hr hler ⟨g13, rfl, rfl⟩
    rintro vG _ HiG hleG ⟨hG, rfl⟩
    replace hG := rd.mono hleG hG
    have hL := Le.trans hL hle; have hr24 := RdL.mono hle hr24; have hr26 := RdL.mono hle hr26; have hr28 := RdL.mono hle hr28; have hr30 := RdL.mono hle hr30; refine Qw (own' := _ :: _ :: _ :: _ :: _ :: own) rfl ?_; refine Zi (env' := [(0, _), (1, _), (6, _), (7, _), (8, _), (9, _), (10, _), (11, _), (40, _), (13, _), (12, _)]) ⟨rfl, rfl, rfl, rfl, rfl, rfl, rfl, rfl, rfl, rfl, rfl, trivial⟩ ?_; refine Qq 0 0 (c' := #[_, _]) (own' := [(_, .cells #[_, _] _ _)] :: _) rfl rfl rfl rfl rfl (tr_ones hB) (by simp) rfl rfl rfl (Q3 ?_); refine Qm 4 0 [_, _] rfl rfl rfl ⟨rfl, rfl, trivial⟩ rfl rfl (Qb rfl rfl ?_); refine Qs (Apply_own hap pE (by omega) (by omega) hr24 hG) ⟨rfl, rfl, trivial⟩ rfl ?_
    rintro _ _ H44 ⟨u0, u1, S44, rfl, hu44, rfl, hle44⟩
    have hL := Le.trans hL hle44; have hr24 := RdL.mono hle44 hr24; have hr26 := RdL.mono hle44 hr26; have hr28 := RdL.mono hle44 hr28; have hr30 := RdL.mono hle44 hr30; have hG := rd.mono hle44 hG; have hB := RdL.mono hle44 hB; refine Qb rfl rfl (Qu rfl rfl rfl (Qu rfl rfl rfl ?_))
    refine Zc rfl ?_; intro g14; refine Qq 0 0 (c' := #[_, _]) (own' := [(_, .cells #[_, _] _ _)] :: _) rfl rfl rfl rfl rfl (ownT.ones hu44) (by simp) rfl rfl rfl (Qe rfl rfl (Q3 ?_)); refine Qm 6 0 [_, _] rfl rfl rfl ⟨rfl, rfl, trivial⟩ rfl rfl ?_; refine Qm 5 0 [_, _] rfl rfl rfl ⟨rfl, rfl, trivial⟩ rfl rfl ?_; refine Qs (law_diff_o ha7 hb7 (by omega) (by omega) hr24 hr26) ⟨rfl, rfl, trivial⟩ rfl ?_
    rintro v49 _ H49 ⟨S49, hlog, rfl, hle49⟩
    have hL := Le.trans hL hle49; have hr24 := RdL.mono hle49 hr24; have hr26 := RdL.mono hle49 hr26; have hr28 := RdL.mono hle49 hr28; have hr30 := RdL.mono hle49 hr30; have hG := rd.mono hle49 hG; have hB := RdL.mono hle49 hB; refine Qe rfl rfl (Q3 ?_); refine Qm 7 0 [_, _] rfl rfl rfl ⟨rfl, rfl, trivial⟩ rfl rfl (Qb rfl rfl ?_); refine Qs (Invert_ok hbs pE (by omega) (by omega) hr24 hG) ⟨rfl, rfl, trivial⟩ rfl ?_
    rintro _ _ H52 ⟨⟨v52, rfl, hi52⟩, rfl, hle52⟩
    have hL := Le.trans hL hle52; have hr24 := RdL.mono hle52 hr24; have hr26 := RdL.mono hle52 hr26; have hr28 := RdL.mono hle52 hr28; have hr30 := RdL.mono hle52 hr30; have hG := rd.mono hle52 hG; have hB := RdL.mono hle52 hB; have hlog := EdLog.mono hle52 hlog; refine Qi (Qc (Qj (Qj ?_)))
    refine Z2 8 [2, 1, 0, 3, 4, 5, 6, 7] rfl (fun o ho => ?_)
    simp only [K.sel, nrm] at ho; subst ho
    obtain ⟨c14, A14, sr, sk, rfl, hp14, hstr⟩ := ownT.strs hu44 hc7
    refine TC.flat (own' := sr :: sk :: _) (split2 hp14) (Qh (Qg rfl rfl (Qk 2 0 rfl rfl rfl rfl rfl (Qn rfl rfl (Qb rfl rfl ?_))))); refine Qi (Qc (Q6 ?_))
    refine Z2 9 [0, 2, 3, 4, 5, 6, 7, 8] rfl (fun o ho => ?_)
    simp only [K.sel, nrm] at ho; subst ho
    refine Zv (fun n env' own' H' => ∃ (k : Nat) (seg : Seg), n = (changedI (madeT (l.take 150)) (q.take mm)).2.kids.length - k ∧ k ≤ (changedI (madeT (l.take 150)) (q.take mm)).2.kids.length ∧ (0 < (changedI (madeT (l.take 150)) (q.take mm)).2.kids.length → ∃ g cur, A14 = some ⟨g, 0, none⟩ ∧ seg = [(g, .cells cur 26 (0, 0))] ∧ Strs (changedI (madeT (l.take 150)) (q.take mm)).2.kids.length 2 0 (100 + k) cur) ∧ env' = [(7, .bool true), (8, .pointer (some ⟨g8, 0, none⟩)), (9, .pointer (some ⟨g9, 0, none⟩)), (10, .pointer (some ⟨g10, 0, none⟩)), (11, .pointer (some ⟨g11, 0, none⟩)), (12, vG), (13, .pointer (some ⟨g13, 0, none⟩)), (14, .pointer (some ⟨g14, 0, none⟩)), (16, v49), (55, .int .i64 ((changedI (madeT (l.take 150)) (q.take mm)).2.kids.length : Int)), (56, .int .i64 (k : Int))] ∧ own' = seg :: [(g14, .cells #[u0, .slice A14 (changedI (madeT (l.take 150)) (q.take mm)).2.kids.length c14] 26 (0, 0))] :: S49 :: [(g13, .cells #[b0, b1] 26 (0, 0))] :: [(g11, .cells #[a30, b30] 26 (0, 0))] :: [(g10, .cells #[a28, b28] 26 (0, 0))] :: [(g9, .cells #[a26, b26] 26 (0, 0))] :: [(g8, .cells #[a24, b24] 26 (0, 0))] :: own ∧ Le H52 H') (changedI (madeT (l.take 150)) (q.take mm)).2.kids.length [(7, _), (8, _), (9, _), (10, _), (11, _), (12, _), (13, _), (14, _), (16, _), (55, _), (56, _)] ⟨rfl, rfl, rfl, rfl, rfl, rfl, rfl, rfl, rfl, rfl, rfl, trivial⟩ ⟨0, sr, by omega, by omega, hstr, by simp, rfl, Le.refl _⟩ ?_
    clear hstr
    rintro n _ _ H1 ⟨k, seg, rfl, hk1, hstr, rfl, rfl, hle9⟩
    have hL := Le.trans hL hle9; have hr24 := RdL.mono hle9 hr24; have hr26 := RdL.mono hle9 hr26; have hr28 := RdL.mono hle9 hr28; have hr30 := RdL.mono hle9 hr30; have hG := rd.mono hle9 hG; have hB := RdL.mono hle9 hB; have hlog := EdLog.mono hle9 hlog; refine Qj (Qh ?_)
    refine Zz rfl rfl rfl (fun hlt => ?_) (fun hlt => ?_)
    ·
     obtain ⟨g, cur, rfl, rfl, hst⟩ := hstr (by omega)
     obtain ⟨s, hs1, hs2⟩ := hst.2 k (by omega)
     have hs3 : (s ++ (⟨#[33]⟩ : ByteArray)).size ≤ 100 + k + 1 := by rw [ByteArray.size_append]; show s.size + 1 ≤ _; omega
     refine Qi (Qc (Qj (Qv rfl (Q2 (Qc ?_))))); refine Qj (Q6 (Qj (Qh (Qb rfl rfl (Qe rfl rfl ?_))))); refine Qi (Qc (Qh (Qg rfl rfl (Qk 1 0 rfl rfl rfl rfl rfl (Qb rfl rfl ?_))))); refine Qo (k) rfl rfl rfl (by omega) rfl (Qg rfl rfl ?_); refine Qk 0 0 rfl rfl rfl (by rw [lget_arr, Nat.zero_add]; exact hs1) rfl ?_
     refine TL.addS rfl rfl rfl (by show s.size + 1 ≤ _; omega) ?_
     refine Qo (k) rfl rfl rfl (by omega) rfl (Qg rfl rfl ?_); refine Zq 0 0 (c' := (cur.setIfInBounds (k * 2 + 0) (.string (s ++ ⟨#[33]⟩)))) (own' := _ :: _) rfl rfl rfl rfl rfl (by have := hst.1; omega) (by rw [Nat.zero_add]) rfl rfl ?_
     refine Qi (Ze (Qc (Qh ?_))); refine Zb rfl rfl rfl ⟨by omega, by omega⟩ (Qb rfl rfl (Qi ?_)); refine Zn (own' := _ :: _ :: _ :: _ :: _ :: _ :: _ :: _ :: own) rfl ?_
     refine Zf ((changedI (madeT (l.take 150)) (q.take mm)).2.kids.length - (k + 1)) [(7, _), (8, _), (9, _), (10, _), (11, _), (12, _), (13, _), (14, _), (16, _), (55, _), (56, _)] (by omega) ⟨rfl, rfl, rfl, rfl, rfl, rfl, rfl, rfl, rfl, rfl, rfl, trivial⟩ ⟨k + 1, _, rfl, by omega, fun _ => ⟨g, _, rfl, rfl, hst.set (by omega) (by omega) hs3⟩, by simp, rfl, hle9⟩
    ·
     refine Qi (Qc (Qj (Qr rfl (Zo (Q1 ?_))))); refine Q1 (Zp (Qc (Qj (Qj ?_))))
     refine Z2 8 [2, 3, 4, 5, 6, 7] rfl (fun o ho => ?_)
     simp only [K.sel, nrm] at ho; subst ho
     obtain ⟨xs, rs, ps, hrow, hpl, hoe⟩ := hlog
     refine TC.flat (own' := rs :: ps :: _) (split2 hpl) ?_
     obtain ⟨A16, c16, rfl, hc16, _⟩ := hrow.sl
     refine Qh (Qb rfl rfl (Qn rfl rfl (Qb rfl rfl (Qi (Qc ?_))))); refine Q6 ?_
     refine Zv (fun n env' own' H' => ∃ (i : Nat) (rs psi : Seg) (xs : List Value), n = (edT (madeT (l.take 150)) (madeT (m.take 150)) []).length - i ∧ i ≤ (edT (madeT (l.take 150)) (madeT (m.take 150)) []).length ∧ Row 46 4 (.slice A16 (edT (madeT (l.take 150)) (madeT (m.take 150)) []).length c16) (edT (madeT (l.take 150)) (madeT (m.take 150)) []).length xs rs ∧ ownE H' ((edT (madeT (l.take 150)) (madeT (m.take 150)) []).drop i) (xs.drop (i * 4)) psi ∧ env' = [(7, .bool true), (8, .pointer (some ⟨g8, 0, none⟩)), (9, .pointer (some ⟨g9, 0, none⟩)), (10, .pointer (some ⟨g10, 0, none⟩)), (11, .pointer (some ⟨g11, 0, none⟩)), (12, vG), (13, .pointer (some ⟨g13, 0, none⟩)), (16, .slice A16 (edT (madeT (l.take 150)) (madeT (m.take 150)) []).length c16), (70, .int .i64 ((edT (madeT (l.take 150)) (madeT (m.take 150)) []).length : Int)), (71, .int .i64 (i : Int))] ∧ own' = rs :: psi :: [(g13, .cells #[b0, b1] 26 (0, 0))] :: [(g11, .cells #[a30, b30] 26 (0, 0))] :: [(g10, .cells #[a28, b28] 26 (0, 0))] :: [(g9, .cells #[a26, b26] 26 (0, 0))] :: [(g8, .cells #[a24, b24] 26 (0, 0))] :: own ∧ Le H1 H') (edT (madeT (l.take 150)) (madeT (m.take 150)) []).length [(7, _), (8, _), (9, _), (10, _), (11, _), (12, _), (13, _), (16, _), (70, _), (71, _)] ⟨rfl, rfl, rfl, rfl, rfl, rfl, rfl, rfl, rfl, rfl, trivial⟩ ⟨0, rs, ps, xs, by omega, by omega, hrow, hoe, by simp, rfl, Le.refl _⟩ ?_
     clear hrow hoe
     rintro n _ _ H2 ⟨i, rs, psi, xs, rfl, hi1, hrow, hoe, rfl, rfl, hle14⟩
     have hL := Le.trans hL hle14; have hr24 := RdL.mono hle14 hr24; have hr26 := RdL.mono hle14 hr26; have hr28 := RdL.mono hle14 hr28; have hr30 := RdL.mono hle14 hr30; have hG := rd.mono hle14 hG; have hB := RdL.mono hle14 hB; refine Qj (Qh ?_)
     refine Zz rfl rfl rfl (fun hlt => ?_) (fun hlt => ?_)
     ·
      obtain ⟨e, he⟩ : ∃ e, (edT (madeT (l.take 150)) (madeT (m.take 150)) [])[i]? = some e := ⟨_, List.getElem?_eq_getElem (by omega)⟩
      have hmem := List.mem_of_getElem? he
      have hdr := drop_cons he
      rw [hdr] at hoe
      simp only [ownE] at hoe
      obtain ⟨vp, t0, t1, ys, sp, s2, hxs, hpm, hrp, htr, hrest⟩ := hoe
      have ht0 := tr_lab htr
      subst ht0
      obtain ⟨hs1, hs2⟩ := hsm e hmem
      have hpn := hDp e hmem
      obtain ⟨Ap, cp, rfl, hcp, _⟩ := hrp.sl
      obtain ⟨g5, cur, rfl, rfl, hcs, hct, hcl⟩ := hrow.blk (by omega)
      have hx1 : (xs.drop (i * 4))[1]? = some (.slice Ap e.path.length cp) := by rw [hxs]; rfl
      have hx2 : (xs.drop (i * 4))[2]? = some (.string e.tree.lab) := by rw [hxs]; rfl
      have hy1 := row_cell hct hx1; have hy2 := row_cell hct hx2
      have hrow2 := Row.set hrow (j := i * 4 + 2) (by omega) (.string (e.tree.lab ++ ⟨#[33]⟩))
      have hz1 := row_cell_set (j := i * 4 + 2) (x := .string (e.tree.lab ++ ⟨#[33]⟩)) hy1 (by omega)
      have hrest2 : ownE H2 ((edT (madeT (l.take 150)) (madeT (m.take 150)) []).drop (i + 1)) ((xs.set (i * 4 + 2) (.string (e.tree.lab ++ ⟨#[33]⟩))).drop ((i + 1) * 4)) s2 := by
        have h4 : xs.drop ((i + 1) * 4) = ys := by rw [show (i + 1) * 4 = i * 4 + 4 by omega, ← List.drop_drop, hxs]; rfl
        rw [List.drop_set_of_lt (by omega), h4]
        exact hrest
      refine Qi (Qc (Qj (Qv rfl (Q2 (Qc ?_))))); refine Qj (Q6 (Qj (Qh (Qb rfl rfl (Qe rfl rfl ?_))))); refine Qi (Qc (Qj ?_))
      refine Z2 7 [1, 0, 2, 3, 4, 5, 6] rfl (fun o ho => ?_)
      simp only [K.sel, nrm] at ho; subst ho
      refine TC.flat (own' := sp :: s2 :: _) (split2 hpm) (Qh (Qb rfl rfl (Qb rfl rfl ?_))); refine Qo (i) rfl rfl rfl (by omega) rfl (Qg rfl rfl (Qg rfl rfl ?_)); refine Qk 2 0 rfl rfl rfl hy2 rfl ?_; refine TL.addS rfl rfl rfl (by show e.tree.lab.size + 1 ≤ _; omega) ?_
      refine Qo (i) rfl rfl rfl (by omega) rfl (Qg rfl rfl (Qg rfl rfl ?_)); refine Zq 2 0 (c' := (cur.setIfInBounds (i * 4 + 2) (.string (e.tree.lab ++ ⟨#[33]⟩)))) (own' := _ :: _ :: _ :: _) rfl rfl rfl rfl rfl (by omega) (by rw [Nat.zero_add]) rfl rfl ?_; refine Q3 (Qb rfl rfl (Qb rfl rfl ?_)); refine Qo (i) rfl rfl rfl (by omega) rfl (Qg rfl rfl ?_); refine Qk 2 0 rfl rfl rfl hz1 rfl (Qn rfl rfl (Qb rfl rfl (Qi (Qc (Q6 ?_)))))
      refine Zv (fun n env' own' H' => ∃ (j : Nat) (sp : Seg) (p : List Int), n = e.path.length - j ∧ j ≤ e.path.length ∧ p.length = e.path.length ∧ (∀ x ∈ p, 0 ≤ x ∧ x ≤ 1000000 + (j : Int)) ∧ Row 3 1 (.slice Ap e.path.length cp) e.path.length (p.map fun x => .int .i64 x) sp ∧ env' = [(7, .bool true), (8, .pointer (some ⟨g8, 0, none⟩)), (9, .pointer (some ⟨g9, 0, none⟩)), (10, .pointer (some ⟨g10, 0, none⟩)), (11, .pointer (some ⟨g11, 0, none⟩)), (12, vG), (13, .pointer (some ⟨g13, 0, none⟩)), (16, .slice (some ⟨g5, 0, none⟩) (edT (madeT (l.take 150)) (madeT (m.take 150)) []).length c16), (18, .int .i64 (i : Int)), (70, .int .i64 ((edT (madeT (l.take 150)) (madeT (m.take 150)) []).length : Int)), (71, .int .i64 (i : Int)), (89, .int .i64 (e.path.length : Int)), (90, .int .i64 (j : Int))] ∧ own' = sp :: s2 :: [(g5, .cells (cur.setIfInBounds (i * 4 + 2) (.string (e.tree.lab ++ ⟨#[33]⟩))) 46 (0, 0))] :: [(g13, .cells #[b0, b1] 26 (0, 0))] :: [(g11, .cells #[a30, b30] 26 (0, 0))] :: [(g10, .cells #[a28, b28] 26 (0, 0))] :: [(g9, .cells #[a26, b26] 26 (0, 0))] :: [(g8, .cells #[a24, b24] 26 (0, 0))] :: own ∧ Le H2 H') e.path.length [(7, _), (8, _), (9, _), (10, _), (11, _), (12, _), (13, _), (16, _), (18, _), (70, _), (71, _), (89, _), (90, _)] ⟨rfl, rfl, rfl, rfl, rfl, rfl, rfl, rfl, rfl, rfl, rfl, rfl, rfl, trivial⟩ ⟨0, sp, e.path.map Int.ofNat, by omega, by omega, by simp, fun x hx => by
        obtain ⟨y, hy, rfl⟩ := List.mem_map.1 hx
        have := hs2 y hy
        simp only [Int.ofNat_eq_natCast]; omega, by simpa [pV, List.map_map, Function.comp_def] using hrp, by simp, rfl, Le.refl _⟩ ?_
      clear hrp
      rintro n _ _ H3 ⟨j, sp, p, rfl, hj1, hpl2, hpb, hrp, rfl, rfl, hle18⟩
      have hL := Le.trans hL hle18; have hle14 := Le.trans hle14 hle18; have hrest2 := ownE.mono hle18 hrest2; refine Qj (Qh ?_)
      refine Zz rfl rfl rfl (fun hlt2 => ?_) (fun hlt2 => ?_)
      ·
       obtain ⟨x, hx⟩ : ∃ x, p[j]? = some x := ⟨_, List.getElem?_eq_getElem (by omega)⟩
       have hxb := hpb x (List.mem_of_getElem? hx)
       obtain ⟨g6, cur6, rfl, rfl, hcs6, hct6, hcl6⟩ := hrp.blk (by omega)
       have hx6 : lget cur6.toList (0 + j * 1) = some (.int .i64 x) := row_cell (q := 0) hct6 (by rw [List.getElem?_drop, List.getElem?_map, Nat.mul_one, Nat.add_zero, hx]; rfl)
       refine Qi (Qc (Qj (Qv rfl (Q2 (Qc ?_))))); refine Qj (Q6 (Qj (Qh (Qb rfl rfl (Qe rfl rfl ?_))))); refine Qi (Qc (Qh (Qb rfl rfl (Qb rfl rfl ?_)))); refine Qo (i) rfl rfl rfl (by omega) rfl (Qg rfl rfl ?_); refine Qk 2 0 rfl rfl rfl hz1 rfl (Qb rfl rfl ?_); refine Qo (j) rfl rfl rfl (by omega) rfl ?_; refine Qk 0 0 rfl rfl rfl hx6 rfl ?_; refine Zb rfl rfl rfl ⟨by omega, by omega⟩ ?_; refine Qo (j) rfl rfl rfl (by omega) rfl ?_
       refine Zq 0 0 (c' := (cur6.setIfInBounds j (.int .i64 (x + 1)))) (own' := _ :: _) rfl rfl rfl rfl rfl (by omega) (by rw [Nat.zero_add, Nat.mul_one]) rfl rfl ?_; refine Qi (Ze (Qc (Qh ?_))); refine Zb rfl rfl rfl ⟨by omega, by omega⟩ (Qb rfl rfl (Qi ?_)); refine Zn (own' := _ :: _ :: _ :: _ :: _ :: _ :: _ :: _ :: own) rfl ?_
       have hrp2 := Row.set hrp (j := j) (by omega) (.int .i64 (x + 1))
       rw [← List.map_set (f := fun x : Int => Value.int .i64 x)] at hrp2
       refine Zf (e.path.length - (j + 1)) [(7, _), (8, _), (9, _), (10, _), (11, _), (12, _), (13, _), (16, _), (18, _), (70, _), (71, _), (89, _), (90, _)] (by omega) ⟨rfl, rfl, rfl, rfl, rfl, rfl, rfl, rfl, rfl, rfl, rfl, rfl, rfl, trivial⟩ ⟨j + 1, _, p.set j (x + 1), rfl, by omega, by simpa using hpl2, fun y hy => by
         have := bump_path hpb hx y hy
         omega, hrp2, by simp, rfl, hle18⟩
      ·
       refine Qi (Qc (Qj (Qr rfl (Zo (Q1 ?_))))); refine Q1 (Zp (Ze (Qc (Qh ?_)))); refine Zb rfl rfl rfl ⟨by omega, by omega⟩ (Qb rfl rfl (Qi ?_))
       refine Zj 8 [2, 1, 3, 4, 5, 6, 7] rfl (fun o ho => ?_)
       simp only [K.sel, nrm] at ho; subst ho
       refine Zf ((edT (madeT (l.take 150)) (madeT (m.take 150)) []).length - (i + 1)) [(7, _), (8, _), (9, _), (10, _), (11, _), (12, _), (13, _), (16, _), (70, _), (71, _)] (by omega) ⟨rfl, rfl, rfl, rfl, rfl, rfl, rfl, rfl, rfl, rfl, trivial⟩ ⟨i + 1, _, s2, _, rfl, by omega, hrow2, hrest2, by simp, rfl, hle14⟩
     ·
      refine Qi (Qc (Qj (Qr rfl (Zo (Q1 ?_))))); refine Q1 (Zp (Qc (Qj ?_)))
      refine Z2 7 [2, 3, 4, 5, 6] rfl (fun o ho => ?_)
      simp only [K.sel, nrm] at ho; subst ho
      refine Qh ?_; refine Qm 4 0 [_, _] rfl rfl rfl ⟨rfl, rfl, trivial⟩ rfl rfl (Qb rfl rfl ?_); refine Qs (Apply_okF hap pE (by omega) (by omega) hr24 hG) ⟨rfl, rfl, trivial⟩ rfl ?_
      rintro _ own H108 ⟨⟨a108, b108, rfl, hr108⟩, rfl, hle108⟩
      have hL := Le.trans hL hle108; have hr24 := RdL.mono hle108 hr24; have hr26 := RdL.mono hle108 hr26; have hr28 := RdL.mono hle108 hr28; have hr30 := RdL.mono hle108 hr30; have hB := RdL.mono hle108 hB; refine Qb rfl rfl (Qu rfl rfl rfl (Qu rfl rfl rfl ?_))
      refine Zc rfl ?_; intro g20; refine Qq 0 0 (c' := #[_, _]) (own' := [(_, .cells #[_, _] _ _)] :: _) rfl rfl rfl rfl rfl (tr_ones hr108) (by simp) rfl rfl rfl (Qe rfl rfl (Qi (Qc (Qj ?_)))); refine Q4 26  [(7, _), (8, _), (9, _), (10, _), (11, _), (12, _), (13, _), (16, _), (70, _), (71, _), (20, _), (21, _)] follows_mixed ⟨rfl, rfl, rfl, rfl, rfl, rfl, rfl, rfl, rfl, rfl, rfl, rfl, trivial⟩ ?_; refine Qa (some 111) [] (fun _ _ _ _ hF => Qb rfl rfl (Qd hF)) ?_; refine Qa (some 112) [(0, 0)] (fun _ _ _ _ hF => Qb rfl rfl (Qd hF)) ?_
      refine Qa (some 113) [(1, 0)] (by
       intro H' X F hle; have hL := Le.trans hL hle; intro hF; refine Qf rfl rfl rfl ?_; refine Qm 5 0 [_, _] rfl rfl rfl ⟨rfl, rfl, trivial⟩ rfl rfl ?_
       exact Qd hF) ?_
      refine Qa (some 114) [(1, 1)] (by
       intro H' X F hle; have hL := Le.trans hL hle; intro hF; refine Qf rfl rfl rfl ?_; refine Qm 3 0 [_, _] rfl rfl rfl ⟨rfl, rfl, trivial⟩ rfl rfl ?_
       exact Qd hF) ?_
      refine Qa (some 115) [(2, 1), (3, 0), (1, 2)] (by
       intro H' X F hle; have hL := Le.trans hL hle; have hr24 := RdL.mono hle hr24; have hr28 := RdL.mono hle hr28; intro hF; refine Qf rfl rfl rfl ?_; refine Qs (ref_same _ _ _ (Nat.le_refl _) hr24 hr28) ⟨rfl, rfl, trivial⟩ rfl ?_
       rintro _ own Hd115 ⟨rfl, rfl, hled115⟩
       rw [eqb_self]
       have hL := Le.trans hL hled115; refine Qi ?_
       exact Q7 [] hF hled115 ⟨rfl, rfl⟩) ?_
      refine Qa (some 116) [(1, 3), (4, 0)] (fun _ _ _ _ hF => Qz rfl rfl rfl rfl (Qd hF)) ?_; refine Qa (some 117) [(5, 0)] (fun _ _ _ _ hF => Qb rfl rfl (Qd hF)) ?_
      refine Qa (some 118) [(6, 0)] (by
       intro H' X F hle; have hL := Le.trans hL hle; intro hF; refine Qf rfl rfl rfl ?_; refine Qm 4 0 [_, _] rfl rfl rfl ⟨rfl, rfl, trivial⟩ rfl rfl ?_
       exact Qd hF) ?_
      refine Qa (some 119) [(6, 1)] (by
       intro H' X F hle; have hL := Le.trans hL hle; intro hF; refine Qf rfl rfl rfl ?_; refine Qm 2 0 [_, _] rfl rfl rfl ⟨rfl, rfl, trivial⟩ rfl rfl ?_
       exact Qd hF) ?_
      refine Qa (some 120) [(7, 1), (8, 0), (6, 2)] (by
       intro H' X F hle; have hL := Le.trans hL hle; have hr26 := RdL.mono hle hr26; have hr30 := RdL.mono hle hr30; intro hF; refine Qf rfl rfl rfl ?_; refine Qs (ref_same _ _ _ (Nat.le_refl _) hr26 hr30) ⟨rfl, rfl, trivial⟩ rfl ?_
       rintro _ own Hd120 ⟨rfl, rfl, hled120⟩
       rw [eqb_self]
       have hL := Le.trans hL hled120; refine Qi ?_
       exact Q7 [] hF hled120 ⟨rfl, rfl⟩) ?_
      refine Qa (some 121) [(6, 3), (9, 0)] (fun _ _ _ _ hF => Qz rfl rfl rfl rfl (Qd hF)) ?_; refine Qa (some 122) [(10, 0)] (fun _ _ _ _ hF => Qb rfl rfl (Qd hF)) ?_
      refine Qa (some 123) [(11, 0)] (by
       intro H' X F hle hF; refine Qf rfl rfl rfl (Qb rfl rfl ?_)
       exact Qd hF) ?_
      refine Qa (some 124) [(12, 0), (11, 1)] (by
       intro H' X F hle; have hL := Le.trans hL hle; intro hF; refine Qf rfl rfl rfl (Za rfl rfl rfl ?_)
       rw [decide_eq_true (by first | rfl | omega)]
       exact Qd hF) ?_
      refine Qa (some 125) [(11, 2), (13, 0)] (fun _ _ _ _ hF => Qz rfl rfl rfl rfl (Qd hF)) ?_; refine Qa (some 126) [(14, 0)] (fun _ _ _ _ hF => Qb rfl rfl (Qd hF)) ?_
      refine Qa (some 127) [(15, 0)] (by
       intro H' X F hle; have hL := Le.trans hL hle; intro hF; refine Qf rfl rfl rfl ?_; refine Qm 0 0 [_, _] rfl rfl rfl ⟨rfl, rfl, trivial⟩ rfl rfl ?_
       exact Qd hF) ?_
      refine Qa (some 128) [(15, 1)] (by
       intro H' X F hle; have hL := Le.trans hL hle; intro hF; refine Qf rfl rfl rfl ?_; refine Qm 1 0 [_, _] rfl rfl rfl ⟨rfl, rfl, trivial⟩ rfl rfl ?_
       exact Qd hF) ?_
      refine Qa (some 129) [(16, 1), (17, 0), (15, 2)] (by
       intro H' X F hle; have hL := Le.trans hL hle; have hB := RdL.mono hle hB; have hr108 := RdL.mono hle hr108; intro hF; refine Qf rfl rfl rfl ?_; refine Qs (ref_same _ _ _ (Nat.le_refl _) hr108 hB) ⟨rfl, rfl, trivial⟩ rfl ?_
       rintro _ own Hd129 ⟨rfl, rfl, hled129⟩
       rw [eqb_self]
       have hL := Le.trans hL hled129; refine Qi ?_
       exact Q7 [] hF hled129 ⟨rfl, rfl⟩) ?_
      refine Qa (some 130) [(15, 3), (18, 0)] (fun _ _ _ _ hF => Qz rfl rfl rfl rfl (Qd hF)) ?_; refine Qa (some 131) [(19, 0)] (fun _ _ _ _ hF => Qb rfl rfl (Qd hF)) ?_
      refine Qa (some 132) [(20, 0)] (by
       intro H' X F hle; have hL := Le.trans hL hle; intro hF; refine Qf rfl rfl rfl ?_; refine Qm 5 0 [_, _] rfl rfl rfl ⟨rfl, rfl, trivial⟩ rfl rfl ?_
       exact Qd hF) ?_
      refine Qa (some 133) [(20, 1)] (by
       intro H' X F hle; have hL := Le.trans hL hle; intro hF; refine Qf rfl rfl rfl ?_; refine Qm 4 0 [_, _] rfl rfl rfl ⟨rfl, rfl, trivial⟩ rfl rfl ?_
       exact Qd hF) ?_
      refine Qa (some 134) [(21, 1), (22, 0), (20, 2)] (by
       intro H' X F hle; have hL := Le.trans hL hle; have hr24 := RdL.mono hle hr24; have hr26 := RdL.mono hle hr26; intro hF; refine Qf rfl rfl rfl ?_; refine Qs (law_cost ha7 hb7 (by omega) (by omega) (by omega) hr24 hr26) ⟨rfl, rfl, trivial⟩ rfl ?_
       rintro _ own H134 ⟨rfl, rfl, hle134⟩
       have hL := Le.trans hL hle134; refine Qi ?_
       exact Q7 [] hF hle134 ⟨rfl, rfl⟩) ?_
      refine Qa (some 135) [(20, 3)] (by
       intro H' X F hle; have hL := Le.trans hL hle; intro hF; refine Qf rfl rfl rfl ?_; refine Qm 5 0 [_, _] rfl rfl rfl ⟨rfl, rfl, trivial⟩ rfl rfl ?_
       exact Qd hF) ?_
      refine Qa (some 136) [(20, 4)] (by
       intro H' X F hle; have hL := Le.trans hL hle; intro hF; refine Qf rfl rfl rfl ?_; refine Qm 4 0 [_, _] rfl rfl rfl ⟨rfl, rfl, trivial⟩ rfl rfl ?_
       exact Qd hF) ?_
      refine ⟨by kernel_rfl, .refl _, ?_⟩
      ·
       intro H3 hle; have hL := Le.trans hL hle; have hr24 := RdL.mono hle hr24; have hr26 := RdL.mono hle hr26; refine Qw (own' := _ :: _ :: _ :: _ :: _ :: _ :: own) rfl ?_; refine Zi (env' := [(8, _), (9, _), (10, _), (11, _), (12, _), (13, _), (16, _), (70, _), (71, _), (20, _), (131, _), (134, _), (135, _), (136, _)]) ⟨rfl, rfl, rfl, rfl, rfl, rfl, rfl, rfl, rfl, rfl, rfl, rfl, rfl, rfl, trivial⟩ ?_; refine Qf rfl rfl rfl ?_; refine Qs (ref_Distance _ (madeT (l.take 150)) (madeT (m.take 150)) (Nat.le_refl _) (by omega) (by omega) hr24 hr26) ⟨rfl, rfl, trivial⟩ rfl ?_
       rintro _ own H137 ⟨rfl, rfl, hle137⟩
       have hL := Le.trans hL hle137; refine Qf rfl rfl rfl (Za rfl rfl rfl ?_)
       rw [decide_eq_true (by first | rfl | omega)]
       refine Qz rfl rfl rfl rfl (Qe rfl rfl (Qi (Qc (Qy (Q5 6 rfl rfl ?_)))))
       exact ⟨rfl, rfl, hL⟩

end Go.Proofs.YtaomdfcplamenaaGreatDoor.K

namespace Go.Proofs.YtaomdfcplamenaaGreatDoor.K
open Go Go.RowKit Go.ChangeShapes Go.WideShapes Go.Deep

/-- Numbers as data: of a kind; three by three. -/
def kints (k : IntKind) (l : List Int) : List D := (l.map (Value.int k)).map D.c
abbrev InK (k : IntKind) (n : Int) : Prop := k.min ≤ n ∧ n ≤ k.max
theorem lit_in {k : IntKind} {n : Int} (h : (Lit.int k n).wf = true) : InK k n := by
  unfold Lit.wf at h
  simp only [Bool.and_eq_true, decide_eq_true_eq] at h
  exact h
theorem inK_i64 {n : Int} (h : InK .i64 n) : -9223372036854775808 ≤ n ∧ n ≤ 9223372036854775807 := by
  have e1 : IntKind.i64.min = -9223372036854775808 := by decide
  have e2 : IntKind.i64.max = 9223372036854775807 := by decide
  obtain ⟨h1, h2⟩ := h
  rw [e1] at h1; rw [e2] at h2
  exact ⟨h1, h2⟩

def allH (W : World) : Hp := fun b => W.heap[b]?
theorem St.all (W : World) : St W (allH W) [] W := ⟨rfl, ⟨rfl, Nat.le_refl _⟩, rfl, fun _ _ h => h, by simp, by simp, by simp⟩

theorem spot_none {W : World} {a : Addr} {v : Value} (h : W.cell? a = some v) : a = ⟨a.block, a.off, none⟩ := by
  obtain ⟨b, o, s⟩ := a
  cases s with
  | none => rfl
  | some s =>
    unfold World.cell? at h
    split at h <;> simp at h
theorem cel_of {W : World} {b o : Nat} {v : Value} (h : W.cell? ⟨b, o, none⟩ = some v) : cel (allH W) b o = some v := by
  unfold World.cell? at h
  unfold cel allH
  split at h
  · rename_i hb
    rw [hb]
    simpa using h
  · cases h
theorem add_zero' (a : Addr) : a.add 0 = a := by unfold Addr.add; simp
section
variable {P : Program} {H : Type} {enc : TypeId × Value → H} {W : World}

theorem open_kints {t e : TypeId} {k : IntKind} (ht : P.underlying t = some (.slice e)) (he : P.underlying e = some (.int k)) (hc : P.cellsOf e = 1) {a : Option Addr} {len cap : Nat} {d : DataW H} {ps : List MemPlace}
    (h : DataW.Trod enc P W 0 (fun _ => true) true t (.slice a len cap) d ps) : ∃ l : List Int, (∀ n ∈ l, InK k n) ∧ rd (allH W) (.s 1 (kints k l)) (.slice a len cap) := by
  obtain ⟨fuel, hf⟩ := h
  have hcs : (Value.slice a len cap).cells.toList = [.slice a len cap] := rfl
  rw [hcs] at hf
  rcases open_ints ht he hc hf with ⟨hcs, _⟩ | ⟨a, len', cap', zs, hcs, _, hl, hm, hz, _, hcell, hwz⟩
  · simp only [List.cons.injEq, Value.slice.injEq, and_true] at hcs
    obtain ⟨rfl, rfl, rfl⟩ := hcs
    exact ⟨[], by simp, rd.nil _ _⟩
  · simp only [List.cons.injEq, Value.slice.injEq, and_true] at hcs
    obtain ⟨rfl, rfl, rfl⟩ := hcs
    simp only [if_true] at hz
    refine ⟨zs.take len, fun n hn => ?_, ?_⟩
    · exact lit_in (hwz n (List.mem_of_mem_take hn))
    · simp only [rd]
      refine ⟨_, _, _, rfl, by simp [kints]; omega, hl, by simpa [maxLen] using hm, ?_⟩
      by_cases h0 : len = 0
      · exact .inl h0
      · have e := hcell 0 (by omega)
        rw [add_zero'] at e
        have ea := spot_none e
        refine .inr ⟨a.block, a.off, by rw [← ea], rds.mk fun i x hx => ?_⟩
        simp only [kints, List.getElem?_map, List.getElem?_take] at hx
        split at hx
        · rename_i hlt
          have h1 := hcell i (by omega)
          have h2 : zs[i]? = some zs[i] := List.getElem?_eq_getElem (by omega)
          rw [h2] at hx
          simp only [Option.map_some, Option.some.injEq] at hx
          subst hx
          refine ⟨.int k zs[i], ?_, by simp [rd]⟩
          rw [ea, add_off] at h1
          rw [List.getD_eq_getElem?_getD, h2] at h1
          exact cel_of h1
        · simp at hx

theorem args_stay (hl : laidOutB P = true) {W' : World} (hb : ∀ k, k < W.heap.size → W'.heap[k]? = W.heap[k]?) {sp : Nat → Bool} : ∀ {ts : List TypeId} {vs : List Value} {ds : List (DataW H)} {ps : List MemPlace},
    (ts.all fun t => P.readableRec t && decide (t < P.types.size)) = true → DataW.TrodAll enc P W 0 (fun _ => true) true ts vs ds ps → (∀ x ∈ ps, x.block < W.heap.size) → (∀ x ∈ ps, sp x.block = true) → DataW.TrodAll enc P W' 0 sp true ts vs ds ps
  | [], [], [], _, _, h, _, _ => h
  | t :: ts, v :: vs, d :: ds, _, hts, h, hlt, hsp => by
    obtain ⟨p, q, h1, h2, rfl⟩ := h
    simp only [List.all_cons, Bool.and_eq_true, decide_eq_true_eq] at hts
    refine ⟨p, q, WideElems.Trod_stays hl hts.1.1 hts.1.2 h1 (fun x hx => ?_) (fun x hx => hsp x (List.mem_append_left _ hx)), args_stay hl hb hts.2 h2 (fun x hx => hlt x (List.mem_append_right _ hx)) (fun x hx => hsp x (List.mem_append_right _ hx)), rfl⟩
    have hx' := hlt x (List.mem_append_left _ hx)
    cases x with
    | cell b o => exact World.cell?_of_block (w := W) (hb b hx')
    | map b => exact hb b hx'

/-- The post of a law that answers true and leaves the blocks as they were. -/
theorem law_post {f : Func} {s : ChangeSpec} {apart fresh handsOn again : Bool} {W' : World} {args : Array Value} {ds gs : List (DataW H)} {before : List MemPlace} {bt : TypeId} (hl : laidOutB P = true)
    (hW : DataW.Whole enc P f.params.toList s.vars apart W args.toList ds gs before) (hvs : s.vars = []) (hfn : s.fn H (ds ++ gs) = { results := [.lit (.bool true)], args := ds }) (hrt : f.resultTypes = #[bt]) (hbt : P.underlying bt = some .bool)
    (hts : (f.params.toList.all fun t => P.readableRec t && decide (t < P.types.size)) = true)
    (hos : W'.os = W.os) (hout : W'.output = W.output) (hb : ∀ k, k < W.heap.size → W'.heap[k]? = W.heap[k]?) : s.post enc P f apart fresh handsOn again W args (.bool true) W' := by
  have hlt := hW.lt
  have hW0 := hW
  obtain ⟨p, q, hA, hV, rfl, hfz, hnd⟩ := hW
  have hq : q = [] := by
    rw [hvs] at hV
    obtain ⟨_, rfl⟩ := trodVars_none hV
    rfl
  subst hq
  have hg : gs = [] := by
    rw [hvs] at hV
    obtain ⟨rfl, _⟩ := trodVars_none hV
    rfl
  subst hg
  simp only [List.append_nil] at hlt hfz hnd hW0
  have hres : ∀ (b : Nat) (sp : Nat → Bool) (hd : Bool), DataW.TrodAll enc P W' b sp hd f.resultTypes.toList ((Value.bool true).resultList f.resultTypes.size) (s.fn H (ds ++ [])).results [] := by
    intro b sp hd
    rw [hfn, hrt]
    exact trodAll_mk1 (shut_bool hbt true)
  have hargs : ∀ sp : Nat → Bool, (∀ x ∈ p, sp x.block = true) → DataW.TrodAll enc P W' 0 sp true f.params.toList args.toList (s.fn H (ds ++ [])).args p := by
    intro sp hsp
    rw [hfn]
    exact args_stay hl hb hts hA hlt hsp
  have hvars : ∀ sp : Nat → Bool, DataW.TrodVars enc P W' sp s.vars (s.fn H (ds ++ [])).vars [] := by
    intro sp
    rw [hfn, hvs]
    rfl
  have hok : ∀ (j : Nat) (t : TypeId) (r : Value), f.resultTypes[j]? = some t → ((Value.bool true).resultList f.resultTypes.size)[j]? = some r → Value.okWide P W' .any 0 t r := by
    rw [hrt]
    intro j t r hj hr
    match j, hj, hr with
    | 0, hj, hr =>
      simp [Value.resultList] at hj hr
      subst hj; subst hr
      simp [Value.okWide, hbt, Cell.okWide, Cell.ok]
    | j + 1, hj, hr => simp at hj
  have hk : W.keptBut W' (fun x => x ∈ p ∧ (x ∈ ([] : List MemPlace) ∨ x ∈ p ∨ x ∈ ([] : List MemPlace))) := by
    refine ⟨hos, hout, fun i hi => ?_⟩
    rw [hb i hi]
    split <;> simp_all
  have hfz' : W'.noneFrozen p := by
    intro b off hp
    have := hfz b off hp
    rw [← this]
    exact World.frozen?_of_block (w := W) (hb b (hlt _ hp))
  refine ⟨ds, [], p, [], p, [], by simpa using hW0, hres _ _ _, hargs _ (fun x hx => by simpa using hlt x hx), hvars _, hk, fun _ => ⟨hok, _, _, ([] ++ p) ++ [], ⟨[] ++ p, [], trodAll_append (hargs _ (fun _ _ => rfl)) (hres _ _ _), hvars _, rfl, by simpa using hfz', fun ha => by simpa using hnd ha⟩, fun x hx _ => by simpa using hx⟩⟩
end
section
end
end Go.Proofs.YtaomdfcplamenaaGreatDoor.K

namespace Go.Proofs.YtaomdfcplamenaaGreatDoor
open Go Go.RowKit Go.ChangeShapes Go.WideShapes Go.ChangeAt
namespace Row8
theorem own0 : ownKnob Tryz.prog.godebug = none := by kernel_rfl
theorem laid0 : laidOutB Tryz.prog = true := by kernel_rfl
theorem door_met (os : Os) (args : Array Value) : laidMetH Tryz.prog Rows.diffKeepsRow.laid ((World.doorLaid Tryz.prog 400 os).forCall (fun _ _ => 0) ⟨#[], args, []⟩).memory :=
  laidMetH_of_parts3 (fuel := 8) (laidMet_of_run' 8 (by kernel_rfl) (by kernel_rfl)) (by kernel_rfl) (by kernel_rfl)
theorem lifted (os : Os) (started : os.Started) (H : Type) (enc : TypeId × Value → H) :
    ReturnsInHanded {} Tryz.checked os 8 .any (fun w args => (Rows.diffKeepsSpec.pre enc Tryz.prog Tryz.f8 [] false w args ∧ laidMetH Tryz.prog Rows.diffKeepsRow.laid w) ∧ sizedMet enc Tryz.prog Tryz.f8 (OpenSpec.ofChange Rows.diffKeepsSpec) false w args)
      (Rows.diffKeepsSpec.post enc Tryz.prog Tryz.f8 false true false false) := by
  refine returnsInHanded_of_change_and (C := Tryz.checked) (X := fun w _ => laidMetH Tryz.prog Rows.diffKeepsRow.laid w) (fun _ _ _ hh h => h.of_heap hh) own0 started (by kernel_rfl) Tryz.func8
    (ChangeSpec.witness_shaped (enc := enc) (C := Tryz.checked) (os := os) (X := fun w _ => laidMetH Tryz.prog Rows.diffKeepsRow.laid w) false (World.doorLaid Tryz.prog 400 os) #[.slice none 0 0, .slice none 0 0, .slice none 0 0] 8 rfl (World.shaped_of_RefB (by kernel_rfl) (by kernel_rfl)) (by kernel_rfl) (by kernel_rfl) (by kernel_rfl) (door_met os _)) ?_
  intro W base args ds gs before hval0 hW _ _ _ _
  have hval : ∀ (j : Nat) t v, Tryz.f8.params[j]? = some t → args[j]? = some v → Value.okWide Tryz.prog W .any base t v := hval0
  have hW' : DataW.Whole enc Tryz.prog Tryz.f8.params.toList Rows.diffKeepsSpec.vars false W args.toList ds gs before := hW
  obtain ⟨p, q, hA0, hV, rfl, hfz, hnd⟩ := hW
  have hA : DataW.TrodAll enc Tryz.prog W 0 (fun _ => true) true Tryz.f8.params.toList args.toList ds p := hA0
  rw [Tryz.params8] at hA hval
  obtain ⟨v0, v1, v2, d0, d1, d2, p0, p1, p2, rfl, rfl, rfl, h0, h1, h2⟩ := trodAll_three hA
  obtain ⟨rfl, rfl⟩ := trodVars_none hV
  obtain ⟨a0, n0, c0, rfl⟩ := okWide_slice Tryz.underlying22 (hval 0 22 v0 rfl rfl)
  obtain ⟨l0, k0, r0⟩ := K.open_kints Tryz.underlying22 Tryz.underlying3 (by kernel_rfl) h0
  obtain ⟨a1, n1, c1, rfl⟩ := okWide_slice Tryz.underlying22 (hval 1 22 v1 rfl rfl)
  obtain ⟨l1, k1, r1⟩ := K.open_kints Tryz.underlying22 Tryz.underlying3 (by kernel_rfl) h1
  obtain ⟨a2, n2, c2, rfl⟩ := okWide_slice Tryz.underlying22 (hval 2 22 v2 rfl rfl)
  obtain ⟨l2, k2, r2⟩ := K.open_kints Tryz.underlying22 Tryz.underlying3 (by kernel_rfl) h2
  refine (K.law_keeps (fun n h => K.inK_i64 (k0 n h)) (fun n h => K.inK_i64 (k1 n h)) (fun n h => K.inK_i64 (k2 n h)) r0 r1 r2 W (K.St.all W)).mono fun e W1 hh => ?_
  obtain ⟨v, own1, H1, rfl, ⟨rfl, _, hle⟩, hst⟩ := hh
  exact ⟨_, rfl, K.law_post laid0 hW' rfl rfl rfl Tryz.underlying4 (by kernel_rfl) hst.os hst.output (fun k hk => by
    have e1 : W.heap[k]? = some W.heap[k] := by simp [hk]
    rw [e1]
    exact hst.imm k _ (hle k _ e1))⟩
end Row8
theorem row8_holds : Rows.DiffKeepsSaid :=
  OpenClaim.holds_of_wide 8 Tryz.f8 rfl rfl rfl rfl rfl rfl rfl ⟨rfl, rfl, rfl, rfl, rfl⟩ rfl rfl rfl rfl rfl (by kernel_rfl) Tryz.func8 (by kernel_rfl)
    (of_decide_eq_true (by kernel_rfl)) (by unfold Func.isWrapper; first | (rw [if_pos (by decide +kernel)]; kernel_rfl) | (rw [if_neg (by decide +kernel)]; exact ⟨rfl, rfl⟩))
    (fun os started H enc _ => Row8.lifted os started H enc)
theorem keeps_card : Rows.DiffKeepsCardSaid :=
  Claim7.holds_tied_plain_at .later [] [.data, .data, .data] true (true, "c3a3d83251cddf20a06a1c1d7fbab972c92b014fa72253d1f7004ef94f10e88e") false
    row8_holds (fun _ h => by cases h) (by kernel_rfl) (fun _ h => by cases h) diffKeeps_row_tie rfl ⟨rfl, rfl⟩ (by kernel_rfl) rfl
    (fun f fn hf hfn => by
      obtain rfl : f = 8 := Option.some.inj ((show Tryz.prog.funcNamed Rows.diffKeepsRow.func = some 8 by kernel_rfl).symm.trans hf) |>.symm
      obtain rfl : fn = Tryz.f8 := (Option.some.inj (Tryz.func8.symm.trans hfn)).symm
      exact ⟨by kernel_rfl, fun j t ht => by
        rw [Tryz.params8] at ht
        have hm : t ∈ [22, 22, 22] := by simpa using Array.mem_of_getElem? ht
        have hall : ([22, 22, 22].all fun u => !Tryz.prog.wantsStandIn u) = true := by kernel_rfl
        exact (show Tryz.prog.wantsStandIn t = false by simpa using List.all_eq_true.1 hall t hm)⟩)
    (by kernel_rfl)
end Go.Proofs.YtaomdfcplamenaaGreatDoor
