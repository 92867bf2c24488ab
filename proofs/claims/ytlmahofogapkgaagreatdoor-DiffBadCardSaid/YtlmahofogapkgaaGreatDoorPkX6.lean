/-
  Part 6 of 6 of the proof that DiffBad returns true for every list of numbers, every path and every number, and leaves its arguments as they were. No condition beyond the given statement.
-/
import Derived.ProofKit
import Derived.Deep.Slices
import Derived.OpenShut
import Derived.WideKeyArr2
import Derived.Lib.LaidTab
import Derived.LaidSub
import Derived.MakeChecks
import Derived.SizedLaws
import Derived.Shelf.Vars
import Derived.Test.YtlmahofogapkgaaGreatDoorRows
import Derived.Test.YtlmahofogapkgaaGreatDoorTie
import Derived.Test.YtlmahofogapkgaaGreatDoorCards
import Derived.LaidMore
import Derived.Stop.Joined
import Derived.Test.YtlmahofogapkgaaGreatDoorPkX5
set_option linter.unusedVariables false
set_option linter.unusedSimpArgs false
set_option linter.all false
set_option maxRecDepth 100000
set_option maxHeartbeats 4000000
namespace Go.Proofs.YtlmahofogapkgaaGreatDoor.X
section
open Go Go.RowKit Go.Proofs K
variable {pk : Pk}
abbrev bytD (n : Int) : List D := [.c (.int .u8 n)]
def dM (w : Int) : ByteArray := badL[(w.tmod 12).toNat]!
theorem bad_get {w : Int} (h : 0 ≤ w ∧ w ≤ 255) : dM w ∈ badL ∧ (badL.map fun b => XC.d (.c (.string b)))[(w.tmod 12).toNat]? = some (.d (.c (.string (dM w)))) ∧ 0 ≤ w.tmod 12 ∧ w.tmod 12 < 12 := by
  have h1 := Int.tmod_nonneg 12 h.1
  have h2 := Int.tmod_lt_of_pos w (show (0 : Int) < 12 by omega)
  have hl : (w.tmod 12).toNat < badL.length := by show _ < 12; omega
  have e : badL[(w.tmod 12).toNat]? = some (dM w) := by
    unfold dM
    rw [List.getElem!_eq_getElem?_getD, List.getElem?_eq_getElem hl]; rfl
  exact ⟨List.mem_of_getElem? e, by rw [List.getElem?_map, e]; rfl, h1, h2⟩
theorem zeroP_ok : Pg.ok 1 ⟨[], [], []⟩ := ⟨Nat.zero_le _, Nat.zero_le _, Nat.zero_le _, fun x h => (by cases h), fun x h => (by cases h), fun x h => (by cases h)⟩
theorem at_of {α : Type} : ∀ {c : List α} {o : Nat} {x : α}, c[o]? = some x → at_ c o = some x
  | [], _, _, h => by simp at h
  | _ :: _, 0, _, h => by simpa [at_] using h
  | _ :: r, n + 1, _, h => by
    rw [at_]; exact at_of (c := r) (by simpa using h)
theorem ly : ∀ (p : List Nat) {t : Tr} {l : ByteArray} {ks : List Tr} {q : Nat} {k : Tr}, iO t p = some (.node l ks) → ks[q]? = some k → iO t (p ++ [q]) = some k
  | [], t, l, ks, q, k, h, hk => by
    simp only [iO, Option.some.injEq] at h; subst h
    simp only [List.nil_append, iO, hk]
  | i :: p, .node l' ks', l, ks, q, k, h, hk => by
    simp only [iO] at h
    simp only [List.cons_append, iO]
    split at h
    · exact ly p h hk
    · cases h
structure PBd where
  j : Nat
  R : List (List D)
  KS : List (List D)
  L : ByteArray
  a : List Nat
  ks : List Tr
theorem m4 (hT : ∀ H, pk.hy H → TabH H) (hV : ∀ H, pk.hy H → VarH H) {l path : List Int} {w : Int} (h1 : ∀ n ∈ l, I64 n) (hp : ∀ n ∈ path, 0 ≤ n ∧ n ≤ 255) (hw : 0 ≤ w ∧ w ≤ 255) : XQ Tryz.prog pk 7 [xr (l.map iM), xr (path.map bytD), xv (.int .u8 w)] (xb true) := by
  obtain ⟨b1, b2, b3, b4⟩ := bad_get hw
  refine XQ.en Tryz.func7 Tryz.ntmps7 (fun w0 own H V v0 hf => ?_)
  refine G (T := T) 1000 rfl ?_
  refine Cq (oQ hT) rfl rfl rfl rfl rfl ⟨rfl, rfl⟩ ?_
  refine G (T := T) 1000 rfl ?_
  refine Ce (ot h1) rfl rfl rfl rfl rfl ⟨rfl, rfl⟩ ?_
  rintro _ ⟨p, rfl, hpm⟩
  obtain ⟨hr, hok⟩ := hpm.facts
  obtain ⟨ts1, ts2⟩ := MP_tree hpm
  have hR := ref_Right (pk := pk) (B := BG) (by decide) hok
  refine G (T := T) 1000 rfl ?_
  refine Cq (pb (by decide) hok hR) rfl rfl rfl rfl rfl ⟨rfl, rfl⟩ ?_
  have hnb := nb_tree hr
  generalize cD p = t at *
  obtain ⟨L0, ks0⟩ := t
  rw [al]
  refine G (T := T) 100003 rfl ?_
  refine (FzTo.bz 0 rfl).c ?_
  refine G (T := T) 1000 rfl ?_
  refine (Nr 10 3 1 rfl rfl).c ?_
  refine Lq [1, 2, 7, 8, 9, 11] (fun (q : PBd) r => (12, xi (q.j : Nat)) :: (10, .a (.c (.l 3 1 1 0 q.j q.j))) :: r) (fun q => [⟨3, 1, .row q.j q.R 3 1⟩, ⟨2, 0, .cells [.d (.c (.string q.L)), .d (.s q.KS)] 35⟩, ⟨1, 0, .cells (badL.map fun b => XC.d (.c (.string b))) 54⟩]) 4 (fun q => q.j = q.a.length ∧ q.R = q.a.map natD ∧ q.KS = aj q.ks ∧ iO (.node L0 ks0) q.a = some (.node q.L q.ks) ∧ q.j ≤ 10) (fun q => 10 - q.j) ⟨0, [], aj ks0, L0, [], ks0⟩ rfl ⟨rfl, rfl, rfl, rfl, Nat.zero_le _⟩ ?_
  rintro ⟨j, R, KS, L, a, ks⟩ ⟨hj, hR, hK, hs, hj10⟩; dsimp only at hj hR hK hs hj10 ⊢; subst hR hK
  refine Gs (T := T) 1000 rfl ?_
  have hpl : (path.map bytD).length = path.length := List.length_map ..
  have hkl : (aj ks).length = ks.length := List.length_map ..
  refine If rfl (fun h => ?_) (fun h => ?_)
  · simp only [Bool.and_eq_true, decide_eq_true_eq, hpl, hkl] at h
    obtain ⟨y, hy⟩ := ae (l := path) (j := j) (by omega)
    have hyb := hp y (List.mem_of_getElem? hy)
    refine G (T := T) 1000 rfl ?_
    refine Ix (T := T) j (ab hy) rfl rfl rfl rfl ⟨rfl, rfl⟩ rfl rfl ?_
    refine G (T := T) 1000 rfl ?_
    have q1 := Int.tmod_nonneg (((aj ks).length : Nat) : Int) hyb.1
    have q2 := Int.tmod_lt_of_pos y (show (0 : Int) < (((aj ks).length : Nat) : Int) by omega)
    obtain ⟨q, hq⟩ := Int.eq_ofNat_of_zero_le q1
    rw [hq]
    rw [hq] at q2
    obtain ⟨⟨L2, k2⟩, hk⟩ := ae (l := ks) (j := q) (by omega)
    have hgk := ab (f := trd) hk
    rw [al] at hgk
    refine Ix (T := T) q hgk rfl rfl rfl rfl ⟨rfl, rfl⟩ rfl rfl ?_
    refine G (T := T) 1000 rfl ?_
    have := ly a hs hk
    exact Nq ⟨j + 1, a.map natD ++ [natD q], aj k2, L2, a ++ [q], k2⟩ ⟨by rw [List.length_append, hj]; rfl, by rw [List.map_append]; rfl, rfl, this, by dsimp only; omega⟩ (by show 10 - (j + 1) < 10 - j; omega)
  · refine G (T := T) 100012 rfl ?_
    refine Zc 3 rfl ?_
    refine G (T := T) 62 rfl ?_
    have hbk : at_ (badL.map fun b => XC.d (.c (.string b))) (0 + (w.tmod 12).toNat * 1) = some (.d (.c (.string (dM w)))) := by
      rw [Nat.zero_add, Nat.mul_one]; exact at_of b2
    refine Lo (T := T) (.d (.c (.string (dM w)))) hbk rfl rfl rfl rfl rfl ⟨rfl, rfl⟩ ?_
    refine G (T := T) 1000 rfl ?_
    refine Cq (eF (l := dM w) (rows := [])) rfl rfl rfl rfl rfl ⟨rfl, rfl⟩ ?_
    refine G (T := T) 1000 rfl ?_
    have hP := ref_Put (pk := pk) (b := .node (dM w) []) a (by omega) (lbO_of ts2 (by omega)) hs
    rw [al] at hP
    refine Cq hP rfl rfl rfl rfl rfl ⟨rfl, rfl⟩ ?_
    have hbad := oi (b := dM w) b1 a hs
    have hsz := lq a (t := .node L0 ks0) (b := .node (dM w) [])
    have hbs : ∀ b ∈ badL, b.size ≤ 1000000 := by decide
    have hlm := lbM_put (b := .node (dM w) []) ⟨hbs _ b1, trivial⟩ a ts2
    have hF := from_bad hT hV hbad hlm (by simp only [Tr.size, Tr.sizes] at hsz ts1; omega)
    rw [show ftR (c8 (.node L0 ks0) a (.node (dM w) [])) = _ from if_neg (by rw [ov hbad]; simp)] at hF
    generalize c8 (.node L0 ks0) a (.node (dM w) []) = u at *
    refine G (T := T) 1000 rfl ?_
    refine Cq hF rfl rfl rfl rfl rfl ⟨rfl, rfl⟩ ?_
    refine G (T := T) 1000 rfl ?_
    refine Cq (ref_Equal (p := ⟨[], [], []⟩) (B := 1) zeroP_ok (by decide)) rfl rfl rfl rfl rfl ⟨rfl, rfl⟩ ?_
    refine G (T := T) 1000 rfl ?_
    exact Fe (T := T) rfl rfl
end
end Go.Proofs.YtlmahofogapkgaaGreatDoor.X
namespace Go.Proofs.YtlmahofogapkgaaGreatDoor.K
open Go Go.RowKit Go.ChangeShapes Go.WideShapes Go.Deep
def gM (k : IntKind) (l : List Int) : List D := (l.map (Value.int k)).map D.c
abbrev InK (k : IntKind) (n : Int) : Prop := k.min ≤ n ∧ n ≤ k.max
theorem lit_in {k : IntKind} {n : Int} (h : (Lit.int k n).wf = true) : InK k n := by
  unfold Lit.wf at h
  simp only [Bool.and_eq_true, decide_eq_true_eq] at h
  exact h
theorem inK_i64 {n : Int} (h : InK .i64 n) : -9223372036854775808 ≤ n ∧ n ≤ 9223372036854775807 := by
  have e1 : IntKind.i64.min = -9223372036854775808 := by decide
  have e2 : IntKind.i64.max = 9223372036854775807 := by decide
  obtain ⟨h1, h2⟩ := h
  rw [e1] at h1; rw [e2] at h2
  exact ⟨h1, h2⟩
def iP (W : World) : Hp := fun b => W.heap[b]?
theorem St.all (W : World) : St W (iP W) [] W := ⟨rfl, ⟨rfl, by omega⟩, rfl, fun _ _ h => h, by simp, by simp, by simp⟩
theorem spot_none {W : World} {a : Addr} {v : Value} (h : W.cell? a = some v) : a = ⟨a.block, a.off, none⟩ := by
  obtain ⟨b, o, s⟩ := a
  cases s with
  | none => rfl
  | some s =>
    unfold World.cell? at h
    split at h <;> simp at h
theorem cel_of {W : World} {b o : Nat} {v : Value} (h : W.cell? ⟨b, o, none⟩ = some v) : cel (iP W) b o = some v := by
  unfold World.cell? at h
  unfold cel iP
  split at h
  · rename_i hb
    rw [hb]
    simpa using h
  · cases h
theorem add_zero' (a : Addr) : a.add 0 = a := by unfold Addr.add; simp
section
variable {P : Program} {H : Type} {enc : TypeId × Value → H} {W : World}
theorem kA {t e : TypeId} {k : IntKind} (ht : P.underlying t = some (.slice e)) (he : P.underlying e = some (.int k)) (hc : P.cellsOf e = 1) {a : Option Addr} {len cap : Nat} {d : DataW H} {ps : List MemPlace}
    (h : DataW.Trod enc P W 0 (fun _ => true) true t (.slice a len cap) d ps) : ∃ l : List Int, (∀ n ∈ l, InK k n) ∧ rd (iP W) (.s 1 (gM k l)) (.slice a len cap) := by
  obtain ⟨fuel, hf⟩ := h
  have hcs : (Value.slice a len cap).cells.toList = [.slice a len cap] := rfl
  rw [hcs] at hf
  rcases open_ints ht he hc hf with ⟨hcs, _⟩ | ⟨a, len', cap', zs, hcs, _, hl, hm, hz, _, hcell, hwz⟩
  · simp only [List.cons.injEq, Value.slice.injEq, and_true] at hcs
    obtain ⟨rfl, rfl, rfl⟩ := hcs
    exact ⟨[], by simp, rd.nil _ _⟩
  · simp only [List.cons.injEq, Value.slice.injEq, and_true] at hcs
    obtain ⟨rfl, rfl, rfl⟩ := hcs
    simp only [if_true] at hz
    refine ⟨zs.take len, fun n hn => ?_, ?_⟩
    · exact lit_in (hwz n (List.mem_of_mem_take hn))
    · simp only [rd]
      refine ⟨_, _, _, rfl, by simp [gM]; omega, hl, by simpa [maxLen] using hm, ?_⟩
      by_cases h0 : len = 0
      · exact .inl h0
      · have e := hcell 0 (by omega)
        rw [add_zero'] at e
        have ea := spot_none e
        refine .inr ⟨a.block, a.off, by rw [← ea], rds.mk fun i x hx => ?_⟩
        simp only [gM, List.getElem?_map, List.getElem?_take] at hx
        split at hx
        · rename_i hlt
          have h1 := hcell i (by omega)
          have h2 : zs[i]? = some zs[i] := List.getElem?_eq_getElem (by omega)
          rw [h2] at hx
          simp only [Option.map_some, Option.some.injEq] at hx
          subst hx
          refine ⟨.int k zs[i], ?_, by simp [rd]⟩
          rw [ea, cv] at h1
          rw [List.getD_eq_getElem?_getD, h2] at h1
          exact cel_of h1
        · simp at hx
theorem lz (hl : laidOutB P = true) {W' : World} (hb : ∀ k, k < W.heap.size → W'.heap[k]? = W.heap[k]?) {sp : Nat → Bool} : ∀ {ts : List TypeId} {vs : List Value} {ds : List (DataW H)} {ps : List MemPlace},
    (ts.all fun t => P.readableRec t && decide (t < P.types.size)) = true → DataW.TrodAll enc P W 0 (fun _ => true) true ts vs ds ps → (∀ x ∈ ps, x.block < W.heap.size) → (∀ x ∈ ps, sp x.block = true) → DataW.TrodAll enc P W' 0 sp true ts vs ds ps
  | [], [], [], _, _, h, _, _ => h
  | t :: ts, v :: vs, d :: ds, _, hts, h, hlt, hsp => by
    obtain ⟨p, q, h1, h2, rfl⟩ := h
    simp only [List.all_cons, Bool.and_eq_true, decide_eq_true_eq] at hts
    refine ⟨p, q, WideElems.Trod_stays hl hts.1.1 hts.1.2 h1 (fun x hx => ?_) (fun x hx => hsp x (List.mem_append_left _ hx)), lz hl hb hts.2 h2 (fun x hx => hlt x (List.mem_append_right _ hx)) (fun x hx => hsp x (List.mem_append_right _ hx)), rfl⟩
    have hx' := hlt x (List.mem_append_left _ hx)
    cases x with
    | cell b o => exact World.cell?_of_block (w := W) (hb b hx')
    | map b => exact hb b hx'
theorem law_post {f : Func} {s : ChangeSpec} {apart fresh handsOn again : Bool} {W' : World} {args : Array Value} {ds gs : List (DataW H)} {cG : List MemPlace} {bt : TypeId} (hl : laidOutB P = true)
    (hW : DataW.Whole enc P f.params.toList s.vars apart W args.toList ds gs cG) (hvs : s.vars = []) (hfn : s.fn H (ds ++ gs) = { results := [.lit (.bool true)], args := ds }) (hrt : f.resultTypes = #[bt]) (hbt : P.underlying bt = some .bool)
    (hts : (f.params.toList.all fun t => P.readableRec t && decide (t < P.types.size)) = true)
    (hos : W'.os = W.os) (hout : W'.output = W.output) (hb : ∀ k, k < W.heap.size → W'.heap[k]? = W.heap[k]?) : s.post enc P f apart fresh handsOn again W args (.bool true) W' := by
  have hlt := hW.lt
  have hW0 := hW
  obtain ⟨p, q, hA, hV, rfl, hfz, hnd⟩ := hW
  have hq : q = [] := by
    rw [hvs] at hV
    obtain ⟨_, rfl⟩ := trodVars_none hV
    rfl
  subst hq
  have hg : gs = [] := by
    rw [hvs] at hV
    obtain ⟨rfl, _⟩ := trodVars_none hV
    rfl
  subst hg
  simp only [List.append_nil] at hlt hfz hnd hW0
  have hres : ∀ (b : Nat) (sp : Nat → Bool) (hd : Bool), DataW.TrodAll enc P W' b sp hd f.resultTypes.toList ((Value.bool true).resultList f.resultTypes.size) (s.fn H (ds ++ [])).results [] := by
    intro b sp hd
    rw [hfn, hrt]
    exact trodAll_mk1 (shut_bool hbt true)
  have hargs : ∀ sp : Nat → Bool, (∀ x ∈ p, sp x.block = true) → DataW.TrodAll enc P W' 0 sp true f.params.toList args.toList (s.fn H (ds ++ [])).args p := by
    intro sp hsp
    rw [hfn]
    exact lz hl hb hts hA hlt hsp
  have hvars : ∀ sp : Nat → Bool, DataW.TrodVars enc P W' sp s.vars (s.fn H (ds ++ [])).vars [] := by
    intro sp
    rw [hfn, hvs]
    rfl
  have hok : ∀ (j : Nat) (t : TypeId) (r : Value), f.resultTypes[j]? = some t → ((Value.bool true).resultList f.resultTypes.size)[j]? = some r → Value.okWide P W' .any 0 t r := by
    rw [hrt]
    intro j t r hj hr
    match j, hj, hr with
    | 0, hj, hr =>
      simp [Value.resultList] at hj hr
      subst hj; subst hr
      simp [Value.okWide, hbt, Cell.okWide, Cell.ok]
    | j + 1, hj, hr => simp at hj
  have hk : W.keptBut W' (fun x => x ∈ p ∧ (x ∈ ([] : List MemPlace) ∨ x ∈ p ∨ x ∈ ([] : List MemPlace))) := by
    refine ⟨hos, hout, fun i hi => ?_⟩
    rw [hb i hi]
    split <;> simp_all
  have hfz' : W'.noneFrozen p := by
    intro b off hp
    have := hfz b off hp
    rw [← this]
    exact World.frozen?_of_block (w := W) (hb b (hlt _ hp))
  refine ⟨ds, [], p, [], p, [], by simpa using hW0, hres _ _ _, hargs _ (fun x hx => by simpa using hlt x hx), hvars _, hk, fun _ => ⟨hok, _, _, ([] ++ p) ++ [], ⟨[] ++ p, [], trodAll_append (hargs _ (fun _ _ => rfl)) (hres _ _ _), hvars _, rfl, by simpa using hfz', fun ha => by simpa using hnd ha⟩, fun x hx _ => by simpa using hx⟩⟩
end
section
end
end Go.Proofs.YtlmahofogapkgaaGreatDoor.K
namespace Go.Proofs.YtlmahofogapkgaaGreatDoor.X
open Go Go.RowKit K
theorem lC {H : Hp} {b : Nat} {k : IntKind} : ∀ {l : List Int} {o : Nat}, K.rds H b o (gM k l) → rdr H b 1 o (l.map fun n => [.c (.int k n)])
  | [], o, _ => by simp only [List.map_nil, rdr]
  | n :: l, o, h => by
    simp only [gM, List.map_cons, K.rds] at h
    simp only [List.map_cons, rdr, rds]
    obtain ⟨⟨u, h1, h2⟩, h3⟩ := h
    exact ⟨⟨rfl, ⟨u, h1, by simp only [rd]; exact ⟨h2, rfl⟩⟩, trivial⟩, lC (l := l) h3⟩
theorem ow {H : Hp} {k : IntKind} {l : List Int} {v : Value} (h : K.rd H (.s 1 (gM k l)) v) : rd H (.s (l.map fun n => [.c (.int k n)])) v := by
  simp only [K.rd] at h
  obtain ⟨A, n, c, rfl, h1, h2, h3, h4⟩ := h
  have hn : n = (l.map fun n => [D.c (.int k n)]).length := by simpa [gM] using h1.symm
  simp only [rd]
  refine ⟨A, c, 1, by rw [hn], by rw [← hn]; exact h2, (by simpa [maxLen] using h3), ?_⟩
  rcases h4 with h4 | ⟨b, o, rfl, h4⟩
  · exact .inl (List.eq_nil_of_length_eq_zero (by rw [← hn]; exact h4))
  · exact .inr ⟨b, o, rfl, lC h4⟩
open Go.Proofs
def pkV : Pk := ⟨default, False, fun H => TabH H ∧ VarH H, fun hl h => ⟨TabH.mono hl h.1, VarH.mono hl h.2⟩⟩
theorem res_true {P : Program} {f : FuncId} {vals : List Value} {w0 : World} {own : List Seg} {H : Hp} (h : K.Fn P f vals w0 H own (fun r o H' => (xb true).rel (fun _ _ => none) H' r ∧ o = own ∧ Le H H')) : K.Fn P f vals w0 H own (fun r o H' => r = .bool true ∧ o = own ∧ Le H H') :=
  h.mono fun r o H' ⟨h1, h2, h3⟩ => ⟨by
    simp only [XV.rel, XA.rel, XC.rel, rd] at h1
    exact h1.1, h2, h3⟩
end Go.Proofs.YtlmahofogapkgaaGreatDoor.X
namespace Go.Proofs.YtlmahofogapkgaaGreatDoor.K
open Go Go.RowKit Go.Proofs
theorem m4 {l p : List Int} {n : Int} (h1 : ∀ n ∈ l, I64 n) (h2 : ∀ n ∈ p, InK .u8 n) (h3 : InK .u8 n) {w0 : World} {H : Hp} {own : List Seg} {v1 v2 : Value} (hA : rd H (.s 1 (gM .i64 l)) v1) (hB : rd H (.s 1 (gM .u8 p)) v2) (hT : TabH H) (hV : X.VarH H) :
    Fn Tryz.prog 7 [v1, v2, .int .u8 n] w0 H own (fun r o H' => r = .bool true ∧ o = own ∧ Le H H') :=
  X.res_true (X.XQ.toFn (X.m4 (pk := X.pkV) (fun _ h => h.1) (fun _ h => h.2) (l := l) (path := p) (w := n) h1 (fun n hn => by have := h2 n hn; exact this) h3) id ⟨hT, hV⟩ ⟨X.ow hA, X.ow hB, by simp only [X.XV.rel, X.XA.rel, X.XC.rel, X.rd]; exact ⟨trivial, rfl⟩, trivial⟩)
open Go.ChangeShapes Go.WideShapes Go.Deep
section
variable {P : Program} {H : Type} {enc : TypeId × Value → H} {W : World}
end
section
variable {H : Type} {enc : TypeId × Value → H} {W : World}
end
theorem tabH_of {W : World} {l : List (String × DataW Unit)} (h : laidMetH Tryz.prog l W) (hk : (l.filter fun x => x.1 == "internal/strconv.uint64pow10") = [("internal/strconv.uint64pow10", Lib.tabData .u64 Lib.pow10Tab)]) {t e : TypeId} {n : Nat}
    (hty : (Tryz.prog.globals[1]?).map (·.type) = some t) (ht : Tryz.prog.underlying t = some (.array n e)) (he : Tryz.prog.underlying e = some (.int .u64)) (hce : Tryz.prog.cellsOf e = 1) (hct : Tryz.prog.cellsOf t = n) : TabH (iP W) := by
  have h1 := h.filter fun x => x.1 == "internal/strconv.uint64pow10"
  rw [hk, MakeChecks.laidMetH_plain _ _ _ (by rfl)] at h1
  have hg : Tryz.prog.globalNamed "internal/strconv.uint64pow10" = some 1 := by kernel_rfl
  have h2 := Lib.tabIs_of_head hg hty ht he hce hct h1
  unfold Lib.TabIs World.var? at h2
  rw [hg, Option.bind_some] at h2
  unfold TabH iP
  split at h2
  · rename_i cs e fz hb
    cases h2
    exact ⟨_, _, hb⟩
  · cases h2
end Go.Proofs.YtlmahofogapkgaaGreatDoor.K
namespace Go
section
variable {H : Type} {enc : TypeId × Value → H}
theorem ox {a : Assume} {C : Checked} {os : Os} {f : FuncId} {fn : Func} {s : ChangeSpec} {cs : List PathCond} {ap fr ho ag : Bool} {X : World → Array Value → Prop}
    (hX : ∀ (w w' : World) (args : Array Value), w.heap = w'.heap → X w args → X w' args) (o : ownKnob C.prog.godebug = none) (st : os.Started) (ni : C.prog.inits.idxOf? f = none) (hfn : C.prog.funcs[f]? = some fn)
    (wit : ∃ (w : World) (tape : Tape) (i : Input), w.os = os ∧ (w.forCall tape i).Shaped C.prog ∧ i.vars = [] ∧ Input.okWide C.prog (w.forCall tape i) .any w.heap.size f i ∧ ((s.pre enc C.prog fn cs ap (w.forCall tape i).memory i.args ∧ X (w.forCall tape i).memory i.args) ∧ sizedMet enc C.prog fn (OpenSpec.ofChange s) ap (w.forCall tape i).memory i.args) ∧ a.holds C.prog (lone (Frame.enter C.prog f i.args .normal) [] (w.forCall tape i)))
    (k : ∀ (W : World) (base : Nat) (args : Array Value) (ds gs : List (DataW H)) (cG : List MemPlace), (∀ (j : Nat) t v, fn.params[j]? = some t → args[j]? = some v → Value.okWide C.prog W .any base t v) → DataW.Whole enc C.prog fn.params.toList s.vars ap W args.toList ds gs cG → X W args → W.ShapedOpen C.prog →
      Calls C.prog f args W fun e W' => ∃ v, e = .returned v ∧ s.post enc C.prog fn ap fr ho ag W args v W') :
    ReturnsInHanded a C os f .any (fun w args => (s.pre enc C.prog fn cs ap w args ∧ X w args) ∧ sizedMet enc C.prog fn (OpenSpec.ofChange s) ap w args) (s.post enc C.prog fn ap fr ho ag) := by
  refine returnsInHanded_of_calls o st ni wit fun w tape i _ hsh _ hok hpre _ => ?_
  obtain ⟨_, _, _, fn', h2, _, _, _, _, hval⟩ := hok
  obtain rfl : fn' = fn := Option.some.inj (h2.symm.trans hfn)
  obtain ⟨⟨⟨ds, gs, cG, hw, _⟩, hx⟩, _⟩ := hpre
  exact (k (w.forCall tape i) w.heap.size i.args ds gs cG hval (DataW.Whole.of_heap (w' := w.forCall tape i) (by rfl) hw) (hX _ _ _ (by rfl) hx) hsh).mono fun e W' ⟨v, he, hp⟩ => by
    subst he; exact ChangeSpec.post_blind hp
namespace Proofs.YtlmahofogapkgaaGreatDoor.X
open Go.RowKit Go.Proofs K
theorem kB {P : Program} {w : World} {fuel : Nat} {t : TypeId} {m : Array (String × TypeId)} {cs : List Value} {x : DataW Unit × List MemPlace} (hu : P.underlying t = some (.interface m)) (h : DataW.trod (fun _ => ()) P w 0 (fun _ => true) false fuel t cs = some x) : cs = [.nilIface] ∨ ∃ u v, cs = [.iface u v] := by
  cases fuel with
  | zero => simp [DataW.trod] at h
  | succ n =>
    simp only [DataW.trod, hu] at h
    split at h <;> simp_all
theorem kC {W : World} {l : List (String × DataW Unit)} {name : String} {d : DataW Unit} {g : Nat} {t : TypeId} {m : Array (String × TypeId)} (h : laidMetH Tryz.prog l W) (hk : (l.filter fun x => x.1 == name) = [(name, d)]) (hh : d.handleName?.isNone = true) (hg : Tryz.prog.globalNamed name = some g) (hty : (Tryz.prog.globals[g]?).map (·.type) = some t) (hu : Tryz.prog.underlying t = some (.interface m)) :
    ∃ ev e fz, iP W g = some (.cells #[ev] e fz) ∧ (ev = .nilIface ∨ ∃ te pe, ev = .iface te pe) := by
  have h1 := h.filter fun x => x.1 == name
  rw [hk, MakeChecks.laidMetH_plain _ _ _ (by simp [hh])] at h1
  obtain ⟨ps, ⟨g', t', cs, fuel, p, q, hg', ht', hvar, hd, _, _⟩, _⟩ := h1
  obtain rfl := Option.some.inj (hg.symm.trans hg')
  obtain rfl := Option.some.inj (hty.symm.trans ht')
  have hc := kB hu hd
  unfold World.var? at hvar
  rw [hg, Option.bind_some] at hvar
  split at hvar
  · rename_i c e fz hb
    cases hvar
    rcases hc with hc | ⟨u, v, hc⟩
    · exact ⟨_, e, fz, by unfold iP; rw [hb, show cs = #[.nilIface] from Array.toList_inj.1 hc], .inl rfl⟩
    · exact ⟨_, e, fz, by unfold iP; rw [hb, show cs = #[.iface u v] from Array.toList_inj.1 hc], .inr ⟨u, v, rfl⟩⟩
  · cases hvar
theorem pd {W : World} {g : Nat} {t : TypeId} {zero : Array Value} (h : W.ShapedOpen Tryz.prog) (hg : g < Tryz.prog.globals.size) (h0 : ((begin Tryz.prog (fun _ _ => 0) default).world.heap[g]?).bind Obj.row? = some (zero, t)) (hz : zero.size = 1)
    (hb : Tryz.prog.buildable t = true) (hc : Tryz.prog.cellTypes Tryz.prog.depth t = some [t]) (hu : Tryz.prog.underlying t = some (.int .i64)) : ∃ m e fz, iP W g = some (.cells #[.int .i64 m] e fz) := by
  obtain ⟨m, hm⟩ := cell_of_shapedOpen_int h hg h0 hz hb hc hu
  obtain ⟨cs, hh, hs, _⟩ := h.1 g zero t hg h0
  have h1 : cs.size = 1 := by omega
  have e1 : W.cell? ⟨g, 0, none⟩ = some cs[0] := by simp [World.cell?, hh, h1]
  rw [e1] at hm
  have e2 : cs.toList = [cs[0]] := by
    apply List.ext_getElem?
    intro i
    cases i with
    | zero => simp [h1]
    | succ i => simp [h1]
  have e3 : cs = #[.int .i64 m] := Array.toList_inj.1 (by rw [e2]; exact congrArg (fun x => [x]) (Option.some.inj hm))
  exact ⟨m, _, _, by unfold iP; rw [hh, e3]⟩
theorem varH_of {W : World} {l : List (String × DataW Unit)} {d1 d2 : DataW Unit} (hs : W.ShapedOpen Tryz.prog) (h : laidMetH Tryz.prog l W) (hk1 : (l.filter fun x => x.1 == "strconv.ErrSyntax") = [("strconv.ErrSyntax", d1)]) (hk2 : (l.filter fun x => x.1 == "strconv.ErrRange") = [("strconv.ErrRange", d2)]) (hd1 : d1.handleName?.isNone = true) (hd2 : d2.handleName?.isNone = true) : VarH (iP W) :=
  ⟨pd (zero := #[.int .i64 0]) hs (of_decide_eq_true (by kernel_rfl)) (by kernel_rfl) (by kernel_rfl) (by kernel_rfl) (by kernel_rfl) Tryz.underlying3, kC h hk1 hd1 (by kernel_rfl) (by kernel_rfl) Tryz.underlying234, kC h hk2 hd2 (by kernel_rfl) (by kernel_rfl) Tryz.underlying234⟩
end Proofs.YtlmahofogapkgaaGreatDoor.X
end
end Go
namespace Go.Proofs.YtlmahofogapkgaaGreatDoor
open Go Go.RowKit Go.ChangeShapes Go.WideShapes Go.ChangeAt
namespace Row7
theorem own0 : ownKnob Tryz.prog.godebug = none := by kernel_rfl
theorem laid0 : laidOutB Tryz.prog = true := by kernel_rfl
theorem door_met (os : Os) (args : Array Value) : laidMetH Tryz.prog Rows.diffBadRow.laid ((World.doorLaid Tryz.prog 400 os).forCall (fun _ _ => 0) ⟨#[], args, []⟩).memory :=
  laidMetH_of_parts3 (fuel := 8) (laidMet_of_run' 8 (by kernel_rfl) (by kernel_rfl)) (by kernel_rfl) (by kernel_rfl)
theorem lifted (os : Os) (started : os.Started) (H : Type) (enc : TypeId × Value → H) :
    ReturnsInHanded {} Tryz.checked os 7 .any (fun w args => (Rows.diffBadSpec.pre enc Tryz.prog Tryz.f7 [] false w args ∧ laidMetH Tryz.prog Rows.diffBadRow.laid w) ∧ sizedMet enc Tryz.prog Tryz.f7 (OpenSpec.ofChange Rows.diffBadSpec) false w args)
      (Rows.diffBadSpec.post enc Tryz.prog Tryz.f7 false true false false) := by
  refine ox (C := Tryz.checked) (X := fun w _ => laidMetH Tryz.prog Rows.diffBadRow.laid w) (fun _ _ _ hh h => h.of_heap hh) own0 started (by kernel_rfl) Tryz.func7
    (ChangeSpec.witness_shaped (enc := enc) (C := Tryz.checked) (os := os) (X := fun w _ => laidMetH Tryz.prog Rows.diffBadRow.laid w) false (World.doorLaid Tryz.prog 400 os) #[.slice none 0 0, .slice none 0 0, .int .u8 0] 8 rfl (World.shaped_of_RefB (by kernel_rfl) (by kernel_rfl)) (by kernel_rfl) (by kernel_rfl) (by kernel_rfl) (door_met os _)) ?_
  intro W base args ds gs cG hval0 hW hX hsh
  have hval : ∀ (j : Nat) t v, Tryz.f7.params[j]? = some t → args[j]? = some v → Value.okWide Tryz.prog W .any base t v := hval0
  have hW' : DataW.Whole enc Tryz.prog Tryz.f7.params.toList Rows.diffBadSpec.vars false W args.toList ds gs cG := hW
  obtain ⟨p, q, hA0, hV, rfl, hfz, hnd⟩ := hW
  have hA : DataW.TrodAll enc Tryz.prog W 0 (fun _ => true) true Tryz.f7.params.toList args.toList ds p := hA0
  rw [Tryz.params7] at hA hval
  obtain ⟨v0, v1, v2, d0, d1, d2, p0, p1, p2, rfl, rfl, rfl, h0, h1, h2⟩ := trodAll_three hA
  obtain ⟨rfl, rfl⟩ := trodVars_none hV
  obtain ⟨a0, n0, c0, rfl⟩ := okWide_slice Tryz.underlying22 (hval 0 22 v0 rfl rfl)
  obtain ⟨l0, k0, r0⟩ := K.kA Tryz.underlying22 Tryz.underlying3 (by kernel_rfl) h0
  obtain ⟨a1, n1, c1, rfl⟩ := okWide_slice Tryz.underlying53 (hval 1 53 v1 rfl rfl)
  obtain ⟨l1, k1, r1⟩ := K.kA Tryz.underlying53 Tryz.underlying5 (by kernel_rfl) h1
  obtain ⟨l2, rfl, _, _, k2⟩ := open_int Tryz.underlying5 (hval 2 5 v2 rfl rfl) h2
  have htab := K.tabH_of hX (by rfl) (by kernel_rfl) Tryz.underlying278 Tryz.underlying262 (by kernel_rfl) (by kernel_rfl)
  have hvar := X.varH_of hsh hX (by rfl) (by rfl) (by rfl) (by rfl)
  refine (K.m4 (fun n h => K.inK_i64 (k0 n h)) k1 (K.lit_in k2) r0 r1 htab hvar W (K.St.all W)).mono fun e W1 hh => ?_
  obtain ⟨v, own1, H1, rfl, ⟨rfl, _, hle⟩, hst⟩ := hh
  exact ⟨_, rfl, K.law_post laid0 hW' rfl rfl rfl Tryz.underlying4 (by kernel_rfl) hst.os hst.output (fun k hk => by
    have e1 : W.heap[k]? = some W.heap[k] := by simp [hk]
    rw [e1]
    exact hst.imm k _ (hle k _ e1))⟩
end Row7
theorem pf : Rows.DiffBadSaid :=
  OpenClaim.holds_of_wide 7 Tryz.f7 rfl rfl rfl rfl rfl rfl rfl ⟨rfl, rfl, rfl, rfl, rfl⟩ rfl rfl rfl rfl rfl (by kernel_rfl) Tryz.func7 (by kernel_rfl)
    (of_decide_eq_true (by kernel_rfl)) (by unfold Func.isWrapper; first | (rw [if_pos (by decide +kernel)]; kernel_rfl) | (rw [if_neg (by decide +kernel)]; exact ⟨rfl, rfl⟩))
    (fun os started H enc _ => Row7.lifted os started H enc)
theorem bad_card : Rows.DiffBadCardSaid :=
  Claim7.holds_tied_plain_at .later [] [.data, .data, .data, .sentinel, .sentinel] true (true, "425d4d93d6f6ba2554feac068bfcbb84dd0da43f1293f155f5ec7a392b3866b3") true
    pf (fun _ h => by cases h) (by kernel_rfl) (fun _ h => by cases h) diffBad_row_tie rfl ⟨rfl, rfl⟩ (by kernel_rfl) rfl
    (fun f fn hf hfn => by
      obtain rfl : f = 7 := Option.some.inj ((show Tryz.prog.funcNamed Rows.diffBadRow.func = some 7 by kernel_rfl).symm.trans hf) |>.symm
      obtain rfl : fn = Tryz.f7 := (Option.some.inj (Tryz.func7.symm.trans hfn)).symm
      exact ⟨by kernel_rfl, fun j t ht => by
        rw [Tryz.params7] at ht
        have hm : t ∈ [22, 53, 5] := by simpa using Array.mem_of_getElem? ht
        have bm : ([22, 53, 5].all fun u => !Tryz.prog.wantsStandIn u) = true := by kernel_rfl
        exact (show Tryz.prog.wantsStandIn t = false by simpa using List.all_eq_true.1 bm t hm)⟩)
    (by kernel_rfl)
end Go.Proofs.YtlmahofogapkgaaGreatDoor
