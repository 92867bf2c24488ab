/-
  Part 3 of 6 of the proof that DiffBack returns true for every list of numbers and every triple, and leaves its arguments as they were. No condition beyond the given statement.
-/
import Derived.Test.YtlmahofogapkgaaGreatDoorProg
import Derived.KernelRfl
import Derived.Laws.Build
import Derived.Laws.Entries
import Derived.Laws.StructEq
import Derived.Shelf.Strconv.Itoa3
import Derived.Shelf.LaysM
import Derived.Test.YtlmahofogapkgaaGreatDoorPkB2
set_option linter.unusedVariables false
set_option linter.unusedSimpArgs false
set_option linter.all false
set_option maxRecDepth 100000
set_option maxHeartbeats 4000000
namespace Go.Proofs.YtlmahofogapkgaaGreatDoor.X
open Go Go.RowKit K
section
variable {P : Program} {x : Cx P} {T : Tb P} {k : List Fr} {E Er : XE} {hp hp' : XH} {nx i : Nat} {ops : List Oper} {dm : Option (List Rc)} {l : List (Nat × Oper)} {d : Tmp} {dd : Option Tmp} {ty : TypeId} {pos : String} {af : Array Edge} {g : Option (Nat × Bool)}
theorem MS.rd1 {op : Op} {R : XV} {gp t0 : Nat} {o : XO} (hg : an hp gp = some ⟨gp, t0, o⟩) (hEr : vis dm ops { dst := some d, op := op, type := ty, pos := pos, after := af, guard := g } E = Er) (hb : ak ops Er g = some true ∧ okD x.N (some d) = true)
    (hL : LS P x.B.pk ops.toArray { dst := some d, op := op, type := ty, pos := pos, after := af, guard := none } Er [⟨gp, t0, o⟩] nx nx (fun x fp' => x = R ∧ fp' = [⟨gp, t0, o⟩]))
    (hdk : DkM dm ops ⟨i, [gp], false, false⟩) (hk : (MS.r ops (push dm ⟨i, [gp], false, false⟩) l k ⟨(d, R) :: E, hp, nx⟩).ok x) : (MS.r ops dm ((i, { dst := some d, op := op, type := ty, pos := pos, after := af, guard := g }) :: l) k ⟨E, hp, nx⟩).ok x := by
  subst hEr
  obtain ⟨p1, p2, p3⟩ := aK hg
  have e0 : aa [(⟨gp, t0, o⟩ : XB)] ++ List.range' nx (nx - nx) = [gp] := by simp [aa]
  refine MS.op (fp := [⟨gp, t0, o⟩]) (rest := cm hp gp) false false hb.2 p1 (Nat.le_refl _) (LS.yes (o := { dst := some d, op := op, type := ty, pos := pos, after := af, guard := g }) hb.1 hL) (by rw [e0]; exact hdk) (fun _ => ⟨_, _, ⟨rfl, rfl⟩, fun _ _ h => h⟩) (fun h => by cases h) ?_
  rintro q fp' ⟨rfl, rfl⟩
  refine ⟨by simp [aa], by simp [aa], fun _ => ⟨rfl, rfl⟩, hp, p1, ?_⟩
  rw [e0]; exact hk
theorem MS.wr1 {op : Op} {R : XV} {gp t0 t1 : Nat} {o o' : XO} (hg : an hp gp = some ⟨gp, t0, o⟩) (hset' : bc hp gp t1 o' = some hp') (hEr : vis dm ops { dst := dd, op := op, type := ty, pos := pos, after := af, guard := g } E = Er) (hb : ak ops Er g = some true ∧ okD x.N dd = true)
    (hL : LS P x.B.pk ops.toArray { dst := dd, op := op, type := ty, pos := pos, after := af, guard := none } Er [⟨gp, t0, o⟩] nx nx (fun x fp' => x = R ∧ fp' = [⟨gp, t1, o'⟩]))
    (hdk : DkM dm ops ⟨i, [gp], true, false⟩) (hk : (MS.r ops (push dm ⟨i, [gp], true, false⟩) l k ⟨cj dd R E, hp', nx⟩).ok x) : (MS.r ops dm ((i, { dst := dd, op := op, type := ty, pos := pos, after := af, guard := g }) :: l) k ⟨E, hp, nx⟩).ok x := by
  subst hEr
  obtain ⟨p1, p2, p3⟩ := aK hg
  have e0 : aa [(⟨gp, t0, o⟩ : XB)] ++ List.range' nx (nx - nx) = [gp] := by simp [aa]
  refine MS.op (fp := [⟨gp, t0, o⟩]) (rest := cm hp gp) true false hb.2 p1 (Nat.le_refl _) (LS.yes (o := { dst := dd, op := op, type := ty, pos := pos, after := af, guard := g }) hb.1 hL) (by rw [e0]; exact hdk) (fun _ => ⟨_, _, ⟨rfl, rfl⟩, fun _ _ h => h⟩) (fun h => by cases h) ?_
  rintro q fp' ⟨rfl, rfl⟩
  refine ⟨by simp [aa], by simp [aa], fun h => (by cases h), hp', p3 _ _ _ hset', ?_⟩
  rw [e0]; exact hk
end
theorem nl {H : Hp} {sz : Nat} : ∀ {rows : List (List D)} {us : List Value}, rdL H rows.flatten us → (∀ r ∈ rows, r.length = sz) → ∀ {j : Nat} {r : List D}, rows[j]? = some r → ∃ v1 vs v2, us = v1 ++ (vs ++ v2) ∧ v1.length = j * sz ∧ rdL H r vs ∧ vs.length = sz ∧ rdL H (rows.take j).flatten v1 ∧ rdL H (rows.drop (j + 1)).flatten v2
  | [], _, _, _, _, _, h => by simp at h
  | q :: rs, us, h, hl, 0, r, hj => by
    simp only [List.getElem?_cons_zero, Option.some.injEq] at hj
    subst hj
    rw [List.flatten_cons] at h
    obtain ⟨v1, v2, rfl, h1, h2⟩ := rdL.split h
    exact ⟨[], v1, v2, rfl, by simp, h1, by rw [← h1.len]; exact hl q (List.mem_cons_self ..), trivial, h2⟩
  | q :: rs, us, h, hl, j + 1, r, hj => by
    rw [List.flatten_cons] at h
    obtain ⟨v1, v2, rfl, h1, h2⟩ := rdL.split h
    obtain ⟨w1, ws, w2, rfl, k1, k2, k3, k4, k5⟩ := nl h2 (fun r hr => hl r (List.mem_cons_of_mem _ hr)) (by simpa using hj)
    refine ⟨v1 ++ w1, ws, w2, by simp, ?_, k2, k3, ?_, by simpa using k5⟩
    · rw [List.length_append, k1, ← h1.len, hl q (List.mem_cons_self ..), Nat.add_mul]; omega
    · rw [List.take_succ_cons, List.flatten_cons]; exact rdL.append h1 k4
theorem gk : ∀ (vs : List Value) (c : Array Value) (o : Nat), o + vs.length ≤ c.size → (bS c o vs).toList = c.toList.take o ++ (vs ++ c.toList.drop (o + vs.length))
  | [], c, o, _ => by simp [bS]
  | v :: r, c, o, h => by
    have hlt : o < c.toList.length := by simp at h ⊢; omega
    simp only [bS]
    rw [gk r _ (o + 1) (by simp at h ⊢; omega), Array.toList_setIfInBounds]
    rw [List.take_succ, List.getElem?_set_self hlt, List.take_set_of_le (Nat.le_refl _), List.drop_set_of_lt (by simp only [List.length_cons] at h; omega)]
    simp only [Option.toList_some, List.append_assoc, List.singleton_append, List.length_cons, List.cons_append, List.nil_append]
    rw [show o + 1 + r.length = o + (r.length + 1) by omega]
section
variable {P : Program} {pk : Pk} {T : Tb P} {Er : XE} {nx : Nat} {ops : Array Oper} {d : Option Tmp} {ty : TypeId} {pos : String} {af : Array Edge}
theorem HRr {V : Vn} {H : Hp} {gp t0 n : Nat} {rows : List (List D)} {e sz : Nat} {sg : Seg} (h : HR V H [⟨gp, t0, .row n rows e sz⟩] sg) :
    (∃ b us jk ex, sg = [(b, .cells (us ++ jk).toArray e (0, 0))] ∧ V gp t0 = some (some b, ex) ∧ n = rows.length ∧ rdL H rows.flatten us ∧ (∀ r ∈ rows, r.length = sz) ∧ jk.length = ex * sz ∧ n + ex ≤ maxLen ∧ 0 < sz) ∨ (sg = [] ∧ V gp t0 = some (none, 0) ∧ n = 0 ∧ rows = []) := by
  obtain ⟨s1, s2, rfl, h1, rfl⟩ := h
  rcases h1 with ⟨b, ob, ex, rfl, h2, us, j, h3, h4, h5, rfl, h6, h7, h8⟩ | ⟨rfl, h2, e', sz', h3, _⟩
  · exact .inl ⟨b, us, j, ex, rfl, h2, h3, h4, h5, h6, h7, h8⟩
  · simp only [XO.row.injEq] at h3
    exact .inr ⟨rfl, h2, h3.1, h3.2.1⟩
theorem LS.iq {t : TypeId} {o iv : Operand} {ki : IntKind} {jv : Int} {e sz by_ gp t0 n c e' m : Nat} {rows : List (List D)} (j : Nat)
    (ho : xev Er o = some (.a (.c (.l gp t0 sz 0 n c)))) (hi : xev Er iv = some (xv (.int ki jv))) (ht : T.bt.get t = some (.sl e sz by_)) (hj : jv = (j : Int)) (hlt : j < n) (hm : n = m) :
    LS P pk ops { dst := d, op := .indexAddr t o iv, type := ty, pos := pos, after := af, guard := none } Er [⟨gp, t0, .row m rows e' sz⟩] nx nx (fun x fp' => x = .a (.c (.q gp t0 sz j 0)) ∧ fp' = [⟨gp, t0, .row m rows e' sz⟩]) := by
  subst hm
  intro w0 N Q rest env own H V sg hl hV htp hf hd _ hh
  obtain ⟨v, h1, h2⟩ := hl.lks _ _ ho
  obtain ⟨w, h3, h4⟩ := hl.lks _ _ hi
  have := aO h4; subst this
  simp only [XV.rel, XA.rel, XC.rel] at h2
  obtain ⟨b, ex, h5, rfl⟩ := h2
  obtain ⟨z, hS⟩ := aW (BT.all_get T.ok ht)
  rcases HRr hV with ⟨b', us, jk, ex', _, h6, _⟩ | ⟨_, _, h6, _⟩
  · rw [h5] at h6
    cases h6
    rw [Option.map_some, Nat.zero_mul] at h1
    refine TL.indexAddr j h1 h3 hj hlt hd (hh _ _ _ V H _ ⟨rfl, rfl⟩ ?_ hV htp (VX.refl _ _ _) (Le.refl _))
    simp only [XV.rel, XA.rel, XC.rel]
    exact ⟨b', _, h5, by rw [Nat.zero_add, Nat.add_zero]⟩
  · omega
theorem LS.lr {tt : TypeId} {y : Operand} {ti : TI} {gp t0 sz j o n e : Nat} {rows : List (List D)} {r : List D} {u : XV} (hr : rows[j]? = some r) (hy : xev Er y = some (.a (.c (.q gp t0 sz j o)))) (ht : T.bt.get tt = some ti) (hn : (ti.agg || Nat.beq ti.n 1) = true) (hu : iN (r.drop o) ti.agg ti.n = some u) :
    LS P pk ops { dst := d, op := .load tt y, type := ty, pos := pos, after := af, guard := none } Er [⟨gp, t0, .row n rows e sz⟩] nx nx (fun x fp' => x = u ∧ fp' = [⟨gp, t0, .row n rows e sz⟩]) := by
  intro w0 N Q rest env own H V sg hl hV htp hf hd _ hh
  obtain ⟨v, h1, h2⟩ := hl.lks _ _ hy
  simp only [XV.rel, XA.rel, XC.rel] at h2
  obtain ⟨b, ex, h5, rfl⟩ := h2
  have htk := BT.all_get T.ok ht
  have hty := dt htk
  rcases HRr hV with ⟨b', us, jk, ex', rfl, h6, h7, h8, h9, _⟩ | ⟨_, _, _, h6⟩
  · rw [h5] at h6
    cases h6
    obtain ⟨v1, vs, v2, rfl, k1, k2, k3, _⟩ := nl h8 h9 hr
    have hc : ∀ (q : Nat) (v : Value), vs[q]? = some v → (((v1 ++ (vs ++ v2)) ++ jk).toArray.toList)[j * sz + q]? = some v := fun q v hq => by
      simp only [List.append_assoc]
      rw [List.getElem?_append_right (by omega), k1, Nat.add_sub_cancel_left, List.getElem?_append_left (List.getElem?_eq_some_iff.1 hq).1]
      exact hq
    have fin : ∀ v, u.rel V H v → TL P w0 N Q ops rest (ao d v env) ([(b, .cells ((v1 ++ (vs ++ v2)) ++ jk).toArray e (0, 0))] :: own) H := fun v hv => hh v u _ V H _ ⟨rfl, rfl⟩ hv hV htp (VX.refl _ _ _) (Le.refl _)
    cases ha : ti.agg with
    | true =>
      rw [ha] at hu hty
      simp only [iN] at hu
      split at hu
      · rename_i ds hs
        cases hu
        obtain ⟨rfl, e1⟩ := fI hs
        rw [Nat.zero_add, List.length_drop, k2.len] at e1
        refine TL.load_ownA 0 0 ((vs.drop o).take ti.n) h1 rfl rfl (ij fun q v hv => ?_) (by rw [List.length_take, List.length_drop]; omega) hd (fin _ ⟨_, rfl, ?_⟩)
        · rw [List.getElem?_take] at hv
          split at hv
          · rw [List.getElem?_drop] at hv
            have := hc (o + q) v hv
            rwa [← Nat.add_assoc] at this
          · cases hv
        · have key : ∀ {m : Nat} {a : List D} {c : List Value}, rdL H a c → rdL H (a.drop m) (c.drop m) := by
            intro m
            induction m with
            | zero => intro a c h; exact h
            | succ m ih => intro a c h; cases a with
              | nil => cases c with
                | nil => exact h
                | cons => exact h.elim
              | cons => cases c with
                | nil => exact h.elim
                | cons => exact ih h.2
          simpa using (key (m := o) k2).take (n := ti.n)
      · cases hu
    | false =>
      rw [ha] at hu hty hn
      have e1 : ti.n = 1 := Nat.eq_of_beq_eq_true (by simpa using hn)
      rw [e1] at hty
      simp only [iN] at hu
      split at hu
      · rename_i z zs hd2
        cases hu
        have key : ∀ {m : Nat} {a : List D} {c : List Value} {y : D} {ys : List D}, rdL H a c → a.drop m = y :: ys → ∃ v, c[m]? = some v ∧ rd H y v := by
          intro m
          induction m with
          | zero => intro a c y ys h he; cases c with
            | nil => simp only [List.drop_zero] at he; subst he; exact h.elim
            | cons v c => simp only [List.drop_zero] at he; subst he; exact ⟨v, rfl, h.1⟩
          | succ m ih => intro a c y ys h he; cases a with
            | nil => simp at he
            | cons => cases c with
              | nil => exact h.elim
              | cons => exact ih h.2 (by simpa using he)
        obtain ⟨v, e2, e3⟩ := key k2 hd2
        exact TL.load_own 0 0 h1 rfl rfl (by rw [fb]; exact hc o v e2) hd (fin _ (by simp only [XV.rel, XA.rel, XC.rel]; exact e3))
      · cases hu
  · subst h6; simp at hr
def il (rows : List (List D)) (j o : Nat) (ds : List D) : List (List D) := match rows[j]? with
  | some r => rows.set j (r.take o ++ (ds ++ r.drop (o + ds.length)))
  | none => rows
theorem LS.sr {tt : TypeId} {y z : Operand} {ti : TI} {gp t0 sz j o n e : Nat} {rows : List (List D)} {r ds : List D} {u : XA} (hr : rows[j]? = some r) (hy : xev Er y = some (.a (.c (.q gp t0 sz j o)))) (hz : xev Er z = some (.a u)) (hds : eu u.cells = some ds) (ht : T.bt.get tt = some ti) (hn : ds.length = ti.n) (hb : Nat.ble (o + ds.length) sz = true) :
    LS P pk ops { dst := d, op := .store tt y z, type := ty, pos := pos, after := af, guard := none } Er [⟨gp, t0, .row n rows e sz⟩] nx nx (fun x fp' => x = .u ∧ fp' = [⟨gp, t0, .row n (il rows j o ds) e sz⟩]) := by
  intro w0 N Q rest env own H V sg hl hV htp hf hd _ hh
  obtain ⟨v, h1, h2⟩ := hl.lks _ _ hy
  obtain ⟨w, h3, h4⟩ := hl.lks _ _ hz
  simp only [XV.rel, XA.rel, XC.rel] at h2
  obtain ⟨b, ex, h5, rfl⟩ := h2
  have htk := BT.all_get T.ok ht
  have hty := dt htk
  have hcell := XA.cells_ok h4
  have hdv := bO hds hcell
  have hb := Nat.le_of_ble_eq_true hb
  have hlen := hdv.len
  rcases HRr hV with ⟨b', us, jk, ex', rfl, h6, h7, h8, h9, q1, q2, q3⟩ | ⟨_, _, _, h6⟩
  · rw [h5] at h6
    cases h6
    obtain ⟨v1, vs, v2, rfl, k1, k2, k3, k4, k5⟩ := nl h8 h9 hr
    have hrl : r.length = sz := by rw [k2.len, k3]
    obtain ⟨a1, a2, rfl, b1, b2⟩ := rdL.split (ds := r.take o) (es := r.drop o) (by rw [List.take_append_drop]; exact k2)
    have hl1 : a1.length = o := by rw [← b1.len, List.length_take]; omega
    obtain ⟨a3, a4, rfl, b3, b4⟩ := rdL.split (ds := (r.drop o).take ds.length) (es := (r.drop o).drop ds.length) (by rw [List.take_append_drop]; exact b2)
    have hl3 : a3.length = ds.length := by rw [← b3.len, List.length_take, List.length_drop]; omega
    have hput : bS ((v1 ++ ((a1 ++ (a3 ++ a4)) ++ v2)) ++ jk).toArray (j * sz + o) w.cells.toList = ((v1 ++ ((a1 ++ (w.cells.toList ++ a4)) ++ v2)) ++ jk).toArray := by
      rw [← Array.toList_inj, gk _ _ _ (by rw [← hlen]; simp only [List.size_toArray, List.length_append]; omega)]
      have e1 : ((v1 ++ ((a1 ++ (a3 ++ a4)) ++ v2)) ++ jk) = (v1 ++ a1) ++ (a3 ++ (a4 ++ (v2 ++ jk))) := by simp
      have e2 : (v1 ++ a1).length = j * sz + o := by rw [List.length_append]; omega
      simp only [e1]
      rw [List.take_append_of_le_length (by omega), List.take_of_length_le (by omega), List.drop_append, List.drop_of_length_le (l := v1 ++ a1) (by omega)]
      rw [show j * sz + o + w.cells.toList.length - (v1 ++ a1).length = a3.length by omega, List.drop_append, List.drop_of_length_le (Nat.le_refl _)]
      simp
    have bc : il rows j o ds = rows.set j (r.take o ++ (ds ++ (r.drop o).drop ds.length)) := by
      rw [il, hr, List.drop_drop]
    have hjl : j < rows.length := (List.getElem?_eq_some_iff.1 hr).1
    have hfl : (il rows j o ds).flatten = (rows.take j).flatten ++ ((r.take o ++ (ds ++ (r.drop o).drop ds.length)) ++ (rows.drop (j + 1)).flatten) := by
      rw [bc, List.set_eq_take_append_cons_drop, if_pos hjl, List.flatten_append, List.flatten_cons]
    refine TL.store 0 0 h1 h3 rfl rfl (vs := w.cells.toList) (by simp) (by rw [← hlen, hn]) hcell.ones (by rw [← hlen]; simp only [List.size_toArray, List.length_append]; omega) hput rfl hd ?_
    refine hh undef .u _ V H _ ⟨rfl, rfl⟩ rfl (HR.one (.inl ⟨_, _, ex, rfl, h5, _, jk, ?_, ?_, ?_, rfl, q1, q2, q3⟩)) ?_ (VX.refl _ _ _) (Le.refl _)
    · rw [bc, List.length_set]; exact h7
    · rw [hfl]
      exact rdL.append k4 (rdL.append (rdL.append b1 (rdL.append hdv b4)) k5)
    · intro q hq
      rw [bc] at hq
      rcases List.mem_or_eq_of_mem_set hq with hq | rfl
      · exact h9 q hq
      · simp only [List.length_append, List.length_take, List.length_drop]; omega
    · intro y hy' t hlt
      obtain rfl := List.mem_singleton.1 hy'
      exact htp _ (List.mem_singleton.2 rfl) t hlt
  · subst h6; simp at hr
theorem LS.pop {t : TypeId} {o iv : Operand} {ki : IntKind} {jv : Int} {e sz by_ gp t0 n c e' m : Nat} {rows : List (List D)} (j : Nat)
    (ho : xev Er o = some (.a (.c (.l gp t0 sz 0 n c)))) (hi : xev Er iv = some (xv (.int ki jv))) (ht : T.bt.get t = some (.sl e sz by_)) (hj : jv = (j : Int)) (hlt : j ≤ n) (hm : n = m) (hc : c = m) :
    LS P pk ops { dst := d, op := .slice t o none (some iv) none, type := ty, pos := pos, after := af, guard := none } Er [⟨gp, t0, .row m rows e' sz⟩] nx nx (fun x fp' => x = .a (.c (.l gp (t0 + 1) sz 0 j j)) ∧ fp' = [⟨gp, t0 + 1, .row j (rows.take j) e' sz⟩]) := by
  subst hm hc
  intro w0 N Q rest env own H V sg hl hV htp hf hd _ hh
  obtain ⟨v, h1, h2⟩ := hl.lks _ _ ho
  obtain ⟨w, h3, h4⟩ := hl.lks _ _ hi
  have := aO h4; subst this
  simp only [XV.rel, XA.rel, XC.rel] at h2
  obtain ⟨b, ex, h5, rfl⟩ := h2
  obtain ⟨z, hS⟩ := aW (BT.all_get T.ok ht)
  have hnone : V gp (t0 + 1) = none := htp _ (List.mem_singleton.2 rfl) (t0 + 1) (by show t0 < _; omega)
  have htop : ∀ i, Top (V.new gp (t0 + 1) i) [⟨gp, t0 + 1, .row j (rows.take j) e' sz⟩] := fun i y hy t hlt => by
    obtain rfl := List.mem_singleton.1 hy
    rw [Vn.new_ne]
    · exact htp _ (List.mem_singleton.2 rfl) t (by simp only at hlt ⊢; omega)
    · rintro ⟨_, h⟩; simp only at hlt; omega
  have hvx : ∀ i, VX V (V.new gp (t0 + 1) i) [⟨gp, t0, .row c rows e' sz⟩] nx nx := fun i => ⟨Vn.new_le _ hnone, fun h t k1 k2 => by
    by_cases e9 : h = gp ∧ t = t0 + 1
    · exact .inr (by simp [aa, e9.1])
    · rw [Vn.new_ne _ _ e9] at k2; exact absurd k1 k2⟩
  rcases HRr hV with ⟨b', us, jk, ex', rfl, h6, h7, h8, h9, q1, q2, q3⟩ | ⟨rfl, h6, h7, h8⟩
  · rw [h5] at h6
    cases h6
    rw [Option.map_some, Nat.zero_mul] at h1
    have hlen : (rows.take j).length = j := by rw [List.length_take]; omega
    have hA : (if c + ex = 0 then some (⟨b', 0, none⟩ : Addr) else (some ⟨b', 0, none⟩ : Option Addr).map (·.add (0 * sz))) = some ⟨b', 0, none⟩ := by split <;> simp [Addr.add]
    refine TL.slice (li := none) (ri := some jv) 0 j h1 rfl ⟨ki, jv, rfl, h3⟩ rfl hj (Nat.zero_le _) (by omega) hd ?_
    rw [hA, Nat.sub_zero, Nat.sub_zero]
    obtain ⟨v1, v2, e1, e2, e3⟩ := rdL.split (ds := (rows.take j).flatten) (es := (rows.drop j).flatten) (by rw [← List.flatten_append, List.take_append_drop]; exact h8)
    subst e1
    have hv2 : v2.length = (c - j) * sz := by
      rw [← e3.len]
      have key : ∀ {q : List (List D)}, (∀ r ∈ q, r.length = sz) → q.flatten.length = q.length * sz := by
        intro q
        induction q with
        | nil => intro _; simp
        | cons a q ih => intro h; rw [List.flatten_cons, List.length_append, h a (List.mem_cons_self ..), ih (fun r hr => h r (List.mem_cons_of_mem _ hr)), List.length_cons, Nat.add_mul]; omega
      rw [key (fun r hr => h9 r (List.mem_of_mem_drop hr)), List.length_drop, ← h7]
    refine hh _ _ _ (V.new gp (t0 + 1) (some b', (c - j) + ex)) H _ ⟨rfl, rfl⟩ ?_ (HR.one (.inl ⟨b', _, _, rfl, Vn.new_at .., v1, v2 ++ jk, hlen.symm, e2, fun r hr => h9 r (List.mem_of_mem_take hr), by rw [List.append_assoc], ?_, by omega, q3⟩)) (htop _) (hvx _) (Le.refl _)
    · simp only [XV.rel, XA.rel, XC.rel]
      exact ⟨some b', _, Vn.new_at .., by rw [Option.map_some, Nat.zero_mul, show j + (c - j + ex) = c + ex by omega]⟩
    · rw [List.length_append, hv2, q1, Nat.add_mul]
  · rw [h5] at h6
    cases h6
    subst h7 h8
    have hj0 : j = 0 := by omega
    subst hj0
    refine TL.slice (li := none) (ri := some jv) 0 0 h1 rfl ⟨ki, jv, rfl, h3⟩ rfl hj (Nat.le_refl _) (Nat.zero_le _) hd ?_
    have hsz : 0 < sz := hS.pos
    refine hh _ _ _ (V.new gp (t0 + 1) (none, 0)) H _ ⟨rfl, rfl⟩ ?_ (HR.one (.inr ⟨rfl, Vn.new_at .., e', sz, by simp, hsz⟩)) (htop _) (hvx _) (Le.refl _)
    simp only [XV.rel, XA.rel, XC.rel]
    exact ⟨none, 0, Vn.new_at .., by simp⟩
def im (Er : XE) : Option Operand → Option Int → Prop
  | none, r => r = none
  | some y, r => ∃ ki n, r = some n ∧ xev Er y = some (xv (.int ki n))
theorem fe {V : Vn} {H : Hp} {env : Env} (hl : Lk V H env Er) : ∀ {o : Option Operand} {r : Option Int}, im Er o r → optI env o r
  | none, _, h => h
  | some y, _, ⟨ki, n, h1, h2⟩ => by
    obtain ⟨w, h3, h4⟩ := hl.lks _ _ h2
    have := aO h4; subst this
    exact ⟨ki, n, h1, h3⟩
theorem LS.sd {t : TypeId} {o : Operand} {lo hi : Option Operand} {li ri : Option Int} {e sz by_ : Nat} {rows : List (List D)} (a b : Nat)
    (ho : xev Er o = some (.a (.c (.d (.s rows))))) (h1 : im Er lo li) (h2 : im Er hi ri) (ht : T.bt.get t = some (.sl e sz by_)) (ha : li.getD 0 = (a : Int)) (hb : ri.getD (rows.length : Int) = (b : Int)) (hab : a ≤ b) (hbl : b ≤ rows.length) (hsz : ∀ r ∈ rows, r.length = sz) :
    LS P pk ops { dst := d, op := .slice t o lo hi none, type := ty, pos := pos, after := af, guard := none } Er [] nx nx (fun x fp' => x = .a (.c (.d (.s ((rows.drop a).take (b - a))))) ∧ fp' = []) := by
  intro w0 N Q rest env own H V sg hl hV htp hf hd _ hh
  obtain ⟨v, h3, h4⟩ := hl.lks _ _ ho
  simp only [XV.rel, XA.rel, XC.rel, rd] at h4
  obtain ⟨A, c, sz', rfl, h5, h6, h7⟩ := h4
  obtain ⟨z, hS⟩ := aW (BT.all_get T.ok ht)
  refine TL.slice a b h3 (fe hl h1) (fe hl h2) ha hb hab (by omega) hd (hh _ _ _ V H _ ⟨rfl, rfl⟩ ?_ hV htp (VX.refl _ _ _) (Le.refl _))
  simp only [XV.rel, XA.rel, XC.rel, rd]
  refine ⟨_, c - a, sz, by rw [show ((rows.drop a).take (b - a)).length = b - a by rw [List.length_take, List.length_drop]; omega], by rw [List.length_take, List.length_drop]; omega, by omega, ?_⟩
  by_cases h8 : (rows.drop a).take (b - a) = []
  · exact .inl h8
  · right
    rcases h7 with h7 | ⟨b', q, rfl, h7⟩
    · subst h7; simp at h8
    · have hne : rows ≠ [] := fun e => by rw [e] at h8; simp at h8
      have hal : a < rows.length := by
        rcases Nat.lt_or_ge a rows.length with h | h
        · exact h
        · rw [List.drop_of_length_le h] at h8; simp at h8
      have hszz : sz' = sz := by
        obtain ⟨r, hr⟩ : ∃ r, rows[a]? = some r := ⟨_, List.getElem?_eq_getElem hal⟩
        rw [← (h7.get hr).1]
        exact hsz r (List.mem_of_getElem? hr)
      subst hszz
      rw [if_neg (by omega), Option.map_some, cB]
      exact ⟨b', _, rfl, (h7.drop).take⟩
theorem LS.mk {t : TypeId} {y z : Operand} {kl kc : IntKind} {jl : Int} {e sz by_ : Nat} (n : Nat) (dz : List D) (hy : xev Er y = some (xv (.int kl jl))) (hz : xev Er z = some (xv (.int kc jl))) (ht : T.bt.get t = some (.sl e sz by_)) (hj : jl = (n : Int)) (hb : by_ * n ≤ 281474976710656) (hm : n ≤ 9223372036854775807)
    (hzero : ∀ z : Value, Sl P t e sz by_ z → ∀ H, rdL H dz z.cells.toList) :
    LS P pk ops { dst := d, op := .makeSlice t y z, type := ty, pos := pos, after := af, guard := none } Er [] nx (nx + 1) (fun x fp' => x = .a (.c (.l nx 0 sz 0 n n)) ∧ fp' = [⟨nx, 0, .row n (List.replicate n dz) e sz⟩]) := by
  intro w0 N Q rest env own H V sg hl hV htp hf hd _ hh
  obtain ⟨v, h1, h2⟩ := hl.lks _ _ hy
  have := aO h2; subst this
  obtain ⟨w, h3, h4⟩ := hl.lks _ _ hz
  have := aO h4; subst this
  obtain ⟨zv, hS⟩ := aW (BT.all_get T.ok ht)
  have hzc := hzero zv hS
  have hzs : zv.cells.toList.length = sz := by simpa using hS.zs
  obtain rfl := HR0 hV
  refine TL.makeSlice n h1 h3 hj hb hm hd fun gn => ?_
  have hdl : dz.length = sz := by rw [(hzc H).len, hzs]
  have hmade : madeCells zv.cells (n * sz) = ((List.replicate n zv.cells.toList).flatten ++ []).toArray := by
    rw [List.append_nil]
    refine Array.ext_getElem? fun q => ?_
    simp only [madeCells, List.getElem?_toArray]
    have key : ∀ (n q : Nat), (List.replicate n zv.cells.toList).flatten[q]? = if q < n * sz then some (zv.cells.getD (q % sz) undef) else none := by
      intro n
      induction n with
      | zero => intro q; simp
      | succ n ih =>
        intro q
        rw [List.replicate_succ, List.flatten_cons]
        by_cases hq : q < sz
        · rw [List.getElem?_append_left (by omega), if_pos (by rw [Nat.add_mul]; omega), Nat.mod_eq_of_lt hq]
          simp [Array.getD_eq_getD_getElem?, show q < zv.cells.size from by simpa using (hzs ▸ hq : q < zv.cells.toList.length)]
        · rw [List.getElem?_append_right (by omega), hzs, ih]
          have e1 : (q - sz < n * sz) ↔ (q < (n + 1) * sz) := by rw [Nat.add_mul]; omega
          have e2 : (q - sz) % sz = q % sz := (Nat.mod_eq_sub_mod (by omega)).symm
          simp only [e1, e2]
    rw [key]
    by_cases hq : q < n * sz
    · have hlt : q % sz < zv.cells.size := by rw [hS.zs]; exact Nat.mod_lt _ hS.pos
      simp only [hq, hS.zs, if_true, Array.getElem?_ofFn, Array.getD_eq_getD_getElem?]
      simp [hq, hlt]
    · simp [hq]
  rw [hmade]
  obtain ⟨f1, f2, f3⟩ := bD (V := V) (H := H) (nx := nx) (g := gn) (ex := 0) (o := .cells ((List.replicate n zv.cells.toList).flatten ++ []).toArray e (0, 0)) (xo := .row n (List.replicate n dz) e sz) hf ⟨(List.replicate n zv.cells.toList).flatten, [], by simp, by
      have key : ∀ n : Nat, rdL H (List.replicate n dz).flatten (List.replicate n zv.cells.toList).flatten := by
        intro n
        induction n with
        | zero => exact trivial
        | succ n ih => rw [List.replicate_succ, List.replicate_succ, List.flatten_cons, List.flatten_cons]; exact rdL.append (hzc H) ih
      exact key n, fun r hr => by rw [(List.mem_replicate.1 hr).2, hdl], rfl, by simp, by simpa [maxLen] using hm, hS.pos⟩
  exact TL.flat (own' := [(gn, .cells ((List.replicate n zv.cells.toList).flatten ++ []).toArray e (0, 0))] :: own) (List.Perm.refl _) (hh _ _ _ _ H _ ⟨rfl, rfl⟩ (by
    simp only [XV.rel, XA.rel, XC.rel]
    exact ⟨some gn, 0, Vn.new_at .., by simp⟩) f1 f2 f3 (Le.refl _))
theorem LS.subw {tx t' : TypeId} {y z : Operand} {ki : IntKind} {m n : Int} (hy : xev Er y = some (xv (.int ki m))) (hz : xev Er z = some (xv (.int ki n))) :
    LS P pk ops { dst := d, op := .binOp .sub tx y z t', type := ty, pos := pos, after := af, guard := none } Er [] nx nx (fun x fp' => x = xv (.int ki (ki.wrap (m - n))) ∧ fp' = []) := by
  intro w0 N Q rest env own H V sg hl hV htp hf hd _ hh
  obtain ⟨v, h1, h2⟩ := hl.lks _ _ hy
  have := aO h2; subst this
  obtain ⟨w, h3, h4⟩ := hl.lks _ _ hz
  have := aO h4; subst this
  exact TL.subW h1 h3 hd (hh _ _ _ V H _ ⟨rfl, rfl⟩ (by simp only [XV.rel, XA.rel, XC.rel, rd]; exact ⟨trivial, rfl⟩) hV htp (VX.refl _ _ _) (Le.refl _))
end
section
variable {P : Program} {x : Cx P} {T : Tb P} {k : List Fr} {E Er : XE} {hp hp' : XH} {nx i : Nat} {ops : List Oper} {dm : Option (List Rc)} {l : List (Nat × Oper)} {d : Tmp} {dd : Option Tmp} {ty : TypeId} {pos : String} {af : Array Edge} {g : Option (Nat × Bool)}
variable {t : TypeId} {o iv y z : Operand} {ki : IntKind} {jv : Int} {e sz by_ gp t0 n c e' m : Nat} {rows : List (List D)} {ti : TI} {r ds : List D}
theorem Iq (j : Nat) (ho : xev Er o = some (.a (.c (.l gp t0 sz 0 n c)))) (hEr : vis dm ops { dst := some d, op := .indexAddr t o iv, type := ty, pos := pos, after := af, guard := g } E = Er) (hi : xev Er iv = some (xv (.int ki jv))) (hg : an hp gp = some ⟨gp, t0, .row m rows e' sz⟩) (ht : T.bt.get t = some (.sl e sz by_)) (hb : ak ops Er g = some true ∧ okD x.N (some d) = true) (hj : jv = (j : Int)) (hlt : j < n) (hm : n = m)
    (hk : (MS.r ops (push dm ⟨i, [gp], false, false⟩) l k ⟨(d, .a (.c (.q gp t0 sz j 0))) :: E, hp, nx⟩).ok x) (hdk : DkM dm ops ⟨i, [gp], false, false⟩ := by first | exact trivial | (refine DK.mk ?_; decide +kernel)) : (MS.r ops dm ((i, { dst := some d, op := .indexAddr t o iv, type := ty, pos := pos, after := af, guard := g }) :: l) k ⟨E, hp, nx⟩).ok x :=
  MS.rd1 hg hEr hb (LS.iq (T := T) j ho hi ht hj hlt hm) hdk hk
theorem Lr {j q : Nat} {u : XV} (hr : rows[j]? = some r) (hEr : vis dm ops { dst := some d, op := .load t y, type := ty, pos := pos, after := af, guard := g } E = Er) (hy : xev Er y = some (.a (.c (.q gp t0 sz j q)))) (hg : an hp gp = some ⟨gp, t0, .row m rows e sz⟩) (ht : T.bt.get t = some ti) (hb : ak ops Er g = some true ∧ okD x.N (some d) = true) (hn : (ti.agg || Nat.beq ti.n 1) = true) (hu : iN (r.drop q) ti.agg ti.n = some u)
    (hk : (MS.r ops (push dm ⟨i, [gp], false, false⟩) l k ⟨(d, u) :: E, hp, nx⟩).ok x) (hdk : DkM dm ops ⟨i, [gp], false, false⟩ := by first | exact trivial | (refine DK.mk ?_; decide +kernel)) : (MS.r ops dm ((i, { dst := some d, op := .load t y, type := ty, pos := pos, after := af, guard := g }) :: l) k ⟨E, hp, nx⟩).ok x :=
  MS.rd1 hg hEr hb (LS.lr (T := T) hr hy ht hn hu) hdk hk
theorem Sr {j q : Nat} {u : XA} (hr : rows[j]? = some r) (hEr : vis dm ops { dst := dd, op := .store t y z, type := ty, pos := pos, after := af, guard := g } E = Er) (hy : xev Er y = some (.a (.c (.q gp t0 sz j q)))) (hz : xev Er z = some (.a u)) (hds : eu u.cells = some ds) (hg : an hp gp = some ⟨gp, t0, .row m rows e sz⟩) (hset' : bc hp gp t0 (.row m (il rows j q ds) e sz) = some hp') (ht : T.bt.get t = some ti) (hb : ak ops Er g = some true ∧ okD x.N dd = true) (hn : ds.length = ti.n) (hq : Nat.ble (q + ds.length) sz = true)
    (hk : (MS.r ops (push dm ⟨i, [gp], true, false⟩) l k ⟨cj dd .u E, hp', nx⟩).ok x) (hdk : DkM dm ops ⟨i, [gp], true, false⟩ := by first | exact trivial | (refine DK.mk ?_; decide +kernel)) : (MS.r ops dm ((i, { dst := dd, op := .store t y z, type := ty, pos := pos, after := af, guard := g }) :: l) k ⟨E, hp, nx⟩).ok x :=
  MS.wr1 hg hset' hEr hb (LS.sr (T := T) hr hy hz hds ht hn hq) hdk hk
theorem Po (j : Nat) (ho : xev Er o = some (.a (.c (.l gp t0 sz 0 n c)))) (hEr : vis dm ops { dst := some d, op := .slice t o none (some iv) none, type := ty, pos := pos, after := af, guard := g } E = Er) (hi : xev Er iv = some (xv (.int ki jv))) (hg : an hp gp = some ⟨gp, t0, .row m rows e' sz⟩) (hset' : bc hp gp (t0 + 1) (.row j (rows.take j) e' sz) = some hp') (ht : T.bt.get t = some (.sl e sz by_)) (hb : ak ops Er g = some true ∧ okD x.N (some d) = true) (hj : jv = (j : Int)) (hlt : j ≤ n) (hm : n = m) (hc : c = m)
    (hk : (MS.r ops (push dm ⟨i, [gp], true, false⟩) l k ⟨(d, .a (.c (.l gp (t0 + 1) sz 0 j j))) :: E, hp', nx⟩).ok x) (hdk : DkM dm ops ⟨i, [gp], true, false⟩ := by first | exact trivial | (refine DK.mk ?_; decide +kernel)) : (MS.r ops dm ((i, { dst := some d, op := .slice t o none (some iv) none, type := ty, pos := pos, after := af, guard := g }) :: l) k ⟨E, hp, nx⟩).ok x :=
  MS.wr1 hg hset' hEr hb (LS.pop (T := T) j ho hi ht hj hlt hm hc) hdk hk
theorem Sd {lo hi : Option Operand} {li ri : Option Int} (a b : Nat) (h1 : im Er lo li) (h2 : im Er hi ri) (hEr : vis dm ops { dst := some d, op := .slice t o lo hi none, type := ty, pos := pos, after := af, guard := g } E = Er) (ho : xev Er o = some (.a (.c (.d (.s rows))))) (ht : T.bt.get t = some (.sl e sz by_)) (hb : ak ops Er g = some true ∧ okD x.N (some d) = true) (ha : li.getD 0 = (a : Int)) (hbn : ri.getD (rows.length : Int) = (b : Int)) (hab : a ≤ b) (hbl : b ≤ rows.length) (hsz : ∀ r ∈ rows, r.length = sz)
    (hk : (MS.r ops (push dm ⟨i, [], false, false⟩) l k ⟨(d, .a (.c (.d (.s ((rows.drop a).take (b - a)))))) :: E, hp, nx⟩).ok x) (hdk : DkM dm ops ⟨i, [], false, false⟩ := by first | exact trivial | (refine DK.mk ?_; decide +kernel)) : (MS.r ops dm ((i, { dst := some d, op := .slice t o lo hi none, type := ty, pos := pos, after := af, guard := g }) :: l) k ⟨E, hp, nx⟩).ok x :=
  MS.val hEr hb (LS.sd (T := T) a b ho h1 h2 ht ha hbn hab hbl hsz) hdk hk
theorem Sw {tx t' : TypeId} {m n : Int} (hy : xev Er y = some (xv (.int ki m))) (hz : xev Er z = some (xv (.int ki n))) (hEr : vis dm ops { dst := some d, op := .binOp .sub tx y z t', type := ty, pos := pos, after := af, guard := g } E = Er) (hb : ak ops Er g = some true ∧ okD x.N (some d) = true)
    (hk : (MS.r ops (push dm ⟨i, [], false, false⟩) l k ⟨(d, xv (.int ki (ki.wrap (m - n)))) :: E, hp, nx⟩).ok x) (hdk : DkM dm ops ⟨i, [], false, false⟩ := by first | exact trivial | (refine DK.mk ?_; decide +kernel)) : (MS.r ops dm ((i, { dst := some d, op := .binOp .sub tx y z t', type := ty, pos := pos, after := af, guard := g }) :: l) k ⟨E, hp, nx⟩).ok x :=
  MS.val hEr hb (LS.subw hy hz) hdk hk
theorem Mz {jl : Int} {kl kc : IntKind} (n : Nat) (dz : List D) (hy : xev Er y = some (xv (.int kl jl))) (hz : xev Er z = some (xv (.int kc jl))) (hEr : vis dm ops { dst := some d, op := .makeSlice t y z, type := ty, pos := pos, after := af, guard := g } E = Er) (ht : T.bt.get t = some (.sl e sz by_)) (hb : ak ops Er g = some true ∧ okD x.N (some d) = true) (hj : jl = (n : Int)) (hbn : by_ * n ≤ 281474976710656) (hm : n ≤ 9223372036854775807) (hzero : ∀ z : Value, Sl P t e sz by_ z → ∀ H, rdL H dz z.cells.toList)
    (hk : (MS.r ops (push dm ⟨i, [nx], true, false⟩) l k ⟨(d, .a (.c (.l nx 0 sz 0 n n))) :: E, ⟨nx, 0, .row n (List.replicate n dz) e sz⟩ :: hp, nx + 1⟩).ok x) (hdk : DkM dm ops ⟨i, [nx], true, false⟩ := by first | exact trivial | (refine DK.mk ?_; decide +kernel)) : (MS.r ops dm ((i, { dst := some d, op := .makeSlice t y z, type := ty, pos := pos, after := af, guard := g }) :: l) k ⟨E, hp, nx⟩).ok x := by
  subst hEr
  have e0 : aa ([] : XH) ++ List.range' nx (nx + 1 - nx) = [nx] := by simp [aa]
  refine MS.op (fp := []) (rest := hp) true false hb.2 (.refl _) (Nat.le_succ _) (LS.yes (o := { dst := some d, op := .makeSlice t y z, type := ty, pos := pos, after := af, guard := g }) hb.1 (LS.mk (T := T) n dz hy hz ht hj hbn hm hzero)) (by rw [e0]; exact hdk) (fun _ => ⟨_, _, ⟨rfl, rfl⟩, fun _ _ h => h⟩) (fun h => by cases h) ?_
  rintro q fp' ⟨rfl, rfl⟩
  refine ⟨fun b' hb' => .inr ?_, by simp [aa], fun h => (by cases h), _, .refl _, ?_⟩
  · obtain rfl := List.mem_singleton.1 hb'
    exact ⟨Nat.le_refl _, Nat.lt_succ_self _⟩
  · rw [e0]; exact hk
end
theorem HR.cset {V : Vn} {H : Hp} {Pw : Value → Prop} {g o t e : Nat} {c : List XC} : ∀ {hp : XH} {sg : Seg}, an hp g = some ⟨g, t, .cells c e⟩ → at_ c o = some (.w Pw) → HR V H hp sg → ∃ v, v.oneCell' = true ∧ Pw v ∧ ∀ c' hp', fG c o [.d (.c v)] = some c' → bc hp g t (.cells c' e) = some hp' → HR V H hp' sg ∧ hp'.map (fun b => (b.g, b.t)) = hp.map fun b => (b.g, b.t)
  | [], _, h, _, _ => by cases h
  | ⟨g', t', o'⟩ :: r, sg, h, hc, ⟨s1, s2, h0, h1, h2⟩ => by
    simp only [an] at h
    cases hb : Nat.beq g' g with
    | true =>
      rw [hb] at h
      simp only [cond_true, Option.some.injEq, XB.mk.injEq] at h
      obtain ⟨rfl, rfl, rfl⟩ := h
      rcases h1 with ⟨b, ob, ex, k1, k2, us, k3, k4⟩ | ⟨_, _, _, _, k3, _⟩
      · obtain ⟨v, q1, q2⟩ := k3.get o _ (f9 hc)
        simp only [XC.rel] at q2
        refine ⟨v, q2.1, q2.2, fun c' hp' e1 e2 => ?_⟩
        simp only [bc, hb, cond_true, Option.some.injEq] at e2
        subst e2
        refine ⟨⟨s1, s2, h0, .inl ⟨b, ob, ex, k1, k2, us, ?_, k4⟩, h2⟩, rfl⟩
        have := (dk (us := [v]) e1 k3 ⟨by simp only [XC.rel, rd]; exact ⟨trivial, q2.1⟩, trivial⟩).1
        simp only [bS] at this
        have e9 : (us.toArray.setIfInBounds o v).toList = us := by
          rw [List.setIfInBounds_toArray]
          show us.set o v = us
          have hlt : o < us.length := (List.getElem?_eq_some_iff.1 q1).1
          apply List.ext_getElem?
          intro i
          rw [List.getElem?_set]
          split
          · rename_i e; subst e; first | exact q1.symm | rw [if_pos hlt, q1]
          · rfl
        rw [e9] at this
        exact this
      · cases k3
    | false =>
      rw [hb] at h
      simp only [cond_false] at h
      obtain ⟨v, q1, q2, q3⟩ := HR.cset h hc h2
      refine ⟨v, q1, q2, fun c' hp' e1 e2 => ?_⟩
      simp only [bc, hb, cond_false] at e2
      split at e2
      · rename_i l hl
        cases e2
        obtain ⟨k1, k2⟩ := q3 c' l e1 hl
        exact ⟨⟨s1, s2, h0, h1, k1⟩, by simp only [List.map_cons, k2]⟩
      · cases e2
theorem SR.same {B : Bs} {E : XE} {hp hp' : XH} {nx : Nat} {V : Vn} {H : Hp} {sg : Seg} {env : Env} (hs : SR B ⟨E, hp, nx⟩ V H sg env) (hH : HR V H hp' sg) (hn : hp'.map (fun b => (b.g, b.t)) = hp.map fun b => (b.g, b.t)) : SR B ⟨E, hp', nx⟩ V H sg env := by
  have hmem : ∀ b ∈ hp', ∃ c ∈ hp, c.g = b.g ∧ c.t = b.t := fun b hb => by
    have : (b.g, b.t) ∈ hp.map fun b => (b.g, b.t) := hn ▸ List.mem_map.2 ⟨b, hb, rfl⟩
    obtain ⟨c, hc, e9⟩ := List.mem_map.1 this
    simp only [Prod.mk.injEq] at e9
    exact ⟨c, hc, e9.1, e9.2⟩
  have hnn : aa hp' = aa hp := by
    have := congrArg (List.map Prod.fst) hn
    simpa [aa, List.map_map, Function.comp_def] using this
  refine ⟨hs.lk, hH, fun b hb t ht => ?_, by rw [show aa hp' = aa hp from hnn]; exact hs.nd, hs.fresh, hs.le, hs.vle, hs.keep, fun b hb => ?_, hs.nxle⟩
  · obtain ⟨c, hc, e1, e2⟩ := hmem b hb
    rw [← e1]; exact hs.top c hc t (by omega)
  · obtain ⟨c, hc, e1, _⟩ := hmem b hb
    rw [← e1]; exact hs.sub c hc
section
variable {P : Program} {x : Cx P} {T : Tb P} {k : List Fr} {E : XE} {hp : XH} {nx : Nat} {Pw : Value → Prop} {c : List XC} {e t : Nat}
theorem Op {q : Code} (g o : Nat) (hg : an hp g = some ⟨g, t, .cells c e⟩) (hc : at_ c o = some (.w Pw)) (hk : ∀ v, Pw v → ∃ c' hp', fG c o [.d (.c v)] = some c' ∧ bc hp g t (.cells c' e) = some hp' ∧ (MS.c q k ⟨E, hp', nx⟩).ok x) : (MS.c q k ⟨E, hp, nx⟩).ok x := fun V H sg env hs => by
  obtain ⟨v, h1, h2, h3⟩ := HR.cset hg hc hs.hr
  obtain ⟨c', hp', e1, e2, e3⟩ := hk v h2
  obtain ⟨k1, k2⟩ := h3 c' hp' e1 e2
  exact e3 V H sg env (hs.same k1 k2)
theorem HR.wk {V : Vn} {H : Hp} {g t e o : Nat} {c c' : List XC} {v : Value} {hp' : XH} (hv : Pw v) (hc : at_ c o = some (.d (.c v))) (hput : fG c o [.w Pw] = some c') : ∀ {hp hp' : XH} {sg : Seg}, an hp g = some ⟨g, t, .cells c e⟩ → bc hp g t (.cells c' e) = some hp' → HR V H hp sg → HR V H hp' sg ∧ hp'.map (fun b => (b.g, b.t)) = hp.map fun b => (b.g, b.t)
  | [], _, _, h, _, _ => by cases h
  | ⟨g', t', o'⟩ :: r, hp', sg, h, hst, ⟨s1, s2, h0, h1, h2⟩ => by
    simp only [an] at h
    simp only [bc] at hst
    cases hb : Nat.beq g' g with
    | true =>
      rw [hb] at h hst
      simp only [cond_true, Option.some.injEq, XB.mk.injEq] at h hst
      obtain ⟨rfl, rfl, rfl⟩ := h
      subst hst
      rcases h1 with ⟨b, ob, ex, k1, k2, us, k3, k4⟩ | ⟨_, _, _, _, k3, _⟩
      · obtain ⟨u, q1, q2⟩ := k3.get o _ (f9 hc)
        simp only [XC.rel, rd] at q2
        obtain ⟨rfl, q3⟩ := q2
        refine ⟨⟨s1, s2, h0, .inl ⟨b, ob, ex, k1, k2, us, ?_, k4⟩, h2⟩, rfl⟩
        have := (dk (us := [u]) hput k3 ⟨by simp only [XC.rel]; exact ⟨q3, hv⟩, trivial⟩).1
        simp only [bS] at this
        have e9 : (us.toArray.setIfInBounds o u).toList = us := by
          rw [List.setIfInBounds_toArray]
          show us.set o u = us
          have hlt : o < us.length := (List.getElem?_eq_some_iff.1 q1).1
          apply List.ext_getElem?
          intro i
          rw [List.getElem?_set]
          split
          · rename_i e; subst e; first | exact q1.symm | rw [if_pos hlt, q1]
          · rfl
        rw [e9] at this
        exact this
      · cases k3
    | false =>
      rw [hb] at h hst
      simp only [cond_false] at h hst
      split at hst
      · rename_i l hl
        cases hst
        obtain ⟨k1, k2⟩ := HR.wk (hp' := hp') hv hc hput h hl h2
        exact ⟨⟨s1, s2, h0, h1, k1⟩, by simp only [List.map_cons, k2]⟩
      · cases hst
theorem SRto.wk {c' : List XC} {v : Value} {hp' : XH} (g o : Nat) (Pw : Value → Prop) (hg : an hp g = some ⟨g, t, .cells c e⟩) (hc : at_ c o = some (.d (.c v))) (hput : fG c o [.w Pw] = some c') (hset' : bc hp g t (.cells c' e) = some hp') (hv : Pw v) : SRto ⟨E, hp, nx⟩ ⟨E, hp', nx⟩ := fun B V H sg env hs => by
  obtain ⟨k1, k2⟩ := HR.wk (hp' := hp') hv hc hput hg hset' hs.hr
  exact ⟨V, hs.same k1 k2⟩
end
abbrev XKp (P : Program) (pk : Pk) (f : FuncId) (args : List XV) (B : XH) (m : Nat) (Ψ : XV → Prop) : Prop := XM P pk f args B m m (fun r hp' => Ψ r ∧ hp' = B)
section
variable {P : Program} {f : FuncId} {fn : Func} {args : List XV} {N m : Nat} {B : XH} {Ψ : XV → Prop}
variable {x : Cx P} {k : List Fr} {E Er : XE} {hp : XH} {nx i : Nat} {ops : List Oper} {dm : Option (List Rc)} {l : List (Nat × Oper)} {d : Option Tmp} {ty : TypeId} {pos : String} {af : Array Edge} {g : Option (Nat × Bool)}
theorem Ck {opd : Operand} {xs : List Operand} {tys : Array TypeId} {fv : XV} {us : List XV} {ps rest : XH} (gs : List Nat) (h : XKp P x.B.pk f args B m Ψ)
    (hEr : vis dm ops { dst := d, op := .call { callee := .value opd, args := xs.toArray, argTypes := tys }, type := ty, pos := pos, after := af, guard := g } E = Er) (hfv : xev Er opd = some fv) (hfn : fnv fv = some (f, [], [])) (hus : d3 (xev Er) xs = some us) (hpk : dC gs hp = some (ps, rest))
    (hargs : cos (XVs.ren (muc gs m nx (ps.map (·.t))) args) us = XVs.ren (muc gs m nx (ps.map (·.t))) args) (hfp : ps = aZ (muc gs m nx (ps.map (·.t))) B) (hb : (ak ops Er g = some true ∧ aa ps = gs) ∧ (okD x.N d && (bT gs && gs.all (fun g => Nat.blt g nx))) = true)
    (hk : ∀ r, Ψ r → (MS.r ops (push dm ⟨i, gs, false, true⟩) l k ⟨cj d (r.ren (muc gs m nx (ps.map (·.t)))) E, ps ++ rest, nx⟩).ok x)
    (hdk : DkM dm ops ⟨i, gs, false, true⟩ := by first | exact trivial | (refine DK.mk ?_; decide +kernel)) (hrl : RlM dm ops i l := by first | exact trivial | (refine RL.mk ?_; decide +kernel)) :
    (MS.r ops dm ((i, { dst := d, op := .call { callee := .value opd, args := xs.toArray, argTypes := tys }, type := ty, pos := pos, after := af, guard := g }) :: l) k ⟨E, hp, nx⟩).ok x := by
  obtain ⟨hc, hm, hcl, h3⟩ := h
  have e1 : List.range' nx (nx + (m - m) - nx) = [] := by simp
  have e0 : aa ps ++ List.range' nx (nx + (m - m) - nx) = gs := by rw [hb.1.2, e1, List.append_nil]
  refine MS.call gs false true h3 hEr hfv hfn hcl hus hpk (SubV.stat hargs) hfp hc ⟨hb.1, ?_⟩ (by rw [e0]; exact hdk) (fun _ r hp' h => ⟨by rw [h.2]; exact hfp.symm, by simp⟩) (fun h => by cases h) (fun _ => hrl) ?_
  · have h2 := hb.2
    simp only [Bool.and_eq_true] at h2 ⊢
    exact ⟨h2.1, h2.2.1, h2.2.2, hm⟩
  · rintro r hp' ⟨hΦ, rfl⟩
    rw [e0, ← hfp, Nat.sub_self, Nat.add_zero]
    exact hk r hΦ
abbrev XS' (P : Program) (pk : Pk) (f : FuncId) (args : List XV) (B : XH) (m : Nat) {α : Type} (I : α → Prop) (R : α → XV) (F : α → XH) : Prop := XM P pk f args B m m (fun r hp' => ∃ a, I a ∧ r = R a ∧ hp' = F a)
theorem Cx' {opd : Operand} {xs : List Operand} {tys : Array TypeId} {fv : XV} {us : List XV} {ps rest : XH} {α : Type} {I : α → Prop} {R : α → XV} {F : α → XH} (gs : List Nat) (X : α → XH) (h : XS' P x.B.pk f args B m I R F)
    (hEr : vis dm ops { dst := d, op := .call { callee := .value opd, args := xs.toArray, argTypes := tys }, type := ty, pos := pos, after := af, guard := g } E = Er) (hfv : xev Er opd = some fv) (hfn : fnv fv = some (f, [], [])) (hus : d3 (xev Er) xs = some us) (hpk : dC gs hp = some (ps, rest))
    (hargs : cos (XVs.ren (muc gs m nx (ps.map (·.t))) args) us = XVs.ren (muc gs m nx (ps.map (·.t))) args) (hfp : ps = aZ (muc gs m nx (ps.map (·.t))) B) (hb : (ak ops Er g = some true ∧ aa ps = gs) ∧ (okD x.N d && (bT gs && gs.all (fun g => Nat.blt g nx))) = true) (hX : ∀ a, aZ (muc gs m nx (ps.map (·.t))) (F a) = X a) (hR : ∀ a, pure (R a) = true)
    (hk : ∀ a, I a → (MS.r ops (push dm ⟨i, gs, true, true⟩) l k ⟨cj d (R a) E, X a ++ rest, nx⟩).ok x)
    (hdk : DkM dm ops ⟨i, gs, true, true⟩ := by first | exact trivial | (refine DK.mk ?_; decide +kernel)) (hrl : RlM dm ops i l := by first | exact trivial | (refine RL.mk ?_; decide +kernel)) :
    (MS.r ops dm ((i, { dst := d, op := .call { callee := .value opd, args := xs.toArray, argTypes := tys }, type := ty, pos := pos, after := af, guard := g }) :: l) k ⟨E, hp, nx⟩).ok x := by
  have e1 : gs ++ List.range' nx (m - m) = gs := by simp
  refine Cm gs h hEr hfv hfn hus hpk hargs hfp hb ?_ (by rw [e1]; exact hdk) hrl
  rintro r hp' ⟨a, hI, rfl, rfl⟩
  rw [e1, hX a, XV.ren_pure (hR a), Nat.sub_self, Nat.add_zero]
  exact hk a hI
theorem Cy {opd : Operand} {xs : List Operand} {tys : Array TypeId} {fv : XV} {us : List XV} {ps rest : XH} {α : Type} {I : α → Prop} {R : α → XV} {F : α → XH} {m' nx' : Nat} {d : Tmp} (gs : List Nat) (R' : α → XV) (X : α → XH) (h : XM P x.B.pk f args B m m' (fun r hp' => ∃ a, I a ∧ r = R a ∧ hp' = F a))
    (hEr : vis dm ops { dst := some d, op := .call { callee := .value opd, args := xs.toArray, argTypes := tys }, type := ty, pos := pos, after := af, guard := g } E = Er) (hfv : xev Er opd = some fv) (hfn : fnv fv = some (f, [], [])) (hus : d3 (xev Er) xs = some us) (hpk : dC gs hp = some (ps, rest))
    (hargs : cos (XVs.ren (muc gs m nx (ps.map (·.t))) args) us = XVs.ren (muc gs m nx (ps.map (·.t))) args) (hfp : ps = aZ (muc gs m nx (ps.map (·.t))) B) (hb : (ak ops Er g = some true ∧ aa ps = gs) ∧ (okD x.N (some d) && (bT gs && gs.all (fun g => Nat.blt g nx))) = true) (hX : ∀ a, aZ (muc gs m nx (ps.map (·.t))) (F a) = X a) (hR : ∀ a, (R a).ren (muc gs m nx (ps.map (·.t))) = R' a) (hn : nx + (m' - m) = nx')
    (hk : ∀ a, I a → (MS.r ops (push dm ⟨i, gs ++ List.range' nx (m' - m), true, true⟩) l k ⟨(d, R' a) :: E, X a ++ rest, nx'⟩).ok x)
    (hdk : DkM dm ops ⟨i, gs ++ List.range' nx (m' - m), true, true⟩ := by first | exact trivial | (refine DK.mk ?_; decide +kernel)) (hrl : RlM dm ops i l := by first | exact trivial | (refine RL.mk ?_; decide +kernel)) :
    (MS.r ops dm ((i, { dst := some d, op := .call { callee := .value opd, args := xs.toArray, argTypes := tys }, type := ty, pos := pos, after := af, guard := g }) :: l) k ⟨E, hp, nx⟩).ok x := by
  refine Cm gs h hEr hfv hfn hus hpk hargs hfp hb ?_ hdk hrl
  rintro r hp' ⟨a, hI, rfl, rfl⟩
  rw [hX a, hn]
  show (MS.r _ _ _ _ ⟨(d, (R a).ren _) :: E, _, _⟩).ok x
  rw [hR a]
  exact hk a hI
theorem Nqn {α : Type} {S : α → XS} {I : α → Prop} {μ : α → Nat} {n : Nat} {s : XS} (nm : Nat → Nat) (a : α) (hI : I a) (hlt : μ a < n) (hm : Mt x.B.nx0 x.B.F s (S a) nm := by exact ⟨⟨_, _, rfl, rfl⟩, rfl, rfl⟩) : (MS.e .normal (.l (fun n s => ∃ a, I a ∧ n = μ a ∧ s = S a) n :: k) s).ok x := ME.next (μ a) hm hlt ⟨a, hI, rfl, rfl⟩
end
open Go.Proofs
def tbt : BT := (.n 153 (.f) (.n 77 (.f) (.n 37 (.sl 73 4 72) (.n 19 (.st 1 [(0, 1)] [.p]) (.n 10 (.s) (.n 5 (.i .u8) (.n 3 (.i .i64) (.n 2 (.i .i64) (.n 1 (.f) .e .e) .e) (.n 4 (.b) .e .e)) (.n 8 (.st 4 [(0, 1), (1, 1), (2, 1), (3, 1)] [.i .i64, .i .i64, .b, .i .u8]) (.n 7 (.st 4 [(0, 1), (1, 1), (2, 1), (3, 1)] [.i .i64, .i .i64, .b, .i .u8]) (.n 6 (.i .u8) .e .e) .e) (.n 9 (.s) .e .e))) (.n 15 (.p) (.n 13 (.st 2 [(0, 1), (1, 1)] [.s, .i .u64]) (.n 12 (.i .u64) (.n 11 (.s) .e .e) .e) (.n 14 (.st 2 [(0, 1), (1, 1)] [.s, .i .u64]) .e .e)) (.n 17 (.p) (.n 16 (.p) .e .e) (.n 18 (.st 1 [(0, 1)] [.p]) .e .e)))) (.n 28 (.st 3 [(0, 1), (1, 1), (2, 1)] [.n, .n, .n]) (.n 24 (.f) (.n 22 (.sl 3 1 8) (.n 21 (.i .i32) (.n 20 (.e) .e .e) .e) (.n 23 (.ar 3 3 1 [.i .i64, .i .i64, .i .i64]) .e .e)) (.n 26 (.sl 80 8 104) (.n 25 (.sl 85 3 48) .e .e) (.n 27 (.sl 71 10 144) .e .e))) (.n 33 (.sl 35 2 40) (.n 31 (.f) (.n 30 (.f) (.n 29 (.st 3 [(0, 1), (1, 1), (2, 1)] [.n, .n, .n]) .e .e) .e) (.n 32 (.f) .e .e)) (.n 35 (.st 2 [(0, 1), (1, 1)] [.s, .n]) (.n 34 (.st 2 [(0, 1), (1, 1)] [.s, .n]) .e .e) (.n 36 (.f) .e .e))))) (.n 59 (.st 4 [(0, 1), (1, 1), (2, 1), (3, 1)] [.i .i64, .s, .i .i64, .n]) (.n 49 (.f) (.n 45 (.f) (.n 41 (.f) (.n 39 (.i .i64) (.n 38 (.f) .e .e) .e) (.n 43 (.f) .e .e)) (.n 47 (.f) (.n 46 (.f) .e .e) (.n 48 (.f) .e .e))) (.n 55 (.f) (.n 53 (.sl 5 1 1) (.n 52 (.f) (.n 51 (.f) .e .e) .e) (.n 54 (.ar 12 9 1 [.s, .s, .s, .s, .s, .s, .s, .s, .s, .s, .s, .s]) .e .e)) (.n 57 (.f) (.n 56 (.f) .e .e) (.n 58 (.sl 60 4 56) .e .e)))) (.n 68 (.st 2 [(0, 1), (1, 1)] [.i .i64, .i .u16]) (.n 64 (.sl 63 1 24) (.n 62 (.sl 87 4 56) (.n 61 (.i .u16) (.n 60 (.st 4 [(0, 1), (1, 1), (2, 1), (3, 1)] [.i .i64, .s, .i .i64, .n]) .e .e) .e) (.n 63 (.sl 66 11 184) .e .e)) (.n 66 (.st 11 [(0, 1), (1, 1), (2, 4), (6, 1), (7, 1), (8, 1), (9, 1), (10, 1)] [.i .i64, .s, .i .i64, .s, .i .i64, .n, .i .u16, .n, .n, .n, .n]) (.n 65 (.st 11 [(0, 1), (1, 1), (2, 4), (6, 1), (7, 1), (8, 1), (9, 1), (10, 1)] [.i .i64, .s, .i .i64, .s, .i .i64, .n, .i .u16, .n, .n, .n, .n]) .e .e) (.n 67 (.sl 83 5 72) .e .e))) (.n 73 (.st 4 [(0, 1), (1, 1), (2, 2)] [.i .i64, .n, .s, .n]) (.n 71 (.st 10 [(0, 1), (1, 1), (2, 4), (6, 1), (7, 1), (8, 2)] [.s, .n, .i .i64, .s, .i .i64, .n, .n, .b, .i .i64, .i .u16]) (.n 70 (.st 10 [(0, 1), (1, 1), (2, 4), (6, 1), (7, 1), (8, 2)] [.s, .n, .i .i64, .s, .i .i64, .n, .n, .b, .i .i64, .i .u16]) (.n 69 (.st 2 [(0, 1), (1, 1)] [.i .i64, .i .u16]) .e .e) .e) (.n 72 (.st 4 [(0, 1), (1, 1), (2, 2)] [.i .i64, .n, .s, .n]) .e .e)) (.n 75 (.f) (.n 74 (.f) .e .e) (.n 76 (.p) .e .e)))))) (.n 116 (.f) (.n 96 (.f) (.n 87 (.st 4 [(0, 1), (1, 1), (2, 1), (3, 1)] [.i .i64, .s, .i .u16, .n]) (.n 82 (.st 5 [(0, 1), (1, 4)] [.s, .i .i64, .s, .i .i64, .n]) (.n 80 (.st 8 [(0, 1), (1, 4), (5, 1), (6, 1), (7, 1)] [.s, .i .i64, .s, .i .i64, .n, .i .i64, .i .u16, .s]) (.n 79 (.st 8 [(0, 1), (1, 4), (5, 1), (6, 1), (7, 1)] [.s, .i .i64, .s, .i .i64, .n, .i .i64, .i .u16, .s]) (.n 78 (.p) .e .e) .e) (.n 81 (.sl 9 1 16) .e .e)) (.n 85 (.st 3 [(0, 1), (1, 1), (2, 1)] [.s, .b, .n]) (.n 84 (.st 3 [(0, 1), (1, 1), (2, 1)] [.s, .b, .n]) (.n 83 (.st 5 [(0, 1), (1, 4)] [.s, .i .i64, .s, .i .i64, .n]) .e .e) .e) (.n 86 (.st 4 [(0, 1), (1, 1), (2, 1), (3, 1)] [.i .i64, .s, .i .u16, .n]) .e .e))) (.n 92 (.f) (.n 90 (.f) (.n 89 (.f) (.n 88 (.f) .e .e) .e) (.n 91 (.f) .e .e)) (.n 94 (.f) (.n 93 (.f) .e .e) (.n 95 (.f) .e .e)))) (.n 105 (.f) (.n 101 (.m 175 3) (.n 99 (.f) (.n 98 (.f) (.n 97 (.f) .e .e) .e) (.n 100 (.p) .e .e)) (.n 103 (.st 2 [(0, 1), (1, 1)] [.m, .m]) (.n 102 (.m 207 3) .e .e) (.n 104 (.st 2 [(0, 1), (1, 1)] [.m, .m]) .e .e))) (.n 111 (.p) (.n 108 (.f) (.n 107 (.f) (.n 106 (.p) .e .e) .e) (.n 110 (.f) .e .e)) (.n 113 (.st 0 [] []) (.n 112 (.st 0 [] []) .e .e) (.n 115 (.f) .e .e))))) (.n 135 (.f) (.n 125 (.f) (.n 121 (.f) (.n 119 (.f) (.n 118 (.f) (.n 117 (.f) .e .e) .e) (.n 120 (.f) .e .e)) (.n 123 (.f) (.n 122 (.f) .e .e) (.n 124 (.f) .e .e))) (.n 130 (.st 2 [(0, 1), (1, 1)] [.n, .i .i64]) (.n 128 (.f) (.n 127 (.f) (.n 126 (.f) .e .e) .e) (.n 129 (.p) .e .e)) (.n 132 (.f) (.n 131 (.st 2 [(0, 1), (1, 1)] [.n, .i .i64]) .e .e) (.n 133 (.f) .e .e)))) (.n 144 (.f) (.n 140 (.f) (.n 138 (.st 11 [(0, 1), (1, 1), (2, 1), (3, 1), (4, 1), (5, 1), (6, 1), (7, 1), (8, 1), (9, 1), (10, 1)] [.n, .i .i64, .i .i64, .i .i64, .i .i64, .n, .i .i64, .n, .i .i64, .i .i64, .n]) (.n 137 (.st 11 [(0, 1), (1, 1), (2, 1), (3, 1), (4, 1), (5, 1), (6, 1), (7, 1), (8, 1), (9, 1), (10, 1)] [.n, .i .i64, .i .i64, .i .i64, .i .i64, .n, .i .i64, .n, .i .i64, .i .i64, .n]) (.n 136 (.p) .e .e) .e) (.n 139 (.f) .e .e)) (.n 142 (.f) (.n 141 (.f) .e .e) (.n 143 (.f) .e .e))) (.n 149 (.f) (.n 147 (.f) (.n 146 (.f) (.n 145 (.f) .e .e) .e) (.n 148 (.f) .e .e)) (.n 151 (.f) (.n 150 (.f) .e .e) (.n 152 (.f) .e .e))))))) (.n 231 (.m 3 9) (.n 194 (.f) (.n 174 (.st 2 [(0, 1), (1, 1)] [.s, .s]) (.n 163 (.f) (.n 158 (.f) (.n 156 (.f) (.n 155 (.f) (.n 154 (.f) .e .e) .e) (.n 157 (.f) .e .e)) (.n 161 (.f) (.n 160 (.f) (.n 159 (.f) .e .e) .e) (.n 162 (.f) .e .e))) (.n 169 (.f) (.n 166 (.st 6 [(0, 1), (1, 1), (2, 1), (3, 1), (4, 2)] [.s, .i .i64, .i .i64, .n, .s, .n]) (.n 165 (.st 6 [(0, 1), (1, 1), (2, 1), (3, 1), (4, 2)] [.s, .i .i64, .i .i64, .n, .s, .n]) (.n 164 (.sl 106 1 8) .e .e) .e) (.n 167 (.f) .e .e)) (.n 171 (.f) (.n 170 (.sl 22 1 24) .e .e) (.n 172 (.f) .e .e)))) (.n 184 (.f) (.n 179 (.f) (.n 177 (.f) (.n 176 (.f) (.n 175 (.st 2 [(0, 1), (1, 1)] [.s, .s]) .e .e) .e) (.n 178 (.f) .e .e)) (.n 182 (.f) (.n 181 (.f) .e .e) (.n 183 (.f) .e .e))) (.n 189 (.f) (.n 187 (.f) (.n 186 (.f) (.n 185 (.f) .e .e) .e) (.n 188 (.f) .e .e)) (.n 192 (.f) (.n 190 (.f) .e .e) (.n 193 (.f) .e .e))))) (.n 213 (.f) (.n 203 (.i .u64) (.n 199 (.f) (.n 197 (.f) (.n 196 (.f) (.n 195 (.f) .e .e) .e) (.n 198 (.f) .e .e)) (.n 201 (.f) (.n 200 (.f) .e .e) (.n 202 (.f) .e .e))) (.n 208 (.f) (.n 206 (.st 2 [(0, 1), (1, 1)] [.i .i64, .i .i64]) (.n 205 (.f) (.n 204 (.f) .e .e) .e) (.n 207 (.st 2 [(0, 1), (1, 1)] [.i .i64, .i .i64]) .e .e)) (.n 211 (.f) (.n 209 (.f) .e .e) (.n 212 (.f) .e .e)))) (.n 222 (.f) (.n 218 (.f) (.n 216 (.f) (.n 215 (.f) (.n 214 (.f) .e .e) .e) (.n 217 (.ar 8 9 1 [.s, .s, .s, .s, .s, .s, .s, .s]) .e .e)) (.n 220 (.ar 6 3 1 [.i .i64, .i .i64, .i .i64, .i .i64, .i .i64, .i .i64]) (.n 219 (.f) .e .e) (.n 221 (.f) .e .e))) (.n 227 (.f) (.n 225 (.f) (.n 224 (.f) (.n 223 (.f) .e .e) .e) (.n 226 (.f) .e .e)) (.n 229 (.f) (.n 228 (.f) .e .e) (.n 230 (.f) .e .e)))))) (.n 272 (.f) (.n 252 (.sl 81 1 24) (.n 242 (.st 8 [(0, 1), (1, 1), (2, 1), (3, 1), (4, 1), (5, 1), (6, 1), (7, 1)] [.i .i64, .i .i64, .b, .b, .b, .b, .b, .b]) (.n 237 (.ar 15 9 1 [.s, .s, .s, .s, .s, .s, .s, .s, .s, .s, .s, .s, .s, .s, .s]) (.n 234 (.e) (.n 233 (.e) (.n 232 (.f) .e .e) .e) (.n 236 (.f) .e .e)) (.n 240 (.f) (.n 239 (.f) (.n 238 (.f) .e .e) .e) (.n 241 (.st 8 [(0, 1), (1, 1), (2, 1), (3, 1), (4, 1), (5, 1), (6, 1), (7, 1)] [.i .i64, .i .i64, .b, .b, .b, .b, .b, .b]) .e .e))) (.n 248 (.f) (.n 246 (.f) (.n 245 (.f) (.n 244 (.f) .e .e) .e) (.n 247 (.f) .e .e)) (.n 250 (.f) (.n 249 (.f) .e .e) (.n 251 (.ar 16 9 1 [.s, .s, .s, .s, .s, .s, .s, .s, .s, .s, .s, .s, .s, .s, .s, .s]) .e .e)))) (.n 261 (.ar 24 5 1 [.i .u8, .i .u8, .i .u8, .i .u8, .i .u8, .i .u8, .i .u8, .i .u8, .i .u8, .i .u8, .i .u8, .i .u8, .i .u8, .i .u8, .i .u8, .i .u8, .i .u8, .i .u8, .i .u8, .i .u8, .i .u8, .i .u8, .i .u8, .i .u8]) (.n 257 (.m 9 3) (.n 255 (.f) (.n 254 (.f) (.n 253 (.f) .e .e) .e) (.n 256 (.m 3 242) .e .e)) (.n 259 (.f) (.n 258 (.f) .e .e) (.n 260 (.f) .e .e))) (.n 267 (.i .i64) (.n 264 (.f) (.n 263 (.f) (.n 262 (.i .u64) .e .e) .e) (.n 266 (.f) .e .e)) (.n 270 (.p) (.n 269 (.f) .e .e) (.n 271 (.f) .e .e))))) (.n 292 (.p) (.n 281 (.f) (.n 277 (.f) (.n 275 (.f) (.n 274 (.f) (.n 273 (.f) .e .e) .e) (.n 276 (.f) .e .e)) (.n 279 (.i .u32) (.n 278 (.ar 20 262 1 [.i .u64, .i .u64, .i .u64, .i .u64, .i .u64, .i .u64, .i .u64, .i .u64, .i .u64, .i .u64, .i .u64, .i .u64, .i .u64, .i .u64, .i .u64, .i .u64, .i .u64, .i .u64, .i .u64, .i .u64]) .e .e) (.n 280 (.ar 65 5 1 [.i .u8, .i .u8, .i .u8, .i .u8, .i .u8, .i .u8, .i .u8, .i .u8, .i .u8, .i .u8, .i .u8, .i .u8, .i .u8, .i .u8, .i .u8, .i .u8, .i .u8, .i .u8, .i .u8, .i .u8, .i .u8, .i .u8, .i .u8, .i .u8, .i .u8, .i .u8, .i .u8, .i .u8, .i .u8, .i .u8, .i .u8, .i .u8, .i .u8, .i .u8, .i .u8, .i .u8, .i .u8, .i .u8, .i .u8, .i .u8, .i .u8, .i .u8, .i .u8, .i .u8, .i .u8, .i .u8, .i .u8, .i .u8, .i .u8, .i .u8, .i .u8, .i .u8, .i .u8, .i .u8, .i .u8, .i .u8, .i .u8, .i .u8, .i .u8, .i .u8, .i .u8, .i .u8, .i .u8, .i .u8, .i .u8]) .e .e))) (.n 288 (.f) (.n 286 (.st 3 [(0, 1), (1, 1), (2, 1)] [.s, .s, .e]) (.n 285 (.f) (.n 283 (.f) .e .e) .e) (.n 287 (.st 3 [(0, 1), (1, 1), (2, 1)] [.s, .s, .e]) .e .e)) (.n 290 (.f) (.n 289 (.f) .e .e) (.n 291 (.p) .e .e)))) (.n 301 (.st 0 [(0, 0)] []) (.n 297 (.st 4 [(0, 1), (1, 1), (2, 1), (3, 1)] [.p, .p, .p, .s]) (.n 295 (.ar 32 5 1 [.i .u8, .i .u8, .i .u8, .i .u8, .i .u8, .i .u8, .i .u8, .i .u8, .i .u8, .i .u8, .i .u8, .i .u8, .i .u8, .i .u8, .i .u8, .i .u8, .i .u8, .i .u8, .i .u8, .i .u8, .i .u8, .i .u8, .i .u8, .i .u8, .i .u8, .i .u8, .i .u8, .i .u8, .i .u8, .i .u8, .i .u8, .i .u8]) (.n 294 (.st 1 [(0, 1)] [.s]) (.n 293 (.st 1 [(0, 1)] [.s]) .e .e) .e) (.n 296 (.ar 64 5 1 [.i .u8, .i .u8, .i .u8, .i .u8, .i .u8, .i .u8, .i .u8, .i .u8, .i .u8, .i .u8, .i .u8, .i .u8, .i .u8, .i .u8, .i .u8, .i .u8, .i .u8, .i .u8, .i .u8, .i .u8, .i .u8, .i .u8, .i .u8, .i .u8, .i .u8, .i .u8, .i .u8, .i .u8, .i .u8, .i .u8, .i .u8, .i .u8, .i .u8, .i .u8, .i .u8, .i .u8, .i .u8, .i .u8, .i .u8, .i .u8, .i .u8, .i .u8, .i .u8, .i .u8, .i .u8, .i .u8, .i .u8, .i .u8, .i .u8, .i .u8, .i .u8, .i .u8, .i .u8, .i .u8, .i .u8, .i .u8, .i .u8, .i .u8, .i .u8, .i .u8, .i .u8, .i .u8, .i .u8, .i .u8]) .e .e)) (.n 299 (.ar 0 16 1 []) (.n 298 (.st 4 [(0, 1), (1, 1), (2, 1), (3, 1)] [.p, .p, .p, .s]) .e .e) (.n 300 (.st 0 [(0, 0)] []) .e .e))) (.n 306 (.i .i32) (.n 304 (.i .u8) (.n 303 (.i .u8) (.n 302 (.f) .e .e) .e) (.n 305 (.f) .e .e)) (.n 308 (.st 11 [(0, 1), (1, 1), (2, 1), (3, 1), (4, 1), (5, 1), (6, 1), (7, 1), (8, 1), (9, 1), (10, 1)] [.i .u64, .i .u64, .i .u32, .i .u8, .i .u8, .i .u8, .i .u8, .f, .p, .i .i32, .i .i32]) (.n 307 (.i .i32) .e .e) (.n 309 (.st 11 [(0, 1), (1, 1), (2, 1), (3, 1), (4, 1), (5, 1), (6, 1), (7, 1), (8, 1), (9, 1), (10, 1)] [.i .u64, .i .u64, .i .u32, .i .u8, .i .u8, .i .u8, .i .u8, .f, .p, .i .i32, .i .i32]) .e .e))))))))
theorem tbt_ok : tbt.all (tok Tryz.prog) = true := by kernel_rfl
def T : Tb Tryz.prog := ⟨tbt, by kernel_rfl, tbt_ok⟩
end Go.Proofs.YtlmahofogapkgaaGreatDoor.X
namespace Go.Proofs.YtlmahofogapkgaaGreatDoor.K
open Go Go.RowKit Go.Proofs
inductive Ty4 where
  | mk (k : Int) (nm : ByteArray) (n : Int) (ts : List Ty4)
inductive Ex where
  | mk (k : Int) (nm : ByteArray) (n : Int) (ks : List Ex)
inductive Sm where
  | mk (k : Int) (nm : ByteArray) (t : Ty4) (n : Int) (xs : List Ex) (b el : List Sm) (cs : List (List Sm))
structure Par where
  nm : ByteArray
  ty : Ty4
structure Fu where
  nm : ByteArray
  ps : List Par
  res : Ty4
  body : List Sm
  fl : Bool
  x : Int
  y : Int
def bs (l : List UInt8) : ByteArray := ⟨l.toArray⟩
def ty4z : Ty4 := .mk 0 ⟨#[]⟩ 0 []
def gq (n : Int) : Bool := decide (97 ≤ orI .u8 n 32) && decide (orI .u8 n 32 ≤ 122)
def kj (n : Int) : Bool := decide (48 ≤ n) && decide (n ≤ 57)
def iO (n : Int) : Bool := gq n || kj n || decide (n = 95)
def eD (p : UInt8 → Bool) : List UInt8 → Nat → Nat
  | [], k => k
  | b :: r, k => if p b then eD p r (k + 1) else k
theorem oj (s : ByteArray) (k : Nat) : s[k]? = s.data.toList[k]? := by
  rw [Array.getElem?_toList]
  by_cases h : k < s.size
  · have h2 : k < s.data.size := h
    rw [getElem?_pos s k h, Array.getElem?_eq_getElem h2]; rfl
  · have h2 : ¬ k < s.data.size := h
    rw [getElem?_neg s k h, Array.getElem?_eq_none (by omega)]
abbrev em (s t : ByteArray) : Bool := Op.bytesLess s.toList t.toList
def kws : List ByteArray := [⟨#[97, 116]⟩, ⟨#[98, 108, 111, 99, 107]⟩, ⟨#[98, 114, 101, 97, 107]⟩, ⟨#[99, 97, 115, 101]⟩, ⟨#[99, 111, 110, 115, 116]⟩, ⟨#[99, 111, 110, 116, 105, 110, 117, 101]⟩, ⟨#[100, 101, 102, 97, 117, 108, 116]⟩, ⟨#[101, 108, 115, 101]⟩, ⟨#[101, 120, 116, 101, 114, 110]⟩, ⟨#[102, 110]⟩, ⟨#[104, 97, 108, 116]⟩, ⟨#[105, 102]⟩, ⟨#[105, 110]⟩, ⟨#[108, 101, 116]⟩, ⟨#[108, 111, 111, 112]⟩, ⟨#[109, 101, 109, 49, 54]⟩, ⟨#[109, 101, 109, 56]⟩, ⟨#[111, 117, 116]⟩, ⟨#[112, 111, 108, 108]⟩, ⟨#[114, 101, 116, 117, 114, 110]⟩, ⟨#[114, 111, 109, 49, 54]⟩, ⟨#[114, 111, 109, 56]⟩, ⟨#[115, 49, 54]⟩, ⟨#[115, 116, 114, 117, 99, 116]⟩, ⟨#[115, 119, 105, 116, 99, 104]⟩, ⟨#[117, 49, 54]⟩, ⟨#[117, 56]⟩, ⟨#[117, 110, 105, 111, 110]⟩, ⟨#[118, 97, 114]⟩, ⟨#[119, 104, 105, 108, 101]⟩]
theorem iP : ∀ (a : List UInt8), Op.bytesLess a a = false
  | [] => rfl
  | x :: r => by simp [Op.bytesLess, iP r]
theorem kn : ∀ {a b c : List UInt8}, Op.bytesLess a b = true → Op.bytesLess b c = true → Op.bytesLess a c = true
  | _, [], _, h, _ => by simp [Op.bytesLess] at h
  | _, _ :: _, [], _, h => by simp [Op.bytesLess] at h
  | [], _ :: _, _ :: _, _, _ => rfl
  | x :: a, y :: b, z :: c, h, k => by
    simp only [Op.bytesLess, Bool.or_eq_true, decide_eq_true_eq, Bool.and_eq_true, beq_iff_eq] at h k ⊢
    rcases h with h | ⟨rfl, h⟩
    · rcases k with k | ⟨rfl, k⟩
      · exact .inl (UInt8.lt_trans h k)
      · exact .inl h
    · rcases k with k | ⟨rfl, k⟩
      · exact .inl k
      · exact .inr ⟨rfl, kn h k⟩
theorem gt (s : ByteArray) : ∀ {l : List ByteArray}, l.Pairwise (fun a b => em a b = true) → ∃ k, k ≤ l.length ∧ (∀ i x, l[i]? = some x → i < k → em x s = true) ∧ (∀ i x, l[i]? = some x → k ≤ i → em x s = false)
  | [], _ => ⟨0, by simp, by simp, by simp⟩
  | a :: r, h => by
    rw [List.pairwise_cons] at h
    rcases Bool.eq_false_or_eq_true (em a s) with ha | ha
    · obtain ⟨k, h1, h2, h3⟩ := gt s h.2
      refine ⟨k + 1, by simpa using h1, fun i x hx hi => ?_, fun i x hx hi => ?_⟩
      · cases i with
        | zero => simp at hx; subst hx; exact ha
        | succ i => exact h2 i x (by simpa using hx) (by omega)
      · cases i with
        | zero => omega
        | succ i => exact h3 i x (by simpa using hx) (by omega)
    · refine ⟨0, by simp, fun i x _ hi => by omega, fun i x hx _ => ?_⟩
      cases i with
      | zero => simp at hx; subst hx; exact ha
      | succ i =>
        have hm : x ∈ r := List.mem_of_getElem? (by simpa using hx)
        rcases Bool.eq_false_or_eq_true (em x s) with hx2 | hx2
        · have := kn (h.1 x hm) hx2
          have ha2 : Op.bytesLess a.toList s.toList = false := ha
          rw [ha2] at this; cases this
        · exact hx2
theorem found_mem {s : ByteArray} {l : List ByteArray} {k : Nat} (hs : l.Pairwise (fun a b => em a b = true)) (h1 : ∀ i x, l[i]? = some x → i < k → em x s = true) (h2 : ∀ i x, l[i]? = some x → k ≤ i → em x s = false) : decide (l[k]? = some s) = (l.any fun x => decide (x = s)) := by
  rw [Bool.eq_iff_iff]
  simp only [decide_eq_true_eq, List.any_eq_true]
  constructor
  · intro h; exact ⟨s, List.mem_of_getElem? h, rfl⟩
  · rintro ⟨_, h, rfl⟩
    obtain ⟨i, hi, hie⟩ := List.getElem_of_mem h
    subst hie
    have hg : l[i]? = some l[i] := List.getElem?_eq_getElem hi
    have hki : k ≤ i := by
      by_cases hq : k ≤ i
      · exact hq
      · have h3 := h1 i _ hg (by omega)
        have h4 := iP l[i].toList
        have h3' : Op.bytesLess l[i].toList l[i].toList = true := h3
        rw [h4] at h3'; cases h3'
    by_cases hq : k = i
    · subst hq; exact hg
    · have hk : k < l.length := by omega
      have h3 := List.pairwise_iff_getElem.1 hs k i hk hi (by omega)
      have h4 := h2 k _ (List.getElem?_eq_getElem hk) (Nat.le_refl _)
      rw [h4] at h3; cases h3
theorem ko : kws.Pairwise (fun a b => em a b = true) := by decide +kernel
def firstB (s : ByteArray) : Int := match s.data.toList with | [] => 0 | b :: _ => (b.toNat : Int)
def aj (s : ByteArray) : Bool := decide (s ≠ ⟨#[]⟩) && decide (s.size ≤ 24) && !(kws.any fun x => decide (x = s)) && gq (firstB s) && decide (eD (fun b => iO (b.toNat : Int)) s.data.toList 0 = s.size)
theorem first_at {s : ByteArray} (h : s ≠ ⟨#[]⟩) : ∃ b : UInt8, s[0]? = some b ∧ firstB s = (b.toNat : Int) := by
  obtain ⟨⟨l⟩⟩ := s
  cases l with
  | nil => exact absurd rfl h
  | cons b r => exact ⟨b, by rw [oj]; rfl, rfl⟩
def aD (t : Ty4) (k : Int) : Bool := match t with | .mk k' nm n ts => decide (k' = k) && decide (nm = ⟨#[]⟩) && decide (n = 0) && decide (ts.length = 0)
abbrev eS : ByteArray := ⟨#[]⟩
mutual
def Ty4.size : Ty4 → Nat
  | .mk _ _ _ ts => Ty4.sizes ts + 1
def Ty4.sizes : List Ty4 → Nat
  | [] => 0
  | t :: r => t.size + Ty4.sizes r
end
mutual
def Ex.size : Ex → Nat
  | .mk _ _ _ ks => Ex.sizes ks + 1
def Ex.sizes : List Ex → Nat
  | [] => 0
  | t :: r => t.size + Ex.sizes r
end
mutual
def Sm.size : Sm → Nat
  | .mk _ _ t _ xs b el cs => t.size + Ex.sizes xs + Sm.sizes b + Sm.sizes el + Sm.csizes cs + 1
def Sm.sizes : List Sm → Nat
  | [] => 0
  | t :: r => t.size + Sm.sizes r
def Sm.csizes : List (List Sm) → Nat
  | [] => 0
  | c :: r => Sm.sizes c + 1 + Sm.csizes r
end
theorem Ty4.size_pos (t : Ty4) : 0 < t.size := by cases t; simp [Ty4.size]
theorem Ex.size_pos (e : Ex) : 0 < e.size := by cases e; simp [Ex.size]
theorem Sm.size_pos (e : Sm) : 0 < e.size := by cases e; simp [Sm.size]
theorem Ty4.size_mem {e : Ty4} : ∀ {l : List Ty4}, e ∈ l → e.size ≤ Ty4.sizes l
  | u :: us, h => by
    simp only [Ty4.sizes]
    rcases List.mem_cons.1 h with rfl | h
    · omega
    · have := Ty4.size_mem h; omega
theorem Ex.size_mem {e : Ex} : ∀ {l : List Ex}, e ∈ l → e.size ≤ Ex.sizes l
  | u :: us, h => by
    simp only [Ex.sizes]
    rcases List.mem_cons.1 h with rfl | h
    · omega
    · have := Ex.size_mem h; omega
theorem Sm.size_mem {e : Sm} : ∀ {l : List Sm}, e ∈ l → e.size ≤ Sm.sizes l
  | u :: us, h => by
    simp only [Sm.sizes]
    rcases List.mem_cons.1 h with rfl | h
    · omega
    · have := Sm.size_mem h; omega
theorem Sm.csize_mem {c : List Sm} : ∀ {l : List (List Sm)}, c ∈ l → Sm.sizes c + 1 ≤ Sm.csizes l
  | u :: us, h => by
    simp only [Sm.csizes]
    rcases List.mem_cons.1 h with rfl | h
    · omega
    · have := Sm.csize_mem h; omega
theorem Ty4.len_le : ∀ l : List Ty4, l.length ≤ Ty4.sizes l
  | [] => by simp
  | t :: ts => by
    have := Ty4.len_le ts
    have := t.size_pos
    simp only [Ty4.sizes, List.length_cons]; omega
theorem Ex.len_le : ∀ l : List Ex, l.length ≤ Ex.sizes l
  | [] => by simp
  | t :: ts => by
    have := Ex.len_le ts
    have := t.size_pos
    simp only [Ex.sizes, List.length_cons]; omega
theorem Sm.len_le : ∀ l : List Sm, l.length ≤ Sm.sizes l
  | [] => by simp
  | t :: ts => by
    have := Sm.len_le ts
    have := t.size_pos
    simp only [Sm.sizes, List.length_cons]; omega
theorem Sm.clen_le : ∀ l : List (List Sm), l.length ≤ Sm.csizes l
  | [] => by simp
  | t :: ts => by
    have := Sm.clen_le ts
    simp only [Sm.csizes, List.length_cons]; omega
mutual
def Ty4.ok : Ty4 → Prop
  | .mk k nm n ts => I64 k ∧ nm.size ≤ 1000000 ∧ I64 n ∧ Ty4.oks ts
def Ty4.oks : List Ty4 → Prop
  | [] => True
  | t :: r => t.ok ∧ Ty4.oks r
end
mutual
def Ex.ok : Ex → Prop
  | .mk k nm n ks => I64 k ∧ nm.size ≤ 1000000 ∧ (0 ≤ n ∧ n ≤ 65535) ∧ Ex.oks ks
def Ex.oks : List Ex → Prop
  | [] => True
  | t :: r => t.ok ∧ Ex.oks r
end
mutual
def Sm.ok : Sm → Prop
  | .mk k nm t n xs b el cs => I64 k ∧ nm.size ≤ 1000000 ∧ t.ok ∧ (0 ≤ n ∧ n ≤ 65535) ∧ Ex.oks xs ∧ Sm.oks b ∧ Sm.oks el ∧ Sm.okc cs
def Sm.oks : List Sm → Prop
  | [] => True
  | t :: r => t.ok ∧ Sm.oks r
def Sm.okc : List (List Sm) → Prop
  | [] => True
  | c :: r => Sm.oks c ∧ Sm.okc r
end
theorem Ty4.oks_mem {t : Ty4} : ∀ {l : List Ty4}, Ty4.oks l → t ∈ l → t.ok
  | u :: us, h, hm => by
    rcases List.mem_cons.1 hm with rfl | hm
    · exact h.1
    · exact Ty4.oks_mem h.2 hm
theorem Ex.oks_mem {t : Ex} : ∀ {l : List Ex}, Ex.oks l → t ∈ l → t.ok
  | u :: us, h, hm => by
    rcases List.mem_cons.1 hm with rfl | hm
    · exact h.1
    · exact Ex.oks_mem h.2 hm
theorem Sm.oks_mem {t : Sm} : ∀ {l : List Sm}, Sm.oks l → t ∈ l → t.ok
  | u :: us, h, hm => by
    rcases List.mem_cons.1 hm with rfl | hm
    · exact h.1
    · exact Sm.oks_mem h.2 hm
theorem Sm.okc_mem {c : List Sm} : ∀ {l : List (List Sm)}, Sm.okc l → c ∈ l → Sm.oks c
  | u :: us, h, hm => by
    rcases List.mem_cons.1 hm with rfl | hm
    · exact h.1
    · exact Sm.okc_mem h.2 hm
theorem Ex.oks_append : ∀ {a b : List Ex}, Ex.oks (a ++ b) ↔ Ex.oks a ∧ Ex.oks b
  | [], b => by simp [Ex.oks]
  | t :: r, b => by simp only [List.cons_append, Ex.oks, Ex.oks_append (a := r), and_assoc]
theorem Sm.oks_append : ∀ {a b : List Sm}, Sm.oks (a ++ b) ↔ Sm.oks a ∧ Sm.oks b
  | [], b => by simp [Sm.oks]
  | t :: r, b => by simp only [List.cons_append, Sm.oks, Sm.oks_append (a := r), and_assoc]
theorem Sm.okc_append : ∀ {a b : List (List Sm)}, Sm.okc (a ++ b) ↔ Sm.okc a ∧ Sm.okc b
  | [], b => by simp [Sm.okc]
  | t :: r, b => by simp only [List.cons_append, Sm.okc, Sm.okc_append (a := r), and_assoc]
theorem Ex.sizes_append : ∀ {a b : List Ex}, Ex.sizes (a ++ b) = Ex.sizes a + Ex.sizes b
  | [], b => by simp [Ex.sizes]
  | t :: r, b => by simp only [List.cons_append, Ex.sizes, Ex.sizes_append (a := r)]; omega
theorem Sm.sizes_append : ∀ {a b : List Sm}, Sm.sizes (a ++ b) = Sm.sizes a + Sm.sizes b
  | [], b => by simp [Sm.sizes]
  | t :: r, b => by simp only [List.cons_append, Sm.sizes, Sm.sizes_append (a := r)]; omega
theorem Sm.csizes_append : ∀ {a b : List (List Sm)}, Sm.csizes (a ++ b) = Sm.csizes a + Sm.csizes b
  | [], b => by simp [Sm.csizes]
  | t :: r, b => by simp only [List.cons_append, Sm.csizes, Sm.csizes_append (a := r)]; omega
structure Td where
  nm : ByteArray
  un : Bool
  fs : List Par
structure Gb where
  nm : ByteArray
  ty : Ty4
  bank : Int
  addr : Int
  bytes : ByteArray
structure Pg where
  ts : List Td
  gs : List Gb
  fs : List Fu
def Par.ok (B : Nat) (p : Par) : Prop := p.nm.size ≤ 1000000 ∧ p.ty.ok ∧ p.ty.size ≤ B
def Td.ok (B : Nat) (t : Td) : Prop := t.nm.size ≤ 1000000 ∧ t.fs.length ≤ B ∧ ∀ p ∈ t.fs, p.ok B
def Gb.ok (B : Nat) (g : Gb) : Prop := g.nm.size ≤ 1000000 ∧ g.ty.ok ∧ g.ty.size ≤ B ∧ I64 g.bank ∧ (0 ≤ g.addr ∧ g.addr ≤ 65535) ∧ g.bytes.size ≤ B
def Fu.ok (B : Nat) (f : Fu) : Prop := f.nm.size ≤ 1000000 ∧ f.ps.length ≤ B ∧ (∀ p ∈ f.ps, p.ok B) ∧ f.res.ok ∧ f.res.size ≤ B ∧ Sm.oks f.body ∧ Sm.sizes f.body ≤ B ∧ I64 f.x ∧ (0 ≤ f.y ∧ f.y ≤ 65535)
structure Pg.ok (B : Nat) (p : Pg) : Prop where
  tl : p.ts.length ≤ B
  gl : p.gs.length ≤ B
  fl : p.fs.length ≤ B
  t : ∀ x ∈ p.ts, x.ok B
  g : ∀ x ∈ p.gs, x.ok B
  f : ∀ x ∈ p.fs, x.ok B
theorem Par.ok.mono {B C : Nat} (h : B ≤ C) {p : Par} (hp : p.ok B) : p.ok C := ⟨hp.1, hp.2.1, Nat.le_trans hp.2.2 h⟩
theorem Td.ok.mono {B C : Nat} (h : B ≤ C) {p : Td} (hp : p.ok B) : p.ok C := ⟨hp.1, Nat.le_trans hp.2.1 h, fun x hx => (hp.2.2 x hx).mono h⟩
theorem Gb.ok.mono {B C : Nat} (h : B ≤ C) {p : Gb} (hp : p.ok B) : p.ok C := by
  obtain ⟨h1, h2, h3, h4, h5, h6⟩ := hp
  exact ⟨h1, h2, Nat.le_trans h3 h, h4, h5, Nat.le_trans h6 h⟩
theorem Fu.ok.mono {B C : Nat} (h : B ≤ C) {p : Fu} (hp : p.ok B) : p.ok C := by
  obtain ⟨h1, h2, h3, h4, h5, h6, h7, h8, h9⟩ := hp
  exact ⟨h1, Nat.le_trans h2 h, fun x hx => (h3 x hx).mono h, h4, Nat.le_trans h5 h, h6, Nat.le_trans h7 h, h8, h9⟩
mutual
def rTy : Ty4 → Bool
  | .mk k nm n ts =>
    if k = 4 then aj nm && decide (n = 0) && decide (ts.length = 0)
    else if k = 1 ∨ k = 2 ∨ k = 3 then decide (nm = eS) && decide (n = 0) && decide (ts.length = 0)
    else if k = 5 ∨ k = 6 then decide (nm = eS) && decide (0 ≤ n) && decide (n ≤ if k = 5 then 65535 else 64) && decide (ts.length = 1) && rTys ts
    else false
def rTys : List Ty4 → Bool
  | [] => true
  | t :: r => rTy t && rTys r
end
def opsL : List ByteArray := [⟨#[124]⟩, ⟨#[94]⟩, ⟨#[38]⟩, ⟨#[61, 61]⟩, ⟨#[33, 61]⟩, ⟨#[60]⟩, ⟨#[60, 61]⟩, ⟨#[62]⟩, ⟨#[62, 61]⟩, ⟨#[60, 60]⟩, ⟨#[62, 62]⟩, ⟨#[43]⟩, ⟨#[45]⟩, ⟨#[42]⟩, ⟨#[47]⟩, ⟨#[37]⟩]
def unL : List ByteArray := [⟨#[45]⟩, ⟨#[126]⟩, ⟨#[33]⟩]
def castL : List ByteArray := [⟨#[117, 56]⟩, ⟨#[117, 49, 54]⟩, ⟨#[115, 49, 54]⟩]
def aE (s : ByteArray) (l : List ByteArray) : Bool := l.any fun x => decide (x = s)
def bp (k : Int) (nm : ByteArray) : Bool :=
  if k = 2 ∨ k = 3 ∨ k = 14 then aj nm
  else if k = 13 then aE nm opsL
  else if k = 12 then aE nm unL
  else if k = 15 then aE nm castL
  else decide (nm = eS)
def du (k : Int) : Int := if k = 1 ∨ k = 2 ∨ k = 11 then 0 else if k = 4 ∨ k = 13 then 2 else 1
def cu (k : Int) : Int := if k = 1 then 65536 else if k = 11 then 256 else if k = 9 ∨ k = 10 then 64 else 1
mutual
def rEx : Ex → Bool
  | .mk k nm n ks => decide (1 ≤ k ∧ k ≤ 15) && bp k nm && (decide (k = 14) || decide ((ks.length : Int) = du k)) && decide (n < cu k) && fA ks
def fA : List Ex → Bool
  | [] => true
  | t :: r => rEx t && fA r
end
def aF (k : Int) : Int := if k = 2 then 2 else if k = 1 ∨ k = 3 ∨ k = 4 ∨ k = 9 ∨ k = 11 ∨ k = 14 then 1 else 0
def aL (k : Int) : Int := if k = 2 then 2 else if k = 1 ∨ k = 3 ∨ k = 4 ∨ k = 9 ∨ k = 10 ∨ k = 11 ∨ k = 14 then 1 else 0
def cL (k : Int) : Bool := decide (k = 1 ∨ k = 6 ∨ k = 7 ∨ k = 8)
def cZ (k : Int) : Bool := decide (k = 4 ∨ k = 5)
def ip (k : Int) : Bool := decide (k = 3 ∨ k = 4 ∨ k = 5 ∨ k = 6)
def i7 (k : Int) : Bool := decide (k = 3 ∨ k = 9)
def i8 (k : Int) : Bool := decide (k = 9)
def smPo (k : Int) : Bool := decide (k = 11)
def aV (k : Int) (nm : ByteArray) : Bool := if cL k then aj nm else decide (nm = eS) || (cZ k && aj nm)
def Ex.kind : Ex → Int | .mk k _ _ _ => k
def bw (k : Int) : Bool := decide (k = 2 ∨ k = 3 ∨ k = 4 ∨ k = 5 ∨ k = 7 ∨ k = 8)
def bK (p : Int → Bool) : List Ex → Bool
  | [] => true
  | e :: _ => p e.kind
mutual
def rSm : Sm → Bool
  | .mk k nm t n xs b el cs => decide (1 ≤ k ∧ k ≤ 14) && decide (aF k ≤ (xs.length : Int)) && decide ((xs.length : Int) ≤ aL k) && fA xs && aV k nm && (if k = 1 then rTy t else aD t 0)
    && (decide (n = 0) || (smPo k && decide (n < 256))) && (ip k || decide (b.length = 0)) && (i7 k || decide (el.length = 0)) && (i8 k || decide (cs.length = 0))
    && (!decide (k = 14) || bK (fun j => decide (j = 14)) xs) && (!decide (k = 2) || bK bw xs) && cp b && cp el && rCs cs
def cp : List Sm → Bool
  | [] => true
  | t :: r => rSm t && cp r
def rCs : List (List Sm) → Bool
  | [] => true
  | c :: r => cp c && rCs r
end
theorem eE : ∀ l, rTys l = l.all rTy
  | [] => rfl
  | t :: r => by simp only [rTys, List.all_cons, eE r]
theorem bL : ∀ l, fA l = l.all rEx
  | [] => rfl
  | t :: r => by simp only [fA, List.all_cons, bL r]
theorem bj : ∀ l, cp l = l.all rSm
  | [] => rfl
  | t :: r => by simp only [cp, List.all_cons, bj r]
theorem fh : ∀ l, rCs l = l.all cp
  | [] => rfl
  | t :: r => by simp only [rCs, List.all_cons, fh r]
def cv (p : Par) : Bool := aj p.nm && rTy p.ty
def rTd (t : Td) : Bool := aj t.nm && t.fs.all cv
def rGb (g : Gb) : Bool := aj g.nm && rTy g.ty && ((decide (g.bank = -1) && decide (g.bytes = eS)) || (decide (0 ≤ g.bank) && decide (g.bank < 64)))
def rFu (f : Fu) : Bool := aj f.nm && f.ps.all cv && (aD f.res 7 || rTy f.res) &&
  (if f.fl then decide (f.body.length = 0) && decide (0 ≤ f.x) && decide (f.x < 64) else decide (f.x = 0 ∧ f.y = 0) && cp f.body)
def rPg (p : Pg) : Bool := p.ts.all rTd && p.gs.all rGb && p.fs.all rFu
end Go.Proofs.YtlmahofogapkgaaGreatDoor.K
namespace Go.Proofs.YtlmahofogapkgaaGreatDoor.X
open Go Go.RowKit Go.Proofs K
def lb : Tr → ByteArray
  | .node l _ => l
mutual
def kd : Tr → List (List D)
  | .node _ ks => kds ks
def kds : List Tr → List (List D)
  | [] => []
  | t :: r => [.c (.string (lb t)), .s (kd t)] :: kds r
end
def trd (t : Tr) : List D := [.c (.string (lb t)), .s (kd t)]
abbrev aP (l : List Tr) : List (List D) := l.map trd
theorem kds_eq : ∀ l : List Tr, kds l = aP l
  | [] => rfl
  | t :: r => congrArg (trd t :: ·) (kds_eq r)
theorem ba (lb : ByteArray) (ks : List Tr) : trd (.node lb ks) = [.c (.string lb), .s (aP ks)] := by
  show [D.c (.string lb), .s (kds ks)] = _
  rw [kds_eq]
def tk : Ty4 → Int | .mk k _ _ _ => k
def tnm : Ty4 → ByteArray | .mk _ nm _ _ => nm
def tn : Ty4 → Int | .mk _ _ n _ => n
mutual
def tyS : Ty4 → List (List D)
  | .mk _ _ _ ts => tyR ts
def tyR : List Ty4 → List (List D)
  | [] => []
  | t :: r => [.c (.int .i64 (tk t)), .c (.string (tnm t)), .c (.int .i64 (tn t)), .s (tyS t)] :: tyR r
end
def tyD (t : Ty4) : List D := [.c (.int .i64 (tk t)), .c (.string (tnm t)), .c (.int .i64 (tn t)), .s (tyS t)]
theorem tyR_eq : ∀ l : List Ty4, tyR l = l.map tyD
  | [] => rfl
  | t :: r => congrArg (tyD t :: ·) (tyR_eq r)
theorem ir (k n : Int) (nm : ByteArray) (ts : List Ty4) : tyD (.mk k nm n ts) = [.c (.int .i64 k), .c (.string nm), .c (.int .i64 n), .s (ts.map tyD)] := by
  show [D.c (.int .i64 k), .c (.string nm), .c (.int .i64 n), .s (tyR ts)] = _
  rw [tyR_eq]
def ek : Ex → Int | .mk k _ _ _ => k
def enm : Ex → ByteArray | .mk _ nm _ _ => nm
def en : Ex → Int | .mk _ _ n _ => n
mutual
def exS : Ex → List (List D)
  | .mk _ _ _ ts => exR ts
def exR : List Ex → List (List D)
  | [] => []
  | t :: r => [.c (.int .i64 (ek t)), .c (.string (enm t)), .c (.int .u16 (en t)), .s (exS t)] :: exR r
end
def exD (t : Ex) : List D := [.c (.int .i64 (ek t)), .c (.string (enm t)), .c (.int .u16 (en t)), .s (exS t)]
theorem exR_eq : ∀ l : List Ex, exR l = l.map exD
  | [] => rfl
  | t :: r => congrArg (exD t :: ·) (exR_eq r)
theorem dv (k n : Int) (nm : ByteArray) (ts : List Ex) : exD (.mk k nm n ts) = [.c (.int .i64 k), .c (.string nm), .c (.int .u16 n), .s (ts.map exD)] := by
  show [D.c (.int .i64 k), .c (.string nm), .c (.int .u16 n), .s (exR ts)] = _
  rw [exR_eq]
def sk : Sm → Int | .mk k _ _ _ _ _ _ _ => k
def snm : Sm → ByteArray | .mk _ nm _ _ _ _ _ _ => nm
def sty : Sm → Ty4 | .mk _ _ t _ _ _ _ _ => t
def sn : Sm → Int | .mk _ _ _ n _ _ _ _ => n
def sX : Sm → List (List D) | .mk _ _ _ _ xs _ _ _ => xs.map exD
mutual
def sB : Sm → List (List D)
  | .mk _ _ _ _ _ b _ _ => sR b
def sEl : Sm → List (List D)
  | .mk _ _ _ _ _ _ el _ => sR el
def sCs : Sm → List (List D)
  | .mk _ _ _ _ _ _ _ cs => sCC cs
def sR : List Sm → List (List D)
  | [] => []
  | s :: r => [.c (.int .i64 (sk s)), .c (.string (snm s)), .c (.int .i64 (tk (sty s))), .c (.string (tnm (sty s))), .c (.int .i64 (tn (sty s))), .s (tyS (sty s)), .c (.int .u16 (sn s)), .s (sX s), .s (sB s), .s (sEl s), .s (sCs s)] :: sR r
def sCC : List (List Sm) → List (List D)
  | [] => []
  | c :: r => [.s (sR c)] :: sCC r
end
def smD (s : Sm) : List D := [.c (.int .i64 (sk s)), .c (.string (snm s)), .c (.int .i64 (tk (sty s))), .c (.string (tnm (sty s))), .c (.int .i64 (tn (sty s))), .s (tyS (sty s)), .c (.int .u16 (sn s)), .s (sX s), .s (sB s), .s (sEl s), .s (sCs s)]
theorem sR_eq : ∀ l : List Sm, sR l = l.map smD
  | [] => rfl
  | t :: r => congrArg (smD t :: ·) (sR_eq r)
def blD (c : List Sm) : List D := [.s (c.map smD)]
theorem sCC_eq : ∀ l : List (List Sm), sCC l = l.map blD
  | [] => rfl
  | c :: r => by show [D.s (sR c)] :: sCC r = blD c :: r.map blD; rw [sR_eq, sCC_eq r]; rfl
theorem aJ (k n : Int) (nm : ByteArray) (t : Ty4) (xs : List Ex) (b el : List Sm) (cs : List (List Sm)) : smD (.mk k nm t n xs b el cs) = [.c (.int .i64 k), .c (.string nm), .c (.int .i64 (tk t)), .c (.string (tnm t)), .c (.int .i64 (tn t)), .s (tyS t), .c (.int .u16 n), .s (xs.map exD), .s (b.map smD), .s (el.map smD), .s (cs.map blD)] := by
  show [D.c (.int .i64 k), .c (.string nm), .c (.int .i64 (tk t)), .c (.string (tnm t)), .c (.int .i64 (tn t)), .s (tyS t), .c (.int .u16 n), .s (xs.map exD), .s (sR b), .s (sR el), .s (sCC cs)] = _
  rw [sR_eq, sR_eq, sCC_eq]
def paD (p : Par) : List D := [.c (.string p.nm), .c (.int .i64 (tk p.ty)), .c (.string (tnm p.ty)), .c (.int .i64 (tn p.ty)), .s (tyS p.ty)]
def tdD (t : Td) : List D := [.c (.string t.nm), .c (.bool t.un), .s (t.fs.map paD)]
def gbD (g : Gb) : List D := [.c (.string g.nm), .c (.int .i64 (tk g.ty)), .c (.string (tnm g.ty)), .c (.int .i64 (tn g.ty)), .s (tyS g.ty), .c (.int .i64 g.bank), .c (.int .u16 g.addr), .c (.string g.bytes)]
def fuD (f : Fu) : List D := [.c (.string f.nm), .s (f.ps.map paD), .c (.int .i64 (tk f.res)), .c (.string (tnm f.res)), .c (.int .i64 (tn f.res)), .s (tyS f.res), .s (f.body.map smD), .c (.bool f.fl), .c (.int .i64 f.x), .c (.int .u16 f.y)]
def pgD (p : Pg) : List D := [.s (p.ts.map tdD), .s (p.gs.map gbD), .s (p.fs.map fuD)]
abbrev cs9 (fs cs : List D) (l : List XV) : List XV := cl (fs.map .d) ++ (l ++ cl (cs.map .d))
abbrev xf (fc : FuncId) (fs cs : List D) : XV := .a (.c (.d (.f fc fs cs)))
theorem ab {α β : Type} {l : List α} {f : α → β} {j : Nat} {y : α} (h : l[j]? = some y) : (l.map f)[j]? = some (f y) := by rw [List.getElem?_map, h]; rfl
theorem ah {α : Type} {l : List α} {j : Nat} (h : j < l.length) : ∃ y, l[j]? = some y := ⟨_, List.getElem?_eq_getElem h⟩
def idxI {α : Type} (p : α → Bool) (l : List α) : Int := if l.any p then (l.findIdx p : Int) else -1
section
variable {α : Type} {p : α → Bool} {l : List α} {j : Nat} {y : α}
theorem eF (h : (l.take j).any p = false) (hy : l[j]? = some y) (hp : p y = false) : (l.take (j + 1)).any p = false := by
  rw [List.take_succ, hy, List.any_append, h]; simp [hp]
theorem fi (h : (l.take j).any p = false) (hy : l[j]? = some y) (hp : p y = true) : idxI p l = j := by
  have hlt : j < l.length := (List.getElem?_eq_some_iff.1 hy).1
  have hj : l[j] = y := (List.getElem?_eq_some_iff.1 hy).2
  have hany : l.any p = true := List.any_eq_true.2 ⟨y, List.mem_of_getElem? hy, hp⟩
  rw [idxI, if_pos hany]
  have : l.findIdx p = j := by
    rw [List.findIdx_eq hlt]
    refine ⟨by rw [hj]; exact hp, fun k hk => ?_⟩
    have := List.any_eq_false.1 h (l[k]'(by omega)) (by
      rw [List.mem_iff_getElem?]; exact ⟨k, by rw [List.getElem?_take, if_pos hk, List.getElem?_eq_getElem (by omega)]⟩)
    simpa using this
  rw [this]
theorem gu (h : (l.take j).any p = false) (hj : l.length ≤ j) : idxI p l = -1 := by
  rw [List.take_of_length_le hj] at h
  rw [idxI, h]; rfl
theorem jn (p : α → Bool) (l : List α) : decide (0 ≤ idxI p l) = l.any p := by
  unfold idxI
  cases h : l.any p
  · rfl
  · simp
theorem not_any (p : α → Bool) (l : List α) : (!l.any fun x => !p x) = l.all p := by rw [List.all_eq_not_any_not]
end
def IdxT (pk : Pk) (f : FuncId) {α : Type} (da : α → List D) (ar : α → XV) (R : (α → Bool) → List α → XV) : Prop := ∀ (l : List α) (p : α → Bool) (fc : FuncId) (fs cs : List D),
  (∀ x ∈ l, XQ Tryz.prog pk fc (cs9 fs cs [ar x]) (xb (p x))) → XQ Tryz.prog pk f [xr (l.map da), xf fc fs cs] (R p l)
abbrev IdxA (pk : Pk) (R : {α : Type} → (α → Bool) → List α → XV) (f1 f2 f3 f4 f5 f6 f7 f8 : FuncId) : Prop := IdxT pk f1 tdD (fun t => xd (tdD t)) R ∧ IdxT pk f2 gbD (fun t => xd (gbD t)) R ∧ IdxT pk f3 fuD (fun t => xd (fuD t)) R ∧ IdxT pk f4 paD (fun t => xd (paD t)) R ∧
  IdxT pk f5 tyD (fun t => xd (tyD t)) R ∧ IdxT pk f6 smD (fun t => xd (smD t)) R ∧ IdxT pk f7 exD (fun t => xd (exD t)) R ∧ IdxT pk f8 blD (fun c => xr (c.map smD)) R
theorem index_all (pk : Pk) : IdxA pk (fun p l => xi (idxI p l)) 160 168 170 186 204 205 225 228 := by
  refine ⟨fun l p fc fs cs hcl => XQ.en Tryz.func160 Tryz.ntmps160 (fun w0 own H V v0 hf => ?_), fun l p fc fs cs hcl => XQ.en Tryz.func168 Tryz.ntmps168 (fun w0 own H V v0 hf => ?_),
    fun l p fc fs cs hcl => XQ.en Tryz.func170 Tryz.ntmps170 (fun w0 own H V v0 hf => ?_), fun l p fc fs cs hcl => XQ.en Tryz.func186 Tryz.ntmps186 (fun w0 own H V v0 hf => ?_),
    fun l p fc fs cs hcl => XQ.en Tryz.func204 Tryz.ntmps204 (fun w0 own H V v0 hf => ?_), fun l p fc fs cs hcl => XQ.en Tryz.func205 Tryz.ntmps205 (fun w0 own H V v0 hf => ?_),
    fun l p fc fs cs hcl => XQ.en Tryz.func225 Tryz.ntmps225 (fun w0 own H V v0 hf => ?_), fun l p fc fs cs hcl => XQ.en Tryz.func228 Tryz.ntmps228 (fun w0 own H V v0 hf => ?_)⟩
  all_goals
    refine Ln 0 rfl (fun hl => ?_); rw [List.length_map] at hl
    refine G (T := T) 1000 rfl ?_
    refine Lq [0, 1, 7] (fun q r => (4, xi 0) :: (8, xi (q : Nat)) :: r) (fun q => []) 0 (fun q => q ≤ l.length ∧ (l.take q).any p = false) (fun q => l.length - q) 0 rfl ⟨Nat.zero_le _, rfl⟩ ?_
    rintro j ⟨hj, hI⟩
    refine G (T := T) 1000 rfl ?_
    refine If rfl (fun h => ?_) (fun h => ?_)
    · have hjl := of_decide_eq_true h; rw [List.length_map] at hjl
      obtain ⟨y, hy⟩ := ah (l := l) (j := j) (by omega)
      refine G (T := T) 14 rfl ?_
      refine Ix (T := T) j (ab hy) rfl rfl rfl rfl ⟨rfl, rfl⟩ rfl rfl ?_
      refine G (T := T) 1000 rfl ?_
      refine Cv (hcl y (List.mem_of_getElem? hy)) rfl rfl rfl rfl rfl ⟨rfl, rfl⟩ ?_
      refine G (T := T) 1000 rfl ?_
      refine If rfl (fun h => ?_) (fun h => ?_)
      · refine G (T := T) 1000 rfl ?_
        exact Fe (T := T) rfl (by show xi _ = xi _; rw [fi hI hy h])
      · refine G (T := T) 1000 rfl ?_
        exact Nq (j + 1) ⟨by omega, eF hI hy h⟩ (by show _ - (j + 1) < _ - j; omega)
    · have hjl := of_decide_eq_false h; rw [List.length_map] at hjl
      refine G (T := T) 1000 rfl ?_
      exact Fe (T := T) rfl (by show xi _ = xi _; rw [gu hI (by omega)])
theorem nn (pk : Pk) : IdxA pk (fun p l => xb (l.any p)) 127 132 135 166 187 189 206 211 := by
  obtain ⟨a1, a2, a3, a4, a5, a6, a7, a8⟩ := index_all pk
  refine ⟨fun l p fc fs cs hcl => XQ.en Tryz.func127 Tryz.ntmps127 (fun w0 own H V v0 hf => ?_), fun l p fc fs cs hcl => XQ.en Tryz.func132 Tryz.ntmps132 (fun w0 own H V v0 hf => ?_), fun l p fc fs cs hcl => XQ.en Tryz.func135 Tryz.ntmps135 (fun w0 own H V v0 hf => ?_), fun l p fc fs cs hcl => XQ.en Tryz.func166 Tryz.ntmps166 (fun w0 own H V v0 hf => ?_), fun l p fc fs cs hcl => XQ.en Tryz.func187 Tryz.ntmps187 (fun w0 own H V v0 hf => ?_), fun l p fc fs cs hcl => XQ.en Tryz.func189 Tryz.ntmps189 (fun w0 own H V v0 hf => ?_), fun l p fc fs cs hcl => XQ.en Tryz.func206 Tryz.ntmps206 (fun w0 own H V v0 hf => ?_), fun l p fc fs cs hcl => XQ.en Tryz.func211 Tryz.ntmps211 (fun w0 own H V v0 hf => ?_)⟩
  all_goals
    refine G (T := T) 1000 rfl ?_
    first
      | refine Cq (a1 l p fc fs cs hcl) rfl rfl rfl rfl rfl ⟨rfl, rfl⟩ ?_
      | refine Cq (a2 l p fc fs cs hcl) rfl rfl rfl rfl rfl ⟨rfl, rfl⟩ ?_
      | refine Cq (a3 l p fc fs cs hcl) rfl rfl rfl rfl rfl ⟨rfl, rfl⟩ ?_
      | refine Cq (a4 l p fc fs cs hcl) rfl rfl rfl rfl rfl ⟨rfl, rfl⟩ ?_
      | refine Cq (a5 l p fc fs cs hcl) rfl rfl rfl rfl rfl ⟨rfl, rfl⟩ ?_
      | refine Cq (a6 l p fc fs cs hcl) rfl rfl rfl rfl rfl ⟨rfl, rfl⟩ ?_
      | refine Cq (a7 l p fc fs cs hcl) rfl rfl rfl rfl rfl ⟨rfl, rfl⟩ ?_
      | refine Cq (a8 l p fc fs cs hcl) rfl rfl rfl rfl rfl ⟨rfl, rfl⟩ ?_
    refine G (T := T) 1000 rfl ?_
    exact Fe (T := T) rfl (by show xb _ = xb _; rw [← jn])
abbrev NotT (pk : Pk) (f : FuncId) {α : Type} (ar : α → XV) : Prop := ∀ (fc : FuncId) (fs cs : List D) (b : Bool) (x : α), XQ Tryz.prog pk fc (cs9 fs cs [ar x]) (xb b) → XQ Tryz.prog pk f [ar x, .a (.c (.d (.p [.f fc fs cs])))] (xb (!b))
theorem not_all (pk : Pk) : NotT pk 128 (fun t => xd (tdD t)) ∧ NotT pk 133 (fun t => xd (gbD t)) ∧ NotT pk 136 (fun t => xd (fuD t)) ∧ NotT pk 167 (fun t => xd (paD t)) ∧ NotT pk 188 (fun t => xd (tyD t)) ∧ NotT pk 190 (fun t => xd (smD t)) ∧ NotT pk 207 (fun t => xd (exD t)) ∧ NotT pk 212 (fun c : List Sm => xr (c.map smD)) := by
  refine ⟨fun fc fs cs b x h => XQ.en Tryz.func128 Tryz.ntmps128 (fun w0 own H V v0 hf => ?_), fun fc fs cs b x h => XQ.en Tryz.func133 Tryz.ntmps133 (fun w0 own H V v0 hf => ?_), fun fc fs cs b x h => XQ.en Tryz.func136 Tryz.ntmps136 (fun w0 own H V v0 hf => ?_), fun fc fs cs b x h => XQ.en Tryz.func167 Tryz.ntmps167 (fun w0 own H V v0 hf => ?_), fun fc fs cs b x h => XQ.en Tryz.func188 Tryz.ntmps188 (fun w0 own H V v0 hf => ?_), fun fc fs cs b x h => XQ.en Tryz.func190 Tryz.ntmps190 (fun w0 own H V v0 hf => ?_), fun fc fs cs b x h => XQ.en Tryz.func207 Tryz.ntmps207 (fun w0 own H V v0 hf => ?_), fun fc fs cs b x h => XQ.en Tryz.func212 Tryz.ntmps212 (fun w0 own H V v0 hf => ?_)⟩
  all_goals
    refine G (T := T) 1000 rfl ?_
    refine Cv h rfl rfl rfl rfl rfl ⟨rfl, rfl⟩ ?_
    refine G (T := T) 1000 rfl ?_
    exact Fe (T := T) rfl rfl
theorem bE (pk : Pk) : IdxA pk (fun p l => xb (l.all p)) 78 80 82 130 169 171 192 195 := by
  obtain ⟨a1, a2, a3, a4, a5, a6, a7, a8⟩ := nn pk
  obtain ⟨b1, b2, b3, b4, b5, b6, b7, b8⟩ := not_all pk
  refine ⟨fun l p fc fs cs hcl => XQ.en Tryz.func78 Tryz.ntmps78 (fun w0 own H V v0 hf => ?_), fun l p fc fs cs hcl => XQ.en Tryz.func80 Tryz.ntmps80 (fun w0 own H V v0 hf => ?_), fun l p fc fs cs hcl => XQ.en Tryz.func82 Tryz.ntmps82 (fun w0 own H V v0 hf => ?_), fun l p fc fs cs hcl => XQ.en Tryz.func130 Tryz.ntmps130 (fun w0 own H V v0 hf => ?_), fun l p fc fs cs hcl => XQ.en Tryz.func169 Tryz.ntmps169 (fun w0 own H V v0 hf => ?_), fun l p fc fs cs hcl => XQ.en Tryz.func171 Tryz.ntmps171 (fun w0 own H V v0 hf => ?_), fun l p fc fs cs hcl => XQ.en Tryz.func192 Tryz.ntmps192 (fun w0 own H V v0 hf => ?_), fun l p fc fs cs hcl => XQ.en Tryz.func195 Tryz.ntmps195 (fun w0 own H V v0 hf => ?_)⟩
  all_goals
    refine G (T := T) 1000 rfl ?_
    refine (FzTo.bz 0 rfl).r ?_
    first
      | refine Cq (a1 l (fun x => !p x) _ [] [.p [.f fc fs cs]] (fun x hx => b1 fc fs cs _ x (hcl x hx))) rfl rfl rfl rfl rfl ⟨rfl, rfl⟩ ?_
      | refine Cq (a2 l (fun x => !p x) _ [] [.p [.f fc fs cs]] (fun x hx => b2 fc fs cs _ x (hcl x hx))) rfl rfl rfl rfl rfl ⟨rfl, rfl⟩ ?_
      | refine Cq (a3 l (fun x => !p x) _ [] [.p [.f fc fs cs]] (fun x hx => b3 fc fs cs _ x (hcl x hx))) rfl rfl rfl rfl rfl ⟨rfl, rfl⟩ ?_
      | refine Cq (a4 l (fun x => !p x) _ [] [.p [.f fc fs cs]] (fun x hx => b4 fc fs cs _ x (hcl x hx))) rfl rfl rfl rfl rfl ⟨rfl, rfl⟩ ?_
      | refine Cq (a5 l (fun x => !p x) _ [] [.p [.f fc fs cs]] (fun x hx => b5 fc fs cs _ x (hcl x hx))) rfl rfl rfl rfl rfl ⟨rfl, rfl⟩ ?_
      | refine Cq (a6 l (fun x => !p x) _ [] [.p [.f fc fs cs]] (fun x hx => b6 fc fs cs _ x (hcl x hx))) rfl rfl rfl rfl rfl ⟨rfl, rfl⟩ ?_
      | refine Cq (a7 l (fun x => !p x) _ [] [.p [.f fc fs cs]] (fun x hx => b7 fc fs cs _ x (hcl x hx))) rfl rfl rfl rfl rfl ⟨rfl, rfl⟩ ?_
      | refine Cq (a8 l (fun x => !p x) _ [] [.p [.f fc fs cs]] (fun x hx => b8 fc fs cs _ x (hcl x hx))) rfl rfl rfl rfl rfl ⟨rfl, rfl⟩ ?_
    refine G (T := T) 1000 rfl ?_
    exact Fe (T := T) rfl (by show xb (!_) = xb _; rw [not_any])
section
open Go Go.RowKit Go.Proofs K
abbrev strR (l : List ByteArray) : List (List D) := l.map fun s => [.c (.string s)]
theorem om {l : List ByteArray} {j : Nat} {s : ByteArray} (h : l[j]? = some s) : (strR l)[j]? = some [.c (.string s)] := by rw [List.getElem?_map, h]; rfl
variable {pk : Pk}
theorem kp (n : Int) : XQ Tryz.prog pk 163 [.a (.c (.d (.c (.int .u8 n))))] (xb (gq n)) := by
  refine XQ.en Tryz.func163 Tryz.ntmps163 (fun w0 own H V v0 hf => ?_)
  refine Gs (T := T) 1000 rfl ?_
  exact Fe (T := T) rfl rfl
theorem syn_digit (n : Int) : XQ Tryz.prog pk 185 [.a (.c (.d (.c (.int .u8 n))))] (xb (kj n)) := by
  refine XQ.en Tryz.func185 Tryz.ntmps185 (fun w0 own H V v0 hf => ?_)
  refine Gs (T := T) 1000 rfl ?_
  exact Fe (T := T) rfl rfl
theorem syn_part (n : Int) : XQ Tryz.prog pk 165 [.a (.c (.d (.c (.int .u8 n))))] (xb (iO n)) := by
  refine XQ.en Tryz.func165 Tryz.ntmps165 (fun w0 own H V v0 hf => ?_)
  refine Gs (T := T) 1000 rfl ?_
  refine Cq (kp n) rfl rfl rfl rfl rfl ⟨rfl, rfl⟩ ?_
  refine Gs (T := T) 1000 rfl ?_
  refine Cs (fun _ => syn_digit n) rfl rfl rfl rfl rfl rfl rfl rfl ?_
  refine Gs (T := T) 1000 rfl ?_
  exact Fe (T := T) rfl rfl
abbrev xu8 (n : Int) : XV := .a (.c (.d (.c (.int .u8 n))))
theorem sp_at {s : ByteArray} {k : Nat} (h : k < s.size) : s.data.toList.drop k = s.data.getD ((k : Nat) : Int).toNat 0 :: s.data.toList.drop (k + 1) := by
  have h' : k < s.data.toList.length := by simpa using h
  rw [List.drop_eq_getElem_cons h']
  congr 1
  rw [Array.getD, dif_pos (by simpa using h')]
  rfl
theorem syn_span {p : UInt8 → Bool} {fc : FuncId} {s : ByteArray} (hs : s.size ≤ 9223372036854775806) (hcl : ∀ b : UInt8, XQ Tryz.prog pk fc [xu8 (b.toNat : Int)] (xb (p b))) : XQ Tryz.prog pk 164 [xs s, xf fc [] []] (xi (eD p s.data.toList 0 : Nat)) := by
  refine XQ.en Tryz.func164 Tryz.ntmps164 (fun w0 own H V v0 hf => ?_)
  refine G (T := T) 1000 rfl ?_
  refine Lq [0, 1, 7] (fun q r => (4, xi 0) :: (8, xi (q : Nat)) :: r) (fun q => []) 0 (fun k => k ≤ s.size ∧ eD p s.data.toList 0 = eD p (s.data.toList.drop k) k) (fun q => s.size - q) 0 rfl ⟨Nat.zero_le _, rfl⟩ ?_
  rintro k ⟨hk, hI⟩
  refine G (T := T) 1000 rfl ?_
  refine If rfl (fun h => ?_) (fun h => ?_)
  · have hlt : k < s.size := by have := of_decide_eq_true h; omega
    rw [sp_at hlt] at hI; simp only [eD] at hI
    refine G (T := T) 1000 rfl ?_
    refine Cq (hcl _) rfl rfl rfl rfl rfl ⟨rfl, rfl⟩ ?_
    refine G (T := T) 1000 rfl ?_
    refine If rfl (fun h => ?_) (fun h => ?_)
    · refine G (T := T) 1000 rfl ?_
      exact Fe (T := T) rfl (by rw [hI, if_neg (by simpa using h)]; rfl)
    · refine G (T := T) 1000 rfl ?_
      exact Nq (k + 1) ⟨hlt, by rw [hI, if_pos (by simpa using h)]⟩ (by show _ - (k + 1) < _ - k; omega)
  · have hlt : s.size ≤ k := by have := of_decide_eq_false h; omega
    refine G (T := T) 1000 rfl ?_
    exact Fe (T := T) rfl (by rw [hI, List.drop_of_length_le (by simpa using hlt)]; show xi (s.size : Nat) = xi (k : Nat); rw [show s.size = k by omega])
theorem cmp_isNaN (s : ByteArray) : XQ Tryz.prog pk 203 [xs s] (xb false) := by
  refine XQ.en Tryz.func203 Tryz.ntmps203 (fun w0 own H V v0 hf => ?_)
  refine G (T := T) 1000 rfl ?_
  exact Fe (T := T) rfl (by show xb (decide (s ≠ s)) = _; simp)
theorem gv (s : ByteArray) : XQ Tryz.prog pk 184 [xs s] (xb false) := by
  refine XQ.en Tryz.func184 Tryz.ntmps184 (fun w0 own H V v0 hf => ?_)
  refine G (T := T) 1000 rfl ?_
  exact Fe (T := T) rfl (by show xb (decide (s ≠ s)) = _; simp)
theorem cmp_Less (s t : ByteArray) : XQ Tryz.prog pk 183 [xs s, xs t] (xb (em s t)) := by
  refine XQ.en Tryz.func183 Tryz.ntmps183 (fun w0 own H V v0 hf => ?_)
  refine G (T := T) 1000 rfl ?_
  refine Cq (cmp_isNaN s) rfl rfl rfl rfl rfl ⟨rfl, rfl⟩ ?_
  refine G (T := T) 1000 rfl ?_
  exact Fe (T := T) rfl rfl
theorem np : XQ Tryz.prog pk 162 [] (xr (strR kws)) := by
  refine XQ.en Tryz.func162 Tryz.ntmps162 (fun w0 own H V v0 hf => ?_)
  refine G (T := T) 1000 rfl ?_
  exact Fe (T := T) rfl rfl
theorem lw {l : List ByteArray} {s : ByteArray} {k : Nat} (hk : k ≤ l.length) (hlen : l.length ≤ 1000000) (h1 : ∀ i x, l[i]? = some x → i < k → em x s = true) (h2 : ∀ i x, l[i]? = some x → k ≤ i → em x s = false) :
    XQ Tryz.prog pk 161 [xr (strR l), xs s] (.t [.c (.d (.c (.int .i64 (k : Nat)))), .c (.d (.c (.bool (decide (l[k]? = some s)))))]) := by
  refine XQ.en Tryz.func161 Tryz.ntmps161 (fun w0 own H V v0 hf => ?_)
  have hll : (strR l).length = l.length := List.length_map ..
  refine G (T := T) 1000 rfl ?_
  refine Lq [0, 1, 6] (fun (q : Nat × Nat) r => (7, xi (q.1 : Nat)) :: (8, xi (q.2 : Nat)) :: r) (fun q => []) 0 (fun q => q.1 ≤ k ∧ k ≤ q.2 ∧ q.2 ≤ l.length) (fun q => q.2 - q.1) (0, (strR l).length) rfl ⟨Nat.zero_le _, by rw [hll]; exact hk, by rw [hll]; exact Nat.le_refl _⟩ ?_
  rintro ⟨i, j⟩ ⟨hi, hj, hjl⟩; dsimp only at *
  refine G (T := T) 1000 rfl ?_
  refine If rfl (fun h => ?_) (fun h => ?_)
  · have hlt : i < j := by have := of_decide_eq_true h; omega
    obtain ⟨m, hm⟩ : ∃ m, m = (i + j) / 2 := ⟨_, rfl⟩
    obtain ⟨y, hy⟩ := ah (l := l) (j := m) (by omega)
    have hw : ((IntKind.u64.wrap ((i : Int) + (j : Int))).fdiv (2 ^ (min (1 : Int).toNat IntKind.u64.bits)) : Int) = (m : Nat) := by
      rw [show IntKind.u64.wrap ((i : Int) + (j : Int)) = ((i + j : Nat) : Int) by rw [IntWalk.u64_in _ ⟨by omega, by omega⟩]; omega, show (2 : Int) ^ (min (1 : Int).toNat IntKind.u64.bits) = 2 from rfl, Int.fdiv_eq_ediv_of_nonneg _ (by omega)]; omega
    refine G (T := T) 22 rfl ?_ ⟨by rw [hw]; exact ⟨by omega, by omega⟩, by omega, ⟨by omega, by omega⟩, trivial⟩
    rw [hw]
    refine G (T := T) 1000 rfl ?_
    refine Ix (T := T) m (om hy) rfl rfl rfl rfl ⟨rfl, rfl⟩ rfl rfl ?_
    refine G (T := T) 1000 rfl ?_
    refine Cq (cmp_Less y s) rfl rfl rfl rfl rfl ⟨rfl, rfl⟩ ?_
    refine G (T := T) 1000 rfl ?_
    refine If rfl (fun h => ?_) (fun h => ?_)
    · have hmk : m < k := by
        by_cases hq : m < k
        · exact hq
        · have := h2 m y hy (by omega); rw [this] at h; cases h
      refine G (T := T) 1000 rfl ?_
      exact Nq (m + 1, j) ⟨hmk, hj, hjl⟩ (by show j - (m + 1) < j - i; omega)
    · have hmk : k ≤ m := by
        by_cases hq : m < k
        · have := h1 m y hy hq; rw [this] at h; cases h
        · omega
      refine G (T := T) 1000 rfl ?_
      exact Nq (i, m) ⟨hi, hmk, by dsimp only; omega⟩ (by show m - i < j - i; omega)
  · have hij := of_decide_eq_false h
    obtain rfl : i = k := by omega
    refine Gs (T := T) 1000 rfl ?_
    have hx : ∀ c : Bool, c = decide ((i : Int) < (strR l).length) → c = true → (strR l)[i]? = some [.c (.string (l.getD i eS))] := by
      rintro _ rfl hc
      have := of_decide_eq_true hc; rw [hll] at this
      exact om (by rw [List.getD_eq_getElem?_getD]; obtain ⟨y, hy⟩ := ah (l := l) (j := i) (by omega); rw [hy]; rfl)
    refine Is (T := T) i [.c (.string (l.getD i eS))] (fun h => ⟨hx _ rfl h, rfl⟩) rfl rfl rfl rfl rfl rfl rfl rfl ?_
    refine Gs (T := T) 1000 rfl ?_
    refine Is (T := T) i [.c (.string (l.getD i eS))] (fun h => ⟨hx _ rfl (Bool.and_eq_true_iff.1 h).1, rfl⟩) rfl rfl rfl rfl rfl rfl rfl rfl ?_
    refine Gs (T := T) 1000 rfl ?_
    refine Cs (fun _ => gv _) rfl rfl rfl rfl rfl rfl rfl rfl ?_
    refine Gs (T := T) 1000 rfl ?_
    refine Cs (fun _ => gv _) rfl rfl rfl rfl rfl rfl rfl rfl ?_
    refine Gs (T := T) 1000 rfl ?_
    refine Fe (T := T) rfl ?_
    show XV.t [_, .c (.d (.c (.bool (_ && (decide (l.getD i eS = s) || _)))))] = _
    congr 5
    by_cases hq : i < l.length
    · obtain ⟨y, hy⟩ := ah hq
      simp [hy, hq]
    · simp [List.getElem?_eq_none (Nat.le_of_not_lt hq), hq]
theorem kq (s : ByteArray) (h : s ≠ eS) : firstB s = ((s.data.getD (0 : Int).toNat 0).toNat : Int) := by
  obtain ⟨b, h1, h2⟩ := first_at (s := s) h
  rw [h2]
  obtain ⟨⟨l⟩⟩ := s
  cases l with
  | nil => exact absurd rfl h
  | cons c r => rw [oj] at h1; cases h1; rfl
theorem aQ {s : ByteArray} (hs : s.size ≤ 9223372036854775806) : XQ Tryz.prog pk 129 [xs s] (xb (aj s)) := by
  obtain ⟨k, hk, hk1, hk2⟩ := gt s ko
  have hfm := found_mem ko hk1 hk2
  have h0 : ¬ s = ⟨#[]⟩ → 0 < s.size := fun h => Nat.pos_of_ne_zero fun e => h (by obtain ⟨a⟩ := s; exact congrArg ByteArray.mk (Array.eq_empty_of_size_eq_zero e))
  refine XQ.en Tryz.func129 Tryz.ntmps129 (fun w0 own H V v0 hf => ?_)
  refine Gs (T := T) 1000 rfl ?_
  refine Cq np rfl rfl rfl rfl rfl ⟨rfl, rfl⟩ ?_
  refine Gs (T := T) 1000 rfl ?_
  refine Cq (lw hk (by decide) hk1 hk2) rfl rfl rfl rfl rfl ⟨rfl, rfl⟩ ?_
  refine Gs (T := T) 1000 rfl ?_
  refine Cs (fun _ => kp _) rfl rfl rfl rfl rfl rfl rfl rfl ?_
  refine Gs (T := T) 1000 rfl ?_
  refine Cs (fun _ => syn_span hs (fun b => syn_part _)) rfl rfl rfl rfl rfl rfl rfl rfl ?_
  refine Gs (T := T) 1000 rfl ?_
  refine Fe (T := T) rfl ?_
  show xb (_ && decide ((s.size : Int) ≤ 24) && !decide (kws[k]? = some s) && _ && decide (((eD (fun b => iO (b.toNat : Int)) s.data.toList 0 : Nat) : Int) = (s.size : Int))) = xb _
  rw [hfm, aj]
  by_cases hq : s = eS
  · simp [hq, eS]
  · rw [kq s hq, show decide ((s.size : Int) ≤ 24) = decide (s.size ≤ 24) from decide_eq_decide.2 (by omega), show ∀ a b : Nat, decide ((a : Int) = (b : Int)) = decide (a = b) from fun a b => decide_eq_decide.2 (by omega)]
end
end Go.Proofs.YtlmahofogapkgaaGreatDoor.X
namespace Go.Proofs.YtlmahofogapkgaaGreatDoor.K
open Go Go.RowKit Go.Proofs
abbrev w_u16 : ByteArray := ⟨#[117, 49, 54]⟩
abbrev w_u8 : ByteArray := ⟨#[117, 56]⟩
abbrev w_s16 : ByteArray := ⟨#[115, 49, 54]⟩
abbrev fN : ByteArray := ⟨#[116, 121, 112, 101]⟩
abbrev cE : ByteArray := ⟨#[97, 114, 114, 97, 121]⟩
abbrev gw : ByteArray := ⟨#[112, 116, 114]⟩
abbrev w_void : ByteArray := ⟨#[118, 111, 105, 100]⟩
abbrev w_num : ByteArray := ⟨#[110, 117, 109]⟩
abbrev w_id : ByteArray := ⟨#[105, 100]⟩
abbrev gx : ByteArray := ⟨#[115, 101, 108, 101, 99, 116]⟩
abbrev jo : ByteArray := ⟨#[105, 110, 100, 101, 120]⟩
abbrev jp : ByteArray := ⟨#[100, 101, 114, 101, 102]⟩
abbrev nq : ByteArray := ⟨#[97, 100, 100, 114]⟩
abbrev nr : ByteArray := ⟨#[109, 101, 109, 56]⟩
abbrev jq : ByteArray := ⟨#[109, 101, 109, 49, 54]⟩
abbrev ns : ByteArray := ⟨#[114, 111, 109, 56]⟩
abbrev jr : ByteArray := ⟨#[114, 111, 109, 49, 54]⟩
abbrev w_in : ByteArray := ⟨#[105, 110]⟩
abbrev jt : ByteArray := ⟨#[117, 110, 97, 114, 121]⟩
abbrev gy : ByteArray := ⟨#[98, 105, 110, 97, 114, 121]⟩
abbrev nt : ByteArray := ⟨#[99, 97, 108, 108]⟩
abbrev nu : ByteArray := ⟨#[99, 97, 115, 116]⟩
abbrev w_let : ByteArray := ⟨#[108, 101, 116]⟩
abbrev dF : ByteArray := ⟨#[97, 115, 115, 105, 103, 110]⟩
abbrev w_if : ByteArray := ⟨#[105, 102]⟩
abbrev gz : ByteArray := ⟨#[119, 104, 105, 108, 101]⟩
abbrev ku : ByteArray := ⟨#[108, 111, 111, 112]⟩
abbrev gA : ByteArray := ⟨#[98, 108, 111, 99, 107]⟩
abbrev gC : ByteArray := ⟨#[98, 114, 101, 97, 107]⟩
abbrev c6 : ByteArray := ⟨#[99, 111, 110, 116, 105, 110, 117, 101]⟩
abbrev c7 : ByteArray := ⟨#[115, 119, 105, 116, 99, 104]⟩
abbrev dG : ByteArray := ⟨#[114, 101, 116, 117, 114, 110]⟩
abbrev w_out : ByteArray := ⟨#[111, 117, 116]⟩
abbrev kv : ByteArray := ⟨#[112, 111, 108, 108]⟩
abbrev ky : ByteArray := ⟨#[104, 97, 108, 116]⟩
abbrev w_do : ByteArray := ⟨#[100, 111]⟩
abbrev d4 : ByteArray := ⟨#[116, 104, 101, 110]⟩
abbrev eG : ByteArray := ⟨#[101, 108, 115, 101]⟩
abbrev bH : ByteArray := ⟨#[98, 111, 100, 121]⟩
abbrev w_case : ByteArray := ⟨#[99, 97, 115, 101]⟩
abbrev bl : ByteArray := ⟨#[100, 101, 102, 97, 117, 108, 116]⟩
abbrev cF : ByteArray := ⟨#[112, 97, 114, 97, 109]⟩
abbrev be : ByteArray := ⟨#[112, 97, 114, 97, 109, 115]⟩
abbrev gD : ByteArray := ⟨#[102, 105, 101, 108, 100]⟩
abbrev dH : ByteArray := ⟨#[114, 101, 115, 117, 108, 116]⟩
abbrev oo : ByteArray := ⟨#[115, 116, 114, 117, 99, 116]⟩
abbrev gE : ByteArray := ⟨#[117, 110, 105, 111, 110]⟩
abbrev w_at : ByteArray := ⟨#[97, 116]⟩
abbrev gF : ByteArray := ⟨#[118, 97, 114]⟩
abbrev ju : ByteArray := ⟨#[99, 111, 110, 115, 116]⟩
abbrev eH : ByteArray := ⟨#[98, 97, 110, 107]⟩
abbrev w_bytes : ByteArray := ⟨#[98, 121, 116, 101, 115]⟩
abbrev cI : ByteArray := ⟨#[101, 120, 116, 101, 114, 110]⟩
abbrev w_fn : ByteArray := ⟨#[102, 110]⟩
abbrev cO : ByteArray := ⟨#[116, 121, 112, 101, 115]⟩
abbrev bZ : ByteArray := ⟨#[103, 108, 111, 98, 97, 108, 115]⟩
abbrev d5 : ByteArray := ⟨#[102, 117, 110, 99, 115]⟩
abbrev lR : ByteArray := ⟨#[112, 114, 111, 103, 114, 97, 109]⟩
def aG (w p : ByteArray) : ByteArray := if p = ⟨#[]⟩ then w else w ++ (⟨#[32]⟩ ++ p)
def d6 (n : Nat) : List UInt8 := if n < 10 then [UInt8.ofNat (48 + n)] else d6 (n / 10) ++ [UInt8.ofNat (48 + n % 10)]
termination_by n
decreasing_by omega
def cw (n : Nat) : ByteArray := bb (d6 n)
def hexD (n : Nat) : UInt8 := if n < 10 then UInt8.ofNat (48 + n) else UInt8.ofNat (87 + n)
def fB : List UInt8 → List UInt8
  | [] => []
  | b :: r => hexD (b.toNat / 16) :: hexD (b.toNat % 16) :: fB r
def hexB (s : ByteArray) : ByteArray := bb (fB s.data.toList)
def tyL (k : Int) (nm : ByteArray) (n : Int) : ByteArray :=
  if k = 1 then w_u16
  else if k = 2 then w_u8
  else if k = 3 then w_s16
  else if k = 4 then aG fN nm
  else if k = 5 then aG cE (cw n.toNat)
  else if k = 6 then aG gw (cw n.toNat)
  else if k = 7 then w_void
  else eS
mutual
def tTy : Ty4 → Tr
  | .mk k nm n ts => .node (tyL k nm n) (tTys ts)
def tTys : List Ty4 → List Tr
  | [] => []
  | t :: r => tTy t :: tTys r
end
def exW (k : Int) : ByteArray :=
  if k = 1 then w_num
  else if k = 2 then w_id
  else if k = 3 then gx
  else if k = 4 then jo
  else if k = 5 then jp
  else if k = 6 then nq
  else if k = 7 then nr
  else if k = 8 then jq
  else if k = 9 then ns
  else if k = 10 then jr
  else if k = 11 then w_in
  else if k = 12 then jt
  else if k = 13 then gy
  else if k = 14 then nt
  else if k = 15 then nu
  else eS
def dn (k : Int) : Bool := decide (k = 1 ∨ k = 9 ∨ k = 10 ∨ k = 11)
mutual
def tEx : Ex → Tr
  | .mk k nm n ks => .node (aG (exW k) (if dn k then cw n.toNat else nm)) (eo ks)
def eo : List Ex → List Tr
  | [] => []
  | t :: r => tEx t :: eo r
end
def smW (k : Int) : ByteArray :=
  if k = 1 then w_let
  else if k = 2 then dF
  else if k = 3 then w_if
  else if k = 4 then gz
  else if k = 5 then ku
  else if k = 6 then gA
  else if k = 7 then gC
  else if k = 8 then c6
  else if k = 9 then c7
  else if k = 10 then dG
  else if k = 11 then w_out
  else if k = 12 then kv
  else if k = 13 then ky
  else if k = 14 then w_do
  else eS
def smL (k : Int) (nm : ByteArray) (n : Int) : ByteArray := aG (smW k) (if k = 11 then cw n.toNat else nm)
def smT (k : Int) (b el cs : List Tr) : List Tr :=
  if k = 3 then [.node d4 b, .node eG el]
  else if k = 4 then [.node bH b]
  else if k = 5 ∨ k = 6 then b
  else if k = 9 then cs ++ [.node bl el]
  else []
mutual
def tSm : Sm → Tr
  | .mk k nm t n xs b el cs => .node (smL k nm n) ((if k = 1 then [tTy t] else []) ++ (eo xs ++ smT k (dh b) (dh el) (tCs cs)))
def dh : List Sm → List Tr
  | [] => []
  | t :: r => tSm t :: dh r
def tCs : List (List Sm) → List Tr
  | [] => []
  | c :: r => .node w_case (dh c) :: tCs r
end
theorem kz : ∀ l, eo l = l.map tEx
  | [] => rfl
  | t :: r => by simp only [eo, List.map_cons, kz r]
theorem eI : ∀ l, dh l = l.map tSm
  | [] => rfl
  | t :: r => by simp only [dh, List.map_cons, eI r]
theorem nv : ∀ l, tCs l = l.map fun c => Tr.node w_case (dh c)
  | [] => rfl
  | t :: r => by simp only [tCs, List.map_cons, nv r]
def d7 (w : ByteArray) (p : Par) : Tr := .node (aG w p.nm) [tTy p.ty]
def tTd (t : Td) : Tr := .node (aG (if t.un then gE else oo) t.nm) (t.fs.map (d7 gD))
def fO (w : ByteArray) (n : Int) : Tr := .node (aG w (cw n.toNat)) []
def tGb (g : Gb) : Tr :=
  if g.bank < 0 then .node (aG gF g.nm) [tTy g.ty, fO w_at g.addr]
  else .node (aG ju g.nm) [tTy g.ty, fO eH g.bank, fO w_at g.addr, .node (aG w_bytes (hexB g.bytes)) []]
def tFu (f : Fu) : Tr :=
  if f.fl then .node (aG cI f.nm) [.node be (f.ps.map (d7 cF)), .node dH [tTy f.res], fO eH f.x, fO w_at f.y]
  else .node (aG w_fn f.nm) [.node be (f.ps.map (d7 cF)), .node dH [tTy f.res], .node bH (dh f.body)]
def tPg (p : Pg) : Tr := .node lR [.node cO (p.ts.map tTd), .node bZ (p.gs.map tGb), .node d5 (p.fs.map tFu)]
def dp (p : Pg) : Tr := if rPg p then tPg p else Tr.zero
theorem c8 {n : Nat} (h : n < 10) : d6 n = [UInt8.ofNat (48 + n)] := by rw [d6, if_pos h]
theorem gG {n : Nat} (h : ¬ n < 10) : d6 n = d6 (n / 10) ++ [UInt8.ofNat (48 + n % 10)] := by rw [d6, if_neg h]
theorem decN_ne (n : Nat) : d6 n ≠ [] := by
  by_cases h : n < 10
  · rw [c8 h]; simp
  · rw [gG h]; simp
theorem kA : ∀ (m n : Nat), n < 10 ^ (m + 1) → (d6 n).length ≤ m + 1
  | 0, n, h => by rw [c8 (by simpa using h)]; simp
  | m + 1, n, h => by
    by_cases h9 : n < 10
    · rw [c8 h9]; simp
    · rw [gG h9, List.length_append]
      have := kA m (n / 10) (by rw [Nat.pow_succ] at h; omega)
      simp; omega
def cy : List UInt8 → Nat
  | [] => 0
  | b :: r => if b = 32 then 0 else cy r + 1
def ad (s : ByteArray) : ByteArray := bb (s.data.toList.take (cy s.data.toList))
def ae (s : ByteArray) : ByteArray := bb (s.data.toList.drop (cy s.data.toList + 1))
theorem cutN_le : ∀ l : List UInt8, cy l ≤ l.length
  | [] => Nat.le_refl _
  | b :: r => by
    have := cutN_le r
    simp only [cy, List.length_cons]; split <;> omega
theorem nw : ∀ (l r : List UInt8), (∀ b ∈ l, b ≠ 32) → cy (l ++ r) = l.length + cy r
  | [], r, _ => by simp
  | b :: l, r, h => by
    have h1 : b ≠ 32 := h b (by simp)
    simp only [List.cons_append, cy, if_neg h1, nw l r (fun x hx => h x (by simp [hx])), List.length_cons]; omega
def noSp (w : ByteArray) : Bool := w.data.toList.all fun b => decide (b ≠ 32)
theorem oq {w : ByteArray} (h : noSp w = true) : ∀ b ∈ w.data.toList, b ≠ 32 := fun b hb => by
  have := List.all_eq_true.1 h b hb
  simpa using this
theorem jx (s : ByteArray) : bb s.data.toList = s := by unfold bb; simp
theorem dc (a b : ByteArray) : (a ++ b).data.toList = a.data.toList ++ b.data.toList := by simp
theorem lS {α : Type} (b : α) (r : List α) : ∀ l : List α, (l ++ b :: r).drop (l.length + 1) = r
  | [] => rfl
  | _ :: l => by simpa using lS b r l
theorem ot {w p : ByteArray} (h : noSp w = true) : cy (w ++ ((⟨#[32]⟩ : ByteArray) ++ p)).data.toList = w.data.toList.length := by
  rw [dc, nw _ _ (oq h), dc]
  simp [cy]
theorem ou {w : ByteArray} (h : noSp w = true) : cy w.data.toList = w.data.toList.length := by
  have e := nw w.data.toList [] (oq h)
  rw [List.append_nil] at e
  rw [e]; rfl
theorem bm {w p : ByteArray} (h : noSp w = true) : ad (aG w p) = w := by
  unfold aG ad
  split
  · rw [ou h, List.take_length]; exact jx w
  · rw [ot h, dc, List.take_left]; exact jx w
theorem aU {w p : ByteArray} (h : noSp w = true) : ae (aG w p) = p := by
  unfold aG ae
  split
  · rename_i hp
    rw [ou h, List.drop_of_length_le (Nat.le_succ _), hp]; rfl
  · rw [ot h, dc, dc]
    show bb ((w.data.toList ++ 32 :: p.data.toList).drop _) = p
    rw [lS]; exact jx p
def d8 : List UInt8 → Nat → Option Nat
  | [], acc => some acc
  | b :: r, acc => if 48 ≤ b.toNat ∧ b.toNat ≤ 57 then d8 r (acc * 10 + (b.toNat - 48)) else none
def dI (l : List UInt8) : Option Nat := if l = [] then none else d8 l 0
def sgnV : List UInt8 → Option Int
  | 45 :: r => (dI r).map fun n => -(n : Int)
  | 43 :: r => (dI r).map fun n => (n : Int)
  | l => (dI l).map fun n => (n : Int)
def bh (s : ByteArray) : Option Int := (sgnV s.data.toList).bind fun n => if -9223372036854775808 ≤ n ∧ n ≤ 9223372036854775807 then some n else none
theorem lT : ∀ (l : List UInt8) (acc : Nat) (b : UInt8), 48 ≤ b.toNat → b.toNat ≤ 57 → d8 (l ++ [b]) acc = (d8 l acc).map fun n => n * 10 + (b.toNat - 48)
  | [], acc, b, h1, h2 => by simp [d8, h1, h2]
  | c :: r, acc, b, h1, h2 => by
    simp only [List.cons_append, d8]
    split
    · exact lT r _ b h1 h2
    · rfl
theorem jy {d : Nat} (h : d < 10) : (UInt8.ofNat (48 + d)).toNat = 48 + d := by simp; omega
theorem kB : ∀ n : Nat, d8 (d6 n) 0 = some n := fun n => by
  induction n using Nat.strongRecOn with
  | _ n ih =>
    by_cases h : n < 10
    · rw [c8 h]
      have := jy h
      simp only [d8, this]
      rw [if_pos (by omega)]; simp
    · rw [gG h]
      have := jy (d := n % 10) (by omega)
      rw [lT _ _ _ (by omega) (by omega), ih (n / 10) (by omega), this]
      simp; omega
theorem kC : ∀ n : Nat, ∀ b ∈ d6 n, 48 ≤ b.toNat ∧ b.toNat ≤ 57 := fun n => by
  induction n using Nat.strongRecOn with
  | _ n ih =>
    by_cases h : n < 10
    · rw [c8 h]
      have := jy h
      simp only [List.mem_singleton]; rintro b rfl; omega
    · rw [gG h]
      have := jy (d := n % 10) (by omega)
      simp only [List.mem_append, List.mem_singleton]
      rintro b (hb | rfl)
      · exact ih (n / 10) (by omega) b hb
      · omega
theorem sgnV_dec (n : Nat) : sgnV (d6 n) = some (n : Int) := by
  have h := kC n
  have hv : dI (d6 n) = some n := by rw [dI, if_neg (decN_ne n), kB]
  unfold sgnV
  split
  · rename_i r e
    have := h 45 (by rw [e]; simp)
    simp at this
  · rename_i r e
    have := h 43 (by rw [e]; simp)
    simp at this
  · rw [hv]; rfl
theorem eJ {n : Int} (h0 : 0 ≤ n) (h1 : n ≤ 9223372036854775807) : bh (cw n.toNat) = some n := by
  unfold bh cw bb
  simp only
  rw [sgnV_dec]
  simp only [Option.bind_some]
  rw [if_pos (by omega)]
  congr 1; omega
def bV (b : UInt8) : Option Nat := if 48 ≤ b.toNat ∧ b.toNat ≤ 57 then some (b.toNat - 48) else if 97 ≤ b.toNat ∧ b.toNat ≤ 102 then some (b.toNat - 87) else none
def fP : List UInt8 → Option (List UInt8)
  | [] => some []
  | [_] => none
  | a :: b :: r => (bV a).bind fun x => (bV b).bind fun y => (fP r).map fun l => UInt8.ofNat (16 * x + y) :: l
def fQ (s : ByteArray) : Option ByteArray := (fP s.data.toList).map bb
theorem kD {d : Nat} (h : d < 16) : bV (hexD d) = some d := by
  have : ∀ d, d < 16 → bV (hexD d) = some d := by decide +kernel
  exact this d h
theorem kE : ∀ l, fP (fB l) = some l
  | [] => rfl
  | b :: r => by
    have hb := b.toNat_lt
    simp only [fB, fP, kD (show b.toNat / 16 < 16 by omega), kD (show b.toNat % 16 < 16 by omega), Option.bind_some, kE r, Option.map_some]
    rw [show 16 * (b.toNat / 16) + b.toNat % 16 = b.toNat by omega]
    simp
theorem pz (s : ByteArray) : fQ (hexB s) = some s := by
  unfold fQ hexB
  rw [show (bb (fB s.data.toList)).data.toList = fB s.data.toList from by simp [bb], kE, Option.map_some, jx]
def aA {α : Type} (ks : List Tr) (i : Nat) (f : Tr → Option α) : Option α := (ks[i]?).bind f
def allO {α : Type} : List (Option α) → Option (List α)
  | [] => some []
  | x :: r => x.bind fun a => (allO r).map fun l => a :: l
theorem lU {α : Type} : ∀ l : List α, allO (l.map some) = some l
  | [] => rfl
  | a :: r => by simp [allO, lU r]
def di {α : Type} (ks : List Tr) (r : List (Option α)) (i : Nat) (w : ByteArray) : Option α := (ks[i]?).bind fun t => if t.lab = w then (r[i]?).bind id else none
def fTy : Tr → Option Ty4
  | .node L ks =>
    if ad L = w_u16 then some (.mk 1 eS 0 [])
    else if ad L = w_u8 then some (.mk 2 eS 0 [])
    else if ad L = w_s16 then some (.mk 3 eS 0 [])
    else if ad L = w_void then some (.mk 7 eS 0 [])
    else if ad L = fN then some (.mk 4 (ae L) 0 [])
    else if ad L = cE ∨ ad L = gw then (bh (ae L)).bind fun n => match ks with
      | [] => none
      | k :: _ => (fTy k).map fun t => .mk (if ad L = cE then 5 else 6) eS n [t]
    else none
def gH : List (Int × ByteArray) := [(1, w_num), (2, w_id), (3, gx), (4, jo), (5, jp), (6, nq), (7, nr), (8, jq), (9, ns), (10, jr), (11, w_in), (12, jt), (13, gy), (14, nt), (15, nu)]
def aC : List (Int × ByteArray) → ByteArray → Option Int
  | [], _ => none
  | (k, w) :: r, s => if w = s then some k else aC r s
mutual
def fEx : Tr → Option Ex
  | .node L ks => (aC gH (ad L)).bind fun k => (fR ks).bind fun xs =>
    if dn k then (bh (ae L)).map fun n => .mk k eS (IntKind.u16.wrap n) xs else some (.mk k (ae L) 0 xs)
def fR : List Tr → Option (List Ex)
  | [] => some []
  | t :: r => (fEx t).bind fun x => (fR r).map fun l => x :: l
end
def cq : List (Int × ByteArray) := [(1, w_let), (2, dF), (3, w_if), (4, gz), (5, ku), (6, gA), (7, gC), (8, c6), (9, c7), (10, dG), (11, w_out), (12, kv), (13, ky), (14, w_do)]
def ep (k : Int) (p : ByteArray) (ks : List Tr) (ss : Option (List Sm)) (cs : List (Option (List Sm))) : Option Sm :=
  if k = 1 then (aA ks 0 fTy).bind fun t => (aA ks 1 fEx).map fun x => .mk 1 p t 0 [x] [] [] []
  else if k = 3 then (aA ks 0 fEx).bind fun x => (di ks cs 1 d4).bind fun b => (di ks cs 2 eG).map fun e => .mk 3 eS ty4z 0 [x] b e []
  else if k = 4 then (aA ks 0 fEx).bind fun x => (di ks cs 1 bH).map fun b => .mk 4 p ty4z 0 [x] b [] []
  else if k = 5 ∨ k = 6 then ss.map fun b => .mk k p ty4z 0 [] b [] []
  else if k = 7 ∨ k = 8 then some (.mk k p ty4z 0 [] [] [] [])
  else if k = 9 then if ks.length < 2 then none else (aA ks 0 fEx).bind fun x => (allO ((cs.take (ks.length - 1)).drop 1)).bind fun c => (di ks cs (ks.length - 1) bl).map fun e => .mk 9 eS ty4z 0 [x] [] e c
  else if k = 12 ∨ k = 13 then some (.mk k eS ty4z 0 [] [] [] [])
  else (fR ks).bind fun xs => if k = 11 then (bh p).map fun n => .mk 11 eS ty4z (IntKind.u16.wrap n) xs [] [] [] else some (.mk k eS ty4z 0 xs [] [] [])
mutual
def fSm : Tr → Option Sm
  | .node L ks => (aC cq (ad L)).bind fun k => ep k (ae L) ks (dJ ks) (fKs ks)
def dJ : List Tr → Option (List Sm)
  | [] => some []
  | t :: r => (fSm t).bind fun x => (dJ r).map fun l => x :: l
def fKs : List Tr → List (Option (List Sm))
  | [] => []
  | .node _ ks :: r => dJ ks :: fKs r
end
def eK : Tr → Option Par
  | .node L ks => (aA ks 0 fTy).map fun t => ⟨ae L, t⟩
def bu {α β : Type} (f : α → Option β) : List α → Option (List β)
  | [] => some []
  | t :: r => (f t).bind fun x => (bu f r).map fun l => x :: l
def fTd : Tr → Option Td
  | .node L ks => (bu eK ks).map fun l => ⟨ae L, decide (ad L = gE), l⟩
def dj (ks : List Tr) (i : Nat) : Option Int := aA ks i fun t => bh (ae t.lab)
def fGb : Tr → Option Gb
  | .node L ks => (aA ks 0 fTy).bind fun t =>
    if ad L = gF then (dj ks 1).map fun a => ⟨ae L, t, -1, IntKind.u16.wrap a, eS⟩
    else (dj ks 1).bind fun b => (dj ks 2).bind fun a => (aA ks 3 fun x => fQ (ae x.lab)).map fun s => ⟨ae L, t, b, IntKind.u16.wrap a, s⟩
def bv (ks : List Tr) (i : Nat) (w : ByteArray) : Option (List Tr) := (ks[i]?).bind fun t => if t.lab = w then some t.kids else none
def fFu : Tr → Option Fu
  | .node L ks => ((bv ks 0 be).bind (bu eK)).bind fun ps => (aA ks 1 fun t => aA t.kids 0 fTy).bind fun r =>
    if ad L = cI then (dj ks 2).bind fun b => (dj ks 3).map fun a => ⟨ae L, ps, r, [], true, b, IntKind.u16.wrap a⟩
    else ((bv ks 2 bH).bind dJ).map fun b => ⟨ae L, ps, r, b, false, 0, 0⟩
def fPg0 : Tr → Option Pg
  | .node _ ks => ((bv ks 0 cO).bind (bu fTd)).bind fun ts => ((bv ks 1 bZ).bind (bu fGb)).bind fun gs => ((bv ks 2 d5).bind (bu fFu)).map fun fs => ⟨ts, gs, fs⟩
def fPg (t : Tr) : Option Pg := (fPg0 t).bind fun p => if rPg p = true ∧ tPg p = t then some p else none
theorem dK {n : Int} (h0 : 0 ≤ n) (h1 : n ≤ 65535) : IntKind.u16.wrap n = n := by
  unfold IntKind.wrap
  simp [IntKind.bits, IntKind.signed] <;> omega
mutual
theorem kF : ∀ t : Ty4, (rTy t = true ∨ aD t 7 = true) → fTy (tTy t) = some t
  | .mk k nm n ts, h => by
    rcases h with h | h
    · simp only [rTy] at h
      split at h
      · rename_i hk; subst hk
        simp only [Bool.and_eq_true, decide_eq_true_eq] at h
        obtain ⟨⟨h1, rfl⟩, h3⟩ := h
        rw [List.length_eq_zero_iff] at h3; subst h3
        show fTy (.node (aG fN nm) []) = _
        simp only [fTy]
        rw [bm (by decide), aU (by decide), if_neg (by decide), if_neg (by decide), if_neg (by decide), if_neg (by decide), if_pos rfl]
      · split at h
        · rename_i h4 hk
          simp only [Bool.and_eq_true, decide_eq_true_eq] at h
          obtain ⟨⟨rfl, rfl⟩, h3⟩ := h
          rw [List.length_eq_zero_iff] at h3; subst h3
          rcases hk with rfl | rfl | rfl <;> (simp only [tTy, tyL, fTy]; rfl)
        · split at h
          · rename_i h4 h123 hk
            simp only [Bool.and_eq_true, decide_eq_true_eq] at h
            obtain ⟨⟨⟨⟨rfl, h0⟩, h1⟩, h3⟩, h5⟩ := h
            match ts, h3, h5 with
            | [t], _, h5 =>
              simp only [rTys, Bool.and_true] at h5
              have ih := kF t (.inl h5)
              have hn : n ≤ 65535 := by split at h1 <;> omega
              rcases hk with rfl | rfl
              · show fTy (.node (aG cE (cw n.toNat)) [tTy t]) = _
                simp only [fTy]
                rw [bm (by decide), aU (by decide), eJ h0 (by omega), if_neg (by decide), if_neg (by decide), if_neg (by decide), if_neg (by decide), if_neg (by decide), if_pos (by decide)]
                simp only [Option.bind_some, ih, Option.map_some]; rfl
              · show fTy (.node (aG gw (cw n.toNat)) [tTy t]) = _
                simp only [fTy]
                rw [bm (by decide), aU (by decide), eJ h0 (by omega), if_neg (by decide), if_neg (by decide), if_neg (by decide), if_neg (by decide), if_neg (by decide), if_pos (by decide)]
                simp only [Option.bind_some, ih, Option.map_some]; rfl
          · cases h
    · simp only [aD, Bool.and_eq_true, decide_eq_true_eq] at h
      obtain ⟨⟨⟨rfl, rfl⟩, rfl⟩, h4⟩ := h
      rw [List.length_eq_zero_iff] at h4; subst h4
      simp only [tTy, tyL, fTy]; rfl
end
theorem exW_look {k : Int} (h : 1 ≤ k ∧ k ≤ 15) : aC gH (exW k) = some k ∧ noSp (exW k) = true := by
  have : k = 1 ∨ k = 2 ∨ k = 3 ∨ k = 4 ∨ k = 5 ∨ k = 6 ∨ k = 7 ∨ k = 8 ∨ k = 9 ∨ k = 10 ∨ k = 11 ∨ k = 12 ∨ k = 13 ∨ k = 14 ∨ k = 15 := by omega
  rcases this with rfl | rfl | rfl | rfl | rfl | rfl | rfl | rfl | rfl | rfl | rfl | rfl | rfl | rfl | rfl <;> decide
theorem smW_look {k : Int} (h : 1 ≤ k ∧ k ≤ 14) : aC cq (smW k) = some k ∧ noSp (smW k) = true := by
  have : k = 1 ∨ k = 2 ∨ k = 3 ∨ k = 4 ∨ k = 5 ∨ k = 6 ∨ k = 7 ∨ k = 8 ∨ k = 9 ∨ k = 10 ∨ k = 11 ∨ k = 12 ∨ k = 13 ∨ k = 14 := by omega
  rcases this with rfl | rfl | rfl | rfl | rfl | rfl | rfl | rfl | rfl | rfl | rfl | rfl | rfl | rfl <;> decide
theorem cd : ∀ {l : List (Int × ByteArray)} {s : ByteArray} {k : Int}, aC l s = some k → (k, s) ∈ l
  | (k', w) :: r, s, k, h => by
    simp only [aC] at h
    split at h
    · rename_i e; injection h with h; subst e h; simp
    · exact List.mem_cons_of_mem _ (cd h)
def ints (l : List Int) : List D := (l.map (Value.int .i64)).map D.c
section
variable {P : Program} {w0 : World} {N : Nat} {Q : Exit → Act → World → Prop} {env : Env} {own : List Seg} {H : Hp}
end
section
variable {P : Program} {w0 : World} {N : Nat} {Q : Exit → Act → World → Prop} {env : Env} {own : List Seg} {H : Hp}
end
theorem al {s : ByteArray} (h : aj s = true) : s.size ≤ 24 := by
  simp only [aj, Bool.and_eq_true, decide_eq_true_eq] at h
  exact h.1.1.1.2
def tyW (k : Int) : Ty4 := .mk k eS 0 []
def tyA (n k : Int) : Ty4 := .mk 5 eS n [tyW k]
def tyN (s : ByteArray) : Ty4 := .mk 4 s 0 []
def TdG (t : Td) : Prop := rTd t = true ∧ t.ok 100
def GbG (t : Gb) : Prop := rGb t = true ∧ t.ok 100
def gS : ByteArray := ⟨#[83]⟩
def gU : ByteArray := ⟨#[85]⟩
def tdS : Td := ⟨gS, false, [⟨⟨#[97]⟩, tyW 1⟩, ⟨⟨#[98]⟩, tyW 2⟩, ⟨⟨#[99]⟩, tyW 3⟩, ⟨⟨#[100]⟩, tyA 4 2⟩]⟩
def tdU : Td := ⟨gU, true, [⟨⟨#[119]⟩, tyW 1⟩, ⟨⟨#[108]⟩, tyW 2⟩]⟩
def gbs0 : List Gb := [⟨⟨#[103, 48]⟩, tyW 1, -1, 16384, eS⟩, ⟨⟨#[103, 49]⟩, tyW 3, -1, 16386, eS⟩, ⟨⟨#[103, 50]⟩, tyW 2, -1, 16388, eS⟩, ⟨⟨#[97, 114, 114]⟩, tyA 8 1, -1, 16390, eS⟩, ⟨⟨#[98, 121, 116, 101, 115]⟩, tyA 16 2, -1, 16416, eS⟩]
def gbS : Gb := ⟨⟨#[103, 115]⟩, tyN gS, -1, 16448, eS⟩
def gbU : Gb := ⟨⟨#[103, 117]⟩, tyN gU, -1, 16464, eS⟩
def gbT (s : ByteArray) : Gb := ⟨⟨#[116, 97, 98]⟩, tyA 8 2, 0, 3584, s⟩
def gbW (s : ByteArray) : Gb := ⟨⟨#[119, 111, 114, 100, 115]⟩, tyA 4 1, 1, 256, s⟩
theorem eL {k : Int} (h : I64 k) : (tyW k).ok ∧ (tyW k).size ≤ 100 := ⟨⟨h, by decide, ⟨by omega, by omega⟩, trivial⟩, by simp [tyW, Ty4.size, Ty4.sizes]⟩
theorem kG {n k : Int} (h : I64 k) (hn : I64 n) : (tyA n k).ok ∧ (tyA n k).size ≤ 100 := ⟨⟨⟨by omega, by omega⟩, by decide, hn, ⟨h, by decide, ⟨by omega, by omega⟩, trivial⟩, trivial⟩, by simp [tyA, tyW, Ty4.size, Ty4.sizes]⟩
theorem tyN_ok {s : ByteArray} (h : s.size ≤ 1000000) : (tyN s).ok ∧ (tyN s).size ≤ 100 := ⟨⟨⟨by omega, by omega⟩, h, ⟨by omega, by omega⟩, trivial⟩, by simp [tyN, Ty4.size, Ty4.sizes]⟩
theorem GbG.of {nm s : ByteArray} {t : Ty4} {k n : Int} (h : rGb ⟨nm, t, k, n, s⟩ = true) (ht : t.ok ∧ t.size ≤ 100) (hn : 0 ≤ n ∧ n ≤ 65535) (hk : I64 k) (hs : s.size ≤ 100) : GbG ⟨nm, t, k, n, s⟩ := by
  refine ⟨h, ?_, ht.1, ht.2, hk, hn, hs⟩
  simp only [rGb, Bool.and_eq_true] at h
  have := al h.1.1; show nm.size ≤ _; omega
theorem tdS_G : TdG tdS := by
  refine ⟨by decide +kernel, by decide, by decide, fun p hp => ?_⟩
  simp only [tdS, List.mem_cons, List.not_mem_nil, or_false] at hp
  rcases hp with rfl | rfl | rfl | rfl
  · exact ⟨by show (1 : Nat) ≤ _; omega, eL ⟨by omega, by omega⟩⟩
  · exact ⟨by show (1 : Nat) ≤ _; omega, eL ⟨by omega, by omega⟩⟩
  · exact ⟨by show (1 : Nat) ≤ _; omega, eL ⟨by omega, by omega⟩⟩
  · exact ⟨by show (1 : Nat) ≤ _; omega, kG ⟨by omega, by omega⟩ ⟨by omega, by omega⟩⟩
theorem tdU_G : TdG tdU := by
  refine ⟨by decide +kernel, by decide, by decide, fun p hp => ?_⟩
  simp only [tdU, List.mem_cons, List.not_mem_nil, or_false] at hp
  rcases hp with rfl | rfl
  · exact ⟨by show (1 : Nat) ≤ _; omega, eL ⟨by omega, by omega⟩⟩
  · exact ⟨by show (1 : Nat) ≤ _; omega, eL ⟨by omega, by omega⟩⟩
theorem gbs0_G : ∀ x ∈ gbs0, GbG x := fun x hx => by
  simp only [gbs0, List.mem_cons, List.not_mem_nil, or_false] at hx
  rcases hx with rfl | rfl | rfl | rfl | rfl
  · exact GbG.of (by decide +kernel) (eL ⟨by omega, by omega⟩) (by omega) ⟨by omega, by omega⟩ (by decide)
  · exact GbG.of (by decide +kernel) (eL ⟨by omega, by omega⟩) (by omega) ⟨by omega, by omega⟩ (by decide)
  · exact GbG.of (by decide +kernel) (eL ⟨by omega, by omega⟩) (by omega) ⟨by omega, by omega⟩ (by decide)
  · exact GbG.of (by decide +kernel) (kG ⟨by omega, by omega⟩ ⟨by omega, by omega⟩) (by omega) ⟨by omega, by omega⟩ (by decide)
  · exact GbG.of (by decide +kernel) (kG ⟨by omega, by omega⟩ ⟨by omega, by omega⟩) (by omega) ⟨by omega, by omega⟩ (by decide)
theorem gbS_G : GbG gbS := GbG.of (by decide +kernel) (tyN_ok (by decide)) (by omega) ⟨by omega, by omega⟩ (by decide)
theorem gbU_G : GbG gbU := GbG.of (by decide +kernel) (tyN_ok (by decide)) (by omega) ⟨by omega, by omega⟩ (by decide)
theorem gb_r {nm s : ByteArray} {t : Ty4} {k n : Int} (h : aj nm = true) (ht : rTy t = true) (h0 : 0 ≤ k) (h1 : k < 64) : rGb ⟨nm, t, k, n, s⟩ = true := by simp [rGb, h, ht, h0, h1]
theorem gbT_G {s : ByteArray} (h : s.size ≤ 100) : GbG (gbT s) := GbG.of (gb_r (by decide +kernel) (by decide +kernel) (by omega) (by omega)) (kG ⟨by omega, by omega⟩ ⟨by omega, by omega⟩) (by omega) ⟨by omega, by omega⟩ h
theorem gbW_G {s : ByteArray} (h : s.size ≤ 100) : GbG (gbW s) := GbG.of (gb_r (by decide +kernel) (by decide +kernel) (by omega) (by omega)) (kG ⟨by omega, by omega⟩ ⟨by omega, by omega⟩) (by omega) ⟨by omega, by omega⟩ h
def BG : Nat := 400000000
def FuG (f : Fu) : Prop := rFu f = true ∧ f.ok BG
theorem pg_G {ts : List Td} {gs : List Gb} {fs : List Fu} (h1 : ts.length ≤ 2) (h2 : gs.length ≤ 9) (h3 : fs.length ≤ 5) (ht : ∀ x ∈ ts, TdG x) (hg : ∀ x ∈ gs, GbG x) (hf : ∀ x ∈ fs, FuG x) : rPg ⟨ts, gs, fs⟩ = true ∧ Pg.ok BG ⟨ts, gs, fs⟩ := by
  refine ⟨?_, by unfold BG; show ts.length ≤ _; omega, by unfold BG; show gs.length ≤ _; omega, by unfold BG; show fs.length ≤ _; omega, fun x hx => (ht x hx).2.mono (by unfold BG; omega), fun x hx => (hg x hx).2.mono (by unfold BG; omega), fun x hx => (hf x hx).2⟩
  simp only [rPg, Bool.and_eq_true, List.all_eq_true]
  exact ⟨⟨fun x hx => (ht x hx).1, fun x hx => (hg x hx).1⟩, fun x hx => (hf x hx).1⟩
theorem it {n : Nat} (h : n < 10 ^ 20) : (cw n).size ≤ 20 := by
  rw [cw, ji]; exact kA 19 n h
theorem pA (n : Nat) : IntKind.u8.wrap (48 + ((n : Int).tmod 10)) = ((UInt8.ofNat (48 + n % 10)).toNat : Int) := by
  have h : ∀ m : Nat, m < 10 → IntKind.u8.wrap (48 + (m : Int)) = ((UInt8.ofNat (48 + m)).toNat : Int) := by decide +kernel
  rw [show (n : Int).tmod 10 = ((n % 10 : Nat) : Int) from rfl]
  exact h _ (Nat.mod_lt _ (by omega))
theorem iQ : ∀ a b, fB (a ++ b) = fB a ++ fB b
  | [], _ => rfl
  | x :: r, b => by simp only [List.cons_append, fB, iQ r b]
theorem kH : ∀ l, (fB l).length = 2 * l.length
  | [] => rfl
  | x :: r => by simp only [fB, List.length_cons, kH r]; omega
theorem hexL_snoc {l : List UInt8} {k : Nat} {b : UInt8} (h : l[k]? = some b) : fB (l.take (k + 1)) = fB (l.take k) ++ [hexD (b.toNat / 16), hexD (b.toNat % 16)] := by
  rw [List.take_add_one, h, iQ]; rfl
theorem lV (s : ByteArray) : (hexB s).size = 2 * s.size := by
  rw [hexB, ji, kH]; rfl
theorem exW_size {k : Int} (hk : 1 ≤ k ∧ k ≤ 15) : (exW k).size ≤ 10 := by
  have e : k = 1 ∨ k = 2 ∨ k = 3 ∨ k = 4 ∨ k = 5 ∨ k = 6 ∨ k = 7 ∨ k = 8 ∨ k = 9 ∨ k = 10 ∨ k = 11 ∨ k = 12 ∨ k = 13 ∨ k = 14 ∨ k = 15 := by omega
  rcases e with rfl | rfl | rfl | rfl | rfl | rfl | rfl | rfl | rfl | rfl | rfl | rfl | rfl | rfl | rfl <;> decide
theorem smW_size {k : Int} (hk : 1 ≤ k ∧ k ≤ 14) : (smW k).size ≤ 10 := by
  have e : k = 1 ∨ k = 2 ∨ k = 3 ∨ k = 4 ∨ k = 5 ∨ k = 6 ∨ k = 7 ∨ k = 8 ∨ k = 9 ∨ k = 10 ∨ k = 11 ∨ k = 12 ∨ k = 13 ∨ k = 14 := by omega
  rcases e with rfl | rfl | rfl | rfl | rfl | rfl | rfl | rfl | rfl | rfl | rfl | rfl | rfl | rfl <;> decide
theorem notT {b : Bool} (h : (!b) = true) : b = false := by cases b; rfl; cases h
theorem notF {b : Bool} (h : (!b) = false) : b = true := by cases b; cases h; rfl
theorem rTy_w {k n : Int} {nm : ByteArray} {ts : List Ty4} (h : k = 1 ∨ k = 2 ∨ k = 3) : rTy (.mk k nm n ts) = (decide (nm = ⟨#[]⟩) && decide (n = 0) && decide (ts.length = 0)) := by
  simp only [rTy]; rw [if_neg (by omega), if_pos h]
theorem rTy_n {k n : Int} {nm : ByteArray} {ts : List Ty4} (h : k = 4) : rTy (.mk k nm n ts) = (aj nm && decide (n = 0) && decide (ts.length = 0)) := by
  simp only [rTy]; rw [if_pos h]
theorem rTy_a {k n : Int} {nm : ByteArray} {ts : List Ty4} (h : k = 5 ∨ k = 6) : rTy (.mk k nm n ts) = (decide (nm = ⟨#[]⟩) && decide (0 ≤ n) && decide (n ≤ if k = 6 then 64 else 65535) && decide (ts.length = 1) && ts.all rTy) := by
  simp only [rTy]; rw [if_neg (by omega), if_neg (by omega), if_pos h, eE]
  rcases h with rfl | rfl <;> rfl
theorem rTy_0 {k n : Int} {nm : ByteArray} {ts : List Ty4} (h : ¬ (k = 1 ∨ k = 2 ∨ k = 3)) (h4 : k ≠ 4) (h5 : ¬ (k = 5 ∨ k = 6)) : rTy (.mk k nm n ts) = false := by
  simp only [rTy]; rw [if_neg h4, if_neg h, if_neg h5]
def shp (k : Int) : Int × Int × Int :=
  if k = 1 then (0, 65536, 0) else if k = 2 then (0, 1, 1) else if k = 3 then (1, 1, 1) else if k = 4 then (2, 1, 0) else if k = 5 ∨ k = 6 ∨ k = 7 ∨ k = 8 then (1, 1, 0)
  else if k = 9 ∨ k = 10 then (1, 64, 0) else if k = 11 then (0, 256, 0) else if k = 12 ∨ k = 15 then (1, 1, 2) else if k = 13 then (2, 1, 2) else if k = 14 then (-1, 1, 1) else (-1, 0, 0)
theorem kind15 {k : Int} (h : 1 ≤ k ∧ k ≤ 15) : k = 1 ∨ k = 2 ∨ k = 3 ∨ k = 4 ∨ k = 5 ∨ k = 6 ∨ k = 7 ∨ k = 8 ∨ k = 9 ∨ k = 10 ∨ k = 11 ∨ k = 12 ∨ k = 13 ∨ k = 14 ∨ k = 15 := by omega
theorem shp_out {k : Int} (h : ¬ (1 ≤ k ∧ k ≤ 15)) : shp k = (-1, 0, 0) := by
  unfold shp
  rw [if_neg (by omega), if_neg (by omega), if_neg (by omega), if_neg (by omega), if_neg (by omega), if_neg (by omega), if_neg (by omega), if_neg (by omega), if_neg (by omega), if_neg (by omega)]
theorem shp_in {k : Int} (h : 1 ≤ k ∧ k ≤ 15) : shp k = (if k = 14 then -1 else du k, cu k, if k = 2 ∨ k = 3 ∨ k = 14 then 1 else if k = 12 ∨ k = 13 ∨ k = 15 then 2 else 0) := by
  rcases kind15 h with rfl | rfl | rfl | rfl | rfl | rfl | rfl | rfl | rfl | rfl | rfl | rfl | rfl | rfl | rfl <;> rfl
theorem pB (k : Int) : 0 ≤ du k := by unfold du; split; omega; split <;> omega
def iR (k n : Int) (m : Nat) : Bool := (decide (0 ≤ (shp k).1) && decide ((m : Int) ≠ (shp k).1)) || decide ((shp k).2.1 ≤ n)
theorem rEx_split {k n : Int} {nm : ByteArray} {ks : List Ex} (h0 : 0 ≤ n) : rEx (.mk k nm n ks) = (!iR k n ks.length && bp k nm && ks.all rEx) := by
  simp only [rEx, bL, iR]
  by_cases h : 1 ≤ k ∧ k ≤ 15
  · rw [shp_in h, decide_eq_true h]
    have hp := pB k
    by_cases h14 : k = 14
    · subst h14
      by_cases hn : n < cu 14
      · rw [decide_eq_true hn, decide_eq_false (show ¬ cu 14 ≤ n by omega)]; simp
      · rw [decide_eq_false hn]; simp; intro hx; omega
    · simp only [if_neg h14, decide_eq_true hp, decide_eq_false h14, Bool.false_or, Bool.true_and]
      by_cases hn : n < cu k
      · rw [decide_eq_true hn, decide_eq_false (show ¬ cu k ≤ n by omega)]
        by_cases hk : (ks.length : Int) = du k
        · rw [decide_eq_true hk]; simp [hk]
        · rw [decide_eq_false hk]; simp [hk]
      · rw [decide_eq_false hn, decide_eq_true (show cu k ≤ n by omega)]; simp
  · rw [shp_out h, decide_eq_false h]; simp [h0]
theorem exOne_in {k n : Int} {m : Nat} (h0 : 0 ≤ n) (h : iR k n m = false) : 1 ≤ k ∧ k ≤ 15 := by
  by_cases hk : 1 ≤ k ∧ k ≤ 15
  · exact hk
  · unfold iR at h; rw [shp_out hk] at h; simp [h0] at h
def levL : List (List ByteArray) := [[⟨#[124]⟩], [⟨#[94]⟩], [⟨#[38]⟩], [⟨#[61, 61]⟩, ⟨#[33, 61]⟩], [⟨#[60]⟩, ⟨#[60, 61]⟩, ⟨#[62]⟩, ⟨#[62, 61]⟩], [⟨#[60, 60]⟩, ⟨#[62, 62]⟩], [⟨#[43]⟩, ⟨#[45]⟩], [⟨#[42]⟩, ⟨#[47]⟩, ⟨#[37]⟩]]
theorem ops_lev (s : ByteArray) : aE s opsL = levL.any (aE s) := by simp [aE, opsL, levL, Bool.or_assoc]
def knd (k : Int) : List Int :=
  if k = 1 then [1, 1, 1, 0, 0, 0] else if k = 2 then [2, 2, 0, 0, 0, 0] else if k = 3 then [1, 1, 0, 1, 1, 0] else if k = 4 then [1, 1, 2, 1, 0, 0] else if k = 5 then [0, 0, 2, 1, 0, 0] else if k = 6 then [0, 0, 1, 1, 0, 0]
  else if k = 7 ∨ k = 8 then [0, 0, 1, 0, 0, 0] else if k = 9 then [1, 1, 0, 0, 1, 1] else if k = 10 then [0, 1, 0, 0, 0, 0] else if k = 11 ∨ k = 14 then [1, 1, 0, 0, 0, 0] else if k = 12 ∨ k = 13 then [0, 0, 0, 0, 0, 0] else [1, 0, 0, 0, 0, 0]
theorem kind14 {k : Int} (h : 1 ≤ k ∧ k ≤ 14) : k = 1 ∨ k = 2 ∨ k = 3 ∨ k = 4 ∨ k = 5 ∨ k = 6 ∨ k = 7 ∨ k = 8 ∨ k = 9 ∨ k = 10 ∨ k = 11 ∨ k = 12 ∨ k = 13 ∨ k = 14 := by omega
def knm (k : Int) : Int := if k = 1 ∨ k = 6 ∨ k = 7 ∨ k = 8 then 1 else if k = 4 ∨ k = 5 then 2 else 0
def b01 (b : Bool) : Int := if b then 1 else 0
theorem knd_in {k : Int} (h : 1 ≤ k ∧ k ≤ 14) : knd k = [aF k, aL k, knm k, b01 (ip k), b01 (i7 k), b01 (i8 k)] := by
  rcases kind14 h with rfl | rfl | rfl | rfl | rfl | rfl | rfl | rfl | rfl | rfl | rfl | rfl | rfl | rfl <;> rfl
theorem nz {k : Int} (h : ¬ (1 ≤ k ∧ k ≤ 14)) : knd k = [1, 0, 0, 0, 0, 0] := by
  unfold knd
  rw [if_neg (by omega), if_neg (by omega), if_neg (by omega), if_neg (by omega), if_neg (by omega), if_neg (by omega), if_neg (by omega), if_neg (by omega), if_neg (by omega), if_neg (by omega), if_neg (by omega)]
theorem shp_nm1 {k : Int} (h : 1 ≤ k ∧ k ≤ 15) : (shp k).2.2 = 1 ↔ k = 2 ∨ k = 3 ∨ k = 14 := by
  rw [shp_in h]; simp only
  by_cases h1 : k = 2 ∨ k = 3 ∨ k = 14
  · rw [if_pos h1]; exact iff_of_true rfl h1
  · rw [if_neg h1]; refine iff_of_false ?_ h1; split <;> omega
theorem ov {k : Int} {nm : ByteArray} (h : k = 2 ∨ k = 3 ∨ k = 14) : bp k nm = aj nm := by unfold bp; rw [if_pos h]
theorem pC {k : Int} {nm : ByteArray} (h : k = 13) : bp k nm = aE nm opsL := by subst h; rfl
theorem exName_un {k : Int} {nm : ByteArray} (h : k = 12) : bp k nm = (decide (nm = ⟨#[45]⟩) || decide (nm = ⟨#[126]⟩) || decide (nm = ⟨#[33]⟩)) := by
  subst h; simp [bp, aE, unL, eq_comm, Bool.or_assoc]
theorem ow {k : Int} {nm : ByteArray} (h : k = 15) : bp k nm = (decide (nm = ⟨#[117, 56]⟩) || decide (nm = ⟨#[117, 49, 54]⟩) || decide (nm = ⟨#[115, 49, 54]⟩)) := by
  subst h; simp [bp, aE, castL, eq_comm, Bool.or_assoc]
theorem ox {k : Int} {nm : ByteArray} (h : ¬ (k = 2 ∨ k = 3 ∨ k = 14)) (h2 : k ≠ 12) (h5 : k ≠ 15) (h3 : k ≠ 13) : bp k nm = decide (nm = ⟨#[]⟩) := by
  unfold bp; rw [if_neg h, if_neg h3, if_neg h2, if_neg h5]
def kd (k : Int) (j : Nat) : Int := (knd k).getD j 0
theorem kd_in {k : Int} (h : 1 ≤ k ∧ k ≤ 14) : kd k 0 = aF k ∧ kd k 1 = aL k ∧ kd k 2 = knm k ∧ kd k 3 = b01 (ip k) ∧ kd k 4 = b01 (i7 k) ∧ kd k 5 = b01 (i8 k) := by
  simp only [kd, knd_in h]; exact ⟨rfl, rfl, rfl, rfl, rfl, rfl⟩
def eM (k : Int) (nm : ByteArray) : Bool := if kd k 2 = 0 ∨ (kd k 2 = 2 ∧ nm = ⟨#[]⟩) then decide (nm = ⟨#[]⟩) else aj nm
def dq (k : Int) (t : Ty4) : Bool := if k = 1 then rTy t else aD t 0
def cG (k n : Int) (m : Nat) (b1 b2 : Bool) : Bool := decide ((m : Int) < kd k 0) || decide (kd k 1 < (m : Int)) || !b1 || !b2 || decide (255 < n) || (decide (k ≠ 11) && decide (n ≠ 0))
def lW (k : Int) (a b c : Nat) : Bool := (decide (kd k 3 = 0) && decide (0 < (a : Int))) || (decide (kd k 4 = 0) && decide (0 < (b : Int))) || (decide (kd k 5 = 0) && decide (0 < (c : Int)))
theorem b01_zero (b : Bool) : decide (b01 b = 0) = !b := by cases b <;> rfl
theorem len_pos {α : Type} (l : List α) : decide (0 < (l.length : Int)) = !decide (l.length = 0) := by
  by_cases h : l.length = 0
  · rw [decide_eq_true h, decide_eq_false (by omega)]; rfl
  · rw [decide_eq_false h, decide_eq_true (by omega)]; rfl
theorem smOne_in {k : Int} {nm : ByteArray} (h : 1 ≤ k ∧ k ≤ 14) : eM k nm = aV k nm := by
  unfold eM aV
  rw [(kd_in h).2.2.1]
  unfold knm cL cZ
  by_cases h1 : k = 1 ∨ k = 6 ∨ k = 7 ∨ k = 8
  · rw [if_pos h1, if_neg (by omega), decide_eq_true h1, if_pos rfl]
  · rw [if_neg h1, decide_eq_false h1, if_neg Bool.false_ne_true]
    by_cases h2 : k = 4 ∨ k = 5
    · rw [if_pos h2, decide_eq_true h2]
      by_cases hn : nm = ⟨#[]⟩
      · rw [if_pos (.inr ⟨rfl, hn⟩)]; simp [hn]
      · rw [if_neg (by rintro (h | ⟨_, h⟩); omega; exact hn h)]; simp [hn]
    · rw [if_neg h2, decide_eq_false h2, if_pos (.inl rfl)]; simp
theorem rSm_split {k n : Int} {nm : ByteArray} {t : Ty4} {xs : List Ex} {b el : List Sm} {cs : List (List Sm)} (h0 : 0 ≤ n) :
    rSm (.mk k nm t n xs b el cs) = (!cG k n xs.length (eM k nm) (dq k t) && !lW k b.length el.length cs.length && xs.all rEx && !(decide (k = 14) && !bK (fun j => decide (j = 14)) xs) && !(decide (k = 2) && !bK bw xs) && cs.all cp && b.all rSm && el.all rSm) := by
  simp only [rSm, bL, bj, fh, dq]
  by_cases h : 1 ≤ k ∧ k ≤ 14
  · obtain ⟨e0, e1, e2, e3, e4, e5⟩ := kd_in h
    simp only [cG, lW, e0, e1, e3, e4, e5, b01_zero, len_pos, smOne_in h, decide_eq_true h, smPo]
    generalize hB : (b.all rSm) = B
    generalize hE : (el.all rSm) = E
    generalize hC : (cs.all cp) = C
    generalize hX : (xs.all rEx) = X
    generalize hN : aV k nm = N
    generalize hT : (if k = 1 then rTy t else aD t 0) = T
    generalize hh1 : bK (fun j => decide (j = 14)) xs = H1
    generalize hh2 : bK bw xs = H2
    have a1 : decide ((xs.length : Int) < aF k) = !decide (aF k ≤ (xs.length : Int)) := by
      by_cases q : aF k ≤ (xs.length : Int)
      · rw [decide_eq_true q, decide_eq_false (by omega)]; rfl
      · rw [decide_eq_false q, decide_eq_true (by omega)]; rfl
    have a2 : decide (aL k < (xs.length : Int)) = !decide ((xs.length : Int) ≤ aL k) := by
      by_cases q : (xs.length : Int) ≤ aL k
      · rw [decide_eq_true q, decide_eq_false (by omega)]; rfl
      · rw [decide_eq_false q, decide_eq_true (by omega)]; rfl
    have a3 : decide (255 < n) = !decide (n < 256) := by
      by_cases q : n < 256
      · rw [decide_eq_true q, decide_eq_false (by omega)]; rfl
      · rw [decide_eq_false q, decide_eq_true (by omega)]; rfl
    have a5 : (decide (n = 0) || (decide (k = 11) && decide (n < 256))) = (!(!decide (n < 256)) && !(!decide (k = 11) && !decide (n = 0))) := by
      by_cases q : n = 0
      · rw [decide_eq_true q, decide_eq_true (show n < 256 by omega)]; simp
      · rw [decide_eq_false q]; cases decide (k = 11) <;> simp
    have a6 : decide (k ≠ 11) = !decide (k = 11) := by simp
    have a7 : decide (n ≠ 0) = !decide (n = 0) := by simp
    rw [a1, a2, a3, a6, a7, a5]
    generalize decide (aF k ≤ (xs.length : Int)) = p1
    generalize decide ((xs.length : Int) ≤ aL k) = p2
    generalize decide (n < 256) = p3
    generalize decide (k = 11) = p4
    generalize decide (n = 0) = p5
    generalize ip k = p6
    generalize i7 k = p7
    generalize i8 k = p8
    generalize decide (b.length = 0) = q6
    generalize decide (el.length = 0) = q7
    generalize decide (cs.length = 0) = q8
    generalize decide (k = 14) = p9
    generalize decide (k = 2) = pa
    revert B E C X N T H1 H2 p1 p2 p3 p4 p5 p6 p7 p8 q6 q7 q8 p9 pa
    intro B _ E _ C _ X _ N _ T _ H1 _ H2 _ p1 p2 p3 p4 p5 p6 p7 p8 q6 q7 q8 p9 pa
    cases p1 <;> cases p2 <;> simp
    cases N <;> cases T <;> simp
    cases X <;> simp
    cases B <;> cases E <;> cases C <;> simp
    cases H1 <;> cases H2 <;> cases p9 <;> cases pa <;> cases p6 <;> cases p7 <;> cases p8 <;> cases q6 <;> cases q7 <;> cases q8 <;> simp
  · have e0 : kd k 0 = 1 := by simp only [kd, nz h]; rfl
    have e1 : kd k 1 = 0 := by simp only [kd, nz h]; rfl
    have : cG k n xs.length (eM k nm) (if k = 1 then rTy t else aD t 0) = true := by
      unfold cG
      rw [e0, e1]
      by_cases q : (xs.length : Int) < 1
      · rw [decide_eq_true q]; simp
      · rw [decide_eq_true (show (0 : Int) < xs.length by omega)]; simp
    rw [this, decide_eq_false h]; simp
theorem oy {k n : Int} {m : Nat} {b1 b2 : Bool} (h : cG k n m b1 b2 = false) : kd k 0 ≤ (m : Int) := by
  by_cases q : (m : Int) < kd k 0
  · unfold cG at h; rw [decide_eq_true q] at h; simp at h
  · omega
open Go.ChangeMaps Go.MapKept Go.WideMaps Go.Maps
open Classical in
noncomputable def d9 : List (ByteArray × Value) → Value → Option Value
  | [], _ => none
  | (n, v) :: r, key => if key = .string n then some v else d9 r key
theorem oz {n : ByteArray} {v : Value} {r : List (ByteArray × Value)} : d9 ((n, v) :: r) (.string n) = some v := by simp [d9]
theorem oA {n : ByteArray} {v : Value} {r : List (ByteArray × Value)} (s : Value) (h : s ≠ .string n) : d9 ((n, v) :: r) s = d9 r s := by simp [d9, h]
theorem oB (v : Value) : R0 v = some (.lit (.bool true), []) := rfl
theorem K9 : Maps.Keyed Tryz.prog 9 := Maps.string_keyed Tryz.underlying9
theorem key9 {s : ByteArray} (hs : s.size ≤ 1000000) : keyOf Tryz.prog 9 (.string s) = some (strK s) := keyOf_string_mk Tryz.underlying9 (by simp only [maxLen]; omega)
section
variable {w0 : World} {N : Nat} {Q : Exit → Act → World → Prop} {env : Env} {own : List Seg} {H : Hp} {ops : Array Oper} {rest : List Oper}
variable {d : Option Tmp} {ty : TypeId} {pos : String} {af : Array Edge}
end
def levT : List (ByteArray × Value) := [(⟨#[37]⟩, .int .i64 7), (⟨#[47]⟩, .int .i64 7), (⟨#[42]⟩, .int .i64 7), (⟨#[45]⟩, .int .i64 6), (⟨#[43]⟩, .int .i64 6), (⟨#[62, 62]⟩, .int .i64 5), (⟨#[60, 60]⟩, .int .i64 5), (⟨#[62, 61]⟩, .int .i64 4), (⟨#[62]⟩, .int .i64 4), (⟨#[60, 61]⟩, .int .i64 4), (⟨#[60]⟩, .int .i64 4), (⟨#[33, 61]⟩, .int .i64 3), (⟨#[61, 61]⟩, .int .i64 3), (⟨#[38]⟩, .int .i64 2), (⟨#[94]⟩, .int .i64 1), (⟨#[124]⟩, .int .i64 0)]
theorem lZ {s : ByteArray} : ∀ l : List (ByteArray × Value), (d9 l (.string s)).isSome = (l.map (·.1)).any fun x => decide (x = s)
  | [] => rfl
  | (n, v) :: r => by
    rw [List.map_cons, List.any_cons, ← lZ r]
    by_cases h : n = s
    · subst h; rw [oz, decide_eq_true rfl]; rfl
    · rw [oA _ (by simpa using fun e => h e.symm), decide_eq_false h, Bool.false_or]
theorem lev_some (s : ByteArray) : (d9 levT (.string s)).isSome = aE s opsL := by
  rw [lZ, show levT.map (·.1) = opsL.reverse from rfl, List.any_reverse]; rfl
theorem rEx_out {k n : Int} {nm : ByteArray} {ks : List Ex} (h : ¬ (1 ≤ k ∧ k ≤ 15)) : rEx (.mk k nm n ks) = false := by rw [rEx, decide_eq_false h]; rfl
section
variable {k n kc lim : Int} {nm : ByteArray} {ks : List Ex} (hk : 1 ≤ k ∧ k ≤ 15) (hc : kc = if k = 14 then (ks.length : Int) else du k) (hl : lim = cu k)
include hk hc hl
theorem syn_ex : rEx (.mk k nm n ks) = (bp k nm && decide ((ks.length : Int) = kc) && decide (n < lim) && ks.all rEx) := by
  rw [rEx, decide_eq_true hk, hl, Bool.true_and, bL, hc]
  congr 3
  split
  · rename_i h; rw [decide_eq_true h, decide_eq_true rfl]; rfl
  · rename_i h; rw [decide_eq_false h, Bool.false_or]
end
def aR : List (Int × Value) := [(14, .agg #[.int .i64 1, .int .i64 1, .bool false, .bool false, .bool false, .bool false, .bool false, .bool false]), (13, .agg #[.int .i64 0, .int .i64 0, .bool false, .bool false, .bool false, .bool false, .bool false, .bool false]), (12, .agg #[.int .i64 0, .int .i64 0, .bool false, .bool false, .bool false, .bool false, .bool false, .bool false]), (11, .agg #[.int .i64 1, .int .i64 1, .bool false, .bool false, .bool false, .bool false, .bool false, .bool true]), (10, .agg #[.int .i64 0, .int .i64 1, .bool false, .bool false, .bool false, .bool false, .bool false, .bool false]), (9, .agg #[.int .i64 1, .int .i64 1, .bool false, .bool false, .bool false, .bool true, .bool true, .bool false]), (8, .agg #[.int .i64 0, .int .i64 0, .bool true, .bool false, .bool false, .bool false, .bool false, .bool false]), (7, .agg #[.int .i64 0, .int .i64 0, .bool true, .bool false, .bool false, .bool false, .bool false, .bool false]), (6, .agg #[.int .i64 0, .int .i64 0, .bool true, .bool false, .bool true, .bool false, .bool false, .bool false]), (5, .agg #[.int .i64 0, .int .i64 0, .bool false, .bool true, .bool true, .bool false, .bool false, .bool false]), (4, .agg #[.int .i64 1, .int .i64 1, .bool false, .bool true, .bool true, .bool false, .bool false, .bool false]), (3, .agg #[.int .i64 1, .int .i64 1, .bool false, .bool false, .bool true, .bool true, .bool false, .bool false]), (2, .agg #[.int .i64 2, .int .i64 2, .bool false, .bool false, .bool false, .bool false, .bool false, .bool false]), (1, .agg #[.int .i64 1, .int .i64 1, .bool true, .bool false, .bool false, .bool false, .bool false, .bool false])]
theorem form_in {k : Int} (h : 1 ≤ k ∧ k ≤ 14) : au aR (.int .i64 k) = some (.agg #[.int .i64 (aF k), .int .i64 (aL k), .bool (cL k), .bool (cZ k), .bool (ip k), .bool (i7 k), .bool (i8 k), .bool (smPo k)]) := by
  rcases kind14 h with rfl | rfl | rfl | rfl | rfl | rfl | rfl | rfl | rfl | rfl | rfl | rfl | rfl | rfl
  · rw [show au aR (.int .i64 1) = some (.agg #[.int .i64 1, .int .i64 1, .bool true, .bool false, .bool false, .bool false, .bool false, .bool false]) from by simp [aR, au]]; rfl
  · rw [show au aR (.int .i64 2) = some (.agg #[.int .i64 2, .int .i64 2, .bool false, .bool false, .bool false, .bool false, .bool false, .bool false]) from by simp [aR, au]]; rfl
  · rw [show au aR (.int .i64 3) = some (.agg #[.int .i64 1, .int .i64 1, .bool false, .bool false, .bool true, .bool true, .bool false, .bool false]) from by simp [aR, au]]; rfl
  · rw [show au aR (.int .i64 4) = some (.agg #[.int .i64 1, .int .i64 1, .bool false, .bool true, .bool true, .bool false, .bool false, .bool false]) from by simp [aR, au]]; rfl
  · rw [show au aR (.int .i64 5) = some (.agg #[.int .i64 0, .int .i64 0, .bool false, .bool true, .bool true, .bool false, .bool false, .bool false]) from by simp [aR, au]]; rfl
  · rw [show au aR (.int .i64 6) = some (.agg #[.int .i64 0, .int .i64 0, .bool true, .bool false, .bool true, .bool false, .bool false, .bool false]) from by simp [aR, au]]; rfl
  · rw [show au aR (.int .i64 7) = some (.agg #[.int .i64 0, .int .i64 0, .bool true, .bool false, .bool false, .bool false, .bool false, .bool false]) from by simp [aR, au]]; rfl
  · rw [show au aR (.int .i64 8) = some (.agg #[.int .i64 0, .int .i64 0, .bool true, .bool false, .bool false, .bool false, .bool false, .bool false]) from by simp [aR, au]]; rfl
  · rw [show au aR (.int .i64 9) = some (.agg #[.int .i64 1, .int .i64 1, .bool false, .bool false, .bool false, .bool true, .bool true, .bool false]) from by simp [aR, au]]; rfl
  · rw [show au aR (.int .i64 10) = some (.agg #[.int .i64 0, .int .i64 1, .bool false, .bool false, .bool false, .bool false, .bool false, .bool false]) from by simp [aR, au]]; rfl
  · rw [show au aR (.int .i64 11) = some (.agg #[.int .i64 1, .int .i64 1, .bool false, .bool false, .bool false, .bool false, .bool false, .bool true]) from by simp [aR, au]]; rfl
  · rw [show au aR (.int .i64 12) = some (.agg #[.int .i64 0, .int .i64 0, .bool false, .bool false, .bool false, .bool false, .bool false, .bool false]) from by simp [aR, au]]; rfl
  · rw [show au aR (.int .i64 13) = some (.agg #[.int .i64 0, .int .i64 0, .bool false, .bool false, .bool false, .bool false, .bool false, .bool false]) from by simp [aR, au]]; rfl
  · rw [show au aR (.int .i64 14) = some (.agg #[.int .i64 1, .int .i64 1, .bool false, .bool false, .bool false, .bool false, .bool false, .bool false]) from by simp [aR, au]]; rfl
theorem oC {k : Int} (h : ¬ (1 ≤ k ∧ k ≤ 14)) : au aR (.int .i64 k) = none := by
  simp only [aR, au, Value.int.injEq, true_and]
  repeat rw [if_neg (by omega)]
theorem form_get (k : Int) : (au aR (.int .i64 k)).getD (.agg #[.int .i64 0, .int .i64 0, .bool false, .bool false, .bool false, .bool false, .bool false, .bool false]) = .agg #[.int .i64 (aF k), .int .i64 (aL k), .bool (cL k), .bool (cZ k), .bool (ip k), .bool (i7 k), .bool (i8 k), .bool (smPo k)] := by
  by_cases h : 1 ≤ k ∧ k ≤ 14
  · rw [form_in h]; rfl
  · rw [oC h]
    have e1 : aF k = 0 := by unfold aF; (repeat' split) <;> omega
    have e2 : aL k = 0 := by unfold aL; (repeat' split) <;> omega
    have e3 : cL k = false := decide_eq_false (by omega)
    have e4 : cZ k = false := decide_eq_false (by omega)
    have e5 : ip k = false := decide_eq_false (by omega)
    have e6 : i7 k = false := decide_eq_false (by omega)
    have e7 : i8 k = false := decide_eq_false (by omega)
    have e8 : smPo k = false := decide_eq_false (by omega)
    rw [e1, e2, e3, e4, e5, e6, e7, e8]; rfl
theorem form_some (k : Int) : (au aR (.int .i64 k)).isSome = decide (1 ≤ k ∧ k ≤ 14) := by
  by_cases h : 1 ≤ k ∧ k ≤ 14
  · rw [form_in h, decide_eq_true h]; rfl
  · rw [oC h, decide_eq_false h]; rfl
theorem pD (k : Int) : ([2, 3, 4, 5, 7, 8].any fun x => decide (x = k)) = bw k := by
  rw [Bool.eq_iff_iff]
  simp [bw]
  omega
theorem smName_or (k : Int) (nm : ByteArray) : aV k nm = ((cL k && aj nm) || ((cZ k && (decide (nm = ⟨#[]⟩) || aj nm)) || ((!cL k && !cZ k) && decide (nm = ⟨#[]⟩)))) := by
  have h : cL k = true → cZ k = false := fun h => decide_eq_false (by have := of_decide_eq_true h; omega)
  unfold aV
  cases h1 : cL k with
  | true => rw [h h1]; simp
  | false => cases cZ k <;> simp
def smPort (k n : Int) : Bool := decide (n = 0) || (smPo k && decide (n < 256))
def smBlk (k : Int) (b el cs : Nat) : Bool := (ip k || decide (b = 0)) && ((i7 k || decide (el = 0)) && (i8 k || decide (cs = 0)))
section
variable {k n : Int} {nm : ByteArray} {t : Ty4} {xs : List Ex} {b el : List Sm} {cs : List (List Sm)}
theorem rSm_e (h : (!decide (k = 14) || bK (fun j => decide (j = 14)) xs) = false) : false = rSm (.mk k nm t n xs b el cs) := by rw [rSm, h]; simp
theorem rSm_f (h : (!decide (k = 2) || bK bw xs) = false) : false = rSm (.mk k nm t n xs b el cs) := by rw [rSm, h]; simp
theorem rSm_g (h1 : decide (1 ≤ k ∧ k ≤ 14) = true) (h2 : aF k ≤ (xs.length : Int)) (h3 : (xs.length : Int) ≤ aL k) (h4 : xs.all rEx = true) (h5 : (!decide (k = 14) || bK (fun j => decide (j = 14)) xs) = true) (h6 : (!decide (k = 2) || bK bw xs) = true) :
    rSm (.mk k nm t n xs b el cs) = (aV k nm && (dq k t && (smPort k n && (smBlk k b.length el.length cs.length && (cp b && (cp el && cs.all cp)))))) := by
  rw [rSm, h1, decide_eq_true h2, decide_eq_true h3, bL, h4, h5, h6, fh]
  unfold smPort smBlk dq
  simp only [Bool.true_and, Bool.and_true, Bool.and_assoc]
end
end Go.Proofs.YtlmahofogapkgaaGreatDoor.K
namespace Go.Proofs.YtlmahofogapkgaaGreatDoor.X
section
open Go Go.RowKit Go.Proofs K
section
variable {x : Cx Tryz.prog} {k : List Fr} {E : XE} {hp hp' : XH} {nx i : Nat} {ops : List Oper} {l : List (Nat × Oper)} {ty : TypeId} {pos : String} {af : Array Edge} {g : Option (Nat × Bool)} {t e : TypeId} {m y z : Operand} {gm t0 n : Nat} {v : Value} {zv : XV}
theorem In9 {r : List (ByteArray × Value)} {a : ByteArray} (hm : xev E m = some (.a (.c (.m gm t0)))) (hg : an hp gm = some ⟨gm, t0, .mp (fun o => MapR Tryz.prog 9 e o n (d9 r))⟩) (hy : xev E y = some (xs a)) (hz : xev E z = some zv) (hzv : vOf zv = some v) (ht : T.bt.get t = some (.m 9 e))
    (hset' : bc hp gm t0 (.mp (fun o => MapR Tryz.prog 9 e o (n + 1) (d9 ((a, v) :: r)))) = some hp') (hw : ak ops E g = some true) (ha : a.size ≤ 1000000) (hn : n < 100) (hnone : d9 r (.string a) = none) (hk : (MS.r ops none l k ⟨E, hp', nx⟩).ok x) :
    (MS.r ops none ((i, { dst := none, op := .insert t m y z, type := ty, pos := pos, after := af, guard := g }) :: l) k ⟨E, hp, nx⟩).ok x :=
  Mi (T := T) (d9 ((a, v) :: r)) hm hg hy rfl hz hzv ht hset' hw K9 (by simp only [maxLen]; omega) (key9 ha) (oB _) hnone oz (fun s hs => oA s hs) hk
theorem In3 {r : List (Int × Value)} {a : Int} (hm : xev E m = some (.a (.c (.m gm t0)))) (hg : an hp gm = some ⟨gm, t0, .mp (fun o => MapR Tryz.prog 3 e o n (au r))⟩) (hy : xev E y = some (xi a)) (hz : xev E z = some zv) (hzv : vOf zv = some v) (ht : T.bt.get t = some (.m 3 e))
    (hset' : bc hp gm t0 (.mp (fun o => MapR Tryz.prog 3 e o (n + 1) (au ((a, v) :: r)))) = some hp') (hw : ak ops E g = some true) (ha : I64 a) (hn : n < 100) (hnone : au r (.int .i64 a) = none) (hk : (MS.r ops none l k ⟨E, hp', nx⟩).ok x) :
    (MS.r ops none ((i, { dst := none, op := .insert t m y z, type := ty, pos := pos, after := af, guard := g }) :: l) k ⟨E, hp, nx⟩).ok x :=
  Mi (T := T) (au ((a, v) :: r)) hm hg hy rfl hz hzv ht hset' hw K3 (by simp only [maxLen]; omega) (key3 ha) (oB _) hnone tblF_new (fun s hs => tblF_old s hs) hk
end
variable {pk : Pk}
theorem zeroF (w : World) : (zeroValue 242).run Tryz.prog w = .ok (.agg #[.int .i64 0, .int .i64 0, .bool false, .bool false, .bool false, .bool false, .bool false, .bool false]) w := by simp [zeroValue, typeInfo, show Tryz.prog.info? 242 = some Tryz.t242 from by kernel_rfl]; rfl
theorem pE : XQ Tryz.prog pk 208 [] (.a (.c (.d (.mp (fun _ o => MapR Tryz.prog 9 3 o 16 (d9 levT)))))) := by
  refine XQ.en Tryz.func208 Tryz.ntmps208 (fun w0 own H V v0 hf => ?_)
  refine G (T := T) 1000 rfl ?_
  refine Mm (fun o => MapR Tryz.prog 9 3 o 0 (d9 [])) (MapR.nil _ _ _) ⟨rfl, rfl⟩ ?_
  iterate 16 (refine In9 rfl rfl rfl rfl rfl rfl rfl rfl (by decide) (by omega) (by simp [d9]) ?_)
  refine G (T := T) 1000 rfl ?_
  refine (FzTo.mz 0 rfl).e ?_
  exact Fe (T := T) rfl rfl
theorem syn_form {k : Int} (hk : I64 k) : XQ Tryz.prog pk 191 [xi k] (.t [.g [.c (.int .i64 (aF k)), .c (.int .i64 (aL k)), .c (.bool (cL k)), .c (.bool (cZ k)), .c (.bool (ip k)), .c (.bool (i7 k)), .c (.bool (i8 k)), .c (.bool (smPo k))], .c (.d (.c (.bool (decide (1 ≤ k ∧ k ≤ 14)))))]) := by
  refine XQ.en Tryz.func191 Tryz.ntmps191 (fun w0 own H V v0 hf => ?_)
  refine G (T := T) 1000 rfl ?_
  refine Mm (fun o => MapR Tryz.prog 3 242 o 0 (au [])) (MapR.nil _ _ _) ⟨rfl, rfl⟩ ?_
  iterate 14
    refine G (T := T) 1000 rfl ?_
    refine In3 rfl rfl rfl rfl rfl rfl rfl rfl ⟨by omega, by omega⟩ (by omega) (by simp [au]) ?_
  refine G (T := T) 100002 rfl ?_
  refine (FzTo.mz 1 rfl).c ?_
  refine G (T := T) 1000 rfl ?_
  refine Lu (T := T) (.t [.g [.c (.int .i64 (aF k)), .c (.int .i64 (aL k)), .c (.bool (cL k)), .c (.bool (cZ k)), .c (.bool (ip k)), .c (.bool (i7 k)), .c (.bool (i8 k)), .c (.bool (smPo k))], .c (.d (.c (.bool (decide (1 ≤ k ∧ k ≤ 14)))))]) ?_ K3 (key3 hk) zeroF rfl rfl rfl rfl rfl ⟨rfl, rfl⟩ ?_
  · intro V H
    show XV.rel V H _ (.tuple #[(au aR (.int .i64 k)).getD _, .bool (au aR (.int .i64 k)).isSome])
    rw [form_some, form_get]
    exact ⟨_, rfl, ⟨_, rfl, by simp [rdL, rd]; trivial⟩, by simp [XA.rel, XC.rel, rd]; trivial, trivial⟩
  refine G (T := T) 1000 rfl ?_
  exact Fq (T := T) rfl rfl
abbrev bM (s : ByteArray) : List D := [.c (.string s)]
abbrev iu (n : Int) : List D := [.c (.int .i64 n)]
theorem index_str {l : List ByteArray} (hl : l.length ≤ 1000000) (s : ByteArray) : XQ Tryz.prog pk 226 [xr (l.map bM), xs s] (xi (idxI (fun x => decide (s = x)) l)) := by
  refine XQ.en Tryz.func226 Tryz.ntmps226 (fun w0 own H V v0 hf => ?_)
  refine G (T := T) 1000 rfl ?_
  refine Lq [0, 1, 7] (fun q r => (4, xi 0) :: (8, xi (q : Nat)) :: r) (fun q => []) 0 (fun q => q ≤ l.length ∧ (l.take q).any (fun x => decide (s = x)) = false) (fun q => l.length - q) 0 rfl ⟨Nat.zero_le _, rfl⟩ ?_
  rintro j ⟨hj, hI⟩
  refine G (T := T) 1000 rfl ?_
  refine If rfl (fun h => ?_) (fun h => ?_)
  · have hjl := of_decide_eq_true h; rw [List.length_map] at hjl
    obtain ⟨y, hy⟩ := ah (l := l) (j := j) (by omega)
    refine G (T := T) 1000 rfl ?_
    refine Ix (T := T) j (ab hy) rfl rfl rfl rfl ⟨rfl, rfl⟩ rfl rfl ?_
    refine G (T := T) 1000 rfl ?_
    refine If rfl (fun h => ?_) (fun h => ?_)
    · refine G (T := T) 1000 rfl ?_
      exact Fe (T := T) rfl (by show xi _ = xi _; rw [fi hI hy h])
    · refine G (T := T) 1000 rfl ?_
      exact Nq (j + 1) ⟨by omega, eF hI hy h⟩ (by show _ - (j + 1) < _ - j; omega)
  · have hjl := of_decide_eq_false h; rw [List.length_map] at hjl
    refine G (T := T) 1000 rfl ?_
    exact Fe (T := T) rfl (by show xi _ = xi _; rw [gu hI (by omega)])
theorem gI {l : List ByteArray} (hl : l.length ≤ 1000000) (s : ByteArray) : XQ Tryz.prog pk 209 [xr (l.map bM), xs s] (xb (l.any fun x => decide (x = s))) := by
  refine XQ.en Tryz.func209 Tryz.ntmps209 (fun w0 own H V v0 hf => ?_)
  refine G (T := T) 1000 rfl ?_
  refine Cq (index_str hl s) rfl rfl rfl rfl rfl ⟨rfl, rfl⟩ ?_
  refine G (T := T) 1000 rfl ?_
  exact Fe (T := T) rfl (by show xb _ = xb _; rw [show (fun x => decide (x = s)) = fun x => decide (s = x) from funext fun x => decide_eq_decide.2 eq_comm, ← jn])
theorem index_int {l : List Int} (hl : l.length ≤ 1000000) (s : Int) : XQ Tryz.prog pk 227 [xr (l.map iu), xi s] (xi (idxI (fun x => decide (s = x)) l)) := by
  refine XQ.en Tryz.func227 Tryz.ntmps227 (fun w0 own H V v0 hf => ?_)
  refine G (T := T) 1000 rfl ?_
  refine Lq [0, 1, 7] (fun q r => (4, xi 0) :: (8, xi (q : Nat)) :: r) (fun q => []) 0 (fun q => q ≤ l.length ∧ (l.take q).any (fun x => decide (s = x)) = false) (fun q => l.length - q) 0 rfl ⟨Nat.zero_le _, rfl⟩ ?_
  rintro j ⟨hj, hI⟩
  refine G (T := T) 1000 rfl ?_
  refine If rfl (fun h => ?_) (fun h => ?_)
  · have hjl := of_decide_eq_true h; rw [List.length_map] at hjl
    obtain ⟨y, hy⟩ := ah (l := l) (j := j) (by omega)
    refine G (T := T) 1000 rfl ?_
    refine Ix (T := T) j (ab hy) rfl rfl rfl rfl ⟨rfl, rfl⟩ rfl rfl ?_
    refine G (T := T) 1000 rfl ?_
    refine If rfl (fun h => ?_) (fun h => ?_)
    · refine G (T := T) 1000 rfl ?_
      exact Fe (T := T) rfl (by show xi _ = xi _; rw [fi hI hy h])
    · refine G (T := T) 1000 rfl ?_
      exact Nq (j + 1) ⟨by omega, eF hI hy h⟩ (by show _ - (j + 1) < _ - j; omega)
  · have hjl := of_decide_eq_false h; rw [List.length_map] at hjl
    refine G (T := T) 1000 rfl ?_
    exact Fe (T := T) rfl (by show xi _ = xi _; rw [gu hI (by omega)])
theorem nA {l : List Int} (hl : l.length ≤ 1000000) (s : Int) : XQ Tryz.prog pk 210 [xr (l.map iu), xi s] (xb (l.any fun x => decide (x = s))) := by
  refine XQ.en Tryz.func210 Tryz.ntmps210 (fun w0 own H V v0 hf => ?_)
  refine G (T := T) 1000 rfl ?_
  refine Cq (index_int hl s) rfl rfl rfl rfl rfl ⟨rfl, rfl⟩ ?_
  refine G (T := T) 1000 rfl ?_
  exact Fe (T := T) rfl (by show xb _ = xb _; rw [show (fun x => decide (x = s)) = fun x => decide (s = x) from funext fun x => decide_eq_decide.2 eq_comm, ← jn])
end
open Go Go.RowKit Go.Proofs K
def av (s : ByteArray) : Ex := .mk 2 s 0 []
def bI (n : Int) : Ex := .mk 1 eS n []
def eN (op : ByteArray) (a b : Ex) : Ex := .mk 13 op 0 [a, b]
def ja (e : Ex) (s : ByteArray) : Ex := .mk 3 s 0 [e]
def jb (e i : Ex) : Ex := .mk 4 eS 0 [e, i]
def locL : List ByteArray := [⟨#[97]⟩, ⟨#[98]⟩, ⟨#[99]⟩, ⟨#[112]⟩, ⟨#[118, 49]⟩, ⟨#[118, 50]⟩, ⟨#[118, 51]⟩, ⟨#[118, 52]⟩, ⟨#[118, 53]⟩, ⟨#[118, 54]⟩, ⟨#[118, 55]⟩, ⟨#[118, 56]⟩, ⟨#[118, 57]⟩]
def gloL : List ByteArray := [⟨#[103, 48]⟩, ⟨#[103, 49]⟩, ⟨#[103, 50]⟩, ⟨#[97, 114, 114]⟩, ⟨#[98, 121, 116, 101, 115]⟩, ⟨#[103, 115]⟩, ⟨#[103, 117]⟩, ⟨#[116, 97, 98]⟩, ⟨#[119, 111, 114, 100, 115]⟩]
def funL : List ByteArray := [⟨#[109, 97, 105, 110]⟩, ⟨#[102, 105, 114, 115, 116]⟩, ⟨#[115, 101, 99, 111, 110, 100]⟩, ⟨#[116, 104, 105, 114, 100, 95, 102, 117, 110, 99, 116, 105, 111, 110, 95, 111, 102, 95, 116, 104, 101, 109, 95, 88]⟩]
def dL (s : ByteArray) : Bool := aE s locL
def gloN (s : ByteArray) : Bool := aE s gloL
def funN (s : ByteArray) : Bool := aE s funL
theorem eO {s : ByteArray} {l : List ByteArray} (hl : (l.all aj) = true) (h : aE s l = true) : aj s = true := by
  obtain ⟨x, hx, hs⟩ := List.any_eq_true.1 h
  simp only [decide_eq_true_eq] at hs
  subst hs
  exact List.all_eq_true.1 hl x hx
theorem nB {s : ByteArray} (h : dL s = true) : aj s = true := eO (by decide +kernel) h
theorem gloN_id {s : ByteArray} (h : gloN s = true) : aj s = true := eO (by decide +kernel) h
theorem nC {s : ByteArray} (h : funN s = true) : aj s = true := eO (by decide +kernel) h
def nmK (k : Int) (nm : ByteArray) : Bool := if k = 2 then dL nm || gloN nm else if k = 14 then funN nm else true
mutual
def nmE : Ex → Bool
  | .mk k nm _ ks => nmK k nm && nmEs ks
def nmEs : List Ex → Bool
  | [] => true
  | t :: r => nmE t && nmEs r
end
theorem kI : ∀ l, nmEs l = l.all nmE
  | [] => rfl
  | t :: r => by simp only [nmEs, List.all_cons, kI r]
mutual
def nmS : Sm → Bool
  | .mk k nm _ _ xs b el cs => (decide (k ≠ 1) || dL nm) && nmEs xs && nmSs b && nmSs el && nmCs cs
def nmSs : List Sm → Bool
  | [] => true
  | t :: r => nmS t && nmSs r
def nmCs : List (List Sm) → Bool
  | [] => true
  | c :: r => nmSs c && nmCs r
end
theorem gJ : ∀ l, nmSs l = l.all nmS
  | [] => rfl
  | t :: r => by simp only [nmSs, List.all_cons, gJ r]
theorem kJ : ∀ l, nmCs l = l.all nmSs
  | [] => rfl
  | t :: r => by simp only [nmCs, List.all_cons, kJ r]
structure EG (B : Nat) (e : Ex) : Prop where
  r : rEx e = true
  o : e.ok
  s : e.size ≤ B
  u : nmE e = true
def EGp (B : Nat) (e : Ex) : Prop := EG B e ∧ bw e.kind = true
def EGc (B : Nat) (e : Ex) : Prop := EG B e ∧ e.kind = 14
structure EGs (B : Nat) (l : List Ex) : Prop where
  r : fA l = true
  o : Ex.oks l
  s : Ex.sizes l ≤ B
  u : nmEs l = true
theorem EG.mono {B C : Nat} {e : Ex} (h : EG B e) (hl : B ≤ C) : EG C e := ⟨h.r, h.o, Nat.le_trans h.s hl, h.u⟩
theorem EGs.mono {B C : Nat} {e : List Ex} (h : EGs B e) (hl : B ≤ C) : EGs C e := ⟨h.r, h.o, Nat.le_trans h.s hl, h.u⟩
theorem EGs.nil : EGs 0 [] := ⟨rfl, trivial, Nat.le_refl _, rfl⟩
theorem EGs.cons {B C : Nat} {e : Ex} {l : List Ex} (h : EG B e) (k : EGs C l) : EGs (B + C) (e :: l) := ⟨by simp [fA, h.r, k.r], ⟨h.o, k.o⟩, by have := h.s; have := k.s; simp only [Ex.sizes]; omega, by simp [nmEs, h.u, k.u]⟩
theorem EGs.one {B : Nat} {e : Ex} (h : EG B e) : EGs B [e] := (EGs.cons h EGs.nil).mono (by omega)
theorem EGs.snoc {B C : Nat} {e : Ex} {l : List Ex} (h : EGs B l) (k : EG C e) : EGs (B + C) (l ++ [e]) := ⟨by rw [bL, List.all_append, ← bL]; simp [h.r, k.r], Ex.oks_append.2 ⟨h.o, k.o, trivial⟩, by have := h.s; have := k.s; simp only [Ex.sizes_append, Ex.sizes]; omega, by rw [kI, List.all_append, ← kI]; simp [h.u, k.u]⟩
theorem al {s : ByteArray} (h : aj s = true) : s.size ≤ 24 := by
  simp only [aj, Bool.and_eq_true, decide_eq_true_eq] at h
  exact h.1.1.1.2
theorem EG.of {B : Nat} {k n : Int} {nm : ByteArray} {ks : List Ex} (hk : 1 ≤ k ∧ k ≤ 15) (hn : bp k nm = true) (hs : nm.size ≤ 1000000) (hl : k = 14 ∨ (ks.length : Int) = du k) (h0 : 0 ≤ n) (h1 : n < cu k) (h : EGs B ks) (hu : nmK k nm = true := by rfl) : EG (B + 1) (.mk k nm n ks) := by
  have hx : cu k ≤ 65536 := by unfold cu; split; omega; split; omega; split <;> omega
  refine ⟨?_, ⟨⟨by omega, by omega⟩, hs, ⟨h0, by omega⟩, h.o⟩, by have := h.s; simp only [Ex.size]; omega, by rw [nmE, hu, h.u]; rfl⟩
  simp only [rEx, Bool.and_eq_true, Bool.or_eq_true, decide_eq_true_eq]
  exact ⟨⟨⟨⟨hk, hn⟩, hl⟩, h1⟩, h.r⟩
theorem eg_nm {s : ByteArray} (h : dL s = true ∨ gloN s = true) : EG 1 (av s) := by
  have hi : aj s = true := h.elim nB gloN_id
  exact EG.of (k := 2) (by omega) hi (by have := al hi; omega) (.inr rfl) (by omega) (by decide) EGs.nil (by show (dL s || gloN s) = true; rcases h with h | h <;> simp [h])
theorem iw {s : ByteArray} (h : dL s = true) : EG 1 (av s) := eg_nm (.inl h)
theorem bJ {s : ByteArray} (h : gloN s = true) : EG 1 (av s) := eg_nm (.inr h)
theorem fS {n : Int} (h0 : 0 ≤ n) (h1 : n ≤ 65535) : EG 1 (bI n) := EG.of (k := 1) (by omega) rfl (by decide) (.inr rfl) h0 (by show n < 65536; omega) EGs.nil
theorem eP {s : ByteArray} {l : List ByteArray} {m : Nat} (hl : (l.all fun x => Nat.ble x.size m) = true) (h : aE s l = true) : s.size ≤ m := by
  obtain ⟨x, hx, hs⟩ := List.any_eq_true.1 h
  have := List.all_eq_true.1 hl x hx
  simp only [decide_eq_true_eq] at hs
  subst hs
  exact Nat.le_of_ble_eq_true this
theorem eQ {A B : Nat} {op : ByteArray} {a b : Ex} (h : aE op opsL = true) (ha : EG A a) (hb : EG B b) : EG (A + B + 1) (eN op a b) :=
  EG.of (k := 13) (by omega) h (Nat.le_trans (eP (m := 2) (by decide) h) (by omega)) (.inr rfl) (by omega) (by decide) ((EGs.cons ha (EGs.one hb)))
theorem kK {A : Nat} {s : ByteArray} {e : Ex} (h : aj s = true) (ha : EG A e) : EG (A + 1) (ja e s) := EG.of (k := 3) (by omega) h (by have := al h; omega) (.inr rfl) (by omega) (by decide) (EGs.one ha)
theorem nD {A B : Nat} {a b : Ex} (ha : EG A a) (hb : EG B b) : EG (A + B + 1) (jb a b) := EG.of (k := 4) (by omega) rfl (by decide) (.inr rfl) (by omega) (by decide) ((EGs.cons ha (EGs.one hb)))
theorem eg_one {A : Nat} {k : Int} {e : Ex} (hk : k = 5 ∨ k = 6) (ha : EG A e) : EG (A + 1) (.mk k eS 0 [e]) := by
  rcases hk with rfl | rfl
  · exact EG.of (k := 5) (by omega) rfl (by decide) (.inr rfl) (by omega) (by decide) (EGs.one ha)
  · exact EG.of (k := 6) (by omega) rfl (by decide) (.inr rfl) (by omega) (by decide) (EGs.one ha)
theorem eg_un {A : Nat} {op : ByteArray} {e : Ex} (h : aE op unL = true) (ha : EG A e) : EG (A + 1) (.mk 12 op 0 [e]) := EG.of (k := 12) (by omega) h (Nat.le_trans (eP (m := 1) (by decide) h) (by omega)) (.inr rfl) (by omega) (by decide) (EGs.one ha)
theorem eg_cast {A : Nat} {op : ByteArray} {e : Ex} (h : aE op castL = true) (ha : EG A e) : EG (A + 1) (.mk 15 op 0 [e]) := EG.of (k := 15) (by omega) h (Nat.le_trans (eP (m := 3) (by decide) h) (by omega)) (.inr rfl) (by omega) (by decide) (EGs.one ha)
theorem eg_inp {n : Int} (h0 : 0 ≤ n) (h1 : n < 256) : EG 1 (.mk 11 eS n []) := EG.of (k := 11) (by omega) rfl (by decide) (.inr rfl) h0 (by show n < 256; omega) EGs.nil
theorem eg_call {A : Nat} {nm : ByteArray} {l : List Ex} (h : funN nm = true) (ha : EGs A l) : EG (A + 1) (.mk 14 nm 0 l) := EG.of (k := 14) (by omega) (nC h) (by have := al (nC h); omega) (.inl rfl) (by omega) (by decide) ha h
structure FR (f : Fu) : Prop where
  nm : funN f.nm = true
  ps : ∀ p ∈ f.ps, dL p.nm = true ∧ rTy p.ty = true ∧ p.ty.ok ∧ p.ty.size ≤ 8
  pl : f.ps.length ≤ 3
  res : (rTy f.res = true ∨ aD f.res 7 = true) ∧ f.res.ok ∧ f.res.size ≤ 8
  body : f.body = [] ∧ f.fl = false ∧ f.x = 0 ∧ f.y = 0
def SB (d : Nat) : Nat := 8 * 4 ^ d
theorem jz (d : Nat) : SB (d + 1) = 4 * SB d := by unfold SB; rw [Nat.pow_succ]; omega
theorem iy : ∀ d : Nat, 8 ≤ SB d
  | 0 => by decide
  | d + 1 => by have := iy d; rw [jz]; omega
def constL : List Int := [0, 1, 2, 3, 5, 7, 15, 16, 127, 128, 255, 256, 1000, 32767, 32768, 65535]
theorem constL_in {i : Nat} {x : Int} (h : constL[i]? = some x) : 0 ≤ x ∧ x ≤ 65535 := by
  have : ∀ x ∈ constL, 0 ≤ x ∧ x ≤ 65535 := by decide
  exact this x (List.mem_of_getElem? h)
theorem EGs.step {i d : Nat} {es : List Ex} {e : Ex} (h : EGs (i * SB d) es) (he : EG (SB d) e) : EGs ((i + 1) * SB d) (es ++ [e]) := (h.snoc he).mono (by rw [Nat.add_mul]; omega)
structure SG (B : Nat) (e : Sm) : Prop where
  r : rSm e = true
  o : e.ok
  s : e.size ≤ B
  u : nmS e = true
structure SGs (B : Nat) (l : List Sm) : Prop where
  r : cp l = true
  o : Sm.oks l
  s : Sm.sizes l ≤ B
  u : nmSs l = true
structure SGc (B : Nat) (l : List (List Sm)) : Prop where
  r : rCs l = true
  o : Sm.okc l
  s : Sm.csizes l ≤ B
  u : nmCs l = true
theorem SG.mono {B C : Nat} {e : Sm} (h : SG B e) (hl : B ≤ C) : SG C e := ⟨h.r, h.o, Nat.le_trans h.s hl, h.u⟩
theorem SGs.mono {B C : Nat} {e : List Sm} (h : SGs B e) (hl : B ≤ C) : SGs C e := ⟨h.r, h.o, Nat.le_trans h.s hl, h.u⟩
theorem SGc.mono {B C : Nat} {e : List (List Sm)} (h : SGc B e) (hl : B ≤ C) : SGc C e := ⟨h.r, h.o, Nat.le_trans h.s hl, h.u⟩
theorem SGs.nil : SGs 0 [] := ⟨rfl, trivial, Nat.le_refl _, rfl⟩
theorem SGc.nil : SGc 0 [] := ⟨rfl, trivial, Nat.le_refl _, rfl⟩
theorem SGs.cons {B C : Nat} {e : Sm} {l : List Sm} (h : SG B e) (k : SGs C l) : SGs (B + C) (e :: l) := ⟨by simp [cp, h.r, k.r], ⟨h.o, k.o⟩, by have := h.s; have := k.s; simp only [Sm.sizes]; omega, by simp [nmSs, h.u, k.u]⟩
theorem SGs.one {B : Nat} {e : Sm} (h : SG B e) : SGs B [e] := (SGs.cons h SGs.nil).mono (by omega)
theorem SGs.append {B C : Nat} {a b : List Sm} (h : SGs B a) (k : SGs C b) : SGs (B + C) (a ++ b) := ⟨by rw [bj, List.all_append, ← bj, ← bj]; simp [h.r, k.r], Sm.oks_append.2 ⟨h.o, k.o⟩, by have := h.s; have := k.s; simp only [Sm.sizes_append]; omega, by rw [gJ, List.all_append, ← gJ, ← gJ]; simp [h.u, k.u]⟩
theorem SGs.snoc {B C : Nat} {e : Sm} {l : List Sm} (h : SGs B l) (k : SG C e) : SGs (B + C) (l ++ [e]) := h.append (SGs.one k)
theorem SGc.snoc {B C : Nat} {e : List Sm} {l : List (List Sm)} (h : SGc B l) (k : SGs C e) : SGc (B + C + 1) (l ++ [e]) := ⟨by rw [fh, List.all_append, ← fh]; simp [h.r, k.r], Sm.okc_append.2 ⟨h.o, k.o, trivial⟩, by have := h.s; have := k.s; simp only [Sm.csizes_append, Sm.csizes]; omega, by rw [kJ, List.all_append, ← kJ]; simp [h.u, nmCs, k.u]⟩
theorem aq : ty4z.ok := ⟨⟨by omega, by omega⟩, by decide, ⟨by omega, by omega⟩, trivial⟩
theorem SG.of {A B C D T : Nat} {k n : Int} {nm : ByteArray} {t : Ty4} {xs : List Ex} {b el : List Sm} {cs : List (List Sm)} (hk : 1 ≤ k ∧ k ≤ 14) (hl : aF k ≤ (xs.length : Int)) (hm : (xs.length : Int) ≤ aL k) (hnm : aV k nm = true) (hns : nm.size ≤ 1000000)
    (ht : (if k = 1 then rTy t else aD t 0) = true) (hto : t.ok) (hts : t.size ≤ T) (hn : n = 0 ∨ smPo k = true) (h0 : 0 ≤ n) (h1 : n < 256) (hb : ip k = true ∨ b = []) (hel : i7 k = true ∨ el = []) (hcs : i8 k = true ∨ cs = [])
    (hd : k = 14 → bK (fun j => decide (j = 14)) xs = true) (ha : k = 2 → bK bw xs = true) (hx : EGs A xs) (hB : SGs B b) (hE : SGs C el) (hC : SGc D cs) (hu : k = 1 → dL nm = true := by omega) : SG (T + A + B + C + D + 1) (.mk k nm t n xs b el cs) := by
  refine ⟨?_, ⟨⟨by omega, by omega⟩, hns, hto, ⟨h0, by omega⟩, hx.o, hB.o, hE.o, hC.o⟩, by have := hx.s; have := hB.s; have := hE.s; have := hC.s; simp only [Sm.size]; omega, ?_⟩
  rotate_left
  · rw [nmS, hx.u, hB.u, hE.u, hC.u, Bool.and_true, Bool.and_true, Bool.and_true, Bool.and_true]
    by_cases q : k = 1
    · rw [hu q]; simp
    · simp [q]
  simp only [rSm, Bool.and_eq_true, Bool.or_eq_true, decide_eq_true_eq, Bool.not_eq_true', decide_eq_false_iff_not, List.length_eq_zero_iff]
  refine ⟨⟨⟨⟨⟨⟨⟨⟨⟨⟨⟨⟨⟨⟨hk, hl⟩, hm⟩, hx.r⟩, hnm⟩, ht⟩, ?_⟩, hb⟩, hel⟩, hcs⟩, ?_⟩, ?_⟩, hB.r⟩, hE.r⟩, hC.r⟩
  · rcases hn with h | h
    · exact .inl h
    · exact .inr ⟨h, h1⟩
  · by_cases h : k = 14
    · exact .inr (hd h)
    · exact .inl h
  · by_cases h : k = 2
    · exact .inr (ha h)
    · exact .inl h
theorem sg_let {A T : Nat} {nm : ByteArray} {t : Ty4} {e : Ex} (hl : dL nm = true) (ht : rTy t = true) (ho : t.ok) (hs : t.size ≤ T) (he : EG A e) : SG (T + A + 1) (.mk 1 nm t 0 [e] [] [] []) := by
  have h := nB hl
  exact SG.of (B := 0) (C := 0) (D := 0) (k := 1) (by omega) (show (1 : Int) ≤ 1 from by omega) (show (1 : Int) ≤ 1 from by omega) h (by have := al h; omega) ht ho hs (.inl rfl) (by omega) (by omega) (.inr rfl) (.inr rfl) (.inr rfl) (by omega) (by omega) (EGs.one he) SGs.nil SGs.nil SGc.nil (fun _ => hl)
theorem sg_asg {A B : Nat} {a e : Ex} (ha : EGp A a) (he : EG B e) : SG (1 + (A + B) + 1) (.mk 2 eS ty4z 0 [a, e] [] [] []) :=
  SG.of (B := 0) (C := 0) (D := 0) (k := 2) (by omega) (show (2 : Int) ≤ 2 from by omega) (show (2 : Int) ≤ 2 from by omega) rfl (by decide) (by decide) aq (by decide) (.inl rfl) (by omega) (by omega) (.inr rfl) (.inr rfl) (.inr rfl) (by omega) (fun _ => ha.2) (EGs.cons ha.1 (EGs.one he)) SGs.nil SGs.nil SGc.nil
theorem l7 {A B C : Nat} {e : Ex} {b el : List Sm} (he : EG A e) (hb : SGs B b) (hc : SGs C el) : SG (1 + A + B + C + 1) (.mk 3 eS ty4z 0 [e] b el []) :=
  SG.of (D := 0) (k := 3) (by omega) (show (1 : Int) ≤ 1 from by omega) (show (1 : Int) ≤ 1 from by omega) rfl (by decide) (by decide) aq (by decide) (.inl rfl) (by omega) (by omega) (.inl rfl) (.inl rfl) (.inr rfl) (by omega) (by omega) (EGs.one he) hb hc SGc.nil
theorem sg_while {A B : Nat} {nm : ByteArray} {e : Ex} {b : List Sm} (h : nm = eS ∨ aj nm = true) (he : EG A e) (hb : SGs B b) : SG (1 + A + B + 1) (.mk 4 nm ty4z 0 [e] b [] []) :=
  SG.of (C := 0) (D := 0) (k := 4) (by omega) (show (1 : Int) ≤ 1 from by omega) (show (1 : Int) ≤ 1 from by omega) (by rcases h with rfl | h; exact rfl; simp [aV, cL, cZ, h]) (by rcases h with rfl | h; decide; have := al h; omega) (by decide) aq (by decide) (.inl rfl) (by omega) (by omega) (.inl rfl) (.inr rfl) (.inr rfl) (by omega) (by omega) (EGs.one he) hb SGs.nil SGc.nil
theorem sg_loop {B : Nat} {k : Int} {nm : ByteArray} {b : List Sm} (hk : k = 5 ∨ k = 6) (h : aj nm = true) (hb : SGs B b) : SG (1 + B + 1) (.mk k nm ty4z 0 [] b [] []) := by
  have hs := al h
  rcases hk with rfl | rfl
  · exact (SG.of (A := 0) (C := 0) (D := 0) (k := 5) (by omega) (by decide) (by decide) (by simp [aV, cL, cZ, h]) (by omega) (by decide) aq (by decide : ty4z.size ≤ 1) (.inl rfl) (by omega) (by omega) (.inl rfl) (.inr rfl) (.inr rfl) (by omega) (by omega) EGs.nil hb SGs.nil SGc.nil).mono (by omega)
  · exact (SG.of (A := 0) (C := 0) (D := 0) (k := 6) (by omega) (by decide) (by decide) (by simp [aV, cL, cZ, h]) (by omega) (by decide) aq (by decide : ty4z.size ≤ 1) (.inl rfl) (by omega) (by omega) (.inl rfl) (.inr rfl) (.inr rfl) (by omega) (by omega) EGs.nil hb SGs.nil SGc.nil).mono (by omega)
theorem nE {k : Int} {nm : ByteArray} (hk : k = 7 ∨ k = 8) (h : aj nm = true) : SG 2 (.mk k nm ty4z 0 [] [] [] []) := by
  have hs := al h
  rcases hk with rfl | rfl
  · exact (SG.of (A := 0) (B := 0) (C := 0) (D := 0) (k := 7) (by omega) (by decide) (by decide) (by simp [aV, cL, h]) (by omega) (by decide) aq (by decide : ty4z.size ≤ 1) (.inl rfl) (by omega) (by omega) (.inr rfl) (.inr rfl) (.inr rfl) (by omega) (by omega) EGs.nil SGs.nil SGs.nil SGc.nil).mono (by omega)
  · exact (SG.of (A := 0) (B := 0) (C := 0) (D := 0) (k := 8) (by omega) (by decide) (by decide) (by simp [aV, cL, h]) (by omega) (by decide) aq (by decide : ty4z.size ≤ 1) (.inl rfl) (by omega) (by omega) (.inr rfl) (.inr rfl) (.inr rfl) (by omega) (by omega) EGs.nil SGs.nil SGs.nil SGc.nil).mono (by omega)
theorem sg_switch {A C D : Nat} {e : Ex} {el : List Sm} {cs : List (List Sm)} (he : EG A e) (hc : SGs C el) (hd : SGc D cs) : SG (1 + A + C + D + 1) (.mk 9 eS ty4z 0 [e] [] el cs) :=
  (SG.of (B := 0) (xs := [e]) (k := 9) (by omega) (show (1 : Int) ≤ 1 from by omega) (show (1 : Int) ≤ 1 from by omega) rfl (by decide) (by decide) aq (by decide : ty4z.size ≤ 1) (.inl rfl) (by omega) (by omega) (.inr rfl) (.inl rfl) (.inl rfl) (by omega) (by omega) (EGs.one he) SGs.nil hc hd).mono (by omega)
theorem sg_ret {A : Nat} {l : List Ex} (hl : l.length ≤ 1) (he : EGs A l) : SG (1 + A + 1) (.mk 10 eS ty4z 0 l [] [] []) :=
  (SG.of (B := 0) (C := 0) (D := 0) (k := 10) (by omega) (by show (0 : Int) ≤ _; omega) (by show _ ≤ (1 : Int); omega) rfl (by decide) (by decide) aq (by decide : ty4z.size ≤ 1) (.inl rfl) (by omega) (by omega) (.inr rfl) (.inr rfl) (.inr rfl) (by omega) (by omega) he SGs.nil SGs.nil SGc.nil).mono (by omega)
theorem sg_out {A : Nat} {n : Int} {e : Ex} (h0 : 0 ≤ n) (h1 : n < 256) (he : EG A e) : SG (1 + A + 1) (.mk 11 eS ty4z n [e] [] [] []) :=
  (SG.of (B := 0) (C := 0) (D := 0) (xs := [e]) (k := 11) (by omega) (show (1 : Int) ≤ 1 from by omega) (show (1 : Int) ≤ 1 from by omega) rfl (by decide) (by decide) aq (by decide : ty4z.size ≤ 1) (.inr rfl) h0 h1 (.inr rfl) (.inr rfl) (.inr rfl) (by omega) (by omega) (EGs.one he) SGs.nil SGs.nil SGc.nil).mono (by omega)
theorem sg_mark {k : Int} (hk : k = 12 ∨ k = 13) : SG 2 (.mk k eS ty4z 0 [] [] [] []) := by
  rcases hk with rfl | rfl
  · exact (SG.of (A := 0) (B := 0) (C := 0) (D := 0) (k := 12) (by omega) (by decide) (by decide) rfl (by decide) (by decide) aq (by decide : ty4z.size ≤ 1) (.inl rfl) (by omega) (by omega) (.inr rfl) (.inr rfl) (.inr rfl) (by omega) (by omega) EGs.nil SGs.nil SGs.nil SGc.nil).mono (by omega)
  · exact (SG.of (A := 0) (B := 0) (C := 0) (D := 0) (k := 13) (by omega) (by decide) (by decide) rfl (by decide) (by decide) aq (by decide : ty4z.size ≤ 1) (.inl rfl) (by omega) (by omega) (.inr rfl) (.inr rfl) (.inr rfl) (by omega) (by omega) EGs.nil SGs.nil SGs.nil SGc.nil).mono (by omega)
theorem sg_do {A : Nat} {e : Ex} (he : EGc A e) : SG (1 + A + 1) (.mk 14 eS ty4z 0 [e] [] [] []) :=
  (SG.of (B := 0) (C := 0) (D := 0) (xs := [e]) (k := 14) (by omega) (show (1 : Int) ≤ 1 from by omega) (show (1 : Int) ≤ 1 from by omega) rfl (by decide) (by decide) aq (by decide : ty4z.size ≤ 1) (.inl rfl) (by omega) (by omega) (.inr rfl) (.inr rfl) (.inr rfl) (fun _ => by simp [bK, he.2]) (by omega) (EGs.one he.1) SGs.nil SGs.nil SGc.nil).mono (by omega)
def ZB : Nat → Nat
  | 0 => 20000
  | k + 1 => 24 * ZB k + 100000
theorem ZB_pos : ∀ k, 20000 ≤ ZB k
  | 0 => Nat.le_refl _
  | k + 1 => by have := ZB_pos k; simp only [ZB]; omega
theorem ZB_le {k : Nat} (h : k ≤ 4) : ZB k ≤ 10000000000 := by
  have : k = 0 ∨ k = 1 ∨ k = 2 ∨ k = 3 ∨ k = 4 := by omega
  rcases this with rfl | rfl | rfl | rfl | rfl <;> simp [ZB]
def PB : Nat → Nat
  | 0 => 5000
  | k + 1 => 4 * ZB k + 12000
theorem PB_le (k : Nat) : 4 * PB k ≤ ZB k := by
  cases k with
  | zero => show 4 * 5000 ≤ 20000; omega
  | succ k =>
    have h := ZB_pos k
    have e1 : PB (k + 1) = 4 * ZB k + 12000 := rfl
    have e2 : ZB (k + 1) = 24 * ZB k + 100000 := rfl
    omega
theorem PB_pos (k : Nat) : 5000 ≤ PB k := by
  cases k with
  | zero => exact Nat.le_refl _
  | succ k =>
    have e1 : PB (k + 1) = 4 * ZB k + 12000 := rfl
    omega
theorem PB_pred {k : Nat} (h : 1 ≤ k) : PB k = 4 * ZB (k - 1) + 12000 := by
  obtain ⟨j, rfl⟩ : ∃ j, k = j + 1 := ⟨k - 1, by omega⟩
  rfl
theorem pb_step {i k B : Nat} (h : B ≤ PB k) : i * PB k + B ≤ (i + 1) * PB k := by rw [Nat.add_mul]; omega
theorem pb_all {i k : Nat} (h : i ≤ 4) : i * PB k ≤ 4 * PB k := Nat.mul_le_mul_right _ h
theorem SB2 : SB 2 = 128 := by decide
theorem SB3 : SB 3 = 512 := by decide
theorem SB4 : SB 4 = 2048 := by decide
theorem oD {k q A z : Nat} (hz : PB k = 4 * z + 12000) (hq : q ≤ 3) (hA : A ≤ 600 := by rw [SB3]; omega) : 1 + A + z + q * (z + 1) + 1 ≤ PB k := by
  have : q * (z + 1) ≤ 3 * (z + 1) := Nat.mul_le_mul_right _ hq
  omega
section
open Go Go.RowKit Go.Proofs K
variable {pk : Pk}
def er (n m : Int) : Int := (n.tmod m + m).tmod m
theorem bq {n m : Int} (hm : 0 < m) : 0 ≤ er n m ∧ er n m < m := by
  unfold er
  have h1 : -m < n.tmod m := by
    have := Int.lt_tmod_of_pos n hm; omega
  exact ⟨Int.tmod_nonneg _ (by omega), Int.tmod_lt_of_pos _ hm⟩
theorem bP {n m : Int} (hm : 0 < m) (hm2 : m ≤ 1000000) : XQ Tryz.prog pk 26 [xi n, xi m] (xi (er n m)) := by
  have h1 : -m < n.tmod m := by
    have := Int.lt_tmod_of_pos n hm; omega
  have h2 := Int.tmod_lt_of_pos n hm
  refine XQ.en Tryz.func26 Tryz.ntmps26 (fun w0 own H V v0 hf => ?_)
  refine G (T := T) 1000 rfl ?_
  exact Fe (T := T) rfl rfl
theorem kL {n : Int} (h0 : 0 ≤ n) (h1 : n ≤ 65535) : IntKind.u16.wrap n = n := by
  obtain ⟨k, rfl⟩ := Int.eq_ofNat_of_zero_le h0
  simp only [IntKind.wrap, IntKind.signed, IntKind.bits, Bool.false_and]
  rw [if_neg (by simp)]
  omega
theorem ay {n : Int} (h0 : 0 ≤ n) (h1 : n ≤ 65535) : XQ Tryz.prog pk 71 [xi n] (xd (exD (bI n))) := by
  refine XQ.en Tryz.func71 Tryz.ntmps71 (fun w0 own H V v0 hf => ?_)
  refine G (T := T) 1000 rfl ?_
  rw [kL h0 h1]
  exact Fq (T := T) rfl rfl
theorem ai (s : ByteArray) : XQ Tryz.prog pk 69 [xs s] (xd (exD (av s))) := by
  refine XQ.en Tryz.func69 Tryz.ntmps69 (fun w0 own H V v0 hf => ?_)
  refine G (T := T) 1000 rfl ?_
  exact Fq (T := T) rfl rfl
theorem aM (op : ByteArray) (a b : Ex) : XQ Tryz.prog pk 70 [xs op, xd (exD a), xd (exD b)] (xd (exD (eN op a b))) := by
  refine XQ.en Tryz.func70 Tryz.ntmps70 (fun w0 own H V v0 hf => ?_)
  refine G (T := T) 1000 rfl ?_
  exact Fq (T := T) rfl rfl
theorem bF (e : Ex) (s : ByteArray) : XQ Tryz.prog pk 124 [xd (exD e), xs s] (xd (exD (ja e s))) := by
  refine XQ.en Tryz.func124 Tryz.ntmps124 (fun w0 own H V v0 hf => ?_)
  refine G (T := T) 1000 rfl ?_
  exact Fq (T := T) rfl rfl
theorem bf (a b : Ex) : XQ Tryz.prog pk 125 [xd (exD a), xd (exD b)] (xd (exD (jb a b))) := by
  refine XQ.en Tryz.func125 Tryz.ntmps125 (fun w0 own H V v0 hf => ?_)
  refine G (T := T) 1000 rfl ?_
  exact Fq (T := T) rfl rfl
def atP (l : List Int) (v : Value) : Prop := ∃ a : Nat, a ≤ l.length ∧ v = .int .i64 (a : Int)
def ndP (v : Value) : Prop := ∃ n : Int, v = .int .i64 n
structure KC where
  l : List Int
  fs : List Fu
  tn : Nat
  me : Nat
  vars : List ByteArray
  labels : List ByteArray
  lf : Nat
  mn : Nat
  ct : Nat
abbrev mkQx (a b c : Nat) (l : List Int) (fs : List Fu) (tn me n : Nat) (R : List (List D)) (labels : List ByteArray) (lf mn ct t1 t2 : Nat) : XH := [⟨a, 0, .cells [.d (.s (l.map iu)), .w (atP l), .d (.c (.int .i64 (tn : Int))), .d (.c (.int .i64 (lf : Int))), .w ndP, .l b t1 1 0 n n, .d (.c (.int .i64 (mn : Int))), .l c t2 1 0 labels.length labels.length, .d (.c (.int .i64 (ct : Int))), .d (.c (.int .i64 (me : Int))), .d (.s (fs.map fuD))] 138⟩,
  ⟨b, t1, .row n R 9 1⟩, ⟨c, t2, .row labels.length (labels.map bM) 9 1⟩]
abbrev mkQn (a b c : Nat) (l : List Int) (fs : List Fu) (tn me : Nat) (vars labels : List ByteArray) (lf mn ct t1 t2 : Nat) : XH := mkQx a b c l fs tn me vars.length (vars.map bM) labels lf mn ct t1 t2
abbrev mkQ (l : List Int) (fs : List Fu) (tn me : Nat) (vars labels : List ByteArray) (lf mn ct t1 t2 : Nat) : XH := mkQn 0 1 2 l fs tn me vars labels lf mn ct t1 t2
abbrev mkT (c : KC) (t : Nat) : XH := mkQ c.l c.fs c.tn c.me c.vars c.labels c.lf c.mn c.ct t t
abbrev mkB (c : KC) : XH := mkT c 0
structure KC.ok (c : KC) : Prop where
  hl : ∀ n ∈ c.l, I64 n
  hll : c.l.length ≤ 1000000
  hv : ∀ s ∈ c.vars, dL s = true
  hvl : c.vars.length ≤ 1000
  hme : c.me < c.fs.length
  hfl : c.fs.length ≤ 1000
  hf : ∀ f ∈ c.fs, FR f
  htn : c.tn ≤ 1000
  hlb : ∀ s ∈ c.labels, aj s = true
  hlbl : c.labels.length ≤ 1000
abbrev pm : XV := .a (.c (.p 0 0 0))
theorem az {c : KC} (h1 : ∀ n ∈ c.l, I64 n) (h2 : c.l.length ≤ 1000000) {n : Int} (hn : 0 < n) (hn2 : n ≤ 1000000) : XKp Tryz.prog pk 65 [pm, xi n] (mkB c) 3 (fun r => ∃ k : Int, r = xi k ∧ 0 ≤ k ∧ k < n) := by
  refine XM.en Tryz.func65 Tryz.ntmps65 (fun w0 own H V v0 hf => ?_)
  refine G (T := T) 100001 rfl ?_
  refine Op 0 1 rfl rfl ?_
  rintro _ ⟨a, ha, rfl⟩
  refine ⟨_, _, rfl, rfl, ?_⟩
  refine G (T := T) 1000 rfl ?_
  refine If rfl (fun h => ?_) (fun h => ?_)
  · refine G (T := T) 1000 rfl ?_
    refine (SRto.wk 0 1 (atP c.l) rfl rfl rfl rfl ⟨a, ha, rfl⟩).e ?_
    exact Fm (T := T) id (xi 0) (mkB c) ⟨⟨0, rfl, Int.le_refl _, hn⟩, rfl⟩ rfl
  · have hlt := of_decide_eq_false h; rw [List.length_map] at hlt
    obtain ⟨y, hy⟩ := ah (l := c.l) (j := a) (by omega)
    refine G (T := T) 1000 rfl ?_
    refine Ix (T := T) a (ab hy) rfl rfl rfl rfl ⟨rfl, rfl⟩ (by omega) rfl ?_
    refine G (T := T) 1000 rfl ?_
    refine Cq (bP hn hn2) rfl rfl rfl rfl rfl ⟨rfl, rfl⟩ ?_
    refine G (T := T) 1000 rfl ?_
    refine (SRto.wk 0 1 (atP c.l) rfl rfl rfl rfl ⟨a + 1, by omega, by push_cast; rfl⟩).e ?_
    have := bq (n := y) hn
    exact Fm (T := T) id (xi (er y n)) (mkB c) ⟨⟨_, rfl, this.1, this.2⟩, rfl⟩ rfl
theorem oE {c : KC} (h1 : ∀ n ∈ c.l, I64 n) (h2 : c.l.length ≤ 1000000) : XKp Tryz.prog pk 155 [pm] (mkB c) 3 (fun r => ∃ e, r = xd (exD e) ∧ EG 1 e) := by
  refine XM.en Tryz.func155 Tryz.ntmps155 (fun w0 own H V v0 hf => ?_)
  refine G (T := T) 1000 rfl ?_
  refine Ck [0, 1, 2] (az h1 h2 (n := 16) (by omega) (by omega)) rfl rfl rfl rfl rfl rfl rfl ⟨⟨rfl, rfl⟩, rfl⟩ ?_
  rintro _ ⟨k, rfl, k1, k2⟩
  obtain ⟨j, rfl⟩ := Int.eq_ofNat_of_zero_le k1
  obtain ⟨y, hy⟩ := ah (l := constL) (j := j) (by show j < 16; omega)
  have hyc := constL_in hy
  refine G (T := T) 10 rfl ?_
  refine Ix (T := T) (rows := constL.map iu) j (ab hy) rfl rfl rfl rfl ⟨rfl, rfl⟩ rfl rfl ?_
  refine G (T := T) 1000 rfl ?_
  refine Cq (ay hyc.1 hyc.2) rfl rfl rfl rfl rfl ⟨rfl, rfl⟩ ?_
  refine G (T := T) 1000 rfl ?_
  exact Fm (T := T) id (xd (exD (bI y))) (mkB c) ⟨⟨_, rfl, fS hyc.1 hyc.2⟩, rfl⟩ rfl
end
section
variable {P : Program} {pk : Pk} {T : Tb P} {Er : XE} {nx : Nat} {ops : Array Oper} {d : Option Tmp} {ty : TypeId} {pos : String} {af : Array Edge}
theorem LS.br {t : TypeId} {len e sz by_ : Nat} {ps : List (Nat × Operand)} {l : List (Nat × List XC)} {rows : List (List D)} (h1 : dY (xev Er) ps = some l) (hti : T.bt.get t = some (.sl e sz by_)) (hb : (Nat.beq l.length len && Nat.ble (len * sz) 16777216) = true) (hr : lL sz 0 l = some rows) :
    LS P pk ops { dst := d, op := .buildSlice t len ps.toArray, type := ty, pos := pos, after := af, guard := none } Er [] nx (nx + 1) (fun x fp' => x = .a (.c (.l nx 0 sz 0 len len)) ∧ fp' = [⟨nx, 0, .row len rows e sz⟩]) := by
  intro w0 N Q rest env own H V sg hl hV htp hf hd _ hh
  have htk := BT.all_get T.ok hti
  simp only [Bool.and_eq_true] at hb
  obtain ⟨pv, h2, h3⟩ := cR hl.lks h1
  obtain ⟨z, hS⟩ := aW htk
  obtain ⟨k1, k2, k3, k4⟩ := jW hr h3
  have hlen : pv.length = len := by
    rw [← Nat.eq_of_beq_eq_true hb.1]
    clear k1 k2 k3 h2 hr h1 hb
    induction l generalizing pv with
    | nil => cases pv with | nil => rfl | cons => exact h3.elim
    | cons a l ih => cases pv with | nil => exact h3.elim | cons p pv => rw [List.length_cons, List.length_cons, ih pv h3.2]
  obtain rfl := HR0 hV
  have hsz := hS.pos
  have hb2 := Nat.le_of_ble_eq_true hb.2
  have hl2 : len ≤ len * sz := Nat.le_mul_of_pos_right _ hsz
  have := TL.litF (hu := hS) (ty := ty) (pos := pos) (af := af) (rest := rest) (ops := ops) (Q := Q) (own := [] :: own) (H := H) (w0 := w0) pv h2 hb.2 (by rw [k1, hlen]; simp) rfl hd (fun g => ?_)
  · simpa using this
  · obtain ⟨f1, f2, f3⟩ := bD (V := V) (H := H) (nx := nx) (g := g) (ex := 0) (o := .cells (pv.flatMap (·.2)).toArray e (0, 0)) (xo := .row len rows e sz) hf ⟨pv.flatMap (·.2), [], by rw [k3, hlen], k2, k4, by simp, by simp, by have : maxLen = 9223372036854775807 := rfl; omega, hsz⟩
    exact TL.flat (own' := [(g, .cells (pv.flatMap (·.2)).toArray e (0, 0))] :: own) (List.Perm.refl _) (hh _ _ _ _ H _ ⟨rfl, rfl⟩ (by
      simp only [XV.rel, XA.rel, XC.rel]
      exact ⟨some g, 0, Vn.new_at .., by simp⟩) f1 f2 f3 (Le.refl _))
theorem LS.ap {t : TypeId} {o y : Operand} {e sz by_ g t0 n m' : Nat} {rows rows' : List (List D)} (ho : xev Er o = some (.a (.c (.l g t0 sz 0 n n)))) (hy : xev Er y = some (.a (.c (.d (.s rows'))))) (ht : T.bt.get t = some (.sl e sz by_)) (hm : m' = rows'.length) (hl : ∀ r ∈ rows', r.length = sz) (h1 : n + m' ≤ 9223372036854775807) (h2 : (n + m') * by_ ≤ 140737488355328) :
    LS P pk ops { dst := d, op := .call { callee := .builtin .append, args := [o, y].toArray, argTypes := [t, t].toArray }, type := ty, pos := pos, after := af, guard := none } Er [⟨g, t0, .row n rows e sz⟩] nx nx (fun x fp' => x = .a (.c (.l g (t0 + 1) sz 0 (n + m') (n + m'))) ∧ fp' = [⟨g, t0 + 1, .row (n + m') (rows ++ rows') e sz⟩]) := by
  intro w0 N Q rest env own H V sg hlk hV htp hf hd _ hh
  obtain ⟨v, a1, a2⟩ := hlk.lks _ _ ho
  obtain ⟨w, a3, a4⟩ := hlk.lks _ _ hy
  obtain ⟨z, hS⟩ := aW (BT.all_get T.ok ht)
  simp only [XV.rel, XA.rel] at a2
  simp only [XV.rel, XA.rel, XC.rel] at a4
  have hx : jY nx (fun _ => some ⟨g, t0, .row n rows e sz⟩) e sz by_ rows' m' [∀ r ∈ rows', r.length = sz] (.l g t0 sz 0 n n) = some (.w (.a (.c (.l g (t0 + 1) sz 0 (n + m') (n + m')))) g (t0 + 1) (.row (n + m') (rows ++ rows') e sz), [t0 = t0, n = n, n = n, n + m' ≤ 9223372036854775807, (n + m') * by_ ≤ 140737488355328, ∀ r ∈ rows', r.length = sz]) := by
    simp only [jY, show ∀ a, Nat.beq a a = true from Nat.beq_refl, Bool.and_self, cond_true]
  exact ge (ob0 := [∀ r ∈ rows', r.length = sz]) (get := fun _ => some ⟨g, t0, .row n rows e sz⟩) hS hm (fun h => h.1) hx ⟨rfl, rfl, rfl, h1, h2, hl, trivial⟩ ⟨v, a1, a2⟩ ⟨w, a3, a4⟩ hV htp hf hd hh
end
section
variable {P : Program} {x : Cx P} {T : Tb P} {k : List Fr} {E Er : XE} {hp hp' : XH} {nx i : Nat} {ops : List Oper} {dm : Option (List Rc)} {l : List (Nat × Oper)} {d : Tmp} {ty : TypeId} {pos : String} {af : Array Edge} {g : Option (Nat × Bool)}
theorem Br {t : TypeId} {len e sz by_ : Nat} {ps : List (Nat × Operand)} {lx : List (Nat × List XC)} {rows : List (List D)} (hEr : vis dm ops { dst := some d, op := .buildSlice t len ps.toArray, type := ty, pos := pos, after := af, guard := g } E = Er) (h1 : dY (xev Er) ps = some lx) (ht : T.bt.get t = some (.sl e sz by_)) (hbl : (Nat.beq lx.length len && Nat.ble (len * sz) 16777216) = true) (hr : lL sz 0 lx = some rows) (hb : ak ops Er g = some true ∧ okD x.N (some d) = true)
    (hk : (MS.r ops (push dm ⟨i, [nx], true, false⟩) l k ⟨(d, .a (.c (.l nx 0 sz 0 len len))) :: E, ⟨nx, 0, .row len rows e sz⟩ :: hp, nx + 1⟩).ok x) (hdk : DkM dm ops ⟨i, [nx], true, false⟩ := by first | exact trivial | (refine DK.mk ?_; decide +kernel)) : (MS.r ops dm ((i, { dst := some d, op := .buildSlice t len ps.toArray, type := ty, pos := pos, after := af, guard := g }) :: l) k ⟨E, hp, nx⟩).ok x := by
  subst hEr
  have e0 : aa ([] : XH) ++ List.range' nx (nx + 1 - nx) = [nx] := by simp [aa]
  refine MS.op (fp := []) (rest := hp) true false hb.2 (.refl _) (Nat.le_succ _) (LS.yes (o := { dst := some d, op := .buildSlice t len ps.toArray, type := ty, pos := pos, after := af, guard := g }) hb.1 (LS.br (T := T) h1 ht hbl hr)) (by rw [e0]; exact hdk) (fun _ => ⟨_, _, ⟨rfl, rfl⟩, fun _ _ h => h⟩) (fun h => by cases h) ?_
  rintro q fp' ⟨rfl, rfl⟩
  refine ⟨fun b' hb' => .inr ?_, by simp [aa], fun h => (by cases h), _, .refl _, ?_⟩
  · obtain rfl := List.mem_singleton.1 hb'
    exact ⟨Nat.le_refl _, Nat.lt_succ_self _⟩
  · rw [e0]; exact hk
theorem Ap {t : TypeId} {o y : Operand} {e sz by_ gp t0 n m' : Nat} {rows rows' : List (List D)} (hm : m' = rows'.length) (hl : ∀ r ∈ rows', r.length = sz) (hEr : vis dm ops { dst := some d, op := .call { callee := .builtin .append, args := [o, y].toArray, argTypes := [t, t].toArray }, type := ty, pos := pos, after := af, guard := g } E = Er) (ho : xev Er o = some (.a (.c (.l gp t0 sz 0 n n)))) (hy : xev Er y = some (.a (.c (.d (.s rows'))))) (hg : an hp gp = some ⟨gp, t0, .row n rows e sz⟩) (hset' : bc hp gp (t0 + 1) (.row (n + m') (rows ++ rows') e sz) = some hp') (ht : T.bt.get t = some (.sl e sz by_)) (hb : ak ops Er g = some true ∧ okD x.N (some d) = true) (h1 : n + m' ≤ 9223372036854775807) (h2 : (n + m') * by_ ≤ 140737488355328)
    (hk : (MS.r ops (push dm ⟨i, [gp], true, false⟩) l k ⟨(d, .a (.c (.l gp (t0 + 1) sz 0 (n + m') (n + m')))) :: E, hp', nx⟩).ok x) (hdk : DkM dm ops ⟨i, [gp], true, false⟩ := by first | exact trivial | (refine DK.mk ?_; decide +kernel)) : (MS.r ops dm ((i, { dst := some d, op := .call { callee := .builtin .append, args := [o, y].toArray, argTypes := [t, t].toArray }, type := ty, pos := pos, after := af, guard := g }) :: l) k ⟨E, hp, nx⟩).ok x :=
  MS.wr1 hg hset' hEr hb (LS.ap (T := T) ho hy ht hm hl h1 h2) hdk hk
end
section
variable {tp : TypeId} {z : Value} {P : Program} {x : Cx P} {k : List Fr} {E : XE} {hp : XH} {nx i : Nat} {ops : List Oper} {l : List (Nat × Oper)} {d : Tmp} {ty : TypeId} {pos : String} {af : Array Edge} {g : Option (Nat × Bool)} {dm : Option (List Rc)} {Er : XE}
theorem LS.panic {pk : Pk} {ops : Array Oper} {y : Operand} (hy : xev Er y = some (xv (.iface tp z))) (hpc : pk.pc = { v := .iface tp z, recovered := false }) (hψ : pk.ψ) :
    LS P pk ops { dst := none, op := .panic y, type := ty, pos := pos, after := af, guard := none } Er [] nx nx (fun _ _ => False) := by
  intro w0 N Q rest env own H V sg hl hV htp hf hd hpan hh a w ha hw
  obtain ⟨u, h1, h2⟩ := hl.lks _ _ hy
  rw [aO h2] at h1
  refine wpList_plain rfl fun K hK => ?_
  have hrun : (execOp a.eval { dst := none, op := .panic y, type := ty, pos := pos, after := af, guard := none }).run P w = .halt (.panic (.iface tp z)) w := by
    simp [execOp, ha.ev h1]; rfl
  unfold Oper.wp
  rw [hrun]
  have := hpan.2 a w H hψ ha.defers (Le.refl _) hw.tail
  rw [hpc] at this
  exact this
theorem Pn {y : Operand} (hy : xev E y = some (xv (.iface tp z))) (hpc : x.B.pk.pc = { v := .iface tp z, recovered := false }) (hψ : x.B.pk.ψ) :
    (MS.r ops none ((i, { dst := none, op := .panic y, type := ty, pos := pos, after := af, guard := none }) :: l) k ⟨E, hp, nx⟩).ok x :=
  MS.op (fp := []) (rest := hp) false true rfl (.refl _) (Nat.le_refl _) (LS.panic hy hpc hψ) trivial (fun h => by cases h) (fun _ => trivial) (fun _ _ h => h.elim)
theorem LS.iface {pk : Pk} {ops : Array Oper} {y : Operand} {t : TypeId} (hc : P.concrete t = true) (hy : xev Er y = some (.a (.a []))) :
    LS P pk ops { dst := some d, op := .makeInterface t y, type := ty, pos := pos, after := af, guard := none } Er [] nx nx (fun x fp' => x = xv (.iface t (.agg #[])) ∧ fp' = []) := by
  intro w0 N Q rest env own H V sg hl hV htp hf hd _ hh
  obtain ⟨u, h1, h2⟩ := hl.lks _ _ hy
  obtain ⟨⟨us⟩, rfl, h3⟩ := h2
  cases us with
  | cons => exact h3.elim
  | nil =>
    refine TL.val rfl hd (fun a w ha hw => ⟨w, ?_, hw⟩) (hh (.iface t (.agg #[])) _ _ V H sg ⟨rfl, rfl⟩ (by simp only [XV.rel, XA.rel, XC.rel, rd]; exact ⟨trivial, rfl⟩) hV htp (VX.refl _ _ _) (Le.refl _))
    simp [execOp, ha.ev h1, run_makeInterface w t _ hc]
theorem Mf {y : Operand} {t : TypeId} (hc : P.concrete t = true) (hEr : vis dm ops { dst := some d, op := .makeInterface t y, type := ty, pos := pos, after := af, guard := g } E = Er) (hy : xev Er y = some (.a (.a []))) (hb : ak ops Er g = some true ∧ okD x.N (some d) = true)
    (hk : (MS.r ops (push dm ⟨i, [], false, false⟩) l k ⟨(d, xv (.iface t (.agg #[]))) :: E, hp, nx⟩).ok x) (hdk : DkM dm ops ⟨i, [], false, false⟩ := by first | exact trivial | (refine DK.mk ?_; decide +kernel)) :
    (MS.r ops dm ((i, { dst := some d, op := .makeInterface t y, type := ty, pos := pos, after := af, guard := g }) :: l) k ⟨E, hp, nx⟩).ok x := MS.val hEr hb (LS.iface hc hy) hdk hk
theorem LS.eqN {pk : Pk} {ops : Array Oper} {y : Operand} {t t' : TypeId} {v : Value} {b : Bool} {ms : Array (String × TypeId)} (hu : P.underlying t = some (.interface ms)) (hy : xev Er y = some (xv v)) (hv : (b = true ∧ v = .nilIface) ∨ (b = false ∧ ∃ a u, v = .iface a u)) :
    LS P pk ops { dst := some d, op := .binOp .eql t y (.const .nilIface) t', type := ty, pos := pos, after := af, guard := none } Er [] nx nx (fun x fp' => x = xv (.bool b) ∧ fp' = []) := by
  intro w0 N Q rest env own H V sg hl hV htp hf hd _ hh
  obtain ⟨u, h1, h2⟩ := hl.lks _ _ hy
  rw [aO h2] at h1
  have hh' := hh (.bool b) _ _ V H sg ⟨rfl, rfl⟩ (by simp only [XV.rel, XA.rel, XC.rel, rd]; exact ⟨trivial, rfl⟩) hV htp (VX.refl _ _ _) (Le.refl _)
  rcases hv with ⟨rfl, rfl⟩ | ⟨rfl, a, u, rfl⟩
  · have hr : ∀ d w, (Op.equalIn (d + 1) t .nilIface .nilIface).run P w = .ok true w := fun d w => by simp [Op.equalIn, run_underlying hu]
    have hr2 : ∀ w, (Op.equal t .nilIface .nilIface).run P w = .ok true w := fun w => hr 9999 w
    have hg : eqGuard .eql t y (.const .nilIface) .nilIface .nilIface = (Pure.pure () : Sem Unit) := by cases y <;> rfl
    exact Qa hd (fun a ha w => by simp [execOp, binOp, ha.ev h1, show a.eval (.const .nilIface) = .nilIface from rfl, hg, hr2]) hh'
  · have hr : ∀ d w, (Op.equalIn (d + 1) t (.iface a u) .nilIface).run P w = .ok false w := fun d w => by simp [Op.equalIn, run_underlying hu]
    have hr2 : ∀ w, (Op.equal t (.iface a u) .nilIface).run P w = .ok false w := fun w => hr 9999 w
    have hg : eqGuard .eql t y (.const .nilIface) (.iface a u) .nilIface = (Pure.pure () : Sem Unit) := by rfl
    exact Qa hd (fun a9 ha w => by simp [execOp, binOp, ha.ev h1, show a9.eval (.const .nilIface) = .nilIface from rfl, hg, hr2]) hh'
theorem En {y : Operand} {t t' : TypeId} {v : Value} (b : Bool) {ms : Array (String × TypeId)} (hu : P.underlying t = some (.interface ms)) (hv : (b = true ∧ v = .nilIface) ∨ (b = false ∧ ∃ a u, v = .iface a u)) (hEr : vis dm ops { dst := some d, op := .binOp .eql t y (.const .nilIface) t', type := ty, pos := pos, after := af, guard := g } E = Er) (hy : xev Er y = some (xv v)) (hb : ak ops Er g = some true ∧ okD x.N (some d) = true)
    (hk : (MS.r ops (push dm ⟨i, [], false, false⟩) l k ⟨(d, xv (.bool b)) :: E, hp, nx⟩).ok x) (hdk : DkM dm ops ⟨i, [], false, false⟩ := by first | exact trivial | (refine DK.mk ?_; decide +kernel)) :
    (MS.r ops dm ((i, { dst := some d, op := .binOp .eql t y (.const .nilIface) t', type := ty, pos := pos, after := af, guard := g }) :: l) k ⟨E, hp, nx⟩).ok x := MS.val hEr hb (LS.eqN hu hy hv) hdk hk
end
section
open Go Go.RowKit Go.Proofs K
variable {pk : Pk}
theorem l8 (t : Ty4) (k : Int) : XQ Tryz.prog pk 137 [xd (tyD t), xi k] (xb (aD t k)) := by
  obtain ⟨k', nm, n, ts⟩ := t
  rw [ir]
  refine XQ.en Tryz.func137 Tryz.ntmps137 (fun w0 own H V v0 hf => ?_)
  refine Gs (T := T) 100001 rfl ?_
  refine (FzTo.bz 0 rfl).c ?_
  refine Gs (T := T) 1000 rfl ?_
  refine Fe (T := T) rfl ?_
  show xb (_ && decide (((ts.map tyD).length : Int) = 0)) = _
  rw [List.length_map, show decide ((ts.length : Int) = 0) = decide (ts.length = 0) from decide_eq_decide.2 (by omega)]
  rfl
abbrev TyI (k kc mo : Int) : Prop := ((k = 1 ∨ k = 2 ∨ k = 3) ∧ kc = 0 ∧ mo = 0) ∨ ((k = 5 ∨ k = 6) ∧ kc = 1 ∧ mo = if k = 6 then 64 else 65535)
theorem ty_eq {k n kc mo : Int} {nm : ByteArray} {ts : List Ty4} (h : TyI k kc mo) : rTy (.mk k nm n ts) = (decide (nm = ⟨#[]⟩) && decide (0 ≤ n) && decide (n ≤ mo) && decide ((ts.length : Int) = kc) && ts.all rTy) := by
  rw [rTy]
  rcases h with ⟨h, rfl, rfl⟩ | ⟨h, rfl, rfl⟩
  · rw [if_neg (by omega), if_pos (by omega)]
    by_cases h0 : n = 0
    · subst h0
      cases ts with
      | nil => simp [eS]
      | cons a r => simp; intro h; omega
    · rw [decide_eq_false h0]
      by_cases h1 : 0 ≤ n
      · rw [decide_eq_false (show ¬ n ≤ 0 by omega)]; simp
      · rw [decide_eq_false h1]; simp
  · rw [if_neg (by omega), if_neg (by omega), if_pos (by omega), eE, show decide ((ts.length : Int) = 1) = decide (ts.length = 1) from decide_eq_decide.2 (by omega)]
    congr 4
    by_cases h5 : k = 5
    · subst h5; rfl
    · rw [if_neg h5, if_pos (by omega)]
theorem syn_Type : ∀ (m : Nat) {t : Ty4}, t.size ≤ m → t.ok → XQ Tryz.prog pk 134 [xd (tyD t)] (xb (rTy t)) := by
  intro m
  induction m with
  | zero => intro t hm; have := t.size_pos; omega
  | succ m ih =>
  intro t hm hok
  obtain ⟨k, nm, n, ts⟩ := t
  obtain ⟨hk, hn, hn2, hts⟩ := hok
  rw [ir]
  have hsz : (Ty4.mk k nm n ts).size = Ty4.sizes ts + 1 := rfl
  have hle := Ty4.len_le ts
  refine XQ.en Tryz.func134 Tryz.ntmps134 (fun w0 own H V v0 hf => ?_)
  refine Gs (T := T) 100001 rfl ?_
  refine (FzTo.bz 0 rfl).c ?_
  refine Gs (T := T) 1000 rfl ?_
  refine If rfl (fun h => ?_) (fun h => ?_)
  · have h4 := of_decide_eq_true h
    refine Gs (T := T) 1000 rfl ?_
    refine Cq (aQ (by omega)) rfl rfl rfl rfl rfl ⟨rfl, rfl⟩ ?_
    refine Gs (T := T) 1000 rfl ?_
    refine Fe (T := T) rfl ?_
    show xb (_ && decide (((ts.map tyD).length : Int) = 0)) = _
    rw [List.length_map, show decide ((ts.length : Int) = 0) = decide (ts.length = 0) from decide_eq_decide.2 (by omega), rTy, if_pos h4]
  have h4 := of_decide_eq_false h
  refine Gs (T := T) 200000 rfl ?_
  refine Cf [1] (fun (q : Int × Int) r => (3, xi q.1) :: (4, xi q.2) :: r) (fun q => []) 1 (fun q => TyI k q.1 q.2) rfl ?_ ?_
  · refine Gs (T := T) 1000 rfl ?_
    have out : ¬ (k = 1 ∨ k = 2 ∨ k = 3 ∨ k = 4 ∨ k = 5 ∨ k = 6) → xb false = xb (rTy (.mk k nm n ts)) := fun h => by rw [rTy, if_neg (by omega), if_neg (by omega), if_neg (by omega)]
    refine If rfl (fun h => ?_) (fun h => ?_)
    · have h9 := of_decide_eq_true h
      refine Gs (T := T) 1000 rfl ?_; refine IfT rfl h ?_; refine Gs (T := T) 1000 rfl ?_; exact Dn (0, 0) (.inl ⟨by omega, rfl, rfl⟩)
    have h2 := of_decide_eq_false h
    refine Gs (T := T) 1000 rfl ?_
    refine If rfl (fun h => ?_) (fun h => ?_)
    · have h9 := of_decide_eq_true h
      refine Gs (T := T) 1000 rfl ?_; refine IfT rfl h ?_; refine Gs (T := T) 1000 rfl ?_; exact Dn (0, 0) (.inl ⟨by omega, rfl, rfl⟩)
    have h1 := of_decide_eq_false h
    refine Gs (T := T) 1000 rfl ?_
    refine If rfl (fun h => ?_) (fun h => ?_)
    · have h9 := of_decide_eq_true h
      refine Gs (T := T) 1000 rfl ?_; exact Dn (0, 0) (.inl ⟨by omega, rfl, rfl⟩)
    have h3 := of_decide_eq_false h
    refine Gs (T := T) 1000 rfl ?_
    refine If rfl (fun h => ?_) (fun h => ?_)
    · have h9 := of_decide_eq_true h
      refine Gs (T := T) 1000 rfl ?_; exact Dn (1, 65535) (.inr ⟨by omega, rfl, by rw [if_neg (by omega)]⟩)
    have h5 := of_decide_eq_false h
    refine Gs (T := T) 1000 rfl ?_
    refine If rfl (fun h => ?_) (fun h => ?_)
    · have h9 := of_decide_eq_true h
      refine Gs (T := T) 1000 rfl ?_; exact Dn (1, 64) (.inr ⟨by omega, rfl, by rw [if_pos h9]⟩)
    have h6 := of_decide_eq_false h
    refine Gs (T := T) 1000 rfl ?_
    exact Fe (T := T) rfl (out (by omega))
  · rintro ⟨kc, mo⟩ hI; dsimp only at *
    refine Gs (T := T) 1000 rfl ?_
    refine Cs (fun _ => (bE pk).2.2.2.2.1 ts rTy _ [] [] (fun x hx => ih (by have := Ty4.size_mem hx; omega) (Ty4.oks_mem hts hx))) rfl rfl rfl rfl rfl rfl rfl rfl ?_
    refine Gs (T := T) 1000 rfl ?_
    refine Fe (T := T) rfl ?_
    rw [ty_eq hI]
    show xb (_ && decide (((ts.map tyD).length : Int) = kc) && _) = _
    rw [List.length_map]
theorem nF {t : Ty4} (h : t.ok) : XQ Tryz.prog pk 134 [xd (tyD t)] (xb (rTy t)) := syn_Type _ (Nat.le_refl _) h
theorem syn_Field {p : Par} (h1 : p.nm.size ≤ 1000000) (h2 : p.ty.ok) : XQ Tryz.prog pk 131 [xd (paD p)] (xb (cv p)) := by
  refine XQ.en Tryz.func131 Tryz.ntmps131 (fun w0 own H V v0 hf => ?_)
  refine Gs (T := T) 100001 rfl ?_
  refine (FzTo.bz 0 rfl).c ?_
  refine Gs (T := T) 1000 rfl ?_
  refine Cq (aQ (by omega)) rfl rfl rfl rfl rfl ⟨rfl, rfl⟩ ?_
  refine Gs (T := T) 1000 rfl ?_
  refine Cs (fun _ => nF h2) rfl rfl rfl rfl rfl rfl rfl rfl ?_
  refine Gs (T := T) 1000 rfl ?_
  exact Fe (T := T) rfl rfl
theorem kM {B : Nat} {l : List Par} (h : ∀ p ∈ l, p.ok B) : XQ Tryz.prog pk 130 [xr (l.map paD), xf 131 [] []] (xb (l.all cv)) := (bE pk).2.2.2.1 l cv _ [] [] (fun x hx => syn_Field (h x hx).1 (h x hx).2.1)
theorem syn_Def {t : Td} {B : Nat} (hok : t.ok B) : XQ Tryz.prog pk 79 [xd (tdD t)] (xb (rTd t)) := by
  obtain ⟨h1, h2, h3⟩ := hok
  refine XQ.en Tryz.func79 Tryz.ntmps79 (fun w0 own H V v0 hf => ?_)
  refine Gs (T := T) 100001 rfl ?_
  refine (FzTo.bz 0 rfl).c ?_
  refine Gs (T := T) 1000 rfl ?_
  refine Cq (aQ (by omega)) rfl rfl rfl rfl rfl ⟨rfl, rfl⟩ ?_
  refine Gs (T := T) 1000 rfl ?_
  refine Cs (fun _ => kM h3) rfl rfl rfl rfl rfl rfl rfl rfl ?_
  refine Gs (T := T) 1000 rfl ?_
  exact Fe (T := T) rfl rfl
theorem pF {g : Gb} {B : Nat} (hok : g.ok B) : XQ Tryz.prog pk 81 [xd (gbD g)] (xb (rGb g)) := by
  obtain ⟨h1, h2, h3, h4, h5, h6⟩ := hok
  refine XQ.en Tryz.func81 Tryz.ntmps81 (fun w0 own H V v0 hf => ?_)
  refine Gs (T := T) 100001 rfl ?_
  refine (FzTo.bz 0 rfl).c ?_
  refine Gs (T := T) 1000 rfl ?_
  refine Cq (aQ (by omega)) rfl rfl rfl rfl rfl ⟨rfl, rfl⟩ ?_
  refine Gs (T := T) 1000 rfl ?_
  refine Cs (fun _ => nF h2) rfl rfl rfl rfl rfl rfl rfl rfl ?_
  refine Gs (T := T) 1000 rfl ?_
  exact Fe (T := T) rfl rfl
theorem syn_place (k : Int) (a b c : D) : XQ Tryz.prog pk 194 [xd [.c (.int .i64 k), a, b, c]] (xb (bw k)) := by
  refine XQ.en Tryz.func194 Tryz.ntmps194 (fun w0 own H V v0 hf => ?_)
  refine Gs (T := T) 100001 rfl ?_
  refine (FzTo.bz 0 rfl).c ?_
  refine Gs (T := T) 1000 rfl ?_
  refine Cq (nA (l := [2, 3, 4, 5, 7, 8]) (by decide) k) rfl rfl rfl rfl rfl ⟨rfl, rfl⟩ ?_
  refine Gs (T := T) 1000 rfl ?_
  exact Fe (T := T) rfl (congrArg xb (pD k))
end
section
open Go Go.RowKit Go.Proofs K
variable {pk : Pk}
theorem oF {key z : Value} (hz : z.oneCell' = true) : ∀ {l : List (ByteArray × Value)}, (∀ p ∈ l, p.2.oneCell' = true) → ((d9 l key).getD z).oneCell' = true
  | [], _ => hz
  | (n, v) :: r, h => by
    rw [d9]
    split
    · exact h _ (List.mem_cons_self ..)
    · exact oF hz fun p hp => h p (List.mem_cons_of_mem _ hp)
theorem lev_one {key : Value} : ((d9 levT key).getD (.int .i64 0)).oneCell' = true := oF rfl (by
  intro p hp
  simp only [levT, List.mem_cons, List.not_mem_nil, or_false] at hp
  rcases hp with rfl | rfl | rfl | rfl | rfl | rfl | rfl | rfl | rfl | rfl | rfl | rfl | rfl | rfl | rfl | rfl <;> rfl)
theorem zeroI (w : World) : (zeroValue 3).run Tryz.prog w = .ok (.int .i64 0) w := by simp [zeroValue, typeInfo, show Tryz.prog.info? 3 = some Tryz.t3 from by kernel_rfl]; rfl
abbrev ExI (k : Int) (nm : ByteArray) (n : Nat) (q : Int × Int × Bool) : Prop := (1 ≤ k ∧ k ≤ 15) ∧ q.1 = (if k = 14 then (n : Int) else du k) ∧ q.2.1 = cu k ∧ q.2.2 = bp k nm
theorem syn_Expr : ∀ (m : Nat) {e : Ex}, e.size ≤ m → e.ok → XQ Tryz.prog pk 193 [xd (exD e)] (xb (rEx e)) := by
  intro m
  induction m with
  | zero => intro e hm; have := e.size_pos; omega
  | succ m ih =>
  intro e hm hok
  obtain ⟨k, nm, n, ks⟩ := e
  obtain ⟨hok1, hok2, hok3, hok4⟩ := hok
  rw [dv]
  have hsz : (Ex.mk k nm n ks).size = Ex.sizes ks + 1 := rfl
  refine XQ.en Tryz.func193 Tryz.ntmps193 (fun w0 own H V v0 hf => ?_)
  refine Gs (T := T) 100001 rfl ?_
  refine (FzTo.bz 0 rfl).c ?_
  refine Gs (T := T) 1000 rfl ?_
  refine Cq pE rfl rfl rfl rfl rfl ⟨rfl, rfl⟩ ?_
  refine Gs (T := T) 1000 rfl ?_
  refine Lu (T := T) (.t [.c (.d (.c ((d9 levT (.string nm)).getD (.int .i64 0)))), .c (.d (.c (.bool (aE nm opsL))))]) (fun V H => ?_) K9 (key9 hok2) zeroI rfl rfl rfl rfl rfl ⟨rfl, rfl⟩ ?_
  · rw [if_pos rfl, lev_some]
    refine ⟨_, rfl, ?_, ?_, trivial⟩
    · simp only [XA.rel, XC.rel, rd]; exact ⟨trivial, lev_one⟩
    · simp only [XA.rel, XC.rel, rd]; exact ⟨trivial, rfl⟩
  refine Gs (T := T) 200000 rfl ?_
  refine Cf [1] (fun (q : Int × Int × Bool) r => (3, xi q.1) :: (4, xi q.2.1) :: (5, xb q.2.2) :: r) (fun q => []) 1 (ExI k nm ks.length) rfl ?_ ?_
  · refine Gs (T := T) 1000 rfl ?_
    iterate 15
      refine If rfl (fun h => ?_) (fun h => ?_)
      rotate_left
      have := of_decide_eq_false h
      refine Gs (T := T) 1000 rfl ?_
    · exact Fe (T := T) rfl (by rw [rEx_out (by omega)]; rfl)
    all_goals
      have h9 := of_decide_eq_true h
      have key : ∀ {q : Int × Int × Bool}, q.2.2 = bp k nm → q.1 = (if k = 14 then (ks.length : Int) else du k) → q.2.1 = cu k → ExI k nm ks.length q := fun h1 h2 h3 => ⟨by omega, h2, h3, h1⟩
      refine Gs (T := T) 1000 rfl ?_
      first
        | refine Dn (_, _, _) (key ?_ ?_ ?_) ⟨⟨_, _, rfl, rfl⟩, rfl, rfl⟩
        | (refine IfT rfl h ?_; refine Gs (T := T) 1000 rfl ?_; refine Dn (_, _, _) (key ?_ ?_ ?_) ⟨⟨_, _, rfl, rfl⟩, rfl, rfl⟩)
        | (refine Cq (aQ (by omega)) rfl rfl rfl rfl rfl ⟨rfl, rfl⟩ ?_; refine Gs (T := T) 1000 rfl ?_; refine Dn (_, _, _) (key ?_ ?_ ?_) ⟨⟨_, _, rfl, rfl⟩, rfl, rfl⟩)
        | (refine Cq (gI (l := unL) (by decide) nm) rfl rfl rfl rfl rfl ⟨rfl, rfl⟩ ?_; refine Gs (T := T) 1000 rfl ?_; refine Dn (_, _, _) (key ?_ ?_ ?_) ⟨⟨_, _, rfl, rfl⟩, rfl, rfl⟩)
        | (refine Cq (gI (l := castL) (by decide) nm) rfl rfl rfl rfl rfl ⟨rfl, rfl⟩ ?_; refine Gs (T := T) 1000 rfl ?_; refine Dn (_, _, _) (key ?_ ?_ ?_) ⟨⟨_, _, rfl, rfl⟩, rfl, rfl⟩)
    all_goals first
      | (dsimp only; unfold du; (repeat' split) <;> omega)
      | (dsimp only; rw [if_pos h9, List.length_map])
      | (dsimp only; unfold cu; (repeat' split) <;> omega)
      | exact (ov (by omega)).symm
      | exact (ox (by omega) (by omega) (by omega) (by omega)).symm
      | (subst h9; rfl)
  · rintro ⟨kc, lim, b⟩ ⟨hk, hkc, hl, rfl⟩; dsimp only at *
    refine Gs (T := T) 1000 rfl ?_
    refine Cs (fun _ => (bE pk).2.2.2.2.2.2.1 ks rEx _ [] [] (fun x hx => ih (by have := Ex.size_mem hx; omega) (Ex.oks_mem hok4 hx))) rfl rfl rfl rfl rfl rfl rfl rfl ?_
    refine Gs (T := T) 1000 rfl ?_
    refine Fe (T := T) rfl ?_
    rw [syn_ex hk hkc hl]
    show xb (_ && decide (((ks.map exD).length : Int) = kc) && decide (n < lim) && _) = _
    rw [List.length_map]
theorem syn_Ex {e : Ex} (h : e.ok) : XQ Tryz.prog pk 193 [xd (exD e)] (xb (rEx e)) := syn_Expr _ (Nat.le_refl _) h
theorem syn_Exs {l : List Ex} (h : Ex.oks l) : XQ Tryz.prog pk 192 [xr (l.map exD), xf 193 [] []] (xb (l.all rEx)) := (bE pk).2.2.2.2.2.2.1 l rEx _ [] [] (fun x hx => syn_Ex (Ex.oks_mem h hx))
theorem l9 {l : List Sm} (h : ∀ s ∈ l, XQ Tryz.prog pk 172 [xd (smD s)] (xb (rSm s))) : XQ Tryz.prog pk 138 [xr (l.map smD)] (xb (cp l)) := by
  refine XQ.en Tryz.func138 Tryz.ntmps138 (fun w0 own H V v0 hf => ?_)
  refine Gs (T := T) 1000 rfl ?_
  refine Cq ((bE pk).2.2.2.2.2.1 l rSm _ [] [] h) rfl rfl rfl rfl rfl ⟨rfl, rfl⟩ ?_
  refine Gs (T := T) 1000 rfl ?_
  exact Fe (T := T) rfl (by rw [bj]; rfl)
section
variable {k n : Int} {nm : ByteArray} {t : Ty4} {xs : List Ex} {b el : List Sm} {cs : List (List Sm)}
theorem rSm_out (h : (((!decide (1 ≤ k ∧ k ≤ 14) || decide ((xs.length : Int) < aF k)) || decide (aL k < (xs.length : Int))) || !xs.all rEx) = true) : rSm (.mk k nm t n xs b el cs) = false := by
  rw [rSm, bL]
  simp only [Bool.or_eq_true, Bool.not_eq_true', decide_eq_true_eq] at h
  rcases h with ((h | h) | h) | h
  · rw [h]; rfl
  · rw [decide_eq_false (show ¬ aF k ≤ (xs.length : Int) by omega)]; simp
  · rw [decide_eq_false (show ¬ (xs.length : Int) ≤ aL k by omega)]; simp
  · rw [h]; simp
theorem rSm_in (h : (((!decide (1 ≤ k ∧ k ≤ 14) || decide ((xs.length : Int) < aF k)) || decide (aL k < (xs.length : Int))) || !xs.all rEx) = false) : decide (1 ≤ k ∧ k ≤ 14) = true ∧ aF k ≤ (xs.length : Int) ∧ (xs.length : Int) ≤ aL k ∧ xs.all rEx = true := by
  simp only [Bool.or_eq_false_iff, Bool.not_eq_false', decide_eq_false_iff_not] at h
  exact ⟨h.1.1.1, by omega, by omega, h.2⟩
end
theorem syn_Stmt : ∀ (m : Nat) {s : Sm}, s.size ≤ m → s.ok → XQ Tryz.prog pk 172 [xd (smD s)] (xb (rSm s)) := by
  intro m
  induction m with
  | zero => intro e hm; have := e.size_pos; omega
  | succ m ih =>
  intro s hm hok
  obtain ⟨k, nm, t, n, xs, b, el, cs⟩ := s
  obtain ⟨hk, hn, ht, hn2, hx, hb, he, hc⟩ := hok
  rw [aJ]
  have hsz : (Sm.mk k nm t n xs b el cs).size = t.size + Ex.sizes xs + Sm.sizes b + Sm.sizes el + Sm.csizes cs + 1 := rfl
  have blk : ∀ {l : List Sm}, Sm.sizes l ≤ m → Sm.oks l → XQ Tryz.prog pk 138 [xr (l.map smD)] (xb (cp l)) := fun h1 h2 => l9 fun s hs => ih (by have := Sm.size_mem hs; omega) (Sm.oks_mem h2 hs)
  refine XQ.en Tryz.func172 Tryz.ntmps172 (fun w0 own H V v0 hf => ?_)
  refine Gs (T := T) 100001 rfl ?_
  refine (FzTo.bz 0 rfl).c ?_
  refine Gs (T := T) 1000 rfl ?_
  refine Cq (syn_form hk) rfl rfl rfl rfl rfl ⟨rfl, rfl⟩ ?_
  refine Gs (T := T) 100002 rfl ?_
  refine (FzTo.bz 1 rfl).c ?_
  refine Gs (T := T) 1000 rfl ?_
  refine Cs (fun _ => syn_Exs hx) rfl rfl rfl rfl rfl rfl rfl rfl ?_
  refine Gs (T := T) 1000 rfl ?_
  refine If rfl (fun h => ?_) (fun h => ?_)
  · rw [List.length_map] at h
    refine Gs (T := T) 1000 rfl ?_
    exact Fe (T := T) rfl (by rw [rSm_out h]; rfl)
  rw [List.length_map] at h
  obtain ⟨g1, g2, g3, g4⟩ := rSm_in h
  refine Gs (T := T) 1000 rfl ?_
  refine Cs (fun _ => aQ (by omega)) rfl rfl rfl rfl rfl rfl rfl rfl ?_
  refine Gs (T := T) 1000 rfl ?_
  refine Cs (fun _ => aQ (by omega)) rfl rfl rfl rfl rfl rfl rfl rfl ?_
  refine Gs (T := T) 1000 rfl ?_
  refine Cq (l8 t 0) rfl rfl rfl rfl rfl ⟨rfl, rfl⟩ ?_
  refine Gs (T := T) 1000 rfl ?_
  refine Cf [1, 3, 5] (fun (_ : Unit) r => (6, xb (dq k t)) :: r) (fun q => []) 2 (fun _ => True) rfl ?_ ?_
  · refine If rfl (fun h => ?_) (fun h => ?_)
    · have h1 := of_decide_eq_true h
      refine Gs (T := T) 1000 rfl ?_
      refine Cq (nF ht) rfl rfl rfl rfl rfl ⟨rfl, rfl⟩ ?_
      refine Gs (T := T) 1000 rfl ?_
      rw [show dq k t = rTy t from if_pos h1]
      exact Dn () trivial
    · have h1 := of_decide_eq_false h
      refine Gs (T := T) 1000 rfl ?_
      rw [show dq k t = aD t 0 from if_neg h1]
      exact Dn () trivial
  rintro _ -
  obtain ⟨e0, he0⟩ : ∃ e0 : Ex, k = 14 ∨ k = 2 → xs[0]? = some e0 := by
    cases xs with
    | nil => exact ⟨.mk 0 eS 0 [], fun hq => by
        have : 1 ≤ aF k := by unfold aF; (repeat' split) <;> omega
        simp at g2; omega⟩
    | cons a r => exact ⟨a, fun _ => rfl⟩
  have hK : ∀ p : Int → Bool, k = 14 ∨ k = 2 → bK p xs = p (ek e0) := fun p hq => by
    have := he0 hq
    cases xs with
    | nil => simp at this
    | cons a r => simp at this; subst this; cases a; rfl
  have sat : ∀ {c : Bool} {q : Int}, c = decide (k = q) → q = 14 ∨ q = 2 → c = true → (xs.map exD)[0]? = some (exD e0) ∧ (0 : Int) = ((0 : Nat) : Int) := fun h1 h2 h3 => by
    subst h1
    have := of_decide_eq_true h3
    exact ⟨ab (he0 (by omega)), rfl⟩
  refine Gs (T := T) 1000 rfl ?_
  refine Is (T := T) 0 (exD e0) (sat rfl (.inl rfl)) rfl rfl rfl rfl rfl rfl rfl rfl ?_
  refine Gs (T := T) 1000 rfl ?_
  refine If rfl (fun h => ?_) (fun h => ?_)
  · refine Gs (T := T) 1000 rfl ?_
    refine IfT rfl h ?_
    refine Gs (T := T) 1000 rfl ?_
    refine Fe (T := T) rfl (congrArg xb (rSm_e ?_))
    simp only [Bool.and_eq_true, decide_eq_true_eq] at h
    rw [hK _ (.inl h.1), decide_eq_true h.1, decide_eq_false h.2]; rfl
  have h5 : (!decide (k = 14) || bK (fun j => decide (j = 14)) xs) = true := by
    by_cases hq : k = 14
    · rw [hK _ (.inl hq), decide_eq_true hq]
      rw [show decide (k = 14) = true from decide_eq_true hq, Bool.true_and] at h
      simpa using h
    · rw [decide_eq_false hq]; rfl
  refine Gs (T := T) 1000 rfl ?_
  refine Is (T := T) 0 (exD e0) (sat rfl (.inr rfl)) rfl rfl rfl rfl rfl rfl rfl rfl ?_
  refine Gs (T := T) 1000 rfl ?_
  refine Cs (fun _ => syn_place (ek e0) _ _ _) rfl rfl rfl rfl rfl rfl rfl rfl ?_
  refine Gs (T := T) 1000 rfl ?_
  refine If rfl (fun h => ?_) (fun h => ?_)
  · refine Gs (T := T) 1000 rfl ?_
    refine Fe (T := T) rfl (congrArg xb (rSm_f ?_))
    simp only [Bool.and_eq_true, decide_eq_true_eq, Bool.not_eq_true'] at h
    rw [hK _ (.inr h.1), decide_eq_true h.1, h.2]; rfl
  have h6 : (!decide (k = 2) || bK bw xs) = true := by
    by_cases hq : k = 2
    · rw [hK _ (.inr hq), decide_eq_true hq]
      rw [show decide (k = 2) = true from decide_eq_true hq, Bool.true_and] at h
      simpa using h
    · rw [decide_eq_false hq]; rfl
  refine Gs (T := T) 1000 rfl ?_
  refine Cs (fun _ => blk (by omega) hb) rfl rfl rfl rfl rfl rfl rfl rfl ?_
  refine Gs (T := T) 1000 rfl ?_
  refine Cs (fun _ => blk (by omega) he) rfl rfl rfl rfl rfl rfl rfl rfl ?_
  refine Gs (T := T) 1000 rfl ?_
  refine Cs (fun _ => (bE pk).2.2.2.2.2.2.2 cs cp _ [] [] (fun c hcm => blk (by have := Sm.csize_mem hcm; omega) (Sm.okc_mem hc hcm))) rfl rfl rfl rfl rfl rfl rfl rfl ?_
  refine Gs (T := T) 1000 rfl ?_
  refine Fe (T := T) rfl ?_
  rw [rSm_g g1 g2 g3 g4 h5 h6, smName_or]
  have e9 : ∀ {α : Type} {f : α → List D} {l : List α}, decide (((l.map f).length : Int) = 0) = decide (l.length = 0) := fun {α f l} => by rw [List.length_map]; exact decide_eq_decide.2 (by omega)
  refine congrArg xb ?_
  simp only [smPort, smBlk, e9, Bool.and_assoc, Bool.or_assoc]
end
section
open Go Go.RowKit Go.Proofs K
section
variable {P : Program} {x : Cx P} {k : List Fr} {E Er : XE} {hp : XH} {nx i : Nat} {ops : List Oper} {dm : Option (List Rc)} {l : List (Nat × Oper)} {d : Tmp} {ty : TypeId} {pos : String} {af : Array Edge} {g : Option (Nat × Bool)} {a b : Operand} {tx t' : TypeId} {ya yb : XV} {va vb : Array Value} {c : Bool}
theorem Eqs (hEr : vis dm ops { dst := some d, op := .binOp .eql tx a b t', type := ty, pos := pos, after := af, guard := g } E = Er) (ha : xev Er a = some ya) (hva : vOf ya = some (.agg va)) (hb : xev Er b = some yb) (hvb : vOf yb = some (.agg vb)) (hm : P.eqGuardType P.depth tx = false) (hr : ∀ w, (Op.equalIn 10000 tx (.agg va) (.agg vb)).run P w = .ok c w) (hd : ak ops Er g = some true ∧ okD x.N (some d) = true)
    (hk : (MS.r ops (push dm ⟨i, [], false, false⟩) l k ⟨(d, xb c) :: E, hp, nx⟩).ok x) (hdk : DkM dm ops ⟨i, [], false, false⟩ := by first | exact trivial | (refine DK.mk ?_; decide +kernel)) :
    (MS.r ops dm ((i, { dst := some d, op := .binOp .eql tx a b t', type := ty, pos := pos, after := af, guard := g }) :: l) k ⟨E, hp, nx⟩).ok x := by
  refine MS.val hEr hd ?_ hdk hk
  intro w0 N Q rest env own H V sg hl hV htp hf hd _ hh
  obtain ⟨u, h1, h2⟩ := hl.lks _ _ ha
  obtain ⟨v, h3, h4⟩ := hl.lks _ _ hb
  have := eC hva h2; subst this
  have := eC hvb h4; subst this
  refine Qa hd (fun ac ha w => ?_) (hh (.bool c) _ [] V H sg ⟨rfl, rfl⟩ (by simp only [xb, XV.rel, XA.rel, XC.rel, rd]; exact ⟨trivial, rfl⟩) hV htp (VX.refl _ _ _) (Le.refl _))
  have e1 := run_eqGuard_agg (P := P) w .eql tx a b va vb hm
  have e2 := run_eql_struct (P := P) w tx va vb
  rw [hr w] at e2
  simp only [execOp, ha.ev h1, ha.ev h3, Sem.run_bind, e1, Result.andThen_ok, e2, Sem.run_map, Sem.run_pure]
end
theorem kN (x y x' y' : Int) (w : World) : (Op.equalIn 10000 69 (.agg #[.int .i64 x, .int .u16 y]) (.agg #[.int .i64 x', .int .u16 y'])).run Tryz.prog w = .ok (x == x' && y == y') w := by
  have hS : Tryz.prog.underlying 69 = some (.struct (Tryz.prog.fieldsOf 69)) := by kernel_rfl
  have ty3 := dt (BT.all_get T.ok (i := 3) (v := .i .i64) rfl)
  have ty61 := dt (BT.all_get T.ok (i := 61) (v := .i .u16) rfl)
  rw [show (10000 : Nat) = 9999 + 1 from rfl, run_equalIn_agg w 9999 69 _ _ hS (by kernel_rfl)]
  have u3 := Tryz.underlying3
  have uS := Tryz.underlying61
  have a3 := ty3.isAgg
  have aS := ty61.isAgg
  have s3 := ty3.size
  have sS := ty61.size
  simp only [Program.fieldsOf, Tryz.underlying69]
  simp [Op.eqFields, part, TI.agg, TI.n, a3, aS, s3, sS, Go.run_equalIn_int _ _ 3 _ _ _ _ u3, Go.run_equalIn_int _ _ 61 _ _ _ _ uS]
  by_cases hx : x = x' <;> by_cases hy : y = y' <;> simp [hx, hy]
variable {pk : Pk}
theorem syn_Func {f : Fu} {B : Nat} (hok : f.ok B) : XQ Tryz.prog pk 83 [xd (fuD f)] (xb (rFu f)) := by
  obtain ⟨h1, h2, h3, h4, h5, h6, h7, h8, h9⟩ := hok
  refine XQ.en Tryz.func83 Tryz.ntmps83 (fun w0 own H V v0 hf => ?_)
  refine Gs (T := T) 100001 rfl ?_
  refine (FzTo.bz 0 rfl).c ?_
  refine Gs (T := T) 1000 rfl ?_
  refine Cq (aQ (by omega)) rfl rfl rfl rfl rfl ⟨rfl, rfl⟩ ?_
  refine Gs (T := T) 1000 rfl ?_
  refine Cs (fun _ => kM h3) rfl rfl rfl rfl rfl rfl rfl rfl ?_
  refine Gs (T := T) 1000 rfl ?_
  refine Cs (fun _ => l8 f.res 7) rfl rfl rfl rfl rfl rfl rfl rfl ?_
  refine Gs (T := T) 1000 rfl ?_
  refine Cs (fun _ => nF h4) rfl rfl rfl rfl rfl rfl rfl rfl ?_
  refine Gs (T := T) 1000 rfl ?_
  refine If rfl (fun h => ?_) (fun h => ?_)
  · refine Gs (T := T) 1000 rfl ?_
    refine Fe (T := T) rfl (congrArg xb ?_)
    rw [rFu]
    cases hq1 : aj f.nm <;> cases hq2 : f.ps.all cv <;> cases hq3 : aD f.res 7 <;> cases hq4 : rTy f.res <;> simp_all
  have e1 : (aj f.nm && f.ps.all cv && (aD f.res 7 || rTy f.res)) = true := by
    cases hq1 : aj f.nm <;> cases hq2 : f.ps.all cv <;> cases hq3 : aD f.res 7 <;> cases hq4 : rTy f.res <;> simp_all
  refine Gs (T := T) 1000 rfl ?_
  refine If rfl (fun h => ?_) (fun h => ?_)
  · refine Gs (T := T) 1000 rfl ?_
    refine Fe (T := T) rfl (congrArg xb ?_)
    rw [rFu, e1, h, Bool.true_and, if_pos rfl, List.length_map, show decide ((f.body.length : Int) = 0) = decide (f.body.length = 0) from decide_eq_decide.2 (by omega)]
  · refine Gs (T := T) 46 rfl ?_
    refine Eqs rfl rfl rfl rfl rfl (by kernel_rfl) (kN _ _ _ _) ⟨rfl, rfl⟩ ?_
    refine Gs (T := T) 1000 rfl ?_
    refine Cs (fun _ => l9 fun s hs => syn_Stmt _ (Nat.le_refl _) (Sm.oks_mem h6 hs)) rfl rfl rfl rfl rfl rfl rfl rfl ?_
    refine Gs (T := T) 1000 rfl ?_
    refine Fe (T := T) rfl (congrArg xb ?_)
    rw [rFu, e1, h, Bool.true_and, if_neg (by simp)]
    congr 1
    rw [Bool.eq_iff_iff]; simp
theorem ma {p : Pg} {B : Nat} (hok : p.ok B) : XQ Tryz.prog pk 32 [xd (pgD p)] (xb (rPg p)) := by
  refine XQ.en Tryz.func32 Tryz.ntmps32 (fun w0 own H V v0 hf => ?_)
  refine Gs (T := T) 100001 rfl ?_
  refine (FzTo.bz 0 rfl).c ?_
  refine Gs (T := T) 1000 rfl ?_
  refine Cq ((bE pk).1 p.ts rTd _ [] [] (fun x hx => syn_Def (hok.t x hx))) rfl rfl rfl rfl rfl ⟨rfl, rfl⟩ ?_
  refine Gs (T := T) 1000 rfl ?_
  refine Cs (fun _ => (bE pk).2.1 p.gs rGb _ [] [] (fun x hx => pF (hok.g x hx))) rfl rfl rfl rfl rfl rfl rfl rfl ?_
  refine Gs (T := T) 1000 rfl ?_
  refine Cs (fun _ => (bE pk).2.2.1 p.fs rFu _ [] [] (fun x hx => syn_Func (hok.f x hx))) rfl rfl rfl rfl rfl rfl rfl rfl ?_
  refine Gs (T := T) 1000 rfl ?_
  exact Fe (T := T) rfl rfl
end
end Go.Proofs.YtlmahofogapkgaaGreatDoor.X
namespace Go.Proofs
open Go.Shelf
def Tryz.laysM171_ren : Go.Shelf.Ren := ⟨fun | 171 => 140 | 243 => 173 | 246 => 196 | 283 => 213 | 284 => 214 | 285 => 215 | 286 => 216 | 129 => 230 | 317 => 229 | 318 => 231 | 319 => 232 | 320 => 233 | 337 => 238 | 338 => 239 | n => n, fun | 3 => 3 | 9 => 9 | 2 => 2 | 4 => 4 | 171 => 261 | 0 => 0 | 53 => 262 | 37 => 53 | 5 => 5 | 173 => 265 | 212 => 278 | 51 => 279 | 20 => 20 | 213 => 280 | 46 => 203 | 232 => 295 | 233 => 296 | n => n, fun | 17 => 1 | 18 => 4 | 19 => 5 | n => n⟩
theorem Tryz.laysM171 : Go.Proofs.LaysM.n171 Tryz.prog Tryz.laysM171_ren := {
  mixed := by kernel_rfl
  f129 := Tryz.func230.trans (congrArg some (by kernel_rfl))
  f171 := Tryz.func140.trans (congrArg some (by kernel_rfl))
  f243 := Tryz.func173.trans (congrArg some (by kernel_rfl))
  f246 := Tryz.func196.trans (congrArg some (by kernel_rfl))
  f283 := Tryz.func213.trans (congrArg some (by kernel_rfl))
  f284 := Tryz.func214.trans (congrArg some (by kernel_rfl))
  f285 := Tryz.func215.trans (congrArg some (by kernel_rfl))
  f286 := Tryz.func216.trans (congrArg some (by kernel_rfl))
  f317 := Tryz.func229.trans (congrArg some (by kernel_rfl))
  f318 := Tryz.func231.trans (congrArg some (by kernel_rfl))
  f319 := Tryz.func232.trans (congrArg some (by kernel_rfl))
  f320 := Tryz.func233.trans (congrArg some (by kernel_rfl))
  f337 := Tryz.func238.trans (congrArg some (by kernel_rfl))
  f338 := Tryz.func239.trans (congrArg some (by kernel_rfl))
  t0 := Tryz.underlying0
  a0 := Tryz.isAgg0
  z0 := Tryz.sizeOf0
  v0 := Tryz.zeroValue0
  t2 := Tryz.underlying2
  a2 := Tryz.isAgg2
  z2 := Tryz.sizeOf2
  v2 := Tryz.zeroValue2
  t3 := Tryz.underlying3
  a3 := Tryz.isAgg3
  z3 := Tryz.sizeOf3
  v3 := Tryz.zeroValue3
  t4 := Tryz.underlying4
  a4 := Tryz.isAgg4
  z4 := Tryz.sizeOf4
  v4 := Tryz.zeroValue4
  t5 := Tryz.underlying5
  a5 := Tryz.isAgg5
  z5 := Tryz.sizeOf5
  v5 := Tryz.zeroValue5
  t9 := Tryz.underlying9
  a9 := Tryz.isAgg9
  z9 := Tryz.sizeOf9
  v9 := Tryz.zeroValue9
  t20 := Tryz.underlying20
  a20 := Tryz.isAgg20
  z20 := Tryz.sizeOf20
  v20 := Tryz.zeroValue20
  t37 := Tryz.underlying53
  a37 := Tryz.isAgg53
  z37 := Tryz.sizeOf53
  v37 := Tryz.zeroValue53
  t46 := Tryz.underlying203
  a46 := Tryz.isAgg203
  z46 := Tryz.sizeOf203
  v46 := Tryz.zeroValue203
  t51 := Tryz.underlying279
  a51 := Tryz.isAgg279
  z51 := Tryz.sizeOf279
  v51 := Tryz.zeroValue279
  t53 := Tryz.underlying262
  a53 := Tryz.isAgg262
  z53 := Tryz.sizeOf262
  v53 := Tryz.zeroValue262
  t171 := Tryz.underlying261
  a171 := Tryz.isAgg261
  z171 := Tryz.sizeOf261
  v171 := Tryz.zeroValue261
  t173 := Tryz.underlying265
  a173 := Tryz.isAgg265
  z173 := Tryz.sizeOf265
  v173 := Tryz.zeroValue265
  t212 := Tryz.underlying278
  a212 := Tryz.isAgg278
  z212 := Tryz.sizeOf278
  v212 := Tryz.zeroValue278
  t213 := Tryz.underlying280
  a213 := Tryz.isAgg280
  z213 := Tryz.sizeOf280
  t232 := Tryz.underlying295
  a232 := Tryz.isAgg295
  z232 := Tryz.sizeOf295
  v232 := Tryz.zeroValue295
  t233 := Tryz.underlying296
  a233 := Tryz.isAgg296
  z233 := Tryz.sizeOf296
  v233 := Tryz.zeroValue296
  g17 := by kernel_rfl
  g18 := by kernel_rfl
  g19 := by kernel_rfl
  i0 := by kernel_rfl
  i2 := by kernel_rfl
  i3 := by kernel_rfl
  i4 := by kernel_rfl
  i5 := by kernel_rfl
  i9 := by kernel_rfl
  i20 := by kernel_rfl
  i37 := by kernel_rfl
  i46 := by kernel_rfl
  i51 := by kernel_rfl
  i53 := by kernel_rfl
  i171 := by kernel_rfl
  i173 := by kernel_rfl
  i212 := by kernel_rfl
  i232 := by kernel_rfl
  i233 := by kernel_rfl
  m17 := by kernel_rfl
  m18 := by kernel_rfl
  m19 := by kernel_rfl }
end Go.Proofs
namespace Go.Proofs.YtlmahofogapkgaaGreatDoor.K
open Go Go.RowKit Go.Proofs Go.Sort
theorem St.grown {w0 w : World} {own : List Seg} {H : Hp} (h : St w0 H own w) (k : Nat) (os : Array Obj) : St w0 H own (grow (w.drewN k) os) := by
  have up : ∀ {b : Nat} {o : Obj}, w.heap[b]? = some o → (grow (w.drewN k) os).heap[b]? = some o := fun {b} {o} hb => by
    show (w.heap ++ os)[b]? = some o
    rw [Array.getElem?_append_left (Array.getElem?_eq_some_iff.1 hb).1]; exact hb
  exact ⟨h.os, ⟨h.tape.1, Nat.le_trans h.tape.2 (Nat.le_add_right _ _)⟩, h.output, fun b o hb => up (h.imm b o hb), fun p hp => up (h.own_at p hp), h.apart, h.nodup⟩
theorem dec_itoa : ∀ n : Nat, Lib.decDigits n = d6 n := fun n => by
  induction n using Nat.strongRecOn with
  | ind n ih =>
    rw [Lib.decDigits, d6]
    split
    · rfl
    · rw [ih _ (by omega)]
def TabH (H : Hp) : Prop := ∃ e fz, H 1 = some (.cells (Lib.pow10Tab.map fun z => Value.int .u64 z).toArray e fz)
theorem TabH.mono {H H' : Hp} (hl : Le H H') (h : TabH H) : TabH H' := by
  obtain ⟨e, fz, h⟩ := h
  exact ⟨e, fz, hl _ _ h⟩
theorem gK {n : Int} (h0 : 0 ≤ n) (h1 : n ≤ 9223372036854775807) {w0 : World} {H : Hp} {own : List Seg} (hT : TabH H) : Fn Tryz.prog 140 [.int .i64 n] w0 H own (fun r o H' => r = .string (cw n.toNat) ∧ o = own ∧ Le H H') := by
  obtain ⟨e, fz, hT⟩ := hT
  intro w hw
  refine Calls.mono (Any.strconv_Itoa Tryz.laysM171 n (by omega) h1 w ?_) ?_
  · have hb := hw.imm _ _ hT
    unfold Lib.TabIs World.var?
    rw [show Program.globalNamed Tryz.prog _ = some 1 from by kernel_rfl, Option.bind_some, hb]
  · rintro e w' ⟨rfl, k, os, rfl⟩
    refine ⟨.string (cw n.toNat), own, H, ?_, ⟨rfl, rfl, Le.refl _⟩, hw.grown k os⟩
    rw [Lib.itoa, if_neg (by omega), dec_itoa]; rfl
section
variable {P : Program} {w0 : World} {N : Nat} {Q : Exit → Act → World → Prop} {env : Env} {own : List Seg} {H : Hp} {ops : Array Oper} {rest : List Oper}
variable {d : Option Tmp} {ty : TypeId} {pos : String} {af : Array Edge}
end
section
variable {P : Program} {w0 : World} {N : Nat} {Q : Exit → Act → World → Prop} {env : Env} {own : List Seg} {H : Hp} {ops : Array Oper} {rest : List Oper}
variable {d : Option Tmp} {ty : TypeId} {pos : String} {af : Array Edge}
def andI (k : IntKind) (x y : Int) : Int := k.wrap (BitVec.ofInt k.bits x &&& BitVec.ofInt k.bits y).toNat
end
theorem and15 (b : UInt8) : andI .u8 (b.toNat : Int) 15 = ((b.toNat % 16 : Nat) : Int) := by
  have h : ∀ n : Nat, n < 256 → andI .u8 (n : Int) 15 = ((n % 16 : Nat) : Int) := by decide +kernel
  exact h _ b.toNat_lt
theorem shr4 (b : UInt8) : (b.toNat : Int).fdiv (2 ^ (min (4 : Int).toNat IntKind.u8.bits)) = ((b.toNat / 16 : Nat) : Int) := by
  have h : ∀ n : Nat, n < 256 → (n : Int).fdiv (2 ^ (min (4 : Int).toNat IntKind.u8.bits)) = ((n / 16 : Nat) : Int) := by decide +kernel
  exact h _ b.toNat_lt
theorem ty_kids {k n : Int} {nm : ByteArray} {ts : List Ty4} (h : rTy (.mk k nm n ts) = true ∨ aD (.mk k nm n ts) 7 = true) : (k = 5 ∨ k = 6 → ∃ u, ts = [u]) ∧ (¬ (k = 5 ∨ k = 6) → ts = []) := by
  rcases h with h | h
  · by_cases h5 : k = 5 ∨ k = 6
    · rw [rTy_a h5] at h
      simp only [Bool.and_eq_true, decide_eq_true_eq] at h
      refine ⟨fun _ => ?_, fun e => absurd h5 e⟩
      match ts, h.1.2 with
      | [u], _ => exact ⟨u, rfl⟩
    · refine ⟨fun e => absurd e h5, fun _ => ?_⟩
      by_cases h4 : k = 4
      · rw [rTy_n h4] at h
        simp only [Bool.and_eq_true, decide_eq_true_eq] at h
        exact List.length_eq_zero_iff.1 h.2
      · by_cases h1 : k = 1 ∨ k = 2 ∨ k = 3
        · rw [rTy_w h1] at h
          simp only [Bool.and_eq_true, decide_eq_true_eq] at h
          exact List.length_eq_zero_iff.1 h.2
        · rw [rTy_0 h1 h4 h5] at h; cases h
  · simp only [aD, Bool.and_eq_true, decide_eq_true_eq] at h
    exact ⟨fun e => by omega, fun _ => List.length_eq_zero_iff.1 h.2⟩
def aN : List (Int × Value) := [(15, .string nu), (14, .string nt), (13, .string gy), (12, .string jt), (11, .string w_in), (10, .string jr), (9, .string ns), (8, .string jq), (7, .string nr), (6, .string nq), (5, .string jp), (4, .string jo), (3, .string gx), (2, .string w_id), (1, .string w_num)]
theorem word_get {k : Int} (h : 1 ≤ k ∧ k ≤ 15) : (au aN (.int .i64 k)).getD (.string ⟨#[]⟩) = .string (exW k) := by
  rcases kind15 h with rfl | rfl | rfl | rfl | rfl | rfl | rfl | rfl | rfl | rfl | rfl | rfl | rfl | rfl | rfl
  · rw [show au aN (.int .i64 1) = some (.string w_num) from by simp [aN, au]]; rfl
  · rw [show au aN (.int .i64 2) = some (.string w_id) from by simp [aN, au]]; rfl
  · rw [show au aN (.int .i64 3) = some (.string gx) from by simp [aN, au]]; rfl
  · rw [show au aN (.int .i64 4) = some (.string jo) from by simp [aN, au]]; rfl
  · rw [show au aN (.int .i64 5) = some (.string jp) from by simp [aN, au]]; rfl
  · rw [show au aN (.int .i64 6) = some (.string nq) from by simp [aN, au]]; rfl
  · rw [show au aN (.int .i64 7) = some (.string nr) from by simp [aN, au]]; rfl
  · rw [show au aN (.int .i64 8) = some (.string jq) from by simp [aN, au]]; rfl
  · rw [show au aN (.int .i64 9) = some (.string ns) from by simp [aN, au]]; rfl
  · rw [show au aN (.int .i64 10) = some (.string jr) from by simp [aN, au]]; rfl
  · rw [show au aN (.int .i64 11) = some (.string w_in) from by simp [aN, au]]; rfl
  · rw [show au aN (.int .i64 12) = some (.string jt) from by simp [aN, au]]; rfl
  · rw [show au aN (.int .i64 13) = some (.string gy) from by simp [aN, au]]; rfl
  · rw [show au aN (.int .i64 14) = some (.string nt) from by simp [aN, au]]; rfl
  · rw [show au aN (.int .i64 15) = some (.string nu) from by simp [aN, au]]; rfl
abbrev iS (c : List Sm) : Tr := .node w_case (c.map tSm)
section
variable {k n : Int} {nm : ByteArray} {t : Ty4} {es : List Ex} {b el : List Sm} {cs : List (List Sm)}
theorem tCs_map' (cs : List (List Sm)) : tCs cs = cs.map iS := by
  rw [nv]; exact List.map_congr_left fun c _ => by rw [eI]
theorem cn : tSm (.mk k nm t n es b el cs) = .node (smL k nm n) ((if k = 1 then [tTy t] else []) ++ (es.map tEx ++ smT k (b.map tSm) (el.map tSm) (cs.map iS))) := by
  rw [tSm, kz, eI, eI, tCs_map']
theorem bg (h : rSm (.mk k nm t n es b el cs) = true) : aF k ≤ (es.length : Int) ∧ (es.length : Int) ≤ aL k ∧ (cL k = false → cZ k = false → nm = eS) := by
  rw [rSm] at h
  simp only [Bool.and_eq_true] at h
  obtain ⟨⟨⟨⟨⟨⟨⟨⟨⟨⟨⟨⟨⟨⟨_, h2⟩, h3⟩, _⟩, h5⟩, _⟩, _⟩, _⟩, _⟩, _⟩, _⟩, _⟩, _⟩, _⟩, _⟩ := h
  refine ⟨of_decide_eq_true h2, of_decide_eq_true h3, fun e1 e2 => ?_⟩
  rw [aV, e1, e2] at h5
  simpa using h5
theorem one_of {l : List Ex} (h1 : 1 ≤ (l.length : Int)) (h2 : (l.length : Int) ≤ 1) : ∃ x, l = [x] := by
  match l, h1, h2 with
  | [x], _, _ => exact ⟨x, rfl⟩
  | _ :: _ :: _, _, h => simp at h; omega
theorem fj {l : List Ex} (h2 : (l.length : Int) ≤ 0) : l = [] := List.length_eq_zero_iff.1 (by omega)
theorem tSm_1 (hk : k = 1) (h : rSm (.mk k nm t n es b el cs) = true) : ∃ x, es = [x] ∧ tSm (.mk k nm t n es b el cs) = .node (aG w_let nm) [tTy t, tEx x] := by
  subst hk
  obtain ⟨h1, h2, h3⟩ := bg h
  obtain ⟨x, rfl⟩ := one_of h1 h2
  refine ⟨x, rfl, ?_⟩
  rw [cn]
  rfl
theorem tSm_2 (hk : k = 2) (h : rSm (.mk k nm t n es b el cs) = true) : tSm (.mk k nm t n es b el cs) = .node dF (es.map tEx) := by
  subst hk
  obtain ⟨h1, h2, h3⟩ := bg h
  have hn : nm = eS := h3 (by decide) (by decide)
  rw [cn]
  rw [hn]
  show Tr.node dF (es.map tEx ++ []) = _
  rw [List.append_nil]
theorem tSm_3 (hk : k = 3) (h : rSm (.mk k nm t n es b el cs) = true) : ∃ x, es = [x] ∧ tSm (.mk k nm t n es b el cs) = .node w_if [tEx x, .node d4 (b.map tSm), .node eG (el.map tSm)] := by
  subst hk
  obtain ⟨h1, h2, h3⟩ := bg h
  have hn : nm = eS := h3 (by decide) (by decide)
  obtain ⟨x, rfl⟩ := one_of h1 h2
  refine ⟨x, rfl, ?_⟩
  rw [cn]
  rw [hn]
  rfl
theorem tSm_4 (hk : k = 4) (h : rSm (.mk k nm t n es b el cs) = true) : ∃ x, es = [x] ∧ tSm (.mk k nm t n es b el cs) = .node (aG gz nm) [tEx x, .node bH (b.map tSm)] := by
  subst hk
  obtain ⟨h1, h2, h3⟩ := bg h
  obtain ⟨x, rfl⟩ := one_of h1 h2
  refine ⟨x, rfl, ?_⟩
  rw [cn]
  rfl
theorem tSm_5 (hk : k = 5) (h : rSm (.mk k nm t n es b el cs) = true) : es = [] ∧ tSm (.mk k nm t n es b el cs) = .node (aG ku nm) (b.map tSm) := by
  subst hk
  obtain ⟨h1, h2, h3⟩ := bg h
  obtain rfl := fj h2
  refine ⟨rfl, ?_⟩
  rw [cn]
  rfl
theorem tSm_6 (hk : k = 6) (h : rSm (.mk k nm t n es b el cs) = true) : es = [] ∧ tSm (.mk k nm t n es b el cs) = .node (aG gA nm) (b.map tSm) := by
  subst hk
  obtain ⟨h1, h2, h3⟩ := bg h
  obtain rfl := fj h2
  refine ⟨rfl, ?_⟩
  rw [cn]
  rfl
theorem tSm_7 (hk : k = 7) (h : rSm (.mk k nm t n es b el cs) = true) : es = [] ∧ tSm (.mk k nm t n es b el cs) = .node (aG gC nm) [] := by
  subst hk
  obtain ⟨h1, h2, h3⟩ := bg h
  obtain rfl := fj h2
  refine ⟨rfl, ?_⟩
  rw [cn]
  rfl
theorem tSm_8 (hk : k = 8) (h : rSm (.mk k nm t n es b el cs) = true) : es = [] ∧ tSm (.mk k nm t n es b el cs) = .node (aG c6 nm) [] := by
  subst hk
  obtain ⟨h1, h2, h3⟩ := bg h
  obtain rfl := fj h2
  refine ⟨rfl, ?_⟩
  rw [cn]
  rfl
theorem tSm_9 (hk : k = 9) (h : rSm (.mk k nm t n es b el cs) = true) : tSm (.mk k nm t n es b el cs) = .node c7 (es.map tEx ++ cs.map iS ++ [.node bl (el.map tSm)]) := by
  subst hk
  obtain ⟨h1, h2, h3⟩ := bg h
  have hn : nm = eS := h3 (by decide) (by decide)
  rw [cn]
  rw [hn]
  show Tr.node c7 (es.map tEx ++ (cs.map iS ++ [.node bl (el.map tSm)])) = _
  rw [List.append_assoc]
theorem tSm_10 (hk : k = 10) (h : rSm (.mk k nm t n es b el cs) = true) : tSm (.mk k nm t n es b el cs) = .node dG (es.map tEx) := by
  subst hk
  obtain ⟨h1, h2, h3⟩ := bg h
  have hn : nm = eS := h3 (by decide) (by decide)
  rw [cn]
  rw [hn]
  show Tr.node dG (es.map tEx ++ []) = _
  rw [List.append_nil]
theorem tSm_11 (hk : k = 11) (h : rSm (.mk k nm t n es b el cs) = true) : tSm (.mk k nm t n es b el cs) = .node (aG w_out (cw n.toNat)) (es.map tEx) := by
  subst hk
  obtain ⟨h1, h2, h3⟩ := bg h
  rw [cn]
  show Tr.node (aG w_out (cw n.toNat)) (es.map tEx ++ []) = _
  rw [List.append_nil]
theorem tSm_12 (hk : k = 12) (h : rSm (.mk k nm t n es b el cs) = true) : es = [] ∧ tSm (.mk k nm t n es b el cs) = .node kv [] := by
  subst hk
  obtain ⟨h1, h2, h3⟩ := bg h
  have hn : nm = eS := h3 (by decide) (by decide)
  obtain rfl := fj h2
  refine ⟨rfl, ?_⟩
  rw [cn]
  rw [hn]
  rfl
theorem tSm_13 (hk : k = 13) (h : rSm (.mk k nm t n es b el cs) = true) : es = [] ∧ tSm (.mk k nm t n es b el cs) = .node ky [] := by
  subst hk
  obtain ⟨h1, h2, h3⟩ := bg h
  have hn : nm = eS := h3 (by decide) (by decide)
  obtain rfl := fj h2
  refine ⟨rfl, ?_⟩
  rw [cn]
  rw [hn]
  rfl
theorem tSm_14 (hk : k = 14) (h : rSm (.mk k nm t n es b el cs) = true) : tSm (.mk k nm t n es b el cs) = .node w_do (es.map tEx) := by
  subst hk
  obtain ⟨h1, h2, h3⟩ := bg h
  have hn : nm = eS := h3 (by decide) (by decide)
  rw [cn]
  rw [hn]
  show Tr.node w_do (es.map tEx ++ []) = _
  rw [List.append_nil]
end
end Go.Proofs.YtlmahofogapkgaaGreatDoor.K
namespace Go.Proofs.YtlmahofogapkgaaGreatDoor.X
section
open Go Go.RowKit Go.Proofs K
variable {pk : Pk}
theorem aw {w p : ByteArray} {ks : List Tr} (hw : w.size ≤ 1000) (hp9 : p.size ≤ 190000000000) : XQ Tryz.prog pk 33 [xs w, xs p, xr (aP ks)] (xd (trd (.node (aG w p) ks))) := by
  rw [ba]
  refine XQ.en Tryz.func33 Tryz.ntmps33 (fun w0 own H V v0 hf => ?_)
  refine G (T := T) 1000 rfl ?_
  refine If rfl (fun h => ?_) (fun h => ?_)
  · rw [show aG w p = _ from if_neg (of_decide_eq_true h)]
    refine G (T := T) 1000 rfl ?_ ⟨by rw [ByteArray.size_append]; show w.size + (1 + p.size) ≤ _; omega, by show 1 + p.size ≤ _; omega, trivial⟩
    exact Fq (T := T) rfl rfl
  · rw [show aG w p = _ from if_pos (Decidable.not_not.1 (of_decide_eq_false h))]
    refine G (T := T) 1000 rfl ?_
    exact Fq (T := T) rfl rfl
theorem ax {w : ByteArray} {ks : List Tr} (hw : w.size ≤ 1000) : XQ Tryz.prog pk 33 [xs w, xs ⟨#[]⟩, xr (aP ks)] (xd (trd (.node w ks))) := aw hw (by decide)
theorem cz {α β : Type} {l : List α} {k : Nat} {x : α} (f : α → β) (h : l[k]? = some x) : (l.take (k + 1)).map f = (l.take k).map f ++ [f x] := by rw [List.take_succ, h, List.map_append]; rfl
theorem fk (l : List Tr) (t : Tr) : aP (l ++ [t]) = aP l ++ [trd t] := List.map_append ..
abbrev mb (pk : Pk) (f : FuncId) {α : Type} (da : α → List D) : Prop := ∀ {l : List α} (tr : α → Tr) {fc : FuncId} {fs cs : List D}, l.length ≤ 100000000000 → (∀ x ∈ l, XQ Tryz.prog pk fc (cs9 fs cs [xd (da x)]) (xd (trd (tr x)))) → XQ Tryz.prog pk f [xr (l.map da), xf fc fs cs] (xr (aP (l.map tr)))
theorem de (pk : Pk) : mb pk 34 tdD ∧ mb pk 36 gbD ∧ mb pk 38 fuD ∧ mb pk 84 paD ∧ mb pk 90 smD ∧ mb pk 141 exD := by
  refine ⟨fun {l} tr {fc fs cs} hl hcl => XQ.en Tryz.func34 Tryz.ntmps34 (fun w0 own H V v0 hf => ?_), fun {l} tr {fc fs cs} hl hcl => XQ.en Tryz.func36 Tryz.ntmps36 (fun w0 own H V v0 hf => ?_), fun {l} tr {fc fs cs} hl hcl => XQ.en Tryz.func38 Tryz.ntmps38 (fun w0 own H V v0 hf => ?_),
    fun {l} tr {fc fs cs} hl hcl => XQ.en Tryz.func84 Tryz.ntmps84 (fun w0 own H V v0 hf => ?_), fun {l} tr {fc fs cs} hl hcl => XQ.en Tryz.func90 Tryz.ntmps90 (fun w0 own H V v0 hf => ?_), fun {l} tr {fc fs cs} hl hcl => XQ.en Tryz.func141 Tryz.ntmps141 (fun w0 own H V v0 hf => ?_)⟩
  all_goals
    refine G (T := T) 1000 rfl ?_
    refine (Nr 5 35 2 rfl rfl).c ?_
    refine Lq [1, 8, 9] (fun (q : Nat × List (List D)) r => (5, .a (.c (.l 0 1 2 0 q.1 q.1))) :: (10, xi (q.1 : Nat)) :: r) (fun q => [⟨0, 1, .row q.1 q.2 35 2⟩]) 1 (fun q => q.1 ≤ l.length ∧ q.2 = aP ((l.take q.1).map tr)) (fun q => l.length - q.1) (0, []) rfl ⟨Nat.zero_le _, rfl⟩ ?_
    rintro ⟨j, R⟩ ⟨hj, hR⟩; dsimp only at hj hR ⊢
    refine G (T := T) 1000 rfl ?_
    refine If rfl (fun h => ?_) (fun h => ?_)
    · have hjl := of_decide_eq_true h; rw [List.length_map] at hjl
      obtain ⟨y, hy⟩ := ah (l := l) (j := j) (by omega)
      refine G (T := T) 12 rfl ?_
      refine Ix (T := T) j (ab hy) rfl rfl rfl rfl ⟨rfl, rfl⟩ rfl rfl ?_
      refine G (T := T) 1000 rfl ?_
      refine Cv (hcl y (List.mem_of_getElem? hy)) rfl rfl rfl rfl rfl ⟨rfl, rfl⟩ ?_
      refine G (T := T) 1000 rfl ?_
      exact Nq (j + 1, R ++ [trd (tr y)]) ⟨by omega, by dsimp only; rw [hR, cz tr hy, fk]⟩ (by show _ - (j + 1) < _ - j; omega)
    · have hjl := of_decide_eq_false h; rw [List.length_map] at hjl
      refine G (T := T) 1000 rfl ?_
      rw [List.take_of_length_le (by omega)] at hR; subst hR
      refine MS.fze 0 rfl ?_ ⟨rfl, rfl, rfl, rfl, rfl, rfl, trivial⟩
      exact Fq (T := T) rfl rfl
theorem gK (hT : ∀ H, pk.hy H → TabH H) {n : Int} (h0 : 0 ≤ n) (h1 : n ≤ 9223372036854775807) : XQ Tryz.prog pk 140 [xi n] (xs (cw n.toNat)) := XQ.ofFn inferInstance (fun w0 own H V vals hy hv => by
  match vals, hv with
  | [v], hv =>
    have := aO hv.1; subst this
    refine (K.gK h0 h1 (hT H hy)).mono ?_
    rintro _ _ H' ⟨rfl, h2, h3⟩
    exact ⟨by simp only [xs, XV.rel, XA.rel, XC.rel, rd]; exact ⟨trivial, rfl⟩, h2, h3⟩)
theorem dM (hT : ∀ H, pk.hy H → TabH H) {n : Int} (h0 : 0 ≤ n) (h1 : n ≤ 9223372036854775807) : XQ Tryz.prog pk 88 [xi n] (xs (cw n.toNat)) := by
  refine XQ.en Tryz.func88 Tryz.ntmps88 (fun w0 own H V v0 hf => ?_)
  refine G (T := T) 1000 rfl ?_
  refine Cq (gK hT h0 h1) rfl rfl rfl rfl rfl ⟨rfl, rfl⟩ ?_
  refine G (T := T) 1000 rfl ?_
  exact Fe (T := T) rfl rfl
theorem fm (hT : ∀ H, pk.hy H → TabH H) {n : Int} (h0 : 0 ≤ n) (h1 : n ≤ 65535) : XQ Tryz.prog pk 86 [.a (.c (.d (.c (.int .u16 n))))] (xs (cw n.toNat)) := by
  refine XQ.en Tryz.func86 Tryz.ntmps86 (fun w0 own H V v0 hf => ?_)
  refine G (T := T) 1000 rfl ?_
  refine Cq (gK hT h0 (by omega)) rfl rfl rfl rfl rfl ⟨rfl, rfl⟩ ?_
  refine G (T := T) 1000 rfl ?_
  exact Fe (T := T) rfl rfl
theorem andX15 (b : UInt8) : andX .u8 (b.toNat : Int) 15 = ((b.toNat % 16 : Nat) : Int) := and15 b
theorem oG {n : Nat} (h : n < 16) : (ByteArray.mk #[48, 49, 50, 51, 52, 53, 54, 55, 56, 57, 97, 98, 99, 100, 101, 102]).data.getD ((n : Nat) : Int).toNat 0 = hexD n := by
  have e : ∀ n : Nat, n < 16 → (ByteArray.mk #[48, 49, 50, 51, 52, 53, 54, 55, 56, 57, 97, 98, 99, 100, 101, 102]).data.getD ((n : Nat) : Int).toNat 0 = hexD n := by decide +kernel
  exact e n h
theorem diff_hex {s : ByteArray} (hs : s.size ≤ 100000000000) : XQ Tryz.prog pk 89 [xs s] (xs (hexB s)) := by
  refine XQ.en Tryz.func89 Tryz.ntmps89 (fun w0 own H V v0 hf => ?_)
  refine G (T := T) 1000 rfl ?_
  refine (Nr 3 5 1 rfl rfl).c ?_
  refine Lq [0, 6] (fun (q : Nat × Nat × List (List D)) r => (3, .a (.c (.l 0 1 1 0 q.2.1 q.2.1))) :: (7, xi (q.1 : Nat)) :: r) (fun q => [⟨0, 1, .row q.2.1 q.2.2 5 1⟩]) 1 (fun q => q.1 ≤ s.size ∧ q.2.1 = 2 * q.1 ∧ q.2.2 = bG (fB (s.data.toList.take q.1))) (fun q => s.size - q.1) (0, 0, []) rfl ⟨Nat.zero_le _, rfl, rfl⟩ ?_
  rintro ⟨j, m, R⟩ ⟨hj, hm, hR⟩; dsimp only at hj hm hR ⊢
  refine G (T := T) 1000 rfl ?_
  refine If rfl (fun h => ?_) (fun h => ?_)
  · have hlt : j < s.size := by have := of_decide_eq_true h; omega
    have hb : s.data.toList[j]? = some (s.data.getD ((j : Nat) : Int).toNat 0) := by
      rw [Array.getElem?_toList, Array.getElem?_eq_getElem hlt, Array.getD, dif_pos (by exact hlt)]; rfl
    have hb2 := (s.data.getD ((j : Nat) : Int).toNat 0).toNat_lt
    have h16 : (ByteArray.mk #[48, 49, 50, 51, 52, 53, 54, 55, 56, 57, 97, 98, 99, 100, 101, 102]).size = 16 := rfl
    refine G (T := T) 15 rfl ?_
    rw [shr4]
    refine G (T := T) 20 rfl ?_
    rw [andX15]
    refine G (T := T) 22 rfl ?_
    rw [oG (n := _ / 16) (by omega), oG (n := _ % 16) (by omega)]
    refine Gs (T := T) 1000 rfl ?_
    refine Nq (j + 1, m + 2, R ++ bG [hexD (_ / 16), hexD (_ % 16)]) ⟨hlt, by dsimp only; omega, ?_⟩ (by show _ - (j + 1) < _ - j; omega)
    dsimp only
    rw [hR, hexL_snoc hb, bG, bG, bG, List.map_append]
  · have hlt : s.size ≤ j := by have := of_decide_eq_false h; omega
    rw [List.take_of_length_le (by simpa using hlt)] at hR
    subst hR
    have hl : m = (fB s.data.toList).length := by rw [kH, hm]; show 2 * j = 2 * s.size; omega
    refine G (T := T) 1000 rfl ?_
    refine Cb (T := T) rfl rfl rfl rfl rfl ⟨rfl, rfl⟩ hl hl ?_
    refine G (T := T) 1000 rfl ?_
    exact Fe (T := T) rfl rfl
end
section
open Go Go.RowKit Go.Proofs K
variable {pk : Pk}
theorem eR {n : Int} (h0 : 0 ≤ n) (h1 : n ≤ 9223372036854775807) : (cw n.toNat).size ≤ 190000000000 := Nat.le_trans (it (by rw [show (10 : Nat) ^ 20 = 100000000000000000000 from by decide]; omega)) (by decide)
theorem ty_num {k n : Int} {nm : ByteArray} {ts : List Ty4} (h : rTy (.mk k nm n ts) = true ∨ aD (.mk k nm n ts) 7 = true) (hk : k = 5 ∨ k = 6) : 0 ≤ n ∧ ts.all rTy = true := by
  rcases h with h | h
  · rw [rTy_a hk] at h
    simp only [Bool.and_eq_true, decide_eq_true_eq] at h
    refine ⟨by omega, ?_⟩
    first | exact h.2 | (rw [← eE]; exact h.2) | (rw [eE] at h; exact h.2)
  · simp only [aD, Bool.and_eq_true, decide_eq_true_eq] at h; omega
theorem diff_Type (hT : ∀ H, pk.hy H → TabH H) : ∀ (m : Nat) {t : Ty4}, t.size ≤ m → t.ok → (rTy t = true ∨ aD t 7 = true) → XQ Tryz.prog pk 87 [xd (tyD t)] (xd (trd (tTy t))) := by
  intro m
  induction m with
  | zero => intro t hm; have := t.size_pos; omega
  | succ m ih =>
  intro t hm hok hr
  obtain ⟨k, nm, n, ts⟩ := t
  obtain ⟨hk, hn, hn2, hts⟩ := hok
  obtain ⟨s1, s2⟩ := ty_kids hr
  have hnum := ty_num hr
  have hsz : (Ty4.mk k nm n ts).size = Ty4.sizes ts + 1 := rfl
  have leaf : ∀ {w}, tyL k nm n = w → ¬ (k = 5 ∨ k = 6) → tTy (.mk k nm n ts) = .node w [] := by rintro w rfl h; rw [s2 h]; rfl
  rw [ir]
  refine XQ.en Tryz.func87 Tryz.ntmps87 (fun w0 own H V v0 hf => ?_)
  refine G (T := T) 100001 rfl ?_
  refine (FzTo.bz 0 rfl).c ?_
  refine G (T := T) 1000 rfl ?_
  iterate 4
    refine If rfl (fun h => ?_) (fun h => ?_)
    · have h9 := of_decide_eq_true h
      rw [leaf (by subst h9; rfl) (by omega)]
      refine G (T := T) 1000 rfl ?_
      refine Cq (ax (ks := []) (by decide)) rfl rfl rfl rfl rfl ⟨rfl, rfl⟩ ?_
      refine G (T := T) 1000 rfl ?_
      exact Fq (T := T) rfl rfl
    have := of_decide_eq_false h
    refine G (T := T) 1000 rfl ?_
  refine If rfl (fun h => ?_) (fun h => ?_)
  · have h9 := of_decide_eq_true h
    rw [leaf (w := aG fN nm) (by subst h9; rfl) (by omega)]
    refine G (T := T) 1000 rfl ?_
    refine Cq (aw (ks := []) (by decide) (by omega)) rfl rfl rfl rfl rfl ⟨rfl, rfl⟩ ?_
    refine G (T := T) 1000 rfl ?_
    exact Fq (T := T) rfl rfl
  have h4 := of_decide_eq_false h
  have rest : ∀ {w : ByteArray} {u : Ty4}, ts = [u] → tyL k nm n = aG w (cw n.toNat) → tTy (.mk k nm n ts) = .node (aG w (cw n.toNat)) [tTy u] := by rintro w u rfl h; rw [tTy, h]; rfl
  refine G (T := T) 1000 rfl ?_
  refine If rfl (fun h => ?_) (fun h => ?_)
  · have h9 := of_decide_eq_true h
    obtain ⟨u, hu⟩ := s1 (.inl h9)
    obtain ⟨h0, bA⟩ := hnum (.inl h9)
    rw [rest hu (by subst h9; rfl)]
    subst hu
    refine G (T := T) 1000 rfl ?_
    refine Cq (dM hT h0 (by omega)) rfl rfl rfl rfl rfl ⟨rfl, rfl⟩ ?_
    refine G (T := T) 1000 rfl ?_
    refine Ix (T := T) 0 (r := tyD u) rfl rfl rfl rfl rfl ⟨rfl, rfl⟩ rfl rfl ?_
    refine G (T := T) 1000 rfl ?_
    refine Cq (ih (t := u) (by simp only [Ty4.sizes] at hsz; omega) hts.1 (.inl (by simpa using bA))) rfl rfl rfl rfl rfl ⟨rfl, rfl⟩ ?_
    refine G (T := T) 1000 rfl ?_
    refine Cq (aw (ks := [tTy u]) (by decide) (eR h0 (by omega))) rfl rfl rfl rfl rfl ⟨rfl, rfl⟩ ?_
    refine G (T := T) 1000 rfl ?_
    exact Fq (T := T) rfl rfl
  have h5 := of_decide_eq_false h
  have h6 : k = 6 := by
    rcases hr with h | h
    · by_cases h9 : k = 6
      · exact h9
      · rw [rTy, if_neg (by omega), if_neg (by omega), if_neg (by omega)] at h; cases h
    · simp only [aD, Bool.and_eq_true, decide_eq_true_eq] at h; omega
  obtain ⟨u, hu⟩ := s1 (.inr h6)
  obtain ⟨h0, bA⟩ := hnum (.inr h6)
  rw [rest (w := gw) hu (by subst h6; rfl)]
  subst hu
  refine G (T := T) 1000 rfl ?_
  refine Cq (dM hT h0 (by omega)) rfl rfl rfl rfl rfl ⟨rfl, rfl⟩ ?_
  refine G (T := T) 1000 rfl ?_
  refine Ix (T := T) 0 (r := tyD u) rfl rfl rfl rfl rfl ⟨rfl, rfl⟩ rfl rfl ?_
  refine G (T := T) 1000 rfl ?_
  refine Cq (ih (t := u) (by simp only [Ty4.sizes] at hsz; omega) hts.1 (.inl (by simpa using bA))) rfl rfl rfl rfl rfl ⟨rfl, rfl⟩ ?_
  refine G (T := T) 1000 rfl ?_
  refine Cq (aw (ks := [tTy u]) (by decide) (eR h0 (by omega))) rfl rfl rfl rfl rfl ⟨rfl, rfl⟩ ?_
  refine G (T := T) 1000 rfl ?_
  exact Fq (T := T) rfl rfl
theorem gL (hT : ∀ H, pk.hy H → TabH H) {t : Ty4} (h : t.ok) (hr : rTy t = true ∨ aD t 7 = true) : XQ Tryz.prog pk 87 [xd (tyD t)] (xd (trd (tTy t))) := diff_Type hT _ (Nat.le_refl _) h hr
theorem ly (k : Int) : XQ Tryz.prog pk 174 [xi k] (xb (dn k)) := by
  refine XQ.en Tryz.func174 Tryz.ntmps174 (fun w0 own H V v0 hf => ?_)
  refine Gs (T := T) 1000 rfl ?_
  exact Fe (T := T) rfl (congrArg xb (by simp [dn, Bool.or_assoc]))
theorem kO : XQ Tryz.prog pk 175 [] (.a (.c (.d (.mp (fun _ o => MapR Tryz.prog 3 9 o 15 (au aN)))))) := by
  refine XQ.en Tryz.func175 Tryz.ntmps175 (fun w0 own H V v0 hf => ?_)
  refine G (T := T) 1000 rfl ?_
  refine Mm (fun o => MapR Tryz.prog 3 9 o 0 (au [])) (MapR.nil _ _ _) ⟨rfl, rfl⟩ ?_
  iterate 15 (refine In3 rfl rfl rfl rfl rfl rfl rfl rfl ⟨by omega, by omega⟩ (by omega) (by simp [au]) ?_)
  refine G (T := T) 1000 rfl ?_
  refine (FzTo.mz 0 rfl).e ?_
  exact Fe (T := T) rfl rfl
theorem zeroS (w : World) : (zeroValue 9).run Tryz.prog w = .ok (.string ⟨#[]⟩) w := by simp [zeroValue, typeInfo, show Tryz.prog.info? 9 = some Tryz.t9 from by kernel_rfl]; rfl
theorem ite_le {p : Prop} [Decidable p] {a b : ByteArray} (ha : a.size ≤ 1000) (hb : b.size ≤ 1000) : (if p then a else b).size ≤ 1000 := by split <;> assumption
theorem exW_le (k : Int) : (exW k).size ≤ 1000 := by unfold exW; repeat' (first | apply ite_le | decide)
theorem diff_Expr (hT : ∀ H, pk.hy H → TabH H) : ∀ (m : Nat), m ≤ 100000000000 → ∀ {e : Ex}, e.size ≤ m → e.ok → rEx e = true → XQ Tryz.prog pk 142 [xd (exD e)] (xd (trd (tEx e))) := by
  intro m
  induction m with
  | zero => intro _ e hm; have := e.size_pos; omega
  | succ m ih =>
  intro hB e hm hok hr
  obtain ⟨k, nm, n, ks⟩ := e
  obtain ⟨hk, hn, hn2, hks⟩ := hok
  have hsz : (Ex.mk k nm n ks).size = Ex.sizes ks + 1 := rfl
  have hlen := Ex.len_le ks
  rw [rEx, bL] at hr
  simp only [Bool.and_eq_true] at hr
  have hk15 := of_decide_eq_true hr.1.1.1.1
  have bA := List.all_eq_true.1 hr.2
  rw [dv, show tEx (.mk k nm n ks) = .node (aG (exW k) (if dn k then cw n.toNat else nm)) (ks.map tEx) from by rw [tEx, kz]]
  refine XQ.en Tryz.func142 Tryz.ntmps142 (fun w0 own H V v0 hf => ?_)
  refine G (T := T) 100001 rfl ?_
  refine (FzTo.bz 0 rfl).c ?_
  refine G (T := T) 1000 rfl ?_
  refine Cq (ly k) rfl rfl rfl rfl rfl ⟨rfl, rfl⟩ ?_
  refine G (T := T) 1000 rfl ?_
  refine Cf [1, 2] (fun (_ : Unit) r => (3, xs (if dn k then cw n.toNat else nm)) :: r) (fun _ => [⟨1, 0, .cells [.d (.c (.string eS)), .z] 35⟩]) 2 (fun _ => True) rfl ?_ ?_
  · refine If rfl (fun h => ?_) (fun h => ?_)
    · refine G (T := T) 1000 rfl ?_
      refine Cq (fm hT hn2.1 hn2.2) rfl rfl rfl rfl rfl ⟨rfl, rfl⟩ ?_
      refine G (T := T) 1000 rfl ?_
      rw [if_pos h]
      exact Dn () trivial
    · refine G (T := T) 1000 rfl ?_
      rw [if_neg (by rw [h]; simp)]
      exact Dn () trivial
  rintro _ -
  refine G (T := T) 1000 rfl ?_
  refine Cq kO rfl rfl rfl rfl rfl ⟨rfl, rfl⟩ ?_
  refine G (T := T) 1000 rfl ?_
  refine Lu (T := T) (xs (exW k)) (fun V H => ?_) K3 (key3 hk) zeroS rfl rfl rfl rfl rfl ⟨rfl, rfl⟩ ?_
  · rw [if_neg (by simp), word_get hk15]; simp only [xs, XV.rel, XA.rel, XC.rel, rd]; exact ⟨trivial, rfl⟩
  refine G (T := T) 1000 rfl ?_
  refine Cq ((de pk).2.2.2.2.2 tEx (fs := []) (cs := []) (by omega) (fun x hx => ih (by omega) (by have := Ex.size_mem hx; omega) (Ex.oks_mem hks hx) (bA x hx))) rfl rfl rfl rfl rfl ⟨rfl, rfl⟩ ?_
  refine G (T := T) 1000 rfl ?_
  refine Cq (aw (ks := ks.map tEx) (exW_le k) (by split <;> first | exact eR hn2.1 (by omega) | omega)) rfl rfl rfl rfl rfl ⟨rfl, rfl⟩ ?_
  refine G (T := T) 1000 rfl ?_
  exact Fq (T := T) rfl rfl
end
section
open Go Go.RowKit Go.Proofs K
variable {pk : Pk}
theorem pG {l : List Ex} (tr : Ex → Tr) {fc : FuncId} {fs cs : List D} (hl : l.length ≤ 100000000000) (hcl : ∀ x ∈ l, XQ Tryz.prog pk fc (cs9 fs cs [xd (exD x)]) (xd (trd (tr x)))) :
    XN Tryz.prog pk 141 [xr (l.map exD), xf fc fs cs] (.a (.c (.l 0 0 2 0 l.length l.length))) [⟨0, 0, .row l.length (aP (l.map tr)) 35 2⟩] 1 := by
  refine XN.en Tryz.func141 Tryz.ntmps141 (fun w0 own H V v0 hf => ?_)
  refine G (T := T) 1000 rfl ?_
  refine (Nr 5 35 2 rfl rfl).c ?_
  refine Lq [1, 8, 9] (fun (q : Nat × List (List D)) r => (5, .a (.c (.l 0 1 2 0 q.1 q.1))) :: (10, xi (q.1 : Nat)) :: r) (fun q => [⟨0, 1, .row q.1 q.2 35 2⟩]) 1 (fun q => q.1 ≤ l.length ∧ q.2 = aP ((l.take q.1).map tr)) (fun q => l.length - q.1) (0, []) rfl ⟨Nat.zero_le _, rfl⟩ ?_
  rintro ⟨j, R⟩ ⟨hj, hR⟩; dsimp only at hj hR ⊢
  refine G (T := T) 1000 rfl ?_
  refine If rfl (fun h => ?_) (fun h => ?_)
  · have hjl := of_decide_eq_true h; rw [List.length_map] at hjl
    obtain ⟨y, hy⟩ := ah (l := l) (j := j) (by omega)
    refine G (T := T) 12 rfl ?_
    refine Ix (T := T) j (ab hy) rfl rfl rfl rfl ⟨rfl, rfl⟩ rfl rfl ?_
    refine G (T := T) 1000 rfl ?_
    refine Cv (hcl y (List.mem_of_getElem? hy)) rfl rfl rfl rfl rfl ⟨rfl, rfl⟩ ?_
    refine G (T := T) 1000 rfl ?_
    exact Nq (j + 1, R ++ [trd (tr y)]) ⟨by omega, by dsimp only; rw [hR, cz tr hy, fk]⟩ (by show _ - (j + 1) < _ - j; omega)
  · have hjl := of_decide_eq_false h; rw [List.length_map] at hjl
    refine G (T := T) 1000 rfl ?_
    obtain rfl : j = l.length := by omega
    rw [List.take_of_length_le (Nat.le_refl _)] at hR; subst hR
    exact Fz (T := T) (fun _ => 0) rfl ⟨⟨_, _, rfl, rfl⟩, rfl, rfl⟩
theorem sm_rights {k n : Int} {nm : ByteArray} {t : Ty4} {xs : List Ex} {b el : List Sm} {cs : List (List Sm)} (h : rSm (.mk k nm t n xs b el cs) = true) : (1 ≤ k ∧ k ≤ 14) ∧ (k = 1 → rTy t = true) ∧ (∀ x ∈ xs, rEx x = true) ∧ (∀ x ∈ b, rSm x = true) ∧ (∀ x ∈ el, rSm x = true) ∧ ∀ c ∈ cs, ∀ x ∈ c, rSm x = true := by
  rw [rSm, bL, bj, bj, fh] at h
  simp only [Bool.and_eq_true] at h
  obtain ⟨⟨⟨⟨⟨⟨⟨⟨⟨⟨⟨⟨⟨⟨h1, _⟩, _⟩, h4⟩, _⟩, h6⟩, _⟩, _⟩, _⟩, _⟩, _⟩, _⟩, hb⟩, he⟩, hc⟩ := h
  refine ⟨of_decide_eq_true h1, fun hk => by rw [if_pos hk] at h6; exact h6, List.all_eq_true.1 h4, List.all_eq_true.1 hb, List.all_eq_true.1 he, fun c hcm x hx => ?_⟩
  have := List.all_eq_true.1 hc c hcm
  rw [bj] at this
  exact List.all_eq_true.1 this x hx
theorem diff_Stmt (hT : ∀ H, pk.hy H → TabH H) : ∀ (m : Nat), m ≤ 100000000000 → ∀ {s : Sm}, s.size ≤ m → s.ok → rSm s = true → XQ Tryz.prog pk 91 [xd (smD s)] (xd (trd (tSm s))) := by
  intro m
  induction m with
  | zero => intro _ e hm; have := e.size_pos; omega
  | succ m ih =>
  intro hB s hm hok hr
  obtain ⟨k, nm, t, n, es, b, el, cs⟩ := s
  obtain ⟨hk, hn, ht, hn2, hx, hb, he, hc⟩ := hok
  obtain ⟨hk14, rt, rx, rb, re, rc⟩ := sm_rights hr
  have hsz : (Sm.mk k nm t n es b el cs).size = t.size + Ex.sizes es + Sm.sizes b + Sm.sizes el + Sm.csizes cs + 1 := rfl
  have l1 := Ex.len_le es
  have l2 := Sm.clen_le cs
  have blk : ∀ {l : List Sm}, Sm.sizes l ≤ m → Sm.oks l → (∀ s ∈ l, rSm s = true) → XQ Tryz.prog pk 90 [xr (l.map smD), xf 91 [] []] (xr (aP (l.map tSm))) := fun {l} h1 h2 h3 => (de pk).2.2.2.2.1 tSm (fs := []) (cs := []) (by have := Sm.len_le l; omega) (fun s hs => ih (by omega) (by have := Sm.size_mem hs; omega) (Sm.oks_mem h2 hs) (h3 s hs))
  rw [aJ]
  refine XQ.en Tryz.func91 Tryz.ntmps91 (fun w0 own H V v0 hf => ?_)
  refine G (T := T) 100001 rfl ?_
  refine (FzTo.bz 0 rfl).c ?_
  refine G (T := T) 1000 rfl ?_
  refine Cn (pG tEx (fs := []) (cs := []) (by omega) (fun x hxm => diff_Expr hT _ (by have := Ex.size_mem hxm; omega) (Nat.le_refl _) (Ex.oks_mem hx hxm) (rx x hxm))) rfl rfl rfl rfl rfl ⟨rfl, rfl⟩ ?_
  refine G (T := T) 1000 rfl ?_
  refine Cq (blk (by omega) hb rb) rfl rfl rfl rfl rfl ⟨rfl, rfl⟩ ?_
  refine G (T := T) 1000 rfl ?_
  refine If rfl (fun h => ?_) (fun h => ?_)
  · have h9 := of_decide_eq_true h
    obtain ⟨y, rfl, e⟩ := tSm_1 h9 hr
    rw [e]
    refine Zc 2 rfl ?_
    refine G (T := T) 1000 rfl ?_
    refine Cq (gL hT ht (.inl (rt h9))) rfl rfl rfl rfl rfl ⟨rfl, rfl⟩ ?_
    refine G (T := T) 1000 rfl ?_
    refine Ix (T := T) 0 (r := trd (tEx y)) rfl rfl rfl rfl rfl ⟨rfl, rfl⟩ rfl rfl ?_
    refine G (T := T) 1000 rfl ?_
    refine Cq (aw (ks := [tTy t, tEx y]) (by decide) (by omega)) rfl rfl rfl rfl rfl ⟨rfl, rfl⟩ ?_
    refine G (T := T) 1000 rfl ?_
    exact Fq (T := T) rfl rfl
  have := of_decide_eq_false h
  refine G (T := T) 1000 rfl ?_
  refine If rfl (fun h => ?_) (fun h => ?_)
  · have h9 := of_decide_eq_true h
    rw [tSm_2 h9 hr]
    refine Zc 2 rfl ?_
    refine G (T := T) 1000 rfl ?_
    refine Cq (ax (ks := es.map tEx) (by decide)) rfl rfl rfl rfl rfl ⟨rfl, rfl⟩ ?_
    refine G (T := T) 1000 rfl ?_
    exact Fq (T := T) rfl rfl
  have := of_decide_eq_false h
  refine G (T := T) 1000 rfl ?_
  refine If rfl (fun h => ?_) (fun h => ?_)
  · have h9 := of_decide_eq_true h
    obtain ⟨y, rfl, e⟩ := tSm_3 h9 hr
    rw [e]
    refine Zc 2 rfl ?_
    refine G (T := T) 1000 rfl ?_
    refine Ix (T := T) 0 (r := trd (tEx y)) rfl rfl rfl rfl rfl ⟨rfl, rfl⟩ rfl rfl ?_
    refine G (T := T) 1000 rfl ?_
    refine Cq (ax (ks := b.map tSm) (by decide)) rfl rfl rfl rfl rfl ⟨rfl, rfl⟩ ?_
    refine G (T := T) 1000 rfl ?_
    refine Cq (blk (by omega) he re) rfl rfl rfl rfl rfl ⟨rfl, rfl⟩ ?_
    refine G (T := T) 1000 rfl ?_
    refine Cq (ax (ks := el.map tSm) (by decide)) rfl rfl rfl rfl rfl ⟨rfl, rfl⟩ ?_
    refine G (T := T) 1000 rfl ?_
    refine Cq (ax (ks := [tEx y, .node d4 (b.map tSm), .node eG (el.map tSm)]) (by decide)) rfl rfl rfl rfl rfl ⟨rfl, rfl⟩ ?_
    refine G (T := T) 1000 rfl ?_
    exact Fq (T := T) rfl rfl
  have := of_decide_eq_false h
  refine G (T := T) 1000 rfl ?_
  refine If rfl (fun h => ?_) (fun h => ?_)
  · have h9 := of_decide_eq_true h
    obtain ⟨y, rfl, e⟩ := tSm_4 h9 hr
    rw [e]
    refine Zc 2 rfl ?_
    refine G (T := T) 1000 rfl ?_
    refine Ix (T := T) 0 (r := trd (tEx y)) rfl rfl rfl rfl rfl ⟨rfl, rfl⟩ rfl rfl ?_
    refine G (T := T) 1000 rfl ?_
    refine Cq (ax (ks := b.map tSm) (by decide)) rfl rfl rfl rfl rfl ⟨rfl, rfl⟩ ?_
    refine G (T := T) 1000 rfl ?_
    refine Cq (aw (ks := [tEx y, .node bH (b.map tSm)]) (by decide) (by omega)) rfl rfl rfl rfl rfl ⟨rfl, rfl⟩ ?_
    refine G (T := T) 1000 rfl ?_
    exact Fq (T := T) rfl rfl
  have := of_decide_eq_false h
  refine G (T := T) 1000 rfl ?_
  refine If rfl (fun h => ?_) (fun h => ?_)
  · have h9 := of_decide_eq_true h
    obtain ⟨rfl, e⟩ := tSm_5 h9 hr
    rw [e]
    refine G (T := T) 1000 rfl ?_
    refine Cq (aw (ks := b.map tSm) (by decide) (by omega)) rfl rfl rfl rfl rfl ⟨rfl, rfl⟩ ?_
    refine G (T := T) 1000 rfl ?_
    exact Fq (T := T) rfl rfl
  have := of_decide_eq_false h
  refine G (T := T) 1000 rfl ?_
  refine If rfl (fun h => ?_) (fun h => ?_)
  · have h9 := of_decide_eq_true h
    obtain ⟨rfl, e⟩ := tSm_6 h9 hr
    rw [e]
    refine G (T := T) 1000 rfl ?_
    refine Cq (aw (ks := b.map tSm) (by decide) (by omega)) rfl rfl rfl rfl rfl ⟨rfl, rfl⟩ ?_
    refine G (T := T) 1000 rfl ?_
    exact Fq (T := T) rfl rfl
  have := of_decide_eq_false h
  refine G (T := T) 1000 rfl ?_
  refine If rfl (fun h => ?_) (fun h => ?_)
  · have h9 := of_decide_eq_true h
    obtain ⟨rfl, e⟩ := tSm_7 h9 hr
    rw [e]
    refine G (T := T) 1000 rfl ?_
    refine Cq (aw (ks := []) (by decide) (by omega)) rfl rfl rfl rfl rfl ⟨rfl, rfl⟩ ?_
    refine G (T := T) 1000 rfl ?_
    exact Fq (T := T) rfl rfl
  have := of_decide_eq_false h
  refine G (T := T) 1000 rfl ?_
  refine If rfl (fun h => ?_) (fun h => ?_)
  · have h9 := of_decide_eq_true h
    obtain ⟨rfl, e⟩ := tSm_8 h9 hr
    rw [e]
    refine G (T := T) 1000 rfl ?_
    refine Cq (aw (ks := []) (by decide) (by omega)) rfl rfl rfl rfl rfl ⟨rfl, rfl⟩ ?_
    refine G (T := T) 1000 rfl ?_
    exact Fq (T := T) rfl rfl
  have := of_decide_eq_false h
  refine G (T := T) 1000 rfl ?_
  refine If rfl (fun h => ?_) (fun h => ?_)
  · have h9 := of_decide_eq_true h
    rw [tSm_9 h9 hr]
    refine G (T := T) 1000 rfl ?_
    refine Lq [1, 2, 80, 81] (fun (q : Nat × Nat × List (List D)) r => (3, .a (.c (.l 2 1 2 0 q.2.1 q.2.1))) :: (82, xi (q.1 : Nat)) :: r) (fun q => [⟨2, 1, .row q.2.1 q.2.2 35 2⟩, ⟨1, 0, .cells [.d (.c (.string eS)), .z] 35⟩]) 3 (fun q => q.1 ≤ cs.length ∧ q.2.1 = es.length + q.1 ∧ q.2.2 = aP (es.map tEx ++ (cs.take q.1).map iS)) (fun q => cs.length - q.1) (0, es.length, aP (es.map tEx)) rfl ⟨Nat.zero_le _, rfl, by simp⟩ ?_
    rintro ⟨j, z, R⟩ ⟨hj, hz, hR⟩; dsimp only at hj hz hR ⊢
    refine G (T := T) 1000 rfl ?_
    refine If rfl (fun h => ?_) (fun h => ?_)
    · have hjl := of_decide_eq_true h; rw [List.length_map] at hjl
      obtain ⟨c, hcj⟩ := ah (l := cs) (j := j) (by omega)
      have hcm := List.mem_of_getElem? hcj
      refine G (T := T) 1000 rfl ?_
      refine Ix (T := T) j (ab hcj) rfl rfl rfl rfl ⟨rfl, rfl⟩ rfl rfl ?_
      refine G (T := T) 1000 rfl ?_
      refine Cq (blk (by have := Sm.csize_mem hcm; omega) (Sm.okc_mem hc hcm) (rc c hcm)) rfl rfl rfl rfl rfl ⟨rfl, rfl⟩ ?_
      refine G (T := T) 1000 rfl ?_
      refine Cq (ax (ks := c.map tSm) (by decide)) rfl rfl rfl rfl rfl ⟨rfl, rfl⟩ ?_
      refine G (T := T) 1000 rfl ?_
      exact Nq (j + 1, z + 1, R ++ [trd (iS c)]) ⟨by omega, by dsimp only; omega, by dsimp only; rw [hR, cz iS hcj, ← List.append_assoc, fk]⟩ (by show _ - (j + 1) < _ - j; omega)
    have hjl := of_decide_eq_false h; rw [List.length_map] at hjl
    rw [List.take_of_length_le (by omega)] at hR
    refine G (T := T) 1000 rfl ?_
    refine Cq (blk (by omega) he re) rfl rfl rfl rfl rfl ⟨rfl, rfl⟩ ?_
    refine G (T := T) 1000 rfl ?_
    refine Cq (ax (ks := el.map tSm) (by decide)) rfl rfl rfl rfl rfl ⟨rfl, rfl⟩ ?_
    refine G (T := T) 1000 rfl ?_
    subst hR
    refine Zr 2 rfl ?_
    refine Cq (ax (w := c7) (ks := es.map tEx ++ cs.map iS ++ [.node bl (el.map tSm)]) (by decide)) rfl rfl rfl rfl (by rw [fk]; rfl) ⟨rfl, rfl⟩ ?_
    refine G (T := T) 1000 rfl ?_
    exact Fq (T := T) rfl rfl
  have := of_decide_eq_false h
  refine G (T := T) 1000 rfl ?_
  refine If rfl (fun h => ?_) (fun h => ?_)
  · have h9 := of_decide_eq_true h
    rw [tSm_10 h9 hr]
    refine Zc 2 rfl ?_
    refine G (T := T) 1000 rfl ?_
    refine Cq (ax (ks := es.map tEx) (by decide)) rfl rfl rfl rfl rfl ⟨rfl, rfl⟩ ?_
    refine G (T := T) 1000 rfl ?_
    exact Fq (T := T) rfl rfl
  have := of_decide_eq_false h
  refine G (T := T) 1000 rfl ?_
  refine If rfl (fun h => ?_) (fun h => ?_)
  · have h9 := of_decide_eq_true h
    rw [tSm_11 h9 hr]
    refine Zc 2 rfl ?_
    refine G (T := T) 1000 rfl ?_
    refine Cq (fm hT hn2.1 hn2.2) rfl rfl rfl rfl rfl ⟨rfl, rfl⟩ ?_
    refine G (T := T) 1000 rfl ?_
    refine Cq (aw (ks := es.map tEx) (by decide) (eR hn2.1 (by omega))) rfl rfl rfl rfl rfl ⟨rfl, rfl⟩ ?_
    refine G (T := T) 1000 rfl ?_
    exact Fq (T := T) rfl rfl
  have := of_decide_eq_false h
  refine G (T := T) 1000 rfl ?_
  refine If rfl (fun h => ?_) (fun h => ?_)
  · have h9 := of_decide_eq_true h
    obtain ⟨rfl, e⟩ := tSm_12 h9 hr
    rw [e]
    refine G (T := T) 1000 rfl ?_
    refine Cq (ax (ks := []) (by decide)) rfl rfl rfl rfl rfl ⟨rfl, rfl⟩ ?_
    refine G (T := T) 1000 rfl ?_
    exact Fq (T := T) rfl rfl
  have := of_decide_eq_false h
  refine G (T := T) 1000 rfl ?_
  refine If rfl (fun h => ?_) (fun h => ?_)
  · have h9 := of_decide_eq_true h
    obtain ⟨rfl, e⟩ := tSm_13 h9 hr
    rw [e]
    refine G (T := T) 1000 rfl ?_
    refine Cq (ax (ks := []) (by decide)) rfl rfl rfl rfl rfl ⟨rfl, rfl⟩ ?_
    refine G (T := T) 1000 rfl ?_
    exact Fq (T := T) rfl rfl
  have := of_decide_eq_false h
  rw [tSm_14 (by omega) hr]
  refine G (T := T) 1000 rfl ?_
  refine Zr 2 rfl ?_
  refine Cq (ax (ks := es.map tEx) (by decide)) rfl rfl rfl rfl rfl ⟨rfl, rfl⟩ ?_
  refine G (T := T) 1000 rfl ?_
  exact Fq (T := T) rfl rfl
end
end Go.Proofs.YtlmahofogapkgaaGreatDoor.X
