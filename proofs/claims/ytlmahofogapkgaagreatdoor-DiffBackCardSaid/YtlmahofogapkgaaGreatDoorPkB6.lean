/-
  Part 6 of 6 of the proof that DiffBack returns true for every list of numbers and every triple, and leaves its arguments as they were. No condition beyond the given statement.
-/
import Derived.ProofKit
import Derived.Deep.Slices
import Derived.OpenShut
import Derived.WideKeyArr2
import Derived.Lib.LaidTab
import Derived.LaidSub
import Derived.MakeChecks
import Derived.SizedLaws
import Derived.Shelf.Vars
import Derived.Test.YtlmahofogapkgaaGreatDoorRows
import Derived.Test.YtlmahofogapkgaaGreatDoorTie
import Derived.Test.YtlmahofogapkgaaGreatDoorCards
import Derived.LaidMore
import Derived.Stop.Joined
import Derived.Test.YtlmahofogapkgaaGreatDoorPkB5
set_option linter.unusedVariables false
set_option linter.unusedSimpArgs false
set_option linter.all false
set_option maxRecDepth 100000
set_option maxHeartbeats 8000000
namespace Go.Proofs.YtlmahofogapkgaaGreatDoor.X
open Go Go.RowKit K
theorem dW {sz : Nat} : ∀ {q : List (List D)}, (∀ r ∈ q, r.length = sz) → q.flatten.length = q.length * sz
  | [], _ => by simp
  | a :: q, h => by rw [List.flatten_cons, List.length_append, h a (List.mem_cons_self ..), dW (fun r hr => h r (List.mem_cons_of_mem _ hr)), List.length_cons, Nat.add_mul]; omega
theorem HRk {V : Vn} {H : Hp} {gp t0 n : Nat} {pre post : List (List D)} {mid : List XC} {e sz : Nat} {sg : Seg} (h : HR V H [⟨gp, t0, .rowk n pre mid post e sz⟩] sg) :
    ∃ b ua um uc jk ex, sg = [(b, .cells (ua ++ (um ++ (uc ++ jk))).toArray e (0, 0))] ∧ V gp t0 = some (some b, ex) ∧ n = pre.length + 1 + post.length ∧ rdL H pre.flatten ua ∧ rels V H mid um ∧ rdL H post.flatten uc ∧ (∀ r ∈ pre, r.length = sz) ∧ mid.length = sz ∧ (∀ r ∈ post, r.length = sz) ∧ jk.length = ex * sz ∧ n + ex ≤ maxLen ∧ 0 < sz := by
  obtain ⟨s1, s2, rfl, h1, rfl⟩ := h
  rcases h1 with ⟨b, ob, ex, rfl, h2, ua, um, uc, j, k0, k1, k2, k3, k4, k5, k6, rfl, k7, k8, k9⟩ | ⟨_, _, _, _, h3, _⟩
  · exact ⟨b, ua, um, uc, j, ex, rfl, h2, k0, k1, k2, k3, k4, k5, k6, k7, k8, k9⟩
  · cases h3
section
variable {P : Program} {pk : Pk} {T : Tb P} {Er : XE} {nx : Nat} {ops : Array Oper} {d : Option Tmp} {ty : TypeId} {pos : String} {af : Array Edge}
variable {gp t0 n e e' sz by_ : Nat} {pre post : List (List D)} {mid mid' : List XC}
theorem LS.iqk {t : TypeId} {o iv : Operand} {ki : IntKind} {jv : Int} {c m : Nat} (j : Nat) (ho : xev Er o = some (.a (.c (.l gp t0 sz 0 n c)))) (hi : xev Er iv = some (xv (.int ki jv))) (ht : T.bt.get t = some (.sl e sz by_)) (hj : jv = (j : Int)) (hlt : j < n) :
    LS P pk ops { dst := d, op := .indexAddr t o iv, type := ty, pos := pos, after := af, guard := none } Er [⟨gp, t0, .rowk m pre mid post e' sz⟩] nx nx (fun x fp' => x = .a (.c (.q gp t0 sz j 0)) ∧ fp' = [⟨gp, t0, .rowk m pre mid post e' sz⟩]) := by
  intro w0 N Q rest env own H V sg hl hV htp hf hd _ hh
  obtain ⟨v, h1, h2⟩ := hl.lks _ _ ho
  obtain ⟨w, h3, h4⟩ := hl.lks _ _ hi
  have := aO h4; subst this
  simp only [XV.rel, XA.rel, XC.rel] at h2
  obtain ⟨b, ex, h5, rfl⟩ := h2
  obtain ⟨z, hS⟩ := aW (BT.all_get T.ok ht)
  obtain ⟨b', ua, um, uc, jk, ex', _, h6, _⟩ := HRk hV
  rw [h5] at h6
  cases h6
  rw [Option.map_some, Nat.zero_mul] at h1
  refine TL.indexAddr j h1 h3 hj hlt hd (hh _ _ _ V H _ ⟨rfl, rfl⟩ ?_ hV htp (VX.refl _ _ _) (Le.refl _))
  simp only [XV.rel, XA.rel, XC.rel]
  exact ⟨b', _, h5, by rw [Nat.zero_add, Nat.add_zero]⟩
theorem LS.lk {tt : TypeId} {y : Operand} {ti : TI} {j o : Nat} {u : XV} (hj : j = pre.length) (hy : xev Er y = some (.a (.c (.q gp t0 sz j o)))) (ht : T.bt.get tt = some ti) (hn : (ti.agg || Nat.beq ti.n 1) = true) (hu : eA mid o ti.agg ti.n = some u) :
    LS P pk ops { dst := d, op := .load tt y, type := ty, pos := pos, after := af, guard := none } Er [⟨gp, t0, .rowk n pre mid post e sz⟩] nx nx (fun x fp' => x = u ∧ fp' = [⟨gp, t0, .rowk n pre mid post e sz⟩]) := by
  subst hj
  intro w0 N Q rest env own H V sg hl hV htp hf hd _ hh
  obtain ⟨v, h1, h2⟩ := hl.lks _ _ hy
  simp only [XV.rel, XA.rel, XC.rel] at h2
  obtain ⟨b, ex, h5, rfl⟩ := h2
  have hty := dt (BT.all_get T.ok ht)
  obtain ⟨b', ua, um, uc, jk, ex', rfl, h6, q0, q1, q2, q3, q4, q5, q6, q7⟩ := HRk hV
  rw [h5] at h6
  cases h6
  have ka : ua.length = pre.length * sz := by rw [← q1.len, dW q4]
  have hc : ∀ (q : Nat) (v : Value), um[q]? = some v → ((ua ++ (um ++ (uc ++ jk))).toArray.toList)[pre.length * sz + q]? = some v := fun q v hq => by
    rw [List.getElem?_append_right (by omega), ka, Nat.add_sub_cancel_left, List.getElem?_append_left (List.getElem?_eq_some_iff.1 hq).1]
    exact hq
  have fin : ∀ v, u.rel V H v → TL P w0 N Q ops rest (ao d v env) ([(b, .cells (ua ++ (um ++ (uc ++ jk))).toArray e (0, 0))] :: own) H := fun v hv => hh v u _ V H _ ⟨rfl, rfl⟩ hv hV htp (VX.refl _ _ _) (Le.refl _)
  cases ha : ti.agg with
  | true =>
    rw [ha] at hu hty
    simp only [eA] at hu
    split at hu
    · rename_i l hs
      cases hu
      obtain ⟨rfl, e1⟩ := fI hs
      rw [q2.len] at e1
      refine TL.load_ownA 0 0 ((um.drop o).take ti.n) h1 rfl rfl (ij fun k v hv => ?_) (by rw [List.length_take, List.length_drop]; omega) hd (fin _ ⟨_, rfl, by simpa using (q2.drop (n := o)).take (n := ti.n)⟩)
      rw [List.getElem?_take] at hv
      split at hv
      · rw [List.getElem?_drop] at hv
        have := hc (o + k) v hv
        rwa [← Nat.add_assoc] at this
      · cases hv
    · cases hu
  | false =>
    rw [ha] at hu hty hn
    have e1 : ti.n = 1 := Nat.eq_of_beq_eq_true (by simpa using hn)
    rw [e1] at hty
    simp only [eA] at hu
    split at hu
    · rename_i y hcs
      cases hu
      obtain ⟨v, e2, e3⟩ := q2.get o y (f9 hcs)
      exact TL.load_own 0 0 h1 rfl rfl (by rw [fb]; exact hc o v e2) hd (fin v e3)
    · cases hu
theorem LS.sk {tt : TypeId} {y z : Operand} {ti : TI} {j o : Nat} {u : XA} (hj : j = pre.length) (hy : xev Er y = some (.a (.c (.q gp t0 sz j o)))) (hz : xev Er z = some (.a u)) (hput : fG mid o u.cells = some mid') (ht : T.bt.get tt = some ti) (hn : u.cells.length = ti.n) (hb : Nat.ble (o + u.cells.length) sz = true) :
    LS P pk ops { dst := d, op := .store tt y z, type := ty, pos := pos, after := af, guard := none } Er [⟨gp, t0, .rowk n pre mid post e sz⟩] nx nx (fun x fp' => x = .u ∧ fp' = [⟨gp, t0, .rowk n pre mid' post e sz⟩]) := by
  subst hj
  intro w0 N Q rest env own H V sg hl hV htp hf hd _ hh
  obtain ⟨v, h1, h2⟩ := hl.lks _ _ hy
  obtain ⟨w, h3, h4⟩ := hl.lks _ _ hz
  simp only [XV.rel, XA.rel, XC.rel] at h2
  obtain ⟨b, ex, h5, rfl⟩ := h2
  have hty := dt (BT.all_get T.ok ht)
  have hcell := XA.cells_ok h4
  have hlen := hcell.len
  have hb := Nat.le_of_ble_eq_true hb
  obtain ⟨b', ua, um, uc, jk, ex', rfl, h6, q0, q1, q2, q3, q4, q5, q6, q7, q8, q9⟩ := HRk hV
  rw [h5] at h6
  cases h6
  have ka : ua.length = pre.length * sz := by rw [← q1.len, dW q4]
  have km : um.length = sz := by rw [← q2.len, q5]
  obtain ⟨p1, _⟩ := dk hput q2 hcell
  have p2 : (bS um.toArray o w.cells.toList).toList = um.take o ++ (w.cells.toList ++ um.drop (o + w.cells.toList.length)) := gk _ _ _ (by rw [← hlen]; simp only [List.size_toArray]; omega)
  have hput2 : bS (ua ++ (um ++ (uc ++ jk))).toArray (pre.length * sz + o) w.cells.toList = (ua ++ ((bS um.toArray o w.cells.toList).toList ++ (uc ++ jk))).toArray := by
    rw [← Array.toList_inj, gk _ _ _ (by rw [← hlen]; simp only [List.size_toArray, List.length_append]; omega), p2]
    simp only [List.take_append, List.drop_append, ← ka]
    rw [List.take_of_length_le (by omega), List.drop_of_length_le (by omega)]
    have e1 : ua.length + o - ua.length = o := by omega
    have e2 : ua.length + o + w.cells.toList.length - ua.length = o + w.cells.toList.length := by omega
    have e3 : o - um.length = 0 := by omega
    have e4 : o + w.cells.toList.length - um.length = 0 := by omega
    rw [e1, e2, e3, e4]
    simp
  refine TL.store 0 0 h1 h3 rfl rfl (vs := w.cells.toList) (by simp) (by rw [← hlen, hn]) hcell.ones (by rw [← hlen]; simp only [List.size_toArray, List.length_append]; omega) hput2 rfl hd ?_
  refine hh undef .u _ V H _ ⟨rfl, rfl⟩ rfl (HR.one (.inl ⟨_, _, ex, rfl, h5, ua, _, uc, jk, q0, q1, p1, q3, q4, ?_, q6, rfl, q7, q8, q9⟩)) ?_ (VX.refl _ _ _) (Le.refl _)
  · rw [p1.len, p2]
    simp only [List.length_append, List.length_take, List.length_drop]; omega
  · intro y hy' t hlt
    obtain rfl := List.mem_singleton.1 hy'
    exact htp _ (List.mem_singleton.2 rfl) t hlt
theorem LS.brk {t : TypeId} {ps : List (Nat × Operand)} (h1 : dY (xev Er) ps = some [(0, mid)]) (hti : T.bt.get t = some (.sl e sz by_)) (hb : (Nat.beq mid.length sz && Nat.ble sz 16777216) = true) :
    LS P pk ops { dst := d, op := .buildSlice t 1 ps.toArray, type := ty, pos := pos, after := af, guard := none } Er [] nx (nx + 1) (fun x fp' => x = .a (.c (.l nx 0 sz 0 1 1)) ∧ fp' = [⟨nx, 0, .rowk 1 [] mid [] e sz⟩]) := by
  intro w0 N Q rest env own H V sg hl hV htp hf hd _ hh
  simp only [Bool.and_eq_true] at hb
  obtain ⟨pv, h2, h3⟩ := cR hl.lks h1
  obtain ⟨z, hS⟩ := aW (BT.all_get T.ok hti)
  have hm := Nat.eq_of_beq_eq_true hb.1
  obtain rfl := HR0 hV
  match pv, h2, h3 with
  | [(k, us)], h2, ⟨⟨hk, hr⟩, _⟩ =>
    simp only at hk hr
    subst hk
    have hu : us.length = sz := by rw [← hr.len, hm]
    refine TL.flat (own' := own) (by simp) ?_
    refine TL.litF (hu := hS) [(0, us)] h2 (by rw [Nat.one_mul]; exact hb.2) (by simp [seqP, hu]) (r := us) (by simp) hd (fun g => ?_)
    obtain ⟨f1, f2, f3⟩ := bD (V := V) (H := H) (nx := nx) (g := g) (ex := 0) (o := .cells us.toArray e (0, 0)) (xo := .rowk 1 [] mid [] e sz) hf ⟨[], us, [], [], rfl, trivial, XC.monos (Vn.new_le _ (hf _ _ (Nat.le_refl _) (Nat.lt_succ_self _))) (Le.refl _) hr, trivial, by simp, hm, by simp, by simp, by simp, by have : maxLen = 9223372036854775807 := rfl; omega, hS.pos⟩
    exact hh _ _ _ _ H _ ⟨rfl, rfl⟩ (by
      simp only [XV.rel, XA.rel, XC.rel]
      exact ⟨some g, 0, Vn.new_at .., by simp⟩) f1 f2 f3 (Le.refl _)
theorem HRr_Row {V : Vn} {H : Hp} {rows : List (List D)} {sg : Seg} {b2 : Option Nat} {ex2 : Nat} (h : HR V H [⟨gp, t0, .row n rows e sz⟩] sg) (hv : V gp t0 = some (b2, ex2)) : ∃ us, Row e sz (.slice (b2.map fun b => ⟨b, 0 * sz, none⟩) n (n + ex2)) n us sg ∧ rdL H rows.flatten us ∧ n = rows.length ∧ ∀ r ∈ rows, r.length = sz := by
  rcases HRr h with ⟨b, us, jk, ex, rfl, h1, h2, h3, h4, h5, h6, h7⟩ | ⟨rfl, h1, rfl, rfl⟩
  · rw [h1] at hv
    cases hv
    have hlen : us.length = n * sz := by rw [← h3.len, dW h4, h2]
    exact ⟨us, ⟨hlen, .inr ⟨b, n + ex2, (us ++ jk).toArray, by rw [Nat.zero_mul]; rfl, rfl, Nat.le_add_right _ _, h6, by simp [hlen, h5, Nat.add_mul], by simp [← hlen]⟩⟩, h3, h2, h4⟩
  · rw [h1] at hv
    cases hv
    exact ⟨[], Row.nil e sz, trivial, rfl, by simp⟩
theorem HRk_Row {V : Vn} {H : Hp} {sg : Seg} {b2 : Option Nat} {ex2 : Nat} (h : HR V H [⟨gp, t0, .rowk n pre mid post e sz⟩] sg) (hv : V gp t0 = some (b2, ex2)) : ∃ ua um uc, Row e sz (.slice (b2.map fun b => ⟨b, 0 * sz, none⟩) n (n + ex2)) n (ua ++ (um ++ uc)) sg ∧ n = pre.length + 1 + post.length ∧ rdL H pre.flatten ua ∧ rels V H mid um ∧ rdL H post.flatten uc ∧ (∀ r ∈ pre, r.length = sz) ∧ mid.length = sz ∧ ∀ r ∈ post, r.length = sz := by
  obtain ⟨b, ua, um, uc, jk, ex, rfl, h1, q0, q1, q2, q3, q4, q5, q6, q7, q8, q9⟩ := HRk h
  rw [h1] at hv
  cases hv
  have hlen : (ua ++ (um ++ uc)).length = n * sz := by
    rw [List.length_append, List.length_append, ← q1.len, ← q2.len, ← q3.len, dW q4, dW q6, q5, q0, Nat.add_mul, Nat.add_mul]; omega
  refine ⟨ua, um, uc, ⟨hlen, .inr ⟨b, n + ex2, (ua ++ (um ++ (uc ++ jk))).toArray, by rw [Nat.zero_mul]; rfl, rfl, Nat.le_add_right _ _, q8, ?_, ?_⟩⟩, q0, q1, q2, q3, q4, q5, q6⟩
  · simp only [List.size_toArray, List.length_append] at hlen ⊢
    rw [q7, Nat.add_mul]; omega
  · show List.take (n * sz) (ua ++ (um ++ (uc ++ jk))) = _
    rw [show ua ++ (um ++ (uc ++ jk)) = (ua ++ (um ++ uc)) ++ jk by simp, ← hlen, List.take_left']
    rfl
theorem grown {V : Vn} {H : Hp} {xo xo' : XO} {r : XH} {sr : Seg} {us : List Value} {v' : Value} {seg' : Seg} {m : Nat} (hrow : Row e sz v' m us seg') (hm : 0 < m) (htp : Top V (⟨gp, t0, xo⟩ :: r)) (hr : HR V H r sr) (hne : ∀ b ∈ r, b.g ≠ gp)
    (hx : ∀ V' ex j, VLe V V' → j.length = ex * sz → m + ex ≤ maxLen → xo'.rel V' H ex (.cells (us ++ j).toArray e (0, 0))) :
    ∃ V', (XV.a (.c (.l gp (t0 + 1) sz 0 m m))).rel V' H v' ∧ HR V' H (⟨gp, t0 + 1, xo'⟩ :: r) (seg' ++ sr) ∧ Top V' (⟨gp, t0 + 1, xo'⟩ :: r) ∧ VX V V' (⟨gp, t0, xo⟩ :: r) nx nx := by
  have hnone := htp _ (List.mem_cons_self ..) (t0 + 1) (Nat.lt_succ_self _)
  simp only at hnone
  obtain ⟨hlen, ⟨_, h0, _⟩ | ⟨g2, cap, cur, rfl, rfl, q1, q2, q3, q4⟩⟩ := hrow
  · omega
  · have hle : VLe V (V.new gp (t0 + 1) (some g2, cap - m)) := Vn.new_le _ hnone
    refine ⟨V.new gp (t0 + 1) (some g2, cap - m), ?_, ⟨_, _, rfl, .inl ⟨g2, _, _, rfl, Vn.new_at .., ?_⟩, hr.mono hle (Le.refl _)⟩, ?_, ⟨hle, ?_⟩⟩
    · simp only [XV.rel, XA.rel, XC.rel]
      exact ⟨some g2, _, Vn.new_at .., by rw [Nat.zero_mul, show m + (cap - m) = cap by omega]; rfl⟩
    · have := hx (V.new gp (t0 + 1) (some g2, cap - m)) (cap - m) (cur.toList.drop (m * sz)) hle (by rw [List.length_drop, Array.length_toList, q3, Nat.sub_mul]) (by omega)
      rwa [← q4, List.take_append_drop] at this
    · intro y hy t hlt
      rcases List.mem_cons.1 hy with rfl | hy
      · rw [Vn.new_ne]
        · exact htp _ (List.mem_cons_self ..) t (by simp only at hlt ⊢; omega)
        · rintro ⟨_, h⟩; simp only at hlt; omega
      · rw [Vn.new_ne]
        · exact htp _ (List.mem_cons_of_mem _ hy) t hlt
        · rintro ⟨h, _⟩; exact hne y hy h
    · intro h t k1 k2
      by_cases e9 : h = gp ∧ t = t0 + 1
      · exact .inr (by simp [aa, e9.1])
      · rw [Vn.new_ne _ _ e9] at k2; exact absurd k1 k2
theorem LS.apk {t : TypeId} {o y : Operand} {rows : List (List D)} {g2 t2 : Nat} (ho : xev Er o = some (.a (.c (.l gp t0 sz 0 n n)))) (hy : xev Er y = some (.a (.c (.l g2 t2 sz 0 1 1)))) (ht : T.bt.get t = some (.sl e sz by_)) (hne : Nat.beq g2 gp = false) (h1 : n + 1 ≤ 9223372036854775807) (h2 : (n + 1) * by_ ≤ 140737488355328) :
    LS P pk ops { dst := d, op := .call { callee := .builtin .append, args := [o, y].toArray, argTypes := [t, t].toArray }, type := ty, pos := pos, after := af, guard := none } Er [⟨gp, t0, .row n rows e sz⟩, ⟨g2, t2, .rowk 1 [] mid [] e sz⟩] nx nx (fun x fp' => x = .a (.c (.l gp (t0 + 1) sz 0 (n + 1) (n + 1))) ∧ fp' = [⟨gp, t0 + 1, .rowk (n + 1) rows mid [] e sz⟩, ⟨g2, t2, .rowk 1 [] mid [] e sz⟩]) := by
  intro w0 N Q rest env own H V sg hl hV htp hf hd _ hh
  obtain ⟨v, a1, a2⟩ := hl.lks _ _ ho
  obtain ⟨w, b1, b2⟩ := hl.lks _ _ hy
  simp only [XV.rel, XA.rel, XC.rel] at a2 b2
  obtain ⟨bo, ex, hv, rfl⟩ := a2
  obtain ⟨bk, ek, hvk, rfl⟩ := b2
  obtain ⟨z, hS⟩ := aW (BT.all_get T.ok ht)
  obtain ⟨s1, s2, rfl, hr1, hr2⟩ := hV
  obtain ⟨us, hRow, r1, r2, r3⟩ := HRr_Row (sg := s1) ⟨s1, [], by simp, hr1, rfl⟩ hv
  obtain ⟨b', ua, um, uc, jk, ex', rfl, h6, q0, q1, q2, q3, q4, q5, q6, q7, q8, q9⟩ := HRk hr2
  rw [h6] at hvk
  cases hvk
  have hua : ua = [] := by have := q1.len; simpa using this.symm
  have huc : uc = [] := by have := q3.len; simpa using this.symm
  subst hua huc
  simp only [List.nil_append] at hr2 ⊢
  refine TL.flat (own' := s1 :: [(b', .cells (um ++ jk).toArray e (0, 0))] :: own) (by simp) ?_
  rw [Option.map_some, Nat.zero_mul] at b1
  have hsrc : Src w0 H (s1 :: [(b', .cells (um ++ jk).toArray e (0, 0))] :: own) (some ⟨b', 0, none⟩) sz 1 um :=
    Src.ofOwn 1 0 rfl rfl (by rw [← q2.len, q5, Nat.one_mul]) q2.ones (ij fun k v hk => by
      rw [Nat.zero_add]
      show (um ++ jk)[k]? = some v
      rw [List.getElem?_append_left (List.getElem?_eq_some_iff.1 hk).1]; exact hk)
  refine TL.append 0 (hU := hS) a1 b1 rfl hRow hsrc h1 h2 hd (fun v' seg' hrow' => ?_)
  obtain ⟨V', g1, g2', g3, g4⟩ := grown (gp := gp) (t0 := t0) (nx := nx) (xo := .row n rows e sz) (xo' := .rowk (n + 1) rows mid [] e sz) hrow' (by omega) htp hr2 (fun b hb => by
    rw [List.mem_singleton.1 hb]; exact Nat.ne_of_beq_eq_false hne) (fun V' ex9 j9 hle hj hm => ⟨us, um, [], j9, by rw [r2]; rfl, r1, XC.monos hle (Le.refl _) q2, trivial, r3, q5, by simp, by simp, hj, hm, q9⟩)
  exact TL.flat (own' := (seg' ++ [(b', .cells (um ++ jk).toArray e (0, 0))]) :: own) (by simp) (hh _ _ _ V' H _ ⟨rfl, rfl⟩ g1 g2' g3 g4 (Le.refl _))
theorem LS.apd {t : TypeId} {o y : Operand} {rows' : List (List D)} {m' : Nat} (ho : xev Er o = some (.a (.c (.l gp t0 sz 0 n n)))) (hy : xev Er y = some (.a (.c (.d (.s rows'))))) (ht : T.bt.get t = some (.sl e sz by_)) (hm : m' = rows'.length) (hl' : ∀ r ∈ rows', r.length = sz) (h1 : n + m' ≤ 9223372036854775807) (h2 : (n + m') * by_ ≤ 140737488355328) :
    LS P pk ops { dst := d, op := .call { callee := .builtin .append, args := [o, y].toArray, argTypes := [t, t].toArray }, type := ty, pos := pos, after := af, guard := none } Er [⟨gp, t0, .rowk n pre mid post e sz⟩] nx nx (fun x fp' => x = .a (.c (.l gp (t0 + 1) sz 0 (n + m') (n + m'))) ∧ fp' = [⟨gp, t0 + 1, .rowk (n + m') pre mid (post ++ rows') e sz⟩]) := by
  subst hm
  intro w0 N Q rest env own H V sg hl hV htp hf hd _ hh
  obtain ⟨v, a1, a2⟩ := hl.lks _ _ ho
  obtain ⟨w, b1, b2⟩ := hl.lks _ _ hy
  simp only [XV.rel, XA.rel, XC.rel] at a2
  simp only [XV.rel, XA.rel, XC.rel, rd] at b2
  obtain ⟨bo, ex, hv, rfl⟩ := a2
  obtain ⟨A, kc, sz', rfl, _, _, hr⟩ := b2
  obtain ⟨z, hS⟩ := aW (BT.all_get T.ok ht)
  obtain ⟨ua, um, uc, hRow, q0, q1, q2, q3, q4, q5, q6⟩ := HRk_Row hV hv
  obtain ⟨news, hs, hn⟩ : ∃ news, (∀ w0 own, Src w0 H own A sz rows'.length news) ∧ rdL H rows'.flatten news := by
    rcases hr with rfl | ⟨b, o, rfl, hr⟩
    · exact ⟨[], fun _ _ => Src.nil, trivial⟩
    · obtain ⟨vs, h1, h2, h3, h4⟩ := hr.cells
      have hl : vs.length = rows'.length * sz := by
        cases rows' with
        | nil => simpa using h3
        | cons r rs => rw [h3, ← h4 r (List.mem_cons_self ..), hl' r (List.mem_cons_self ..)]
      exact ⟨vs, fun _ _ => Src.imm hl h2.ones h1, h2⟩
  refine TL.append 0 (hU := hS) a1 b1 rfl hRow (hs _ _) h1 h2 hd (fun v' seg' hrow' => ?_)
  obtain ⟨V', g1, g2', g3, g4⟩ := grown (gp := gp) (t0 := t0) (nx := nx) (r := []) (sr := []) (xo := .rowk n pre mid post e sz) (xo' := .rowk (n + rows'.length) pre mid (post ++ rows') e sz) hrow' (by omega) htp rfl (by simp) (fun V' ex9 j9 hle hj hm => ⟨ua, um, uc ++ news, j9, by rw [q0, List.length_append]; omega, q1, XC.monos hle (Le.refl _) q2, by rw [List.flatten_append]; exact rdL.append q3 hn, q4, q5, fun r hr' => by
    rcases List.mem_append.1 hr' with h | h
    · exact q6 r h
    · exact hl' r h, by simp, hj, hm, hS.pos⟩)
  rw [List.append_nil] at g2'
  exact hh _ _ _ V' H _ ⟨rfl, rfl⟩ g1 g2' g3 g4 (Le.refl _)
end
section
variable {P : Program} {x : Cx P} {T : Tb P} {k : List Fr} {E Er : XE} {hp hp' rest : XH} {nx i : Nat} {ops : List Oper} {dm : Option (List Rc)} {l : List (Nat × Oper)} {d : Tmp} {dd : Option Tmp} {ty : TypeId} {pos : String} {af : Array Edge} {g : Option (Nat × Bool)}
variable {t : TypeId} {o iv y z : Operand} {ki : IntKind} {jv : Int} {e sz by_ gp t0 n c e' m j q : Nat} {pre post : List (List D)} {mid mid' : List XC} {ti : TI}
theorem Qk (j : Nat) (ho : xev Er o = some (.a (.c (.l gp t0 sz 0 n c)))) (hEr : vis dm ops { dst := some d, op := .indexAddr t o iv, type := ty, pos := pos, after := af, guard := g } E = Er) (hi : xev Er iv = some (xv (.int ki jv))) (hg : an hp gp = some ⟨gp, t0, .rowk m pre mid post e' sz⟩) (ht : T.bt.get t = some (.sl e sz by_)) (hb : ak ops Er g = some true ∧ okD x.N (some d) = true) (hj : jv = (j : Int)) (hlt : j < n)
    (hk : (MS.r ops (push dm ⟨i, [gp], false, false⟩) l k ⟨(d, .a (.c (.q gp t0 sz j 0))) :: E, hp, nx⟩).ok x) (hdk : DkM dm ops ⟨i, [gp], false, false⟩ := by first | exact trivial | (refine DK.mk ?_; decide +kernel)) : (MS.r ops dm ((i, { dst := some d, op := .indexAddr t o iv, type := ty, pos := pos, after := af, guard := g }) :: l) k ⟨E, hp, nx⟩).ok x :=
  MS.rd1 hg hEr hb (LS.iqk (T := T) j ho hi ht hj hlt) hdk hk
theorem Lkk {u : XV} (hj : j = pre.length) (hEr : vis dm ops { dst := some d, op := .load t y, type := ty, pos := pos, after := af, guard := g } E = Er) (hy : xev Er y = some (.a (.c (.q gp t0 sz j q)))) (hg : an hp gp = some ⟨gp, t0, .rowk m pre mid post e sz⟩) (ht : T.bt.get t = some ti) (hb : ak ops Er g = some true ∧ okD x.N (some d) = true) (hn : (ti.agg || Nat.beq ti.n 1) = true) (hu : eA mid q ti.agg ti.n = some u)
    (hk : (MS.r ops (push dm ⟨i, [gp], false, false⟩) l k ⟨(d, u) :: E, hp, nx⟩).ok x) (hdk : DkM dm ops ⟨i, [gp], false, false⟩ := by first | exact trivial | (refine DK.mk ?_; decide +kernel)) : (MS.r ops dm ((i, { dst := some d, op := .load t y, type := ty, pos := pos, after := af, guard := g }) :: l) k ⟨E, hp, nx⟩).ok x :=
  MS.rd1 hg hEr hb (LS.lk (T := T) hj hy ht hn hu) hdk hk
theorem Skk {u : XA} (hj : j = pre.length) (hEr : vis dm ops { dst := dd, op := .store t y z, type := ty, pos := pos, after := af, guard := g } E = Er) (hy : xev Er y = some (.a (.c (.q gp t0 sz j q)))) (hz : xev Er z = some (.a u)) (hput : fG mid q u.cells = some mid') (hg : an hp gp = some ⟨gp, t0, .rowk m pre mid post e sz⟩) (hset' : bc hp gp t0 (.rowk m pre mid' post e sz) = some hp') (ht : T.bt.get t = some ti) (hb : ak ops Er g = some true ∧ okD x.N dd = true) (hn : u.cells.length = ti.n) (hq : Nat.ble (q + u.cells.length) sz = true)
    (hk : (MS.r ops (push dm ⟨i, [gp], true, false⟩) l k ⟨cj dd .u E, hp', nx⟩).ok x) (hdk : DkM dm ops ⟨i, [gp], true, false⟩ := by first | exact trivial | (refine DK.mk ?_; decide +kernel)) : (MS.r ops dm ((i, { dst := dd, op := .store t y z, type := ty, pos := pos, after := af, guard := g }) :: l) k ⟨E, hp, nx⟩).ok x :=
  MS.wr1 hg hset' hEr hb (LS.sk (T := T) hj hy hz hput ht hn hq) hdk hk
theorem Adk {rows' : List (List D)} {m' : Nat} (hm : m' = rows'.length) (hl : ∀ r ∈ rows', r.length = sz) (hEr : vis dm ops { dst := some d, op := .call { callee := .builtin .append, args := [o, y].toArray, argTypes := [t, t].toArray }, type := ty, pos := pos, after := af, guard := g } E = Er) (ho : xev Er o = some (.a (.c (.l gp t0 sz 0 n n)))) (hy : xev Er y = some (.a (.c (.d (.s rows'))))) (hg : an hp gp = some ⟨gp, t0, .rowk n pre mid post e sz⟩) (hset' : bc hp gp (t0 + 1) (.rowk (n + m') pre mid (post ++ rows') e sz) = some hp') (ht : T.bt.get t = some (.sl e sz by_)) (hb : ak ops Er g = some true ∧ okD x.N (some d) = true) (h1 : n + m' ≤ 9223372036854775807) (h2 : (n + m') * by_ ≤ 140737488355328)
    (hk : (MS.r ops (push dm ⟨i, [gp], true, false⟩) l k ⟨(d, .a (.c (.l gp (t0 + 1) sz 0 (n + m') (n + m')))) :: E, hp', nx⟩).ok x) (hdk : DkM dm ops ⟨i, [gp], true, false⟩ := by first | exact trivial | (refine DK.mk ?_; decide +kernel)) : (MS.r ops dm ((i, { dst := some d, op := .call { callee := .builtin .append, args := [o, y].toArray, argTypes := [t, t].toArray }, type := ty, pos := pos, after := af, guard := g }) :: l) k ⟨E, hp, nx⟩).ok x :=
  MS.wr1 hg hset' hEr hb (LS.apd (T := T) ho hy ht hm hl h1 h2) hdk hk
theorem Bkk {ps : List (Nat × Operand)} (hEr : vis dm ops { dst := some d, op := .buildSlice t 1 ps.toArray, type := ty, pos := pos, after := af, guard := g } E = Er) (h1 : dY (xev Er) ps = some [(0, mid)]) (ht : T.bt.get t = some (.sl e sz by_)) (hbl : (Nat.beq mid.length sz && Nat.ble sz 16777216) = true) (hb : ak ops Er g = some true ∧ okD x.N (some d) = true)
    (hk : (MS.r ops (push dm ⟨i, [nx], true, false⟩) l k ⟨(d, .a (.c (.l nx 0 sz 0 1 1))) :: E, ⟨nx, 0, .rowk 1 [] mid [] e sz⟩ :: hp, nx + 1⟩).ok x) (hdk : DkM dm ops ⟨i, [nx], true, false⟩ := by first | exact trivial | (refine DK.mk ?_; decide +kernel)) : (MS.r ops dm ((i, { dst := some d, op := .buildSlice t 1 ps.toArray, type := ty, pos := pos, after := af, guard := g }) :: l) k ⟨E, hp, nx⟩).ok x := by
  subst hEr
  have e0 : aa ([] : XH) ++ List.range' nx (nx + 1 - nx) = [nx] := by simp [aa]
  refine MS.op (fp := []) (rest := hp) true false hb.2 (.refl _) (Nat.le_succ _) (LS.yes (o := { dst := some d, op := .buildSlice t 1 ps.toArray, type := ty, pos := pos, after := af, guard := g }) hb.1 (LS.brk (T := T) h1 ht hbl)) (by rw [e0]; exact hdk) (fun _ => ⟨_, _, ⟨rfl, rfl⟩, fun _ _ h => h⟩) (fun h => by cases h) ?_
  rintro q fp' ⟨rfl, rfl⟩
  refine ⟨fun b' hb' => .inr ?_, by simp [aa], fun h => (by cases h), _, .refl _, ?_⟩
  · obtain rfl := List.mem_singleton.1 hb'
    exact ⟨Nat.le_refl _, Nat.lt_succ_self _⟩
  · rw [e0]; exact hk
theorem Akk {rows : List (List D)} {g2 t2 : Nat} (hEr : vis dm ops { dst := some d, op := .call { callee := .builtin .append, args := [o, y].toArray, argTypes := [t, t].toArray }, type := ty, pos := pos, after := af, guard := g } E = Er) (ho : xev Er o = some (.a (.c (.l gp t0 sz 0 n n)))) (hy : xev Er y = some (.a (.c (.l g2 t2 sz 0 1 1)))) (hpk : dC [gp, g2] hp = some ([⟨gp, t0, .row n rows e sz⟩, ⟨g2, t2, .rowk 1 [] mid [] e sz⟩], rest)) (ht : T.bt.get t = some (.sl e sz by_)) (hne : Nat.beq g2 gp = false) (hb : ak ops Er g = some true ∧ okD x.N (some d) = true) (h1 : n + 1 ≤ 9223372036854775807) (h2 : (n + 1) * by_ ≤ 140737488355328)
    (hk : (MS.r ops (push dm ⟨i, [gp, g2], true, false⟩) l k ⟨(d, .a (.c (.l gp (t0 + 1) sz 0 (n + 1) (n + 1)))) :: E, ⟨gp, t0 + 1, .rowk (n + 1) rows mid [] e sz⟩ :: ⟨g2, t2, .rowk 1 [] mid [] e sz⟩ :: rest, nx⟩).ok x) (hdk : DkM dm ops ⟨i, [gp, g2], true, false⟩ := by first | exact trivial | (refine DK.mk ?_; decide +kernel)) : (MS.r ops dm ((i, { dst := some d, op := .call { callee := .builtin .append, args := [o, y].toArray, argTypes := [t, t].toArray }, type := ty, pos := pos, after := af, guard := g }) :: l) k ⟨E, hp, nx⟩).ok x := by
  subst hEr
  have e0 : aa [(⟨gp, t0, .row n rows e sz⟩ : XB), ⟨g2, t2, .rowk 1 [] mid [] e sz⟩] ++ List.range' nx (nx - nx) = [gp, g2] := by simp [aa]
  refine MS.op (fp := [⟨gp, t0, .row n rows e sz⟩, ⟨g2, t2, .rowk 1 [] mid [] e sz⟩]) (rest := rest) true false hb.2 (dZ hpk) (Nat.le_refl _) (LS.yes (o := { dst := some d, op := .call { callee := .builtin .append, args := [o, y].toArray, argTypes := [t, t].toArray }, type := ty, pos := pos, after := af, guard := g }) hb.1 (LS.apk (T := T) ho hy ht hne h1 h2)) (by rw [e0]; exact hdk) (fun _ => ⟨_, _, ⟨rfl, rfl⟩, fun _ _ h => h⟩) (fun h => by cases h) ?_
  rintro q fp' ⟨rfl, rfl⟩
  refine ⟨by simp [aa], ?_, fun h => (by cases h), _, .refl _, ?_⟩
  · simp only [aa, List.map_cons, List.map_nil, List.nodup_cons, List.mem_singleton, List.not_mem_nil, not_false_iff, List.nodup_nil, and_true]
    exact fun h => Nat.ne_of_beq_eq_false hne h.symm
  · rw [e0]; exact hk
theorem HR.krow {V : Vn} {H : Hp} {g t e sz n : Nat} {c : List XC} {ds : List D} (hds : eu c = some ds) : ∀ {hp hp' : XH} {sg : Seg}, an hp g = some ⟨g, t, .rowk n pre c post e sz⟩ → bc hp g t (.row n (pre ++ ds :: post) e sz) = some hp' → HR V H hp sg → HR V H hp' sg ∧ hp'.map (fun b => (b.g, b.t)) = hp.map fun b => (b.g, b.t)
  | [], _, _, h, _, _ => by cases h
  | ⟨g', t', o'⟩ :: r, hp', sg, h, hst, ⟨s1, s2, h0, h1, h2⟩ => by
    simp only [an] at h
    simp only [bc] at hst
    cases hb : Nat.beq g' g with
    | true =>
      rw [hb] at h hst
      simp only [cond_true, Option.some.injEq, XB.mk.injEq] at h hst
      obtain ⟨rfl, rfl, rfl⟩ := h
      subst hst
      rcases h1 with ⟨b, ob, ex, k1, k2, ua, um, uc, j, q0, q1, q2, q3, q4, q5, q6, rfl, q7, q8, q9⟩ | ⟨_, _, _, _, k3, _⟩
      · have hd := bO hds q2
        refine ⟨⟨s1, s2, h0, .inl ⟨b, _, ex, k1, k2, ua ++ (um ++ uc), j, by rw [q0, List.length_append, List.length_cons]; omega, ?_, fun r hr => ?_, by simp, q7, q8, q9⟩, h2⟩, rfl⟩
        · rw [List.flatten_append, List.flatten_cons]
          exact rdL.append q1 (rdL.append hd q3)
        · rcases List.mem_append.1 hr with h | h
          · exact q4 r h
          · rcases List.mem_cons.1 h with rfl | h
            · rw [hd.len, ← q2.len, q5]
            · exact q6 r h
      · cases k3
    | false =>
      rw [hb] at h hst
      simp only [cond_false] at h hst
      split at hst
      · rename_i l hl
        cases hst
        obtain ⟨k1, k2⟩ := HR.krow hds h hl h2
        exact ⟨⟨s1, s2, h0, h1, k1⟩, by simp only [List.map_cons, k2]⟩
      · cases hst
theorem SRto.kr {g t n : Nat} {c : List XC} {ds : List D} (g0 : Nat) (hg : an hp g0 = some ⟨g, t, .rowk n pre c post e sz⟩) (hgg : g = g0) (hds : eu c = some ds) (hset' : bc hp g0 t (.row n (pre ++ ds :: post) e sz) = some hp') : SRto ⟨E, hp, nx⟩ ⟨E, hp', nx⟩ := fun B V H sg env hs => by
  subst hgg
  obtain ⟨k1, k2⟩ := HR.krow hds hg hset' hs.hr
  exact ⟨V, hs.same k1 k2⟩
theorem LS.addw {pk : Pk} {ops : Array Oper} {d : Option Tmp} {tx t' : TypeId} {m n : Int} (hy : xev Er y = some (xv (.int ki m))) (hz : xev Er z = some (xv (.int ki n))) :
    LS P pk ops { dst := d, op := .binOp .add tx y z t', type := ty, pos := pos, after := af, guard := none } Er [] nx nx (fun x fp' => x = xv (.int ki (ki.wrap (m + n))) ∧ fp' = []) := by
  intro w0 N Q rest env own H V sg hl hV htp hf hd _ hh
  obtain ⟨v, h1, h2⟩ := hl.lks _ _ hy
  have := aO h2; subst this
  obtain ⟨w, h3, h4⟩ := hl.lks _ _ hz
  have := aO h4; subst this
  exact TL.addW h1 h3 hd (hh _ _ _ V H _ ⟨rfl, rfl⟩ (by simp only [XV.rel, XA.rel, XC.rel, rd]; exact ⟨trivial, rfl⟩) hV htp (VX.refl _ _ _) (Le.refl _))
theorem Aw {tx t' : TypeId} {m n : Int} (hy : xev Er y = some (xv (.int ki m))) (hz : xev Er z = some (xv (.int ki n))) (hEr : vis dm ops { dst := some d, op := .binOp .add tx y z t', type := ty, pos := pos, after := af, guard := g } E = Er) (hb : ak ops Er g = some true ∧ okD x.N (some d) = true)
    (hk : (MS.r ops (push dm ⟨i, [], false, false⟩) l k ⟨(d, xv (.int ki (ki.wrap (m + n)))) :: E, hp, nx⟩).ok x) (hdk : DkM dm ops ⟨i, [], false, false⟩ := by first | exact trivial | (refine DK.mk ?_; decide +kernel)) : (MS.r ops dm ((i, { dst := some d, op := .binOp .add tx y z t', type := ty, pos := pos, after := af, guard := g }) :: l) k ⟨E, hp, nx⟩).ok x :=
  MS.val hEr hb (LS.addw hy hz) hdk hk
theorem mH {rows : List (List D)} {z ds : List D} (hz : ds.length = z.length) : il (rows ++ [z]) rows.length 0 ds = rows ++ [ds] := by
  have h : (rows ++ [z])[rows.length]? = some z := by rw [List.getElem?_append_right (Nat.le_refl _), Nat.sub_self]; rfl
  rw [il, h]
  show (rows ++ [z]).set rows.length _ = _
  rw [List.set_append_right _ _ (Nat.le_refl _), Nat.sub_self, List.take_zero, Nat.zero_add, hz, List.drop_length]
  simp
end
section
open Go Go.RowKit Go.Proofs K
variable {pk : Pk}
theorem nT (l : List Par) : ∀ r ∈ l.map paD, r.length = 5 := fun r hr => by
  obtain ⟨x, _, rfl⟩ := List.mem_map.1 hr; rfl
theorem gb_eight (l : List Gb) : ∀ r ∈ l.map gbD, r.length = 8 := fun r hr => by
  obtain ⟨x, _, rfl⟩ := List.mem_map.1 hr; rfl
abbrev fuK (a b : Nat) (f : Fu) : List XC := [.d (.c (.string f.nm)), .l a 1 5 0 f.ps.length f.ps.length, .d (.c (.int .i64 (tk f.res))), .d (.c (.string (tnm f.res))), .d (.c (.int .i64 (tn f.res))), .d (.s (tyS f.res)), .l b 1 11 0 f.body.length f.body.length, .d (.c (.bool f.fl)), .d (.c (.int .i64 f.x)), .d (.c (.int .u16 f.y))]
theorem iM (l : List Sm) : ∀ r ∈ l.map smD, r.length = 11 := fun r hr => by
  obtain ⟨x, _, rfl⟩ := List.mem_map.1 hr
  obtain ⟨k, nm, t, n, es, b, el, cs⟩ := x
  rw [aJ]; rfl
abbrev ownR (a b c : Nat) : XV := .a (.a [.l 0 1 3 0 a a, .l 1 1 8 0 b b, .l 2 1 10 0 c c])
abbrev ownB (p : Pg) (f : Fu) (pre post : List (List D)) : XH := [⟨0, 1, .row p.ts.length (p.ts.map tdD) 85 3⟩, ⟨1, 1, .row p.gs.length (p.gs.map gbD) 80 8⟩, ⟨2, 1, .rowk p.fs.length pre (fuK 3 4 f) post 71 10⟩, ⟨3, 1, .row f.ps.length (f.ps.map paD) 83 5⟩, ⟨4, 1, .row f.body.length (f.body.map smD) 66 11⟩]
theorem ref_Own {p : Pg} {B : Nat} (hok : p.ok B) (hB : B ≤ 900000000) {j : Nat} {f : Fu} (hf9 : p.fs[j]? = some f) : XM Tryz.prog pk 25 [xd (pgD p)] [] 0 5 (fun r hp' => ∃ _ : Unit, True ∧ r = ownR p.ts.length p.gs.length p.fs.length ∧ hp' = ownB p f ((p.fs.take j).map fuD) ((p.fs.drop (j + 1)).map fuD)) := by
  have htl := hok.tl
  have hgl := hok.gl
  have hfl := hok.fl
  have l1 : (p.ts.map tdD).length = p.ts.length := List.length_map ..
  have l2 : (p.gs.map gbD).length = p.gs.length := List.length_map ..
  have l3 : (p.fs.map fuD).length = p.fs.length := List.length_map ..
  refine XM.en Tryz.func25 Tryz.ntmps25 (fun w0 own H V v0 hf => ?_)
  refine G (T := T) 100001 rfl ?_
  refine (FzTo.bz 0 rfl).c ?_
  refine G (T := T) 8 rfl ?_
  refine Br (T := T) (lx := []) (rows := []) rfl rfl rfl rfl rfl ⟨rfl, rfl⟩ ?_
  refine G (T := T) 11 rfl ?_
  refine Ap (T := T) l2.symm (gb_eight _) rfl rfl rfl rfl rfl rfl ⟨rfl, rfl⟩ (by omega) (by omega) ?_
  rw [show 0 + p.gs.length = p.gs.length from Nat.zero_add _]
  refine G (T := T) 100002 rfl ?_
  refine (Nrh 3 0 85 3 rfl rfl rfl rfl rfl).c ?_
  refine (Nrh 3 2 71 10 rfl rfl rfl rfl rfl).c ?_
  refine G (T := T) 1000 rfl ?_
  refine Lq [1, 2, 3] (fun (q : Nat × List (List D)) r => (4, xi (q.1 : Nat)) :: r) (fun q => [⟨4, 1, .row q.1 q.2 85 3⟩, ⟨5, 0, .row 0 [] 71 10⟩, ⟨3, 0, .cells [.l 4 1 3 0 q.1 q.1, .l 2 1 8 0 p.gs.length p.gs.length, .l 5 0 10 0 0 0] 29⟩, ⟨2, 1, .row p.gs.length (p.gs.map gbD) 80 8⟩, ⟨1, 0, .cells [.z, .z, .z] 29⟩]) 6 (fun q => q.1 ≤ p.ts.length ∧ q.2 = (p.ts.take q.1).map tdD) (fun q => p.ts.length - q.1) (0, []) rfl ⟨Nat.zero_le _, rfl⟩ ?_
  rintro ⟨i, R⟩ ⟨hi, hR⟩; dsimp only at hi hR ⊢
  refine G (T := T) 1000 rfl ?_
  refine If rfl (fun h => ?_) (fun h => ?_)
  · have hil := of_decide_eq_true h; rw [l1] at hil
    obtain ⟨y, hy⟩ := ah (l := p.ts) (j := i) (by omega)
    obtain ⟨y1, y2, y3⟩ := hok.t y (List.mem_of_getElem? hy)
    have l4 : (y.fs.map paD).length = y.fs.length := List.length_map ..
    refine G (T := T) 1000 rfl ?_
    refine Ix (T := T) i (ab (f := tdD) hy) rfl rfl rfl rfl ⟨rfl, rfl⟩ rfl rfl ?_
    refine G (T := T) 25 rfl ?_
    refine Br (T := T) (lx := []) (rows := []) rfl rfl rfl rfl rfl ⟨rfl, rfl⟩ ?_
    refine G (T := T) 28 rfl ?_
    refine Ap (T := T) l4.symm (nT _) rfl rfl rfl rfl rfl rfl ⟨rfl, rfl⟩ (by omega) (by omega) ?_
    refine G (T := T) 30 rfl ?_
    refine Zr 7 rfl ?_
    refine G (T := T) 1000 rfl ?_
    exact Nq (i + 1, R ++ [tdD y]) ⟨by dsimp only; omega, by dsimp only; rw [hR, List.take_succ, hy, List.map_append]; rfl⟩ (by show _ - (i + 1) < _ - i; omega)
  have hie : i = p.ts.length := by have := of_decide_eq_false h; rw [l1] at this; omega
  rw [List.take_of_length_le (by omega)] at hR
  subst hR
  refine G (T := T) 1000 rfl ?_
  refine Lq [1, 2, 3] (fun (q : Nat × List (List D) × Option (List (List D))) r => (6, xi (q.1 : Nat)) :: r) (fun q => (match q.2.2 with
    | none => [⟨5, 1, .row q.1 q.2.1 71 10⟩]
    | some post => [⟨5, 1, .rowk q.1 q.2.1 (fuK 6 7 f) post 71 10⟩, ⟨6, 1, .row f.ps.length (f.ps.map paD) 83 5⟩, ⟨7, 1, .row f.body.length (f.body.map smD) 66 11⟩]) ++ [⟨4, 1, .row p.ts.length (p.ts.map tdD) 85 3⟩, ⟨3, 0, .cells [.l 4 1 3 0 p.ts.length p.ts.length, .l 2 1 8 0 p.gs.length p.gs.length, .l 5 1 10 0 q.1 q.1] 29⟩, ⟨2, 1, .row p.gs.length (p.gs.map gbD) 80 8⟩, ⟨1, 0, .cells [.z, .z, .z] 29⟩]) 8 (fun q => q.1 ≤ p.fs.length ∧ ((q.1 ≤ j ∧ q.2.1 = (p.fs.take q.1).map fuD ∧ q.2.2 = none) ∨ (j < q.1 ∧ q.2.1 = (p.fs.take j).map fuD ∧ q.2.2 = some (((p.fs.take q.1).drop (j + 1)).map fuD)))) (fun q => p.fs.length - q.1) (0, [], none) rfl ⟨Nat.zero_le _, .inl ⟨Nat.zero_le _, rfl, rfl⟩⟩ ?_ (by subst hie; exact ⟨⟨_, _, rfl, rfl⟩, rfl, rfl⟩)
  rintro ⟨i2, R, ph⟩ ⟨hi2, hph⟩; dsimp only at hi2 hph ⊢
  rcases hph with ⟨hle, rfl, rfl⟩ | ⟨hlt, rfl, rfl⟩
  · dsimp only
    refine G (T := T) 1000 rfl ?_
    refine If rfl (fun h => ?_) (fun h => ?_)
    · have hil := of_decide_eq_true h; rw [l3] at hil
      obtain ⟨y, hy⟩ := ah (l := p.fs) (j := i2) (by omega)
      obtain ⟨y1, y2, y3, y4, y5, y6, y7, y8, y9⟩ := hok.f y (List.mem_of_getElem? hy)
      have l4 : (y.ps.map paD).length = y.ps.length := List.length_map ..
      have l5 : (y.body.map smD).length = y.body.length := List.length_map ..
      have l6 := Sm.len_le y.body
      refine G (T := T) 1000 rfl ?_
      refine Ix (T := T) i2 (ab (f := fuD) hy) rfl rfl rfl rfl ⟨rfl, rfl⟩ rfl rfl ?_
      refine G (T := T) 48 rfl ?_
      refine Br (T := T) (lx := []) (rows := []) rfl rfl rfl rfl rfl ⟨rfl, rfl⟩ ?_
      refine G (T := T) 51 rfl ?_
      refine Ap (T := T) l4.symm (nT _) rfl rfl rfl rfl rfl rfl ⟨rfl, rfl⟩ (by omega) (by omega) ?_
      rw [show 0 + y.ps.length = y.ps.length from Nat.zero_add _]
      refine G (T := T) 53 rfl ?_
      refine Br (T := T) (lx := []) (rows := []) rfl rfl rfl rfl rfl ⟨rfl, rfl⟩ ?_
      refine G (T := T) 56 rfl ?_
      refine Ap (T := T) l5.symm (iM _) rfl rfl rfl rfl rfl rfl ⟨rfl, rfl⟩ (by omega) (by omega) ?_
      rw [show 0 + y.body.length = y.body.length from Nat.zero_add _]
      by_cases hij : i2 = j
      · subst hij
        rw [hf9] at hy; cases hy
        refine G (T := T) 61 rfl ?_
        refine Bkk (T := T) rfl rfl rfl rfl ⟨rfl, rfl⟩ ?_
        refine G (T := T) 62 rfl ?_
        refine Akk (T := T) rfl rfl rfl rfl rfl rfl ⟨rfl, rfl⟩ (by omega) (by omega) ?_
        refine G (T := T) 1000 rfl ?_
        refine Nqn (fun g => bif Nat.beq g 6 then 9 else bif Nat.beq g 7 then 10 else g) (i2 + 1, (p.fs.take i2).map fuD, some (((p.fs.take (i2 + 1)).drop (i2 + 1)).map fuD)) ⟨by dsimp only; omega, .inr ⟨Nat.lt_succ_self _, rfl, rfl⟩⟩ (by show _ - (i2 + 1) < _ - i2; omega) ?_
        rw [show (p.fs.take (i2 + 1)).drop (i2 + 1) = [] from List.drop_of_length_le (by rw [List.length_take]; omega)]
        exact ⟨⟨_, _, rfl, rfl⟩, rfl, rfl⟩
      · refine G (T := T) 58 rfl ?_
        refine Zr 9 rfl ?_
        refine Zr 10 rfl ?_
        refine G (T := T) 1000 rfl ?_
        exact Nq (i2 + 1, (p.fs.take i2).map fuD ++ [fuD y], none) ⟨by dsimp only; omega, .inl ⟨by dsimp only; omega, by dsimp only; rw [List.take_succ, hy, List.map_append]; rfl, rfl⟩⟩ (by show _ - (i2 + 1) < _ - i2; omega)
    · have := of_decide_eq_false h; rw [l3] at this
      have := (List.getElem?_eq_some_iff.1 hf9).1
      omega
  · dsimp only
    refine G (T := T) 1000 rfl ?_
    refine If rfl (fun h => ?_) (fun h => ?_)
    · have hil := of_decide_eq_true h; rw [l3] at hil
      obtain ⟨y, hy⟩ := ah (l := p.fs) (j := i2) (by omega)
      obtain ⟨y1, y2, y3, y4, y5, y6, y7, y8, y9⟩ := hok.f y (List.mem_of_getElem? hy)
      have l4 : (y.ps.map paD).length = y.ps.length := List.length_map ..
      have l5 : (y.body.map smD).length = y.body.length := List.length_map ..
      have l6 := Sm.len_le y.body
      refine G (T := T) 1000 rfl ?_
      refine Ix (T := T) i2 (ab (f := fuD) hy) rfl rfl rfl rfl ⟨rfl, rfl⟩ rfl rfl ?_
      refine G (T := T) 48 rfl ?_
      refine Br (T := T) (lx := []) (rows := []) rfl rfl rfl rfl rfl ⟨rfl, rfl⟩ ?_
      refine G (T := T) 51 rfl ?_
      refine Ap (T := T) l4.symm (nT _) rfl rfl rfl rfl rfl rfl ⟨rfl, rfl⟩ (by omega) (by omega) ?_
      rw [show 0 + y.ps.length = y.ps.length from Nat.zero_add _]
      refine G (T := T) 53 rfl ?_
      refine Br (T := T) (lx := []) (rows := []) rfl rfl rfl rfl rfl ⟨rfl, rfl⟩ ?_
      refine G (T := T) 56 rfl ?_
      refine Ap (T := T) l5.symm (iM _) rfl rfl rfl rfl rfl rfl ⟨rfl, rfl⟩ (by omega) (by omega) ?_
      rw [show 0 + y.body.length = y.body.length from Nat.zero_add _]
      refine G (T := T) 58 rfl ?_
      refine Zr 9 rfl ?_
      refine Zr 10 rfl ?_
      refine G (T := T) 62 rfl ?_
      refine Adk (T := T) (m' := 1) rfl (fun r hr => by rw [List.mem_singleton.1 hr]; rfl) rfl rfl rfl rfl rfl rfl ⟨rfl, rfl⟩ (by omega) (by omega) ?_
      refine G (T := T) 1000 rfl ?_
      have e9 : ((p.fs.take (i2 + 1)).drop (j + 1)).map fuD = ((p.fs.take i2).drop (j + 1)).map fuD ++ [fuD y] := by
        rw [List.take_succ, hy, List.drop_append_of_le_length (by rw [List.length_take]; omega), List.map_append]; rfl
      exact Nq (i2 + 1, (p.fs.take j).map fuD, some (((p.fs.take i2).drop (j + 1)).map fuD ++ [fuD y])) ⟨by dsimp only; omega, .inr ⟨by dsimp only; omega, rfl, by dsimp only; rw [e9]⟩⟩ (by show _ - (i2 + 1) < _ - i2; omega)
    · have hie2 : i2 = p.fs.length := by have := of_decide_eq_false h; rw [l3] at this; omega
      subst hie2
      rw [show p.fs.take p.fs.length = p.fs from List.take_length]
      refine G (T := T) 1000 rfl ?_
      exact Fm (T := T) (fun g => [4, 2, 5, 6, 7].getD g 0) _ _ ⟨(), trivial, rfl, rfl⟩ rfl
end
section
open Go Go.RowKit Go.Proofs K
variable {pk : Pk}
abbrev eGs : Ex := av ⟨#[103, 115]⟩
abbrev eArr : Ex := av ⟨#[97, 114, 114]⟩
abbrev ePtr : Ex := .mk 6 eS 0 [eArr]
abbrev eAt : Ex := .mk 6 eS 0 [eGs]
def expsL : List Ex := [eGs, eArr, ePtr, eAt, (av ⟨#[110, 111, 112, 101]⟩), (av ⟨#[118, 49]⟩), (av ⟨#[112]⟩), (ja eGs ⟨#[97]⟩), (ja eGs ⟨#[120]⟩), (ja (av ⟨#[103, 48]⟩) ⟨#[97]⟩), (jb (av ⟨#[103, 48]⟩) (bI 1)), (jb eArr ePtr), (.mk 5 eS 0 [eAt]), (.mk 5 eS 0 [(av ⟨#[103, 48]⟩)]), (ja (.mk 5 eS 0 [eAt]) ⟨#[99]⟩), (.mk 6 eS 0 [(av ⟨#[118, 49]⟩)]), (.mk 6 eS 0 [(jb (av ⟨#[116, 97, 98]⟩) (bI 1))]), (eN ⟨#[61, 61]⟩ eAt eAt), (eN ⟨#[61, 61]⟩ eAt ePtr), (eN ⟨#[61, 61]⟩ eAt (bI 0)), (eN ⟨#[43]⟩ eAt (bI 1)), (eN ⟨#[60]⟩ eAt eAt), (.mk 12 ⟨#[45]⟩ 0 [eAt]), (.mk 15 ⟨#[117, 49, 54]⟩ 0 [eAt]), (.mk 15 ⟨#[117, 56]⟩ 0 [eAt]), (.mk 15 ⟨#[115, 49, 54]⟩ 0 [eGs]), (.mk 14 ⟨#[102, 105, 114, 115, 116]⟩ 0 []), (.mk 14 ⟨#[102, 105, 114, 115, 116]⟩ 0 [(bI 1)]), (.mk 14 ⟨#[102, 105, 114, 115, 116]⟩ 0 [eAt, (bI 1)]), (.mk 14 ⟨#[109, 97, 105, 110]⟩ 0 []), (.mk 14 ⟨#[109, 105, 115, 115, 105, 110, 103]⟩ 0 []), (.mk 7 eS 0 [eAt]), (.mk 8 eS 0 [(bI 3)]), (.mk 9 eS 63 [(bI 3)]), (.mk 11 eS 0 []), (.mk 10 eS 99 [(bI 3)]), (.mk 99 eS 0 []), (jb (av ⟨#[116, 97, 98]⟩) (bI 9))]
mutual
def Ex.okB : Ex → Bool
  | .mk k nm n ks => decide (-9223372036854775808 ≤ k) && decide (k ≤ 9223372036854775807) && decide (nm.size ≤ 1000000) && decide (0 ≤ n) && decide (n ≤ 65535) && Ex.oksB ks
def Ex.oksB : List Ex → Bool
  | [] => true
  | t :: r => Ex.okB t && Ex.oksB r
end
mutual
theorem Ex.okB_ok : ∀ e : Ex, Ex.okB e = true → e.ok
  | .mk k nm n ks, h => by
    simp only [Ex.okB, Bool.and_eq_true, decide_eq_true_eq] at h
    exact ⟨⟨h.1.1.1.1.1, h.1.1.1.1.2⟩, h.1.1.1.2, ⟨h.1.1.2, h.1.2⟩, Ex.oksB_ok ks h.2⟩
theorem Ex.oksB_ok : ∀ l : List Ex, Ex.oksB l = true → Ex.oks l
  | [], _ => trivial
  | t :: r, h => by
    simp only [Ex.oksB, Bool.and_eq_true] at h
    exact ⟨Ex.okB_ok t h.1, Ex.oksB_ok r h.2⟩
end
theorem exps_ok : ∀ e ∈ expsL, e.ok ∧ e.size ≤ 10 := by
  have h : ∀ e ∈ expsL, Ex.okB e = true ∧ e.size ≤ 10 := by decide +kernel
  exact fun e he => ⟨Ex.okB_ok e (h e he).1, (h e he).2⟩
theorem ref_exprs : XQ Tryz.prog pk 72 [] (xr (expsL.map exD)) := by
  refine XQ.en Tryz.func72 Tryz.ntmps72 (fun w0 own H V v0 hf => ?_)
  refine G (T := T) 1000 rfl ?_
  refine Cq (ai _) rfl rfl rfl rfl rfl ⟨rfl, rfl⟩ ?_
  refine G (T := T) 1000 rfl ?_
  refine Cq (ai _) rfl rfl rfl rfl rfl ⟨rfl, rfl⟩ ?_
  refine G (T := T) 1000 rfl ?_
  refine Cq (ai _) rfl rfl rfl rfl rfl ⟨rfl, rfl⟩ ?_
  refine G (T := T) 1000 rfl ?_
  refine Cq (ai _) rfl rfl rfl rfl rfl ⟨rfl, rfl⟩ ?_
  refine G (T := T) 1000 rfl ?_
  refine Cq (ai _) rfl rfl rfl rfl rfl ⟨rfl, rfl⟩ ?_
  refine G (T := T) 1000 rfl ?_
  refine Cq (bF eGs _) rfl rfl rfl rfl rfl ⟨rfl, rfl⟩ ?_
  refine G (T := T) 1000 rfl ?_
  refine Cq (bF eGs _) rfl rfl rfl rfl rfl ⟨rfl, rfl⟩ ?_
  refine G (T := T) 1000 rfl ?_
  refine Cq (ai _) rfl rfl rfl rfl rfl ⟨rfl, rfl⟩ ?_
  refine G (T := T) 1000 rfl ?_
  refine Cq (bF (av ⟨#[103, 48]⟩) _) rfl rfl rfl rfl rfl ⟨rfl, rfl⟩ ?_
  refine G (T := T) 1000 rfl ?_
  refine Cq (ai _) rfl rfl rfl rfl rfl ⟨rfl, rfl⟩ ?_
  refine G (T := T) 1000 rfl ?_
  refine Cq (ay (by omega) (by omega)) rfl rfl rfl rfl rfl ⟨rfl, rfl⟩ ?_
  refine G (T := T) 1000 rfl ?_
  refine Cq (bf (av ⟨#[103, 48]⟩) (bI 1)) rfl rfl rfl rfl rfl ⟨rfl, rfl⟩ ?_
  refine G (T := T) 1000 rfl ?_
  refine Cq (bf eArr ePtr) rfl rfl rfl rfl rfl ⟨rfl, rfl⟩ ?_
  refine G (T := T) 1000 rfl ?_
  refine Cq (ai _) rfl rfl rfl rfl rfl ⟨rfl, rfl⟩ ?_
  refine G (T := T) 1000 rfl ?_
  refine Cq (bF (.mk 5 eS 0 [eAt]) _) rfl rfl rfl rfl rfl ⟨rfl, rfl⟩ ?_
  refine G (T := T) 1000 rfl ?_
  refine Cq (ai _) rfl rfl rfl rfl rfl ⟨rfl, rfl⟩ ?_
  refine G (T := T) 1000 rfl ?_
  refine Cq (ai _) rfl rfl rfl rfl rfl ⟨rfl, rfl⟩ ?_
  refine G (T := T) 1000 rfl ?_
  refine Cq (ay (by omega) (by omega)) rfl rfl rfl rfl rfl ⟨rfl, rfl⟩ ?_
  refine G (T := T) 1000 rfl ?_
  refine Cq (bf (av ⟨#[116, 97, 98]⟩) (bI 1)) rfl rfl rfl rfl rfl ⟨rfl, rfl⟩ ?_
  refine G (T := T) 1000 rfl ?_
  refine Cq (aM _ eAt eAt) rfl rfl rfl rfl rfl ⟨rfl, rfl⟩ ?_
  refine G (T := T) 1000 rfl ?_
  refine Cq (aM _ eAt ePtr) rfl rfl rfl rfl rfl ⟨rfl, rfl⟩ ?_
  refine G (T := T) 1000 rfl ?_
  refine Cq (ay (by omega) (by omega)) rfl rfl rfl rfl rfl ⟨rfl, rfl⟩ ?_
  refine G (T := T) 1000 rfl ?_
  refine Cq (aM _ eAt (bI 0)) rfl rfl rfl rfl rfl ⟨rfl, rfl⟩ ?_
  refine G (T := T) 1000 rfl ?_
  refine Cq (ay (by omega) (by omega)) rfl rfl rfl rfl rfl ⟨rfl, rfl⟩ ?_
  refine G (T := T) 1000 rfl ?_
  refine Cq (aM _ eAt (bI 1)) rfl rfl rfl rfl rfl ⟨rfl, rfl⟩ ?_
  refine G (T := T) 1000 rfl ?_
  refine Cq (aM _ eAt eAt) rfl rfl rfl rfl rfl ⟨rfl, rfl⟩ ?_
  refine G (T := T) 1000 rfl ?_
  refine Cq (ay (by omega) (by omega)) rfl rfl rfl rfl rfl ⟨rfl, rfl⟩ ?_
  refine G (T := T) 1000 rfl ?_
  refine Cq (ay (by omega) (by omega)) rfl rfl rfl rfl rfl ⟨rfl, rfl⟩ ?_
  refine G (T := T) 1000 rfl ?_
  refine Cq (ay (by omega) (by omega)) rfl rfl rfl rfl rfl ⟨rfl, rfl⟩ ?_
  refine G (T := T) 1000 rfl ?_
  refine Cq (ay (by omega) (by omega)) rfl rfl rfl rfl rfl ⟨rfl, rfl⟩ ?_
  refine G (T := T) 1000 rfl ?_
  refine Cq (ay (by omega) (by omega)) rfl rfl rfl rfl rfl ⟨rfl, rfl⟩ ?_
  refine G (T := T) 1000 rfl ?_
  refine Cq (ai _) rfl rfl rfl rfl rfl ⟨rfl, rfl⟩ ?_
  refine G (T := T) 1000 rfl ?_
  refine Cq (ay (by omega) (by omega)) rfl rfl rfl rfl rfl ⟨rfl, rfl⟩ ?_
  refine G (T := T) 1000 rfl ?_
  refine Cq (bf (av ⟨#[116, 97, 98]⟩) (bI 9)) rfl rfl rfl rfl rfl ⟨rfl, rfl⟩ ?_
  refine G (T := T) 1000 rfl ?_
  exact Fq (T := T) rfl rfl
end
section
open Go Go.RowKit Go.Proofs K
variable {pk : Pk}
def labL : List ByteArray := [⟨#[]⟩, ⟨#[76, 49]⟩, ⟨#[76, 50]⟩, ⟨#[105, 102]⟩]
def nmL5 : List ByteArray := [⟨#[118, 49]⟩, ⟨#[120]⟩, ⟨#[103, 48]⟩, ⟨#[109, 97, 105, 110]⟩, ⟨#[97]⟩]
def jmpL : List Int := [7, 8]
def tyl : List Ty4 := [.mk 1 eS 0 [], .mk 6 eS 0 [.mk 4 ⟨#[83]⟩ 0 []], .mk 4 ⟨#[83]⟩ 0 [], .mk 7 eS 0 [], .mk 6 eS 1 [.mk 2 eS 0 []]]
theorem tyl_ok : ∀ t ∈ tyl, t.ok ∧ t.size ≤ 3 := fun t h => by
  simp only [tyl, List.mem_cons, List.not_mem_nil, or_false] at h
  have a : ∀ {k : Int} {s : ByteArray} {l : List Ty4} {n : Int}, 0 ≤ k ∧ k ≤ 9 → s.size ≤ 1000000 → 0 ≤ n ∧ n ≤ 9 → Ty4.oks l → (Ty4.mk k s n l).ok := fun h1 h2 h3 h4 => ⟨⟨by omega, by omega⟩, h2, ⟨by omega, by omega⟩, h4⟩
  rcases h with rfl | rfl | rfl | rfl | rfl
  · exact ⟨a (by omega) (by decide) (by omega) trivial, by decide⟩
  · exact ⟨a (by omega) (by decide) (by omega) ⟨a (by omega) (by decide) (by omega) trivial, trivial⟩, by decide⟩
  · exact ⟨a (by omega) (by decide) (by omega) trivial, by decide⟩
  · exact ⟨a (by omega) (by decide) (by omega) trivial, by decide⟩
  · exact ⟨a (by omega) (by decide) (by omega) ⟨a (by omega) (by decide) (by omega) trivial, trivial⟩, by decide⟩
theorem ci {k n : Int} {nm : ByteArray} {t : Ty4} {xs : List Ex} {b el : List Sm} {cs : List (List Sm)} (hk : 0 ≤ k ∧ k ≤ 99) (hn : nm.size ≤ 1000000) (ht : t.ok) (h0 : 0 ≤ n ∧ n ≤ 300) (hx : Ex.oks xs) (hb : Sm.oks b) (he : Sm.oks el) (hc : Sm.okc cs) : (Sm.mk k nm t n xs b el cs).ok := ⟨⟨by omega, by omega⟩, hn, ht, ⟨by omega, by omega⟩, hx, hb, he, hc⟩
theorem cQ {α : Type} {l : List α} {n m : Int} (hl : (l.length : Int) = m) (hm : 0 < m) : ∃ (j : Nat) (a : α), er n m = (j : Int) ∧ l[j]? = some a ∧ a ∈ l := by
  have h := bq (n := n) hm
  obtain ⟨j, hj⟩ := Int.eq_ofNat_of_zero_le h.1
  have hlt : j < l.length := by omega
  exact ⟨j, l[j], hj, List.getElem?_eq_getElem hlt, List.getElem_mem hlt⟩
theorem lz {q0 q1 q2 : Int} : XP Tryz.prog pk 27 [xd [.c (.int .i64 q0), .c (.int .i64 q1), .c (.int .i64 q2)]] (fun r => ∃ s, r = xd (smD s) ∧ s.ok ∧ s.size ≤ 100) := by
  obtain ⟨j1, e1, hj1, he1, m1⟩ := cQ (l := expsL) (n := q1) (m := 38) rfl (by omega)
  obtain ⟨j2, e2, hj2, he2, m2⟩ := cQ (l := expsL) (n := q2) (m := 38) rfl (by omega)
  obtain ⟨j3, lb, hj3, he3, m3⟩ := cQ (l := labL) (n := q2) (m := 4) rfl (by omega)
  obtain ⟨ko1, ks1⟩ := exps_ok e1 m1
  obtain ⟨ko2, ks2⟩ := exps_ok e2 m2
  have hlb : lb.size ≤ 1000000 := (show ∀ s ∈ labL, s.size ≤ 1000000 by decide) lb m3
  refine XP.en Tryz.func27 Tryz.ntmps27 (by rintro _ ⟨p, rfl, _⟩; rfl) (fun w0 own H V v0 hf => ?_)
  refine G (T := T) 1000 rfl ?_
  refine Cq ref_exprs rfl rfl rfl rfl rfl ⟨rfl, rfl⟩ ?_
  refine G (T := T) 1000 rfl ?_
  refine Cq (bP (n := q1) (m := 38) (by omega) (by omega)) rfl rfl rfl rfl rfl ⟨rfl, rfl⟩ ?_
  refine G (T := T) 14 rfl ?_
  rw [hj1]
  refine Ix (T := T) (rows := expsL.map exD) j1 (ab he1) rfl rfl rfl rfl ⟨rfl, rfl⟩ rfl rfl ?_
  refine G (T := T) 1000 rfl ?_
  refine Cq (bP (n := q2) (m := 38) (by omega) (by omega)) rfl rfl rfl rfl rfl ⟨rfl, rfl⟩ ?_
  refine G (T := T) 22 rfl ?_
  rw [hj2]
  refine Ix (T := T) (rows := expsL.map exD) j2 (ab he2) rfl rfl rfl rfl ⟨rfl, rfl⟩ rfl rfl ?_
  refine G (T := T) 1000 rfl ?_
  refine Cq (bP (n := q2) (m := 4) (by omega) (by omega)) rfl rfl rfl rfl rfl ⟨rfl, rfl⟩ ?_
  refine G (T := T) 28 rfl ?_
  rw [hj3]
  refine Ix (T := T) (rows := labL.map bM) j3 (ab he3) rfl rfl rfl rfl ⟨rfl, rfl⟩ rfl rfl ?_
  refine G (T := T) 1000 rfl ?_
  refine Cq (bP (n := q0) (m := 14) (by omega) (by omega)) rfl rfl rfl rfl rfl ⟨rfl, rfl⟩ ?_
  generalize er q0 14 = z
  refine G (T := T) 1000 rfl ?_
  refine If rfl (fun h => ?_) (fun h => ?_)
  · obtain ⟨j4, nm, hj4, he4, m4⟩ := cQ (l := nmL5) (n := q2) (m := 5) rfl (by omega)
    obtain ⟨j5, ty, hj5, he5, m5⟩ := cQ (l := tyl) (n := q0) (m := 5) rfl (by omega)
    have hnm : nm.size ≤ 1000000 := (show ∀ s ∈ nmL5, s.size ≤ 1000000 by decide) nm m4
    obtain ⟨hty, hts⟩ := tyl_ok ty m5
    refine G (T := T) 1000 rfl ?_
    refine Cq (bP (n := q2) (m := 5) (by omega) (by omega)) rfl rfl rfl rfl rfl ⟨rfl, rfl⟩ ?_
    refine G (T := T) 39 rfl ?_
    rw [hj4]
    refine Ix (T := T) (rows := nmL5.map bM) j4 (ab he4) rfl rfl rfl rfl ⟨rfl, rfl⟩ rfl rfl ?_
    refine G (T := T) 1000 rfl ?_
    refine Cq (bP (n := q0) (m := 5) (by omega) (by omega)) rfl rfl rfl rfl rfl ⟨rfl, rfl⟩ ?_
    refine G (T := T) 54 rfl ?_
    rw [hj5]
    refine Ix (T := T) (rows := tyl.map tyD) j5 (ab he5) rfl rfl rfl rfl ⟨rfl, rfl⟩ rfl rfl ?_
    refine G (T := T) 1000 rfl ?_
    exact Fp (T := T) (xd (smD (.mk 1 nm ty 0 [e1] [] [] []))) ⟨_, rfl, (ci ⟨by omega, by omega⟩ hnm hty ⟨by omega, by omega⟩ ⟨ko1, trivial⟩ trivial trivial trivial), (by simp only [Sm.size, Sm.sizes, Sm.csizes, Ex.sizes, Ty4.size, Ty4.sizes, ty4z]; omega)⟩ rfl rfl
  refine G (T := T) 1000 rfl ?_
  refine If rfl (fun h => ?_) (fun h => ?_)
  · refine G (T := T) 1000 rfl ?_
    refine If rfl (fun _ => ?_) (fun h2 => (by cases h.symm.trans h2))
    refine G (T := T) 1000 rfl ?_
    exact Fp (T := T) (xd (smD (.mk 2 eS ty4z 0 [e1, e2] [] [] []))) ⟨_, rfl, (ci ⟨by omega, by omega⟩ (by decide) aq ⟨by omega, by omega⟩ ⟨ko1, ko2, trivial⟩ trivial trivial trivial), (by simp only [Sm.size, Sm.sizes, Sm.csizes, Ex.sizes, Ty4.size, Ty4.sizes, ty4z]; omega)⟩ rfl rfl
  refine G (T := T) 1000 rfl ?_
  refine If rfl (fun h => ?_) (fun h => ?_)
  · refine G (T := T) 1000 rfl ?_
    refine If rfl (fun _ => ?_) (fun h2 => (by cases h.symm.trans h2))
    refine G (T := T) 1000 rfl ?_
    exact Fp (T := T) (xd (smD (.mk 2 eS ty4z 0 [e1, e2] [] [] []))) ⟨_, rfl, (ci ⟨by omega, by omega⟩ (by decide) aq ⟨by omega, by omega⟩ ⟨ko1, ko2, trivial⟩ trivial trivial trivial), (by simp only [Sm.size, Sm.sizes, Sm.csizes, Ex.sizes, Ty4.size, Ty4.sizes, ty4z]; omega)⟩ rfl rfl
  refine G (T := T) 1000 rfl ?_
  refine If rfl (fun h => ?_) (fun h => ?_)
  · refine G (T := T) 1000 rfl ?_
    exact Fp (T := T) (xd (smD (.mk 2 eS ty4z 0 [e1, e2] [] [] []))) ⟨_, rfl, (ci ⟨by omega, by omega⟩ (by decide) aq ⟨by omega, by omega⟩ ⟨ko1, ko2, trivial⟩ trivial trivial trivial), (by simp only [Sm.size, Sm.sizes, Sm.csizes, Ex.sizes, Ty4.size, Ty4.sizes, ty4z]; omega)⟩ rfl rfl
  refine G (T := T) 1000 rfl ?_
  refine If rfl (fun h => ?_) (fun h => ?_)
  · refine G (T := T) 1000 rfl ?_
    exact Fp (T := T) (xd (smD (.mk 3 eS ty4z 0 [e1] [.mk 7 lb ty4z 0 [] [] [] []] [] []))) ⟨_, rfl, (ci ⟨by omega, by omega⟩ (by decide) aq ⟨by omega, by omega⟩ ⟨ko1, trivial⟩ ⟨(ci ⟨by omega, by omega⟩ hlb aq ⟨by omega, by omega⟩ trivial trivial trivial trivial), trivial⟩ trivial trivial), (by simp only [Sm.size, Sm.sizes, Sm.csizes, Ex.sizes, Ty4.size, Ty4.sizes, ty4z]; omega)⟩ rfl rfl
  refine G (T := T) 1000 rfl ?_
  refine If rfl (fun h => ?_) (fun h => ?_)
  · obtain ⟨j4, k, hj4, he4, m4⟩ := cQ (l := jmpL) (n := q1) (m := 2) rfl (by omega)
    have hk : 0 ≤ k ∧ k ≤ 99 := (show ∀ s ∈ jmpL, 0 ≤ s ∧ s ≤ 99 by decide) k m4
    refine G (T := T) 1000 rfl ?_
    refine Cq (bP (n := q1) (m := 2) (by omega) (by omega)) rfl rfl rfl rfl rfl ⟨rfl, rfl⟩ ?_
    refine G (T := T) 82 rfl ?_
    rw [hj4]
    refine Ix (T := T) (rows := jmpL.map iu) j4 (ab he4) rfl rfl rfl rfl ⟨rfl, rfl⟩ rfl rfl ?_
    refine G (T := T) 1000 rfl ?_
    exact Fp (T := T) (xd (smD (.mk 6 lb ty4z 0 [] [.mk k ⟨#[76, 49]⟩ ty4z 0 [] [] [] []] [] []))) ⟨_, rfl, (ci ⟨by omega, by omega⟩ hlb aq ⟨by omega, by omega⟩ trivial ⟨(ci hk (by decide) aq ⟨by omega, by omega⟩ trivial trivial trivial trivial), trivial⟩ trivial trivial), (by simp only [Sm.size, Sm.sizes, Sm.csizes, Ex.sizes, Ty4.size, Ty4.sizes, ty4z]; omega)⟩ rfl rfl
  refine G (T := T) 1000 rfl ?_
  refine If rfl (fun h => ?_) (fun h => ?_)
  · refine G (T := T) 1000 rfl ?_
    exact Fp (T := T) (xd (smD (.mk 5 lb ty4z 0 [] [.mk 5 ⟨#[76, 49]⟩ ty4z 0 [] [.mk 8 ⟨#[76, 49]⟩ ty4z 0 [] [] [] []] [] []] [] []))) ⟨_, rfl, (ci ⟨by omega, by omega⟩ hlb aq ⟨by omega, by omega⟩ trivial ⟨(ci ⟨by omega, by omega⟩ (by decide) aq ⟨by omega, by omega⟩ trivial ⟨(ci ⟨by omega, by omega⟩ (by decide) aq ⟨by omega, by omega⟩ trivial trivial trivial trivial), trivial⟩ trivial trivial), trivial⟩ trivial trivial), (by simp only [Sm.size, Sm.sizes, Sm.csizes, Ex.sizes, Ty4.size, Ty4.sizes, ty4z]; omega)⟩ rfl rfl
  refine G (T := T) 1000 rfl ?_
  refine If rfl (fun h => ?_) (fun h => ?_)
  · refine G (T := T) 1000 rfl ?_
    exact Fp (T := T) (xd (smD (.mk 10 eS ty4z 0 [e1] [] [] []))) ⟨_, rfl, (ci ⟨by omega, by omega⟩ (by decide) aq ⟨by omega, by omega⟩ ⟨ko1, trivial⟩ trivial trivial trivial), (by simp only [Sm.size, Sm.sizes, Sm.csizes, Ex.sizes, Ty4.size, Ty4.sizes, ty4z]; omega)⟩ rfl rfl
  refine G (T := T) 1000 rfl ?_
  refine If rfl (fun h => ?_) (fun h => ?_)
  · refine G (T := T) 1000 rfl ?_
    exact Fp (T := T) (xd (smD (.mk 10 eS ty4z 0 [] [] [] []))) ⟨_, rfl, (ci ⟨by omega, by omega⟩ (by decide) aq ⟨by omega, by omega⟩ trivial trivial trivial trivial), (by simp only [Sm.size, Sm.sizes, Sm.csizes, Ex.sizes, Ty4.size, Ty4.sizes, ty4z]; omega)⟩ rfl rfl
  refine G (T := T) 1000 rfl ?_
  refine If rfl (fun h => ?_) (fun h => ?_)
  · obtain ⟨n0, n1⟩ := bq (n := q2) (show (0 : Int) < 300 by omega)
    refine G (T := T) 1000 rfl ?_
    refine Cq (bP (n := q2) (m := 300) (by omega) (by omega)) rfl rfl rfl rfl rfl ⟨rfl, rfl⟩ ?_
    refine G (T := T) 111 rfl ?_
    rw [kL n0 (by omega)]
    generalize er q2 300 = n at n0 n1 ⊢
    refine G (T := T) 1000 rfl ?_
    exact Fp (T := T) (xd (smD (.mk 11 eS ty4z n [e1] [] [] []))) ⟨_, rfl, (ci ⟨by omega, by omega⟩ (by decide) aq ⟨by omega, by omega⟩ ⟨ko1, trivial⟩ trivial trivial trivial), (by simp only [Sm.size, Sm.sizes, Sm.csizes, Ex.sizes, Ty4.size, Ty4.sizes, ty4z]; omega)⟩ rfl rfl
  refine G (T := T) 1000 rfl ?_
  refine If rfl (fun h => ?_) (fun h => ?_)
  · refine G (T := T) 1000 rfl ?_
    exact Fp (T := T) (xd (smD (.mk 9 eS ty4z 0 [e1] [] [] [[.mk 14 eS ty4z 0 [e2] [] [] []]]))) ⟨_, rfl, (ci ⟨by omega, by omega⟩ (by decide) aq ⟨by omega, by omega⟩ ⟨ko1, trivial⟩ trivial trivial ⟨⟨(ci ⟨by omega, by omega⟩ (by decide) aq ⟨by omega, by omega⟩ ⟨ko2, trivial⟩ trivial trivial trivial), trivial⟩, trivial⟩), (by simp only [Sm.size, Sm.sizes, Sm.csizes, Ex.sizes, Ty4.size, Ty4.sizes, ty4z]; omega)⟩ rfl rfl
  refine G (T := T) 1000 rfl ?_
  refine If rfl (fun h => ?_) (fun h => ?_)
  · obtain ⟨n0, n1⟩ := bq (n := q2) (show (0 : Int) < 16 by omega)
    refine G (T := T) 1000 rfl ?_
    refine Cq (bP (n := q2) (m := 16) (by omega) (by omega)) rfl rfl rfl rfl rfl ⟨rfl, rfl⟩ ?_
    generalize er q2 16 = n at n0 n1 ⊢
    refine G (T := T) 1000 rfl ?_
    exact Fp (T := T) (xd (smD (.mk 4 eS ty4z 0 [e1] [] [.mk n eS ty4z 0 [] [] [] []] []))) ⟨_, rfl, (ci ⟨by omega, by omega⟩ (by decide) aq ⟨by omega, by omega⟩ ⟨ko1, trivial⟩ trivial ⟨(ci ⟨by omega, by omega⟩ (by decide) aq ⟨by omega, by omega⟩ trivial trivial trivial trivial), trivial⟩ trivial), (by simp only [Sm.size, Sm.sizes, Sm.csizes, Ex.sizes, Ty4.size, Ty4.sizes, ty4z]; omega)⟩ rfl rfl
  refine G (T := T) 1000 rfl ?_
  refine If rfl (fun h => ?_) (fun h => ?_)
  · refine G (T := T) 1000 rfl ?_
    exact Fp (T := T) (xd (smD (.mk 14 eS ty4z 0 [e2] [] [] []))) ⟨_, rfl, (ci ⟨by omega, by omega⟩ (by decide) aq ⟨by omega, by omega⟩ ⟨ko2, trivial⟩ trivial trivial trivial), (by simp only [Sm.size, Sm.sizes, Sm.csizes, Ex.sizes, Ty4.size, Ty4.sizes, ty4z]; omega)⟩ rfl rfl
  refine G (T := T) 1000 rfl ?_
  obtain ⟨n0, n1⟩ := bq (n := q1) (show (0 : Int) < 16 by omega)
  refine Cq (bP (n := q1) (m := 16) (by omega) (by omega)) rfl rfl rfl rfl rfl ⟨rfl, rfl⟩ ?_
  generalize er q1 16 = n at n0 n1 ⊢
  refine G (T := T) 1000 rfl ?_
  exact Fp (T := T) (xd (smD (.mk n lb ty4z 0 [e2] [] [] []))) ⟨_, rfl, (ci ⟨by omega, by omega⟩ hlb aq ⟨by omega, by omega⟩ ⟨ko2, trivial⟩ trivial trivial trivial), (by simp only [Sm.size, Sm.sizes, Sm.csizes, Ex.sizes, Ty4.size, Ty4.sizes, ty4z]; omega)⟩ rfl rfl
end
section
open Go Go.RowKit Go.Proofs K
variable {pk : Pk}
abbrev q3 (a b c : Int) : XV := xd [.c (.int .i64 a), .c (.int .i64 b), .c (.int .i64 c)]
def wroL : List ByteArray := [⟨#[109, 97, 105, 110]⟩, ⟨#[105, 110, 116, 101, 114, 114, 117, 112, 116]⟩, ⟨#[103, 48]⟩, ⟨#[83]⟩, ⟨#[102, 105, 114, 115, 116]⟩, ⟨#[49, 120]⟩, ⟨#[97, 95, 110, 97, 109, 101, 95, 111, 102, 95, 50, 53, 95, 99, 104, 97, 114, 97, 99, 116, 101, 114, 115, 95, 120]⟩]
theorem wro_sz : ∀ s ∈ wroL, s.size ≤ 25 := by decide
def abL : List ByteArray := [⟨#[97]⟩, ⟨#[98]⟩]
theorem w16_rg (n : Int) : 0 ≤ IntKind.u16.wrap n ∧ IntKind.u16.wrap n ≤ 65535 := by
  unfold IntKind.wrap
  simp [IntKind.bits, IntKind.signed] <;> omega
def TurR (B : Nat) (r : XV) : Prop := ∃ p', r = xd (pgD p') ∧ p'.ok B ∧ 1 ≤ p'.fs.length ∧ 1 ≤ p'.gs.length
theorem ia {gs : List Gb} {j o : Nat} {g g' : Gb} {ds : List D} (h : gs[j]? = some g) (hd : (gbD g).take o ++ (ds ++ (gbD g).drop (o + ds.length)) = gbD g') : il (gs.map gbD) j o ds = (gs.set j g').map gbD := by
  rw [il, List.getElem?_map, h]
  show (gs.map gbD).set j _ = _
  rw [hd, List.map_set]
theorem bC {n m : Int} (hm : 0 < m) (hm2 : m ≤ 4000000000000000000) : XQ Tryz.prog pk 26 [xi n, xi m] (xi (er n m)) := by
  have h1 : -m < n.tmod m := by
    have := Int.lt_tmod_of_pos n hm; omega
  have h2 := Int.tmod_lt_of_pos n hm
  refine XQ.en Tryz.func26 Tryz.ntmps26 (fun w0 own H V v0 hf => ?_)
  refine G (T := T) 1000 rfl ?_
  exact Fe (T := T) rfl rfl
theorem pY {p : Pg} {B : Nat} (hok : p.ok B) (hB : B ≤ 900000000) (hfs : 1 ≤ p.fs.length) (hgs : 1 ≤ p.gs.length) {a b c : Int} : XP Tryz.prog pk 10 [xd (pgD p), q3 a b c] (TurR (B + 200)) := by
  have hfl := hok.fl
  have hgl := hok.gl
  obtain ⟨j, hj⟩ := Int.eq_ofNat_of_zero_le (bq (n := c) (show (0 : Int) < (p.fs.length : Int) by omega)).1
  have hjl := (bq (n := c) (show (0 : Int) < (p.fs.length : Int) by omega)).2
  obtain ⟨j2, hj2⟩ := Int.eq_ofNat_of_zero_le (bq (n := c) (show (0 : Int) < (p.gs.length : Int) by omega)).1
  have hj2l := (bq (n := c) (show (0 : Int) < (p.gs.length : Int) by omega)).2
  obtain ⟨f, hf9⟩ := ah (l := p.fs) (j := j) (by omega)
  obtain ⟨g9, hg9⟩ := ah (l := p.gs) (j := j2) (by omega)
  have hO := ref_Own (pk := pk) hok hB hf9
  have hmf := bC (pk := pk) (n := c) (m := (p.fs.length : Nat)) (by omega) (by omega)
  have hmg := bC (pk := pk) (n := c) (m := (p.gs.length : Nat)) (by omega) (by omega)
  rw [hj] at hmf
  rw [hj2] at hmg
  obtain ⟨jw, nm, hjw, hnm, mw⟩ := cQ (l := wroL) (n := b) (m := 7) rfl (by omega)
  have hnmz := wro_sz nm mw
  refine XP.en Tryz.func10 Tryz.ntmps10 (by rintro _ ⟨p', rfl, _⟩; rfl) (fun w0 own H V v0 hf => ?_)
  refine G (T := T) 1000 rfl ?_
  refine Cy [] (fun _ => .a (.a [.l 3 1 3 0 p.ts.length p.ts.length, .l 4 1 8 0 p.gs.length p.gs.length, .l 5 1 10 0 p.fs.length p.fs.length])) (fun _ => [⟨3, 1, .row p.ts.length (p.ts.map tdD) 85 3⟩, ⟨4, 1, .row p.gs.length (p.gs.map gbD) 80 8⟩, ⟨5, 1, .rowk p.fs.length ((p.fs.take j).map fuD) (fuK 6 7 f) ((p.fs.drop (j + 1)).map fuD) 71 10⟩, ⟨6, 1, .row f.ps.length (f.ps.map paD) 83 5⟩, ⟨7, 1, .row f.body.length (f.body.map smD) 66 11⟩]) hO rfl rfl rfl rfl rfl rfl rfl ⟨⟨rfl, rfl⟩, rfl⟩ (fun _ => rfl) (fun _ => rfl) rfl ?_
  rintro _ -
  refine Gs (T := T) 1000 rfl ?_
  refine IfF rfl ?_ ?_
  · rw [decide_eq_false (by omega), decide_eq_false (by omega)]; rfl
  have lt : (p.fs.take j).length = j := by rw [List.length_take]; omega
  refine G (T := T) 1000 rfl ?_
  refine Cq hmf rfl rfl rfl rfl rfl ⟨rfl, rfl⟩ ?_
  refine G (T := T) 32 rfl ?_
  refine Qk (T := T) j rfl rfl rfl rfl rfl ⟨rfl, rfl⟩ rfl (by omega) ?_
  refine G (T := T) 1000 rfl ?_
  refine Cq hmg rfl rfl rfl rfl rfl ⟨rfl, rfl⟩ ?_
  refine G (T := T) 41 rfl ?_
  refine Iq (T := T) j2 rfl rfl rfl rfl rfl ⟨rfl, rfl⟩ rfl (by omega) rfl ?_
  refine G (T := T) 1000 rfl ?_
  have hm7 := bC (pk := pk) (n := b) (m := 7) (by omega) (by omega)
  rw [hjw] at hm7
  refine Cq hm7 rfl rfl rfl rfl rfl ⟨rfl, rfl⟩ ?_
  refine G (T := T) 47 rfl ?_
  refine Ix (T := T) (rows := wroL.map bM) jw (ab hnm) rfl rfl rfl rfl ⟨rfl, rfl⟩ rfl rfl ?_
  refine G (T := T) 1000 rfl ?_
  refine Cq (bC (n := a) (m := 24) (by omega) (by omega)) rfl rfl rfl rfl rfl ⟨rfl, rfl⟩ ?_
  have lt2 : j = ((p.fs.take j).map fuD).length := by rw [List.length_map]; exact lt.symm
  have hgr := ab (f := gbD) hg9
  have tl2 : p.ts.length ≤ B + 200 := Nat.le_trans hok.tl (by omega)
  have ft : ∀ x ∈ p.ts, x.ok (B + 200) := fun x hx => (hok.t x hx).mono (by omega)
  have fg : ∀ x ∈ p.gs, x.ok (B + 200) := fun x hx => (hok.g x hx).mono (by omega)
  have ff : ∀ x ∈ p.fs, x.ok (B + 200) := fun x hx => (hok.f x hx).mono (by omega)
  have fin : ∀ {ts : List Td} {gs : List Gb} {f' : Fu}, ts.length ≤ B + 200 → (∀ x ∈ ts, x.ok (B + 200)) → 1 ≤ gs.length ∧ gs.length ≤ B + 200 → (∀ x ∈ gs, x.ok (B + 200)) → f'.ok (B + 200) → TurR (B + 200) (xd [.s (ts.map tdD), .s (gs.map gbD), .s ((p.fs.take j).map fuD ++ fuD f' :: (p.fs.drop (j + 1)).map fuD)]) := fun {ts gs f'} h1 h2 h3 h4 h5 => by
    have hfe : (p.fs.take j ++ f' :: p.fs.drop (j + 1)).length = p.fs.length := by
      rw [List.length_append, List.length_cons, List.length_take, List.length_drop]; omega
    refine ⟨⟨ts, gs, p.fs.take j ++ f' :: p.fs.drop (j + 1)⟩, by rw [pgD, List.map_append, List.map_cons], ⟨h1, h3.2, by rw [hfe]; omega, h2, h4, fun x hx => ?_⟩, by rw [hfe]; exact hfs, h3.1⟩
    rcases List.mem_append.1 hx with hx | hx
    · exact ff x (List.mem_of_mem_take hx)
    · rcases List.mem_cons.1 hx with rfl | hx
      · exact h5
      · exact ff x (List.mem_of_mem_drop hx)
  have fin1 : ∀ {f' : Fu}, f'.ok (B + 200) → TurR (B + 200) (xd [.s (p.ts.map tdD), .s (p.gs.map gbD), .s ((p.fs.take j).map fuD ++ fuD f' :: (p.fs.drop (j + 1)).map fuD)]) := fun h => fin tl2 ft ⟨hgs, by omega⟩ fg h
  have fin2 : ∀ {g' : Gb}, g'.ok (B + 200) → TurR (B + 200) (xd [.s (p.ts.map tdD), .s ((p.gs.set j2 g').map gbD), .s ((p.fs.take j).map fuD ++ fuD f :: (p.fs.drop (j + 1)).map fuD)]) := fun {g'} h => fin tl2 ft (by rw [List.length_set]; exact ⟨hgs, by omega⟩) (fun x hx => by
    rcases List.mem_or_eq_of_mem_set hx with hx | rfl
    · exact fg x hx
    · exact h) (ff f (List.mem_of_getElem? hf9))
  have hf0 := hok.f f (List.mem_of_getElem? hf9)
  have hg0 := hok.g g9 (List.mem_of_getElem? hg9)
  have hf0 := hok.f f (List.mem_of_getElem? hf9)
  have hg0 := hok.g g9 (List.mem_of_getElem? hg9)
  have hf0 := hok.f f (List.mem_of_getElem? hf9)
  have hg0 := hok.g g9 (List.mem_of_getElem? hg9)
  have hf0 := hok.f f (List.mem_of_getElem? hf9)
  have hg0 := hok.g g9 (List.mem_of_getElem? hg9)
  have hf0 := hok.f f (List.mem_of_getElem? hf9)
  have hg0 := hok.g g9 (List.mem_of_getElem? hg9)
  have hf0 := hok.f f (List.mem_of_getElem? hf9)
  have hg0 := hok.g g9 (List.mem_of_getElem? hg9)
  obtain ⟨fo1, fo2, fo3, fo4, fo5, fo6, fo7, fo8, fo9⟩ := hf0
  obtain ⟨go1, go2, go3, go4, go5, go6⟩ := hg0
  generalize er a 24 = d
  refine G (T := T) 1000 rfl ?_
  refine If rfl (fun h => ?_) (fun h => ?_)
  · refine G (T := T) 1000 rfl ?_
    refine Skk (T := T) lt2 rfl rfl rfl rfl rfl rfl rfl ⟨rfl, rfl⟩ rfl rfl ?_
    refine G (T := T) 1000 rfl ?_
    refine MS.fze 6 rfl ?_ (by repeat' (first | exact trivial | apply And.intro | rfl))
    refine MS.fze 7 rfl ?_ (by repeat' (first | exact trivial | apply And.intro | rfl))
    refine (SRto.kr 5 rfl rfl rfl rfl).e ?_
    refine MS.fze 5 rfl ?_ (by repeat' (first | exact trivial | apply And.intro | rfl))
    refine MS.fze 4 rfl ?_ (by repeat' (first | exact trivial | apply And.intro | rfl))
    refine MS.fze 3 rfl ?_ (by repeat' (first | exact trivial | apply And.intro | rfl))
    exact Fp (T := T) _ (fin1 (f' := ⟨nm, f.ps, f.res, f.body, f.fl, f.x, f.y⟩) ⟨Nat.le_trans hnmz (by decide), by first | omega | (dsimp only; omega), fun x hx => (fo3 x hx).mono (by omega), fo4, by first | omega | (dsimp only; omega), fo6, by first | omega | (dsimp only; omega), fo8, fo9⟩) rfl rfl
  refine G (T := T) 1000 rfl ?_
  refine If rfl (fun h => ?_) (fun h => ?_)
  · refine G (T := T) 1000 rfl ?_
    refine Sr (T := T) hgr rfl rfl rfl rfl rfl rfl rfl ⟨rfl, rfl⟩ rfl rfl ?_
    rw [ia (g' := ⟨nm, g9.ty, g9.bank, g9.addr, g9.bytes⟩) hg9 rfl]
    refine G (T := T) 1000 rfl ?_
    refine MS.fze 6 rfl ?_ (by repeat' (first | exact trivial | apply And.intro | rfl))
    refine MS.fze 7 rfl ?_ (by repeat' (first | exact trivial | apply And.intro | rfl))
    refine (SRto.kr 5 rfl rfl rfl rfl).e ?_
    refine MS.fze 5 rfl ?_ (by repeat' (first | exact trivial | apply And.intro | rfl))
    refine MS.fze 4 rfl ?_ (by repeat' (first | exact trivial | apply And.intro | rfl))
    refine MS.fze 3 rfl ?_ (by repeat' (first | exact trivial | apply And.intro | rfl))
    exact Fp (T := T) _ (fin2 (g' := ⟨nm, g9.ty, g9.bank, g9.addr, g9.bytes⟩) ⟨Nat.le_trans hnmz (by decide), go2, by first | omega | (dsimp only; omega), go4, go5, by first | omega | (dsimp only; omega)⟩) rfl rfl
  refine G (T := T) 1000 rfl ?_
  refine If rfl (fun h => ?_) (fun h => ?_)
  · refine G (T := T) 1000 rfl ?_
    refine Lr (T := T) hgr rfl rfl rfl rfl ⟨rfl, rfl⟩ rfl rfl ?_
    have hk := bq (n := b) (m := 50) (by omega)
    refine G (T := T) 1000 rfl ?_
    refine Cq (bC (n := b) (m := 50) (by omega) (by omega)) rfl rfl rfl rfl rfl ⟨rfl, rfl⟩ ?_
    generalize er b 50 = k at *
    refine G (T := T) 102 rfl ?_
    refine Aw rfl rfl rfl ⟨rfl, rfl⟩ ?_
    refine G (T := T) 103 rfl ?_
    refine Sw rfl rfl rfl ⟨rfl, rfl⟩ ?_
    generalize IntKind.u16.wrap (g9.addr + _) - 25 = w9
    refine G (T := T) 1000 rfl ?_
    refine Sr (T := T) hgr rfl rfl rfl rfl rfl rfl rfl ⟨rfl, rfl⟩ rfl rfl ?_
    rw [ia (g' := ⟨g9.nm, g9.ty, g9.bank, IntKind.u16.wrap w9, g9.bytes⟩) hg9 rfl]
    refine G (T := T) 1000 rfl ?_
    refine MS.fze 6 rfl ?_ (by repeat' (first | exact trivial | apply And.intro | rfl))
    refine MS.fze 7 rfl ?_ (by repeat' (first | exact trivial | apply And.intro | rfl))
    refine (SRto.kr 5 rfl rfl rfl rfl).e ?_
    refine MS.fze 5 rfl ?_ (by repeat' (first | exact trivial | apply And.intro | rfl))
    refine MS.fze 4 rfl ?_ (by repeat' (first | exact trivial | apply And.intro | rfl))
    refine MS.fze 3 rfl ?_ (by repeat' (first | exact trivial | apply And.intro | rfl))
    exact Fp (T := T) _ (fin2 (g' := ⟨g9.nm, g9.ty, g9.bank, IntKind.u16.wrap w9, g9.bytes⟩) ⟨go1, go2, by first | omega | (dsimp only; omega), go4, w16_rg _, by first | omega | (dsimp only; omega)⟩) rfl rfl
  refine G (T := T) 1000 rfl ?_
  refine If rfl (fun h => ?_) (fun h => ?_)
  · have hk := bq (n := b) (m := 66) (by omega)
    refine G (T := T) 1000 rfl ?_
    refine Cq (bC (n := b) (m := 66) (by omega) (by omega)) rfl rfl rfl rfl rfl ⟨rfl, rfl⟩ ?_
    generalize er b 66 = k at *
    refine G (T := T) 1000 rfl ?_
    refine Sr (T := T) hgr rfl rfl rfl rfl rfl rfl rfl ⟨rfl, rfl⟩ rfl rfl ?_
    rw [ia (g' := ⟨g9.nm, g9.ty, k - 1, g9.addr, g9.bytes⟩) hg9 rfl]
    refine G (T := T) 1000 rfl ?_
    refine MS.fze 6 rfl ?_ (by repeat' (first | exact trivial | apply And.intro | rfl))
    refine MS.fze 7 rfl ?_ (by repeat' (first | exact trivial | apply And.intro | rfl))
    refine (SRto.kr 5 rfl rfl rfl rfl).e ?_
    refine MS.fze 5 rfl ?_ (by repeat' (first | exact trivial | apply And.intro | rfl))
    refine MS.fze 4 rfl ?_ (by repeat' (first | exact trivial | apply And.intro | rfl))
    refine MS.fze 3 rfl ?_ (by repeat' (first | exact trivial | apply And.intro | rfl))
    exact Fp (T := T) _ (fin2 (g' := ⟨g9.nm, g9.ty, k - 1, g9.addr, g9.bytes⟩) ⟨go1, go2, by first | omega | (dsimp only; omega), ⟨by dsimp only; omega, by dsimp only; omega⟩, go5, by first | omega | (dsimp only; omega)⟩) rfl rfl
  refine G (T := T) 1000 rfl ?_
  refine If rfl (fun h => ?_) (fun h => ?_)
  · refine G (T := T) 1000 rfl ?_
    refine Lr (T := T) hgr rfl rfl rfl rfl ⟨rfl, rfl⟩ rfl rfl ?_
    have z1 : (⟨#[120]⟩ : ByteArray).size = 1 := rfl
    refine G (T := T) 1000 rfl ?_
    refine Sr (T := T) hgr rfl rfl rfl rfl rfl rfl rfl ⟨rfl, rfl⟩ rfl rfl ?_
    rw [ia (g' := ⟨g9.nm, g9.ty, g9.bank, g9.addr, g9.bytes ++ ⟨#[120]⟩⟩) hg9 rfl]
    refine G (T := T) 1000 rfl ?_
    refine MS.fze 6 rfl ?_ (by repeat' (first | exact trivial | apply And.intro | rfl))
    refine MS.fze 7 rfl ?_ (by repeat' (first | exact trivial | apply And.intro | rfl))
    refine (SRto.kr 5 rfl rfl rfl rfl).e ?_
    refine MS.fze 5 rfl ?_ (by repeat' (first | exact trivial | apply And.intro | rfl))
    refine MS.fze 4 rfl ?_ (by repeat' (first | exact trivial | apply And.intro | rfl))
    refine MS.fze 3 rfl ?_ (by repeat' (first | exact trivial | apply And.intro | rfl))
    exact Fp (T := T) _ (fin2 (g' := ⟨g9.nm, g9.ty, g9.bank, g9.addr, g9.bytes ++ ⟨#[120]⟩⟩) ⟨go1, go2, by first | omega | (dsimp only; omega), go4, go5, by rw [ByteArray.size_append]; have : (⟨#[120]⟩ : ByteArray).size = 1 := rfl; omega⟩) rfl rfl
  refine G (T := T) 1000 rfl ?_
  refine If rfl (fun h => ?_) (fun h => ?_)
  · have hk := bq (n := b) (m := 5000) (by omega)
    refine G (T := T) 1000 rfl ?_
    refine Cq (bC (n := b) (m := 5000) (by omega) (by omega)) rfl rfl rfl rfl rfl ⟨rfl, rfl⟩ ?_
    generalize er b 5000 = k at *
    refine G (T := T) 1000 rfl ?_
    refine Lr (T := T) hgr rfl rfl rfl rfl ⟨rfl, rfl⟩ rfl rfl ?_
    refine G (T := T) 1000 rfl ?_
    refine Sr (T := T) hgr rfl rfl rfl rfl rfl rfl rfl ⟨rfl, rfl⟩ rfl rfl ?_
    rw [ia (g' := ⟨g9.nm, .mk 5 eS k [g9.ty], g9.bank, g9.addr, g9.bytes⟩) hg9 rfl]
    refine G (T := T) 1000 rfl ?_
    refine MS.fze 6 rfl ?_ (by repeat' (first | exact trivial | apply And.intro | rfl))
    refine MS.fze 7 rfl ?_ (by repeat' (first | exact trivial | apply And.intro | rfl))
    refine (SRto.kr 5 rfl rfl rfl rfl).e ?_
    refine MS.fze 5 rfl ?_ (by repeat' (first | exact trivial | apply And.intro | rfl))
    refine MS.fze 4 rfl ?_ (by repeat' (first | exact trivial | apply And.intro | rfl))
    refine MS.fze 3 rfl ?_ (by repeat' (first | exact trivial | apply And.intro | rfl))
    exact Fp (T := T) _ (fin2 (g' := ⟨g9.nm, .mk 5 eS k [g9.ty], g9.bank, g9.addr, g9.bytes⟩) ⟨go1, ⟨⟨by omega, by omega⟩, by decide, ⟨by omega, by omega⟩, go2, trivial⟩, by simp only [Ty4.size, Ty4.sizes]; omega, go4, go5, by first | omega | (dsimp only; omega)⟩) rfl rfl
  refine G (T := T) 1000 rfl ?_
  refine If rfl (fun h => ?_) (fun h => ?_)
  · refine G (T := T) 1000 rfl ?_
    refine Lkk (T := T) lt2 rfl rfl rfl rfl ⟨rfl, rfl⟩ rfl rfl ?_
    refine G (T := T) 1000 rfl ?_
    refine Lr (T := T) hgr rfl rfl rfl rfl ⟨rfl, rfl⟩ rfl rfl ?_
    refine G (T := T) 1000 rfl ?_
    refine Skk (T := T) lt2 rfl rfl rfl rfl rfl rfl rfl ⟨rfl, rfl⟩ rfl rfl ?_
    refine G (T := T) 1000 rfl ?_
    refine MS.fze 6 rfl ?_ (by repeat' (first | exact trivial | apply And.intro | rfl))
    refine MS.fze 7 rfl ?_ (by repeat' (first | exact trivial | apply And.intro | rfl))
    refine (SRto.kr 5 rfl rfl rfl rfl).e ?_
    refine MS.fze 5 rfl ?_ (by repeat' (first | exact trivial | apply And.intro | rfl))
    refine MS.fze 4 rfl ?_ (by repeat' (first | exact trivial | apply And.intro | rfl))
    refine MS.fze 3 rfl ?_ (by repeat' (first | exact trivial | apply And.intro | rfl))
    have h9 := fin1 (f' := ⟨f.nm, f.ps ++ [⟨⟨#[97]⟩, g9.ty⟩], f.res, f.body, f.fl, f.x, f.y⟩) ⟨fo1, by rw [List.length_append]; show f.ps.length + 1 ≤ _; omega, fun x hx => by
        rcases List.mem_append.1 hx with hx | hx
        · exact (fo3 x hx).mono (by omega)
        · rw [List.mem_singleton.1 hx]; exact ⟨(by decide : (⟨#[97]⟩ : ByteArray).size ≤ 1000000), go2, by show g9.ty.size ≤ _; omega⟩, fo4, by first | omega | (dsimp only; omega), fo6, by first | omega | (dsimp only; omega), fo8, fo9⟩
    simp only [fuD, List.map_append, List.map_cons, List.map_nil] at h9
    exact Fp (T := T) _ h9 rfl rfl
  refine G (T := T) 1000 rfl ?_
  refine If rfl (fun h => ?_) (fun h => ?_)
  · refine G (T := T) 1000 rfl ?_
    refine Lr (T := T) hgr rfl rfl rfl rfl ⟨rfl, rfl⟩ rfl rfl ?_
    refine G (T := T) 1000 rfl ?_
    refine Skk (T := T) lt2 rfl rfl rfl rfl rfl rfl rfl ⟨rfl, rfl⟩ rfl rfl ?_
    refine G (T := T) 1000 rfl ?_
    refine MS.fze 6 rfl ?_ (by repeat' (first | exact trivial | apply And.intro | rfl))
    refine MS.fze 7 rfl ?_ (by repeat' (first | exact trivial | apply And.intro | rfl))
    refine (SRto.kr 5 rfl rfl rfl rfl).e ?_
    refine MS.fze 5 rfl ?_ (by repeat' (first | exact trivial | apply And.intro | rfl))
    refine MS.fze 4 rfl ?_ (by repeat' (first | exact trivial | apply And.intro | rfl))
    refine MS.fze 3 rfl ?_ (by repeat' (first | exact trivial | apply And.intro | rfl))
    exact Fp (T := T) _ (fin1 (f' := ⟨f.nm, f.ps, g9.ty, f.body, f.fl, f.x, f.y⟩) ⟨fo1, by first | omega | (dsimp only; omega), fun x hx => (fo3 x hx).mono (by omega), go2, by first | omega | (dsimp only; omega), fo6, by first | omega | (dsimp only; omega), fo8, fo9⟩) rfl rfl
  refine G (T := T) 1000 rfl ?_
  refine If rfl (fun h => ?_) (fun h => ?_)
  · refine G (T := T) 1000 rfl ?_
    refine Skk (T := T) lt2 rfl rfl rfl rfl rfl rfl rfl ⟨rfl, rfl⟩ rfl rfl ?_
    have hk := bq (n := b) (m := 3) (by omega)
    refine G (T := T) 1000 rfl ?_
    refine Cq (bC (n := b) (m := 3) (by omega) (by omega)) rfl rfl rfl rfl rfl ⟨rfl, rfl⟩ ?_
    generalize er b 3 = k at *
    refine G (T := T) 1000 rfl ?_
    refine Skk (T := T) lt2 rfl rfl rfl rfl rfl rfl rfl ⟨rfl, rfl⟩ rfl rfl ?_
    refine G (T := T) 1000 rfl ?_
    refine MS.fze 6 rfl ?_ (by repeat' (first | exact trivial | apply And.intro | rfl))
    refine MS.fze 7 rfl ?_ (by repeat' (first | exact trivial | apply And.intro | rfl))
    refine (SRto.kr 5 rfl rfl rfl rfl).e ?_
    refine MS.fze 5 rfl ?_ (by repeat' (first | exact trivial | apply And.intro | rfl))
    refine MS.fze 4 rfl ?_ (by repeat' (first | exact trivial | apply And.intro | rfl))
    refine MS.fze 3 rfl ?_ (by repeat' (first | exact trivial | apply And.intro | rfl))
    exact Fp (T := T) _ (fin1 (f' := ⟨f.nm, f.ps, f.res, f.body, true, k, 4160⟩) ⟨fo1, by first | omega | (dsimp only; omega), fun x hx => (fo3 x hx).mono (by omega), fo4, by first | omega | (dsimp only; omega), fo6, by first | omega | (dsimp only; omega), ⟨by show _ ≤ k; omega, by show k ≤ _; omega⟩, ⟨by show (0 : Int) ≤ 4160; omega, by show (4160 : Int) ≤ _; omega⟩⟩) rfl rfl
  refine G (T := T) 1000 rfl ?_
  refine If rfl (fun h => ?_) (fun h => ?_)
  · obtain ⟨j1, e1, hj1, he1, m1⟩ := cQ (l := abL) (n := c) (m := 2) rfl (by omega)
    obtain ⟨j3, e2, hj3, he3, m3⟩ := cQ (l := [⟨#[83]⟩, ⟨#[84]⟩, nm]) (n := c) (m := 3) rfl (by omega)
    have hm2 := bC (pk := pk) (n := c) (m := 2) (by omega) (by omega)
    have hm3 := bC (pk := pk) (n := c) (m := 3) (by omega) (by omega)
    rw [hj1] at hm2
    rw [hj3] at hm3
    have z1 : e1.size ≤ 1000000 := (by decide : ∀ s ∈ abL, s.size ≤ 1000000) e1 m1
    have z2 : e2.size ≤ 1000000 := by
      simp only [List.mem_cons, List.not_mem_nil, or_false] at m3
      rcases m3 with rfl | rfl | rfl
      · decide
      · decide
      · omega
    refine G (T := T) 1000 rfl ?_
    refine Lr (T := T) hgr rfl rfl rfl rfl ⟨rfl, rfl⟩ rfl rfl ?_
    refine G (T := T) 1000 rfl ?_
    refine Cq hm2 rfl rfl rfl rfl rfl ⟨rfl, rfl⟩ ?_
    refine G (T := T) 190 rfl ?_
    refine Ix (T := T) (rows := abL.map bM) j1 (ab he1) rfl rfl rfl rfl ⟨rfl, rfl⟩ rfl rfl ?_
    refine G (T := T) 1000 rfl ?_
    refine Cq hm3 rfl rfl rfl rfl rfl ⟨rfl, rfl⟩ ?_
    refine G (T := T) 197 rfl ?_
    refine Ix (T := T) (rows := [⟨#[83]⟩, ⟨#[84]⟩, nm].map bM) j3 (ab he3) rfl rfl rfl rfl ⟨rfl, rfl⟩ rfl rfl ?_
    refine G (T := T) 1000 rfl ?_
    refine MS.fze 6 rfl ?_ (by repeat' (first | exact trivial | apply And.intro | rfl))
    refine MS.fze 7 rfl ?_ (by repeat' (first | exact trivial | apply And.intro | rfl))
    refine (SRto.kr 5 rfl rfl rfl rfl).e ?_
    refine MS.fze 5 rfl ?_ (by repeat' (first | exact trivial | apply And.intro | rfl))
    refine MS.fze 4 rfl ?_ (by repeat' (first | exact trivial | apply And.intro | rfl))
    refine MS.fze 3 rfl ?_ (by repeat' (first | exact trivial | apply And.intro | rfl))
    have h9 := fin (ts := p.ts ++ [⟨nm, false, [⟨⟨#[97]⟩, g9.ty⟩, ⟨e1, .mk 4 e2 0 []⟩]⟩]) (gs := p.gs) (f' := f) (by rw [List.length_append]; show p.ts.length + 1 ≤ _; have := hok.tl; omega) (fun x hx => by
        rcases List.mem_append.1 hx with hx | hx
        · exact ft x hx
        · rw [List.mem_singleton.1 hx]
          refine ⟨Nat.le_trans hnmz (by decide), by show 2 ≤ _; omega, fun q hq => ?_⟩
          simp only [List.mem_cons, List.not_mem_nil, or_false] at hq
          rcases hq with rfl | rfl
          · exact ⟨(by decide : (⟨#[97]⟩ : ByteArray).size ≤ 1000000), go2, by show g9.ty.size ≤ _; omega⟩
          · exact ⟨z1, ⟨⟨by omega, by omega⟩, z2, ⟨by omega, by omega⟩, trivial⟩, by simp only [Ty4.size, Ty4.sizes]; omega⟩) ⟨hgs, by omega⟩ fg (ff f (List.mem_of_getElem? hf9))
    rw [List.map_append] at h9
    exact Fp (T := T) _ h9 rfl rfl
  refine G (T := T) 1000 rfl ?_
  refine If rfl (fun h => ?_) (fun h => ?_)
  · have hk := bq (n := b) (m := 40) (by omega)
    refine G (T := T) 1000 rfl ?_
    refine Cq (bC (n := b) (m := 40) (by omega) (by omega)) rfl rfl rfl rfl rfl ⟨rfl, rfl⟩ ?_
    generalize er b 40 = k at *
    refine G (T := T) 218 rfl ?_
    rw [show IntKind.u16.wrap (240 + k) = 240 + k from kL (by omega) (by omega)]
    refine G (T := T) 1000 rfl ?_
    refine MS.fze 6 rfl ?_ (by repeat' (first | exact trivial | apply And.intro | rfl))
    refine MS.fze 7 rfl ?_ (by repeat' (first | exact trivial | apply And.intro | rfl))
    refine (SRto.kr 5 rfl rfl rfl rfl).e ?_
    refine MS.fze 5 rfl ?_ (by repeat' (first | exact trivial | apply And.intro | rfl))
    refine MS.fze 4 rfl ?_ (by repeat' (first | exact trivial | apply And.intro | rfl))
    refine MS.fze 3 rfl ?_ (by repeat' (first | exact trivial | apply And.intro | rfl))
    have h9 := fin (ts := p.ts) (gs := p.gs ++ [⟨⟨#[109, 111, 114, 101]⟩, .mk 5 eS 3 [.mk 2 eS 0 []], 1, 240 + k, ⟨#[97, 98, 99]⟩⟩]) (f' := f) tl2 ft (by rw [List.length_append]; show 1 ≤ p.gs.length + 1 ∧ p.gs.length + 1 ≤ _; omega) (fun x hx => by
        rcases List.mem_append.1 hx with hx | hx
        · exact fg x hx
        · rw [List.mem_singleton.1 hx]
          exact ⟨(by decide : (⟨#[109, 111, 114, 101]⟩ : ByteArray).size ≤ 1000000), ⟨⟨by omega, by omega⟩, by decide, ⟨by omega, by omega⟩, ⟨⟨by omega, by omega⟩, by decide, ⟨by omega, by omega⟩, trivial⟩, trivial⟩, by simp only [Ty4.size, Ty4.sizes]; omega, ⟨by show _ ≤ (1 : Int); omega, by show (1 : Int) ≤ _; omega⟩, ⟨by show 0 ≤ 240 + k; omega, by show 240 + k ≤ _; omega⟩, Nat.le_trans (by decide : (3 : Nat) ≤ 200) (by omega)⟩) (ff f (List.mem_of_getElem? hf9))
    rw [List.map_append] at h9
    exact Fp (T := T) _ h9 rfl rfl
  refine G (T := T) 1000 rfl ?_
  refine If rfl (fun h => ?_) (fun h => ?_)
  · have l5 : (f.body.map smD).length = f.body.length := List.length_map ..
    have l6 := Sm.len_le f.body
    have hlast : ∀ z : List D, (f.body.map smD ++ [z])[f.body.length]? = some z := fun z => by rw [← l5, List.getElem?_append_right (Nat.le_refl _), Nat.sub_self]; rfl
    have hsl : ∀ z ds : List D, ds.length = z.length → il (f.body.map smD ++ [z]) f.body.length 0 ds = f.body.map smD ++ [ds] := fun z ds h => by have := mH (rows := f.body.map smD) h; rwa [l5] at this
    refine G (T := T) 1000 rfl ?_
    refine Lkk (T := T) lt2 rfl rfl rfl rfl ⟨rfl, rfl⟩ rfl rfl ?_
    refine G (T := T) 235 rfl ?_
    refine Iq (T := T) f.body.length rfl rfl rfl rfl rfl ⟨rfl, rfl⟩ rfl (by omega) rfl ?_
    refine G (T := T) 1000 rfl ?_
    refine Sr (T := T) (hlast _) rfl rfl rfl rfl rfl rfl rfl ⟨rfl, rfl⟩ rfl rfl ?_
    rw [hsl _ _ (by rfl)]
    refine G (T := T) 1000 rfl ?_
    refine Skk (T := T) lt2 rfl rfl rfl rfl rfl rfl rfl ⟨rfl, rfl⟩ rfl rfl ?_
    refine G (T := T) 1000 rfl ?_
    refine MS.fze 6 rfl ?_ (by repeat' (first | exact trivial | apply And.intro | rfl))
    refine MS.fze 7 rfl ?_ (by repeat' (first | exact trivial | apply And.intro | rfl))
    refine (SRto.kr 5 rfl rfl rfl rfl).e ?_
    refine MS.fze 5 rfl ?_ (by repeat' (first | exact trivial | apply And.intro | rfl))
    refine MS.fze 4 rfl ?_ (by repeat' (first | exact trivial | apply And.intro | rfl))
    refine MS.fze 3 rfl ?_ (by repeat' (first | exact trivial | apply And.intro | rfl))
    have h9 := fin1 (f' := ⟨f.nm, f.ps, f.res, f.body ++ [.mk 14 eS ty4z 0 [.mk 14 nm 0 []] [] [] []], f.fl, f.x, f.y⟩) ⟨fo1, by first | omega | (dsimp only; omega), fun x hx => (fo3 x hx).mono (by omega), fo4, by first | omega | (dsimp only; omega), Sm.oks_append.2 ⟨fo6, (show Sm.ok (.mk 14 eS ty4z 0 [.mk 14 nm 0 []] [] [] []) from ⟨⟨by omega, by omega⟩, by decide, aq, ⟨by omega, by omega⟩, ⟨⟨⟨by omega, by omega⟩, by omega, ⟨by omega, by omega⟩, trivial⟩, trivial⟩, trivial, trivial, trivial⟩), trivial⟩, by rw [Sm.sizes_append]; simp only [Sm.sizes, Sm.size, Sm.csizes, Ex.sizes, Ex.size, ty4z, Ty4.size, Ty4.sizes]; omega, fo8, fo9⟩
    simp only [fuD, aJ, dv, List.map_append, List.map_cons, List.map_nil] at h9
    exact Fp (T := T) _ h9 rfl rfl
  have l5 : (f.body.map smD).length = f.body.length := List.length_map ..
  have l6 := Sm.len_le f.body
  have hlast : ∀ z : List D, (f.body.map smD ++ [z])[f.body.length]? = some z := fun z => by rw [← l5, List.getElem?_append_right (Nat.le_refl _), Nat.sub_self]; rfl
  have hsl : ∀ z ds : List D, ds.length = z.length → il (f.body.map smD ++ [z]) f.body.length 0 ds = f.body.map smD ++ [ds] := fun z ds h => by have := mH (rows := f.body.map smD) h; rwa [l5] at this
  refine G (T := T) 1000 rfl ?_
  refine Ce (lz (q0 := a) (q1 := b) (q2 := c)) rfl rfl rfl rfl rfl ⟨rfl, rfl⟩ ?_
  rintro _ ⟨⟨k, sn, sy, n, es, bd, el, cs⟩, rfl, so, sz⟩
  rw [aJ]
  refine G (T := T) 1000 rfl ?_
  refine If rfl (fun h => ?_) (fun h => ?_)
  · refine Zc 7 rfl ?_
    refine G (T := T) 60 rfl ?_
    refine Br (T := T) rfl rfl rfl rfl rfl ⟨rfl, rfl⟩ ?_
    refine G (T := T) 1000 rfl ?_
    refine Lkk (T := T) lt2 rfl rfl rfl rfl ⟨rfl, rfl⟩ rfl rfl ?_
    refine G (T := T) 65 rfl ?_
    refine Ap (T := T) l5.symm (iM _) rfl rfl rfl rfl rfl rfl ⟨rfl, rfl⟩ (by omega) (by omega) ?_
    refine G (T := T) 1000 rfl ?_
    refine Skk (T := T) lt2 rfl rfl rfl rfl rfl rfl rfl ⟨rfl, rfl⟩ rfl rfl ?_
    refine G (T := T) 1000 rfl ?_
    refine MS.fze 6 rfl ?_ (by repeat' (first | exact trivial | apply And.intro | rfl))
    refine MS.fze 10 rfl ?_ (by repeat' (first | exact trivial | apply And.intro | rfl))
    refine (SRto.kr 5 rfl rfl rfl rfl).e ?_
    refine MS.fze 5 rfl ?_ (by repeat' (first | exact trivial | apply And.intro | rfl))
    refine MS.fze 4 rfl ?_ (by repeat' (first | exact trivial | apply And.intro | rfl))
    refine MS.fze 3 rfl ?_ (by repeat' (first | exact trivial | apply And.intro | rfl))
    have h9 := fin1 (f' := ⟨f.nm, f.ps, f.res, .mk k sn sy n es bd el cs :: f.body, f.fl, f.x, f.y⟩) ⟨fo1, by first | omega | (dsimp only; omega), fun x hx => (fo3 x hx).mono (by omega), fo4, by first | omega | (dsimp only; omega), ⟨so, fo6⟩, by simp only [Sm.sizes]; omega, fo8, fo9⟩
    simp only [fuD, aJ, dv, List.map_append, List.map_cons, List.map_nil] at h9
    exact Fp (T := T) _ h9 rfl rfl
  · refine G (T := T) 1000 rfl ?_
    refine Lkk (T := T) lt2 rfl rfl rfl rfl ⟨rfl, rfl⟩ rfl rfl ?_
    refine G (T := T) 76 rfl ?_
    refine Iq (T := T) f.body.length rfl rfl rfl rfl rfl ⟨rfl, rfl⟩ rfl (by omega) rfl ?_
    refine G (T := T) 1000 rfl ?_
    refine Sr (T := T) (hlast _) rfl rfl rfl rfl rfl rfl rfl ⟨rfl, rfl⟩ rfl rfl ?_
    rw [hsl _ _ (by rfl)]
    refine G (T := T) 1000 rfl ?_
    refine Skk (T := T) lt2 rfl rfl rfl rfl rfl rfl rfl ⟨rfl, rfl⟩ rfl rfl ?_
    refine G (T := T) 1000 rfl ?_
    refine MS.fze 6 rfl ?_ (by repeat' (first | exact trivial | apply And.intro | rfl))
    refine MS.fze 7 rfl ?_ (by repeat' (first | exact trivial | apply And.intro | rfl))
    refine (SRto.kr 5 rfl rfl rfl rfl).e ?_
    refine MS.fze 5 rfl ?_ (by repeat' (first | exact trivial | apply And.intro | rfl))
    refine MS.fze 4 rfl ?_ (by repeat' (first | exact trivial | apply And.intro | rfl))
    refine MS.fze 3 rfl ?_ (by repeat' (first | exact trivial | apply And.intro | rfl))
    have h9 := fin1 (f' := ⟨f.nm, f.ps, f.res, f.body ++ [.mk k sn sy n es bd el cs], f.fl, f.x, f.y⟩) ⟨fo1, by first | omega | (dsimp only; omega), fun x hx => (fo3 x hx).mono (by omega), fo4, by first | omega | (dsimp only; omega), Sm.oks_append.2 ⟨fo6, so, trivial⟩, by rw [Sm.sizes_append]; simp only [Sm.sizes]; omega, fo8, fo9⟩
    simp only [fuD, aJ, dv, List.map_append, List.map_cons, List.map_nil] at h9
    exact Fp (T := T) _ h9 rfl rfl
end
end Go.Proofs.YtlmahofogapkgaaGreatDoor.X
namespace Go.Proofs.YtlmahofogapkgaaGreatDoor.K
open Go Go.RowKit Go.ChangeShapes Go.WideShapes Go.Deep
def iZ (k : IntKind) (l : List Int) : List D := (l.map (Value.int k)).map D.c
abbrev InK (k : IntKind) (n : Int) : Prop := k.min ≤ n ∧ n ≤ k.max
theorem lit_in {k : IntKind} {n : Int} (h : (Lit.int k n).wf = true) : InK k n := by
  unfold Lit.wf at h
  simp only [Bool.and_eq_true, decide_eq_true_eq] at h
  exact h
theorem inK_i64 {n : Int} (h : InK .i64 n) : -9223372036854775808 ≤ n ∧ n ≤ 9223372036854775807 := by
  have e1 : IntKind.i64.min = -9223372036854775808 := by decide
  have e2 : IntKind.i64.max = 9223372036854775807 := by decide
  obtain ⟨h1, h2⟩ := h
  rw [e1] at h1; rw [e2] at h2
  exact ⟨h1, h2⟩
def jd (W : World) : Hp := fun b => W.heap[b]?
theorem St.all (W : World) : St W (jd W) [] W := ⟨rfl, ⟨rfl, by omega⟩, rfl, fun _ _ h => h, by simp, by simp, by simp⟩
theorem spot_none {W : World} {a : Addr} {v : Value} (h : W.cell? a = some v) : a = ⟨a.block, a.off, none⟩ := by
  obtain ⟨b, o, s⟩ := a
  cases s with
  | none => rfl
  | some s =>
    unfold World.cell? at h
    split at h <;> simp at h
theorem cel_of {W : World} {b o : Nat} {v : Value} (h : W.cell? ⟨b, o, none⟩ = some v) : cel (jd W) b o = some v := by
  unfold World.cell? at h
  unfold cel jd
  split at h
  · rename_i hb
    rw [hb]
    simpa using h
  · cases h
theorem add_zero' (a : Addr) : a.add 0 = a := by unfold Addr.add; simp
section
variable {P : Program} {H : Type} {enc : TypeId × Value → H} {W : World}
theorem pZ {t e : TypeId} {k : IntKind} (ht : P.underlying t = some (.slice e)) (he : P.underlying e = some (.int k)) (hc : P.cellsOf e = 1) {a : Option Addr} {len cap : Nat} {d : DataW H} {ps : List MemPlace}
    (h : DataW.Trod enc P W 0 (fun _ => true) true t (.slice a len cap) d ps) : ∃ l : List Int, (∀ n ∈ l, InK k n) ∧ rd (jd W) (.s 1 (iZ k l)) (.slice a len cap) := by
  obtain ⟨fuel, hf⟩ := h
  have hcs : (Value.slice a len cap).cells.toList = [.slice a len cap] := rfl
  rw [hcs] at hf
  rcases open_ints ht he hc hf with ⟨hcs, _⟩ | ⟨a, len', cap', zs, hcs, _, hl, hm, hz, _, hcell, hwz⟩
  · simp only [List.cons.injEq, Value.slice.injEq, and_true] at hcs
    obtain ⟨rfl, rfl, rfl⟩ := hcs
    exact ⟨[], by simp, rd.nil _ _⟩
  · simp only [List.cons.injEq, Value.slice.injEq, and_true] at hcs
    obtain ⟨rfl, rfl, rfl⟩ := hcs
    simp only [if_true] at hz
    refine ⟨zs.take len, fun n hn => ?_, ?_⟩
    · exact lit_in (hwz n (List.mem_of_mem_take hn))
    · simp only [rd]
      refine ⟨_, _, _, rfl, by simp [iZ]; omega, hl, by simpa [maxLen] using hm, ?_⟩
      by_cases h0 : len = 0
      · exact .inl h0
      · have e := hcell 0 (by omega)
        rw [add_zero'] at e
        have ea := spot_none e
        refine .inr ⟨a.block, a.off, by rw [← ea], rds.mk fun i x hx => ?_⟩
        simp only [iZ, List.getElem?_map, List.getElem?_take] at hx
        split at hx
        · rename_i hlt
          have h1 := hcell i (by omega)
          have h2 : zs[i]? = some zs[i] := List.getElem?_eq_getElem (by omega)
          rw [h2] at hx
          simp only [Option.map_some, Option.some.injEq] at hx
          subst hx
          refine ⟨.int k zs[i], ?_, by simp [rd]⟩
          rw [ea, cB] at h1
          rw [List.getD_eq_getElem?_getD, h2] at h1
          exact cel_of h1
        · simp at hx
theorem mI (hl : laidOutB P = true) {W' : World} (hb : ∀ k, k < W.heap.size → W'.heap[k]? = W.heap[k]?) {sp : Nat → Bool} : ∀ {ts : List TypeId} {vs : List Value} {ds : List (DataW H)} {ps : List MemPlace},
    (ts.all fun t => P.readableRec t && decide (t < P.types.size)) = true → DataW.TrodAll enc P W 0 (fun _ => true) true ts vs ds ps → (∀ x ∈ ps, x.block < W.heap.size) → (∀ x ∈ ps, sp x.block = true) → DataW.TrodAll enc P W' 0 sp true ts vs ds ps
  | [], [], [], _, _, h, _, _ => h
  | t :: ts, v :: vs, d :: ds, _, hts, h, hlt, hsp => by
    obtain ⟨p, q, h1, h2, rfl⟩ := h
    simp only [List.all_cons, Bool.and_eq_true, decide_eq_true_eq] at hts
    refine ⟨p, q, WideElems.Trod_stays hl hts.1.1 hts.1.2 h1 (fun x hx => ?_) (fun x hx => hsp x (List.mem_append_left _ hx)), mI hl hb hts.2 h2 (fun x hx => hlt x (List.mem_append_right _ hx)) (fun x hx => hsp x (List.mem_append_right _ hx)), rfl⟩
    have hx' := hlt x (List.mem_append_left _ hx)
    cases x with
    | cell b o => exact World.cell?_of_block (w := W) (hb b hx')
    | map b => exact hb b hx'
theorem law_post {f : Func} {s : ChangeSpec} {apart fresh handsOn again : Bool} {W' : World} {args : Array Value} {ds gs : List (DataW H)} {cK : List MemPlace} {bt : TypeId} (hl : laidOutB P = true)
    (hW : DataW.Whole enc P f.params.toList s.vars apart W args.toList ds gs cK) (hvs : s.vars = []) (hfn : s.fn H (ds ++ gs) = { results := [.lit (.bool true)], args := ds }) (hrt : f.resultTypes = #[bt]) (hbt : P.underlying bt = some .bool)
    (hts : (f.params.toList.all fun t => P.readableRec t && decide (t < P.types.size)) = true)
    (hos : W'.os = W.os) (hout : W'.output = W.output) (hb : ∀ k, k < W.heap.size → W'.heap[k]? = W.heap[k]?) : s.post enc P f apart fresh handsOn again W args (.bool true) W' := by
  have hlt := hW.lt
  have hW0 := hW
  obtain ⟨p, q, hA, hV, rfl, hfz, hnd⟩ := hW
  have hq : q = [] := by
    rw [hvs] at hV
    obtain ⟨_, rfl⟩ := trodVars_none hV
    rfl
  subst hq
  have hg : gs = [] := by
    rw [hvs] at hV
    obtain ⟨rfl, _⟩ := trodVars_none hV
    rfl
  subst hg
  simp only [List.append_nil] at hlt hfz hnd hW0
  have hres : ∀ (b : Nat) (sp : Nat → Bool) (hd : Bool), DataW.TrodAll enc P W' b sp hd f.resultTypes.toList ((Value.bool true).resultList f.resultTypes.size) (s.fn H (ds ++ [])).results [] := by
    intro b sp hd
    rw [hfn, hrt]
    exact trodAll_mk1 (shut_bool hbt true)
  have hargs : ∀ sp : Nat → Bool, (∀ x ∈ p, sp x.block = true) → DataW.TrodAll enc P W' 0 sp true f.params.toList args.toList (s.fn H (ds ++ [])).args p := by
    intro sp hsp
    rw [hfn]
    exact mI hl hb hts hA hlt hsp
  have hvars : ∀ sp : Nat → Bool, DataW.TrodVars enc P W' sp s.vars (s.fn H (ds ++ [])).vars [] := by
    intro sp
    rw [hfn, hvs]
    rfl
  have hok : ∀ (j : Nat) (t : TypeId) (r : Value), f.resultTypes[j]? = some t → ((Value.bool true).resultList f.resultTypes.size)[j]? = some r → Value.okWide P W' .any 0 t r := by
    rw [hrt]
    intro j t r hj hr
    match j, hj, hr with
    | 0, hj, hr =>
      simp [Value.resultList] at hj hr
      subst hj; subst hr
      simp [Value.okWide, hbt, Cell.okWide, Cell.ok]
    | j + 1, hj, hr => simp at hj
  have hk : W.keptBut W' (fun x => x ∈ p ∧ (x ∈ ([] : List MemPlace) ∨ x ∈ p ∨ x ∈ ([] : List MemPlace))) := by
    refine ⟨hos, hout, fun i hi => ?_⟩
    rw [hb i hi]
    split <;> simp_all
  have hfz' : W'.noneFrozen p := by
    intro b off hp
    have := hfz b off hp
    rw [← this]
    exact World.frozen?_of_block (w := W) (hb b (hlt _ hp))
  refine ⟨ds, [], p, [], p, [], by simpa using hW0, hres _ _ _, hargs _ (fun x hx => by simpa using hlt x hx), hvars _, hk, fun _ => ⟨hok, _, _, ([] ++ p) ++ [], ⟨[] ++ p, [], trodAll_append (hargs _ (fun _ _ => rfl)) (hres _ _ _), hvars _, rfl, by simpa using hfz', fun ha => by simpa using hnd ha⟩, fun x hx _ => by simpa using hx⟩⟩
end
section
end
end Go.Proofs.YtlmahofogapkgaaGreatDoor.K
namespace Go.Proofs.YtlmahofogapkgaaGreatDoor.X
open Go Go.RowKit K
theorem mJ {H : Hp} {b : Nat} {k : IntKind} : ∀ {l : List Int} {o : Nat}, K.rds H b o (iZ k l) → rdr H b 1 o (l.map fun n => [.c (.int k n)])
  | [], o, _ => by simp only [List.map_nil, rdr]
  | n :: l, o, h => by
    simp only [iZ, List.map_cons, K.rds] at h
    simp only [List.map_cons, rdr, rds]
    obtain ⟨⟨u, h1, h2⟩, h3⟩ := h
    exact ⟨⟨rfl, ⟨u, h1, by simp only [rd]; exact ⟨h2, rfl⟩⟩, trivial⟩, mJ (l := l) h3⟩
theorem rd_kints {H : Hp} {k : IntKind} {l : List Int} {v : Value} (h : K.rd H (.s 1 (iZ k l)) v) : rd H (.s (l.map fun n => [.c (.int k n)])) v := by
  simp only [K.rd] at h
  obtain ⟨A, n, c, rfl, h1, h2, h3, h4⟩ := h
  have hn : n = (l.map fun n => [D.c (.int k n)]).length := by simpa [iZ] using h1.symm
  simp only [rd]
  refine ⟨A, c, 1, by rw [hn], by rw [← hn]; exact h2, (by simpa [maxLen] using h3), ?_⟩
  rcases h4 with h4 | ⟨b, o, rfl, h4⟩
  · exact .inl (List.eq_nil_of_length_eq_zero (by rw [← hn]; exact h4))
  · exact .inr ⟨b, o, rfl, mJ h4⟩
open Go.Proofs
def pkV : Pk := ⟨default, False, fun H => TabH H ∧ VarH H, fun hl h => ⟨TabH.mono hl h.1, VarH.mono hl h.2⟩⟩
theorem res_true {P : Program} {f : FuncId} {vals : List Value} {w0 : World} {own : List Seg} {H : Hp} (h : K.Fn P f vals w0 H own (fun r o H' => (xb true).rel (fun _ _ => none) H' r ∧ o = own ∧ Le H H')) : K.Fn P f vals w0 H own (fun r o H' => r = .bool true ∧ o = own ∧ Le H H') :=
  h.mono fun r o H' ⟨h1, h2, h3⟩ => ⟨by
    simp only [XV.rel, XA.rel, XC.rel, rd] at h1
    exact h1.1, h2, h3⟩
end Go.Proofs.YtlmahofogapkgaaGreatDoor.X
namespace Go.Proofs.YtlmahofogapkgaaGreatDoor.K
open Go Go.RowKit Go.Proofs
end Go.Proofs.YtlmahofogapkgaaGreatDoor.K
namespace Go.Proofs.YtlmahofogapkgaaGreatDoor.X
section
open Go Go.RowKit Go.Proofs K
variable {pk : Pk}
theorem MP.some {p : Pg} (h : MP p) : 1 ≤ p.fs.length ∧ 1 ≤ p.gs.length := by
  obtain ⟨tn, s1, s2, fs, hd, _, _, _, rfl, hl1, _⟩ := h
  constructor
  · show 1 ≤ (fs ++ hd).length; rw [List.length_append]; omega
  · show 1 ≤ (fT tn ++ [gbT s1, gbW s2]).length; rw [List.length_append]; simp only [List.length_cons, List.length_nil]; omega
theorem zero_ft : iL Tr.zero = false := by decide +kernel
theorem lp (hT : ∀ H, pk.hy H → TabH H) (hV : ∀ H, pk.hy H → VarH H) {l : List Int} {q0 q1 q2 : Int} (h1 : ∀ n ∈ l, I64 n) (i0 : I64 q0) (i1 : I64 q1) (i2 : I64 q2) : XQ Tryz.prog pk 5 [xr (l.map iu), xd [.c (.int .i64 q0), .c (.int .i64 q1), .c (.int .i64 q2)]] (xb true) := by
  refine XQ.en Tryz.func5 Tryz.ntmps5 (fun w0 own H V v0 hf => ?_)
  refine G (T := T) 1000 rfl ?_
  refine Cq (pQ hT) rfl rfl rfl rfl rfl ⟨rfl, rfl⟩ ?_
  refine G (T := T) 100002 rfl ?_
  refine Ods (T := T) [0, 2, 4, 1, 3, 5] rfl ?_
  refine G (T := T) 1000 rfl ?_
  refine Ce (pr h1) rfl rfl rfl rfl rfl ⟨rfl, rfl⟩ ?_
  rintro _ ⟨p0, rfl, hpm⟩
  obtain ⟨hr0, hok0⟩ := hpm.facts
  obtain ⟨hfs, hgs⟩ := hpm.some
  refine G (T := T) 1000 rfl ?_
  refine Ce (pY (B := BG) hok0 (by decide) hfs hgs (a := q0) (b := q1) (c := q2)) rfl rfl rfl rfl rfl ⟨rfl, rfl⟩ ?_
  rintro _ ⟨p, rfl, hok, _⟩
  have hR := ref_Right (pk := pk) (B := BG + 200) (by decide) hok
  have hTT := eV (pk := pk) hT (B := BG + 200) (by decide) hok
  have hE := mr (pk := pk) (p := p) (B := BG + 200) hok (by decide)
  refine G (T := T) 1000 rfl ?_
  refine Cq hTT rfl rfl rfl rfl rfl ⟨rfl, rfl⟩ ?_
  refine G (T := T) 1000 rfl ?_
  cases hr : rPg p with
  | true =>
    have hlo := lo_tree (B := BG + 200) (by decide) hr hok
    have e := jPg_of (back0 hr hok)
    have hF := pt hT hV hlo (B := BG + 200) (by decide) (by rw [e]; exact hok)
    rw [show ftR (dp p) = _ from if_pos (ftOk_tree hr hok), e] at hF
    rw [hr] at hR
    refine Cq hF rfl rfl rfl rfl rfl ⟨rfl, rfl⟩ ?_
    refine G (T := T) 1000 rfl ?_
    refine Cq hR rfl rfl rfl rfl rfl ⟨rfl, rfl⟩ ?_
    refine G (T := T) 1000 rfl ?_
    refine IfF rfl rfl ?_
    refine G (T := T) 1000 rfl ?_
    refine Cq hE rfl rfl rfl rfl rfl ⟨rfl, rfl⟩ ?_
    refine G (T := T) 1000 rfl ?_
    exact Fe (T := T) rfl rfl
  | false =>
    have ez : dp p = Tr.zero := by rw [dp, hr]; rfl
    have hF := pt hT hV (u := Tr.zero) ⟨by decide, Nat.zero_le _, trivial⟩ (B := 1000000) (by decide) (jPg_ok ⟨by decide, trivial⟩ (by decide) (by decide))
    rw [show ftR Tr.zero = _ from if_neg (by rw [zero_ft]; simp), ← ez] at hF
    rw [hr] at hR
    refine Cq hF rfl rfl rfl rfl rfl ⟨rfl, rfl⟩ ?_
    refine G (T := T) 1000 rfl ?_
    refine Cq hR rfl rfl rfl rfl rfl ⟨rfl, rfl⟩ ?_
    refine G (T := T) 1000 rfl ?_
    refine IfT rfl rfl ?_
    refine G (T := T) 1000 rfl ?_
    refine Cq (mr (p := ⟨[], [], []⟩) (B := 1) zeroP_ok (by decide)) rfl rfl rfl rfl rfl ⟨rfl, rfl⟩ ?_
    refine G (T := T) 1000 rfl ?_
    exact Fe (T := T) rfl rfl
end
end Go.Proofs.YtlmahofogapkgaaGreatDoor.X
namespace Go.Proofs.YtlmahofogapkgaaGreatDoor.K
open Go Go.RowKit Go.Proofs
theorem lp {l : List Int} {q0 q1 q2 : Int} (h1 : ∀ n ∈ l, I64 n) (i0 : I64 q0) (i1 : I64 q1) (i2 : I64 q2) {w0 : World} {H : Hp} {own : List Seg} {v1 : Value} (hA : rd H (.s 1 (iZ .i64 l)) v1) (hT : TabH H) (hV : X.VarH H) :
    Fn Tryz.prog 5 [v1, .agg #[.int .i64 q0, .int .i64 q1, .int .i64 q2]] w0 H own (fun r o H' => r = .bool true ∧ o = own ∧ Le H H') :=
  X.res_true (X.XQ.toFn (X.lp (pk := X.pkV) (fun _ h => h.1) (fun _ h => h.2) (l := l) h1 i0 i1 i2) id ⟨hT, hV⟩ ⟨X.rd_kints hA, ⟨_, rfl, by
    simp only [X.rdL, X.rd]; exact ⟨⟨trivial, rfl⟩, ⟨trivial, rfl⟩, ⟨trivial, rfl⟩, trivial⟩⟩, trivial⟩)
open Go.ChangeShapes Go.WideShapes Go.Deep
section
variable {P : Program} {H : Type} {enc : TypeId × Value → H} {W : World}
theorem open_arrI {t e : TypeId} {n : Nat} (ht : P.underlying t = some (.array n e)) (he : P.underlying e = some (.int .i64)) (hc : P.cellsOf t = n) (hc1 : P.cellsOf e = 1) {fuel : Nat} {cs : List Value} {x : DataW H × List MemPlace} (hl : cs.length = n)
    (h : DataW.trod enc P W 0 (fun _ => true) true fuel t cs = some x) : ∃ l : List Int, l.length = n ∧ (∀ y ∈ l, I64 y) ∧ cs = l.map (Value.int .i64) := by
  obtain ⟨xs, mm, _, _, _, hxs, hel⟩ := DataW.trod_array ht h
  have one : ∀ i, i < n → ∃ y : Int, I64 y ∧ cs[i]? = some (.int .i64 y) := by
    intro i hi
    have e1 := hel i (by omega)
    rw [List.getElem?_eq_getElem (by omega), hc1, Nat.mul_one] at e1
    obtain ⟨y, g, _, w⟩ := DataW.trod_int he e1
    refine ⟨y, inK_i64 (lit_in w), ?_⟩
    have h2 := congrArg (fun l => l[0]?) g
    simp only [List.getElem?_cons_zero] at h2
    rw [List.getElem?_take, if_pos (by omega), List.getElem?_drop] at h2
    simpa using h2
  obtain ⟨f, hF⟩ := choose_lt one
  refine ⟨(List.range n).map f, by simp, fun y hy => ?_, ?_⟩
  · obtain ⟨i, hi, rfl⟩ := List.mem_map.1 hy
    exact (hF i (List.mem_range.1 hi)).1
  · refine List.ext_getElem? fun i => ?_
    by_cases hi : i < n
    · rw [(hF i hi).2]
      simp [hi]
    · rw [List.getElem?_eq_none (by omega), List.getElem?_eq_none (by simp; omega)]
theorem open_arrV {t e : TypeId} {n : Nat} (ht : P.underlying t = some (.array n e)) (he : P.underlying e = some (.int .i64)) (hc : P.cellsOf t = n) (hc1 : P.cellsOf e = 1) {r : Reach} {b0 : Nat} {v : Value} {d : DataW H} {ps : List MemPlace} (hval : Value.okWide P W r b0 t v)
    (h : DataW.Trod enc P W 0 (fun _ => true) true t v d ps) : ∃ l : List Int, l.length = n ∧ (∀ y ∈ l, I64 y) ∧ v = .agg (l.map (Value.int .i64)).toArray := by
  simp only [Value.okWide, ht] at hval
  obtain ⟨cs, rfl, h2, _⟩ := hval
  rw [hc] at h2
  obtain ⟨fuel, hf⟩ := h
  obtain ⟨l, h3, h4, h5⟩ := open_arrI ht he hc hc1 (cs := cs.toList) (by simpa using h2) hf
  exact ⟨l, h3, h4, by rw [← h5]⟩
end
section
variable {H : Type} {enc : TypeId × Value → H} {W : World}
theorem qa {v : Value} {d : DataW H} {ps : List MemPlace} {r : Reach} {b0 : Nat} (hval : Value.okWide Tryz.prog W r b0 23 v) (h : DataW.Trod enc Tryz.prog W 0 (fun _ => true) true 23 v d ps) : ∃ a b c : Int, I64 a ∧ I64 b ∧ I64 c ∧ v = .agg #[.int .i64 a, .int .i64 b, .int .i64 c] := by
  obtain ⟨l, h1, h2, rfl⟩ := open_arrV Tryz.underlying23 Tryz.underlying3 (by kernel_rfl) (by kernel_rfl) hval h
  match l, h1, h2 with
  | [a, b, c], _, h2 => exact ⟨a, b, c, h2 a (by simp), h2 b (by simp), h2 c (by simp), rfl⟩
end
theorem tabH_of {W : World} {l : List (String × DataW Unit)} (h : laidMetH Tryz.prog l W) (hk : (l.filter fun x => x.1 == "internal/strconv.uint64pow10") = [("internal/strconv.uint64pow10", Lib.tabData .u64 Lib.pow10Tab)]) {t e : TypeId} {n : Nat}
    (hty : (Tryz.prog.globals[1]?).map (·.type) = some t) (ht : Tryz.prog.underlying t = some (.array n e)) (he : Tryz.prog.underlying e = some (.int .u64)) (hce : Tryz.prog.cellsOf e = 1) (hct : Tryz.prog.cellsOf t = n) : TabH (jd W) := by
  have h1 := h.filter fun x => x.1 == "internal/strconv.uint64pow10"
  rw [hk, MakeChecks.laidMetH_plain _ _ _ (by rfl)] at h1
  have hg : Tryz.prog.globalNamed "internal/strconv.uint64pow10" = some 1 := by kernel_rfl
  have h2 := Lib.tabIs_of_head hg hty ht he hce hct h1
  unfold Lib.TabIs World.var? at h2
  rw [hg, Option.bind_some] at h2
  unfold TabH jd
  split at h2
  · rename_i cs e fz hb
    cases h2
    exact ⟨_, _, hb⟩
  · cases h2
end Go.Proofs.YtlmahofogapkgaaGreatDoor.K
namespace Go
section
variable {H : Type} {enc : TypeId × Value → H}
theorem pu {a : Assume} {C : Checked} {os : Os} {f : FuncId} {fn : Func} {s : ChangeSpec} {cs : List PathCond} {ap fr ho ag : Bool} {X : World → Array Value → Prop}
    (hX : ∀ (w w' : World) (args : Array Value), w.heap = w'.heap → X w args → X w' args) (o : ownKnob C.prog.godebug = none) (st : os.Started) (ni : C.prog.inits.idxOf? f = none) (hfn : C.prog.funcs[f]? = some fn)
    (wit : ∃ (w : World) (tape : Tape) (i : Input), w.os = os ∧ (w.forCall tape i).Shaped C.prog ∧ i.vars = [] ∧ Input.okWide C.prog (w.forCall tape i) .any w.heap.size f i ∧ ((s.pre enc C.prog fn cs ap (w.forCall tape i).memory i.args ∧ X (w.forCall tape i).memory i.args) ∧ sizedMet enc C.prog fn (OpenSpec.ofChange s) ap (w.forCall tape i).memory i.args) ∧ a.holds C.prog (lone (Frame.enter C.prog f i.args .normal) [] (w.forCall tape i)))
    (k : ∀ (W : World) (base : Nat) (args : Array Value) (ds gs : List (DataW H)) (cK : List MemPlace), (∀ (j : Nat) t v, fn.params[j]? = some t → args[j]? = some v → Value.okWide C.prog W .any base t v) → DataW.Whole enc C.prog fn.params.toList s.vars ap W args.toList ds gs cK → X W args → W.ShapedOpen C.prog →
      Calls C.prog f args W fun e W' => ∃ v, e = .returned v ∧ s.post enc C.prog fn ap fr ho ag W args v W') :
    ReturnsInHanded a C os f .any (fun w args => (s.pre enc C.prog fn cs ap w args ∧ X w args) ∧ sizedMet enc C.prog fn (OpenSpec.ofChange s) ap w args) (s.post enc C.prog fn ap fr ho ag) := by
  refine returnsInHanded_of_calls o st ni wit fun w tape i _ hsh _ hok hpre _ => ?_
  obtain ⟨_, _, _, fn', h2, _, _, _, _, hval⟩ := hok
  obtain rfl : fn' = fn := Option.some.inj (h2.symm.trans hfn)
  obtain ⟨⟨⟨ds, gs, cK, hw, _⟩, hx⟩, _⟩ := hpre
  exact (k (w.forCall tape i) w.heap.size i.args ds gs cK hval (DataW.Whole.of_heap (w' := w.forCall tape i) (by rfl) hw) (hX _ _ _ (by rfl) hx) hsh).mono fun e W' ⟨v, he, hp⟩ => by
    subst he; exact ChangeSpec.post_blind hp
namespace Proofs.YtlmahofogapkgaaGreatDoor.X
open Go.RowKit Go.Proofs K
theorem lq {P : Program} {w : World} {fuel : Nat} {t : TypeId} {m : Array (String × TypeId)} {cs : List Value} {x : DataW Unit × List MemPlace} (hu : P.underlying t = some (.interface m)) (h : DataW.trod (fun _ => ()) P w 0 (fun _ => true) false fuel t cs = some x) : cs = [.nilIface] ∨ ∃ u v, cs = [.iface u v] := by
  cases fuel with
  | zero => simp [DataW.trod] at h
  | succ n =>
    simp only [DataW.trod, hu] at h
    split at h <;> simp_all
theorem lv {W : World} {l : List (String × DataW Unit)} {name : String} {d : DataW Unit} {g : Nat} {t : TypeId} {m : Array (String × TypeId)} (h : laidMetH Tryz.prog l W) (hk : (l.filter fun x => x.1 == name) = [(name, d)]) (hh : d.handleName?.isNone = true) (hg : Tryz.prog.globalNamed name = some g) (hty : (Tryz.prog.globals[g]?).map (·.type) = some t) (hu : Tryz.prog.underlying t = some (.interface m)) :
    ∃ ev e fz, jd W g = some (.cells #[ev] e fz) ∧ (ev = .nilIface ∨ ∃ te pe, ev = .iface te pe) := by
  have h1 := h.filter fun x => x.1 == name
  rw [hk, MakeChecks.laidMetH_plain _ _ _ (by simp [hh])] at h1
  obtain ⟨ps, ⟨g', t', cs, fuel, p, q, hg', ht', hvar, hd, _, _⟩, _⟩ := h1
  obtain rfl := Option.some.inj (hg.symm.trans hg')
  obtain rfl := Option.some.inj (hty.symm.trans ht')
  have hc := lq hu hd
  unfold World.var? at hvar
  rw [hg, Option.bind_some] at hvar
  split at hvar
  · rename_i c e fz hb
    cases hvar
    rcases hc with hc | ⟨u, v, hc⟩
    · exact ⟨_, e, fz, by unfold jd; rw [hb, show cs = #[.nilIface] from Array.toList_inj.1 hc], .inl rfl⟩
    · exact ⟨_, e, fz, by unfold jd; rw [hb, show cs = #[.iface u v] from Array.toList_inj.1 hc], .inr ⟨u, v, rfl⟩⟩
  · cases hvar
theorem qb {W : World} {g : Nat} {t : TypeId} {zero : Array Value} (h : W.ShapedOpen Tryz.prog) (hg : g < Tryz.prog.globals.size) (h0 : ((begin Tryz.prog (fun _ _ => 0) default).world.heap[g]?).bind Obj.row? = some (zero, t)) (hz : zero.size = 1)
    (hb : Tryz.prog.buildable t = true) (hc : Tryz.prog.cellTypes Tryz.prog.depth t = some [t]) (hu : Tryz.prog.underlying t = some (.int .i64)) : ∃ m e fz, jd W g = some (.cells #[.int .i64 m] e fz) := by
  obtain ⟨m, hm⟩ := cell_of_shapedOpen_int h hg h0 hz hb hc hu
  obtain ⟨cs, hh, hs, _⟩ := h.1 g zero t hg h0
  have h1 : cs.size = 1 := by omega
  have e1 : W.cell? ⟨g, 0, none⟩ = some cs[0] := by simp [World.cell?, hh, h1]
  rw [e1] at hm
  have e2 : cs.toList = [cs[0]] := by
    apply List.ext_getElem?
    intro i
    cases i with
    | zero => simp [h1]
    | succ i => simp [h1]
  have e3 : cs = #[.int .i64 m] := Array.toList_inj.1 (by rw [e2]; exact congrArg (fun x => [x]) (Option.some.inj hm))
  exact ⟨m, _, _, by unfold jd; rw [hh, e3]⟩
theorem varH_of {W : World} {l : List (String × DataW Unit)} {d1 d2 : DataW Unit} (hs : W.ShapedOpen Tryz.prog) (h : laidMetH Tryz.prog l W) (hk1 : (l.filter fun x => x.1 == "strconv.ErrSyntax") = [("strconv.ErrSyntax", d1)]) (hk2 : (l.filter fun x => x.1 == "strconv.ErrRange") = [("strconv.ErrRange", d2)]) (hd1 : d1.handleName?.isNone = true) (hd2 : d2.handleName?.isNone = true) : VarH (jd W) :=
  ⟨qb (zero := #[.int .i64 0]) hs (of_decide_eq_true (by kernel_rfl)) (by kernel_rfl) (by kernel_rfl) (by kernel_rfl) (by kernel_rfl) Tryz.underlying3, lv h hk1 hd1 (by kernel_rfl) (by kernel_rfl) Tryz.underlying234, lv h hk2 hd2 (by kernel_rfl) (by kernel_rfl) Tryz.underlying234⟩
end Proofs.YtlmahofogapkgaaGreatDoor.X
end
end Go
namespace Go.Proofs.YtlmahofogapkgaaGreatDoor
open Go Go.RowKit Go.ChangeShapes Go.WideShapes Go.ChangeAt
namespace Row5
theorem own0 : ownKnob Tryz.prog.godebug = none := by kernel_rfl
theorem laid0 : laidOutB Tryz.prog = true := by kernel_rfl
theorem door_met (os : Os) (args : Array Value) : laidMetH Tryz.prog Rows.diffBackRow.laid ((World.doorLaid Tryz.prog 400 os).forCall (fun _ _ => 0) ⟨#[], args, []⟩).memory :=
  laidMetH_of_parts3 (fuel := 8) (laidMet_of_run' 8 (by kernel_rfl) (by kernel_rfl)) (by kernel_rfl) (by kernel_rfl)
theorem lifted (os : Os) (started : os.Started) (H : Type) (enc : TypeId × Value → H) :
    ReturnsInHanded {} Tryz.checked os 5 .any (fun w args => (Rows.diffBackSpec.pre enc Tryz.prog Tryz.f5 [] false w args ∧ laidMetH Tryz.prog Rows.diffBackRow.laid w) ∧ sizedMet enc Tryz.prog Tryz.f5 (OpenSpec.ofChange Rows.diffBackSpec) false w args)
      (Rows.diffBackSpec.post enc Tryz.prog Tryz.f5 false true false false) := by
  refine pu (C := Tryz.checked) (X := fun w _ => laidMetH Tryz.prog Rows.diffBackRow.laid w) (fun _ _ _ hh h => h.of_heap hh) own0 started (by kernel_rfl) Tryz.func5
    (ChangeSpec.witness_shaped (enc := enc) (C := Tryz.checked) (os := os) (X := fun w _ => laidMetH Tryz.prog Rows.diffBackRow.laid w) false (World.doorLaid Tryz.prog 400 os) #[.slice none 0 0, .agg #[.int .i64 0, .int .i64 0, .int .i64 0]] 8 rfl (World.shaped_of_RefB (by kernel_rfl) (by kernel_rfl)) (by kernel_rfl) (by kernel_rfl) (by kernel_rfl) (door_met os _)) ?_
  intro W base args ds gs cK hval0 hW hX hsh
  have hval : ∀ (j : Nat) t v, Tryz.f5.params[j]? = some t → args[j]? = some v → Value.okWide Tryz.prog W .any base t v := hval0
  have hW' : DataW.Whole enc Tryz.prog Tryz.f5.params.toList Rows.diffBackSpec.vars false W args.toList ds gs cK := hW
  obtain ⟨p, q, hA0, hV, rfl, hfz, hnd⟩ := hW
  have hA : DataW.TrodAll enc Tryz.prog W 0 (fun _ => true) true Tryz.f5.params.toList args.toList ds p := hA0
  rw [Tryz.params5] at hA hval
  obtain ⟨v0, v1, d0, d1, p0, p1, rfl, rfl, rfl, h0, h1⟩ := trodAll_two hA
  obtain ⟨rfl, rfl⟩ := trodVars_none hV
  obtain ⟨a0, n0, c0, rfl⟩ := okWide_slice Tryz.underlying22 (hval 0 22 v0 rfl rfl)
  obtain ⟨l0, k0, r0⟩ := K.pZ Tryz.underlying22 Tryz.underlying3 (by kernel_rfl) h0
  obtain ⟨a1, b1, c1, ka1, kb1, kc1, rfl⟩ := K.qa (hval 1 23 v1 rfl rfl) h1
  have htab := K.tabH_of hX (by rfl) (by kernel_rfl) Tryz.underlying278 Tryz.underlying262 (by kernel_rfl) (by kernel_rfl)
  have hvar := X.varH_of hsh hX (by rfl) (by rfl) (by rfl) (by rfl)
  refine (K.lp (fun n h => K.inK_i64 (k0 n h)) ka1 kb1 kc1 r0 htab hvar W (K.St.all W)).mono fun e W1 hh => ?_
  obtain ⟨v, own1, H1, rfl, ⟨rfl, _, hle⟩, hst⟩ := hh
  exact ⟨_, rfl, K.law_post laid0 hW' rfl rfl rfl Tryz.underlying4 (by kernel_rfl) hst.os hst.output (fun k hk => by
    have e1 : W.heap[k]? = some W.heap[k] := by simp [hk]
    rw [e1]
    exact hst.imm k _ (hle k _ e1))⟩
end Row5
theorem qc : Rows.DiffBackSaid :=
  OpenClaim.holds_of_wide 5 Tryz.f5 rfl rfl rfl rfl rfl rfl rfl ⟨rfl, rfl, rfl, rfl, rfl⟩ rfl rfl rfl rfl rfl (by kernel_rfl) Tryz.func5 (by kernel_rfl)
    (of_decide_eq_true (by kernel_rfl)) (by unfold Func.isWrapper; first | (rw [if_pos (by decide +kernel)]; kernel_rfl) | (rw [if_neg (by decide +kernel)]; exact ⟨rfl, rfl⟩))
    (fun os started H enc _ => Row5.lifted os started H enc)
theorem back_card : Rows.DiffBackCardSaid :=
  Claim7.holds_tied_plain_at .later [] [.data, .data, .data, .sentinel, .sentinel] true (true, "425d4d93d6f6ba2554feac068bfcbb84dd0da43f1293f155f5ec7a392b3866b3") true
    qc (fun _ h => by cases h) (by kernel_rfl) (fun _ h => by cases h) diffBack_row_tie rfl ⟨rfl, rfl⟩ (by kernel_rfl) rfl
    (fun f fn hf hfn => by
      obtain rfl : f = 5 := Option.some.inj ((show Tryz.prog.funcNamed Rows.diffBackRow.func = some 5 by kernel_rfl).symm.trans hf) |>.symm
      obtain rfl : fn = Tryz.f5 := (Option.some.inj (Tryz.func5.symm.trans hfn)).symm
      exact ⟨by kernel_rfl, fun j t ht => by
        rw [Tryz.params5] at ht
        have hm : t ∈ [22, 23] := by simpa using Array.mem_of_getElem? ht
        have bA : ([22, 23].all fun u => !Tryz.prog.wantsStandIn u) = true := by kernel_rfl
        exact (show Tryz.prog.wantsStandIn t = false by simpa using List.all_eq_true.1 bA t hm)⟩)
    (by kernel_rfl)
end Go.Proofs.YtlmahofogapkgaaGreatDoor
