/-
  Renaming: sizes and names of functions' texts, their cells in memory, the two maps of the program's renamer.
-/
import Derived.Test.YtapmmfabdmhdnaaRen
import Derived.Test.YtapmmfabdmhdnaaMaps
import Derived.Test.YtapmmfabdmhdnaaBase
import Derived.Test.YtapmmfabdmhdnaaSmall
set_option linter.unusedVariables false
set_option linter.unusedSimpArgs false
namespace Go.Proofs.Ytapmmfabdmhdnaa.K
open Go Go.RowKit Go.Proofs

mutual
def Ex.size : Ex → Nat
  | .mk _ _ _ ks => Ex.sizes ks + 1
def Ex.sizes : List Ex → Nat
  | [] => 0
  | t :: r => t.size + Ex.sizes r
end
mutual
def Sm.size : Sm → Nat
  | .mk _ _ _ _ xs b el cs => Ex.sizes xs + Sm.sizes b + Sm.sizes el + Sm.csizes cs + 1
def Sm.sizes : List Sm → Nat
  | [] => 0
  | t :: r => t.size + Sm.sizes r
def Sm.csizes : List (List Sm) → Nat
  | [] => 0
  | c :: r => Sm.sizes c + 1 + Sm.csizes r
end
mutual
def Ex.nb (B : Nat) : Ex → Prop
  | .mk _ nm _ ks => nm.size ≤ B ∧ Ex.nbs B ks
def Ex.nbs (B : Nat) : List Ex → Prop
  | [] => True
  | t :: r => t.nb B ∧ Ex.nbs B r
end
mutual
def Sm.nb (B : Nat) : Sm → Prop
  | .mk _ nm _ _ xs b el cs => nm.size ≤ B ∧ Ex.nbs B xs ∧ Sm.nbs B b ∧ Sm.nbs B el ∧ Sm.ncs B cs
def Sm.nbs (B : Nat) : List Sm → Prop
  | [] => True
  | t :: r => t.nb B ∧ Sm.nbs B r
def Sm.ncs (B : Nat) : List (List Sm) → Prop
  | [] => True
  | c :: r => Sm.nbs B c ∧ Sm.ncs B r
end
theorem Ex.size_pos (e : Ex) : 0 < e.size := by cases e; simp [Ex.size]
theorem Sm.size_pos (e : Sm) : 0 < e.size := by cases e; simp [Sm.size]
theorem Ex.size_mem {e : Ex} : ∀ {l : List Ex}, e ∈ l → e.size ≤ Ex.sizes l
  | u :: us, h => by
    simp only [Ex.sizes]
    rcases List.mem_cons.1 h with rfl | h
    · omega
    · have := Ex.size_mem h; omega
theorem Sm.size_mem {e : Sm} : ∀ {l : List Sm}, e ∈ l → e.size ≤ Sm.sizes l
  | u :: us, h => by
    simp only [Sm.sizes]
    rcases List.mem_cons.1 h with rfl | h
    · omega
    · have := Sm.size_mem h; omega
theorem Sm.csize_mem {c : List Sm} : ∀ {l : List (List Sm)}, c ∈ l → Sm.sizes c + 1 ≤ Sm.csizes l
  | u :: us, h => by
    simp only [Sm.csizes]
    rcases List.mem_cons.1 h with rfl | h
    · omega
    · have := Sm.csize_mem h; omega
theorem Ex.len_le : ∀ l : List Ex, l.length ≤ Ex.sizes l
  | [] => by simp
  | t :: ts => by
    have := Ex.len_le ts
    have := t.size_pos
    simp only [Ex.sizes, List.length_cons]; omega
theorem Sm.len_le : ∀ l : List Sm, l.length ≤ Sm.sizes l
  | [] => by simp
  | t :: ts => by
    have := Sm.len_le ts
    have := t.size_pos
    simp only [Sm.sizes, List.length_cons]; omega
theorem Sm.clen_le : ∀ l : List (List Sm), l.length ≤ Sm.csizes l
  | [] => by simp
  | t :: ts => by
    have := Sm.clen_le ts
    simp only [Sm.csizes, List.length_cons]; omega
theorem Ex.nb_mem {B : Nat} {e : Ex} : ∀ {l : List Ex}, Ex.nbs B l → e ∈ l → e.nb B
  | u :: us, h, he => by
    rcases List.mem_cons.1 he with rfl | he
    · exact h.1
    · exact Ex.nb_mem h.2 he
theorem Sm.nb_mem {B : Nat} {e : Sm} : ∀ {l : List Sm}, Sm.nbs B l → e ∈ l → e.nb B
  | u :: us, h, he => by
    rcases List.mem_cons.1 he with rfl | he
    · exact h.1
    · exact Sm.nb_mem h.2 he
theorem Sm.nc_mem {B : Nat} {e : List Sm} : ∀ {l : List (List Sm)}, Sm.ncs B l → e ∈ l → Sm.nbs B e
  | u :: us, h, he => by
    rcases List.mem_cons.1 he with rfl | he
    · exact h.1
    · exact Sm.nc_mem h.2 he
theorem Sm.sizes_append : ∀ a b : List Sm, Sm.sizes (a ++ b) = Sm.sizes a + Sm.sizes b
  | [], b => by simp [Sm.sizes]
  | t :: r, b => by simp only [List.cons_append, Sm.sizes, Sm.sizes_append r b]; omega
theorem Sm.csizes_append : ∀ a b : List (List Sm), Sm.csizes (a ++ b) = Sm.csizes a + Sm.csizes b
  | [], b => by simp [Sm.csizes]
  | t :: r, b => by simp only [List.cons_append, Sm.csizes, Sm.csizes_append r b]; omega
theorem Sm.sizes_take {l : List Sm} {i : Nat} {x : Sm} (h : l[i]? = some x) : Sm.sizes (l.take (i + 1)) = Sm.sizes (l.take i) + x.size := by
  rw [List.take_add_one, h, Sm.sizes_append]; simp [Sm.sizes]
theorem Sm.sizes_take_le (l : List Sm) (i : Nat) : Sm.sizes (l.take i) ≤ Sm.sizes l := by
  induction l generalizing i with
  | nil => simp [Sm.sizes]
  | cons t r ih => cases i with
    | zero => simp [Sm.sizes]
    | succ i => simp only [List.take_succ_cons, Sm.sizes]; have := ih i; omega
theorem Sm.csizes_take {l : List (List Sm)} {i : Nat} {x : List Sm} (h : l[i]? = some x) : Sm.csizes (l.take (i + 1)) = Sm.csizes (l.take i) + Sm.sizes x + 1 := by
  rw [List.take_add_one, h, Sm.csizes_append]; simp [Sm.csizes]; omega
theorem Sm.csizes_take_le (l : List (List Sm)) (i : Nat) : Sm.csizes (l.take i) ≤ Sm.csizes l := by
  induction l generalizing i with
  | nil => simp [Sm.csizes]
  | cons t r ih => cases i with
    | zero => simp [Sm.csizes]
    | succ i => simp only [List.take_succ_cons, Sm.csizes]; have := ih i; omega
theorem putC_toList : ∀ (vs pre junk : List Value), vs.length ≤ junk.length → putC (pre ++ junk).toArray pre.length vs = (pre ++ (vs ++ junk.drop vs.length)).toArray := fun vs pre junk h => by
  rw [putC_append pre junk vs h, List.append_assoc]
theorem putC_all {c : Array Value} {vs : List Value} (h : c.size = vs.length) : putC c 0 vs = vs.toArray := by
  have := putC_toList vs [] c.toList (by simp [h])
  rw [List.drop_of_length_le (by simp [h])] at this
  simpa using this
/-! renaming and lists -/
theorem renEs_map (to : ByteArray → ByteArray) (lo : ByteArray → Bool) : ∀ l, renEs to lo l = l.map (renE to lo)
  | [] => rfl
  | t :: r => by simp only [renEs, renEs_map to lo r, List.map_cons]
theorem renSs_map (to : ByteArray → ByteArray) (lo : ByteArray → Bool) : ∀ l, renSs to lo l = l.map (renS to lo)
  | [] => rfl
  | t :: r => by simp only [renSs, renSs_map to lo r, List.map_cons]
theorem renCs_map (to : ByteArray → ByteArray) (lo : ByteArray → Bool) : ∀ l, renCs to lo l = l.map (renSs to lo)
  | [] => rfl
  | t :: r => by simp only [renCs, renCs_map to lo r, List.map_cons]
theorem decSs_append : ∀ a b, decSs (a ++ b) = decSs a ++ decSs b
  | [], _ => rfl
  | t :: r, b => by simp only [List.cons_append, decSs, decSs_append r b, List.append_assoc]
theorem decCs_append : ∀ a b, decCs (a ++ b) = decCs a ++ decCs b
  | [], _ => rfl
  | t :: r, b => by simp only [List.cons_append, decCs, decCs_append r b, List.append_assoc]
theorem decSs_take {l : List Sm} {i : Nat} {x : Sm} (h : l[i]? = some x) : decSs (l.take (i + 1)) = decSs (l.take i) ++ decS x := by
  rw [List.take_add_one, h, decSs_append]; simp [decSs]
theorem decCs_take {l : List (List Sm)} {i : Nat} {x : List Sm} (h : l[i]? = some x) : decCs (l.take (i + 1)) = decCs (l.take i) ++ decSs x := by
  rw [List.take_add_one, h, decCs_append]; simp [decCs]
mutual
theorem decS_len : ∀ s : Sm, (decS s).length ≤ s.size
  | .mk k nm t n xs b el cs => by
    have h1 := decSs_len b
    have h2 := decSs_len el
    have h3 := decCs_len cs
    simp only [decS, Sm.size, List.length_append]
    have : (if k = 1 then [nm] else []).length ≤ 1 := by split <;> simp
    omega
theorem decSs_len : ∀ l : List Sm, (decSs l).length ≤ Sm.sizes l
  | [] => by simp [decSs]
  | t :: r => by
    have h1 := decS_len t
    have h2 := decSs_len r
    simp only [decSs, Sm.sizes, List.length_append]; omega
theorem decCs_len : ∀ l : List (List Sm), (decCs l).length ≤ Sm.csizes l
  | [] => by simp [decCs]
  | t :: r => by
    have h1 := decSs_len t
    have h2 := decCs_len r
    simp only [decCs, Sm.csizes, List.length_append]; omega
end
theorem addL_nil (L : ByteArray → Bool) : addL L [] = L := by funext s; simp [addL]
theorem addL_append (L : ByteArray → Bool) (a b : List ByteArray) : addL (addL L a) b = addL L (a ++ b) := by funext s; simp [addL, Bool.or_assoc]
/-! cells -/
theorem exs_len {H : Hp} {l : List Ex} {v : Value} (h : rd H (.s 4 (Ex.ds l)) v) : ∃ A c, v = .slice A l.length c ∧ l.length ≤ c ∧ c ≤ 9223372036854775807 := by
  rw [Ex.ds_of] at h; exact el_len Ex.d_len (by omega) h
theorem sms_len {H : Hp} {l : List Sm} {v : Value} (h : rd H (.s 11 (Sm.ds l)) v) : ∃ A c, v = .slice A l.length c ∧ l.length ≤ c ∧ c ≤ 9223372036854775807 := by
  rw [Sm.ds_of] at h; exact el_len Sm.d_len (by omega) h
def cdOf (c : List Sm) : List D := [.s 11 (Sm.ds c)]
theorem Sm.cd_of : ∀ l : List (List Sm), Sm.cd l = dsOf cdOf l
  | [] => rfl
  | t :: r => by simp only [Sm.cd, Sm.cd_of r, dsOf, List.flatMap_cons, cdOf, List.singleton_append]
theorem css_len {H : Hp} {l : List (List Sm)} {v : Value} (h : rd H (.s 1 (Sm.cd l)) v) : ∃ A c, v = .slice A l.length c ∧ l.length ≤ c ∧ c ≤ 9223372036854775807 := by
  rw [Sm.cd_of] at h; exact el_len (n := 1) (fun _ => rfl) (by omega) h
theorem ty_cells {H : Hp} {t : Ty4} {vs : List Value} (h : RdL H t.d vs) : ∃ k nm n ts v, t = .mk k nm n ts ∧ vs = [.int .i64 k, .string nm, .int .i64 n, v] ∧ rd H (.s 4 (Ty4.ds ts)) v := by
  obtain ⟨k, nm, n, ts⟩ := t
  simp only [Ty4.d] at h
  match vs, h with
  | [a, b, c, v], ⟨h0, h1, h2, h3, _⟩ =>
    simp only [rd] at h0 h1 h2
    subst h0 h1 h2
    exact ⟨k, nm, n, ts, v, rfl, rfl, h3⟩
theorem exs_at {H : Hp} {l : List Ex} {A : Option Addr} {m c : Nat} (h : rd H (.s 4 (Ex.ds l)) (.slice A m c)) {i : Nat} {k n : Int} {nm : ByteArray} {ks : List Ex} (hi : l[i]? = some (.mk k nm n ks)) :
    ∃ b o v, A = some ⟨b, o, none⟩ ∧ hAt H b (o + i * 4) [.int .i64 k, .string nm, .int .u16 n, v] ∧ rd H (.s 4 (Ex.ds ks)) v := by
  rw [Ex.ds_of] at h
  obtain ⟨b, o, cs, rfl, h1, h2, h3⟩ := el_at Ex.d_len (by omega) h hi
  match cs, h3 with
  | [c0, c1, c2, c3], _ =>
    obtain ⟨rfl, rfl, rfl, h4⟩ := ex_cells h2
    exact ⟨b, o, c3, rfl, h1, h4⟩
/-- A statement's cells. -/
theorem sm_cells {H : Hp} {k n : Int} {nm : ByteArray} {t : Ty4} {xs : List Ex} {b el : List Sm} {cs : List (List Sm)} {vs : List Value} (h : RdL H (Sm.mk k nm t n xs b el cs).d vs) :
    ∃ t0 t1 t2 t3 vx vb ve vc, vs = [.int .i64 k, .string nm, t0, t1, t2, t3, .int .u16 n, vx, vb, ve, vc] ∧ RdL H t.d [t0, t1, t2, t3] ∧ rd H (.s 4 (Ex.ds xs)) vx ∧ rd H (.s 11 (Sm.ds b)) vb ∧ rd H (.s 11 (Sm.ds el)) ve ∧ rd H (.s 1 (Sm.cd cs)) vc := by
  simp only [Sm.d, List.cons_append, List.nil_append] at h
  match vs, h with
  | c0 :: c1 :: rest, ⟨h0, h1, h2⟩ =>
    obtain ⟨v1, v2, rfl, h3, h4⟩ := RdL.split h2
    obtain ⟨tk, tn, tx, ts, tv, rfl, rfl, h5⟩ := ty_cells h3
    match v2, h4 with
    | [d0, d1, d2, d3, d4], ⟨g0, g1, g2, g3, g4, _⟩ =>
      simp only [rd] at h0 h1 g0
      subst h0 h1 g0
      exact ⟨_, _, _, _, d1, d2, d3, d4, rfl, h3, g1, g2, g3, g4⟩
theorem sm_of {H : Hp} {k n : Int} {nm : ByteArray} {t : Ty4} {xs : List Ex} {b el : List Sm} {cs : List (List Sm)} {t0 t1 t2 t3 vx vb ve vc : Value} (ht : RdL H t.d [t0, t1, t2, t3]) (hx : rd H (.s 4 (Ex.ds xs)) vx) (hb : rd H (.s 11 (Sm.ds b)) vb)
    (he : rd H (.s 11 (Sm.ds el)) ve) (hc : rd H (.s 1 (Sm.cd cs)) vc) : RdL H (Sm.mk k nm t n xs b el cs).d [.int .i64 k, .string nm, t0, t1, t2, t3, .int .u16 n, vx, vb, ve, vc] := by
  simp only [Sm.d, List.cons_append, List.nil_append]
  refine ⟨by simp [rd], by simp [rd], ?_⟩
  exact RdL.append (vs := [t0, t1, t2, t3]) (us := [.int .u16 n, vx, vb, ve, vc]) ht ⟨by simp [rd], hx, hb, he, hc, trivial⟩
theorem ty_ones {H : Hp} {t : Ty4} {t0 t1 t2 t3 : Value} (h : RdL H t.d [t0, t1, t2, t3]) : t0.oneCell' = true ∧ t1.oneCell' = true ∧ t2.oneCell' = true ∧ t3.oneCell' = true := by
  obtain ⟨k, nm, n, ts, v, rfl, e, h3⟩ := ty_cells h
  injection e with e0 e; injection e with e1 e; injection e with e2 e; injection e with e3 e
  subst e0 e1 e2 e3
  exact ⟨rfl, rfl, rfl, rd.one h3⟩
theorem sms_at {H : Hp} {l : List Sm} {A : Option Addr} {m c : Nat} (h : rd H (.s 11 (Sm.ds l)) (.slice A m c)) {i : Nat} {k n : Int} {nm : ByteArray} {t : Ty4} {xs : List Ex} {b el : List Sm} {cs : List (List Sm)} (hi : l[i]? = some (.mk k nm t n xs b el cs)) :
    ∃ g o t0 t1 t2 t3 vx vb ve vc, A = some ⟨g, o, none⟩ ∧ hAt H g (o + i * 11) [.int .i64 k, .string nm, t0, t1, t2, t3, .int .u16 n, vx, vb, ve, vc] ∧ RdL H t.d [t0, t1, t2, t3] ∧ rd H (.s 4 (Ex.ds xs)) vx ∧ rd H (.s 11 (Sm.ds b)) vb ∧ rd H (.s 11 (Sm.ds el)) ve ∧ rd H (.s 1 (Sm.cd cs)) vc := by
  rw [Sm.ds_of] at h
  obtain ⟨g, o, vs, rfl, h1, h2, h3⟩ := el_at Sm.d_len (by omega) h hi
  obtain ⟨t0, t1, t2, t3, vx, vb, ve, vc, rfl, q⟩ := sm_cells h2
  exact ⟨g, o, t0, t1, t2, t3, vx, vb, ve, vc, rfl, h1, q⟩
theorem css_at {H : Hp} {l : List (List Sm)} {A : Option Addr} {m c : Nat} (h : rd H (.s 1 (Sm.cd l)) (.slice A m c)) {i : Nat} {x : List Sm} (hi : l[i]? = some x) :
    ∃ g o v, A = some ⟨g, o, none⟩ ∧ cel H g (o + i * 1) = some v ∧ rd H (.s 11 (Sm.ds x)) v := by
  rw [Sm.cd_of] at h
  obtain ⟨g, o, vs, rfl, h1, h2, h3⟩ := el_at (n := 1) (d := cdOf) (fun _ => rfl) (by omega) h hi
  match vs, h3 with
  | [v], _ => exact ⟨g, o, v, rfl, h1.1, h2.1⟩
theorem exs_snoc {H : Hp} {l : List Ex} {e : Ex} {vs cs : List Value} (h : RdL H (Ex.ds l) vs) (he : RdL H e.d cs) : RdL H (Ex.ds (l ++ [e])) (vs ++ cs) := by
  rw [Ex.ds_of] at *; exact el_snoc h he
theorem sms_snoc {H : Hp} {l : List Sm} {e : Sm} {vs cs : List Value} (h : RdL H (Sm.ds l) vs) (he : RdL H e.d cs) : RdL H (Sm.ds (l ++ [e])) (vs ++ cs) := by
  rw [Sm.ds_of] at *; exact el_snoc h he
theorem css_snoc {H : Hp} {l : List (List Sm)} {e : List Sm} {vs : List Value} {v : Value} (h : RdL H (Sm.cd l) vs) (he : rd H (.s 11 (Sm.ds e)) v) : RdL H (Sm.cd (l ++ [e])) (vs ++ [v]) := by
  rw [Sm.cd_of] at *; exact el_snoc h (d := cdOf) ⟨he, trivial⟩
/-! the program's renamer: a block with two maps -/
abbrev mT (T : ByteArray → Option ByteArray) : ByteArray → Option Value := fun s => (T s).map Value.string
abbrev mL (L : ByteArray → Bool) : ByteArray → Option Value := fun s => if L s then some (.bool true) else none
def NmS (H : Hp) (gn : Nat) (T : ByteArray → Option ByteArray) (L : ByteArray → Bool) : Prop :=
  ∃ gt gl ot ol nt nl, hAt H gn 0 [.map (some gt), .map (some gl)] ∧ H gt = some ot ∧ MapO Try.prog 9 9 ot nt (mT T) ∧ H gl = some ol ∧ MapO Try.prog 9 4 ol nl (mL L)
theorem NmS.mono {H H' : Hp} (hl : Le H H') {gn : Nat} {T : ByteArray → Option ByteArray} {L : ByteArray → Bool} (h : NmS H gn T L) : NmS H' gn T L := by
  obtain ⟨gt, gl, ot, ol, nt, nl, h1, h2, h3, h4, h5⟩ := h
  exact ⟨gt, gl, ot, ol, nt, nl, h1.mono hl, hl _ _ h2, h3, hl _ _ h4, h5⟩
theorem MapO.congr {P : Program} {k e : TypeId} {o : Obj} {n : Nat} {f g : ByteArray → Option Value} (h : MapO P k e o n f) (hfg : ∀ s, f s = g s) : MapO P k e o n g := by
  have : f = g := funext hfg
  rw [← this]; exact h
theorem MapO.le {P : Program} {k e : TypeId} {o : Obj} {n n' : Nat} {f : ByteArray → Option Value} (h : MapO P k e o n f) (hn : n ≤ n') : MapO P k e o n' f := by
  obtain ⟨es, clock, h1, h2, h3, h4⟩ := h
  exact ⟨es, clock, h1, h2, Nat.le_trans h3 hn, h4⟩
theorem mL_set (L : ByteArray → Bool) (nm s : ByteArray) : (if s = nm then some (Value.bool true) else mL L s) = mL (addL L [nm]) s := by
  by_cases h : s = nm
  · simp [mL, addL, h]
  · simp [mL, addL, h]
theorem mL_get (L : ByteArray → Bool) (s : ByteArray) : (mL L s).getD (.bool false) = .bool (L s) := by
  unfold mL; cases L s <;> simp
theorem zero9 (w : World) : (zeroValue 9).run Try.prog w = .ok (.string ⟨#[]⟩) w := by simp [zeroValue, typeInfo, info9]; rfl
theorem zero4 (w : World) : (zeroValue 4).run Try.prog w = .ok (.bool false) w := by simp [zeroValue, typeInfo, info4]; rfl
theorem plain9 (s : ByteArray) (hs : s.size ≤ maxLen) : plainElem (H := Unit) Try.prog 9 (.string s) = some (.lit (strK s), []) := by
  unfold plainElem; rw [Try.underlying9]; simp [strK]; omega
theorem plain4 (b : Bool) : plainElem (H := Unit) Try.prog 4 (.bool b) = some (.lit (.bool b), []) := by
  unfold plainElem; rw [Try.underlying4]
def toO (T : ByteArray → Option ByteArray) (s : ByteArray) : ByteArray := (T s).getD s
theorem kind_cases (k : Int) : k = 14 ∨ k = 2 ∨ (k ≠ 14 ∧ k ≠ 2) := by omega
theorem Par.one (ps : List Par) : ∀ d ∈ Par.ds ps, D.One d := by
  intro d hd
  unfold Par.ds at hd
  obtain ⟨p, _, hp⟩ := List.mem_flatMap.1 hd
  obtain ⟨nm, ⟨k, tn, n, ts⟩⟩ := p
  simp only [Par.d, Ty4.d, List.mem_cons, List.not_mem_nil, or_false] at hp
  rcases hp with rfl | rfl | rfl | rfl | rfl <;> first | rfl | trivial
theorem Sm.one (x : Sm) : ∀ d ∈ x.d, D.One d := by
  obtain ⟨k, nm, ⟨tk, tn, tx, ts⟩, n, xs, b, el, cs⟩ := x
  intro d hd
  simp only [Sm.d, Ty4.d, List.cons_append, List.nil_append, List.mem_cons, List.not_mem_nil, or_false] at hd
  rcases hd with rfl | rfl | rfl | rfl | rfl | rfl | rfl | rfl | rfl | rfl | rfl <;> first | rfl | trivial
theorem pars_len {H : Hp} {l : List Par} {v : Value} (h : rd H (.s 5 (Par.ds l)) v) : ∃ A c, v = .slice A l.length c ∧ l.length ≤ c ∧ c ≤ 9223372036854775807 :=
  el_len (d := Par.d) Par.d_len (by omega) h
theorem Par.ds_len (l : List Par) : (Par.ds l).length = l.length * 5 := dsOf_len (d := Par.d) Par.d_len l
theorem pars_at {H : Hp} {l : List Par} {A : Option Addr} {m c : Nat} (h : rd H (.s 5 (Par.ds l)) (.slice A m c)) {i : Nat} {p : Par} (hi : l[i]? = some p) :
    ∃ b o t0 t1 t2 t3, A = some ⟨b, o, none⟩ ∧ hAt H b (o + i * 5) [.string p.nm, t0, t1, t2, t3] ∧ RdL H p.ty.d [t0, t1, t2, t3] := by
  obtain ⟨b, o, cs, rfl, h1, h2, h3⟩ := el_at (d := Par.d) Par.d_len (by omega) h hi
  match cs, h2 with
  | c0 :: rest, ⟨g0, g1⟩ =>
    obtain ⟨k, nm, n, ts, v, e, rfl, _⟩ := ty_cells g1
    simp only [rd] at g0
    subst g0
    exact ⟨b, o, _, _, _, _, rfl, h1, g1⟩
theorem fu_cells {H : Hp} {f : Fu} {vs : List Value} (h : RdL H f.d vs) : ∃ vp t0 t1 t2 t3 vb, vs = [.string f.nm, vp, t0, t1, t2, t3, vb, .bool f.fl, .int .i64 f.x, .int .u16 f.y] ∧ rd H (.s 5 (Par.ds f.ps)) vp ∧ RdL H f.res.d [t0, t1, t2, t3] ∧ rd H (.s 11 (Sm.ds f.body)) vb := by
  simp only [Fu.d, List.cons_append, List.nil_append] at h
  match vs, h with
  | c0 :: c1 :: rest, ⟨h0, h1, h2⟩ =>
    obtain ⟨v1, v2, rfl, h3, h4⟩ := RdL.split h2
    obtain ⟨tk, tn, tx, ts, tv, e, rfl, h5⟩ := ty_cells h3
    match v2, h4 with
    | [d0, d1, d2, d3], ⟨g0, g1, g2, g3, _⟩ =>
      simp only [rd] at h0 g1 g2 g3
      subst h0 g1 g2 g3
      exact ⟨_, _, _, _, _, _, rfl, h1, h3, g0⟩
theorem fu_of {H : Hp} {f : Fu} {vp t0 t1 t2 t3 vb : Value} (hp : rd H (.s 5 (Par.ds f.ps)) vp) (ht : RdL H f.res.d [t0, t1, t2, t3]) (hb : rd H (.s 11 (Sm.ds f.body)) vb) :
    RdL H f.d [.string f.nm, vp, t0, t1, t2, t3, vb, .bool f.fl, .int .i64 f.x, .int .u16 f.y] := by
  simp only [Fu.d, List.cons_append, List.nil_append]
  exact ⟨by simp [rd], hp, RdL.append (vs := [t0, t1, t2, t3]) (us := [vb, .bool f.fl, .int .i64 f.x, .int .u16 f.y]) ht ⟨hb, by simp [rd], by simp [rd], by simp [rd], trivial⟩⟩
theorem fu_ones {H : Hp} {t : Ty4} {ds es : List D} {nm : ByteArray} {fl : Bool} {x y : Int} {vp t0 t1 t2 t3 vb : Value} (hp : rd H (.s 5 ds) vp) (ht : RdL H t.d [t0, t1, t2, t3]) (hb : rd H (.s 11 es) vb) :
    Ones [.string nm, vp, t0, t1, t2, t3, vb, .bool fl, .int .i64 x, .int .u16 y] :=
  ⟨rfl, hp.one, (ty_ones ht).1, (ty_ones ht).2.1, (ty_ones ht).2.2.1, (ty_ones ht).2.2.2, hb.one, rfl, rfl, rfl, trivial⟩
/-- A function's text that is small. -/
structure FuOk (f : Fu) : Prop where
  nm : f.nm.size ≤ maxLen
  pl : f.ps.length ≤ 1000
  pn : ∀ p ∈ f.ps, p.nm.size ≤ maxLen
  bs : Sm.sizes f.body ≤ 100000
  bn : Sm.nbs maxLen f.body
/-- Names that are few. -/
structure NmOk (l : List ByteArray) : Prop where
  len : l.length ≤ 1000
  nb : ∀ s ∈ l, s.size ≤ maxLen
theorem hAt_two {H : Hp} {g : Nat} {a b : Value} {e : TypeId} {fz : Nat × Nat} (h : ∀ p ∈ ([(g, .cells #[a, b] e fz)] : Seg), H p.1 = some p.2) : hAt H g 0 [a, b] := by
  have h1 := h _ (List.mem_singleton.2 rfl)
  exact ⟨by simp [cel, h1], by simp [cel, h1], trivial⟩
theorem hAt_three {H : Hp} {g : Nat} {a b c : Value} {e : TypeId} {fz : Nat × Nat} (h : ∀ p ∈ ([(g, .cells #[a, b, c] e fz)] : Seg), H p.1 = some p.2) : hAt H g 0 [a, b, c] := by
  have h1 := h _ (List.mem_singleton.2 rfl)
  exact ⟨by simp [cel, h1], by simp [cel, h1], by simp [cel, h1], trivial⟩
theorem mT_set (z : List (ByteArray × ByteArray)) (a b s : ByteArray) : (if s = a then some (Value.string b) else mT (lookT z) s) = mT (lookT ((a, b) :: z)) s := by
  by_cases h : s = a <;> simp [mT, lookT, h]
theorem mT_nil (s : ByteArray) : none = mT (lookT []) s := rfl
theorem mL_nil (s : ByteArray) : none = mL (addL (fun _ => false) []) s := by simp [mL, addL]
theorem zip_drop {fr to : List ByteArray} {i : Nat} {a b : ByteArray} (ha : fr[i]? = some a) (hb : to[i]? = some b) : (fr.zip to).drop i = (a, b) :: (fr.zip to).drop (i + 1) := by
  have h : (fr.zip to)[i]? = some (a, b) := by rw [List.getElem?_zip_eq_some]; exact ⟨ha, hb⟩
  obtain ⟨hlt, e⟩ := List.getElem?_eq_some_iff.1 h
  rw [List.drop_eq_getElem_cons hlt, e]
theorem Hp_mono {H H' : Hp} (hl : Le H H') {b : Nat} {o : Obj} (h : H b = some o) : H' b = some o := hl _ _ h
theorem sm_ones {H : Hp} {k n : Int} {nm : ByteArray} {t : Ty4} {xs : List Ex} {b el : List Sm} {cs : List (List Sm)} {t0 t1 t2 t3 vx vb ve vc : Value} (ht : RdL H t.d [t0, t1, t2, t3]) (hx : rd H (.s 4 (Ex.ds xs)) vx) (hb : rd H (.s 11 (Sm.ds b)) vb)
    (he : rd H (.s 11 (Sm.ds el)) ve) (hc : rd H (.s 1 (Sm.cd cs)) vc) : Ones [.int .i64 k, .string nm, t0, t1, t2, t3, .int .u16 n, vx, vb, ve, vc] :=
  ⟨rfl, rfl, (ty_ones ht).1, (ty_ones ht).2.1, (ty_ones ht).2.2.1, (ty_ones ht).2.2.2, rfl, hx.one, hb.one, he.one, hc.one, trivial⟩
end Go.Proofs.Ytapmmfabdmhdnaa.K
