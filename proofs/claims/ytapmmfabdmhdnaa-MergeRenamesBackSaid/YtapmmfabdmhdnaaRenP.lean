/-
  The laws of renaming, plain: the functions that the two laws make are small; renaming to fresh names and back changes nothing.
-/
import Derived.Test.YtapmmfabdmhdnaaRenB
set_option linter.unusedVariables false
set_option linter.unusedSimpArgs false
namespace Go.Proofs.Ytapmmfabdmhdnaa.K
open Go Go.RowKit Go.Proofs

def nV1 := bs [118, 49]
def letS : Sm := .mk 1 nV1 (.mk 1 ⟨#[]⟩ 0 []) 0 [nameE nG1] [] [] []
def loopS : Sm := .mk 5 nF ty4z 0 [] [.mk 7 nF ty4z 0 [] [] [] [], smK 11 1 [nameE nV1] []] [] []
def lawB (l : List (Int × Int × Int)) : List Sm := (funcP l).body ++ [letS, loopS]
def swS (b : List Sm) : Sm := .mk 9 ⟨#[]⟩ ty4z 0 [nameE nG0] [] (b.take 1) [b.take 1, b]
def lawF (l : List (Int × Int × Int)) : Fu := { funcP l with body := lawB l ++ [swS (lawB l)] }

theorem value_mem (q1 q2 : Int) : valueP q1 q2 ∈ valueL (IntKind.u16.wrap q2) ∨ valueP q1 q2 = numE 0 := by
  unfold valueP
  rw [List.getD_eq_getElem?_getD]
  cases h : (valueL (IntKind.u16.wrap q2))[(q1 % 7).toNat]? with
  | none => exact .inr rfl
  | some x => exact .inl (List.mem_of_getElem? h)
theorem value_all {p : Ex → Prop} (h : ∀ n, (∀ e ∈ valueL n, p e)) (h0 : p (numE 0)) (q1 q2 : Int) : p (valueP q1 q2) := by
  rcases value_mem q1 q2 with h1 | h1
  · exact h _ _ h1
  · rw [h1]; exact h0
theorem value_size (q1 q2 : Int) : (valueP q1 q2).size ≤ 3 := by
  refine value_all (p := fun e => e.size ≤ 3) (fun n e he => ?_) (by simp [numE, Ex.size, Ex.sizes]) q1 q2
  simp only [valueL, List.mem_cons, List.not_mem_nil, or_false] at he
  rcases he with rfl | rfl | rfl | rfl | rfl | rfl | rfl <;> simp [numE, nameE, Ex.size, Ex.sizes]
theorem bs_size (l : List UInt8) : (bs l).size = l.length := by simp [bs, ByteArray.size]
theorem z_size : (⟨#[]⟩ : ByteArray).size = 0 := rfl
theorem nA_size : nA.size = 1 := rfl
theorem nG0_size : nG0.size = 2 := rfl
theorem nG1_size : nG1.size = 2 := rfl
theorem nF_size : nF.size = 1 := rfl
theorem nV1_size : nV1.size = 2 := rfl
theorem b1_size (x : UInt8) : (bs [x]).size = 1 := rfl
theorem max1000 : 1000 ≤ maxLen := by decide
theorem value_nb {B : Nat} (hm : 1000 ≤ B) (q1 q2 : Int) : (valueP q1 q2).nb B := by
  refine value_all (p := fun e => e.nb B) (fun n e he => ?_) (by simp [numE, Ex.nb, Ex.nbs, z_size]) q1 q2
  simp only [valueL, List.mem_cons, List.not_mem_nil, or_false] at he
  rcases he with rfl | rfl | rfl | rfl | rfl | rfl | rfl <;> simp [numE, nameE, Ex.nb, Ex.nbs, nA_size, nG0_size, nG1_size, nF_size, b1_size, z_size] <;> omega
theorem stmt_size (q : Int × Int × Int) : (stmtP q).size ≤ 10 := by
  have h := value_size q.2.1 q.2.2
  unfold stmtP
  split
  · simp [smK, Sm.size, Sm.sizes, Sm.csizes, Ex.sizes]; omega
  split
  · simp [smK, Sm.size, Sm.sizes, Sm.csizes, Ex.sizes, nameE, Ex.size]; omega
  split
  · simp [smK, Sm.size, Sm.sizes, Sm.csizes, Ex.sizes, nameE, Ex.size]; omega
  split
  · simp [smK, Sm.size, Sm.sizes, Sm.csizes, Ex.sizes, Ex.size]; omega
  · simp [smK, Sm.size, Sm.sizes, Sm.csizes, Ex.sizes, numE, Ex.size]
theorem stmt_nb {B : Nat} (hm : 1000 ≤ B) (q : Int × Int × Int) : (stmtP q).nb B := by
  have h := value_nb hm q.2.1 q.2.2
  unfold stmtP
  split
  · simp [smK, Sm.nb, Sm.nbs, Sm.ncs, Ex.nbs, h, z_size]
  split
  · simp [smK, Sm.nb, Sm.nbs, Sm.ncs, Ex.nbs, h, nameE, Ex.nb, nG0_size, z_size]; omega
  split
  · simp [smK, Sm.nb, Sm.nbs, Sm.ncs, Ex.nbs, h, nameE, Ex.nb, nA_size, z_size]; omega
  split
  · simp [smK, Sm.nb, Sm.nbs, Sm.ncs, Ex.nbs, h, Ex.nb, nF_size, z_size]; omega
  · simp [smK, Sm.nb, Sm.nbs, Sm.ncs, Ex.nbs, numE, Ex.nb, z_size]
theorem stmt_dec (q : Int × Int × Int) : decS (stmtP q) = [] := by
  unfold stmtP
  split
  · simp [smK, decS, decSs, decCs]
  split
  · simp [smK, decS, decSs, decCs]
  split
  · simp [smK, decS, decSs, decCs]
  split
  · simp [smK, decS, decSs, decCs]
  · simp [smK, decS, decSs, decCs]
theorem sizes_le {b : Nat} : ∀ {l : List Sm}, (∀ s ∈ l, s.size ≤ b) → Sm.sizes l ≤ b * l.length
  | [], _ => by simp [Sm.sizes]
  | t :: r, h => by
    have h1 := h t (by simp)
    have h2 := sizes_le (l := r) (fun s hs => h s (by simp [hs]))
    simp only [Sm.sizes, List.length_cons, Nat.mul_add]; omega
theorem nbs_all {b : Nat} : ∀ {l : List Sm}, (∀ s ∈ l, s.nb b) → Sm.nbs b l
  | [], _ => trivial
  | t :: r, h => ⟨h t (by simp), nbs_all (fun s hs => h s (by simp [hs]))⟩
theorem nbs_append {b : Nat} : ∀ {l m : List Sm}, Sm.nbs b l → Sm.nbs b m → Sm.nbs b (l ++ m)
  | [], _, _, h => h
  | t :: r, _, h, k => ⟨h.1, nbs_append h.2 k⟩
theorem nbs_take {b : Nat} : ∀ {l : List Sm} (i : Nat), Sm.nbs b l → Sm.nbs b (l.take i)
  | _, 0, _ => by simp [Sm.nbs]
  | [], i + 1, _ => by simp [Sm.nbs]
  | t :: r, i + 1, h => ⟨h.1, nbs_take i h.2⟩
theorem body_size (l : List (Int × Int × Int)) : Sm.sizes (funcP l).body ≤ 120 := by
  have h := sizes_le (b := 10) (l := (funcP l).body) (fun s hs => by
    obtain ⟨q, _, rfl⟩ := List.mem_map.1 hs
    exact stmt_size q)
  have h2 : (funcP l).body.length ≤ 12 := by simp only [funcP, List.length_map, List.length_take]; omega
  omega
theorem body_nb (l : List (Int × Int × Int)) : Sm.nbs maxLen (funcP l).body := nbs_all fun s hs => by
  obtain ⟨q, _, rfl⟩ := List.mem_map.1 hs
  exact stmt_nb max1000 q
theorem body_dec (l : List (Int × Int × Int)) : decSs (funcP l).body = [] := by
  have : ∀ m : List (Int × Int × Int), decSs (m.map stmtP) = [] := by
    intro m
    induction m with
    | nil => rfl
    | cons a r ih => simp only [List.map_cons, decSs, stmt_dec, ih, List.append_nil]
  exact this _
theorem fu_ok (l : List (Int × Int × Int)) : FuOk (funcP l) := by
  have hm := max1000
  refine ⟨?_, by simp [funcP], ?_, by have := body_size l; omega, body_nb l⟩
  · show (bs [109, 97, 105, 110]).size ≤ maxLen
    rw [bs_size]; simp; omega
  · intro p hp
    simp only [funcP, List.mem_singleton] at hp
    subst hp
    show (bs [97]).size ≤ maxLen
    rw [bs_size]; simp; omega
theorem lawB_size (l : List (Int × Int × Int)) : Sm.sizes (lawB l) ≤ 130 := by
  have := body_size l
  unfold lawB
  rw [Sm.sizes_append]
  simp [Sm.sizes, letS, loopS, smK, Sm.size, Sm.csizes, Ex.sizes, nameE, Ex.size]
  omega
theorem more_nb {B : Nat} (hm : 1000 ≤ B) : Sm.nbs B [letS, loopS] := by
  simp [Sm.nbs, letS, loopS, smK, Sm.nb, Sm.ncs, Ex.nbs, nameE, Ex.nb, nV1_size, nF_size, nG1_size, z_size]
  omega
theorem lawB_nb (l : List (Int × Int × Int)) : Sm.nbs maxLen (lawB l) := nbs_append (body_nb l) (more_nb max1000)
theorem law_ok (l : List (Int × Int × Int)) : FuOk (lawF l) := by
  have hm := max1000
  obtain ⟨h1, h2, h3, h4, h5⟩ := fu_ok l
  have h6 := lawB_size l
  have h7 := Sm.sizes_take_le (lawB l) 1
  refine ⟨h1, h2, h3, ?_, ?_⟩
  · show Sm.sizes (lawB l ++ [swS (lawB l)]) ≤ 100000
    rw [Sm.sizes_append]
    simp only [Sm.sizes, swS, Sm.size, Sm.csizes, Ex.sizes, nameE, Ex.size]
    omega
  · show Sm.nbs maxLen (lawB l ++ [swS (lawB l)])
    refine nbs_append (lawB_nb l) ⟨?_, trivial⟩
    have h8 := lawB_nb l
    have h9 := nbs_take 1 h8
    refine ⟨by simp [ByteArray.size], ⟨?_, trivial⟩, trivial, h9, h9, h8, trivial⟩
    refine ⟨?_, trivial⟩
    rw [nG0, bs_size]; simp; omega
/-! back -/
mutual
theorem renE_size (to : ByteArray → ByteArray) (lo : ByteArray → Bool) : ∀ e : Ex, (renE to lo e).size = e.size
  | .mk k nm n ks => by simp only [renE, Ex.size, renEs_size to lo ks]
theorem renEs_size (to : ByteArray → ByteArray) (lo : ByteArray → Bool) : ∀ l : List Ex, Ex.sizes (renEs to lo l) = Ex.sizes l
  | [] => rfl
  | t :: r => by simp only [renEs, Ex.sizes, renE_size to lo t, renEs_size to lo r]
end
mutual
theorem renS_size (to : ByteArray → ByteArray) (lo : ByteArray → Bool) : ∀ s : Sm, (renS to lo s).size = s.size
  | .mk k nm t n xs b el cs => by simp only [renS, Sm.size, renEs_size to lo xs, renSs_size to lo b, renSs_size to lo el, renCs_size to lo cs]
theorem renSs_size (to : ByteArray → ByteArray) (lo : ByteArray → Bool) : ∀ l : List Sm, Sm.sizes (renSs to lo l) = Sm.sizes l
  | [] => rfl
  | t :: r => by simp only [renSs, Sm.sizes, renS_size to lo t, renSs_size to lo r]
theorem renCs_size (to : ByteArray → ByteArray) (lo : ByteArray → Bool) : ∀ l : List (List Sm), Sm.csizes (renCs to lo l) = Sm.csizes l
  | [] => rfl
  | t :: r => by simp only [renCs, Sm.csizes, renSs_size to lo t, renCs_size to lo r]
end
mutual
theorem renE_nb {b : Nat} {to : ByteArray → ByteArray} (ht : ∀ s, s.size ≤ b → (to s).size ≤ b) (lo : ByteArray → Bool) : ∀ e : Ex, e.nb b → (renE to lo e).nb b
  | .mk k nm n ks, h => by
    simp only [renE, Ex.nb] at h ⊢
    refine ⟨?_, renEs_nb ht lo ks h.2⟩
    split
    · exact ht _ h.1
    · exact h.1
theorem renEs_nb {b : Nat} {to : ByteArray → ByteArray} (ht : ∀ s, s.size ≤ b → (to s).size ≤ b) (lo : ByteArray → Bool) : ∀ l : List Ex, Ex.nbs b l → Ex.nbs b (renEs to lo l)
  | [], _ => trivial
  | t :: r, h => ⟨renE_nb ht lo t h.1, renEs_nb ht lo r h.2⟩
end
mutual
theorem renS_nb {b : Nat} {to : ByteArray → ByteArray} (ht : ∀ s, s.size ≤ b → (to s).size ≤ b) (lo : ByteArray → Bool) : ∀ s : Sm, s.nb b → (renS to lo s).nb b
  | .mk k nm t n xs bd el cs, h => by
    simp only [renS, Sm.nb] at h ⊢
    exact ⟨h.1, renEs_nb ht lo xs h.2.1, renSs_nb ht lo bd h.2.2.1, renSs_nb ht lo el h.2.2.2.1, renCs_nb ht lo cs h.2.2.2.2⟩
theorem renSs_nb {b : Nat} {to : ByteArray → ByteArray} (ht : ∀ s, s.size ≤ b → (to s).size ≤ b) (lo : ByteArray → Bool) : ∀ l : List Sm, Sm.nbs b l → Sm.nbs b (renSs to lo l)
  | [], _ => trivial
  | t :: r, h => ⟨renS_nb ht lo t h.1, renSs_nb ht lo r h.2⟩
theorem renCs_nb {b : Nat} {to : ByteArray → ByteArray} (ht : ∀ s, s.size ≤ b → (to s).size ≤ b) (lo : ByteArray → Bool) : ∀ l : List (List Sm), Sm.ncs b l → Sm.ncs b (renCs to lo l)
  | [], _ => trivial
  | t :: r, h => ⟨renSs_nb ht lo t h.1, renCs_nb ht lo r h.2⟩
end
mutual
theorem renS_dec (to : ByteArray → ByteArray) (lo : ByteArray → Bool) : ∀ s : Sm, decS (renS to lo s) = decS s
  | .mk k nm t n xs b el cs => by simp only [renS, decS, renSs_dec to lo b, renSs_dec to lo el, renCs_dec to lo cs]
theorem renSs_dec (to : ByteArray → ByteArray) (lo : ByteArray → Bool) : ∀ l : List Sm, decSs (renSs to lo l) = decSs l
  | [] => rfl
  | t :: r => by simp only [renSs, decSs, renS_dec to lo t, renSs_dec to lo r]
theorem renCs_dec (to : ByteArray → ByteArray) (lo : ByteArray → Bool) : ∀ l : List (List Sm), decCs (renCs to lo l) = decCs l
  | [] => rfl
  | t :: r => by simp only [renCs, decCs, renSs_dec to lo t, renCs_dec to lo r]
end
theorem loc_ren (z : List (ByteArray × ByteArray)) (f : Fu) : locF (renF z f) = locF f := by
  unfold locF renF
  simp only [renSs_dec]
theorem toT_nb {b : Nat} {z : List (ByteArray × ByteArray)} (h : ∀ p ∈ z, p.2.size ≤ b) : ∀ s, s.size ≤ b → (toT z s).size ≤ b := by
  intro s hs
  unfold toT
  induction z with
  | nil => exact hs
  | cons p r ih =>
    obtain ⟨x, y⟩ := p
    simp only [lookT]
    split
    · exact h (x, y) (by simp)
    · exact ih (fun q hq => h q (by simp [hq]))
theorem ren_ok {z : List (ByteArray × ByteArray)} {f : Fu} (h : FuOk f) (hz : ∀ p ∈ z, p.2.size ≤ maxLen) : FuOk (renF z f) := by
  obtain ⟨h1, h2, h3, h4, h5⟩ := h
  exact ⟨toT_nb hz _ h1, h2, h3, by show Sm.sizes (renSs _ _ f.body) ≤ 100000; rw [renSs_size]; exact h4, renSs_nb (toT_nb hz) _ _ h5⟩
mutual
theorem renE_id {to : ByteArray → ByteArray} (ht : ∀ s, to s = s) (lo : ByteArray → Bool) : ∀ e : Ex, renE to lo e = e
  | .mk k nm n ks => by simp only [renE, ht, renEs_id ht lo ks, ite_self]
theorem renEs_id {to : ByteArray → ByteArray} (ht : ∀ s, to s = s) (lo : ByteArray → Bool) : ∀ l : List Ex, renEs to lo l = l
  | [] => rfl
  | t :: r => by simp only [renEs, renE_id ht lo t, renEs_id ht lo r]
end
mutual
theorem renS_id {to : ByteArray → ByteArray} (ht : ∀ s, to s = s) (lo : ByteArray → Bool) : ∀ s : Sm, renS to lo s = s
  | .mk k nm t n xs b el cs => by simp only [renS, renEs_id ht lo xs, renSs_id ht lo b, renSs_id ht lo el, renCs_id ht lo cs]
theorem renSs_id {to : ByteArray → ByteArray} (ht : ∀ s, to s = s) (lo : ByteArray → Bool) : ∀ l : List Sm, renSs to lo l = l
  | [] => rfl
  | t :: r => by simp only [renSs, renS_id ht lo t, renSs_id ht lo r]
theorem renCs_id {to : ByteArray → ByteArray} (ht : ∀ s, to s = s) (lo : ByteArray → Bool) : ∀ l : List (List Sm), renCs to lo l = l
  | [] => rfl
  | t :: r => by simp only [renCs, renSs_id ht lo t, renCs_id ht lo r]
end
theorem renF_id {z : List (ByteArray × ByteArray)} (ht : ∀ s, toT z s = s) (f : Fu) : renF z f = f := by
  unfold renF
  rw [ht, renSs_id ht]
theorem toT_same : ∀ (l : List ByteArray) (s : ByteArray), toT (l.zip l) s = s
  | [], s => rfl
  | x :: r, s => by
    have ih := toT_same r s
    unfold toT at ih ⊢
    simp only [List.zip_cons_cons, lookT]
    split
    · rename_i h; simp [h]
    · exact ih
theorem renE_mk (to : ByteArray → ByteArray) (lo : ByteArray → Bool) (k n : Int) (nm : ByteArray) (ks : List Ex) : renE to lo (.mk k nm n ks) = .mk k (if k = 14 ∨ (k = 2 ∧ lo nm = false) then to nm else nm) n (renEs to lo ks) := rfl
theorem renE_k (to : ByteArray → ByteArray) (lo : ByteArray → Bool) {k n : Int} {nm : ByteArray} {ks : List Ex} (h1 : k ≠ 14) (h2 : k ≠ 2) : renE to lo (.mk k nm n ks) = .mk k nm n (renEs to lo ks) := by
  rw [renE_mk, if_neg (fun h => h.elim h1 (fun h => h2 h.1))]
theorem renE_call (to : ByteArray → ByteArray) (lo : ByteArray → Bool) (nm : ByteArray) (n : Int) (ks : List Ex) : renE to lo (.mk 14 nm n ks) = .mk 14 (to nm) n (renEs to lo ks) := by
  rw [renE_mk, if_pos (.inl rfl)]
theorem renE_name (to : ByteArray → ByteArray) (lo : ByteArray → Bool) (nm : ByteArray) : renE to lo (nameE nm) = nameE (if lo nm = false then to nm else nm) := by
  unfold nameE
  rw [renE_mk]
  congr 1
  by_cases h : lo nm = false
  · rw [if_pos h, if_pos (.inr ⟨rfl, h⟩)]
  · rw [if_neg h, if_neg (fun h' => h'.elim (by omega) (fun h' => h h'.2))]
theorem renE_num (to : ByteArray → ByteArray) (lo : ByteArray → Bool) (n : Int) : renE to lo (numE n) = numE n := by
  unfold numE
  rw [renE_k to lo (by omega) (by omega)]
  rfl
def oldN : List ByteArray := [bs [109, 97, 105, 110], bs [102], bs [103, 48], bs [103, 49], bs [97]]
def freshN : List ByteArray := [bs [109, 57], bs [102, 57], bs [104, 48], bs [104, 49], bs [122]]
def loA : ByteArray → Bool := addL (fun _ => false) [nA]
def toN := toT (oldN.zip freshN)
def toO' := toT (freshN.zip oldN)
theorem back_f : toO' (toN nF) = nF := by decide
theorem back_g0 : toO' (toN nG0) = nG0 := by decide
theorem back_g1 : toO' (toN nG1) = nG1 := by decide
theorem lo_a : loA nA = true := by decide
theorem lo_g0 : loA nG0 = false := by decide
theorem lo_g1 : loA nG1 = false := by decide
theorem lo_n0 : loA (toN nG0) = false := by decide
theorem lo_n1 : loA (toN nG1) = false := by decide
theorem back_main : toO' (toN (bs [109, 97, 105, 110])) = bs [109, 97, 105, 110] := by decide
theorem new_main : toN (bs [109, 97, 105, 110]) = bs [109, 57] := by decide
theorem bn_a : renE toO' loA (renE toN loA (nameE nA)) = nameE nA := by rw [renE_name, if_neg (by rw [lo_a]; decide), renE_name, if_neg (by rw [lo_a]; decide)]
theorem bn_g0 : renE toO' loA (renE toN loA (nameE nG0)) = nameE nG0 := by rw [renE_name, if_pos lo_g0, renE_name, if_pos lo_n0, back_g0]
theorem bn_g1 : renE toO' loA (renE toN loA (nameE nG1)) = nameE nG1 := by rw [renE_name, if_pos lo_g1, renE_name, if_pos lo_n1, back_g1]
theorem bn_num (n : Int) : renE toO' loA (renE toN loA (numE n)) = numE n := by rw [renE_num, renE_num]
theorem back_value (q1 q2 : Int) : renE toO' loA (renE toN loA (valueP q1 q2)) = valueP q1 q2 := by
  refine value_all (p := fun e => renE toO' loA (renE toN loA e) = e) (fun n e he => ?_) (bn_num 0) q1 q2
  simp only [valueL, List.mem_cons, List.not_mem_nil, or_false] at he
  rcases he with rfl | rfl | rfl | rfl | rfl | rfl | rfl
  · exact bn_num n
  · exact bn_a
  · exact bn_g0
  · exact bn_g1
  · rw [renE_call, renE_call, back_f]
    simp only [renEs, bn_num, bn_g0]
  · rw [renE_k _ _ (by omega) (by omega), renE_k _ _ (by omega) (by omega)]
    simp only [renEs, bn_num, bn_a]
  · rw [renE_k _ _ (by omega) (by omega), renE_k _ _ (by omega) (by omega)]
    simp only [renEs, bn_g1]
theorem renS_sm (to : ByteArray → ByteArray) (lo : ByteArray → Bool) (k n : Int) (xs : List Ex) (b : List Sm) : renS to lo (smK k n xs b) = smK k n (renEs to lo xs) (renSs to lo b) := rfl
theorem back_stmt (q : Int × Int × Int) : renS toO' loA (renS toN loA (stmtP q)) = stmtP q := by
  have hv := back_value q.2.1 q.2.2
  unfold stmtP
  split
  · simp only [renS_sm, renEs, renSs, hv]
  split
  · simp only [renS_sm, renEs, renSs, hv, bn_g0]
  split
  · simp only [renS_sm, renEs, renSs, hv, bn_a]
  split
  · simp only [renS_sm, renEs, renSs, renE_call, hv, back_f]
  · simp only [renS_sm, renEs, renSs, bn_num]
theorem loc_func (l : List (Int × Int × Int)) : locF (funcP l) = loA := by
  unfold locF loA
  rw [body_dec, List.append_nil]
  rfl
theorem back_F (l : List (Int × Int × Int)) : renF (freshN.zip oldN) (renF (oldN.zip freshN) (funcP l)) = funcP l := by
  have h1 : renSs toO' loA (renSs toN loA (funcP l).body) = (funcP l).body := by
    have : ∀ m : List (Int × Int × Int), renSs toO' loA (renSs toN loA (m.map stmtP)) = m.map stmtP := by
      intro m
      induction m with
      | nil => rfl
      | cons a r ih => simp only [List.map_cons, renSs, back_stmt, ih]
    exact this _
  have e : locF (renF (oldN.zip freshN) (funcP l)) = loA := by rw [loc_ren, loc_func]
  unfold renF at e ⊢
  simp only [e]
  rw [loc_func]
  show ({ nm := toO' (toN (bs [109, 97, 105, 110])), ps := _, res := _, body := renSs toO' loA (renSs toN loA (funcP l).body), fl := _, x := _, y := _ } : Fu) = _
  rw [back_main, h1]
  rfl
theorem NmOk.of {l : List ByteArray} (h : l.length ≤ 1000) (hs : ∀ s ∈ l, s.size ≤ 1000) : NmOk l := ⟨h, fun s hx => Nat.le_trans (hs s hx) max1000⟩
end Go.Proofs.Ytapmmfabdmhdnaa.K
