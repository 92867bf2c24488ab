/-
  Functions' texts as data: types, fields, expressions, statements; renaming them.
-/
import Derived.Test.YtapmmfabdmhdnaaTree
set_option linter.unusedVariables false
set_option linter.unusedSimpArgs false
namespace Go.Proofs.Ytapmmfabdmhdnaa.K
open Go Go.RowKit

inductive Ty4 where
  | mk (k : Int) (nm : ByteArray) (n : Int) (ts : List Ty4)
mutual
def Ty4.d : Ty4 → List D
  | .mk k nm n ts => [.c (.int .i64 k), .c (.string nm), .c (.int .i64 n), .s 4 (Ty4.ds ts)]
def Ty4.ds : List Ty4 → List D
  | [] => []
  | t :: r => t.d ++ Ty4.ds r
end
inductive Ex where
  | mk (k : Int) (nm : ByteArray) (n : Int) (ks : List Ex)
mutual
def Ex.d : Ex → List D
  | .mk k nm n ks => [.c (.int .i64 k), .c (.string nm), .c (.int .u16 n), .s 4 (Ex.ds ks)]
def Ex.ds : List Ex → List D
  | [] => []
  | t :: r => t.d ++ Ex.ds r
end
inductive Sm where
  | mk (k : Int) (nm : ByteArray) (t : Ty4) (n : Int) (xs : List Ex) (b el : List Sm) (cs : List (List Sm))
mutual
def Sm.d : Sm → List D
  | .mk k nm t n xs b el cs => [.c (.int .i64 k), .c (.string nm)] ++ t.d ++ [.c (.int .u16 n), .s 4 (Ex.ds xs), .s 11 (Sm.ds b), .s 11 (Sm.ds el), .s 1 (Sm.cd cs)]
def Sm.ds : List Sm → List D
  | [] => []
  | t :: r => t.d ++ Sm.ds r
def Sm.cd : List (List Sm) → List D
  | [] => []
  | c :: r => .s 11 (Sm.ds c) :: Sm.cd r
end
/-! renaming: to gives the names, lo says which are locals -/
mutual
def renE (to : ByteArray → ByteArray) (lo : ByteArray → Bool) : Ex → Ex
  | .mk k nm n ks => .mk k (if k = 14 ∨ (k = 2 ∧ lo nm = false) then to nm else nm) n (renEs to lo ks)
def renEs (to : ByteArray → ByteArray) (lo : ByteArray → Bool) : List Ex → List Ex
  | [] => []
  | t :: r => renE to lo t :: renEs to lo r
end
mutual
def renS (to : ByteArray → ByteArray) (lo : ByteArray → Bool) : Sm → Sm
  | .mk k nm t n xs b el cs => .mk k nm t n (renEs to lo xs) (renSs to lo b) (renSs to lo el) (renCs to lo cs)
def renSs (to : ByteArray → ByteArray) (lo : ByteArray → Bool) : List Sm → List Sm
  | [] => []
  | t :: r => renS to lo t :: renSs to lo r
def renCs (to : ByteArray → ByteArray) (lo : ByteArray → Bool) : List (List Sm) → List (List Sm)
  | [] => []
  | c :: r => renSs to lo c :: renCs to lo r
end
/-! The names that statements declare. -/
mutual
def decS : Sm → List ByteArray
  | .mk k nm _ _ _ b el cs => (if k = 1 then [nm] else []) ++ decSs b ++ decSs el ++ decCs cs
def decSs : List Sm → List ByteArray
  | [] => []
  | t :: r => decS t ++ decSs r
def decCs : List (List Sm) → List ByteArray
  | [] => []
  | c :: r => decSs c ++ decCs r
end
/-- The first pair whose left is the name. -/
def lookT : List (ByteArray × ByteArray) → ByteArray → Option ByteArray
  | [], _ => none
  | (f, t) :: r, s => if s = f then some t else lookT r s
def toT (z : List (ByteArray × ByteArray)) (s : ByteArray) : ByteArray := (lookT z s).getD s
def addL (L : ByteArray → Bool) (l : List ByteArray) : ByteArray → Bool := fun s => L s || l.any fun t => decide (s = t)
structure Par where
  nm : ByteArray
  ty : Ty4
def Par.d (f : Par) : List D := .c (.string f.nm) :: f.ty.d
def Par.ds (l : List Par) : List D := l.flatMap Par.d
structure Fu where
  nm : ByteArray
  ps : List Par
  res : Ty4
  body : List Sm
  fl : Bool
  x : Int
  y : Int
def Fu.d (f : Fu) : List D := [.c (.string f.nm), .s 5 (Par.ds f.ps)] ++ f.res.d ++ [.s 11 (Sm.ds f.body), .c (.bool f.fl), .c (.int .i64 f.x), .c (.int .u16 f.y)]
def locF (f : Fu) : ByteArray → Bool := addL (fun _ => false) (f.ps.map Par.nm ++ decSs f.body)
def renF (z : List (ByteArray × ByteArray)) (f : Fu) : Fu := { f with nm := toT z f.nm, body := renSs (toT z) (locF f) f.body }
/-! rows of structs: n cells each -/
def dsOf {α : Type} (d : α → List D) (l : List α) : List D := l.flatMap d
theorem dsOf_len {α : Type} {d : α → List D} {n : Nat} (hd : ∀ a, (d a).length = n) : ∀ l : List α, (dsOf d l).length = l.length * n
  | [] => by simp [dsOf]
  | a :: r => by
    have := dsOf_len hd r
    simp only [dsOf, List.flatMap_cons, List.length_append, hd, List.length_cons] at this ⊢
    rw [this, Nat.add_mul]; omega
theorem dsOf_append {α : Type} (d : α → List D) (l m : List α) : dsOf d (l ++ m) = dsOf d l ++ dsOf d m := by simp [dsOf]
theorem Ty4.ds_of : ∀ l : List Ty4, Ty4.ds l = dsOf Ty4.d l
  | [] => rfl
  | t :: r => by simp only [Ty4.ds, Ty4.ds_of r, dsOf, List.flatMap_cons]
theorem Ex.ds_of : ∀ l : List Ex, Ex.ds l = dsOf Ex.d l
  | [] => rfl
  | t :: r => by simp only [Ex.ds, Ex.ds_of r, dsOf, List.flatMap_cons]
theorem Sm.ds_of : ∀ l : List Sm, Sm.ds l = dsOf Sm.d l
  | [] => rfl
  | t :: r => by simp only [Sm.ds, Sm.ds_of r, dsOf, List.flatMap_cons]
theorem Ty4.d_len (t : Ty4) : t.d.length = 4 := by cases t; simp [Ty4.d]
theorem Ex.d_len (t : Ex) : t.d.length = 4 := by cases t; simp [Ex.d]
theorem Sm.d_len (t : Sm) : t.d.length = 11 := by cases t; simp [Sm.d, Ty4.d_len]
theorem Par.d_len (f : Par) : f.d.length = 5 := by simp [Par.d, Ty4.d_len]
theorem el_len {α : Type} {d : α → List D} {n : Nat} (hd : ∀ a, (d a).length = n) (hn : 0 < n) {H : Hp} {l : List α} {v : Value} (h : rd H (.s n (dsOf d l)) v) : ∃ A c, v = .slice A l.length c ∧ l.length ≤ c ∧ c ≤ 9223372036854775807 := by
  obtain ⟨A, m, c, rfl, h1, h2, h3⟩ := h.s_len
  rw [dsOf_len hd] at h1
  have : m = l.length := by
    first
      | exact (Nat.eq_of_mul_eq_mul_right hn h1).symm
      | exact Nat.eq_of_mul_eq_mul_right hn h1
  subst this
  exact ⟨A, c, rfl, h2, h3⟩
theorem rds.cellsE {H : Hp} {b : Nat} : ∀ {xs : List D} {o : Nat}, rds H b o xs → ∃ vs, hAt H b o vs ∧ RdL H xs vs
  | [], _, _ => ⟨[], trivial, trivial⟩
  | x :: r, o, h => by
    simp only [rds] at h
    obtain ⟨⟨u, h1, h2⟩, h3⟩ := h
    obtain ⟨vs, h4, h5⟩ := rds.cellsE h3
    exact ⟨u :: vs, ⟨h1, h4⟩, h2, h5⟩
theorem el_at {α : Type} {d : α → List D} {n : Nat} (hd : ∀ a, (d a).length = n) (hn : 0 < n) {H : Hp} {l : List α} {A : Option Addr} {m c : Nat} (h : rd H (.s n (dsOf d l)) (.slice A m c)) {i : Nat} {t : α} (hi : l[i]? = some t) :
    ∃ b o cs, A = some ⟨b, o, none⟩ ∧ hAt H b (o + i * n) cs ∧ RdL H (d t) cs ∧ cs.length = n := by
  have hlt : i < l.length := (List.getElem?_eq_some_iff.1 hi).1
  have hm : m = l.length := by
    obtain ⟨A', c', e, _⟩ := el_len hd hn h
    injection e
  subst hm
  obtain ⟨_, b, o, rfl, hr⟩ := h.s_at (by omega)
  obtain ⟨l1, l2, rfl, rfl⟩ := split_at hi
  have hr' : rds H b (o + l1.length * n) (d t) := by
    refine rds.mk fun j x hx => ?_
    have hj : j < (d t).length := (List.getElem?_eq_some_iff.1 hx).1
    have := hr.get (l1.length * n + j) x (by
      rw [dsOf_append, List.getElem?_append_right (by rw [dsOf_len hd]; omega), dsOf_len hd]
      simp only [dsOf, List.flatMap_cons]
      rw [Nat.add_sub_cancel_left, List.getElem?_append_left hj, hx])
    obtain ⟨u, h1, h2⟩ := this
    exact ⟨u, by rw [← h1]; congr 1; omega, h2⟩
  obtain ⟨cs, h1, h2⟩ := rds.cellsE hr'
  exact ⟨b, o, cs, rfl, h1, h2, by rw [← h2.len, hd]⟩
theorem el_snoc {α : Type} {d : α → List D} {H : Hp} {l : List α} {vs cs : List Value} {t : α} (h : RdL H (dsOf d l) vs) (ht : RdL H (d t) cs) : RdL H (dsOf d (l ++ [t])) (vs ++ cs) := by
  rw [dsOf_append]
  exact h.append (by simpa [dsOf] using ht)
/-! what the makers make -/
def bs (l : List UInt8) : ByteArray := ⟨l.toArray⟩
def nA := bs [97]
def nG0 := bs [103, 48]
def nG1 := bs [103, 49]
def nF := bs [102]
def numE (n : Int) : Ex := .mk 1 ⟨#[]⟩ n []
def nameE (s : ByteArray) : Ex := .mk 2 s 0 []
def valueL (n : Int) : List Ex := [numE n, nameE nA, nameE nG0, nameE nG1, .mk 14 nF 0 [numE n, nameE nG0], .mk 13 (bs [43]) 0 [nameE nA, numE n], .mk 12 (bs [126]) 0 [nameE nG1]]
def valueP (q1 q2 : Int) : Ex := (valueL (IntKind.u16.wrap q2)).getD (q1 % 7).toNat (numE 0)
def ty4z : Ty4 := .mk 0 ⟨#[]⟩ 0 []
def smK (k n : Int) (xs : List Ex) (b : List Sm) : Sm := .mk k ⟨#[]⟩ ty4z n xs b [] []
def stmtP (q : Int × Int × Int) : Sm :=
  if q.1 % 5 = 0 then smK 11 (q.2.2 % 9) [valueP q.2.1 q.2.2] []
  else if q.1 % 5 = 1 then smK 2 0 [nameE nG0, valueP q.2.1 q.2.2] []
  else if q.1 % 5 = 2 then smK 3 0 [valueP q.2.1 q.2.2] [smK 11 1 [nameE nA] []]
  else if q.1 % 5 = 3 then smK 14 0 [.mk 14 nF 0 [valueP q.2.1 q.2.2]] []
  else smK 11 2 [numE (IntKind.u16.wrap q.2.2)] []
def funcP (l : List (Int × Int × Int)) : Fu := ⟨bs [109, 97, 105, 110], [⟨nA, .mk 1 ⟨#[]⟩ 0 []⟩], .mk 7 ⟨#[]⟩ 0 [], (l.take 12).map stmtP, false, 0, 0⟩
theorem ex_mk {H : Hp} {k n : Int} {nm : ByteArray} {ks : List Ex} {v : Value} (h : rd H (.s 4 (Ex.ds ks)) v) : RdL H (Ex.mk k nm n ks).d [.int .i64 k, .string nm, .int .u16 n, v] := by
  simp only [Ex.d]
  exact ⟨by simp [rd], by simp [rd], by simp [rd], h, trivial⟩
theorem ex_cells {H : Hp} {k n : Int} {nm : ByteArray} {ks : List Ex} {c0 c1 c2 c3 : Value} (h : RdL H (Ex.mk k nm n ks).d [c0, c1, c2, c3]) : c0 = .int .i64 k ∧ c1 = .string nm ∧ c2 = .int .u16 n ∧ rd H (.s 4 (Ex.ds ks)) c3 := by
  simp only [Ex.d] at h
  obtain ⟨h0, h1, h2, h3, _⟩ := h
  simp only [rd] at h0 h1 h2
  exact ⟨h0, h1, h2, h3⟩
theorem num_d (H : Hp) (n : Int) : RdL H (numE n).d [.int .i64 1, .string ⟨#[]⟩, .int .u16 n, .slice none 0 0] := ex_mk (rd.nil _ _)
theorem name_d (H : Hp) (s : ByteArray) : RdL H (nameE s).d [.int .i64 2, .string s, .int .u16 0, .slice none 0 0] := ex_mk (rd.nil _ _)
theorem ex_cons {H : Hp} {e : Ex} {r : List Ex} {cs vs : List Value} (h : RdL H e.d cs) (hr : RdL H (Ex.ds r) vs) : RdL H (Ex.ds (e :: r)) (cs ++ vs) := h.append hr
theorem ex_nil (H : Hp) : RdL H (Ex.ds []) [] := trivial
theorem ex_ones {H : Hp} {x : Ex} {c0 c1 c2 c3 : Value} (h : RdL H x.d [c0, c1, c2, c3]) : Ones [c0, c1, c2, c3] := by
  obtain ⟨k, nm, n, ks⟩ := x
  obtain ⟨rfl, rfl, rfl, h3⟩ := ex_cells h
  exact ⟨rfl, rfl, rfl, rd.one (sz := 4) h3, trivial⟩
theorem sm_mk {H : Hp} {k n : Int} {xs : List Ex} {b : List Sm} {v u : Value} (h : rd H (.s 4 (Ex.ds xs)) v) (hb : rd H (.s 11 (Sm.ds b)) u) :
    RdL H (smK k n xs b).d [.int .i64 k, .string ⟨#[]⟩, .int .i64 0, .string ⟨#[]⟩, .int .i64 0, .slice none 0 0, .int .u16 n, v, u, .slice none 0 0, .slice none 0 0] := by
  simp only [smK, Sm.d, ty4z, Ty4.d, List.cons_append, List.nil_append]
  exact ⟨by simp [rd], by simp [rd], by simp [rd], by simp [rd], by simp [rd], rd.nil _ _, by simp [rd], h, hb, rd.nil _ _, rd.nil _ _, trivial⟩
end Go.Proofs.Ytapmmfabdmhdnaa.K
