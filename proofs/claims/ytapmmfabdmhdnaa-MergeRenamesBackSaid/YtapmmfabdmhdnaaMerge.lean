/-
  Merge as plain functions on trees: what a side makes of kids, the alignment, the merge of three nodes with its conflicts in their order.
-/
import Derived.Test.YtapmmfabdmhdnaaTree
set_option linter.unusedVariables false
set_option linter.unusedSimpArgs false
namespace Go.Proofs.Ytapmmfabdmhdnaa.K
open Go Go.RowKit

abbrev Path := List Nat
/-- What a side makes of a kid. -/
inductive Fate where
  | kept
  | chg (t : Tr)
  | del
def Fate.tag : Fate → Int | .kept => 0 | .chg _ => 1 | .del => 2
def Tr.zero : Tr := .node ⟨#[]⟩ []
def Fate.to : Fate → Tr | .chg t => t | _ => Tr.zero
def Fate.d (f : Fate) : List D := .c (.int .i64 f.tag) :: f.to.d
def Fate.ds (l : List Fate) : List D := l.flatMap Fate.d

def pV (p : Path) : List Value := p.map fun (n : Nat) => Value.int .i64 (n : Int)
def pD (p : Path) : D := .s 1 ((pV p).map D.c)
theorem pV_len (p : Path) : (pV p).length = p.length := by simp [pV]
theorem pV_one (p : Path) : ∀ u ∈ pV p, u.oneCell' = true := by
  intro u hu
  obtain ⟨n, _, rfl⟩ := List.mem_map.1 hu
  rfl
theorem Tr.ds_one (ks : List Tr) : ∀ d ∈ Tr.ds ks, D.One d := by
  induction ks with
  | nil => simp [Tr.ds]
  | cons t r ih =>
    obtain ⟨l, kk⟩ := t
    intro d hd
    simp only [Tr.ds, Tr.d, List.cons_append, List.nil_append, List.mem_cons] at hd
    rcases hd with rfl | rfl | hd
    · rfl
    · trivial
    · exact ih d hd

/-- The log of conflicts: a slice of paths in a row of our own. -/
def Log (H : Hp) (u : Value) (ps : List Path) (seg : Seg) : Prop := ∃ xs, Row 22 1 u ps.length xs seg ∧ RdL H (ps.map pD) xs
theorem Log.mono {H H' : Hp} (hl : Le H H') {u : Value} {ps : List Path} {seg : Seg} : Log H u ps seg → Log H' u ps seg := fun ⟨xs, h1, h2⟩ => ⟨xs, h1, h2.mono hl⟩
theorem Log.nil (H : Hp) : Log H (.slice none 0 0) [] [] := ⟨[], Row.nil 22 1, trivial⟩

/-! what a side inserts at an index; a kid; -/
def insP (l r : List Tr) (p : Path) : List Tr × List Path := if l = [] then (r, []) else if r = [] ∨ l = r then (l, []) else ([], [p])
def kidP (f : Tr → Tr → Tr → Path → Tr × List Path) (b : Tr) (l r : Fate) (p : Path) : List Tr × List Path :=
  match l, r with
  | .kept, .kept => ([b], [])
  | .chg x, .chg y => ([(f b x y p).1], (f b x y p).2)
  | .chg x, .kept => ([x], [])
  | .kept, .chg y => ([y], [])
  | .chg _, .del => ([], [p])
  | .del, .chg _ => ([], [p])
  | _, _ => ([], [])
section
variable {f : Tr → Tr → Tr → Path → Tr × List Path} {b : Tr} {l r : Fate} {p : Path}
theorem kp_00 (h1 : l.tag = 0) (h2 : r.tag = 0) : kidP f b l r p = ([b], []) := by cases l <;> cases r <;> simp [Fate.tag] at h1 h2; rfl
theorem kp_11 (h1 : l.tag = 1) (h2 : r.tag = 1) : kidP f b l r p = ([(f b l.to r.to p).1], (f b l.to r.to p).2) := by cases l <;> cases r <;> simp [Fate.tag] at h1 h2; rfl
theorem kp_10 (h1 : l.tag = 1) (h2 : r.tag = 0) : kidP f b l r p = ([l.to], []) := by cases l <;> cases r <;> simp [Fate.tag] at h1 h2; rfl
theorem kp_01 (h1 : l.tag = 0) (h2 : r.tag = 1) : kidP f b l r p = ([r.to], []) := by cases l <;> cases r <;> simp [Fate.tag] at h1 h2; rfl
theorem kp_c (h : (l.tag = 1 ∧ r.tag ≠ 0 ∧ r.tag ≠ 1) ∨ (r.tag = 1 ∧ l.tag ≠ 0 ∧ l.tag ≠ 1)) : kidP f b l r p = ([], [p]) := by cases l <;> cases r <;> simp [Fate.tag] at h <;> rfl
theorem kp_n (h : l.tag ≠ 1 ∧ r.tag ≠ 1 ∧ ¬(l.tag = 0 ∧ r.tag = 0)) : kidP f b l r p = ([], []) := by cases l <;> cases r <;> simp [Fate.tag] at h <;> rfl
end

/-! the alignment -/
def lcsRow (b : Tr) (prev : List Tr → Nat) : List Tr → Nat
  | [] => 0
  | x :: xs => if b.eqb x then prev xs + 1 else max (prev (x :: xs)) (lcsRow b prev xs)
def lcs : List Tr → List Tr → Nat
  | [] => fun _ => 0
  | b :: bs => lcsRow b (lcs bs)
theorem lcs_nil (b : List Tr) : lcs b [] = 0 := by cases b <;> simp [lcs, lcsRow]
theorem lcs_cons (b x : Tr) (bs xs : List Tr) : lcs (b :: bs) (x :: xs) = if b.eqb x then lcs bs xs + 1 else max (lcs bs (x :: xs)) (lcs (b :: bs) xs) := by simp [lcs, lcsRow]
def pw : Nat → List Tr → List Tr → Nat → Nat → List (Nat × Nat)
  | 0, _, _, _, _ => []
  | f + 1, b, x, i, j => match b, x with
    | b :: bs, x :: xs => if b.eqb x then (i, j) :: pw f bs xs (i + 1) (j + 1) else if lcs (b :: bs) xs ≤ lcs bs (x :: xs) then pw f bs (x :: xs) (i + 1) j else pw f (b :: bs) xs i (j + 1)
    | _, _ => []
def pairsP (b x : List Tr) : List (Nat × Nat) := pw (b.length + x.length) b x 0 0 ++ [(b.length, x.length)]

/-- The gap from (i, j) to (n, m): the kids i..n-1 become those from j on if there are as many, or go. -/
def gapK (x : List Tr) (i j n m : Nat) : Nat → List Fate → List Fate
  | 0, F => F
  | c + 1, F => (gapK x i j n m c F).set (i + c) (if n - i = m - j then .chg (x.getD (j + c) Tr.zero) else .del)
def gapI (x : List Tr) (i j n m : Nat) (I : List (List Tr)) : List (List Tr) := if n - i = m - j then I else I.set i ((x.drop j).take (m - j))
structure Al where
  F : List Fate
  I : List (List Tr)
def alignGo (x : List Tr) : List (Nat × Nat) → Nat → Nat → Al → Al
  | [], _, _, a => a
  | (n, m) :: r, i, j, a => alignGo x r (n + 1) (m + 1) ⟨gapK x i j n m (n - i) a.F, gapI x i j n m a.I⟩
def alignP (b x : List Tr) : Al := alignGo x (pairsP b x) 0 0 ⟨List.replicate b.length .kept, List.replicate (b.length + 1) []⟩

/-! three nodes -/
def mergeK (f : Tr → Tr → Tr → Path → Tr × List Path) (b : List Tr) (x y : Al) (p : Path) (c0 : List Path) : Nat → List Tr × List Path
  | 0 => ([], c0)
  | i + 1 =>
    let s := mergeK f b x y p c0 i
    let q := insP (x.I.getD i []) (y.I.getD i []) (p ++ [i])
    match b[i]? with
    | none => (s.1 ++ q.1, s.2 ++ q.2)
    | some t =>
      let k := kidP f t (x.F.getD i .kept) (y.F.getD i .kept) (p ++ [i])
      (s.1 ++ q.1 ++ k.1, s.2 ++ q.2 ++ k.2)
def labP (b l r : ByteArray) : ByteArray := if l = b then r else l
def labC (b l r : ByteArray) (p : Path) : List Path := if l = b ∨ r = b ∨ r = l then [] else [p]
def mergeF : Nat → Tr → Tr → Tr → Path → Tr × List Path
  | 0, _, l, _, _ => (l, [])
  | k + 1, b, l, r, p =>
    if l = b then (r, []) else if r = b ∨ l = r then (l, []) else
      let s := mergeK (mergeF k) b.kids (alignP b.kids l.kids) (alignP b.kids r.kids) p (labC b.lab l.lab r.lab p) (b.kids.length + 1)
      (.node (labP b.lab l.lab r.lab) s.1, s.2)
end Go.Proofs.Ytapmmfabdmhdnaa.K
