/-
  Part 3 of 6 of the proof that MatchVaried returns true for every list of numbers and every number, and leaves its arguments as they were.. No condition beyond the given statement.
-/
import Derived.Maps.RangeRun
import Derived.Maps.Range
import Derived.Test.YticengaggjcppaaGreatPkD2
set_option linter.unusedVariables false
set_option linter.unusedSimpArgs false
set_option linter.all false
set_option maxRecDepth 20000
set_option maxHeartbeats 8000000
namespace Go.Proofs.YticengaggjcppaaGreat.X
open Go Go.RowKit Go.Proofs K
def aN (s : ByteArray) : Ex := .mk 2 s 0 []
def fD (n : Int) : Ex := .mk 1 eS n []
def ka (op : ByteArray) (a b : Ex) : Ex := .mk 13 op 0 [a, b]
def fldE (e : Ex) (s : ByteArray) : Ex := .mk 3 s 0 [e]
def idxE (e i : Ex) : Ex := .mk 4 eS 0 [e, i]
def locL : List ByteArray := [⟨#[97]⟩, ⟨#[98]⟩, ⟨#[99]⟩, ⟨#[112]⟩, ⟨#[118, 49]⟩, ⟨#[118, 50]⟩, ⟨#[118, 51]⟩, ⟨#[118, 52]⟩, ⟨#[118, 53]⟩, ⟨#[118, 54]⟩, ⟨#[118, 55]⟩, ⟨#[118, 56]⟩, ⟨#[118, 57]⟩]
def gloL : List ByteArray := [⟨#[103, 48]⟩, ⟨#[103, 49]⟩, ⟨#[103, 50]⟩, ⟨#[97, 114, 114]⟩, ⟨#[98, 121, 116, 101, 115]⟩, ⟨#[103, 115]⟩, ⟨#[103, 117]⟩, ⟨#[116, 97, 98]⟩, ⟨#[119, 111, 114, 100, 115]⟩]
def funL : List ByteArray := [⟨#[109, 97, 105, 110]⟩, ⟨#[102, 105, 114, 115, 116]⟩, ⟨#[115, 101, 99, 111, 110, 100]⟩, ⟨#[116, 104, 105, 114, 100, 95, 102, 117, 110, 99, 116, 105, 111, 110, 95, 111, 102, 95, 116, 104, 101, 109, 95, 88]⟩]
def dk (s : ByteArray) : Bool := aA s locL
def gloN (s : ByteArray) : Bool := aA s gloL
def funN (s : ByteArray) : Bool := aA s funL
theorem fO {s : ByteArray} {l : List ByteArray} (hl : (l.all aI) = true) (h : aA s l = true) : aI s = true := by
  obtain ⟨x, hx, hs⟩ := List.any_eq_true.1 h
  simp only [decide_eq_true_eq] at hs
  subst hs
  exact List.all_eq_true.1 hl x hx
theorem nT {s : ByteArray} (h : dk s = true) : aI s = true := fO (by decide +kernel) h
theorem gloN_id {s : ByteArray} (h : gloN s = true) : aI s = true := fO (by decide +kernel) h
theorem nU {s : ByteArray} (h : funN s = true) : aI s = true := fO (by decide +kernel) h
def nmK (k : Int) (nm : ByteArray) : Bool := if k = 2 then dk nm || gloN nm else if k = 14 then funN nm else true
mutual
def nmE : Ex → Bool
  | .mk k nm _ ks => nmK k nm && nmEs ks
def nmEs : List Ex → Bool
  | [] => true
  | t :: r => nmE t && nmEs r
end
theorem kY : ∀ l, nmEs l = l.all nmE
  | [] => rfl
  | t :: r => by simp only [nmEs, List.all_cons, kY r]
mutual
def nmS : Sm → Bool
  | .mk k nm _ _ xs b el cs => (decide (k ≠ 1) || dk nm) && nmEs xs && jz b && jz el && nmCs cs
def jz : List Sm → Bool
  | [] => true
  | t :: r => nmS t && jz r
def nmCs : List (List Sm) → Bool
  | [] => true
  | c :: r => jz c && nmCs r
end
theorem iP : ∀ l, jz l = l.all nmS
  | [] => rfl
  | t :: r => by simp only [jz, List.all_cons, iP r]
theorem kZ : ∀ l, nmCs l = l.all jz
  | [] => rfl
  | t :: r => by simp only [nmCs, List.all_cons, kZ r]
structure EG (B : Nat) (e : Ex) : Prop where
  r : rEx e = true
  o : e.ok
  s : e.size ≤ B
  u : nmE e = true
def EGp (B : Nat) (e : Ex) : Prop := EG B e ∧ ic e.kind = true
def EGc (B : Nat) (e : Ex) : Prop := EG B e ∧ e.kind = 14
structure EGs (B : Nat) (l : List Ex) : Prop where
  r : rExs l = true
  o : Ex.oks l
  s : Ex.sizes l ≤ B
  u : nmEs l = true
theorem EG.mono {B C : Nat} {e : Ex} (h : EG B e) (hl : B ≤ C) : EG C e := ⟨h.r, h.o, Nat.le_trans h.s hl, h.u⟩
theorem EGs.mono {B C : Nat} {e : List Ex} (h : EGs B e) (hl : B ≤ C) : EGs C e := ⟨h.r, h.o, Nat.le_trans h.s hl, h.u⟩
theorem EGs.nil : EGs 0 [] := ⟨rfl, trivial, Nat.le_refl _, rfl⟩
theorem EGs.cons {B C : Nat} {e : Ex} {l : List Ex} (h : EG B e) (k : EGs C l) : EGs (B + C) (e :: l) := ⟨by simp [rExs, h.r, k.r], ⟨h.o, k.o⟩, by have := h.s; have := k.s; simp only [Ex.sizes]; omega, by simp [nmEs, h.u, k.u]⟩
theorem EGs.one {B : Nat} {e : Ex} (h : EG B e) : EGs B [e] := (EGs.cons h EGs.nil).mono (by omega)
theorem EGs.snoc {B C : Nat} {e : Ex} {l : List Ex} (h : EGs B l) (k : EG C e) : EGs (B + C) (l ++ [e]) := ⟨by rw [kX, List.all_append, ← kX]; simp [h.r, k.r], Ex.oks_append.2 ⟨h.o, k.o, trivial⟩, by have := h.s; have := k.s; simp only [Ex.sizes_append, Ex.sizes]; omega, by rw [kY, List.all_append, ← kY]; simp [h.u, k.u]⟩
theorem aR {s : ByteArray} (h : aI s = true) : s.size ≤ 24 := by
  simp only [aI, Bool.and_eq_true, decide_eq_true_eq] at h
  exact h.1.1.1.2
theorem EG.of {B : Nat} {k n : Int} {nm : ByteArray} {ks : List Ex} (hk : 1 ≤ k ∧ k ≤ 15) (hn : exName k nm = true) (hs : nm.size ≤ 1000000) (hl : k = 14 ∨ (ks.length : Int) = exKids k) (h0 : 0 ≤ n) (h1 : n < exLim k) (h : EGs B ks) (hu : nmK k nm = true := by rfl) : EG (B + 1) (.mk k nm n ks) := by
  have hx : exLim k ≤ 65536 := by unfold exLim; split; omega; split; omega; split <;> omega
  refine ⟨?_, ⟨⟨by omega, by omega⟩, hs, ⟨h0, by omega⟩, h.o⟩, by have := h.s; simp only [Ex.size]; omega, by rw [nmE, hu, h.u]; rfl⟩
  simp only [rEx, Bool.and_eq_true, Bool.or_eq_true, decide_eq_true_eq]
  exact ⟨⟨⟨⟨hk, hn⟩, hl⟩, h1⟩, h.r⟩
theorem eg_nm {s : ByteArray} (h : dk s = true ∨ gloN s = true) : EG 1 (aN s) := by
  have hi : aI s = true := h.elim nT gloN_id
  exact EG.of (k := 2) (by omega) hi (by have := aR hi; omega) (.inr rfl) (by omega) (by decide) EGs.nil (by show (dk s || gloN s) = true; rcases h with h | h <;> simp [h])
theorem jA {s : ByteArray} (h : dk s = true) : EG 1 (aN s) := eg_nm (.inl h)
theorem bU {s : ByteArray} (h : gloN s = true) : EG 1 (aN s) := eg_nm (.inr h)
theorem ig {n : Int} (h0 : 0 ≤ n) (h1 : n ≤ 65535) : EG 1 (fD n) := EG.of (k := 1) (by omega) rfl (by decide) (.inr rfl) h0 (by show n < 65536; omega) EGs.nil
theorem fP {s : ByteArray} {l : List ByteArray} {m : Nat} (hl : (l.all fun x => Nat.ble x.size m) = true) (h : aA s l = true) : s.size ≤ m := by
  obtain ⟨x, hx, hs⟩ := List.any_eq_true.1 h
  have := List.all_eq_true.1 hl x hx
  simp only [decide_eq_true_eq] at hs
  subst hs
  exact Nat.le_of_ble_eq_true this
theorem fQ {A B : Nat} {op : ByteArray} {a b : Ex} (h : aA op opsL = true) (ha : EG A a) (hb : EG B b) : EG (A + B + 1) (ka op a b) :=
  EG.of (k := 13) (by omega) h (Nat.le_trans (fP (m := 2) (by decide) h) (by omega)) (.inr rfl) (by omega) (by decide) ((EGs.cons ha (EGs.one hb)))
theorem k7 {A : Nat} {s : ByteArray} {e : Ex} (h : aI s = true) (ha : EG A e) : EG (A + 1) (fldE e s) := EG.of (k := 3) (by omega) h (by have := aR h; omega) (.inr rfl) (by omega) (by decide) (EGs.one ha)
theorem nV {A B : Nat} {a b : Ex} (ha : EG A a) (hb : EG B b) : EG (A + B + 1) (idxE a b) := EG.of (k := 4) (by omega) rfl (by decide) (.inr rfl) (by omega) (by decide) ((EGs.cons ha (EGs.one hb)))
theorem eg_one {A : Nat} {k : Int} {e : Ex} (hk : k = 5 ∨ k = 6) (ha : EG A e) : EG (A + 1) (.mk k eS 0 [e]) := by
  rcases hk with rfl | rfl
  {
  exact EG.of (k := 5) (by omega) rfl (by decide) (.inr rfl) (by omega) (by decide) (EGs.one ha)}; {
  exact EG.of (k := 6) (by omega) rfl (by decide) (.inr rfl) (by omega) (by decide) (EGs.one ha)}
theorem eg_un {A : Nat} {op : ByteArray} {e : Ex} (h : aA op unL = true) (ha : EG A e) : EG (A + 1) (.mk 12 op 0 [e]) := EG.of (k := 12) (by omega) h (Nat.le_trans (fP (m := 1) (by decide) h) (by omega)) (.inr rfl) (by omega) (by decide) (EGs.one ha)
theorem eg_cast {A : Nat} {op : ByteArray} {e : Ex} (h : aA op castL = true) (ha : EG A e) : EG (A + 1) (.mk 15 op 0 [e]) := EG.of (k := 15) (by omega) h (Nat.le_trans (fP (m := 3) (by decide) h) (by omega)) (.inr rfl) (by omega) (by decide) (EGs.one ha)
theorem eg_inp {n : Int} (h0 : 0 ≤ n) (h1 : n < 256) : EG 1 (.mk 11 eS n []) := EG.of (k := 11) (by omega) rfl (by decide) (.inr rfl) h0 (by show n < 256; omega) EGs.nil
theorem eg_call {A : Nat} {nm : ByteArray} {l : List Ex} (h : funN nm = true) (ha : EGs A l) : EG (A + 1) (.mk 14 nm 0 l) := EG.of (k := 14) (by omega) (nU h) (by have := aR (nU h); omega) (.inl rfl) (by omega) (by decide) ha h
structure FR (f : Fu) : Prop where
  nm : funN f.nm = true
  ps : ∀ p ∈ f.ps, dk p.nm = true ∧ rTy p.ty = true ∧ p.ty.ok ∧ p.ty.size ≤ 8
  pl : f.ps.length ≤ 3
  res : (rTy f.res = true ∨ jy f.res 7 = true) ∧ f.res.ok ∧ f.res.size ≤ 8
  body : f.body = [] ∧ f.fl = false ∧ f.x = 0 ∧ f.y = 0
def SB (d : Nat) : Nat := 8 * 4 ^ d
theorem ko (d : Nat) : SB (d + 1) = 4 * SB d := by unfold SB; rw [Nat.pow_succ]; omega
theorem jB : ∀ d : Nat, 8 ≤ SB d
  | 0 => by decide
  | d + 1 => by have := jB d; rw [ko]; omega
def constL : List Int := [0, 1, 2, 3, 5, 7, 15, 16, 127, 128, 255, 256, 1000, 32767, 32768, 65535]
theorem constL_in {i : Nat} {x : Int} (h : constL[i]? = some x) : 0 ≤ x ∧ x ≤ 65535 := by
  have : ∀ x ∈ constL, 0 ≤ x ∧ x ≤ 65535 := by decide
  exact this x (List.mem_of_getElem? h)
theorem EGs.step {i d : Nat} {es : List Ex} {e : Ex} (h : EGs (i * SB d) es) (he : EG (SB d) e) : EGs ((i + 1) * SB d) (es ++ [e]) := (h.snoc he).mono (by rw [Nat.add_mul]; omega)
structure SG (B : Nat) (e : Sm) : Prop where
  r : rSm e = true
  o : e.ok
  s : e.size ≤ B
  u : nmS e = true
structure SGs (B : Nat) (l : List Sm) : Prop where
  r : rSms l = true
  o : Sm.oks l
  s : Sm.sizes l ≤ B
  u : jz l = true
structure SGc (B : Nat) (l : List (List Sm)) : Prop where
  r : rCs l = true
  o : Sm.okc l
  s : Sm.csizes l ≤ B
  u : nmCs l = true
theorem SG.mono {B C : Nat} {e : Sm} (h : SG B e) (hl : B ≤ C) : SG C e := ⟨h.r, h.o, Nat.le_trans h.s hl, h.u⟩
theorem SGs.mono {B C : Nat} {e : List Sm} (h : SGs B e) (hl : B ≤ C) : SGs C e := ⟨h.r, h.o, Nat.le_trans h.s hl, h.u⟩
theorem SGc.mono {B C : Nat} {e : List (List Sm)} (h : SGc B e) (hl : B ≤ C) : SGc C e := ⟨h.r, h.o, Nat.le_trans h.s hl, h.u⟩
theorem SGs.nil : SGs 0 [] := ⟨rfl, trivial, Nat.le_refl _, rfl⟩
theorem SGc.nil : SGc 0 [] := ⟨rfl, trivial, Nat.le_refl _, rfl⟩
theorem SGs.cons {B C : Nat} {e : Sm} {l : List Sm} (h : SG B e) (k : SGs C l) : SGs (B + C) (e :: l) := ⟨by simp [rSms, h.r, k.r], ⟨h.o, k.o⟩, by have := h.s; have := k.s; simp only [Sm.sizes]; omega, by simp [jz, h.u, k.u]⟩
theorem SGs.one {B : Nat} {e : Sm} (h : SG B e) : SGs B [e] := (SGs.cons h SGs.nil).mono (by omega)
theorem SGs.append {B C : Nat} {a b : List Sm} (h : SGs B a) (k : SGs C b) : SGs (B + C) (a ++ b) := ⟨by rw [iN, List.all_append, ← iN, ← iN]; simp [h.r, k.r], Sm.oks_append.2 ⟨h.o, k.o⟩, by have := h.s; have := k.s; simp only [Sm.sizes_append]; omega, by rw [iP, List.all_append, ← iP, ← iP]; simp [h.u, k.u]⟩
theorem SGs.snoc {B C : Nat} {e : Sm} {l : List Sm} (h : SGs B l) (k : SG C e) : SGs (B + C) (l ++ [e]) := h.append (SGs.one k)
theorem SGc.snoc {B C : Nat} {e : List Sm} {l : List (List Sm)} (h : SGc B l) (k : SGs C e) : SGc (B + C + 1) (l ++ [e]) := ⟨by rw [nR, List.all_append, ← nR]; simp [h.r, k.r], Sm.okc_append.2 ⟨h.o, k.o, trivial⟩, by have := h.s; have := k.s; simp only [Sm.csizes_append, Sm.csizes]; omega, by rw [kZ, List.all_append, ← kZ]; simp [h.u, nmCs, k.u]⟩
theorem bV : ty4z.ok := ⟨⟨by omega, by omega⟩, by decide, ⟨by omega, by omega⟩, trivial⟩
theorem SG.of {A B C D T : Nat} {k n : Int} {nm : ByteArray} {t : Ty4} {xs : List Ex} {b el : List Sm} {cs : List (List Sm)} (hk : 1 ≤ k ∧ k ≤ 14) (hl : smLeast k ≤ (xs.length : Int)) (hm : (xs.length : Int) ≤ smMost k) (hnm : ib k nm = true) (hns : nm.size ≤ 1000000)
    (ht : (if k = 1 then rTy t else jy t 0) = true) (hto : t.ok) (hts : t.size ≤ T) (hn : n = 0 ∨ smPo k = true) (h0 : 0 ≤ n) (h1 : n < 256) (hb : smBd k = true ∨ b = []) (hel : smEl k = true ∨ el = []) (hcs : smCs k = true ∨ cs = [])
    (hd : k = 14 → headK (fun j => decide (j = 14)) xs = true) (ha : k = 2 → headK ic xs = true) (hx : EGs A xs) (hB : SGs B b) (hE : SGs C el) (hC : SGc D cs) (hu : k = 1 → dk nm = true := by omega) : SG (T + A + B + C + D + 1) (.mk k nm t n xs b el cs) := by
  refine ⟨?_, ⟨⟨by omega, by omega⟩, hns, hto, ⟨h0, by omega⟩, hx.o, hB.o, hE.o, hC.o⟩, by have := hx.s; have := hB.s; have := hE.s; have := hC.s; simp only [Sm.size]; omega, ?_⟩
  rotate_left; {
  rw [nmS, hx.u, hB.u, hE.u, hC.u, Bool.and_true, Bool.and_true, Bool.and_true, Bool.and_true]
  by_cases q : k = 1; {
  rw [hu q]; simp}; {
  simp [q]}}
  simp only [rSm, Bool.and_eq_true, Bool.or_eq_true, decide_eq_true_eq, Bool.not_eq_true', decide_eq_false_iff_not, List.length_eq_zero_iff]
  refine ⟨⟨⟨⟨⟨⟨⟨⟨⟨⟨⟨⟨⟨⟨hk, hl⟩, hm⟩, hx.r⟩, hnm⟩, ht⟩, ?_⟩, hb⟩, hel⟩, hcs⟩, ?_⟩, ?_⟩, hB.r⟩, hE.r⟩, hC.r⟩; {
  rcases hn with h | h
  {
  exact .inl h}; {
  exact .inr ⟨h, h1⟩}}; {
  by_cases h : k = 14; {
  exact .inr (hd h)}; {
  exact .inl h}}; {
  by_cases h : k = 2; {
  exact .inr (ha h)}; {
  exact .inl h}}
theorem sg_let {A T : Nat} {nm : ByteArray} {t : Ty4} {e : Ex} (hl : dk nm = true) (ht : rTy t = true) (ho : t.ok) (hs : t.size ≤ T) (he : EG A e) : SG (T + A + 1) (.mk 1 nm t 0 [e] [] [] []) := by
  have h := nT hl
  exact SG.of (B := 0) (C := 0) (D := 0) (k := 1) (by omega) (show (1 : Int) ≤ 1 from by omega) (show (1 : Int) ≤ 1 from by omega) h (by have := aR h; omega) ht ho hs (.inl rfl) (by omega) (by omega) (.inr rfl) (.inr rfl) (.inr rfl) (by omega) (by omega) (EGs.one he) SGs.nil SGs.nil SGc.nil (fun _ => hl)
theorem sg_asg {A B : Nat} {a e : Ex} (ha : EGp A a) (he : EG B e) : SG (1 + (A + B) + 1) (.mk 2 eS ty4z 0 [a, e] [] [] []) :=
  SG.of (B := 0) (C := 0) (D := 0) (k := 2) (by omega) (show (2 : Int) ≤ 2 from by omega) (show (2 : Int) ≤ 2 from by omega) rfl (by decide) (by decide) bV (by decide) (.inl rfl) (by omega) (by omega) (.inr rfl) (.inr rfl) (.inr rfl) (by omega) (fun _ => ha.2) (EGs.cons ha.1 (EGs.one he)) SGs.nil SGs.nil SGc.nil
theorem mQ {A B C : Nat} {e : Ex} {b el : List Sm} (he : EG A e) (hb : SGs B b) (hc : SGs C el) : SG (1 + A + B + C + 1) (.mk 3 eS ty4z 0 [e] b el []) :=
  SG.of (D := 0) (k := 3) (by omega) (show (1 : Int) ≤ 1 from by omega) (show (1 : Int) ≤ 1 from by omega) rfl (by decide) (by decide) bV (by decide) (.inl rfl) (by omega) (by omega) (.inl rfl) (.inl rfl) (.inr rfl) (by omega) (by omega) (EGs.one he) hb hc SGc.nil
theorem sg_while {A B : Nat} {nm : ByteArray} {e : Ex} {b : List Sm} (h : nm = eS ∨ aI nm = true) (he : EG A e) (hb : SGs B b) : SG (1 + A + B + 1) (.mk 4 nm ty4z 0 [e] b [] []) :=
  SG.of (C := 0) (D := 0) (k := 4) (by omega) (show (1 : Int) ≤ 1 from by omega) (show (1 : Int) ≤ 1 from by omega) (by rcases h with rfl | h; exact rfl; simp [ib, fN, smFr, h]) (by rcases h with rfl | h; decide; have := aR h; omega) (by decide) bV (by decide) (.inl rfl) (by omega) (by omega) (.inl rfl) (.inr rfl) (.inr rfl) (by omega) (by omega) (EGs.one he) hb SGs.nil SGc.nil
theorem sg_loop {B : Nat} {k : Int} {nm : ByteArray} {b : List Sm} (hk : k = 5 ∨ k = 6) (h : aI nm = true) (hb : SGs B b) : SG (1 + B + 1) (.mk k nm ty4z 0 [] b [] []) := by
  have hs := aR h
  rcases hk with rfl | rfl
  {
  exact (SG.of (A := 0) (C := 0) (D := 0) (k := 5) (by omega) (by decide) (by decide) (by simp [ib, fN, smFr, h]) (by omega) (by decide) bV (by decide : ty4z.size ≤ 1) (.inl rfl) (by omega) (by omega) (.inl rfl) (.inr rfl) (.inr rfl) (by omega) (by omega) EGs.nil hb SGs.nil SGc.nil).mono (by omega)}; {
  exact (SG.of (A := 0) (C := 0) (D := 0) (k := 6) (by omega) (by decide) (by decide) (by simp [ib, fN, smFr, h]) (by omega) (by decide) bV (by decide : ty4z.size ≤ 1) (.inl rfl) (by omega) (by omega) (.inl rfl) (.inr rfl) (.inr rfl) (by omega) (by omega) EGs.nil hb SGs.nil SGc.nil).mono (by omega)}
theorem nW {k : Int} {nm : ByteArray} (hk : k = 7 ∨ k = 8) (h : aI nm = true) : SG 2 (.mk k nm ty4z 0 [] [] [] []) := by
  have hs := aR h
  rcases hk with rfl | rfl
  {
  exact (SG.of (A := 0) (B := 0) (C := 0) (D := 0) (k := 7) (by omega) (by decide) (by decide) (by simp [ib, fN, h]) (by omega) (by decide) bV (by decide : ty4z.size ≤ 1) (.inl rfl) (by omega) (by omega) (.inr rfl) (.inr rfl) (.inr rfl) (by omega) (by omega) EGs.nil SGs.nil SGs.nil SGc.nil).mono (by omega)}; {
  exact (SG.of (A := 0) (B := 0) (C := 0) (D := 0) (k := 8) (by omega) (by decide) (by decide) (by simp [ib, fN, h]) (by omega) (by decide) bV (by decide : ty4z.size ≤ 1) (.inl rfl) (by omega) (by omega) (.inr rfl) (.inr rfl) (.inr rfl) (by omega) (by omega) EGs.nil SGs.nil SGs.nil SGc.nil).mono (by omega)}
theorem sg_switch {A C D : Nat} {e : Ex} {el : List Sm} {cs : List (List Sm)} (he : EG A e) (hc : SGs C el) (hd : SGc D cs) : SG (1 + A + C + D + 1) (.mk 9 eS ty4z 0 [e] [] el cs) :=
  (SG.of (B := 0) (xs := [e]) (k := 9) (by omega) (show (1 : Int) ≤ 1 from by omega) (show (1 : Int) ≤ 1 from by omega) rfl (by decide) (by decide) bV (by decide : ty4z.size ≤ 1) (.inl rfl) (by omega) (by omega) (.inr rfl) (.inl rfl) (.inl rfl) (by omega) (by omega) (EGs.one he) SGs.nil hc hd).mono (by omega)
theorem sg_ret {A : Nat} {l : List Ex} (hl : l.length ≤ 1) (he : EGs A l) : SG (1 + A + 1) (.mk 10 eS ty4z 0 l [] [] []) :=
  (SG.of (B := 0) (C := 0) (D := 0) (k := 10) (by omega) (by show (0 : Int) ≤ _; omega) (by show _ ≤ (1 : Int); omega) rfl (by decide) (by decide) bV (by decide : ty4z.size ≤ 1) (.inl rfl) (by omega) (by omega) (.inr rfl) (.inr rfl) (.inr rfl) (by omega) (by omega) he SGs.nil SGs.nil SGc.nil).mono (by omega)
theorem sg_out {A : Nat} {n : Int} {e : Ex} (h0 : 0 ≤ n) (h1 : n < 256) (he : EG A e) : SG (1 + A + 1) (.mk 11 eS ty4z n [e] [] [] []) :=
  (SG.of (B := 0) (C := 0) (D := 0) (xs := [e]) (k := 11) (by omega) (show (1 : Int) ≤ 1 from by omega) (show (1 : Int) ≤ 1 from by omega) rfl (by decide) (by decide) bV (by decide : ty4z.size ≤ 1) (.inr rfl) h0 h1 (.inr rfl) (.inr rfl) (.inr rfl) (by omega) (by omega) (EGs.one he) SGs.nil SGs.nil SGc.nil).mono (by omega)
theorem sg_mark {k : Int} (hk : k = 12 ∨ k = 13) : SG 2 (.mk k eS ty4z 0 [] [] [] []) := by
  rcases hk with rfl | rfl
  {
  exact (SG.of (A := 0) (B := 0) (C := 0) (D := 0) (k := 12) (by omega) (by decide) (by decide) rfl (by decide) (by decide) bV (by decide : ty4z.size ≤ 1) (.inl rfl) (by omega) (by omega) (.inr rfl) (.inr rfl) (.inr rfl) (by omega) (by omega) EGs.nil SGs.nil SGs.nil SGc.nil).mono (by omega)}; {
  exact (SG.of (A := 0) (B := 0) (C := 0) (D := 0) (k := 13) (by omega) (by decide) (by decide) rfl (by decide) (by decide) bV (by decide : ty4z.size ≤ 1) (.inl rfl) (by omega) (by omega) (.inr rfl) (.inr rfl) (.inr rfl) (by omega) (by omega) EGs.nil SGs.nil SGs.nil SGc.nil).mono (by omega)}
theorem sg_do {A : Nat} {e : Ex} (he : EGc A e) : SG (1 + A + 1) (.mk 14 eS ty4z 0 [e] [] [] []) :=
  (SG.of (B := 0) (C := 0) (D := 0) (xs := [e]) (k := 14) (by omega) (show (1 : Int) ≤ 1 from by omega) (show (1 : Int) ≤ 1 from by omega) rfl (by decide) (by decide) bV (by decide : ty4z.size ≤ 1) (.inl rfl) (by omega) (by omega) (.inr rfl) (.inr rfl) (.inr rfl) (fun _ => by simp [headK, he.2]) (by omega) (EGs.one he.1) SGs.nil SGs.nil SGc.nil).mono (by omega)
def ZB : Nat → Nat
  | 0 => 20000
  | k + 1 => 24 * ZB k + 100000
theorem ZB_pos : ∀ k, 20000 ≤ ZB k
  | 0 => Nat.le_refl _
  | k + 1 => by have := ZB_pos k; simp only [ZB]; omega
theorem ZB_le {k : Nat} (h : k ≤ 4) : ZB k ≤ 10000000000 := by
  have : k = 0 ∨ k = 1 ∨ k = 2 ∨ k = 3 ∨ k = 4 := by omega
  rcases this with rfl | rfl | rfl | rfl | rfl <;> simp [ZB]
def PB : Nat → Nat
  | 0 => 5000
  | k + 1 => 4 * ZB k + 12000
theorem PB_le (k : Nat) : 4 * PB k ≤ ZB k := by
  cases k with
  | zero => show 4 * 5000 ≤ 20000; omega
  | succ k =>
    have h := ZB_pos k
    have e1 : PB (k + 1) = 4 * ZB k + 12000 := rfl
    have e2 : ZB (k + 1) = 24 * ZB k + 100000 := rfl
    omega
theorem PB_pos (k : Nat) : 5000 ≤ PB k := by
  cases k with
  | zero => exact Nat.le_refl _
  | succ k =>
    have e1 : PB (k + 1) = 4 * ZB k + 12000 := rfl
    omega
theorem PB_pred {k : Nat} (h : 1 ≤ k) : PB k = 4 * ZB (k - 1) + 12000 := by
  obtain ⟨j, rfl⟩ : ∃ j, k = j + 1 := ⟨k - 1, by omega⟩
  rfl
theorem pb_step {i k B : Nat} (h : B ≤ PB k) : i * PB k + B ≤ (i + 1) * PB k := by rw [Nat.add_mul]; omega
theorem pb_all {i k : Nat} (h : i ≤ 4) : i * PB k ≤ 4 * PB k := Nat.mul_le_mul_right _ h
theorem SB2 : SB 2 = 128 := by decide
theorem SB3 : SB 3 = 512 := by decide
theorem SB4 : SB 4 = 2048 := by decide
theorem po {k q A z : Nat} (hz : PB k = 4 * z + 12000) (hq : q ≤ 3) (hA : A ≤ 600 := by rw [SB3]; omega) : 1 + A + z + q * (z + 1) + 1 ≤ PB k := by
  have : q * (z + 1) ≤ 3 * (z + 1) := Nat.mul_le_mul_right _ hq
  omega
section
open Go Go.RowKit Go.Proofs K
variable {pk : Pk}
def modR (n m : Int) : Int := (n.tmod m + m).tmod m
theorem nX {n m : Int} (hm : 0 < m) : 0 ≤ modR n m ∧ modR n m < m := by
  unfold modR
  have h1 : -m < n.tmod m := by
    have := Int.lt_tmod_of_pos n hm; omega
  exact ⟨Int.tmod_nonneg _ (by omega), Int.tmod_lt_of_pos _ hm⟩
theorem nY {n m : Int} (hm : 0 < m) (hm2 : m ≤ 1000000) : XQ Tryz.prog pk 25 [xi n, xi m] (xi (modR n m)) := by
  have h1 : -m < n.tmod m := by
    have := Int.lt_tmod_of_pos n hm; omega
  have h2 := Int.tmod_lt_of_pos n hm
  refine XQ.en Tryz.func25 Tryz.ntmps25 (fun w0 own H V v0 hf => ?_)
  refine G9 rfl (Fe (T := T) rfl rfl)
theorem ld {n : Int} (h0 : 0 ≤ n) (h1 : n ≤ 65535) : IntKind.u16.wrap n = n := by
  obtain ⟨k, rfl⟩ := Int.eq_ofNat_of_zero_le h0
  simp only [IntKind.wrap, IntKind.signed, IntKind.bits, Bool.false_and]
  rw [if_neg (by simp)]
  omega
theorem bN {n : Int} (h0 : 0 ≤ n) (h1 : n ≤ 65535) : XQ Tryz.prog pk 38 [xi n] (xd (exD (fD n))) := by
  refine XQ.en Tryz.func38 Tryz.ntmps38 (fun w0 own H V v0 hf => ?_)
  refine G9 rfl ?_
  rw [ld h0 h1]
  exact Fq (T := T) rfl rfl
theorem aE (s : ByteArray) : XQ Tryz.prog pk 36 [xs s] (xd (exD (aN s))) := by
  refine XQ.en Tryz.func36 Tryz.ntmps36 (fun w0 own H V v0 hf => ?_)
  refine G9 rfl (Fq (T := T) rfl rfl)
theorem bO (op : ByteArray) (a b : Ex) : XQ Tryz.prog pk 37 [xs op, xd (exD a), xd (exD b)] (xd (exD (ka op a b))) := by
  refine XQ.en Tryz.func37 Tryz.ntmps37 (fun w0 own H V v0 hf => ?_)
  refine G9 rfl (Fq (T := T) rfl rfl)
theorem et (e : Ex) (s : ByteArray) : XQ Tryz.prog pk 113 [xd (exD e), xs s] (xd (exD (fldE e s))) := by
  refine XQ.en Tryz.func113 Tryz.ntmps113 (fun w0 own H V v0 hf => ?_)
  refine G9 rfl (Fq (T := T) rfl rfl)
theorem cZ (a b : Ex) : XQ Tryz.prog pk 114 [xd (exD a), xd (exD b)] (xd (exD (idxE a b))) := by
  refine XQ.en Tryz.func114 Tryz.ntmps114 (fun w0 own H V v0 hf => ?_)
  refine G9 rfl (Fq (T := T) rfl rfl)
def atP (l : List Int) (v : Value) : Prop := ∃ a : Nat, a ≤ l.length ∧ v = .int .i64 (a : Int)
def ndP (v : Value) : Prop := ∃ n : Int, v = .int .i64 n
structure KC where
  l : List Int
  fs : List Fu
  tn : Nat
  me : Nat
  vars : List ByteArray
  labels : List ByteArray
  lf : Nat
  mn : Nat
  ct : Nat
abbrev mkQx (a b c : Nat) (l : List Int) (fs : List Fu) (tn me n : Nat) (R : List (List D)) (labels : List ByteArray) (lf mn ct t1 t2 : Nat) : XH := [⟨a, 0, .cells [.d (.s (l.map intD)), .w (atP l), .d (.c (.int .i64 (tn : Int))), .d (.c (.int .i64 (lf : Int))), .w ndP, .l b t1 1 0 n n, .d (.c (.int .i64 (mn : Int))), .l c t2 1 0 labels.length labels.length, .d (.c (.int .i64 (ct : Int))), .d (.c (.int .i64 (me : Int))), .d (.s (fs.map fuD))] 91⟩,
  ⟨b, t1, .row n R 9 1⟩, ⟨c, t2, .row labels.length (labels.map a7) 9 1⟩]
abbrev mkQn (a b c : Nat) (l : List Int) (fs : List Fu) (tn me : Nat) (vars labels : List ByteArray) (lf mn ct t1 t2 : Nat) : XH := mkQx a b c l fs tn me vars.length (vars.map a7) labels lf mn ct t1 t2
abbrev mkQ (l : List Int) (fs : List Fu) (tn me : Nat) (vars labels : List ByteArray) (lf mn ct t1 t2 : Nat) : XH := mkQn 0 1 2 l fs tn me vars labels lf mn ct t1 t2
abbrev mkT (c : KC) (t : Nat) : XH := mkQ c.l c.fs c.tn c.me c.vars c.labels c.lf c.mn c.ct t t
abbrev mkB (c : KC) : XH := mkT c 0
structure KC.ok (c : KC) : Prop where
  hl : ∀ n ∈ c.l, I64 n
  hll : c.l.length ≤ 9223372036854775807
  hv : ∀ s ∈ c.vars, dk s = true
  hvl : c.vars.length ≤ 1000
  hme : c.me < c.fs.length
  hfl : c.fs.length ≤ 1000
  hf : ∀ f ∈ c.fs, FR f
  htn : c.tn ≤ 1000
  hlb : ∀ s ∈ c.labels, aI s = true
  hlbl : c.labels.length ≤ 1000
abbrev pm : XV := .a (.c (.p 0 0 0))
theorem aB {c : KC} (h1 : ∀ n ∈ c.l, I64 n) (h2 : c.l.length ≤ 9223372036854775807) {n : Int} (hn : 0 < n) (hn2 : n ≤ 1000000) : XKp Tryz.prog pk 32 [pm, xi n] (mkB c) 3 (fun r => ∃ k : Int, r = xi k ∧ 0 ≤ k ∧ k < n) := by
  refine XM.en Tryz.func32 Tryz.ntmps32 (fun w0 own H V v0 hf => ?_)
  refine G (T := T) 100001 rfl ?_
  refine Op 0 1 rfl rfl ?_
  rintro _ ⟨a, ha, rfl⟩
  refine ⟨_, _, rfl, rfl, ?_⟩
  refine G9 rfl (If rfl (fun h => ?_) (fun h => ?_)); {
  refine G9 rfl ?_
  refine (SRto.wk 0 1 (atP c.l) rfl rfl rfl rfl ⟨a, ha, rfl⟩).e ?_
  exact Fm (T := T) id (xi 0) (mkB c) ⟨⟨0, rfl, Int.le_refl _, hn⟩, rfl⟩ rfl}; {
  have hlt := of_decide_eq_false h; rw [List.length_map] at hlt
  obtain ⟨y, hy⟩ := ai (l := c.l) (j := a) (by omega)
  refine G9 rfl (Ix (T := T) a (ab hy) rfl rfl rfl rfl ⟨rfl, rfl⟩ (by omega) rfl ?_)
  refine G9 rfl (Cq (nY hn hn2) rfl rfl rfl rfl rfl ⟨rfl, rfl⟩ ?_)
  refine G9 rfl ?_
  refine (SRto.wk 0 1 (atP c.l) rfl rfl rfl rfl ⟨a + 1, by omega, by push_cast; rfl⟩).e ?_
  have := nX (n := y) hn
  exact Fm (T := T) id (xi (modR y n)) (mkB c) ⟨⟨_, rfl, this.1, this.2⟩, rfl⟩ rfl}
theorem pp {c : KC} (h1 : ∀ n ∈ c.l, I64 n) (h2 : c.l.length ≤ 9223372036854775807) : XKp Tryz.prog pk 116 [pm] (mkB c) 3 (fun r => ∃ e, r = xd (exD e) ∧ EG 1 e) := by
  refine XM.en Tryz.func116 Tryz.ntmps116 (fun w0 own H V v0 hf => ?_)
  refine G9 rfl (Ck [0, 1, 2] (aB h1 h2 (n := 16) (by omega) (by omega)) rfl rfl rfl rfl rfl rfl rfl ⟨⟨rfl, rfl⟩, rfl⟩ ?_)
  rintro _ ⟨k, rfl, k1, k2⟩
  obtain ⟨j, rfl⟩ := Int.eq_ofNat_of_zero_le k1
  obtain ⟨y, hy⟩ := ai (l := constL) (j := j) (by show j < 16; omega)
  have hyc := constL_in hy
  refine G (T := T) 10 rfl ?_
  refine Ix (T := T) (rows := constL.map intD) j (ab hy) rfl rfl rfl rfl ⟨rfl, rfl⟩ rfl rfl ?_
  refine G9 rfl (Cq (bN hyc.1 hyc.2) rfl rfl rfl rfl rfl ⟨rfl, rfl⟩ ?_)
  refine G9 rfl (Fm (T := T) id (xd (exD (fD y))) (mkB c) ⟨⟨_, rfl, ig hyc.1 hyc.2⟩, rfl⟩ rfl)
end
section
open Go Go.RowKit Go.Proofs K
variable {pk : Pk}
def ExprC (pk : Pk) (d : Nat) : Prop := ∀ c : KC, c.ok → XKp Tryz.prog pk 60 [pm, xi (d : Nat)] (mkB c) 3 (fun r => ∃ e, r = xd (exD e) ∧ EG (SB d) e)
abbrev ex0 (g : Nat) : XB := ⟨g, 0, .cells [.d (.c (.int .i64 0)), .d (.c (.string eS)), .d (.c (.int .u16 0)), .z] 75⟩
theorem ew {d : Nat} (ih : ExprC pk d) (hd : d ≤ 100) {c : KC} (hc : c.ok) {n : Nat} (h1 : 1 ≤ n) (hn : n ≤ 1000) : XKp Tryz.prog pk 115 [pm, xi ((d + 1 : Nat) : Int), xi (n : Nat)] (mkB c) 3 (fun r => ∃ e, r = xd (exD e) ∧ EG (SB d + 2) e) := by
  refine XM.en Tryz.func115 Tryz.ntmps115 (fun w0 own H V v0 hf => ?_)
  refine G9 rfl ?_
  rw [show ((d + 1 : Nat) : Int) - 1 = (d : Nat) by omega]
  refine Ck [0, 1, 2] (ih c hc) rfl rfl rfl rfl rfl rfl rfl ⟨⟨rfl, rfl⟩, rfl⟩ ?_
  rintro _ ⟨e, rfl, he⟩
  refine G9 rfl (Cq (bN (n := (n : Nat) - 1) (by omega) (by omega)) rfl rfl rfl rfl rfl ⟨rfl, rfl⟩ ?_)
  refine G9 rfl (Cq (bO ⟨#[38]⟩ e (fD ((n : Nat) - 1))) rfl rfl rfl rfl rfl ⟨rfl, rfl⟩ ?_)
  refine G9 rfl (Fm (T := T) id (xd (exD (ka ⟨#[38]⟩ e (fD ((n : Nat) - 1))))) (mkB c) ⟨⟨_, rfl, (fQ (by decide) he (ig (by omega) (by omega))).mono (by omega)⟩, rfl⟩ rfl)
theorem jC {c : KC} (hc : c.ok) : XKp Tryz.prog pk 117 [pm] (mkB c) 3 (fun r => ∃ e, r = xd (exD e) ∧ EG 2 e ∧ ic e.kind = true) := by
  obtain ⟨f, hf9⟩ := ai (l := c.fs) (j := c.me) hc.hme
  have hF := hc.hf f (List.mem_of_getElem? hf9)
  obtain ⟨p, hp⟩ : ∃ p : Par, 0 < f.ps.length → f.ps[0]? = some p ∧ p ∈ f.ps := by
    match f.ps with
    | [] => exact ⟨⟨eS, .mk 0 eS 0 []⟩, fun h => by simp at h⟩
    | x :: r => exact ⟨x, fun _ => ⟨rfl, List.mem_cons_self ..⟩⟩
  refine XM.en Tryz.func117 Tryz.ntmps117 (fun w0 own H V v0 hf => ?_)
  refine G (T := T) 12 rfl ?_
  refine Ix (T := T) c.me (ab hf9) rfl rfl rfl rfl ⟨rfl, rfl⟩ rfl rfl ?_
  refine G (T := T) 100002 rfl ?_
  refine (FzTo.bz 4 rfl).c ?_
  refine Gs (T := T) 21 rfl ?_
  refine Is (T := T) 0 (paD p) (fun h => ?_) rfl rfl rfl rfl rfl rfl rfl rfl ?_; {
  have h9 := of_decide_eq_true h; rw [List.length_map] at h9
  exact ⟨ab (hp (by omega)).1, rfl⟩}
  refine Gs (T := T) 28 rfl ?_
  generalize hb9 : (decide ((0 : Int) < ((f.ps.map paD).length : Int)) && decide (tk p.ty = 6)) = b9
  have fin : ∀ {e : Ex}, EG 2 e → ic e.kind = true → (fun (r : XV) (hp' : XH) => (∃ e, r = xd (exD e) ∧ EG 2 e ∧ ic e.kind = true) ∧ hp' = mkB c) (xd (exD e)) (mkB c) := fun h1 h2 => ⟨⟨_, rfl, h1, h2⟩, rfl⟩
  cases b9 with
  | true =>
    simp only [Bool.and_eq_true] at hb9
    have h9 := of_decide_eq_true hb9.1; rw [List.length_map] at h9
    obtain ⟨hp1, hp2⟩ := hp (by omega)
    refine G9 rfl (Ck [0, 1, 2] (aB hc.hl hc.hll (n := 2) (by omega) (by omega)) rfl rfl rfl rfl rfl rfl rfl ⟨⟨rfl, rfl⟩, rfl⟩ ?_)
    rintro _ ⟨k, rfl, k1, k2⟩
    refine G9 rfl (If rfl (fun h => ?_) (fun h => ?_)); {
    refine G (T := T) 34 rfl ?_
    refine Ix (T := T) 0 (ab hp1) rfl rfl rfl rfl ⟨rfl, rfl⟩ rfl rfl ?_
    refine G9 rfl (Cq (aE p.nm) rfl rfl rfl rfl rfl ⟨rfl, rfl⟩ ?_)
    refine G9 rfl (Fm (T := T) id (xd (exD (.mk 5 eS 0 [aN p.nm]))) (mkB c) (fin (eg_one (.inl rfl) (jA (hF.ps p hp2).1)) rfl) rfl)}; {
    refine G9 rfl ?_
    refine Cq (aE ⟨#[103, 115]⟩) rfl rfl rfl rfl rfl ⟨rfl, rfl⟩ ?_
    refine G9 rfl (Fm (T := T) id (xd (exD (aN ⟨#[103, 115]⟩))) (mkB c) (fin ((bU (by decide)).mono (by omega)) rfl) rfl)}
  | false =>
    refine G9 rfl (IfF rfl rfl ?_)
    refine G9 rfl (Cq (aE ⟨#[103, 115]⟩) rfl rfl rfl rfl rfl ⟨rfl, rfl⟩ ?_)
    refine G9 rfl (Fm (T := T) id (xd (exD (aN ⟨#[103, 115]⟩))) (mkB c) (fin ((bU (by decide)).mono (by omega)) rfl) rfl)
theorem d3 {l : List ByteArray} {p : ByteArray → Prop} (h : ∀ s ∈ l, p s) {k : Int} (h0 : 0 ≤ k) (h1 : k < (l.length : Int)) : ∃ j y, k = ((j : Nat) : Int) ∧ l[j]? = some y ∧ p y := by
  obtain ⟨j, rfl⟩ := Int.eq_ofNat_of_zero_le h0
  obtain ⟨y, hy⟩ := ai (l := l) (j := j) (by omega)
  exact ⟨j, y, rfl, hy, h y (List.mem_of_getElem? hy)⟩
theorem pq {d : Nat} (ih : ExprC pk d) (hd : d ≤ 100) {c : KC} (hc : c.ok) : XKp Tryz.prog pk 61 [pm, xi ((d + 1 : Nat) : Int)] (mkB c) 3 (fun r => ∃ e, r = xd (exD e) ∧ EGp (SB d + 8) e) := by
  have hvl := hc.hvl
  have fin : ∀ {e : Ex} {B : Nat}, EG B e → B ≤ SB d + 8 → ic e.kind = true → (fun (r : XV) (hp' : XH) => (∃ e, r = xd (exD e) ∧ EGp (SB d + 8) e) ∧ hp' = mkB c) (xd (exD e)) (mkB c) := fun h1 h2 h3 => ⟨⟨_, rfl, h1.mono h2, h3⟩, rfl⟩
  have hpos := jB d
  refine XM.en Tryz.func61 Tryz.ntmps61 (fun w0 own H V v0 hf => ?_)
  refine G9 rfl (Ck [0, 1, 2] (aB hc.hl hc.hll (n := 14) (by omega) (by omega)) rfl rfl rfl rfl rfl rfl rfl ⟨⟨rfl, rfl⟩, rfl⟩ ?_)
  rintro _ ⟨k0, rfl, _, _⟩
  refine G (T := T) 100002 rfl ?_
  refine Op 0 4 rfl rfl ?_
  rintro _ ⟨nd, rfl⟩
  refine ⟨_, _, rfl, rfl, ?_⟩
  refine G (T := T) 13 rfl ?_
  refine Sw rfl rfl rfl ⟨rfl, rfl⟩ ?_
  refine G9 rfl (Cf [0, 1, 4] (fun (k : Int) r => (5, xi k) :: r) (fun _ => mkB c ++ [ex0 3]) 4 (fun _ => True) rfl ?_ ?_); {
  refine If rfl (fun h => ?_) (fun h => ?_); {
  refine G9 rfl ?_
  refine (SRto.wk 0 4 ndP rfl rfl rfl rfl ⟨_, rfl⟩).e ?_
  exact Dn 13 trivial}; {
  refine G9 rfl ?_
  refine (SRto.wk 0 4 ndP rfl rfl rfl rfl ⟨_, rfl⟩).e ?_
  exact Dn k0 trivial}}
  rintro k -
  refine Gs (T := T) 1000 rfl ?_
  refine If rfl (fun h => ?_) (fun h => ?_); {
  have hlen : 0 < c.vars.length := by
    have := of_decide_eq_true (Bool.and_eq_true_iff.1 h).2; omega
  refine G9 rfl (Ck [0, 1, 2] (aB hc.hl hc.hll (n := (c.vars.length : Nat)) (by omega) (by omega)) rfl rfl rfl rfl rfl rfl rfl ⟨⟨rfl, rfl⟩, rfl⟩ ?_)
  rintro _ ⟨q, rfl, q1, q2⟩
  obtain ⟨j, y, rfl, hy, hyl⟩ := d3 hc.hv q1 q2
  refine G (T := T) 43 rfl ?_
  refine Iq (T := T) j rfl rfl rfl rfl rfl ⟨rfl, rfl⟩ rfl (by omega) rfl ?_
  refine Lr (T := T) (ab hy) rfl rfl rfl rfl ⟨rfl, rfl⟩ rfl rfl ?_
  refine G9 rfl (Cq (aE y) rfl rfl rfl rfl rfl ⟨rfl, rfl⟩ ?_)
  refine G9 rfl (Fm (T := T) id (xd (exD (aN y))) (mkB c) (fin (jA hyl) (by omega) rfl) rfl)}
  refine Gs (T := T) 1000 rfl ?_
  refine If rfl (fun h => ?_) (fun h => ?_); {
  refine G9 rfl ?_
  refine Cq (aE ⟨#[97, 114, 114]⟩) rfl rfl rfl rfl rfl ⟨rfl, rfl⟩ ?_
  refine G9 rfl (Ck [0, 1, 2] (ew ih hd hc (n := 8) (by omega) (by omega)) rfl rfl rfl rfl rfl rfl rfl ⟨⟨rfl, rfl⟩, rfl⟩ ?_)
  rintro _ ⟨e, rfl, he⟩
  refine G9 rfl (Cq (cZ (aN ⟨#[97, 114, 114]⟩) e) rfl rfl rfl rfl rfl ⟨rfl, rfl⟩ ?_)
  refine G9 rfl (Fm (T := T) id (xd (exD (idxE (aN ⟨#[97, 114, 114]⟩) e))) (mkB c) (fin (nV (bU (by decide)) he) (by omega) rfl) rfl)}
  refine Gs (T := T) 1000 rfl ?_
  refine If rfl (fun h => ?_) (fun h => ?_); {
  refine G9 rfl ?_
  refine Cq (aE ⟨#[98, 121, 116, 101, 115]⟩) rfl rfl rfl rfl rfl ⟨rfl, rfl⟩ ?_
  refine G9 rfl (Ck [0, 1, 2] (ew ih hd hc (n := 16) (by omega) (by omega)) rfl rfl rfl rfl rfl rfl rfl ⟨⟨rfl, rfl⟩, rfl⟩ ?_)
  rintro _ ⟨e, rfl, he⟩
  refine G9 rfl (Cq (cZ (aN ⟨#[98, 121, 116, 101, 115]⟩) e) rfl rfl rfl rfl rfl ⟨rfl, rfl⟩ ?_)
  refine G9 rfl (Fm (T := T) id (xd (exD (idxE (aN ⟨#[98, 121, 116, 101, 115]⟩) e))) (mkB c) (fin (nV (bU (by decide)) he) (by omega) rfl) rfl)}
  refine Gs (T := T) 1000 rfl ?_
  refine If rfl (fun h => ?_) (fun h => ?_); {
  refine G9 rfl ?_
  refine Ck [0, 1, 2] (jC hc) rfl rfl rfl rfl rfl rfl rfl ⟨⟨rfl, rfl⟩, rfl⟩ ?_
  rintro _ ⟨e, rfl, he, hp⟩
  refine G9 rfl (Cq (et e ⟨#[97]⟩) rfl rfl rfl rfl rfl ⟨rfl, rfl⟩ ?_)
  refine G9 rfl (Fm (T := T) id (xd (exD (fldE e ⟨#[97]⟩))) (mkB c) (fin (k7 (by decide +kernel) he) (by omega) rfl) rfl)}
  refine Gs (T := T) 1000 rfl ?_
  refine If rfl (fun h => ?_) (fun h => ?_); {
  refine G9 rfl ?_
  refine Ck [0, 1, 2] (jC hc) rfl rfl rfl rfl rfl rfl rfl ⟨⟨rfl, rfl⟩, rfl⟩ ?_
  rintro _ ⟨e, rfl, he, hp⟩
  refine G9 rfl (Cq (et e ⟨#[98]⟩) rfl rfl rfl rfl rfl ⟨rfl, rfl⟩ ?_)
  refine G9 rfl (Fm (T := T) id (xd (exD (fldE e ⟨#[98]⟩))) (mkB c) (fin (k7 (by decide +kernel) he) (by omega) rfl) rfl)}
  refine Gs (T := T) 1000 rfl ?_
  refine If rfl (fun h => ?_) (fun h => ?_); {
  refine G9 rfl ?_
  refine Ck [0, 1, 2] (jC hc) rfl rfl rfl rfl rfl rfl rfl ⟨⟨rfl, rfl⟩, rfl⟩ ?_
  rintro _ ⟨e, rfl, he, hp⟩
  refine G9 rfl (Cq (et e ⟨#[100]⟩) rfl rfl rfl rfl rfl ⟨rfl, rfl⟩ ?_)
  refine G9 rfl (Ck [0, 1, 2] (ew ih hd hc (n := 4) (by omega) (by omega)) rfl rfl rfl rfl rfl rfl rfl ⟨⟨rfl, rfl⟩, rfl⟩ ?_)
  rintro _ ⟨e2, rfl, he2⟩
  refine G9 rfl (Cq (cZ (fldE e ⟨#[100]⟩) e2) rfl rfl rfl rfl rfl ⟨rfl, rfl⟩ ?_)
  refine G9 rfl (Fm (T := T) id (xd (exD (idxE (fldE e ⟨#[100]⟩) e2))) (mkB c) (fin (nV (k7 (by decide +kernel) he) he2) (by omega) rfl) rfl)}
  refine Gs (T := T) 1000 rfl ?_
  refine If rfl (fun h => ?_) (fun h => ?_); {
  refine G9 rfl ?_
  refine Cq (aE ⟨#[103, 117]⟩) rfl rfl rfl rfl rfl ⟨rfl, rfl⟩ ?_
  refine G9 rfl (Cq (et (aN ⟨#[103, 117]⟩) ⟨#[119]⟩) rfl rfl rfl rfl rfl ⟨rfl, rfl⟩ ?_)
  refine G9 rfl (Fm (T := T) id (xd (exD (fldE (aN ⟨#[103, 117]⟩) ⟨#[119]⟩))) (mkB c) (fin (k7 (by decide +kernel) (bU (by decide))) (by omega) rfl) rfl)}
  refine Gs (T := T) 1000 rfl ?_
  refine If rfl (fun h => ?_) (fun h => ?_); {
  refine G9 rfl ?_
  refine Cq (aE ⟨#[103, 117]⟩) rfl rfl rfl rfl rfl ⟨rfl, rfl⟩ ?_
  refine G9 rfl (Cq (et (aN ⟨#[103, 117]⟩) ⟨#[108]⟩) rfl rfl rfl rfl rfl ⟨rfl, rfl⟩ ?_)
  refine G9 rfl (Fm (T := T) id (xd (exD (fldE (aN ⟨#[103, 117]⟩) ⟨#[108]⟩))) (mkB c) (fin (k7 (by decide +kernel) (bU (by decide))) (by omega) rfl) rfl)}
  refine Gs (T := T) 1000 rfl ?_
  refine If rfl (fun h => ?_) (fun h => ?_); {
  refine G9 rfl ?_
  refine Cq (aE ⟨#[103, 49]⟩) rfl rfl rfl rfl rfl ⟨rfl, rfl⟩ ?_
  refine G9 rfl (Fm (T := T) id (xd (exD (aN ⟨#[103, 49]⟩))) (mkB c) (fin (bU (by decide)) (by omega) rfl) rfl)}
  refine Gs (T := T) 1000 rfl ?_
  refine If rfl (fun h => ?_) (fun h => ?_); {
  refine G9 rfl ?_
  refine Cq (aE ⟨#[103, 50]⟩) rfl rfl rfl rfl rfl ⟨rfl, rfl⟩ ?_
  refine G9 rfl (Fm (T := T) id (xd (exD (aN ⟨#[103, 50]⟩))) (mkB c) (fin (bU (by decide)) (by omega) rfl) rfl)}
  refine G9 rfl (Cq (aE ⟨#[103, 48]⟩) rfl rfl rfl rfl rfl ⟨rfl, rfl⟩ ?_)
  refine G9 rfl (Fm (T := T) id (xd (exD (aN ⟨#[103, 48]⟩))) (mkB c) (fin (bU (by decide)) (by omega) rfl) rfl)
end
section
open Go Go.RowKit Go.Proofs K
variable {pk : Pk}
def gsA : Ex := .mk 6 eS 0 [aN ⟨#[103, 115]⟩]
def callE (f : Fu) (l : List Ex) : Ex := .mk 14 f.nm 0 l
theorem mk_call {d : Nat} (ih : ExprC pk d) (hd : d ≤ 100) {c : KC} (hc : c.ok) {f : Fu} (hF : FR f) : XKp Tryz.prog pk 64 [pm, xd (fuD f), xi ((d + 1 : Nat) : Int)] (mkB c) 3 (fun r => ∃ e, r = xd (exD e) ∧ EGc (3 * SB d + 1) e) := by
  have hpl := hF.pl
  have hpos := jB d
  refine XM.en Tryz.func64 Tryz.ntmps64 (fun w0 own H V v0 hf => ?_)
  refine G (T := T) 100001 rfl ?_
  refine (FzTo.bz 3 rfl).c ?_
  refine G (T := T) 100002 rfl ?_
  refine (Nrh 5 3 75 4 rfl rfl rfl rfl rfl).c ?_
  refine G9 rfl (Lq [0, 2, 4, 6, 7] (fun (q : Nat × List Ex) r => (8, xi (q.1 : Nat)) :: r) (fun q => mkB c ++ [⟨6, 1, .row q.2.length (q.2.map exD) 75 4⟩, ⟨5, 0, .cells [.d (.c (.int .i64 14)), .d (.c (.string f.nm)), .d (.c (.int .u16 0)), .l 6 1 4 0 q.2.length q.2.length] 75⟩, ex0 4]) 7 (fun q => q.1 ≤ f.ps.length ∧ q.2.length = q.1 ∧ EGs (q.1 * SB d) q.2) (fun q => f.ps.length - q.1) (0, []) rfl ⟨Nat.zero_le _, rfl, EGs.nil.mono (by omega)⟩ ?_)
  rintro ⟨j, L⟩ ⟨hj, hL, hE⟩; dsimp only at hj hL hE ⊢
  refine G9 rfl (If rfl (fun h => ?_) (fun h => ?_)); {
  have hjl := of_decide_eq_true h; rw [List.length_map] at hjl
  obtain ⟨y, hy⟩ := ai (l := f.ps) (j := j) (by omega)
  refine G9 rfl (Ix (T := T) j (ab hy) rfl rfl rfl rfl ⟨rfl, rfl⟩ rfl rfl ?_)
  refine G9 rfl ?_
  have nxt : ∀ {e : Ex}, EG (SB d) e → (j + 1 ≤ f.ps.length ∧ (L ++ [e]).length = j + 1 ∧ EGs ((j + 1) * SB d) (L ++ [e])) := fun h => ⟨by omega, by rw [List.length_append, hL]; rfl, hE.step h⟩
  refine If rfl (fun h => ?_) (fun h => ?_); {
  refine G9 rfl ?_
  refine Cq (aE ⟨#[103, 115]⟩) rfl rfl rfl rfl rfl ⟨rfl, rfl⟩ ?_
  refine G9 rfl ?_
  have e9 : L.map exD ++ [exD gsA] = (L ++ [gsA]).map exD := by rw [List.map_append]; rfl
  refine Nq (j + 1, L ++ [gsA]) (nxt ((eg_one (.inr rfl) (bU (by decide))).mono (by omega))) (by show _ - (j + 1) < _ - j; omega) ?_
  dsimp only
  rw [← e9, List.length_append]
  exact ⟨⟨_, _, rfl, rfl⟩, rfl, rfl⟩}; {
  refine G9 rfl ?_
  rw [show ((d + 1 : Nat) : Int) - 1 = (d : Nat) by omega]
  refine Ck [0, 1, 2] (ih c hc) rfl rfl rfl rfl rfl rfl rfl ⟨⟨rfl, rfl⟩, rfl⟩ ?_
  rintro _ ⟨e, rfl, he⟩
  refine G9 rfl ?_
  have e9 : L.map exD ++ [exD e] = (L ++ [e]).map exD := by rw [List.map_append]; rfl
  refine Nq (j + 1, L ++ [e]) (nxt he) (by show _ - (j + 1) < _ - j; omega) ?_
  dsimp only
  rw [← e9, List.length_append]
  exact ⟨⟨_, _, rfl, rfl⟩, rfl, rfl⟩}}; {
  have hjl := of_decide_eq_false h; rw [List.length_map] at hjl
  have hjj : j ≤ 3 := by omega
  refine G (T := T) 100008 rfl ?_
  refine Zc 6 rfl ?_
  refine G9 rfl ?_
  have hB := Nat.mul_le_mul_right (SB d) hjj
  exact Fm (T := T) id (xd [.c (.int .i64 14), .c (.string f.nm), .c (.int .u16 0), .s (L.map exD)]) (mkB c) ⟨⟨callE f L, by rw [callE, bl], eg_call hF.nm (hE.mono hB), rfl⟩, rfl⟩ rfl}
end
section
open Go Go.RowKit Go.Proofs K
variable {pk : Pk}
def glo3 : List ByteArray := [⟨#[103, 48]⟩, ⟨#[103, 49]⟩, ⟨#[103, 50]⟩]
def una3 : List ByteArray := [⟨#[45]⟩, ⟨#[126]⟩, ⟨#[33]⟩]
def cas3 : List ByteArray := [⟨#[117, 56]⟩, ⟨#[117, 49, 54]⟩, ⟨#[115, 49, 54]⟩]
def div2 : List ByteArray := [⟨#[47]⟩, ⟨#[37]⟩]
def bin16 : List ByteArray := [⟨#[43]⟩, ⟨#[45]⟩, ⟨#[42]⟩, ⟨#[38]⟩, ⟨#[124]⟩, ⟨#[94]⟩, ⟨#[60, 60]⟩, ⟨#[62, 62]⟩, ⟨#[60]⟩, ⟨#[60, 61]⟩, ⟨#[62]⟩, ⟨#[62, 61]⟩, ⟨#[61, 61]⟩, ⟨#[33, 61]⟩, ⟨#[43]⟩, ⟨#[45]⟩]
theorem b7 : ∀ d, d ≤ 100 → ExprC pk d := by
  intro D
  induction D using Nat.strongRecOn with
  | _ D ih =>
  intro hD c hc
  have hvl := hc.hvl
  have hfl := hc.hfl
  have hme := hc.hme
  have hmap : (c.fs.map fuD).length = c.fs.length := List.length_map ..
  have hpos := jB D
  have big : 2 ≤ D → ∃ d, D = d + 2 ∧ SB D = 4 * SB (d + 1) ∧ SB (d + 1) = 4 * SB d ∧ 8 ≤ SB d := fun h => by
    obtain ⟨d, rfl⟩ : ∃ d, D = d + 2 := ⟨D - 2, by omega⟩
    exact ⟨d, rfl, ko _, ko _, jB _⟩
  have fin : ∀ {e : Ex} {B : Nat}, EG B e → B ≤ SB D → (fun (r : XV) (hp' : XH) => (∃ e, r = xd (exD e) ∧ EG (SB D) e) ∧ hp' = mkB c) (xd (exD e)) (mkB c) := fun h1 h2 => ⟨⟨_, rfl, h1.mono h2⟩, rfl⟩
  have tab : ∀ {s : ByteArray} {d : Nat} {e : Ex}, gloN s = true → D = d + 2 → EG (SB (d + 1) + 2) e → (fun (r : XV) (hp' : XH) => (∃ e, r = xd (exD e) ∧ EG (SB D) e) ∧ hp' = mkB c) (xd (exD (idxE (aN s) e))) (mkB c) := fun {s d e} h1 h2 h3 => fin (nV (bU h1) h3) (by have : SB (d + 2) = 4 * SB (d + 1) := ko (d + 1); have := jB (d + 1); subst h2; omega)
  refine XM.en Tryz.func60 Tryz.ntmps60 (fun w0 own H V v0 hf => ?_)
  refine G (T := T) 100001 rfl ?_
  refine Op 0 4 rfl rfl ?_
  rintro _ ⟨nd, rfl⟩
  refine ⟨_, _, rfl, rfl, ?_⟩
  refine G (T := T) 16 rfl ?_
  refine Sw rfl rfl rfl ⟨rfl, rfl⟩ ?_
  refine G (T := T) 100002 rfl ?_
  refine (SRto.wk 0 4 ndP rfl rfl rfl rfl ⟨_, rfl⟩).c ?_
  refine G9 rfl (Ck [0, 1, 2] (aB hc.hl hc.hll (n := 20) (by omega) (by omega)) rfl rfl rfl rfl rfl rfl rfl ⟨⟨rfl, rfl⟩, rfl⟩ ?_)
  rintro _ ⟨k0, rfl, k1, k2⟩
  refine G (T := T) 100003 rfl ?_
  refine Op 0 4 rfl rfl ?_
  rintro _ ⟨nd2, rfl⟩
  refine ⟨_, _, rfl, rfl, ?_⟩
  refine Gs (T := T) 1000 rfl ?_
  refine Cf [0, 1, 4] (fun (k : Int) r => (5, xi k) :: r) (fun _ => mkB c ++ [ex0 3]) 4 (fun k => 2 ≤ D ∨ k ≤ 4) rfl ?_ ?_
  · refine If rfl (fun h => ?_) (fun h => ?_)
    · refine G9 rfl ?_
      refine (SRto.wk 0 4 ndP rfl rfl rfl rfl ⟨_, rfl⟩).e ?_
      have := Int.tmod_lt_of_pos k0 (show (0 : Int) < 5 by omega)
      exact Dn (k0.tmod 5) (.inr (by omega))
    · have h9 := of_decide_eq_false (Bool.or_eq_false_iff.1 h).1
      refine G9 rfl ((SRto.wk 0 4 ndP rfl rfl rfl rfl ⟨_, rfl⟩).e ?_)
      exact Dn k0 (.inl (by omega))
  rintro k hk
  refine Gs (T := T) 1000 rfl ?_
  refine If rfl (fun h => ?_) (fun h => ?_)
  · have hlen : 0 < c.vars.length := by
      rcases Bool.or_eq_true_iff.1 h with h | h
      all_goals have := of_decide_eq_true (Bool.and_eq_true_iff.1 h).2; omega
    refine G9 rfl (Ck [0, 1, 2] (aB hc.hl hc.hll (n := (c.vars.length : Nat)) (by omega) (by omega)) rfl rfl rfl rfl rfl rfl rfl ⟨⟨rfl, rfl⟩, rfl⟩ ?_)
    rintro _ ⟨q, rfl, q1, q2⟩
    obtain ⟨j, y, rfl, hy, hyl⟩ := d3 hc.hv q1 q2
    refine G (T := T) 66 rfl ?_
    refine Iq (T := T) j rfl rfl rfl rfl rfl ⟨rfl, rfl⟩ rfl (by omega) rfl ?_
    refine Lr (T := T) (ab hy) rfl rfl rfl rfl ⟨rfl, rfl⟩ rfl rfl ?_
    refine G9 rfl (Cq (aE y) rfl rfl rfl rfl rfl ⟨rfl, rfl⟩ ?_)
    refine G9 rfl (Fm (T := T) id (xd (exD (aN y))) (mkB c) (fin (jA hyl) (by omega)) rfl)
  refine Gs (T := T) 1000 rfl ?_
  refine If rfl (fun h => ?_) (fun h => ?_)
  · refine G9 rfl ?_
    refine Ck [0, 1, 2] (aB hc.hl hc.hll (n := 5) (by omega) (by omega)) rfl rfl rfl rfl rfl rfl rfl ⟨⟨rfl, rfl⟩, rfl⟩ ?_
    rintro _ ⟨q, rfl, q1, q2⟩
    refine G (T := T) 76 rfl ?_
    rw [ld (n := 1 + q) (by omega) (by omega)]
    refine G9 rfl (Fm (T := T) id (xd (exD (.mk 11 eS (1 + q) []))) (mkB c) (fin (eg_inp (by omega) (by omega)) (by omega)) rfl)
  refine Gs (T := T) 1000 rfl ?_
  refine If rfl (fun h => ?_) (fun h => ?_)
  · refine G9 rfl ?_
    refine Ck [0, 1, 2] (aB hc.hl hc.hll (n := 3) (by omega) (by omega)) rfl rfl rfl rfl rfl rfl rfl ⟨⟨rfl, rfl⟩, rfl⟩ ?_
    rintro _ ⟨q, rfl, q1, q2⟩
    obtain ⟨j, y, rfl, hy, hyl⟩ := d3 (l := glo3) (p := fun s => gloN s = true) (by decide) q1 q2
    refine G (T := T) 83 rfl ?_
    refine Ix (T := T) (rows := glo3.map a7) j (ab hy) rfl rfl rfl rfl ⟨rfl, rfl⟩ rfl rfl ?_
    refine G9 rfl (Cq (aE y) rfl rfl rfl rfl rfl ⟨rfl, rfl⟩ ?_)
    refine G9 rfl (Fm (T := T) id (xd (exD (aN y))) (mkB c) (fin (bU hyl) (by omega)) rfl)
  refine Gs (T := T) 1000 rfl ?_
  refine If rfl (fun h => ?_) (fun h => ?_)
  · obtain ⟨d, rfl, s1, s2, s3⟩ := big (by
      rcases Bool.or_eq_true_iff.1 h with h | h
      all_goals have := of_decide_eq_true h; omega)
    refine G9 rfl (Ck [0, 1, 2] (pq (ih (d + 1) (by omega) (by omega)) (by omega) hc) rfl rfl rfl rfl rfl rfl rfl ⟨⟨rfl, rfl⟩, rfl⟩ ?_)
    rintro _ ⟨e, rfl, he⟩
    refine G9 rfl (Fm (T := T) id (xd (exD e)) (mkB c) (fin he.1 (by omega)) rfl)
  refine Gs (T := T) 1000 rfl ?_
  refine If rfl (fun h => ?_) (fun h => ?_)
  · obtain ⟨d, hd, s1, s2, s3⟩ := big (by have := of_decide_eq_true h; omega)
    refine G (T := T) 100014 rfl ?_
    refine Op 0 4 rfl rfl ?_
    rintro _ ⟨nd3, rfl⟩
    refine ⟨_, _, rfl, rfl, ?_⟩
    refine G (T := T) 104 rfl ?_
    refine Sw rfl rfl rfl ⟨rfl, rfl⟩ ?_
    refine G (T := T) 100015 rfl ?_
    refine (SRto.wk 0 4 ndP rfl rfl rfl rfl ⟨_, rfl⟩).c ?_
    refine G9 rfl (Cq (aE ⟨#[116, 97, 98]⟩) rfl rfl rfl rfl rfl ⟨rfl, rfl⟩ ?_)
    refine G9 rfl ?_
    subst hd
    refine Ck [0, 1, 2] (ew (ih (d + 1) (by omega) (by omega)) (by omega) hc (n := 8) (by omega) (by omega)) rfl rfl rfl rfl rfl rfl rfl ⟨⟨rfl, rfl⟩, rfl⟩ ?_
    rintro _ ⟨e, rfl, he⟩
    refine G9 rfl (Cq (cZ (aN ⟨#[116, 97, 98]⟩) e) rfl rfl rfl rfl rfl ⟨rfl, rfl⟩ ?_)
    refine G9 rfl (Fm (T := T) id (xd (exD (idxE (aN ⟨#[116, 97, 98]⟩) e))) (mkB c) (tab (by decide) rfl he) rfl)
  refine Gs (T := T) 1000 rfl ?_
  refine If rfl (fun h => ?_) (fun h => ?_)
  · obtain ⟨d, hd, s1, s2, s3⟩ := big (by have := of_decide_eq_true h; omega)
    refine G (T := T) 100017 rfl ?_
    refine Op 0 4 rfl rfl ?_
    rintro _ ⟨nd3, rfl⟩
    refine ⟨_, _, rfl, rfl, ?_⟩
    refine G (T := T) 120 rfl ?_
    refine Sw rfl rfl rfl ⟨rfl, rfl⟩ ?_
    refine G (T := T) 100018 rfl ?_
    refine (SRto.wk 0 4 ndP rfl rfl rfl rfl ⟨_, rfl⟩).c ?_
    refine G9 rfl (Cq (aE ⟨#[119, 111, 114, 100, 115]⟩) rfl rfl rfl rfl rfl ⟨rfl, rfl⟩ ?_)
    refine G9 rfl ?_
    subst hd
    refine Ck [0, 1, 2] (ew (ih (d + 1) (by omega) (by omega)) (by omega) hc (n := 4) (by omega) (by omega)) rfl rfl rfl rfl rfl rfl rfl ⟨⟨rfl, rfl⟩, rfl⟩ ?_
    rintro _ ⟨e, rfl, he⟩
    refine G9 rfl (Cq (cZ (aN ⟨#[119, 111, 114, 100, 115]⟩) e) rfl rfl rfl rfl rfl ⟨rfl, rfl⟩ ?_)
    refine G9 rfl (Fm (T := T) id (xd (exD (idxE (aN ⟨#[119, 111, 114, 100, 115]⟩) e))) (mkB c) (tab (by decide) rfl he) rfl)
  have one : ∀ {d : Nat}, D = d + 2 → ((D : Nat) : Int) - 1 = ((d + 1 : Nat) : Int) := fun h => by omega
  refine Gs (T := T) 1000 rfl ?_
  refine If rfl (fun h => ?_) (fun h => ?_)
  · obtain ⟨d, hd, s1, s2, s3⟩ := big (by have := of_decide_eq_true h; omega)
    refine G (T := T) 100020 rfl ?_
    refine Ods (T := T) [0, 1, 5, 6, 7, 2, 3, 4, 8, 9, 10, 11] rfl ?_
    refine G9 rfl (Ck [0, 1, 2] (aB hc.hl hc.hll (n := 3) (by omega) (by omega)) rfl rfl rfl rfl rfl rfl rfl ⟨⟨rfl, rfl⟩, rfl⟩ ?_)
    rintro _ ⟨q, rfl, q1, q2⟩
    obtain ⟨j, y, rfl, hy, hyl⟩ := d3 (l := una3) (p := fun s => aA s unL = true) (by decide) q1 q2
    refine G (T := T) 134 rfl ?_
    refine Ix (T := T) (rows := una3.map a7) j (ab hy) rfl rfl rfl rfl ⟨rfl, rfl⟩ rfl rfl ?_
    refine G9 rfl ?_
    rw [one hd]
    refine Ck [0, 1, 2] (ih (d + 1) (by omega) (by omega) c hc) rfl rfl rfl rfl rfl rfl rfl ⟨⟨rfl, rfl⟩, rfl⟩ ?_
    rintro _ ⟨e, rfl, he⟩
    refine G9 rfl (Fm (T := T) id (xd (exD (.mk 12 y 0 [e]))) (mkB c) (fin (eg_un hyl he) (by omega)) rfl)
  refine Gs (T := T) 1000 rfl ?_
  refine If rfl (fun h => ?_) (fun h => ?_)
  · obtain ⟨d, hd, s1, s2, s3⟩ := big (by have := of_decide_eq_true h; omega)
    refine G (T := T) 100022 rfl ?_
    refine Ods (T := T) [0, 1, 5, 6, 7, 2, 3, 4, 8, 9, 10, 11] rfl ?_
    refine G9 rfl (Ck [0, 1, 2] (aB hc.hl hc.hll (n := 3) (by omega) (by omega)) rfl rfl rfl rfl rfl rfl rfl ⟨⟨rfl, rfl⟩, rfl⟩ ?_)
    rintro _ ⟨q, rfl, q1, q2⟩
    obtain ⟨j, y, rfl, hy, hyl⟩ := d3 (l := cas3) (p := fun s => aA s castL = true) (by decide) q1 q2
    refine G (T := T) 148 rfl ?_
    refine Ix (T := T) (rows := cas3.map a7) j (ab hy) rfl rfl rfl rfl ⟨rfl, rfl⟩ rfl rfl ?_
    refine G9 rfl ?_
    rw [one hd]
    refine Ck [0, 1, 2] (ih (d + 1) (by omega) (by omega) c hc) rfl rfl rfl rfl rfl rfl rfl ⟨⟨rfl, rfl⟩, rfl⟩ ?_
    rintro _ ⟨e, rfl, he⟩
    refine G9 rfl (Fm (T := T) id (xd (exD (.mk 15 y 0 [e]))) (mkB c) (fin (eg_cast hyl he) (by omega)) rfl)
  refine G (T := T) 100023 rfl ?_
  refine Cu [0, 1, 4, 5] (fun (_ : Unit) r => (156, xb (decide (k = 11) && decide ((c.me : Int) + 1 < ((c.fs.map fuD).length : Int)))) :: r) (fun _ => mkB c ++ [ex0 3]) 4 (fun _ => True) rfl ?_ ?_
  · refine G (T := T) 160 rfl ?_
    refine Sp 159 rfl (fun h => ?_) (fun h => ?_)
    · refine G9 rfl ?_
      rw [h, Bool.true_and]
      exact Dn () trivial
    · refine G9 rfl ?_
      rw [h, Bool.false_and]
      exact Dn () trivial
  rintro _ -
  have hcon := pp (pk := pk) hc.hl hc.hll
  refine If rfl (fun h => ?_) (fun h => ?_)
  · have h9 := (Bool.and_eq_true_iff.1 h).2
    obtain ⟨d, hd, s1, s2, s3⟩ := big (by have := of_decide_eq_true (Bool.and_eq_true_iff.1 h).1; omega)
    have hlen := of_decide_eq_true h9
    have hlen2 := hlen
    rw [List.length_map] at hlen2
    refine G (T := T) 100024 rfl ?_
    refine Ods (T := T) [0, 1, 2, 3, 4, 5, 6, 7, 8, 9, 10, 11, 12, 13, 14, 15, 16, 17, 18, 19, 20, 25, 21, 22, 23, 24, 26] rfl ?_
    refine G9 rfl ?_
    refine Ck [0, 1, 2] (aB hc.hl hc.hll (n := ((c.fs.map fuD).length : Int) - (c.me : Int) - 1) (by omega) (by rw [List.length_map]; omega)) rfl rfl rfl rfl rfl rfl rfl ⟨⟨rfl, rfl⟩, rfl⟩ ?_
    rintro _ ⟨q, rfl, q1, q2⟩
    rw [List.length_map] at q2
    obtain ⟨j, rfl⟩ := Int.eq_ofNat_of_zero_le q1
    obtain ⟨f, hf9⟩ := ai (l := c.fs) (j := c.me + 1 + j) (by omega)
    have hF := hc.hf f (List.mem_of_getElem? hf9)
    refine G (T := T) 195 rfl ?_
    refine Ix (T := T) (c.me + 1 + j) (ab hf9) rfl rfl rfl rfl ⟨rfl, rfl⟩ (by push_cast; rfl) rfl ?_
    refine G (T := T) 100025 rfl ?_
    refine (FzTo.bz 4 rfl).c ?_
    refine G9 rfl (If rfl (fun h => ?_) (fun h => ?_))
    · refine G9 rfl ?_
      subst hd
      refine Ck [0, 1, 2] (mk_call (ih (d + 1) (by omega) (by omega)) (by omega) hc hF) rfl rfl rfl rfl rfl rfl rfl ⟨⟨rfl, rfl⟩, rfl⟩ ?_
      rintro _ ⟨e, rfl, he⟩
      refine G9 rfl (Fm (T := T) id (xd (exD e)) (mkB c) (fin he.1 (by omega)) rfl)
    · refine G9 rfl ?_
      refine Ck [0, 1, 2] hcon rfl rfl rfl rfl rfl rfl rfl ⟨⟨rfl, rfl⟩, rfl⟩ ?_
      rintro _ ⟨e, rfl, he⟩
      refine G9 rfl (Fm (T := T) id (xd (exD e)) (mkB c) (fin he (by omega)) rfl)
  refine G9 rfl (If rfl (fun h => ?_) (fun h => ?_))
  · obtain ⟨d, hd, s1, s2, s3⟩ := big (by have := of_decide_eq_true h; omega)
    refine G (T := T) 100028 rfl ?_
    refine Op 0 4 rfl rfl ?_
    rintro _ ⟨nd3, rfl⟩
    refine ⟨_, _, rfl, rfl, ?_⟩
    refine G (T := T) 213 rfl ?_
    refine Sw rfl rfl rfl ⟨rfl, rfl⟩ ?_
    refine G (T := T) 100029 rfl ?_
    refine (SRto.wk 0 4 ndP rfl rfl rfl rfl ⟨_, rfl⟩).c ?_
    refine G9 rfl (Ck [0, 1, 2] (aB hc.hl hc.hll (n := 2) (by omega) (by omega)) rfl rfl rfl rfl rfl rfl rfl ⟨⟨rfl, rfl⟩, rfl⟩ ?_)
    rintro _ ⟨q, rfl, q1, q2⟩
    obtain ⟨j, y, rfl, hy, hyl⟩ := d3 (l := div2) (p := fun s => aA s opsL = true) (by decide) q1 q2
    refine G (T := T) 219 rfl ?_
    refine Ix (T := T) (rows := div2.map a7) j (ab hy) rfl rfl rfl rfl ⟨rfl, rfl⟩ rfl rfl ?_
    refine G9 rfl ?_
    rw [one hd]
    refine Ck [0, 1, 2] (ih (d + 1) (by omega) (by omega) c hc) rfl rfl rfl rfl rfl rfl rfl ⟨⟨rfl, rfl⟩, rfl⟩ ?_
    rintro _ ⟨e, rfl, he⟩
    refine G (T := T) 100031 rfl ?_
    refine (FzTo.bz 4 rfl).c ?_
    refine G9 rfl (Ck [0, 1, 2] (aB hc.hl hc.hll (n := 8) (by omega) (by omega)) rfl rfl rfl rfl rfl rfl rfl ⟨⟨rfl, rfl⟩, rfl⟩ ?_)
    rintro _ ⟨q8, rfl, _, _⟩
    refine G9 rfl (If rfl (fun h => ?_) (fun h => ?_))
    · refine G9 rfl ?_
      rw [one hd]
      refine Ck [0, 1, 2] (ih (d + 1) (by omega) (by omega) c hc) rfl rfl rfl rfl rfl rfl rfl ⟨⟨rfl, rfl⟩, rfl⟩ ?_
      rintro _ ⟨e2, rfl, he2⟩
      refine G9 rfl (Cq (bO y e e2) rfl rfl rfl rfl rfl ⟨rfl, rfl⟩ ?_)
      refine G9 rfl (Fm (T := T) id (xd (exD (ka y e e2))) (mkB c) (fin (fQ hyl he he2) (by omega)) rfl)
    · refine G9 rfl ?_
      rw [show ((D : Nat) : Int) - 2 = ((d : Nat) : Int) by omega]
      refine Ck [0, 1, 2] (ih d (by omega) (by omega) c hc) rfl rfl rfl rfl rfl rfl rfl ⟨⟨rfl, rfl⟩, rfl⟩ ?_
      rintro _ ⟨e2, rfl, he2⟩
      refine G9 rfl (Cq (bN (n := 1) (by omega) (by omega)) rfl rfl rfl rfl rfl ⟨rfl, rfl⟩ ?_)
      refine G9 rfl (Cq (bO ⟨#[124]⟩ e2 (fD 1)) rfl rfl rfl rfl rfl ⟨rfl, rfl⟩ ?_)
      refine G9 rfl (Cq (bO y e (ka ⟨#[124]⟩ e2 (fD 1))) rfl rfl rfl rfl rfl ⟨rfl, rfl⟩ ?_)
      refine G9 rfl (Fm (T := T) id (xd (exD (ka y e (ka ⟨#[124]⟩ e2 (fD 1))))) (mkB c) (fin (fQ hyl he (fQ (by decide) he2 (ig (by omega) (by omega)))) (by omega)) rfl)
  refine G9 rfl (If rfl (fun h => ?_) (fun h => ?_))
  · obtain ⟨d, hd, s1, s2, s3⟩ := big (by have := of_decide_eq_true h; omega)
    refine G9 rfl (Ck [0, 1, 2] (aB hc.hl hc.hll (n := 16) (by omega) (by omega)) rfl rfl rfl rfl rfl rfl rfl ⟨⟨rfl, rfl⟩, rfl⟩ ?_)
    rintro _ ⟨q, rfl, q1, q2⟩
    obtain ⟨j, y, rfl, hy, hyl⟩ := d3 (l := bin16) (p := fun s => aA s opsL = true) (by decide) q1 q2
    refine G (T := T) 253 rfl ?_
    refine Ix (T := T) (rows := bin16.map a7) j (ab hy) rfl rfl rfl rfl ⟨rfl, rfl⟩ rfl rfl ?_
    refine G9 rfl ?_
    rw [one hd]
    refine Ck [0, 1, 2] (ih (d + 1) (by omega) (by omega) c hc) rfl rfl rfl rfl rfl rfl rfl ⟨⟨rfl, rfl⟩, rfl⟩ ?_
    rintro _ ⟨e, rfl, he⟩
    refine G (T := T) 100038 rfl ?_
    refine (FzTo.bz 4 rfl).c ?_
    refine G9 rfl ?_
    rw [one hd]
    refine Ck [0, 1, 2] (ih (d + 1) (by omega) (by omega) c hc) rfl rfl rfl rfl rfl rfl rfl ⟨⟨rfl, rfl⟩, rfl⟩ ?_
    rintro _ ⟨e2, rfl, he2⟩
    refine G9 rfl (Cq (bO y e e2) rfl rfl rfl rfl rfl ⟨rfl, rfl⟩ ?_)
    refine G9 rfl (Fm (T := T) id (xd (exD (ka y e e2))) (mkB c) (fin (fQ hyl he he2) (by omega)) rfl)
  refine G9 rfl (Ck [0, 1, 2] hcon rfl rfl rfl rfl rfl rfl rfl ⟨⟨rfl, rfl⟩, rfl⟩ ?_)
  rintro _ ⟨e, rfl, he⟩
  refine G9 rfl (Fm (T := T) id (xd (exD e)) (mkB c) (fin he (by omega)) rfl)
end
section
open Go Go.RowKit Go.Proofs K
variable {pk : Pk}
def dg1 (n : Nat) : UInt8 := UInt8.ofNat (48 + n)
def vN (n : Nat) : ByteArray := ⟨#[118, dg1 n]⟩
def lN (n : Nat) : ByteArray := ⟨#[76, dg1 n]⟩
theorem vN_loc : ∀ n, 1 ≤ n → n ≤ 9 → dk (vN n) = true := by
  intro n h1 h2
  have : ∀ n : Nat, n ≤ 9 → 1 ≤ n → dk (vN n) = true := by decide +kernel
  exact this n h2 h1
theorem lN_id : ∀ n, n ≤ 9 → aI (lN n) = true := by decide +kernel
theorem cJ {n : Nat} (h : n < 10) : XQ Tryz.prog pk 27 [xi (n : Nat)] (xs ⟨#[dg1 n]⟩) := by
  refine XQ.en Tryz.func27 Tryz.ntmps27 (fun w0 own H V v0 hf => ?_)
  have t1 : 0 ≤ (n : Int).tmod 10 ∧ (n : Int).tmod 10 < 10 := ⟨Int.tmod_nonneg 10 (Int.natCast_nonneg n), Int.tmod_lt_of_pos (n : Int) (by omega)⟩
  refine G (T := T) 9 rfl ?_
  rw [ie n, Nat.mod_eq_of_lt h]
  refine Cd (T := T) [dg1 n] rfl rfl rfl rfl rfl rfl ⟨rfl, rfl⟩ ?_
  refine G9 rfl (IfT rfl (decide_eq_true (by omega)) ?_)
  refine G9 rfl (Fe (T := T) rfl rfl)
theorem pu {c : KC} (h : c.mn < 8) : XS' Tryz.prog pk 59 [pm] (mkB c) 3 (fun _ : Unit => True) (fun _ => xs (vN (c.mn + 1))) (fun _ => mkQ c.l c.fs c.tn c.me c.vars c.labels c.lf (c.mn + 1) c.ct 0 0) := by
  refine XM.en Tryz.func59 Tryz.ntmps59 (fun w0 own H V v0 hf => ?_)
  refine G9 rfl (Cq (cJ (n := c.mn + 1) (by omega)) rfl rfl rfl rfl rfl ⟨rfl, rfl⟩ ?_)
  refine G9 rfl ?_ ⟨by show 1 + 1 ≤ 9223372036854775807; omega, trivial⟩
  exact Fm (T := T) id (xs (vN (c.mn + 1))) (mkQ c.l c.fs c.tn c.me c.vars c.labels c.lf (c.mn + 1) c.ct 0 0) ⟨(), trivial, rfl, rfl⟩ rfl
def ouS (n : Int) (e : Ex) : Sm := .mk 11 eS ty4z n [e] [] [] []
theorem mR {c : KC} (hc : c.ok) : XKp Tryz.prog pk 66 [pm] (mkB c) 3 (fun r => ∃ s, r = xd (smD s) ∧ SG (SB 4 + 2) s) := by
  refine XM.en Tryz.func66 Tryz.ntmps66 (fun w0 own H V v0 hf => ?_)
  refine G9 rfl (Ck [0, 1, 2] (aB hc.hl hc.hll (n := 9) (by omega) (by omega)) rfl rfl rfl rfl rfl rfl rfl ⟨⟨rfl, rfl⟩, rfl⟩ ?_)
  rintro _ ⟨q, rfl, q1, q2⟩
  refine G (T := T) 7 rfl ?_
  rw [ld (n := 1 + q) (by omega) (by omega)]
  refine G9 rfl (Ck [0, 1, 2] (b7 4 (by omega) c hc) rfl rfl rfl rfl rfl rfl rfl ⟨⟨rfl, rfl⟩, rfl⟩ ?_)
  rintro _ ⟨e, rfl, he⟩
  refine G9 rfl (Fm (T := T) id (xd (smD (ouS (1 + q) e))) (mkB c) ⟨⟨_, rfl, (sg_out (by omega) (by omega) he).mono (by omega)⟩, rfl⟩ rfl)
theorem mk_giving {c : KC} (hc : c.ok) : XKp Tryz.prog pk 65 [pm] (mkB c) 3 (fun r => ∃ s, r = xd (smD s) ∧ SG (SB 3 + 2) s) := by
  obtain ⟨f, hf9⟩ := ai (l := c.fs) (j := c.me) hc.hme
  have hme := hc.hme
  have hfl := hc.hfl
  refine XM.en Tryz.func65 Tryz.ntmps65 (fun w0 own H V v0 hf => ?_)
  refine G (T := T) 13 rfl ?_
  refine Ix (T := T) c.me (ab hf9) rfl rfl rfl rfl ⟨rfl, rfl⟩ rfl rfl ?_
  refine G9 rfl (If rfl (fun h => ?_) (fun h => ?_)); {
  refine G9 rfl ?_
  refine Ck [0, 1, 2] (b7 3 (by omega) c hc) rfl rfl rfl rfl rfl rfl rfl ⟨⟨rfl, rfl⟩, rfl⟩ ?_
  rintro _ ⟨e, rfl, he⟩
  refine G9 rfl (Fm (T := T) id (xd (smD (.mk 10 eS ty4z 0 [e] [] [] []))) (mkB c) ⟨⟨_, rfl, (sg_ret (by simp) (EGs.one he)).mono (by omega)⟩, rfl⟩ rfl)}; {
  refine G9 rfl ?_
  exact Fm (T := T) id (xd (smD (.mk 10 eS ty4z 0 [] [] [] []))) (mkB c) ⟨⟨_, rfl, (sg_ret (by simp) EGs.nil).mono (by omega)⟩, rfl⟩ rfl}
end
section
open Go Go.RowKit Go.Proofs K
variable {pk : Pk}
structure KVm where
  vars : List ByteArray
  lf : Nat
  mn : Nat
  ct : Nat
structure KI (V : Nat) (v : KVm) : Prop where
  hv : ∀ s ∈ v.vars, dk s = true
  vl : v.vars.length + v.lf ≤ V
  m8 : v.mn ≤ 8
  cl : v.ct + v.lf ≤ 8
  V5 : V ≤ 500
abbrev KW (c : KC) (v : KVm) (lab : List ByteArray) : KC := ⟨c.l, c.fs, c.tn, c.me, v.vars, lab, v.lf, v.mn, v.ct⟩
theorem KC.ok.kw {c : KC} (h : c.ok) {V : Nat} {v : KVm} (k : KI V v) {lab : List ByteArray} (h1 : ∀ s ∈ lab, aI s = true) (h2 : lab.length ≤ 1000) : (KW c v lab).ok := ⟨h.hl, h.hll, k.hv, by have := k.vl; have := k.V5; show v.vars.length ≤ 1000; omega, h.hme, h.hfl, h.hf, h.htn, h1, h2⟩
abbrev StC (pk : Pk) (f : FuncId) (args : List XV) (c : KC) (V B : Nat) : Prop := XS' Tryz.prog pk f args (mkB c) 3 (fun a : KVm × List Sm => KI V a.1 ∧ SGs B a.2) (fun a => xr (a.2.map smD)) (fun a => mkQ c.l c.fs c.tn c.me a.1.vars c.labels a.1.lf a.1.mn a.1.ct 1 1)
def lh (pk : Pk) (k : Nat) : Prop := ∀ (c : KC) (V deep : Nat), c.ok → KI V ⟨c.vars, c.lf, c.mn, c.ct⟩ → deep + k = 4 → c.labels.length + k ≤ 8 → StC pk 35 [pm, xi (deep : Nat)] c V (ZB k)
theorem iQ (l : List Sm) : ∀ r ∈ l.map smD, r.length = 11 := fun r hr => by
  obtain ⟨s, _, rfl⟩ := List.mem_map.1 hr
  rfl
theorem SGs.len {B : Nat} {l : List Sm} (h : SGs B l) : l.length ≤ B := Nat.le_trans (Sm.len_le l) h.s
def downS (n : ByteArray) : Sm := .mk 2 eS ty4z 0 [aN n, ka ⟨#[45]⟩ (aN n) (fD 1)] [] [] []
def letS (n : ByteArray) (k : Int) (e : Ex) : Sm := .mk 1 n (.mk k eS 0 []) 0 [e] [] [] []
def whiS (l n : ByteArray) (b : List Sm) : Sm := .mk 4 l ty4z 0 [aN n] b [] []
def jmp2 : List Int := [7, 8]
def jumpS (k : Int) (l : ByteArray) : Sm := .mk k l ty4z 0 [] [] [] []
def ifS (e : Ex) (b el : List Sm) : Sm := .mk 3 eS ty4z 0 [e] b el []
theorem jmp2_get {q : Int} (h0 : 0 ≤ q) (h1 : q < 2) : ∃ j k, q = ((j : Nat) : Int) ∧ jmp2[j]? = some k ∧ (k = 7 ∨ k = 8) := by
  obtain ⟨j, rfl⟩ := Int.eq_ofNat_of_zero_le h0
  have : j = 0 ∨ j = 1 := by omega
  rcases this with rfl | rfl
  {
  exact ⟨0, 7, rfl, rfl, .inl rfl⟩}; {
  exact ⟨1, 8, rfl, rfl, .inr rfl⟩}
theorem tyk_G {k : Int} (h : k = 1 ∨ k = 2 ∨ k = 3) : rTy (.mk k eS 0 []) = true ∧ (Ty4.mk k eS 0 []).ok ∧ (Ty4.mk k eS 0 []).size ≤ 1 := by
  refine ⟨by rcases h with rfl | rfl | rfl <;> rfl, ⟨⟨by omega, by omega⟩, by decide, ⟨by omega, by omega⟩, trivial⟩, by simp [Ty4.size, Ty4.sizes]⟩
theorem nZ {n : ByteArray} (h : dk n = true) : SG 6 (downS n) := (sg_asg (A := 1) (B := 3) ⟨jA h, rfl⟩ (fQ (by decide) (jA h) (ig (by omega) (by omega)))).mono (by omega)
abbrev smB (g : Nat) (k : Int) (nm : ByteArray) (xs : XC) (b : XC) : XB := ⟨g, 0, .cells [.d (.c (.int .i64 k)), .d (.c (.string nm)), .d (.c (.int .i64 0)), .d (.c (.string eS)), .d (.c (.int .i64 0)), .z, .d (.c (.int .u16 0)), xs, b, .z, .z] 71⟩
theorem qy {k : Nat} (ih : lh pk k) (hk : k ≤ 3) {c : KC} {V deep : Nat} (hc : c.ok) (hI : KI V ⟨c.vars, c.lf, c.mn, c.ct⟩) (hV : c.vars.length + c.lf + 1 ≤ V) (hC : c.ct + c.lf + 1 ≤ 8) (h8 : c.mn < 8) (hd : deep + 1 + k = 4) (hlab : c.labels.length + k + 1 ≤ 8) :
    StC pk 62 [pm, xi (deep : Nat)] c V (ZB k + 2400) := by
  have hz := ZB_le (k := k) (by omega)
  have hV5 := hI.V5
  have hvn := vN_loc (c.mn + 1) (by omega) (by omega)
  refine XM.en Tryz.func62 Tryz.ntmps62 (fun w0 own H V' v0 hf => ?_)
  refine G9 rfl (Cx' [0, 1, 2] (fun _ => mkQ c.l c.fs c.tn c.me c.vars c.labels c.lf (c.mn + 1) c.ct 0 0) (pu h8) rfl rfl rfl rfl rfl rfl rfl ⟨⟨rfl, rfl⟩, rfl⟩ (fun _ => rfl) (fun _ => rfl) ?_)
  rintro _ -
  refine G9 rfl (Cq (aE (vN (c.mn + 1))) rfl rfl rfl rfl rfl ⟨rfl, rfl⟩ ?_)
  refine G (T := T) 100003 rfl ?_
  refine (FzTo.bz 3 rfl).c ?_
  generalize hN : vN (c.mn + 1) = N at hvn ⊢
  have hc1 : ({ c with mn := c.mn + 1 } : KC).ok := ⟨hc.hl, hc.hll, hc.hv, hc.hvl, hc.hme, hc.hfl, hc.hf, hc.htn, hc.hlb, hc.hlbl⟩
  refine G9 rfl (Ck [0, 1, 2] (aB hc1.hl hc1.hll (n := 5) (by omega) (by omega)) rfl rfl rfl rfl rfl rfl rfl ⟨⟨rfl, rfl⟩, rfl⟩ ?_)
  rintro _ ⟨q, rfl, q1, q2⟩
  refine G9 rfl (Cq (bN (n := q) q1 (by omega)) rfl rfl rfl rfl rfl ⟨rfl, rfl⟩ ?_)
  refine G (T := T) 100004 rfl ?_
  refine (FzTo.bz 4 rfl).c ?_
  refine G9 rfl (Cq (bN (n := 1) (by omega) (by omega)) rfl rfl rfl rfl rfl ⟨rfl, rfl⟩ ?_)
  refine G9 rfl (Cq (bO ⟨#[45]⟩ (aN N) (fD 1)) rfl rfl rfl rfl rfl ⟨rfl, rfl⟩ ?_)
  refine G (T := T) 100006 rfl ?_
  refine (FzTo.bz 6 rfl).c ?_
  refine G9 rfl (Ck [0, 1, 2] (aB hc1.hl hc1.hll (n := 2) (by omega) (by omega)) rfl rfl rfl rfl rfl rfl rfl ⟨⟨rfl, rfl⟩, rfl⟩ ?_)
  rintro _ ⟨q2', rfl, _, _⟩
  refine G9 rfl (Cf [0, 5, 7, 8] (fun (_ : ByteArray × KVm × Nat × List (List D) × List Sm) r => r) (fun a => mkQ c.l c.fs c.tn c.me a.2.1.vars c.labels a.2.1.lf a.2.1.mn a.2.1.ct 1 1 ++ [smB 5 4 a.1 (.d (.s [exD (aN N)])) (.l 7 1 11 0 a.2.2.1 a.2.2.1), ⟨7, 1, .row a.2.2.1 a.2.2.2.1 71 11⟩]) 8 (fun a => a.2.2.1 = a.2.2.2.2.length ∧ a.2.2.2.1 = a.2.2.2.2.map smD ∧ (a.1 = eS ∨ aI a.1 = true) ∧ KI (V - 1) a.2.1 ∧ SGs (ZB k + 2300) a.2.2.2.2) rfl ?_ ?_); {
  refine If rfl (fun h => ?_) (fun h => ?_); {
  refine G9 rfl ?_
  refine Cq (cJ (n := c.ct + 1) (by omega)) rfl rfl rfl rfl rfl ⟨rfl, rfl⟩ ?_
  have hln := lN_id (c.ct + 1) (by omega)
  refine G (T := T) 47 rfl ?_ ⟨by show 1 + 1 ≤ 9223372036854775807; omega, trivial⟩
  rw [show (⟨#[76]⟩ : ByteArray) ++ ⟨#[dg1 (c.ct + 1)]⟩ = lN (c.ct + 1) from rfl]
  generalize lN (c.ct + 1) = L at hln ⊢
  refine G (T := T) 60 rfl ?_
  have e1 : c.labels.map a7 ++ [[D.c (.string L)]] = (c.labels ++ [L]).map a7 := by rw [List.map_append]; rfl
  have e2 : c.labels.length + 1 = (c.labels ++ [L]).length := by simp
  rw [e1, e2]
  have hlb : ∀ s ∈ c.labels ++ [L], aI s = true := fun s hs => by
    rcases List.mem_append.1 hs with hs | hs
    {
    exact hc.hlb s hs}; {
    rw [List.mem_singleton.1 hs]; exact hln}
  have hll2 : (c.labels ++ [L]).length ≤ 1000 := by rw [← e2]; omega
  refine Br (T := T) rfl rfl rfl rfl rfl ⟨rfl, rfl⟩ ?_
  refine G9 rfl ?_
  have hI0 : KI (V - 1) ⟨c.vars, c.lf, c.mn + 1, c.ct + 1⟩ := ⟨hI.hv, by show c.vars.length + c.lf ≤ _; omega, by show c.mn + 1 ≤ 8; omega, by show c.ct + 1 + c.lf ≤ 8; omega, by omega⟩
  refine Cx' [0, 1, 2] (fun a => mkQ c.l c.fs c.tn c.me a.1.vars (c.labels ++ [L]) a.1.lf a.1.mn a.1.ct 1 2) (ih (KW c ⟨c.vars, c.lf, c.mn + 1, c.ct + 1⟩ (c.labels ++ [L])) (V - 1) (deep + 1) (hc.kw hI0 hlb hll2) hI0 hd (by show (c.labels ++ [L]).length + k ≤ 8; omega)) rfl rfl rfl rfl rfl rfl rfl ⟨⟨rfl, rfl⟩, rfl⟩ (fun _ => rfl) (fun _ => rfl) ?_
  rintro ⟨v, ss⟩ ⟨hI2, hS⟩; dsimp only at hI2 hS ⊢
  have hlen := hS.len
  have hmap : (ss.map smD).length = ss.length := List.length_map ..
  have hc2 := hc.kw hI2 hlb hll2
  refine G (T := T) 65 rfl ?_
  refine Ap (T := T) rfl (iQ ss) rfl rfl rfl rfl rfl rfl ⟨rfl, rfl⟩ (by rw [List.length_map]; omega) (by rw [List.length_map]; omega) ?_
  refine G9 rfl (Ck [0, 1, 2] (aB (c := KW c v (c.labels ++ [L])) hc2.hl hc2.hll (n := 2) (by omega) (by omega)) rfl rfl rfl rfl rfl rfl rfl ⟨⟨rfl, rfl⟩, rfl⟩ ?_)
  rintro _ ⟨q3, rfl, _, _⟩
  refine G9 rfl (Cf [0, 5, 7, 8] (fun (_ : Nat × List (List D) × List Sm) r => r) (fun a => mkQ c.l c.fs c.tn c.me v.vars (c.labels ++ [L]) v.lf v.mn v.ct 1 1 ++ [smB 5 4 L (.d (.s [exD (aN N)])) (.l 7 1 11 0 a.1 a.1), ⟨7, 1, .row a.1 a.2.1 71 11⟩]) 8 (fun a => a.1 = a.2.2.length ∧ a.2.1 = a.2.2.map smD ∧ SGs (ZB k + 2300) a.2.2) rfl ?_ ?_); {
  refine If rfl (fun h => ?_) (fun h => ?_); {
  refine G (T := T) 100012 rfl ?_
  refine Ods (T := T) [0, 1, 5, 6, 8, 2, 3, 4, 7, 9] rfl ?_
  refine G9 rfl (Ck [0, 1, 2] (aB (c := KW c v (c.labels ++ [L])) hc2.hl hc2.hll (n := 2) (by omega) (by omega)) rfl rfl rfl rfl rfl rfl rfl ⟨⟨rfl, rfl⟩, rfl⟩ ?_)
  rintro _ ⟨q4, rfl, q41, q42⟩
  obtain ⟨j, jk, rfl, hj, hjk⟩ := jmp2_get q41 q42
  refine G (T := T) 73 rfl ?_
  refine Ix (T := T) (rows := jmp2.map intD) j (ab hj) rfl rfl rfl rfl ⟨rfl, rfl⟩ rfl rfl ?_
  refine G (T := T) 100013 rfl ?_
  refine (FzTo.bz 8 rfl).c ?_
  refine Ods (T := T) [0, 1, 2, 5, 6, 3, 4, 7, 8, 9, 10, 11] rfl ?_
  refine G9 rfl (Ck [0, 1, 2] (b7 2 (by omega) _ hc2) rfl rfl rfl rfl rfl rfl rfl ⟨⟨rfl, rfl⟩, rfl⟩ ?_)
  rintro _ ⟨e, rfl, he⟩
  refine G9 rfl (Ck [0, 1, 2] (mR hc2) rfl rfl rfl rfl rfl rfl rfl ⟨⟨rfl, rfl⟩, rfl⟩ ?_)
  rintro _ ⟨s, rfl, hs⟩
  refine G9 rfl ?_
  refine Dn (_, _, ((downS N :: ss) ++ [ifS e [jumpS jk L] []]) ++ [s]) ⟨?_, ?_, (((SGs.cons (nZ hvn) hS).snoc (mQ he (SGs.one (nW hjk hln)) SGs.nil)).snoc hs).mono (by rw [SB2, SB4]; omega)⟩ ⟨⟨_, _, rfl, rfl⟩, rfl, rfl⟩; {
  dsimp only; rw [List.length_map, List.length_append, List.length_append, List.length_cons]; simp only [List.length_cons, List.length_nil]; omega}; {
  dsimp only; rw [List.map_append, List.map_append]; rfl}}; {
  refine G9 rfl ?_
  refine Dn (_, _, downS N :: ss) ⟨?_, ?_, (SGs.cons (nZ hvn) hS).mono (by omega)⟩ ⟨⟨_, _, rfl, rfl⟩, rfl, rfl⟩; {
  dsimp only; rw [List.length_map, List.length_cons]; omega}; {
  rfl}}}
  rintro ⟨n, R, bs⟩ ⟨hn9, hR9, hS3⟩; dsimp only at hn9 hR9 hS3 ⊢; subst hn9 hR9
  refine G (T := T) 107 rfl ?_
  refine Po (T := T) c.labels.length rfl rfl rfl rfl rfl rfl ⟨rfl, rfl⟩ (by rw [← e2]; omega) (by rw [← e2]; omega) rfl rfl ?_
  rw [show ((c.labels ++ [L]).map a7).take c.labels.length = c.labels.map a7 by simp]
  refine G9 rfl (Dn (L, v, _, _, bs) ⟨rfl, rfl, .inr hln, hI2, hS3⟩)}; {
  refine G (T := T) 111 rfl ?_
  refine Br (T := T) rfl rfl rfl rfl rfl ⟨rfl, rfl⟩ ?_
  refine G9 rfl ?_
  refine Cx' [0, 1, 2] (fun a => mkQ c.l c.fs c.tn c.me a.1.vars c.labels a.1.lf a.1.mn a.1.ct 1 1) (ih (KW c ⟨c.vars, c.lf, c.mn + 1, c.ct⟩ c.labels) (V - 1) (deep + 1) hc1 ⟨hI.hv, by show c.vars.length + c.lf ≤ _; omega, by show c.mn + 1 ≤ 8; omega, hI.cl, by omega⟩ hd (by show c.labels.length + k ≤ 8; omega)) rfl rfl rfl rfl rfl rfl rfl ⟨⟨rfl, rfl⟩, rfl⟩ (fun _ => rfl) (fun _ => rfl) ?_
  rintro ⟨v, ss⟩ ⟨hI2, hS⟩; dsimp only at hI2 hS ⊢
  have hlen := hS.len
  have hmap : (ss.map smD).length = ss.length := List.length_map ..
  refine G (T := T) 116 rfl ?_
  refine Ap (T := T) rfl (iQ ss) rfl rfl rfl rfl rfl rfl ⟨rfl, rfl⟩ (by rw [List.length_map]; omega) (by rw [List.length_map]; omega) ?_
  refine G9 rfl (Dn (eS, v, _, _, downS N :: ss) ⟨?_, ?_, .inl rfl, hI2, (SGs.cons (nZ hvn) hS).mono (by omega)⟩ ⟨⟨_, _, rfl, rfl⟩, rfl, rfl⟩); {
  dsimp only; rw [List.length_map, List.length_cons]; omega}; {
  rfl}}}
  rintro ⟨nm, v, n, R, bs⟩ ⟨hn9, hR9, hnm, hI2, hS⟩; dsimp only at hn9 hR9 hnm hI2 hS ⊢; subst hn9 hR9
  have hvl2 := hI2.vl
  have hbl := hS.len
  refine G (T := T) 100018 rfl ?_
  have e1 : v.vars.map a7 ++ [[D.c (.string N)]] = (v.vars ++ [N]).map a7 := by rw [List.map_append]; rfl
  have e2 : v.vars.length + 1 = (v.vars ++ [N]).length := by simp
  rw [e1, e2]
  refine Zc 7 rfl ?_
  refine G9 rfl ?_
  have hT := tyk_G (k := 1) (.inl rfl)
  refine Fm (T := T) id (xr [smD (letS N 1 (fD q)), [.c (.int .i64 4), .c (.string nm), .c (.int .i64 0), .c (.string eS), .c (.int .i64 0), .s [], .c (.int .u16 0), .s [exD (aN N)], .s (bs.map smD), .s [], .s []]]) (mkQ c.l c.fs c.tn c.me (v.vars ++ [N]) c.labels v.lf v.mn v.ct 1 1) ⟨(⟨v.vars ++ [N], v.lf, v.mn, v.ct⟩, [letS N 1 (fD q), whiS nm N bs]), ⟨⟨fun s hs => ?_, by show (v.vars ++ [N]).length + v.lf ≤ V; omega, hI2.m8, hI2.cl, hV5⟩, ?_⟩, ?_, rfl⟩ rfl; {
  rcases List.mem_append.1 hs with hs | hs
  {
  exact hI2.hv s hs}; {
  rw [List.mem_singleton.1 hs]; exact hvn}}; {
  exact (SGs.cons (sg_let hvn hT.1 hT.2.1 hT.2.2 (ig q1 (by omega))) (SGs.one (sg_while hnm (jA hvn) hS))).mono (by omega)}; {
  show _ = xr [smD (letS N 1 (fD q)), smD (whiS nm N bs)]
  rw [whiS, be]
  rfl}
end
section
open Go Go.RowKit Go.Proofs K
variable {pk : Pk}
def blkS (k : Int) (l : ByteArray) (b : List Sm) : Sm := .mk k l ty4z 0 [] b [] []
theorem pw {k : Nat} (ih : lh pk k) (hk : k ≤ 3) {c : KC} {V deep : Nat} (hc : c.ok) (hI : KI V ⟨c.vars, c.lf, c.mn, c.ct⟩) (hC : c.ct + c.lf + 1 ≤ 8) (hd : deep + 1 + k = 4) (hlab : c.labels.length + k + 1 ≤ 8) :
    XS' Tryz.prog pk 63 [pm, xi (deep : Nat)] (mkB c) 3 (fun a : KVm × Sm => KI V a.1 ∧ SG (ZB k + 700) a.2) (fun a => xd (smD a.2)) (fun a => mkQ c.l c.fs c.tn c.me a.1.vars c.labels a.1.lf a.1.mn a.1.ct 1 1) := by
  have hz := ZB_le (k := k) (by omega)
  have hV5 := hI.V5
  refine XM.en Tryz.func63 Tryz.ntmps63 (fun w0 own H V' v0 hf => ?_)
  refine G9 rfl (Cq (cJ (n := c.ct + 1) (by omega)) rfl rfl rfl rfl rfl ⟨rfl, rfl⟩ ?_)
  have hln := lN_id (c.ct + 1) (by omega)
  refine G (T := T) 20 rfl ?_ ⟨by show 1 + 1 ≤ 9223372036854775807; omega, trivial⟩
  rw [show (⟨#[76]⟩ : ByteArray) ++ ⟨#[dg1 (c.ct + 1)]⟩ = lN (c.ct + 1) from rfl]
  generalize lN (c.ct + 1) = L at hln ⊢
  refine G (T := T) 100004 rfl ?_
  have e1 : c.labels.map a7 ++ [[D.c (.string L)]] = (c.labels ++ [L]).map a7 := by rw [List.map_append]; rfl
  have e2 : c.labels.length + 1 = (c.labels ++ [L]).length := by simp
  rw [e1, e2]
  have hlb : ∀ s ∈ c.labels ++ [L], aI s = true := fun s hs => by
    rcases List.mem_append.1 hs with hs | hs
    {
    exact hc.hlb s hs}; {
    rw [List.mem_singleton.1 hs]; exact hln}
  have hll2 : (c.labels ++ [L]).length ≤ 1000 := by rw [← e2]; omega
  have hI0 : KI V ⟨c.vars, c.lf, c.mn, c.ct + 1⟩ := ⟨hI.hv, hI.vl, hI.m8, by show c.ct + 1 + c.lf ≤ 8; omega, hV5⟩
  have hc1 := hc.kw hI0 hlb hll2
  refine Ods (T := T) [0, 1, 2, 3, 4, 5, 6, 7, 8, 9, 14, 10, 11, 12, 13, 15] rfl ?_
  refine G9 rfl (Ck [0, 1, 2] (aB (c := KW c ⟨c.vars, c.lf, c.mn, c.ct + 1⟩ (c.labels ++ [L])) hc1.hl hc1.hll (n := ((c.labels ++ [L]).length : Nat)) (by omega) (by omega)) rfl rfl rfl rfl rfl rfl rfl ⟨⟨rfl, rfl⟩, rfl⟩ ?_)
  rintro _ ⟨q, rfl, q1, q2⟩
  obtain ⟨j, y, rfl, hy, hyl⟩ := d3 hlb q1 q2
  refine G (T := T) 43 rfl ?_
  refine Iq (T := T) j rfl rfl rfl rfl rfl ⟨rfl, rfl⟩ rfl (by omega) rfl ?_
  refine Lr (T := T) (ab hy) rfl rfl rfl rfl ⟨rfl, rfl⟩ rfl rfl ?_
  refine G (T := T) 100005 rfl ?_
  refine (FzTo.bz 5 rfl).c ?_
  refine Ods (T := T) [0, 3, 4, 1, 2, 5, 6, 7, 8] rfl ?_
  refine G9 rfl (Ck [0, 1, 2] (b7 3 (by omega) _ hc1) rfl rfl rfl rfl rfl rfl rfl ⟨⟨rfl, rfl⟩, rfl⟩ ?_)
  rintro _ ⟨e, rfl, he⟩
  refine G (T := T) 52 rfl ?_
  refine Br (T := T) rfl rfl rfl rfl rfl ⟨rfl, rfl⟩ ?_
  refine G9 rfl ?_
  refine Cx' [0, 1, 2] (fun a => mkQ c.l c.fs c.tn c.me a.1.vars (c.labels ++ [L]) a.1.lf a.1.mn a.1.ct 1 2) (ih (KW c ⟨c.vars, c.lf, c.mn, c.ct + 1⟩ (c.labels ++ [L])) V (deep + 1) hc1 hI0 hd (by show (c.labels ++ [L]).length + k ≤ 8; omega)) rfl rfl rfl rfl rfl rfl rfl ⟨⟨rfl, rfl⟩, rfl⟩ (fun _ => rfl) (fun _ => rfl) ?_
  rintro ⟨v, ss⟩ ⟨hI2, hS⟩; dsimp only at hI2 hS ⊢
  have hlen := hS.len
  have hmap : (ss.map smD).length = ss.length := List.length_map ..
  have hc2 := hc.kw hI2 hlb hll2
  refine G (T := T) 60 rfl ?_
  refine Ap (T := T) rfl (iQ ss) rfl rfl rfl rfl rfl rfl ⟨rfl, rfl⟩ (by rw [List.length_map]; omega) (by rw [List.length_map]; omega) ?_
  refine G9 rfl (Ck [0, 1, 2] (aB (c := KW c v (c.labels ++ [L])) hc2.hl hc2.hll (n := 2) (by omega) (by omega)) rfl rfl rfl rfl rfl rfl rfl ⟨⟨rfl, rfl⟩, rfl⟩ ?_)
  rintro _ ⟨q3, rfl, _, _⟩
  refine G9 rfl ?_
  have hif : SG 516 (ifS e [jumpS 7 y] []) := (mQ he (SGs.one (nW (.inl rfl) hyl)) SGs.nil).mono (by rw [SB3]; omega)
  have hS2 := SGs.cons hif hS
  refine Cf [0, 4, 5] (fun (_ : Int × Nat × List (List D) × List Sm) r => r) (fun a => mkQ c.l c.fs c.tn c.me v.vars (c.labels ++ [L]) v.lf v.mn v.ct 1 1 ++ [smB 4 a.1 L .z (.l 6 1 11 0 a.2.1 a.2.1), ⟨6, 1, .row a.2.1 a.2.2.1 71 11⟩, smB 3 0 eS .z .z]) 7 (fun a => (a.1 = 5 ∨ a.1 = 6) ∧ a.2.1 = a.2.2.2.length ∧ a.2.2.1 = a.2.2.2.map smD ∧ SGs (ZB k + 600) a.2.2.2) rfl ?_ ?_; {
  refine If rfl (fun h => ?_) (fun h => ?_); {
  refine G9 rfl ?_
  refine Dn (5, _, _, (ifS e [jumpS 7 y] [] :: ss) ++ [jumpS 7 L]) ⟨.inl rfl, ?_, ?_, (hS2.snoc (nW (.inl rfl) hln)).mono (by omega)⟩ ⟨⟨_, _, rfl, rfl⟩, rfl, rfl⟩; {
  dsimp only; rw [List.length_map, List.length_append, List.length_cons]; simp only [List.length_cons, List.length_nil]; omega}; {
  dsimp only; rw [List.map_append]; rfl}}; {
  refine G9 rfl ?_
  refine Dn (6, _, _, ifS e [jumpS 7 y] [] :: ss) ⟨.inr rfl, ?_, ?_, hS2.mono (by omega)⟩ ⟨⟨_, _, rfl, rfl⟩, rfl, rfl⟩; {
  dsimp only; rw [List.length_map, List.length_cons]; omega}; {
  rfl}}}
  rintro ⟨kk, n, R, bs⟩ ⟨hkk, hn9, hR9, hS3⟩; dsimp only at hkk hn9 hR9 hS3 ⊢; subst hn9 hR9
  refine G (T := T) 85 rfl ?_
  refine Po (T := T) c.labels.length rfl rfl rfl rfl rfl rfl ⟨rfl, rfl⟩ (by rw [← e2]; omega) (by rw [← e2]; omega) rfl rfl ?_
  rw [show ((c.labels ++ [L]).map a7).take c.labels.length = c.labels.map a7 by simp]
  refine G (T := T) 100011 rfl ?_
  refine Zc 6 rfl ?_
  refine G9 rfl (Fm (T := T) id (xd [.c (.int .i64 kk), .c (.string L), .c (.int .i64 0), .c (.string eS), .c (.int .i64 0), .s [], .c (.int .u16 0), .s [], .s (bs.map smD), .s [], .s []]) (mkQ c.l c.fs c.tn c.me v.vars c.labels v.lf v.mn v.ct 1 1) ⟨(v, blkS kk L bs), ⟨hI2, (sg_loop hkk hln hS3).mono (by omega)⟩, ?_, rfl⟩ rfl)
  dsimp only
  rw [blkS, be]
  rfl
end
section
open Go Go.RowKit Go.Proofs K
variable {pk : Pk}
def knd4 : List Int := [1, 1, 2, 3]
theorem knd4_get {q : Int} (h0 : 0 ≤ q) (h1 : q < 4) : ∃ j k, q = ((j : Nat) : Int) ∧ knd4[j]? = some k ∧ (k = 1 ∨ k = 2 ∨ k = 3) := by
  obtain ⟨j, rfl⟩ := Int.eq_ofNat_of_zero_le h0
  have : j = 0 ∨ j = 1 ∨ j = 2 ∨ j = 3 := by omega
  rcases this with rfl | rfl | rfl | rfl
  {
  exact ⟨0, 1, rfl, rfl, .inl rfl⟩}; {
  exact ⟨1, 1, rfl, rfl, .inl rfl⟩}; {
  exact ⟨2, 2, rfl, rfl, .inr (.inl rfl)⟩}; {
  exact ⟨3, 3, rfl, rfl, .inr (.inr rfl)⟩}
abbrev StΦ (b : Bool) (c : KC) (V B : Nat) (r : XV) (hp' : XH) : Prop := ∃ a : KVm × List Sm, (KI V a.1 ∧ SGs B a.2) ∧ r = cond b (xr (a.2.map smD)) (.a (.c (.l 3 1 11 0 a.2.length a.2.length))) ∧ hp' = cond b (mkQ c.l c.fs c.tn c.me a.1.vars c.labels a.1.lf a.1.mn a.1.ct 1 1) (mkQ c.l c.fs c.tn c.me a.1.vars c.labels a.1.lf a.1.mn a.1.ct 1 1 ++ [⟨3, 1, .row a.2.length (a.2.map smD) 71 11⟩])
theorem mS (b : Bool) (k : Nat) (ih0 : ∀ j, j < k → j ≤ 3 → lh pk j) (hk : k ≤ 3) (c : KC) (V deep : Nat) (hc : c.ok) (hI : KI V ⟨c.vars, c.lf, c.mn, c.ct⟩) (hd : deep + k = 4) (hlab : c.labels.length + k ≤ 8) : XM Tryz.prog pk 35 [pm, xi (deep : Nat)] (mkB c) 3 (cond b 3 4) (StΦ b c V (ZB k)) := by
  have ih1 : 1 ≤ k → lh pk (k - 1) := fun h => ih0 (k - 1) (by omega) (by omega)
  have hpb := PB_pos k
  have hpz := PB_le k
  have hzb := ZB_le (k := k) (by omega)
  have hzp : 1 ≤ k → PB k = 4 * ZB (k - 1) + 12000 ∧ ZB (k - 1) ≤ 10000000000 ∧ deep + 1 + (k - 1) = 4 := fun h => ⟨PB_pred h, ZB_le (by omega), by omega⟩
  have hme := hc.hme
  have hfl := hc.hfl
  have hV5 := hI.V5
  have hfm : (c.fs.map fuD).length = c.fs.length := List.length_map ..
  have b2 := SB2
  have b3 := SB3
  have b4 := SB4
  refine XM.en (hm := by cases b <;> rfl) Tryz.func35 Tryz.ntmps35 (fun w0 own H V' v0 hf => ?_)
  refine G9 rfl (Ck [0, 1, 2] (aB hc.hl hc.hll (n := 4) (by omega) (by omega)) rfl rfl rfl rfl rfl rfl rfl ⟨⟨rfl, rfl⟩, rfl⟩ ?_)
  rintro _ ⟨k0, rfl, k01, k02⟩
  refine G (T := T) 100003 rfl ?_
  refine (Nr 5 71 11 rfl rfl).c ?_
  refine G9 rfl ?_
  refine Lq [0, 1, 6] (fun (q : Nat × KVm × Nat × List (List D) × List Sm) r => (5, .a (.c (.l 3 1 11 0 q.2.2.1 q.2.2.1))) :: (7, xi (q.1 : Nat)) :: r) (fun q => mkQ c.l c.fs c.tn c.me q.2.1.vars c.labels q.2.1.lf q.2.1.mn q.2.1.ct 1 1 ++ [⟨3, 1, .row q.2.2.1 q.2.2.2.1 71 11⟩]) 4 (fun q => (q.1 : Int) ≤ 1 + k0 ∧ q.2.2.1 = q.2.2.2.2.length ∧ q.2.2.2.1 = q.2.2.2.2.map smD ∧ KI V q.2.1 ∧ SGs (q.1 * PB k) q.2.2.2.2) (fun q => 4 - q.1) (0, ⟨c.vars, c.lf, c.mn, c.ct⟩, 0, [], []) rfl ⟨by dsimp only; omega, rfl, rfl, hI, SGs.nil.mono (by omega)⟩ ?_
  rintro ⟨i, v, n, R, ss⟩ ⟨hi, hn9, hR9, hI2, hS⟩; dsimp only at hi hn9 hR9 hI2 hS ⊢; subst hn9 hR9
  have hvl := hI2.vl
  have hm8 := hI2.m8
  have hcl := hI2.cl
  have hi4 : i ≤ 4 := by omega
  have hpa := pb_all (k := k) hi4
  have hslen := hS.len
  have hmap : (ss.map smD).length = ss.length := List.length_map ..
  refine Gs (T := T) 1000 rfl ?_
  refine If rfl (fun h => ?_) (fun h => ?_)
  rotate_left; {
  refine G (T := T) 100045 rfl ?_
  cases b with
  | true =>
    refine Zc 3 rfl ?_
    refine G9 rfl (Fm (T := T) id (xr (ss.map smD)) (mkQ c.l c.fs c.tn c.me v.vars c.labels v.lf v.mn v.ct 1 1) ⟨(v, ss), ⟨hI2, hS.mono (by omega)⟩, rfl, rfl⟩ rfl)
  | false =>
    refine G9 rfl (Fm (T := T) id (.a (.c (.l 3 1 11 0 ss.length ss.length))) (mkQ c.l c.fs c.tn c.me v.vars c.labels v.lf v.mn v.ct 1 1 ++ [⟨3, 1, .row ss.length (ss.map smD) 71 11⟩]) ⟨(v, ss), ⟨hI2, hS.mono (by omega)⟩, rfl, rfl⟩ rfl)}
  {
  have hi1 := of_decide_eq_true (Bool.and_eq_true_iff.1 h).1
  have hlf := of_decide_eq_true (Bool.and_eq_true_iff.1 h).2
  refine G (T := T) 200001 rfl ?_
  refine Cf [0, 1, 6, 7] (fun (q : KVm × Nat × List (List D) × List Sm) r => (5, .a (.c (.l 3 1 11 0 q.2.1 q.2.1))) :: r) (fun q => mkQ c.l c.fs c.tn c.me q.1.vars c.labels q.1.lf q.1.mn q.1.ct 1 1 ++ [⟨3, 1, .row q.2.1 q.2.2.1 71 11⟩]) 4 (fun q => q.2.1 = q.2.2.2.length ∧ q.2.2.1 = q.2.2.2.map smD ∧ KI V q.1 ∧ SGs ((i + 1) * PB k) q.2.2.2) rfl ?_ ?_
  rotate_left; {
  rintro ⟨v2, n2, R2, ss2⟩ ⟨hn9, hR9, hI4, hS2⟩; dsimp only at hn9 hR9 hI4 hS2 ⊢
  refine G9 rfl ?_
  exact Nq (i + 1, v2, n2, R2, ss2) ⟨by dsimp only; omega, hn9, hR9, hI4, hS2⟩ (by show 4 - (i + 1) < 4 - i; omega)}
  refine G9 rfl ?_
  rw [show (v.lf : Int) - 1 = ((v.lf - 1 : Nat) : Int) by omega]
  have hI3 : KI V ⟨v.vars, v.lf - 1, v.mn, v.ct⟩ := ⟨hI2.hv, by show v.vars.length + (v.lf - 1) ≤ V; omega, hI2.m8, by show v.ct + (v.lf - 1) ≤ 8; omega, hV5⟩
  have hc1 := hc.kw hI3 hc.hlb hc.hlbl
  refine Ck [0, 1, 2] (aB (c := KW c ⟨v.vars, v.lf - 1, v.mn, v.ct⟩ c.labels) hc1.hl hc1.hll (n := 18) (by omega) (by omega)) rfl rfl rfl rfl rfl rfl rfl ⟨⟨rfl, rfl⟩, rfl⟩ ?_
  rintro _ ⟨kk, rfl, _, _⟩
  have one : ∀ {B : Nat} {s : Sm}, SG B s → B ≤ PB k → SGs ((i + 1) * PB k) (ss ++ [s]) := fun h1 h2 => (hS.snoc h1).mono (pb_step h2)
  have l1 : ∀ s : Sm, ss.length + 1 = (ss ++ [s]).length := fun s => by simp
  refine Gs (T := T) 1000 rfl ?_
  refine If rfl (fun h => ?_) (fun h => ?_); {
  have h8 : v.mn < 8 := by have := of_decide_eq_true (Bool.and_eq_true_iff.1 h).2; omega
  have hvn := vN_loc (v.mn + 1) (by omega) (by omega)
  have hI5 : KI V ⟨v.vars, v.lf - 1, v.mn + 1, v.ct⟩ := ⟨hI3.hv, hI3.vl, by show v.mn + 1 ≤ 8; omega, hI3.cl, hV5⟩
  have hc2 := hc.kw hI5 hc.hlb hc.hlbl
  refine G9 rfl (Cx' [0, 1, 2] (fun _ => mkQ c.l c.fs c.tn c.me v.vars c.labels (v.lf - 1) (v.mn + 1) v.ct 1 1) (pu (c := KW c ⟨v.vars, v.lf - 1, v.mn, v.ct⟩ c.labels) h8) rfl rfl rfl rfl rfl rfl rfl ⟨⟨rfl, rfl⟩, rfl⟩ (fun _ => rfl) (fun _ => rfl) ?_)
  rintro _ -
  change (MS.r _ _ _ _ ⟨(57, xs (vN (v.mn + 1))) :: _, _, _⟩).ok _
  generalize vN (v.mn + 1) = N at hvn ⊢
  refine G9 rfl (Ck [0, 1, 2] (aB (c := KW c ⟨v.vars, v.lf - 1, v.mn + 1, v.ct⟩ c.labels) hc2.hl hc2.hll (n := 4) (by omega) (by omega)) rfl rfl rfl rfl rfl rfl rfl ⟨⟨rfl, rfl⟩, rfl⟩ ?_)
  rintro _ ⟨q, rfl, q1, q2⟩
  obtain ⟨j, tk, rfl, hj, htk⟩ := knd4_get q1 q2
  refine G (T := T) 61 rfl ?_
  refine Ix (T := T) (rows := knd4.map intD) j (ab hj) rfl rfl rfl rfl ⟨rfl, rfl⟩ rfl rfl ?_
  refine G (T := T) 100012 rfl ?_
  refine (FzTo.bz 4 rfl).c ?_
  refine G9 rfl (Ck [0, 1, 2] (b7 4 (by omega) _ hc2) rfl rfl rfl rfl rfl rfl rfl ⟨⟨rfl, rfl⟩, rfl⟩ ?_)
  rintro _ ⟨e, rfl, he⟩
  refine G9 rfl ?_
  have e1 : v.vars.map a7 ++ [[D.c (.string N)]] = (v.vars ++ [N]).map a7 := by rw [List.map_append]; rfl
  have e2 : v.vars.length + 1 = (v.vars ++ [N]).length := by simp
  rw [e1, e2]
  have hT := tyk_G htk
  refine Dn (⟨v.vars ++ [N], v.lf - 1, v.mn + 1, v.ct⟩, _, _, ss ++ [letS N tk e]) ⟨l1 _, ?_, ⟨fun s hs => ?_, by show (v.vars ++ [N]).length + (v.lf - 1) ≤ V; omega, by show v.mn + 1 ≤ 8; omega, hI3.cl, hV5⟩, one (sg_let hvn hT.1 hT.2.1 hT.2.2 he) (by omega)⟩ ⟨⟨_, _, rfl, rfl⟩, rfl, rfl⟩; {
  dsimp only; rw [List.map_append]; rfl}; {
  rcases List.mem_append.1 hs with hs | hs
  {
  exact hI2.hv s hs}; {
  rw [List.mem_singleton.1 hs]; exact hvn}}}
  refine G9 rfl (If rfl (fun h => ?_) (fun h => ?_)); {
  refine G9 rfl ?_
  refine Ck [0, 1, 2] (pq (d := 2) (b7 2 (by omega)) (by omega) hc1) rfl rfl rfl rfl rfl rfl rfl ⟨⟨rfl, rfl⟩, rfl⟩ ?_
  rintro _ ⟨a, rfl, ha⟩
  refine G9 rfl (Ck [0, 1, 2] (b7 4 (by omega) _ hc1) rfl rfl rfl rfl rfl rfl rfl ⟨⟨rfl, rfl⟩, rfl⟩ ?_)
  rintro _ ⟨e, rfl, he⟩
  refine G9 rfl (Dn (⟨v.vars, v.lf - 1, v.mn, v.ct⟩, _, _, ss ++ [.mk 2 eS ty4z 0 [a, e] [] [] []]) ⟨l1 _, ?_, hI3, one (sg_asg ha he) (by omega)⟩ ⟨⟨_, _, rfl, rfl⟩, rfl, rfl⟩)
  dsimp only; rw [List.map_append]; rfl}
  refine Gs (T := T) 1000 rfl ?_
  refine If rfl (fun h => ?_) (fun h => ?_); {
  have hk1 : 1 ≤ k := by have := of_decide_eq_true (Bool.and_eq_true_iff.1 h).2; omega
  obtain ⟨p1, p2, p3⟩ := hzp hk1
  refine G9 rfl (Ck [0, 1, 2] (b7 3 (by omega) _ hc1) rfl rfl rfl rfl rfl rfl rfl ⟨⟨rfl, rfl⟩, rfl⟩ ?_)
  rintro _ ⟨e, rfl, he⟩
  refine G9 rfl ?_
  refine Cx' [0, 1, 2] (fun a => mkQ c.l c.fs c.tn c.me a.1.vars c.labels a.1.lf a.1.mn a.1.ct 2 2) (ih1 hk1 (KW c ⟨v.vars, v.lf - 1, v.mn, v.ct⟩ c.labels) V (deep + 1) hc1 hI3 p3 (by show c.labels.length + (k - 1) ≤ 8; omega)) rfl rfl rfl rfl rfl rfl rfl ⟨⟨rfl, rfl⟩, rfl⟩ (fun _ => rfl) (fun _ => rfl) ?_
  rintro ⟨v2, bs⟩ ⟨hI4, hS2⟩; dsimp only at hI4 hS2 ⊢
  have hc2 := hc.kw hI4 hc.hlb hc.hlbl
  refine G9 rfl (Ck [0, 1, 2] (aB (c := KW c v2 c.labels) hc2.hl hc2.hll (n := 2) (by omega) (by omega)) rfl rfl rfl rfl rfl rfl rfl ⟨⟨rfl, rfl⟩, rfl⟩ ?_)
  rintro _ ⟨q3, rfl, _, _⟩
  refine G9 rfl (If rfl (fun h => ?_) (fun h => ?_)); {
  refine G9 rfl ?_
  refine Cx' [0, 1, 2] (fun a => mkQ c.l c.fs c.tn c.me a.1.vars c.labels a.1.lf a.1.mn a.1.ct 3 3) (ih1 hk1 (KW c v2 c.labels) V (deep + 1) hc2 hI4 p3 (by show c.labels.length + (k - 1) ≤ 8; omega)) rfl rfl rfl rfl rfl rfl rfl ⟨⟨rfl, rfl⟩, rfl⟩ (fun _ => rfl) (fun _ => rfl) ?_
  rintro ⟨v3, es⟩ ⟨hI5, hS3⟩; dsimp only at hI5 hS3 ⊢
  refine G9 rfl (Dn (v3, _, _, ss ++ [ifS e bs es]) ⟨l1 _, ?_, hI5, one (mQ he hS2 hS3) (by omega)⟩ ⟨⟨_, _, rfl, rfl⟩, rfl, rfl⟩)
  dsimp only; rw [List.map_append, List.map_singleton, ifS, be]; rfl}; {
  refine G9 rfl ?_
  refine Dn (v2, _, _, ss ++ [ifS e bs []]) ⟨l1 _, ?_, hI4, one (mQ he hS2 SGs.nil) (by omega)⟩ ⟨⟨_, _, rfl, rfl⟩, rfl, rfl⟩
  dsimp only; rw [List.map_append, List.map_singleton, ifS, be]; rfl}}
  refine Gs (T := T) 1000 rfl ?_
  refine If rfl (fun h => ?_) (fun h => ?_); {
  have h8 : v.mn < 8 := by have := of_decide_eq_true (Bool.and_eq_true_iff.1 h).2; omega
  have hk1 : 1 ≤ k := by have := of_decide_eq_true (Bool.and_eq_true_iff.1 (Bool.and_eq_true_iff.1 h).1).2; omega
  obtain ⟨p1, p2, p3⟩ := hzp hk1
  refine G9 rfl ?_
  refine Cx' [0, 1, 2] (fun a => mkQ c.l c.fs c.tn c.me a.1.vars c.labels a.1.lf a.1.mn a.1.ct 2 2) (qy (ih1 hk1) (by omega) hc1 hI3 (by show v.vars.length + (v.lf - 1) + 1 ≤ V; omega) (by show v.ct + (v.lf - 1) + 1 ≤ 8; omega) h8 p3 (by show c.labels.length + (k - 1) + 1 ≤ 8; omega)) rfl rfl rfl rfl rfl rfl rfl ⟨⟨rfl, rfl⟩, rfl⟩ (fun _ => rfl) (fun _ => rfl) ?_
  rintro ⟨v2, bs⟩ ⟨hI4, hS2⟩; dsimp only at hI4 hS2 ⊢
  have hblen := hS2.len
  refine G (T := T) 142 rfl ?_
  refine Ap (T := T) rfl (iQ bs) rfl rfl rfl rfl rfl rfl ⟨rfl, rfl⟩ (by rw [List.length_map]; omega) (by rw [List.length_map]; omega) ?_
  refine G9 rfl ?_
  refine Dn (v2, _, _, ss ++ bs) ⟨by dsimp only; rw [List.length_map, List.length_append], ?_, hI4, (hS.append hS2).mono (pb_step (by omega))⟩ ⟨⟨_, _, rfl, rfl⟩, rfl, rfl⟩
  dsimp only; rw [List.map_append]}
  refine Gs (T := T) 1000 rfl ?_
  refine If rfl (fun h => ?_) (fun h => ?_); {
  have hk1 : 1 ≤ k := by have := of_decide_eq_true (Bool.and_eq_true_iff.1 h).2; omega
  obtain ⟨p1, p2, p3⟩ := hzp hk1
  refine G9 rfl ?_
  refine Cx' [0, 1, 2] (fun a => mkQ c.l c.fs c.tn c.me a.1.vars c.labels a.1.lf a.1.mn a.1.ct 2 2) (pw (ih1 hk1) (by omega) hc1 hI3 (by show v.ct + (v.lf - 1) + 1 ≤ 8; omega) p3 (by show c.labels.length + (k - 1) + 1 ≤ 8; omega)) rfl rfl rfl rfl rfl rfl rfl ⟨⟨rfl, rfl⟩, rfl⟩ (fun _ => rfl) (fun _ => rfl) ?_
  rintro ⟨v2, s⟩ ⟨hI4, hS2⟩; dsimp only at hI4 hS2 ⊢
  refine G9 rfl (Dn (v2, _, _, ss ++ [s]) ⟨l1 _, ?_, hI4, one hS2 (by omega)⟩ ⟨⟨_, _, rfl, rfl⟩, rfl, rfl⟩)
  dsimp only; rw [List.map_append]; rfl}
  refine Gs (T := T) 1000 rfl ?_
  refine If rfl (fun h => ?_) (fun h => ?_); {
  have hk1 : 1 ≤ k := by have := of_decide_eq_true (Bool.and_eq_true_iff.1 h).2; omega
  obtain ⟨p1, p2, p3⟩ := hzp hk1
  have sz0 : PB k = 4 * ZB (k - 1) + 12000 := p1
  refine G9 rfl (Ck [0, 1, 2] (b7 3 (by omega) _ hc1) rfl rfl rfl rfl rfl rfl rfl ⟨⟨rfl, rfl⟩, rfl⟩ ?_)
  rintro _ ⟨e, rfl, he⟩
  refine G9 rfl (Cq (bN (n := 3) (by omega) (by omega)) rfl rfl rfl rfl rfl ⟨rfl, rfl⟩ ?_)
  refine G9 rfl (Cq (bO ⟨#[38]⟩ e (fD 3)) rfl rfl rfl rfl rfl ⟨rfl, rfl⟩ ?_)
  refine G9 rfl ?_
  have hsw : EG 514 (ka ⟨#[38]⟩ e (fD 3)) := (fQ (by decide) he (ig (by omega) (by omega))).mono (by omega)
  generalize ka ⟨#[38]⟩ e (fD 3) = sw at hsw ⊢
  refine Ck [0, 1, 2] (aB (c := KW c ⟨v.vars, v.lf - 1, v.mn, v.ct⟩ c.labels) hc1.hl hc1.hll (n := 3) (by omega) (by omega)) rfl rfl rfl rfl rfl rfl rfl ⟨⟨rfl, rfl⟩, rfl⟩ ?_
  rintro _ ⟨q3, rfl, q31, q32⟩
  refine G (T := T) 100030 rfl ?_
  refine (Nrh 4 10 56 1 rfl rfl rfl rfl rfl).c ?_
  refine G9 rfl ?_
  refine Lq [0, 1, 5, 6, 7, 13, 14] (fun (q : Nat × KVm × Nat × List (List D) × List (List Sm)) r => (15, xi (q.1 : Nat)) :: r) (fun q => mkQ c.l c.fs c.tn c.me q.2.1.vars c.labels q.2.1.lf q.2.1.mn q.2.1.ct 1 1 ++ [⟨3, 1, .row ss.length (ss.map smD) 71 11⟩, ⟨4, 0, .cells [.d (.c (.int .i64 9)), .d (.c (.string eS)), .d (.c (.int .i64 0)), .d (.c (.string eS)), .d (.c (.int .i64 0)), .z, .d (.c (.int .u16 0)), .d (.s [exD sw]), .z, .z, .l 5 1 1 0 q.2.2.1 q.2.2.1] 71⟩, ⟨5, 1, .row q.2.2.1 q.2.2.2.1 56 1⟩]) 6 (fun q => (q.1 : Int) ≤ 1 + q3 ∧ q.2.2.1 = q.2.2.2.2.length ∧ q.2.2.2.1 = q.2.2.2.2.map blD ∧ KI V q.2.1 ∧ SGc (q.1 * (ZB (k - 1) + 1)) q.2.2.2.2) (fun q => 3 - q.1) (0, ⟨v.vars, v.lf - 1, v.mn, v.ct⟩, 0, [], []) rfl ⟨by dsimp only; omega, rfl, rfl, hI3, SGc.nil.mono (by omega)⟩ ?_
  rintro ⟨j, v2, n2, R2, cs⟩ ⟨hj, hn9, hR9, hI4, hC⟩; dsimp only at hj hn9 hR9 hI4 hC ⊢; subst hn9 hR9
  have hc2 := hc.kw hI4 hc.hlb hc.hlbl
  have hcl2 : cs.length ≤ 3 * (ZB (k - 1) + 1) := by
    have := Sm.clen_le cs
    have := hC.s
    have := Nat.mul_le_mul_right (ZB (k - 1) + 1) (show j ≤ 3 by omega)
    omega
  refine G9 rfl (If rfl (fun h => ?_) (fun h => ?_)); {
  have hj1 := of_decide_eq_true h
  refine G9 rfl ?_
  refine Cx' [0, 1, 2] (fun a => mkQ c.l c.fs c.tn c.me a.1.vars c.labels a.1.lf a.1.mn a.1.ct 2 2) (ih1 hk1 (KW c v2 c.labels) V (deep + 1) hc2 hI4 p3 (by show c.labels.length + (k - 1) ≤ 8; omega)) rfl rfl rfl rfl rfl rfl rfl ⟨⟨rfl, rfl⟩, rfl⟩ (fun _ => rfl) (fun _ => rfl) ?_
  rintro ⟨v3, bs⟩ ⟨hI5, hS3⟩; dsimp only at hI5 hS3 ⊢
  refine G9 rfl ?_
  refine Nq (j + 1, v3, _, _, cs ++ [bs]) ⟨by dsimp only; omega, ?_, ?_, hI5, (hC.snoc hS3).mono (by rw [Nat.add_mul]; omega)⟩ (by show 3 - (j + 1) < 3 - j; omega) ⟨⟨_, _, rfl, rfl⟩, rfl, rfl⟩; {
  dsimp only; rw [List.length_append]; rfl}; {
  dsimp only; rw [List.map_append]; rfl}}; {
  have hj3 : j ≤ 3 := by omega
  refine G9 rfl ?_
  refine Cx' [0, 1, 2] (fun a => mkQ c.l c.fs c.tn c.me a.1.vars c.labels a.1.lf a.1.mn a.1.ct 2 2) (ih1 hk1 (KW c v2 c.labels) V (deep + 1) hc2 hI4 p3 (by show c.labels.length + (k - 1) ≤ 8; omega)) rfl rfl rfl rfl rfl rfl rfl ⟨⟨rfl, rfl⟩, rfl⟩ (fun _ => rfl) (fun _ => rfl) ?_
  rintro ⟨v3, es⟩ ⟨hI5, hS3⟩; dsimp only at hI5 hS3 ⊢
  refine G (T := T) 192 rfl ?_
  refine Zr 5 rfl ?_
  refine G9 rfl (Dn (v3, _, _, ss ++ [.mk 9 eS ty4z 0 [sw] [] es cs]) ⟨l1 _, ?_, hI5, one (sg_switch hsw hS3 hC) (po sz0 hj3 (by omega))⟩ ⟨⟨_, _, rfl, rfl⟩, rfl, rfl⟩)
  dsimp only; rw [List.map_append, List.map_singleton, be]; rfl}}
  have happ : ∀ s : Sm, ss.map smD ++ [smD s] = (ss ++ [s]).map smD := fun s => by rw [List.map_append]; rfl
  let HP : XH := mkQ c.l c.fs c.tn c.me v.vars c.labels (v.lf - 1) v.mn v.ct 1 1 ++ [⟨3, 1, .row ss.length (ss.map smD) 71 11⟩]
  refine G (T := T) 100036 rfl ?_
  refine Cu [0, 1, 5, 6, 7, 8] (fun (_ : Unit) r => (195, xb (decide (kk = 11) && decide ((c.me : Int) + 1 < ((c.fs.map fuD).length : Int)))) :: r) (fun _ => HP) 4 (fun _ => True) rfl ?_ ?_; {
  refine G (T := T) 199 rfl ?_
  refine Sp 198 rfl (fun h => ?_) (fun h => ?_); {
  refine G9 rfl ?_
  rw [h, Bool.true_and]
  exact Dn () trivial}; {
  refine G9 rfl ?_
  rw [h, Bool.false_and]
  exact Dn () trivial}}
  rintro _ -
  refine If rfl (fun h => ?_) (fun h => ?_); {
  have h9 := (Bool.and_eq_true_iff.1 h).2
  have hlen := of_decide_eq_true h9
  have hlen2 := hlen
  rw [List.length_map] at hlen2
  refine G (T := T) 100037 rfl ?_
  refine Ods (T := T) [0, 1, 2, 3, 4, 5, 6, 7, 8, 9, 10, 11, 12, 13, 14, 15, 16, 17, 18, 19, 20, 25, 21, 22, 23, 24, 26] rfl ?_
  refine G9 rfl ?_
  refine Ck [0, 1, 2] (aB (c := KW c ⟨v.vars, v.lf - 1, v.mn, v.ct⟩ c.labels) hc1.hl hc1.hll (n := ((c.fs.map fuD).length : Int) - (c.me : Int) - 1) (by omega) (by rw [List.length_map]; omega)) rfl rfl rfl rfl rfl rfl rfl ⟨⟨rfl, rfl⟩, rfl⟩ ?_
  rintro _ ⟨q, rfl, q1, q2⟩
  rw [List.length_map] at q2
  obtain ⟨j, rfl⟩ := Int.eq_ofNat_of_zero_le q1
  obtain ⟨f, hf9⟩ := ai (l := c.fs) (j := c.me + 1 + j) (by omega)
  have hF := hc.hf f (List.mem_of_getElem? hf9)
  refine G (T := T) 234 rfl ?_
  refine Ix (T := T) (c.me + 1 + j) (ab hf9) rfl rfl rfl rfl ⟨rfl, rfl⟩ (by push_cast; rfl) rfl ?_
  refine G9 rfl (Ck [0, 1, 2] (mk_call (d := 2) (b7 2 (by omega)) (by omega) hc1 hF) rfl rfl rfl rfl rfl rfl rfl ⟨⟨rfl, rfl⟩, rfl⟩ ?_)
  rintro _ ⟨e, rfl, he⟩
  refine G9 rfl (Dn (⟨v.vars, v.lf - 1, v.mn, v.ct⟩, _, _, ss ++ [.mk 14 eS ty4z 0 [e] [] [] []]) ⟨l1 _, ?_, hI3, one (sg_do he) (by omega)⟩ ⟨⟨_, _, rfl, rfl⟩, rfl, rfl⟩)
  exact happ (.mk 14 eS ty4z 0 [e] [] [] [])}
  refine Gs (T := T) 1000 rfl ?_
  refine If rfl (fun h => ?_) (fun h => ?_); {
  refine G9 rfl ?_
  refine Dn (⟨v.vars, v.lf - 1, v.mn, v.ct⟩, _, _, ss ++ [.mk 12 eS ty4z 0 [] [] [] []]) ⟨l1 _, ?_, hI3, one (sg_mark (.inl rfl)) (by omega)⟩ ⟨⟨_, _, rfl, rfl⟩, rfl, rfl⟩
  exact happ (.mk 12 eS ty4z 0 [] [] [] [])}
  refine G (T := T) 100041 rfl ?_
  refine Cu [0, 1, 5, 6, 7, 8] (fun (b : Bool) r => (258, xb b) :: r) (fun _ => HP) 4 (fun _ => True) rfl ?_ ?_; {
  refine G (T := T) 262 rfl ?_
  refine Sp 261 rfl (fun h => ?_) (fun h => ?_); {
  refine G9 rfl ?_
  refine Ck [0, 1, 2] (aB (c := KW c ⟨v.vars, v.lf - 1, v.mn, v.ct⟩ c.labels) hc1.hl hc1.hll (n := 3) (by omega) (by omega)) rfl rfl rfl rfl rfl rfl rfl ⟨⟨rfl, rfl⟩, rfl⟩ ?_
  rintro _ ⟨q, rfl, q1, q2⟩
  refine G9 rfl (Dn (decide (q = 0)) trivial)}; {
  refine G9 rfl ?_
  exact Dn false trivial}}
  rintro b13 -
  refine If rfl (fun h => ?_) (fun h => ?_); {
  refine G9 rfl ?_
  refine Ck [0, 1, 2] (b7 2 (by omega) _ hc1) rfl rfl rfl rfl rfl rfl rfl ⟨⟨rfl, rfl⟩, rfl⟩ ?_
  rintro _ ⟨e, rfl, he⟩
  refine G9 rfl (Ck [0, 1, 2] (mk_giving hc1) rfl rfl rfl rfl rfl rfl rfl ⟨⟨rfl, rfl⟩, rfl⟩ ?_)
  rintro _ ⟨s, rfl, hs⟩
  refine G9 rfl (Dn (⟨v.vars, v.lf - 1, v.mn, v.ct⟩, _, _, ss ++ [ifS e [s] []]) ⟨l1 _, ?_, hI3, one (mQ he (SGs.one hs) SGs.nil) (by omega)⟩ ⟨⟨_, _, rfl, rfl⟩, rfl, rfl⟩)
  exact happ (ifS e [s] [])}
  refine G (T := T) 100043 rfl ?_
  refine Cu [0, 1, 5, 6, 7, 8] (fun (b : Bool) r => (276, xb b) :: r) (fun _ => HP) 4 (fun _ => True) rfl ?_ ?_; {
  refine G (T := T) 280 rfl ?_
  refine Sp 279 rfl (fun h => ?_) (fun h => ?_); {
  refine G9 rfl ?_
  refine Ck [0, 1, 2] (aB (c := KW c ⟨v.vars, v.lf - 1, v.mn, v.ct⟩ c.labels) hc1.hl hc1.hll (n := 6) (by omega) (by omega)) rfl rfl rfl rfl rfl rfl rfl ⟨⟨rfl, rfl⟩, rfl⟩ ?_
  rintro _ ⟨q, rfl, q1, q2⟩
  refine G9 rfl (Dn (decide (q = 1)) trivial)}; {
  refine G9 rfl ?_
  exact Dn false trivial}}
  rintro b14 -
  refine If rfl (fun h => ?_) (fun h => ?_); {
  refine G9 rfl ?_
  refine Ck [0, 1, 2] (b7 2 (by omega) _ hc1) rfl rfl rfl rfl rfl rfl rfl ⟨⟨rfl, rfl⟩, rfl⟩ ?_
  rintro _ ⟨e, rfl, he⟩
  refine G9 rfl (Dn (⟨v.vars, v.lf - 1, v.mn, v.ct⟩, _, _, ss ++ [ifS e [.mk 13 eS ty4z 0 [] [] [] []] []]) ⟨l1 _, ?_, hI3, one (mQ he (SGs.one (sg_mark (.inr rfl))) SGs.nil) (by omega)⟩ ⟨⟨_, _, rfl, rfl⟩, rfl, rfl⟩)
  exact happ (ifS e [.mk 13 eS ty4z 0 [] [] [] []] [])}
  refine G9 rfl (Ck [0, 1, 2] (mR hc1) rfl rfl rfl rfl rfl rfl rfl ⟨⟨rfl, rfl⟩, rfl⟩ ?_)
  rintro _ ⟨s, rfl, hs⟩
  refine G9 rfl (Dn (⟨v.vars, v.lf - 1, v.mn, v.ct⟩, _, _, ss ++ [s]) ⟨l1 _, ?_, hI3, one hs (by omega)⟩ ⟨⟨_, _, rfl, rfl⟩, rfl, rfl⟩)
  exact happ s}
theorem mk_stmts : ∀ k, k ≤ 3 → lh pk k := by
  intro k
  induction k using Nat.strongRecOn with
  | _ k ih => exact fun hk c V deep hc hI hd hlab => mS true k ih hk c V deep hc hI hd hlab
end
end Go.Proofs.YticengaggjcppaaGreat.X
namespace Go.Proofs.YticengaggjcppaaGreat.K
open Go Go.RowKit Go.Proofs
theorem aR {s : ByteArray} (h : aI s = true) : s.size ≤ 24 := by
  simp only [aI, Bool.and_eq_true, decide_eq_true_eq] at h
  exact h.1.1.1.2
def tyW (k : Int) : Ty4 := .mk k eS 0 []
def tyA (n k : Int) : Ty4 := .mk 5 eS n [tyW k]
def tyN (s : ByteArray) : Ty4 := .mk 4 s 0 []
def TdG (t : Td) : Prop := rTd t = true ∧ t.ok 100
def GbG (t : Gb) : Prop := rGb t = true ∧ t.ok 100
def gS : ByteArray := ⟨#[83]⟩
def gU : ByteArray := ⟨#[85]⟩
def tdS : Td := ⟨gS, false, [⟨⟨#[97]⟩, tyW 1⟩, ⟨⟨#[98]⟩, tyW 2⟩, ⟨⟨#[99]⟩, tyW 3⟩, ⟨⟨#[100]⟩, tyA 4 2⟩]⟩
def tdU : Td := ⟨gU, true, [⟨⟨#[119]⟩, tyW 1⟩, ⟨⟨#[108]⟩, tyW 2⟩]⟩
def gbs0 : List Gb := [⟨⟨#[103, 48]⟩, tyW 1, -1, 16384, eS⟩, ⟨⟨#[103, 49]⟩, tyW 3, -1, 16386, eS⟩, ⟨⟨#[103, 50]⟩, tyW 2, -1, 16388, eS⟩, ⟨⟨#[97, 114, 114]⟩, tyA 8 1, -1, 16390, eS⟩, ⟨⟨#[98, 121, 116, 101, 115]⟩, tyA 16 2, -1, 16416, eS⟩]
def gbS : Gb := ⟨⟨#[103, 115]⟩, tyN gS, -1, 16448, eS⟩
def gbU : Gb := ⟨⟨#[103, 117]⟩, tyN gU, -1, 16464, eS⟩
def gbT (s : ByteArray) : Gb := ⟨⟨#[116, 97, 98]⟩, tyA 8 2, 0, 3584, s⟩
def gbW (s : ByteArray) : Gb := ⟨⟨#[119, 111, 114, 100, 115]⟩, tyA 4 1, 1, 256, s⟩
theorem fR {k : Int} (h : U63 k) : (tyW k).ok ∧ (tyW k).size ≤ 100 := ⟨⟨h, by decide, ⟨by omega, by omega⟩, trivial⟩, by simp [tyW, Ty4.size, Ty4.sizes]⟩
theorem lj {n k : Int} (h : U63 k) (hn : U63 n) : (tyA n k).ok ∧ (tyA n k).size ≤ 100 := ⟨⟨⟨by omega, by omega⟩, by decide, hn, ⟨h, by decide, ⟨by omega, by omega⟩, trivial⟩, trivial⟩, by simp [tyA, tyW, Ty4.size, Ty4.sizes]⟩
theorem tyN_ok {s : ByteArray} (h : s.size ≤ 1000000) : (tyN s).ok ∧ (tyN s).size ≤ 100 := ⟨⟨⟨by omega, by omega⟩, h, ⟨by omega, by omega⟩, trivial⟩, by simp [tyN, Ty4.size, Ty4.sizes]⟩
theorem GbG.of {nm s : ByteArray} {t : Ty4} {k n : Int} (h : rGb ⟨nm, t, k, n, s⟩ = true) (ht : t.ok ∧ t.size ≤ 100) (hn : 0 ≤ n ∧ n ≤ 65535) (hk : -1 ≤ k ∧ k ≤ 9223372036854775807) (hs : s.size ≤ 100) : GbG ⟨nm, t, k, n, s⟩ := by
  refine ⟨h, ?_, ht.1, ht.2, hk, hn, hs⟩
  simp only [rGb, Bool.and_eq_true] at h
  have := aR h.1.1; show nm.size ≤ _; omega
theorem tdS_G : TdG tdS := by
  refine ⟨by decide +kernel, by decide, by decide, fun p hp => ?_⟩
  simp only [tdS, List.mem_cons, List.not_mem_nil, or_false] at hp
  rcases hp with rfl | rfl | rfl | rfl
  {
  exact ⟨by show (1 : Nat) ≤ _; omega, fR ⟨by omega, by omega⟩⟩}; {
  exact ⟨by show (1 : Nat) ≤ _; omega, fR ⟨by omega, by omega⟩⟩}; {
  exact ⟨by show (1 : Nat) ≤ _; omega, fR ⟨by omega, by omega⟩⟩}; {
  exact ⟨by show (1 : Nat) ≤ _; omega, lj ⟨by omega, by omega⟩ ⟨by omega, by omega⟩⟩}
theorem tdU_G : TdG tdU := by
  refine ⟨by decide +kernel, by decide, by decide, fun p hp => ?_⟩
  simp only [tdU, List.mem_cons, List.not_mem_nil, or_false] at hp
  rcases hp with rfl | rfl
  {
  exact ⟨by show (1 : Nat) ≤ _; omega, fR ⟨by omega, by omega⟩⟩}; {
  exact ⟨by show (1 : Nat) ≤ _; omega, fR ⟨by omega, by omega⟩⟩}
theorem gbs0_G : ∀ x ∈ gbs0, GbG x := fun x hx => by
  simp only [gbs0, List.mem_cons, List.not_mem_nil, or_false] at hx
  rcases hx with rfl | rfl | rfl | rfl | rfl
  {
  exact GbG.of (by decide +kernel) (fR ⟨by omega, by omega⟩) (by omega) ⟨by omega, by omega⟩ (by decide)}; {
  exact GbG.of (by decide +kernel) (fR ⟨by omega, by omega⟩) (by omega) ⟨by omega, by omega⟩ (by decide)}; {
  exact GbG.of (by decide +kernel) (fR ⟨by omega, by omega⟩) (by omega) ⟨by omega, by omega⟩ (by decide)}; {
  exact GbG.of (by decide +kernel) (lj ⟨by omega, by omega⟩ ⟨by omega, by omega⟩) (by omega) ⟨by omega, by omega⟩ (by decide)}; {
  exact GbG.of (by decide +kernel) (lj ⟨by omega, by omega⟩ ⟨by omega, by omega⟩) (by omega) ⟨by omega, by omega⟩ (by decide)}
theorem gbS_G : GbG gbS := GbG.of (by decide +kernel) (tyN_ok (by decide)) (by omega) ⟨by omega, by omega⟩ (by decide)
theorem gbU_G : GbG gbU := GbG.of (by decide +kernel) (tyN_ok (by decide)) (by omega) ⟨by omega, by omega⟩ (by decide)
theorem gb_r {nm s : ByteArray} {t : Ty4} {k n : Int} (h : aI nm = true) (ht : rTy t = true) (h0 : 0 ≤ k) (h1 : k < 64) : rGb ⟨nm, t, k, n, s⟩ = true := by simp [rGb, h, ht, h0, h1]
theorem gbT_G {s : ByteArray} (h : s.size ≤ 100) : GbG (gbT s) := GbG.of (gb_r (by decide +kernel) (by decide +kernel) (by omega) (by omega)) (lj ⟨by omega, by omega⟩ ⟨by omega, by omega⟩) (by omega) ⟨by omega, by omega⟩ h
theorem gbW_G {s : ByteArray} (h : s.size ≤ 100) : GbG (gbW s) := GbG.of (gb_r (by decide +kernel) (by decide +kernel) (by omega) (by omega)) (lj ⟨by omega, by omega⟩ ⟨by omega, by omega⟩) (by omega) ⟨by omega, by omega⟩ h
def BG : Nat := 400000000
def FuG (f : Fu) : Prop := rFu f = true ∧ f.ok BG
theorem pg_G {ts : List Td} {gs : List Gb} {fs : List Fu} (h1 : ts.length ≤ 2) (h2 : gs.length ≤ 9) (h3 : fs.length ≤ 5) (ht : ∀ x ∈ ts, TdG x) (hg : ∀ x ∈ gs, GbG x) (hf : ∀ x ∈ fs, FuG x) : rPg ⟨ts, gs, fs⟩ = true ∧ Pg.ok BG ⟨ts, gs, fs⟩ := by
  refine ⟨?_, by unfold BG; show ts.length ≤ _; omega, by unfold BG; show gs.length ≤ _; omega, by unfold BG; show fs.length ≤ _; omega, fun x hx => (ht x hx).2.mono (by unfold BG; omega), fun x hx => (hg x hx).2.mono (by unfold BG; omega), fun x hx => (hf x hx).2⟩
  simp only [rPg, Bool.and_eq_true, List.all_eq_true]
  exact ⟨⟨fun x hx => (ht x hx).1, fun x hx => (hg x hx).1⟩, fun x hx => (hf x hx).1⟩
end Go.Proofs.YticengaggjcppaaGreat.K
namespace Go.Proofs.YticengaggjcppaaGreat.X
section
open Go Go.RowKit Go.Proofs K
variable {pk : Pk}
abbrev mkRx (a b c d : Nat) (l : List Int) (n : Nat) (R : List (List D)) (tn t3 : Nat) : XH := [⟨a, 0, .cells [.d (.s (l.map intD)), .w (atP l), .d (.c (.int .i64 (tn : Int))), .d (.c (.int .i64 0)), .w ndP, .l b 0 1 0 0 0, .d (.c (.int .i64 0)), .l c 0 1 0 0 0, .d (.c (.int .i64 0)), .d (.c (.int .i64 0)), .l d t3 10 0 n n] 91⟩,
  ⟨b, 0, .row 0 [] 9 1⟩, ⟨c, 0, .row 0 [] 9 1⟩, ⟨d, t3, .row n R 61 10⟩]
abbrev mkRn (a b c d : Nat) (l : List Int) (fs : List Fu) (tn t3 : Nat) : XH := mkRx a b c d l fs.length (fs.map fuD) tn t3
abbrev mkR (l : List Int) (fs : List Fu) (tn t3 : Nat) : XH := mkRn 0 1 2 3 l fs tn t3
theorem dE {l : List Int} {fs : List Fu} {tn : Nat} (h1 : ∀ n ∈ l, I64 n) (h2 : l.length ≤ 9223372036854775807) {n : Int} (hn : 0 < n) (hn2 : n ≤ 1000000) : XKp Tryz.prog pk 32 [pm, xi n] (mkR l fs tn 0) 4 (fun r => ∃ k : Int, r = xi k ∧ 0 ≤ k ∧ k < n) := by
  refine XM.en Tryz.func32 Tryz.ntmps32 (fun w0 own H V v0 hf => ?_)
  refine G (T := T) 100001 rfl ?_
  refine Op 0 1 rfl rfl ?_
  rintro _ ⟨a, ha, rfl⟩
  refine ⟨_, _, rfl, rfl, ?_⟩
  refine G9 rfl (If rfl (fun h => ?_) (fun h => ?_)); {
  refine G9 rfl ?_
  refine (SRto.wk 0 1 (atP l) rfl rfl rfl rfl ⟨a, ha, rfl⟩).e ?_
  exact Fm (T := T) id (xi 0) (mkR l fs tn 0) ⟨⟨0, rfl, Int.le_refl _, hn⟩, rfl⟩ rfl}; {
  have hlt := of_decide_eq_false h; rw [List.length_map] at hlt
  obtain ⟨y, hy⟩ := ai (l := l) (j := a) (by omega)
  refine G9 rfl (Ix (T := T) a (ab hy) rfl rfl rfl rfl ⟨rfl, rfl⟩ (by omega) rfl ?_)
  refine G9 rfl (Cq (nY hn hn2) rfl rfl rfl rfl rfl ⟨rfl, rfl⟩ ?_)
  refine G9 rfl ?_
  refine (SRto.wk 0 1 (atP l) rfl rfl rfl rfl ⟨a + 1, by omega, by push_cast; rfl⟩).e ?_
  have := nX (n := y) hn
  exact Fm (T := T) id (xi (modR y n)) (mkR l fs tn 0) ⟨⟨_, rfl, this.1, this.2⟩, rfl⟩ rfl}
def sig3 : List Ty4 := [.mk 1 eS 0 [], .mk 3 eS 0 [], .mk 2 eS 0 []]
def abc3 : List ByteArray := [⟨#[97]⟩, ⟨#[98]⟩, ⟨#[99]⟩]
theorem px {q : Int} (h0 : 0 ≤ q) (h1 : q < 3) : ∃ j k, q = ((j : Nat) : Int) ∧ sig3[j]? = some (.mk k eS 0 []) ∧ (k = 1 ∨ k = 2 ∨ k = 3) := by
  obtain ⟨j, rfl⟩ := Int.eq_ofNat_of_zero_le h0
  have : j = 0 ∨ j = 1 ∨ j = 2 := by omega
  rcases this with rfl | rfl | rfl
  {
  exact ⟨0, 1, rfl, rfl, .inl rfl⟩}; {
  exact ⟨1, 3, rfl, rfl, .inr (.inr rfl)⟩}; {
  exact ⟨2, 2, rfl, rfl, .inr (.inl rfl)⟩}
def PrG' (p : Par) : Prop := dk p.nm = true ∧ rTy p.ty = true ∧ p.ty.ok ∧ p.ty.size ≤ 8
theorem parP_G' : PrG' ⟨⟨#[112]⟩, .mk 6 eS 0 [.mk 4 ⟨#[83]⟩ 0 []]⟩ := ⟨by decide +kernel, by decide +kernel, ⟨⟨by omega, by omega⟩, by decide, ⟨by omega, by omega⟩, ⟨⟨by omega, by omega⟩, by decide, ⟨by omega, by omega⟩, trivial⟩, trivial⟩, by simp [Ty4.size, Ty4.sizes]⟩
theorem tyk_P {k : Int} {s : ByteArray} (hs : dk s = true) (h : k = 1 ∨ k = 2 ∨ k = 3) : PrG' ⟨s, .mk k eS 0 []⟩ := by
  obtain ⟨h1, h2, h3⟩ := tyk_G h
  exact ⟨hs, h1, h2, Nat.le_trans h3 (by omega)⟩
abbrev fuB (g : Nat) (nm : ByteArray) (ps : XC) (k : Int) : XB := ⟨g, 0, .cells [.d (.c (.string nm)), ps, .d (.c (.int .i64 k)), .d (.c (.string eS)), .d (.c (.int .i64 0)), .z, .z, .d (.c (.bool false)), .d (.c (.int .i64 0)), .d (.c (.int .u16 0))] 61⟩
abbrev fuB' (g : Nat) (nm : ByteArray) (ps : XC) (k : Int) (z : XC) : XB := ⟨g, 0, .cells [.d (.c (.string nm)), ps, .d (.c (.int .i64 k)), .d (.c (.string eS)), .d (.c (.int .i64 0)), z, .z, .d (.c (.bool false)), .d (.c (.int .i64 0)), .d (.c (.int .u16 0))] 61⟩
theorem paDs_snoc (l : List Par) (p : Par) : l.map paD ++ [paD p] = (l ++ [p]).map paD := by rw [List.map_append]; rfl
theorem n7 {l : List Int} {fs : List Fu} {tn : Nat} (h1 : ∀ n ∈ l, I64 n) (h2 : l.length ≤ 9223372036854775807) (nm : ByteArray) :
    XS' Tryz.prog pk 34 [pm, .a (.c (.p 4 0 0))] (mkR l fs tn 0 ++ [fuB 4 nm .z 7]) 5 (fun a : List Par × Int × Bool => (∀ p ∈ a.1, PrG' p) ∧ a.1.length ≤ 3 ∧ (a.2.1 = 1 ∨ a.2.1 = 2 ∨ a.2.1 = 3 ∨ a.2.1 = 7)) (fun _ => .t []) (fun a => mkR l fs tn 0 ++ [fuB' 4 nm (.d (.s (a.1.map paD))) a.2.1 (cond a.2.2 .z (.d (.s [])))]) := by
  refine XM.en Tryz.func34 Tryz.ntmps34 (fun w0 own H V v0 hf => ?_)
  refine G9 rfl (Ck [0, 1, 2, 3] (dE (fs := fs) (tn := tn) h1 h2 (n := 5) (by omega) (by omega)) rfl rfl rfl rfl rfl rfl rfl ⟨⟨rfl, rfl⟩, rfl⟩ ?_)
  rintro _ ⟨k0, rfl, k01, k02⟩
  refine G (T := T) 100002 rfl ?_
  refine (Nrh 4 1 85 5 rfl rfl rfl rfl rfl).c ?_
  refine Gs (T := T) 1000 rfl ?_
  refine Cf [0, 1, 4] (fun (q : Int × Nat × List (List D) × List Par) r => (5, xi q.1) :: r) (fun q => mkR l fs tn 0 ++ [fuB 4 nm (.l 5 1 5 0 q.2.1 q.2.1) 7, ⟨5, 1, .row q.2.1 q.2.2.1 85 5⟩]) 6 (fun q => 0 ≤ q.1 ∧ q.1 ≤ 4 ∧ q.2.1 = q.2.2.2.length ∧ q.2.2.1 = q.2.2.2.map paD ∧ (∀ p ∈ q.2.2.2, PrG' p) ∧ (q.2.2.2 = [] ∨ q.1 = 1 ∧ q.2.2.2.length = 1)) rfl ?_ ?_; {
  refine If rfl (fun h => ?_) (fun h => ?_); {
  refine G9 rfl ?_
  exact Dn (1, 0 + 1, _, [⟨⟨#[112]⟩, .mk 6 eS 0 [.mk 4 ⟨#[83]⟩ 0 []]⟩]) ⟨by dsimp only; omega, by dsimp only; omega, rfl, rfl, fun p hp => by rw [List.mem_singleton.1 hp]; exact parP_G', .inr ⟨rfl, rfl⟩⟩}; {
  refine G9 rfl ?_
  exact Dn (k0, 0, [], []) ⟨k01, by dsimp only; omega, rfl, rfl, fun p hp => (by cases hp), .inl rfl⟩}}
  rintro ⟨k, n, R, ps⟩ ⟨hk0, hk4, hn9, hR9, hG, hp1⟩; dsimp only at hk0 hk4 hn9 hR9 hG hp1 ⊢; subst hn9 hR9
  have hmod : 0 ≤ k.tmod 4 ∧ k.tmod 4 ≤ 3 := ⟨Int.tmod_nonneg 4 hk0, by have := Int.tmod_lt_of_pos k (show (0 : Int) < 4 by omega); omega⟩
  have hone : k = 1 → k.tmod 4 = 1 := fun h => by subst h; rfl
  have hbase : ps.length + (k.tmod 4).toNat ≤ 3 := by
    rcases hp1 with rfl | ⟨q1, q2⟩
    {
    simp only [List.length_nil]; omega}; {
    rw [q2, hone q1]; decide}
  refine G9 rfl (Lq [0, 1, 4, 5] (fun (q : Nat × Nat × List (List D) × List Par) r => (6, xi (q.1 : Nat)) :: r) (fun q => mkR l fs tn 0 ++ [fuB 4 nm (.l 5 1 5 0 q.2.1 q.2.1) 7, ⟨5, 1, .row q.2.1 q.2.2.1 85 5⟩]) 6 (fun q => (q.1 : Int) ≤ k.tmod 4 ∧ q.2.1 = q.2.2.2.length ∧ q.2.2.1 = q.2.2.2.map paD ∧ (∀ p ∈ q.2.2.2, PrG' p) ∧ q.2.2.2.length = ps.length + q.1) (fun q => 3 - q.1) (0, ps.length, ps.map paD, ps) rfl ⟨hmod.1, rfl, rfl, hG, rfl⟩ ?_)
  rintro ⟨i, n, R, qs⟩ ⟨hi, hn9, hR9, hG2, hl⟩; dsimp only at hi hn9 hR9 hG2 hl ⊢; subst hn9 hR9
  refine G9 rfl (If rfl (fun h => ?_) (fun h => ?_)); {
  have hi1 := of_decide_eq_true h
  obtain ⟨y, hy⟩ := ai (l := abc3) (j := i) (by show i < 3; omega)
  have hyl : dk y = true := by
    have : ∀ s ∈ abc3, dk s = true := by decide
    exact this y (List.mem_of_getElem? hy)
  refine G (T := T) 49 rfl ?_
  refine Ix (T := T) (rows := abc3.map a7) i (ab hy) rfl rfl rfl rfl ⟨rfl, rfl⟩ rfl rfl ?_
  refine G9 rfl (Ck [0, 1, 2, 3] (dE (fs := fs) (tn := tn) h1 h2 (n := 3) (by omega) (by omega)) rfl rfl rfl rfl rfl rfl rfl ⟨⟨rfl, rfl⟩, rfl⟩ ?_)
  rintro _ ⟨q, rfl, q1, q2⟩
  obtain ⟨j, tk, rfl, hj, htk⟩ := px q1 q2
  refine G (T := T) 54 rfl ?_
  refine Ix (T := T) (rows := sig3.map tyD) j (ab hj) rfl rfl rfl rfl ⟨rfl, rfl⟩ rfl rfl ?_
  refine G9 rfl ?_
  refine Nq (i + 1, _, _, qs ++ [⟨y, .mk tk eS 0 []⟩]) ⟨by dsimp only; omega, ?_, paDs_snoc qs ⟨y, .mk tk eS 0 []⟩, fun p hp => ?_, by dsimp only; rw [List.length_append, hl]; rfl⟩ (by show 3 - (i + 1) < 3 - i; omega) ⟨⟨_, _, rfl, rfl⟩, rfl, rfl⟩; {
  dsimp only; rw [List.length_append]; rfl}; {
  rcases List.mem_append.1 hp with hp | hp
  {
  exact hG2 p hp}; {
  rw [List.mem_singleton.1 hp]; exact tyk_P hyl htk}}}; {
  have hlen : qs.length ≤ 3 := by omega
  refine G (T := T) 100009 rfl ?_
  refine Zc 5 rfl ?_
  refine G9 rfl (Ck [0, 1, 2, 3] (dE (fs := fs) (tn := tn) h1 h2 (n := 4) (by omega) (by omega)) rfl rfl rfl rfl rfl rfl rfl ⟨⟨rfl, rfl⟩, rfl⟩ ?_)
  rintro _ ⟨r0, rfl, r01, r02⟩
  refine G9 rfl (If rfl (fun h => ?_) (fun h => ?_)); {
  have hr := of_decide_eq_true h
  obtain ⟨j, tk, rfl, hj, htk⟩ := px r01 hr
  refine G (T := T) 68 rfl ?_
  refine Ix (T := T) (rows := sig3.map tyD) j (ab hj) rfl rfl rfl rfl ⟨rfl, rfl⟩ rfl rfl ?_
  refine G9 rfl ?_
  exact Fm (T := T) id (.t []) (mkR l fs tn 0 ++ [fuB' 4 nm (.d (.s (qs.map paD))) tk (.d (.s []))]) ⟨(qs, tk, false), ⟨hG2, hlen, by dsimp only; omega⟩, rfl, rfl⟩ rfl}; {
  refine G9 rfl ?_
  exact Fm (T := T) id (.t []) (mkR l fs tn 0 ++ [fuB' 4 nm (.d (.s (qs.map paD))) 7 .z]) ⟨(qs, 7, true), ⟨hG2, hlen, by dsimp only; omega⟩, rfl, rfl⟩ rfl}}
end
section
open Go Go.RowKit Go.Proofs K
variable {pk : Pk}
def jD (tn : Nat) : List Td := if tn = 0 then [] else if tn = 1 then [tdS] else [tdS, tdU]
def dT (tn : Nat) : List Gb := gbs0 ++ (if tn = 0 then [] else if tn = 1 then [gbS] else [gbS, gbU])
theorem py (l : List Gb) (p : Gb) : l.map gbD ++ [gbD p] = (l ++ [p]).map gbD := by rw [List.map_append]; rfl
theorem setR_byt {bs : List UInt8} {j : Nat} {k : Int} (hj : j < bs.length) (h0 : 0 ≤ k) (h1 : k < 256) : dS (fM bs) j 0 [.c (.int .u8 (IntKind.u8.wrap k))] = fM (bs.set j (UInt8.ofNat k.toNat)) := by
  obtain ⟨n, rfl⟩ := Int.eq_ofNat_of_zero_le h0
  have hn : n < 256 := by omega
  have e : ∀ m : Nat, m < 256 → IntKind.u8.wrap (m : Int) = ((UInt8.ofNat m).toNat : Int) := by decide +kernel
  rw [e n hn]
  simp only [dS, fM, List.getElem?_map, List.getElem?_eq_getElem hj, Option.map_some, List.map_set]
  rfl
theorem byt_one (bs : List UInt8) : ∀ r ∈ fM bs, r.length = 1 := fun r hr => by
  obtain ⟨b, _, rfl⟩ := List.mem_map.1 hr
  rfl
theorem pz (bs : List UInt8) (a n : Nat) : ((fM bs).drop a).take n = fM ((bs.drop a).take n) := by simp [fM, List.map_take, List.map_drop]
theorem zero5 (z : Value) (hz : Sl Tryz.prog 136 5 1 1 z) (H : Hp) : rdL H [.c (.int .u8 0)] z.cells.toList := by
  obtain ⟨i, hi, hz1, _⟩ := hz.ex
  obtain ⟨inf, zv, hi2, hz2, hc⟩ := eh (BT.all_get T.ok (i := 5) (v := .i .u8) rfl)
  rw [hi2] at hi; cases hi
  rw [hz2] at hz1; cases hz1
  have h9 := hc (fun _ _ => none) H
  revert h9
  generalize z.cells.toList = us
  intro h9
  match us, h9 with
  | [u], h9 => exact ⟨by have h8 : XC.rel (fun _ _ => none) H (.d (.c (.int .u8 0))) u := h9.1; simpa only [XC.rel] using h8, trivial⟩
theorem qz {l : List Int} {fs : List Fu} {tn : Nat} (h1 : ∀ n ∈ l, I64 n) (h2 : l.length ≤ 9223372036854775807) (ht : tn ≤ 2) :
    XKp Tryz.prog pk 33 [pm] (mkR l fs tn 0) 4 (fun r => ∃ s1 s2 : ByteArray, r = .a (.a [.d (.s ((jD tn).map tdD)), .d (.s ((dT tn ++ [gbT s1, gbW s2]).map gbD)), .z]) ∧ s1.size ≤ 100 ∧ s2.size ≤ 100) := by
  refine XM.en Tryz.func33 Tryz.ntmps33 (fun w0 own H V v0 hf => ?_)
  refine G (T := T) 100002 rfl ?_
  refine (FzTo.bz 5 rfl).c ?_
  refine G (T := T) 100003 rfl ?_
  refine (FzTo.bz 6 rfl).c ?_
  refine G (T := T) 26 rfl ?_
  refine Br (T := T) rfl rfl rfl rfl rfl ⟨rfl, rfl⟩ ?_
  refine G (T := T) 100005 rfl ?_
  refine (Nrh 7 0 87 3 rfl rfl rfl rfl rfl).c ?_
  change (MS.c _ _ ⟨_, _, 10⟩).ok _
  let PB9 : Nat → List Td → Nat → List Gb → XH := fun n ts m gs => mkR l fs tn 0 ++ [⟨7, 0, .cells [.l 9 1 3 0 n n, .l 8 1 8 0 m m, .z] 29⟩, ⟨9, 1, .row n (ts.map tdD) 87 3⟩, ⟨8, 1, .row m (gs.map gbD) 63 8⟩, ⟨4, 0, .cells [.z, .z, .z] 29⟩]
  refine G9 rfl (Cf [0, 2, 3, 4, 5] (fun (q : List Td × List Gb) r => r) (fun q => PB9 q.1.length q.1 q.2.length q.2) 10 (fun q => q.1 = (if tn = 0 then [] else [tdS]) ∧ q.2 = gbs0 ++ (if tn = 0 then [] else [gbS])) rfl ?_ ?_); {
  refine If rfl (fun h => ?_) (fun h => ?_); {
  have h9 : tn ≠ 0 := by have := of_decide_eq_true h; omega
  refine G9 rfl (Dn ([tdS], gbs0 ++ [gbS]) ⟨(if_neg h9).symm, by rw [if_neg h9]⟩)}; {
  have h9 : tn = 0 := by have := of_decide_eq_false h; omega
  refine G9 rfl ?_
  exact Dn ([], gbs0) ⟨(if_pos h9).symm, by rw [if_pos h9]; rfl⟩}}
  rintro ⟨ts, gs⟩ ⟨e1, e2⟩; dsimp only at e1 e2 ⊢
  have htl : ts.length ≤ 1 := by rw [e1]; split <;> decide
  have hgl : gs.length ≤ 6 := by rw [e2]; split <;> decide
  refine G9 rfl (Cf [0, 2, 3, 4, 5] (fun (q : Nat × List (List D) × Nat × List (List D)) r => r) (fun q => mkR l fs tn 0 ++ [⟨7, 0, .cells [.l 9 1 3 0 q.1 q.1, .l 8 1 8 0 q.2.2.1 q.2.2.1, .z] 29⟩, ⟨9, 1, .row q.1 q.2.1 87 3⟩, ⟨8, 1, .row q.2.2.1 q.2.2.2 63 8⟩, ⟨4, 0, .cells [.z, .z, .z] 29⟩]) 10 (fun q => q.1 = (jD tn).length ∧ q.2.1 = (jD tn).map tdD ∧ q.2.2.1 = (dT tn).length ∧ q.2.2.2 = (dT tn).map gbD) rfl ?_ ?_); {
  refine If rfl (fun h => ?_) (fun h => ?_); {
  have h9 : tn = 2 := by have := of_decide_eq_true h; omega
  subst h9
  subst e1 e2
  refine G9 rfl ?_
  refine Dn (_, _, _, _) ⟨?_, ?_, ?_, ?_⟩ ⟨⟨_, _, rfl, rfl⟩, rfl, rfl⟩ <;> rfl}
  {
  have h9 : tn ≤ 1 := by have := of_decide_eq_false h; omega
  refine G9 rfl (Dn (_, _, _, _) ⟨?_, ?_, ?_, ?_⟩ ⟨⟨_, _, rfl, rfl⟩, rfl, rfl⟩)
  all_goals (subst e1 e2; have : tn = 0 ∨ tn = 1 := (by omega); rcases this with rfl | rfl <;> rfl)}}
  rintro ⟨n, R, m, S⟩ ⟨hn, hR, hm, hS⟩; dsimp only at hn hR hm hS ⊢; subst hn hR hm hS
  have htl2 : (jD tn).length ≤ 2 := by unfold jD; (repeat' split) <;> decide
  have hgl2 : (dT tn).length ≤ 7 := by unfold dT; (repeat' split) <;> decide
  refine G (T := T) 81 rfl ?_
  refine Mz (T := T) 16 [.c (.int .u8 0)] rfl rfl rfl rfl ⟨rfl, rfl⟩ rfl (by decide) (by decide) zero5 ?_
  generalize hts : jD tn = ts9 at htl2 ⊢
  generalize hgs : dT tn = gs9 at hgl2 ⊢
  refine G9 rfl (Lq [0, 2, 3, 4, 5, 7] (fun (q : Nat × List UInt8) r => (8, xi (q.1 : Nat)) :: r) (fun q => mkR l fs tn 0 ++ [⟨7, 0, .cells [.l 9 1 3 0 ts9.length ts9.length, .l 8 1 8 0 gs9.length gs9.length, .z] 29⟩, ⟨9, 1, .row ts9.length (ts9.map tdD) 87 3⟩, ⟨8, 1, .row gs9.length (gs9.map gbD) 63 8⟩, ⟨4, 0, .cells [.z, .z, .z] 29⟩, ⟨10, 0, .row 16 (fM q.2) 5 1⟩]) 11 (fun q => q.1 ≤ 16 ∧ q.2.length = 16) (fun q => 16 - q.1) (0, List.replicate 16 0) rfl ⟨by decide, rfl⟩ ?_)
  rintro ⟨j, bs⟩ ⟨hj, hb⟩; dsimp only at hj hb ⊢
  refine G9 rfl (If rfl (fun h => ?_) (fun h => ?_)); {
  have hj1 := of_decide_eq_true h
  obtain ⟨y, hy⟩ := ai (l := bs) (j := j) (by omega)
  refine G9 rfl (Ck [0, 1, 2, 3] (dE (fs := fs) (tn := tn) h1 h2 (n := 256) (by omega) (by omega)) rfl rfl rfl rfl rfl rfl rfl ⟨⟨rfl, rfl⟩, rfl⟩ ?_)
  rintro _ ⟨q, rfl, q1, q2⟩
  refine G (T := T) 91 rfl ?_
  refine Iq (T := T) j rfl rfl rfl rfl rfl ⟨rfl, rfl⟩ rfl (by omega) rfl ?_
  refine Sr (T := T) (rows := fM bs) (ab hy) rfl rfl rfl rfl rfl rfl rfl ⟨rfl, rfl⟩ rfl rfl ?_
  rw [setR_byt (by omega) q1 q2]
  refine G9 rfl ?_
  exact Nq (j + 1, bs.set j (UInt8.ofNat q.toNat)) ⟨by dsimp only; omega, by dsimp only; rw [List.length_set]; exact hb⟩ (by show 16 - (j + 1) < 16 - j; omega)}; {
  have hbl : (fM bs).length = 16 := by rw [fM, List.length_map]; exact hb
  refine G (T := T) 100017 rfl ?_
  refine Zc 10 rfl ?_
  refine G (T := T) 98 rfl ?_
  refine Sd (T := T) 0 8 rfl ⟨_, _, rfl, rfl⟩ rfl rfl rfl ⟨rfl, rfl⟩ rfl rfl (by decide) (by rw [hbl]; decide) (byt_one bs) ?_
  refine Cd (T := T) ((bs.drop 0).take 8) (pz bs 0 8) rfl rfl rfl rfl rfl ⟨rfl, rfl⟩ ?_
  refine G (T := T) 110 rfl ?_
  refine Sd (T := T) (ri := none) 8 16 ⟨_, _, rfl, rfl⟩ rfl rfl rfl rfl ⟨rfl, rfl⟩ rfl (by rw [hbl]; rfl) (by decide) (by rw [hbl]; decide) (byt_one bs) ?_
  refine Cd (T := T) ((bs.drop 8).take 8) (pz bs 8 8) rfl rfl rfl rfl rfl ⟨rfl, rfl⟩ ?_
  refine G (T := T) 100019 rfl ?_
  refine Zc 9 rfl ?_
  refine Zc 8 rfl ?_
  refine G9 rfl (Fm (T := T) id (.a (.a [.d (.s (ts9.map tdD)), .d (.s ((gs9.map gbD ++ [gbD (gbT ⟨((bs.drop 0).take 8).toArray⟩)]) ++ [gbD (gbW ⟨((bs.drop 8).take 8).toArray⟩)])), .z])) (mkR l fs tn 0) ⟨⟨⟨((bs.drop 0).take 8).toArray⟩, ⟨((bs.drop 8).take 8).toArray⟩, ?_, ?_, ?_⟩, rfl⟩ rfl); {
  rw [py, py, List.append_assoc]; rfl}; {
  show ((bs.drop 0).take 8).length ≤ 100; rw [List.length_take]; omega}; {
  show ((bs.drop 8).take 8).length ≤ 100; rw [List.length_take]; omega}}
end
section
open Go Go.RowKit Go.Proofs K
variable {pk : Pk}
def FuM (f : Fu) : Prop := FR ⟨f.nm, f.ps, f.res, [], f.fl, f.x, f.y⟩ ∧ SGs 399999999 f.body
def intN : ByteArray := ⟨#[105, 110, 116, 101, 114, 114, 117, 112, 116]⟩
def intF (b : List Sm) : Fu := ⟨intN, [], .mk 7 eS 0 [], b, false, 0, 0⟩
def MP (p : Pg) : Prop := ∃ tn s1 s2 fs hd, tn ≤ 2 ∧ s1.size ≤ 100 ∧ s2.size ≤ 100 ∧ p = ⟨jD tn, dT tn ++ [gbT s1, gbW s2], fs ++ hd⟩ ∧ 1 ≤ fs.length ∧ fs.length ≤ 4 ∧ fs.map (·.nm) = funL.take fs.length ∧ (∀ f ∈ fs, FuM f) ∧ (hd = [] ∨ ∃ b, hd = [intF b] ∧ SGs 100 b)
abbrev jU (f : Fu) (b : List Sm) : Fu := ⟨f.nm, f.ps, f.res, b, f.fl, f.x, f.y⟩
theorem mT (l : List Fu) (p : Fu) : l.map fuD ++ [fuD p] = (l ++ [p]).map fuD := by rw [List.map_append]; rfl
theorem oa {s : ByteArray} {ps : List Par} {k : Int} (hs : funN s = true) (h1 : ∀ p ∈ ps, PrG' p) (h2 : ps.length ≤ 3) (h3 : k = 1 ∨ k = 2 ∨ k = 3 ∨ k = 7) : FR ⟨s, ps, .mk k eS 0 [], [], false, 0, 0⟩ := by
  refine ⟨hs, h1, h2, ⟨?_, ⟨⟨by omega, by omega⟩, by decide, ⟨by omega, by omega⟩, trivial⟩, by simp [Ty4.size, Ty4.sizes]⟩, rfl, rfl, rfl, rfl⟩
  rcases h3 with rfl | rfl | rfl | rfl
  {
  exact .inl rfl}; {
  exact .inl rfl}; {
  exact .inl rfl}; {
  exact .inr rfl}
theorem ZB3 : ZB 3 = 336580000 := by decide
theorem funL_get {i : Nat} (h : i < 4) : ∃ y, funL[i]? = some y ∧ funN y = true := by
  obtain ⟨y, hy⟩ := ai (l := funL) (j := i) h
  exact ⟨y, hy, List.any_eq_true.2 ⟨y, List.mem_of_getElem? hy, by simp⟩⟩
theorem XP.en {P : Program} {pk : Pk} {f : FuncId} {fn : Func} {c : Code} {args : List XV} {N : Nat} {Ψ : XV → Prop} (hf : P.funcs[f]? = some fn) (hN : fn.ntmps = N) (hΨ : ∀ r, Ψ r → pure r = true) (h : ∀ w0 own H V v0 hf, (MS.c c [] ⟨iL 0 args, [], 0⟩).ok (Cp P pk w0 own H V v0 hf N fn Ψ)) (hb : fn.body = some c := by rfl) (hn : (fn.name == "runtime.NumGoroutine") = false := by rfl) (hl : Nat.ble args.length N = true := by rfl) (ha : XVs.all (fun _ _ => false) args = true := by rfl) : XP P pk f args Ψ :=
  XP.enter hf hb hN hn hl ha hΨ h
theorem Fp {P : Program} {pk : Pk} {T : Tb P} {fn : Func} {N : Nat} {Ψ : XV → Prop} {s : XS} {w0 : World} {own : List Seg} {H : Hp} {V : Vn} {v0 : ∀ g t, V g t ≠ none → t = 0 ∧ g ∈ ([] : List Nat)} {hf : (∀ g ∈ ([] : List Nat), g < 0) ∧ pk.hy H} {e : Exit} {us : List XA} (r : XV) (hΨ : Ψ r) (hr : iM T s fn.results.toList = some us) (hc : co1 r (fL us) = r) (he : e = .ret ∨ e = .normal := by first | exact .inl rfl | exact .inr rfl) (hp : pure r = true := by rfl) :
    (MS.e e [] s).ok (Cp P pk w0 own H V v0 hf N fn Ψ) := ME.finp he hr hc hp hΨ
theorem mk_Made {l : List Int} (h1 : ∀ n ∈ l, I64 n) (h2 : l.length ≤ 9223372036854775807) : XP Tryz.prog pk 14 [xr (l.map intD)] (fun r => ∃ p, r = xd (pgD p) ∧ MP p) := by
  refine XP.en Tryz.func14 Tryz.ntmps14 (by rintro _ ⟨p, rfl, _⟩; rfl) (fun w0 own H V v0 hf => ?_)
  refine G (T := T) 100002 rfl ?_
  refine (Nrh 1 5 9 1 rfl rfl rfl rfl rfl).c ?_
  refine (Nrh 1 7 9 1 rfl rfl rfl rfl rfl).c ?_
  refine (Nrh 1 10 61 10 rfl rfl rfl rfl rfl).c ?_
  refine (SRto.wk 1 1 (atP l) rfl rfl rfl rfl ⟨0, Nat.zero_le _, rfl⟩).c ?_
  refine (SRto.wk 1 4 ndP rfl rfl rfl rfl ⟨_, rfl⟩).c ?_
  refine G9 rfl (Ck [1, 2, 3, 4] (dE (fs := []) (tn := 0) h1 h2 (n := 3) (by omega) (by omega)) rfl rfl rfl rfl rfl rfl rfl ⟨⟨rfl, rfl⟩, rfl⟩ ?_)
  rintro _ ⟨tq, rfl, tq1, tq2⟩
  obtain ⟨tn, rfl⟩ := Int.eq_ofNat_of_zero_le tq1
  refine G9 rfl (Ck [1, 2, 3, 4] (dE (fs := []) (tn := tn) h1 h2 (n := 4) (by omega) (by omega)) rfl rfl rfl rfl rfl rfl rfl ⟨⟨rfl, rfl⟩, rfl⟩ ?_)
  rintro _ ⟨mq, rfl, mq1, mq2⟩
  obtain ⟨many, rfl⟩ := Int.eq_ofNat_of_zero_le mq1
  refine G9 rfl (Ck [1, 2, 3, 4] (dE (fs := []) (tn := tn) h1 h2 (n := 3) (by omega) (by omega)) rfl rfl rfl rfl rfl rfl rfl ⟨⟨rfl, rfl⟩, rfl⟩ ?_)
  rintro _ ⟨hq, rfl, _, _⟩
  refine G9 rfl (Ck [1, 2, 3, 4] (qz (fs := []) (tn := tn) h1 h2 (by omega)) rfl rfl rfl rfl rfl rfl rfl ⟨⟨rfl, rfl⟩, rfl⟩ ?_)
  rintro _ ⟨s1, s2, rfl, hs1, hs2⟩
  generalize hts : (jD tn).map tdD = TS
  generalize hgs : (dT tn ++ [gbT s1, gbW s2]).map gbD = GS
  refine G (T := T) 100006 rfl ?_
  refine (Nrh 5 2 61 10 rfl rfl rfl rfl rfl).c ?_
  refine G9 rfl (Lq [2, 3, 4, 5, 6, 7] (fun (q : Nat × Nat × List (List D) × List Fu) r => (8, xi (q.1 : Nat)) :: r) (fun q => mkRx 1 2 3 4 l q.2.1 q.2.2.1 tn 1 ++ [⟨5, 0, .cells [.d (.s TS), .d (.s GS), .l 6 0 10 0 0 0] 29⟩, ⟨6, 0, .row 0 [] 61 10⟩, ⟨0, 0, .cells [.z, .z, .z] 29⟩]) 7 (fun q => q.1 ≤ 1 + many ∧ q.2.1 = q.2.2.2.length ∧ q.2.2.1 = q.2.2.2.map fuD ∧ q.2.2.2.length = q.1 ∧ q.2.2.2.map (·.nm) = funL.take q.1 ∧ ∀ f ∈ q.2.2.2, FR f) (fun q => 1 + many - q.1) (0, 0, [], []) rfl ⟨Nat.zero_le _, rfl, rfl, rfl, rfl, fun f hf => (by cases hf)⟩ ?_)
  rintro ⟨i, n, R, fs⟩ ⟨hi, hn9, hR9, hl, hnm, hF⟩; dsimp only at hi hn9 hR9 hl hnm hF ⊢; subst hn9 hR9
  refine G9 rfl (If rfl (fun h => ?_) (fun h => ?_))
  · have hi1 := of_decide_eq_true h
    obtain ⟨y, hy, hyf⟩ := funL_get (i := i) (by omega)
    refine G (T := T) 39 rfl ?_
    refine Ix (T := T) (rows := funL.map a7) i (ab hy) rfl rfl rfl rfl ⟨rfl, rfl⟩ rfl rfl ?_
    refine G9 rfl ?_
    have fin : ∀ {f : Fu}, f.nm = y → FR f → (i + 1 ≤ 1 + many ∧ fs.length + 1 = (fs ++ [f]).length ∧ fs.map fuD ++ [fuD f] = (fs ++ [f]).map fuD ∧ (fs ++ [f]).length = i + 1 ∧ (fs ++ [f]).map (·.nm) = funL.take (i + 1) ∧ ∀ g ∈ fs ++ [f], FR g) := fun {f} h1 h2 => ⟨by omega, by rw [List.length_append]; rfl, mT fs f, by rw [List.length_append, hl]; rfl, by rw [List.map_append, hnm, List.take_succ, hy, ← h1]; rfl, fun g hg => by
      rcases List.mem_append.1 hg with hg | hg
      · exact hF g hg
      · rw [List.mem_singleton.1 hg]; exact h2⟩
    refine If rfl (fun h => ?_) (fun h => ?_)
    · refine G9 rfl ?_
      refine Cx' [1, 2, 3, 4, 7] (fun a => mkRn 1 2 3 4 l fs tn 1 ++ [fuB' 7 y (.d (.s (a.1.map paD))) a.2.1 (cond a.2.2 .z (.d (.s [])))]) (n7 (fs := fs) (tn := tn) h1 h2 y) rfl rfl rfl rfl rfl rfl rfl ⟨⟨rfl, rfl⟩, rfl⟩ (by rintro ⟨_, _, b⟩; cases b <;> rfl) (fun _ => rfl) ?_
      rintro ⟨ps, k, b⟩ ⟨hp1, hp2, hk⟩; dsimp only at hp1 hp2 hk ⊢
      have hFR := oa hyf hp1 hp2 hk
      cases b
      all_goals
        refine G9 rfl ?_
        exact Nq (i + 1, _, _, fs ++ [⟨y, ps, .mk k eS 0 [], [], false, 0, 0⟩]) (fin rfl hFR) (by show 1 + many - (i + 1) < 1 + many - i; omega)
    · refine G9 rfl ?_
      exact Nq (i + 1, _, _, fs ++ [⟨y, [], .mk 7 eS 0 [], [], false, 0, 0⟩]) (fin rfl (oa hyf (fun _ h => by cases h) (Nat.zero_le _) (by omega))) (by show 1 + many - (i + 1) < 1 + many - i; omega)
  have hi2 : i = 1 + many := by have := of_decide_eq_false h; omega
  have hfl4 : fs.length ≤ 4 := by omega
  refine G (T := T) 100014 rfl ?_
  refine Zc 4 rfl ?_
  refine G9 rfl (Lq [2, 3, 4, 5, 6] (fun (q : Nat × Nat × KVm × Nat × List (List D) × List Fu) r => (10, xi (q.1 : Nat)) :: r) (fun q => mkQn 1 2 3 l fs tn q.2.1 q.2.2.1.vars [] q.2.2.1.lf q.2.2.1.mn q.2.2.1.ct 1 1 ++ [⟨5, 0, .cells [.d (.s TS), .d (.s GS), .l 6 1 10 0 q.2.2.2.1 q.2.2.2.1] 29⟩, ⟨6, 1, .row q.2.2.2.1 q.2.2.2.2.1 61 10⟩, ⟨0, 0, .cells [.z, .z, .z] 29⟩]) 7 (fun q => q.1 ≤ 1 + many ∧ q.2.2.2.1 = q.2.2.2.2.2.length ∧ q.2.2.2.2.1 = q.2.2.2.2.2.map fuD ∧ q.2.2.2.2.2.length = q.1 ∧ q.2.2.2.2.2.map (·.nm) = funL.take q.1 ∧ ∀ f ∈ q.2.2.2.2.2, FuM f) (fun q => 1 + many - q.1) (0, 0, ⟨[], 0, 0, 0⟩, 0, [], []) rfl ⟨Nat.zero_le _, rfl, rfl, rfl, rfl, fun f hf => (by cases hf)⟩ ?_)
  rintro ⟨i2, me, v, n, R, out⟩ ⟨hj, hn9, hR9, hol, honm, hoF⟩; dsimp only at hj hn9 hR9 hol honm hoF ⊢; subst hn9 hR9
  refine G9 rfl (If rfl (fun h => ?_) (fun h => ?_))
  · have hj1 := of_decide_eq_true h
    obtain ⟨f, hfi⟩ := ai (l := fs) (j := i2) (by omega)
    have hFR := hF f (List.mem_of_getElem? hfi)
    have hfy : funL[i2]? = some f.nm := by
      have e : (fs.map (·.nm))[i2]? = some f.nm := by rw [List.getElem?_map, hfi]; rfl
      rw [hnm, List.getElem?_take, if_pos (by omega)] at e
      exact e
    have hpl := hFR.pl
    refine G (T := T) 86 rfl ?_
    refine Ix (T := T) i2 (ab hfi) rfl rfl rfl rfl ⟨rfl, rfl⟩ rfl rfl ?_
    refine G (T := T) 100024 rfl ?_
    refine (SRto.wk 1 4 ndP rfl rfl rfl rfl ⟨_, rfl⟩).c ?_
    refine (Nrh 1 5 9 1 rfl rfl rfl rfl rfl).c ?_
    refine G9 rfl (Lq [2, 3, 4, 5, 6, 10, 11] (fun (q : Nat × Nat × List (List D) × List ByteArray) r => (12, xi (q.1 : Nat)) :: r) (fun q => mkQx 1 8 3 l fs tn i2 q.2.1 q.2.2.1 [] 8 0 0 1 1 ++ [⟨7, 0, .cells ((fuD f).map .d) 61⟩, ⟨5, 0, .cells [.d (.s TS), .d (.s GS), .l 6 1 10 0 out.length out.length] 29⟩, ⟨6, 1, .row out.length (out.map fuD) 61 10⟩, ⟨0, 0, .cells [.z, .z, .z] 29⟩]) 9 (fun q => q.1 ≤ f.ps.length ∧ q.2.1 = q.2.2.2.length ∧ q.2.2.1 = q.2.2.2.map a7 ∧ q.2.2.2.length ≤ q.1 ∧ ∀ s ∈ q.2.2.2, dk s = true) (fun q => f.ps.length - q.1) (0, 0, [], []) rfl ⟨Nat.zero_le _, rfl, rfl, Nat.zero_le _, fun s hs => (by cases hs)⟩ ?_)
    rintro ⟨k, n, R, vars⟩ ⟨hk, hn9, hR9, hvl, hvn⟩; dsimp only at hk hn9 hR9 hvl hvn ⊢; subst hn9 hR9
    refine G9 rfl (If rfl (fun h => ?_) (fun h => ?_))
    · have hkl := of_decide_eq_true h; rw [List.length_map] at hkl
      obtain ⟨p, hp⟩ := ai (l := f.ps) (j := k) (by omega)
      refine G (T := T) 98 rfl ?_
      refine Ix (T := T) k (ab hp) rfl rfl rfl rfl ⟨rfl, rfl⟩ rfl rfl ?_
      refine G9 rfl (If rfl (fun h => ?_) (fun h => ?_))
      · refine G (T := T) 111 rfl ?_
        refine Ix (T := T) k (ab hp) rfl rfl rfl rfl ⟨rfl, rfl⟩ rfl rfl ?_
        refine G9 rfl ?_
        refine Nq (k + 1, _, _, vars ++ [p.nm]) ⟨by dsimp only; omega, ?_, ?_, by dsimp only; rw [List.length_append]; simp only [List.length_cons, List.length_nil]; omega, fun s hs => ?_⟩ (by show _ - (k + 1) < _ - k; omega) ⟨⟨_, _, rfl, rfl⟩, rfl, rfl⟩
        · dsimp only; rw [List.length_append]; rfl
        · dsimp only; rw [List.map_append]; rfl
        · rcases List.mem_append.1 hs with hs | hs
          · exact hvn s hs
          · rw [List.mem_singleton.1 hs]; exact (hFR.ps p (List.mem_of_getElem? hp)).1
      · refine G9 rfl ?_
        exact Nq (k + 1, _, _, vars) ⟨by dsimp only; omega, rfl, rfl, by dsimp only; omega, hvn⟩ (by show _ - (k + 1) < _ - k; omega)
    have hc : (⟨l, fs, tn, i2, vars, [], 8, 0, 0⟩ : KC).ok := ⟨h1, h2, hvn, by show vars.length ≤ 1000; omega, by show i2 < fs.length; omega, by show fs.length ≤ 1000; omega, hF, by show tn ≤ 1000; omega, fun s hs => (by cases hs), by show 0 ≤ 1000; omega⟩
    have hI0 : KI (vars.length + 8) ⟨vars, 8, 0, 0⟩ := ⟨hvn, Nat.le_refl _, by show 0 ≤ 8; omega, by show 0 + 8 ≤ 8; omega, by omega⟩
    refine G9 rfl ?_
    refine Cy [1, 8, 3] (fun a => .a (.c (.l 9 1 11 0 a.2.length a.2.length))) (fun a => mkQn 1 8 3 l fs tn i2 a.1.vars [] a.1.lf a.1.mn a.1.ct 2 2 ++ [⟨9, 1, .row a.2.length (a.2.map smD) 71 11⟩]) (mS false 3 (fun j _ hj => mk_stmts j hj) (by omega) ⟨l, fs, tn, i2, vars, [], 8, 0, 0⟩ (vars.length + 8) 1 hc hI0 rfl (by show 0 + 3 ≤ 8; omega)) rfl rfl rfl rfl rfl rfl rfl ⟨⟨rfl, rfl⟩, rfl⟩ (fun _ => rfl) (fun _ => rfl) rfl ?_
    rintro ⟨v2, ss⟩ ⟨hI2, hS⟩; dsimp only at hI2 hS ⊢
    rw [ZB3] at hS
    have hslen := hS.len
    have fin : ∀ {b : List Sm}, SGs 399999999 b → (i2 + 1 ≤ 1 + many ∧ out.length + 1 = (out ++ [jU f b]).length ∧ out.map fuD ++ [fuD (jU f b)] = (out ++ [jU f b]).map fuD ∧ (out ++ [jU f b]).length = i2 + 1 ∧ (out ++ [jU f b]).map (·.nm) = funL.take (i2 + 1) ∧ ∀ g ∈ out ++ [jU f b], FuM g) := fun {b} hb => ⟨by omega, by rw [List.length_append]; rfl, mT _ _, by rw [List.length_append, hol]; rfl, by rw [List.map_append, honm, List.take_succ, hfy]; rfl, fun g hg => by
      rcases List.mem_append.1 hg with hg | hg
      · exact hoF g hg
      · rw [List.mem_singleton.1 hg]; exact ⟨⟨hFR.nm, hFR.ps, hFR.pl, hFR.res, rfl, hFR.body.2⟩, hb⟩⟩
    refine G9 rfl (If rfl (fun h => ?_) (fun h => ?_))
    · refine G9 rfl ?_
      refine Cq (aE ⟨#[103, 48]⟩) rfl rfl rfl rfl rfl ⟨rfl, rfl⟩ ?_
      refine G (T := T) 133 rfl ?_
      refine Zr 9 rfl ?_
      refine G9 rfl ?_
      have hS2 : SGs 399999999 (ss ++ [ouS 1 (aN ⟨#[103, 48]⟩)]) := (hS.snoc (sg_out (n := 1) (by omega) (by omega) (bU (s := ⟨#[103, 48]⟩) (by decide)))).mono (by omega)
      refine Nqn (fun g => bif Nat.beq g 2 then 8 else g) (i2 + 1, i2, v2, _, _, out ++ [jU f (ss ++ [ouS 1 (aN ⟨#[103, 48]⟩)])]) ⟨(fin hS2).1, ?_, ?_, (fin hS2).2.2.2⟩ (by show 1 + many - (i2 + 1) < 1 + many - i2; omega) ⟨⟨_, _, rfl, rfl⟩, rfl, rfl⟩
      · exact (fin hS2).2.1
      · rw [← (fin hS2).2.2.1]
        simp only [fuD, List.map_append]
        rfl
    · refine G (T := T) 133 rfl ?_
      refine Zr 9 rfl ?_
      refine G9 rfl ?_
      exact Nqn (fun g => bif Nat.beq g 2 then 8 else g) (i2 + 1, i2, v2, _, _, out ++ [jU f ss]) (fin (hS.mono (by omega))) (by show 1 + many - (i2 + 1) < 1 + many - i2; omega)
  have hol2 : out.length = 1 + many := by have := of_decide_eq_false h; omega
  have fin : ∀ {hd : List Fu}, (hd = [] ∨ ∃ b, hd = [intF b] ∧ SGs 100 b) → ∀ {r : XV}, r = xd [.s TS, .s GS, .s ((out ++ hd).map fuD)] → ∃ p, r = xd (pgD p) ∧ MP p := fun {hd} h1 {r} h2 => ⟨⟨jD tn, dT tn ++ [gbT s1, gbW s2], out ++ hd⟩, by rw [h2, ← hts, ← hgs]; rfl, tn, s1, s2, out, hd, by omega, hs1, hs2, rfl, by omega, by omega, by rw [honm, hol], hoF, h1⟩
  refine G9 rfl (If rfl (fun h => ?_) (fun h => ?_))
  · refine G9 rfl ?_
    refine Cq (aE ⟨#[103, 49]⟩) rfl rfl rfl rfl rfl ⟨rfl, rfl⟩ ?_
    refine G9 rfl (Ck [1, 2, 3] (aB (c := ⟨l, fs, tn, me, v.vars, [], v.lf, v.mn, v.ct⟩) h1 h2 (n := 3) (by omega) (by omega)) rfl rfl rfl rfl rfl rfl rfl ⟨⟨rfl, rfl⟩, rfl⟩ ?_)
    rintro _ ⟨q, rfl, q1, q2⟩
    refine G9 rfl (Cq (bN (n := 1 + q) (by omega) (by omega)) rfl rfl rfl rfl rfl ⟨rfl, rfl⟩ ?_)
    refine G9 rfl (Cq (bO ⟨#[43]⟩ (aN ⟨#[103, 49]⟩) (fD (1 + q))) rfl rfl rfl rfl rfl ⟨rfl, rfl⟩ ?_)
    refine G9 rfl (Cq (aE ⟨#[103, 49]⟩) rfl rfl rfl rfl rfl ⟨rfl, rfl⟩ ?_)
    refine G9 rfl (Cq (aE ⟨#[103, 49]⟩) rfl rfl rfl rfl rfl ⟨rfl, rfl⟩ ?_)
    refine G (T := T) 100037 rfl ?_
    refine Zc 6 rfl ?_
    refine G9 rfl ?_
    let b : List Sm := [.mk 2 eS ty4z 0 [aN ⟨#[103, 49]⟩, ka ⟨#[43]⟩ (aN ⟨#[103, 49]⟩) (fD (1 + q))] [] [] [], ouS 9 (aN ⟨#[103, 49]⟩)]
    have hb : SGs 100 b := (SGs.cons (sg_asg (A := 1) ⟨bU (by decide), rfl⟩ (fQ (by decide) (bU (by decide)) (ig (n := 1 + q) (by omega) (by omega)))) (SGs.one (sg_out (n := 9) (by omega) (by omega) (bU (by decide))))).mono (by omega)
    exact Fp (T := T) (xd [.s TS, .s GS, .s (out.map fuD ++ [fuD (intF b)])]) (fin (.inr ⟨b, rfl, hb⟩) (by rw [List.map_append]; rfl)) rfl rfl
  · refine G (T := T) 100037 rfl ?_
    refine Zc 6 rfl ?_
    refine G9 rfl (Fp (T := T) (xd [.s TS, .s GS, .s (out.map fuD)]) (fin (.inl rfl) (by rw [List.append_nil])) rfl rfl)
end
open Go Go.RowKit K
mutual
def evE : Ex → List Ex
  | .mk k nm n ks => .mk k nm n ks :: aF ks
def aF : List Ex → List Ex
  | [] => []
  | e :: r => evE e ++ aF r
end
mutual
def evS : Sm → List (Sm ⊕ Ex)
  | .mk k nm t n es b el cs => .inl (.mk k nm t n es b el cs) :: ((aF es).map .inr ++ (am b ++ (aP cs ++ am el)))
def am : List Sm → List (Sm ⊕ Ex)
  | [] => []
  | s :: r => evS s ++ am r
def aP : List (List Sm) → List (Sm ⊕ Ex)
  | [] => []
  | c :: r => am c ++ aP r
end
def exK : Ex → Int | .mk k _ _ _ => k
def aU : Ex → ByteArray | .mk _ nm _ _ => nm
def exNn : Ex → Int | .mk _ _ n _ => n
def smK : Sm → Int | .mk k _ _ _ _ _ _ _ => k
def fN : Sm → ByteArray | .mk _ nm _ _ _ _ _ _ => nm
def smNn : Sm → Int | .mk _ _ _ n _ _ _ _ => n
structure Mark where
  sort : Int
  kind : Int
  n : Int
  name : ByteArray
  deriving DecidableEq
def tyK : Ty4 → Int | .mk k _ _ _ => k
def bJ (f : Fu) : List Mark := f.ps.map (fun p => ⟨0, tyK p.ty, 0, eS⟩) ++ ⟨1, tyK f.res, 0, eS⟩ :: (am f.body).map fun
  | .inl s => ⟨2, smK s, smNn s, eS⟩
  | .inr e => ⟨3, exK e, exNn e, if exK e = 3 ∨ exK e = 12 ∨ exK e = 13 ∨ exK e = 15 then aU e else eS⟩
def eQ : List Mark → List Mark → Nat
  | [], _ => 0
  | m :: r, l => if m ∈ l then 1 + eQ r (l.erase m) else eQ r l
def simF (f g : Fu) : Int := ((2000 * eQ (bJ f) (bJ g) / ((bJ f).length + (bJ g).length) : Nat) : Int)
abbrev Rf := Bool × Nat
def al (f : Fu) : List ByteArray := f.ps.map (·.nm) ++ (am f.body).filterMap fun
  | .inl s => if smK s = 1 then some (fN s) else none
  | .inr _ => none
def ak (l : List ByteArray) (s : ByteArray) : Option Nat := l.findIdx? fun x => decide (x = s)
def au (p : Pg) (loc : List ByteArray) (e : Ex) : Option Rf :=
  if exK e = 14 then (ak (p.fs.map (·.nm)) (aU e)).map (true, ·)
  else if exK e = 2 then (if loc.any (fun s => decide (s = aU e)) then none else (ak (p.gs.map (·.nm)) (aU e)).map (false, ·))
  else none
def aJ (p : Pg) (f : Fu) : List Rf := (am f.body).filterMap fun
  | .inl _ => none
  | .inr e => au p (al f) e
mutual
def bh : Ty4 → Ty4 → Bool
  | .mk k nm n ts, .mk k' nm' n' ts' => decide (k = k' ∧ nm = nm' ∧ n = n') && cV ts ts'
def cV : List Ty4 → List Ty4 → Bool
  | [], [] => true
  | t :: r, t' :: r' => bh t t' && cV r r'
  | _, _ => false
end
section
variable (a c : Pg) (la lc : List ByteArray)
mutual
def d4 : Ex → Ex → Bool
  | .mk k nm n ks, .mk k' nm' n' ks' =>
    let x := (au a la (.mk k nm n ks)).isSome
    let y := (au c lc (.mk k' nm' n' ks')).isSome
    decide (k = k' ∧ n = n' ∧ x = y) && (x || decide (nm = nm')) && aW ks ks'
def aW : List Ex → List Ex → Bool
  | [], [] => true
  | t :: r, t' :: r' => d4 t t' && aW r r'
  | _, _ => false
end
mutual
def d5 : Sm → Sm → Bool
  | .mk k nm t n es b el cs, .mk k' nm' t' n' es' b' el' cs' => decide (k = k' ∧ nm = nm' ∧ n = n') && bh t t' && aW a c la lc es es' && aH b b' && aH el el' && a8 cs cs'
def aH : List Sm → List Sm → Bool
  | [], [] => true
  | t :: r, t' :: r' => d5 t t' && aH r r'
  | _, _ => false
def a8 : List (List Sm) → List (List Sm) → Bool
  | [], [] => true
  | t :: r, t' :: r' => aH t t' && a8 r r'
  | _, _ => false
end
end
def ij : List Par → List Par → Bool
  | [], [] => true
  | t :: r, t' :: r' => decide (t.nm = t'.nm) && bh t.ty t'.ty && ij r r'
  | _, _ => false
def cw (a c : Pg) (f g : Fu) : Bool := decide (f.fl = g.fl) && ij f.ps g.ps && bh f.res g.res && aH a c (al f) (al g) f.body g.body
structure Pr where
  a : Nat
  b : Nat
  why : Int
  deriving DecidableEq
structure Ms where
  fs : List Pr
  gs : List Pr
abbrev aj := Rf × Rf
def fS : List aj → List aj
  | [] => []
  | p :: r => if p ∈ fS r then fS r else p :: fS r
theorem dedup_mem {p : aj} : ∀ {l : List aj}, p ∈ fS l ↔ p ∈ l
  | [] => Iff.rfl
  | q :: r => by
    rw [fS]
    split; {
    rename_i h
    rw [dedup_mem, List.mem_cons]
    exact ⟨.inr, fun e => e.elim (fun e => e ▸ dedup_mem.1 h) id⟩}; {
    rw [List.mem_cons, List.mem_cons, dedup_mem]}
theorem cn : ∀ l : List aj, (fS l).Nodup
  | [] => List.nodup_nil
  | q :: r => by
    rw [fS]
    split; {
    exact cn r}; {
    rename_i h; exact List.nodup_cons.2 ⟨h, cn r⟩}
section
variable (a c : Pg)
def Ms.pa (m : Ms) (r : Rf) : Option Nat := ((if r.1 then m.fs else m.gs).find? fun p => p.a == r.2).map (·.b)
def Ms.pc (m : Ms) (r : Rf) : Option Nat := ((if r.1 then m.fs else m.gs).find? fun p => p.b == r.2).map (·.a)
def eR (p : Pg) (i : Nat) : Fu := p.fs.getD i ⟨eS, [], .mk 0 eS 0 [], [], false, 0, 0⟩
def iR (p : Pg) (i : Nat) : Gb := p.gs.getD i ⟨eS, .mk 0 eS 0 [], 0, 0, eS⟩
def aS (x y : Nat) : Bool := cw a c (eR a x) (eR c y)
def av (x y : Nat) : Int := simF (eR a x) (eR c y)
def aK (x y : Nat) : Bool := bh (iR a x).ty (iR c y).ty && decide (((iR a x).bank = -1) ↔ ((iR c y).bank = -1))
def aG (x : Nat) : List Rf := aJ a (eR a x)
def bR (m : Ms) (r : Rf) : Bool := (m.pa r).isNone
def co (m : Ms) (r : Rf) : Bool := (m.pc r).isNone
def ax (m : Ms) : List aj := fS (m.fs.flatMap fun p => if aS a c p.a p.b then (List.zip (aG a p.a) (aG c p.b)).filter fun (x, y) => bR m x && co m y && (x.1 || aK a c x.2 y.2) else [])
def ik (m : Ms) (x y : Nat) : Bool :=
  let l := List.zip (aG a x) (aG c y)
  l.all (fun (r, s) => (match m.pa r with | some n => n == s.2 | none => true) && (match m.pc s with | some n => n == r.2 | none => true)) &&
  l.all (fun (r, s) => l.all fun (r', s') => decide (r = r' ↔ s = s'))
def unA (m : Ms) (fn : Bool) : List Nat := (List.range (if fn then a.fs.length else a.gs.length)).filter fun k => bR m (fn, k)
def unC (m : Ms) (fn : Bool) : List Nat := (List.range (if fn then c.fs.length else c.gs.length)).filter fun k => co m (fn, k)
def cK (m : Ms) (fn : Bool) (ok : Nat → Nat → Bool) : List aj := (unA a m fn).flatMap fun x => ((unC c m fn).filter (ok x)).map fun y => ((fn, x), (fn, y))
def bj (x y : Nat) : Bool := !(eR a x).fl && !(eR c y).fl
def eT (m : Ms) (r s : Rf) : Bool := m.fs.all (fun p => decide (r ∈ aG a p.a) == decide (s ∈ aG c p.b)) && m.fs.any fun p => decide (r ∈ aG a p.a)
def dF (m : Ms) (x y : Nat) : Bool := m.fs.all (fun p => decide ((true, p.a) ∈ aG a x) == decide ((true, p.b) ∈ aG c y)) && m.fs.any fun p => decide ((true, p.a) ∈ aG a x)
def dG (m : Ms) : List aj :=
  let l := cK a c m true (bj a c)
  l.filter fun p => decide (600 ≤ av a c p.1.2 p.2.2) && !l.any fun o => decide (o ≠ p ∧ (o.1 = p.1 ∨ o.2 = p.2) ∧ av a c p.1.2 p.2.2 ≤ av a c o.1.2 o.2.2)
def ah (l : List aj) : List aj := l.filter fun p => decide ((l.map (·.1)).count p.1 ≤ 1 ∧ (l.map (·.2)).count p.2 ≤ 1)
def Ms.add (m : Ms) (why : Int) (p : aj) : Ms := if p.1.1 then { m with fs := m.fs ++ [⟨p.1.2, p.2.2, why⟩] } else { m with gs := m.gs ++ [⟨p.1.2, p.2.2, 5⟩] }
def ed (m : Ms) : List (List aj × Int) := [(ax a c m, 2), (cK a c m true (fun x y => bj a c x y && aS a c x y && ik a c m x y), 1), (cK a c m true (fun x y => eT a c m (true, x) (true, y)), 2), (cK a c m true (dF a c m), 3), (cK a c m false (fun x y => aK a c x y && eT a c m (false, x) (false, y)), 5), (dG a c m, 4)]
def bS (m : Ms) : Option Ms := ((ed a c m).map fun (l, w) => (ah l, w)).find? (fun (l, _) => !l.isEmpty) |>.map fun (l, w) => l.foldl (fun m p => m.add w p) m
def bA : Nat → Ms → Ms
  | 0, m => m
  | k + 1, m => match bS a c m with | some m' => bA k m' | none => m
def cI : Ms := [(⟨#[109, 97, 105, 110]⟩ : ByteArray), ⟨#[105, 110, 116, 101, 114, 114, 117, 112, 116]⟩].foldl (fun m s => match ak (a.fs.map (·.nm)) s, ak (c.fs.map (·.nm)) s with
  | some x, some y => m.add (if aS a c x y then 1 else 4) ((true, x), (true, y))
  | _, _ => m) ⟨[], []⟩
def insP (p : Pr) : List Pr → List Pr
  | [] => [p]
  | q :: r => if p.a ≤ q.a then p :: q :: r else q :: insP p r
def iS (l : List Pr) : List Pr := l.foldr insP []
def aX : List Pr × List Pr :=
  let m := bA a c (a.fs.length + a.gs.length + 1) (cI a c)
  (iS m.fs, iS m.gs)
end
def fnV (nm : ByteArray) (b : List Sm) : Fu := ⟨nm, [], .mk 7 eS 0 [], b, false, 0, 0⟩
def lm (nm : ByteArray) : Sm := .mk 14 eS (.mk 0 eS 0 []) 0 [.mk 14 nm 0 []] [] [] []
def outS : Sm := .mk 11 eS (.mk 0 eS 0 []) 1 [.mk 1 eS 1 []] [] [] []
def simpS (k : Int) : Sm := .mk k eS (.mk 0 eS 0 []) 0 [] [] [] []
abbrev mU : ByteArray := ⟨#[109, 97, 105, 110]⟩
abbrev nF : ByteArray := ⟨#[102]⟩
abbrev nG : ByteArray := ⟨#[103]⟩
abbrev nH : ByteArray := ⟨#[104]⟩
def exX1 : Pg := ⟨[], [], [fnV mU [lm nF, lm nG], fnV nF [outS], fnV nG [outS]]⟩
def exX2 : Pg := ⟨[], [], [fnV mU [lm nG, lm nF], fnV nF [outS], fnV nG [outS]]⟩
def exY1 : Pg := ⟨[], [], [fnV mU [], fnV nF [outS]]⟩
def exY2 : Pg := ⟨[], [], [fnV mU [simpS 12], fnV nH [outS]]⟩
def exZ1 : Pg := ⟨[], [], [fnV mU [lm nF], fnV nF [outS]]⟩
def exZ2 : Pg := ⟨[], [], [fnV mU [simpS 12, lm nH], fnV nH [simpS 13]]⟩
theorem ex_x : (aX exX1 exX2).1 = [⟨0, 0, 1⟩, ⟨1, 2, 2⟩, ⟨2, 1, 2⟩] := by decide +kernel
theorem ex_y : (aX exY1 exY2).1 = [⟨0, 0, 4⟩, ⟨1, 1, 1⟩] := by decide +kernel
theorem ex_z : (aX exZ1 exZ2).1 = [⟨0, 0, 4⟩, ⟨1, 1, 2⟩] := by decide +kernel
section
open Go Go.RowKit Go.Proofs K
variable {pk : Pk}
def eU (n : Int) : Bool := (decide (97 ≤ n) && decide (n ≤ 122)) || (decide (65 ≤ n) && decide (n ≤ 90))
theorem letter_eq (b : UInt8) : kn (b.toNat : Int) = eU (b.toNat : Int) := by
  have h : ∀ n : Nat, n < 256 → kn (n : Int) = eU (n : Int) := by decide +kernel
  exact h _ b.toNat_lt
theorem jE (n : Int) : XQ Tryz.prog pk 162 [xu8 n] (xb (jx n)) := by
  refine XQ.en Tryz.func162 Tryz.ntmps162 (fun w0 own H V v0 hf => ?_)
  refine Gs (T := T) 1000 rfl ?_
  exact Fe (T := T) rfl rfl
theorem lq (n : Int) : XQ Tryz.prog pk 161 [xu8 n] (xb (eU n)) := by
  refine XQ.en Tryz.func161 Tryz.ntmps161 (fun w0 own H V v0 hf => ?_)
  refine Gs (T := T) 1000 rfl ?_
  exact Fe (T := T) rfl rfl
theorem mV {l : List ByteArray} (hl : l.length ≤ 1000000) (s : ByteArray) : XQ Tryz.prog pk 96 [xs s, xr (l.map a7)] (xb (aA s l)) := by
  refine XQ.en Tryz.func96 Tryz.ntmps96 (fun w0 own H V v0 hf => ?_)
  refine G9 rfl (Lq [0, 1] (fun q r => (4, xb false) :: (5, xi (q : Nat)) :: r) (fun q => []) 0 (fun q => q ≤ l.length ∧ (l.take q).any (fun x => decide (x = s)) = false) (fun q => l.length - q) 0 rfl ⟨Nat.zero_le _, rfl⟩ ?_)
  rintro j ⟨hj, hI⟩
  refine G9 rfl (If rfl (fun h => ?_) (fun h => ?_)); {
  have hjl := of_decide_eq_true h; rw [List.length_map] at hjl
  obtain ⟨y, hy⟩ := ai (l := l) (j := j) (by omega)
  refine G9 rfl (Ix (T := T) j (ab hy) rfl rfl rfl rfl ⟨rfl, rfl⟩ rfl rfl ?_)
  refine G9 rfl (If rfl (fun h => ?_) (fun h => ?_)); {
  refine G9 rfl ?_
  exact Fe (T := T) rfl (congrArg xb (List.any_eq_true.2 ⟨y, List.mem_of_getElem? hy, h⟩).symm)}; {
  refine G9 rfl ?_
  exact Nq (j + 1) ⟨by omega, eo hI hy h⟩ (by show _ - (j + 1) < _ - j; omega)}}; {
  have hjl := of_decide_eq_false h; rw [List.length_map] at hjl
  refine G9 rfl ?_
  rw [List.take_of_length_le (by omega)] at hI
  exact Fe (T := T) rfl (congrArg xb hI.symm)}
theorem oc : XQ Tryz.prog pk 160 [] (xr (kws.map a7)) := by
  refine XQ.en Tryz.func160 Tryz.ntmps160 (fun w0 own H V v0 hf => ?_)
  refine G9 rfl (Fe (T := T) rfl rfl)
end
open Go.Proofs
structure Tk where
  k : Int
  s : ByteArray
  n : Int
  p : Nat
  deriving DecidableEq
def tkD (t : Tk) : List D := [.c (.int .i64 t.k), .c (.string t.s), .c (.int .i64 t.n), .c (.int .i64 (t.p : Nat))]
def sigL : List ByteArray := [⟨#[60, 61]⟩, ⟨#[62, 61]⟩, ⟨#[61, 61]⟩, ⟨#[33, 61]⟩, ⟨#[60, 60]⟩, ⟨#[62, 62]⟩, ⟨#[40]⟩, ⟨#[41]⟩, ⟨#[91]⟩, ⟨#[93]⟩, ⟨#[123]⟩, ⟨#[125]⟩, ⟨#[44]⟩, ⟨#[59]⟩, ⟨#[58]⟩, ⟨#[46]⟩, ⟨#[61]⟩, ⟨#[43]⟩, ⟨#[45]⟩, ⟨#[42]⟩, ⟨#[47]⟩, ⟨#[37]⟩, ⟨#[38]⟩, ⟨#[124]⟩, ⟨#[94]⟩, ⟨#[126]⟩, ⟨#[33]⟩, ⟨#[60]⟩, ⟨#[62]⟩]
def od (n : Int) : Bool := ((decide (n = 32) || decide (n = 9)) || decide (n = 10)) || decide (n = 13)
def sigP (s x : ByteArray) : Bool := decide (x.size ≤ s.size) && decide (s.extract 0 x.size = x)
def sigF (s : ByteArray) : ByteArray := (sigL.find? (sigP s)).getD eS
def byA (s : ByteArray) (i : Nat) : Int := ((s.data.getD i 0).toNat : Int)
def gO (s : ByteArray) (i : Nat) : Nat := fx (fun b => od (b.toNat : Int)) (s.data.toList.drop i) i
def bY (s : ByteArray) (i : Nat) : Nat := fx (fun b => partN (b.toNat : Int)) (s.data.toList.drop i) i
def tokF (s : ByteArray) (i : Nat) : Option Tk :=
  if jx (byA s i) then
    if decide (byA s i = 49) && decide (i + 1 < s.size) && (decide (byA s (i + 1) = 41) || decide (byA s (i + 1) = 44)) then some ⟨1, s.extract i (i + 1), 1, i⟩ else none
  else if eU (byA s i) then
    let w := s.extract i (bY s i)
    if bY s i - i ≤ 24 then some ⟨if aA w kws then 3 else 2, w, 0, i⟩ else none
  else
    let w := sigF (s.extract i s.size)
    if w = eS then none else some ⟨3, w, 0, i⟩
def gP (s : ByteArray) : Nat → Nat → Option (List Tk)
  | 0, _ => none
  | n + 1, i =>
    let j := gO s i
    if j = s.size then some [⟨0, eS, 0, j⟩] else match tokF s j with
      | some t => match gP s n (j + t.s.size) with
        | some l => some (t :: l)
        | none => none
      | none => none
section
variable (l : List Tk)
def isT (q : Nat) (s : ByteArray) : Bool := match l[q]? with | some t => decide (t.k = 3) && decide (t.s = s) | none => false
abbrev yLp : ByteArray := ⟨#[40]⟩
abbrev yRp : ByteArray := ⟨#[41]⟩
abbrev yLb : ByteArray := ⟨#[123]⟩
abbrev yRb : ByteArray := ⟨#[125]⟩
abbrev yCm : ByteArray := ⟨#[44]⟩
abbrev ySc : ByteArray := ⟨#[59]⟩
abbrev yOut : ByteArray := ⟨#[111, 117, 116]⟩
abbrev yPoll : ByteArray := ⟨#[112, 111, 108, 108]⟩
abbrev yHalt : ByteArray := ⟨#[104, 97, 108, 116]⟩
abbrev yFn : ByteArray := ⟨#[102, 110]⟩
def endT (q : Nat) : Bool := isT l q yRp || isT l q ySc
def numT (q : Nat) (m : Int) : Option Int := match l[q]? with | some t => if decide (t.k = 1) && decide (0 ≤ t.n) && decide (t.n < m) then some t.n else none | none => none
def fT (q : Nat) : Option ByteArray := match l[q]? with | some t => if t.k = 2 then some t.s else none | none => none
def pE (q : Nat) : Option (Ex × Nat) := match numT l q 65536 with
  | some n => if endT l (q + 1) then some (.mk 1 eS n [], q + 1) else none
  | none => match fT l q with
    | some s => if isT l (q + 1) yLp && isT l (q + 2) yRp && endT l (q + 3) then some (.mk 14 s 0 [], q + 3) else none
    | none => none
def pS (q : Nat) : Option (Sm × Nat) :=
  if isT l q yOut then match numT l (q + 2) 256, pE l (q + 4) with
    | some n, some (e, r) => if isT l (q + 1) yLp && isT l (q + 3) yCm && isT l r yRp && isT l (r + 1) ySc then some (.mk 11 eS ty4z n [e] [] [] [], r + 2) else none
    | _, _ => none
  else if isT l q yPoll then (if isT l (q + 1) ySc then some (.mk 12 eS ty4z 0 [] [] [] [], q + 2) else none)
  else if isT l q yHalt then (if isT l (q + 1) ySc then some (.mk 13 eS ty4z 0 [] [] [] [], q + 2) else none)
  else match fT l q, pE l q with
    | some _, some (e, r) => if isT l r ySc then some (.mk 14 eS ty4z 0 [e] [] [] [], r + 1) else none
    | _, _ => none
def pSs : Nat → Nat → Option (List Sm × Nat)
  | 0, _ => none
  | n + 1, q => if isT l q yRb then some ([], q + 1) else match pS l q with
    | some (s, r) => match pSs n r with
      | some (x, r') => some (s :: x, r')
      | none => none
    | none => none
def pB (n q : Nat) : Option (List Sm × Nat) := if isT l q yLb then pSs l n (q + 1) else none
def pF (n q : Nat) : Option (Fu × Nat) := match fT l (q + 1), pB l n (q + 4) with
  | some s, some (b, r) => if isT l q yFn && isT l (q + 2) yLp && isT l (q + 3) yRp then some (⟨s, [], .mk 7 eS 0 [], b, false, 0, 0⟩, r) else none
  | _, _ => none
def pFs : Nat → Nat → Option (List Fu)
  | 0, _ => none
  | n + 1, q => match l[q]? with
    | some t => if t.k = 0 then some [] else match pF l n q with
      | some (f, r) => match pFs n r with
        | some x => some (f :: x)
        | none => none
      | none => none
    | none => none
end
def srcF (s : ByteArray) : Option (List Fu) := match gP s 200 0 with | some l => pFs l 100 0 | none => none
open Go.MapKept Go.ChangeMaps
section
variable {P : Program} {w0 : World} {N : Nat} {Q : Exit → Act → World → Prop} {env : Env} {own : List Seg} {H : Hp} {ops : Array Oper} {rest : List Oper} {d : Option Tmp} {ty : TypeId} {pos : String} {af : Array Edge}
end
section
variable {P : Program} {pk : Pk} {T : Tb P} {Er : XE} {nx : Nat} {ops : Array Oper} {d : Option Tmp} {ty : TypeId} {pos : String} {af : Array Edge} {g t0 : Nat} {Q Q' : Obj → Prop}
theorem HRm {V : Vn} {H : Hp} {sg : Seg} (h : HR V H [⟨g, t0, .mp Q⟩] sg) : ∃ b ob ex, sg = [(b, ob)] ∧ V g t0 = some (some b, ex) ∧ Q ob := by
  obtain ⟨s1, s2, rfl, h7, rfl⟩ := h
  rcases h7 with ⟨b', ob, ex, rfl, h8, h9⟩ | ⟨_, _, _, _, h8, _⟩
  {
  exact ⟨b', ob, ex, rfl, h8, h9⟩}; {
  cases h8}
theorem LS.lookO {t kt e : TypeId} {m y : Operand} {key : Value} {kl : Lit} {c : Bool} {z : Value} {R yv : XV} (hm : xev Er m = some (.a (.c (.m g t0)))) (hy : xev Er y = some yv) (hyv : vOf yv = some key) (ht : T.bt.get t = some (.m kt e)) (K : Maps.Keyed P kt) (hk : keyOf P kt key = some kl) (hz : ∀ w, (zeroValue e).run P w = .ok z w)
    (hQ : ∀ o, Q o → ∃ n f, MapR P kt e o n f ∧ ∀ V H, R.rel V H (if c then .tuple #[(f key).getD z, .bool (f key).isSome] else (f key).getD z)) :
    LS P pk ops { dst := d, op := .lookup t m y c, type := ty, pos := pos, after := af, guard := none } Er [⟨g, t0, .mp Q⟩] nx nx (fun x fp' => x = R ∧ fp' = [⟨g, t0, .mp Q⟩]) := by
  intro w0 N Q2 rest env own H V sg hl hV htp hf hd _ hh
  obtain ⟨w1, h1, h2⟩ := hl.lks _ _ hm
  obtain ⟨w2, h3, h4⟩ := hl.lks _ _ hy
  have := ec hyv h4; subst this
  simp only [XV.rel, XA.rel, XC.rel] at h2
  obtain ⟨b, e0, hb, rfl⟩ := h2
  obtain ⟨b', ob, ex, rfl, h8, h9⟩ := HRm hV
  rw [h8] at hb; cases hb
  obtain ⟨n, f, hM, hR⟩ := hQ ob h9
  haveI := Und.mk (mL (BT.all_get T.ok ht))
  exact TL.lookR 0 0 h1 h3 rfl rfl K hM hk hz hd (hh _ R [⟨g, t0, .mp Q⟩] V H _ ⟨rfl, rfl⟩ (hR V H) hV htp (VX.refl _ _ _) (Le.refl _))
end
section
variable {P : Program} {x : Cx P} {T : Tb P} {k : List Fr} {E Er : XE} {hp hp' : XH} {nx i : Nat} {ops : List Oper} {dm : Option (List Rc)} {l : List (Nat × Oper)} {d : Tmp} {dd : Option Tmp} {ty : TypeId} {pos : String} {af : Array Edge} {g : Option (Nat × Bool)} {gm t0 : Nat} {Q Q' : Obj → Prop}
theorem Lw {t kt e : TypeId} {m y : Operand} {key : Value} {kl : Lit} {c : Bool} {z : Value} {yv : XV} (R : XV) (K : Maps.Keyed P kt) (hk : keyOf P kt key = some kl) (hz : ∀ w, (zeroValue e).run P w = .ok z w) (hQ : ∀ o, Q o → ∃ n f, MapR P kt e o n f ∧ ∀ V H, R.rel V H (if c then .tuple #[(f key).getD z, .bool (f key).isSome] else (f key).getD z))
    (hEr : vis dm ops { dst := some d, op := .lookup t m y c, type := ty, pos := pos, after := af, guard := g } E = Er) (hm : xev Er m = some (.a (.c (.m gm t0)))) (hg : aq hp gm = some ⟨gm, t0, .mp Q⟩) (hy : xev Er y = some yv) (hyv : vOf yv = some key) (ht : T.bt.get t = some (.m kt e)) (hb : aw ops Er g = some true ∧ okD x.N (some d) = true)
    (hk' : (MS.r ops (push dm ⟨i, [gm], false, false⟩) l k ⟨(d, R) :: E, hp, nx⟩).ok x) (hdk : DkM dm ops ⟨i, [gm], false, false⟩ := by first | exact trivial | (refine DK.mk ?_; decide +kernel)) :
    (MS.r ops dm ((i, { dst := some d, op := .lookup t m y c, type := ty, pos := pos, after := af, guard := g }) :: l) k ⟨E, hp, nx⟩).ok x :=
  MS.rd1 hg hEr hb (LS.lookO (T := T) hm hy hyv ht K hk hz hQ) hdk hk'
theorem HR.mp1 {V : Vn} {H : Hp} : ∀ {hp : XH} {sg : Seg}, aq hp gm = some ⟨gm, t0, .mp Q⟩ → HR V H hp sg → ∃ o, Q o ∧ ∀ {Q' : Obj → Prop} {hp' : XH}, Q' o → bx hp gm t0 (.mp Q') = some hp' → HR V H hp' sg ∧ hp'.map (fun b => (b.g, b.t)) = hp.map fun b => (b.g, b.t)
  | [], _, h, _ => by cases h
  | ⟨g', t', o'⟩ :: r, sg, h, ⟨s1, s2, h0, h1, h2⟩ => by
    simp only [aq] at h
    cases hb : Nat.beq g' gm with
    | true =>
      rw [hb] at h
      simp only [cond_true, Option.some.injEq, XB.mk.injEq] at h
      obtain ⟨rfl, rfl, rfl⟩ := h
      rcases h1 with ⟨b, ob, ex, k1, k2, k3⟩ | ⟨_, _, _, _, k3, _⟩
      {
      refine ⟨ob, k3, fun {Q' hp'} hQ' e => ?_⟩
      simp only [bx, hb, cond_true, Option.some.injEq] at e
      subst e
      exact ⟨⟨s1, s2, h0, .inl ⟨b, ob, ex, k1, k2, hQ'⟩, h2⟩, rfl⟩}; {
      cases k3}
    | false =>
      rw [hb] at h
      simp only [cond_false] at h
      obtain ⟨o, q1, q2⟩ := HR.mp1 h h2
      refine ⟨o, q1, fun {Q' hp'} hQ' e => ?_⟩
      simp only [bx, hb, cond_false] at e
      split at e; {
      rename_i l hl
      cases e
      obtain ⟨k1, k2⟩ := q2 hQ' hl
      exact ⟨⟨s1, s2, h0, h1, k1⟩, by simp only [List.map_cons, k2]⟩}; {
      cases e}
theorem Om {q : Code} {α : Type} (g : Nat) (Qa : α → Obj → Prop) (X : α → XH) (hg : aq hp g = some ⟨g, t0, .mp Q⟩) (hQ : ∀ o, Q o → ∃ a, Qa a o) (hX : ∀ a, bx hp g t0 (.mp (Qa a)) = some (X a)) (hk : ∀ a, (MS.c q k ⟨E, X a, nx⟩).ok x) : (MS.c q k ⟨E, hp, nx⟩).ok x := fun V H sg env hs => by
  obtain ⟨o, h1, h2⟩ := HR.mp1 hg hs.hr
  obtain ⟨a, ha⟩ := hQ o h1
  obtain ⟨k1, k2⟩ := h2 ha (hX a)
  exact hk a V H sg env (hs.same k1 k2)
theorem SRto.mw (g : Nat) (Q' : Obj → Prop) (hg : aq hp g = some ⟨g, t0, .mp Q⟩) (hset' : bx hp g t0 (.mp Q') = some hp') (hQ : ∀ o, Q o → Q' o) : SRto ⟨E, hp, nx⟩ ⟨E, hp', nx⟩ := fun B V H sg env hs => by
  obtain ⟨o, h1, h2⟩ := HR.mp1 hg hs.hr
  obtain ⟨k1, k2⟩ := h2 (hQ o h1) hset'
  exact ⟨V, hs.same k1 k2⟩
theorem Ckz {f : FuncId} {args : List XV} {B F : XH} {m : Nat} {R : XV} {d : Option Tmp} {opd : Operand} {xs : List Operand} {tys : Array TypeId} {fv : XV} {us : List XV} {ps rest : XH} (gs : List Nat) (X : XH) (h : XM P x.B.pk f args B m m (fun r hp' => r = R ∧ hp' = F))
    (hEr : vis dm ops { dst := d, op := .call { callee := .value opd, args := xs.toArray, argTypes := tys }, type := ty, pos := pos, after := af, guard := g } E = Er) (hfv : xev Er opd = some fv) (hfn : fnv fv = some (f, [], [])) (hus : eb (xev Er) xs = some us) (hpk : dY gs hp = some (ps, rest))
    (hargs : cos (XVs.ren (muc gs m nx (ps.map (·.t))) args) us = XVs.ren (muc gs m nx (ps.map (·.t))) args) (hfp : ps = bn (muc gs m nx (ps.map (·.t))) B) (hb : (aw ops Er g = some true ∧ ae ps = gs) ∧ (okD x.N d && (bp gs && gs.all (fun g => Nat.blt g nx))) = true) (hX : bn (muc gs m nx (ps.map (·.t))) F = X) (hR : pure R = true)
    (hk : (MS.r ops (push dm ⟨i, gs, true, true⟩) l k ⟨b8 d R E, X ++ rest, nx⟩).ok x)
    (hdk : DkM dm ops ⟨i, gs, true, true⟩ := by first | exact trivial | (refine DK.mk ?_; decide +kernel)) (hrl : RlM dm ops i l := by first | exact trivial | (refine RL.mk ?_; decide +kernel)) :
    (MS.r ops dm ((i, { dst := d, op := .call { callee := .value opd, args := xs.toArray, argTypes := tys }, type := ty, pos := pos, after := af, guard := g }) :: l) k ⟨E, hp, nx⟩).ok x := by
  have e1 : gs ++ List.range' nx (m - m) = gs := by simp
  refine Cm gs h hEr hfv hfn hus hpk hargs hfp hb ?_ (by rw [e1]; exact hdk) hrl
  rintro r hp' ⟨rfl, rfl⟩
  rw [e1, hX, XV.ren_pure hR, Nat.sub_self, Nat.add_zero]
  exact hk
end
section
variable {P : Program} {pk : Pk} {T : Tb P} {Er : XE} {nx : Nat} {ops : Array Oper} {d : Option Tmp} {ty : TypeId} {pos : String} {af : Array Edge}
end
section
variable {P : Program} {x : Cx P} {T : Tb P} {k : List Fr} {E Er : XE} {hp hp' : XH} {nx i : Nat} {ops : List Oper} {dm : Option (List Rc)} {l : List (Nat × Oper)} {d : Tmp} {ty : TypeId} {pos : String} {af : Array Edge} {g : Option (Nat × Bool)} {t : TypeId} {o iv y z : Operand} {ki : IntKind} {jv : Int} {e by_ gp t0 n m e' : Nat} {c : List XC}
theorem toDs_rdL {V : Vn} {H : Hp} : ∀ {c : List XC} {ds : List D} {us : List Value}, g0 c = some ds → rels V H c us → rdL H ds us := fun h hr => cr h hr
def Unr (x : Cx P) (c : Code) (k : List Fr) : Nat → XS → Prop
  | 0, _ => False
  | n + 1, s => (MS.c c (.l (fun m s' => m = n ∧ Unr x c k n s') (n + 1) :: k) s).ok x
theorem MC.unr {c : Code} {s : XS} (n : Nat) (h : Unr x c k n s) : MC x (.loop c) k s := fun V H sg env hs a w ha hw => by
  refine wp_loop_ghost (fun n a w => a.defers = x.ds ∧ ∃ env own H, JJ x.B (Unr x c k) n env own H ∧ At x.N env (dsA [] a) ∧ St x.B.w0 H own w) n ⟨rfl, env, _, H, ⟨s, V, sg, h, hs, rfl⟩, by rw [show dsA [] (dsA x.ds a) = dsA [] a from rfl, cv ha.defers]; exact ha, hw⟩ ?_
  rintro n a w ⟨hds, env, own, H, ⟨s, V, sg, hJ, hs, rfl⟩, ha, hw⟩
  cases n with
  | zero => exact hJ.elim
  | succ n =>
    have hr := (show MC x c _ s from hJ) V H sg env hs (dsA [] a) w ha hw
    rw [iK hds] at hr
    refine wp_mono hr ?_
    intro e a' w' hq
    cases e with
    | normal => obtain ⟨h9, n', env, own, H, hlt, ⟨s2, V2, sg2, ⟨rfl, hJ'⟩, hs2, rfl⟩, ha', hw'⟩ := hq; exact ⟨n', hlt, h9, env, _, H, ⟨s2, V2, sg2, hJ', hs2, rfl⟩, ha', hw'⟩
    | exit id => exact hq
    | goto l => exact hq
    | ret => exact hq
    | panic ch => exact hq
    | outgrown => exact hq
theorem Un {c : Code} {s : XS} (n : Nat) (h : (MS.c c (.l (fun m s' => m = n ∧ Unr x c k n s') (n + 1) :: k) s).ok x) : (MS.c (.loop c) k s).ok x := MC.unr (n + 1) h
theorem Nu {c : Code} {s : XS} {k' : List Fr} {n : Nat} (h : (MS.c c (.l (fun m s' => m = n ∧ Unr x c k' n s') (n + 1) :: k') s).ok x) : (MS.e .normal (.l (fun m s' => m = n + 1 ∧ Unr x c k' (n + 1) s') (n + 2) :: k) s).ok x :=
  fun V H sg env hs a w ha hw => ⟨rfl, n + 1, env, _, H, Nat.lt_succ_self _, ⟨s, V, sg, ⟨rfl, h⟩, hs, rfl⟩, by rw [show dsA [] (dsA x.ds a) = dsA [] a from rfl, cv ha.defers]; exact ha, hw⟩
theorem pA {E : XE} : ∀ {ls : List Nat} {acc E1 : XE}, kU E ls acc = some E1 → ELe acc E → ELe E1 E
  | [], _, _, h, ha => by cases h; exact ha
  | t :: r, acc, E1, h, ha => by
    simp only [kU] at h
    split at h; {
    rename_i v hv
    refine pA h fun j u hj => ?_
    simp only [xlk] at hj
    cases hb : Nat.beq t j with
    | true => rw [hb, cond_true] at hj; cases hj; rw [← Nat.eq_of_beq_eq_true hb]; exact hv
    | false => rw [hb] at hj; exact ha j u hj}
    {
    cases h}
theorem Ks {c : Code} {E1 : XE} (ls : List Nat) (hls : kU E ls [] = some E1) (h : (MS.c c k ⟨E1, hp, nx⟩).ok x) : (MS.c c k ⟨E, hp, nx⟩).ok x :=
  fun V H sg env hs => h V H sg env (hs.le_ (pA hls fun _ _ hj => by cases hj))
theorem Ckf {f : FuncId} {args : List XV} {B : XH} {m : Nat} {R : XV} {d : Option Tmp} {opd : Operand} {xs : List Operand} {tys : Array TypeId} {fv : XV} {us : List XV} {ps rest : XH} (gs : List Nat) (R' : XV) (h : XM P x.B.pk f args B m m (fun r hp' => r = R ∧ hp' = B))
    (hEr : vis dm ops { dst := d, op := .call { callee := .value opd, args := xs.toArray, argTypes := tys }, type := ty, pos := pos, after := af, guard := g } E = Er) (hfv : xev Er opd = some fv) (hfn : fnv fv = some (f, [], [])) (hus : eb (xev Er) xs = some us) (hpk : dY gs hp = some (ps, rest))
    (hargs : cos (XVs.ren (muc gs m nx (ps.map (·.t))) args) us = XVs.ren (muc gs m nx (ps.map (·.t))) args) (hfp : ps = bn (muc gs m nx (ps.map (·.t))) B) (hb : (aw ops Er g = some true ∧ ae ps = gs) ∧ (okD x.N d && (bp gs && gs.all (fun g => Nat.blt g nx))) = true) (hR : R.ren (muc gs m nx (ps.map (·.t))) = R')
    (hk : (MS.r ops (push dm ⟨i, gs, false, false⟩) l k ⟨b8 d R' E, ps ++ rest, nx⟩).ok x)
    (hdk : DkM dm ops ⟨i, gs, false, false⟩ := by first | exact trivial | (refine DK.mk ?_; decide +kernel)) :
    (MS.r ops dm ((i, { dst := d, op := .call { callee := .value opd, args := xs.toArray, argTypes := tys }, type := ty, pos := pos, after := af, guard := g }) :: l) k ⟨E, hp, nx⟩).ok x := by
  obtain ⟨hc, hm, hcl, h3⟩ := h
  have e1 : List.range' nx (nx + (m - m) - nx) = [] := by simp
  have e0 : ae ps ++ List.range' nx (nx + (m - m) - nx) = gs := by rw [hb.1.2, e1, List.append_nil]
  have hnd : (ae ps).Nodup := by
    have h2 := hb.2
    simp only [Bool.and_eq_true] at h2
    rw [hb.1.2]
    exact bW h2.2.1
  refine MS.call gs false false h3 hEr hfv hfn hcl hus hpk (SubV.stat hargs) hfp hc ⟨hb.1, ?_⟩ (by rw [e0]; exact hdk) (fun _ r hp' h => ⟨by rw [h.2]; exact hfp.symm, by simp⟩) (fun _ => ⟨R, B, ⟨rfl, rfl⟩, fun _ _ h => h, by rw [← hfp]; exact fun b hb => .inl (List.mem_map.2 ⟨b, hb, rfl⟩), by rw [← hfp]; exact hnd⟩) (fun h => by cases h) ?_; {
  have h2 := hb.2
  simp only [Bool.and_eq_true] at h2 ⊢
  exact ⟨h2.1, h2.2.1, h2.2.2, hm⟩}; {
  rintro r hp' ⟨rfl, rfl⟩
  rw [e0, ← hfp, Nat.sub_self, Nat.add_zero, hR]
  exact hk}
end
section
variable {P : Program} {pk : Pk} {T : Tb P} {Er : XE} {nx : Nat} {ops : Array Oper} {d : Option Tmp} {ty : TypeId} {pos : String} {af : Array Edge}
theorem LS.slo {t : TypeId} {o : Operand} {lo hi : Option Operand} {li ri : Option Int} {e sz by_ gp t0 n c e' m : Nat} {rows : List (List D)} (a b : Nat)
    (ho : xev Er o = some (.a (.c (.l gp t0 sz 0 n c)))) (h1 : ia Er lo li) (h2 : ia Er hi ri) (ht : T.bt.get t = some (.sl e sz by_)) (ha : li.getD 0 = (a : Int)) (hb : ri.getD (n : Int) = (b : Int)) (hab : a ≤ b) (hbc : b ≤ c) (hac : a < c) (hm : 0 < m) :
    LS P pk ops { dst := d, op := .slice t o lo hi none, type := ty, pos := pos, after := af, guard := none } Er [⟨gp, t0, .row m rows e' sz⟩] nx nx (fun x fp' => x = .a (.c (.l gp t0 sz a (b - a) (c - a))) ∧ fp' = [⟨gp, t0, .row m rows e' sz⟩]) := by
  intro w0 N Q rest env own H V sg hl hV htp hf hd _ hh
  obtain ⟨v, h3, h4⟩ := hl.lks _ _ ho
  simp only [XV.rel, XA.rel, XC.rel] at h4
  obtain ⟨bb, ex, h5, rfl⟩ := h4
  obtain ⟨z, hS⟩ := bC (BT.all_get T.ok ht)
  rcases HRr hV with ⟨b', us, jk, ex', _, h6, _⟩ | ⟨_, _, h6, _⟩
  {
  rw [h5] at h6
  cases h6
  rw [Option.map_some, Nat.zero_mul] at h3
  refine TL.slice a b h3 (gx hl h1) (gx hl h2) ha hb hab (by omega) hd (hh _ _ _ V H _ ⟨rfl, rfl⟩ ?_ hV htp (VX.refl _ _ _) (Le.refl _))
  simp only [XV.rel, XA.rel, XC.rel]
  refine ⟨some b', ex, h5, ?_⟩
  rw [if_neg (by omega), Option.map_some, Option.map_some, show c + ex - a = c - a + ex by omega]
  simp [Addr.add]
  try exact fun h => h.symm}; {
  omega}
end
section
variable {P : Program} {x : Cx P} {T : Tb P} {k : List Fr} {E Er : XE} {hp hp' : XH} {nx i : Nat} {ops : List Oper} {dm : Option (List Rc)} {l : List (Nat × Oper)} {d : Tmp} {dd : Option Tmp} {ty : TypeId} {pos : String} {af : Array Edge} {g : Option (Nat × Bool)} {t : TypeId} {o y y1 y2 y3 : Operand} {e sz by_ gp t0 n c e' m : Nat} {rows : List (List D)}
theorem Slo {lo hi : Option Operand} {li ri : Option Int} (a b : Nat) (h1 : ia Er lo li) (h2 : ia Er hi ri) (ho : xev Er o = some (.a (.c (.l gp t0 sz 0 n c)))) (hEr : vis dm ops { dst := some d, op := .slice t o lo hi none, type := ty, pos := pos, after := af, guard := g } E = Er) (hg : aq hp gp = some ⟨gp, t0, .row m rows e' sz⟩) (ht : T.bt.get t = some (.sl e sz by_)) (hb : aw ops Er g = some true ∧ okD x.N (some d) = true) (ha : li.getD 0 = (a : Int)) (hbn : ri.getD (n : Int) = (b : Int)) (hab : a ≤ b) (hbc : b ≤ c) (hac : a < c) (hm : 0 < m)
    (hk : (MS.r ops (push dm ⟨i, [gp], false, false⟩) l k ⟨(d, .a (.c (.l gp t0 sz a (b - a) (c - a)))) :: E, hp, nx⟩).ok x) (hdk : DkM dm ops ⟨i, [gp], false, false⟩ := by first | exact trivial | (refine DK.mk ?_; decide +kernel)) :
    (MS.r ops dm ((i, { dst := some d, op := .slice t o lo hi none, type := ty, pos := pos, after := af, guard := g }) :: l) k ⟨E, hp, nx⟩).ok x := MS.rd1 hg hEr hb (LS.slo (T := T) a b ho h1 h2 ht ha hbn hab hbc hac hm) hdk hk
end
section
variable {P : Program} {w0 : World} {N : Nat} {Q : Exit → Act → World → Prop} {env : Env} {own : List Seg} {H : Hp} {ops : Array Oper} {rest : List Oper} {d : Option Tmp} {ty : TypeId} {pos : String} {af : Array Edge}
theorem TL.sliceSo {t : TypeId} {x : Operand} {lo hi : Option Operand} {s : ByteArray} {li ri : Option Int} (l r : Nat) (hx : ev env x = some (.string s)) [hU : Und P t .string]
    (h1 : optI env lo li) (h2 : optI env hi ri) (hl : li.getD 0 = (l : Int)) (hr : ri.getD (s.size : Int) = (r : Int)) (hlr : l ≤ r) (hrc : r ≤ s.size) (hd : okD N d = true)
    (h : TL P w0 N Q ops rest (ao d (.string (s.extract l r)) env) own H) :
    TL P w0 N Q ops ({ dst := d, op := .slice t x lo hi none, type := ty, pos := pos, after := af, guard := none } :: rest) env own H :=
  Qb hd (fun a ha w => by
    have hb : (Instr.sliceBounds false s.size s.size (lo.map a.eval) (hi.map a.eval) none).run P w = .ok (l, r, s.size) w := by
      cases lo with
      | none =>
        simp only [optI] at h1
        subst h1
        have e1 : l = 0 := by simp at hl; omega
        subst e1
        cases hi with
        | none =>
          simp only [optI] at h2
          subst h2
          have e2 : s.size = r := by simp at hr; omega
          subst e2
          simp [Instr.sliceBounds]
        | some y2 =>
          obtain ⟨k2, q2, rfl, hq2⟩ := h2
          have e2 : q2 = (r : Int) := by simpa using hr
          subst e2
          simp [Instr.sliceBounds, Instr.sliceBound, asIntOf, ha.ev hq2, hrc]
      | some y1 =>
        obtain ⟨k1, q1, rfl, hq1⟩ := h1
        have e1 : q1 = (l : Int) := by simpa using hl
        subst e1
        cases hi with
        | none =>
          simp only [optI] at h2
          subst h2
          have e2 : s.size = r := by simp at hr; omega
          subst e2
          simp [Instr.sliceBounds, Instr.sliceBound, asIntOf, ha.ev hq1, hlr]
        | some y2 =>
          obtain ⟨k2, q2, rfl, hq2⟩ := h2
          have e2 : q2 = (r : Int) := by simpa using hr
          subst e2
          simp [Instr.sliceBounds, Instr.sliceBound, asIntOf, ha.ev hq1, ha.ev hq2, hrc, hlr]
    simp only [execOp, Instr.sliceAt, Instr.slice, Sem.run_bind, run_underlying hU.eq, Result.andThen_ok, ha.ev hx, Option.map_none]
    simp [hb]) h
end
section
variable {P : Program} {pk : Pk} {T : Tb P} {Er : XE} {nx : Nat} {ops : Array Oper} {d : Option Tmp} {ty : TypeId} {pos : String} {af : Array Edge}
theorem LS.sls {t : TypeId} {o : Operand} {lo hi : Option Operand} {li ri : Option Int} {s : ByteArray} (a b : Nat)
    (ho : xev Er o = some (xv (.string s))) (h1 : ia Er lo li) (h2 : ia Er hi ri) (ht : T.bt.get t = some .s) (ha : li.getD 0 = (a : Int)) (hb : ri.getD (s.size : Int) = (b : Int)) (hab : a ≤ b) (hbc : b ≤ s.size) :
    LS P pk ops { dst := d, op := .slice t o lo hi none, type := ty, pos := pos, after := af, guard := none } Er [] nx nx (fun x fp' => x = xv (.string (s.extract a b)) ∧ fp' = []) := by
  intro w0 N Q rest env own H V sg hl hV htp hf hd _ hh
  obtain ⟨v, h3, h4⟩ := hl.lks _ _ ho
  have := bk h4; subst this
  haveI := Und.mk (tok_s (BT.all_get T.ok ht))
  refine TL.sliceSo a b h3 (gx hl h1) (gx hl h2) ha hb hab hbc hd (hh _ _ _ V H _ ⟨rfl, rfl⟩ ?_ hV htp (VX.refl _ _ _) (Le.refl _))
  simp only [XV.rel, XA.rel, XC.rel, rd]
  exact ⟨trivial, rfl⟩
end
section
variable {P : Program} {x : Cx P} {T : Tb P} {k : List Fr} {E Er Es : XE} {hp : XH} {nx i : Nat} {ops : List Oper} {dm : Option (List Rc)} {l : List (Nat × Oper)} {d : Tmp} {ty : TypeId} {pos : String} {af : Array Edge} {g : Option (Nat × Bool)} {t : TypeId} {o : Operand} {lo hi : Option Operand} {li ri : Option Int} {s : ByteArray} {c : Bool} {ob : List Prop}
theorem Ss (a b : Nat) (hEr : vis dm ops { dst := some d, op := .slice t o lo hi none, type := ty, pos := pos, after := af, guard := g } E = Er) (ho : xev Er o = some (xv (.string s))) (h1 : ia Er lo li) (h2 : ia Er hi ri) (ht : T.bt.get t = some .s) (hb : aw ops Er g = some true ∧ okD x.N (some d) = true) (ha : li.getD 0 = (a : Int)) (hbn : ri.getD (s.size : Int) = (b : Int)) (hab : a ≤ b) (hbc : b ≤ s.size)
    (hk : (MS.r ops (push dm ⟨i, [], false, false⟩) l k ⟨(d, xv (.string (s.extract a b))) :: E, hp, nx⟩).ok x) (hdk : DkM dm ops ⟨i, [], false, false⟩ := by first | exact trivial | (refine DK.mk ?_; decide +kernel)) :
    (MS.r ops dm ((i, { dst := some d, op := .slice t o lo hi none, type := ty, pos := pos, after := af, guard := g }) :: l) k ⟨E, hp, nx⟩).ok x := MS.val hEr hb (LS.sls (T := T) a b ho h1 h2 ht ha hbn hab hbc) hdk hk
theorem Sss (a b : Nat) (hEr : vis dm ops { dst := some d, op := .slice t o lo hi none, type := ty, pos := pos, after := af, guard := g } E = Er) (hc : xcnd ops Er g = some c) (hs : sofO Er (.slice t o lo hi none) = (Es, ob)) (ho : xev Es o = some (xv (.string s))) (h1 : ia Es lo li) (h2 : ia Es hi ri) (ht : T.bt.get t = some .s) (hd : okD x.N (some d) = true) (ha : li.getD 0 = (a : Int)) (hbn : ri.getD (s.size : Int) = (b : Int)) (hab : c = true → a ≤ b) (hbc : c = true → b ≤ s.size)
    (hk : (MS.r ops (push dm ⟨i, [], false, false⟩) l k ⟨(d, .gd c (.c (.d (.c (.string (s.extract a b)))))) :: E, hp, nx⟩).ok x) (hdk : DkM dm ops ⟨i, [], false, false⟩ := by first | exact trivial | (refine DK.mk ?_; decide +kernel)) (hob : c = true → aL ob := by first | exact fun _ => trivial | (intro _; repeat' (first | exact trivial | assumption | apply And.intro | (simp_all; done)))) :
    (MS.r ops dm ((i, { dst := some d, op := .slice t o lo hi none, type := ty, pos := pos, after := af, guard := g }) :: l) k ⟨E, hp, nx⟩).ok x :=
  MS.sft hEr hc hs hob hd (fun hct => LS.sls (T := T) a b ho h1 h2 ht ha hbn (hab hct) (hbc hct)) hdk hk
end
section
open Go Go.RowKit Go.Proofs K
variable {pk : Pk}
theorem ref_blank (n : Int) : XQ Tryz.prog pk 209 [xu8 n] (xb (od n)) := by
  refine XQ.en Tryz.func209 Tryz.ntmps209 (fun w0 own H V v0 hf => ?_)
  refine Gs (T := T) 1000 rfl ?_
  exact Fe (T := T) rfl rfl
theorem ref_hex {n : Int} (h : n = 49 ∨ n = 41 ∨ n = 44) : XQ Tryz.prog pk 210 [xu8 n] (xi (if n = 49 then 1 else -1)) := by
  refine XQ.en Tryz.func210 Tryz.ntmps210 (fun w0 own H V v0 hf => ?_)
  refine G9 rfl (Cq (jE n) rfl rfl rfl rfl rfl ⟨rfl, rfl⟩ ?_)
  rcases h with rfl | rfl | rfl
  {
  refine G9 rfl ?_
  refine IfT rfl rfl ?_
  refine G9 rfl ?_ ⟨by decide, trivial⟩
  exact Fe (T := T) rfl rfl}
  all_goals
    refine G9 rfl (IfF rfl rfl ?_)
    refine Gs (T := T) 1000 rfl ?_
    refine IfF rfl rfl ?_
    refine Gs (T := T) 1000 rfl ?_
    refine IfF rfl rfl ?_
    refine G9 rfl (Fe (T := T) rfl rfl)
theorem ref_Signs : XQ Tryz.prog pk 211 [] (xr (sigL.map a7)) := by
  refine XQ.en Tryz.func211 Tryz.ntmps211 (fun w0 own H V v0 hf => ?_)
  refine G9 rfl (Fe (T := T) rfl rfl)
theorem find_at {α : Type} {p : α → Bool} {l : List α} {j : Nat} {y : α} (hn : ∀ x ∈ l.take j, p x = false) (hy : l[j]? = some y) (h : p y = true) : l.find? p = some y := by
  obtain ⟨h1, rfl⟩ := List.getElem?_eq_some_iff.1 hy
  have e : l.find? p = (l.take j ++ l.drop j).find? p := by rw [List.take_append_drop]
  rw [e, List.find?_append, List.find?_eq_none.2 (fun x hx => by rw [hn x hx]; simp), Option.none_or, List.drop_eq_getElem_cons h1, List.find?_cons, h]
theorem cL {α : Type} {p : α → Bool} {l : List α} {j : Nat} {y : α} (hn : ∀ x ∈ l.take j, p x = false) (hy : l[j]? = some y) (h : p y = false) : ∀ x ∈ l.take (j + 1), p x = false := by
  rw [List.take_add_one, hy]
  intro x hx
  rcases List.mem_append.1 hx with hx | hx
  {
  exact hn x hx}; {
  rw [List.mem_singleton.1 hx]; exact h}
theorem ref_sign (s : ByteArray) : XQ Tryz.prog pk 179 [xs s] (xs (sigF s)) := by
  refine XQ.en Tryz.func179 Tryz.ntmps179 (fun w0 own H V v0 hf => ?_)
  refine G9 rfl (Cq ref_Signs rfl rfl rfl rfl rfl ⟨rfl, rfl⟩ ?_)
  have hl : sigL.length = 29 := rfl
  have hb : ∀ l ∈ sigL, l.size ≤ 2 := by decide
  unfold sigF
  generalize sigL = L at hl hb ⊢
  refine G9 rfl (Lq [0, 3] (fun q r => (2, xs eS) :: (4, xi (q : Nat)) :: r) (fun q => []) 0 (fun q => q ≤ L.length ∧ ∀ x ∈ L.take q, sigP s x = false) (fun q => L.length - q) 0 rfl ⟨Nat.zero_le _, fun x hx => by cases hx⟩ ?_)
  rintro j ⟨hj, hI⟩
  refine G9 rfl (If rfl (fun h => ?_) (fun h => ?_)); {
  have hjl := of_decide_eq_true h; rw [List.length_map] at hjl
  obtain ⟨y, hy⟩ := ai (l := L) (j := j) (by omega)
  have hy2 := hb y (List.mem_of_getElem? hy)
  refine G9 rfl (Ix (T := T) j (ab hy) rfl rfl rfl rfl ⟨rfl, rfl⟩ rfl rfl ?_)
  refine Gs (T := T) 1000 rfl ?_
  refine Sss (T := T) 0 y.size rfl rfl rfl rfl rfl ⟨_, _, rfl, rfl⟩ rfl rfl rfl rfl (fun _ => Nat.zero_le _) (fun h => by have := of_decide_eq_true h; omega) ?_
  refine Gs (T := T) 1000 rfl ?_
  refine Is (T := T) j [.c (.string y)] (fun _ => ⟨ab (f := a7) hy, rfl⟩) rfl rfl rfl rfl rfl rfl rfl rfl ?_
  refine Gs (T := T) 1000 rfl ?_
  have ep : sigP s y = (decide ((y.size : Int) ≤ (s.size : Int)) && decide (s.extract 0 y.size = y)) := by
    rw [sigP, show decide (y.size ≤ s.size) = decide ((y.size : Int) ≤ (s.size : Int)) from decide_eq_decide.2 (by omega)]
  refine If rfl (fun h => ?_) (fun h => ?_); {
  refine G9 rfl ?_
  refine Ix (T := T) j (ab hy) rfl rfl rfl rfl ⟨rfl, rfl⟩ rfl rfl ?_
  refine G9 rfl ?_
  exact Fe (T := T) rfl (by show xs _ = xs _; rw [find_at hI hy (ep.trans h)]; rfl)}; {
  refine G9 rfl ?_
  exact Nq (j + 1) ⟨by omega, cL hI hy (ep.trans h)⟩ (by show _ - (j + 1) < _ - j; omega)}}; {
  have hjl := of_decide_eq_false h; rw [List.length_map] at hjl
  refine G9 rfl ?_
  rw [List.take_of_length_le (by omega)] at hI
  exact Fe (T := T) rfl (by show xs _ = xs _; rw [List.find?_eq_none.2 (fun x hx => by rw [hI x hx]; simp)]; rfl)}
def noS (s : ByteArray) : Prop := ∀ b ∈ s.data.toList, b ≠ 47
theorem noS_at {s : ByteArray} (h : noS s) {k : Nat} (hk : k < s.size) : ((s.data.getD ((k : Nat) : Int).toNat 0).toNat : Int) ≠ 47 := by
  have hm : s.data.getD ((k : Nat) : Int).toNat 0 ∈ s.data.toList := by
    have := sp_at hk
    exact List.mem_of_mem_drop (this ▸ List.mem_cons_self)
  intro e
  refine h _ hm ?_
  apply UInt8.toNat_inj.1
  show _ = 47
  omega
theorem ref_skip {s : ByteArray} (hs : s.size ≤ 1000000) (h9 : noS s) {i : Nat} (hi : i ≤ s.size) : XQ Tryz.prog pk 177 [xs s, xi (i : Nat)] (xi (gO s i : Nat)) := by
  refine XQ.en Tryz.func177 Tryz.ntmps177 (fun w0 own H V v0 hf => ?_)
  refine G9 rfl (Lq [0] (fun k r => (1, xi (k : Nat)) :: (4, xi 0) :: r) (fun k => []) 0 (fun k => k ≤ s.size ∧ gO s i = gO s k) (fun k => s.size - k) i rfl ⟨hi, rfl⟩ ?_)
  rintro k ⟨hk, hI⟩
  refine G9 rfl (If rfl (fun h => ?_) (fun h => ?_)); {
  have hlt : k < s.size := by have := of_decide_eq_true h; omega
  have hn := noS_at h9 hlt
  unfold gO at hI
  rw [sp_at hlt] at hI; simp only [fx] at hI
  refine G9 rfl (Cq (ref_blank _) rfl rfl rfl rfl rfl ⟨rfl, rfl⟩ ?_)
  cases hbl : od ((s.data.getD ((k : Nat) : Int).toNat 0).toNat : Int) with
  | true =>
    simp only [hbl, if_true] at hI
    refine G9 rfl (IfF rfl rfl ?_)
    refine G9 rfl (IfF rfl rfl ?_)
    refine G9 rfl ?_
    exact Nq (k + 1) ⟨hlt, hI⟩ (by show _ - (k + 1) < _ - k; omega)
  | false =>
    simp only [hbl, Bool.false_eq_true, if_false] at hI
    refine G (T := T) 21 rfl ?_
    refine Sp 20 rfl (fun h => ?_) (fun h => ?_); {
    refine G9 rfl ?_
    refine IfT rfl rfl ?_
    refine G9 rfl ?_
    exact Fe (T := T) rfl (by show xi _ = xi _; unfold gO; rw [hI])}; {
    exfalso
    have := of_decide_eq_false h
    exact this hn}}
  {
  have hlt : s.size ≤ k := by have := of_decide_eq_false h; omega
  refine G9 rfl ?_
  exact Fe (T := T) rfl (by show xi _ = xi _; rw [hI]; unfold gO; rw [List.drop_of_length_le (by simpa using hlt)]; rfl)}
theorem qA {s : ByteArray} (hs : s.size ≤ 1000000) {i : Nat} (h1 : byA s i = 49) (h2 : i + 1 < s.size) (h3 : byA s (i + 1) = 41 ∨ byA s (i + 1) = 44) : XQ Tryz.prog pk 178 [xs s, xi (i : Nat)] (xd (tkD ⟨1, s.extract i (i + 1), 1, i⟩)) := by
  refine XQ.en Tryz.func178 Tryz.ntmps178 (fun w0 own H V v0 hf => ?_)
  have e1 : ((s.data.getD ((i : Nat) : Int).toNat 0).toNat : Int) = 49 := h1
  have e3 : ((s.data.getD ((i + 1 : Nat) : Int).toNat 0).toNat : Int) = 41 ∨ ((s.data.getD ((i + 1 : Nat) : Int).toNat 0).toNat : Int) = 44 := h3
  refine G (T := T) 100004 rfl ?_
  refine Cu [0, 1, 4, 5, 6, 7] (fun (_ : Unit) r => r) (fun _ => [⟨0, 0, .cells [.d (.c (.int .i64 0)), .d (.c (.string eS)), .d (.c (.int .i64 0)), .d (.c (.int .i64 0))] 213⟩, ⟨1, 0, .cells [.d (.c (.int .i64 1)), .d (.c (.string eS)), .d (.c (.int .i64 0)), .d (.c (.int .i64 (i : Nat)))] 213⟩]) 2 (fun _ => True) rfl ?_ ?_; {
  refine G (T := T) 18 rfl ?_
  refine Sp 17 rfl (fun h => ?_) (fun h => ?_); {
  refine G (T := T) 23 rfl ?_
  refine Sp 22 rfl (fun h => ?_) (fun h => ?_); {
  exfalso
  have h : decide (((s.data.getD ((i : Nat) : Int).toNat 0).toNat : Int) = 48) = true := h
  rw [e1] at h; exact absurd h (by decide)}; {
  refine G9 rfl ?_
  refine IfF rfl rfl ?_
  refine G9 rfl (Dn () trivial)}}; {
  refine G9 rfl ?_
  refine IfF rfl rfl ?_
  refine G9 rfl (Dn () trivial)}}
  rintro _ _
  refine G9 rfl (Un 2 ?_)
  refine G9 rfl (IfT rfl (decide_eq_true (by omega)) ?_)
  refine G9 rfl (Cq (ref_hex (.inl e1)) rfl rfl rfl rfl rfl ⟨rfl, rfl⟩ ?_)
  rw [e1]
  refine G9 rfl (IfF rfl rfl ?_)
  refine G9 rfl (Nu ?_)
  refine G9 rfl (IfT rfl (decide_eq_true (by omega)) ?_)
  refine G9 rfl (Cq (ref_hex (.inr e3)) rfl rfl rfl rfl rfl ⟨rfl, rfl⟩ ?_)
  rw [if_neg (show ¬ ((s.data.getD ((i + 1 : Nat) : Int).toNat 0).toNat : Int) = 49 by omega)]
  refine G9 rfl (IfT rfl rfl ?_)
  refine G9 rfl (Fq (T := T) rfl rfl)
theorem pC {p : UInt8 → Bool} : ∀ {l : List UInt8} {k : Nat}, k ≤ fx p l k ∧ fx p l k ≤ k + l.length
  | [], k => ⟨Nat.le_refl _, Nat.le_refl _⟩
  | b :: r, k => by
    rw [fx]
    split; {
    have := pC (p := p) (l := r) (k := k + 1)
    rw [List.length_cons]; omega}; {
    rw [List.length_cons]; omega}
theorem mW (s : ByteArray) : s.data.toList.length = s.size := rfl
theorem span_at {p : UInt8 → Bool} {s : ByteArray} {i : Nat} (hi : i ≤ s.size) : i ≤ fx p (s.data.toList.drop i) i ∧ fx p (s.data.toList.drop i) i ≤ s.size := by
  have := pC (p := p) (l := s.data.toList.drop i) (k := i)
  rw [List.length_drop, mW] at this
  omega
theorem m0 (acc : List Tk) (t : Tk) : acc.map tkD ++ [tkD t] = (acc ++ [t]).map tkD := by rw [List.map_append]; rfl
theorem sig_size {s : ByteArray} : (sigF s).size ≤ 2 ∧ (sigF s).size ≤ s.size := by
  unfold sigF
  cases h : sigL.find? (sigP s) with
  | none => exact ⟨Nat.zero_le _, Nat.zero_le _⟩
  | some x =>
    have h1 := List.mem_of_find?_eq_some h
    have h2 := List.find?_some h
    have h3 : ∀ l ∈ sigL, l.size ≤ 2 := by decide
    rw [sigP, Bool.and_eq_true, decide_eq_true_eq] at h2
    exact ⟨h3 x h1, h2.1⟩
def tkC (k : Int) (s : ByteArray) (n : Int) (p : Nat) : List XC := [.d (.c (.int .i64 k)), .d (.c (.string s)), .d (.c (.int .i64 n)), .d (.c (.int .i64 (p : Nat)))]
theorem qB {s : ByteArray} (hs : s.size ≤ 1000000) (h9 : noS s) {n : Nat} {L : List Tk} (hL : gP s n 0 = some L) (hn : n ≤ 1000000) : XQ Tryz.prog pk 111 [xs s] (xr (L.map tkD)) := by
  refine XQ.en Tryz.func111 Tryz.ntmps111 (fun w0 own H V v0 hf => ?_)
  refine G9 rfl ((Nr 3 213 4 rfl rfl).c ?_)
  refine Lq [0] (fun (q : Nat × Nat × Nat × List (List D) × List Tk) r => (2, .a (.c .z)) :: (3, .a (.c (.l 0 1 4 0 q.2.2.1 q.2.2.1))) :: (4, xi (q.2.1 : Nat)) :: r) (fun q => [⟨0, 1, .row q.2.2.1 q.2.2.2.1 213 4⟩]) 1 (fun q => q.2.1 ≤ s.size ∧ q.2.2.1 = q.2.2.2.2.length ∧ q.2.2.2.1 = q.2.2.2.2.map tkD ∧ q.2.2.1 + q.1 = n ∧ (gP s q.1 q.2.1).map (q.2.2.2.2 ++ ·) = some L) (fun q => q.1) (n, 0, 0, [], []) rfl ⟨Nat.zero_le _, rfl, rfl, by show 0 + n = n; omega, by show (gP s n 0).map _ = _; rw [hL]; rfl⟩ ?_
  rintro ⟨m, i, k, R, acc⟩ ⟨hi, hk, hR, hkm, hI⟩; dsimp only at hi hk hR hkm hI ⊢
  cases m with
  | zero => cases hI
  | succ m =>
  have hj := span_at (p := fun b => od (b.toNat : Int)) hi
  rw [gP] at hI
  refine G9 rfl (Cq (ref_skip hs h9 hi) rfl rfl rfl rfl rfl ⟨rfl, rfl⟩ ?_)
  have hj : i ≤ gO s i ∧ gO s i ≤ s.size := hj
  generalize gO s i = j at hI hj ⊢
  refine G9 rfl (If rfl (fun h => ?_) (fun h => ?_)); {
  have hjs : j = s.size := by have := of_decide_eq_true h; omega
  simp only [hjs, if_true, Option.map_some, Option.some.injEq] at hI
  subst hI hjs hR hk
  refine G9 rfl ?_
  refine MS.fze 0 rfl ?_ (by repeat' (first | exact trivial | apply And.intro | rfl | (simp; done)))
  refine Fq (T := T) rfl ?_
  rw [← m0]; rfl}; {
  have hjs : j < s.size := by have := of_decide_eq_false h; omega
  rw [if_neg (by omega)] at hI
  cases ht : tokF s j with
  | none => rw [ht] at hI; cases hI
  | some t =>
  rw [ht] at hI; dsimp only at hI
  have nxt : j + t.s.size ≤ s.size → (j + t.s.size ≤ s.size ∧ k + 1 = (acc ++ [t]).length ∧ R ++ [tkD t] = (acc ++ [t]).map tkD ∧ k + 1 + m = n ∧ (gP s m (j + t.s.size)).map (acc ++ [t] ++ ·) = some L) := fun h1 => by
    refine ⟨h1, by rw [List.length_append, hk]; rfl, by rw [hR, m0], by omega, ?_⟩
    cases hm : gP s m (j + t.s.size) with
    | none => rw [hm] at hI; cases hI
    | some l =>
      rw [hm] at hI
      simpa using hI
  unfold tokF at ht
  refine G9 rfl (Cq (jE _) rfl rfl rfl rfl rfl ⟨rfl, rfl⟩ ?_)
  refine G9 rfl (If rfl (fun h => ?_) (fun h => ?_)); {
  have h : jx (byA s j) = true := h
  rw [h, if_pos rfl] at ht
  split at ht; {
  rename_i hc
  simp only [Bool.and_eq_true, Bool.or_eq_true, decide_eq_true_eq] at hc
  cases ht
  refine G9 rfl (Cq (qA hs hc.1.1 hc.1.2 hc.2) rfl rfl rfl rfl rfl ⟨rfl, rfl⟩ ?_)
  have hsz : (s.extract j (j + 1)).size = 1 := by rw [ByteArray.size_extract]; omega
  refine G9 rfl (IfF rfl rfl ?_)
  refine G9 rfl ?_
  exact Nq (m, j + (s.extract j (j + 1)).size, k + 1, R ++ [tkD ⟨1, s.extract j (j + 1), 1, j⟩], acc ++ [⟨1, s.extract j (j + 1), 1, j⟩]) (nxt (by show j + (s.extract j (j + 1)).size ≤ _; omega)) (Nat.lt_succ_self m)}; {
  cases ht}}; {
  have h : jx (byA s j) = false := h
  rw [h, if_neg (by simp)] at ht
  refine G9 rfl (Cq (lq _) rfl rfl rfl rfl rfl ⟨rfl, rfl⟩ ?_)
  refine G9 rfl (If rfl (fun h2 => ?_) (fun h2 => ?_)); {
  have h2 : eU (byA s j) = true := h2
  rw [h2, if_pos rfl] at ht
  dsimp only at ht
  have hw := span_at (p := fun b => partN (b.toNat : Int)) (Nat.le_of_lt hjs)
  have hw : j ≤ bY s j ∧ bY s j ≤ s.size := hw
  split at ht
  case isFalse => cases ht
  rename_i h24
  cases ht
  refine G9 rfl (Lq [0, 2, 3, 4, 5] (fun (q : Nat) r => (6, xi (q : Nat)) :: r) (fun q => [⟨0, 1, .row k R 213 4⟩, ⟨1, 0, .cells (tkC 0 eS 0 j) 213⟩]) 2 (fun q => j ≤ q ∧ q ≤ s.size ∧ bY s j = bY s q) (fun q => s.size - q) j rfl ⟨Nat.le_refl _, Nat.le_of_lt hjs, rfl⟩ ?_)
  rintro q ⟨hq1, hq2, hqw⟩
  refine Gs (T := T) 1000 rfl ?_
  refine Cs (fun _ => lq _) rfl rfl rfl rfl rfl rfl rfl rfl ?_
  refine Gs (T := T) 1000 rfl ?_
  refine Cs (fun _ => jE _) rfl rfl rfl rfl rfl rfl rfl rfl ?_
  refine Gs (T := T) 1000 rfl ?_
  have hp : ∀ b : UInt8, ((eU (b.toNat : Int) || jx (b.toNat : Int)) || decide ((b.toNat : Int) = 95)) = partN (b.toNat : Int) := fun b => by
    rw [partN, letter_eq]
  refine If rfl (fun h => ?_) (fun h => ?_); {
  rw [hp] at h
  obtain ⟨a1, a2⟩ := Bool.and_eq_true_iff.1 h
  have hlt : q < s.size := by have := of_decide_eq_true a1; omega
  unfold bY at hqw
  rw [sp_at hlt] at hqw; simp only [fx] at hqw
  rw [if_pos a2] at hqw
  refine G9 rfl ?_
  exact Nq (q + 1) ⟨by omega, hlt, hqw⟩ (by show _ - (q + 1) < _ - q; omega)}; {
  rw [hp] at h
  have hqe : bY s j = q := by
    rw [hqw]
    unfold bY
    by_cases hlt : q < s.size; {
    rw [sp_at hlt]; simp only [fx]
    rw [decide_eq_true (show (q : Int) < (s.size : Int) by omega), Bool.true_and] at h
    exact if_neg (fun h9 => by rw [h] at h9; cases h9)}; {
    rw [List.drop_of_length_le (by rw [mW]; omega)]; rfl}
  subst hqe
  refine G9 rfl (Cq oc rfl rfl rfl rfl rfl ⟨rfl, rfl⟩ ?_)
  refine G9 rfl (Cq (mV (by decide) _) rfl rfl rfl rfl rfl ⟨rfl, rfl⟩ ?_)
  have hsz : (s.extract j (bY s j)).size = bY s j - j := by rw [ByteArray.size_extract]; omega
  have hsz2 : (s.extract ((j : Nat) : Int).toNat ((bY s j : Nat) : Int).toNat).size = bY s j - j := hsz
  refine G9 rfl (If rfl (fun h9 => ?_) (fun h9 => ?_)); {
  have h9 : aA (s.extract j (bY s j)) kws = true := h9
  simp only [h9, if_true] at nxt
  refine G9 rfl (IfF rfl (decide_eq_false (by omega)) ?_)
  refine G9 rfl (IfF rfl rfl ?_)
  refine G9 rfl (Nq (m, j + (s.extract j (bY s j)).size, k + 1, R ++ [tkD ⟨3, s.extract j (bY s j), 0, j⟩], acc ++ [⟨3, s.extract j (bY s j), 0, j⟩]) (nxt (by omega)) (Nat.lt_succ_self m))}; {
  have h9 : aA (s.extract j (bY s j)) kws = false := h9
  simp only [h9, Bool.false_eq_true, if_false] at nxt
  refine G9 rfl (IfF rfl (decide_eq_false (by omega)) ?_)
  refine G9 rfl (IfF rfl rfl ?_)
  refine G9 rfl (Nq (m, j + (s.extract j (bY s j)).size, k + 1, R ++ [tkD ⟨2, s.extract j (bY s j), 0, j⟩], acc ++ [⟨2, s.extract j (bY s j), 0, j⟩]) (nxt (by omega)) (Nat.lt_succ_self m))}}}; {
  have h2 : eU (byA s j) = false := h2
  rw [h2, if_neg (by simp)] at ht
  dsimp only at ht
  split at ht
  case isTrue => cases ht
  rename_i hne
  cases ht
  have hex : (s.extract j s.size).size = s.size - j := by rw [ByteArray.size_extract]; omega
  have hsg := sig_size (s := s.extract j s.size)
  refine G9 rfl (Ss (T := T) j s.size rfl rfl ⟨_, _, rfl, rfl⟩ rfl rfl ⟨rfl, rfl⟩ rfl rfl (by omega) (Nat.le_refl _) ?_)
  refine G9 rfl (Cq (ref_sign _) rfl rfl rfl rfl rfl ⟨rfl, rfl⟩ ?_)
  refine G9 rfl (IfF rfl (decide_eq_false hne) ?_)
  refine G9 rfl (IfF rfl rfl ?_)
  refine G9 rfl ?_
  exact Nq (m, j + (sigF (s.extract j s.size)).size, k + 1, R ++ [tkD ⟨3, sigF (s.extract j s.size), 0, j⟩], acc ++ [⟨3, sigF (s.extract j s.size), 0, j⟩]) (nxt (by show j + (sigF (s.extract j s.size)).size ≤ _; omega)) (Nat.lt_succ_self m)}}}
end
section
open Go Go.RowKit Go.Proofs K
variable {pk : Pk}
def dgL (n : Nat) : List UInt8 := if n < 10 then [dg1 n] else dgL (n / 10) ++ [dg1 (n % 10)]
termination_by n
decreasing_by omega
theorem ce {n : Nat} (h : n < 10) : dgL n = [dg1 n] := by rw [dgL, if_pos h]
theorem eV {n : Nat} (h : ¬ n < 10) : dgL n = dgL (n / 10) ++ [dg1 (n % 10)] := by rw [dgL, if_neg h]
theorem d6 : ∀ (m n : Nat), n ≤ m → 1 ≤ (dgL n).length ∧ (dgL n).length ≤ n + 1 := by
  intro m
  induction m with
  | zero => intro n h; rw [ce (by omega)]; exact ⟨Nat.le_refl _, by show 1 ≤ _; omega⟩
  | succ m ih =>
    intro n h
    by_cases h9 : n < 10; {
    rw [ce h9]; exact ⟨Nat.le_refl _, by show 1 ≤ _; omega⟩}; {
    rw [eV h9, List.length_append]
    have := ih (n / 10) (by omega)
    show _ ∧ _ + 1 ≤ _
    omega}
theorem oe {a b : Nat} (ha : a < 10) (hb : b < 10) (h : dg1 a = dg1 b) : a = b := by
  have key : ∀ a : Nat, a < 10 → ∀ b : Nat, b < 10 → dg1 a = dg1 b → a = b := by decide +kernel
  exact key a ha b hb h
theorem dgL_inj : ∀ (k n m : Nat), n ≤ k → dgL n = dgL m → n = m := by
  intro k
  induction k with
  | zero =>
    intro n m h e
    obtain rfl : n = 0 := by omega
    by_cases h9 : m < 10; {
    rw [ce (by omega), ce h9] at e
    exact oe (by omega) h9 (by injection e)}; {
    have := d6 (m / 10) (m / 10) (Nat.le_refl _)
    rw [ce (by omega), eV h9] at e
    have := congrArg List.length e
    rw [List.length_append] at this
    simp only [List.length_cons, List.length_nil] at this; omega}
  | succ k ih =>
    intro n m h e
    have l1 := d6 (n / 10) (n / 10) (Nat.le_refl _)
    have l2 := d6 (m / 10) (m / 10) (Nat.le_refl _)
    by_cases h9 : n < 10; {
    by_cases h8 : m < 10; {
    rw [ce h9, ce h8] at e
    exact oe h9 h8 (by injection e)}; {
    rw [ce h9, eV h8] at e
    have := congrArg List.length e
    rw [List.length_append] at this
    simp only [List.length_cons, List.length_nil] at this; omega}}; {
    by_cases h8 : m < 10; {
    rw [eV h9, ce h8] at e
    have := congrArg List.length e
    rw [List.length_append] at this
    simp only [List.length_cons, List.length_nil] at this; omega}; {
    rw [eV h9, eV h8] at e
    obtain ⟨e1, e2⟩ := List.append_inj' e rfl
    have e3 := ih (n / 10) (m / 10) (by omega) e1
    have e4 := oe (Nat.mod_lt _ (by omega)) (Nat.mod_lt _ (by omega)) (by injection e2)
    omega}}
def dgB (n : Nat) : ByteArray := ⟨(dgL n).toArray⟩
theorem dH (n : Nat) : (dgB n).size = (dgL n).length := by simp [dgB, ByteArray.size]
theorem dgB_inj {n m : Nat} (h : dgB n = dgB m) : n = m := by
  unfold dgB at h
  injection h with h
  have := congrArg Array.toList h
  exact dgL_inj n n m (Nat.le_refl _) (by simpa using this)
theorem oh (n : Nat) : ((n : Nat) : Int).tdiv 10 = ((n / 10 : Nat) : Int) := (Int.ofNat_tdiv n 10).symm
theorem lu : ∀ (k n : Nat), n ≤ k → k ≤ 1000000000 → XQ Tryz.prog pk 27 [xi (n : Nat)] (xs (dgB n)) := by
  intro k
  induction k with
  | zero =>
    intro n h _
    have := cJ (pk := pk) (n := n) (by omega)
    rw [dgB, ce (by omega)]
    exact this
  | succ k ih =>
    intro n h hk
    by_cases h9 : n < 10
    · have := cJ (pk := pk) (n := n) (by omega)
      rw [dgB, ce (by omega)]
      exact this
    have hc := ih (n / 10) (by omega) (by omega)
    have hsz := dH (n / 10)
    have hs1 : (⟨#[dg1 (n % 10)]⟩ : ByteArray).size = 1 := rfl
    have hln := (d6 (n / 10) (n / 10) (Nat.le_refl _)).2
    refine XQ.en Tryz.func27 Tryz.ntmps27 (fun w0 own H V v0 hf => ?_)
    have t1 : 0 ≤ (n : Int).tmod 10 ∧ (n : Int).tmod 10 < 10 := ⟨Int.tmod_nonneg 10 (Int.natCast_nonneg n), Int.tmod_lt_of_pos (n : Int) (by omega)⟩
    refine G (T := T) 9 rfl ?_
    rw [ie n]
    refine Cd (T := T) [dg1 (n % 10)] rfl rfl rfl rfl rfl rfl ⟨rfl, rfl⟩ ?_
    refine G9 rfl (IfF rfl (decide_eq_false (by omega)) ?_)
    have t2 := oh n
    refine G (T := T) 15 rfl ?_
    rw [oh]
    refine G9 rfl (Cq hc rfl rfl rfl rfl rfl ⟨rfl, rfl⟩ ?_)
    refine G9 rfl ?_
    exact Fe (T := T) rfl (congrArg xs (by
      show _ = (⟨(dgL n).toArray⟩ : ByteArray)
      rw [eV h9]
      apply ByteArray.ext
      simp [dgB]))
def rgG (n : Nat) (g : Nat → Nat) : List Nat := (List.range n).map g
def ci (k : Nat) : List D := [.c (.int .i64 (k : Nat))]
structure OrdG (n : Nat) (g : Nat → Nat) : Prop where
  lt : ∀ i, i < n → g i < n
  inj : ∀ i j, i < n → j < n → g i = g j → i = j
theorem bL {n i : Nat} {g : Nat → Nat} (h : i < n) : (rgG n g)[i]? = some (g i) := by
  unfold rgG
  rw [List.getElem?_map, List.getElem?_range h]; rfl
theorem gD (n : Nat) (g : Nat → Nat) : (rgG n g).length = n := by simp [rgG]
def iT (g : Nat → Nat) (i v : Nat) (j : Nat) : Nat := if j = i then v else g j
theorem rgG_set {n i v : Nat} {g : Nat → Nat} (h : i < n) : (rgG n g).set i v = rgG n (iT g i v) := by
  apply List.ext_getElem?
  intro j
  rw [List.getElem?_set]
  by_cases hj : j < n; {
  rw [bL hj, bL hj, gD]
  unfold iT
  by_cases e : i = j; {
  subst e; simp [hj]}; {
  rw [if_neg e, if_neg (fun h => e h.symm)]}}; {
  have e1 : (rgG n g)[j]? = none := List.getElem?_eq_none (by rw [gD]; omega)
  have e2 : (rgG n (iT g i v))[j]? = none := List.getElem?_eq_none (by rw [gD]; omega)
  rw [e1, e2, gD, if_neg (by omega)]}
theorem OrdG.id (n : Nat) : OrdG n (fun i => i) := ⟨fun _ h => h, fun _ _ _ _ h => h⟩
def tspG (i k j : Nat) : Nat := if j = k then i else if j = i then k else j
theorem tsp_inj {i k a b : Nat} (h : tspG i k a = tspG i k b) : a = b := by
  unfold tspG at h
  by_cases a1 : a = k <;> by_cases b1 : b = k <;> by_cases a2 : a = i <;> by_cases b2 : b = i <;> simp only [a1, b1, a2, b2, if_true, if_false] at h <;> first | omega | (split at h <;> omega)
theorem oi (g : Nat → Nat) (i k j : Nat) : iT (iT g i (g k)) k (g i) j = g (tspG i k j) := by
  unfold iT tspG
  by_cases h : j = k; {
  rw [if_pos h, if_pos h]}; {
  rw [if_neg h, if_neg h]
  by_cases h2 : j = i; {
  rw [if_pos h2, if_pos h2]}; {
  rw [if_neg h2, if_neg h2]}}
theorem tsp_lt {n i k j : Nat} (hi : i < n) (hk : k < n) (hj : j < n) : tspG i k j < n := by
  unfold tspG; split; exact hi; split; exact hk; exact hj
theorem OrdG.swap {n i k : Nat} {g : Nat → Nat} (h : OrdG n g) (hi : i < n) (hk : k < n) : OrdG n (iT (iT g i (g k)) k (g i)) := by
  refine ⟨fun j hj => ?_, fun a b ha hb e => ?_⟩; {
  rw [oi]; exact h.lt _ (tsp_lt hi hk hj)}; {
  rw [oi, oi] at e
  exact tsp_inj (h.inj _ _ (tsp_lt hi hk ha) (tsp_lt hi hk hb) e)}
theorem m3 {s d : Int} (hs : I64 s) (hd : 2 ≤ d) : -4611686018427387904 ≤ s.tdiv d ∧ s.tdiv d ≤ 4611686018427387904 := by
  have h1 := Int.natAbs_tdiv s d
  have h2 : s.natAbs / d.natAbs ≤ s.natAbs / 2 := Nat.div_le_div_left (by omega) (by omega)
  have h3 := hs
  unfold I64 at h3
  have h5 : (s.tdiv d).natAbs ≤ s.natAbs / 2 := by rw [h1]; exact h2
  generalize s.tdiv d = f at h5 ⊢
  omega
theorem pD {n i v : Nat} {g : Nat → Nat} (h : i < n) : dS ((rgG n g).map ci) i 0 [.c (.int .i64 (v : Nat))] = (rgG n (iT g i v)).map ci := by
  rw [← rgG_set h]
  have e : (rgG n g)[i]? = some (g i) := bL h
  rw [dS, List.getElem?_map, e, List.map_set]
  rfl
theorem m4 {n : Nat} {s : Int} (hn : n ≤ 500000) (hs : I64 s) : XP Tryz.prog pk 47 [xi (n : Nat), xi s] (fun r => ∃ g, r = xr ((rgG n g).map ci) ∧ OrdG n g) := by
  refine XP.en Tryz.func47 Tryz.ntmps47 (by rintro _ ⟨g, rfl, _⟩; rfl) (fun w0 own H V v0 hf => ?_)
  refine G9 rfl ((Nr 5 3 1 rfl rfl).c ?_)
  refine Lq [0, 1] (fun (q : Nat × List (List D)) r => (4, .a (.c .z)) :: (5, .a (.c (.l 0 1 1 0 q.1 q.1))) :: (6, xi (q.1 : Nat)) :: r) (fun q => [⟨0, 1, .row q.1 q.2 3 1⟩]) 1 (fun q => q.1 ≤ n ∧ q.2 = (List.range q.1).map ci) (fun q => n - q.1) (0, []) rfl ⟨Nat.zero_le _, rfl⟩ ?_
  rintro ⟨i, R⟩ ⟨hi, hR⟩; dsimp only at hi hR ⊢
  refine G9 rfl (If rfl (fun h => ?_) (fun h => ?_)); {
  have hlt : i < n := by have := of_decide_eq_true h; omega
  refine G9 rfl ?_
  exact Nq (i + 1, R ++ [ci i]) ⟨hlt, by show _ = List.map ci (List.range (i + 1)); rw [List.range_succ, List.map_append, hR]; rfl⟩ (by show _ - (i + 1) < _ - i; omega)}
  have hge : ¬ i < n := by have := of_decide_eq_false h; omega
  obtain rfl : i = n := by omega
  refine G9 rfl ?_
  have hR0 : R = (rgG i fun j => j).map ci := by rw [hR, rgG, List.map_id']
  refine Lq [0, 4, 5] (fun (q : Int × Int × List (List D) × (Nat → Nat)) r => (1, xi q.1) :: (7, xi q.2.1) :: r) (fun q => [⟨0, 1, .row i q.2.2.1 3 1⟩]) 1 (fun q => I64 q.1 ∧ -1 ≤ q.2.1 ∧ q.2.1 < i ∧ q.2.2.1 = (rgG i q.2.2.2).map ci ∧ OrdG i q.2.2.2) (fun q => (q.2.1 + 1).toNat) (s, (i : Int) - 1, R, fun j => j) rfl ⟨hs, by show -1 ≤ (i : Int) - 1; omega, by show (i : Int) - 1 < i; omega, hR0, OrdG.id i⟩ ?_
  rintro ⟨u, k, R1, g⟩ ⟨hu, hk0, hk1, hR1, hg⟩; dsimp only at hu hk0 hk1 hR1 hg ⊢
  refine G9 rfl (If rfl (fun h => ?_) (fun h => ?_)); {
  have hpos : 0 < k := of_decide_eq_true h
  obtain ⟨k, rfl⟩ := Int.eq_ofNat_of_zero_le (Int.le_of_lt hpos)
  have hd := m3 hu (show 2 ≤ ((k : Nat) : Int) + 1 by omega)
  refine G9 rfl (Cq (nY (n := u) (m := (k : Nat) + 1) (by omega) (by omega)) rfl rfl rfl rfl rfl ⟨rfl, rfl⟩ ?_)
  have hm := nX (n := u) (m := (k : Nat) + 1) (by omega)
  generalize modR u ((k : Nat) + 1) = r at hm ⊢
  obtain ⟨r, rfl⟩ := Int.eq_ofNat_of_zero_le hm.1
  have hrk : r < i := by omega
  have hki : k < i := by omega
  refine G9 rfl (Iq (T := T) k rfl rfl rfl rfl rfl ⟨rfl, rfl⟩ rfl (by omega) rfl ?_)
  subst hR1
  refine Lr (T := T) (ab (f := ci) (bL (g := g) hki)) rfl rfl rfl rfl ⟨rfl, rfl⟩ rfl rfl ?_
  refine G9 rfl (Iq (T := T) r rfl rfl rfl rfl rfl ⟨rfl, rfl⟩ rfl (by omega) rfl ?_)
  refine Lr (T := T) (ab (f := ci) (bL (g := g) hrk)) rfl rfl rfl rfl ⟨rfl, rfl⟩ rfl rfl ?_
  refine G9 rfl (Iq (T := T) k rfl rfl rfl rfl rfl ⟨rfl, rfl⟩ rfl (by omega) rfl ?_)
  refine Sr (T := T) (ab (f := ci) (bL (g := g) hki)) rfl rfl rfl rfl rfl rfl rfl ⟨rfl, rfl⟩ rfl rfl ?_
  rw [pD hki]
  refine G9 rfl (Iq (T := T) r rfl rfl rfl rfl rfl ⟨rfl, rfl⟩ rfl (by omega) rfl ?_)
  refine Sr (T := T) (ab (f := ci) (bL (g := iT g k (g r)) hrk)) rfl rfl rfl rfl rfl rfl rfl ⟨rfl, rfl⟩ rfl rfl ?_
  rw [pD hrk]
  refine G9 rfl ?_
  exact Nq (u.tdiv ((k : Nat) + 1) + 3 * (k : Nat), (k : Int) - 1, (rgG i (iT (iT g k (g r)) r (g k))).map ci, iT (iT g k (g r)) r (g k)) ⟨⟨by dsimp only; omega, by dsimp only; omega⟩, by dsimp only; omega, by dsimp only; omega, rfl, hg.swap hki hrk⟩ (by show ((k : Int) - 1 + 1).toNat < ((k : Int) + 1).toNat; omega)}; {
  refine G9 rfl ?_
  subst hR1
  refine MS.fze 0 rfl ?_ (by repeat' (first | exact trivial | apply And.intro | rfl | (simp [gD]; done)))
  exact Fp (T := T) (xr ((rgG i g).map ci)) ⟨g, rfl, hg⟩ rfl rfl}
end
theorem sum_one {f g : Mark → Nat} {m : Mark} : ∀ {ks : List Mark}, ks.Nodup → m ∈ ks → f m = g m + 1 → (∀ k, k ≠ m → f k = g k) → (ks.map f).sum = (ks.map g).sum + 1
  | k :: r, hn, hm, h1, h2 => by
    simp only [List.nodup_cons] at hn
    simp only [List.map_cons, List.sum_cons]
    by_cases hk : k = m; {
    subst hk
    have : r.map f = r.map g := List.map_congr_left fun x hx => h2 x fun e => hn.1 (e ▸ hx)
    rw [this, h1]; omega}; {
    have hm' : m ∈ r := by
      rcases List.mem_cons.1 hm with e | e
      {
      exact absurd e.symm hk}; {
      exact e}
    rw [sum_one hn.2 hm' h1 h2, h2 k hk]; omega}
theorem sum_min {ks : List Mark} (hn : ks.Nodup) : ∀ (l1 l2 : List Mark), (∀ x ∈ l1, x ∈ ks) → (ks.map fun k => min (l1.count k) (l2.count k)).sum = eQ l1 l2
  | [], l2, _ => by
    have : ks.map (fun k => min (List.count k ([] : List Mark)) (l2.count k)) = ks.map fun _ => 0 := List.map_congr_left fun x _ => by simp
    rw [this, eQ]
    clear this hn
    induction ks with
    | nil => rfl
    | cons k r ih => simpa using ih
  | m :: r, l2, h => by
    have hr := sum_min hn r
    have hm := h m (List.mem_cons_self ..)
    have hr9 : ∀ x ∈ r, x ∈ ks := fun x hx => h x (List.mem_cons_of_mem _ hx)
    rw [eQ]
    split; {
    rename_i hl
    rw [← hr _ hr9, sum_one (g := fun k => min (r.count k) ((l2.erase m).count k)) hn hm]; {
    omega}; {
    have : 0 < l2.count m := List.count_pos_iff.2 hl
    simp only [List.count_cons_self, List.count_erase_self]; omega}; {
    intro k hk
    rw [List.count_cons_of_ne (fun e => hk e.symm), List.count_erase_of_ne hk]}}; {
    rename_i hl
    rw [← hr _ hr9]
    congr 1
    refine List.map_congr_left fun k _ => ?_
    by_cases hk : k = m; {
    subst hk
    rw [List.count_eq_zero_of_not_mem hl]; simp}; {
    rw [List.count_cons_of_ne (fun e => hk e.symm)]}}
theorem jF : ∀ (l1 l2 : List Mark), eQ l1 l2 ≤ l1.length
  | [], _ => Nat.le_refl _
  | m :: r, l2 => by
    rw [eQ]
    split; {
    have := jF r (l2.erase m); simp only [List.length_cons]; omega}; {
    have := jF r l2; simp only [List.length_cons]; omega}
section
variable (g : ByteArray → ByteArray)
mutual
def dI : Ex → Ex
  | .mk k nm n ks => .mk k (if k = 2 ∨ k = 14 then g nm else nm) n (dh ks)
def dh : List Ex → List Ex
  | [] => []
  | e :: r => dI e :: dh r
end
mutual
def fE : Sm → Sm
  | .mk k nm t n es b el cs => .mk k nm t n (dh g es) (bu b) (bu el) (dJ cs)
def bu : List Sm → List Sm
  | [] => []
  | s :: r => fE s :: bu r
def dJ : List (List Sm) → List (List Sm)
  | [] => []
  | c :: r => bu c :: dJ r
end
def kb (f : Fu) : Fu := { f with nm := g f.nm, body := bu g f.body }
mutual
theorem ev_renE : ∀ e : Ex, evE (dI g e) = (evE e).map (dI g)
  | .mk k nm n ks => by simp only [dI, evE, List.map_cons, lw ks]
theorem lw : ∀ l : List Ex, aF (dh g l) = (aF l).map (dI g)
  | [] => rfl
  | e :: r => by simp only [dh, aF, List.map_append, ev_renE e, lw r]
end
def renV : Sm ⊕ Ex → Sm ⊕ Ex
  | .inl s => .inl (fE g s)
  | .inr e => .inr (dI g e)
mutual
theorem ev_renS : ∀ s : Sm, evS (fE g s) = (evS s).map (renV g)
  | .mk k nm t n es b el cs => by
    simp only [fE, evS, List.map_cons, List.map_append, lw, eB b, eB el, pG cs, List.map_map, renV]
    rfl
theorem eB : ∀ l : List Sm, am (bu g l) = (am l).map (renV g)
  | [] => rfl
  | s :: r => by simp only [bu, am, List.map_append, ev_renS s, eB r]
theorem pG : ∀ l : List (List Sm), aP (dJ g l) = (aP l).map (renV g)
  | [] => rfl
  | c :: r => by simp only [dJ, aP, List.map_append, eB c, pG r]
end
end
section
open Go Go.RowKit Go.Proofs K
variable {pk : Pk}
def cH (old new : List ByteArray) (s : ByteArray) : ByteArray := match ak old s with
  | some i => new.getD i eS
  | none => s
theorem eD {l : List ByteArray} {s y : ByteArray} {j : Nat} (hn : ∀ x ∈ l.take j, decide (x = s) = false) (hy : l[j]? = some y) (h : decide (y = s) = true) : ak l s = some j := by
  obtain ⟨h1, rfl⟩ := List.getElem?_eq_some_iff.1 hy
  unfold ak
  rw [List.findIdx?_eq_some_iff_getElem]
  refine ⟨h1, h, fun k hk => ?_⟩
  have := hn l[k] (List.mem_of_getElem? (i := k) (by rw [List.getElem?_take, if_pos hk, List.getElem?_eq_getElem (by omega)]))
  simpa using this
theorem eW {l : List ByteArray} {s : ByteArray} (hn : ∀ x ∈ l, decide (x = s) = false) : ak l s = none := by
  unfold ak
  rw [List.findIdx?_eq_none_iff]
  exact hn
abbrev rnP (old new : List ByteArray) : XV := .a (.c (.d (.p [.s (old.map a7), .s (new.map a7)])))
theorem oj {old new : List ByteArray} (hl : old.length ≤ 10000000) (he : new.length = old.length) (s : ByteArray) : XQ Tryz.prog pk 48 [rnP old new, xs s] (xs (cH old new s)) := by
  refine XQ.en Tryz.func48 Tryz.ntmps48 (fun w0 own H V v0 hf => ?_)
  refine G9 rfl (Lq [0, 1] (fun q r => (4, xs eS) :: (5, xi (q : Nat)) :: r) (fun q => []) 0 (fun q => q ≤ old.length ∧ ∀ x ∈ old.take q, decide (x = s) = false) (fun q => old.length - q) 0 rfl ⟨Nat.zero_le _, fun x hx => by cases hx⟩ ?_)
  rintro j ⟨hj, hI⟩
  refine G9 rfl (If rfl (fun h => ?_) (fun h => ?_)); {
  have hjl := of_decide_eq_true h; rw [List.length_map] at hjl
  obtain ⟨y, hy⟩ := ai (l := old) (j := j) (by omega)
  obtain ⟨z, hz⟩ := ai (l := new) (j := j) (by omega)
  refine G9 rfl (Ix (T := T) j (ab (f := a7) hy) rfl rfl rfl rfl ⟨rfl, rfl⟩ rfl rfl ?_)
  refine G9 rfl (If rfl (fun h => ?_) (fun h => ?_)); {
  refine G9 rfl ?_
  refine Ix (T := T) j (ab (f := a7) hz) rfl rfl rfl rfl ⟨rfl, rfl⟩ rfl rfl ?_
  refine G9 rfl ?_
  exact Fe (T := T) rfl (congrArg xs (by rw [cH, eD hI hy h]; simp [hz]))}; {
  refine G9 rfl ?_
  exact Nq (j + 1) ⟨by omega, cL hI hy h⟩ (by show _ - (j + 1) < _ - j; omega)}}; {
  have hjl := of_decide_eq_false h; rw [List.length_map] at hjl
  refine G9 rfl ?_
  rw [List.take_of_length_le (by omega)] at hI
  exact Fe (T := T) rfl (congrArg xs (by rw [cH, eW hI]))}
theorem jG (g : ByteArray → ByteArray) : ∀ l, dh g l = l.map (dI g)
  | [] => rfl
  | e :: r => by rw [dh, jG g r]; rfl
theorem eE (g : ByteArray → ByteArray) : ∀ l, bu g l = l.map (fE g)
  | [] => rfl
  | e :: r => by rw [bu, eE g r]; rfl
theorem m5 (g : ByteArray → ByteArray) : ∀ l, dJ g l = l.map (bu g)
  | [] => rfl
  | e :: r => by rw [dJ, m5 g r]; rfl
theorem ol {α β : Type} {l : List α} {j : Nat} {y : α} (f : α → β) (hy : l[j]? = some y) : (l.take j).map f ++ [f y] = (l.take (j + 1)).map f := by rw [List.take_add_one, hy]; simp
theorem rn_exprs {old new : List ByteArray} (hl : old.length ≤ 10000000) (he : new.length = old.length) : ∀ (m : Nat), m ≤ 100000000000 → ∀ {l : List Ex}, Ex.sizes l ≤ m → XQ Tryz.prog pk 90 [rnP old new, xr (l.map exD)] (xr ((l.map (dI (cH old new))).map exD)) := by
  intro m
  induction m with
  | zero =>
    intro _ l hs
    cases l with
    | cons e r => have := e.size_pos; simp only [Ex.sizes] at hs; omega
    | nil =>
      refine XQ.en Tryz.func90 Tryz.ntmps90 (fun w0 own H V v0 hf => ?_)
      refine G9 rfl (Un 1 ?_)
      refine G9 rfl (IfF rfl rfl ?_)
      refine G9 rfl (Fq (T := T) rfl rfl)
  | succ m ih =>
  intro hm l hs
  have hlen := Ex.len_le l
  refine XQ.en Tryz.func90 Tryz.ntmps90 (fun w0 own H V v0 hf => ?_)
  refine G9 rfl ((Nr 5 75 4 rfl rfl).c ?_)
  refine Lq [0, 1] (fun (q : Nat × List (List D)) r => (4, .a (.c .z)) :: (5, .a (.c (.l 0 1 4 0 q.1 q.1))) :: (6, xi (q.1 : Nat)) :: r) (fun q => [⟨0, 1, .row q.1 q.2 75 4⟩]) 1 (fun q => q.1 ≤ l.length ∧ q.2 = (l.take q.1).map (fun e => exD (dI (cH old new) e))) (fun q => l.length - q.1) (0, []) rfl ⟨Nat.zero_le _, rfl⟩ ?_
  rintro ⟨j, R⟩ ⟨hj, hR⟩; dsimp only at hj hR ⊢
  refine G9 rfl (If rfl (fun h => ?_) (fun h => ?_)); {
  have hjl := of_decide_eq_true h; rw [List.length_map] at hjl
  obtain ⟨y, hy⟩ := ai (l := l) (j := j) (by omega)
  have hfin := ol (fun e => exD (dI (cH old new) e)) hy
  have hys := Ex.size_mem (List.mem_of_getElem? hy)
  obtain ⟨k, nm, n, ks⟩ := y
  simp only [Ex.size] at hys
  have hk := ih (by omega) (l := ks) (by omega)
  rw [dI, bl, jG, ← hR] at hfin
  refine G9 rfl (Ix (T := T) j (ab (f := exD) hy) rfl rfl rfl rfl ⟨rfl, rfl⟩ rfl rfl ?_)
  rw [bl]
  refine Gs (T := T) 1000 rfl ?_
  have hkk : (decide (k = 2) || decide (k = 14)) = decide (k = 2 ∨ k = 14) := by simp
  refine If rfl (fun h => ?_) (fun h => ?_); {
  rw [hkk] at h
  rw [if_pos (of_decide_eq_true h)] at hfin
  refine G9 rfl (Cq (oj hl he nm) rfl rfl rfl rfl rfl ⟨rfl, rfl⟩ ?_)
  refine G9 rfl (Cq hk rfl rfl rfl rfl rfl ⟨rfl, rfl⟩ ?_)
  refine G9 rfl ?_
  exact Nq (j + 1, _) ⟨by show j + 1 ≤ _; omega, hfin⟩ (by show _ - (j + 1) < _ - j; omega)}; {
  rw [hkk] at h
  rw [if_neg (of_decide_eq_false h)] at hfin
  refine G9 rfl (Cq hk rfl rfl rfl rfl rfl ⟨rfl, rfl⟩ ?_)
  refine G9 rfl ?_
  exact Nq (j + 1, _) ⟨by show j + 1 ≤ _; omega, hfin⟩ (by show _ - (j + 1) < _ - j; omega)}}; {
  have hjl := of_decide_eq_false h; rw [List.length_map] at hjl
  refine G9 rfl ?_
  rw [List.take_of_length_le (by omega)] at hR; subst hR
  refine MS.fze 0 rfl ?_ (by repeat' (first | exact trivial | apply And.intro | rfl | (simp; omega)))
  exact Fq (T := T) rfl (by rw [List.map_map]; rfl)}
abbrev smC (k : Int) (nm : ByteArray) (t : Ty4) (n : Int) (es b el cs : List (List D)) : List XC := [.d (.c (.int .i64 k)), .d (.c (.string nm)), .d (.c (.int .i64 (tk t))), .d (.c (.string (tnm t))), .d (.c (.int .i64 (tn t))), .d (.s (tyS t)), .d (.c (.int .u16 n)), .d (.s es), .d (.s b), .d (.s el), .d (.s cs)]
theorem Sm.slen_le : ∀ l : List Sm, l.length ≤ Sm.sizes l
  | [] => Nat.le_refl _
  | e :: r => by have := Sm.slen_le r; have := e.size_pos; rw [List.length_cons, Sm.sizes]; omega
theorem Sm.sclen_le : ∀ l : List (List Sm), l.length ≤ Sm.csizes l
  | [] => Nat.le_refl _
  | e :: r => by have := Sm.sclen_le r; rw [List.length_cons, Sm.csizes]; omega
theorem rn_stmts {old new : List ByteArray} (hl : old.length ≤ 10000000) (he : new.length = old.length) : ∀ (m : Nat), m ≤ 100000000000 → ∀ {l : List Sm}, Sm.sizes l ≤ m → XQ Tryz.prog pk 49 [rnP old new, xr (l.map smD)] (xr ((l.map (fE (cH old new))).map smD)) := by
  intro m
  induction m with
  | zero =>
    intro _ l hs
    cases l with
    | cons e r => have := e.size_pos; simp only [Sm.sizes] at hs; omega
    | nil =>
      refine XQ.en Tryz.func49 Tryz.ntmps49 (fun w0 own H V v0 hf => ?_)
      refine G9 rfl (Un 1 ?_)
      refine G9 rfl (IfF rfl rfl ?_)
      refine G9 rfl (Fq (T := T) rfl rfl)
  | succ m ih =>
  intro hm l hs
  have hlen := Sm.slen_le l
  refine XQ.en Tryz.func49 Tryz.ntmps49 (fun w0 own H V v0 hf => ?_)
  refine G9 rfl ((Nr 5 71 11 rfl rfl).c ?_)
  refine Lq [0, 1] (fun (q : Nat × List (List D)) r => (4, .a (.c .z)) :: (5, .a (.c (.l 0 1 11 0 q.1 q.1))) :: (6, xi (q.1 : Nat)) :: r) (fun q => [⟨0, 1, .row q.1 q.2 71 11⟩]) 1 (fun q => q.1 ≤ l.length ∧ q.2 = (l.take q.1).map (fun e => smD (fE (cH old new) e))) (fun q => l.length - q.1) (0, []) rfl ⟨Nat.zero_le _, rfl⟩ ?_
  rintro ⟨j, R⟩ ⟨hj, hR⟩; dsimp only at hj hR ⊢
  refine G9 rfl (If rfl (fun h => ?_) (fun h => ?_)); {
  have hjl := of_decide_eq_true h; rw [List.length_map] at hjl
  obtain ⟨y, hy⟩ := ai (l := l) (j := j) (by omega)
  have hfin := ol (fun e => smD (fE (cH old new) e)) hy
  have hys := Sm.size_mem (List.mem_of_getElem? hy)
  obtain ⟨k, nm, t, n, es, b, el, cs⟩ := y
  simp only [Sm.size] at hys
  have h1 := rn_exprs (pk := pk) hl he m (by omega) (l := es) (by omega)
  have h2 := ih (by omega) (l := b) (by omega)
  have h3 := ih (by omega) (l := el) (by omega)
  have hcl := Sm.sclen_le cs
  rw [fE, be, jG, eE, eE, m5, ← hR] at hfin
  refine G9 rfl (Ix (T := T) j (ab (f := smD) hy) rfl rfl rfl rfl ⟨rfl, rfl⟩ rfl rfl ?_)
  rw [be]
  refine G9 rfl (Cq h1 rfl rfl rfl rfl rfl ⟨rfl, rfl⟩ ?_)
  refine G9 rfl (Cq h2 rfl rfl rfl rfl rfl ⟨rfl, rfl⟩ ?_)
  refine G9 rfl (Cq h3 rfl rfl rfl rfl rfl ⟨rfl, rfl⟩ ?_)
  refine G9 rfl ((Nr 8 56 1 rfl rfl).c ?_)
  refine Lq [0, 1, 4, 5, 6, 7] (fun (q : Nat × List (List D)) r => (8, .a (.c (.l 2 1 1 0 q.1 q.1))) :: (9, xi (q.1 : Nat)) :: r) (fun q => [⟨2, 1, .row q.1 q.2 56 1⟩, ⟨1, 0, .cells (smC k nm t n ((es.map (dI (cH old new))).map exD) ((b.map (fE (cH old new))).map smD) ((el.map (fE (cH old new))).map smD) (cs.map blD)) 71⟩, ⟨0, 1, .row j R 71 11⟩]) 3 (fun q => q.1 ≤ cs.length ∧ q.2 = (cs.take q.1).map (fun c => blD (bu (cH old new) c))) (fun q => cs.length - q.1) (0, []) rfl ⟨Nat.zero_le _, rfl⟩ ?_
  rintro ⟨i, S⟩ ⟨hi, hS⟩; dsimp only at hi hS ⊢
  refine G9 rfl (If rfl (fun h => ?_) (fun h => ?_)); {
  have hil := of_decide_eq_true h; rw [List.length_map] at hil
  obtain ⟨z, hz⟩ := ai (l := cs) (j := i) (by omega)
  have hcz := Sm.csize_mem (List.mem_of_getElem? hz)
  have h4 := ih (by omega) (l := z) (by omega)
  have hfin2 := ol (fun c => blD (bu (cH old new) c)) hz
  rw [eE, ← hS] at hfin2
  refine G9 rfl (Ix (T := T) i (ab (f := blD) hz) rfl rfl rfl rfl ⟨rfl, rfl⟩ rfl rfl ?_)
  refine G9 rfl (Cq h4 rfl rfl rfl rfl rfl ⟨rfl, rfl⟩ ?_)
  refine G9 rfl ?_
  exact Nq (i + 1, _) ⟨by show i + 1 ≤ _; omega, hfin2⟩ (by show _ - (i + 1) < _ - i; omega)}; {
  have hil := of_decide_eq_false h; rw [List.length_map] at hil
  rw [List.take_of_length_le (by omega)] at hS; subst hS
  refine MS.fzc 2 rfl ?_ (by repeat' (first | exact trivial | apply And.intro | rfl | (simp; omega)))
  refine G9 rfl ?_
  have e9 : cs.map (fun c => blD (bu (cH old new) c)) = (cs.map (bu (cH old new))).map blD := by rw [List.map_map]; rfl
  rw [e9]
  exact Nq (j + 1, _) ⟨by show j + 1 ≤ _; omega, hfin⟩ (by show _ - (j + 1) < _ - j; omega)}}; {
  have hjl := of_decide_eq_false h; rw [List.length_map] at hjl
  refine G9 rfl ?_
  rw [List.take_of_length_le (by omega)] at hR; subst hR
  refine MS.fze 0 rfl ?_ (by repeat' (first | exact trivial | apply And.intro | rfl | (simp; omega)))
  exact Fq (T := T) rfl (by rw [List.map_map]; rfl)}
end
section
variable {P : Program} {pk : Pk} {T : Tb P} {Er : XE} {nx : Nat} {ops : Array Oper} {d : Option Tmp} {ty : TypeId} {pos : String} {af : Array Edge}
variable {gp t0 n e e' sz by_ : Nat} {pre post : List (List D)} {mid mid' : List XC}
end
section
variable {P : Program} {x : Cx P} {T : Tb P} {k : List Fr} {E Er : XE} {hp hp' rest : XH} {nx i : Nat} {ops : List Oper} {dm : Option (List Rc)} {l : List (Nat × Oper)} {d : Tmp} {dd : Option Tmp} {ty : TypeId} {pos : String} {af : Array Edge} {g : Option (Nat × Bool)}
variable {t : TypeId} {o iv y z : Operand} {ki : IntKind} {jv : Int} {e sz by_ gp t0 n c e' m j q : Nat} {pre post : List (List D)} {mid mid' : List XC} {ti : TI}
theorem LS.addw {pk : Pk} {ops : Array Oper} {d : Option Tmp} {tx t' : TypeId} {m n : Int} (hy : xev Er y = some (xv (.int ki m))) (hz : xev Er z = some (xv (.int ki n))) :
    LS P pk ops { dst := d, op := .binOp .add tx y z t', type := ty, pos := pos, after := af, guard := none } Er [] nx nx (fun x fp' => x = xv (.int ki (ki.wrap (m + n))) ∧ fp' = []) := by
  intro w0 N Q rest env own H V sg hl hV htp hf hd _ hh
  obtain ⟨v, h1, h2⟩ := hl.lks _ _ hy
  have := bk h2; subst this
  obtain ⟨w, h3, h4⟩ := hl.lks _ _ hz
  have := bk h4; subst this
  exact TL.addW h1 h3 hd (hh _ _ _ V H _ ⟨rfl, rfl⟩ (by simp only [XV.rel, XA.rel, XC.rel, rd]; exact ⟨trivial, rfl⟩) hV htp (VX.refl _ _ _) (Le.refl _))
theorem Aw {tx t' : TypeId} {m n : Int} (hy : xev Er y = some (xv (.int ki m))) (hz : xev Er z = some (xv (.int ki n))) (hEr : vis dm ops { dst := some d, op := .binOp .add tx y z t', type := ty, pos := pos, after := af, guard := g } E = Er) (hb : aw ops Er g = some true ∧ okD x.N (some d) = true)
    (hk : (MS.r ops (push dm ⟨i, [], false, false⟩) l k ⟨(d, xv (.int ki (ki.wrap (m + n)))) :: E, hp, nx⟩).ok x) (hdk : DkM dm ops ⟨i, [], false, false⟩ := by first | exact trivial | (refine DK.mk ?_; decide +kernel)) : (MS.r ops dm ((i, { dst := some d, op := .binOp .add tx y z t', type := ty, pos := pos, after := af, guard := g }) :: l) k ⟨E, hp, nx⟩).ok x :=
  MS.val hEr hb (LS.addw hy hz) hdk hk
theorem setR_last {rows : List (List D)} {z ds : List D} (hz : ds.length = z.length) : dS (rows ++ [z]) rows.length 0 ds = rows ++ [ds] := by
  have h : (rows ++ [z])[rows.length]? = some z := by rw [List.getElem?_append_right (Nat.le_refl _), Nat.sub_self]; rfl
  rw [dS, h]
  show (rows ++ [z]).set rows.length _ = _
  rw [List.set_append_right _ _ (Nat.le_refl _), Nat.sub_self, List.take_zero, Nat.zero_add, hz, List.drop_length]
  simp
end
section
open Go Go.RowKit Go.Proofs K
variable {pk : Pk}
def fnN (k : Nat) : ByteArray := ⟨#[102, 110, 95]⟩ ++ dgB k
def daN (k : Nat) : ByteArray := ⟨#[100, 97, 116, 97, 95]⟩ ++ dgB k
def dU (s : ByteArray) : Bool := decide (s = ⟨#[109, 97, 105, 110]⟩) || decide (s = ⟨#[105, 110, 116, 101, 114, 114, 117, 112, 116]⟩)
abbrev NmP := List (ByteArray × ByteArray)
def dl (fs : List Fu) (f : Nat → Nat) : Nat → NmP
  | 0 => []
  | i + 1 => match fs[i]? with
    | some y => if dU y.nm then dl fs f i else dl fs f i ++ [(y.nm, fnN (f i))]
    | none => dl fs f i
def dV (gs : List Gb) (g : Nat → Nat) : Nat → NmP
  | 0 => []
  | i + 1 => match gs[i]? with
    | some y => dV gs g i ++ [(y.nm, daN (g i))]
    | none => dV gs g i
def prN (p : Pg) (f g : Nat → Nat) : NmP := dl p.fs f p.fs.length ++ dV p.gs g p.gs.length
def rho (p : Pg) (f g : Nat → Nat) (s : ByteArray) : ByteArray := cH ((prN p f g).map (·.1)) ((prN p f g).map (·.2)) s
theorem om (fs : List Fu) (f : Nat → Nat) : ∀ i, (dl fs f i).length ≤ i
  | 0 => Nat.le_refl _
  | i + 1 => by
    have := om fs f i
    rw [dl]
    split; {
    split; {
    omega}; {
    rw [List.length_append]; show _ + 1 ≤ _; omega}}; {
    omega}
theorem prG_len (gs : List Gb) (g : Nat → Nat) : ∀ i, (dV gs g i).length ≤ i
  | 0 => Nat.le_refl _
  | i + 1 => by
    have := prG_len gs g i
    rw [dV]
    split; {
    rw [List.length_append]; show _ + 1 ≤ _; omega}; {
    omega}
theorem pH (k : Nat) : (fnN k).size ≤ k + 4 := by
  have := (d6 k k (Nat.le_refl _)).2
  rw [fnN, ByteArray.size_append, dH]
  show 3 + _ ≤ _; omega
theorem pI (k : Nat) : (daN k).size ≤ k + 6 := by
  have := (d6 k k (Nat.le_refl _)).2
  rw [daN, ByteArray.size_append, dH]
  show 5 + _ ≤ _; omega
theorem kp {t e sz by_ : Nat} {ti : TI} {dz : List D} (hti : T.bt.get e = some ti) (hd : g0 (ti.z.map Z.x) = some dz) (z : Value) (hz : Sl Tryz.prog t e sz by_ z) (H : Hp) : rdL H dz z.cells.toList := by
  obtain ⟨i, hi, hz1, _⟩ := hz.ex
  obtain ⟨inf, zv, hi2, hz2, hc⟩ := eh (BT.all_get T.ok hti)
  rw [hi2] at hi; cases hi
  rw [hz2] at hz1; cases hz1
  exact toDs_rdL hd (hc (fun _ _ => none) H)
def fu0 : Fu := ⟨eS, [], .mk 0 eS 0 [], [], false, 0, 0⟩
def gb0 : Gb := ⟨eS, .mk 0 eS 0 [], 0, 0, eS⟩
structure VarP (p x : Pg) (f g : Nat → Nat) : Prop where
  ts : x.ts = p.ts
  lf : x.fs.length = p.fs.length
  lg : x.gs.length = p.gs.length
  fs : ∀ i y, p.fs[i]? = some y → x.fs[f i]? = some (kb (rho p f g) y)
  gs : ∀ i y, p.gs[i]? = some y → ∃ ad, 0 ≤ ad ∧ ad ≤ 65535 ∧ x.gs[g i]? = some ⟨rho p f g y.nm, y.ty, y.bank, ad, y.bytes⟩
  of : OrdG p.fs.length f
  og : OrdG p.gs.length g
abbrev rnB (k : Nat) (R1 R2 : List (List D)) : XH := [⟨2, 0, .cells [.l 3 1 1 0 k k, .l 4 1 1 0 k k] 130⟩, ⟨3, 1, .row k R1 9 1⟩, ⟨4, 1, .row k R2 9 1⟩, ⟨1, 0, .cells [.z, .z, .z] 29⟩]
theorem setR_fn {L : List Fu} {j : Nat} {z : Fu} (h : L[j]? = some z) {nm : ByteArray} {ps : List Par} {res : Ty4} {body : List Sm} {fl : Bool} {x y : Int} : dS (L.map fuD) j 0 [.c (.string nm), .s (ps.map paD), .c (.int .i64 (tk res)), .c (.string (tnm res)), .c (.int .i64 (tn res)), .s (tyS res), .s (body.map smD), .c (.bool fl), .c (.int .i64 x), .c (.int .u16 y)] = (L.set j ⟨nm, ps, res, body, fl, x, y⟩).map fuD := by
  rw [dS, List.getElem?_map, h, List.map_set]; rfl
theorem setR_gn {L : List Gb} {j : Nat} {z : Gb} (h : L[j]? = some z) {nm s : ByteArray} {ty : Ty4} {b ad : Int} : dS (L.map gbD) j 0 [.c (.string nm), .c (.int .i64 (tk ty)), .c (.string (tnm ty)), .c (.int .i64 (tn ty)), .s (tyS ty), .c (.int .i64 b), .c (.int .u16 ad), .c (.string s)] = (L.set j ⟨nm, ty, b, ad, s⟩).map gbD := by
  rw [dS, List.getElem?_map, h, List.map_set]; rfl
theorem wr16 (n : Int) : 0 ≤ IntKind.u16.wrap n ∧ IntKind.u16.wrap n ≤ 65535 := by
  simp only [IntKind.wrap, IntKind.signed, IntKind.bits, Bool.false_and]
  rw [if_neg (by simp)]
  omega
abbrev vrB (p : Pg) (L : List Fu) (M : List Gb) : XH := [⟨7, 0, .cells [.d (.s (p.ts.map tdD)), .l 6 1 8 0 p.gs.length p.gs.length, .l 5 1 10 0 p.fs.length p.fs.length] 29⟩, ⟨6, 1, .row p.gs.length (M.map gbD) 63 8⟩, ⟨5, 1, .row p.fs.length (L.map fuD) 61 10⟩, ⟨1, 0, .cells [.z, .z, .z] 29⟩]
theorem qC {p : Pg} {B : Nat} (hok : p.ok B) (hB : B ≤ 1000000000) (hf5 : p.fs.length ≤ 500000) (hg5 : p.gs.length ≤ 500000) {s : Int} (hs : I64 s) : XP Tryz.prog pk 18 [xd (pgD p), xi s] (fun r => ∃ x f g, r = .t [.g (pgD x), .c (.d (.s ((rgG p.fs.length f).map ci))), .c (.d (.s ((rgG p.gs.length g).map ci)))] ∧ VarP p x f g) := by
  have hs7 : I64 (s.tdiv 7) := by
    have := m3 hs (show (2 : Int) ≤ 7 by omega)
    exact ⟨by omega, by omega⟩
  refine XP.en Tryz.func18 Tryz.ntmps18 (by rintro _ ⟨x, f, g, rfl, _⟩; rfl) (fun w0 own H V v0 hf => ?_)
  refine G (T := T) 100001 rfl ?_
  refine (FzTo.bz 0 rfl).c ?_
  refine G9 rfl ?_
  refine Ce (m4 (n := (p.fs.map fuD).length) (by rw [List.length_map]; exact hf5) hs) rfl rfl rfl rfl rfl ⟨rfl, rfl⟩ ?_
  rintro _ ⟨f, rfl, hof⟩
  rw [List.length_map] at hof ⊢
  refine G9 rfl ?_
  refine Ce (m4 (n := (p.gs.map gbD).length) (by rw [List.length_map]; exact hg5) hs7) rfl rfl rfl rfl rfl ⟨rfl, rfl⟩ ?_
  rintro _ ⟨g, rfl, hog⟩
  rw [List.length_map] at hog ⊢
  refine G9 rfl ((Nrh 2 0 9 1 rfl rfl rfl rfl rfl).c ?_)
  refine (Nrh 2 1 9 1 rfl rfl rfl rfl rfl).c ?_
  refine Lq [2, 4, 5, 6, 7, 8, 9] (fun (q : Nat × Nat × List (List D) × List (List D)) r => (10, xi (q.1 : Nat)) :: r) (fun q => rnB q.2.1 q.2.2.1 q.2.2.2) 5 (fun q => q.1 ≤ p.fs.length ∧ q.2.1 = (dl p.fs f q.1).length ∧ q.2.2.1 = (dl p.fs f q.1).map (fun y => a7 y.1) ∧ q.2.2.2 = (dl p.fs f q.1).map (fun y => a7 y.2)) (fun q => p.fs.length - q.1) (0, 0, [], []) rfl ⟨Nat.zero_le _, rfl, rfl, rfl⟩ ?_
  rintro ⟨i, k, R1, R2⟩ ⟨hi, hk, hR1, hR2⟩; dsimp only at hi hk hR1 hR2 ⊢
  have hpl := om p.fs f i
  refine G9 rfl (If rfl (fun h => ?_) (fun h => ?_)); {
  have hil := of_decide_eq_true h; rw [List.length_map] at hil
  obtain ⟨y, hy⟩ := ai (l := p.fs) (j := i) (by omega)
  have hfi := hof.lt i (by omega)
  have hstep : dl p.fs f (i + 1) = if dU y.nm then dl p.fs f i else dl p.fs f i ++ [(y.nm, fnN (f i))] := by rw [dl, hy]
  have hns := pH (f i)
  have h3 : (⟨#[102, 110, 95]⟩ : ByteArray).size = 3 := rfl
  have hds := dH (f i)
  have hdl := (d6 (f i) (f i) (Nat.le_refl _)).2
  refine G9 rfl (Ix (T := T) i (ab (f := fuD) hy) rfl rfl rfl rfl ⟨rfl, rfl⟩ rfl rfl ?_)
  refine Gs (T := T) 1000 rfl ?_
  refine If rfl (fun h => ?_) (fun h => ?_); {
  have h9 : dU y.nm = false := by
    obtain ⟨a1, a2⟩ := Bool.and_eq_true_iff.1 h
    have a1 := of_decide_eq_true a1
    have a2 := of_decide_eq_true a2
    rw [dU, decide_eq_false a1, decide_eq_false a2]; rfl
  rw [h9, if_neg (by simp)] at hstep
  refine G9 rfl (Ix (T := T) i (ab (f := ci) (bL (g := f) (by omega))) rfl rfl rfl rfl ⟨rfl, rfl⟩ rfl rfl ?_)
  refine G9 rfl (Cq (lu (f i) (f i) (Nat.le_refl _) (by omega)) rfl rfl rfl rfl rfl ⟨rfl, rfl⟩ ?_)
  refine G9 rfl ?_
  exact Nq (i + 1, k + 1, R1 ++ [a7 y.nm], R2 ++ [a7 (fnN (f i))]) ⟨by show i + 1 ≤ _; omega, by show k + 1 = _; rw [hstep, List.length_append, hk]; rfl, by dsimp only; rw [hstep, List.map_append, hR1]; rfl, by dsimp only; rw [hstep, List.map_append, hR2]; rfl⟩ (by show _ - (i + 1) < _ - i; omega)}; {
  have h9 : dU y.nm = true := by
    rw [dU]
    rcases Bool.and_eq_false_iff.1 h with h | h
    {
    have h := of_decide_eq_false h
    rw [decide_eq_true (Classical.not_not.1 h)]; rfl}; {
    have h := of_decide_eq_false h
    rw [decide_eq_true (Classical.not_not.1 h), Bool.or_true]}
  rw [h9, if_pos rfl] at hstep
  refine G9 rfl ?_
  exact Nq (i + 1, k, R1, R2) ⟨by show i + 1 ≤ _; omega, by show k = _; rw [hstep, hk], by dsimp only; rw [hstep, hR1], by dsimp only; rw [hstep, hR2]⟩ (by show _ - (i + 1) < _ - i; omega)}}
  have hil := of_decide_eq_false h; rw [List.length_map] at hil
  obtain rfl : i = p.fs.length := by omega
  refine G9 rfl ?_
  refine Lq [2, 4, 5, 6, 7, 8, 9] (fun (q : Nat × Nat × List (List D) × List (List D)) r => (12, xi (q.1 : Nat)) :: r) (fun q => rnB q.2.1 q.2.2.1 q.2.2.2) 5 (fun q => q.1 ≤ p.gs.length ∧ q.2.1 = (dl p.fs f p.fs.length ++ dV p.gs g q.1).length ∧ q.2.2.1 = (dl p.fs f p.fs.length ++ dV p.gs g q.1).map (fun y => a7 y.1) ∧ q.2.2.2 = (dl p.fs f p.fs.length ++ dV p.gs g q.1).map (fun y => a7 y.2)) (fun q => p.gs.length - q.1) (0, k, R1, R2) rfl ⟨Nat.zero_le _, by show k = _; rw [dV, List.append_nil]; exact hk, by show R1 = _; rw [dV, List.append_nil]; exact hR1, by show R2 = _; rw [dV, List.append_nil]; exact hR2⟩ ?_
  clear hk hR1 hR2 hi h hil
  rintro ⟨i, k, R1, R2⟩ ⟨hi, hk, hR1, hR2⟩; dsimp only at hi hk hR1 hR2 ⊢
  have hpl2 := prG_len p.gs g i
  rw [List.length_append] at hk
  refine G9 rfl (If rfl (fun h => ?_) (fun h => ?_)); {
  have hil := of_decide_eq_true h; rw [List.length_map] at hil
  obtain ⟨y, hy⟩ := ai (l := p.gs) (j := i) (by omega)
  have hgi := hog.lt i (by omega)
  have hstep : dV p.gs g (i + 1) = dV p.gs g i ++ [(y.nm, daN (g i))] := by rw [dV, hy]
  have hns := pI (g i)
  have h3 : (⟨#[100, 97, 116, 97, 95]⟩ : ByteArray).size = 5 := rfl
  have hds := dH (g i)
  have hdl := (d6 (g i) (g i) (Nat.le_refl _)).2
  refine G9 rfl (Ix (T := T) i (ab (f := gbD) hy) rfl rfl rfl rfl ⟨rfl, rfl⟩ rfl rfl ?_)
  refine G9 rfl (Ix (T := T) i (ab (f := ci) (bL (g := g) (by omega))) rfl rfl rfl rfl ⟨rfl, rfl⟩ rfl rfl ?_)
  refine G9 rfl (Cq (lu (g i) (g i) (Nat.le_refl _) (by omega)) rfl rfl rfl rfl rfl ⟨rfl, rfl⟩ ?_)
  refine G9 rfl ?_
  exact Nq (i + 1, k + 1, R1 ++ [a7 y.nm], R2 ++ [a7 (daN (g i))]) ⟨by show i + 1 ≤ _; omega, by show k + 1 = _; rw [hstep, List.length_append, List.length_append, hk]; rfl, by dsimp only; rw [hstep, ← List.append_assoc, List.map_append, hR1]; rfl, by dsimp only; rw [hstep, ← List.append_assoc, List.map_append, hR2]; rfl⟩ (by show _ - (i + 1) < _ - i; omega)}
  have hil := of_decide_eq_false h; rw [List.length_map] at hil
  obtain rfl : i = p.gs.length := by omega
  have hkn : k = (prN p f g).length := by rw [hk, prN, List.length_append]
  have hpl3 := om p.fs f p.fs.length
  subst hR1 hR2
  refine MS.fzc 3 rfl ?_ (by repeat' (first | exact trivial | apply And.intro | rfl | (rw [List.length_map, List.length_append]; exact hk)))
  refine MS.fzc 4 rfl ?_ (by repeat' (first | exact trivial | apply And.intro | rfl | (rw [List.length_map, List.length_append]; exact hk)))
  have e1 : (dl p.fs f p.fs.length ++ dV p.gs g p.gs.length).map (fun y => a7 y.1) = ((prN p f g).map (·.1)).map a7 := by rw [List.map_map]; rfl
  have e2 : (dl p.fs f p.fs.length ++ dV p.gs g p.gs.length).map (fun y => a7 y.2) = ((prN p f g).map (·.2)).map a7 := by rw [List.map_map]; rfl
  rw [e1, e2]
  have hold : ((prN p f g).map (·.1)).length ≤ 10000000 := by rw [List.length_map]; omega
  have hnew : ((prN p f g).map (·.2)).length = ((prN p f g).map (·.1)).length := by rw [List.length_map, List.length_map]
  refine (FzTo.bz 2 rfl).c ?_
  refine G9 rfl (Mz (T := T) p.fs.length (fuD fu0) rfl rfl rfl rfl ⟨rfl, rfl⟩ (by rw [List.length_map]) (by omega) (by omega) (fun z hz H => kp rfl rfl z hz H) ?_)
  refine G9 rfl (Mz (T := T) p.gs.length (gbD gb0) rfl rfl rfl rfl ⟨rfl, rfl⟩ (by rw [List.length_map]) (by omega) (by omega) (fun z hz H => kp rfl rfl z hz H) ?_)
  refine G9 rfl ?_
  have rep0 : ∀ (n : Nat), List.replicate n (fuD fu0) = (List.replicate n fu0).map fuD := fun n => by rw [List.map_replicate]
  have rep1 : ∀ (n : Nat), List.replicate n (gbD gb0) = (List.replicate n gb0).map gbD := fun n => by rw [List.map_replicate]
  rw [rep0, rep1]
  refine Lq [2, 4, 5, 6, 7, 8, 9, 13] (fun (q : Nat × List Fu) r => (14, xi (q.1 : Nat)) :: r) (fun q => vrB p q.2 (List.replicate p.gs.length gb0)) 8 (fun q => q.1 ≤ p.fs.length ∧ q.2.length = p.fs.length ∧ ∀ i y, i < q.1 → p.fs[i]? = some y → q.2[f i]? = some (kb (rho p f g) y)) (fun q => p.fs.length - q.1) (0, List.replicate p.fs.length fu0) rfl ⟨Nat.zero_le _, List.length_replicate, fun i y h => absurd h (Nat.not_lt_zero _)⟩ ?_
  rintro ⟨i, L⟩ ⟨hi, hL, hI⟩; dsimp only at hi hL hI ⊢
  refine G9 rfl (If rfl (fun h => ?_) (fun h => ?_)); {
  have hil := of_decide_eq_true h; rw [List.length_map] at hil
  obtain ⟨y, hy⟩ := ai (l := p.fs) (j := i) (by omega)
  have hfi := hof.lt i (by omega)
  obtain ⟨z, hz⟩ := ai (l := L) (j := f i) (by omega)
  have hyk := hok.f y (List.mem_of_getElem? hy)
  refine G9 rfl (Ix (T := T) i (ab (f := fuD) hy) rfl rfl rfl rfl ⟨rfl, rfl⟩ rfl rfl ?_)
  refine G9 rfl (Cq (oj hold hnew y.nm) rfl rfl rfl rfl rfl ⟨rfl, rfl⟩ ?_)
  refine G9 rfl (Cq (rn_stmts hold hnew B (by omega) (l := y.body) hyk.2.2.2.2.2.2.1) rfl rfl rfl rfl rfl ⟨rfl, rfl⟩ ?_)
  refine G9 rfl (Ix (T := T) i (ab (f := ci) (bL (g := f) (by omega))) rfl rfl rfl rfl ⟨rfl, rfl⟩ rfl rfl ?_)
  refine G9 rfl (Iq (T := T) (f i) rfl rfl rfl rfl rfl ⟨rfl, rfl⟩ rfl (by omega) rfl ?_)
  refine Sr (T := T) (ab (f := fuD) hz) rfl rfl rfl rfl rfl rfl rfl ⟨rfl, rfl⟩ rfl rfl ?_
  rw [setR_fn hz]
  refine G9 rfl ?_
  refine Nq (i + 1, L.set (f i) ⟨_, y.ps, y.res, _, y.fl, y.x, y.y⟩) ⟨by show i + 1 ≤ _; omega, by rw [List.length_set]; exact hL, fun j u hj hu => ?_⟩ (by show _ - (i + 1) < _ - i; omega)
  dsimp only at hj ⊢
  by_cases e : j = i; {
  subst e
  rw [hy] at hu; cases hu
  rw [List.getElem?_set_self (by omega)]
  have hb : bu (rho p f g) y.body = y.body.map (fE (rho p f g)) := eE _ _
  show some _ = some (kb (rho p f g) y)
  unfold kb
  rw [hb]; rfl}; {
  have hjl : j < p.fs.length := (List.getElem?_eq_some_iff.1 hu).1
  rw [List.getElem?_set_ne (fun h9 => e (hof.inj _ _ hjl (by omega) h9.symm))]
  exact hI j u (by omega) hu}}
  have hil := of_decide_eq_false h; rw [List.length_map] at hil
  obtain rfl : i = p.fs.length := by omega
  refine G9 rfl (Lq [2, 4, 5, 6, 7, 8, 9, 13] (fun (q : Nat × List Gb) r => (16, xi (q.1 : Nat)) :: r) (fun q => vrB p L q.2) 8 (fun q => q.1 ≤ p.gs.length ∧ q.2.length = p.gs.length ∧ ∀ i y, i < q.1 → p.gs[i]? = some y → ∃ ad, 0 ≤ ad ∧ ad ≤ 65535 ∧ q.2[g i]? = some ⟨rho p f g y.nm, y.ty, y.bank, ad, y.bytes⟩) (fun q => p.gs.length - q.1) (0, List.replicate p.gs.length gb0) rfl ⟨Nat.zero_le _, List.length_replicate, fun i y h => absurd h (Nat.not_lt_zero _)⟩ ?_)
  rintro ⟨i, M⟩ ⟨hi2, hM, hJ⟩; dsimp only at hi2 hM hJ ⊢
  refine G9 rfl (If rfl (fun h => ?_) (fun h => ?_)); {
  have hil := of_decide_eq_true h; rw [List.length_map] at hil
  obtain ⟨y, hy⟩ := ai (l := p.gs) (j := i) (by omega)
  have hgi := hog.lt i (by omega)
  obtain ⟨z, hz⟩ := ai (l := M) (j := g i) (by omega)
  have hyk := hok.g y (List.mem_of_getElem? hy)
  have fin : ∀ ad : Int, 0 ≤ ad ∧ ad ≤ 65535 → ∀ j u, j < i + 1 → p.gs[j]? = some u → ∃ ad', 0 ≤ ad' ∧ ad' ≤ 65535 ∧ (M.set (g i) ⟨rho p f g y.nm, y.ty, y.bank, ad, y.bytes⟩)[g j]? = some ⟨rho p f g u.nm, u.ty, u.bank, ad', u.bytes⟩ := fun ad had j u hj hu => by
    by_cases e : j = i; {
    subst e
    rw [hy] at hu; cases hu
    exact ⟨ad, had.1, had.2, List.getElem?_set_self (by omega)⟩}; {
    have hjl : j < p.gs.length := (List.getElem?_eq_some_iff.1 hu).1
    rw [List.getElem?_set_ne (fun h9 => e (hog.inj _ _ hjl (by omega) h9.symm))]
    exact hJ j u (by omega) hu}
  refine G9 rfl (Ix (T := T) i (ab (f := gbD) hy) rfl rfl rfl rfl ⟨rfl, rfl⟩ rfl rfl ?_)
  refine G9 rfl (Cq (oj hold hnew y.nm) rfl rfl rfl rfl rfl ⟨rfl, rfl⟩ ?_)
  refine G9 rfl (If rfl (fun h => ?_) (fun h => ?_)); {
  refine G (T := T) 175 rfl ?_
  refine Aw rfl rfl rfl ⟨rfl, rfl⟩ ?_
  refine G9 rfl (Ix (T := T) i (ab (f := ci) (bL (g := g) (by omega))) rfl rfl rfl rfl ⟨rfl, rfl⟩ rfl rfl ?_)
  refine G9 rfl (Iq (T := T) (g i) rfl rfl rfl rfl rfl ⟨rfl, rfl⟩ rfl (by omega) rfl ?_)
  refine Sr (T := T) (ab (f := gbD) hz) rfl rfl rfl rfl rfl rfl rfl ⟨rfl, rfl⟩ rfl rfl ?_
  rw [setR_gn hz]
  refine G9 rfl ?_
  exact Nq (i + 1, M.set (g i) ⟨_, y.ty, y.bank, _, y.bytes⟩) ⟨by show i + 1 ≤ _; omega, by rw [List.length_set]; exact hM, fin (IntKind.u16.wrap (y.addr + 4096)) (wr16 _)⟩ (by show _ - (i + 1) < _ - i; omega)}; {
  refine G9 rfl ?_
  refine Ix (T := T) i (ab (f := ci) (bL (g := g) (by omega))) rfl rfl rfl rfl ⟨rfl, rfl⟩ rfl rfl ?_
  refine G9 rfl (Iq (T := T) (g i) rfl rfl rfl rfl rfl ⟨rfl, rfl⟩ rfl (by omega) rfl ?_)
  refine Sr (T := T) (ab (f := gbD) hz) rfl rfl rfl rfl rfl rfl rfl ⟨rfl, rfl⟩ rfl rfl ?_
  rw [setR_gn hz]
  refine G9 rfl ?_
  exact Nq (i + 1, M.set (g i) ⟨_, y.ty, y.bank, _, y.bytes⟩) ⟨by show i + 1 ≤ _; omega, by rw [List.length_set]; exact hM, fin y.addr hyk.2.2.2.2.1⟩ (by show _ - (i + 1) < _ - i; omega)}}
  have hil := of_decide_eq_false h; rw [List.length_map] at hil
  obtain rfl : i = p.gs.length := by omega
  refine MS.fzc 5 rfl ?_ (by repeat' (first | exact trivial | apply And.intro | rfl | (rw [List.length_map]; exact hL.symm)))
  refine MS.fzc 6 rfl ?_ (by repeat' (first | exact trivial | apply And.intro | rfl | (rw [List.length_map]; exact hM.symm)))
  refine G9 rfl (Fp (T := T) (.t [.g (pgD ⟨p.ts, M, L⟩), .c (.d (.s ((rgG p.fs.length f).map ci))), .c (.d (.s ((rgG p.gs.length g).map ci)))]) ⟨⟨p.ts, M, L⟩, f, g, rfl, ⟨rfl, hL, hM, fun j u hu => hI j u (List.getElem?_eq_some_iff.1 hu).1 hu, fun j u hu => hJ j u (List.getElem?_eq_some_iff.1 hu).1 hu, hof, hog⟩⟩ rfl rfl)
end
open Go.WideMaps
def Iz (b : Nat) (o : Obj) : Nat → Obj → Prop := fun b' o' => b' = b ∧ o' = o
def entries : Obj → List MapEntry
  | .map es _ => es.toList
  | _ => []
def It (b : Nat) (o : Obj) (done : List MapEntry) (io : Obj) : Prop :=
  ∃ es clock seen, o = .map es clock ∧ io = .mapIter (some b) clock seen clock ∧ seen.toList = done.map (·.born) ∧ done.Nodup ∧ ∀ x ∈ done, x ∈ entries o
theorem MapR.entries {P : Program} {k e : TypeId} {o : Obj} {n : Nat} {f : Value → Option Value} (h : MapR P k e o n f) : (X.entries o).length = n ∧ ((X.entries o).map (·.key)).Nodup ∧ (∀ x ∈ X.entries o, f x.key = some x.val) ∧ ∀ key kl, keyOf P k key = some kl → f key ≠ none → ∃ x ∈ X.entries o, x.key = key := by
  obtain ⟨es, clock, rfl, F, rfl, hf, hg⟩ := h
  exact ⟨by simp [X.entries], F.stamped.2.2, hf, hg⟩
theorem ly {α : Type} : ∀ {d l : List α}, d.Nodup → (∀ x ∈ d, x ∈ l) → d.length ≤ l.length
  | [], _, _, _ => Nat.zero_le _
  | x :: d, l, hn, hs => by
    obtain ⟨a, b, rfl⟩ := List.append_of_mem (hs x (List.mem_cons_self ..))
    obtain ⟨h1, h2⟩ := List.nodup_cons.1 hn
    have := ly (l := a ++ b) h2 (fun y hy => by
      have := hs y (List.mem_cons_of_mem _ hy)
      simp only [List.mem_append, List.mem_cons] at this ⊢
      rcases this with h | rfl | h
      · exact .inl h
      · exact absurd hy h1
      · exact .inr h)
    simp only [List.length_cons, List.length_append] at this ⊢; omega
theorem nd_snoc {α : Type} {d l : List α} {z : α} (hn : d.Nodup) (hs : ∀ x ∈ d, x ∈ l) (hz : z ∈ l) (hd : z ∉ d) : (d ++ [z]).Nodup ∧ (∀ x ∈ d ++ [z], x ∈ l) ∧ l.length - (d ++ [z]).length < l.length - d.length := by
  have h1 : (d ++ [z]).Nodup := by
    rw [List.nodup_append]
    exact ⟨hn, by simp, by intro x h1 y h2 h3; simp at h2; subst h2; subst h3; exact hd h1⟩
  have h2 : ∀ x ∈ d ++ [z], x ∈ l := fun x hx => by
    rcases List.mem_append.1 hx with h | h
    {
    exact hs x h}; {
    rw [List.mem_singleton.1 h]; exact hz}
  refine ⟨h1, h2, ?_⟩
  have := ly h1 h2
  simp only [List.length_append, List.length_cons, List.length_nil] at this ⊢; omega
section
variable {P : Program} {x : Cx P} {T : Tb P} {k : List Fr} {E Er : XE} {hp : XH} {nx i : Nat} {ops : List Oper} {dm : Option (List Rc)} {l : List (Nat × Oper)} {d : Tmp} {ty : TypeId} {pos : String} {af : Array Edge} {g : Option (Nat × Bool)} {pk : Pk}
theorem SR.told {B : Bs} {Q : Nat → Obj → Prop} {j : Nat} {V : Vn} {H : Hp} {sg : Seg} {env : Env} (hs : SR B ⟨E, hp, nx⟩ V H sg env) (h : xlk E j = some (.a (.c (.d (.mp Q))))) : ∃ b o, Q b o ∧ SR B ⟨(j, .a (.c (.d (.mp (Iz b o))))) :: E, hp, nx⟩ V H sg env := by
  obtain ⟨v, h1, h2⟩ := hs.lk _ _ h
  simp only [XV.rel, XA.rel, XC.rel, rd] at h2
  obtain ⟨b, o, rfl, h3, h4⟩ := h2
  refine ⟨b, o, h4, fun i u hu => ?_, hs.hr, hs.top, hs.nd, hs.fresh, hs.le, hs.vle, hs.keep, hs.sub, hs.nxle⟩
  simp only [xlk] at hu
  cases hb : Nat.beq j i with
  | true =>
    rw [hb] at hu; cases hu
    rw [← Nat.eq_of_beq_eq_true hb]
    exact ⟨_, h1, by simp only [XV.rel, XA.rel, XC.rel, rd]; exact ⟨b, o, rfl, h3, rfl, rfl⟩⟩
  | false => rw [hb] at hu; exact hs.lk i u hu
theorem Ter {Q : Nat → Obj → Prop} (j : Nat) (h : xlk E j = some (.a (.c (.d (.mp Q))))) (hk : ∀ b o, Q b o → (MS.r ops none l k ⟨(j, .a (.c (.d (.mp (Iz b o))))) :: E, hp, nx⟩).ok x) : (MS.r ops none l k ⟨E, hp, nx⟩).ok x := fun B Q hB hp hK V H sg env hs =>
  let ⟨b, o, h4, h5⟩ := SR.told hs h
  hk b o h4 B Q hB hp hK V H sg env h5
theorem LS.rg {ops : Array Oper} {d : Option Tmp} {t kt e : TypeId} {m : Operand} {b n : Nat} {o : Obj} {f : Value → Option Value} (hm : xev Er m = some (.a (.c (.d (.mp (Iz b o)))))) (ht : T.bt.get t = some (.m kt e)) (hM : MapR P kt e o n f) :
    LS P pk ops { dst := d, op := .range t m, type := ty, pos := pos, after := af, guard := none } Er [] nx (nx + 1) (fun x fp' => x = .a (.c (.p nx 0 0)) ∧ fp' = [⟨nx, 0, .mp (It b o [])⟩]) := by
  intro w0 N Q' rest env own H V sg hl hV htp hf hd _ hh
  have hV0 := HR0 hV
  subst hV0
  obtain ⟨w1, h1, h2⟩ := hl.lks _ _ hm
  simp only [XV.rel, XA.rel, XC.rel, rd] at h2
  obtain ⟨b', o', rfl, h3, rfl, rfl⟩ := h2
  obtain ⟨es, clock, rfl, F, rfl, hf', hg'⟩ := hM
  have htu := mL (BT.all_get T.ok ht)
  refine TL.valE (φ := fun v own' H' => ∃ r, v = .pointer (some ⟨r, 0, none⟩) ∧ own' = [(r, .mapIter (some b') clock #[] clock)] :: [] :: own ∧ H' = H) rfl hd
    (fun a w ha hw => ⟨_, _, _, w.alloc (.mapIter (some b') clock #[] clock), ?_, ⟨w.heap.size, rfl, rfl, rfl⟩, hw.new _⟩) ?_
  {
  have hb' := MapKept.run_getObj_map (P := P) (hw.imm b' _ h3)
  have : (Instr.range t (.map (some b'))).run P w = .ok (.pointer (some ⟨w.heap.size, 0, none⟩)) (w.alloc (.mapIter (some b') clock #[] clock)) := by
    simp [Instr.range, run_underlying htu, hb', Result.andThen]
  simp [execOp, ha.ev h1, this]}; {
  rintro v own' H' ⟨r, rfl, rfl, rfl⟩
  obtain ⟨k1, k2, k3⟩ := cm (V := V) (H := H') (g := r) (ex := 0) (o := .mapIter (some b') clock #[] clock) (xo := .mp (It b' (.map es clock) [])) hf ⟨es, clock, #[], rfl, rfl, rfl, List.nodup_nil, by simp⟩
  have h9 := hh (.pointer (some ⟨r, 0, none⟩)) (.a (.c (.p nx 0 0))) _ _ H' _ ⟨rfl, rfl⟩ (by simp only [XV.rel, XA.rel, XC.rel]; exact ⟨r, 0, Vn.new_at .., rfl⟩) k1 k2 k3 (Le.refl _)
  exact TL.flat (own' := [(r, .mapIter (some b') clock #[] clock)] :: own) (by simp) h9}
theorem Rg {t kt e : TypeId} {m : Operand} {b n : Nat} {o : Obj} {f : Value → Option Value} (hM : MapR P kt e o n f) (hEr : vis dm ops { dst := some d, op := .range t m, type := ty, pos := pos, after := af, guard := g } E = Er) (hm : xev Er m = some (.a (.c (.d (.mp (Iz b o)))))) (ht : T.bt.get t = some (.m kt e)) (hb : aw ops Er g = some true ∧ okD x.N (some d) = true)
    (hk : (MS.r ops (push dm ⟨i, [nx], true, false⟩) l k ⟨(d, .a (.c (.p nx 0 0))) :: E, ⟨nx, 0, .mp (It b o [])⟩ :: hp, nx + 1⟩).ok x) (hdk : DkM dm ops ⟨i, [nx], true, false⟩ := by first | exact trivial | (refine DK.mk ?_; decide +kernel)) :
    (MS.r ops dm ((i, { dst := some d, op := .range t m, type := ty, pos := pos, after := af, guard := g }) :: l) k ⟨E, hp, nx⟩).ok x := by
  subst hEr
  have e0 : ae ([] : XH) ++ List.range' nx (nx + 1 - nx) = [nx] := by simp [ae]
  refine MS.op (fp := []) (rest := hp) true false hb.2 (.refl _) (Nat.le_succ _) (LS.yes (o := { dst := some d, op := .range t m, type := ty, pos := pos, after := af, guard := g }) hb.1 (LS.rg (T := T) hm ht hM)) (by rw [e0]; exact hdk) (fun _ => ⟨_, _, ⟨rfl, rfl⟩, fun _ _ h => h⟩) (fun h => by cases h) ?_
  rintro q fp' ⟨rfl, rfl⟩
  refine ⟨fun b' hb' => .inr ?_, by simp [ae], fun h => (by cases h), _, .refl _, ?_⟩; {
  obtain rfl := List.mem_singleton.1 hb'
  exact ⟨Nat.le_refl _, Nat.lt_succ_self _⟩}; {
  rw [e0]; exact hk}
theorem LS.ny {ops : Array Oper} {d : Option Tmp} {m : Operand} {b n gp t0 : Nat} {kt e : TypeId} {o : Obj} {f : Value → Option Value} {done : List MapEntry} {mj : Operand} (kx vx : Value → XA) (hM : MapR P kt e o n f) (hy : xev Er m = some (.a (.c (.p gp t0 0)))) (hm : xev Er mj = some (.a (.c (.d (.mp (Iz b o))))))
    (hkx : ∀ z ∈ entries o, ∀ V H, (kx z.key).rel V H z.key) (hvx : ∀ z ∈ entries o, ∀ V H, (vx z.val).rel V H z.val) :
    LS P pk ops { dst := d, op := .next m false, type := ty, pos := pos, after := af, guard := none } Er [⟨gp, t0, .mp (It b o done)⟩] nx nx (fun x fp' => ((∀ z ∈ entries o, z ∈ done) ∧ x = .t [.c (.d (.c (.bool false)))] ∧ fp' = [⟨gp, t0, .mp (It b o done)⟩]) ∨ ∃ z, z ∈ entries o ∧ z ∉ done ∧ x = .t [.c (.d (.c (.bool true))), kx z.key, vx z.val] ∧ fp' = [⟨gp, t0, .mp (It b o (done ++ [z]))⟩]) := by
  intro w0 N Q' rest env own H V sg hl hV htp hf hd _ hh
  obtain ⟨w1, h1, h2⟩ := hl.lks _ _ hy
  obtain ⟨w2, _, h4⟩ := hl.lks _ _ hm
  simp only [XV.rel, XA.rel, XC.rel, rd] at h2 h4
  obtain ⟨r, e0, hr0, rfl⟩ := h2
  obtain ⟨b', o', rfl, hb, rfl, rfl⟩ := h4
  obtain ⟨s1, s2, rfl, h7, rfl⟩ := hV
  obtain ⟨r', ob, ex, rfl, h8, h9⟩ := h7.resolve_right (by rintro ⟨_, _, _, _, h8, _⟩; cases h8)
  simp only at h8
  rw [h8] at hr0; cases hr0
  obtain ⟨es, clock, seen, rfl, rfl, hseen, hnd, hsub⟩ := (show It b' o' done ob from h9)
  obtain ⟨es', clock', he, F, _, _, _⟩ := hM
  cases he
  intro a w ha hw
  have hr : w.heap[r]? = some (.mapIter (some b') clock seen clock) := hw.own_blk (i := 0) (j := 0) rfl rfl
  have hmem : ∀ e ∈ es.toList, (seen.contains e.born = true ↔ e ∈ done) := by
    intro e hes
    constructor
    · intro h
      have h2 : e.born ∈ seen.toList := by simpa using h
      rw [hseen] at h2
      obtain ⟨x', hx', hb'⟩ := List.mem_map.1 h2
      have hx2 := hsub x' hx'
      have hn := F.stamped.2.1
      have : x' = e := by
        obtain ⟨p, hp⟩ := List.getElem?_of_mem hx2
        obtain ⟨q, hq⟩ := List.getElem?_of_mem hes
        have hpl := (List.getElem?_eq_some_iff.1 hp).1
        have e1 : (es.toList.map (·.born))[p]? = some x'.born := by rw [List.getElem?_map]; simp only [entries] at hp; rw [hp]; rfl
        have e2 : (es.toList.map (·.born))[q]? = some e.born := by rw [List.getElem?_map, hq]; rfl
        rw [hb', ← e2] at e1
        have := (List.getElem?_inj (by simpa [entries] using hpl) hn).1 e1
        subst this
        simp only [entries] at hp
        rw [hp] at hq
        exact Option.some.inj hq
      exact this ▸ hx'
    · intro h
      have : e.born ∈ seen.toList := by rw [hseen]; exact List.mem_map.2 ⟨e, h, rfl⟩
      simpa using this
  refine wpList_plain rfl fun K hK => ?_
  unfold Oper.wp
  rcases run_next_at (P := P) w ty r b' clock clock seen es clock hr (hw.imm b' _ hb) F.stamped.1 (Nat.le_refl _) with ⟨h0, hrun⟩ | ⟨e, he, w1, hw1, hrun⟩
  · have hop : (execOp a.eval { dst := d, op := .next m false, type := ty, pos := pos, after := af, guard := none }).run P w = .ok (.value (.tuple #[.bool false])) w := by simp [execOp, ha.ev h1, hrun]
    rw [hop]
    refine hK _ _ (hh (.tuple #[.bool false]) (.t [.c (.d (.c (.bool false)))]) _ V H [(r, .mapIter (some b') clock seen clock)] (.inl ⟨fun e hes => ?_, rfl, rfl⟩) ⟨_, rfl, by simp only [XA.rels, XA.rel, XC.rel, rd, and_true]; exact ⟨trivial, rfl⟩⟩ ⟨_, [], rfl, .inl ⟨r, _, _, rfl, h8, h9⟩, rfl⟩ htp (VX.refl _ _ _) (Le.refl _) _ _ (ha.put hd _) hw)
    rw [← hmem e hes]
    cases hc : seen.contains e.born with
    | true => rfl
    | false =>
      have : e ∈ leftOf es seen := by
        unfold leftOf
        rw [Array.mem_filter]
        exact ⟨by simpa [entries] using hes, by simp only [hc]; rfl⟩
      rw [Array.eq_empty_of_size_eq_zero h0] at this
      simp at this
  · have hop : (execOp a.eval { dst := d, op := .next m false, type := ty, pos := pos, after := af, guard := none }).run P w = .ok (.value (.tuple #[.bool true, e.key, e.val])) (setBlock w1 r (.mapIter (some b') clock (seen.push e.born) clock)) := by simp [execOp, ha.ev h1, hrun]
    rw [hop]
    have he2 : e ∈ es.toList ∧ seen.contains e.born = false := by
      have h1 : e ∈ es ∧ ¬ e.born ∈ seen := by simpa [leftOf] using he
      exact ⟨by simpa using h1.1, by simpa using h1.2⟩
    have hno : e ∉ done := fun h => by rw [← hmem e he2.1, he2.2] at h; cases h
    have hst : St w0 H ([(r, .mapIter (some b') clock seen clock)] :: own) w1 := by
      rcases hw1 with rfl | rfl
      · exact hw
      · exact hw.drew
    have hit : It b' (.map es clock) (done ++ [e]) (.mapIter (some b') clock (seen.push e.born) clock) := ⟨es, clock, seen.push e.born, rfl, rfl, by simp [hseen], by
      rw [List.nodup_append]
      exact ⟨hnd, by simp, by intro x' h1 y' h2 h3; simp at h2; subst h2; subst h3; exact hno h1⟩, by
      intro x' h1
      rcases List.mem_append.1 h1 with h1 | h1
      · exact hsub x' h1
      · simp at h1; subst h1; exact he2.1⟩
    exact hK _ _ (hh (.tuple #[.bool true, e.key, e.val]) (.t [.c (.d (.c (.bool true))), kx e.key, vx e.val]) _ V H [(r, .mapIter (some b') clock (seen.push e.born) clock)] (.inr ⟨e, he2.1, hno, rfl, rfl⟩) ⟨_, rfl, by simp only [XA.rels, and_true]; exact ⟨by simp only [XA.rel, XC.rel, rd]; exact ⟨trivial, rfl⟩, hkx e he2.1 V H, hvx e he2.1 V H⟩⟩ ⟨_, [], rfl, .inl ⟨r, _, _, rfl, h8, hit⟩, rfl⟩ (fun q hq t' ht' => by rw [List.mem_singleton] at hq; subst hq; exact htp _ (List.mem_singleton.2 rfl) t' ht') (VX.refl _ _ _) (Le.refl _) _ _ (ha.put hd _) (by simpa using hst.setObj (i := 0) (j := 0) rfl rfl))
theorem Ny {m : Operand} {b n gp t0 : Nat} {kt e : TypeId} {o : Obj} {f : Value → Option Value} {done : List MapEntry} {hp' : XO → XH} (mj : Operand) (kx vx : Value → XA) (hM : MapR P kt e o n f) (hkx : ∀ z ∈ entries o, ∀ V H, (kx z.key).rel V H z.key) (hvx : ∀ z ∈ entries o, ∀ V H, (vx z.val).rel V H z.val)
    (hEr : vis dm ops { dst := some d, op := .next m false, type := ty, pos := pos, after := af, guard := g } E = Er) (hy : xev Er m = some (.a (.c (.p gp t0 0)))) (hm : xev Er mj = some (.a (.c (.d (.mp (Iz b o)))))) (hg : aq hp gp = some ⟨gp, t0, .mp (It b o done)⟩) (hset' : ∀ o', bx hp gp t0 o' = some (hp' o')) (hb : aw ops Er g = some true ∧ okD x.N (some d) = true)
    (hover : (∀ z ∈ entries o, z ∈ done) → (MS.r ops (push dm ⟨i, [gp], true, true⟩) l k ⟨(d, .t [.c (.d (.c (.bool false)))]) :: E, hp' (.mp (It b o done)), nx⟩).ok x)
    (hnext : ∀ z, z ∈ entries o → z ∉ done → (MS.r ops (push dm ⟨i, [gp], true, true⟩) l k ⟨(d, .t [.c (.d (.c (.bool true))), kx z.key, vx z.val]) :: E, hp' (.mp (It b o (done ++ [z]))), nx⟩).ok x)
    (hdk : DkM dm ops ⟨i, [gp], true, true⟩ := by first | exact trivial | (refine DK.mk ?_; decide +kernel)) (hrl : RlM dm ops i l := by first | exact trivial | (refine RL.mk ?_; decide +kernel)) :
    (MS.r ops dm ((i, { dst := some d, op := .next m false, type := ty, pos := pos, after := af, guard := g }) :: l) k ⟨E, hp, nx⟩).ok x := by
  subst hEr
  obtain ⟨p1, p2, p3⟩ := aQ hg
  have e0 : ae [(⟨gp, t0, .mp (It b o done)⟩ : XB)] ++ List.range' nx (nx - nx) = [gp] := by simp [ae]
  refine MS.op (fp := [⟨gp, t0, .mp (It b o done)⟩]) (rest := bM hp gp) true true hb.2 p1 (Nat.le_refl _) (LS.yes (o := { dst := some d, op := .next m false, type := ty, pos := pos, after := af, guard := g }) hb.1 (LS.ny (n := n) (kt := kt) (e := e) (f := f) kx vx hM hy hm hkx hvx)) (by rw [e0]; exact hdk) (fun h => by cases h) (fun _ => hrl) ?_
  rintro q fp' (⟨h1, rfl, rfl⟩ | ⟨z, h1, h2, rfl, rfl⟩)
  {
  refine ⟨by simp [ae], by simp [ae], fun h => (by cases h), _, p3 _ _ _ (hset' _), ?_⟩
  rw [e0]; exact hover h1}; {
  refine ⟨by simp [ae], by simp [ae], fun h => (by cases h), _, p3 _ _ _ (hset' _), ?_⟩
  rw [e0]; exact hnext z h1 h2}
theorem LS.ey {ops : Array Oper} {d : Option Tmp} {m mj : Operand} {b n gp t0 : Nat} {kt e : TypeId} {o : Obj} {f : Value → Option Value} {done : List MapEntry} {z : MapEntry} (kx vx : XA) (hM : MapR P kt e o n f) (hy : xev Er m = some (.a (.c (.p gp t0 0)))) (hm : xev Er mj = some (.a (.c (.d (.mp (Iz b o))))))
    (hkx : ∀ V H, kx.rel V H z.key) (hvx : ∀ V H, vx.rel V H z.val) :
    LS P pk ops { dst := d, op := .entry m, type := ty, pos := pos, after := af, guard := none } Er [⟨gp, t0, .mp (It b o (done ++ [z]))⟩] nx nx (fun x fp' => x = .t [kx, vx] ∧ fp' = [⟨gp, t0, .mp (It b o (done ++ [z]))⟩]) := by
  intro w0 N Q' rest env own H V sg hl hV htp hf hd _ hh
  obtain ⟨w1, h1, h2⟩ := hl.lks _ _ hy
  obtain ⟨w2, _, h4⟩ := hl.lks _ _ hm
  simp only [XV.rel, XA.rel, XC.rel, rd] at h2 h4
  obtain ⟨r, e0, hr0, rfl⟩ := h2
  obtain ⟨b', o', rfl, hb, rfl, rfl⟩ := h4
  obtain ⟨s1, s2, rfl, h7, rfl⟩ := hV
  obtain ⟨r', ob, ex, rfl, h8, h9⟩ := h7.resolve_right (by rintro ⟨_, _, _, _, h8, _⟩; cases h8)
  simp only at h8
  rw [h8] at hr0; cases hr0
  obtain ⟨es, clock, seen, rfl, rfl, hseen, hnd, hsub⟩ := (show It b' o' (done ++ [z]) ob from h9)
  obtain ⟨es', clock', he, F, _, _, _⟩ := hM
  cases he
  intro a w ha hw
  have hs : seen = ((done.map (·.born)).toArray).push z.born := by
    have : seen.toList = (((done.map (·.born)).toArray).push z.born).toList := by simp [hseen]
    exact Array.toList_inj.1 this
  have hr : w.heap[r]? = some (.mapIter (some b') clock (((done.map (·.born)).toArray).push z.born) clock) := by rw [← hs]; exact hw.own_blk (i := 0) (j := 0) rfl rfl
  have hrun := run_entry_at (P := P) w r b' clock _ es clock z hr (hw.imm b' _ hb) (hsub z (by simp)) F.stamped.2.1
  refine wpList_plain rfl fun K hK => ?_
  unfold Oper.wp
  have hop : (execOp a.eval { dst := d, op := .entry m, type := ty, pos := pos, after := af, guard := none }).run P w = .ok (.value (.tuple #[z.key, z.val])) w := by simp [execOp, ha.ev h1, hrun]
  rw [hop]
  exact hK _ _ (hh (.tuple #[z.key, z.val]) (.t [kx, vx]) _ V H [(r, .mapIter (some b') clock seen clock)] ⟨rfl, rfl⟩ ⟨_, rfl, by simp only [XA.rels, and_true]; exact ⟨hkx V H, hvx V H⟩⟩ ⟨_, [], rfl, .inl ⟨r, _, _, rfl, h8, h9⟩, rfl⟩ htp (VX.refl _ _ _) (Le.refl _) _ _ (ha.put hd _) hw)
theorem Ey {m : Operand} {b n gp t0 : Nat} {kt e : TypeId} {o : Obj} {f : Value → Option Value} {done : List MapEntry} {z : MapEntry} (mj : Operand) (kx vx : XA) (hM : MapR P kt e o n f) (hkx : ∀ V H, kx.rel V H z.key) (hvx : ∀ V H, vx.rel V H z.val)
    (hEr : vis dm ops { dst := some d, op := .entry m, type := ty, pos := pos, after := af, guard := g } E = Er) (hy : xev Er m = some (.a (.c (.p gp t0 0)))) (hm : xev Er mj = some (.a (.c (.d (.mp (Iz b o)))))) (hg : aq hp gp = some ⟨gp, t0, .mp (It b o (done ++ [z]))⟩) (hb : aw ops Er g = some true ∧ okD x.N (some d) = true)
    (hk : (MS.r ops (push dm ⟨i, [gp], false, false⟩) l k ⟨(d, .t [kx, vx]) :: E, hp, nx⟩).ok x) (hdk : DkM dm ops ⟨i, [gp], false, false⟩ := by first | exact trivial | (refine DK.mk ?_; decide +kernel)) :
    (MS.r ops dm ((i, { dst := some d, op := .entry m, type := ty, pos := pos, after := af, guard := g }) :: l) k ⟨E, hp, nx⟩).ok x := MS.rd1 hg hEr hb (LS.ey (n := n) (kt := kt) (e := e) (f := f) kx vx hM hy hm hkx hvx) hdk hk
end
end Go.Proofs.YticengaggjcppaaGreat.X
