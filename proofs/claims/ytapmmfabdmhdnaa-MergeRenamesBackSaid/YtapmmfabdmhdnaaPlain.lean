/-
  Plain laws of the merge on trees: exchanging the sides, a side that did not change; conflicts in order, each once.
-/
import Derived.Test.YtapmmfabdmhdnaaSort
set_option linter.unusedVariables false
set_option linter.unusedSimpArgs false
namespace Go.Proofs.Ytapmmfabdmhdnaa.K
open Go Go.RowKit

/-! exchanging the sides -/
theorem insP_sym (l r : List Tr) (p : Path) : (insP l r p).2 = (insP r l p).2 ∧ ((insP l r p).2 = [] → (insP l r p).1 = (insP r l p).1) := by
  unfold insP
  by_cases h1 : l = []
  · subst h1
    by_cases h2 : r = []
    · subst h2; simp
    · simp [h2]
  · by_cases h2 : r = []
    · subst h2; simp [h1]
    · by_cases h3 : l = r
      · subst h3; simp
      · have h4 : ¬ r = l := fun h => h3 h.symm
        simp [h1, h2, h3, h4]
def SymF (f : Tr → Tr → Tr → Path → Tr × List Path) (b : Tr) : Prop := ∀ x y q, (f b x y q).2 = (f b y x q).2 ∧ ((f b x y q).2 = [] → (f b x y q).1 = (f b y x q).1)
theorem kidP_sym {f : Tr → Tr → Tr → Path → Tr × List Path} {b : Tr} (hf : SymF f b) (l r : Fate) (p : Path) : (kidP f b l r p).2 = (kidP f b r l p).2 ∧ ((kidP f b l r p).2 = [] → (kidP f b l r p).1 = (kidP f b r l p).1) := by
  cases l <;> cases r <;> simp [kidP]
  rename_i x y
  exact ⟨(hf x y p).1, (hf x y p).2⟩
theorem mergeK_sym {f : Tr → Tr → Tr → Path → Tr × List Path} {b : List Tr} (hf : ∀ t ∈ b, SymF f t) (x y : Al) (p : Path) (c0 : List Path) : ∀ i,
    (mergeK f b x y p c0 i).2 = (mergeK f b y x p c0 i).2 ∧ ((mergeK f b x y p c0 i).2 = [] → (mergeK f b x y p c0 i).1 = (mergeK f b y x p c0 i).1)
  | 0 => ⟨rfl, fun _ => rfl⟩
  | i + 1 => by
    have ih := mergeK_sym hf x y p c0 i
    have h1 := insP_sym (x.I.getD i []) (y.I.getD i []) (p ++ [i])
    simp only [mergeK]
    cases hb : b[i]? with
    | none =>
      simp only [List.append_eq_nil_iff]
      exact ⟨by rw [ih.1, h1.1], fun ⟨a, c⟩ => by rw [ih.2 a, h1.2 c]⟩
    | some t =>
      have h2 := kidP_sym (hf t (List.mem_of_getElem? hb)) (x.F.getD i .kept) (y.F.getD i .kept) (p ++ [i])
      simp only [List.append_eq_nil_iff]
      exact ⟨by rw [ih.1, h1.1, h2.1], fun ⟨⟨a, c⟩, d⟩ => by rw [ih.2 a, h1.2 c, h2.2 d]⟩
theorem mergeK_c0 {f : Tr → Tr → Tr → Path → Tr × List Path} {b : List Tr} {x y : Al} {p : Path} {c0 : List Path} : ∀ {i}, (mergeK f b x y p c0 i).2 = [] → c0 = []
  | 0, h => h
  | i + 1, h => by
    simp only [mergeK] at h
    cases hb : b[i]? with
    | none => rw [hb] at h; simp only [List.append_eq_nil_iff] at h; exact mergeK_c0 h.1
    | some t => rw [hb] at h; simp only [List.append_eq_nil_iff] at h; exact mergeK_c0 h.1.1
theorem labC_sym (b l r : ByteArray) (p : Path) : labC b l r p = labC b r l p ∧ (labC b l r p = [] → labP b l r = labP b r l) := by
  unfold labC labP
  by_cases h1 : l = b
  · subst h1
    by_cases h2 : r = l
    · subst h2; simp
    · simp [h2]
  · by_cases h2 : r = b
    · subst h2; simp [h1]
    · by_cases h3 : r = l
      · subst h3; simp
      · have h4 : ¬ l = r := fun h => h3 h.symm
        simp [h1, h2, h3, h4]
theorem mergeF_sym : ∀ (k : Nat) (b : Tr), b.size ≤ k → SymF (mergeF k) b
  | 0, b, h => by have := b.size_pos; omega
  | k + 1, b, h => by
    intro l r p
    by_cases h1 : l = b
    · rw [mf_a h1]
      by_cases h2 : r = b
      · rw [mf_a h2]; subst h1; subst h2; simp
      · rw [mf_b h2 (.inl h1)]; simp
    · by_cases h2 : r = b
      · rw [mf_b h1 (.inl h2), mf_a h2]; simp
      · by_cases h3 : l = r
        · rw [mf_b h1 (.inr h3), mf_b h2 (.inr h3.symm)]; subst h3; simp
        · obtain ⟨bl, bk⟩ := b
          obtain ⟨ll, lk⟩ := l
          obtain ⟨rl, rk⟩ := r
          rw [mf_c h1 h2 h3, mf_c h2 h1 (fun h => h3 h.symm)]
          have hs := mergeK_sym (f := mergeF k) (b := bk) (fun t ht => mergeF_sym k t (Tr.size_kid ht h)) (alignP bk lk) (alignP bk rk) p (labC bl ll rl p) (bk.length + 1)
          have hc := labC_sym bl ll rl p
          rw [← hc.1]
          refine ⟨hs.1, fun h0 => ?_⟩
          show Tr.node _ _ = Tr.node _ _
          rw [hs.2 h0, hc.2 (mergeK_c0 h0)]

/-! conflicts in order, each once -/
abbrev StrictP (ps : List Path) : Prop := ps.Pairwise fun a b => cmpP a b < 0
def insB (p : Path) : List Path → List Path
  | [] => [p]
  | q :: r => if cmpP p q < 0 then p :: q :: r else q :: insB p r
def addP (ps : List Path) (p : Path) : List Path := if p ∈ ps then ps else insB p ps
def canon (ps : List Path) : List Path := ps.foldl addP []
theorem insB_mem {p q : Path} : ∀ {ps : List Path}, q ∈ insB p ps ↔ q = p ∨ q ∈ ps
  | [] => by simp [insB]
  | a :: r => by
    simp only [insB]
    split
    · simp
    · simp only [List.mem_cons, insB_mem (ps := r)]
      constructor
      · rintro (h | h | h) <;> simp [h]
      · rintro (h | h | h) <;> simp [h]
theorem insB_strict {p : Path} : ∀ {ps : List Path}, StrictP ps → p ∉ ps → StrictP (insB p ps)
  | [], _, _ => by simp [insB]
  | a :: r, h, hp => by
    simp only [List.mem_cons, not_or] at hp
    have h1 := List.pairwise_cons.1 h
    simp only [insB]
    split
    · rename_i hlt
      refine List.pairwise_cons.2 ⟨fun x hx => ?_, h⟩
      rcases List.mem_cons.1 hx with rfl | hx
      · exact hlt
      · exact cmpP_trans_lt hlt (h1.1 x hx)
    · rename_i hlt
      refine List.pairwise_cons.2 ⟨fun x hx => ?_, insB_strict h1.2 hp.2⟩
      rcases insB_mem.1 hx with rfl | hx
      · have h2 := cmpP_neg a x
        rcases Int.lt_or_eq_of_le (show 0 ≤ cmpP x a by omega) with h3 | h3
        · omega
        · exact absurd (cmpP_eq h3.symm) hp.1
      · exact h1.1 x hx
theorem addP_mem {ps : List Path} {p q : Path} : q ∈ addP ps p ↔ q = p ∨ q ∈ ps := by
  unfold addP
  split
  · rename_i h
    constructor
    · exact .inr
    · rintro (rfl | h') <;> assumption
  · exact insB_mem
theorem addP_strict {ps : List Path} {p : Path} (h : StrictP ps) : StrictP (addP ps p) := by
  unfold addP
  split
  · exact h
  · rename_i hp; exact insB_strict h hp
theorem foldP_strict : ∀ {l ps : List Path}, StrictP ps → StrictP (l.foldl addP ps)
  | [], _, h => h
  | p :: l, _, h => foldP_strict (l := l) (addP_strict h)
theorem foldP_mem {q : Path} : ∀ {l ps : List Path}, q ∈ l.foldl addP ps ↔ q ∈ l ∨ q ∈ ps
  | [], _ => by simp
  | p :: l, ps => by
    simp only [List.foldl_cons, foldP_mem (l := l), addP_mem, List.mem_cons]
    constructor
    · rintro (h | h | h) <;> simp [h]
    · rintro ((h | h) | h) <;> simp [h]
theorem canon_strict (ps : List Path) : StrictP (canon ps) := foldP_strict List.Pairwise.nil
theorem canon_mem {ps : List Path} {q : Path} : q ∈ canon ps ↔ q ∈ ps := by simp [canon, foldP_mem]
theorem canon_append (a b : List Path) : canon (a ++ b) = b.foldl addP (canon a) := by simp [canon]
theorem strict_unique : ∀ {a b : List Path}, StrictP a → StrictP b → (∀ p, p ∈ a ↔ p ∈ b) → a = b
  | [], [], _, _, _ => rfl
  | [], q :: _, _, _, h => by have := (h q).2 (by simp); simp at this
  | p :: _, [], _, _, h => by have := (h p).1 (by simp); simp at this
  | p :: a, q :: b, ha, hb, h => by
    have h1 := List.pairwise_cons.1 ha
    have h2 := List.pairwise_cons.1 hb
    have e : p = q := by
      rcases List.mem_cons.1 ((h p).1 (by simp)) with e | e
      · exact e
      · rcases List.mem_cons.1 ((h q).2 (by simp)) with e' | e'
        · exact e'.symm
        · have h3 := h2.1 p e
          have h4 := h1.1 q e'
          have := cmpP_neg p q
          omega
    subst e
    have hp1 : p ∉ a := fun hc => by have := h1.1 p hc; rw [cmpP_refl] at this; omega
    have hp2 : p ∉ b := fun hc => by have := h2.1 p hc; rw [cmpP_refl] at this; omega
    rw [strict_unique h1.2 h2.2 fun x => ?_]
    constructor
    · intro hx
      rcases List.mem_cons.1 ((h x).1 (List.mem_cons_of_mem _ hx)) with rfl | h'
      · exact absurd hx hp1
      · exact h'
    · intro hx
      rcases List.mem_cons.1 ((h x).2 (List.mem_cons_of_mem _ hx)) with rfl | h'
      · exact absurd hx hp2
      · exact h'

/-! a sorted list without its repetitions -/
def dedF (p : Path) : List Path → List Path
  | [] => []
  | q :: r => if q = p then dedF p r else q :: dedF q r
def dedP : List Path → List Path
  | [] => []
  | p :: r => p :: dedF p r
theorem dedF_mem {p q : Path} : ∀ {l : List Path}, (q ∈ dedF p l ∨ q = p) ↔ (q ∈ l ∨ q = p)
  | [] => by simp [dedF]
  | a :: r => by
    simp only [dedF]
    split
    · rename_i h; subst h
      rw [dedF_mem]; simp only [List.mem_cons]
      constructor
      · rintro (h | h) <;> simp [h]
      · rintro ((h | h) | h) <;> simp [h]
    · simp only [List.mem_cons]
      have := dedF_mem (p := a) (q := q) (l := r)
      constructor
      · rintro ((h | h) | h)
        · simp [h]
        · rcases this.1 (.inl h) with h | h <;> simp [h]
        · simp [h]
      · rintro ((h | h) | h)
        · simp [h]
        · rcases this.2 (.inl h) with h | h <;> simp [h]
        · simp [h]
theorem ded_mem {q : Path} : ∀ {l : List Path}, q ∈ dedP l ↔ q ∈ l
  | [] => by simp [dedP]
  | p :: r => by
    have := dedF_mem (p := p) (q := q) (l := r)
    simp only [dedP, List.mem_cons]
    constructor
    · rintro (h | h)
      · simp [h]
      · rcases this.1 (.inl h) with h | h <;> simp [h]
    · rintro (h | h)
      · simp [h]
      · rcases this.2 (.inl h) with h | h <;> simp [h]
theorem dedF_strict {p : Path} : ∀ {l : List Path}, SortedP (p :: l) → StrictP (p :: dedF p l)
  | [], _ => by simp [dedF]
  | a :: r, h => by
    simp only [dedF]
    have h1 := List.pairwise_cons.1 h
    split
    · rename_i he; subst he
      exact dedF_strict (l := r) h1.2
    · rename_i hne
      have ih := dedF_strict (p := a) (l := r) h1.2
      have hpa : cmpP p a < 0 := by
        rcases Int.lt_or_eq_of_le (h1.1 a (by simp)) with h2 | h2
        · exact h2
        · exact absurd (cmpP_eq h2).symm hne
      refine List.pairwise_cons.2 ⟨fun x hx => ?_, ih⟩
      rcases List.mem_cons.1 hx with rfl | hx
      · exact hpa
      · exact cmpP_trans_lt hpa ((List.pairwise_cons.1 ih).1 x hx)
theorem ded_canon {l s : List Path} (hs : SortedP s) (hp : s.Perm l) : dedP s = canon l := by
  refine strict_unique ?_ (canon_strict l) (fun p => by rw [ded_mem, canon_mem]; exact hp.mem_iff)
  cases s with
  | nil => exact List.Pairwise.nil
  | cons p r => exact dedF_strict hs

/-! Merge -/
def mergeR (b l r : Tr) : Tr × List Path := let s := mergeF b.size b l r []; if s.2 = [] then (s.1, []) else (Tr.zero, canon s.2)
theorem mergeR_sym (b l r : Tr) : mergeR b l r = mergeR b r l := by
  have h := mergeF_sym b.size b (Nat.le_refl _) l r []
  simp only [mergeR, ← h.1]
  split
  · rename_i h0; rw [h.2 h0]
  · rfl
theorem mergeF_pos {b l r : Tr} {p : Path} : ∃ k, mergeF b.size b l r p = mergeF (k + 1) b l r p := by
  have := b.size_pos
  exact ⟨b.size - 1, by rw [Nat.sub_add_cancel this]⟩
theorem mergeR_right (b x : Tr) : mergeR b b x = (x, []) := by
  obtain ⟨k, hk⟩ := mergeF_pos (b := b) (l := b) (r := x) (p := [])
  simp only [mergeR, hk, mf_a, if_true]
theorem mergeR_left (b x : Tr) : mergeR b x b = (x, []) := by rw [mergeR_sym, mergeR_right]
theorem mergeR_both (b x : Tr) : mergeR b x x = (x, []) := by
  by_cases h : x = b
  · subst h; exact mergeR_right x x
  · obtain ⟨k, hk⟩ := mergeF_pos (b := b) (l := x) (r := x) (p := [])
    simp only [mergeR, hk, mf_b h (.inr rfl), if_true]
end Go.Proofs.Ytapmmfabdmhdnaa.K
