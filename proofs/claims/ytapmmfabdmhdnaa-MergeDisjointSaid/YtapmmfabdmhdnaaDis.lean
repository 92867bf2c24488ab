/-
  A row of kids of which each side turns one leaf of one kid: the merge holds both.
-/
import Derived.Test.YtapmmfabdmhdnaaIns
import Derived.Test.YtapmmfabdmhdnaaHelp
set_option linter.unusedVariables false
set_option linter.unusedSimpArgs false
namespace Go.Proofs.Ytapmmfabdmhdnaa.K
open Go Go.RowKit

def l97 (k : Nat) : ByteArray := ⟨#[UInt8.ofNat (97 + k)]⟩
def bM : ByteArray := ⟨#[109]⟩
def bN : ByteArray := ⟨#[110]⟩
def bX : ByteArray := ⟨#[120]⟩
def bY : ByteArray := ⟨#[121]⟩
def kK (k : Nat) : Tr := nodeP (l97 k) [bM, bN]
def kX (k : Nat) : Tr := nodeP (l97 k) [bX, bN]
def kY (k : Nat) : Tr := nodeP (l97 k) [bM, bY]
def kW (k : Nat) : Tr := nodeP (l97 k) [bX, bY]
theorem b1_ne {a b : UInt8} (hab : a ≠ b) : (⟨#[a]⟩ : ByteArray) ≠ ⟨#[b]⟩ := by
  intro he
  have h1 := congrArg (fun b : ByteArray => b.data[0]?) he
  simp at h1
  exact hab h1
theorem mx : bM ≠ bX := b1_ne (by decide)
theorem ny : bN ≠ bY := b1_ne (by decide)
theorem nx : bN ≠ bX := b1_ne (by decide)
theorem mn : bM ≠ bN := b1_ne (by decide)
theorem node_ne {s : ByteArray} {l l' : List ByteArray} (h : l ≠ l') : nodeP s l ≠ nodeP s l' := by
  intro he
  simp only [nodeP, Tr.node.injEq, true_and] at he
  apply h
  have := congrArg (List.map Tr.lab) he
  simpa [Function.comp_def, Tr.lab] using this
theorem node_lab {s s' : ByteArray} {l l' : List ByteArray} (h : nodeP s l = nodeP s' l') : s = s' ∧ l = l' := by
  simp only [nodeP, Tr.node.injEq] at h
  refine ⟨h.1, ?_⟩
  have := congrArg (List.map Tr.lab) h.2
  simpa [Function.comp_def, Tr.lab] using this
theorem l97_inj {i j : Nat} (hi : i ≤ 30) (hj : j ≤ 30) (h : l97 i = l97 j) : i = j := by
  have h1 := congrArg (fun b : ByteArray => b.data[0]?) h
  simp only [l97] at h1
  have h2 : UInt8.ofNat (97 + i) = UInt8.ofNat (97 + j) := by simpa using h1
  have h3 := congrArg UInt8.toNat h2
  simp at h3
  omega
theorem other_at {n a : Nat} (ha : a < n) (hn : n ≤ 30) {t : Tr} (ht : ∀ k, t ≠ kK k) : alignP ((List.range n).map kK) (((List.range n).map kK).set a t) = ⟨(List.replicate n Fate.kept).set a (.chg t), List.replicate (n + 1) []⟩ := by
  have hl : a < ((List.range n).map kK).length := by simpa using ha
  have e1 : ((List.range n).map kK) = ((List.range n).map kK).take a ++ kK a :: ((List.range n).map kK).drop (a + 1) := by
    have h1 := List.drop_eq_getElem_cons hl
    have h2 : ((List.range n).map kK)[a] = kK a := by simp
    rw [h2] at h1
    rw [← h1, List.take_append_drop]
  have e2 : (((List.range n).map kK).set a t) = ((List.range n).map kK).take a ++ t :: ((List.range n).map kK).drop (a + 1) := List.set_eq_take_append_cons_drop .. |>.trans (by rw [if_pos hl])
  have hd : kK a ∉ ((List.range n).map kK).drop (a + 1) := by
    intro hc
    obtain ⟨i, hi, e⟩ := List.mem_iff_getElem.1 hc
    simp only [List.length_drop, List.length_map, List.length_range] at hi
    rw [List.getElem_drop, List.getElem_map, List.getElem_range] at e
    have := l97_inj (by omega) (by omega) (node_lab e).1
    omega
  have hd' : t ∉ ((List.range n).map kK).drop (a + 1) := by
    intro hc
    obtain ⟨k, _, e⟩ := List.mem_map.1 (List.mem_of_mem_drop hc)
    exact ht k e.symm
  have h := align_other (d := kK a) (d' := t) (u := ((List.range n).map kK).take a) (v := ((List.range n).map kK).drop (a + 1)) (fun e => ht a e.symm) hd hd'
  rw [← e1, ← e2] at h
  rw [h]
  have e3 : (((List.range n).map kK).take a).length = a := by simp; omega
  rw [e3]
  simp
theorem kX_ne (k j : Nat) : kX k ≠ kK j := fun h => by
  have := (node_lab h).2
  simp only [List.cons.injEq] at this
  exact mx this.1.symm
theorem kY_ne (k j : Nat) : kY k ≠ kK j := fun h => by
  have := (node_lab h).2
  simp only [List.cons.injEq] at this
  exact ny this.2.1.symm
theorem kX_kY (k j : Nat) : kX k ≠ kY j := fun h => by
  have := (node_lab h).2
  simp only [List.cons.injEq] at this
  exact mx this.1.symm
theorem lfb_ne {a b : ByteArray} (h : a ≠ b) : Tr.node a [] ≠ Tr.node b [] := by simp [h]
theorem kid_both (k j : Nat) (p : Path) : mergeF (k + 1) (kK j) (kX j) (kY j) p = (kW j, []) := by
  have h1 := kX_ne j j
  have h2 := kY_ne j j
  have h3 := kX_kY j j
  have a1 := align_other (u := []) (v := [Tr.node bN []]) (d := .node bM []) (d' := .node bX []) (lfb_ne mx) (by simp [mn]) (by simp [nx.symm])
  have a2 := align_other (u := [Tr.node bM []]) (v := []) (d := .node bN []) (d' := .node bY []) (lfb_ne ny) (by simp) (by simp)
  simp only [List.nil_append, List.cons_append] at a1 a2
  simp only [kX, kY, kK, kW, nodeP, List.map_cons, List.map_nil] at h1 h2 h3 ⊢
  rw [mf_c h1 h2 h3, a1, a2, labP_1 rfl, labC_1 (.inl rfl)]
  simp [mergeK, insP, kidP]
def wantF (a b i : Nat) : Tr := if i = a then (if i = b then kW i else kX i) else if i = b then kY i else kK i
theorem dis_kids (k : Nat) {n a b : Nat} (p : Path) : ∀ i, i ≤ n →
    mergeK (mergeF (k + 1)) ((List.range n).map kK) ⟨(List.replicate n Fate.kept).set a (.chg (kX a)), List.replicate (n + 1) []⟩ ⟨(List.replicate n Fate.kept).set b (.chg (kY b)), List.replicate (n + 1) []⟩ p [] i = ((List.range i).map (wantF a b), [])
  | 0, _ => rfl
  | i + 1, h => by
    have ih := dis_kids k (n := n) (a := a) (b := b) p i (by omega)
    have f1 : ∀ (c : Nat) (t : Tr), ((List.replicate n Fate.kept).set c (.chg t))[i]? = some (if i = c then .chg t else .kept) := by
      intro c t
      rw [List.getElem?_set]
      by_cases hc : c = i
      · subst hc; simp; omega
      · rw [if_neg hc, if_neg (fun e => hc e.symm), List.getElem?_replicate, if_pos (by omega)]
    rw [mergeK_some (t := kK i) (la := []) (lb := []) (by rw [List.getElem?_map, List.getElem?_range (by omega)]; rfl) (by rw [List.getElem?_replicate, if_pos (by omega)]) (by rw [List.getElem?_replicate, if_pos (by omega)]) (f1 a _) (f1 b _), ih, List.range_succ, List.map_append]
    by_cases h1 : i = a
    · subst h1
      by_cases h2 : i = b
      · subst h2; simp [kidP, insP, wantF, kid_both]
      · simp [kidP, insP, wantF, h2]
    · by_cases h2 : i = b
      · subst h2; simp [kidP, insP, wantF, h1]
      · simp [kidP, insP, wantF, h1, h2]
theorem kK_size (k : Nat) : (kK k).size = 3 := by simp [kK, nodeP, Tr.size, Tr.sizes]
theorem nodes_sizes (f : Nat → Tr) (hf : ∀ k, (f k).size = 3) : ∀ n, Tr.sizes ((List.range n).map f) = 3 * n
  | 0 => by simp [Tr.sizes]
  | n + 1 => by
    have := nodes_sizes f hf n
    have h := hf n
    rw [List.range_succ, List.map_append, sizes_append, this]
    simp only [List.map_cons, List.map_nil, Tr.sizes]; omega
theorem set_ne {ks : List Tr} {a : Nat} {t : Tr} (h : ks[a]? ≠ some t) (ha : a < ks.length) : ks.set a t ≠ ks := by
  intro he
  have h1 := congrArg (fun l : List Tr => l[a]?) he
  simp only [List.getElem?_set_self ha] at h1
  exact h h1.symm
theorem dis_R {n a b : Nat} (hn : n ≤ 30) (ha : a < n) (hb : b < n) :
    mergeR (tN ((List.range n).map kK)) (tN (((List.range n).map kK).set a (kX a))) (tN (((List.range n).map kK).set b (kY b))) = (tN ((List.range n).map (wantF a b)), []) := by
  have hl : ((List.range n).map kK).length = n := by simp
  have n1 : tN (((List.range n).map kK).set a (kX a)) ≠ tN ((List.range n).map kK) := by
    intro h
    simp only [tN, Tr.node.injEq, true_and] at h
    exact set_ne (by simp [ha]; exact fun e => kX_ne a a e.symm) (by omega) h
  have n2 : tN (((List.range n).map kK).set b (kY b)) ≠ tN ((List.range n).map kK) := by
    intro h
    simp only [tN, Tr.node.injEq, true_and] at h
    exact set_ne (by simp [hb]; exact fun e => kY_ne b b e.symm) (by omega) h
  have n3 : tN (((List.range n).map kK).set a (kX a)) ≠ tN (((List.range n).map kK).set b (kY b)) := by
    intro h
    simp only [tN, Tr.node.injEq, true_and] at h
    have h1 := congrArg (fun l : List Tr => l[a]?) h
    simp only [List.getElem?_set_self (show a < ((List.range n).map kK).length by omega)] at h1
    rw [List.getElem?_set] at h1
    split at h1
    · split at h1
      · injection h1 with h1; exact kX_kY _ _ h1
      · cases h1
    · simp [ha] at h1; exact kX_ne _ _ h1
  obtain ⟨k, hk⟩ : ∃ k, (tN ((List.range n).map kK)).size = k + 1 + 1 := by
    have := nodes_sizes kK kK_size n
    exact ⟨(tN ((List.range n).map kK)).size - 2, by simp only [tN, Tr.size]; omega⟩
  have e : mergeF (k + 1 + 1) (tN ((List.range n).map kK)) (tN (((List.range n).map kK).set a (kX a))) (tN (((List.range n).map kK).set b (kY b))) [] = (tN ((List.range n).map (wantF a b)), []) := by
    unfold tN at *
    rw [mf_c n1 n2 n3, other_at ha hn (kX_ne a), other_at hb hn (kY_ne b), labP_1 rfl, labC_1 (.inl rfl), hl, mergeK_none (la := []) (lb := []) (by simp) (by simp) (by simp), dis_kids k _ n (Nat.le_refl _)]
    simp [insP]
  simp only [mergeR, hk, e, if_true]
theorem set_map (f : Nat → Tr) (n a : Nat) (t : Tr) : ((List.range n).map f).set a t = (List.range n).map (fun i => if i = a then t else f i) := by
  apply List.ext_getElem?
  intro i
  rw [List.getElem?_set]
  by_cases h : a = i
  · subst h
    by_cases h2 : a < n
    · simp [h2]
    · simp [h2]
  · rw [if_neg h]
    by_cases h2 : i < n
    · simp [h2]; exact fun e => absurd e.symm h
    · simp [h2]
theorem want_ne {n a b : Nat} (h : a ≠ b) : (((List.range n).map kK).set a (kX a)).set b (kY b) = (List.range n).map (wantF a b) := by
  rw [set_map, set_map]
  apply List.map_congr_left
  intro i _
  unfold wantF
  by_cases h1 : i = a
  · subst h1; simp [h]
  · by_cases h2 : i = b
    · subst h2; simp [h1]
    · simp [h1, h2]
theorem want_eq {n a : Nat} : ((((List.range n).map kK).set a (kX a)).set a (kY a)).set a (kW a) = (List.range n).map (wantF a a) := by
  rw [List.set_set, List.set_set, set_map]
  apply List.map_congr_left
  intro i _
  unfold wantF
  by_cases h1 : i = a
  · subst h1; simp
  · simp [h1]
theorem kX_size (k : Nat) : (kX k).size = 3 := by simp [kX, nodeP, Tr.size, Tr.sizes]
theorem kY_size (k : Nat) : (kY k).size = 3 := by simp [kY, nodeP, Tr.size, Tr.sizes]
theorem set_size {n : Nat} (hn : n ≤ 30) (a : Nat) {t : Tr} (ht : t.size = 3) : (tN (((List.range n).map kK).set a t)).size ≤ 100 := by
  rw [set_map]
  have := nodes_sizes (fun i => if i = a then t else kK i) (fun k => by
    by_cases h : k = a
    · simp only [h, if_true]; exact ht
    · simp only [h, if_false]; exact kK_size k) n
  simp only [tN, Tr.size]; omega
end Go.Proofs.Ytapmmfabdmhdnaa.K
