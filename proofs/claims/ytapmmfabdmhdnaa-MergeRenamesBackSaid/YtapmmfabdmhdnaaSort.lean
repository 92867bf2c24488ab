/-
  slices.SortFunc of paths by slices.Compare: the shelf's contract, turned to the judgement of Core.
-/
import Derived.Test.YtapmmfabdmhdnaaCmp
import Derived.Shelf.SlSortCmp.Whole1
import Derived.Test.YtapmmfabdmhdnaaShelf
set_option linter.unusedVariables false
set_option linter.unusedSimpArgs false
namespace Go.Proofs.Ytapmmfabdmhdnaa.K
open Go Go.RowKit Go.Proofs Go.Sort

theorem cmpP_refl : ∀ p : Path, cmpP p p = 0
  | [] => rfl
  | a :: p => by simp [cmpP, cmpP_refl p]
theorem cmpP_eq : ∀ {p q : Path}, cmpP p q = 0 → p = q
  | [], [], _ => rfl
  | [], _ :: _, h => by simp [cmpP] at h
  | _ :: _, [], h => by simp [cmpP] at h
  | a :: p, b :: q, h => by
    simp only [cmpP] at h
    split at h
    · simp at h
    · split at h
      · simp at h
      · rw [cmpP_eq h, show a = b by omega]
theorem cmpP_neg : ∀ (p q : Path), cmpP q p = - cmpP p q
  | [], [] => rfl
  | [], _ :: _ => rfl
  | _ :: _, [] => rfl
  | a :: p, b :: q => by
    simp only [cmpP, cmpP_neg p q]
    by_cases h1 : (a : Int) < b
    · rw [if_pos h1, if_neg (by omega), if_pos h1]; rfl
    · by_cases h2 : (b : Int) < a
      · rw [if_neg h1, if_pos h2, if_pos h2, if_neg h1]
      · rw [if_neg h1, if_neg h2, if_neg h2, if_neg h1]
theorem cmpP_trans : ∀ {p q r : Path}, cmpP p q ≤ 0 → cmpP q r ≤ 0 → cmpP p r ≤ 0
  | [], _, [], _, _ => by simp [cmpP]
  | [], _, _ :: _, _, _ => by simp [cmpP]
  | _ :: _, [], _, h, _ => by simp [cmpP] at h
  | _ :: _, _ :: _, [], _, h => by simp [cmpP] at h
  | a :: p, b :: q, c :: r, h1, h2 => by
    have ih := @cmpP_trans p q r
    simp only [cmpP] at *
    split at h1 <;> split at h2 <;> (try split at h1) <;> (try split at h2) <;> (try omega) <;> split <;> (try omega) <;> (try split) <;> (try omega)
    all_goals exact ih h1 h2
theorem cmpP_trans_lt {p q r : Path} (h1 : cmpP p q < 0) (h2 : cmpP q r < 0) : cmpP p r < 0 := by
  have h3 := cmpP_trans (p := p) (q := q) (r := r) (by omega) (by omega)
  rcases Int.lt_or_eq_of_le h3 with h | h
  · exact h
  · have := cmpP_eq h
    subst this
    rw [cmpP_neg] at h2
    omega

/-- A path as it lies in memory. -/
abbrev PathAt (H : Hp) := { x : Value × Path // rd H (pD x.2) x.1 }
instance (H : Hp) : Inhabited (PathAt H) := ⟨⟨(.slice none 0 0, []), rd.nil H 1⟩⟩
def PathAt.v {H : Hp} (x : PathAt H) : Value := x.1.1
def PathAt.cf {H : Hp} (x y : PathAt H) : Int := cmpP x.1.2 y.1.2
theorem PathAt.one {H : Hp} (x : PathAt H) : x.v.oneCell' = true := rd.one (sz := 1) x.2
theorem PathAt.swo (H : Hp) : SWO (ltOf (PathAt.cf (H := H))) where
  irrefl x := by simp [ltOf, PathAt.cf, cmpP_refl]
  trans x y z h1 h2 := by
    have h3 : cmpP x.1.2 y.1.2 < 0 := of_decide_eq_true h1
    have h4 : cmpP y.1.2 z.1.2 < 0 := of_decide_eq_true h2
    exact decide_eq_true (p := cmpP x.1.2 z.1.2 < 0) (cmpP_trans_lt h3 h4)
  ntrans x y z h1 h2 := by
    have h3 : ¬ cmpP x.1.2 y.1.2 < 0 := of_decide_eq_false h1
    have h4 : ¬ cmpP y.1.2 z.1.2 < 0 := of_decide_eq_false h2
    have e1 := cmpP_neg x.1.2 y.1.2
    have e2 := cmpP_neg y.1.2 z.1.2
    have e3 := cmpP_neg x.1.2 z.1.2
    have := cmpP_trans (p := z.1.2) (q := y.1.2) (r := x.1.2) (by omega) (by omega)
    exact decide_eq_false (p := cmpP x.1.2 z.1.2 < 0) (by omega)

theorem sortWorld_other {α : Type} [Inhabited α] (enc : α → Value) (w : World) (g m : Nat) (d : Array α) (os : Array Obj) {b : Nat} (hb : b < w.heap.size) (hg : b ≠ g) : (sortWorld enc w g 0 m d os).heap[b]? = w.heap[b]? := by
  unfold sortWorld grow putRow mapBlock Sort.ahead
  simp only
  rw [Array.getElem?_append_left (by simpa using hb), Array.getElem?_modify, if_neg (fun h => hg h.symm)]

theorem world_grown {W w' : World} (hos : w'.os = W.os) (htp : w'.tape = W.tape) (hdr : W.drawn ≤ w'.drawn) (hout : w'.output = W.output) (hb : ∀ b, b < W.heap.size → w'.heap[b]? = W.heap[b]?) : ∃ q os', w' = grow (W.drewN q) os' := by
  refine ⟨w'.drawn - W.drawn, w'.heap.extract W.heap.size w'.heap.size, ?_⟩
  have hsz : W.heap.size ≤ w'.heap.size := by
    rcases Nat.lt_or_ge w'.heap.size W.heap.size with h | h
    · have := hb w'.heap.size h
      simp at this
      omega
    · exact h
  have hheap : w'.heap = W.heap ++ w'.heap.extract W.heap.size w'.heap.size := by
    refine Array.ext_getElem? fun k => ?_
    by_cases hk : k < W.heap.size
    · rw [Array.getElem?_append_left hk, hb k hk]
    · rw [Array.getElem?_append_right (by omega), Array.getElem?_extract]
      by_cases hk2 : k < w'.heap.size
      · rw [if_pos (by omega)]
        congr 1; omega
      · rw [if_neg (by omega)]
        simp; omega
  obtain ⟨h1, h2, h3, h4, h5⟩ := w'
  simp only at hos htp hdr hout hheap
  subst hos; subst htp; subst hout
  unfold grow World.drewN
  simp only [World.mk.injEq, true_and, and_true]
  exact ⟨hheap, by omega⟩

theorem compare_lays {w0 w : World} {H : Hp} {own : List Seg} {g size : Nat} {cur : Array Value} (hw : St w0 H ([(g, .cells cur 22 (0, 0))] :: own) w) : CmpLays1 Try.prog 34 #[] PathAt.v (PathAt.cf (H := H)) g 0 size w := by
  intro m os dk hs x y
  generalize hW : sortWorld PathAt.v w g 0 m dk os = W
  have hWb : ∀ b, b < w.heap.size → b ≠ g → W.heap[b]? = w.heap[b]? := fun b hb hg => by rw [← hW]; exact sortWorld_other _ _ _ _ _ _ hb hg
  have hle : Le H (fun b => W.heap[b]?) := by
    intro b o hb
    have h1 := hw.imm b o hb
    have hne : b ≠ g := by
      rintro rfl
      have := hw.apart (b, .cells cur 22 (0, 0)) (by simp)
      rw [this] at hb
      cases hb
    show W.heap[b]? = some o
    rw [hWb b (hw.h_lt hb) hne, h1]
  have hst : St W (fun b => W.heap[b]?) [] W := ⟨rfl, ⟨rfl, Nat.le_refl _⟩, rfl, fun b o h => h, by simp, by simp, by simp⟩
  have hf := slices_compare (w0 := W) (H := fun b => W.heap[b]?) (own := []) (rd.mono hle x.2) (rd.mono hle y.2)
  refine (hf W hst).mono ?_
  rintro e w' ⟨v, own', H', rfl, ⟨rfl, rfl, hle'⟩, hst'⟩
  refine ⟨rfl, world_grown hst'.os hst'.tape.1 hst'.tape.2 hst'.output (fun b hb => ?_)⟩
  have h1 : W.heap[b]? = some W.heap[b] := by simp [hb]
  rw [h1]
  exact hst'.imm b _ (hle' b _ h1)

theorem paths_list {H : Hp} : ∀ {ps : List Path} {xs : List Value}, RdL H (ps.map pD) xs → ∃ l : List (PathAt H), l.map PathAt.v = xs ∧ l.map (fun x => x.1.2) = ps
  | [], [], _ => ⟨[], rfl, rfl⟩
  | p :: ps, x :: xs, h => by
    obtain ⟨l, h1, h2⟩ := paths_list h.2
    exact ⟨⟨(x, p), h.1⟩ :: l, congrArg (x :: ·) h1, congrArg (p :: ·) h2⟩
  | [], _ :: _, h => h.elim
  | _ :: _, [], h => h.elim
theorem paths_rdl {H : Hp} : ∀ (l : List (PathAt H)), RdL H ((l.map fun x => x.1.2).map pD) (l.map PathAt.v)
  | [] => trivial
  | x :: l => ⟨x.2, paths_rdl l⟩
def SortedP (ps : List Path) : Prop := ps.Pairwise fun a b => cmpP a b ≤ 0

theorem merge_sort {ps : List Path} (hne : ps ≠ []) (hlim : ps.length ≤ 1073741824) {w0 : World} {H : Hp} {own : List Seg} {u : Value} {seg : Seg} (hlog : Log H u ps seg) :
    Fn Try.prog 33 [u, .func (.func 34) #[] #[]] w0 H (seg :: own) (fun r own' H' => ∃ ps' seg', r = .tuple #[] ∧ own' = seg' :: own ∧ Log H' u ps' seg' ∧ ps'.Perm ps ∧ SortedP ps' ∧ Le H H') := by
  obtain ⟨xs, ⟨hlen, hrow⟩, hxs⟩ := hlog
  rcases hrow with ⟨_, h0, _⟩ | ⟨g, cap, cur, rfl, rfl, h1, h2, h3, h4⟩
  · exact absurd (List.eq_nil_of_length_eq_zero h0) hne
  · obtain ⟨l, rfl, hl2⟩ := paths_list hxs
    have hll : l.length = ps.length := by rw [← hl2]; simp
    intro w hw
    have hb : w.heap[g]? = some (.cells cur 22 (0, 0)) := hw.own_blk (i := 0) (j := 0) rfl rfl
    have hlt : g < w.heap.size := (Array.getElem?_eq_some_iff.1 hb).1
    have hcur : ∀ j, j < l.length → cur[j]? = some (l.toArray[j]!).v := by
      intro j hj
      have := congrArg (fun x : List Value => x[j]?) h4
      simp only [List.getElem?_map, List.getElem?_take] at this
      rw [if_pos (by omega)] at this
      have e : l.toArray[j]! = l[j] := by simp [hj]
      rw [e]
      simpa [hj] using this
    have hH : Holds PathAt.v w g 0 l.toArray := by
      intro j hj
      have hj' : j < l.length := by simpa using hj
      refine ⟨?_, by simp [World.frozen?, hb]⟩
      rw [cell_of_cells hb, Nat.zero_add]
      exact hcur j hj'
    have eg : ∀ args w, (callFunc 34 args).run Try.prog w = .ok (.enter 34 args) w := enters_of Try.func34 (by kernel_rfl) rfl
    have hc := Any.slices_SortFunc Try.sortPaths PathAt.v PathAt.one PathAt.cf (PathAt.swo H) 34 #[] g 0 cap l.toArray w eg (compare_lays hw) hH hlt (by simp; omega)
    have hsz : l.toArray.size = ps.length := by simpa using hll
    rw [hsz] at hc
    refine Calls.mono hc ?_
    rintro e w' ⟨rfl, d', n, os, ⟨hp1, _, hp2⟩, hs, rfl⟩
    have hd : d'.size = ps.length := hp1.trans hsz
    refine ⟨.tuple #[], [(g, .cells (putCells PathAt.v 0 d' cur) 22 (0, 0))] :: own, H, rfl, ⟨d'.toList.map fun x => x.1.2, _, rfl, rfl, ⟨d'.toList.map PathAt.v, ⟨by simp [hd], .inr ⟨g, cap, _, by simp [hd], rfl, by simp [hd]; omega, h2, by simp [putCells, h3], ?_⟩⟩, paths_rdl _⟩, ?_, ?_, Le.refl _⟩, ?_⟩
    · refine List.ext_getElem? fun j => ?_
      simp only [List.length_map, Array.length_toList, List.getElem?_take, List.getElem?_map, Nat.mul_one]
      by_cases hj : j < d'.size
      · rw [if_pos hj]
        have hj2 : j < cur.size := by omega
        simp [putCells, hj, hj2]
      · rw [if_neg hj]
        have : d'[j]? = none := by simp; omega
        simp [this]
    · rw [← hl2]
      refine List.Perm.map _ ?_
      have e1 : d'.extract 0 ps.length = d' := by rw [← hd]; simp
      have e2 : l.toArray.extract 0 ps.length = l.toArray := by rw [← hsz]; simp
      rw [e1, e2] at hp2
      simpa using hp2
    · refine List.pairwise_iff_getElem.2 fun i j hi hj hij => ?_
      simp only [List.length_map, Array.length_toList] at hi hj
      have h5 := hs i j (Nat.zero_le _) hij (by omega)
      have h6 : ¬ cmpP (d'[j]!).1.2 (d'[i]!).1.2 < 0 := of_decide_eq_false h5
      rw [cmpP_neg] at h6
      simp only [List.getElem_map, Array.getElem_toList]
      have e1 : d'[i]! = d'[i] := by simp [hi]
      have e2 : d'[j]! = d'[j] := by simp [hj]
      rw [e1, e2] at h6
      omega
    · have := hw.upd (i := 0) (w' := sortWorld PathAt.v w g 0 n d' os) (seg' := [(g, .cells (putCells PathAt.v 0 d' cur) 22 (0, 0))]) rfl rfl ⟨rfl, Nat.le_add_right _ _⟩ rfl
        (fun b hb2 hnb => sortWorld_other _ _ _ _ _ _ hb2 (by simpa using hnb)) (fun p hp => ?_) (by simp) (by simp)
      · simpa using this
      · simp only [List.mem_singleton] at hp
        subst hp
        show (sortWorld PathAt.v w g 0 n d' os).heap[g]? = _
        unfold sortWorld grow putRow mapBlock Sort.ahead
        simp only
        rw [Array.getElem?_append_left (by simpa using hlt), Array.getElem?_modify, if_pos rfl, hb]
        rfl
end Go.Proofs.Ytapmmfabdmhdnaa.K
