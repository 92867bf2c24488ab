/-
  Sizes and lengths of what the merge yields; a side's two slices as they lie in memory.
-/
import Derived.Test.YtapmmfabdmhdnaaAlign
set_option linter.unusedVariables false
set_option linter.unusedSimpArgs false
namespace Go.Proofs.Ytapmmfabdmhdnaa.K
open Go Go.RowKit

theorem alignGo_len (x : List Tr) : ∀ (l : List (Nat × Nat)) (i j : Nat) (a : Al), (alignGo x l i j a).F.length = a.F.length ∧ (alignGo x l i j a).I.length = a.I.length
  | [], _, _, _ => ⟨rfl, rfl⟩
  | (n, m) :: r, i, j, a => by
    have := alignGo_len x r (n + 1) (m + 1) ⟨gapK x i j n m (n - i) a.F, gapI x i j n m a.I⟩
    simp only [gapK_len, gapI_len] at this
    exact this
theorem alignP_F (b x : List Tr) : (alignP b x).F.length = b.length := by simp [alignP, alignGo_len]
theorem alignP_I (b x : List Tr) : (alignP b x).I.length = b.length + 1 := by simp [alignP, alignGo_len]

/-- A property of all fates that the alignment sets; of all insertions. -/
theorem gapK_all {x : List Tr} {i j n m : Nat} {Q : Fate → Prop} (hd : Q .del) (hx : ∀ t ∈ x, Q (.chg t)) (hz : Q (.chg Tr.zero)) : ∀ (c : Nat) (F : List Fate), (∀ f ∈ F, Q f) → ∀ f ∈ gapK x i j n m c F, Q f
  | 0, F, h => h
  | c + 1, F, h => by
    intro f hf
    simp only [gapK] at hf
    rcases List.mem_or_eq_of_mem_set hf with hf | rfl
    · exact gapK_all hd hx hz c F h f hf
    · split
      · rw [List.getD_eq_getElem?_getD]
        cases hq : x[j + c]? with
        | none => exact hz
        | some t => exact hx t (List.mem_of_getElem? hq)
      · exact hd
theorem gapI_all {x : List Tr} {i j n m : Nat} {Q : List Tr → Prop} (hx : ∀ l r, Q ((x.drop l).take r)) (I : List (List Tr)) (h : ∀ l ∈ I, Q l) : ∀ l ∈ gapI x i j n m I, Q l := by
  intro l hl
  unfold gapI at hl
  split at hl
  · exact h l hl
  · rcases List.mem_or_eq_of_mem_set hl with hl | rfl
    · exact h l hl
    · exact hx _ _
theorem alignGo_all {x : List Tr} {Q : Fate → Prop} {R : List Tr → Prop} (hd : Q .del) (hx : ∀ t ∈ x, Q (.chg t)) (hz : Q (.chg Tr.zero)) (hr : ∀ l r, R ((x.drop l).take r)) : ∀ (p : List (Nat × Nat)) (i j : Nat) (a : Al),
    (∀ f ∈ a.F, Q f) → (∀ l ∈ a.I, R l) → (∀ f ∈ (alignGo x p i j a).F, Q f) ∧ (∀ l ∈ (alignGo x p i j a).I, R l)
  | [], _, _, _, h1, h2 => ⟨h1, h2⟩
  | (n, m) :: p, i, j, a, h1, h2 => alignGo_all hd hx hz hr p (n + 1) (m + 1) _ (gapK_all hd hx hz _ _ h1) (gapI_all hr _ h2)
theorem alignP_all {b x : List Tr} {Q : Fate → Prop} {R : List Tr → Prop} (hk : Q .kept) (hd : Q .del) (hx : ∀ t ∈ x, Q (.chg t)) (hz : Q (.chg Tr.zero)) (hr : ∀ l r, R ((x.drop l).take r)) :
    (∀ f ∈ (alignP b x).F, Q f) ∧ (∀ l ∈ (alignP b x).I, R l) := by
  refine alignGo_all hd hx hz hr _ _ _ _ (fun f hf => ?_) (fun l hl => ?_)
  · rw [(List.mem_replicate.1 hf).2]; exact hk
  · rw [(List.mem_replicate.1 hl).2]
    have := hr 0 0
    simpa using this

theorem sizes_drop (ks : List Tr) (l : Nat) : Tr.sizes (ks.drop l) ≤ Tr.sizes ks := by
  induction ks generalizing l with
  | nil => simp
  | cons t r ih =>
    cases l with
    | zero => simp
    | succ l => simp only [List.drop_succ_cons, Tr.sizes]; have := ih l; omega
theorem sizes_take' (ks : List Tr) (l : Nat) : Tr.sizes (ks.take l) ≤ Tr.sizes ks := by
  induction ks generalizing l with
  | nil => simp
  | cons t r ih =>
    cases l with
    | zero => simp [Tr.sizes]
    | succ l => simp only [List.take_succ_cons, Tr.sizes]; have := ih l; omega
theorem align_fate {b x : List Tr} {k : Nat} {f : Fate} (hf : (alignP b x).F[k]? = some f) : f.to.size ≤ Tr.sizes x + 1 := by
  have := (alignP_all (b := b) (x := x) (Q := fun f => f.to.size ≤ Tr.sizes x + 1) (R := fun _ => True) (by simp [Fate.to, Tr.zero, Tr.size, Tr.sizes]) (by simp [Fate.to, Tr.zero, Tr.size, Tr.sizes])
    (fun t ht => by have := Tr.size_mem ht; simp only [Fate.to]; omega) (by simp [Fate.to, Tr.zero, Tr.size, Tr.sizes]) (fun _ _ => trivial)).1
  exact this f (List.mem_of_getElem? hf)
theorem align_ins {b x : List Tr} {k : Nat} {l : List Tr} (hf : (alignP b x).I[k]? = some l) : l.length ≤ x.length ∧ Tr.sizes l ≤ Tr.sizes x := by
  have := (alignP_all (b := b) (x := x) (Q := fun _ => True) (R := fun l => l.length ≤ x.length ∧ Tr.sizes l ≤ Tr.sizes x) trivial trivial (fun _ _ => trivial) trivial
    (fun l r => ⟨by simp; omega, Nat.le_trans (sizes_take' _ _) (sizes_drop _ _)⟩)).2
  exact this l (List.mem_of_getElem? hf)
theorem align_insD (b x : List Tr) (k : Nat) : ((alignP b x).I.getD k []).length ≤ x.length ∧ Tr.sizes ((alignP b x).I.getD k []) ≤ Tr.sizes x := by
  rw [List.getD_eq_getElem?_getD]
  cases h : (alignP b x).I[k]? with
  | none => simp [Tr.sizes]
  | some l => simpa using align_ins h
theorem align_fateD (b x : List Tr) (k : Nat) : ((alignP b x).F.getD k .kept).to.size ≤ Tr.sizes x + 1 := by
  rw [List.getD_eq_getElem?_getD]
  cases h : (alignP b x).F[k]? with
  | none => simp [Fate.to, Tr.zero, Tr.size, Tr.sizes]
  | some l => simpa using align_fate h

theorem insP_len (l r : List Tr) (p : Path) : (insP l r p).1.length ≤ max l.length r.length ∧ (insP l r p).2.length ≤ 1 := by
  unfold insP; split
  · simp; omega
  · split <;> simp; omega
theorem kidP_len (f : Tr → Tr → Tr → Path → Tr × List Path) (b : Tr) (l r : Fate) (p : Path) : (kidP f b l r p).1.length ≤ 1 := by cases l <;> cases r <;> simp [kidP]
theorem kidP_log (f : Tr → Tr → Tr → Path → Tr × List Path) (b : Tr) (l r : Fate) (p : Path) (hf : ∀ x y, (f b x y p).2.length + 2 ≤ 4 * b.size) : (kidP f b l r p).2.length + 2 ≤ 4 * b.size := by
  have := b.size_pos
  cases l <;> cases r <;> simp [kidP] <;> first | omega | exact hf _ _
theorem mergeK_len (f : Tr → Tr → Tr → Path → Tr × List Path) (b lk rk : List Tr) (p : Path) (c0 : List Path) (hl : lk.length ≤ 8192) (hr : rk.length ≤ 8192) : ∀ i, (mergeK f b (alignP b lk) (alignP b rk) p c0 i).1.length ≤ i * 8193
  | 0 => by simp [mergeK]
  | i + 1 => by
    have ih := mergeK_len f b lk rk p c0 hl hr i
    have h1 := (insP_len ((alignP b lk).I.getD i []) ((alignP b rk).I.getD i []) (p ++ [i])).1
    have h2 := (align_insD b lk i).1
    have h3 := (align_insD b rk i).1
    simp only [mergeK]
    cases hb : b[i]? with
    | none => simp only [List.length_append]; omega
    | some t =>
      have h4 := kidP_len f t ((alignP b lk).F.getD i .kept) ((alignP b rk).F.getD i .kept) (p ++ [i])
      simp only [List.length_append]; omega
theorem sizes_take_succ {ks : List Tr} {k : Nat} {x : Tr} (hx : ks[k]? = some x) : Tr.sizes (ks.take (k + 1)) = Tr.sizes (ks.take k) + x.size := by
  have gen : ∀ (a b : List Tr), Tr.sizes (a ++ b) = Tr.sizes a + Tr.sizes b := by
    intro a b
    induction a with
    | nil => simp [Tr.sizes]
    | cons t r ih => simp only [List.cons_append, Tr.sizes, ih]; omega
  rw [List.take_add_one, hx, gen]
  simp [Tr.sizes]
theorem mergeK_log (f : Tr → Tr → Tr → Path → Tr × List Path) (b : List Tr) (x y : Al) (p : Path) (c0 : List Path) (h0 : c0.length ≤ 1) (hf : ∀ t ∈ b, ∀ x y q, (f t x y q).2.length + 2 ≤ 4 * t.size) : ∀ i, i ≤ b.length → (mergeK f b x y p c0 i).2.length + i ≤ 1 + 4 * Tr.sizes (b.take i)
  | 0, _ => by simp [mergeK]; omega
  | i + 1, hi => by
    have ih := mergeK_log f b x y p c0 h0 hf i (by omega)
    have h1 := (insP_len (x.I.getD i []) (y.I.getD i []) (p ++ [i])).2
    obtain ⟨t, ht⟩ : ∃ t, b[i]? = some t := ⟨_, List.getElem?_eq_getElem (by omega)⟩
    have h2 := kidP_log f t (x.F.getD i .kept) (y.F.getD i .kept) (p ++ [i]) (fun x y => hf t (List.mem_of_getElem? ht) x y _)
    simp only [mergeK, ht]
    rw [sizes_take_succ ht]
    simp only [List.length_append]
    omega
theorem mergeK_end (f : Tr → Tr → Tr → Path → Tr × List Path) (b : List Tr) (x y : Al) (p : Path) (c0 : List Path) : (mergeK f b x y p c0 (b.length + 1)).2.length ≤ (mergeK f b x y p c0 b.length).2.length + 1 := by
  have h1 := (insP_len (x.I.getD b.length []) (y.I.getD b.length []) (p ++ [b.length])).2
  have : b[b.length]? = none := by simp
  rw [mergeK]
  simp only [this, List.length_append]
  omega
theorem labC_len (b l r : ByteArray) (p : Path) : (labC b l r p).length ≤ 1 := by unfold labC; split <;> simp
theorem mergeF_log : ∀ (k : Nat) (b l r : Tr) (p : Path), (mergeF k b l r p).2.length + 2 ≤ 4 * b.size
  | 0, b, l, r, p => by have := b.size_pos; simp [mergeF]; omega
  | k + 1, b, l, r, p => by
    have hb := b.size_pos
    simp only [mergeF]
    split
    · simp; omega
    · split
      · simp; omega
      · have h1 := mergeK_log (mergeF k) b.kids (alignP b.kids l.kids) (alignP b.kids r.kids) p (labC b.lab l.lab r.lab p) (labC_len _ _ _ _) (fun t _ x y q => mergeF_log k t x y q) b.kids.length (Nat.le_refl _)
        have h2 := mergeK_end (mergeF k) b.kids (alignP b.kids l.kids) (alignP b.kids r.kids) p (labC b.lab l.lab r.lab p)
        obtain ⟨lb, bk⟩ := b
        simp only [Tr.kids, Tr.size, List.take_length] at *
        have h3 := Tr.len_le bk
        omega

/-! sizes of the result -/
theorem sizes_append : ∀ (a b : List Tr), Tr.sizes (a ++ b) = Tr.sizes a + Tr.sizes b
  | [], b => by simp [Tr.sizes]
  | t :: r, b => by simp only [List.cons_append, Tr.sizes, sizes_append r b]; omega
theorem insP_sizes (l r : List Tr) (p : Path) : Tr.sizes (insP l r p).1 ≤ Tr.sizes l + Tr.sizes r := by
  unfold insP; split
  · simp
  · split <;> simp [Tr.sizes]
theorem kidP_sizes {M : Nat} (f : Tr → Tr → Tr → Path → Tr × List Path) (b : Tr) (l r : Fate) (p : Path) (hl : l.to.size ≤ M) (hr : r.to.size ≤ M) (hb : b.size ≤ M)
    (hf : ∀ x y, x.size ≤ M → y.size ≤ M → (f b x y p).1.size ≤ 4 * M * (2 * b.size - 1)) : Tr.sizes (kidP f b l r p).1 ≤ 4 * M * (2 * b.size - 1) := by
  have hp := b.size_pos
  have key : M ≤ 4 * M * (2 * b.size - 1) := by
    have : 4 * M * 1 ≤ 4 * M * (2 * b.size - 1) := Nat.mul_le_mul_left _ (by omega)
    omega
  cases l <;> cases r <;> simp only [kidP, Tr.sizes, Nat.add_zero, Fate.to, Nat.zero_le] at * <;> first | omega | exact hf _ _ hl hr
theorem mergeK_sizes {M : Nat} (f : Tr → Tr → Tr → Path → Tr × List Path) (b lk rk : List Tr) (p : Path) (c0 : List Path) (hb : ∀ t ∈ b, t.size ≤ M) (hl : Tr.sizes lk + 1 ≤ M) (hr : Tr.sizes rk + 1 ≤ M)
    (hf : ∀ t ∈ b, ∀ x y q, x.size ≤ M → y.size ≤ M → (f t x y q).1.size ≤ 4 * M * (2 * t.size - 1)) : ∀ i, i ≤ b.length → Tr.sizes (mergeK f b (alignP b lk) (alignP b rk) p c0 i).1 + 2 * M * i ≤ 4 * M * (2 * Tr.sizes (b.take i))
  | 0, _ => by simp [mergeK, Tr.sizes]
  | i + 1, hi => by
    have ih := mergeK_sizes f b lk rk p c0 hb hl hr hf i (by omega)
    obtain ⟨t, ht⟩ : ∃ t, b[i]? = some t := ⟨_, List.getElem?_eq_getElem (by omega)⟩
    have hm := List.mem_of_getElem? ht
    have h1 := insP_sizes ((alignP b lk).I.getD i []) ((alignP b rk).I.getD i []) (p ++ [i])
    have h2 := (align_insD b lk i).2
    have h3 := (align_insD b rk i).2
    have h4 := align_fateD b lk i
    have h5 := align_fateD b rk i
    have h6 := kidP_sizes (M := M) f t ((alignP b lk).F.getD i .kept) ((alignP b rk).F.getD i .kept) (p ++ [i]) (by omega) (by omega) (hb t hm) (fun x y hx hy => hf t hm x y _ hx hy)
    simp only [mergeK, ht, sizes_append]
    rw [sizes_take_succ ht]
    have hp := t.size_pos
    have e : 4 * M * (2 * (Tr.sizes (b.take i) + t.size)) = 4 * M * (2 * Tr.sizes (b.take i)) + 4 * M * (2 * t.size - 1) + 4 * M := by
      have : 2 * (Tr.sizes (b.take i) + t.size) = 2 * Tr.sizes (b.take i) + (2 * t.size - 1) + 1 := by omega
      rw [this, Nat.mul_add, Nat.mul_add]; omega
    rw [e, Nat.mul_add]
    omega
theorem mergeF_size {M : Nat} : ∀ (k : Nat) (b l r : Tr) (p : Path), b.size ≤ M → l.size ≤ M → r.size ≤ M → (mergeF k b l r p).1.size ≤ 4 * M * (2 * b.size - 1)
  | 0, b, l, r, p, hb, hl, hr => by
    have hp := b.size_pos
    have : 4 * M * 1 ≤ 4 * M * (2 * b.size - 1) := Nat.mul_le_mul_left _ (by omega)
    simp only [mergeF]; omega
  | k + 1, b, l, r, p, hb, hl, hr => by
    have hp := b.size_pos
    have hM : 4 * M * 1 ≤ 4 * M * (2 * b.size - 1) := Nat.mul_le_mul_left _ (by omega)
    simp only [mergeF]
    split
    · simp only; omega
    · split
      · simp only; omega
      · obtain ⟨lb, bk⟩ := b
        obtain ⟨ll, lk⟩ := l
        obtain ⟨lr, rk⟩ := r
        simp only [Tr.kids, Tr.size] at *
        have h1 := mergeK_sizes (M := M) (mergeF k) bk lk rk p (labC lb ll lr p) (fun t ht => by have := Tr.size_mem ht; omega) hl hr (fun t ht x y q hx hy => mergeF_size k t x y q (by have := Tr.size_mem ht; omega) hx hy) bk.length (Nat.le_refl _)
        have h2 := insP_sizes ((alignP bk lk).I.getD bk.length []) ((alignP bk rk).I.getD bk.length []) (p ++ [bk.length])
        have h3 := (align_insD bk lk bk.length).2
        have h4 := (align_insD bk rk bk.length).2
        have h5 : bk[bk.length]? = none := by simp
        simp only [Tr.lab]
        rw [mergeK]
        simp only [h5, sizes_append, List.take_length] at h1 ⊢
        have e : 4 * M * (2 * (Tr.sizes bk + 1) - 1) = 4 * M * (2 * Tr.sizes bk) + 4 * M := by
          rw [show 2 * (Tr.sizes bk + 1) - 1 = 2 * Tr.sizes bk + 1 by omega, Nat.mul_add]; omega
        rw [e]
        omega

/-! in memory -/
theorem al_cells {H : Hp} {a : Al} {x0 x1 : Value} (h : RdL H a.d [x0, x1]) : ∃ A0 c0 A1 c1, x0 = .slice A0 a.F.length c0 ∧ x1 = .slice A1 a.I.length c1 ∧ rd H (.s 3 (Fate.ds a.F)) (.slice A0 a.F.length c0) ∧ rd H (.s 1 (insD a.I)) (.slice A1 a.I.length c1) := by
  obtain ⟨h1, h2, _⟩ := h
  obtain ⟨A0, n0, c0, rfl, e0, _⟩ := h1.s_len
  obtain ⟨A1, n1, c1, rfl, e1, _⟩ := h2.s_len
  rw [Fate.ds_len] at e0
  simp only [insD, List.length_map] at e1
  have : n0 = a.F.length := by omega
  subst this
  have : n1 = a.I.length := by omega
  subst this
  exact ⟨A0, c0, A1, c1, rfl, rfl, h1, h2⟩
theorem ins_at {H : Hp} {I : List (List Tr)} {A : Option Addr} {c : Nat} (h : rd H (.s 1 (insD I)) (.slice A I.length c)) {k : Nat} {l : List Tr} (hk : I[k]? = some l) : ∃ b o v, A = some ⟨b, o, none⟩ ∧ cel H b (o + k * 1) = some v ∧ rd H (.s 2 (Tr.ds l)) v := by
  have hlt : k < I.length := (List.getElem?_eq_some_iff.1 hk).1
  obtain ⟨_, b, o, rfl, hr⟩ := h.s_at (by omega)
  obtain ⟨v, h1, h2⟩ := hr.get k (.s 2 (Tr.ds l)) (by simp [insD, hk])
  exact ⟨b, o, v, rfl, by rw [Nat.mul_one]; exact h1, h2⟩
theorem fates_get : ∀ (F : List Fate) (k : Nat) (f : Fate), F[k]? = some f → ∀ q, q < 3 → (Fate.ds F)[k * 3 + q]? = f.d[q]?
  | [], k, f, h, _, _ => by simp at h
  | a :: F, 0, f, h, q, hq => by
    simp at h; subst h
    simp only [Fate.ds, List.flatMap_cons, Nat.zero_mul, Nat.zero_add]
    rw [List.getElem?_append_left (by rw [Fate.d_eq]; simpa using hq)]
  | a :: F, k + 1, f, h, q, hq => by
    have ih := fates_get F k f (by simpa using h) q hq
    simp only [Fate.ds, List.flatMap_cons] at ih ⊢
    rw [List.getElem?_append_right (by rw [Fate.d_eq]; simp; omega), ← ih]
    congr 1
    rw [Fate.d_eq]; simp; omega
theorem fate_at {H : Hp} {F : List Fate} {A : Option Addr} {c : Nat} (h : rd H (.s 3 (Fate.ds F)) (.slice A F.length c)) {k : Nat} {f : Fate} (hk : F[k]? = some f) : ∃ b o c0 c1 c2, A = some ⟨b, o, none⟩ ∧ hAt H b (o + k * 3) [c0, c1, c2] ∧ RdL H f.d [c0, c1, c2] := by
  have hlt : k < F.length := (List.getElem?_eq_some_iff.1 hk).1
  obtain ⟨_, b, o, rfl, hr⟩ := h.s_at (by omega)
  have g := fates_get F k f hk
  rw [Fate.d_eq] at g
  obtain ⟨u0, a0, r0⟩ := hr.get (k * 3) _ (by have := g 0 (by omega); simpa using this)
  obtain ⟨u1, a1, r1⟩ := hr.get (k * 3 + 1) _ (by have := g 1 (by omega); simpa using this)
  obtain ⟨u2, a2, r2⟩ := hr.get (k * 3 + 2) _ (by have := g 2 (by omega); simpa using this)
  refine ⟨b, o, u0, u1, u2, rfl, ⟨a0, by rw [← a1]; congr 1, by rw [← a2]; congr 1, trivial⟩, ?_⟩
  rw [Fate.d_eq]
  exact ⟨r0, r1, r2, trivial⟩
theorem path_snoc {H : Hp} {p : Path} {i : Nat} {v : Value} {seg : Seg} (h : Row 3 1 v (p.length + 1) (pV p ++ [.int .i64 (i : Int)]) seg) (hz : ∀ q ∈ seg, H q.1 = some q.2) : rd H (pD (p ++ [i])) v := by
  refine rd.ofRow h hz ?_ (Le.refl _)
  have e : pV (p ++ [i]) = pV p ++ [.int .i64 (i : Int)] := by simp [pV]
  rw [e]
  exact RdL.vals (pV p ++ _)
theorem mf_a {k : Nat} {b l r : Tr} {p : Path} (h : l = b) : mergeF (k + 1) b l r p = (r, []) := by simp only [mergeF]; rw [if_pos h]
theorem mf_b {k : Nat} {b l r : Tr} {p : Path} (h : l ≠ b) (h2 : r = b ∨ l = r) : mergeF (k + 1) b l r p = (l, []) := by simp only [mergeF]; rw [if_neg h, if_pos h2]
theorem mf_c {k : Nat} {bl ll rl : ByteArray} {bk lk rk : List Tr} {p : Path} (h : Tr.node ll lk ≠ .node bl bk) (h1 : Tr.node rl rk ≠ .node bl bk) (h2 : Tr.node ll lk ≠ .node rl rk) :
    mergeF (k + 1) (.node bl bk) (.node ll lk) (.node rl rk) p = (.node (labP bl ll rl) (mergeK (mergeF k) bk (alignP bk lk) (alignP bk rk) p (labC bl ll rl p) (bk.length + 1)).1, (mergeK (mergeF k) bk (alignP bk lk) (alignP bk rk) p (labC bl ll rl p) (bk.length + 1)).2) := by
  simp only [mergeF]
  rw [if_neg h, if_neg (by rintro (h | h) <;> contradiction)]
  rfl
theorem labP_1 {b l r : ByteArray} (h : l = b) : labP b l r = r := if_pos h
theorem labP_2 {b l r : ByteArray} (h : l ≠ b) : labP b l r = l := if_neg h
theorem labC_1 {b l r : ByteArray} {p : Path} (h : l = b ∨ r = b ∨ r = l) : labC b l r p = [] := if_pos h
theorem labC_2 {b l r : ByteArray} {p : Path} (h : l ≠ b) (h1 : r ≠ b) (h2 : r ≠ l) : labC b l r p = [p] := if_neg (by rintro (h | h | h) <;> contradiction)
theorem mergeK_some {f : Tr → Tr → Tr → Path → Tr × List Path} {b : List Tr} {x y : Al} {p : Path} {c0 : List Path} {i : Nat} {t : Tr} {la lb : List Tr} {f1 f2 : Fate} (ht : b[i]? = some t) (h1 : x.I[i]? = some la) (h2 : y.I[i]? = some lb) (h3 : x.F[i]? = some f1) (h4 : y.F[i]? = some f2) :
    mergeK f b x y p c0 (i + 1) = ((mergeK f b x y p c0 i).1 ++ (insP la lb (p ++ [i])).1 ++ (kidP f t f1 f2 (p ++ [i])).1, (mergeK f b x y p c0 i).2 ++ (insP la lb (p ++ [i])).2 ++ (kidP f t f1 f2 (p ++ [i])).2) := by
  simp only [mergeK, ht, List.getD_eq_getElem?_getD, h1, h2, h3, h4, Option.getD_some]
theorem mergeK_none {f : Tr → Tr → Tr → Path → Tr × List Path} {b : List Tr} {x y : Al} {p : Path} {c0 : List Path} {i : Nat} {la lb : List Tr} (ht : b[i]? = none) (h1 : x.I[i]? = some la) (h2 : y.I[i]? = some lb) :
    mergeK f b x y p c0 (i + 1) = ((mergeK f b x y p c0 i).1 ++ (insP la lb (p ++ [i])).1, (mergeK f b x y p c0 i).2 ++ (insP la lb (p ++ [i])).2) := by
  simp only [mergeK, ht, List.getD_eq_getElem?_getD, h1, h2, Option.getD_some]
theorem trs_append {H : Hp} {ks ls : List Tr} {vs us : List Value} (h : RdL H (Tr.ds ks) vs) (hl : RdL H (Tr.ds ls) us) : RdL H (Tr.ds (ks ++ ls)) (vs ++ us) := by
  rw [Tr.ds_append]; exact h.append hl
end Go.Proofs.Ytapmmfabdmhdnaa.K
