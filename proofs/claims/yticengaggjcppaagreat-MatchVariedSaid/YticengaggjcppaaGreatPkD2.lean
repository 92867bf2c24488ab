/-
  Part 2 of 6 of the proof that MatchVaried returns true for every list of numbers and every number, and leaves its arguments as they were.. No condition beyond the given statement.
-/
import Derived.Test.YticengaggjcppaaGreatProg
import Derived.KernelRfl
import Derived.Test.YticengaggjcppaaGreatPkD1
set_option linter.unusedVariables false
set_option linter.unusedSimpArgs false
set_option linter.all false
set_option maxRecDepth 100000
namespace Go.Proofs.YticengaggjcppaaGreat.X
open Go Go.RowKit K
theorem kP {P : Program} {N : Nat} {w0 : World} {Q : Exit → Act → World → Prop} {ops : Array Oper} {K : Act → World → Prop} {o : Oper} {i : Nat} {env : Env} {own : List Seg} {H : Hp} {a : Act} {w : World} (ho : ops[i]? = some o) (h : TL P w0 N (Exit.then K Q) ops [o] env own H) (ha : At N env a) (hw : St w0 H own w) : wpOp P ops Q i K a w := by
  have h2 := h a w ha hw
  have hQ : ∀ r K', o.upon P a K' (Exit.then K Q) r → o.upon P a K' Q r := by
    intro r K' hr
    cases r with
    | ok nx w' =>
      cases nx with
      | enter f args => exact Calls.mono hr (fun e w'' he => by cases e <;> exact he)
      | _ => exact hr
    | halt h w' => cases h <;> exact hr
  have fin : ∀ a w, wpList P ops (Exit.then K Q) [] a w → K a w := fun _ _ h => h
  unfold wpOp
  simp only [ho]
  simp only [wpList] at h2
  split; {
  rename_i hw
  simp only [hw, if_true] at h2
  rcases h2 with h2 | ⟨h2, h3⟩
  {
  exact .inl (Oper.wp_mono fin (hQ _ _ h2))}; {
  exact .inr ⟨h2, h3⟩}}; {
  rename_i hw
  simp only [hw] at h2
  exact fin _ _ h2}
structure DI (B : Bs) (N : Nat) (ops : Array Oper) (E : Tmp → Option XV) (h : Nat → Option XB) (n : Nat) (R : List Ft) (listed : Array Bool) (a : Act) (w : World) (V : Vn) (H : Hp) (hp : XH) (sg : Seg) : Prop where
  size : listed.size = ops.size
  closed : Closed ops (fun i => listed.getD i false)
  inR : ∀ i, listed.getD i false = true → ∃ f ∈ R, f.i = i
  slots : ∀ t u, lE (fun i => listed.getD i false) E R t = some u → ∃ v, a.tmps[t]? = some v ∧ u.rel V H v
  defers : a.defers = []
  tmps : a.tmps.size = N
  get : ∀ g, aq hp g = lH (fun i => listed.getD i false) h R g
  nd : (ae hp).Nodup
  hr : HR V H hp sg
  top : Top V hp
  fresh1 : ∀ f ∈ R, listed.getD f.i false = false → ∀ g t, f.nx ≤ g → g < f.nx' → V g t = none
  fresh2 : ∀ g t, tnx n R ≤ g → V g t = none
  le : Le B.H0 H
  vle : VLe B.V0 V
  keep : ∀ g t, B.V0 g t = none → V g t ≠ none → B.nx0 ≤ g ∨ g ∈ B.F
  sub : ∀ b ∈ hp, B.nx0 ≤ b.g ∨ b.g ∈ B.F
  st : St B.w0 H (sg :: B.own) w
section
variable {P : Program} {B : Bs} {N : Nat} {l : List Oper} {E : Tmp → Option XV} {h : Nat → Option XB} {n : Nat}
theorem nx_le {pk : Pk} : ∀ {R : List Ft}, FOk P pk N l E h n R → n ≤ tnx n R
  | [], _ => Nat.le_refl _
  | f :: r, hF => by
    have := nx_le hF.2
    have h1 := hF.1.nx
    have h2 := hF.1.le
    simp only [tnx]; omega
theorem nx_in {pk : Pk} {R : List Ft} (hF : FOk P pk N l E h n R) {f : Ft} (hf : f ∈ R) : n ≤ f.nx ∧ f.nx' ≤ tnx n R := by
  obtain ⟨A, r, rfl⟩ := List.append_of_mem hf
  have h1 := FOk.tail hF
  refine ⟨by rw [h1.1.nx]; exact nx_le h1.2, ?_⟩
  clear hf
  induction A with
  | nil => exact Nat.le_refl _
  | cons a A ih =>
    have h2 := ih hF.2
    have h3 : a.nx = tnx n (A ++ f :: r) := hF.1.nx
    have h4 := hF.1.le
    show f.nx' ≤ a.nx'; omega
theorem oW {pk : Pk} {A r : List Ft} {f a : Ft} (hF : FOk P pk N l E h n (A ++ f :: r)) (ha : a ∈ A) : f.nx' ≤ a.nx := by
  obtain ⟨A1, A2, rfl⟩ := List.append_of_mem ha
  rw [List.append_assoc] at hF
  have h1 := FOk.tail hF
  have h2 := (nx_in h1.2 (f := f) (by simp)).2
  rw [h1.1.nx]; exact h2
theorem DI.step {f : Ft} {A r : List Ft} (hF : FOk P B.pk N l E h n (A ++ f :: r)) {listed : Array Bool} {a : Act} {w : World} {V : Vn} {H : Hp} {hp : XH} {sg : Seg} (hI : DI B N l.toArray E h n (A ++ f :: r) listed a w V H hp sg)
    (hun : listed.getD f.i false = false) (hin : f.i < l.length) (hdir : ∀ e ∈ f.o.after, Region.binds .any e = true → listed.getD e.on false = true) {fp rest : XH} {s2 sg1 : Seg} {V' : Vn} {H' : Hp} {v : Value} {a' : Act} {w' : World}
    (hfp : fp = f.fp) (hperm : hp.Perm (fp ++ rest)) (h2 : HR V H rest s2) (hx : f.x.rel V' H' v) (hr : HR V' H' f.fp' sg1) (ht : Top V' f.fp') (hvx : VX V V' f.fp f.nx f.nx') (hle : Le H H') (ha' : At N (ao f.o.dst v (iF a)) a') (hw' : St B.w0 H' (sg1 :: s2 :: B.own) w') (hnx0 : B.nx0 ≤ n) :
    ∃ hp' sg', DI B N l.toArray E h n (A ++ f :: r) (listed.setIfInBounds f.i true) a' w' V' H' hp' sg' := by
  subst hfp
  have hsz : f.i < listed.size := by rw [hI.size]; simpa using hin
  have hself : (listed.setIfInBounds f.i true).getD f.i false = true := by simp [hsz]
  have hoth : ∀ k, k ≠ f.i → (listed.setIfInBounds f.i true).getD k false = listed.getD k false := fun k hk => getD_set_ne false (Ne.symm hk)
  have hfR : f ∈ A ++ f :: r := by simp
  have hfacts := (FOk.tail hF).1
  have hop := hfacts.op
  have hready : ∀ {j : Nat}, Pre l.toArray j f.i → listed.getD j false = true := fun hp => hp.ready hI.closed (fun o' ho' => by
    have : o' = f.o := by
      have h9 : l[f.i]? = some o' := by simpa using ho'
      rw [hop] at h9; cases h9; rfl
    subst this; exact hdir)
  obtain ⟨d1, d2⟩ := FOk.done hF hI.closed (L := fun i => listed.getD i false) (L' := fun i => (listed.setIfInBounds f.i true).getD i false) hun hself hoth
  obtain ⟨_, fH⟩ := FOk.find hF hI.closed (L := fun i => listed.getD i false) hun hready
  have hmem : ∀ b, b ∈ hp ↔ b ∈ f.fp ∨ b ∈ rest := fun b => by rw [hperm.mem_iff, List.mem_append]
  have hlt : ∀ b ∈ hp, ¬ (f.nx ≤ b.g ∧ b.g < f.nx') := fun b hb hc => by
    obtain ⟨i, hi⟩ := hI.hr.known b hb
    rw [hI.fresh1 f hfR hun _ _ hc.1 hc.2] at hi; cases hi
  have hnd0 : (ae f.fp ++ ae rest).Nodup := by
    have := cd hperm hI.nd
    rwa [show ae (f.fp ++ rest) = ae f.fp ++ ae rest from List.map_append] at this
  obtain ⟨n1, n2, n3⟩ := List.nodup_append.1 hnd0
  have hfree : ∀ b ∈ rest, b.g ∉ ae f.fp := fun b hb hc => n3 b.g hc b.g (List.mem_map.2 ⟨b, hb, rfl⟩) rfl
  have hfp' : ∀ b ∈ f.fp', b.g ∈ ae f.fp ∨ (f.nx ≤ b.g ∧ b.g < f.nx') := fun b hb => by
    have := hfacts.sub b hb
    simp only [Ft.rc, List.mem_append, List.mem_range'_1] at this
    refine this.imp id fun h => ⟨h.1, ?_⟩
    have := hfacts.le; omega
  have hnd' : (ae (f.fp' ++ rest)).Nodup := by
    rw [show ae (f.fp' ++ rest) = ae f.fp' ++ ae rest from List.map_append]
    refine List.nodup_append.2 ⟨hfacts.nd', n2, fun x hx' y hy e => ?_⟩
    obtain ⟨b1, hb1, rfl⟩ := List.mem_map.1 hx'
    obtain ⟨b2, hb2, rfl⟩ := List.mem_map.1 hy
    rcases hfp' b1 hb1 with h4 | h4
    · rw [e] at h4; exact hfree b2 hb2 h4
    · exact hlt b2 ((hmem b2).2 (.inr hb2)) (by rw [← e]; exact h4)
  have hV := hvx.2
  refine ⟨f.fp' ++ rest, sg1 ++ s2, ⟨by simp [hI.size], ?_, ?_, ?_, ha'.defers, ha'.size, ?_, hnd', HR.append hr (h2.mono hvx.1 hle), ?_, ?_, ?_, hI.le.trans hle, hI.vle.trans hvx.1, ?_, ?_, ?_⟩⟩
  · intro k ok hok hk e he hb
    by_cases hki : k = f.i
    · subst hki
      have h9 : l[f.i]? = some ok := by simpa using hok
      rw [hop] at h9; cases h9
      show (listed.setIfInBounds f.i true).getD e.on false = true
      exact getD_set_true (hdir e he hb)
    · change (listed.setIfInBounds f.i true).getD k false = true at hk
      rw [hoth k hki] at hk
      exact getD_set_true (hI.closed k ok hok hk e he hb)
  · intro i hi
    by_cases hki : i = f.i
    · exact ⟨f, hfR, hki.symm⟩
    · rw [hoth i hki] at hi; exact hI.inR i hi
  · intro t u hu
    rw [d1] at hu
    by_cases hd : f.o.dst = some t
    · rw [if_pos hd] at hu
      cases hu
      exact ⟨v, ha'.slots t v (by rw [hd]; simp [ao, lk]), hx⟩
    · rw [if_neg hd] at hu
      obtain ⟨v0, q1, q2⟩ := hI.slots t u hu
      refine ⟨v0, ha'.slots t v0 ?_, XV.mono hvx.1 hle q2⟩
      rw [← iG] at q1
      cases hod : f.o.dst with
      | none => exact q1
      | some d' =>
        simp only [ao, lk]
        have : Nat.beq d' t = false := by
          cases hb : Nat.beq d' t with
          | true => exact absurd (by rw [hod, Nat.eq_of_beq_eq_true hb]) hd
          | false => rfl
        rw [this]
        exact q1
  · intro g
    rw [d2, dZ hnd']
    by_cases hg : f.wr = true ∧ g ∈ f.rc.fp
    · rw [if_pos hg]
      by_cases hg2 : g ∈ ae f.fp'
      · rw [if_pos hg2]
      · rw [if_neg hg2, gt hg2, gt]
        intro hc
        obtain ⟨b, hb, rfl⟩ := List.mem_map.1 hc
        have := hg.2
        simp only [Ft.rc, List.mem_append, List.mem_range'_1] at this
        rcases this with h4 | h4
        · exact hfree b hb h4
        · exact hlt b ((hmem b).2 (.inr hb)) ⟨h4.1, by have := hfacts.le; omega⟩
    · rw [if_neg hg, ← hI.get g, hY hperm hI.nd g, dZ (cd hperm hI.nd)]
      by_cases hw : f.wr = true
      · have hg' : g ∉ f.rc.fp := fun hc => hg ⟨hw, hc⟩
        have h5 : g ∉ ae f.fp' := fun hc => by obtain ⟨b, hb, rfl⟩ := List.mem_map.1 hc; exact hg' (hfacts.sub b hb)
        have h6 : g ∉ ae f.fp := fun hc => hg' (List.mem_append.2 (.inl hc))
        rw [if_neg h5, if_neg h6]
      · rw [(hfacts.wr (by simpa using hw)).1]
  · intro b hb t hbt
    rcases List.mem_append.1 hb with hb | hb
    · exact ht b hb t hbt
    · have h3 := hI.top b ((hmem b).2 (.inr hb)) t hbt
      cases h4 : V' b.g t with
      | none => rfl
      | some i =>
        rcases hV _ _ h3 (by rw [h4]; simp) with h5 | h5
        · exact absurd h5 (hlt b ((hmem b).2 (.inr hb)))
        · exact absurd h5 (hfree b hb)
  · intro g hg hgl gg t q1 q2
    have hgi : g.i ≠ f.i := fun e => by rw [e, hself] at hgl; cases hgl
    rw [hoth _ hgi] at hgl
    have h3 := hI.fresh1 g hg hgl gg t q1 q2
    cases h4 : V' gg t with
    | none => rfl
    | some i =>
      rcases hV _ _ h3 (by rw [h4]; simp) with h5 | h5
      · exfalso
        rcases List.mem_append.1 hg with hg | hg
        · have := oW hF hg; omega
        · rcases List.mem_cons.1 hg with rfl | hg
          · exact hgi rfl
          · obtain ⟨r1, r2, rfl⟩ := List.append_of_mem hg
            have hF2 : FOk P B.pk N l E h n ((A ++ f :: r1) ++ g :: r2) := by simpa using hF
            have := oW hF2 (a := f) (by simp); omega
      · obtain ⟨b, hb, rfl⟩ := List.mem_map.1 h5
        obtain ⟨i', hi'⟩ := hI.hr.known b ((hmem b).2 (.inl hb))
        have := hI.fresh1 g hg hgl b.g b.t q1 q2
        rw [hi'] at this; cases this
  · intro g t hg
    have h3 := hI.fresh2 g t hg
    cases h4 : V' g t with
    | none => rfl
    | some i =>
      rcases hV _ _ h3 (by rw [h4]; simp) with h5 | h5
      · have := (nx_in hF hfR).2; omega
      · obtain ⟨b, hb, rfl⟩ := List.mem_map.1 h5
        obtain ⟨i', hi'⟩ := hI.hr.known b ((hmem b).2 (.inl hb))
        rw [hI.fresh2 b.g b.t hg] at hi'; cases hi'
  · intro g t h3 h4
    cases h5 : V g t with
    | some i => exact hI.keep g t h3 (by rw [h5]; simp)
    | none =>
      rcases hV _ _ h5 h4 with h6 | h6
      · left; have := (nx_in hF hfR).1; omega
      · obtain ⟨b, hb, rfl⟩ := List.mem_map.1 h6
        exact hI.sub b ((hmem b).2 (.inl hb))
  · intro b hb
    rcases List.mem_append.1 hb with hb | hb
    · rcases hfp' b hb with h3 | h3
      · obtain ⟨b', hb', e⟩ := List.mem_map.1 h3
        rw [← e]; exact hI.sub b' ((hmem b').2 (.inl hb'))
      · left; have := (nx_in hF hfR).1; omega
    · exact hI.sub b ((hmem b).2 (.inr hb))
  · refine hw'.flat ?_
    simp only [List.flatten_cons, ← List.append_assoc]
    exact .refl _
theorem DI.cons {f : Ft} {R : List Ft} {listed : Array Bool} {a : Act} {w : World} {V : Vn} {H : Hp} {hp : XH} {sg : Seg} (hI : DI B N l.toArray E h n R listed a w V H hp sg) (hun : listed.getD f.i false = false) (hnx : f.nx = tnx n R) (hle : f.nx ≤ f.nx') : DI B N l.toArray E h n (f :: R) listed a w V H hp sg := by
  have e1 : ∀ t, lE (fun i => listed.getD i false) E (f :: R) t = lE (fun i => listed.getD i false) E R t := fun t => by
    simp only [lE]; rw [if_neg (fun hc => by rw [hun] at hc; cases hc.1)]
  have e2 : ∀ g, lH (fun i => listed.getD i false) h (f :: R) g = lH (fun i => listed.getD i false) h R g := fun t => by
    simp only [lH]; rw [if_neg (fun hc => by rw [hun] at hc; cases hc.1)]
  refine ⟨hI.size, hI.closed, fun i hi => ?_, fun t u hu => hI.slots t u (by rw [← e1]; exact hu), hI.defers, hI.tmps, fun g => by rw [e2]; exact hI.get g, hI.nd, hI.hr, hI.top, fun g hg hgl => ?_, fun g t hg => hI.fresh2 g t (by simp only [tnx] at hg; omega), hI.le, hI.vle, hI.keep, hI.sub, hI.st⟩; {
  obtain ⟨g, hg, e⟩ := hI.inR i hi; exact ⟨g, List.mem_cons_of_mem _ hg, e⟩}; {
  rcases List.mem_cons.1 hg with rfl | hg
  {
  intro gg t q1 _; exact hI.fresh2 gg t (by omega)}; {
  exact hI.fresh1 g hg hgl}}
structure Nd (P : Program) (B : Bs) (N : Nat) (l : List Oper) (s0 : XS) (K : XS → Prop) (R : List Ft) (td : List Nat) (s : XS) : Prop where
  ok : FOk P B.pk N l (fun t => xlk s0.E t) (aq s0.hp) s0.nx R
  xr : XR P B.pk N l td (R.map Ft.rc) s K
  E : ∀ t, xlk s.E t = lE tt (fun t => xlk s0.E t) R t
  hp : ∀ g, aq s.hp g = lH tt (aq s0.hp) R g
  nd : (ae s.hp).Nodup
  nx : s.nx = tnx s0.nx R
  all : ∀ j, j < l.length → j ∈ td ∨ ∃ f ∈ R, f.i = j
theorem Nd.step {s0 s : XS} {K : XS → Prop} {R : List Ft} {td : List Nat} (hN : Nd P B N l s0 K R td s) {i : Nat} {td' : List Nat} (htd : td = i :: td') {o : Oper} {Er : XE} {fp rest : XH} {nx' : Nat} {wr rel : Bool} {Ψ : XV → XH → Prop}
    (h1 : l[i]? = some o) (h2 : okD N o.dst = true) (h3 : ∀ j u, xlk Er j = some u → xlk s.E j = some u ∧ j ∈ osl l o) (h4 : s.hp.Perm (fp ++ rest)) (h5 : s.nx ≤ nx') (h6 : dck l (R.map Ft.rc) ⟨i, ae fp ++ List.range' s.nx (nx' - s.nx), wr, rel⟩ = true) (h7 : LS P B.pk l.toArray o Er fp s.nx nx' Ψ)
    (h8 : rel = false → ∃ x0 fp0, Ψ x0 fp0 ∧ ∀ x fp', Ψ x fp' → x = x0 ∧ fp' = fp0)
    (h9 : ∀ x fp', Ψ x fp' → (∀ b ∈ fp', b.g ∈ ae fp ∨ (s.nx ≤ b.g ∧ b.g < nx')) ∧ (ae fp').Nodup ∧ (wr = false → fp' = fp ∧ nx' = s.nx) ∧ ∃ hp' : XH, hp'.Perm (fp' ++ rest) ∧ XR P B.pk N l td' (⟨i, ae fp ++ List.range' s.nx (nx' - s.nx), wr, rel⟩ :: R.map Ft.rc) ⟨b8 o.dst x s.E, hp', nx'⟩ K)
    (hfr : ∀ b ∈ s.hp, b.g < s.nx) {x : XV} {fp' : XH} (hΨ : Ψ x fp') : ∃ s', Nd P B N l s0 K (⟨i, o, Er, fp, fp', s.nx, nx', x, wr, rel⟩ :: R) td' s' := by
  obtain ⟨q1, q2, q3, hp', q4, q5⟩ := h9 x fp' hΨ
  have hndp := cd h4 hN.nd
  have hmem : ∀ b, b ∈ s.hp ↔ b ∈ fp ∨ b ∈ rest := fun b => by rw [h4.mem_iff, List.mem_append]
  have hnd0 : (ae fp ++ ae rest).Nodup := by
    rwa [show ae (fp ++ rest) = ae fp ++ ae rest from List.map_append] at hndp
  obtain ⟨n1, n2, n3⟩ := List.nodup_append.1 hnd0
  have hfree : ∀ b ∈ rest, b.g ∉ ae fp := fun b hb hc => n3 b.g hc b.g (List.mem_map.2 ⟨b, hb, rfl⟩) rfl
  have hnd' : (ae (fp' ++ rest)).Nodup := by
    rw [show ae (fp' ++ rest) = ae fp' ++ ae rest from List.map_append]
    refine List.nodup_append.2 ⟨q2, n2, fun a ha b hb e => ?_⟩
    obtain ⟨b1, hb1, rfl⟩ := List.mem_map.1 ha
    obtain ⟨b2, hb2, rfl⟩ := List.mem_map.1 hb
    rcases q1 b1 hb1 with h4' | h4'
    {
    rw [e] at h4'; exact hfree b2 hb2 h4'}; {
    have := hfr b2 ((hmem b2).2 (.inr hb2)); omega}
  refine ⟨⟨b8 o.dst x s.E, hp', nx'⟩, ⟨⟨⟨h1, h2, fun j u hj => ?_, fun b hb => ?_, n1, hN.nx, h5, fun hr => ?_, fun b hb => ?_, q2, q3, h6⟩, hN.ok⟩, q5, fun t => ?_, fun g => ?_, cd q4.symm hnd', rfl, fun j hj => ?_⟩⟩; {
  rw [← hN.E]; exact h3 j u hj}; {
  rw [← hN.hp]; exact (bq hN.nd).2 ⟨(hmem b).2 (.inl hb), rfl⟩}; {
  obtain ⟨x0, fp0, _, h10⟩ := h8 hr
  obtain ⟨e1, e2⟩ := h10 x fp' hΨ
  exact ⟨Ψ, h7, fun y fq hy => by obtain ⟨e3, e4⟩ := h10 y fq hy; exact ⟨e3.trans e1.symm, e4.trans e2.symm⟩⟩}; {
  simp only [Ft.rc, List.mem_append, List.mem_range'_1]
  refine (q1 b hb).imp id fun h => ⟨h.1, ?_⟩
  omega}; {
  simp only [lE, tt, true_and]
  cases hd : o.dst with
  | none => simp only [b8]; rw [if_neg (by simp)]; exact hN.E t
  | some d =>
    simp only [b8, xlk]
    cases hb : Nat.beq d t with
    | true => rw [if_pos (by rw [Nat.eq_of_beq_eq_true hb])]; rfl
    | false => rw [if_neg (by intro e; cases e; exact Nat.ne_of_beq_eq_false hb rfl)]; exact hN.E t}
  {
  simp only [lH, tt, true_and, Ft.rc]
  rw [hY q4 (cd q4.symm hnd'), dZ hnd']
  by_cases hg : wr = true ∧ g ∈ ae fp ++ List.range' s.nx (nx' - s.nx); {
  rw [if_pos hg]
  by_cases hg2 : g ∈ ae fp'; {
  rw [if_pos hg2]}; {
  rw [if_neg hg2, gt hg2, gt]
  intro hc
  obtain ⟨b, hb, rfl⟩ := List.mem_map.1 hc
  have := hg.2
  simp only [List.mem_append, List.mem_range'_1] at this
  rcases this with h4' | h4'
  {
  exact hfree b hb h4'}; {
  have := hfr b ((hmem b).2 (.inr hb)); omega}}}; {
  rw [if_neg hg]
  have h10 : lH tt (aq s0.hp) R g = aq s.hp g := (hN.hp g).symm
  refine Eq.trans ?_ h10.symm
  rw [hY h4 hN.nd, dZ hndp]
  by_cases hw : wr = true; {
  have hg' : g ∉ ae fp ++ List.range' s.nx (nx' - s.nx) := fun hc => hg ⟨hw, hc⟩
  have h5' : g ∉ ae fp' := fun hc => by
    obtain ⟨b, hb, rfl⟩ := List.mem_map.1 hc
    refine hg' ?_
    simp only [List.mem_append, List.mem_range'_1]
    refine (q1 b hb).imp id fun h => ⟨h.1, by omega⟩
  have h6' : g ∉ ae fp := fun hc => hg' (List.mem_append.2 (.inl hc))
  rw [if_neg h5', if_neg h6']}; {
  rw [(q3 (by simpa using hw)).1]}}}; {
  rcases hN.all j hj with h10 | ⟨f, hf, e⟩
  {
  rw [htd] at h10
  rcases List.mem_cons.1 h10 with rfl | h10
  {
  exact .inr ⟨_, List.mem_cons_self .., rfl⟩}; {
  exact .inl h10}}; {
  exact .inr ⟨f, List.mem_cons_of_mem _ hf, e⟩}}
theorem lH_lt {pk : Pk} {R : List Ft} (hF : FOk P pk N l E h n R) (h0 : ∀ g b, h g = some b → g < n) : ∀ g b, lH tt h R g = some b → g < tnx n R := by
  induction R with
  | nil => exact h0
  | cons f r ih =>
    intro g b hb
    have h1 := hF.1.le
    have h2 := hF.1.nx
    simp only [lH] at hb
    split at hb; {
    rename_i hc
    have hm := hc.2.2
    simp only [Ft.rc, List.mem_append, List.mem_range'_1] at hm
    show g < f.nx'
    rcases hm with hm | hm
    {
    obtain ⟨c, hc', rfl⟩ := List.mem_map.1 hm
    have := ih hF.2 c.g c (hF.1.fp c hc'); omega}; {
    omega}}; {
    have := ih hF.2 g b hb
    show g < f.nx'; omega}
def bck : List Oper → Nat → Bool
  | [], _ => true
  | o :: r, k => (o.after.toList.all fun e => !Region.binds .any e || Nat.blt e.on k) && bck r (k + 1)
theorem bck_ok : ∀ {l : List Oper} {k : Nat}, bck l k = true → ∀ (j : Nat) o, l[j]? = some o → ∀ e ∈ o.after, Region.binds .any e = true → e.on < k + j
  | [], _, _, j, o, h => by simp at h
  | o :: r, k, h, j, o', ho => by
    simp only [bck, Bool.and_eq_true] at h
    cases j with
    | zero =>
      simp only [List.getElem?_cons_zero, Option.some.injEq] at ho
      subst ho
      intro e he hb
      have := List.all_eq_true.1 h.1 e (Array.mem_toList_iff.2 he)
      simpa [hb, Nat.blt_eq] using this
    | succ j =>
      have := bck_ok h.2 j o' (by simpa using ho)
      intro e he hb
      have := this e he hb
      omega
theorem nL {a b : XH} (ha : (ae a).Nodup) (hb : (ae b).Nodup) (h : ∀ g, aq a g = aq b g) : a.Perm b := by
  have nd : ∀ {l : XH}, (ae l).Nodup → l.Nodup := fun {l} hl => (List.pairwise_map.1 hl).imp fun h e => h (by rw [e])
  have hA : a.Nodup := nd ha
  have hB : b.Nodup := nd hb
  refine (List.perm_ext_iff_of_nodup hA hB).2 fun x => ?_
  constructor; {
  intro hx
  have := (bq ha).2 ⟨hx, rfl⟩
  rw [h] at this
  exact ((bq hb).1 this).1}; {
  intro hx
  have := (bq hb).2 ⟨hx, rfl⟩
  rw [← h] at this
  exact ((bq ha).1 this).1}
theorem XR.any {Q : Exit → Act → World → Prop} (hpan : PanOk B Q) {todo : List Nat} {s0 : XS} {K : XS → Prop} (htd : ((List.range l.length).all todo.contains && bck l 0) = true) (hx : XR P B.pk N l todo [] s0 K) (hK : ∀ s', K s' → ∀ V H sg env, SR B s' V H sg env → TQ B.w0 N Q .normal env (sg :: B.own) H) :
    ∀ V H sg env, SR B s0 V H sg env → ∀ a w, At N env a → St B.w0 H (sg :: B.own) w → wpAny P .any l.toArray Q l.toArray.size (Array.replicate l.toArray.size false) a { w with drawn := w.drawn + 1 } := fun V0 H0 sg0 env0 hs0 => by
  simp only [Bool.and_eq_true] at htd
  obtain ⟨hcov, hbck⟩ := htd
  have hfr0 : ∀ b ∈ s0.hp, b.g < s0.nx := fun b hb => by
    obtain ⟨i, hi⟩ := hs0.hr.known b hb
    rcases Nat.lt_or_ge b.g s0.nx with hl | hl
    · exact hl
    · rw [hs0.fresh _ _ hl] at hi; cases hi
  have hh0 : ∀ g b, aq s0.hp g = some b → g < s0.nx := fun g b hb => by
    have := (aQ hb).2.1
    rw [← this]; exact hfr0 b (iI hb)
  have hfrN : ∀ {R td s}, Nd P B N l s0 K R td s → ∀ b ∈ s.hp, b.g < s.nx := fun hN b hb => by
    rw [hN.nx]
    exact lH_lt hN.ok hh0 b.g b (by rw [← hN.hp]; exact (bq hN.nd).2 ⟨hb, rfl⟩)
  have greedy : ∀ (td : List Nat) (R : List Ft) (s : XS) (listed : Array Bool) (a : Act) (w : World) (V : Vn) (H : Hp) (hp : XH) (sg : Seg), Nd P B N l s0 K R td s → DI B N l.toArray (fun t => xlk s0.E t) (aq s0.hp) s0.nx R listed a w V H hp sg → (∀ f ∈ R, f.rel = true → listed.getD f.i false = true) →
      ∃ R' td' s', Nd P B N l s0 K R' td' s' ∧ DI B N l.toArray (fun t => xlk s0.E t) (aq s0.hp) s0.nx R' listed a w V H hp sg ∧ (∀ f ∈ R', f.rel = true → listed.getD f.i false = true) ∧ (td' = [] ∨ ∃ i t o Er fp rest nx' wr Ψ, td' = i :: t ∧ l[i]? = some o ∧ okD N o.dst = true ∧ (∀ j u, xlk Er j = some u → xlk s'.E j = some u ∧ j ∈ osl l o) ∧ s'.hp.Perm (fp ++ rest) ∧ s'.nx ≤ nx' ∧ dck l (R'.map Ft.rc) ⟨i, ae fp ++ List.range' s'.nx (nx' - s'.nx), wr, true⟩ = true ∧
        LS P B.pk l.toArray o Er fp s'.nx nx' Ψ ∧ t.all (fun j => fJ (hO l []) i j) = true ∧
        ∀ x fp', Ψ x fp' → (∀ b ∈ fp', b.g ∈ ae fp ∨ (s'.nx ≤ b.g ∧ b.g < nx')) ∧ (ae fp').Nodup ∧ (wr = false → fp' = fp ∧ nx' = s'.nx) ∧ ∃ hp' : XH, hp'.Perm (fp' ++ rest) ∧ XR P B.pk N l t (⟨i, ae fp ++ List.range' s'.nx (nx' - s'.nx), wr, true⟩ :: R'.map Ft.rc) ⟨b8 o.dst x s'.E, hp', nx'⟩ K) := by
    intro td
    induction td with
    | nil => intro R s listed a w V H hp sg hN hI hr; exact ⟨R, [], s, hN, hI, hr, .inl rfl⟩
    | cons i t ih =>
      intro R s listed a w V H hp sg hN hI hr
      obtain ⟨o, Er, fp, rest, nx', wr, rel, Ψ, h1, h2, h3, h4, h5, h6, h7, h8, h8', h9⟩ := hN.xr
      cases rel with
      | true => exact ⟨R, i :: t, s, hN, hI, hr, .inr ⟨i, t, o, Er, fp, rest, nx', wr, Ψ, rfl, h1, h2, h3, h4, h5, h6, h7, h8' rfl, h9⟩⟩
      | false =>
        obtain ⟨x0, fp0, hΨ, _⟩ := h8 rfl
        obtain ⟨s', hN'⟩ := hN.step rfl h1 h2 h3 h4 h5 h6 h7 h8 h9 (hfrN hN) hΨ
        have hun : listed.getD i false = false := by
          cases hl : listed.getD i false with
          | false => rfl
          | true =>
            obtain ⟨f, hf, e⟩ := hI.inR i hl
            exact absurd e (fK h6 (List.mem_map.2 ⟨f, hf, rfl⟩) (FOk.op hN.ok hf) h1).1
        exact ih _ s' listed a w V H hp sg hN' (hI.cons hun hN.nx h5) (fun f hf hr' => by
          rcases List.mem_cons.1 hf with rfl | hf
          · cases hr'
          · exact hr f hf hr')
  have main : ∀ (fuel : Nat) (R : List Ft) (td : List Nat) (s : XS) (listed : Array Bool) (a : Act) (w : World) (V : Vn) (H : Hp) (hp : XH) (sg : Seg), Nd P B N l s0 K R td s → DI B N l.toArray (fun t => xlk s0.E t) (aq s0.hp) s0.nx R listed a w V H hp sg → (∀ f ∈ R, f.rel = true → listed.getD f.i false = true) → left listed l.toArray.size ≤ fuel → wpAny P .any l.toArray Q fuel listed a w := by
    have fin : ∀ (R : List Ft) (td : List Nat) (s : XS) (listed : Array Bool) (a : Act) (w : World) (V : Vn) (H : Hp) (hp : XH) (sg : Seg), Nd P B N l s0 K R td s → DI B N l.toArray (fun t => xlk s0.E t) (aq s0.hp) s0.nx R listed a w V H hp sg → (∀ f ∈ R, f.rel = true → listed.getD f.i false = true) → Region.ready .any l.toArray listed = [] → Q .normal a w := by
      intro R td s listed a w V H hp sg hN hI hrel hr
      obtain ⟨R', td', s', hN', hI', hrel', hd⟩ := greedy td R s listed a w V H hp sg hN hI hrel
      have cq : ∀ m k, k < m → k < l.length → listed.getD k false = true := by
        intro m
        induction m with
        | zero => intro k h; omega
        | succ m ih =>
          intro k hk hkn
          cases hl : listed.getD k false with
          | true => rfl
          | false =>
            exfalso
            have hb : ∀ e ∈ (l[k]).after, Region.binds .any e = true → e.on < k := fun e he hb' => by have := bck_ok hbck k l[k] (List.getElem?_eq_getElem hkn) e he hb'; omega
            have : k ∈ Region.ready .any l.toArray listed := mem_ready.2 ⟨getD_in (by rw [hI'.size]; simpa using hkn) hl, l[k], by simp [hkn], fun e he hb' => ih e.on (by have := hb e he hb'; omega) (by have := hb e he hb'; omega)⟩
            rw [hr] at this
            cases this
      have hall' : ∀ f ∈ R', listed.getD f.i false = true := fun f hf => cq (f.i + 1) f.i (by omega) (List.getElem?_eq_some_iff.1 (FOk.op hN'.ok hf)).1
      have htd' : td' = [] := by
        rcases hd with hd | ⟨i, t', o', Er, fp, rest, nx', wr, Ψ, e1, e2, _, _, _, _, e3, _⟩
        · exact hd
        · obtain ⟨f, hf, e⟩ := hI'.inR i (cq (i + 1) i (by omega) (List.getElem?_eq_some_iff.1 e2).1)
          exact absurd e (fK e3 (List.mem_map.2 ⟨f, hf, rfl⟩) (FOk.op hN'.ok hf) e2).1
      subst htd'
      have hperm : hp.Perm s'.hp := nL hI'.nd hN'.nd (fun g => by
        rw [hI'.get, hN'.hp]
        exact kO (fun f hf => by rw [hall' f hf]; rfl))
      obtain ⟨sg', p1, p2⟩ := hI'.hr.perm hperm
      refine hK s' hN'.xr V H sg' (iF a) ⟨fun t u hu => ?_, p2, fun b hb => hI'.top b (hperm.mem_iff.2 hb), hN'.nd, fun g t hg => hI'.fresh2 g t (by rw [← hN'.nx]; exact hg), hI'.le, hI'.vle, hI'.keep, fun b hb => hI'.sub b (hperm.mem_iff.2 hb), ?_⟩ a w ⟨hI'.defers, hI'.tmps, fun i v hv => by rwa [iG] at hv⟩ (hI'.st.flat ?_)
      · rw [hN'.E] at hu
        obtain ⟨v, q1, q2⟩ := hI'.slots t u (by rw [← hu]; exact kN (fun f hf => by rw [hall' f hf]; rfl))
        exact ⟨v, by rw [iG]; exact q1, q2⟩
      · rw [hN'.nx]; exact Nat.le_trans hs0.nxle (nx_le hN'.ok)
      · simp only [List.flatten_cons]; exact p1.append_right _
    intro fuel
    induction fuel with
    | zero =>
      intro R td s listed a w V H hp sg hN hI hrel hl
      have hr : Region.ready .any l.toArray listed = [] := by
        cases hr : Region.ready .any l.toArray listed with
        | nil => rfl
        | cons i r =>
          exfalso
          have hi : i ∈ Region.ready .any l.toArray listed := by rw [hr]; exact List.mem_cons_self ..
          obtain ⟨hu, o, ho, _⟩ := mem_ready.1 hi
          have hin : i < l.toArray.size := (Array.getElem?_eq_some_iff.1 ho).1
          have := oS (listed := listed) hin (getD_both hu) (by rw [hI.size]; exact hin)
          omega
      exact ⟨hr, fin R td s listed a w V H hp sg hN hI hrel hr⟩
    | succ fuel ih =>
      intro R td s listed a w V H hp sg hN hI hrel hl
      refine ⟨fin R td s listed a w V H hp sg hN hI hrel, fun i hi => ?_⟩
      obtain ⟨hu, o, ho, hdir⟩ := mem_ready.1 hi
      have hin : i < l.toArray.size := (Array.getElem?_eq_some_iff.1 ho).1
      have hinl : i < l.length := by simpa using hin
      have hunl := getD_both hu
      have ho' : l[i]? = some o := by simpa using ho
      have hleft : left (listed.setIfInBounds i true) l.toArray.size ≤ fuel := by
        have := oS (listed := listed) hin hunl (by rw [hI.size]; exact hin)
        omega
      obtain ⟨R', td', s', hN', hI', hrel', hd⟩ := greedy td R s listed a w V H hp sg hN hI hrel
      have hready : ∀ {j : Nat}, Pre l.toArray j i → listed.getD j false = true := fun hp => hp.ready hI'.closed (fun o2 ho2 => by rw [ho] at ho2; cases ho2; exact hdir)
      have hlkF : ∀ {Er : XE}, (∀ j u, xlk Er j = some u → ∃ v, a.tmps[j]? = some v ∧ u.rel V H v) → Lk V H (iF a) Er := fun h j u hj => by
        obtain ⟨v, q1, q2⟩ := h j u hj
        exact ⟨v, by rw [iG]; exact q1, q2⟩
      have hAt : At N (iF a) a := ⟨hI'.defers, hI'.tmps, fun s v hv => by rwa [iG] at hv⟩
      have hself : (listed.setIfInBounds i true).getD i false = true := by
        have : i < listed.size := by rw [hI.size]; exact hin
        simp [this]
      have exec : ∀ (R2 : List Ft) (td2 : List Nat) (s2 : XS) (f : Ft) (V2 : Vn) (H2 : Hp) (hp2 : XH) (sg2 : Seg), Nd P B N l s0 K R2 td2 s2 → f ∈ R2 → f.i = i → (∀ g ∈ R2, g.i ≠ i → g.rel = true → listed.getD g.i false = true) → ∀ (A r : List Ft), R2 = A ++ f :: r → DI B N l.toArray (fun t => xlk s0.E t) (aq s0.hp) s0.nx R2 listed a w V2 H2 hp2 sg2 →
          ∀ (rest : XH) (q2 q1 : Seg) (V' : Vn) (H' : Hp) (v : Value) (a' : Act) (w' : World), hp2.Perm (f.fp ++ rest) → HR V2 H2 rest q2 → f.x.rel V' H' v → HR V' H' f.fp' q1 → Top V' f.fp' → VX V2 V' f.fp f.nx f.nx' → Le H2 H' → At N (ao f.o.dst v (iF a)) a' → St B.w0 H' (q1 :: q2 :: B.own) w' → wpAny P .any l.toArray Q fuel (listed.setIfInBounds i true) a' w' := by
        intro R2 td2 s2 f V2 H2 hp2 sg2 hN2 hf hfi hrel2 A r hR2 hI2 rest q2 q1 V' H' v a' w' hperm h2 hx hr ht hvx hle ha' hw'
        subst hR2 hfi
        have hop := FOk.op hN2.ok hf
        rw [ho'] at hop
        cases hop
        obtain ⟨hp3, sg3, hI3⟩ := DI.step hN2.ok hI2 hunl hinl hdir rfl hperm h2 hx hr ht hvx hle ha' hw' hs0.nxle
        refine ih _ td2 s2 _ a' w' V' H' hp3 sg3 hN2 hI3 (fun g hg hgr => ?_) hleft
        by_cases hgi : g.i = f.i
        · rw [hgi]; exact hself
        · exact getD_set_true (hrel2 g hg hgi hgr)
      rcases hN'.all i hinl with h1 | ⟨f, hf, hfi⟩
      · -- the one whose result is not told ahead
        rcases hd with hd | ⟨i0, t', o0, Er, fp, rest0, nx', wr, Ψ, e1, e2, e3, e4, e5, e6, e7, e8, e9, e10⟩
        · rw [hd] at h1; cases h1
        · have hi0 : i = i0 := by
            rw [e1] at h1
            rcases List.mem_cons.1 h1 with h1 | h1
            · exact h1
            · exfalso
              have hpi : Pre l.toArray i0 i := jw (ops := l.toArray) (l := l) (acc := []) (fun j => by simp) (fun i j h => by simp at h) _ _ (List.all_eq_true.1 e9 _ h1)
              obtain ⟨f, hf, e⟩ := hI'.inR i0 (hready hpi)
              exact absurd e (fK e7 (List.mem_map.2 ⟨f, hf, rfl⟩) (FOk.op hN'.ok hf) e2).1
          subst hi0
          rw [ho'] at e2
          cases e2
          have hstep : ∀ {x : XV} {fp' : XH}, Ψ x fp' → ∃ s2, Nd P B N l s0 K (⟨i, o, Er, fp, fp', s'.nx, nx', x, wr, true⟩ :: R') t' s2 := fun hΨ => hN'.step e1 ho' e3 e4 e5 e6 e7 e8 (fun h => by cases h) e10 (hfrN hN') hΨ
          have hfind : (∀ t ∈ osl l o, lE (fun i => listed.getD i false) (fun t => xlk s0.E t) R' t = xlk s'.E t) ∧ ∀ b ∈ fp, aq hp b.g = some b := by
            have hpr : ∀ g ∈ R', cfl l g.o o g.rc ⟨i, ae fp ++ List.range' s'.nx (nx' - s'.nx), wr, true⟩ = true → listed.getD g.i false = true := fun g hg hc => hready ((fK e7 (List.mem_map.2 ⟨g, hg, rfl⟩) (FOk.op hN'.ok hg) ho').2 (.inl hc))
            refine ⟨fun t ht => ?_, fun b hb => ?_⟩
            · rw [hN'.E]; exact lE_all (fun g hg hd => hpr g hg (cfl_rd hd ht))
            · rw [hI'.get, lH_all (fun q hq hw hm => hpr q hq (cfl_h hm (List.mem_append.2 (.inl (List.mem_map.2 ⟨b, hb, rfl⟩))) (.inl hw))), ← hN'.hp]
              exact (bq hN'.nd).2 ⟨e5.mem_iff.2 (List.mem_append.2 (.inl hb)), rfl⟩
          have hndf : (ae fp).Nodup := by
            have := cd e5 hN'.nd
            rw [show ae (fp ++ rest0) = ae fp ++ ae rest0 from List.map_append] at this
            exact (List.nodup_append.1 this).1
          obtain ⟨rest, hperm⟩ := kM hI'.nd hndf hfind.2
          obtain ⟨sgp, p1, p2⟩ := hI'.hr.perm hperm
          obtain ⟨s1, s2, rfl, k2, k3⟩ := HR.split p2
          have hst : St B.w0 H (s1 :: s2 :: B.own) w := hI'.st.flat (by simp only [List.flatten_cons, ← List.append_assoc]; exact p1.append_right _)
          refine kP ho (e8 B.w0 N _ [] (iF a) (s2 :: B.own) H V s1 (hlkF fun j u hj => ?_) k2 (fun b hb => hI'.top b (hperm.mem_iff.2 (List.mem_append.2 (.inl hb)))) (fun g t q1 _ => hI'.fresh2 g t (by rw [← hN'.nx]; exact q1)) e3 ⟨B.pk.mono hI'.le B.f.2, fun a w H' q1 q2 q3 q4 => hpan a w H' q1 q2 (hI'.le.trans q3) q4.tail⟩ (fun v x fp' V' H' sg' hΨ hx hr ht hvx hle => Qc ?_)) hAt hst
          · obtain ⟨q1, q2⟩ := e4 j u hj
            exact hI'.slots j u (by rw [hfind.1 j q2]; exact q1)
          · intro a' w' ha' hw'
            obtain ⟨s3, hN3⟩ := hstep hΨ
            have hun2 : listed.getD i false = false := hunl
            exact exec _ t' s3 _ V H hp sg hN3 (List.mem_cons_self ..) rfl (fun g hg hgi hgr => by
              rcases List.mem_cons.1 hg with rfl | hg
              · exact absurd rfl hgi
              · exact hrel' g hg hgr) [] R' rfl (hI'.cons hun2 hN'.nx e6) rest s2 sg' V' H' v a' w' hperm k3 hx hr ht hvx hle ha' hw'
      · -- one that is told
        have hnr : f.rel = false := by
          cases hfr : f.rel with
          | false => rfl
          | true => have := hrel' f hf hfr; rw [hfi, hunl] at this; cases this
        obtain ⟨A, r, hR⟩ := List.append_of_mem hf
        subst hR
        have hfs := (FOk.tail hN'.ok).1
        obtain ⟨Ψ, hLS, huq⟩ := hfs.ls hnr
        have hop := hfs.op
        rw [hfi, ho'] at hop
        cases hop
        subst hfi
        obtain ⟨d1, d2⟩ := FOk.find hN'.ok hI'.closed (L := fun i => listed.getD i false) hunl hready
        have hfpb : ∀ b ∈ f.fp, aq hp b.g = some b := fun b hb => by
          rw [hI'.get, d2 b.g (List.mem_append.2 (.inl (List.mem_map.2 ⟨b, hb, rfl⟩)))]
          exact hfs.fp b hb
        obtain ⟨rest, hperm⟩ := kM hI'.nd hfs.nd hfpb
        obtain ⟨sgp, p1, p2⟩ := hI'.hr.perm hperm
        obtain ⟨s1, s2, rfl, k2, k3⟩ := HR.split p2
        have hst : St B.w0 H (s1 :: s2 :: B.own) w := hI'.st.flat (by simp only [List.flatten_cons, ← List.append_assoc]; exact p1.append_right _)
        refine kP ho (hLS B.w0 N _ [] (iF a) (s2 :: B.own) H V s1 (hlkF fun j u hj => ?_) k2 (fun b hb => hI'.top b (hperm.mem_iff.2 (List.mem_append.2 (.inl hb)))) (fun g t q1 q2 => hI'.fresh1 f hf hunl g t q1 q2) hfs.dst ⟨B.pk.mono hI'.le B.f.2, fun a w H' q1 q2 q3 q4 => hpan a w H' q1 q2 (hI'.le.trans q3) q4.tail⟩ (fun v x fp' V' H' sg' hΨ hx hr ht hvx hle => Qc ?_)) hAt hst
        · obtain ⟨q1, q2⟩ := hfs.Er j u hj
          exact hI'.slots j u (by rw [d1 j q2]; exact q1)
        · intro a' w' ha' hw'
          obtain ⟨e1, e2⟩ := huq x fp' hΨ
          subst e1 e2
          exact exec _ td' s' f V H hp sg hN' hf rfl (fun g hg _ hgr => hrel' g hg hgr) A r rfl hI' rest s2 sg' V' H' v a' w' hperm k3 hx hr ht hvx hle ha' hw'
  intro a w ha hw
  refine main l.toArray.size [] todo s0 (Array.replicate l.toArray.size false) a { w with drawn := w.drawn + 1 } V0 H0 s0.hp sg0 ⟨trivial, hx, fun _ => rfl, fun _ => rfl, hs0.nd, rfl, fun j hj => .inl (by
    have := List.all_eq_true.1 hcov j (List.mem_range.2 hj)
    simpa using this)⟩ ⟨by simp, ?_, ?_, ?_, ha.defers, ha.size, fun _ => rfl, hs0.nd, hs0.hr, hs0.top, fun f hf => (by cases hf), hs0.fresh, hs0.le, hs0.vle, hs0.keep, hs0.sub, ?_⟩ (fun f hf => by cases hf) ?_
  · intro k o _ hk
    change (Array.replicate l.toArray.size false).getD k false = true at hk
    rw [getD_replicate_false] at hk; cases hk
  · intro i hi
    rw [getD_replicate_false] at hi; cases hi
  · intro t u hu
    obtain ⟨v, q1, q2⟩ := hs0.lk t u hu
    exact ⟨v, ha.slots t v q1, q2⟩
  · exact ⟨hw.os, ⟨hw.tape.1, Nat.le_succ_of_le hw.tape.2⟩, hw.output, hw.imm, hw.own_at, hw.apart, hw.nodup⟩
  · unfold left
    exact Nat.le_trans (List.length_filter_le _ _) (by simp)
end
def oapp : List Prop → List Prop → List Prop
  | [], l => l
  | p :: r, l => p :: oapp r l
theorem dj : ∀ {a b : List Prop}, aL (oapp a b) → aL a ∧ aL b
  | [], _, h => ⟨trivial, h⟩
  | _ :: _, _, h => let ⟨h1, h2⟩ := dj h.2; ⟨⟨h.1, h1⟩, h2⟩
def cnd : Bool → Bool → Bool
  | true, b => b
  | false, b => !b
def xcnd (l : List Oper) (E : XE) : Option (Nat × Bool) → Option Bool
  | none => none
  | some (j, want) => match l[j]? with
    | some ⟨some t, _, _, _, _, _⟩ => match xlk E t with
      | some (.a (.c (.d (.c (.bool b))))) => match want with
        | true => some b
        | false => some (!b)
      | some (.gd b0 (.c (.d (.c (.bool b))))) => match want with
        | true => some (b0 && b)
        | false => some (b0 && !b)
      | _ => none
    | _ => none
def sofE (E : XE) : List Tmp → XE × List Prop
  | [] => ([], [])
  | t :: r => match sofE E r with
    | (l, ob) => match xlk E t with
      | some (.gd b y) => ((t, .a y) :: l, (b = true) :: ob)
      | some u => ((t, u) :: l, ob)
      | none => (l, ob)
def plnE (E : XE) : List Tmp → XE → XE
  | [], l => l
  | t :: r, l => match xlk E t with
    | some u => (t, u) :: plnE E r l
    | none => plnE E r l
section
variable {P : Program} {pk : Pk} {V : Vn} {H : Hp} {env : Env} {E : XE}
theorem kQ (hl : Lk V H env E) : ∀ {ts : List Tmp} {Es : XE} {ob : List Prop}, sofE E ts = (Es, ob) → aL ob → Lk V H env Es
  | [], Es, ob, h, _ => by cases h; intro i u hu; cases hu
  | t :: r, Es, ob, h, ho => by
    simp only [sofE] at h
    generalize hq : sofE E r = q at h
    obtain ⟨l, o⟩ := q
    simp only at h
    have cons : ∀ {v : XV}, (∀ w, lk env t = some w → (∃ u, xlk E t = some u ∧ u.rel V H w) → v.rel V H w) → (∃ u, xlk E t = some u) → Lk V H env l → Lk V H env ((t, v) :: l) := by
      rintro v hv ⟨u, hu⟩ hll i x hx
      simp only [xlk] at hx
      cases hb : Nat.beq t i with
      | true =>
        rw [hb] at hx; cases hx
        obtain ⟨w, h1, h2⟩ := hl t u hu
        rw [← Nat.eq_of_beq_eq_true hb]
        exact ⟨w, h1, hv w h1 ⟨u, hu, h2⟩⟩
      | false => rw [hb] at hx; exact hll i x hx
    split at h; {
    rename_i b y hx
    cases h
    refine cons (fun w h1 h2 => ?_) ⟨_, hx⟩ (kQ hl hq ho.2)
    obtain ⟨u, h3, h4⟩ := h2
    rw [hx] at h3; cases h3
    exact h4.1 ho.1}; {
    rename_i u hx
    cases h
    refine cons (fun w h1 h2 => ?_) ⟨_, hx⟩ (kQ hl hq ho)
    obtain ⟨u', h3, h4⟩ := h2
    rw [hx] at h3; cases h3
    exact h4}; {
    cases h; exact kQ hl hq ho}
theorem pln_ok (hl : Lk V H env E) : ∀ {ts : List Tmp} {l : XE}, Lk V H env l → Lk V H env (plnE E ts l)
  | [], l, h => h
  | t :: r, l, h => by
    simp only [plnE]
    split; {
    rename_i u hu
    intro i x hx
    simp only [xlk] at hx
    cases hb : Nat.beq t i with
    | true => rw [hb] at hx; cases hx; rw [← Nat.eq_of_beq_eq_true hb]; exact hl t _ hu
    | false => rw [hb] at hx; exact pln_ok hl h i x hx}
    {
    exact pln_ok hl h}
theorem LS.weak {ops : Array Oper} {o : Oper} {Er : XE} {fp : XH} {nx nx' : Nat} {Ψ Ψ' : XV → XH → Prop} (h : LS P pk ops o Er fp nx nx' Ψ) (hw : ∀ x fp', Ψ x fp' → Ψ' x fp') : LS P pk ops o Er fp nx nx' Ψ' :=
  fun w0 N Q rest env own H V sg h1 h2 h3 h4 h5 h6 h7 => h w0 N Q rest env own H V sg h1 h2 h3 h4 h5 h6 fun v x fp' V' H' sg' hp => h7 v x fp' V' H' sg' (hw x fp' hp)
theorem LS.soft {l : List Oper} {o : Oper} {Er Es : XE} {fp : XH} {nx : Nat} {R : XA} {c : Bool} (hc : xcnd l Er o.guard = some c) (hs : c = true → ∀ V H env, Lk V H env Er → Lk V H env Es)
    (h : c = true → LS P pk l.toArray { o with guard := none } Es fp nx nx (fun x fp' => x = .a R ∧ fp' = fp)) : LS P pk l.toArray o Er fp nx nx (fun x fp' => x = .gd c R ∧ fp' = fp) := by
  intro w0 N Q rest env own H V sg hl hV ht hf hd hp hh
  obtain ⟨d, op, ty, pos, af, g⟩ := o
  have no : c = false → TL P w0 N Q l.toArray rest (ao d undef env) (sg :: own) H := fun hcf => hh undef (.gd c R) fp V H sg ⟨rfl, rfl⟩ ⟨fun h => (by rw [hcf] at h; cases h), fun _ => rfl⟩ hV ht (VX.refl _ _ _) (Le.refl _)
  have yes : c = true → TL P w0 N Q l.toArray ({ dst := d, op := op, type := ty, pos := pos, after := af, guard := none } :: rest) env (sg :: own) H := fun hct =>
    h hct w0 N Q rest env own H V sg (hs hct V H env hl) hV ht hf hd hp fun v y fp' V' H' sg' hΨ hr => hh v (.gd c R) fp' V' H' sg' ⟨rfl, hΨ.2⟩ ⟨fun _ => (by have := hr; rw [hΨ.1] at this; exact this), fun hcf => (by rw [hct] at hcf; cases hcf)⟩
  cases g with
  | none => simp only [xcnd] at hc; cases hc
  | some q =>
    obtain ⟨j, want⟩ := q
    have fin : ∀ {t : Tmp} {b : Bool}, (l.toArray[j]?).bind (·.dst) = some t → lk env t = some (.bool b) → c = cnd want b → TL P w0 N Q l.toArray ({ dst := d, op := op, type := ty, pos := pos, after := af, guard := some (j, want) } :: rest) env (sg :: own) H := by
      intro t b hj h1 hcb
      by_cases e : b = want; {
      subst e; exact TL.gyes hj h1 hd (yes (by rw [hcb]; cases b <;> rfl))}
      {
      exact TL.gno (b := b) hj h1 (by cases b <;> cases want <;> simp_all) hd (no (by rw [hcb]; cases b <;> cases want <;> simp_all [cnd]))}
    simp only [xcnd] at hc
    split at hc; {
    rename_i t _ _ _ _ _ hj
    split at hc; {
    rename_i b hb
    have hc : c = cnd want b := by cases want <;> (cases hc; rfl)
    obtain ⟨v, h1, h2⟩ := hl _ _ hb
    have := bk h2; subst this
    exact fin (t := t) (by simp [hj]) h1 hc}; {
    rename_i b0 b hb
    have hc : c = (b0 && cnd want b) := by cases want <;> (cases hc; rfl)
    obtain ⟨v, h1, h2, h3⟩ := hl _ _ hb
    cases hb0 : b0 with
    | true =>
      have := bk (V := V) (H := H) (h2 hb0); subst this
      exact fin (t := t) (b := b) (by simp [hj]) h1 (by rw [hc, hb0, Bool.true_and])
    | false =>
      have := h3 hb0; subst this
      exact TL.gund (t := t) (by simp [hj]) h1 hd (no (by rw [hc, hb0]; rfl))}
    {
    cases hc}}; {
    cases hc}
def xbo : XV → Option (Bool × Bool)
  | .a (.c (.d (.c (.bool p)))) => some (true, p)
  | .gd g (.c (.d (.c (.bool p)))) => some (g, p)
  | _ => none
theorem xbo_ok {u : XV} {g p : Bool} (h : xbo u = some (g, p)) (hg : g = true) {v : Value} (hr : u.rel V H v) : v = .bool p := by
  unfold xbo at h
  split at h; {
  cases h; exact bk hr}; {
  cases h; exact bk (V := V) (H := H) (hr.1 hg)}; {
  cases h}
def xopS {P : Program} (T : Tb P) (look : Operand → Option XV) (get : Nat → Option XB) (nx : Nat) : Op → Option (XK × List Prop)
  | .pick c x (.const (.bool false)) => match look c, look x with
    | some (.a (.c (.d (.c (.bool b))))), some u => match xbo u with | some (g, p) => some (.q (xv (.bool (b && p))), [b = true → g = true]) | none => none
    | _, _ => none
  | .pick c (.const (.bool true)) y => match look c, look y with
    | some (.a (.c (.d (.c (.bool b))))), some u => match xbo u with | some (g, p) => some (.q (xv (.bool (b || p))), [b = false → g = true]) | none => none
    | _, _ => none
  | op => xop T look get nx op
theorem LS.plainS {ops : Array Oper} {T : Tb P} {o : Oper} {Er : XE} {get : Nat → Option XB} {nx : Nat} {k : XK} {ob : List Prop} (hg : o.guard = none) (h : xopS T (xev Er) get nx o.op = some (k, ob)) (hob : aL ob) :
    LS P pk ops o Er (k.fp get) nx (k.nx nx) (fun x fp' => x = k.v ∧ fp' = k.fp' get nx) := by
  obtain ⟨d, op, ty, pos, af, g⟩ := o
  simp only at hg h
  subst hg
  have rel1 : ∀ V H (b : Bool), XV.rel V H (xv (.bool b)) (.bool b) := fun V H b => by simp only [xv, XV.rel, XA.rel, XC.rel, rd]; exact ⟨trivial, rfl⟩
  unfold xopS at h
  split at h; {
  rename_i c x
  split at h; {
  rename_i b u hc hx
  split at h; {
  rename_i g p hu
  cases h
  intro w0 N Q rest env own H V sg hl hV ht hf hd _ hh
  obtain ⟨v, h1, h2⟩ := hl.lks _ _ hc
  have := bk h2; subst this
  obtain ⟨w, h3, h4⟩ := hl.lks _ _ hx
  cases b with
  | true =>
    have := xbo_ok hu (hob.1 rfl) h4; subst this
    exact TL.pickT (v := .bool false) h1 h3 rfl hd (hh _ _ _ V H _ ⟨rfl, rfl⟩ (by rw [Bool.true_and]; exact rel1 _ _ _) hV ht (VX.refl _ _ _) (Le.refl _))
  | false => exact TL.pickF (v := .bool false) h1 h3 rfl hd (hh _ _ _ V H _ ⟨rfl, rfl⟩ (by rw [Bool.false_and]; exact rel1 _ _ _) hV ht (VX.refl _ _ _) (Le.refl _))}
  {
  cases h}}; {
  cases h}}; {
  rename_i c y _
  split at h; {
  rename_i b u hc hx
  split at h; {
  rename_i g p hu
  cases h
  intro w0 N Q rest env own H V sg hl hV ht hf hd _ hh
  obtain ⟨v, h1, h2⟩ := hl.lks _ _ hc
  have := bk h2; subst this
  obtain ⟨w, h3, h4⟩ := hl.lks _ _ hx
  cases b with
  | false =>
    have := xbo_ok hu (hob.1 rfl) h4; subst this
    exact TL.pickF (u := .bool true) h1 rfl h3 hd (hh _ _ _ V H _ ⟨rfl, rfl⟩ (by rw [Bool.false_or]; exact rel1 _ _ _) hV ht (VX.refl _ _ _) (Le.refl _))
  | true => exact TL.pickT (u := .bool true) h1 rfl h3 hd (hh _ _ _ V H _ ⟨rfl, rfl⟩ (by rw [Bool.true_or]; exact rel1 _ _ _) hV ht (VX.refl _ _ _) (Le.refl _))}
  {
  cases h}}; {
  cases h}}; {
  exact LS.plain rfl h hob}
def sofO (E : XE) : Op → XE × List Prop
  | .pick c x y => match sofE E (mN c) with
    | (l, ob) => (plnE E (mN x ++ mN y) l, ob)
  | op => sofE E (op.operands.toList.flatMap mN)
theorem nM (hl : Lk V H env E) {op : Op} {Es : XE} {ob : List Prop} (h : sofO E op = (Es, ob)) (ho : aL ob) : Lk V H env Es := by
  unfold sofO at h
  split at h; {
  rename_i c y z
  generalize hq : sofE E (mN c) = q at h
  obtain ⟨l, o⟩ := q
  cases h
  exact pln_ok hl (kQ hl hq ho)}; {
  exact kQ hl h ho}
def xgo {P : Program} (T : Tb P) (sf : Bool) (l : List Oper) (Er : XE) (get : Nat → Option XB) (nx : Nat) : Oper → Option (XK × List Prop)
  | ⟨d, op, ty, pos, af, gd⟩ => match sf with
    | false => match aw l Er gd with
      | some false => some (.q .u, [])
      | some true => xop T (xev Er) get nx op
      | none => none
    | true => match gd with
      | none => xopS T (xev Er) get nx op
      | some q => match xcnd l Er (some q) with
        | some c => match sofO Er op with
          | (Es, ob) => match xopS T (xev Es) get nx op with
            | some (.q (.a R), ob') => some (.q (.gd c R), [c = true → aL (oapp ob ob')])
            | some (.r (.a R) g, ob') => some (.r (.gd c R) g, [c = true → aL (oapp ob ob')])
            | _ => none
        | none => none
theorem LS.go {T : Tb P} {sf : Bool} {l : List Oper} {o : Oper} {Er : XE} {get : Nat → Option XB} {nx : Nat} {k : XK} {ob : List Prop} (h : xgo T sf l Er get nx o = some (k, ob)) (hob : aL ob) :
    LS P pk l.toArray o Er (k.fp get) nx (k.nx nx) (fun x fp' => x = k.v ∧ fp' = k.fp' get nx) := by
  obtain ⟨d, op, ty, pos, af, gd⟩ := o
  simp only [xgo] at h
  cases sf with
  | false =>
    simp only at h
    split at h; {
    rename_i hw; cases h; exact LS.no (o := ⟨d, op, ty, pos, af, gd⟩) hw}; {
    rename_i hw; exact LS.yes (o := ⟨d, op, ty, pos, af, gd⟩) hw (LS.plain rfl h hob)}; {
    cases h}
  | true =>
    simp only at h
    split at h; {
    exact LS.plainS rfl h hob}; {
    rename_i q
    split at h; {
    rename_i c hc
    generalize hq : sofO Er op = q9 at h
    obtain ⟨Es, o9⟩ := q9
    simp only at h
    split at h; {
    rename_i R ob' hx
    cases h
    refine LS.soft (Es := Es) hc (fun hct V H env hl => nM hl hq (dj (hob.1 hct)).1) (fun hct => ?_)
    exact LS.plainS (T := T) (get := get) (o := ⟨d, op, ty, pos, af, none⟩) rfl hx (dj (hob.1 hct)).2}; {
    rename_i R g ob' hx
    cases h
    refine LS.soft (Es := Es) hc (fun hct V H env hl => nM hl hq (dj (hob.1 hct)).1) (fun hct => ?_)
    exact LS.plainS (T := T) (get := get) (o := ⟨d, op, ty, pos, af, none⟩) rfl hx (dj (hob.1 hct)).2}; {
    cases h}}; {
    cases h}}
end
def dsA (ds : List Deferred) (a : Act) : Act := { a with defers := ds }
theorem aZ (ds : List Deferred) (a : Act) (d : Option Tmp) (v : Value) : (dsA ds a).put d v = dsA ds (a.put d v) := by cases d <;> rfl
theorem dD (ds : List Deferred) (a : Act) : (dsA ds a).eval = a.eval := funext fun x => by cases x <;> rfl
theorem bD (a : Act) (d : Option Tmp) (v : Value) : (a.put d v).defers = a.defers := by cases d <;> rfl
def okA (ds : List Deferred) (Q : Exit → Act → World → Prop) : Exit → Act → World → Prop := fun e a w => a.defers = [] ∧ Q e (dsA ds a) w
theorem cv {a : Act} (h : a.defers = []) : dsA [] a = a := by cases a; simp only at h; subst h; rfl
theorem iK {ds : List Deferred} {a : Act} (h : a.defers = ds) : dsA ds (dsA [] a) = a := by cases a; simp only at h; subst h; rfl
section
variable {P : Program} {ds : List Deferred} {Q : Exit → Act → World → Prop} {ops : Array Oper}
theorem op_no (hno : ∀ a w, ¬ Q .outgrown a w) {o : Oper} {a : Act} {w : World} {next : Act → World → Prop} (h : o.wp P a w next (okA ds Q)) (hn : ∀ a w, next a w → a.defers = []) : a.defers = [] := by
  unfold Oper.wp at h
  generalize (execOp a.eval o).run P w = r at h
  have hlet : ¬ LetsOut (okA ds Q) := by rintro ⟨a, w, _, h⟩; exact hno _ _ h
  cases r with
  | ok nx w' =>
    cases nx with
    | value v => have := hn _ _ h; rwa [bD] at this
    | skip => have := hn _ _ h; rwa [bD] at this
    | defer d => have := hn _ _ h; rw [bD] at this; cases this
    | enter f args =>
      obtain ⟨e, w2, fr, hR, _⟩ := h []
      cases e with
      | returned v => have := hn _ _ hR; rwa [bD] at this
      | panicked ch => exact hR.1
      | outgrown => exact (hlet hR).elim
    | row row args =>
      obtain ⟨v, w2, hR, _⟩ := h default []
      have := hn _ _ hR; rwa [bD] at this
    | _ => exact h.elim
  | halt x w' =>
    cases x with
    | panic v => exact h.1
    | _ => exact h.elim
theorem op_ds (hno : ∀ a w, ¬ Q .outgrown a w) {o : Oper} {a : Act} {w : World} {next next' : Act → World → Prop} (h : o.wp P a w next (okA ds Q)) (hn : ∀ a w, next a w → a.defers = []) (hk : ∀ a w, next a w → next' (dsA ds a) w) : o.wp P (dsA ds a) w next' Q := by
  unfold Oper.wp at h ⊢
  rw [dD]
  generalize (execOp a.eval o).run P w = r at h ⊢
  have hlet : ¬ LetsOut (okA ds Q) := by rintro ⟨a, w, _, h⟩; exact hno _ _ h
  cases r with
  | ok nx w' =>
    cases nx with
    | value v => rw [Oper.upon_value, aZ]; exact hk _ _ h
    | skip => rw [Oper.upon_skip, aZ]; exact hk _ _ h
    | defer d => have := hn _ _ h; rw [bD] at this; cases this
    | enter f args =>
      refine Calls.mono h ?_
      intro e w2 hR
      cases e with
      | returned v => show next' ((dsA ds a).put o.dst v) w2; rw [aZ]; exact hk _ _ hR
      | panicked ch => exact hR.2
      | outgrown => exact (hlet hR).elim
    | row row args =>
      refine Rows.mono h ?_
      intro v w2 hR
      rw [aZ]; exact hk _ _ hR
    | _ => exact h.elim
  | halt x w' =>
    cases x with
    | panic v => exact h.2
    | _ => exact h.elim
theorem gu (hno : ∀ a w, ¬ Q .outgrown a w) {p : Prop} (h : p ∧ LetsOut (okA ds Q)) : False := by
  obtain ⟨_, a, w, _, h⟩ := h; exact hno _ _ h
theorem gv (hno : ∀ a w, ¬ Q .outgrown a w) : ∀ (l : List Oper) (a : Act) (w : World), wpList P ops (okA ds Q) l a w → a.defers = []
  | [], _, _, h => h.1
  | o :: rest, a, w, h => by
    simp only [wpList] at h
    split at h; {
    rcases h with h | h
    {
    exact op_no hno h (gv hno rest)}; {
    exact (gu hno h).elim}}; {
    have := gv hno rest _ _ h; rwa [bD] at this}
theorem gw (hno : ∀ a w, ¬ Q .outgrown a w) : ∀ (l : List Oper) (a : Act) (w : World), wpList P ops (okA ds Q) l a w → wpList P ops Q l (dsA ds a) w
  | [], _, _, h => h.2
  | o :: rest, a, w, h => by
    simp only [wpList] at h ⊢
    rw [show yielded ops (dsA ds a).tmps = yielded ops a.tmps from rfl]
    split at h; {
    rename_i hw
    rw [if_pos hw]
    rcases h with h | h
    {
    exact .inl (op_ds hno h (gv hno rest) (gw hno rest))}; {
    exact (gu hno h).elim}}; {
    rename_i hw
    rw [if_neg hw, aZ]
    exact gw hno rest _ _ h}
theorem wpOp_no (hno : ∀ a w, ¬ Q .outgrown a w) {i : Nat} {K : Act → World → Prop} {a : Act} {w : World} (h : wpOp P ops (okA ds Q) i K a w) (hK : ∀ a w, K a w → a.defers = []) : a.defers = [] := by
  unfold wpOp at h
  split at h; {
  exact hK _ _ h}; {
  split at h; {
  rcases h with h | h
  {
  exact op_no hno h hK}; {
  exact (gu hno h).elim}}; {
  have := hK _ _ h; rwa [bD] at this}}
theorem wpOp_ds (hno : ∀ a w, ¬ Q .outgrown a w) {i : Nat} {K K' : Act → World → Prop} {a : Act} {w : World} (h : wpOp P ops (okA ds Q) i K a w) (hK : ∀ a w, K a w → a.defers = []) (hk : ∀ a w, K a w → K' (dsA ds a) w) : wpOp P ops Q i K' (dsA ds a) w := by
  unfold wpOp at h ⊢
  cases ho : ops[i]? with
  | none => simp only [ho] at h ⊢; exact hk _ _ h
  | some o =>
    simp only [ho] at h ⊢
    rw [show yielded ops (dsA ds a).tmps = yielded ops a.tmps from rfl]
    split at h; {
    rename_i hw
    rw [if_pos hw]
    rcases h with h | h
    {
    exact .inl (op_ds hno h hK hk)}; {
    exact (gu hno h).elim}}; {
    rename_i hw
    rw [if_neg hw, aZ]
    exact hk _ _ h}
theorem kR (hno : ∀ a w, ¬ Q .outgrown a w) {md : Region.Mode} : ∀ (n : Nat) (lst : Array Bool) (a : Act) (w : World), wpAny P md ops (okA ds Q) n lst a w → a.defers = []
  | 0, _, _, _, h => h.2.1
  | n + 1, lst, a, w, h => by
    obtain ⟨h1, h2⟩ := h
    cases hr : Region.ready md ops lst with
    | nil => exact (h1 hr).1
    | cons i r => exact wpOp_no hno (h2 i (by rw [hr]; exact List.mem_cons_self ..)) (kR hno n _)
theorem oX (hno : ∀ a w, ¬ Q .outgrown a w) {md : Region.Mode} : ∀ (n : Nat) (lst : Array Bool) (a : Act) (w : World), wpAny P md ops (okA ds Q) n lst a w → wpAny P md ops Q n lst (dsA ds a) w
  | 0, _, _, _, h => ⟨h.1, h.2.2⟩
  | n + 1, lst, a, w, h => ⟨fun hr => (h.1 hr).2, fun i hi => wpOp_ds hno (h.2 i hi) (kR hno n _) (oX hno n _)⟩
end
inductive Fr where
  | s (c : Code)
  | b (i : Nat)
  | l (J : Nat → XS → Prop) (n : Nat)
structure Cx (P : Program) where
  B : Bs
  N : Nat
  R : Exit → Act → World → Prop
  /-- The deferred calls of the frame. -/
  ds : List Deferred
  no : ∀ a w, ¬ R .outgrown a w
  pan : PanOk B (okA ds R)
def JJ (B : Bs) (J : Nat → XS → Prop) : Nat → Env → List Seg → Hp → Prop := fun n env own H => ∃ s V sg, J n s ∧ SR B s V H sg env ∧ own = sg :: B.own
def NxD (ds : List Deferred) (w0 : World) (N : Nat) (J : Nat → Env → List Seg → Hp → Prop) (n : Nat) (a : Act) (w : World) : Prop := a.defers = ds ∧ Nx w0 N J n (dsA [] a) w
section
variable {P : Program}
def KQ (x : Cx P) : List Fr → Exit → Act → World → Prop
  | [] => x.R
  | .s c :: k => Exit.then (c.wp P (KQ x k)) (KQ x k)
  | .b i :: k => Exit.inBlock i (KQ x k)
  | .l J n :: k => Exit.then (NxD x.ds x.B.w0 x.N (JJ x.B J) n) (KQ x k)
theorem KQ.pan (x : Cx P) : ∀ k, PanOk x.B (okA x.ds (KQ x k))
  | [] => x.pan
  | .s c :: k => KQ.pan x k
  | .b i :: k => KQ.pan x k
  | .l J n :: k => KQ.pan x k
theorem KQ.no (x : Cx P) : ∀ k, ∀ a w, ¬ KQ x k .outgrown a w
  | [] => x.no
  | .s c :: k => KQ.no x k
  | .b i :: k => KQ.no x k
  | .l J n :: k => KQ.no x k
def MC (x : Cx P) (c : Code) (k : List Fr) (s : XS) : Prop := ∀ V H sg env, SR x.B s V H sg env → ∀ a w, At x.N env a → St x.B.w0 H (sg :: x.B.own) w → c.wp P (KQ x k) (dsA x.ds a) w
def ME (x : Cx P) (e : Exit) (k : List Fr) (s : XS) : Prop := ∀ V H sg env, SR x.B s V H sg env → ∀ a w, At x.N env a → St x.B.w0 H (sg :: x.B.own) w → KQ x k e (dsA x.ds a) w
variable {x : Cx P} {k : List Fr} {s s' : XS} {c a b : Code}
theorem MC.seq (h : MC x a (.s b :: k) s) : MC x (.seq a b) k s := fun V H sg env hs a w ha hw => wp_seq (h V H sg env hs a w ha hw)
theorem MC.skip (h : ME x .normal k s) : MC x .skip k s := fun V H sg env hs a w ha hw => wp_skip (h V H sg env hs a w ha hw)
theorem MC.ret (h : ME x .ret k s) : MC x .ret k s := fun V H sg env hs a w ha hw => wp_ret (h V H sg env hs a w ha hw)
theorem MC.exit {i : Nat} (h : ME x (.exit i) k s) : MC x (.exit i) k s := fun V H sg env hs a w ha hw => wp_exit (h V H sg env hs a w ha hw)
theorem MC.block {i : Nat} (h : MC x c (.b i :: k) s) : MC x (.block i c) k s := fun V H sg env hs a w ha hw => wp_block (h V H sg env hs a w ha hw)
theorem MC.region {i : Nat} {l : List Oper} (h : XL P x.B.pk x.N l.toArray l s (fun s' => ME x .normal k s')) : MC x (.region i l.toArray false) k s := fun V H sg env hs a w ha hw =>
  wp_region_lit (gw (KQ.no x k) _ _ _ (XL.ok (Q := okA x.ds (KQ x k)) (KQ.pan x k) h (fun s' hs' V H sg env hr a w ha hw => ⟨ha.defers, hs' V H sg env hr a w ha hw⟩) V H sg env hs a w ha hw))
theorem MC.cond {o : Operand} {t : Bool} (hc : xev s.E o = some (xv (.bool t))) (h1 : t = true → MC x a k s) (h2 : t = false → MC x b k s) : MC x (.cond o a b) k s := fun V H sg env hs ac w ha hw => by
  obtain ⟨v, e1, e2⟩ := hs.lk.lks _ _ hc
  have := bk e2; subst this
  exact wp_cond_split (by rw [dD]; exact ha.ev e1) (fun h => h1 h V H sg env hs ac w ha hw) (fun h => h2 h V H sg env hs ac w ha hw)
theorem ME.ret_s (h : ME x .ret k s) : ME x .ret (.s c :: k) s := h
theorem ME.ret_b {i : Nat} (h : ME x .ret k s) : ME x .ret (.b i :: k) s := h
theorem ME.ret_l {J : Nat → XS → Prop} {n : Nat} (h : ME x .ret k s) : ME x .ret (.l J n :: k) s := h
theorem ME.exit_b {i : Nat} (h : ME x .normal k s) : ME x (.exit i) (.b i :: k) s := fun V H sg env hs a w ha hw => by
  simpa only [KQ, Exit.inBlock, if_true] using h V H sg env hs a w ha hw
theorem ME.exit_o {i j : Nat} (hne : Nat.beq i j = false) (h : ME x (.exit i) k s) : ME x (.exit i) (.b j :: k) s := fun V H sg env hs a w ha hw => by
  simpa only [KQ, Exit.inBlock, if_neg (Nat.ne_of_beq_eq_false hne)] using h V H sg env hs a w ha hw
theorem St.part {w0 w : World} {H : Hp} {own : List Seg} {s1 s2 sg : Seg} (hp : (s1 ++ s2).Perm sg) (h : St w0 H (sg :: own) w) : St w0 H (s1 :: own) w := by
  have h1 : St w0 H (s2 :: s1 :: own) w := h.flat (by
    simp only [List.flatten_cons, ← List.append_assoc]
    exact (List.perm_append_comm.trans hp).append_right _)
  exact h1.tail
theorem MC.mt {nm : Nat → Nat} (hm : Mt x.B.nx0 x.B.F s s' nm) (h : MC x c k s') : MC x c k s := fun V H sg env hs a w ha hw => by
  obtain ⟨V', s1, s2, h1, h2⟩ := hs.mt hm
  exact h V' H s1 env h2 a w ha (St.part h1 hw)
theorem ME.mt {e : Exit} {nm : Nat → Nat} (hm : Mt x.B.nx0 x.B.F s s' nm) (h : ME x e k s') : ME x e k s := fun V H sg env hs a w ha hw => by
  obtain ⟨V', s1, s2, h1, h2⟩ := hs.mt hm
  exact h V' H s1 env h2 a w ha (St.part h1 hw)
theorem MC.loop (J : Nat → XS → Prop) (n : Nat) {nm : Nat → Nat} (hm : Mt x.B.nx0 x.B.F s s' nm) (h0 : J n s') (round : ∀ n s, J n s → MC x c (.l J n :: k) s) : MC x (.loop c) k s := MC.mt hm fun V H sg env hs a w ha hw => by
  refine wp_loop_ghost (fun n a w => a.defers = x.ds ∧ ∃ env own H, JJ x.B J n env own H ∧ At x.N env (dsA [] a) ∧ St x.B.w0 H own w) n ⟨rfl, env, _, H, ⟨s', V, sg, h0, hs, rfl⟩, by rw [show dsA [] (dsA x.ds a) = dsA [] a from rfl, cv ha.defers]; exact ha, hw⟩ ?_
  rintro n a w ⟨hds, env, own, H, ⟨s, V, sg, hJ, hs, rfl⟩, ha, hw⟩
  have hr := round n s hJ V H sg env hs (dsA [] a) w ha hw
  rw [iK hds] at hr
  refine wp_mono hr ?_
  intro e a' w' hq
  cases e with
  | normal => obtain ⟨h9, n', env, own, H, hlt, hJ', ha', hw'⟩ := hq; exact ⟨n', hlt, h9, env, own, H, hJ', ha', hw'⟩
  | exit id => exact hq
  | goto l => exact hq
  | ret => exact hq
  | panic ch => exact hq
  | outgrown => exact hq
theorem ME.next {J : Nat → XS → Prop} {n : Nat} (n' : Nat) {nm : Nat → Nat} (hm : Mt x.B.nx0 x.B.F s s' nm) (hlt : n' < n) (hJ : J n' s') : ME x .normal (.l J n :: k) s := ME.mt hm fun V H sg env hs a w ha hw => ⟨rfl, n', env, _, H, hlt, ⟨s', V, sg, hJ, hs, rfl⟩, by rw [show dsA [] (dsA x.ds a) = dsA [] a from rfl, cv ha.defers]; exact ha, hw⟩
theorem MC.cut (J : XS → Prop) (h : MC x a (.l (fun _ => J) 1 :: k) s) (hb : ∀ s, J s → MC x b k s) : MC x (.seq a b) k s := fun V H sg env hs ac w ha hw => wp_seq (by
  refine wp_mono (h V H sg env hs ac w ha hw) ?_
  intro e a' w' hq
  cases e with
  | normal => obtain ⟨h9, n', env, own, H, hlt, ⟨s, V, sg, hJ, hs, rfl⟩, ha', hw'⟩ := hq; have h8 := hb s hJ V H sg env hs _ w' ha' hw'; rwa [iK h9] at h8
  | exit id => exact hq
  | goto l => exact hq
  | ret => exact hq
  | panic ch => exact hq
  | outgrown => exact hq)
theorem MC.draw {i : Nat} {l : List Oper} (hm : P.follows .mixedOrders = true) {todo : List Nat} (htd : ((List.range l.length).all todo.contains && bck l 0) = true) (h : XR P x.B.pk x.N l todo [] s (fun s' => ME x .normal k s')) : MC x (.region i l.toArray true) k s := fun V H sg env hs a w ha hw =>
  wp_region_any hm (oX (KQ.no x k) _ _ _ _ (XR.any (Q := okA x.ds (KQ x k)) (KQ.pan x k) htd h (fun s' hs' V H sg env hr a w ha hw => ⟨ha.defers, hs' V H sg env hr a w ha hw⟩) V H sg env hs a w ha hw))
theorem MC.cutf {d : Code} (J : XS → Prop) (h : MC x c (.l (fun _ => J) 1 :: .s d :: k) s) (hb : ∀ s, J s → MC x d k s) : MC x c (.s d :: k) s := fun V H sg env hs ac w ha hw => by
  refine wp_mono (h V H sg env hs ac w ha hw) ?_
  intro e a' w' hq
  cases e with
  | normal => obtain ⟨h9, n', env, own, H, hlt, ⟨s, V, sg, hJ, hs, rfl⟩, ha', hw'⟩ := hq; have h8 := hb s hJ V H sg env hs _ w' ha' hw'; rwa [iK h9] at h8
  | exit id => exact hq
  | goto l => exact hq
  | ret => exact hq
  | panic ch => exact hq
  | outgrown => exact hq
inductive MS where
  | c (c : Code) (k : List Fr) (s : XS)
  | e (e : Exit) (k : List Fr) (s : XS)
  | r (ops : List Oper) (dm : Option (List Rc)) (l : List (Nat × Oper)) (k : List Fr) (s : XS)
def snds : List (Nat × Oper) → List Oper
  | [] => []
  | p :: r => p.2 :: snds r
def fsts : List (Nat × Oper) → List Nat
  | [] => []
  | p :: r => p.1 :: fsts r
def MS.ok (x : Cx P) : MS → Prop
  | .c cc k s => MC x cc k s
  | .e ex k s => ME x ex k s
  | .r ops none l k s => XL P x.B.pk x.N ops.toArray (snds l) s (fun s' => ME x .normal k s')
  | .r ops (some rs) l k s => (∀ p ∈ l, ops[p.1]? = some p.2) → XR P x.B.pk x.N ops (fsts l) rs s (fun s' => ME x .normal k s')
def cutE (sl : List Nat) : XE → XE
  | [] => []
  | (j, v) :: r => bif sl.contains j then (j, v) :: cutE sl r else cutE sl r
theorem nN {sl : List Nat} : ∀ {E : XE} {j : Nat} {u : XV}, xlk (cutE sl E) j = some u → xlk E j = some u ∧ j ∈ sl
  | [], j, u, h => by cases h
  | (i, v) :: r, j, u, h => by
    simp only [cutE] at h
    simp only [xlk]
    cases hc : sl.contains i with
    | true =>
      rw [hc] at h
      simp only [cond_true, xlk] at h
      cases hb : Nat.beq i j with
      | true => rw [hb] at h; cases h; exact ⟨rfl, by rw [← Nat.eq_of_beq_eq_true hb]; simpa using hc⟩
      | false => rw [hb] at h; exact nN h
    | false =>
      rw [hc] at h
      obtain ⟨h1, h2⟩ := nN h
      refine ⟨?_, h2⟩
      cases hb : Nat.beq i j with
      | true => rw [Nat.eq_of_beq_eq_true hb] at hc; have : sl.contains j = true := by simpa using h2
                rw [this] at hc; cases hc
      | false => exact h1
def vis : Option (List Rc) → List Oper → Oper → XE → XE
  | none, _, _, E => E
  | some _, l, o, E => cutE (osl l o) E
def push : Option (List Rc) → Rc → Option (List Rc)
  | none, _ => none
  | some rs, rc => some (rc :: rs)
structure DK (l : List Oper) (rs : List Rc) (rc : Rc) : Prop where
  ok : dck l rs rc = true
def DkM : Option (List Rc) → List Oper → Rc → Prop
  | none, _, _ => True
  | some rs, l, rc => DK l rs rc
structure RL (l : List Oper) (i : Nat) (td : List Nat) : Prop where
  ok : td.all (fun j => fJ (hO l []) i j) = true
def RlM : Option (List Rc) → List Oper → Nat → List (Nat × Oper) → Prop
  | none, _, _, _ => True
  | some _, l, i, td => RL l i (fsts td)
theorem MS.op {ops : List Oper} {dm : Option (List Rc)} {i : Nat} {o : Oper} {l : List (Nat × Oper)} {E : XE} {hp fp rest : XH} {nx nx' : Nat} {Ψ : XV → XH → Prop} (wr rel : Bool) (hd : okD x.N o.dst = true) (hp0 : hp.Perm (fp ++ rest)) (hnx : nx ≤ nx') (hLS : LS P x.B.pk ops.toArray o (vis dm ops o E) fp nx nx' Ψ)
    (hdk : DkM dm ops ⟨i, ae fp ++ List.range' nx (nx' - nx), wr, rel⟩) (hu : rel = false → ∃ x0 fp0, Ψ x0 fp0 ∧ ∀ x fp', Ψ x fp' → x = x0 ∧ fp' = fp0) (hrl : rel = true → RlM dm ops i l)
    (hk : ∀ v fp', Ψ v fp' → (∀ b ∈ fp', b.g ∈ ae fp ∨ (nx ≤ b.g ∧ b.g < nx')) ∧ (ae fp').Nodup ∧ (wr = false → fp' = fp ∧ nx' = nx) ∧ ∃ hp' : XH, hp'.Perm (fp' ++ rest) ∧ (MS.r ops (push dm ⟨i, ae fp ++ List.range' nx (nx' - nx), wr, rel⟩) l k ⟨b8 o.dst v E, hp', nx'⟩).ok x) :
    (MS.r ops dm ((i, o) :: l) k ⟨E, hp, nx⟩).ok x := by
  cases dm with
  | none =>
    refine XL.cons ⟨E, fp, rest, nx', Ψ, hd, fun _ _ h => h, hp0, hnx, hLS, fun v fp' hΨ => ?_⟩
    obtain ⟨h1, h2, _, hp', h4, h5⟩ := hk v fp' hΨ
    exact ⟨h1, h2, hp', h4, h5⟩
  | some rs =>
    intro hl
    refine ⟨o, _, fp, rest, nx', wr, rel, Ψ, hl _ (List.mem_cons_self ..), hd, fun j u hj => nN hj, hp0, hnx, hdk.ok, hLS, hu, fun h => (hrl h).ok, fun v fp' hΨ => ?_⟩
    obtain ⟨h1, h2, h3, hp', h4, h5⟩ := hk v fp' hΨ
    exact ⟨h1, h2, h3, hp', h4, h5 (fun p hp => hl p (List.mem_cons_of_mem _ hp))⟩
def isDst (st : Nat) : Option Tmp → Bool
  | some d => Nat.beq d st
  | none => false
def XK.tc (nx : Nat) : XK → List Nat × Bool
  | .q _ => ([], false)
  | .r _ g => ([g], false)
  | .w _ g _ _ => ([g], true)
  | .n _ _ => ([nx], true)
def dob : Option (List Rc) → List Oper → Nat → List Nat × Bool → List Prop → List Prop
  | none, _, _, _, ob => ob
  | some rs, l, i, (fp, wr), ob => DK l rs ⟨i, fp, wr, false⟩ :: ob
def psh : Option (List Rc) → Nat → List Nat × Bool → Option (List Rc)
  | none, _, _ => none
  | some rs, i, (fp, wr) => some (⟨i, fp, wr, false⟩ :: rs)
def step {P : Program} (T : Tb P) (N : Nat) (sf : Bool) (l : List Oper) (dm : Option (List Rc)) (i : Nat) : XS → Oper → List Prop → Option (XS × Option (List Rc) × List Prop)
  | ⟨E, hp, nx⟩, ⟨d, op, ty, pos, af, gd⟩, ob => bif okD N d then
    match xgo T sf l (vis dm l ⟨d, op, ty, pos, af, gd⟩ E) (aq hp) nx ⟨d, op, ty, pos, af, gd⟩ with
    | some (k, ob') => bif k.has hp then match up E hp nx d k with | some s' => some (s', psh dm i (k.tc nx), dob dm l i (k.tc nx) (oapp ob' ob)) | none => none else none
    | none => none
  else none
theorem dob_ok {dm : Option (List Rc)} {l : List Oper} {i : Nat} {fp : List Nat} {wr : Bool} {ob : List Prop} (h : aL (dob dm l i (fp, wr) ob)) : DkM dm l ⟨i, fp, wr, false⟩ ∧ aL ob ∧ psh dm i (fp, wr) = push dm ⟨i, fp, wr, false⟩ := by
  cases dm with
  | none => exact ⟨trivial, h, rfl⟩
  | some rs => exact ⟨h.1, h.2, rfl⟩
theorem xput_up {E : XE} {hp : XH} {nx : Nat} {d : Option Tmp} {k : XK} {s' : XS} (h : up E hp nx d k = some s') : s' = ⟨b8 d k.v E, s'.hp, k.nx nx⟩ ∧ (match k with | .q _ => s'.hp = hp | .r _ _ => s'.hp = hp | .w _ g t o => bx hp g t o = some s'.hp | .n _ o => s'.hp = ⟨nx, 0, o⟩ :: hp) := by
  cases k <;> cases d <;> simp only [up] at h
  all_goals first | (cases h; exact ⟨rfl, rfl⟩) | skip
  all_goals (split at h <;> (try cases h))
  all_goals (rename_i hs; exact ⟨rfl, hs⟩)
theorem step_ok {T : Tb P} {sf : Bool} {ops : List Oper} {dm dm' : Option (List Rc)} {i : Nat} {s s' : XS} {o : Oper} {ob ob' : List Prop} (h : step T x.N sf ops dm i s o ob = some (s', dm', ob')) (hob : aL ob') {l : List (Nat × Oper)} (hK : (MS.r ops dm' l k s').ok x) : aL ob ∧ (MS.r ops dm ((i, o) :: l) k s).ok x := by
  obtain ⟨E, hp, nx⟩ := s
  obtain ⟨d, op, ty, pos, af, gd⟩ := o
  simp only [step] at h
  cases hd : okD x.N d with
  | false => rw [hd] at h; cases h
  | true =>
    rw [hd, cond_true] at h
    split at h; {
    rename_i kk o' hx
    cases hh : kk.has hp with
    | false => rw [hh] at h; cases h
    | true =>
      rw [hh, cond_true] at h
      split at h; {
      rename_i s1 hup
      cases h
      obtain ⟨h1, h2, h3⟩ := dob_ok (fp := (kk.tc nx).1) (wr := (kk.tc nx).2) hob
      have h3 : psh dm i (kk.tc nx) = push dm ⟨i, (kk.tc nx).1, (kk.tc nx).2, false⟩ := h3
      obtain ⟨h4, h5⟩ := dj h2
      obtain ⟨e1, e2⟩ := xput_up hup
      refine ⟨h5, ?_⟩
      have hLS := LS.go (pk := x.B.pk) hx h4
      rw [h3] at hK
      cases kk with
      | q y =>
        refine MS.op (fp := []) (rest := hp) false false hd (.refl _) (Nat.le_refl _) hLS (by simpa [ae, XK.tc] using h1) (fun _ => ⟨_, _, ⟨rfl, rfl⟩, fun _ _ h => h⟩) (fun h => by cases h) ?_
        rintro v fp' ⟨rfl, rfl⟩
        refine ⟨by simp [XK.fp'], by simp [XK.fp', ae], fun _ => ⟨rfl, rfl⟩, hp, .refl _, ?_⟩
        simp only at e2
        rw [e1, e2] at hK
        simpa [ae, XK.v, XK.nx, XK.tc] using hK
      | r y g =>
        simp only [XK.has] at hh
        obtain ⟨b, hb⟩ := Option.isSome_iff_exists.1 hh
        obtain ⟨p1, p2, p3⟩ := aQ hb
        have e9 : ae (lst (aq hp g)) = [g] := by rw [hb]; simp [lst, ae, p2]
        refine MS.op (fp := lst (aq hp g)) (rest := bM hp g) false false hd (by rw [hb]; exact p1) (Nat.le_refl _) hLS (by rw [e9]; simpa [XK.tc] using h1) (fun _ => ⟨_, _, ⟨rfl, rfl⟩, fun _ _ h => h⟩) (fun h => by cases h) ?_
        rintro v fp' ⟨rfl, rfl⟩
        refine ⟨fun b' hb' => .inl (List.mem_map.2 ⟨b', hb', rfl⟩), by simp [XK.fp', hb, lst, ae], fun _ => ⟨rfl, rfl⟩, hp, by simp only [XK.fp', hb, lst]; exact p1, ?_⟩
        simp only at e2
        rw [e1, e2] at hK
        simpa [e9, XK.v, XK.nx, XK.tc] using hK
      | w y g t o =>
        simp only [XK.has] at hh
        obtain ⟨b, hb⟩ := Option.isSome_iff_exists.1 hh
        obtain ⟨p1, p2, p3⟩ := aQ hb
        have e9 : ae (lst (aq hp g)) = [g] := by rw [hb]; simp [lst, ae, p2]
        refine MS.op (fp := lst (aq hp g)) (rest := bM hp g) true false hd (by rw [hb]; exact p1) (Nat.le_refl _) hLS (by rw [e9]; simpa [XK.tc] using h1) (fun _ => ⟨_, _, ⟨rfl, rfl⟩, fun _ _ h => h⟩) (fun h => by cases h) ?_
        rintro v fp' ⟨rfl, rfl⟩
        refine ⟨fun b' hb' => .inl ?_, by simp [XK.fp', ae], fun h => (by cases h), s'.hp, p3 t o _ e2, ?_⟩; {
        simp only [XK.fp', List.mem_singleton] at hb'
        subst hb'
        rw [e9]
        exact List.mem_singleton.2 rfl}; {
        rw [e1] at hK
        simpa [e9, XK.v, XK.nx, XK.tc] using hK}
      | n y o =>
        refine MS.op (fp := []) (rest := hp) true false hd (.refl _) (Nat.le_succ _) hLS (by simpa [ae, XK.tc, XK.nx] using h1) (fun _ => ⟨_, _, ⟨rfl, rfl⟩, fun _ _ h => h⟩) (fun h => by cases h) ?_
        rintro v fp' ⟨rfl, rfl⟩
        refine ⟨fun b' hb' => .inr ?_, by simp [XK.fp', ae], fun h => (by cases h), _, .refl _, ?_⟩; {
        simp only [XK.fp', List.mem_singleton] at hb'
        subst hb'
        exact ⟨Nat.le_refl _, Nat.lt_succ_self _⟩}; {
        simp only at e2
        rw [e1, e2] at hK
        simpa [ae, XK.v, XK.nx, XK.tc, XK.fp'] using hK}}
      {
      cases h}}
    {
    cases h}
def num : List Oper → Nat → List (Nat × Oper)
  | [], _ => []
  | o :: r, i => (i, o) :: num r (i + 1)
theorem nO : ∀ (l : List Oper) (k : Nat), snds (num l k) = l
  | [], _ => rfl
  | o :: r, k => by simp only [num, snds, nO r]
theorem num_fst : ∀ (l : List Oper) (k : Nat), fsts (num l k) = List.range' k l.length
  | [], _ => rfl
  | o :: r, k => by simp only [num, fsts, num_fst r, List.length_cons, List.range'_succ]
theorem num_at : ∀ {l : List Oper} {k : Nat} {p : Nat × Oper}, p ∈ num l k → k ≤ p.1 ∧ l[p.1 - k]? = some p.2
  | [], _, p, h => by cases h
  | o :: r, k, p, h => by
    rcases List.mem_cons.1 h with rfl | h
    {
    exact ⟨Nat.le_refl _, by simp⟩}; {
    obtain ⟨h1, h2⟩ := num_at h
    refine ⟨by omega, ?_⟩
    rw [show p.1 - k = (p.1 - (k + 1)) + 1 by omega]
    simpa using h2}
def fstR : Code → Nat
  | .region i _ _ => i + 100000
  | .seq a _ => fstR a
  | .block _ c => fstR c
  | .loop c => fstR c
  | _ => 0
structure BK (l : List Oper) : Prop where
  ok : bck l 0 = true
def bX (T : Tb P) (N : Nat) (sf : Bool) (st : Nat) : Nat → MS → List Prop → MS × List Prop
  | 0, m, ob => (m, ob)
  | n + 1, .c .skip k s, ob => bX T N sf st n (.e .normal k s) ob
  | n + 1, .c (.seq a b) k s, ob => bif Nat.beq (fstR a) st then (.c (.seq a b) k s, ob) else bX T N sf st n (.c a (.s b :: k) s) ob
  | n + 1, .c (.block i c) k s, ob => bif Nat.beq (i + 200000) st then (.c (.block i c) k s, ob) else bX T N sf st n (.c c (.b i :: k) s) ob
  | n + 1, .c .ret k s, ob => bX T N sf st n (.e .ret k s) ob
  | n + 1, .c (.exit i) k s, ob => bX T N sf st n (.e (.exit i) k s) ob
  | n + 1, .c (.region _ ops false) k s, ob => bX T N sf st n (.r ops.toList none (num ops.toList 0) k s) ob
  | n + 1, .c (.region _ ops true) k s, ob => bX T N sf st n (.r ops.toList (some []) (num ops.toList 0) k s) (BK ops.toList :: ob)
  | n + 1, .e .normal (.s c :: k) s, ob => bX T N sf st n (.c c k s) ob
  | n + 1, .e .normal (.b _ :: k) s, ob => bX T N sf st n (.e .normal k s) ob
  | n + 1, .e .ret (_ :: k) s, ob => bX T N sf st n (.e .ret k s) ob
  | n + 1, .e (.exit i) (.b j :: k) s, ob => bif Nat.beq i j then bX T N sf st n (.e .normal k s) ob else bX T N sf st n (.e (.exit i) k s) ob
  | n + 1, .e (.exit i) (.s _ :: k) s, ob => bX T N sf st n (.e (.exit i) k s) ob
  | n + 1, .e (.exit i) (.l _ _ :: k) s, ob => bX T N sf st n (.e (.exit i) k s) ob
  | n + 1, .r _ _ [] k s, ob => bX T N sf st n (.e .normal k s) ob
  | n + 1, .r ops dm ((i, o) :: l) k s, ob => bif isDst st o.dst then (.r ops dm ((i, o) :: l) k s, ob) else match step T N sf ops dm i s o ob with
    | some (⟨E, hp, nx⟩, dm', ob') => bX T N sf st n (.r ops dm' l k ⟨E, hp, nx⟩) ob'
    | none => (.r ops dm ((i, o) :: l) k s, ob)
  | _ + 1, m, ob => (m, ob)
theorem oY {T : Tb P} {sf : Bool} {st : Nat} : ∀ {n : Nat} {m m' : MS} {ob ob' : List Prop}, bX T x.N sf st n m ob = (m', ob') → aL ob' → m'.ok x → aL ob ∧ m.ok x := by
  intro n
  induction n with
  | zero => intro m m' ob ob' h h1 h2; cases h; exact ⟨h1, h2⟩
  | succ n ih =>
    intro m m' ob ob' h h1 h2
    unfold bX at h
    split at h
    all_goals first | (cases h; exact ⟨h1, h2⟩) | skip
    all_goals first | (rename_i hn; cases hn) | skip
    {
    obtain ⟨a, b⟩ := ih h h1 h2; exact ⟨a, MC.skip b⟩}; {
    rename_i ca cb k s
    cases hb : Nat.beq (fstR ca) st with
    | true => rw [hb] at h; cases h; exact ⟨h1, h2⟩
    | false => rw [hb] at h; obtain ⟨a, b⟩ := ih h h1 h2; exact ⟨a, MC.seq b⟩}
    {
    rename_i i ca k s
    cases hb : Nat.beq (i + 200000) st with
    | true => rw [hb] at h; cases h; exact ⟨h1, h2⟩
    | false => rw [hb] at h; obtain ⟨a, b⟩ := ih h h1 h2; exact ⟨a, MC.block b⟩}
    {
    obtain ⟨a, b⟩ := ih h h1 h2; exact ⟨a, MC.ret b⟩}; {
    obtain ⟨a, b⟩ := ih h h1 h2; exact ⟨a, MC.exit b⟩}; {
    rename_i ops k s
    obtain ⟨a, b⟩ := ih h h1 h2
    refine ⟨a, MC.region (l := ops.toList) ?_⟩
    have hb : XL P x.B.pk x.N ops.toList.toArray (snds (num ops.toList 0)) s (fun s' => ME x .normal k s') := b
    rwa [nO] at hb}; {
    rename_i ops k s
    obtain ⟨a, b⟩ := ih h h1 h2
    refine ⟨a.2, MC.draw (l := ops.toList) T.mx (todo := fsts (num ops.toList 0)) ?_ (b fun p hp => by have := (num_at hp).2; simpa using this)⟩
    rw [a.1.ok, Bool.and_true, num_fst]
    refine List.all_eq_true.2 fun j hj => ?_
    have := List.mem_range.1 hj
    simp [List.mem_range'_1]
    simpa using this}; {
    obtain ⟨a, b⟩ := ih h h1 h2; exact ⟨a, b⟩}; {
    obtain ⟨a, b⟩ := ih h h1 h2; exact ⟨a, b⟩}; {
    rename_i fr k s
    obtain ⟨a, b⟩ := ih h h1 h2
    refine ⟨a, ?_⟩
    cases fr with
    | s c => exact ME.ret_s b
    | b i => exact ME.ret_b b
    | l J n => exact ME.ret_l b}
    {
    rename_i i j k s
    cases hb : Nat.beq i j with
    | true =>
      rw [hb] at h
      obtain ⟨a, b⟩ := ih h h1 h2
      exact ⟨a, Nat.eq_of_beq_eq_true hb ▸ ME.exit_b b⟩
    | false =>
      rw [hb] at h
      obtain ⟨a, b⟩ := ih h h1 h2
      exact ⟨a, ME.exit_o hb b⟩}
    {
    obtain ⟨a, b⟩ := ih h h1 h2; exact ⟨a, b⟩}; {
    obtain ⟨a, b⟩ := ih h h1 h2; exact ⟨a, b⟩}; {
    rename_i ops dm k s
    obtain ⟨a, b⟩ := ih h h1 h2
    refine ⟨a, ?_⟩
    cases dm with
    | none => exact XL.nil b
    | some rs => exact fun _ => b}
    {
    rename_i ops dm i o l k s
    cases hb : isDst st o.dst with
    | true => rw [hb] at h; cases h; exact ⟨h1, h2⟩
    | false =>
      rw [hb, cond_false] at h
      split at h; {
      rename_i E hp nx dm' ob1 hx
      obtain ⟨a, b⟩ := ih h h1 h2
      exact step_ok hx a b}; {
      cases h; exact ⟨h1, h2⟩}}
end
def RetX (B : Bs) (m' : Nat) (Φ : XV → XH → Prop) : Ending → World → Prop := fun e w' =>
  (∃ v r hp' V' H' sg', e = .returned v ∧ Φ r hp' ∧ r.rel V' H' v ∧ HR V' H' hp' sg' ∧ Top V' hp' ∧ (ae hp').Nodup ∧ (∀ b ∈ hp', b.g ∈ B.F ∨ (B.nx0 ≤ b.g ∧ b.g < m')) ∧ VLe B.V0 V' ∧ (∀ g t, m' ≤ g → V' g t = none) ∧
    (∀ g t, B.V0 g t = none → V' g t ≠ none → B.nx0 ≤ g ∨ g ∈ B.F) ∧ Le B.H0 H' ∧ St B.w0 H' (sg' :: B.own) w') ∨
  (e = .panicked [B.pk.pc] ∧ B.pk.ψ ∧ ∃ H', Le B.H0 H' ∧ St B.w0 H' B.own w')
def XFn (P : Program) (pk : Pk) (f : FuncId) (args : List XV) (hp : XH) (m m' : Nat) (Φ : XV → XH → Prop) : Prop :=
  ∀ (B : Bs), B.nx0 = m → B.F = ae hp → B.pk = pk → ∀ sg vals, XVs.rels B.V0 B.H0 args vals → HR B.V0 B.H0 hp sg → Top B.V0 hp → ∀ w, St B.w0 B.H0 (sg :: B.own) w → Calls P f vals.toArray w (RetX B m' Φ)
def iL : Nat → List XV → XE
  | _, [] => []
  | i, v :: r => (i, v) :: iL (i + 1) r
theorem kS {V : Vn} {H : Hp} : ∀ {l : List XV} {vs : List Value} {k : Nat}, XVs.rels V H l vs → Lk V H (cS k vs) (iL k l)
  | [], [], _, _ => fun i x h => by cases h
  | a :: l, v :: vs, k, hr => fun i x h => by
    simp only [iL, xlk] at h
    simp only [cS, lk]
    cases hb : Nat.beq k i with
    | true => rw [hb] at h; cases h; exact ⟨v, rfl, hr.1⟩
    | false => rw [hb] at h; exact kS hr.2 i x h
  | [], _ :: _, _, hr => hr.elim
  | _ :: _, [], _, hr => hr.elim
theorem XVs.len {V : Vn} {H : Hp} : ∀ {l : List XV} {vs : List Value}, XVs.rels V H l vs → l.length = vs.length
  | [], [], _ => rfl
  | _ :: _, _ :: _, h => by simp [XVs.len h.2]
  | [], _ :: _, h => h.elim
  | _ :: _, [], h => h.elim
section
variable {P : Program} {pk : Pk} {f : FuncId} {fn : Func} {c : Code} {args : List XV} {hp : XH} {m m' N : Nat} {Φ : XV → XH → Prop}
def Cx.of (P : Program) (B : Bs) (N : Nat) (fn : Func) (m' : Nat) (Φ : XV → XH → Prop) : Cx P where
  B := B
  N := N
  R := bodyPost P fn (RetX B m' Φ)
  ds := []
  no := fun _ _ h => by rcases h with ⟨_, _, _, _, _, _, h, _⟩ | ⟨h, _⟩ <;> cases h
  pan := fun _ _ H' h1 h2 h3 h4 => ⟨h2, rfl, .inr ⟨rfl, h1, H', h3, h4⟩⟩
theorem XFn.enter (hf : P.funcs[f]? = some fn) (hb : fn.body = some c) (hN : fn.ntmps = N) (hl : Nat.ble args.length N = true) (hn : (bp (ae hp) && hp.all fun b => Nat.blt b.g m) = true)
    (h : ∀ w0 own H V v0 hf, MC (Cx.of P (Bs.mk w0 own H V m (ae hp) pk v0 hf) N fn m' Φ) c [] ⟨iL 0 args, hp, m⟩) : XFn P pk f args hp m m' Φ := by
  rintro ⟨w0, own, H, V, nx0, F, pk', v0, hF⟩ rfl rfl rfl sg vals ha hr ht w hw
  simp only [Bool.and_eq_true] at hn
  have hm := List.all_eq_true.1 hn.2
  have key := h w0 own H V v0 hF V H sg (cS 0 vals) ⟨kS ha, hr, ht, bW hn.1, fun g t hg => ?_, Le.refl _, VLe.refl _, fun g t h1 h2 => absurd h1 h2, fun b hb => .inr (List.mem_map.2 ⟨b, hb, rfl⟩), Nat.le_refl _⟩; {
  refine calls_of_wp hf hb (key { tmps := vals.toArray ++ Array.replicate (fn.ntmps - vals.toArray.size) undef, defers := [] } w ⟨rfl, ?_, fun i v hv => ?_⟩ hw); {
  have := Nat.le_of_ble_eq_true hl
  rw [XVs.len ha] at this
  show (vals.toArray ++ _).size = N
  simp [hN]; omega}; {
  obtain ⟨_, h2⟩ := eN vals 0 i v hv
  simp only [Nat.sub_zero] at h2
  have hlt : i < vals.length := (List.getElem?_eq_some_iff.1 h2).1
  rw [Array.getElem?_append_left (by simpa using hlt)]
  simpa using h2}}; {
  cases hv : V g t with
  | none => rfl
  | some i =>
    have := hF.1 g (v0 g t (by show V g t ≠ none; rw [hv]; simp)).2
    simp only at hg this; omega}
def xres (T : Tb P) (s : XS) : ResultVar → Option XV
  | .tmp t => xlk s.E t
  | .cell t ty => match xlk s.E t, T.bt.get ty with
    | some (.a (.c (.p g v o))), some ti => match aq s.hp g with
      | some ⟨_, v', .cells cs _⟩ => bif Nat.beq v v' && (ti.agg || Nat.beq ti.n 1) then kK cs o ti.agg ti.n else none
      | _ => none
    | _, _ => none
def rvS (tmps : Array Value) : ResultVar → Sem Value
  | .tmp t => pure (tmps.getD t undef)
  | .cell t ty => do loadVar ty (← asAddr (tmps.getD t undef))
theorem HR.get {V : Vn} {H : Hp} {g' v : Nat} {c : List XC} {e : TypeId} : ∀ {hp : XH} {sg : Seg} {g : Nat}, HR V H hp sg → aq hp g = some ⟨g', v, .cells c e⟩ → g' = g ∧ ∃ (j b : Nat) (us : List Value) (ex : Nat), sg[j]? = some (b, .cells us.toArray e (0, 0)) ∧ V g' v = some (some b, ex) ∧ rels V H c us
  | [], _, _, _, h => by cases h
  | y :: r, _, g, ⟨s1, s2, h0, h1, h2⟩, h => by
    simp only [aq] at h
    cases hb : Nat.beq y.g g with
    | true =>
      rw [hb] at h; cases h
      rcases h1 with ⟨b, ob, ex, rfl, h3, us, h4, rfl, _⟩ | ⟨_, _, e', sz, h3, _⟩
      {
      exact ⟨Nat.eq_of_beq_eq_true hb, 0, b, us, ex, by rw [h0]; rfl, h3, h4⟩}; {
      cases h3}
    | false =>
      rw [hb] at h
      obtain ⟨k1, j, b, us, ex, k2, k3, k4⟩ := HR.get h2 h
      exact ⟨k1, s1.length + j, b, us, ex, by rw [h0, List.getElem?_append_right (by omega)]; simpa using k2, k3, k4⟩
theorem xres_ok {T : Tb P} {B : Bs} {s : XS} {rv : ResultVar} {u : XV} (h : xres T s rv = some u) {V : Vn} {H : Hp} {sg : Seg} {env : Env} (hs : SR B s V H sg env) {a : Act} {w : World} (ha : At N env a) (hw : St B.w0 H (sg :: B.own) w) :
    ∃ v, (rvS a.tmps rv).run P w = .ok v w ∧ u.rel V H v := by
  cases rv with
  | tmp t =>
    simp only [xres] at h
    obtain ⟨v, h1, h2⟩ := hs.lk t u h
    have h3 := ha.slots t v h1
    exact ⟨v, by simp [rvS, Array.getD_eq_getD_getElem?, h3], h2⟩
  | cell t ty =>
    simp only [xres] at h
    split at h
    · rename_i g v o ti h1 hti
      have htk := BT.all_get T.ok hti
      split at h
      · rename_i g' v' cs e hg
        cases hb : (Nat.beq v v' && (ti.agg || Nat.beq ti.n 1)) with
        | false => rw [hb] at h; cases h
        | true =>
          rw [hb, cond_true] at h
          simp only [Bool.and_eq_true] at hb
          obtain ⟨e0, j, p, us, ex, hj, hV1, hV2⟩ := HR.get hs.hr hg
          subst e0
          obtain ⟨vp, k1, k2⟩ := hs.lk t _ h1
          simp only [XV.rel, XA.rel, XC.rel] at k2
          obtain ⟨b, e2, k3, rfl⟩ := k2
          rw [Nat.eq_of_beq_eq_true hb.1, hV1] at k3
          cases k3
          have hbl := hw.own_blk (i := 0) (j := j) (g := p) rfl hj
          have h4 := ha.slots t _ k1
          have h5 : a.tmps.getD t undef = .pointer (some ⟨p, o, none⟩) := by rw [Array.getD_eq_getD_getElem?, h4]; rfl
          have hty := cu htk
          have key : ∀ (vs : List Value) (v : Value), vs.length = ti.n → mkV ti.agg vs = some v → (∀ k u, vs[k]? = some u → us[o + k]? = some u) → (loadVar ty ⟨p, o, none⟩).run P w = .ok v w := fun vs v e1 e2 e3 =>
            cY hty e1 e2 (fun k u hu => by rw [bH hbl]; simpa using e3 k u hu)
          simp only [rvS, h5, asAddr, Sem.run_bind]
          cases hagg : ti.agg with
          | true =>
            rw [hagg] at h
            simp only [kK] at h
            split at h
            · rename_i l hs'
              cases h
              obtain ⟨rfl, hle⟩ := ju hs'
              rw [hV2.len] at hle
              have := key ((us.drop o).take ti.n) _ (by rw [List.length_take, List.length_drop]; omega) (by rw [hagg]; rfl) (fun k u hu => by
                rw [List.getElem?_take] at hu
                split at hu
                · rw [List.getElem?_drop] at hu; exact hu
                · cases hu)
              exact ⟨_, by simpa using this, _, rfl, by simpa using (hV2.drop (n := o)).take (n := ti.n)⟩
            · cases h
          | false =>
            rw [hagg] at h hb
            have h1 : ti.n = 1 := Nat.eq_of_beq_eq_true (by simpa using hb.2)
            simp only [kK] at h
            split at h
            · rename_i y hcs
              cases h
              obtain ⟨u, h2, h3⟩ := hV2.get o y (jS hcs)
              have := key [u] u (by simp [h1]) (by rw [hagg]; rfl) (fun k z hz => by
                cases k with
                | zero => simp at hz; subst hz; exact h2
                | succ k => simp at hz)
              exact ⟨u, by simpa using this, h3⟩
            · cases h
      · cases h
    · cases h
def iM (T : Tb P) (s : XS) : List ResultVar → Option (List XA)
  | [] => some []
  | r :: l => match xres T s r, iM T s l with
    | some (.a u), some us => some (u :: us)
    | _, _ => none
theorem oZ {T : Tb P} {B : Bs} {s : XS} {V : Vn} {H : Hp} {sg : Seg} {env : Env} (hs : SR B s V H sg env) {a : Act} {w : World} (ha : At N env a) (hw : St B.w0 H (sg :: B.own) w) : ∀ {l : List ResultVar} {us : List XA}, iM T s l = some us →
    ∃ vs, (l.mapM (rvS a.tmps)).run P w = .ok vs w ∧ XA.rels V H us vs
  | [], _, h => by cases h; exact ⟨[], by simp, trivial⟩
  | r :: l, us, h => by
    simp only [iM] at h
    split at h; {
    rename_i u us' h1 h2
    cases h
    obtain ⟨v, e1, e2⟩ := xres_ok h1 hs ha hw
    obtain ⟨vs, e3, e4⟩ := oZ hs ha hw h2
    refine ⟨v :: vs, ?_, e2, e4⟩
    rw [List.mapM_cons]
    simp only [Sem.run_bind, Sem.run_pure]
    rw [e1]
    simp only [Result.andThen_ok]
    rw [e3]
    simp only [Result.andThen_ok]}; {
    cases h}
def fL : List XA → XV
  | [u] => .a u
  | us => .t us
theorem XA.rels.len {V : Vn} {H : Hp} : ∀ {us : List XA} {vs : List Value}, XA.rels V H us vs → us.length = vs.length
  | [], [], _ => rfl
  | _ :: _, _ :: _, h => by simp [XA.rels.len h.2]
  | [], _ :: _, h => h.elim
  | _ :: _, [], h => h.elim
def coA : XA → XA → XA
  | .g _, .a l => match g0 l with | some ds => .g ds | none => .a l
  | .c (.d (.s _)), .c .z => .c (.d (.s []))
  | _, u => u
def coAs : List XA → List XA → List XA
  | c :: cs, u :: us => coA c u :: coAs cs us
  | _, us => us
def co1 : XV → XV → XV
  | .a c, .a u => .a (coA c u)
  | .t cs, .t us => .t (coAs cs us)
  | _, u => u
def cos : List XV → List XV → List XV
  | c :: cs, u :: us => co1 c u :: cos cs us
  | _, us => us
theorem coA_ok {V : Vn} {H : Hp} {c u : XA} {v : Value} (h : u.rel V H v) : (coA c u).rel V H v := by
  unfold coA
  split; {
  split; {
  rename_i hd
  obtain ⟨us, h1, h2⟩ := h
  exact ⟨us, h1, cr hd h2⟩}; {
  exact h}}; {
  simp only [XA.rel] at h ⊢
  simp only [XC.rel]
  exact XC.toD_ok rfl h}; {
  exact h}
theorem coAs_ok {V : Vn} {H : Hp} : ∀ {cs us : List XA} {vs : List Value}, XA.rels V H us vs → XA.rels V H (coAs cs us) vs
  | [], us, vs, h => by simpa only [coAs] using h
  | c :: cs, [], [], h => trivial
  | c :: cs, u :: us, v :: vs, h => ⟨coA_ok h.1, coAs_ok h.2⟩
  | c :: cs, [], _ :: _, h => h.elim
  | c :: cs, _ :: _, [], h => h.elim
theorem co1_ok {V : Vn} {H : Hp} {c u : XV} {v : Value} (h : u.rel V H v) : (co1 c u).rel V H v := by
  unfold co1
  split; {
  exact coA_ok (u := _) h}; {
  obtain ⟨us, h1, h2⟩ := h; exact ⟨us, h1, coAs_ok h2⟩}; {
  exact h}
theorem cos_ok {V : Vn} {H : Hp} : ∀ {cs us : List XV} {vs : List Value}, XVs.rels V H us vs → XVs.rels V H (cos cs us) vs
  | [], us, vs, h => by simpa only [cos] using h
  | c :: cs, [], [], h => trivial
  | c :: cs, u :: us, v :: vs, h => ⟨co1_ok h.1, cos_ok h.2⟩
  | c :: cs, [], _ :: _, h => h.elim
  | c :: cs, _ :: _, [], h => h.elim
theorem ME.fin {T : Tb P} {B : Bs} {e : Exit} {s : XS} {us : List XA} {r : XV} {hp' : XH} (nm : Nat → Nat) (he : e = .ret ∨ e = .normal) (hr : iM T s fn.results.toList = some us) (hm : Mt B.nx0 B.F ⟨[(0, co1 r (fL us))], s.hp, s.nx⟩ ⟨[(0, r)], hp', m'⟩ nm) (hΦ : Φ r hp') :
    ME (Cx.of P B N fn m' Φ) e [] s := fun V H sg env hs a w ha hw => by
  rw [show (Cx.of P B N fn m' Φ).ds = [] from rfl, cv ha.defers]
  obtain ⟨vs, h1, h2⟩ := oZ hs ha hw hr
  have hlen := h2.len
  obtain ⟨v, hv, hrel⟩ : ∃ v, (if h : vs.toArray.size = 1 then vs.toArray[0] else .tuple vs.toArray) = v ∧ (fL us).rel V H v := by
    refine ⟨_, rfl, ?_⟩
    match us, vs, h2, hlen with
    | [u], [v], h2, _ => exact h2.1
    | [], [], _, _ => simp [fL, XV.rel, XA.rels]
    | a :: b :: l, v :: w :: vs, h2, _ =>
      rw [dif_neg (by simp)]
      exact ⟨_, rfl, h2⟩
  have hs2 : SR B ⟨[(0, co1 r (fL us))], s.hp, s.nx⟩ V H sg [(0, v)] := ⟨fun i x hx => (by
    simp only [xlk] at hx
    cases hb : Nat.beq 0 i with
    | true => rw [hb] at hx; cases hx; exact ⟨v, by simp [lk, hb], co1_ok hrel⟩
    | false => rw [hb] at hx; cases hx), hs.hr, hs.top, hs.nd, hs.fresh, hs.le, hs.vle, hs.keep, hs.sub, hs.nxle⟩
  obtain ⟨V', s1, s2, p1, hs'⟩ := hs2.mt hm
  obtain ⟨v', e1, e2⟩ := hs'.lk 0 r rfl
  simp [lk] at e1
  subst e1
  have hres : (results fn a.tmps).run P w = .ok v w := by
    have e2 : (fn.results.mapM (rvS a.tmps)).run P w = .ok vs.toArray w := by
      rw [Array.mapM_eq_mapM_toList]
      simp only [Sem.run_map, h1]
      rfl
    show (do let vs ← fn.results.mapM (rvS a.tmps); pure (if h : vs.size = 1 then vs[0] else .tuple vs) : Sem Value).run P w = _
    simp only [Sem.run_bind, e2, Result.andThen_ok, Sem.run_pure]
    rw [hv]
  have hR : RetX B m' Φ (.returned v) w := .inl ⟨v, r, hp', V', H, s1, rfl, hΦ, e2, hs'.hr, hs'.top, hs'.nd, fun b hb => (hs'.sub b hb).elim (fun h => .inr ⟨h, by
      have := hs'.hr.known b hb
      obtain ⟨i, hi⟩ := this
      rcases Nat.lt_or_ge b.g m' with hl | hl
      · exact hl
      · rw [hs'.fresh _ _ hl] at hi; cases hi⟩) .inl, hs'.vle, hs'.fresh, hs'.keep, hs'.le, St.part p1 hw⟩
  rcases he with rfl | rfl
  · exact bodyPost_ret hres ha.defers hR
  · exact bodyPost_end hres ha.defers hR
end
mutual
theorem XC.fwd {μ : Mu} {V V' : Vn} {H : Hp} (h : ∀ g t i, V g t = some i → V' (μ g t).1 (μ g t).2 = some i) : ∀ {x : XC} {v : Value}, x.rel V H v → (x.ren μ).rel V' H v
  | .d x, v, hr => hr
  | .z, v, hr => hr
  | .p g t o, v, hr => by simp only [XC.ren, XC.rel] at hr ⊢; obtain ⟨b, e, h1, h2⟩ := hr; exact ⟨b, e, h _ _ _ h1, h2⟩
  | .q g t sz j o, v, hr => by simp only [XC.ren, XC.rel] at hr ⊢; obtain ⟨b, e, h1, h2⟩ := hr; exact ⟨b, e, h _ _ _ h1, h2⟩
  | .l g t sz o n c, v, hr => by simp only [XC.ren, XC.rel] at hr ⊢; obtain ⟨b, e, h1, h2⟩ := hr; exact ⟨b, e, h _ _ _ h1, h2⟩
  | .m g t, v, hr => by simp only [XC.ren, XC.rel] at hr ⊢; obtain ⟨b, e, h1, h2⟩ := hr; exact ⟨b, e, h _ _ _ h1, h2⟩
  | .f fn fs cs, v, hr => by
    simp only [XC.ren, XC.rel] at hr ⊢
    obtain ⟨us, ws, h1, h2, h3⟩ := hr
    exact ⟨us, ws, h1, XC.fwds h h2, XC.fwds h h3⟩
  | .w _, v, hr => hr
theorem XC.fwds {μ : Mu} {V V' : Vn} {H : Hp} (h : ∀ g t i, V g t = some i → V' (μ g t).1 (μ g t).2 = some i) : ∀ {xs : List XC} {vs : List Value}, rels V H xs vs → rels V' H (XC.rens μ xs) vs
  | [], [], _ => trivial
  | x :: xs, v :: vs, hr => ⟨XC.fwd h hr.1, XC.fwds h hr.2⟩
  | [], _ :: _, hr => hr.elim
  | _ :: _, [], hr => hr.elim
end
section
variable {μ : Mu} {V V' : Vn} {H : Hp}
theorem XA.fwd (h : ∀ g t i, V g t = some i → V' (μ g t).1 (μ g t).2 = some i) {x : XA} {v : Value} (hr : x.rel V H v) : (x.ren μ).rel V' H v := by
  cases x with
  | c x => exact XC.fwd (x := x) h hr
  | a l => obtain ⟨us, h1, h2⟩ := hr; exact ⟨us, h1, XC.fwds h h2⟩
  | g l => exact hr
theorem XA.fwds (h : ∀ g t i, V g t = some i → V' (μ g t).1 (μ g t).2 = some i) : ∀ {xs : List XA} {vs : List Value}, XA.rels V H xs vs → XA.rels V' H (XA.rens μ xs) vs
  | [], [], _ => trivial
  | x :: xs, v :: vs, hr => ⟨XA.fwd h hr.1, XA.fwds h hr.2⟩
  | [], _ :: _, hr => hr.elim
  | _ :: _, [], hr => hr.elim
theorem XV.fwd (h : ∀ g t i, V g t = some i → V' (μ g t).1 (μ g t).2 = some i) {x : XV} {v : Value} (hr : x.rel V H v) : (x.ren μ).rel V' H v := by
  cases x with
  | a x => exact XA.fwd (x := x) h hr
  | t l => obtain ⟨us, h1, h2⟩ := hr; exact ⟨us, h1, XA.fwds h h2⟩
  | u => exact hr
  | gd b x => exact ⟨fun e => XA.fwd (x := x) h (hr.1 e), hr.2⟩
theorem pb (h : ∀ g t i, V g t = some i → V' (μ g t).1 (μ g t).2 = some i) : ∀ {hp : XH} {sg : Seg}, HR V H hp sg → HR V' H (bn μ hp) sg
  | [], _, hr => hr
  | b :: r, _, ⟨s1, s2, h0, h1, h3⟩ => by
    refine ⟨s1, s2, h0, ?_, pb h h3⟩
    rcases h1 with ⟨b', ob, ex, h1, h2, h4⟩ | ⟨h1, h2, e, sz, h4, h5⟩
    {
    refine .inl ⟨b', ob, ex, h1, h _ _ _ h2, ?_⟩
    simp only
    cases ho : b.o with
    | cells c e => rw [ho] at h4; obtain ⟨us, k1, k2⟩ := h4; exact ⟨us, XC.fwds h k1, k2⟩
    | row n rows e sz => rw [ho] at h4; exact h4
    | mp Q => rw [ho] at h4; exact h4
    | rowk n pre mid post e sz =>
      rw [ho] at h4
      obtain ⟨ua, um, uc, j, k0, k1, k2, k3, k4, k5, k6⟩ := h4
      exact ⟨ua, um, uc, j, k0, k1, XC.fwds h k2, k3, k4, (XC.rens_len mid).trans k5, k6⟩}
    {
    exact .inr ⟨h1, h _ _ _ h2, e, sz, by simp only; rw [h4]; rfl, h5⟩}
end
def muc (gs : List Nat) (m nx : Nat) (vs : List Nat) : Mu := fun g t => bif Nat.blt g m then (gs.getD g 0, vs.getD g 0 + t) else (nx + (g - m), t)
def XVs.ren (μ : Mu) : List XV → List XV
  | [] => []
  | x :: r => x.ren μ :: XVs.ren μ r
def XVs.all (p : Nat → Nat → Bool) : List XV → Bool
  | [] => true
  | x :: r => x.all p && XVs.all p r
theorem XVs.ren_ok {μ : Mu} {p : Nat → Nat → Bool} {V V' : Vn} {H : Hp} (h : Rn μ p V V') : ∀ {xs : List XV} {vs : List Value}, XVs.all p xs = true → XVs.rels V H (XVs.ren μ xs) vs → XVs.rels V' H xs vs
  | [], [], _, _ => trivial
  | x :: xs, v :: vs, ha, hr => by
    simp only [XVs.all, Bool.and_eq_true] at ha
    exact ⟨XV.ren_ok h ha.1 hr.1, XVs.ren_ok h ha.2 hr.2⟩
  | [], _ :: _, _, hr => hr.elim
  | _ :: _, [], _, hr => hr.elim
def low (m : Nat) : Nat → Nat → Bool := fun g t => Nat.blt g m && Nat.beq t 0
def gN (m : Nat) (args : List XV) (hp : XH) : Bool := XVs.all (low m) args && (cq (low m) hp && decide (ae hp = List.range m))
theorem hZ (μ : Mu) : ∀ hp : XH, (bn μ hp).map (fun b => (b.g, b.t)) = hp.map fun b => μ b.g b.t
  | [] => rfl
  | b :: r => by simp only [bn, List.map_cons, hZ μ r]
theorem hren_len (μ : Mu) (hp : XH) : (bn μ hp).length = hp.length := by
  have := congrArg List.length (hZ μ hp)
  simpa using this
theorem pd {m : Nat} : ∀ {hp : XH}, cq (low m) hp = true → ∀ b ∈ hp, b.t = 0
  | [], _, b, hb => by cases hb
  | a :: r, h, b, hb => by
    simp only [cq, Bool.and_eq_true, low] at h
    rcases List.mem_cons.1 hb with rfl | hb
    {
    exact Nat.eq_of_beq_eq_true h.1.2}; {
    exact pd h.2.2 b hb}
theorem pg {μ : Mu} : ∀ {hp : XH} {b : XB}, b ∈ hp → (⟨(μ b.g b.t).1, (μ b.g b.t).2, b.o.ren μ⟩ : XB) ∈ bn μ hp
  | [], _, hb => by cases hb
  | a :: r, b, hb => by
    simp only [bn]
    rcases List.mem_cons.1 hb with rfl | hb
    {
    exact List.mem_cons_self ..}; {
    exact List.mem_cons_of_mem _ (pg hb)}
theorem ph {α : Type} [DecidableEq α] {l : List α} (hn : l.Nodup) {d : α} {i j : Nat} (hi : i < l.length) (hj : j < l.length) (h : l.getD i d = l.getD j d) : i = j := by
  rw [List.getD_eq_getElem?_getD, List.getD_eq_getElem?_getD, List.getElem?_eq_getElem hi, List.getElem?_eq_getElem hj] at h
  exact (List.getElem_inj hn).1 (by simpa using h)
section
variable {P : Program} {pk : Pk} {f : FuncId} {args : List XV} {hpf : XH} {m m' : Nat} {Φ : XV → XH → Prop}
theorem XFn.run (h : XFn P pk f args hpf m m' Φ) (hc : gN m args hpf = true) (hmm : m ≤ m') {gs vs : List Nat} {nx : Nat} {fp : XH} (hfp : fp = bn (muc gs m nx vs) hpf) (hgs : ae fp = gs) (hnd : gs.Nodup) (hlt : ∀ g ∈ gs, g < nx) {w0 : World} {own : List Seg} {H : Hp} {V : Vn} {sg : Seg} {us : List Value}
    (hargs : XVs.rels V H (XVs.ren (muc gs m nx vs) args) us) (hr : HR V H fp sg) (ht : Top V fp) (hf : ∀ g t, nx ≤ g → g < nx + (m' - m) → V g t = none) {w : World} (hw : St w0 H (sg :: own) w) (hhy : pk.hy H) :
    Calls P f us.toArray w (fun e w' => (∃ v r hp' V' H' sg', e = .returned v ∧ Φ r hp' ∧ (r.ren (muc gs m nx vs)).rel V' H' v ∧ HR V' H' (bn (muc gs m nx vs) hp') sg' ∧ Top V' (bn (muc gs m nx vs) hp') ∧ (ae (bn (muc gs m nx vs) hp')).Nodup ∧
      (∀ b ∈ bn (muc gs m nx vs) hp', b.g ∈ gs ∨ (nx ≤ b.g ∧ b.g < nx + (m' - m))) ∧ VX V V' fp nx (nx + (m' - m)) ∧ Le H H' ∧ St w0 H' (sg' :: own) w') ∨ (e = .panicked [pk.pc] ∧ pk.ψ ∧ ∃ H', Le H H' ∧ St w0 H' own w')) := by
  simp only [gN, Bool.and_eq_true, decide_eq_true_eq] at hc
  obtain ⟨c1, c2, c3⟩ := hc
  generalize hμ : muc gs m nx vs = μ at *
  have hlen : hpf.length = m := by have := congrArg List.length c3; simpa [ae] using this
  have hgl : gs.length = m := by rw [← hgs, ae, List.length_map, hfp, hren_len, hlen]
  have hmu : ∀ g t, g < m → μ g t = (gs.getD g 0, vs.getD g 0 + t) := fun g t hg => by rw [← hμ]; simp only [muc]; rw [show Nat.blt g m = true by rw [Nat.blt_eq]; exact hg]; rfl
  have hmu2 : ∀ g t, m ≤ g → μ g t = (nx + (g - m), t) := fun g t hg => by
    rw [← hμ]; simp only [muc]
    cases hb : Nat.blt g m with
    | true => rw [Nat.blt_eq] at hb; omega
    | false => rfl
  have hbm : ∀ b ∈ hpf, b.g < m ∧ b.t = 0 := by
    intro b hb
    have : b.g ∈ List.range m := by rw [← c3]; exact List.mem_map.2 ⟨b, hb, rfl⟩
    exact ⟨List.mem_range.1 this, pd c2 b hb⟩
  let Vc : Vn := fun g t => if g < m ∧ t = 0 then V (μ g t).1 (μ g t).2 else none
  have hRn : Rn μ (low m) V Vc := ⟨fun g t i hp hv => by
    simp only [low, Bool.and_eq_true, Nat.blt_eq] at hp
    have e := Nat.eq_of_beq_eq_true hp.2
    subst e
    show (if g < m ∧ 0 = 0 then _ else _) = _; rw [if_pos ⟨hp.1, rfl⟩]; exact hv⟩
  have hrc : HR Vc H hpf sg := kg hRn c2 (hfp ▸ hr)
  have hmem : ∀ g, g < m → ∃ b ∈ hpf, b.g = g := fun g hg => by
    have : g ∈ ae hpf := by rw [c3]; exact List.mem_range.2 hg
    exact List.mem_map.1 this
  have htop0 : ∀ g t, g < m → vs.getD g 0 < t → V (gs.getD g 0) t = none := fun g t hg hlt' => by
    obtain ⟨b, hb, rfl⟩ := hmem g hg
    have hb' : (⟨(μ b.g b.t).1, (μ b.g b.t).2, b.o.ren μ⟩ : XB) ∈ fp := by
      rw [hfp]; exact pg hb
    have := ht _ hb' t (by rw [(hbm b hb).2, hmu _ _ hg]; exact hlt')
    rwa [hmu _ _ hg] at this
  let B : Bs := ⟨w0, own, H, Vc, m, ae hpf, pk, fun g t hv => by
    simp only [Vc] at hv
    split at hv
    · rename_i hh; exact ⟨hh.2, by rw [c3]; exact List.mem_range.2 hh.1⟩
    · exact absurd rfl hv, ⟨fun g hg => (by rw [c3] at hg; exact List.mem_range.1 hg), hhy⟩⟩
  have htc : Top Vc hpf := fun b hb t hlt' => by
    simp only [Vc]
    rw [if_neg]
    rintro ⟨_, h2⟩
    rw [(hbm b hb).2] at hlt'
    omega
  refine (h B rfl rfl rfl sg us (XVs.ren_ok hRn c1 hargs) hrc htc w hw).mono ?_
  rintro e w' (⟨v, r, hp', Vc', H', sg', rfl, hΦ, q1, q2, q3, q4, q5, q6, q7, q8, q9, q10⟩ | ⟨rfl, q1, H', q2, q3⟩)
  · left
    let V' : Vn := fun g t => match V g t with
      | some i => some i
      | none => if nx ≤ g then Vc' (m + (g - nx)) t else if vs.getD (gs.idxOf g) 0 ≤ t ∧ g ∈ gs then Vc' (gs.idxOf g) (t - vs.getD (gs.idxOf g) 0) else none
    have hle : VLe V V' := fun g t i hv => by simp only [V', hv]
    have hidx : ∀ g, g < m → gs.idxOf (gs.getD g 0) = g ∧ gs.getD g 0 ∈ gs := fun g hg => by
      have hm : gs.getD g 0 ∈ gs := by
        rw [List.getD_eq_getElem?_getD, List.getElem?_eq_getElem (by omega)]
        exact List.getElem_mem _
      refine ⟨?_, hm⟩
      have h1 := List.idxOf_lt_length_of_mem hm
      refine ph (d := 0) hnd h1 (by omega) ?_
      rw [List.getD_eq_getElem?_getD, List.getElem?_eq_getElem h1]
      simp
    have hfwd : ∀ g t i, Vc' g t = some i → V' (μ g t).1 (μ g t).2 = some i := by
      intro g t i hv
      rcases Nat.lt_or_ge g m with hg | hg
      · rw [hmu g t hg]
        simp only [V']
        cases hvv : V (gs.getD g 0) (vs.getD g 0 + t) with
        | some j =>
          have ht0 : t = 0 := by
            rcases Nat.eq_zero_or_pos t with h | h
            · exact h
            · rw [htop0 g _ hg (by omega)] at hvv; cases hvv
          subst ht0
          have : Vc g 0 = some j := by show (if g < m ∧ 0 = 0 then _ else _) = _; rw [if_pos ⟨hg, rfl⟩, hmu g 0 hg]; exact hvv
          have := q6 _ _ _ this
          rw [hv] at this
          exact this.symm
        | none =>
          obtain ⟨i1, i2⟩ := hidx g hg
          simp only
          rw [if_neg (by have := hlt _ i2; omega), i1, if_pos ⟨by omega, i2⟩]
          rw [show vs.getD g 0 + t - vs.getD g 0 = t by omega]
          exact hv
      · rw [hmu2 g t hg]
        have hg' : g < m' := by
          rcases Nat.lt_or_ge g m' with h | h
          · exact h
          · rw [q7 _ _ h] at hv; cases hv
        simp only [V', hf (nx + (g - m)) t (by omega) (by omega)]
        rw [if_pos (by omega), show m + (nx + (g - m) - nx) = g by omega]
        exact hv
    have hVn : ∀ g t, V g t = none → V' g t ≠ none → (nx ≤ g ∧ g < nx + (m' - m)) ∨ g ∈ ae fp := by
      intro g t h1 h2
      simp only [V', h1] at h2
      split at h2
      · rename_i hg
        left
        refine ⟨hg, ?_⟩
        rcases Nat.lt_or_ge g (nx + (m' - m)) with h | h
        · exact h
        · rw [q7 _ _ (by omega)] at h2; exact absurd rfl h2
      · split at h2
        · rename_i hh; right; rw [hgs]; exact hh.2
        · exact absurd rfl h2
    have hb' : ∀ b ∈ hp', b.g < m ∨ (m ≤ b.g ∧ b.g < m') := fun b hb => (q5 b hb).imp (fun h => by
      have h' : b.g ∈ ae hpf := h
      rw [c3] at h'; exact List.mem_range.1 h') id
    have hinj : ∀ b ∈ hp', ∀ b2 ∈ hp', (μ b.g b.t).1 = (μ b2.g b2.t).1 → b.g = b2.g := by
      intro b hb b2 hb2 e
      rcases hb' b hb with h1 | h1 <;> rcases hb' b2 hb2 with h2 | h2
      · rw [hmu _ _ h1, hmu _ _ h2] at e
        exact ph hnd (by omega) (by omega) e
      · rw [hmu _ _ h1, hmu2 _ _ h2.1] at e
        have := hlt _ (hidx _ h1).2
        simp only at e; omega
      · rw [hmu2 _ _ h1.1, hmu _ _ h2] at e
        have := hlt _ (hidx _ h2).2
        simp only at e; omega
      · rw [hmu2 _ _ h1.1, hmu2 _ _ h2.1] at e
        simp only at e; omega
    have hmemr : ∀ {hp : XH} {b : XB}, b ∈ bn μ hp → ∃ c ∈ hp, b = ⟨(μ c.g c.t).1, (μ c.g c.t).2, c.o.ren μ⟩ := by
      intro hp
      induction hp with
      | nil => intro b hb; cases hb
      | cons a r ih =>
        intro b hb
        simp only [bn] at hb
        rcases List.mem_cons.1 hb with rfl | hb
        · exact ⟨a, List.mem_cons_self .., rfl⟩
        · obtain ⟨c, h1, h2⟩ := ih hb; exact ⟨c, List.mem_cons_of_mem _ h1, h2⟩
    refine ⟨v, r, hp', V', H', sg', rfl, hΦ, XV.fwd hfwd q1, pb hfwd q2, ?_, ?_, ?_, ⟨hle, hVn⟩, q9, q10⟩
    · intro b hb t hbt
      obtain ⟨c, hc, rfl⟩ := hmemr hb
      simp only at hbt ⊢
      have htc := q3 c hc
      rcases hb' c hc with h1 | h1
      · rw [hmu _ _ h1] at hbt ⊢
        simp only at hbt ⊢
        obtain ⟨i1, i2⟩ := hidx _ h1
        simp only [V', htop0 c.g t h1 (by omega)]
        rw [if_neg (by have := hlt _ i2; omega), i1, if_pos ⟨by omega, i2⟩]
        exact htc _ (by omega)
      · rw [hmu2 _ _ h1.1] at hbt ⊢
        simp only at hbt ⊢
        simp only [V', hf (nx + (c.g - m)) t (by omega) (by omega)]
        rw [if_pos (by omega), show m + (nx + (c.g - m) - nx) = c.g by omega]
        exact htc _ hbt
    · clear hb' q2 q3 q5 hmemr hΦ
      have hn : ∀ l : XH, (∀ b ∈ l, b ∈ hp') → (ae l).Nodup → (ae (bn μ l)).Nodup := by
        intro l
        induction l with
        | nil => intro _ _; exact List.nodup_nil
        | cons a l ih =>
          intro hs hn
          have hn' := List.nodup_cons.1 hn
          refine List.nodup_cons.2 ⟨fun hc => ?_, ih (fun b hb => hs b (List.mem_cons_of_mem _ hb)) hn'.2⟩
          have h2 : (μ a.g a.t).1 ∈ (l.map fun b => μ b.g b.t).map (·.1) := by
            rw [← hZ μ l, List.map_map]; exact hc
          rw [List.map_map] at h2
          obtain ⟨b, hb, e⟩ := List.mem_map.1 h2
          have := hinj b (hs b (List.mem_cons_of_mem _ hb)) a (hs a (List.mem_cons_self ..)) e
          exact hn'.1 (List.mem_map.2 ⟨b, hb, this⟩)
      exact hn hp' (fun _ h => h) q4
    · intro b hb
      obtain ⟨c, hc, rfl⟩ := hmemr hb
      simp only
      rcases hb' c hc with h1 | h1
      · rw [hmu _ _ h1]; exact .inl (hidx _ h1).2
      · rw [hmu2 _ _ h1.1]; right; simp only; omega
  · exact .inr ⟨rfl, q1, H', q2, q3⟩
end
def eb (look : Operand → Option XV) : List Operand → Option (List XV)
  | [] => some []
  | x :: r => match look x, eb look r with
    | some u, some l => some (u :: l)
    | _, _ => none
theorem nP {look : Operand → Option XV} {V : Vn} {H : Hp} {env : Env} (hl : Lks V H env look) : ∀ {xs : List Operand} {us : List XV}, eb look xs = some us → ∃ vs, Evs env xs vs ∧ XVs.rels V H us vs
  | [], us, h => by cases h; exact ⟨[], trivial, trivial⟩
  | x :: r, us, h => by
    simp only [eb] at h
    split at h; {
    rename_i u l h1 h2
    cases h
    obtain ⟨v, a1, a2⟩ := hl _ _ h1
    obtain ⟨vs, a3, a4⟩ := nP hl h2
    exact ⟨v :: vs, ⟨a1, a3⟩, a2, a4⟩}; {
    cases h}
def fnv : XV → Option (FuncId × List XC × List XC)
  | .a (.c (.d (.f f fs cs))) => some (f, fs.map .d, cs.map .d)
  | .a (.c (.f f fs cs)) => some (f, fs, cs)
  | _ => none
theorem fnv_ok {V : Vn} {H : Hp} {x : XV} {f : FuncId} {fs cs : List XC} {v : Value} (h : fnv x = some (f, fs, cs)) (hr : x.rel V H v) : ∃ us ws, v = .func (.func f) us ws ∧ rels V H fs us.toList ∧ rels V H cs ws.toList := by
  unfold fnv at h
  split at h; {
  cases h
  simp only [XV.rel, XA.rel, XC.rel, rd] at hr
  obtain ⟨us, ws, rfl, h1, h2⟩ := hr
  exact ⟨us, ws, rfl, rels.ofD h1, rels.ofD h2⟩}; {
  cases h
  simp only [XV.rel, XA.rel, XC.rel] at hr
  exact hr}; {
  cases h}
theorem XVs.ofC {V : Vn} {H : Hp} : ∀ {xs : List XC} {vs : List Value}, XC.rels V H xs vs → XVs.rels V H (xs.map fun x => .a (.c x)) vs
  | [], [], _ => trivial
  | _ :: _, _ :: _, h => ⟨h.1, XVs.ofC h.2⟩
  | [], _ :: _, h => h.elim
  | _ :: _, [], h => h.elim
theorem XVs.append {V : Vn} {H : Hp} : ∀ {xs ys : List XV} {us vs : List Value}, XVs.rels V H xs us → XVs.rels V H ys vs → XVs.rels V H (xs ++ ys) (us ++ vs)
  | [], _, [], _, _, h => h
  | _ :: _, _, _ :: _, _, h, k => ⟨h.1, XVs.append h.2 k⟩
  | [], _, _ :: _, _, h, _ => h.elim
  | _ :: _, _, [], _, h, _ => h.elim
def cl (l : List XC) : List XV := l.map fun x => .a (.c x)
def SubV (a b : List XV) : Prop := ∀ V H vs, XVs.rels V H a vs → XVs.rels V H b vs
theorem SubV.of {a b : List XV} (h : cos b a = b) : SubV a b := fun V H vs hr => h ▸ cos_ok hr
theorem XVs.split {V : Vn} {H : Hp} : ∀ {xs ys : List XV} {vs : List Value}, XVs.rels V H (xs ++ ys) vs → ∃ v1 v2, vs = v1 ++ v2 ∧ XVs.rels V H xs v1 ∧ XVs.rels V H ys v2
  | [], ys, vs, h => ⟨[], vs, rfl, trivial, h⟩
  | x :: xs, ys, v :: vs, h => by
    obtain ⟨v1, v2, h1, h2, h3⟩ := XVs.split (xs := xs) h.2
    exact ⟨v :: v1, v2, by rw [h1]; rfl, ⟨h.1, h2⟩, h3⟩
  | _ :: _, _, [], h => h.elim
theorem SubV.mid {fs cs : List XV} {u c : List XV} (h : cos c u = c) : SubV (fs ++ (u ++ cs)) (fs ++ (c ++ cs)) := fun V H vs hr => by
  obtain ⟨v1, v2, rfl, h1, h2⟩ := XVs.split hr
  obtain ⟨v3, v4, rfl, h3, h4⟩ := XVs.split h2
  exact XVs.append h1 (XVs.append (SubV.of h V H v3 h3) h4)
theorem SubV.stat {u c : List XV} (h : cos c u = c) : SubV (cl [] ++ (u ++ cl [])) c := fun V H vs hr => SubV.of h V H vs (by simpa [cl] using hr)
section
variable {P : Program} {pk : Pk} {f : FuncId} {args : List XV} {hpf : XH} {m m' : Nat} {Φ : XV → XH → Prop}
theorem LS.call {ops : Array Oper} {d : Option Tmp} {ty : TypeId} {pos : String} {af : Array Edge} {opd : Operand} {xs : List Operand} {tys : Array TypeId} {Er : XE} {fp : XH} {nx : Nat} {gs vs : List Nat} {fv : XV} {fs cs : List XC} {us : List XV}
    (hfv : xev Er opd = some fv) (hfn : fnv fv = some (f, fs, cs)) (hcl : Callable P f) (h : XFn P pk f args hpf m m' Φ) (hc : gN m args hpf = true) (hmm : m ≤ m') (hus : eb (xev Er) xs = some us)
    (hargs : SubV (cl fs ++ (us ++ cl cs)) (XVs.ren (muc gs m nx vs) args)) (hfp : fp = bn (muc gs m nx vs) hpf) (hgs : ae fp = gs) (hnd : gs.Nodup) (hlt : ∀ g ∈ gs, g < nx) :
    LS P pk ops { dst := d, op := .call { callee := .value opd, args := xs.toArray, argTypes := tys }, type := ty, pos := pos, after := af, guard := none } Er fp nx (nx + (m' - m))
      (fun x fp' => ∃ r hp', Φ r hp' ∧ x = r.ren (muc gs m nx vs) ∧ fp' = bn (muc gs m nx vs) hp' ∧ (∀ b ∈ fp', b.g ∈ ae fp ∨ (nx ≤ b.g ∧ b.g < nx + (m' - m))) ∧ (ae fp').Nodup) := by
  intro w0 N Q rest env own H V sg hl hV ht hf hd hp hh a w ha hw
  obtain ⟨fval, e1, e2⟩ := hl.lks _ _ hfv
  obtain ⟨fus, fws, rfl, e3, e4⟩ := fnv_ok hfn e2
  obtain ⟨vals, e5, e6⟩ := nP hl.lks hus
  refine wpList_plain rfl fun K hK => ?_
  have hm := Evs.map ha e5
  have hrun : (execOp a.eval { dst := d, op := .call { callee := .value opd, args := xs.toArray, argTypes := tys }, type := ty, pos := pos, after := af, guard := none }).run P w = .ok (.enter f (fus.toList ++ (vals ++ fws.toList)).toArray) w := by
    simp [execOp, resolve, Deferred.ofValue, invoke, ha.ev e1, hm, hcl.run, Array.append_assoc]
  unfold Oper.wp
  rw [hrun]
  refine (XFn.run (us := fus.toList ++ (vals ++ fws.toList)) h hc hmm hfp hgs hnd hlt (hargs _ _ _ (XVs.append (XVs.ofC e3) (XVs.append e6 (XVs.ofC e4)))) hV ht hf hw hp.1).mono ?_
  rintro e w' (⟨v, r, hp', V', H', sg', rfl, hΦ, q1, q2, q3, q4, q5, q6, q7, q8⟩ | ⟨rfl, q1, H', q2, q3⟩)
  {
  exact hK _ _ (hh v _ _ V' H' sg' ⟨r, hp', hΦ, rfl, rfl, by rw [hgs]; exact q5, q4⟩ q1 q2 q3 q6 q7 _ _ (ha.put hd v) q8)}; {
  exact hp.2 a w' H' q1 ha.defers q2 q3}
variable {x : Cx P} {k : List Fr} {s : XS}
theorem MS.call {ops : List Oper} {dm : Option (List Rc)} {i : Nat} {l : List (Nat × Oper)} {E : XE} {hp : XH} {nx : Nat} {d : Option Tmp} {ty : TypeId} {pos : String} {af : Array Edge} {g : Option (Nat × Bool)} {opd : Operand} {xs : List Operand} {tys : Array TypeId} {fv : XV} {fs cs : List XC} {us : List XV} {ps rest : XH} {Er : XE} (gs : List Nat) (wr rel : Bool)
    (h : XFn P x.B.pk f args hpf m m' Φ) (hEr : vis dm ops { dst := d, op := .call { callee := .value opd, args := xs.toArray, argTypes := tys }, type := ty, pos := pos, after := af, guard := g } E = Er) (hfv : xev Er opd = some fv) (hfn : fnv fv = some (f, fs, cs)) (hcl : Callable P f) (hus : eb (xev Er) xs = some us) (hpk : dY gs hp = some (ps, rest))
    (hargs : SubV (cl fs ++ (us ++ cl cs)) (XVs.ren (muc gs m nx (ps.map (·.t))) args)) (hfp : ps = bn (muc gs m nx (ps.map (·.t))) hpf) (hc : gN m args hpf = true)
    (hb : (aw ops Er g = some true ∧ ae ps = gs) ∧ (okD x.N d && (bp gs && (gs.all (fun g => Nat.blt g nx) && Nat.ble m m'))) = true)
    (hdk : DkM dm ops ⟨i, ae ps ++ List.range' nx (nx + (m' - m) - nx), wr, rel⟩) (hwr : wr = false → ∀ r hp', Φ r hp' → bn (muc gs m nx (ps.map (·.t))) hp' = ps ∧ nx + (m' - m) = nx) (hu : rel = false → ∃ r hp', Φ r hp' ∧ (∀ r2 hp2, Φ r2 hp2 → r2 = r ∧ hp2 = hp') ∧ (∀ b ∈ bn (muc gs m nx (ps.map (·.t))) hp', b.g ∈ ae ps ∨ (nx ≤ b.g ∧ b.g < nx + (m' - m))) ∧ (ae (bn (muc gs m nx (ps.map (·.t))) hp')).Nodup) (hrl : rel = true → RlM dm ops i l)
    (hk : ∀ r hp', Φ r hp' → (MS.r ops (push dm ⟨i, ae ps ++ List.range' nx (nx + (m' - m) - nx), wr, rel⟩) l k ⟨b8 d (r.ren (muc gs m nx (ps.map (·.t)))) E, bn (muc gs m nx (ps.map (·.t))) hp' ++ rest, nx + (m' - m)⟩).ok x) :
    (MS.r ops dm ((i, { dst := d, op := .call { callee := .value opd, args := xs.toArray, argTypes := tys }, type := ty, pos := pos, after := af, guard := g }) :: l) k ⟨E, hp, nx⟩).ok x := by
  subst hEr
  obtain ⟨⟨hw, hgs⟩, hb⟩ := hb
  simp only [Bool.and_eq_true] at hb
  obtain ⟨hd, b1, b2, b3⟩ := hb
  have b2' := List.all_eq_true.1 b2
  have hLS := LS.yes (pk := x.B.pk) (l := ops) (o := { dst := d, op := .call { callee := .value opd, args := xs.toArray, argTypes := tys }, type := ty, pos := pos, after := af, guard := g }) hw
    (LS.call (ops := ops.toArray) (ty := ty) (pos := pos) (af := af) (d := d) hfv hfn hcl h hc (Nat.le_of_ble_eq_true b3) hus hargs hfp hgs (bW b1) (fun g hg => by have := b2' g hg; rwa [Nat.blt_eq] at this))
  refine MS.op (fp := ps) (rest := rest) wr rel hd (dC hpk) (Nat.le_add_right _ _) hLS hdk (fun hr => ?_) hrl ?_; {
  obtain ⟨r, hp', h1, h2, h3, h4⟩ := hu hr
  refine ⟨_, _, ⟨r, hp', h1, rfl, rfl, h3, h4⟩, ?_⟩
  rintro y fq ⟨r2, hp2, h5, rfl, rfl, _⟩
  obtain ⟨rfl, rfl⟩ := h2 r2 hp2 h5
  exact ⟨rfl, rfl⟩}; {
  rintro y fp' ⟨r, hp', hΦ, rfl, rfl, q1, q2⟩
  exact ⟨q1, q2, fun h => hwr h r hp' hΦ, _, .refl _, hk r hp' hΦ⟩}
def pure (r : XV) : Bool := r.all fun _ _ => false
mutual
theorem XC.ren_pure {μ : Mu} : ∀ {x : XC}, x.all (fun _ _ => false) = true → x.ren μ = x
  | .d _, _ => rfl
  | .z, _ => rfl
  | .p _ _ _, h => by cases h
  | .q _ _ _ _ _, h => by cases h
  | .l _ _ _ _ _ _, h => by cases h
  | .m _ _, h => by cases h
  | .f fn fs cs, h => by
    simp only [XC.all, Bool.and_eq_true] at h
    simp only [XC.ren, XC.rens_pure h.1, XC.rens_pure h.2]
  | .w _, _ => rfl
theorem XC.rens_pure {μ : Mu} : ∀ {xs : List XC}, XC.alls (fun _ _ => false) xs = true → XC.rens μ xs = xs
  | [], _ => rfl
  | x :: xs, h => by
    simp only [XC.alls, Bool.and_eq_true] at h
    simp only [XC.rens, XC.ren_pure h.1, XC.rens_pure h.2]
end
theorem XA.ren_pure {μ : Mu} {x : XA} (h : x.all (fun _ _ => false) = true) : x.ren μ = x := by
  cases x with
  | c x => simp only [XA.ren, XC.ren_pure h]
  | a l => simp only [XA.ren, XC.rens_pure h]
  | g l => rfl
theorem XV.ren_pure {μ : Mu} {x : XV} (h : pure x = true) : x.ren μ = x := by
  cases x with
  | a x => simp only [XV.ren, XA.ren_pure h]
  | t l =>
    have key : ∀ l : List XA, XA.alls (fun _ _ => false) l = true → XA.rens μ l = l := by
      intro l
      induction l with
      | nil => intro _; rfl
      | cons a l ih =>
        intro h
        simp only [XA.alls, Bool.and_eq_true] at h
        simp only [XA.rens, XA.ren_pure h.1, ih h.2]
    simp only [XV.ren, key l h]
  | u => rfl
  | gd b x => simp only [XV.ren, XA.ren_pure (x := x) h]
theorem XVs.ren_pure {μ : Mu} : ∀ {xs : List XV}, XVs.all (fun _ _ => false) xs = true → XVs.ren μ xs = xs
  | [], _ => rfl
  | x :: xs, h => by
    simp only [XVs.all, Bool.and_eq_true] at h
    simp only [XVs.ren, XV.ren_pure (x := x) h.1, XVs.ren_pure h.2]
def XP (P : Program) (pk : Pk) (f : FuncId) (args : List XV) (Ψ : XV → Prop) : Prop := XVs.all (fun _ _ => false) args = true ∧ (∀ r, Ψ r → pure r = true) ∧ Callable P f ∧ XFn P pk f args [] 0 0 (fun r hp' => Ψ r ∧ hp' = [])
theorem MS.callp {ops : List Oper} {dm : Option (List Rc)} {i : Nat} {l : List (Nat × Oper)} {E : XE} {hp : XH} {nx : Nat} {d : Option Tmp} {ty : TypeId} {pos : String} {af : Array Edge} {g : Option (Nat × Bool)} {opd : Operand} {xs : List Operand} {tys : Array TypeId} {fv : XV} {fs cs : List XC} {us : List XV} {Ψ : XV → Prop} {Er : XE} (rel : Bool)
    (h : XP P x.B.pk f args Ψ) (hEr : vis dm ops { dst := d, op := .call { callee := .value opd, args := xs.toArray, argTypes := tys }, type := ty, pos := pos, after := af, guard := g } E = Er) (hfv : xev Er opd = some fv) (hfn : fnv fv = some (f, fs, cs)) (hus : eb (xev Er) xs = some us)
    (hargs : SubV (cl fs ++ (us ++ cl cs)) args) (hb : aw ops Er g = some true ∧ okD x.N d = true) (hdk : DkM dm ops ⟨i, [], false, rel⟩) (hu : rel = false → ∃ r, Ψ r ∧ ∀ r2, Ψ r2 → r2 = r) (hrl : rel = true → RlM dm ops i l)
    (hk : ∀ r, Ψ r → (MS.r ops (push dm ⟨i, [], false, rel⟩) l k ⟨b8 d r E, hp, nx⟩).ok x) :
    (MS.r ops dm ((i, { dst := d, op := .call { callee := .value opd, args := xs.toArray, argTypes := tys }, type := ty, pos := pos, after := af, guard := g }) :: l) k ⟨E, hp, nx⟩).ok x := by
  obtain ⟨h1, h2, hcl, h3⟩ := h
  have mono : ∀ {xs : List XV}, XVs.all (fun _ _ => false) xs = true → XVs.all (low 0) xs = true := by
    have hp : (fun g t => low 0 g t) = fun _ _ => false := by funext g t; simp [low, Nat.blt]
    intro xs hx
    have : low 0 = fun _ _ => false := hp
    rw [this]; exact hx
  have e := XVs.ren_pure (μ := muc [] 0 nx []) h1
  have e0 : ae ([] : XH) ++ List.range' nx (nx + (0 - 0) - nx) = [] := by simp [ae]
  refine MS.call [] false rel h3 hEr hfv hfn hcl hus rfl (by show SubV _ (XVs.ren (muc [] 0 nx []) args); rw [e]; exact hargs) rfl (by simp only [gN, mono h1, Bool.true_and]; rfl) ⟨⟨hb.1, rfl⟩, by rw [hb.2]; rfl⟩ (by rw [e0]; exact hdk) (fun _ r hp' h => by rw [h.2]; exact ⟨rfl, rfl⟩) (fun hr => ?_) hrl ?_; {
  obtain ⟨r, hr1, hr2⟩ := hu hr
  exact ⟨r, [], ⟨hr1, rfl⟩, fun r2 hp2 h => ⟨hr2 r2 h.1, h.2⟩, by simp [bn], by simp [bn, ae]⟩}; {
  rintro r hp' ⟨hr, rfl⟩
  have := hk r hr
  show (MS.r ops (push dm ⟨i, ae ([] : XH) ++ List.range' nx (nx + (0 - 0) - nx), false, rel⟩) l k ⟨b8 d (r.ren _) E, [] ++ hp, nx + 0⟩).ok x
  rw [e0, XV.ren_pure (h2 r hr)]
  exact this}
end
section
variable {P : Program} {pk : Pk} {f : FuncId} {fn : Func} {c : Code} {args : List XV} {N : Nat} {Ψ : XV → Prop}
abbrev Cp (P : Program) (pk : Pk) (w0 : World) (own : List Seg) (H : Hp) (V : Vn) (v0 : ∀ g t, V g t ≠ none → t = 0 ∧ g ∈ ([] : List Nat)) (hf : (∀ g ∈ ([] : List Nat), g < 0) ∧ pk.hy H) (N : Nat) (fn : Func) (Ψ : XV → Prop) : Cx P := Cx.of P (Bs.mk w0 own H V 0 [] pk v0 hf) N fn 0 (fun r hp' => Ψ r ∧ hp' = [])
theorem XP.enter (hf : P.funcs[f]? = some fn) (hb : fn.body = some c) (hN : fn.ntmps = N) (hn : (fn.name == "runtime.NumGoroutine") = false) (hl : Nat.ble args.length N = true) (ha : XVs.all (fun _ _ => false) args = true) (hΨ : ∀ r, Ψ r → pure r = true)
    (h : ∀ w0 own H V v0 hf, MC (Cp P pk w0 own H V v0 hf N fn Ψ) c [] ⟨iL 0 args, [], 0⟩) : XP P pk f args Ψ :=
  ⟨ha, hΨ, Callable.of hf hn hb, XFn.enter hf hb hN hl rfl h⟩
theorem ME.finp {T : Tb P} {w0 : World} {own : List Seg} {H : Hp} {V : Vn} {v0 : ∀ g t, V g t ≠ none → t = 0 ∧ g ∈ ([] : List Nat)} {hf : (∀ g ∈ ([] : List Nat), g < 0) ∧ pk.hy H} {e : Exit} {s : XS} {us : List XA} {r : XV} (he : e = .ret ∨ e = .normal) (hr : iM T s fn.results.toList = some us) (hc : co1 r (fL us) = r) (hp : pure r = true) (hΦ : Ψ r) :
    ME (Cp P pk w0 own H V v0 hf N fn Ψ) e [] s := by
  have e1 := XV.ren_pure (μ := mu id s.hp) hp
  refine ME.fin (T := T) (r := r) (hp' := []) id he hr ⟨⟨[], s.hp, rfl, rfl⟩, ?_, ?_⟩ ⟨hΦ, rfl⟩; {
  show [some (co1 r (fL us))] = [some (r.ren _)]
  rw [hc]
  exact congrArg (fun z => [some z]) e1.symm}; {
  have h2 : eall (g9 []) [(0, r)] = true := by
    have : (g9 [] : Nat → Nat → Bool) = fun _ _ => false := rfl
    rw [this]
    simp only [eall, Bool.and_true]; exact hp
  show (eall (g9 []) [(0, r)] && _) = true
  rw [h2]; rfl}
variable {x : Cx P} {k : List Fr} {s : XS}
def fzC (g t n : Nat) (rows : List (List D)) : XC → XC
  | .l g' t' sz o n' c => bif Nat.beq g g' && (Nat.beq t t' && Nat.beq o 0) then .d (.s rows) else .l g' t' sz o n' c
  | y => y
def fzO (g t n : Nat) : XC → List Prop
  | .l g' t' _ o n' c => bif Nat.beq g g' && (Nat.beq t t' && Nat.beq o 0) then [n' = n, c = n] else []
  | _ => []
def fzCs (g t n : Nat) (rows : List (List D)) : List XC → List XC
  | [] => []
  | y :: r => fzC g t n rows y :: fzCs g t n rows r
def fzOs (g t n : Nat) : List XC → List Prop → List Prop
  | [], l => l
  | y :: r, l => oapp (fzO g t n y) (fzOs g t n r l)
def fzA (g t n : Nat) (rows : List (List D)) : XA → XA
  | .c y => .c (fzC g t n rows y)
  | .a l => .a (fzCs g t n rows l)
  | .g l => .g l
def fzAO (g t n : Nat) : XA → List Prop → List Prop
  | .c y, l => oapp (fzO g t n y) l
  | .a ys, l => fzOs g t n ys l
  | .g _, l => l
def fzV (g t n : Nat) (rows : List (List D)) : XV → XV
  | .a y => .a (fzA g t n rows y)
  | y => y
def fzVO (g t n : Nat) : XV → List Prop → List Prop
  | .a y, l => fzAO g t n y l
  | _, l => l
def fzE (g t n : Nat) (rows : List (List D)) : XE → XE
  | [] => []
  | (i, y) :: r => (i, fzV g t n rows y) :: fzE g t n rows r
def fzEO (g t n : Nat) : XE → List Prop → List Prop
  | [], l => l
  | (_, y) :: r, l => fzVO g t n y (fzEO g t n r l)
def fzH (g t n : Nat) (rows : List (List D)) : XH → XH
  | [] => []
  | ⟨g', t', .cells c e⟩ :: r => ⟨g', t', .cells (fzCs g t n rows c) e⟩ :: fzH g t n rows r
  | ⟨g', t', .rowk m pre mid post e sz⟩ :: r => ⟨g', t', .rowk m pre (fzCs g t n rows mid) post e sz⟩ :: fzH g t n rows r
  | b :: r => b :: fzH g t n rows r
def fzHO (g t n : Nat) : XH → List Prop → List Prop
  | [], l => l
  | ⟨_, _, .cells c _⟩ :: r, l => fzOs g t n c (fzHO g t n r l)
  | ⟨_, _, .rowk _ _ mid _ _ _⟩ :: r, l => fzOs g t n mid (fzHO g t n r l)
  | _ :: r, l => fzHO g t n r l
section
variable {g t n e : Nat} {b : Option Nat} {rows : List (List D)} {V : Vn} {H : Hp}
theorem fzC_ok (hV : V g t = some (b, e)) (hn : n = rows.length) (hm : n + e ≤ maxLen) (hr : rows = [] ∨ ∃ b' sz, b = some b' ∧ rdr H b' sz 0 rows) {y : XC} {v : Value} (ho : aL (fzO g t n y)) (h : y.rel V H v) : (fzC g t n rows y).rel V H v := by
  unfold fzC
  split; {
  rename_i g' t' sz o n' c
  cases hb : (Nat.beq g g' && (Nat.beq t t' && Nat.beq o 0)) with
  | false => exact h
  | true =>
    simp only [fzO, hb, cond_true] at ho
    simp only [Bool.and_eq_true] at hb
    obtain ⟨e1, e2, _⟩ := ho
    have h1 := Nat.eq_of_beq_eq_true hb.1
    have h2 := Nat.eq_of_beq_eq_true hb.2.1
    have h3 := Nat.eq_of_beq_eq_true hb.2.2
    subst h1 h2 h3 e1 e2
    simp only [XC.rel] at h
    obtain ⟨b', ex, h4, rfl⟩ := h
    rw [hV] at h4
    cases h4
    simp only [cond_true, XC.rel, rd]
    subst hn
    rcases hr with hr | ⟨b', sz2, rfl, hr⟩
    {
    exact ⟨_, _, 0, rfl, Nat.le_add_right _ _, hm, .inl hr⟩}; {
    exact ⟨_, _, sz2, rfl, Nat.le_add_right _ _, hm, .inr ⟨b', 0, by rw [Nat.zero_mul]; rfl, hr⟩⟩}}
  {
  exact h}
theorem pi : ∀ ys : List XC, (fzCs g t n rows ys).length = ys.length
  | [] => rfl
  | y :: r => by simp only [fzCs, List.length_cons, pi r]
theorem kh (hV : V g t = some (b, e)) (hn : n = rows.length) (hm : n + e ≤ maxLen) (hr : rows = [] ∨ ∃ b' sz, b = some b' ∧ rdr H b' sz 0 rows) : ∀ {ys : List XC} {vs : List Value} {l : List Prop}, aL (fzOs g t n ys l) → rels V H ys vs → rels V H (fzCs g t n rows ys) vs ∧ aL l
  | [], [], l, ho, _ => ⟨trivial, ho⟩
  | y :: ys, v :: vs, l, ho, h => by
    obtain ⟨o1, o2⟩ := dj ho
    obtain ⟨h1, h2⟩ := kh hV hn hm hr o2 h.2
    exact ⟨⟨fzC_ok hV hn hm hr o1 h.1, h1⟩, h2⟩
  | [], _ :: _, _, _, h => h.elim
  | _ :: _, [], _, _, h => h.elim
theorem fzV_ok (hV : V g t = some (b, e)) (hn : n = rows.length) (hm : n + e ≤ maxLen) (hr : rows = [] ∨ ∃ b' sz, b = some b' ∧ rdr H b' sz 0 rows) {y : XV} {l : List Prop} (ho : aL (fzVO g t n y l)) : (∀ v, y.rel V H v → (fzV g t n rows y).rel V H v) ∧ aL l := by
  cases y with
  | a y =>
    cases y with
    | c y => obtain ⟨o1, o2⟩ := dj ho; exact ⟨fun v h => fzC_ok hV hn hm hr o1 h, o2⟩
    | a ys =>
      have key : ∀ {ys : List XC} {l : List Prop}, aL (fzOs g t n ys l) → aL l := by
        intro ys
        induction ys with
        | nil => intro l h; exact h
        | cons y ys ih => intro l h; exact ih (dj h).2
      exact ⟨fun v ⟨us, h1, h2⟩ => ⟨us, h1, (kh hV hn hm hr ho h2).1⟩, key ho⟩
    | g ys => exact ⟨fun v h => h, ho⟩
  | t ys => exact ⟨fun v h => h, ho⟩
  | u => exact ⟨fun v h => h, ho⟩
  | gd b y => exact ⟨fun v h => h, ho⟩
theorem xlk_fz {g t n : Nat} {rows : List (List D)} : ∀ {E : XE} {i : Nat} {u : XV}, xlk (fzE g t n rows E) i = some u → ∃ y, xlk E i = some y ∧ u = fzV g t n rows y
  | [], i, u, h => by cases h
  | (j, y) :: r, i, u, h => by
    simp only [fzE, xlk] at h ⊢
    cases hb : Nat.beq j i with
    | true => rw [hb] at h; cases h; exact ⟨y, rfl, rfl⟩
    | false => rw [hb] at h; exact xlk_fz h
theorem fzEO_ok (hV : V g t = some (b, e)) (hn : n = rows.length) (hm : n + e ≤ maxLen) (hr : rows = [] ∨ ∃ b' sz, b = some b' ∧ rdr H b' sz 0 rows) : ∀ {E : XE} {l : List Prop}, aL (fzEO g t n E l) → (∀ i y, xlk E i = some y → ∀ v, y.rel V H v → (fzV g t n rows y).rel V H v) ∧ aL l
  | [], l, ho => ⟨fun i y h => (by cases h), ho⟩
  | (j, y) :: r, l, ho => by
    obtain ⟨h1, h2⟩ := fzV_ok hV hn hm hr ho
    obtain ⟨h3, h4⟩ := fzEO_ok hV hn hm hr h2
    refine ⟨fun i z hz => ?_, h4⟩
    simp only [xlk] at hz
    cases hb : Nat.beq j i with
    | true => rw [hb] at hz; cases hz; exact h1
    | false => rw [hb] at hz; exact h3 i z hz
theorem kT (hV : V g t = some (b, e)) (hn : n = rows.length) (hm : n + e ≤ maxLen) (hr : rows = [] ∨ ∃ b' sz, b = some b' ∧ rdr H b' sz 0 rows) : ∀ {hp : XH} {sg : Seg} {l : List Prop}, aL (fzHO g t n hp l) → HR V H hp sg → HR V H (fzH g t n rows hp) sg ∧ aL l
  | [], _, l, ho, h => ⟨h, ho⟩
  | ⟨g', t', .cells c e⟩ :: r, _, l, ho, ⟨s1, s2, h0, h1, h4⟩ => by
    rcases h1 with ⟨b', ob, ex, h1, h2, us, h3, h5⟩ | ⟨_, _, e', sz, h3, _⟩
    {
    obtain ⟨k1, k2⟩ := kh hV hn hm hr ho h3
    obtain ⟨k3, k4⟩ := kT hV hn hm hr k2 h4
    exact ⟨⟨s1, s2, h0, .inl ⟨b', ob, ex, h1, h2, us, k1, h5⟩, k3⟩, k4⟩}; {
    cases h3}
  | ⟨g', t', .row n2 rows2 e sz⟩ :: r, _, l, ho, ⟨s1, s2, h0, h1, h4⟩ => by
    obtain ⟨k3, k4⟩ := kT (hp := r) hV hn hm hr (l := l) ho h4
    exact ⟨⟨s1, s2, h0, h1, k3⟩, k4⟩
  | ⟨g', t', .rowk m pre mid post e sz⟩ :: r, _, l, ho, ⟨s1, s2, h0, h1, h4⟩ => by
    rcases h1 with ⟨b', ob, ex, h1, h2, ua, um, uc, j, q0, q1, q2, q3, q4, q5, q6⟩ | ⟨_, _, e', sz, h3, _⟩
    {
    obtain ⟨k1, k2⟩ := kh hV hn hm hr ho q2
    obtain ⟨k3, k4⟩ := kT hV hn hm hr k2 h4
    exact ⟨⟨s1, s2, h0, .inl ⟨b', ob, ex, h1, h2, ua, um, uc, j, q0, q1, k1, q3, q4, (pi mid).trans q5, q6⟩, k3⟩, k4⟩}; {
    cases h3}
  | ⟨g', t', .mp Q⟩ :: r, _, l, ho, ⟨s1, s2, h0, h1, h4⟩ => by
    obtain ⟨k3, k4⟩ := kT (hp := r) hV hn hm hr (l := l) ho h4
    exact ⟨⟨s1, s2, h0, h1, k3⟩, k4⟩
end
theorem ei {g t n : Nat} {rows : List (List D)} : ∀ hp : XH, (fzH g t n rows hp).map (fun b => (b.g, b.t)) = hp.map fun b => (b.g, b.t)
  | [] => rfl
  | ⟨_, _, .cells _ _⟩ :: r => by simp only [fzH, List.map_cons, ei r]
  | ⟨_, _, .row _ _ _ _⟩ :: r => by simp only [fzH, List.map_cons, ei r]
  | ⟨_, _, .mp _⟩ :: r => by simp only [fzH, List.map_cons, ei r]
  | ⟨_, _, .rowk ..⟩ :: r => by simp only [fzH, List.map_cons, ei r]
def fzS (g : Nat) : XS → Option (XS × List Prop)
  | ⟨E, hp, nx⟩ => match aq hp g with
    | some ⟨_, t, .row n rows _ _⟩ => some (⟨fzE g t n rows E, fzH g t n rows (bM hp g), nx⟩, fzEO g t n E (fzHO g t n (bM hp g) []))
    | _ => none
theorem SR.fz {B : Bs} {s s' : XS} {g : Nat} {ob : List Prop} (h : fzS g s = some (s', ob)) (ho : aL ob) {V : Vn} {H : Hp} {sg : Seg} {env : Env} (hs : SR B s V H sg env) :
    ∃ s1 s2 : Seg, (s1 ++ s2).Perm sg ∧ ∀ H', Le H H' → (∀ p ∈ s1, H' p.1 = some p.2) → SR B s' V H' s2 env := by
  obtain ⟨E, hp, nx⟩ := s
  simp only [fzS] at h
  split at h; {
  rename_i g' t n rows e sz hg
  cases h
  obtain ⟨p1, p2, _⟩ := aQ hg
  simp only at p2
  subst p2
  obtain ⟨sg', q1, q2⟩ := hs.hr.perm p1
  obtain ⟨t1, t2, rfl, hrel, q3⟩ := q2
  refine ⟨t1, t2, q1, fun H' hle hH => ?_⟩; {
  obtain ⟨b, ex, hV, r0, r5, hrd⟩ : ∃ b ex, V g' t = some (b, ex) ∧ n = rows.length ∧ n + ex ≤ maxLen ∧ (rows = [] ∨ ∃ b' sz, b = some b' ∧ rdr H' b' sz 0 rows) := by
    rcases hrel with ⟨b, ob, ex, rfl, hV, us, j, r0, r1, r2, r3, r4, r5, r6⟩ | ⟨rfl, hV, e', sz', h2, _⟩
    {
    refine ⟨some b, ex, hV, r0, r5, .inr ⟨b, sz, rfl, rdr.of ?_ (r1.mono hle) r2⟩⟩
    have hq := hH _ (List.mem_singleton.2 rfl)
    have key : ∀ (vs pre : List Value), pre ++ vs = us → hAt H' b pre.length vs := by
      intro vs
      induction vs with
      | nil => intro _ _; trivial
      | cons v vs ih =>
        intro pre he
        refine ⟨?_, by have := ih (pre ++ [v]) (by simpa using he); simpa using this⟩
        simp only at hq
        simp only [cel, hq, r3]
        rw [← he]
        simp
    exact key us [] rfl}; {
    simp only [XO.row.injEq] at h2
    obtain ⟨rfl, rfl, _, _⟩ := h2
    exact ⟨none, 0, hV, rfl, by simp [maxLen], .inl rfl⟩}
  obtain ⟨k1, k2⟩ := fzEO_ok (H := H') hV r0 r5 hrd ho
  obtain ⟨k3, _⟩ := kT hV r0 r5 hrd k2 (q3.mono (VLe.refl _) hle)
  have hsub : ∀ b ∈ fzH g' t n rows (bM hp g'), ∃ c ∈ hp, c.g = b.g ∧ c.t = b.t := by
    intro b hb
    have : (b.g, b.t) ∈ (bM hp g').map fun b => (b.g, b.t) := by rw [← ei (n := n) (rows := rows) (g := g') (t := t)]; exact List.mem_map.2 ⟨b, hb, rfl⟩
    obtain ⟨c, hc, e9⟩ := List.mem_map.1 this
    simp only [Prod.mk.injEq] at e9
    exact ⟨c, p1.mem_iff.2 (List.mem_cons_of_mem _ hc), e9.1, e9.2⟩
  refine ⟨fun i u hu => ?_, k3, ?_, ?_, hs.fresh, hs.le.trans hle, hs.vle, hs.keep, ?_, hs.nxle⟩; {
  obtain ⟨y, hy, rfl⟩ := xlk_fz hu
  obtain ⟨v, a1, a2⟩ := hs.lk i y hy
  exact ⟨v, a1, k1 i y hy v (XV.mono (VLe.refl _) hle a2)⟩}; {
  intro b hb t' ht'
  obtain ⟨c, hc, e1, e2⟩ := hsub b hb
  rw [← e1]; exact hs.top c hc t' (by omega)}; {
  have h1 := (p1.map XB.g).nodup_iff.1 hs.nd
  have h2 : (ae (bM hp g')).Nodup := (List.nodup_cons.1 h1).2
  have h3 : ae (fzH g' t n rows (bM hp g')) = ae (bM hp g') := by
    have := congrArg (List.map Prod.fst) (ei (n := n) (rows := rows) (g := g') (t := t) (bM hp g'))
    simpa [ae, List.map_map, Function.comp_def] using this
  rw [h3]; exact h2}; {
  intro b hb
  obtain ⟨c, hc, e1, e2⟩ := hsub b hb
  rw [← e1]; exact hs.sub c hc}}}; {
  cases h}
theorem St.fz {w0 w : World} {H : Hp} {own : List Seg} {s1 s2 sg : Seg} (hp : (s1 ++ s2).Perm sg) (h : St w0 H (sg :: own) w) : ∃ H', Le H H' ∧ (∀ p ∈ s1, H' p.1 = some p.2) ∧ St w0 H' (s2 :: own) w := by
  have h1 : St w0 H (s1 :: s2 :: own) w := h.flat (by
    simp only [List.flatten_cons, ← List.append_assoc]
    exact hp.append_right _)
  obtain ⟨k1, k2, k3⟩ := h1.freeze
  exact ⟨_, k2, k3, k1⟩
theorem MS.fzc {s s' : XS} {ob : List Prop} (g : Nat) (h : fzS g s = some (s', ob)) (hk : (MS.c c k s').ok x) (ho : aL ob) : (MS.c c k s).ok x := fun V H sg env hs a w ha hw => by
  obtain ⟨s1, s2, h1, h2⟩ := hs.fz h ho
  obtain ⟨H', h3, h4, h5⟩ := St.fz h1 hw
  exact hk V H' s2 env (h2 H' h3 h4) a w ha h5
theorem MS.fze {s s' : XS} {e : Exit} {ob : List Prop} (g : Nat) (h : fzS g s = some (s', ob)) (hk : (MS.e e k s').ok x) (ho : aL ob) : (MS.e e k s).ok x := fun V H sg env hs a w ha hw => by
  obtain ⟨s1, s2, h1, h2⟩ := hs.fz h ho
  obtain ⟨H', h3, h4, h5⟩ := St.fz h1 hw
  exact hk V H' s2 env (h2 H' h3 h4) a w ha h5
theorem MS.fzr {s s' : XS} {ops : List Oper} {l : List (Nat × Oper)} {ob : List Prop} (g : Nat) (h : fzS g s = some (s', ob)) (hk : (MS.r ops none l k s').ok x) (ho : aL ob) : (MS.r ops none l k s).ok x := fun B Q hB hpan hK V H sg env hs a w ha hw => by
  obtain ⟨s1, s2, h1, h2⟩ := hs.fz h ho
  obtain ⟨H', h3, h4, h5⟩ := St.fz h1 hw
  exact hk B Q hB hpan hK V H' s2 env (h2 H' h3 h4) a w ha h5
end
abbrev xs (s : ByteArray) : XV := xv (.string s)
abbrev xi (n : Int) : XV := xv (.int .i64 n)
abbrev xb (b : Bool) : XV := xv (.bool b)
abbrev xd (l : List D) : XV := .a (.g l)
abbrev xr (l : List (List D)) : XV := .a (.c (.d (.s l)))
section
variable {P : Program} {x : Cx P} {T : Tb P} {k : List Fr} {s : XS}
theorem G (st : Nat) {m m' : MS} {ob' : List Prop} (h : bX T x.N false st 100000 m [] = (m', ob')) (h2 : m'.ok x) (h1 : aL ob' := by repeat' (first | exact trivial | apply And.intro | omega | (refine DK.mk ?_; decide +kernel) | (refine BK.mk ?_; decide +kernel) | rfl | (dsimp only; omega))) : m.ok x := (oY h h1 h2).2
theorem If {o : Operand} {a b : Code} {t : Bool} (hc : xev s.E o = some (xv (.bool t))) (h1 : t = true → (MS.c a k s).ok x) (h2 : t = false → (MS.c b k s).ok x) : (MS.c (.cond o a b) k s).ok x := MC.cond hc h1 h2
theorem Lp {α : Type} {c : Code} (S : α → XS) (I : α → Prop) (μ : α → Nat) (a : α) (hm : Mt x.B.nx0 x.B.F s (S a) id) (h0 : I a) (round : ∀ a, I a → (MS.c c (.l (fun n s => ∃ a, I a ∧ n = μ a ∧ s = S a) (μ a) :: k) (S a)).ok x) : (MS.c (.loop c) k s).ok x :=
  MC.loop (fun n s => ∃ a, I a ∧ n = μ a ∧ s = S a) (μ a) hm ⟨a, h0, rfl, rfl⟩ (by rintro n s ⟨a, h1, rfl, rfl⟩; exact round a h1)
theorem Nxt {α : Type} {S : α → XS} {I : α → Prop} {μ : α → Nat} {n : Nat} (a : α) (hm : Mt x.B.nx0 x.B.F s (S a) id) (hI : I a) (hlt : μ a < n) : (MS.e .normal (.l (fun n s => ∃ a, I a ∧ n = μ a ∧ s = S a) n :: k) s).ok x := ME.next (μ a) hm hlt ⟨a, hI, rfl, rfl⟩
def SRto (s s' : XS) : Prop := ∀ (B : Bs) V H sg env, SR B s V H sg env → ∃ V', SR B s' V' H sg env
theorem SRto.c {s s' : XS} {c : Code} (h : SRto s s') (hk : (MS.c c k s').ok x) : (MS.c c k s).ok x := fun V H sg env hs => let ⟨V', h'⟩ := h x.B V H sg env hs; hk V' H sg env h'
theorem SRto.e {s s' : XS} {e : Exit} (h : SRto s s') (hk : (MS.e e k s').ok x) : (MS.e e k s).ok x := fun V H sg env hs => let ⟨V', h'⟩ := h x.B V H sg env hs; hk V' H sg env h'
theorem SR.newRow {B : Bs} {E E' : XE} {hp hp' : XH} {nx e sz : Nat} {V : Vn} {H : Hp} {sg : Seg} {env : Env} (hs : SR B ⟨E, hp, nx⟩ V H sg env) (hsz : 0 < sz) (hE : ∀ V', VLe V V' → V' nx 0 = some (none, 0) → Lk V' H env E') (hH : ∀ V', VLe V V' → V' nx 0 = some (none, 0) → HR V' H hp' sg) (hn : hp'.map (fun b => (b.g, b.t)) = hp.map fun b => (b.g, b.t)) :
    ∃ V', SR B ⟨E', ⟨nx, 0, .row 0 [] e sz⟩ :: hp', nx + 1⟩ V' H sg env := by
  have h0 := hs.fresh nx 0 (Nat.le_refl _)
  have hle : VLe V (V.new nx 0 (none, 0)) := Vn.new_le _ h0
  have hmem : ∀ b ∈ hp', ∃ c ∈ hp, c.g = b.g ∧ c.t = b.t := fun b hb => by
    have : (b.g, b.t) ∈ hp.map fun b => (b.g, b.t) := hn ▸ List.mem_map.2 ⟨b, hb, rfl⟩
    obtain ⟨c, hc, e9⟩ := List.mem_map.1 this
    simp only [Prod.mk.injEq] at e9
    exact ⟨c, hc, e9.1, e9.2⟩
  have hlt : ∀ b ∈ hp, b.g < nx := fun b hb => by
    obtain ⟨i, hi⟩ := hs.hr.known b hb
    rcases Nat.lt_or_ge b.g nx with hl | hl
    {
    exact hl}; {
    rw [hs.fresh _ _ hl] at hi; cases hi}
  have hnn : ae hp' = ae hp := by
    have := congrArg (List.map Prod.fst) hn
    simpa [ae, List.map_map, Function.comp_def] using this
  refine ⟨V.new nx 0 (none, 0), hE _ hle (Vn.new_at ..), ⟨[], sg, rfl, .inr ⟨rfl, Vn.new_at .., e, sz, rfl, hsz⟩, hH _ hle (Vn.new_at ..)⟩, ?_, ?_, ?_, hs.le, hs.vle.trans hle, ?_, ?_, Nat.le_succ_of_le hs.nxle⟩; {
  intro b hb t ht
  rcases List.mem_cons.1 hb with rfl | hb
  {
  rw [Vn.new_ne]; {
  exact hs.fresh _ _ (Nat.le_refl _)}; {
  rintro ⟨_, h2⟩; simp only at ht; omega}}; {
  obtain ⟨c, hc, e1, e2⟩ := hmem b hb
  rw [Vn.new_ne]; {
  rw [← e1]; exact hs.top c hc t (by omega)}; {
  rintro ⟨h2, _⟩; have := hlt c hc; omega}}}; {
  refine List.nodup_cons.2 ⟨fun hc => ?_, by rw [show (List.map (fun b : XB => b.g) hp') = ae hp from hnn]; exact hs.nd⟩
  have hc' : nx ∈ ae hp := hnn ▸ hc
  obtain ⟨b, hb, e9⟩ := List.mem_map.1 hc'
  have := hlt b hb; omega}; {
  intro g t hg
  simp only at hg
  rw [Vn.new_ne]; {
  exact hs.fresh g t (by simp only; omega)}; {
  rintro ⟨h2, _⟩; omega}}; {
  intro g t h1 h2
  by_cases e9 : g = nx ∧ t = 0; {
  left; rw [e9.1]; exact hs.nxle}; {
  rw [Vn.new_ne _ _ e9] at h2; exact hs.keep g t h1 h2}}; {
  intro b hb
  rcases List.mem_cons.1 hb with rfl | hb
  {
  left; exact hs.nxle}; {
  obtain ⟨c, hc, e1, _⟩ := hmem b hb
  rw [← e1]; exact hs.sub c hc}}
theorem Nr {E : XE} {hp : XH} {nx : Nat} (i e sz : Nat) (h : xlk E i = some (.a (.c .z))) (hsz : Nat.blt 0 sz = true) : SRto ⟨E, hp, nx⟩ ⟨(i, .a (.c (.l nx 0 sz 0 0 0))) :: E, ⟨nx, 0, .row 0 [] e sz⟩ :: hp, nx + 1⟩ := fun B V H sg env hs =>
  hs.newRow (by simpa [Nat.blt_eq] using hsz) (fun V' hle hV j u hu => by
    simp only [xlk] at hu
    cases hb : Nat.beq i j with
    | true =>
      rw [hb] at hu; cases hu
      obtain ⟨v, h1, h2⟩ := hs.lk i _ h
      refine ⟨v, by rw [← Nat.eq_of_beq_eq_true hb]; exact h1, ?_⟩
      simp only [XV.rel, XA.rel, XC.rel] at h2 ⊢
      exact ⟨none, 0, hV, h2⟩
    | false => rw [hb] at hu; exact hs.lk.mono hle (Le.refl _) j u hu) (fun V' hle _ => hs.hr.mono hle (Le.refl _)) rfl
theorem Nrh {E : XE} {hp hp' : XH} {nx t e0 : Nat} {c c' : List XC} (g o e sz : Nat) (h : aq hp g = some ⟨g, t, .cells c e0⟩) (hc : at_ c o = some .z) (hsz : Nat.blt 0 sz = true) (hput : jq c o [.l nx 0 sz 0 0 0] = some c') (hset' : bx hp g t (.cells c' e0) = some hp') : SRto ⟨E, hp, nx⟩ ⟨E, ⟨nx, 0, .row 0 [] e sz⟩ :: hp', nx + 1⟩ := fun B V H sg env hs => by
  have key : ∀ (V' : Vn), VLe V V' → V' nx 0 = some (none, 0) → ∀ {hp hp' : XH} {sg : Seg}, aq hp g = some ⟨g, t, .cells c e0⟩ → bx hp g t (.cells c' e0) = some hp' → HR V H hp sg → HR V' H hp' sg ∧ hp'.map (fun b => (b.g, b.t)) = hp.map fun b => (b.g, b.t) := by
    intro V' hle hV hp
    induction hp with
    | nil => intro hp' sg h; cases h
    | cons b r ih =>
      rintro hp' sg h hst ⟨s1, s2, h0, h1, h2⟩
      obtain ⟨g', t', o'⟩ := b
      simp only [aq] at h
      simp only [bx] at hst
      cases hb : Nat.beq g' g with
      | true =>
        rw [hb] at h hst
        simp only [cond_true, Option.some.injEq, XB.mk.injEq] at h hst
        obtain ⟨rfl, rfl, rfl⟩ := h
        subst hst
        refine ⟨⟨s1, s2, h0, ?_, h2.mono hle (Le.refl _)⟩, rfl⟩
        rcases h1 with ⟨b, ob, ex, k1, k2, us, k3, k4⟩ | ⟨_, _, _, _, k3, _⟩
        {
        obtain ⟨v, q1, q2⟩ := k3.get o _ (jS hc)
        refine .inl ⟨b, ob, ex, k1, hle _ _ _ k2, us, ?_, k4⟩
        have hone : rels V' H [.l nx 0 sz 0 0 0] [v] := by
          refine ⟨?_, trivial⟩
          simp only [XC.rel] at q2 ⊢
          exact ⟨none, 0, hV, q2⟩
        have := (eP hput (XC.monos hle (Le.refl _) k3) hone).1
        simp only [cG] at this
        have e9 : (us.toArray.setIfInBounds o v).toList = us := by
          rw [List.setIfInBounds_toArray]
          show us.set o v = us
          have hlt : o < us.length := (List.getElem?_eq_some_iff.1 q1).1
          apply List.ext_getElem?
          intro i
          rw [List.getElem?_set]
          split; {
          rename_i e; subst e; first | exact q1.symm | rw [if_pos hlt, q1]}
          {
          rfl}
        rw [e9] at this
        exact this}; {
        cases k3}
      | false =>
        rw [hb] at h hst
        simp only [cond_false] at h hst
        split at hst; {
        rename_i l hl
        cases hst
        obtain ⟨k1, k2⟩ := ih h hl h2
        exact ⟨⟨s1, s2, h0, XB.mono hle (Le.refl _) h1, k1⟩, by simp only [List.map_cons, k2]⟩}; {
        cases hst}
  have hn : hp'.map (fun b => (b.g, b.t)) = hp.map fun b => (b.g, b.t) := by
    obtain ⟨V', hle, hV⟩ : ∃ V', VLe V V' ∧ V' nx 0 = some (none, 0) := ⟨V.new nx 0 (none, 0), Vn.new_le _ (hs.fresh nx 0 (Nat.le_refl _)), Vn.new_at ..⟩
    exact (key V' hle hV h hset' hs.hr).2
  exact hs.newRow (by simpa [Nat.blt_eq] using hsz) (fun V' hle _ => hs.lk.mono hle (Le.refl _)) (fun V' hle hV => (key V' hle hV h hset' hs.hr).1) hn
variable {pk : Pk} {f : FuncId} {fn : Func} {c : Code} {args : List XV} {N : Nat}
abbrev XQ (P : Program) (pk : Pk) (f : FuncId) (args : List XV) (R : XV) : Prop := XP P pk f args (fun r => r = R)
theorem XQ.en {R : XV} (hf : P.funcs[f]? = some fn) (hN : fn.ntmps = N) (h : ∀ w0 own H V v0 hf, (MS.c c [] ⟨iL 0 args, [], 0⟩).ok (Cp P pk w0 own H V v0 hf N fn (fun r => r = R))) (hb : fn.body = some c := by rfl) (hn : (fn.name == "runtime.NumGoroutine") = false := by rfl) (hl : Nat.ble args.length N = true := by rfl) (ha : XVs.all (fun _ _ => false) args = true := by rfl) (hp : pure R = true := by rfl) : XQ P pk f args R :=
  XP.enter hf hb hN hn hl ha (by rintro _ rfl; exact hp) h
theorem Fq {w0 : World} {own : List Seg} {H : Hp} {V : Vn} {v0 : ∀ g t, V g t ≠ none → t = 0 ∧ g ∈ ([] : List Nat)} {hf : (∀ g ∈ ([] : List Nat), g < 0) ∧ pk.hy H} {e : Exit} {us : List XA} {R : XV} (hr : iM T s fn.results.toList = some us) (hc : co1 R (fL us) = R) (he : e = .ret ∨ e = .normal := by first | exact .inl rfl | exact .inr rfl) (hp : pure R = true := by rfl) :
    (MS.e e [] s).ok (Cp P pk w0 own H V v0 hf N fn (fun r => r = R)) := ME.finp he hr hc hp rfl
section
variable {E Er : XE} {hp : XH} {nx i : Nat} {ops : List Oper} {dm : Option (List Rc)} {l : List (Nat × Oper)} {d : Tmp} {ty : TypeId} {pos : String} {af : Array Edge} {g : Option (Nat × Bool)}
theorem Cq {opd : Operand} {xs : List Operand} {tys : Array TypeId} {fv : XV} {us : List XV} {R : XV}
    (h : XQ P x.B.pk f args R) (hEr : vis dm ops { dst := some d, op := .call { callee := .value opd, args := xs.toArray, argTypes := tys }, type := ty, pos := pos, after := af, guard := g } E = Er) (hfv : xev Er opd = some fv) (hfn : fnv fv = some (f, [], [])) (hus : eb (xev Er) xs = some us)
    (hargs : cos args us = args) (hb : aw ops Er g = some true ∧ okD x.N (some d) = true)
    (hk : (MS.r ops (push dm ⟨i, [], false, false⟩) l k ⟨(d, R) :: E, hp, nx⟩).ok x) (hdk : DkM dm ops ⟨i, [], false, false⟩ := by first | exact trivial | (refine DK.mk ?_; decide +kernel)) :
    (MS.r ops dm ((i, { dst := some d, op := .call { callee := .value opd, args := xs.toArray, argTypes := tys }, type := ty, pos := pos, after := af, guard := g }) :: l) k ⟨E, hp, nx⟩).ok x := MS.callp false h hEr hfv hfn hus (SubV.stat hargs) hb hdk (fun _ => ⟨R, rfl, fun _ h => h⟩) (fun h => by cases h) (by rintro _ rfl; exact hk)
theorem Cv {opd : Operand} {xs : List Operand} {tys : Array TypeId} {fv : XV} {fs cs : List XC} {us : List XV} {R : XV}
    (h : XQ P x.B.pk f (cl fs ++ (args ++ cl cs)) R) (hEr : vis dm ops { dst := some d, op := .call { callee := .value opd, args := xs.toArray, argTypes := tys }, type := ty, pos := pos, after := af, guard := g } E = Er) (hfv : xev Er opd = some fv) (hfn : fnv fv = some (f, fs, cs)) (hus : eb (xev Er) xs = some us)
    (hargs : cos args us = args) (hb : aw ops Er g = some true ∧ okD x.N (some d) = true)
    (hk : (MS.r ops (push dm ⟨i, [], false, false⟩) l k ⟨(d, R) :: E, hp, nx⟩).ok x) (hdk : DkM dm ops ⟨i, [], false, false⟩ := by first | exact trivial | (refine DK.mk ?_; decide +kernel)) :
    (MS.r ops dm ((i, { dst := some d, op := .call { callee := .value opd, args := xs.toArray, argTypes := tys }, type := ty, pos := pos, after := af, guard := g }) :: l) k ⟨E, hp, nx⟩).ok x := MS.callp false h hEr hfv hfn hus (SubV.mid hargs) hb hdk (fun _ => ⟨R, rfl, fun _ h => h⟩) (fun h => by cases h) (by rintro _ rfl; exact hk)
theorem Ce {opd : Operand} {xs : List Operand} {tys : Array TypeId} {fv : XV} {us : List XV} {Ψ : XV → Prop}
    (h : XP P x.B.pk f args Ψ) (hEr : vis dm ops { dst := some d, op := .call { callee := .value opd, args := xs.toArray, argTypes := tys }, type := ty, pos := pos, after := af, guard := g } E = Er) (hfv : xev Er opd = some fv) (hfn : fnv fv = some (f, [], [])) (hus : eb (xev Er) xs = some us)
    (hargs : cos args us = args) (hb : aw ops Er g = some true ∧ okD x.N (some d) = true)
    (hk : ∀ R, Ψ R → (MS.r ops (push dm ⟨i, [], false, true⟩) l k ⟨(d, R) :: E, hp, nx⟩).ok x) (hdk : DkM dm ops ⟨i, [], false, true⟩ := by first | exact trivial | (refine DK.mk ?_; decide +kernel)) (hrl : RlM dm ops i l := by first | exact trivial | (refine RL.mk ?_; decide +kernel)) :
    (MS.r ops dm ((i, { dst := some d, op := .call { callee := .value opd, args := xs.toArray, argTypes := tys }, type := ty, pos := pos, after := af, guard := g }) :: l) k ⟨E, hp, nx⟩).ok x := MS.callp true h hEr hfv hfn hus (SubV.stat hargs) hb hdk (fun h => by cases h) (fun _ => hrl) hk
theorem LS.ix {pk : Pk} {ops : Array Oper} {d : Option Tmp} {t : TypeId} {o iv : Operand} {rows : List (List D)} {r : List D} {ki : IntKind} {jv : Int} {e sz by_ : Nat} (j : Nat)
    (hx : rows[j]? = some r) (ho : xev Er o = some (.a (.c (.d (.s rows))))) (hi : xev Er iv = some (xv (.int ki jv))) (ht : T.bt.get t = some (.sl e sz by_)) (hj : jv = (j : Int)) (hr : r.length = sz) :
    LS P pk ops { dst := d, op := .indexAddr t o iv, type := ty, pos := pos, after := af, guard := none } Er [] nx nx (fun x fp' => x = .a (.c (.d (.p r))) ∧ fp' = []) := by
  intro w0 N Q rest env own H V sg hl hV htp hf hd _ hh
  obtain ⟨v, h1, h2⟩ := hl.lks _ _ ho
  obtain ⟨w, h3, h4⟩ := hl.lks _ _ hi
  have := bk h4; subst this
  simp only [XV.rel, XA.rel, XC.rel, rd] at h2
  obtain ⟨A, c, sz', rfl, h5, h6, h7⟩ := h2
  have hlt : j < rows.length := (List.getElem?_eq_some_iff.1 hx).1
  rcases h7 with h7 | ⟨b, off, rfl, h7⟩
  {
  subst h7; simp at hlt}; {
  obtain ⟨h8, h9⟩ := h7.get hx
  obtain ⟨z, hS⟩ := bC (BT.all_get T.ok ht)
  have e9 : sz' = sz := by rw [← h8, hr]
  subst e9
  refine TL.indexAddr j h1 h3 hj hlt hd (hh _ _ [] V H sg ⟨rfl, rfl⟩ ?_ hV htp (VX.refl _ _ _) (Le.refl _))
  simp only [XV.rel, XA.rel, XC.rel, rd]
  exact ⟨b, _, rfl, h9⟩}
theorem MS.val {op : Op} {R : XV} (hEr : vis dm ops { dst := some d, op := op, type := ty, pos := pos, after := af, guard := g } E = Er) (hb : aw ops Er g = some true ∧ okD x.N (some d) = true) (hL : LS P x.B.pk ops.toArray { dst := some d, op := op, type := ty, pos := pos, after := af, guard := none } Er [] nx nx (fun x fp' => x = R ∧ fp' = []))
    (hdk : DkM dm ops ⟨i, [], false, false⟩) (hk : (MS.r ops (push dm ⟨i, [], false, false⟩) l k ⟨(d, R) :: E, hp, nx⟩).ok x) : (MS.r ops dm ((i, { dst := some d, op := op, type := ty, pos := pos, after := af, guard := g }) :: l) k ⟨E, hp, nx⟩).ok x := by
  subst hEr
  have e0 : ae ([] : XH) ++ List.range' nx (nx - nx) = [] := by simp [ae]
  refine MS.op (fp := []) (rest := hp) (Ψ := fun x fp' => x = R ∧ fp' = []) false false hb.2 (.refl _) (Nat.le_refl _) (LS.yes (o := { dst := some d, op := op, type := ty, pos := pos, after := af, guard := g }) hb.1 hL) (by rw [e0]; exact hdk) (fun _ => ⟨_, _, ⟨rfl, rfl⟩, fun _ _ h => h⟩) (fun h => by cases h) ?_
  rintro y fp' ⟨rfl, rfl⟩
  refine ⟨by simp, by simp [ae], fun _ => ⟨rfl, rfl⟩, hp, .refl _, ?_⟩
  rw [e0]; exact hk
theorem Ix {t : TypeId} {o iv : Operand} {rows : List (List D)} {r : List D} {ki : IntKind} {jv : Int} {e sz by_ : Nat} (j : Nat)
    (hx : rows[j]? = some r) (hEr : vis dm ops { dst := some d, op := .indexAddr t o iv, type := ty, pos := pos, after := af, guard := g } E = Er) (ho : xev Er o = some (.a (.c (.d (.s rows))))) (hi : xev Er iv = some (xv (.int ki jv))) (ht : T.bt.get t = some (.sl e sz by_)) (hb : aw ops Er g = some true ∧ okD x.N (some d) = true) (hj : jv = (j : Int)) (hr : r.length = sz)
    (hk : (MS.r ops (push dm ⟨i, [], false, false⟩) l k ⟨(d, .a (.c (.d (.p r)))) :: E, hp, nx⟩).ok x) (hdk : DkM dm ops ⟨i, [], false, false⟩ := by first | exact trivial | (refine DK.mk ?_; decide +kernel)) : (MS.r ops dm ((i, { dst := some d, op := .indexAddr t o iv, type := ty, pos := pos, after := af, guard := g }) :: l) k ⟨E, hp, nx⟩).ok x :=
  MS.val hEr hb (LS.ix (T := T) j hx ho hi ht hj hr) hdk hk
end
end
def ELe (E E' : XE) : Prop := ∀ j u, xlk E j = some u → xlk E' j = some u
theorem ELe.put {E E' : XE} (h : ELe E E') (d : Option Tmp) (v : XV) : ELe (b8 d v E) (b8 d v E') := fun j u => by
  cases d with
  | none => exact h j u
  | some d =>
    simp only [b8, xlk]
    cases Nat.beq d j; {
    exact h j u}; {
    exact id}
theorem SR.le_ {B : Bs} {E E' : XE} {hp : XH} {nx : Nat} (h : ELe E E') {V : Vn} {H : Hp} {sg : Seg} {env : Env} (hs : SR B ⟨E', hp, nx⟩ V H sg env) : SR B ⟨E, hp, nx⟩ V H sg env :=
  ⟨hs.lk.sub h, hs.hr, hs.top, hs.nd, hs.fresh, hs.le, hs.vle, hs.keep, hs.sub, hs.nxle⟩
section
variable {P : Program} {x : Cx P} {T : Tb P} {k : List Fr} {s : XS}
theorem XR.le {pk : Pk} {N : Nat} {l : List Oper} {K : XS → Prop} (hK : ∀ E E' hp nx, ELe E E' → K ⟨E, hp, nx⟩ → K ⟨E', hp, nx⟩) : ∀ {td : List Nat} {rs : List Rc} {E E' : XE} {hp : XH} {nx : Nat}, ELe E E' → XR P pk N l td rs ⟨E, hp, nx⟩ K → XR P pk N l td rs ⟨E', hp, nx⟩ K := by
  intro td
  induction td with
  | nil => intro rs E E' hp nx he h; exact hK _ _ _ _ he h
  | cons i td ih =>
    rintro rs E E' hp nx he ⟨o, Er, fp, rest, nx', wr, rel, Ψ, h1, h2, h3, h4, h5, h6, h7, h8, h9, h10⟩
    refine ⟨o, Er, fp, rest, nx', wr, rel, Ψ, h1, h2, fun j u hj => ⟨he _ _ (h3 j u hj).1, (h3 j u hj).2⟩, h4, h5, h6, h7, h8, h9, fun v fp' hv => ?_⟩
    obtain ⟨a1, a2, a3, hp', a4, a5⟩ := h10 v fp' hv
    exact ⟨a1, a2, a3, hp', a4, ih (he.put _ _) a5⟩
def MS.wE (f : XE → XE) : MS → MS
  | .c q k ⟨E, hp, nx⟩ => .c q k ⟨f E, hp, nx⟩
  | .e q k ⟨E, hp, nx⟩ => .e q k ⟨f E, hp, nx⟩
  | .r o d l k ⟨E, hp, nx⟩ => .r o d l k ⟨f E, hp, nx⟩
def MS.E : MS → XE
  | .c _ _ s => s.E
  | .e _ _ s => s.E
  | .r _ _ _ _ s => s.E
theorem MS.le {f : XE → XE} : ∀ {m : MS}, ELe (f m.E) m.E → (m.wE f).ok x → m.ok x
  | .c q k ⟨E, hp, nx⟩, h, hk => fun V H sg env hs => hk V H sg env (hs.le_ h)
  | .e q k ⟨E, hp, nx⟩, h, hk => fun V H sg env hs => hk V H sg env (hs.le_ h)
  | .r o none l k ⟨E, hp, nx⟩, h, hk => fun B Q h1 h2 h3 V H sg env hs => hk B Q h1 h2 h3 V H sg env (hs.le_ h)
  | .r o (some rs) l k ⟨E, hp, nx⟩, h, hk => fun hl => XR.le (fun _ _ _ _ he h V H sg env hs => h V H sg env (hs.le_ he)) h (hk hl)
theorem Sp (t : Nat) {m : MS} {b : Bool} (h : xlk m.E t = some (xv (.bool b))) (h1 : b = true → (m.wE (fun E => (t, xv (.bool true)) :: E)).ok x) (h2 : b = false → (m.wE (fun E => (t, xv (.bool false)) :: E)).ok x) : m.ok x := by
  have key : ∀ c, b = c → ELe ((t, xv (.bool c)) :: m.E) m.E := by
    rintro c rfl j u hj
    simp only [xlk] at hj
    cases hb : Nat.beq t j with
    | true => rw [hb, cond_true] at hj; rw [← hj, ← Nat.eq_of_beq_eq_true hb]; exact h
    | false => rw [hb] at hj; exact hj
  cases hb : b with
  | true => exact MS.le (f := fun E => (t, xv (.bool true)) :: E) (key _ hb) (h1 hb)
  | false => exact MS.le (f := fun E => (t, xv (.bool false)) :: E) (key _ hb) (h2 hb)
theorem Ct {α : Type} {a b : Code} (S : α → XS) (I : α → Prop) (h : (MS.c a (.l (fun _ s => ∃ a, I a ∧ s = S a) 1 :: k) s).ok x) (hb : ∀ a, I a → (MS.c b k (S a)).ok x) : (MS.c (.seq a b) k s).ok x :=
  MC.cut (fun s => ∃ a, I a ∧ s = S a) h (by rintro s ⟨a, h1, rfl⟩; exact hb a h1)
theorem Dn {α : Type} {S : α → XS} {I : α → Prop} (a : α) (hI : I a) (hm : Mt x.B.nx0 x.B.F s (S a) id := by exact ⟨⟨_, _, rfl, rfl⟩, rfl, rfl⟩) : (MS.e .normal (.l (fun _ s => ∃ a, I a ∧ s = S a) 1 :: k) s).ok x := ME.next 0 hm Nat.one_pos ⟨a, hI, rfl⟩
def kU (E : XE) : List Nat → XE → Option XE
  | [], acc => some acc
  | t :: r, acc => match xlk E t with | some v => kU E r ((t, v) :: acc) | none => none
theorem Lq {α : Type} {c : Code} {E E1 : XE} {hp : XH} {nx : Nat} (ls : List Nat) (f : α → XE → XE) (g : α → XH) (nx' : Nat) (I : α → Prop) (μ : α → Nat) (a : α) (hls : kU E ls [] = some E1) (h0 : I a)
    (round : ∀ a, I a → (MS.c c (.l (fun n s => ∃ a, I a ∧ n = μ a ∧ s = ⟨f a E1, g a, nx'⟩) (μ a) :: k) ⟨f a E1, g a, nx'⟩).ok x) (hm : Mt x.B.nx0 x.B.F ⟨E, hp, nx⟩ ⟨f a E1, g a, nx'⟩ id := by exact ⟨⟨_, _, rfl, rfl⟩, rfl, rfl⟩) : (MS.c (.loop c) k ⟨E, hp, nx⟩).ok x := Lp (fun a => ⟨f a E1, g a, nx'⟩) I μ a hm h0 round
theorem Nq {α : Type} {S : α → XS} {I : α → Prop} {μ : α → Nat} {n : Nat} (a : α) (hI : I a) (hlt : μ a < n) (hm : Mt x.B.nx0 x.B.F s (S a) id := by exact ⟨⟨_, _, rfl, rfl⟩, rfl, rfl⟩) : (MS.e .normal (.l (fun n s => ∃ a, I a ∧ n = μ a ∧ s = S a) n :: k) s).ok x := Nxt a hm hI hlt
theorem Cu {α : Type} {a b : Code} {E E1 : XE} {hp : XH} {nx : Nat} (ls : List Nat) (f : α → XE → XE) (g : α → XH) (nx' : Nat) (I : α → Prop) (hls : kU E ls [] = some E1) (h : (MS.c a (.l (fun _ s => ∃ a, I a ∧ s = ⟨f a E1, g a, nx'⟩) 1 :: k) ⟨E, hp, nx⟩).ok x) (hb : ∀ a, I a → (MS.c b k ⟨f a E1, g a, nx'⟩).ok x) : (MS.c (.seq a b) k ⟨E, hp, nx⟩).ok x := Ct (fun a => ⟨f a E1, g a, nx'⟩) I h hb
theorem Cf {α : Type} {a d : Code} {E E1 : XE} {hp : XH} {nx : Nat} (ls : List Nat) (f : α → XE → XE) (g : α → XH) (nx' : Nat) (I : α → Prop) (hls : kU E ls [] = some E1) (h : (MS.c a (.l (fun _ s => ∃ a, I a ∧ s = ⟨f a E1, g a, nx'⟩) 1 :: .s d :: k) ⟨E, hp, nx⟩).ok x) (hb : ∀ a, I a → (MS.c d k ⟨f a E1, g a, nx'⟩).ok x) : (MS.c a (.s d :: k) ⟨E, hp, nx⟩).ok x :=
  MC.cutf (fun s => ∃ a, I a ∧ s = ⟨f a E1, g a, nx'⟩) h (by rintro s ⟨a, h1, rfl⟩; exact hb a h1)
theorem IfT {o : Operand} {a b : Code} {t : Bool} (hc : xev s.E o = some (xv (.bool t))) (ht : t = true) (h : (MS.c a k s).ok x) : (MS.c (.cond o a b) k s).ok x := MC.cond hc (fun _ => h) (fun h => by rw [ht] at h; cases h)
theorem IfF {o : Operand} {a b : Code} {t : Bool} (hc : xev s.E o = some (xv (.bool t))) (ht : t = false) (h : (MS.c b k s).ok x) : (MS.c (.cond o a b) k s).ok x := MC.cond hc (fun h => by rw [ht] at h; cases h) (fun _ => h)
theorem Ln {c : Code} {rows : List (List D)} (i : Nat) (h : xlk s.E i = some (.a (.c (.d (.s rows))))) (hk : rows.length ≤ 9223372036854775807 → (MS.c c k s).ok x) : (MS.c c k s).ok x := fun V H sg env hs => hk (by
  obtain ⟨v, _, h2⟩ := hs.lk i _ h
  simp only [XV.rel, XA.rel, XC.rel, rd] at h2
  obtain ⟨A, n, sz, rfl, h3, h4, _⟩ := h2
  exact Nat.le_trans h3 h4) V H sg env hs
theorem pj : ∀ u : XA, coA u u = u
  | .c x => by cases x with
    | d y => cases y <;> rfl
    | _ => rfl
  | .a _ => rfl
  | .g _ => rfl
theorem mO : ∀ l : List XA, coAs l l = l
  | [] => rfl
  | u :: r => by rw [coAs, pj, mO r]
theorem Fe {fn : Func} {N : Nat} {pk : Pk} {w0 : World} {own : List Seg} {H : Hp} {V : Vn} {v0 : ∀ g t, V g t ≠ none → t = 0 ∧ g ∈ ([] : List Nat)} {hf : (∀ g ∈ ([] : List Nat), g < 0) ∧ pk.hy H} {e : Exit} {us : List XA} {R : XV} (hr : iM T s fn.results.toList = some us) (hc : fL us = R) (he : e = .ret ∨ e = .normal := by first | exact .inl rfl | exact .inr rfl) (hp : pure R = true := by rfl) :
    (MS.e e [] s).ok (Cp P pk w0 own H V v0 hf N fn (fun r => r = R)) := by
  refine Fq (T := T) hr ?_ he hp
  subst hc
  cases fL us with
  | a y => exact congrArg XV.a (pj y)
  | t l => exact congrArg XV.t (mO l)
  | _ => rfl
theorem Gs (st : Nat) {m m' : MS} {ob' : List Prop} (h : bX T x.N true st 100000 m [] = (m', ob')) (h2 : m'.ok x) (h1 : aL ob' := by repeat' (first | exact trivial | assumption | apply And.intro | omega | (dsimp only; omega) | (refine DK.mk ?_; decide +kernel) | (refine BK.mk ?_; decide +kernel) | rfl | intro _ | (refine congrArg (a₂ := false) not ?_; assumption) | (simp [*]; done) | (simp_all; done))) : m.ok x := (oY h h1 h2).2
theorem LS.callp {pk : Pk} {f : FuncId} {args : List XV} {ops : Array Oper} {d : Option Tmp} {ty : TypeId} {pos : String} {af : Array Edge} {opd : Operand} {xs : List Operand} {tys : Array TypeId} {Er : XE} {nx : Nat} {fv : XV} {fs cs : List XC} {us : List XV} {Ψ : XV → Prop}
    (h : XP P pk f args Ψ) (hfv : xev Er opd = some fv) (hfn : fnv fv = some (f, fs, cs)) (hus : eb (xev Er) xs = some us) (hargs : SubV (cl fs ++ (us ++ cl cs)) args) :
    LS P pk ops { dst := d, op := .call { callee := .value opd, args := xs.toArray, argTypes := tys }, type := ty, pos := pos, after := af, guard := none } Er [] nx nx (fun x fp' => Ψ x ∧ fp' = []) := by
  obtain ⟨h1, h2, hcl, h3⟩ := h
  have mono : ∀ {xs : List XV}, XVs.all (fun _ _ => false) xs = true → XVs.all (low 0) xs = true := by
    have hp : (fun g t => low 0 g t) = fun _ _ => false := by funext g t; simp [low, Nat.blt]
    intro xs hx
    have : low 0 = fun _ _ => false := hp
    rw [this]; exact hx
  have e := XVs.ren_pure (μ := muc [] 0 nx []) h1
  refine (LS.call (fp := []) (gs := []) (vs := []) (nx := nx) hfv hfn hcl h3 (by simp only [gN, mono h1, Bool.true_and]; rfl) (Nat.le_refl 0) hus (by rw [e]; exact hargs) rfl rfl List.nodup_nil (by simp)).weak ?_
  rintro y fp' ⟨r, hp', ⟨hr, rfl⟩, rfl, rfl, _⟩
  exact ⟨by rw [XV.ren_pure (h2 r hr)]; exact hr, rfl⟩
section
variable {E Er Es : XE} {hp : XH} {nx i : Nat} {ops : List Oper} {dm : Option (List Rc)} {l : List (Nat × Oper)} {d : Tmp} {ty : TypeId} {pos : String} {af : Array Edge} {g : Option (Nat × Bool)} {c : Bool} {R : XA} {ob : List Prop} {f : FuncId} {args : List XV}
theorem MS.sft {op : Op} (hEr : vis dm ops { dst := some d, op := op, type := ty, pos := pos, after := af, guard := g } E = Er) (hc : xcnd ops Er g = some c) (hs : sofO Er op = (Es, ob)) (hob : c = true → aL ob) (hd : okD x.N (some d) = true)
    (hL : c = true → LS P x.B.pk ops.toArray { dst := some d, op := op, type := ty, pos := pos, after := af, guard := none } Es [] nx nx (fun x fp' => x = .a R ∧ fp' = [])) (hdk : DkM dm ops ⟨i, [], false, false⟩) (hk : (MS.r ops (push dm ⟨i, [], false, false⟩) l k ⟨(d, .gd c R) :: E, hp, nx⟩).ok x) :
    (MS.r ops dm ((i, { dst := some d, op := op, type := ty, pos := pos, after := af, guard := g }) :: l) k ⟨E, hp, nx⟩).ok x := by
  subst hEr
  have e0 : ae ([] : XH) ++ List.range' nx (nx - nx) = [] := by simp [ae]
  refine MS.op (fp := []) (rest := hp) (Ψ := fun x fp' => x = .gd c R ∧ fp' = []) false false hd (.refl _) (Nat.le_refl _) (LS.soft (o := { dst := some d, op := op, type := ty, pos := pos, after := af, guard := g }) hc (fun hct V H env hl => nM hl hs (hob hct)) hL) (by rw [e0]; exact hdk) (fun _ => ⟨_, _, ⟨rfl, rfl⟩, fun _ _ h => h⟩) (fun h => by cases h) ?_
  rintro y fp' ⟨rfl, rfl⟩
  refine ⟨by simp, by simp [ae], fun _ => ⟨rfl, rfl⟩, hp, .refl _, ?_⟩
  rw [e0]; exact hk
theorem Cs {opd : Operand} {xs : List Operand} {tys : Array TypeId} {fv : XV} {us : List XV}
    (h : c = true → XQ P x.B.pk f args (.a R)) (hEr : vis dm ops { dst := some d, op := .call { callee := .value opd, args := xs.toArray, argTypes := tys }, type := ty, pos := pos, after := af, guard := g } E = Er) (hc : xcnd ops Er g = some c) (hs : sofO Er (.call { callee := .value opd, args := xs.toArray, argTypes := tys }) = (Es, ob))
    (hfv : xev Es opd = some fv) (hfn : fnv fv = some (f, [], [])) (hus : eb (xev Es) xs = some us) (hargs : cos args us = args) (hd : okD x.N (some d) = true)
    (hk : (MS.r ops (push dm ⟨i, [], false, false⟩) l k ⟨(d, .gd c R) :: E, hp, nx⟩).ok x) (hdk : DkM dm ops ⟨i, [], false, false⟩ := by first | exact trivial | (refine DK.mk ?_; decide +kernel)) (hob : c = true → aL ob := by first | exact fun _ => trivial | (intro _; repeat' (first | exact trivial | assumption | apply And.intro | (simp_all; done)))) :
    (MS.r ops dm ((i, { dst := some d, op := .call { callee := .value opd, args := xs.toArray, argTypes := tys }, type := ty, pos := pos, after := af, guard := g }) :: l) k ⟨E, hp, nx⟩).ok x :=
  MS.sft hEr hc hs hob hd (fun hct => LS.callp (h hct) hfv hfn hus (SubV.stat hargs)) hdk hk
theorem Is {t : TypeId} {o iv : Operand} {rows : List (List D)} {ki : IntKind} {jv : Int} {e sz by_ : Nat} (j : Nat) (r : List D)
    (hx : c = true → rows[j]? = some r ∧ jv = (j : Int)) (hEr : vis dm ops { dst := some d, op := .indexAddr t o iv, type := ty, pos := pos, after := af, guard := g } E = Er) (hc : xcnd ops Er g = some c) (hs : sofO Er (.indexAddr t o iv) = (Es, ob)) (ho : xev Es o = some (.a (.c (.d (.s rows))))) (hi : xev Es iv = some (xv (.int ki jv))) (ht : T.bt.get t = some (.sl e sz by_)) (hd : okD x.N (some d) = true) (hr : r.length = sz)
    (hk : (MS.r ops (push dm ⟨i, [], false, false⟩) l k ⟨(d, .gd c (.c (.d (.p r)))) :: E, hp, nx⟩).ok x) (hdk : DkM dm ops ⟨i, [], false, false⟩ := by first | exact trivial | (refine DK.mk ?_; decide +kernel)) (hob : c = true → aL ob := by first | exact fun _ => trivial | (intro _; repeat' (first | exact trivial | assumption | apply And.intro | (simp_all; done)))) :
    (MS.r ops dm ((i, { dst := some d, op := .indexAddr t o iv, type := ty, pos := pos, after := af, guard := g }) :: l) k ⟨E, hp, nx⟩).ok x :=
  MS.sft hEr hc hs hob hd (fun hct => LS.ix (T := T) j (hx hct).1 ho hi ht (hx hct).2 hr) hdk hk
end
def bz1 (g t : Nat) (ds : List D) : XC → XC
  | .p g' t' o => bif Nat.beq g g' && Nat.beq t t' then .d (.p (ds.drop o)) else .p g' t' o
  | y => y
def bzs (g t : Nat) (ds : List D) : List XC → List XC
  | [] => []
  | y :: r => bz1 g t ds y :: bzs g t ds r
def bzC (g t : Nat) (ds : List D) : XC → XC
  | .f fn fs cs => match g0 (bzs g t ds fs), g0 (bzs g t ds cs) with
    | some a, some b => .d (.f fn a b)
    | _, _ => .f fn (bzs g t ds fs) (bzs g t ds cs)
  | .p g' t' o => bif Nat.beq g g' && Nat.beq t t' then .d (.p (ds.drop o)) else .p g' t' o
  | y => y
def bzCs (g t : Nat) (ds : List D) : List XC → List XC
  | [] => []
  | y :: r => bzC g t ds y :: bzCs g t ds r
def bzV (g t : Nat) (ds : List D) : XV → XV
  | .a (.c y) => .a (.c (bzC g t ds y))
  | .a (.a l) => .a (.a (bzCs g t ds l))
  | y => y
def bzE (g t : Nat) (ds : List D) : XE → XE
  | [] => []
  | (i, y) :: r => (i, bzV g t ds y) :: bzE g t ds r
def bzH (g t : Nat) (ds : List D) : XH → XH
  | [] => []
  | ⟨g', t', .cells c e⟩ :: r => ⟨g', t', .cells (bzCs g t ds c) e⟩ :: bzH g t ds r
  | ⟨g', t', .rowk m pre mid post e sz⟩ :: r => ⟨g', t', .rowk m pre (bzCs g t ds mid) post e sz⟩ :: bzH g t ds r
  | b :: r => b :: bzH g t ds r
def bzS (g : Nat) : XS → Option XS
  | ⟨E, hp, nx⟩ => match aq hp g with
    | some ⟨_, t, .cells c _⟩ => match g0 c with | some ds => some ⟨bzE g t ds E, bzH g t ds (bM hp g), nx⟩ | none => none
    | _ => none
section
variable {g t e b : Nat} {ds : List D} {V : Vn} {H : Hp}
theorem bz1_ok (hV : V g t = some (some b, e)) (hr : rds H b 0 ds) {y : XC} {v : Value} (h : y.rel V H v) : (bz1 g t ds y).rel V H v := by
  unfold bz1
  split; {
  rename_i g' t' o
  cases hb : (Nat.beq g g' && Nat.beq t t') with
  | false => exact h
  | true =>
    simp only [Bool.and_eq_true] at hb
    have h1 := Nat.eq_of_beq_eq_true hb.1
    have h2 := Nat.eq_of_beq_eq_true hb.2
    subst h1 h2
    simp only [XC.rel] at h
    obtain ⟨b', e', h3, rfl⟩ := h
    rw [hV] at h3; cases h3
    simp only [cond_true, XC.rel, rd]
    exact ⟨b, o, rfl, by have := hr.drop (n := o); rwa [Nat.zero_add] at this⟩}
  {
  exact h}
theorem bzs_ok (hV : V g t = some (some b, e)) (hr : rds H b 0 ds) : ∀ {ys : List XC} {vs : List Value}, rels V H ys vs → rels V H (bzs g t ds ys) vs
  | [], [], h => h
  | _ :: _, _ :: _, h => ⟨bz1_ok hV hr h.1, bzs_ok hV hr h.2⟩
  | [], _ :: _, h => h.elim
  | _ :: _, [], h => h.elim
theorem bzC_ok (hV : V g t = some (some b, e)) (hr : rds H b 0 ds) {y : XC} {v : Value} (h : y.rel V H v) : (bzC g t ds y).rel V H v := by
  unfold bzC
  split; {
  simp only [XC.rel] at h
  obtain ⟨us, ws, rfl, h1, h2⟩ := h
  have k1 := bzs_ok hV hr h1
  have k2 := bzs_ok hV hr h2
  split; {
  rename_i a b' e1 e2
  simp only [XC.rel, rd]
  exact ⟨us, ws, rfl, cr e1 k1, cr e2 k2⟩}; {
  simp only [XC.rel]; exact ⟨us, ws, rfl, k1, k2⟩}}; {
  exact bz1_ok (y := .p _ _ _) hV hr h}; {
  exact h}
theorem pn : ∀ ys : List XC, (bzCs g t ds ys).length = ys.length
  | [] => rfl
  | y :: r => by simp only [bzCs, List.length_cons, pn r]
theorem km (hV : V g t = some (some b, e)) (hr : rds H b 0 ds) : ∀ {ys : List XC} {vs : List Value}, rels V H ys vs → rels V H (bzCs g t ds ys) vs
  | [], [], h => h
  | _ :: _, _ :: _, h => ⟨bzC_ok hV hr h.1, km hV hr h.2⟩
  | [], _ :: _, h => h.elim
  | _ :: _, [], h => h.elim
theorem bzV_ok (hV : V g t = some (some b, e)) (hr : rds H b 0 ds) {y : XV} {v : Value} (h : y.rel V H v) : (bzV g t ds y).rel V H v := by
  unfold bzV
  split; {
  exact bzC_ok hV hr h}; {
  obtain ⟨us, h1, h2⟩ := h; exact ⟨us, h1, km hV hr h2⟩}; {
  exact h}
theorem xlk_bz : ∀ {E : XE} {i : Nat} {u : XV}, xlk (bzE g t ds E) i = some u → ∃ y, xlk E i = some y ∧ u = bzV g t ds y
  | [], i, u, h => by cases h
  | (j, y) :: r, i, u, h => by
    simp only [bzE, xlk] at h ⊢
    cases hb : Nat.beq j i with
    | true => rw [hb] at h; cases h; exact ⟨y, rfl, rfl⟩
    | false => rw [hb] at h; exact xlk_bz h
theorem kV (hV : V g t = some (some b, e)) (hr : rds H b 0 ds) : ∀ {hp : XH} {sg : Seg}, HR V H hp sg → HR V H (bzH g t ds hp) sg
  | [], _, h => h
  | ⟨g', t', .cells c e⟩ :: r, _, ⟨s1, s2, h0, h1, h4⟩ => by
    refine ⟨s1, s2, h0, ?_, kV hV hr h4⟩
    rcases h1 with ⟨b', ob, ex, h1, h2, us, h3, h5⟩ | ⟨_, _, e', sz, h3, _⟩
    {
    exact .inl ⟨b', ob, ex, h1, h2, us, km hV hr h3, h5⟩}; {
    cases h3}
  | ⟨g', t', .row n2 rows2 e sz⟩ :: r, _, ⟨s1, s2, h0, h1, h4⟩ => ⟨s1, s2, h0, h1, kV hV hr h4⟩
  | ⟨g', t', .mp Q⟩ :: r, _, ⟨s1, s2, h0, h1, h4⟩ => ⟨s1, s2, h0, h1, kV hV hr h4⟩
  | ⟨g', t', .rowk m pre mid post e sz⟩ :: r, _, ⟨s1, s2, h0, h1, h4⟩ => by
    refine ⟨s1, s2, h0, ?_, kV hV hr h4⟩
    rcases h1 with ⟨b', ob, ex, h1, h2, ua, um, uc, j, q0, q1, q2, q3, q4, q5, q6⟩ | ⟨_, _, e', sz, h3, _⟩
    {
    exact .inl ⟨b', ob, ex, h1, h2, ua, um, uc, j, q0, q1, km hV hr q2, q3, q4, (pn mid).trans q5, q6⟩}; {
    cases h3}
theorem ej : ∀ hp : XH, (bzH g t ds hp).map (fun b => (b.g, b.t)) = hp.map fun b => (b.g, b.t)
  | [] => rfl
  | ⟨_, _, .cells _ _⟩ :: r => by simp only [bzH, List.map_cons, ej r]
  | ⟨_, _, .row _ _ _ _⟩ :: r => by simp only [bzH, List.map_cons, ej r]
  | ⟨_, _, .mp _⟩ :: r => by simp only [bzH, List.map_cons, ej r]
  | ⟨_, _, .rowk ..⟩ :: r => by simp only [bzH, List.map_cons, ej r]
end
def FzTo (s s' : XS) : Prop := ∀ (B : Bs) V H sg env, SR B s V H sg env → ∃ s1 s2 : Seg, (s1 ++ s2).Perm sg ∧ ∀ H', Le H H' → (∀ p ∈ s1, H' p.1 = some p.2) → SR B s' V H' s2 env
theorem FzTo.bz {s s' : XS} (g : Nat) (h : bzS g s = some s') : FzTo s s' := fun B V H sg env hs => by
  obtain ⟨E, hp, nx⟩ := s
  simp only [bzS] at h
  split at h; {
  rename_i g' t c e hg
  split at h; {
  rename_i ds hds
  cases h
  obtain ⟨p1, p2, _⟩ := aQ hg
  simp only at p2
  subst p2
  obtain ⟨sg', q1, q2⟩ := hs.hr.perm p1
  obtain ⟨t1, t2, rfl, hrel, q3⟩ := q2
  refine ⟨t1, t2, q1, fun H' hle hH => ?_⟩
  rcases hrel with ⟨b, ob, ex, rfl, hV, us, r1, r2⟩ | ⟨_, _, _, _, h2, _⟩
  {
  have hq := hH _ (List.mem_singleton.2 rfl)
  simp only at hq hV
  have key : ∀ (vs pre : List Value), pre ++ vs = us → hAt H' b pre.length vs := by
    intro vs
    induction vs with
    | nil => intro _ _; trivial
    | cons v vs ih =>
      intro pre he
      refine ⟨?_, by have := ih (pre ++ [v]) (by simpa using he); simpa using this⟩
      simp only [cel, hq, r2]
      rw [← he]
      simp
  have hrd : rds H' b 0 ds := rds.of (key us [] rfl) (cr hds (XC.monos (VLe.refl _) hle r1))
  have hsub : ∀ b ∈ bzH g' t ds (bM hp g'), ∃ c ∈ hp, c.g = b.g ∧ c.t = b.t := by
    intro b hb
    have : (b.g, b.t) ∈ (bM hp g').map fun b => (b.g, b.t) := by rw [← ej (ds := ds) (g := g') (t := t)]; exact List.mem_map.2 ⟨b, hb, rfl⟩
    obtain ⟨c, hc, e9⟩ := List.mem_map.1 this
    simp only [Prod.mk.injEq] at e9
    exact ⟨c, p1.mem_iff.2 (List.mem_cons_of_mem _ hc), e9.1, e9.2⟩
  refine ⟨fun i u hu => ?_, kV hV hrd (q3.mono (VLe.refl _) hle), ?_, ?_, hs.fresh, hs.le.trans hle, hs.vle, hs.keep, ?_, hs.nxle⟩; {
  obtain ⟨y, hy, rfl⟩ := xlk_bz hu
  obtain ⟨v, a1, a2⟩ := hs.lk i y hy
  exact ⟨v, a1, bzV_ok hV hrd (XV.mono (VLe.refl _) hle a2)⟩}; {
  intro b hb t' ht'
  obtain ⟨c, hc, e1, e2⟩ := hsub b hb
  rw [← e1]; exact hs.top c hc t' (by omega)}; {
  have h1 := (p1.map XB.g).nodup_iff.1 hs.nd
  have h2 : (ae (bM hp g')).Nodup := (List.nodup_cons.1 h1).2
  have h3 : ae (bzH g' t ds (bM hp g')) = ae (bM hp g') := by
    have := congrArg (List.map Prod.fst) (ej (ds := ds) (g := g') (t := t) (bM hp g'))
    simpa [ae, List.map_map, Function.comp_def] using this
  rw [h3]; exact h2}; {
  intro b hb
  obtain ⟨c, hc, e1, e2⟩ := hsub b hb
  rw [← e1]; exact hs.sub c hc}}; {
  cases h2}}; {
  cases h}}; {
  cases h}
theorem FzTo.c {s s' : XS} {c : Code} (h : FzTo s s') (hk : (MS.c c k s').ok x) : (MS.c c k s).ok x := fun V H sg env hs a w ha hw => by
  obtain ⟨s1, s2, h1, h2⟩ := h _ _ _ _ _ hs
  obtain ⟨H', h3, h4, h5⟩ := St.fz h1 hw
  exact hk V H' s2 env (h2 H' h3 h4) a w ha h5
theorem FzTo.e {s s' : XS} {e : Exit} (h : FzTo s s') (hk : (MS.e e k s').ok x) : (MS.e e k s).ok x := fun V H sg env hs a w ha hw => by
  obtain ⟨s1, s2, h1, h2⟩ := h _ _ _ _ _ hs
  obtain ⟨H', h3, h4, h5⟩ := St.fz h1 hw
  exact hk V H' s2 env (h2 H' h3 h4) a w ha h5
end
section
variable {P : Program} {x : Cx P} {T : Tb P} {k : List Fr} {s : XS}
variable {E Er : XE} {hp : XH} {nx i : Nat} {ops : List Oper} {dm : Option (List Rc)} {l : List (Nat × Oper)} {ty : TypeId} {pos : String} {af : Array Edge} {g : Option (Nat × Bool)} {pk : Pk}
theorem LS.newMap {ops : Array Oper} {d : Option Tmp} {t : TypeId} (Q : Obj → Prop) (hQ : Q (.map #[] 0)) :
    LS P pk ops { dst := d, op := .makeMap t none, type := ty, pos := pos, after := af, guard := none } Er [] nx (nx + 1) (fun x fp' => x = .a (.c (.m nx 0)) ∧ fp' = [⟨nx, 0, .mp Q⟩]) := by
  intro w0 N Q' rest env own H V sg hl hV htp hf hd _ hh
  have hV0 := HR0 hV
  subst hV0
  refine TL.newMap hd (fun g => ?_)
  obtain ⟨k1, k2, k3⟩ := cm (V := V) (H := H) (g := g) (ex := 0) (o := .map #[] 0) (xo := .mp Q) hf hQ
  have h9 := hh (.map (some g)) (.a (.c (.m nx 0))) _ _ H _ ⟨rfl, rfl⟩ (by simp only [XV.rel, XA.rel, XC.rel]; exact ⟨g, 0, Vn.new_at .., rfl⟩) k1 k2 k3 (Le.refl _)
  exact TL.flat (own' := [(g, .map #[] 0)] :: own) (List.Perm.refl _) h9
theorem Mm {d : Tmp} {t : TypeId} (Q : Obj → Prop) (hQ : Q (.map #[] 0)) (hb : aw ops E g = some true ∧ okD x.N (some d) = true) (hk : (MS.r ops none l k ⟨(d, .a (.c (.m nx 0))) :: E, ⟨nx, 0, .mp Q⟩ :: hp, nx + 1⟩).ok x) :
    (MS.r ops none ((i, { dst := some d, op := .makeMap t none, type := ty, pos := pos, after := af, guard := g }) :: l) k ⟨E, hp, nx⟩).ok x := by
  refine MS.op (fp := []) (rest := hp) (Ψ := fun x fp' => x = .a (.c (.m nx 0)) ∧ fp' = [⟨nx, 0, .mp Q⟩]) true false hb.2 (.refl _) (Nat.le_succ _) (LS.yes (o := { dst := some d, op := .makeMap t none, type := ty, pos := pos, after := af, guard := g }) hb.1 (LS.newMap Q hQ)) trivial (fun _ => ⟨_, _, ⟨rfl, rfl⟩, fun _ _ h => h⟩) (fun h => by cases h) ?_
  rintro y fp' ⟨rfl, rfl⟩
  exact ⟨by simp, by simp [ae], fun h => (by cases h), _, .refl _, hk⟩
def vls : List D → Option (List Value)
  | [] => some []
  | .c v :: r => match vls r with | some l => some (v :: l) | none => none
  | _ :: _ => none
def vOf : XV → Option Value
  | .a (.c (.d (.c v))) => some v
  | .a (.a l) => match g0 l with | some ds => (match vls ds with | some vs => some (.agg vs.toArray) | none => none) | none => none
  | .a (.g ds) => match vls ds with | some vs => some (.agg vs.toArray) | none => none
  | _ => none
theorem vls_ok {H : Hp} : ∀ {ds : List D} {vs us : List Value}, vls ds = some vs → rdL H ds us → us = vs
  | [], _, [], h, _ => by cases h; rfl
  | .c v :: r, vs, u :: us, h, hr => by
    simp only [vls] at h
    split at h; {
    rename_i l hl
    cases h
    have h1 := hr.1
    simp only [rd] at h1
    rw [h1.1, vls_ok hl hr.2]}; {
    cases h}
  | [], _, _ :: _, _, hr => hr.elim
  | _ :: _, _, [], _, hr => hr.elim
  | .s _ :: _, _, _ :: _, h, _ => by cases h
  | .p _ :: _, _, _ :: _, h, _ => by cases h
  | .f _ _ _ :: _, _, _ :: _, h, _ => by cases h
  | .mp _ :: _, _, _ :: _, h, _ => by cases h
theorem ec {V : Vn} {H : Hp} {y : XV} {v u : Value} (h : vOf y = some v) (hr : y.rel V H u) : u = v := by
  unfold vOf at h
  split at h; {
  cases h; exact bk hr}; {
  split at h; {
  rename_i ds h1
  split at h; {
  rename_i vs h2
  cases h
  obtain ⟨us, rfl, h3⟩ := hr
  rw [← vls_ok h2 (cr h1 h3)]}; {
  cases h}}; {
  cases h}}; {
  split at h; {
  rename_i vs h2
  cases h
  obtain ⟨us, rfl, h3⟩ := hr
  rw [← vls_ok h2 h3]}; {
  cases h}}; {
  cases h}
end
def mz (g t : Nat) (Q : Obj → Prop) : XV → XV
  | .a (.c (.m g' t')) => bif Nat.beq g g' && Nat.beq t t' then .a (.c (.d (.mp fun _ => Q))) else .a (.c (.m g' t'))
  | y => y
def mzE (g t : Nat) (Q : Obj → Prop) : XE → XE
  | [] => []
  | (i, y) :: r => (i, mz g t Q y) :: mzE g t Q r
def mzS (g : Nat) : XS → Option XS
  | ⟨E, hp, nx⟩ => match aq hp g with
    | some ⟨_, t, .mp Q⟩ => some ⟨mzE g t Q E, bM hp g, nx⟩
    | _ => none
theorem xlk_mz {g t : Nat} {Q : Obj → Prop} : ∀ {E : XE} {i : Nat} {u : XV}, xlk (mzE g t Q E) i = some u → ∃ y, xlk E i = some y ∧ u = mz g t Q y
  | [], i, u, h => by cases h
  | (j, y) :: r, i, u, h => by
    simp only [mzE, xlk] at h ⊢
    cases hb : Nat.beq j i with
    | true => rw [hb] at h; cases h; exact ⟨y, rfl, rfl⟩
    | false => rw [hb] at h; exact xlk_mz h
theorem FzTo.mz {s s' : XS} (g : Nat) (h : mzS g s = some s') : FzTo s s' := fun B V H sg env hs => by
  obtain ⟨E, hp, nx⟩ := s
  simp only [mzS] at h
  split at h; {
  rename_i g' t Q hg
  cases h
  obtain ⟨p1, p2, _⟩ := aQ hg
  simp only at p2
  subst p2
  obtain ⟨sg', q1, q2⟩ := hs.hr.perm p1
  obtain ⟨t1, t2, rfl, hrel, q3⟩ := q2
  refine ⟨t1, t2, q1, fun H' hle hH => ?_⟩
  rcases hrel with ⟨b, ob, ex, rfl, hV, r1⟩ | ⟨_, _, _, _, h2, _⟩
  {
  have hq := hH _ (List.mem_singleton.2 rfl)
  simp only at hq hV
  have hmem : ∀ c ∈ bM hp g', c ∈ hp := fun c hc => p1.mem_iff.2 (List.mem_cons_of_mem _ hc)
  refine ⟨fun i u hu => ?_, q3.mono (VLe.refl _) hle, fun c hc => hs.top c (hmem c hc), ?_, hs.fresh, hs.le.trans hle, hs.vle, hs.keep, fun c hc => hs.sub c (hmem c hc), hs.nxle⟩; {
  obtain ⟨y, hy, rfl⟩ := xlk_mz hu
  obtain ⟨v, a1, a2⟩ := hs.lk i y hy
  refine ⟨v, a1, ?_⟩
  unfold X.mz
  split; {
  rename_i g2 t2
  cases hb : (Nat.beq g' g2 && Nat.beq t t2) with
  | false => exact XV.mono (VLe.refl _) hle a2
  | true =>
    simp only [Bool.and_eq_true] at hb
    have e1 := Nat.eq_of_beq_eq_true hb.1
    have e2 := Nat.eq_of_beq_eq_true hb.2
    subst e1 e2
    simp only [XV.rel, XA.rel, XC.rel] at a2
    obtain ⟨b', e', h3, rfl⟩ := a2
    rw [hV] at h3; cases h3
    simp only [cond_true, XV.rel, XA.rel, XC.rel, rd]
    exact ⟨b, ob, rfl, hq, r1⟩}
  {
  exact XV.mono (VLe.refl _) hle a2}}; {
  have h1 := (p1.map XB.g).nodup_iff.1 hs.nd
  exact (List.nodup_cons.1 h1).2}}; {
  cases h2}}; {
  cases h}
section
variable {P : Program} {pk : Pk} {f : FuncId} {args : List XV} {R : XV}
theorem XQ.ofFn (hcl : Callable P f) (h : ∀ w0 own H V vals, pk.hy H → XVs.rels V H args vals → K.Fn P f vals w0 H own (fun r o H' => R.rel V H' r ∧ o = own ∧ Le H H')) (ha : XVs.all (fun _ _ => false) args = true := by rfl) (hp : pure R = true := by rfl) : XQ P pk f args R := by
  refine ⟨ha, by rintro _ rfl; exact hp, hcl, ?_⟩
  rintro ⟨w0, own, H, V, nx0, F, pk', v0, hF⟩ rfl rfl rfl sg vals hr hh ht w hw
  have hsg := HR0 hh
  subst hsg
  refine Calls.mono (h w0 ([] :: own) H V vals hF.2 hr w hw) ?_
  rintro e w' ⟨r, o, H', rfl, ⟨h1, rfl, h2⟩, h3⟩
  have hn : ∀ g t, V g t = none := fun g t => by
    cases hv : V g t with
    | none => rfl
    | some i => have := (v0 g t (by rw [hv]; simp)).2; simp [ae] at this
  exact .inl ⟨r, R, [], V, H', [], rfl, ⟨rfl, rfl⟩, h1, rfl, by intro b hb; simp at hb, List.nodup_nil, by intro b hb; simp at hb, VLe.refl _, fun g t _ => hn g t, fun g t _ k => absurd (hn g t) k, h2, h3⟩
theorem XQ.toFn (h : XQ P pk f args R) (hψ : ¬ pk.ψ) {w0 : World} {own : List Seg} {H : Hp} {vals : List Value} (hy : pk.hy H) (hv : XVs.rels (fun _ _ => none) H args vals) : K.Fn P f vals w0 H own (fun r o H' => R.rel (fun _ _ => none) H' r ∧ o = own ∧ Le H H') := by
  obtain ⟨h1, h2, h3, h4⟩ := h
  intro w hw
  have hw' : St w0 H ([] :: own) w := hw.flat (List.Perm.refl _)
  refine Calls.mono (h4 ⟨w0, own, H, fun _ _ => none, 0, [], pk, fun _ _ h => absurd rfl h, ⟨by intro g hg; simp at hg, hy⟩⟩ rfl rfl rfl [] vals hv rfl (by intro b hb; simp at hb) w hw') ?_
  rintro e w' (⟨v, r, hp', V', H', sg', rfl, ⟨rfl, rfl⟩, q1, q2, q3, q4, q5, q6, q7, q8, q9, q10⟩ | ⟨rfl, q1, _⟩)
  {
  have := HR0 q2
  subst this
  refine ⟨v, own, H', rfl, ⟨?_, rfl, q9⟩, q10.flat (List.Perm.refl _)⟩
  have e : V' = fun _ _ => none := by funext g t; exact q7 g t (Nat.zero_le _)
  rw [← e]; exact q1}; {
  exact absurd q1 hψ}
end
abbrev fM (l : List UInt8) : List (List D) := l.map fun b => [.c (byteV b)]
theorem bytR_us {H : Hp} : ∀ {l : List UInt8} {us : List Value}, rdL H (fM l).flatten us → us = l.map byteV
  | [], [], _ => rfl
  | b :: r, u :: us, h => by
    have h1 := h.1
    simp only [rd] at h1
    rw [h1.1, bytR_us (l := r) h.2]; rfl
  | [], _ :: _, h => h.elim
  | _ :: _, [], h => h.elim
section
variable {P : Program} {x : Cx P} {T : Tb P} {k : List Fr} {E : XE} {hp : XH} {nx i : Nat} {ops : List Oper} {l : List (Nat × Oper)} {d : Tmp} {ty : TypeId} {pos : String} {af : Array Edge} {g : Option (Nat × Bool)}
theorem LS.convD {pk : Pk} {ops : Array Oper} {d : Option Tmp} {s t e : TypeId} {y : Operand} {Er : XE} {bs : List UInt8} {rows : List (List D)} (hrows : rows = fM bs) (hy : xev Er y = some (.a (.c (.d (.s rows))))) (hs : T.bt.get s = some (.sl e 1 1)) (he : T.bt.get e = some (.i .u8)) (ht : T.bt.get t = some .s) :
    LS P pk ops { dst := d, op := .convert s t y, type := ty, pos := pos, after := af, guard := none } Er [] nx nx (fun x fp' => x = .a (.c (.d (.c (.string ⟨bs.toArray⟩)))) ∧ fp' = []) := by
  subst hrows
  intro w0 N Q rest env own H V sg hl hV htp hf hd _ hh
  obtain ⟨v, h1, h2⟩ := hl.lks _ _ hy
  have hh' := hh (.string ⟨bs.toArray⟩) (.a (.c (.d (.c (.string ⟨bs.toArray⟩))))) _ V H sg ⟨rfl, rfl⟩ (by simp only [XV.rel, XA.rel, XC.rel, rd]; exact ⟨trivial, rfl⟩) hV htp (VX.refl _ _ _) (Le.refl _)
  obtain ⟨z, hS⟩ := bC (BT.all_get T.ok hs)
  have u1 : P.underlying s = some (.slice e) := hS.und
  have u2 : P.underlying e = some (.int .u8) := tok_i (BT.all_get T.ok he)
  have u3 : P.underlying t = some .string := tok_s (BT.all_get T.ok ht)
  simp only [XV.rel, XA.rel, XC.rel, rd] at h2
  obtain ⟨A, c, sz, rfl, h3, h4, h5⟩ := h2
  have hlen : (fM bs).length = bs.length := List.length_map ..
  refine TL.val rfl hd (fun a w ha hw => ⟨w, ?_, hw⟩) hh'
  have hr : (convert s t (.slice A (fM bs).length c)).run P w = Result.ok (.string ⟨bs.toArray⟩) w := by
    rw [hlen]
    rcases h5 with h5 | ⟨b, o, rfl, h5⟩
    {
    have : bs = [] := by
      cases bs with
      | nil => rfl
      | cons => simp [fM] at h5
    subst this
    show (convert s t (.slice A 0 c)).run P w = _
    rw [run_convert_bytes_string w s t e A 0 c u1 u2 u3]
    cases A <;> simp [Conv.bytesToString, loadCells] <;> rfl}
    {
    obtain ⟨us, a1, a2, _⟩ := rdr.cells h5
    have := bytR_us a2
    subst this
    exact run_convert_bytes_back (P := P) w s t e ⟨b, o, none⟩ c bs u1 u2 u3 fun q hq => by
      rw [di]
      exact hw.cel (hAt.get a1 q (.int .u8 (bs[q].toNat : Int)) (by simp [hq, byteV]))}
  simp only [execOp, ha.ev h1, Sem.run_bind, hr, Result.andThen_ok]
  rfl
theorem Cd {s t e : TypeId} {y : Operand} {Er : XE} {dm : Option (List Rc)} {rows : List (List D)} (bs : List UInt8) (hrows : rows = fM bs) (hEr : vis dm ops { dst := some d, op := .convert s t y, type := ty, pos := pos, after := af, guard := g } E = Er) (hy : xev Er y = some (.a (.c (.d (.s rows))))) (hs : T.bt.get s = some (.sl e 1 1)) (he : T.bt.get e = some (.i .u8)) (ht : T.bt.get t = some .s) (hb : aw ops Er g = some true ∧ okD x.N (some d) = true)
    (hk : (MS.r ops (push dm ⟨i, [], false, false⟩) l k ⟨(d, .a (.c (.d (.c (.string ⟨bs.toArray⟩))))) :: E, hp, nx⟩).ok x) (hdk : DkM dm ops ⟨i, [], false, false⟩ := by first | exact trivial | (refine DK.mk ?_; decide +kernel)) :
    (MS.r ops dm ((i, { dst := some d, op := .convert s t y, type := ty, pos := pos, after := af, guard := g }) :: l) k ⟨E, hp, nx⟩).ok x := MS.val hEr hb (LS.convD (T := T) hrows hy hs he ht) hdk hk
end
section
variable {P : Program} {pk : Pk} {f : FuncId} {fn : Func} {c : Code} {args : List XV} {N m' : Nat} {R : XV} {B : XH}
variable {x : Cx P} {k : List Fr} {E Er : XE} {hp : XH} {nx i : Nat} {ops : List Oper} {dm : Option (List Rc)} {l : List (Nat × Oper)} {d : Tmp} {ty : TypeId} {pos : String} {af : Array Edge} {g : Option (Nat × Bool)}
theorem Zc {s s' : XS} {cc : Code} {ob : List Prop} (g : Nat) (h : fzS g s = some (s', ob)) (hk : (MS.c cc k s').ok x) (ho : aL ob := by repeat' (first | exact trivial | apply And.intro | rfl)) : (MS.c cc k s).ok x := MS.fzc g h hk ho
theorem Zr {s s' : XS} {l : List (Nat × Oper)} {ob : List Prop} (g : Nat) (h : fzS g s = some (s', ob)) (hk : (MS.r ops none l k s').ok x) (ho : aL ob := by repeat' (first | exact trivial | apply And.intro | rfl)) : (MS.r ops none l k s).ok x := MS.fzr g h hk ho
end
structure XM (P : Program) (pk : Pk) (f : FuncId) (args : List XV) (B : XH) (m m' : Nat) (Φ : XV → XH → Prop) : Prop where
  can : gN m args B = true
  le : Nat.ble m m' = true
  call : Callable P f
  fn : XFn P pk f args B m m' Φ
section
variable {P : Program} {pk : Pk} {f : FuncId} {fn : Func} {c : Code} {args : List XV} {N m m' : Nat} {B : XH} {Φ : XV → XH → Prop}
abbrev Cw (P : Program) (pk : Pk) (w0 : World) (own : List Seg) (H : Hp) (V : Vn) (m : Nat) (F : List Nat) (v0 : ∀ g t, V g t ≠ none → t = 0 ∧ g ∈ F) (hf : (∀ g ∈ F, g < m) ∧ pk.hy H) (N : Nat) (fn : Func) (m' : Nat) (Φ : XV → XH → Prop) : Cx P := Cx.of P (Bs.mk w0 own H V m F pk v0 hf) N fn m' Φ
theorem XM.en (hf : P.funcs[f]? = some fn) (hN : fn.ntmps = N) (h : ∀ w0 own H V v0 hf, (MS.c c [] ⟨iL 0 args, B, m⟩).ok (Cw P pk w0 own H V m (ae B) v0 hf N fn m' Φ)) (hb : fn.body = some c := by rfl) (hn : (fn.name == "runtime.NumGoroutine") = false := by rfl) (hl : Nat.ble args.length N = true := by rfl) (hc : gN m args B = true := by rfl) (hd : (bp (ae B) && B.all fun b => Nat.blt b.g m) = true := by rfl) (hm : Nat.ble m m' = true := by rfl) : XM P pk f args B m m' Φ :=
  ⟨hc, hm, Callable.of hf hn hb, XFn.enter hf hb hN hl hd h⟩
theorem Fm {T : Tb P} {w0 : World} {own : List Seg} {H : Hp} {V : Vn} {F : List Nat} {v0 : ∀ g t, V g t ≠ none → t = 0 ∧ g ∈ F} {hf : (∀ g ∈ F, g < m) ∧ pk.hy H} {s : XS} {e : Exit} {us : List XA} (nm : Nat → Nat) (r : XV) (hp' : XH) (hΦ : Φ r hp') (hr : iM T s fn.results.toList = some us) (hm : Mt m F ⟨[(0, co1 r (fL us))], s.hp, s.nx⟩ ⟨[(0, r)], hp', m'⟩ nm := by exact ⟨⟨_, _, rfl, rfl⟩, rfl, rfl⟩) (he : e = .ret ∨ e = .normal := by first | exact .inl rfl | exact .inr rfl) :
    (MS.e e [] s).ok (Cw P pk w0 own H V m F v0 hf N fn m' Φ) := ME.fin nm he hr hm hΦ
variable {x : Cx P} {k : List Fr} {E Er : XE} {hp : XH} {nx i : Nat} {ops : List Oper} {dm : Option (List Rc)} {l : List (Nat × Oper)} {d : Option Tmp} {ty : TypeId} {pos : String} {af : Array Edge} {g : Option (Nat × Bool)}
theorem Cm {opd : Operand} {xs : List Operand} {tys : Array TypeId} {fv : XV} {us : List XV} {ps rest : XH} (gs : List Nat) (h : XM P x.B.pk f args B m m' Φ)
    (hEr : vis dm ops { dst := d, op := .call { callee := .value opd, args := xs.toArray, argTypes := tys }, type := ty, pos := pos, after := af, guard := g } E = Er) (hfv : xev Er opd = some fv) (hfn : fnv fv = some (f, [], [])) (hus : eb (xev Er) xs = some us) (hpk : dY gs hp = some (ps, rest))
    (hargs : cos (XVs.ren (muc gs m nx (ps.map (·.t))) args) us = XVs.ren (muc gs m nx (ps.map (·.t))) args) (hfp : ps = bn (muc gs m nx (ps.map (·.t))) B) (hb : (aw ops Er g = some true ∧ ae ps = gs) ∧ (okD x.N d && (bp gs && gs.all (fun g => Nat.blt g nx))) = true)
    (hk : ∀ r hp', Φ r hp' → (MS.r ops (push dm ⟨i, gs ++ List.range' nx (m' - m), true, true⟩) l k ⟨b8 d (r.ren (muc gs m nx (ps.map (·.t)))) E, bn (muc gs m nx (ps.map (·.t))) hp' ++ rest, nx + (m' - m)⟩).ok x)
    (hdk : DkM dm ops ⟨i, gs ++ List.range' nx (m' - m), true, true⟩ := by first | exact trivial | (refine DK.mk ?_; decide +kernel)) (hrl : RlM dm ops i l := by first | exact trivial | (refine RL.mk ?_; decide +kernel)) :
    (MS.r ops dm ((i, { dst := d, op := .call { callee := .value opd, args := xs.toArray, argTypes := tys }, type := ty, pos := pos, after := af, guard := g }) :: l) k ⟨E, hp, nx⟩).ok x := by
  obtain ⟨hc, hm, hcl, h3⟩ := h
  have e0 : ae ps ++ List.range' nx (nx + (m' - m) - nx) = gs ++ List.range' nx (m' - m) := by rw [hb.1.2, Nat.add_sub_cancel_left]
  refine MS.call gs true true h3 hEr hfv hfn hcl hus hpk (SubV.stat hargs) hfp hc ⟨hb.1, ?_⟩ (by rw [e0]; exact hdk) (fun h => by cases h) (fun h => by cases h) (fun _ => hrl) ?_; {
  have h2 := hb.2
  simp only [Bool.and_eq_true] at h2 ⊢
  exact ⟨h2.1, h2.2.1, h2.2.2, hm⟩}; {
  intro r hp' hΦ
  rw [e0]
  exact hk r hp' hΦ}
def em (ops : List Oper) : List Nat → Option (List (Nat × Oper))
  | [] => some []
  | i :: r => match ops[i]?, em ops r with
    | some o, some l => some ((i, o) :: l)
    | _, _ => none
theorem kW {ops : List Oper} : ∀ {π : List Nat} {l : List (Nat × Oper)}, em ops π = some l → fsts l = π ∧ ∀ p ∈ l, ops[p.1]? = some p.2
  | [], l, h => by cases h; exact ⟨rfl, fun _ h => by cases h⟩
  | i :: r, l, h => by
    simp only [em] at h
    split at h; {
    rename_i o l' h1 h2
    cases h
    obtain ⟨h3, h4⟩ := kW h2
    refine ⟨by simp only [fsts, h3], fun p hp => ?_⟩
    rcases List.mem_cons.1 hp with rfl | hp
    {
    exact h1}; {
    exact h4 p hp}}; {
    cases h}
structure OdK (ops : List Oper) (π : List Nat) : Prop where
  ok : ((List.range ops.length).all π.contains && bck ops 0) = true
theorem Od {T : Tb P} {j : Nat} {ops : Array Oper} {s : XS} {L : List (Nat × Oper)} (π : List Nat) (hl : em ops.toList π = some L) (h : (MS.r ops.toList (some []) L k s).ok x) (hπ : OdK ops.toList π := by exact ⟨by decide +kernel⟩) : (MS.c (.region j ops true) k s).ok x := by
  obtain ⟨h1, h2⟩ := kW hl
  exact MC.draw (l := ops.toList) T.mx (todo := π) hπ.ok (h1 ▸ h h2)
theorem Ods {T : Tb P} {j : Nat} {ops : Array Oper} {b : Code} {s : XS} {L : List (Nat × Oper)} (π : List Nat) (hl : em ops.toList π = some L) (h : (MS.r ops.toList (some []) L (.s b :: k) s).ok x) (hπ : OdK ops.toList π := by exact ⟨by decide +kernel⟩) : (MS.c (.seq (.region j ops true) b) k s).ok x := MC.seq (Od (T := T) π hl h hπ)
end
section
variable {P : Program} {x : Cx P} {T : Tb P} {k : List Fr} {E Er : XE} {hp hp' : XH} {nx i : Nat} {ops : List Oper} {dm : Option (List Rc)} {l : List (Nat × Oper)} {d : Tmp} {dd : Option Tmp} {ty : TypeId} {pos : String} {af : Array Edge} {g : Option (Nat × Bool)}
theorem MS.rd1 {op : Op} {R : XV} {gp t0 : Nat} {o : XO} (hg : aq hp gp = some ⟨gp, t0, o⟩) (hEr : vis dm ops { dst := some d, op := op, type := ty, pos := pos, after := af, guard := g } E = Er) (hb : aw ops Er g = some true ∧ okD x.N (some d) = true)
    (hL : LS P x.B.pk ops.toArray { dst := some d, op := op, type := ty, pos := pos, after := af, guard := none } Er [⟨gp, t0, o⟩] nx nx (fun x fp' => x = R ∧ fp' = [⟨gp, t0, o⟩]))
    (hdk : DkM dm ops ⟨i, [gp], false, false⟩) (hk : (MS.r ops (push dm ⟨i, [gp], false, false⟩) l k ⟨(d, R) :: E, hp, nx⟩).ok x) : (MS.r ops dm ((i, { dst := some d, op := op, type := ty, pos := pos, after := af, guard := g }) :: l) k ⟨E, hp, nx⟩).ok x := by
  subst hEr
  obtain ⟨p1, p2, p3⟩ := aQ hg
  have e0 : ae [(⟨gp, t0, o⟩ : XB)] ++ List.range' nx (nx - nx) = [gp] := by simp [ae]
  refine MS.op (fp := [⟨gp, t0, o⟩]) (rest := bM hp gp) false false hb.2 p1 (Nat.le_refl _) (LS.yes (o := { dst := some d, op := op, type := ty, pos := pos, after := af, guard := g }) hb.1 hL) (by rw [e0]; exact hdk) (fun _ => ⟨_, _, ⟨rfl, rfl⟩, fun _ _ h => h⟩) (fun h => by cases h) ?_
  rintro q fp' ⟨rfl, rfl⟩
  refine ⟨by simp [ae], by simp [ae], fun _ => ⟨rfl, rfl⟩, hp, p1, ?_⟩
  rw [e0]; exact hk
theorem MS.wr1 {op : Op} {R : XV} {gp t0 t1 : Nat} {o o' : XO} (hg : aq hp gp = some ⟨gp, t0, o⟩) (hset' : bx hp gp t1 o' = some hp') (hEr : vis dm ops { dst := dd, op := op, type := ty, pos := pos, after := af, guard := g } E = Er) (hb : aw ops Er g = some true ∧ okD x.N dd = true)
    (hL : LS P x.B.pk ops.toArray { dst := dd, op := op, type := ty, pos := pos, after := af, guard := none } Er [⟨gp, t0, o⟩] nx nx (fun x fp' => x = R ∧ fp' = [⟨gp, t1, o'⟩]))
    (hdk : DkM dm ops ⟨i, [gp], true, false⟩) (hk : (MS.r ops (push dm ⟨i, [gp], true, false⟩) l k ⟨b8 dd R E, hp', nx⟩).ok x) : (MS.r ops dm ((i, { dst := dd, op := op, type := ty, pos := pos, after := af, guard := g }) :: l) k ⟨E, hp, nx⟩).ok x := by
  subst hEr
  obtain ⟨p1, p2, p3⟩ := aQ hg
  have e0 : ae [(⟨gp, t0, o⟩ : XB)] ++ List.range' nx (nx - nx) = [gp] := by simp [ae]
  refine MS.op (fp := [⟨gp, t0, o⟩]) (rest := bM hp gp) true false hb.2 p1 (Nat.le_refl _) (LS.yes (o := { dst := dd, op := op, type := ty, pos := pos, after := af, guard := g }) hb.1 hL) (by rw [e0]; exact hdk) (fun _ => ⟨_, _, ⟨rfl, rfl⟩, fun _ _ h => h⟩) (fun h => by cases h) ?_
  rintro q fp' ⟨rfl, rfl⟩
  refine ⟨by simp [ae], by simp [ae], fun h => (by cases h), hp', p3 _ _ _ hset', ?_⟩
  rw [e0]; exact hk
end
theorem row_at {H : Hp} {sz : Nat} : ∀ {rows : List (List D)} {us : List Value}, rdL H rows.flatten us → (∀ r ∈ rows, r.length = sz) → ∀ {j : Nat} {r : List D}, rows[j]? = some r → ∃ v1 vs v2, us = v1 ++ (vs ++ v2) ∧ v1.length = j * sz ∧ rdL H r vs ∧ vs.length = sz ∧ rdL H (rows.take j).flatten v1 ∧ rdL H (rows.drop (j + 1)).flatten v2
  | [], _, _, _, _, _, h => by simp at h
  | q :: rs, us, h, hl, 0, r, hj => by
    simp only [List.getElem?_cons_zero, Option.some.injEq] at hj
    subst hj
    rw [List.flatten_cons] at h
    obtain ⟨v1, v2, rfl, h1, h2⟩ := rdL.split h
    exact ⟨[], v1, v2, rfl, by simp, h1, by rw [← h1.len]; exact hl q (List.mem_cons_self ..), trivial, h2⟩
  | q :: rs, us, h, hl, j + 1, r, hj => by
    rw [List.flatten_cons] at h
    obtain ⟨v1, v2, rfl, h1, h2⟩ := rdL.split h
    obtain ⟨w1, ws, w2, rfl, k1, k2, k3, k4, k5⟩ := row_at h2 (fun r hr => hl r (List.mem_cons_of_mem _ hr)) (by simpa using hj)
    refine ⟨v1 ++ w1, ws, w2, by simp, ?_, k2, k3, ?_, by simpa using k5⟩; {
    rw [List.length_append, k1, ← h1.len, hl q (List.mem_cons_self ..), Nat.add_mul]; omega}; {
    rw [List.take_succ_cons, List.flatten_cons]; exact rdL.append h1 k4}
theorem nQ : ∀ (vs : List Value) (c : Array Value) (o : Nat), o + vs.length ≤ c.size → (cG c o vs).toList = c.toList.take o ++ (vs ++ c.toList.drop (o + vs.length))
  | [], c, o, _ => by simp [cG]
  | v :: r, c, o, h => by
    have hlt : o < c.toList.length := by simp at h ⊢; omega
    simp only [cG]
    rw [nQ r _ (o + 1) (by simp at h ⊢; omega), Array.toList_setIfInBounds]
    rw [List.take_succ, List.getElem?_set_self hlt, List.take_set_of_le (Nat.le_refl _), List.drop_set_of_lt (by simp only [List.length_cons] at h; omega)]
    simp only [Option.toList_some, List.append_assoc, List.singleton_append, List.length_cons, List.cons_append, List.nil_append]
    rw [show o + 1 + r.length = o + (r.length + 1) by omega]
section
variable {P : Program} {pk : Pk} {T : Tb P} {Er : XE} {nx : Nat} {ops : Array Oper} {d : Option Tmp} {ty : TypeId} {pos : String} {af : Array Edge}
theorem HRr {V : Vn} {H : Hp} {gp t0 n : Nat} {rows : List (List D)} {e sz : Nat} {sg : Seg} (h : HR V H [⟨gp, t0, .row n rows e sz⟩] sg) :
    (∃ b us jk ex, sg = [(b, .cells (us ++ jk).toArray e (0, 0))] ∧ V gp t0 = some (some b, ex) ∧ n = rows.length ∧ rdL H rows.flatten us ∧ (∀ r ∈ rows, r.length = sz) ∧ jk.length = ex * sz ∧ n + ex ≤ maxLen ∧ 0 < sz) ∨ (sg = [] ∧ V gp t0 = some (none, 0) ∧ n = 0 ∧ rows = []) := by
  obtain ⟨s1, s2, rfl, h1, rfl⟩ := h
  rcases h1 with ⟨b, ob, ex, rfl, h2, us, j, h3, h4, h5, rfl, h6, h7, h8⟩ | ⟨rfl, h2, e', sz', h3, _⟩
  {
  exact .inl ⟨b, us, j, ex, rfl, h2, h3, h4, h5, h6, h7, h8⟩}; {
  simp only [XO.row.injEq] at h3
  exact .inr ⟨rfl, h2, h3.1, h3.2.1⟩}
theorem LS.iq {t : TypeId} {o iv : Operand} {ki : IntKind} {jv : Int} {e sz by_ gp t0 n c e' m : Nat} {rows : List (List D)} (j : Nat)
    (ho : xev Er o = some (.a (.c (.l gp t0 sz 0 n c)))) (hi : xev Er iv = some (xv (.int ki jv))) (ht : T.bt.get t = some (.sl e sz by_)) (hj : jv = (j : Int)) (hlt : j < n) (hm : n = m) :
    LS P pk ops { dst := d, op := .indexAddr t o iv, type := ty, pos := pos, after := af, guard := none } Er [⟨gp, t0, .row m rows e' sz⟩] nx nx (fun x fp' => x = .a (.c (.q gp t0 sz j 0)) ∧ fp' = [⟨gp, t0, .row m rows e' sz⟩]) := by
  subst hm
  intro w0 N Q rest env own H V sg hl hV htp hf hd _ hh
  obtain ⟨v, h1, h2⟩ := hl.lks _ _ ho
  obtain ⟨w, h3, h4⟩ := hl.lks _ _ hi
  have := bk h4; subst this
  simp only [XV.rel, XA.rel, XC.rel] at h2
  obtain ⟨b, ex, h5, rfl⟩ := h2
  obtain ⟨z, hS⟩ := bC (BT.all_get T.ok ht)
  rcases HRr hV with ⟨b', us, jk, ex', _, h6, _⟩ | ⟨_, _, h6, _⟩
  {
  rw [h5] at h6
  cases h6
  rw [Option.map_some, Nat.zero_mul] at h1
  refine TL.indexAddr j h1 h3 hj hlt hd (hh _ _ _ V H _ ⟨rfl, rfl⟩ ?_ hV htp (VX.refl _ _ _) (Le.refl _))
  simp only [XV.rel, XA.rel, XC.rel]
  exact ⟨b', _, h5, by rw [Nat.zero_add, Nat.add_zero]⟩}; {
  omega}
theorem LS.lr {tt : TypeId} {y : Operand} {ti : TI} {gp t0 sz j o n e : Nat} {rows : List (List D)} {r : List D} {u : XV} (hr : rows[j]? = some r) (hy : xev Er y = some (.a (.c (.q gp t0 sz j o)))) (ht : T.bt.get tt = some ti) (hn : (ti.agg || Nat.beq ti.n 1) = true) (hu : jT (r.drop o) ti.agg ti.n = some u) :
    LS P pk ops { dst := d, op := .load tt y, type := ty, pos := pos, after := af, guard := none } Er [⟨gp, t0, .row n rows e sz⟩] nx nx (fun x fp' => x = u ∧ fp' = [⟨gp, t0, .row n rows e sz⟩]) := by
  intro w0 N Q rest env own H V sg hl hV htp hf hd _ hh
  obtain ⟨v, h1, h2⟩ := hl.lks _ _ hy
  simp only [XV.rel, XA.rel, XC.rel] at h2
  obtain ⟨b, ex, h5, rfl⟩ := h2
  have htk := BT.all_get T.ok ht
  have hty := cu htk
  rcases HRr hV with ⟨b', us, jk, ex', rfl, h6, h7, h8, h9, _⟩ | ⟨_, _, _, h6⟩
  {
  rw [h5] at h6
  cases h6
  obtain ⟨v1, vs, v2, rfl, k1, k2, k3, _⟩ := row_at h8 h9 hr
  have hc : ∀ (q : Nat) (v : Value), vs[q]? = some v → (((v1 ++ (vs ++ v2)) ++ jk).toArray.toList)[j * sz + q]? = some v := fun q v hq => by
    simp only [List.append_assoc]
    rw [List.getElem?_append_right (by omega), k1, Nat.add_sub_cancel_left, List.getElem?_append_left (List.getElem?_eq_some_iff.1 hq).1]
    exact hq
  have fin : ∀ v, u.rel V H v → TL P w0 N Q ops rest (ao d v env) ([(b, .cells ((v1 ++ (vs ++ v2)) ++ jk).toArray e (0, 0))] :: own) H := fun v hv => hh v u _ V H _ ⟨rfl, rfl⟩ hv hV htp (VX.refl _ _ _) (Le.refl _)
  cases ha : ti.agg with
  | true =>
    rw [ha] at hu hty
    simp only [jT] at hu
    split at hu; {
    rename_i ds hs
    cases hu
    obtain ⟨rfl, e1⟩ := ju hs
    rw [Nat.zero_add, List.length_drop, k2.len] at e1
    refine TL.load_ownA 0 0 ((vs.drop o).take ti.n) h1 rfl rfl (cAt_of fun q v hv => ?_) (by rw [List.length_take, List.length_drop]; omega) hd (fin _ ⟨_, rfl, ?_⟩); {
    rw [List.getElem?_take] at hv
    split at hv; {
    rw [List.getElem?_drop] at hv
    have := hc (o + q) v hv
    rwa [← Nat.add_assoc] at this}; {
    cases hv}}; {
    have key : ∀ {m : Nat} {a : List D} {c : List Value}, rdL H a c → rdL H (a.drop m) (c.drop m) := by
      intro m
      induction m with
      | zero => intro a c h; exact h
      | succ m ih => intro a c h; cases a with
        | nil => cases c with
          | nil => exact h
          | cons => exact h.elim
        | cons => cases c with
          | nil => exact h.elim
          | cons => exact ih h.2
    simpa using (key (m := o) k2).take (n := ti.n)}}; {
    cases hu}
  | false =>
    rw [ha] at hu hty hn
    have e1 : ti.n = 1 := Nat.eq_of_beq_eq_true (by simpa using hn)
    rw [e1] at hty
    simp only [jT] at hu
    split at hu; {
    rename_i z zs hd2
    cases hu
    have key : ∀ {m : Nat} {a : List D} {c : List Value} {y : D} {ys : List D}, rdL H a c → a.drop m = y :: ys → ∃ v, c[m]? = some v ∧ rd H y v := by
      intro m
      induction m with
      | zero => intro a c y ys h he; cases c with
        | nil => simp only [List.drop_zero] at he; subst he; exact h.elim
        | cons v c => simp only [List.drop_zero] at he; subst he; exact ⟨v, rfl, h.1⟩
      | succ m ih => intro a c y ys h he; cases a with
        | nil => simp at he
        | cons => cases c with
          | nil => exact h.elim
          | cons => exact ih h.2 (by simpa using he)
    obtain ⟨v, e2, e3⟩ := key k2 hd2
    exact TL.load_own 0 0 h1 rfl rfl (by rw [iE]; exact hc o v e2) hd (fin _ (by simp only [XV.rel, XA.rel, XC.rel]; exact e3))}; {
    cases hu}}
  {
  subst h6; simp at hr}
def dS (rows : List (List D)) (j o : Nat) (ds : List D) : List (List D) := match rows[j]? with
  | some r => rows.set j (r.take o ++ (ds ++ r.drop (o + ds.length)))
  | none => rows
theorem LS.sr {tt : TypeId} {y z : Operand} {ti : TI} {gp t0 sz j o n e : Nat} {rows : List (List D)} {r ds : List D} {u : XA} (hr : rows[j]? = some r) (hy : xev Er y = some (.a (.c (.q gp t0 sz j o)))) (hz : xev Er z = some (.a u)) (hds : g0 u.cells = some ds) (ht : T.bt.get tt = some ti) (hn : ds.length = ti.n) (hb : Nat.ble (o + ds.length) sz = true) :
    LS P pk ops { dst := d, op := .store tt y z, type := ty, pos := pos, after := af, guard := none } Er [⟨gp, t0, .row n rows e sz⟩] nx nx (fun x fp' => x = .u ∧ fp' = [⟨gp, t0, .row n (dS rows j o ds) e sz⟩]) := by
  intro w0 N Q rest env own H V sg hl hV htp hf hd _ hh
  obtain ⟨v, h1, h2⟩ := hl.lks _ _ hy
  obtain ⟨w, h3, h4⟩ := hl.lks _ _ hz
  simp only [XV.rel, XA.rel, XC.rel] at h2
  obtain ⟨b, ex, h5, rfl⟩ := h2
  have htk := BT.all_get T.ok ht
  have hty := cu htk
  have hcell := XA.cells_ok h4
  have hdv := cr hds hcell
  have hb := Nat.le_of_ble_eq_true hb
  have hlen := hdv.len
  rcases HRr hV with ⟨b', us, jk, ex', rfl, h6, h7, h8, h9, q1, q2, q3⟩ | ⟨_, _, _, h6⟩
  {
  rw [h5] at h6
  cases h6
  obtain ⟨v1, vs, v2, rfl, k1, k2, k3, k4, k5⟩ := row_at h8 h9 hr
  have hrl : r.length = sz := by rw [k2.len, k3]
  obtain ⟨a1, a2, rfl, b1, b2⟩ := rdL.split (ds := r.take o) (es := r.drop o) (by rw [List.take_append_drop]; exact k2)
  have hl1 : a1.length = o := by rw [← b1.len, List.length_take]; omega
  obtain ⟨a3, a4, rfl, b3, b4⟩ := rdL.split (ds := (r.drop o).take ds.length) (es := (r.drop o).drop ds.length) (by rw [List.take_append_drop]; exact b2)
  have hl3 : a3.length = ds.length := by rw [← b3.len, List.length_take, List.length_drop]; omega
  have hput : cG ((v1 ++ ((a1 ++ (a3 ++ a4)) ++ v2)) ++ jk).toArray (j * sz + o) w.cells.toList = ((v1 ++ ((a1 ++ (w.cells.toList ++ a4)) ++ v2)) ++ jk).toArray := by
    rw [← Array.toList_inj, nQ _ _ _ (by rw [← hlen]; simp only [List.size_toArray, List.length_append]; omega)]
    have e1 : ((v1 ++ ((a1 ++ (a3 ++ a4)) ++ v2)) ++ jk) = (v1 ++ a1) ++ (a3 ++ (a4 ++ (v2 ++ jk))) := by simp
    have e2 : (v1 ++ a1).length = j * sz + o := by rw [List.length_append]; omega
    simp only [e1]
    rw [List.take_append_of_le_length (by omega), List.take_of_length_le (by omega), List.drop_append, List.drop_of_length_le (l := v1 ++ a1) (by omega)]
    rw [show j * sz + o + w.cells.toList.length - (v1 ++ a1).length = a3.length by omega, List.drop_append, List.drop_of_length_le (Nat.le_refl _)]
    simp
  have bx : dS rows j o ds = rows.set j (r.take o ++ (ds ++ (r.drop o).drop ds.length)) := by
    rw [dS, hr, List.drop_drop]
  have hjl : j < rows.length := (List.getElem?_eq_some_iff.1 hr).1
  have hfl : (dS rows j o ds).flatten = (rows.take j).flatten ++ ((r.take o ++ (ds ++ (r.drop o).drop ds.length)) ++ (rows.drop (j + 1)).flatten) := by
    rw [bx, List.set_eq_take_append_cons_drop, if_pos hjl, List.flatten_append, List.flatten_cons]
  refine TL.store 0 0 h1 h3 rfl rfl (vs := w.cells.toList) (by simp) (by rw [← hlen, hn]) hcell.ones (by rw [← hlen]; simp only [List.size_toArray, List.length_append]; omega) hput rfl hd ?_
  refine hh undef .u _ V H _ ⟨rfl, rfl⟩ rfl (HR.one (.inl ⟨_, _, ex, rfl, h5, _, jk, ?_, ?_, ?_, rfl, q1, q2, q3⟩)) ?_ (VX.refl _ _ _) (Le.refl _); {
  rw [bx, List.length_set]; exact h7}; {
  rw [hfl]
  exact rdL.append k4 (rdL.append (rdL.append b1 (rdL.append hdv b4)) k5)}; {
  intro q hq
  rw [bx] at hq
  rcases List.mem_or_eq_of_mem_set hq with hq | rfl
  {
  exact h9 q hq}; {
  simp only [List.length_append, List.length_take, List.length_drop]; omega}}; {
  intro y hy' t hlt
  obtain rfl := List.mem_singleton.1 hy'
  exact htp _ (List.mem_singleton.2 rfl) t hlt}}; {
  subst h6; simp at hr}
theorem LS.pop {t : TypeId} {o iv : Operand} {ki : IntKind} {jv : Int} {e sz by_ gp t0 n c e' m : Nat} {rows : List (List D)} (j : Nat)
    (ho : xev Er o = some (.a (.c (.l gp t0 sz 0 n c)))) (hi : xev Er iv = some (xv (.int ki jv))) (ht : T.bt.get t = some (.sl e sz by_)) (hj : jv = (j : Int)) (hlt : j ≤ n) (hm : n = m) (hc : c = m) :
    LS P pk ops { dst := d, op := .slice t o none (some iv) none, type := ty, pos := pos, after := af, guard := none } Er [⟨gp, t0, .row m rows e' sz⟩] nx nx (fun x fp' => x = .a (.c (.l gp (t0 + 1) sz 0 j j)) ∧ fp' = [⟨gp, t0 + 1, .row j (rows.take j) e' sz⟩]) := by
  subst hm hc
  intro w0 N Q rest env own H V sg hl hV htp hf hd _ hh
  obtain ⟨v, h1, h2⟩ := hl.lks _ _ ho
  obtain ⟨w, h3, h4⟩ := hl.lks _ _ hi
  have := bk h4; subst this
  simp only [XV.rel, XA.rel, XC.rel] at h2
  obtain ⟨b, ex, h5, rfl⟩ := h2
  obtain ⟨z, hS⟩ := bC (BT.all_get T.ok ht)
  have hnone : V gp (t0 + 1) = none := htp _ (List.mem_singleton.2 rfl) (t0 + 1) (by show t0 < _; omega)
  have htop : ∀ i, Top (V.new gp (t0 + 1) i) [⟨gp, t0 + 1, .row j (rows.take j) e' sz⟩] := fun i y hy t hlt => by
    obtain rfl := List.mem_singleton.1 hy
    rw [Vn.new_ne]
    · exact htp _ (List.mem_singleton.2 rfl) t (by simp only at hlt ⊢; omega)
    · rintro ⟨_, h⟩; simp only at hlt; omega
  have hvx : ∀ i, VX V (V.new gp (t0 + 1) i) [⟨gp, t0, .row c rows e' sz⟩] nx nx := fun i => ⟨Vn.new_le _ hnone, fun h t k1 k2 => by
    by_cases e9 : h = gp ∧ t = t0 + 1
    · exact .inr (by simp [ae, e9.1])
    · rw [Vn.new_ne _ _ e9] at k2; exact absurd k1 k2⟩
  rcases HRr hV with ⟨b', us, jk, ex', rfl, h6, h7, h8, h9, q1, q2, q3⟩ | ⟨rfl, h6, h7, h8⟩
  · rw [h5] at h6
    cases h6
    rw [Option.map_some, Nat.zero_mul] at h1
    have hlen : (rows.take j).length = j := by rw [List.length_take]; omega
    have hA : (if c + ex = 0 then some (⟨b', 0, none⟩ : Addr) else (some ⟨b', 0, none⟩ : Option Addr).map (·.add (0 * sz))) = some ⟨b', 0, none⟩ := by split <;> simp [Addr.add]
    refine TL.slice (li := none) (ri := some jv) 0 j h1 rfl ⟨ki, jv, rfl, h3⟩ rfl hj (Nat.zero_le _) (by omega) hd ?_
    rw [hA, Nat.sub_zero, Nat.sub_zero]
    obtain ⟨v1, v2, e1, e2, e3⟩ := rdL.split (ds := (rows.take j).flatten) (es := (rows.drop j).flatten) (by rw [← List.flatten_append, List.take_append_drop]; exact h8)
    subst e1
    have hv2 : v2.length = (c - j) * sz := by
      rw [← e3.len]
      have key : ∀ {q : List (List D)}, (∀ r ∈ q, r.length = sz) → q.flatten.length = q.length * sz := by
        intro q
        induction q with
        | nil => intro _; simp
        | cons a q ih => intro h; rw [List.flatten_cons, List.length_append, h a (List.mem_cons_self ..), ih (fun r hr => h r (List.mem_cons_of_mem _ hr)), List.length_cons, Nat.add_mul]; omega
      rw [key (fun r hr => h9 r (List.mem_of_mem_drop hr)), List.length_drop, ← h7]
    refine hh _ _ _ (V.new gp (t0 + 1) (some b', (c - j) + ex)) H _ ⟨rfl, rfl⟩ ?_ (HR.one (.inl ⟨b', _, _, rfl, Vn.new_at .., v1, v2 ++ jk, hlen.symm, e2, fun r hr => h9 r (List.mem_of_mem_take hr), by rw [List.append_assoc], ?_, by omega, q3⟩)) (htop _) (hvx _) (Le.refl _)
    · simp only [XV.rel, XA.rel, XC.rel]
      exact ⟨some b', _, Vn.new_at .., by rw [Option.map_some, Nat.zero_mul, show j + (c - j + ex) = c + ex by omega]⟩
    · rw [List.length_append, hv2, q1, Nat.add_mul]
  · rw [h5] at h6
    cases h6
    subst h7 h8
    have hj0 : j = 0 := by omega
    subst hj0
    refine TL.slice (li := none) (ri := some jv) 0 0 h1 rfl ⟨ki, jv, rfl, h3⟩ rfl hj (Nat.le_refl _) (Nat.zero_le _) hd ?_
    have hsz : 0 < sz := hS.pos
    refine hh _ _ _ (V.new gp (t0 + 1) (none, 0)) H _ ⟨rfl, rfl⟩ ?_ (HR.one (.inr ⟨rfl, Vn.new_at .., e', sz, by simp, hsz⟩)) (htop _) (hvx _) (Le.refl _)
    simp only [XV.rel, XA.rel, XC.rel]
    exact ⟨none, 0, Vn.new_at .., by simp⟩
def ia (Er : XE) : Option Operand → Option Int → Prop
  | none, r => r = none
  | some y, r => ∃ ki n, r = some n ∧ xev Er y = some (xv (.int ki n))
theorem gx {V : Vn} {H : Hp} {env : Env} (hl : Lk V H env Er) : ∀ {o : Option Operand} {r : Option Int}, ia Er o r → optI env o r
  | none, _, h => h
  | some y, _, ⟨ki, n, h1, h2⟩ => by
    obtain ⟨w, h3, h4⟩ := hl.lks _ _ h2
    have := bk h4; subst this
    exact ⟨ki, n, h1, h3⟩
theorem LS.sd {t : TypeId} {o : Operand} {lo hi : Option Operand} {li ri : Option Int} {e sz by_ : Nat} {rows : List (List D)} (a b : Nat)
    (ho : xev Er o = some (.a (.c (.d (.s rows))))) (h1 : ia Er lo li) (h2 : ia Er hi ri) (ht : T.bt.get t = some (.sl e sz by_)) (ha : li.getD 0 = (a : Int)) (hb : ri.getD (rows.length : Int) = (b : Int)) (hab : a ≤ b) (hbl : b ≤ rows.length) (hsz : ∀ r ∈ rows, r.length = sz) :
    LS P pk ops { dst := d, op := .slice t o lo hi none, type := ty, pos := pos, after := af, guard := none } Er [] nx nx (fun x fp' => x = .a (.c (.d (.s ((rows.drop a).take (b - a))))) ∧ fp' = []) := by
  intro w0 N Q rest env own H V sg hl hV htp hf hd _ hh
  obtain ⟨v, h3, h4⟩ := hl.lks _ _ ho
  simp only [XV.rel, XA.rel, XC.rel, rd] at h4
  obtain ⟨A, c, sz', rfl, h5, h6, h7⟩ := h4
  obtain ⟨z, hS⟩ := bC (BT.all_get T.ok ht)
  refine TL.slice a b h3 (gx hl h1) (gx hl h2) ha hb hab (by omega) hd (hh _ _ _ V H _ ⟨rfl, rfl⟩ ?_ hV htp (VX.refl _ _ _) (Le.refl _))
  simp only [XV.rel, XA.rel, XC.rel, rd]
  refine ⟨_, c - a, sz, by rw [show ((rows.drop a).take (b - a)).length = b - a by rw [List.length_take, List.length_drop]; omega], by rw [List.length_take, List.length_drop]; omega, by omega, ?_⟩
  by_cases h8 : (rows.drop a).take (b - a) = []; {
  exact .inl h8}; {
  right
  rcases h7 with h7 | ⟨b', q, rfl, h7⟩
  {
  subst h7; simp at h8}; {
  have hne : rows ≠ [] := fun e => by rw [e] at h8; simp at h8
  have hal : a < rows.length := by
    rcases Nat.lt_or_ge a rows.length with h | h
    {
    exact h}; {
    rw [List.drop_of_length_le h] at h8; simp at h8}
  have hszz : sz' = sz := by
    obtain ⟨r, hr⟩ : ∃ r, rows[a]? = some r := ⟨_, List.getElem?_eq_getElem hal⟩
    rw [← (h7.get hr).1]
    exact hsz r (List.mem_of_getElem? hr)
  subst hszz
  rw [if_neg (by omega), Option.map_some, di]
  exact ⟨b', _, rfl, (h7.drop).take⟩}}
theorem LS.mk {t : TypeId} {y z : Operand} {kl kc : IntKind} {jl : Int} {e sz by_ : Nat} (n : Nat) (dz : List D) (hy : xev Er y = some (xv (.int kl jl))) (hz : xev Er z = some (xv (.int kc jl))) (ht : T.bt.get t = some (.sl e sz by_)) (hj : jl = (n : Int)) (hb : by_ * n ≤ 281474976710656) (hm : n ≤ 9223372036854775807)
    (hzero : ∀ z : Value, Sl P t e sz by_ z → ∀ H, rdL H dz z.cells.toList) :
    LS P pk ops { dst := d, op := .makeSlice t y z, type := ty, pos := pos, after := af, guard := none } Er [] nx (nx + 1) (fun x fp' => x = .a (.c (.l nx 0 sz 0 n n)) ∧ fp' = [⟨nx, 0, .row n (List.replicate n dz) e sz⟩]) := by
  intro w0 N Q rest env own H V sg hl hV htp hf hd _ hh
  obtain ⟨v, h1, h2⟩ := hl.lks _ _ hy
  have := bk h2; subst this
  obtain ⟨w, h3, h4⟩ := hl.lks _ _ hz
  have := bk h4; subst this
  obtain ⟨zv, hS⟩ := bC (BT.all_get T.ok ht)
  have hzc := hzero zv hS
  have hzs : zv.cells.toList.length = sz := by simpa using hS.zs
  obtain rfl := HR0 hV
  refine TL.makeSlice n h1 h3 hj hb hm hd fun gn => ?_
  have hdl : dz.length = sz := by rw [(hzc H).len, hzs]
  have hmade : madeCells zv.cells (n * sz) = ((List.replicate n zv.cells.toList).flatten ++ []).toArray := by
    rw [List.append_nil]
    refine Array.ext_getElem? fun q => ?_
    simp only [madeCells, List.getElem?_toArray]
    have key : ∀ (n q : Nat), (List.replicate n zv.cells.toList).flatten[q]? = if q < n * sz then some (zv.cells.getD (q % sz) undef) else none := by
      intro n
      induction n with
      | zero => intro q; simp
      | succ n ih =>
        intro q
        rw [List.replicate_succ, List.flatten_cons]
        by_cases hq : q < sz
        · rw [List.getElem?_append_left (by omega), if_pos (by rw [Nat.add_mul]; omega), Nat.mod_eq_of_lt hq]
          simp [Array.getD_eq_getD_getElem?, show q < zv.cells.size from by simpa using (hzs ▸ hq : q < zv.cells.toList.length)]
        · rw [List.getElem?_append_right (by omega), hzs, ih]
          have e1 : (q - sz < n * sz) ↔ (q < (n + 1) * sz) := by rw [Nat.add_mul]; omega
          have e2 : (q - sz) % sz = q % sz := (Nat.mod_eq_sub_mod (by omega)).symm
          simp only [e1, e2]
    rw [key]
    by_cases hq : q < n * sz
    · have hlt : q % sz < zv.cells.size := by rw [hS.zs]; exact Nat.mod_lt _ hS.pos
      simp only [hq, hS.zs, if_true, Array.getElem?_ofFn, Array.getD_eq_getD_getElem?]
      simp [hq, hlt]
    · simp [hq]
  rw [hmade]
  obtain ⟨f1, f2, f3⟩ := cm (V := V) (H := H) (nx := nx) (g := gn) (ex := 0) (o := .cells ((List.replicate n zv.cells.toList).flatten ++ []).toArray e (0, 0)) (xo := .row n (List.replicate n dz) e sz) hf ⟨(List.replicate n zv.cells.toList).flatten, [], by simp, by
      have key : ∀ n : Nat, rdL H (List.replicate n dz).flatten (List.replicate n zv.cells.toList).flatten := by
        intro n
        induction n with
        | zero => exact trivial
        | succ n ih => rw [List.replicate_succ, List.replicate_succ, List.flatten_cons, List.flatten_cons]; exact rdL.append (hzc H) ih
      exact key n, fun r hr => by rw [(List.mem_replicate.1 hr).2, hdl], rfl, by simp, by simpa [maxLen] using hm, hS.pos⟩
  exact TL.flat (own' := [(gn, .cells ((List.replicate n zv.cells.toList).flatten ++ []).toArray e (0, 0))] :: own) (List.Perm.refl _) (hh _ _ _ _ H _ ⟨rfl, rfl⟩ (by
    simp only [XV.rel, XA.rel, XC.rel]
    exact ⟨some gn, 0, Vn.new_at .., by simp⟩) f1 f2 f3 (Le.refl _))
theorem LS.subw {tx t' : TypeId} {y z : Operand} {ki : IntKind} {m n : Int} (hy : xev Er y = some (xv (.int ki m))) (hz : xev Er z = some (xv (.int ki n))) :
    LS P pk ops { dst := d, op := .binOp .sub tx y z t', type := ty, pos := pos, after := af, guard := none } Er [] nx nx (fun x fp' => x = xv (.int ki (ki.wrap (m - n))) ∧ fp' = []) := by
  intro w0 N Q rest env own H V sg hl hV htp hf hd _ hh
  obtain ⟨v, h1, h2⟩ := hl.lks _ _ hy
  have := bk h2; subst this
  obtain ⟨w, h3, h4⟩ := hl.lks _ _ hz
  have := bk h4; subst this
  exact TL.subW h1 h3 hd (hh _ _ _ V H _ ⟨rfl, rfl⟩ (by simp only [XV.rel, XA.rel, XC.rel, rd]; exact ⟨trivial, rfl⟩) hV htp (VX.refl _ _ _) (Le.refl _))
end
section
variable {P : Program} {x : Cx P} {T : Tb P} {k : List Fr} {E Er : XE} {hp hp' : XH} {nx i : Nat} {ops : List Oper} {dm : Option (List Rc)} {l : List (Nat × Oper)} {d : Tmp} {dd : Option Tmp} {ty : TypeId} {pos : String} {af : Array Edge} {g : Option (Nat × Bool)}
variable {t : TypeId} {o iv y z : Operand} {ki : IntKind} {jv : Int} {e sz by_ gp t0 n c e' m : Nat} {rows : List (List D)} {ti : TI} {r ds : List D}
theorem Iq (j : Nat) (ho : xev Er o = some (.a (.c (.l gp t0 sz 0 n c)))) (hEr : vis dm ops { dst := some d, op := .indexAddr t o iv, type := ty, pos := pos, after := af, guard := g } E = Er) (hi : xev Er iv = some (xv (.int ki jv))) (hg : aq hp gp = some ⟨gp, t0, .row m rows e' sz⟩) (ht : T.bt.get t = some (.sl e sz by_)) (hb : aw ops Er g = some true ∧ okD x.N (some d) = true) (hj : jv = (j : Int)) (hlt : j < n) (hm : n = m)
    (hk : (MS.r ops (push dm ⟨i, [gp], false, false⟩) l k ⟨(d, .a (.c (.q gp t0 sz j 0))) :: E, hp, nx⟩).ok x) (hdk : DkM dm ops ⟨i, [gp], false, false⟩ := by first | exact trivial | (refine DK.mk ?_; decide +kernel)) : (MS.r ops dm ((i, { dst := some d, op := .indexAddr t o iv, type := ty, pos := pos, after := af, guard := g }) :: l) k ⟨E, hp, nx⟩).ok x :=
  MS.rd1 hg hEr hb (LS.iq (T := T) j ho hi ht hj hlt hm) hdk hk
theorem Lr {j q : Nat} {u : XV} (hr : rows[j]? = some r) (hEr : vis dm ops { dst := some d, op := .load t y, type := ty, pos := pos, after := af, guard := g } E = Er) (hy : xev Er y = some (.a (.c (.q gp t0 sz j q)))) (hg : aq hp gp = some ⟨gp, t0, .row m rows e sz⟩) (ht : T.bt.get t = some ti) (hb : aw ops Er g = some true ∧ okD x.N (some d) = true) (hn : (ti.agg || Nat.beq ti.n 1) = true) (hu : jT (r.drop q) ti.agg ti.n = some u)
    (hk : (MS.r ops (push dm ⟨i, [gp], false, false⟩) l k ⟨(d, u) :: E, hp, nx⟩).ok x) (hdk : DkM dm ops ⟨i, [gp], false, false⟩ := by first | exact trivial | (refine DK.mk ?_; decide +kernel)) : (MS.r ops dm ((i, { dst := some d, op := .load t y, type := ty, pos := pos, after := af, guard := g }) :: l) k ⟨E, hp, nx⟩).ok x :=
  MS.rd1 hg hEr hb (LS.lr (T := T) hr hy ht hn hu) hdk hk
theorem Sr {j q : Nat} {u : XA} (hr : rows[j]? = some r) (hEr : vis dm ops { dst := dd, op := .store t y z, type := ty, pos := pos, after := af, guard := g } E = Er) (hy : xev Er y = some (.a (.c (.q gp t0 sz j q)))) (hz : xev Er z = some (.a u)) (hds : g0 u.cells = some ds) (hg : aq hp gp = some ⟨gp, t0, .row m rows e sz⟩) (hset' : bx hp gp t0 (.row m (dS rows j q ds) e sz) = some hp') (ht : T.bt.get t = some ti) (hb : aw ops Er g = some true ∧ okD x.N dd = true) (hn : ds.length = ti.n) (hq : Nat.ble (q + ds.length) sz = true)
    (hk : (MS.r ops (push dm ⟨i, [gp], true, false⟩) l k ⟨b8 dd .u E, hp', nx⟩).ok x) (hdk : DkM dm ops ⟨i, [gp], true, false⟩ := by first | exact trivial | (refine DK.mk ?_; decide +kernel)) : (MS.r ops dm ((i, { dst := dd, op := .store t y z, type := ty, pos := pos, after := af, guard := g }) :: l) k ⟨E, hp, nx⟩).ok x :=
  MS.wr1 hg hset' hEr hb (LS.sr (T := T) hr hy hz hds ht hn hq) hdk hk
theorem Po (j : Nat) (ho : xev Er o = some (.a (.c (.l gp t0 sz 0 n c)))) (hEr : vis dm ops { dst := some d, op := .slice t o none (some iv) none, type := ty, pos := pos, after := af, guard := g } E = Er) (hi : xev Er iv = some (xv (.int ki jv))) (hg : aq hp gp = some ⟨gp, t0, .row m rows e' sz⟩) (hset' : bx hp gp (t0 + 1) (.row j (rows.take j) e' sz) = some hp') (ht : T.bt.get t = some (.sl e sz by_)) (hb : aw ops Er g = some true ∧ okD x.N (some d) = true) (hj : jv = (j : Int)) (hlt : j ≤ n) (hm : n = m) (hc : c = m)
    (hk : (MS.r ops (push dm ⟨i, [gp], true, false⟩) l k ⟨(d, .a (.c (.l gp (t0 + 1) sz 0 j j))) :: E, hp', nx⟩).ok x) (hdk : DkM dm ops ⟨i, [gp], true, false⟩ := by first | exact trivial | (refine DK.mk ?_; decide +kernel)) : (MS.r ops dm ((i, { dst := some d, op := .slice t o none (some iv) none, type := ty, pos := pos, after := af, guard := g }) :: l) k ⟨E, hp, nx⟩).ok x :=
  MS.wr1 hg hset' hEr hb (LS.pop (T := T) j ho hi ht hj hlt hm hc) hdk hk
theorem Sd {lo hi : Option Operand} {li ri : Option Int} (a b : Nat) (h1 : ia Er lo li) (h2 : ia Er hi ri) (hEr : vis dm ops { dst := some d, op := .slice t o lo hi none, type := ty, pos := pos, after := af, guard := g } E = Er) (ho : xev Er o = some (.a (.c (.d (.s rows))))) (ht : T.bt.get t = some (.sl e sz by_)) (hb : aw ops Er g = some true ∧ okD x.N (some d) = true) (ha : li.getD 0 = (a : Int)) (hbn : ri.getD (rows.length : Int) = (b : Int)) (hab : a ≤ b) (hbl : b ≤ rows.length) (hsz : ∀ r ∈ rows, r.length = sz)
    (hk : (MS.r ops (push dm ⟨i, [], false, false⟩) l k ⟨(d, .a (.c (.d (.s ((rows.drop a).take (b - a)))))) :: E, hp, nx⟩).ok x) (hdk : DkM dm ops ⟨i, [], false, false⟩ := by first | exact trivial | (refine DK.mk ?_; decide +kernel)) : (MS.r ops dm ((i, { dst := some d, op := .slice t o lo hi none, type := ty, pos := pos, after := af, guard := g }) :: l) k ⟨E, hp, nx⟩).ok x :=
  MS.val hEr hb (LS.sd (T := T) a b ho h1 h2 ht ha hbn hab hbl hsz) hdk hk
theorem Sw {tx t' : TypeId} {m n : Int} (hy : xev Er y = some (xv (.int ki m))) (hz : xev Er z = some (xv (.int ki n))) (hEr : vis dm ops { dst := some d, op := .binOp .sub tx y z t', type := ty, pos := pos, after := af, guard := g } E = Er) (hb : aw ops Er g = some true ∧ okD x.N (some d) = true)
    (hk : (MS.r ops (push dm ⟨i, [], false, false⟩) l k ⟨(d, xv (.int ki (ki.wrap (m - n)))) :: E, hp, nx⟩).ok x) (hdk : DkM dm ops ⟨i, [], false, false⟩ := by first | exact trivial | (refine DK.mk ?_; decide +kernel)) : (MS.r ops dm ((i, { dst := some d, op := .binOp .sub tx y z t', type := ty, pos := pos, after := af, guard := g }) :: l) k ⟨E, hp, nx⟩).ok x :=
  MS.val hEr hb (LS.subw hy hz) hdk hk
theorem Mz {jl : Int} {kl kc : IntKind} (n : Nat) (dz : List D) (hy : xev Er y = some (xv (.int kl jl))) (hz : xev Er z = some (xv (.int kc jl))) (hEr : vis dm ops { dst := some d, op := .makeSlice t y z, type := ty, pos := pos, after := af, guard := g } E = Er) (ht : T.bt.get t = some (.sl e sz by_)) (hb : aw ops Er g = some true ∧ okD x.N (some d) = true) (hj : jl = (n : Int)) (hbn : by_ * n ≤ 281474976710656) (hm : n ≤ 9223372036854775807) (hzero : ∀ z : Value, Sl P t e sz by_ z → ∀ H, rdL H dz z.cells.toList)
    (hk : (MS.r ops (push dm ⟨i, [nx], true, false⟩) l k ⟨(d, .a (.c (.l nx 0 sz 0 n n))) :: E, ⟨nx, 0, .row n (List.replicate n dz) e sz⟩ :: hp, nx + 1⟩).ok x) (hdk : DkM dm ops ⟨i, [nx], true, false⟩ := by first | exact trivial | (refine DK.mk ?_; decide +kernel)) : (MS.r ops dm ((i, { dst := some d, op := .makeSlice t y z, type := ty, pos := pos, after := af, guard := g }) :: l) k ⟨E, hp, nx⟩).ok x := by
  subst hEr
  have e0 : ae ([] : XH) ++ List.range' nx (nx + 1 - nx) = [nx] := by simp [ae]
  refine MS.op (fp := []) (rest := hp) true false hb.2 (.refl _) (Nat.le_succ _) (LS.yes (o := { dst := some d, op := .makeSlice t y z, type := ty, pos := pos, after := af, guard := g }) hb.1 (LS.mk (T := T) n dz hy hz ht hj hbn hm hzero)) (by rw [e0]; exact hdk) (fun _ => ⟨_, _, ⟨rfl, rfl⟩, fun _ _ h => h⟩) (fun h => by cases h) ?_
  rintro q fp' ⟨rfl, rfl⟩
  refine ⟨fun b' hb' => .inr ?_, by simp [ae], fun h => (by cases h), _, .refl _, ?_⟩; {
  obtain rfl := List.mem_singleton.1 hb'
  exact ⟨Nat.le_refl _, Nat.lt_succ_self _⟩}; {
  rw [e0]; exact hk}
end
theorem HR.cset {V : Vn} {H : Hp} {Pw : Value → Prop} {g o t e : Nat} {c : List XC} : ∀ {hp : XH} {sg : Seg}, aq hp g = some ⟨g, t, .cells c e⟩ → at_ c o = some (.w Pw) → HR V H hp sg → ∃ v, v.oneCell' = true ∧ Pw v ∧ ∀ c' hp', jq c o [.d (.c v)] = some c' → bx hp g t (.cells c' e) = some hp' → HR V H hp' sg ∧ hp'.map (fun b => (b.g, b.t)) = hp.map fun b => (b.g, b.t)
  | [], _, h, _, _ => by cases h
  | ⟨g', t', o'⟩ :: r, sg, h, hc, ⟨s1, s2, h0, h1, h2⟩ => by
    simp only [aq] at h
    cases hb : Nat.beq g' g with
    | true =>
      rw [hb] at h
      simp only [cond_true, Option.some.injEq, XB.mk.injEq] at h
      obtain ⟨rfl, rfl, rfl⟩ := h
      rcases h1 with ⟨b, ob, ex, k1, k2, us, k3, k4⟩ | ⟨_, _, _, _, k3, _⟩
      {
      obtain ⟨v, q1, q2⟩ := k3.get o _ (jS hc)
      simp only [XC.rel] at q2
      refine ⟨v, q2.1, q2.2, fun c' hp' e1 e2 => ?_⟩
      simp only [bx, hb, cond_true, Option.some.injEq] at e2
      subst e2
      refine ⟨⟨s1, s2, h0, .inl ⟨b, ob, ex, k1, k2, us, ?_, k4⟩, h2⟩, rfl⟩
      have := (eP (us := [v]) e1 k3 ⟨by simp only [XC.rel, rd]; exact ⟨trivial, q2.1⟩, trivial⟩).1
      simp only [cG] at this
      have e9 : (us.toArray.setIfInBounds o v).toList = us := by
        rw [List.setIfInBounds_toArray]
        show us.set o v = us
        have hlt : o < us.length := (List.getElem?_eq_some_iff.1 q1).1
        apply List.ext_getElem?
        intro i
        rw [List.getElem?_set]
        split; {
        rename_i e; subst e; first | exact q1.symm | rw [if_pos hlt, q1]}
        {
        rfl}
      rw [e9] at this
      exact this}; {
      cases k3}
    | false =>
      rw [hb] at h
      simp only [cond_false] at h
      obtain ⟨v, q1, q2, q3⟩ := HR.cset h hc h2
      refine ⟨v, q1, q2, fun c' hp' e1 e2 => ?_⟩
      simp only [bx, hb, cond_false] at e2
      split at e2; {
      rename_i l hl
      cases e2
      obtain ⟨k1, k2⟩ := q3 c' l e1 hl
      exact ⟨⟨s1, s2, h0, h1, k1⟩, by simp only [List.map_cons, k2]⟩}; {
      cases e2}
theorem SR.same {B : Bs} {E : XE} {hp hp' : XH} {nx : Nat} {V : Vn} {H : Hp} {sg : Seg} {env : Env} (hs : SR B ⟨E, hp, nx⟩ V H sg env) (hH : HR V H hp' sg) (hn : hp'.map (fun b => (b.g, b.t)) = hp.map fun b => (b.g, b.t)) : SR B ⟨E, hp', nx⟩ V H sg env := by
  have hmem : ∀ b ∈ hp', ∃ c ∈ hp, c.g = b.g ∧ c.t = b.t := fun b hb => by
    have : (b.g, b.t) ∈ hp.map fun b => (b.g, b.t) := hn ▸ List.mem_map.2 ⟨b, hb, rfl⟩
    obtain ⟨c, hc, e9⟩ := List.mem_map.1 this
    simp only [Prod.mk.injEq] at e9
    exact ⟨c, hc, e9.1, e9.2⟩
  have hnn : ae hp' = ae hp := by
    have := congrArg (List.map Prod.fst) hn
    simpa [ae, List.map_map, Function.comp_def] using this
  refine ⟨hs.lk, hH, fun b hb t ht => ?_, by rw [show ae hp' = ae hp from hnn]; exact hs.nd, hs.fresh, hs.le, hs.vle, hs.keep, fun b hb => ?_, hs.nxle⟩; {
  obtain ⟨c, hc, e1, e2⟩ := hmem b hb
  rw [← e1]; exact hs.top c hc t (by omega)}; {
  obtain ⟨c, hc, e1, _⟩ := hmem b hb
  rw [← e1]; exact hs.sub c hc}
section
variable {P : Program} {x : Cx P} {T : Tb P} {k : List Fr} {E : XE} {hp : XH} {nx : Nat} {Pw : Value → Prop} {c : List XC} {e t : Nat}
theorem Op {q : Code} (g o : Nat) (hg : aq hp g = some ⟨g, t, .cells c e⟩) (hc : at_ c o = some (.w Pw)) (hk : ∀ v, Pw v → ∃ c' hp', jq c o [.d (.c v)] = some c' ∧ bx hp g t (.cells c' e) = some hp' ∧ (MS.c q k ⟨E, hp', nx⟩).ok x) : (MS.c q k ⟨E, hp, nx⟩).ok x := fun V H sg env hs => by
  obtain ⟨v, h1, h2, h3⟩ := HR.cset hg hc hs.hr
  obtain ⟨c', hp', e1, e2, e3⟩ := hk v h2
  obtain ⟨k1, k2⟩ := h3 c' hp' e1 e2
  exact e3 V H sg env (hs.same k1 k2)
theorem HR.wk {V : Vn} {H : Hp} {g t e o : Nat} {c c' : List XC} {v : Value} {hp' : XH} (hv : Pw v) (hc : at_ c o = some (.d (.c v))) (hput : jq c o [.w Pw] = some c') : ∀ {hp hp' : XH} {sg : Seg}, aq hp g = some ⟨g, t, .cells c e⟩ → bx hp g t (.cells c' e) = some hp' → HR V H hp sg → HR V H hp' sg ∧ hp'.map (fun b => (b.g, b.t)) = hp.map fun b => (b.g, b.t)
  | [], _, _, h, _, _ => by cases h
  | ⟨g', t', o'⟩ :: r, hp', sg, h, hst, ⟨s1, s2, h0, h1, h2⟩ => by
    simp only [aq] at h
    simp only [bx] at hst
    cases hb : Nat.beq g' g with
    | true =>
      rw [hb] at h hst
      simp only [cond_true, Option.some.injEq, XB.mk.injEq] at h hst
      obtain ⟨rfl, rfl, rfl⟩ := h
      subst hst
      rcases h1 with ⟨b, ob, ex, k1, k2, us, k3, k4⟩ | ⟨_, _, _, _, k3, _⟩
      {
      obtain ⟨u, q1, q2⟩ := k3.get o _ (jS hc)
      simp only [XC.rel, rd] at q2
      obtain ⟨rfl, q3⟩ := q2
      refine ⟨⟨s1, s2, h0, .inl ⟨b, ob, ex, k1, k2, us, ?_, k4⟩, h2⟩, rfl⟩
      have := (eP (us := [u]) hput k3 ⟨by simp only [XC.rel]; exact ⟨q3, hv⟩, trivial⟩).1
      simp only [cG] at this
      have e9 : (us.toArray.setIfInBounds o u).toList = us := by
        rw [List.setIfInBounds_toArray]
        show us.set o u = us
        have hlt : o < us.length := (List.getElem?_eq_some_iff.1 q1).1
        apply List.ext_getElem?
        intro i
        rw [List.getElem?_set]
        split; {
        rename_i e; subst e; first | exact q1.symm | rw [if_pos hlt, q1]}
        {
        rfl}
      rw [e9] at this
      exact this}; {
      cases k3}
    | false =>
      rw [hb] at h hst
      simp only [cond_false] at h hst
      split at hst; {
      rename_i l hl
      cases hst
      obtain ⟨k1, k2⟩ := HR.wk (hp' := hp') hv hc hput h hl h2
      exact ⟨⟨s1, s2, h0, h1, k1⟩, by simp only [List.map_cons, k2]⟩}; {
      cases hst}
theorem SRto.wk {c' : List XC} {v : Value} {hp' : XH} (g o : Nat) (Pw : Value → Prop) (hg : aq hp g = some ⟨g, t, .cells c e⟩) (hc : at_ c o = some (.d (.c v))) (hput : jq c o [.w Pw] = some c') (hset' : bx hp g t (.cells c' e) = some hp') (hv : Pw v) : SRto ⟨E, hp, nx⟩ ⟨E, hp', nx⟩ := fun B V H sg env hs => by
  obtain ⟨k1, k2⟩ := HR.wk (hp' := hp') hv hc hput hg hset' hs.hr
  exact ⟨V, hs.same k1 k2⟩
end
abbrev XKp (P : Program) (pk : Pk) (f : FuncId) (args : List XV) (B : XH) (m : Nat) (Ψ : XV → Prop) : Prop := XM P pk f args B m m (fun r hp' => Ψ r ∧ hp' = B)
section
variable {P : Program} {f : FuncId} {fn : Func} {args : List XV} {N m : Nat} {B : XH} {Ψ : XV → Prop}
variable {x : Cx P} {k : List Fr} {E Er : XE} {hp : XH} {nx i : Nat} {ops : List Oper} {dm : Option (List Rc)} {l : List (Nat × Oper)} {d : Option Tmp} {ty : TypeId} {pos : String} {af : Array Edge} {g : Option (Nat × Bool)}
theorem Ck {opd : Operand} {xs : List Operand} {tys : Array TypeId} {fv : XV} {us : List XV} {ps rest : XH} (gs : List Nat) (h : XKp P x.B.pk f args B m Ψ)
    (hEr : vis dm ops { dst := d, op := .call { callee := .value opd, args := xs.toArray, argTypes := tys }, type := ty, pos := pos, after := af, guard := g } E = Er) (hfv : xev Er opd = some fv) (hfn : fnv fv = some (f, [], [])) (hus : eb (xev Er) xs = some us) (hpk : dY gs hp = some (ps, rest))
    (hargs : cos (XVs.ren (muc gs m nx (ps.map (·.t))) args) us = XVs.ren (muc gs m nx (ps.map (·.t))) args) (hfp : ps = bn (muc gs m nx (ps.map (·.t))) B) (hb : (aw ops Er g = some true ∧ ae ps = gs) ∧ (okD x.N d && (bp gs && gs.all (fun g => Nat.blt g nx))) = true)
    (hk : ∀ r, Ψ r → (MS.r ops (push dm ⟨i, gs, false, true⟩) l k ⟨b8 d (r.ren (muc gs m nx (ps.map (·.t)))) E, ps ++ rest, nx⟩).ok x)
    (hdk : DkM dm ops ⟨i, gs, false, true⟩ := by first | exact trivial | (refine DK.mk ?_; decide +kernel)) (hrl : RlM dm ops i l := by first | exact trivial | (refine RL.mk ?_; decide +kernel)) :
    (MS.r ops dm ((i, { dst := d, op := .call { callee := .value opd, args := xs.toArray, argTypes := tys }, type := ty, pos := pos, after := af, guard := g }) :: l) k ⟨E, hp, nx⟩).ok x := by
  obtain ⟨hc, hm, hcl, h3⟩ := h
  have e1 : List.range' nx (nx + (m - m) - nx) = [] := by simp
  have e0 : ae ps ++ List.range' nx (nx + (m - m) - nx) = gs := by rw [hb.1.2, e1, List.append_nil]
  refine MS.call gs false true h3 hEr hfv hfn hcl hus hpk (SubV.stat hargs) hfp hc ⟨hb.1, ?_⟩ (by rw [e0]; exact hdk) (fun _ r hp' h => ⟨by rw [h.2]; exact hfp.symm, by simp⟩) (fun h => by cases h) (fun _ => hrl) ?_; {
  have h2 := hb.2
  simp only [Bool.and_eq_true] at h2 ⊢
  exact ⟨h2.1, h2.2.1, h2.2.2, hm⟩}; {
  rintro r hp' ⟨hΦ, rfl⟩
  rw [e0, ← hfp, Nat.sub_self, Nat.add_zero]
  exact hk r hΦ}
abbrev XS' (P : Program) (pk : Pk) (f : FuncId) (args : List XV) (B : XH) (m : Nat) {α : Type} (I : α → Prop) (R : α → XV) (F : α → XH) : Prop := XM P pk f args B m m (fun r hp' => ∃ a, I a ∧ r = R a ∧ hp' = F a)
theorem Cx' {opd : Operand} {xs : List Operand} {tys : Array TypeId} {fv : XV} {us : List XV} {ps rest : XH} {α : Type} {I : α → Prop} {R : α → XV} {F : α → XH} (gs : List Nat) (X : α → XH) (h : XS' P x.B.pk f args B m I R F)
    (hEr : vis dm ops { dst := d, op := .call { callee := .value opd, args := xs.toArray, argTypes := tys }, type := ty, pos := pos, after := af, guard := g } E = Er) (hfv : xev Er opd = some fv) (hfn : fnv fv = some (f, [], [])) (hus : eb (xev Er) xs = some us) (hpk : dY gs hp = some (ps, rest))
    (hargs : cos (XVs.ren (muc gs m nx (ps.map (·.t))) args) us = XVs.ren (muc gs m nx (ps.map (·.t))) args) (hfp : ps = bn (muc gs m nx (ps.map (·.t))) B) (hb : (aw ops Er g = some true ∧ ae ps = gs) ∧ (okD x.N d && (bp gs && gs.all (fun g => Nat.blt g nx))) = true) (hX : ∀ a, bn (muc gs m nx (ps.map (·.t))) (F a) = X a) (hR : ∀ a, pure (R a) = true)
    (hk : ∀ a, I a → (MS.r ops (push dm ⟨i, gs, true, true⟩) l k ⟨b8 d (R a) E, X a ++ rest, nx⟩).ok x)
    (hdk : DkM dm ops ⟨i, gs, true, true⟩ := by first | exact trivial | (refine DK.mk ?_; decide +kernel)) (hrl : RlM dm ops i l := by first | exact trivial | (refine RL.mk ?_; decide +kernel)) :
    (MS.r ops dm ((i, { dst := d, op := .call { callee := .value opd, args := xs.toArray, argTypes := tys }, type := ty, pos := pos, after := af, guard := g }) :: l) k ⟨E, hp, nx⟩).ok x := by
  have e1 : gs ++ List.range' nx (m - m) = gs := by simp
  refine Cm gs h hEr hfv hfn hus hpk hargs hfp hb ?_ (by rw [e1]; exact hdk) hrl
  rintro r hp' ⟨a, hI, rfl, rfl⟩
  rw [e1, hX a, XV.ren_pure (hR a), Nat.sub_self, Nat.add_zero]
  exact hk a hI
theorem Cy {opd : Operand} {xs : List Operand} {tys : Array TypeId} {fv : XV} {us : List XV} {ps rest : XH} {α : Type} {I : α → Prop} {R : α → XV} {F : α → XH} {m' nx' : Nat} {d : Tmp} (gs : List Nat) (R' : α → XV) (X : α → XH) (h : XM P x.B.pk f args B m m' (fun r hp' => ∃ a, I a ∧ r = R a ∧ hp' = F a))
    (hEr : vis dm ops { dst := some d, op := .call { callee := .value opd, args := xs.toArray, argTypes := tys }, type := ty, pos := pos, after := af, guard := g } E = Er) (hfv : xev Er opd = some fv) (hfn : fnv fv = some (f, [], [])) (hus : eb (xev Er) xs = some us) (hpk : dY gs hp = some (ps, rest))
    (hargs : cos (XVs.ren (muc gs m nx (ps.map (·.t))) args) us = XVs.ren (muc gs m nx (ps.map (·.t))) args) (hfp : ps = bn (muc gs m nx (ps.map (·.t))) B) (hb : (aw ops Er g = some true ∧ ae ps = gs) ∧ (okD x.N (some d) && (bp gs && gs.all (fun g => Nat.blt g nx))) = true) (hX : ∀ a, bn (muc gs m nx (ps.map (·.t))) (F a) = X a) (hR : ∀ a, (R a).ren (muc gs m nx (ps.map (·.t))) = R' a) (hn : nx + (m' - m) = nx')
    (hk : ∀ a, I a → (MS.r ops (push dm ⟨i, gs ++ List.range' nx (m' - m), true, true⟩) l k ⟨(d, R' a) :: E, X a ++ rest, nx'⟩).ok x)
    (hdk : DkM dm ops ⟨i, gs ++ List.range' nx (m' - m), true, true⟩ := by first | exact trivial | (refine DK.mk ?_; decide +kernel)) (hrl : RlM dm ops i l := by first | exact trivial | (refine RL.mk ?_; decide +kernel)) :
    (MS.r ops dm ((i, { dst := some d, op := .call { callee := .value opd, args := xs.toArray, argTypes := tys }, type := ty, pos := pos, after := af, guard := g }) :: l) k ⟨E, hp, nx⟩).ok x := by
  refine Cm gs h hEr hfv hfn hus hpk hargs hfp hb ?_ hdk hrl
  rintro r hp' ⟨a, hI, rfl, rfl⟩
  rw [hX a, hn]
  show (MS.r _ _ _ _ ⟨(d, (R a).ren _) :: E, _, _⟩).ok x
  rw [hR a]
  exact hk a hI
theorem Nqn {α : Type} {S : α → XS} {I : α → Prop} {μ : α → Nat} {n : Nat} {s : XS} (nm : Nat → Nat) (a : α) (hI : I a) (hlt : μ a < n) (hm : Mt x.B.nx0 x.B.F s (S a) nm := by exact ⟨⟨_, _, rfl, rfl⟩, rfl, rfl⟩) : (MS.e .normal (.l (fun n s => ∃ a, I a ∧ n = μ a ∧ s = S a) n :: k) s).ok x := ME.next (μ a) hm hlt ⟨a, hI, rfl, rfl⟩
end
section
variable {P : Program} {pk : Pk} {T : Tb P} {Er : XE} {nx : Nat} {ops : Array Oper} {d : Option Tmp} {ty : TypeId} {pos : String} {af : Array Edge}
theorem LS.br {t : TypeId} {len e sz by_ : Nat} {ps : List (Nat × Operand)} {l : List (Nat × List XC)} {rows : List (List D)} (h1 : eO (xev Er) ps = some l) (hti : T.bt.get t = some (.sl e sz by_)) (hb : (Nat.beq l.length len && Nat.ble (len * sz) 16777216) = true) (hr : mM sz 0 l = some rows) :
    LS P pk ops { dst := d, op := .buildSlice t len ps.toArray, type := ty, pos := pos, after := af, guard := none } Er [] nx (nx + 1) (fun x fp' => x = .a (.c (.l nx 0 sz 0 len len)) ∧ fp' = [⟨nx, 0, .row len rows e sz⟩]) := by
  intro w0 N Q rest env own H V sg hl hV htp hf hd _ hh
  have htk := BT.all_get T.ok hti
  simp only [Bool.and_eq_true] at hb
  obtain ⟨pv, h2, h3⟩ := du hl.lks h1
  obtain ⟨z, hS⟩ := bC htk
  obtain ⟨k1, k2, k3, k4⟩ := kI hr h3
  have hlen : pv.length = len := by
    rw [← Nat.eq_of_beq_eq_true hb.1]
    clear k1 k2 k3 h2 hr h1 hb
    induction l generalizing pv with
    | nil => cases pv with | nil => rfl | cons => exact h3.elim
    | cons a l ih => cases pv with | nil => exact h3.elim | cons p pv => rw [List.length_cons, List.length_cons, ih pv h3.2]
  obtain rfl := HR0 hV
  have hsz := hS.pos
  have hb2 := Nat.le_of_ble_eq_true hb.2
  have hl2 : len ≤ len * sz := Nat.le_mul_of_pos_right _ hsz
  have := TL.litF (hu := hS) (ty := ty) (pos := pos) (af := af) (rest := rest) (ops := ops) (Q := Q) (own := [] :: own) (H := H) (w0 := w0) pv h2 hb.2 (by rw [k1, hlen]; simp) rfl hd (fun g => ?_)
  · simpa using this
  · obtain ⟨f1, f2, f3⟩ := cm (V := V) (H := H) (nx := nx) (g := g) (ex := 0) (o := .cells (pv.flatMap (·.2)).toArray e (0, 0)) (xo := .row len rows e sz) hf ⟨pv.flatMap (·.2), [], by rw [k3, hlen], k2, k4, by simp, by simp, by have : maxLen = 9223372036854775807 := rfl; omega, hsz⟩
    exact TL.flat (own' := [(g, .cells (pv.flatMap (·.2)).toArray e (0, 0))] :: own) (List.Perm.refl _) (hh _ _ _ _ H _ ⟨rfl, rfl⟩ (by
      simp only [XV.rel, XA.rel, XC.rel]
      exact ⟨some g, 0, Vn.new_at .., by simp⟩) f1 f2 f3 (Le.refl _))
theorem LS.ap {t : TypeId} {o y : Operand} {e sz by_ g t0 n m' : Nat} {rows rows' : List (List D)} (ho : xev Er o = some (.a (.c (.l g t0 sz 0 n n)))) (hy : xev Er y = some (.a (.c (.d (.s rows'))))) (ht : T.bt.get t = some (.sl e sz by_)) (hm : m' = rows'.length) (hl : ∀ r ∈ rows', r.length = sz) (h1 : n + m' ≤ 9223372036854775807) (h2 : (n + m') * by_ ≤ 140737488355328) :
    LS P pk ops { dst := d, op := .call { callee := .builtin .append, args := [o, y].toArray, argTypes := [t, t].toArray }, type := ty, pos := pos, after := af, guard := none } Er [⟨g, t0, .row n rows e sz⟩] nx nx (fun x fp' => x = .a (.c (.l g (t0 + 1) sz 0 (n + m') (n + m'))) ∧ fp' = [⟨g, t0 + 1, .row (n + m') (rows ++ rows') e sz⟩]) := by
  intro w0 N Q rest env own H V sg hlk hV htp hf hd _ hh
  obtain ⟨v, a1, a2⟩ := hlk.lks _ _ ho
  obtain ⟨w, a3, a4⟩ := hlk.lks _ _ hy
  obtain ⟨z, hS⟩ := bC (BT.all_get T.ok ht)
  simp only [XV.rel, XA.rel] at a2
  simp only [XV.rel, XA.rel, XC.rel] at a4
  have hx : kL nx (fun _ => some ⟨g, t0, .row n rows e sz⟩) e sz by_ rows' m' [∀ r ∈ rows', r.length = sz] (.l g t0 sz 0 n n) = some (.w (.a (.c (.l g (t0 + 1) sz 0 (n + m') (n + m')))) g (t0 + 1) (.row (n + m') (rows ++ rows') e sz), [t0 = t0, n = n, n = n, n + m' ≤ 9223372036854775807, (n + m') * by_ ≤ 140737488355328, ∀ r ∈ rows', r.length = sz]) := by
    simp only [kL, show ∀ a, Nat.beq a a = true from Nat.beq_refl, Bool.and_self, cond_true]
  exact iH (ob0 := [∀ r ∈ rows', r.length = sz]) (get := fun _ => some ⟨g, t0, .row n rows e sz⟩) hS hm (fun h => h.1) hx ⟨rfl, rfl, rfl, h1, h2, hl, trivial⟩ ⟨v, a1, a2⟩ ⟨w, a3, a4⟩ hV htp hf hd hh
end
section
variable {P : Program} {x : Cx P} {T : Tb P} {k : List Fr} {E Er : XE} {hp hp' : XH} {nx i : Nat} {ops : List Oper} {dm : Option (List Rc)} {l : List (Nat × Oper)} {d : Tmp} {ty : TypeId} {pos : String} {af : Array Edge} {g : Option (Nat × Bool)}
theorem Br {t : TypeId} {len e sz by_ : Nat} {ps : List (Nat × Operand)} {lx : List (Nat × List XC)} {rows : List (List D)} (hEr : vis dm ops { dst := some d, op := .buildSlice t len ps.toArray, type := ty, pos := pos, after := af, guard := g } E = Er) (h1 : eO (xev Er) ps = some lx) (ht : T.bt.get t = some (.sl e sz by_)) (hbl : (Nat.beq lx.length len && Nat.ble (len * sz) 16777216) = true) (hr : mM sz 0 lx = some rows) (hb : aw ops Er g = some true ∧ okD x.N (some d) = true)
    (hk : (MS.r ops (push dm ⟨i, [nx], true, false⟩) l k ⟨(d, .a (.c (.l nx 0 sz 0 len len))) :: E, ⟨nx, 0, .row len rows e sz⟩ :: hp, nx + 1⟩).ok x) (hdk : DkM dm ops ⟨i, [nx], true, false⟩ := by first | exact trivial | (refine DK.mk ?_; decide +kernel)) : (MS.r ops dm ((i, { dst := some d, op := .buildSlice t len ps.toArray, type := ty, pos := pos, after := af, guard := g }) :: l) k ⟨E, hp, nx⟩).ok x := by
  subst hEr
  have e0 : ae ([] : XH) ++ List.range' nx (nx + 1 - nx) = [nx] := by simp [ae]
  refine MS.op (fp := []) (rest := hp) true false hb.2 (.refl _) (Nat.le_succ _) (LS.yes (o := { dst := some d, op := .buildSlice t len ps.toArray, type := ty, pos := pos, after := af, guard := g }) hb.1 (LS.br (T := T) h1 ht hbl hr)) (by rw [e0]; exact hdk) (fun _ => ⟨_, _, ⟨rfl, rfl⟩, fun _ _ h => h⟩) (fun h => by cases h) ?_
  rintro q fp' ⟨rfl, rfl⟩
  refine ⟨fun b' hb' => .inr ?_, by simp [ae], fun h => (by cases h), _, .refl _, ?_⟩; {
  obtain rfl := List.mem_singleton.1 hb'
  exact ⟨Nat.le_refl _, Nat.lt_succ_self _⟩}; {
  rw [e0]; exact hk}
theorem Ap {t : TypeId} {o y : Operand} {e sz by_ gp t0 n m' : Nat} {rows rows' : List (List D)} (hm : m' = rows'.length) (hl : ∀ r ∈ rows', r.length = sz) (hEr : vis dm ops { dst := some d, op := .call { callee := .builtin .append, args := [o, y].toArray, argTypes := [t, t].toArray }, type := ty, pos := pos, after := af, guard := g } E = Er) (ho : xev Er o = some (.a (.c (.l gp t0 sz 0 n n)))) (hy : xev Er y = some (.a (.c (.d (.s rows'))))) (hg : aq hp gp = some ⟨gp, t0, .row n rows e sz⟩) (hset' : bx hp gp (t0 + 1) (.row (n + m') (rows ++ rows') e sz) = some hp') (ht : T.bt.get t = some (.sl e sz by_)) (hb : aw ops Er g = some true ∧ okD x.N (some d) = true) (h1 : n + m' ≤ 9223372036854775807) (h2 : (n + m') * by_ ≤ 140737488355328)
    (hk : (MS.r ops (push dm ⟨i, [gp], true, false⟩) l k ⟨(d, .a (.c (.l gp (t0 + 1) sz 0 (n + m') (n + m')))) :: E, hp', nx⟩).ok x) (hdk : DkM dm ops ⟨i, [gp], true, false⟩ := by first | exact trivial | (refine DK.mk ?_; decide +kernel)) : (MS.r ops dm ((i, { dst := some d, op := .call { callee := .builtin .append, args := [o, y].toArray, argTypes := [t, t].toArray }, type := ty, pos := pos, after := af, guard := g }) :: l) k ⟨E, hp, nx⟩).ok x :=
  MS.wr1 hg hset' hEr hb (LS.ap (T := T) ho hy ht hm hl h1 h2) hdk hk
end
open Go.Proofs
def tbt : BT := (.n 169 (.f) (.n 84 (.st 5 [(0, 1), (1, 4)] [.s, .i .i64, .s, .i .i64, .n]) (.n 43 (.f) (.n 21 (.i .i32) (.n 11 (.s) (.n 6 (.i .u8) (.n 3 (.i .i64) (.n 2 (.i .i64) (.n 1 (.f) .e .e) .e) (.n 5 (.i .u8) (.n 4 (.b) .e .e) .e)) (.n 9 (.s) (.n 8 (.st 4 [(0, 1), (1, 1), (2, 1), (3, 1)] [.i .i64, .i .i64, .b, .i .u8]) (.n 7 (.st 4 [(0, 1), (1, 1), (2, 1), (3, 1)] [.i .i64, .i .i64, .b, .i .u8]) .e .e) .e) (.n 10 (.s) .e .e))) (.n 16 (.p) (.n 14 (.st 2 [(0, 1), (1, 1)] [.s, .i .u64]) (.n 13 (.st 2 [(0, 1), (1, 1)] [.s, .i .u64]) (.n 12 (.i .u64) .e .e) .e) (.n 15 (.p) .e .e)) (.n 19 (.st 1 [(0, 1)] [.p]) (.n 18 (.st 1 [(0, 1)] [.p]) (.n 17 (.p) .e .e) .e) (.n 20 (.e) .e .e)))) (.n 31 (.f) (.n 26 (.sl 63 8 104) (.n 24 (.f) (.n 23 (.ar 3 3 1 [.i .i64, .i .i64, .i .i64]) (.n 22 (.sl 3 1 8) .e .e) .e) (.n 25 (.sl 87 3 48) .e .e)) (.n 29 (.st 3 [(0, 1), (1, 1), (2, 1)] [.n, .n, .n]) (.n 28 (.st 3 [(0, 1), (1, 1), (2, 1)] [.n, .n, .n]) (.n 27 (.sl 61 10 144) .e .e) .e) (.n 30 (.f) .e .e))) (.n 36 (.sl 4 1 1) (.n 34 (.st 2 [(0, 1), (1, 1)] [.n, .n]) (.n 33 (.st 2 [(0, 1), (1, 1)] [.n, .n]) (.n 32 (.sl 48 4 32) .e .e) .e) (.n 35 (.f) .e .e)) (.n 40 (.f) (.n 39 (.f) (.n 38 (.f) .e .e) .e) (.n 42 (.f) .e .e))))) (.n 64 (.f) (.n 54 (.st 4 [(0, 1), (1, 1), (2, 1), (3, 1)] [.i .i64, .s, .i .i64, .n]) (.n 49 (.f) (.n 47 (.st 4 [(0, 1), (1, 1), (2, 1), (3, 1)] [.i .i64, .i .i64, .i .i64, .i .i64]) (.n 46 (.f) (.n 44 (.i .i64) .e .e) .e) (.n 48 (.st 4 [(0, 1), (1, 1), (2, 1), (3, 1)] [.i .i64, .i .i64, .i .i64, .i .i64]) .e .e)) (.n 52 (.sl 85 5 72) (.n 51 (.f) (.n 50 (.f) .e .e) .e) (.n 53 (.sl 55 4 56) .e .e))) (.n 59 (.st 2 [(0, 1), (1, 1)] [.i .i64, .i .u16]) (.n 57 (.i .u16) (.n 56 (.sl 71 11 184) (.n 55 (.st 4 [(0, 1), (1, 1), (2, 1), (3, 1)] [.i .i64, .s, .i .i64, .n]) .e .e) .e) (.n 58 (.st 2 [(0, 1), (1, 1)] [.i .i64, .i .u16]) .e .e)) (.n 62 (.st 8 [(0, 1), (1, 4), (5, 1), (6, 1), (7, 1)] [.s, .i .i64, .s, .i .i64, .n, .i .i64, .i .u16, .s]) (.n 61 (.st 10 [(0, 1), (1, 1), (2, 4), (6, 1), (7, 1), (8, 2)] [.s, .n, .i .i64, .s, .i .i64, .n, .n, .b, .i .i64, .i .u16]) (.n 60 (.st 10 [(0, 1), (1, 1), (2, 4), (6, 1), (7, 1), (8, 2)] [.s, .n, .i .i64, .s, .i .i64, .n, .n, .b, .i .i64, .i .u16]) .e .e) .e) (.n 63 (.st 8 [(0, 1), (1, 4), (5, 1), (6, 1), (7, 1)] [.s, .i .i64, .s, .i .i64, .n, .i .i64, .i .u16, .s]) .e .e)))) (.n 74 (.st 4 [(0, 1), (1, 1), (2, 1), (3, 1)] [.i .i64, .s, .i .u16, .n]) (.n 69 (.sl 56 1 24) (.n 67 (.f) (.n 66 (.f) (.n 65 (.f) .e .e) .e) (.n 68 (.sl 75 4 56) .e .e)) (.n 72 (.f) (.n 71 (.st 11 [(0, 1), (1, 1), (2, 4), (6, 1), (7, 1), (8, 1), (9, 1), (10, 1)] [.i .i64, .s, .i .i64, .s, .i .i64, .n, .i .u16, .n, .n, .n, .n]) (.n 70 (.st 11 [(0, 1), (1, 1), (2, 4), (6, 1), (7, 1), (8, 1), (9, 1), (10, 1)] [.i .i64, .s, .i .i64, .s, .i .i64, .n, .i .u16, .n, .n, .n, .n]) .e .e) .e) (.n 73 (.f) .e .e))) (.n 79 (.f) (.n 77 (.f) (.n 76 (.f) (.n 75 (.st 4 [(0, 1), (1, 1), (2, 1), (3, 1)] [.i .i64, .s, .i .u16, .n]) .e .e) .e) (.n 78 (.f) .e .e)) (.n 82 (.p) (.n 81 (.p) (.n 80 (.f) .e .e) .e) (.n 83 (.sl 9 1 16) .e .e)))))) (.n 125 (.st 2 [(0, 1), (1, 1)] [.b, .i .i64]) (.n 104 (.st 6 [(0, 1), (1, 1), (2, 1), (3, 1), (4, 2)] [.p, .p, .m, .m, .n, .n]) (.n 94 (.f) (.n 89 (.p) (.n 87 (.st 3 [(0, 1), (1, 1), (2, 1)] [.s, .b, .n]) (.n 86 (.st 3 [(0, 1), (1, 1), (2, 1)] [.s, .b, .n]) (.n 85 (.st 5 [(0, 1), (1, 4)] [.s, .i .i64, .s, .i .i64, .n]) .e .e) .e) (.n 88 (.f) .e .e)) (.n 92 (.f) (.n 91 (.st 11 [(0, 1), (1, 1), (2, 1), (3, 1), (4, 1), (5, 1), (6, 1), (7, 1), (8, 1), (9, 1), (10, 1)] [.n, .i .i64, .i .i64, .i .i64, .i .i64, .n, .i .i64, .n, .i .i64, .i .i64, .n]) (.n 90 (.st 11 [(0, 1), (1, 1), (2, 1), (3, 1), (4, 1), (5, 1), (6, 1), (7, 1), (8, 1), (9, 1), (10, 1)] [.n, .i .i64, .i .i64, .i .i64, .i .i64, .n, .i .i64, .n, .i .i64, .i .i64, .n]) .e .e) .e) (.n 93 (.f) .e .e))) (.n 99 (.p) (.n 97 (.f) (.n 96 (.f) (.n 95 (.f) .e .e) .e) (.n 98 (.f) .e .e)) (.n 102 (.m 163 3) (.n 101 (.f) (.n 100 (.p) .e .e) .e) (.n 103 (.m 163 4) .e .e)))) (.n 115 (.st 2 [(0, 1), (1, 1)] [.b, .i .i64]) (.n 110 (.st 7 [(0, 3), (3, 1), (4, 1), (5, 1), (6, 1)] [.n, .n, .n, .m, .m, .n, .m]) (.n 108 (.sl 155 1 24) (.n 107 (.m 9 3) (.n 105 (.st 6 [(0, 1), (1, 1), (2, 1), (3, 1), (4, 2)] [.p, .p, .m, .m, .n, .n]) .e .e) .e) (.n 109 (.m 115 3) .e .e)) (.n 113 (.f) (.n 112 (.f) (.n 111 (.st 7 [(0, 3), (3, 1), (4, 1), (5, 1), (6, 1)] [.n, .n, .n, .m, .m, .n, .m]) .e .e) .e) (.n 114 (.st 2 [(0, 1), (1, 1)] [.b, .i .i64]) .e .e))) (.n 120 (.p) (.n 118 (.sl 120 1 8) (.n 117 (.f) (.n 116 (.f) .e .e) .e) (.n 119 (.f) .e .e)) (.n 123 (.st 6 [(0, 3), (3, 1), (4, 1), (5, 1)] [.n, .n, .n, .p, .s, .n]) (.n 122 (.sl 126 2 16) (.n 121 (.p) .e .e) .e) (.n 124 (.st 6 [(0, 3), (3, 1), (4, 1), (5, 1)] [.n, .n, .n, .p, .s, .n]) .e .e))))) (.n 147 (.f) (.n 135 (.f) (.n 130 (.st 2 [(0, 1), (1, 1)] [.n, .n]) (.n 128 (.p) (.n 127 (.f) (.n 126 (.st 2 [(0, 1), (1, 1)] [.b, .i .i64]) .e .e) .e) (.n 129 (.st 2 [(0, 1), (1, 1)] [.n, .n]) .e .e)) (.n 133 (.f) (.n 132 (.f) (.n 131 (.f) .e .e) .e) (.n 134 (.f) .e .e))) (.n 141 (.st 4 [(0, 1), (1, 1), (2, 1), (3, 1)] [.i .i64, .i .i64, .i .i64, .s]) (.n 139 (.f) (.n 137 (.m 141 3) (.n 136 (.sl 5 1 1) .e .e) .e) (.n 140 (.st 4 [(0, 1), (1, 1), (2, 1), (3, 1)] [.i .i64, .i .i64, .i .i64, .s]) .e .e)) (.n 145 (.f) (.n 144 (.f) (.n 143 (.f) .e .e) .e) (.n 146 (.f) .e .e)))) (.n 157 (.f) (.n 152 (.f) (.n 150 (.f) (.n 149 (.f) (.n 148 (.f) .e .e) .e) (.n 151 (.f) .e .e)) (.n 155 (.sl 115 2 16) (.n 154 (.f) (.n 153 (.f) .e .e) .e) (.n 156 (.m 9 4) .e .e))) (.n 163 (.ar 2 3 1 [.i .i64, .i .i64]) (.n 161 (.f) (.n 159 (.f) (.n 158 (.f) .e .e) .e) (.n 162 (.f) .e .e)) (.n 167 (.st 4 [(0, 1), (1, 1), (2, 1), (3, 1)] [.p, .p, .m, .m]) (.n 166 (.st 4 [(0, 1), (1, 1), (2, 1), (3, 1)] [.p, .p, .m, .m]) (.n 165 (.p) .e .e) .e) (.n 168 (.f) .e .e))))))) (.n 251 (.f) (.n 210 (.st 4 [(0, 1), (1, 1), (2, 1), (3, 1)] [.n, .i .i64, .i .i64, .i .i64]) (.n 190 (.f) (.n 180 (.f) (.n 175 (.sl 177 4 32) (.n 172 (.st 2 [(0, 1), (1, 1)] [.f, .i .i64]) (.n 171 (.f) (.n 170 (.f) .e .e) .e) (.n 174 (.sl 173 2 16) (.n 173 (.st 2 [(0, 1), (1, 1)] [.f, .i .i64]) .e .e) .e)) (.n 178 (.f) (.n 177 (.ar 2 115 2 [.b, .i .i64, .b, .i .i64]) (.n 176 (.f) .e .e) .e) (.n 179 (.f) .e .e))) (.n 185 (.f) (.n 183 (.f) (.n 182 (.f) (.n 181 (.i .u64) .e .e) .e) (.n 184 (.f) .e .e)) (.n 188 (.f) (.n 187 (.f) (.n 186 (.f) .e .e) .e) (.n 189 (.f) .e .e)))) (.n 200 (.f) (.n 195 (.f) (.n 193 (.st 4 [(0, 1), (1, 1), (2, 1), (3, 1)] [.i .i64, .i .i64, .i .i64, .i .i64]) (.n 192 (.f) (.n 191 (.f) .e .e) .e) (.n 194 (.st 4 [(0, 1), (1, 1), (2, 1), (3, 1)] [.i .i64, .i .i64, .i .i64, .i .i64]) .e .e)) (.n 198 (.st 13 [(0, 1), (1, 10), (11, 1), (12, 1)] [.p, .s, .n, .i .i64, .s, .i .i64, .n, .n, .b, .i .i64, .i .u16, .n, .n]) (.n 197 (.f) (.n 196 (.p) .e .e) .e) (.n 199 (.st 13 [(0, 1), (1, 10), (11, 1), (12, 1)] [.p, .s, .n, .i .i64, .s, .i .i64, .n, .n, .b, .i .i64, .i .u16, .n, .n]) .e .e))) (.n 205 (.f) (.n 203 (.f) (.n 202 (.f) (.n 201 (.sl 22 1 24) .e .e) .e) (.n 204 (.f) .e .e)) (.n 208 (.sl 213 4 40) (.n 207 (.p) (.n 206 (.f) .e .e) .e) (.n 209 (.f) .e .e))))) (.n 230 (.f) (.n 220 (.f) (.n 215 (.p) (.n 213 (.st 4 [(0, 1), (1, 1), (2, 1), (3, 1)] [.i .i64, .s, .i .i64, .i .i64]) (.n 212 (.st 4 [(0, 1), (1, 1), (2, 1), (3, 1)] [.i .i64, .s, .i .i64, .i .i64]) (.n 211 (.st 4 [(0, 1), (1, 1), (2, 1), (3, 1)] [.n, .i .i64, .i .i64, .i .i64]) .e .e) .e) (.n 214 (.f) .e .e)) (.n 218 (.f) (.n 217 (.f) (.n 216 (.f) .e .e) .e) (.n 219 (.f) .e .e))) (.n 225 (.f) (.n 223 (.f) (.n 222 (.f) (.n 221 (.f) .e .e) .e) (.n 224 (.f) .e .e)) (.n 228 (.f) (.n 227 (.sl 163 2 16) (.n 226 (.m 177 4) .e .e) .e) (.n 229 (.f) .e .e)))) (.n 240 (.f) (.n 235 (.f) (.n 233 (.f) (.n 232 (.f) (.n 231 (.f) .e .e) .e) (.n 234 (.f) .e .e)) (.n 238 (.f) (.n 237 (.f) (.n 236 (.f) .e .e) .e) (.n 239 (.f) .e .e))) (.n 246 (.f) (.n 244 (.f) (.n 243 (.f) (.n 241 (.i .i64) .e .e) .e) (.n 245 (.f) .e .e)) (.n 249 (.f) (.n 248 (.i .u32) (.n 247 (.f) .e .e) .e) (.n 250 (.i .u64) .e .e)))))) (.n 291 (.f) (.n 271 (.f) (.n 261 (.f) (.n 256 (.f) (.n 254 (.f) (.n 253 (.f) (.n 252 (.f) .e .e) .e) (.n 255 (.f) .e .e)) (.n 259 (.f) (.n 258 (.f) (.n 257 (.f) .e .e) .e) (.n 260 (.f) .e .e))) (.n 266 (.st 5 [(0, 3), (3, 1), (4, 1)] [.n, .n, .n, .n, .n]) (.n 264 (.f) (.n 263 (.f) (.n 262 (.f) .e .e) .e) (.n 265 (.st 5 [(0, 3), (3, 1), (4, 1)] [.n, .n, .n, .n, .n]) .e .e)) (.n 269 (.f) (.n 268 (.f) (.n 267 (.f) .e .e) .e) (.n 270 (.f) .e .e)))) (.n 281 (.m 115 115) (.n 276 (.f) (.n 274 (.f) (.n 273 (.f) (.n 272 (.f) .e .e) .e) (.n 275 (.f) .e .e)) (.n 279 (.f) (.n 278 (.f) (.n 277 (.f) .e .e) .e) (.n 280 (.f) .e .e))) (.n 286 (.f) (.n 284 (.i .u64) (.n 283 (.f) (.n 282 (.f) .e .e) .e) (.n 285 (.f) .e .e)) (.n 289 (.f) (.n 288 (.p) (.n 287 (.f) .e .e) .e) (.n 290 (.f) .e .e))))) (.n 313 (.f) (.n 303 (.ar 6 3 1 [.i .i64, .i .i64, .i .i64, .i .i64, .i .i64, .i .i64]) (.n 297 (.f) (.n 295 (.f) (.n 294 (.f) (.n 292 (.f) .e .e) .e) (.n 296 (.f) .e .e)) (.n 300 (.p) (.n 299 (.f) (.n 298 (.f) .e .e) .e) (.n 302 (.f) .e .e))) (.n 308 (.ar 2 55 4 [.i .i64, .s, .i .i64, .n, .i .i64, .s, .i .i64, .n]) (.n 306 (.f) (.n 305 (.f) (.n 304 (.f) .e .e) .e) (.n 307 (.f) .e .e)) (.n 311 (.f) (.n 310 (.f) (.n 309 (.f) .e .e) .e) (.n 312 (.f) .e .e)))) (.n 323 (.st 0 [(0, 0)] []) (.n 318 (.f) (.n 316 (.sl 83 1 24) (.n 315 (.f) (.n 314 (.f) .e .e) .e) (.n 317 (.f) .e .e)) (.n 321 (.ar 0 16 1 []) (.n 320 (.st 4 [(0, 1), (1, 1), (2, 1), (3, 1)] [.p, .p, .p, .s]) (.n 319 (.st 4 [(0, 1), (1, 1), (2, 1), (3, 1)] [.p, .p, .p, .s]) .e .e) .e) (.n 322 (.st 0 [(0, 0)] []) .e .e))) (.n 328 (.p) (.n 326 (.i .u8) (.n 325 (.i .u8) (.n 324 (.f) .e .e) .e) (.n 327 (.f) .e .e)) (.n 331 (.st 11 [(0, 1), (1, 1), (2, 1), (3, 1), (4, 1), (5, 1), (6, 1), (7, 1), (8, 1), (9, 1), (10, 1)] [.i .u64, .i .u64, .i .u32, .i .u8, .i .u8, .i .u8, .i .u8, .f, .p, .i .i32, .i .i32]) (.n 330 (.i .i32) (.n 329 (.i .i32) .e .e) .e) (.n 332 (.st 11 [(0, 1), (1, 1), (2, 1), (3, 1), (4, 1), (5, 1), (6, 1), (7, 1), (8, 1), (9, 1), (10, 1)] [.i .u64, .i .u64, .i .u32, .i .u8, .i .u8, .i .u8, .i .u8, .f, .p, .i .i32, .i .i32]) .e .e))))))))
theorem tbt_ok : tbt.all (tok Tryz.prog) = true := by kernel_rfl
def T : Tb Tryz.prog := ⟨tbt, by kernel_rfl, tbt_ok⟩
end Go.Proofs.YticengaggjcppaaGreat.X
namespace Go.Proofs.YticengaggjcppaaGreat.K
open Go Go.RowKit
inductive Ty4 where
  | mk (k : Int) (nm : ByteArray) (n : Int) (ts : List Ty4)
inductive Ex where
  | mk (k : Int) (nm : ByteArray) (n : Int) (ks : List Ex)
inductive Sm where
  | mk (k : Int) (nm : ByteArray) (t : Ty4) (n : Int) (xs : List Ex) (b el : List Sm) (cs : List (List Sm))
structure Par where
  nm : ByteArray
  ty : Ty4
structure Fu where
  nm : ByteArray
  ps : List Par
  res : Ty4
  body : List Sm
  fl : Bool
  x : Int
  y : Int
def bs (l : List UInt8) : ByteArray := ⟨l.toArray⟩
def ty4z : Ty4 := .mk 0 ⟨#[]⟩ 0 []
open Go.Proofs
def kn (n : Int) : Bool := decide (97 ≤ orI .u8 n 32) && decide (orI .u8 n 32 ≤ 122)
def jx (n : Int) : Bool := decide (48 ≤ n) && decide (n ≤ 57)
def partN (n : Int) : Bool := kn n || jx n || decide (n = 95)
def fx (p : UInt8 → Bool) : List UInt8 → Nat → Nat
  | [], k => k
  | b :: r, k => if p b then fx p r (k + 1) else k
def kws : List ByteArray := [⟨#[97, 116]⟩, ⟨#[98, 108, 111, 99, 107]⟩, ⟨#[98, 114, 101, 97, 107]⟩, ⟨#[99, 97, 115, 101]⟩, ⟨#[99, 111, 110, 115, 116]⟩, ⟨#[99, 111, 110, 116, 105, 110, 117, 101]⟩, ⟨#[100, 101, 102, 97, 117, 108, 116]⟩, ⟨#[101, 108, 115, 101]⟩, ⟨#[101, 120, 116, 101, 114, 110]⟩, ⟨#[102, 110]⟩, ⟨#[104, 97, 108, 116]⟩, ⟨#[105, 102]⟩, ⟨#[105, 110]⟩, ⟨#[108, 101, 116]⟩, ⟨#[108, 111, 111, 112]⟩, ⟨#[109, 101, 109, 49, 54]⟩, ⟨#[109, 101, 109, 56]⟩, ⟨#[111, 117, 116]⟩, ⟨#[112, 111, 108, 108]⟩, ⟨#[114, 101, 116, 117, 114, 110]⟩, ⟨#[114, 111, 109, 49, 54]⟩, ⟨#[114, 111, 109, 56]⟩, ⟨#[115, 49, 54]⟩, ⟨#[115, 116, 114, 117, 99, 116]⟩, ⟨#[115, 119, 105, 116, 99, 104]⟩, ⟨#[117, 49, 54]⟩, ⟨#[117, 56]⟩, ⟨#[117, 110, 105, 111, 110]⟩, ⟨#[118, 97, 114]⟩, ⟨#[119, 104, 105, 108, 101]⟩]
def firstB (s : ByteArray) : Int := match s.data.toList with | [] => 0 | b :: _ => (b.toNat : Int)
def aI (s : ByteArray) : Bool := decide (s ≠ ⟨#[]⟩) && decide (s.size ≤ 24) && !(kws.any fun x => decide (x = s)) && kn (firstB s) && decide (fx (fun b => partN (b.toNat : Int)) s.data.toList 0 = s.size)
def jy (t : Ty4) (k : Int) : Bool := match t with | .mk k' nm n ts => decide (k' = k) && decide (nm = ⟨#[]⟩) && decide (n = 0) && decide (ts.length = 0)
abbrev eS : ByteArray := ⟨#[]⟩
mutual
def Ty4.size : Ty4 → Nat
  | .mk _ _ _ ts => Ty4.sizes ts + 1
def Ty4.sizes : List Ty4 → Nat
  | [] => 0
  | t :: r => t.size + Ty4.sizes r
end
mutual
def Ex.size : Ex → Nat
  | .mk _ _ _ ks => Ex.sizes ks + 1
def Ex.sizes : List Ex → Nat
  | [] => 0
  | t :: r => t.size + Ex.sizes r
end
mutual
def Sm.size : Sm → Nat
  | .mk _ _ t _ xs b el cs => t.size + Ex.sizes xs + Sm.sizes b + Sm.sizes el + Sm.csizes cs + 1
def Sm.sizes : List Sm → Nat
  | [] => 0
  | t :: r => t.size + Sm.sizes r
def Sm.csizes : List (List Sm) → Nat
  | [] => 0
  | c :: r => Sm.sizes c + 1 + Sm.csizes r
end
theorem Ty4.size_pos (t : Ty4) : 0 < t.size := by cases t; simp [Ty4.size]
theorem Ex.size_pos (e : Ex) : 0 < e.size := by cases e; simp [Ex.size]
theorem Sm.size_pos (e : Sm) : 0 < e.size := by cases e; simp [Sm.size]
theorem Ty4.size_mem {e : Ty4} : ∀ {l : List Ty4}, e ∈ l → e.size ≤ Ty4.sizes l
  | u :: us, h => by
    simp only [Ty4.sizes]
    rcases List.mem_cons.1 h with rfl | h
    {
    omega}; {
    have := Ty4.size_mem h; omega}
theorem Ex.size_mem {e : Ex} : ∀ {l : List Ex}, e ∈ l → e.size ≤ Ex.sizes l
  | u :: us, h => by
    simp only [Ex.sizes]
    rcases List.mem_cons.1 h with rfl | h
    {
    omega}; {
    have := Ex.size_mem h; omega}
theorem Sm.size_mem {e : Sm} : ∀ {l : List Sm}, e ∈ l → e.size ≤ Sm.sizes l
  | u :: us, h => by
    simp only [Sm.sizes]
    rcases List.mem_cons.1 h with rfl | h
    {
    omega}; {
    have := Sm.size_mem h; omega}
theorem Sm.csize_mem {c : List Sm} : ∀ {l : List (List Sm)}, c ∈ l → Sm.sizes c + 1 ≤ Sm.csizes l
  | u :: us, h => by
    simp only [Sm.csizes]
    rcases List.mem_cons.1 h with rfl | h
    {
    omega}; {
    have := Sm.csize_mem h; omega}
theorem Ty4.len_le : ∀ l : List Ty4, l.length ≤ Ty4.sizes l
  | [] => by simp
  | t :: ts => by
    have := Ty4.len_le ts
    have := t.size_pos
    simp only [Ty4.sizes, List.length_cons]; omega
theorem Ex.len_le : ∀ l : List Ex, l.length ≤ Ex.sizes l
  | [] => by simp
  | t :: ts => by
    have := Ex.len_le ts
    have := t.size_pos
    simp only [Ex.sizes, List.length_cons]; omega
theorem Sm.len_le : ∀ l : List Sm, l.length ≤ Sm.sizes l
  | [] => by simp
  | t :: ts => by
    have := Sm.len_le ts
    have := t.size_pos
    simp only [Sm.sizes, List.length_cons]; omega
theorem Sm.clen_le : ∀ l : List (List Sm), l.length ≤ Sm.csizes l
  | [] => by simp
  | t :: ts => by
    have := Sm.clen_le ts
    simp only [Sm.csizes, List.length_cons]; omega
def U63 (k : Int) : Prop := 0 ≤ k ∧ k ≤ 9223372036854775807
theorem U63.i {k : Int} (h : U63 k) : I64 k := ⟨Int.le_trans (by decide) h.1, h.2⟩
mutual
def Ty4.ok : Ty4 → Prop
  | .mk k nm n ts => U63 k ∧ nm.size ≤ 1000000 ∧ U63 n ∧ Ty4.oks ts
def Ty4.oks : List Ty4 → Prop
  | [] => True
  | t :: r => t.ok ∧ Ty4.oks r
end
mutual
def Ex.ok : Ex → Prop
  | .mk k nm n ks => U63 k ∧ nm.size ≤ 1000000 ∧ (0 ≤ n ∧ n ≤ 65535) ∧ Ex.oks ks
def Ex.oks : List Ex → Prop
  | [] => True
  | t :: r => t.ok ∧ Ex.oks r
end
mutual
def Sm.ok : Sm → Prop
  | .mk k nm t n xs b el cs => U63 k ∧ nm.size ≤ 1000000 ∧ t.ok ∧ (0 ≤ n ∧ n ≤ 65535) ∧ Ex.oks xs ∧ Sm.oks b ∧ Sm.oks el ∧ Sm.okc cs
def Sm.oks : List Sm → Prop
  | [] => True
  | t :: r => t.ok ∧ Sm.oks r
def Sm.okc : List (List Sm) → Prop
  | [] => True
  | c :: r => Sm.oks c ∧ Sm.okc r
end
theorem Ty4.oks_mem {t : Ty4} : ∀ {l : List Ty4}, Ty4.oks l → t ∈ l → t.ok
  | u :: us, h, hm => by
    rcases List.mem_cons.1 hm with rfl | hm
    {
    exact h.1}; {
    exact Ty4.oks_mem h.2 hm}
theorem Ex.oks_mem {t : Ex} : ∀ {l : List Ex}, Ex.oks l → t ∈ l → t.ok
  | u :: us, h, hm => by
    rcases List.mem_cons.1 hm with rfl | hm
    {
    exact h.1}; {
    exact Ex.oks_mem h.2 hm}
theorem Sm.oks_mem {t : Sm} : ∀ {l : List Sm}, Sm.oks l → t ∈ l → t.ok
  | u :: us, h, hm => by
    rcases List.mem_cons.1 hm with rfl | hm
    {
    exact h.1}; {
    exact Sm.oks_mem h.2 hm}
theorem Sm.okc_mem {c : List Sm} : ∀ {l : List (List Sm)}, Sm.okc l → c ∈ l → Sm.oks c
  | u :: us, h, hm => by
    rcases List.mem_cons.1 hm with rfl | hm
    {
    exact h.1}; {
    exact Sm.okc_mem h.2 hm}
theorem Ex.oks_append : ∀ {a b : List Ex}, Ex.oks (a ++ b) ↔ Ex.oks a ∧ Ex.oks b
  | [], b => by simp [Ex.oks]
  | t :: r, b => by simp only [List.cons_append, Ex.oks, Ex.oks_append (a := r), and_assoc]
theorem Sm.oks_append : ∀ {a b : List Sm}, Sm.oks (a ++ b) ↔ Sm.oks a ∧ Sm.oks b
  | [], b => by simp [Sm.oks]
  | t :: r, b => by simp only [List.cons_append, Sm.oks, Sm.oks_append (a := r), and_assoc]
theorem Sm.okc_append : ∀ {a b : List (List Sm)}, Sm.okc (a ++ b) ↔ Sm.okc a ∧ Sm.okc b
  | [], b => by simp [Sm.okc]
  | t :: r, b => by simp only [List.cons_append, Sm.okc, Sm.okc_append (a := r), and_assoc]
theorem Ex.sizes_append : ∀ {a b : List Ex}, Ex.sizes (a ++ b) = Ex.sizes a + Ex.sizes b
  | [], b => by simp [Ex.sizes]
  | t :: r, b => by simp only [List.cons_append, Ex.sizes, Ex.sizes_append (a := r)]; omega
theorem Sm.sizes_append : ∀ {a b : List Sm}, Sm.sizes (a ++ b) = Sm.sizes a + Sm.sizes b
  | [], b => by simp [Sm.sizes]
  | t :: r, b => by simp only [List.cons_append, Sm.sizes, Sm.sizes_append (a := r)]; omega
theorem Sm.csizes_append : ∀ {a b : List (List Sm)}, Sm.csizes (a ++ b) = Sm.csizes a + Sm.csizes b
  | [], b => by simp [Sm.csizes]
  | t :: r, b => by simp only [List.cons_append, Sm.csizes, Sm.csizes_append (a := r)]; omega
structure Td where
  nm : ByteArray
  un : Bool
  fs : List Par
structure Gb where
  nm : ByteArray
  ty : Ty4
  bank : Int
  addr : Int
  bytes : ByteArray
structure Pg where
  ts : List Td
  gs : List Gb
  fs : List Fu
def Par.ok (B : Nat) (p : Par) : Prop := p.nm.size ≤ 1000000 ∧ p.ty.ok ∧ p.ty.size ≤ B
def Td.ok (B : Nat) (t : Td) : Prop := t.nm.size ≤ 1000000 ∧ t.fs.length ≤ B ∧ ∀ p ∈ t.fs, p.ok B
def Gb.ok (B : Nat) (g : Gb) : Prop := g.nm.size ≤ 1000000 ∧ g.ty.ok ∧ g.ty.size ≤ B ∧ (-1 ≤ g.bank ∧ g.bank ≤ 9223372036854775807) ∧ (0 ≤ g.addr ∧ g.addr ≤ 65535) ∧ g.bytes.size ≤ B
def Fu.ok (B : Nat) (f : Fu) : Prop := f.nm.size ≤ 1000000 ∧ f.ps.length ≤ B ∧ (∀ p ∈ f.ps, p.ok B) ∧ f.res.ok ∧ f.res.size ≤ B ∧ Sm.oks f.body ∧ Sm.sizes f.body ≤ B ∧ I64 f.x ∧ (0 ≤ f.y ∧ f.y ≤ 65535)
structure Pg.ok (B : Nat) (p : Pg) : Prop where
  tl : p.ts.length ≤ B
  gl : p.gs.length ≤ B
  fl : p.fs.length ≤ B
  t : ∀ x ∈ p.ts, x.ok B
  g : ∀ x ∈ p.gs, x.ok B
  f : ∀ x ∈ p.fs, x.ok B
theorem Par.ok.mono {B C : Nat} (h : B ≤ C) {p : Par} (hp : p.ok B) : p.ok C := ⟨hp.1, hp.2.1, Nat.le_trans hp.2.2 h⟩
theorem Td.ok.mono {B C : Nat} (h : B ≤ C) {p : Td} (hp : p.ok B) : p.ok C := ⟨hp.1, Nat.le_trans hp.2.1 h, fun x hx => (hp.2.2 x hx).mono h⟩
theorem Gb.ok.mono {B C : Nat} (h : B ≤ C) {p : Gb} (hp : p.ok B) : p.ok C := by
  obtain ⟨h1, h2, h3, h4, h5, h6⟩ := hp
  exact ⟨h1, h2, Nat.le_trans h3 h, h4, h5, Nat.le_trans h6 h⟩
mutual
def rTy : Ty4 → Bool
  | .mk k nm n ts =>
    if k = 4 then aI nm && decide (n = 0) && decide (ts.length = 0)
    else if k = 1 ∨ k = 2 ∨ k = 3 then decide (nm = eS) && decide (n = 0) && decide (ts.length = 0)
    else if k = 5 ∨ k = 6 then decide (nm = eS) && decide (0 ≤ n) && decide (n ≤ if k = 5 then 65535 else 64) && decide (ts.length = 1) && rTys ts
    else false
def rTys : List Ty4 → Bool
  | [] => true
  | t :: r => rTy t && rTys r
end
def opsL : List ByteArray := [⟨#[124]⟩, ⟨#[94]⟩, ⟨#[38]⟩, ⟨#[61, 61]⟩, ⟨#[33, 61]⟩, ⟨#[60]⟩, ⟨#[60, 61]⟩, ⟨#[62]⟩, ⟨#[62, 61]⟩, ⟨#[60, 60]⟩, ⟨#[62, 62]⟩, ⟨#[43]⟩, ⟨#[45]⟩, ⟨#[42]⟩, ⟨#[47]⟩, ⟨#[37]⟩]
def unL : List ByteArray := [⟨#[45]⟩, ⟨#[126]⟩, ⟨#[33]⟩]
def castL : List ByteArray := [⟨#[117, 56]⟩, ⟨#[117, 49, 54]⟩, ⟨#[115, 49, 54]⟩]
def aA (s : ByteArray) (l : List ByteArray) : Bool := l.any fun x => decide (x = s)
def exName (k : Int) (nm : ByteArray) : Bool :=
  if k = 2 ∨ k = 3 ∨ k = 14 then aI nm
  else if k = 13 then aA nm opsL
  else if k = 12 then aA nm unL
  else if k = 15 then aA nm castL
  else decide (nm = eS)
def exKids (k : Int) : Int := if k = 1 ∨ k = 2 ∨ k = 11 then 0 else if k = 4 ∨ k = 13 then 2 else 1
def exLim (k : Int) : Int := if k = 1 then 65536 else if k = 11 then 256 else if k = 9 ∨ k = 10 then 64 else 1
mutual
def rEx : Ex → Bool
  | .mk k nm n ks => decide (1 ≤ k ∧ k ≤ 15) && exName k nm && (decide (k = 14) || decide ((ks.length : Int) = exKids k)) && decide (n < exLim k) && rExs ks
def rExs : List Ex → Bool
  | [] => true
  | t :: r => rEx t && rExs r
end
def smLeast (k : Int) : Int := if k = 2 then 2 else if k = 1 ∨ k = 3 ∨ k = 4 ∨ k = 9 ∨ k = 11 ∨ k = 14 then 1 else 0
def smMost (k : Int) : Int := if k = 2 then 2 else if k = 1 ∨ k = 3 ∨ k = 4 ∨ k = 9 ∨ k = 10 ∨ k = 11 ∨ k = 14 then 1 else 0
def fN (k : Int) : Bool := decide (k = 1 ∨ k = 6 ∨ k = 7 ∨ k = 8)
def smFr (k : Int) : Bool := decide (k = 4 ∨ k = 5)
def smBd (k : Int) : Bool := decide (k = 3 ∨ k = 4 ∨ k = 5 ∨ k = 6)
def smEl (k : Int) : Bool := decide (k = 3 ∨ k = 9)
def smCs (k : Int) : Bool := decide (k = 9)
def smPo (k : Int) : Bool := decide (k = 11)
def ib (k : Int) (nm : ByteArray) : Bool := if fN k then aI nm else decide (nm = eS) || (smFr k && aI nm)
def Ex.kind : Ex → Int | .mk k _ _ _ => k
def ic (k : Int) : Bool := decide (k = 2 ∨ k = 3 ∨ k = 4 ∨ k = 5 ∨ k = 7 ∨ k = 8)
def headK (p : Int → Bool) : List Ex → Bool
  | [] => true
  | e :: _ => p e.kind
mutual
def rSm : Sm → Bool
  | .mk k nm t n xs b el cs => decide (1 ≤ k ∧ k ≤ 14) && decide (smLeast k ≤ (xs.length : Int)) && decide ((xs.length : Int) ≤ smMost k) && rExs xs && ib k nm && (if k = 1 then rTy t else jy t 0)
    && (decide (n = 0) || (smPo k && decide (n < 256))) && (smBd k || decide (b.length = 0)) && (smEl k || decide (el.length = 0)) && (smCs k || decide (cs.length = 0))
    && (!decide (k = 14) || headK (fun j => decide (j = 14)) xs) && (!decide (k = 2) || headK ic xs) && rSms b && rSms el && rCs cs
def rSms : List Sm → Bool
  | [] => true
  | t :: r => rSm t && rSms r
def rCs : List (List Sm) → Bool
  | [] => true
  | c :: r => rSms c && rCs r
end
theorem kX : ∀ l, rExs l = l.all rEx
  | [] => rfl
  | t :: r => by simp only [rExs, List.all_cons, kX r]
theorem iN : ∀ l, rSms l = l.all rSm
  | [] => rfl
  | t :: r => by simp only [rSms, List.all_cons, iN r]
theorem nR : ∀ l, rCs l = l.all rSms
  | [] => rfl
  | t :: r => by simp only [rCs, List.all_cons, nR r]
def rPar (p : Par) : Bool := aI p.nm && rTy p.ty
def rTd (t : Td) : Bool := aI t.nm && t.fs.all rPar
def rGb (g : Gb) : Bool := aI g.nm && rTy g.ty && ((decide (g.bank = -1) && decide (g.bytes = eS)) || (decide (0 ≤ g.bank) && decide (g.bank < 64)))
def rFu (f : Fu) : Bool := aI f.nm && f.ps.all rPar && (jy f.res 7 || rTy f.res) &&
  (if f.fl then decide (f.body.length = 0) && decide (0 ≤ f.x) && decide (f.x < 64) else decide (f.x = 0 ∧ f.y = 0) && rSms f.body)
def rPg (p : Pg) : Bool := p.ts.all rTd && p.gs.all rGb && p.fs.all rFu
end Go.Proofs.YticengaggjcppaaGreat.K
namespace Go.Proofs.YticengaggjcppaaGreat.X
open Go Go.RowKit Go.Proofs K
def lb : Tr → ByteArray
  | .node l _ => l
def tk : Ty4 → Int | .mk k _ _ _ => k
def tnm : Ty4 → ByteArray | .mk _ nm _ _ => nm
def tn : Ty4 → Int | .mk _ _ n _ => n
mutual
def tyS : Ty4 → List (List D)
  | .mk _ _ _ ts => tyR ts
def tyR : List Ty4 → List (List D)
  | [] => []
  | t :: r => [.c (.int .i64 (tk t)), .c (.string (tnm t)), .c (.int .i64 (tn t)), .s (tyS t)] :: tyR r
end
def tyD (t : Ty4) : List D := [.c (.int .i64 (tk t)), .c (.string (tnm t)), .c (.int .i64 (tn t)), .s (tyS t)]
theorem tyR_eq : ∀ l : List Ty4, tyR l = l.map tyD
  | [] => rfl
  | t :: r => congrArg (tyD t :: ·) (tyR_eq r)
theorem nS (k n : Int) (nm : ByteArray) (ts : List Ty4) : tyD (.mk k nm n ts) = [.c (.int .i64 k), .c (.string nm), .c (.int .i64 n), .s (ts.map tyD)] := by
  show [D.c (.int .i64 k), .c (.string nm), .c (.int .i64 n), .s (tyR ts)] = _
  rw [tyR_eq]
def ek : Ex → Int | .mk k _ _ _ => k
def enm : Ex → ByteArray | .mk _ nm _ _ => nm
def en : Ex → Int | .mk _ _ n _ => n
mutual
def exS : Ex → List (List D)
  | .mk _ _ _ ts => exR ts
def exR : List Ex → List (List D)
  | [] => []
  | t :: r => [.c (.int .i64 (ek t)), .c (.string (enm t)), .c (.int .u16 (en t)), .s (exS t)] :: exR r
end
def exD (t : Ex) : List D := [.c (.int .i64 (ek t)), .c (.string (enm t)), .c (.int .u16 (en t)), .s (exS t)]
theorem exR_eq : ∀ l : List Ex, exR l = l.map exD
  | [] => rfl
  | t :: r => congrArg (exD t :: ·) (exR_eq r)
theorem bl (k n : Int) (nm : ByteArray) (ts : List Ex) : exD (.mk k nm n ts) = [.c (.int .i64 k), .c (.string nm), .c (.int .u16 n), .s (ts.map exD)] := by
  show [D.c (.int .i64 k), .c (.string nm), .c (.int .u16 n), .s (exR ts)] = _
  rw [exR_eq]
def sk : Sm → Int | .mk k _ _ _ _ _ _ _ => k
def snm : Sm → ByteArray | .mk _ nm _ _ _ _ _ _ => nm
def sty : Sm → Ty4 | .mk _ _ t _ _ _ _ _ => t
def sn : Sm → Int | .mk _ _ _ n _ _ _ _ => n
def sX : Sm → List (List D) | .mk _ _ _ _ xs _ _ _ => xs.map exD
mutual
def sB : Sm → List (List D)
  | .mk _ _ _ _ _ b _ _ => sR b
def sEl : Sm → List (List D)
  | .mk _ _ _ _ _ _ el _ => sR el
def sCs : Sm → List (List D)
  | .mk _ _ _ _ _ _ _ cs => sCC cs
def sR : List Sm → List (List D)
  | [] => []
  | s :: r => [.c (.int .i64 (sk s)), .c (.string (snm s)), .c (.int .i64 (tk (sty s))), .c (.string (tnm (sty s))), .c (.int .i64 (tn (sty s))), .s (tyS (sty s)), .c (.int .u16 (sn s)), .s (sX s), .s (sB s), .s (sEl s), .s (sCs s)] :: sR r
def sCC : List (List Sm) → List (List D)
  | [] => []
  | c :: r => [.s (sR c)] :: sCC r
end
def smD (s : Sm) : List D := [.c (.int .i64 (sk s)), .c (.string (snm s)), .c (.int .i64 (tk (sty s))), .c (.string (tnm (sty s))), .c (.int .i64 (tn (sty s))), .s (tyS (sty s)), .c (.int .u16 (sn s)), .s (sX s), .s (sB s), .s (sEl s), .s (sCs s)]
theorem sR_eq : ∀ l : List Sm, sR l = l.map smD
  | [] => rfl
  | t :: r => congrArg (smD t :: ·) (sR_eq r)
def blD (c : List Sm) : List D := [.s (c.map smD)]
theorem sCC_eq : ∀ l : List (List Sm), sCC l = l.map blD
  | [] => rfl
  | c :: r => by show [D.s (sR c)] :: sCC r = blD c :: r.map blD; rw [sR_eq, sCC_eq r]; rfl
theorem be (k n : Int) (nm : ByteArray) (t : Ty4) (xs : List Ex) (b el : List Sm) (cs : List (List Sm)) : smD (.mk k nm t n xs b el cs) = [.c (.int .i64 k), .c (.string nm), .c (.int .i64 (tk t)), .c (.string (tnm t)), .c (.int .i64 (tn t)), .s (tyS t), .c (.int .u16 n), .s (xs.map exD), .s (b.map smD), .s (el.map smD), .s (cs.map blD)] := by
  show [D.c (.int .i64 k), .c (.string nm), .c (.int .i64 (tk t)), .c (.string (tnm t)), .c (.int .i64 (tn t)), .s (tyS t), .c (.int .u16 n), .s (xs.map exD), .s (sR b), .s (sR el), .s (sCC cs)] = _
  rw [sR_eq, sR_eq, sCC_eq]
def paD (p : Par) : List D := [.c (.string p.nm), .c (.int .i64 (tk p.ty)), .c (.string (tnm p.ty)), .c (.int .i64 (tn p.ty)), .s (tyS p.ty)]
def tdD (t : Td) : List D := [.c (.string t.nm), .c (.bool t.un), .s (t.fs.map paD)]
def gbD (g : Gb) : List D := [.c (.string g.nm), .c (.int .i64 (tk g.ty)), .c (.string (tnm g.ty)), .c (.int .i64 (tn g.ty)), .s (tyS g.ty), .c (.int .i64 g.bank), .c (.int .u16 g.addr), .c (.string g.bytes)]
def fuD (f : Fu) : List D := [.c (.string f.nm), .s (f.ps.map paD), .c (.int .i64 (tk f.res)), .c (.string (tnm f.res)), .c (.int .i64 (tn f.res)), .s (tyS f.res), .s (f.body.map smD), .c (.bool f.fl), .c (.int .i64 f.x), .c (.int .u16 f.y)]
def pgD (p : Pg) : List D := [.s (p.ts.map tdD), .s (p.gs.map gbD), .s (p.fs.map fuD)]
section
variable {x : Cx Tryz.prog} {m m' : MS} {ob' : List Prop}
theorem G9 (h : bX T x.N false 1000 100000 m [] = (m', ob')) (h2 : m'.ok x) (h1 : aL ob' := by repeat' (first | exact trivial | apply And.intro | omega | (refine DK.mk ?_; decide +kernel) | (refine BK.mk ?_; decide +kernel) | rfl | (dsimp only; omega))) : m.ok x := G (T := T) 1000 h h2 h1
end
theorem MS.fz9 {P : Program} {x : Cx P} {k : List Fr} {s s' : XS} {e : Exit} {ob : List Prop} (g : Nat) (h : fzS g s = some (s', ob)) (hk : (MS.e e k s').ok x) (ho : aL ob := by repeat' (first | exact trivial | apply And.intro | rfl)) : (MS.e e k s).ok x := MS.fze g h hk ho
abbrev cs9 (fs cs : List D) (l : List XV) : List XV := cl (fs.map .d) ++ (l ++ cl (cs.map .d))
abbrev xf (fc : FuncId) (fs cs : List D) : XV := .a (.c (.d (.f fc fs cs)))
theorem ab {α β : Type} {l : List α} {f : α → β} {j : Nat} {y : α} (h : l[j]? = some y) : (l.map f)[j]? = some (f y) := by rw [List.getElem?_map, h]; rfl
theorem ai {α : Type} {l : List α} {j : Nat} (h : j < l.length) : ∃ y, l[j]? = some y := ⟨_, List.getElem?_eq_getElem h⟩
def fB {α : Type} (p : α → Bool) (l : List α) : Int := if l.any p then (l.findIdx p : Int) else -1
section
variable {α : Type} {p : α → Bool} {l : List α} {j : Nat} {y : α}
theorem eo (h : (l.take j).any p = false) (hy : l[j]? = some y) (hp : p y = false) : (l.take (j + 1)).any p = false := by
  rw [List.take_succ, hy, List.any_append, h]; simp [hp]
theorem gy (h : (l.take j).any p = false) (hy : l[j]? = some y) (hp : p y = true) : fB p l = j := by
  have hlt : j < l.length := (List.getElem?_eq_some_iff.1 hy).1
  have hj : l[j] = y := (List.getElem?_eq_some_iff.1 hy).2
  have hany : l.any p = true := List.any_eq_true.2 ⟨y, List.mem_of_getElem? hy, hp⟩
  rw [fB, if_pos hany]
  have : l.findIdx p = j := by
    rw [List.findIdx_eq hlt]
    refine ⟨by rw [hj]; exact hp, fun k hk => ?_⟩
    have := List.any_eq_false.1 h (l[k]'(by omega)) (by
      rw [List.mem_iff_getElem?]; exact ⟨k, by rw [List.getElem?_take, if_pos hk, List.getElem?_eq_getElem (by omega)]⟩)
    simpa using this
  rw [this]
theorem iO (h : (l.take j).any p = false) (hj : l.length ≤ j) : fB p l = -1 := by
  rw [List.take_of_length_le hj] at h
  rw [fB, h]; rfl
theorem idx_any (p : α → Bool) (l : List α) : decide (0 ≤ fB p l) = l.any p := by
  unfold fB
  cases h : l.any p; {
  rfl}; {
  simp}
end
abbrev xu8 (n : Int) : XV := .a (.c (.d (.c (.int .u8 n))))
theorem sp_at {s : ByteArray} {k : Nat} (h : k < s.size) : s.data.toList.drop k = s.data.getD ((k : Nat) : Int).toNat 0 :: s.data.toList.drop (k + 1) := by
  have h' : k < s.data.toList.length := by simpa using h
  rw [List.drop_eq_getElem_cons h']
  congr 1
  rw [Array.getD, dif_pos (by simpa using h')]
  rfl
abbrev a7 (s : ByteArray) : List D := [.c (.string s)]
abbrev intD (n : Int) : List D := [.c (.int .i64 n)]
theorem ie (n : Nat) : IntKind.u8.wrap (48 + ((n : Int).tmod 10)) = ((UInt8.ofNat (48 + n % 10)).toNat : Int) := by
  have h : ∀ m : Nat, m < 10 → IntKind.u8.wrap (48 + (m : Int)) = ((UInt8.ofNat (48 + m)).toNat : Int) := by decide +kernel
  rw [show (n : Int).tmod 10 = ((n % 10 : Nat) : Int) from rfl]
  exact h _ (Nat.mod_lt _ (by omega))
end Go.Proofs.YticengaggjcppaaGreat.X
