/-
  Part 3 of 6 of the proof that DiffTrees returns true for every list of numbers and every two triples, and leaves its arguments as they were. No condition beyond the given statement.
-/
import Derived.Test.YtlmahofogapkgaaGreatDoorProg
import Derived.KernelRfl
import Derived.Laws.StructEq
import Derived.Shelf.Strconv.Itoa3
import Derived.Shelf.LaysM
import Derived.Test.YtlmahofogapkgaaGreatDoorPkX2
set_option linter.unusedVariables false
set_option linter.unusedSimpArgs false
set_option linter.defProp false
set_option linter.all false
set_option maxRecDepth 100000
set_option maxHeartbeats 4000000
namespace Go.Proofs.YtlmahofogapkgaaGreatDoor.X
open Go Go.RowKit K
abbrev xs (s : ByteArray) : XV := xv (.string s)
abbrev xi (n : Int) : XV := xv (.int .i64 n)
abbrev xb (b : Bool) : XV := xv (.bool b)
abbrev xd (l : List D) : XV := .a (.g l)
abbrev xr (l : List (List D)) : XV := .a (.c (.d (.s l)))
section
variable {P : Program} {x : Cx P} {T : Tb P} {k : List Fr} {s : XS}
theorem G (st : Nat) {m m' : MS} {ob' : List Prop} (h : bZ T x.N false st 100000 m [] = (m', ob')) (h2 : m'.ok x) (h1 : aR ob' := by repeat' (first | exact trivial | apply And.intro | omega | (refine DK.mk ?_; decide +kernel) | (refine BK.mk ?_; decide +kernel) | rfl | (dsimp only; omega))) : m.ok x := (ni h h1 h2).2
theorem If {o : Operand} {a b : Code} {t : Bool} (hc : xev s.E o = some (xv (.bool t))) (h1 : t = true → (MS.c a k s).ok x) (h2 : t = false → (MS.c b k s).ok x) : (MS.c (.cond o a b) k s).ok x := MC.cond hc h1 h2
theorem Lp {α : Type} {c : Code} (S : α → XS) (I : α → Prop) (μ : α → Nat) (a : α) (hm : Mt x.B.nx0 x.B.F s (S a) id) (h0 : I a) (round : ∀ a, I a → (MS.c c (.l (fun n s => ∃ a, I a ∧ n = μ a ∧ s = S a) (μ a) :: k) (S a)).ok x) : (MS.c (.loop c) k s).ok x :=
  MC.loop (fun n s => ∃ a, I a ∧ n = μ a ∧ s = S a) (μ a) hm ⟨a, h0, rfl, rfl⟩ (by rintro n s ⟨a, h1, rfl, rfl⟩; exact round a h1)
theorem Nxt {α : Type} {S : α → XS} {I : α → Prop} {μ : α → Nat} {n : Nat} (a : α) (hm : Mt x.B.nx0 x.B.F s (S a) id) (hI : I a) (hlt : μ a < n) : (MS.e .normal (.l (fun n s => ∃ a, I a ∧ n = μ a ∧ s = S a) n :: k) s).ok x := ME.next (μ a) hm hlt ⟨a, hI, rfl, rfl⟩
def SRto (s s' : XS) : Prop := ∀ (B : Bs) V H sg env, SR B s V H sg env → ∃ V', SR B s' V' H sg env
theorem SRto.c {s s' : XS} {c : Code} (h : SRto s s') (hk : (MS.c c k s').ok x) : (MS.c c k s).ok x := fun V H sg env hs => let ⟨V', h'⟩ := h x.B V H sg env hs; hk V' H sg env h'
theorem SRto.e {s s' : XS} {e : Exit} (h : SRto s s') (hk : (MS.e e k s').ok x) : (MS.e e k s).ok x := fun V H sg env hs => let ⟨V', h'⟩ := h x.B V H sg env hs; hk V' H sg env h'
theorem SR.newRow {B : Bs} {E E' : XE} {hp hp' : XH} {nx e sz : Nat} {V : Vn} {H : Hp} {sg : Seg} {env : Env} (hs : SR B ⟨E, hp, nx⟩ V H sg env) (hsz : 0 < sz) (hE : ∀ V', VLe V V' → V' nx 0 = some (none, 0) → Lk V' H env E') (hH : ∀ V', VLe V V' → V' nx 0 = some (none, 0) → HR V' H hp' sg) (hn : hp'.map (fun b => (b.g, b.t)) = hp.map fun b => (b.g, b.t)) :
    ∃ V', SR B ⟨E', ⟨nx, 0, .row 0 [] e sz⟩ :: hp', nx + 1⟩ V' H sg env := by
  have h0 := hs.fresh nx 0 (Nat.le_refl _)
  have hle : VLe V (V.new nx 0 (none, 0)) := Vn.new_le _ h0
  have hmem : ∀ b ∈ hp', ∃ c ∈ hp, c.g = b.g ∧ c.t = b.t := fun b hb => by
    have : (b.g, b.t) ∈ hp.map fun b => (b.g, b.t) := hn ▸ List.mem_map.2 ⟨b, hb, rfl⟩
    obtain ⟨c, hc, e9⟩ := List.mem_map.1 this
    simp only [Prod.mk.injEq] at e9
    exact ⟨c, hc, e9.1, e9.2⟩
  have hlt : ∀ b ∈ hp, b.g < nx := fun b hb => by
    obtain ⟨i, hi⟩ := hs.hr.known b hb
    rcases Nat.lt_or_ge b.g nx with hl | hl
    · exact hl
    · rw [hs.fresh _ _ hl] at hi; cases hi
  have hnn : names hp' = names hp := by
    have := congrArg (List.map Prod.fst) hn
    simpa [names, List.map_map, Function.comp_def] using this
  refine ⟨V.new nx 0 (none, 0), hE _ hle (Vn.new_at ..), ⟨[], sg, rfl, .inr ⟨rfl, Vn.new_at .., e, sz, rfl, hsz⟩, hH _ hle (Vn.new_at ..)⟩, ?_, ?_, ?_, hs.le, hs.vle.trans hle, ?_, ?_, Nat.le_succ_of_le hs.nxle⟩
  · intro b hb t ht
    rcases List.mem_cons.1 hb with rfl | hb
    · rw [Vn.new_ne]
      · exact hs.fresh _ _ (Nat.le_refl _)
      · rintro ⟨_, h2⟩; simp only at ht; omega
    · obtain ⟨c, hc, e1, e2⟩ := hmem b hb
      rw [Vn.new_ne]
      · rw [← e1]; exact hs.top c hc t (by omega)
      · rintro ⟨h2, _⟩; have := hlt c hc; omega
  · refine List.nodup_cons.2 ⟨fun hc => ?_, by rw [show (List.map (fun b : XB => b.g) hp') = names hp from hnn]; exact hs.nd⟩
    have hc' : nx ∈ names hp := hnn ▸ hc
    obtain ⟨b, hb, e9⟩ := List.mem_map.1 hc'
    have := hlt b hb; omega
  · intro g t hg
    simp only at hg
    rw [Vn.new_ne]
    · exact hs.fresh g t (by simp only; omega)
    · rintro ⟨h2, _⟩; omega
  · intro g t h1 h2
    by_cases e9 : g = nx ∧ t = 0
    · left; rw [e9.1]; exact hs.nxle
    · rw [Vn.new_ne _ _ e9] at h2; exact hs.keep g t h1 h2
  · intro b hb
    rcases List.mem_cons.1 hb with rfl | hb
    · left; exact hs.nxle
    · obtain ⟨c, hc, e1, _⟩ := hmem b hb
      rw [← e1]; exact hs.sub c hc
theorem Nr {E : XE} {hp : XH} {nx : Nat} (i e sz : Nat) (h : xlk E i = some (.a (.c .z))) (hsz : Nat.blt 0 sz = true) : SRto ⟨E, hp, nx⟩ ⟨(i, .a (.c (.l nx 0 sz 0 0 0))) :: E, ⟨nx, 0, .row 0 [] e sz⟩ :: hp, nx + 1⟩ := fun B V H sg env hs =>
  hs.newRow (by simpa [Nat.blt_eq] using hsz) (fun V' hle hV j u hu => by
    simp only [xlk] at hu
    cases hb : Nat.beq i j with
    | true =>
      rw [hb] at hu; cases hu
      obtain ⟨v, h1, h2⟩ := hs.lk i _ h
      refine ⟨v, by rw [← Nat.eq_of_beq_eq_true hb]; exact h1, ?_⟩
      simp only [XV.rel, XA.rel, XC.rel] at h2 ⊢
      exact ⟨none, 0, hV, h2⟩
    | false => rw [hb] at hu; exact hs.lk.mono hle (Le.refl _) j u hu) (fun V' hle _ => hs.hr.mono hle (Le.refl _)) rfl
theorem Nrh {E : XE} {hp hp' : XH} {nx t e0 : Nat} {c c' : List XC} (g o e sz : Nat) (h : ah hp g = some ⟨g, t, .cells c e0⟩) (hc : at_ c o = some .z) (hsz : Nat.blt 0 sz = true) (hput : co c o [.l nx 0 sz 0 0 0] = some c') (hset' : aF hp g t (.cells c' e0) = some hp') : SRto ⟨E, hp, nx⟩ ⟨E, ⟨nx, 0, .row 0 [] e sz⟩ :: hp', nx + 1⟩ := fun B V H sg env hs => by
  have key : ∀ (V' : Vn), VLe V V' → V' nx 0 = some (none, 0) → ∀ {hp hp' : XH} {sg : Seg}, ah hp g = some ⟨g, t, .cells c e0⟩ → aF hp g t (.cells c' e0) = some hp' → HR V H hp sg → HR V' H hp' sg ∧ hp'.map (fun b => (b.g, b.t)) = hp.map fun b => (b.g, b.t) := by
    intro V' hle hV hp
    induction hp with
    | nil => intro hp' sg h; cases h
    | cons b r ih =>
      rintro hp' sg h hst ⟨s1, s2, h0, h1, h2⟩
      obtain ⟨g', t', o'⟩ := b
      simp only [ah] at h
      simp only [aF] at hst
      cases hb : Nat.beq g' g with
      | true =>
        rw [hb] at h hst
        simp only [cond_true, Option.some.injEq, XB.mk.injEq] at h hst
        obtain ⟨rfl, rfl, rfl⟩ := h
        subst hst
        refine ⟨⟨s1, s2, h0, ?_, h2.mono hle (Le.refl _)⟩, rfl⟩
        rcases h1 with ⟨b, ob, ex, k1, k2, us, k3, k4⟩ | ⟨_, _, _, _, k3, _⟩
        · obtain ⟨v, q1, q2⟩ := k3.get o _ (ik hc)
          refine .inl ⟨b, ob, ex, k1, hle _ _ _ k2, us, ?_, k4⟩
          have hone : rels V' H [.l nx 0 sz 0 0 0] [v] := by
            refine ⟨?_, trivial⟩
            simp only [XC.rel] at q2 ⊢
            exact ⟨none, 0, hV, q2⟩
          have := (dV hput (XC.monos hle (Le.refl _) k3) hone).1
          simp only [ba] at this
          have e9 : (us.toArray.setIfInBounds o v).toList = us := by
            rw [List.setIfInBounds_toArray]
            show us.set o v = us
            have hlt : o < us.length := (List.getElem?_eq_some_iff.1 q1).1
            apply List.ext_getElem?
            intro i
            rw [List.getElem?_set]
            split
            · rename_i e; subst e; first | exact q1.symm | rw [if_pos hlt, q1]
            · rfl
          rw [e9] at this
          exact this
        · cases k3
      | false =>
        rw [hb] at h hst
        simp only [cond_false] at h hst
        split at hst
        · rename_i l hl
          cases hst
          obtain ⟨k1, k2⟩ := ih h hl h2
          exact ⟨⟨s1, s2, h0, XB.mono hle (Le.refl _) h1, k1⟩, by simp only [List.map_cons, k2]⟩
        · cases hst
  have hn : hp'.map (fun b => (b.g, b.t)) = hp.map fun b => (b.g, b.t) := by
    obtain ⟨V', hle, hV⟩ : ∃ V', VLe V V' ∧ V' nx 0 = some (none, 0) := ⟨V.new nx 0 (none, 0), Vn.new_le _ (hs.fresh nx 0 (Nat.le_refl _)), Vn.new_at ..⟩
    exact (key V' hle hV h hset' hs.hr).2
  exact hs.newRow (by simpa [Nat.blt_eq] using hsz) (fun V' hle _ => hs.lk.mono hle (Le.refl _)) (fun V' hle hV => (key V' hle hV h hset' hs.hr).1) hn
variable {pk : Pk} {f : FuncId} {fn : Func} {c : Code} {args : List XV} {N : Nat}
abbrev XQ (P : Program) (pk : Pk) (f : FuncId) (args : List XV) (R : XV) : Prop := XP P pk f args (fun r => r = R)
theorem XQ.en {R : XV} (hf : P.funcs[f]? = some fn) (hN : fn.ntmps = N) (h : ∀ w0 own H V v0 hf, (MS.c c [] ⟨dB 0 args, [], 0⟩).ok (Cp P pk w0 own H V v0 hf N fn (fun r => r = R))) (hb : fn.body = some c := by rfl) (hn : (fn.name == "runtime.NumGoroutine") = false := by rfl) (hl : Nat.ble args.length N = true := by rfl) (ha : XVs.all (fun _ _ => false) args = true := by rfl) (hp : pure R = true := by rfl) : XQ P pk f args R :=
  XP.enter hf hb hN hn hl ha (by rintro _ rfl; exact hp) h
theorem Fq {w0 : World} {own : List Seg} {H : Hp} {V : Vn} {v0 : ∀ g t, V g t ≠ none → t = 0 ∧ g ∈ ([] : List Nat)} {hf : (∀ g ∈ ([] : List Nat), g < 0) ∧ pk.hy H} {e : Exit} {us : List XA} {R : XV} (hr : df T s fn.results.toList = some us) (hc : co1 R (cP us) = R) (he : e = .ret ∨ e = .normal := by first | exact .inl rfl | exact .inr rfl) (hp : pure R = true := by rfl) :
    (MS.e e [] s).ok (Cp P pk w0 own H V v0 hf N fn (fun r => r = R)) := ME.finp he hr hc hp rfl
section
variable {E Er : XE} {hp : XH} {nx i : Nat} {ops : List Oper} {dm : Option (List Rc)} {l : List (Nat × Oper)} {d : Tmp} {ty : TypeId} {pos : String} {af : Array Edge} {g : Option (Nat × Bool)}
theorem Cq {opd : Operand} {xs : List Operand} {tys : Array TypeId} {fv : XV} {us : List XV} {R : XV}
    (h : XQ P x.B.pk f args R) (hEr : vis dm ops { dst := some d, op := .call { callee := .value opd, args := xs.toArray, argTypes := tys }, type := ty, pos := pos, after := af, guard := g } E = Er) (hfv : xev Er opd = some fv) (hfn : fnv fv = some (f, [], [])) (hus : fo (xev Er) xs = some us)
    (hargs : cos args us = args) (hb : ax ops Er g = some true ∧ okD x.N (some d) = true)
    (hk : (MS.r ops (bE dm ⟨i, [], false, false⟩) l k ⟨(d, R) :: E, hp, nx⟩).ok x) (hdk : DkM dm ops ⟨i, [], false, false⟩ := by first | exact trivial | (refine DK.mk ?_; decide +kernel)) :
    (MS.r ops dm ((i, { dst := some d, op := .call { callee := .value opd, args := xs.toArray, argTypes := tys }, type := ty, pos := pos, after := af, guard := g }) :: l) k ⟨E, hp, nx⟩).ok x := MS.callp false h hEr hfv hfn hus (SubV.stat hargs) hb hdk (fun _ => ⟨R, rfl, fun _ h => h⟩) (fun h => by cases h) (by rintro _ rfl; exact hk)
theorem Cv {opd : Operand} {xs : List Operand} {tys : Array TypeId} {fv : XV} {fs cs : List XC} {us : List XV} {R : XV}
    (h : XQ P x.B.pk f (cl fs ++ (args ++ cl cs)) R) (hEr : vis dm ops { dst := some d, op := .call { callee := .value opd, args := xs.toArray, argTypes := tys }, type := ty, pos := pos, after := af, guard := g } E = Er) (hfv : xev Er opd = some fv) (hfn : fnv fv = some (f, fs, cs)) (hus : fo (xev Er) xs = some us)
    (hargs : cos args us = args) (hb : ax ops Er g = some true ∧ okD x.N (some d) = true)
    (hk : (MS.r ops (bE dm ⟨i, [], false, false⟩) l k ⟨(d, R) :: E, hp, nx⟩).ok x) (hdk : DkM dm ops ⟨i, [], false, false⟩ := by first | exact trivial | (refine DK.mk ?_; decide +kernel)) :
    (MS.r ops dm ((i, { dst := some d, op := .call { callee := .value opd, args := xs.toArray, argTypes := tys }, type := ty, pos := pos, after := af, guard := g }) :: l) k ⟨E, hp, nx⟩).ok x := MS.callp false h hEr hfv hfn hus (SubV.mid hargs) hb hdk (fun _ => ⟨R, rfl, fun _ h => h⟩) (fun h => by cases h) (by rintro _ rfl; exact hk)
theorem Ce {opd : Operand} {xs : List Operand} {tys : Array TypeId} {fv : XV} {us : List XV} {Ψ : XV → Prop}
    (h : XP P x.B.pk f args Ψ) (hEr : vis dm ops { dst := some d, op := .call { callee := .value opd, args := xs.toArray, argTypes := tys }, type := ty, pos := pos, after := af, guard := g } E = Er) (hfv : xev Er opd = some fv) (hfn : fnv fv = some (f, [], [])) (hus : fo (xev Er) xs = some us)
    (hargs : cos args us = args) (hb : ax ops Er g = some true ∧ okD x.N (some d) = true)
    (hk : ∀ R, Ψ R → (MS.r ops (bE dm ⟨i, [], false, true⟩) l k ⟨(d, R) :: E, hp, nx⟩).ok x) (hdk : DkM dm ops ⟨i, [], false, true⟩ := by first | exact trivial | (refine DK.mk ?_; decide +kernel)) (hrl : RlM dm ops i l := by first | exact trivial | (refine RL.mk ?_; decide +kernel)) :
    (MS.r ops dm ((i, { dst := some d, op := .call { callee := .value opd, args := xs.toArray, argTypes := tys }, type := ty, pos := pos, after := af, guard := g }) :: l) k ⟨E, hp, nx⟩).ok x := MS.callp true h hEr hfv hfn hus (SubV.stat hargs) hb hdk (fun h => by cases h) (fun _ => hrl) hk
theorem LS.ix {pk : Pk} {ops : Array Oper} {d : Option Tmp} {t : TypeId} {o iv : Operand} {rows : List (List D)} {r : List D} {ki : IntKind} {jv : Int} {e sz by_ : Nat} (j : Nat)
    (hx : rows[j]? = some r) (ho : xev Er o = some (.a (.c (.d (.s rows))))) (hi : xev Er iv = some (xv (.int ki jv))) (ht : T.bt.get t = some (.sl e sz by_)) (hj : jv = (j : Int)) (hr : r.length = sz) :
    LS P pk ops { dst := d, op := .indexAddr t o iv, type := ty, pos := pos, after := af, guard := none } Er [] nx nx (fun x fp' => x = .a (.c (.d (.p r))) ∧ fp' = []) := by
  intro w0 N Q rest env own H V sg hl hV htp hf hd _ hh
  obtain ⟨v, h1, h2⟩ := hl.lks _ _ ho
  obtain ⟨w, h3, h4⟩ := hl.lks _ _ hi
  have := bD h4; subst this
  simp only [XV.rel, XA.rel, XC.rel, rd] at h2
  obtain ⟨A, c, sz', rfl, h5, h6, h7⟩ := h2
  have hlt : j < rows.length := (List.getElem?_eq_some_iff.1 hx).1
  rcases h7 with h7 | ⟨b, off, rfl, h7⟩
  · subst h7; simp at hlt
  · obtain ⟨h8, h9⟩ := h7.get hx
    obtain ⟨z, hS⟩ := cM (BT.all_get T.ok ht)
    have e9 : sz' = sz := by rw [← h8, hr]
    subst e9
    refine Qg j h1 h3 hj hlt hd (hh _ _ [] V H sg ⟨rfl, rfl⟩ ?_ hV htp (VX.refl _ _ _) (Le.refl _))
    simp only [XV.rel, XA.rel, XC.rel, rd]
    exact ⟨b, _, rfl, h9⟩
theorem MS.val {op : Op} {R : XV} (hEr : vis dm ops { dst := some d, op := op, type := ty, pos := pos, after := af, guard := g } E = Er) (hb : ax ops Er g = some true ∧ okD x.N (some d) = true) (hL : LS P x.B.pk ops.toArray { dst := some d, op := op, type := ty, pos := pos, after := af, guard := none } Er [] nx nx (fun x fp' => x = R ∧ fp' = []))
    (hdk : DkM dm ops ⟨i, [], false, false⟩) (hk : (MS.r ops (bE dm ⟨i, [], false, false⟩) l k ⟨(d, R) :: E, hp, nx⟩).ok x) : (MS.r ops dm ((i, { dst := some d, op := op, type := ty, pos := pos, after := af, guard := g }) :: l) k ⟨E, hp, nx⟩).ok x := by
  subst hEr
  have e0 : names ([] : XH) ++ List.range' nx (nx - nx) = [] := by simp [names]
  refine MS.op (fp := []) (rest := hp) (Ψ := fun x fp' => x = R ∧ fp' = []) false false hb.2 (.refl _) (Nat.le_refl _) (LS.yes (o := { dst := some d, op := op, type := ty, pos := pos, after := af, guard := g }) hb.1 hL) (by rw [e0]; exact hdk) (fun _ => ⟨_, _, ⟨rfl, rfl⟩, fun _ _ h => h⟩) (fun h => by cases h) ?_
  rintro y fp' ⟨rfl, rfl⟩
  refine ⟨by simp, by simp [names], fun _ => ⟨rfl, rfl⟩, hp, .refl _, ?_⟩
  rw [e0]; exact hk
theorem Ix {t : TypeId} {o iv : Operand} {rows : List (List D)} {r : List D} {ki : IntKind} {jv : Int} {e sz by_ : Nat} (j : Nat)
    (hx : rows[j]? = some r) (hEr : vis dm ops { dst := some d, op := .indexAddr t o iv, type := ty, pos := pos, after := af, guard := g } E = Er) (ho : xev Er o = some (.a (.c (.d (.s rows))))) (hi : xev Er iv = some (xv (.int ki jv))) (ht : T.bt.get t = some (.sl e sz by_)) (hb : ax ops Er g = some true ∧ okD x.N (some d) = true) (hj : jv = (j : Int)) (hr : r.length = sz)
    (hk : (MS.r ops (bE dm ⟨i, [], false, false⟩) l k ⟨(d, .a (.c (.d (.p r)))) :: E, hp, nx⟩).ok x) (hdk : DkM dm ops ⟨i, [], false, false⟩ := by first | exact trivial | (refine DK.mk ?_; decide +kernel)) : (MS.r ops dm ((i, { dst := some d, op := .indexAddr t o iv, type := ty, pos := pos, after := af, guard := g }) :: l) k ⟨E, hp, nx⟩).ok x :=
  MS.val hEr hb (LS.ix (T := T) j hx ho hi ht hj hr) hdk hk
end
end
def ELe (E E' : XE) : Prop := ∀ j u, xlk E j = some u → xlk E' j = some u
theorem ELe.put {E E' : XE} (h : ELe E E') (d : Option Tmp) (v : XV) : ELe (bl d v E) (bl d v E') := fun j u => by
  cases d with
  | none => exact h j u
  | some d =>
    simp only [bl, xlk]
    cases Nat.beq d j
    · exact h j u
    · exact id
theorem SR.le_ {B : Bs} {E E' : XE} {hp : XH} {nx : Nat} (h : ELe E E') {V : Vn} {H : Hp} {sg : Seg} {env : Env} (hs : SR B ⟨E', hp, nx⟩ V H sg env) : SR B ⟨E, hp, nx⟩ V H sg env :=
  ⟨hs.lk.sub h, hs.hr, hs.top, hs.nd, hs.fresh, hs.le, hs.vle, hs.keep, hs.sub, hs.nxle⟩
section
variable {P : Program} {x : Cx P} {T : Tb P} {k : List Fr} {s : XS}
theorem XR.le {pk : Pk} {N : Nat} {l : List Oper} {K : XS → Prop} (hK : ∀ E E' hp nx, ELe E E' → K ⟨E, hp, nx⟩ → K ⟨E', hp, nx⟩) : ∀ {td : List Nat} {rs : List Rc} {E E' : XE} {hp : XH} {nx : Nat}, ELe E E' → XR P pk N l td rs ⟨E, hp, nx⟩ K → XR P pk N l td rs ⟨E', hp, nx⟩ K := by
  intro td
  induction td with
  | nil => intro rs E E' hp nx he h; exact hK _ _ _ _ he h
  | cons i td ih =>
    rintro rs E E' hp nx he ⟨o, Er, fp, rest, nx', wr, rel, Ψ, h1, h2, h3, h4, h5, h6, h7, h8, h9, h10⟩
    refine ⟨o, Er, fp, rest, nx', wr, rel, Ψ, h1, h2, fun j u hj => ⟨he _ _ (h3 j u hj).1, (h3 j u hj).2⟩, h4, h5, h6, h7, h8, h9, fun v fp' hv => ?_⟩
    obtain ⟨a1, a2, a3, hp', a4, a5⟩ := h10 v fp' hv
    exact ⟨a1, a2, a3, hp', a4, ih (he.put _ _) a5⟩
def MS.wE (f : XE → XE) : MS → MS
  | .c q k ⟨E, hp, nx⟩ => .c q k ⟨f E, hp, nx⟩
  | .e q k ⟨E, hp, nx⟩ => .e q k ⟨f E, hp, nx⟩
  | .r o d l k ⟨E, hp, nx⟩ => .r o d l k ⟨f E, hp, nx⟩
def MS.E : MS → XE
  | .c _ _ s => s.E
  | .e _ _ s => s.E
  | .r _ _ _ _ s => s.E
theorem MS.le {f : XE → XE} : ∀ {m : MS}, ELe (f m.E) m.E → (m.wE f).ok x → m.ok x
  | .c q k ⟨E, hp, nx⟩, h, hk => fun V H sg env hs => hk V H sg env (hs.le_ h)
  | .e q k ⟨E, hp, nx⟩, h, hk => fun V H sg env hs => hk V H sg env (hs.le_ h)
  | .r o none l k ⟨E, hp, nx⟩, h, hk => fun B Q h1 h2 h3 V H sg env hs => hk B Q h1 h2 h3 V H sg env (hs.le_ h)
  | .r o (some rs) l k ⟨E, hp, nx⟩, h, hk => fun hl => XR.le (fun _ _ _ _ he h V H sg env hs => h V H sg env (hs.le_ he)) h (hk hl)
theorem Sp (t : Nat) {m : MS} {b : Bool} (h : xlk m.E t = some (xv (.bool b))) (h1 : b = true → (m.wE (fun E => (t, xv (.bool true)) :: E)).ok x) (h2 : b = false → (m.wE (fun E => (t, xv (.bool false)) :: E)).ok x) : m.ok x := by
  have key : ∀ c, b = c → ELe ((t, xv (.bool c)) :: m.E) m.E := by
    rintro c rfl j u hj
    simp only [xlk] at hj
    cases hb : Nat.beq t j with
    | true => rw [hb, cond_true] at hj; rw [← hj, ← Nat.eq_of_beq_eq_true hb]; exact h
    | false => rw [hb] at hj; exact hj
  cases hb : b with
  | true => exact MS.le (f := fun E => (t, xv (.bool true)) :: E) (key _ hb) (h1 hb)
  | false => exact MS.le (f := fun E => (t, xv (.bool false)) :: E) (key _ hb) (h2 hb)
theorem Ct {α : Type} {a b : Code} (S : α → XS) (I : α → Prop) (h : (MS.c a (.l (fun _ s => ∃ a, I a ∧ s = S a) 1 :: k) s).ok x) (hb : ∀ a, I a → (MS.c b k (S a)).ok x) : (MS.c (.seq a b) k s).ok x :=
  MC.cut (fun s => ∃ a, I a ∧ s = S a) h (by rintro s ⟨a, h1, rfl⟩; exact hb a h1)
theorem Dn {α : Type} {S : α → XS} {I : α → Prop} (a : α) (hI : I a) (hm : Mt x.B.nx0 x.B.F s (S a) id := by exact ⟨⟨_, _, rfl, rfl⟩, rfl, rfl⟩) : (MS.e .normal (.l (fun _ s => ∃ a, I a ∧ s = S a) 1 :: k) s).ok x := ME.next 0 hm Nat.one_pos ⟨a, hI, rfl⟩
def keepE (E : XE) : List Nat → XE → Option XE
  | [], acc => some acc
  | t :: r, acc => match xlk E t with | some v => keepE E r ((t, v) :: acc) | none => none
theorem Lq {α : Type} {c : Code} {E E1 : XE} {hp : XH} {nx : Nat} (ls : List Nat) (f : α → XE → XE) (g : α → XH) (nx' : Nat) (I : α → Prop) (μ : α → Nat) (a : α) (hls : keepE E ls [] = some E1) (h0 : I a)
    (round : ∀ a, I a → (MS.c c (.l (fun n s => ∃ a, I a ∧ n = μ a ∧ s = ⟨f a E1, g a, nx'⟩) (μ a) :: k) ⟨f a E1, g a, nx'⟩).ok x) (hm : Mt x.B.nx0 x.B.F ⟨E, hp, nx⟩ ⟨f a E1, g a, nx'⟩ id := by exact ⟨⟨_, _, rfl, rfl⟩, rfl, rfl⟩) : (MS.c (.loop c) k ⟨E, hp, nx⟩).ok x := Lp (fun a => ⟨f a E1, g a, nx'⟩) I μ a hm h0 round
theorem Nq {α : Type} {S : α → XS} {I : α → Prop} {μ : α → Nat} {n : Nat} (a : α) (hI : I a) (hlt : μ a < n) (hm : Mt x.B.nx0 x.B.F s (S a) id := by exact ⟨⟨_, _, rfl, rfl⟩, rfl, rfl⟩) : (MS.e .normal (.l (fun n s => ∃ a, I a ∧ n = μ a ∧ s = S a) n :: k) s).ok x := Nxt a hm hI hlt
theorem Cu {α : Type} {a b : Code} {E E1 : XE} {hp : XH} {nx : Nat} (ls : List Nat) (f : α → XE → XE) (g : α → XH) (nx' : Nat) (I : α → Prop) (hls : keepE E ls [] = some E1) (h : (MS.c a (.l (fun _ s => ∃ a, I a ∧ s = ⟨f a E1, g a, nx'⟩) 1 :: k) ⟨E, hp, nx⟩).ok x) (hb : ∀ a, I a → (MS.c b k ⟨f a E1, g a, nx'⟩).ok x) : (MS.c (.seq a b) k ⟨E, hp, nx⟩).ok x := Ct (fun a => ⟨f a E1, g a, nx'⟩) I h hb
theorem Cf {α : Type} {a d : Code} {E E1 : XE} {hp : XH} {nx : Nat} (ls : List Nat) (f : α → XE → XE) (g : α → XH) (nx' : Nat) (I : α → Prop) (hls : keepE E ls [] = some E1) (h : (MS.c a (.l (fun _ s => ∃ a, I a ∧ s = ⟨f a E1, g a, nx'⟩) 1 :: .s d :: k) ⟨E, hp, nx⟩).ok x) (hb : ∀ a, I a → (MS.c d k ⟨f a E1, g a, nx'⟩).ok x) : (MS.c a (.s d :: k) ⟨E, hp, nx⟩).ok x :=
  MC.cutf (fun s => ∃ a, I a ∧ s = ⟨f a E1, g a, nx'⟩) h (by rintro s ⟨a, h1, rfl⟩; exact hb a h1)
theorem IfT {o : Operand} {a b : Code} {t : Bool} (hc : xev s.E o = some (xv (.bool t))) (ht : t = true) (h : (MS.c a k s).ok x) : (MS.c (.cond o a b) k s).ok x := MC.cond hc (fun _ => h) (fun h => by rw [ht] at h; cases h)
theorem IfF {o : Operand} {a b : Code} {t : Bool} (hc : xev s.E o = some (xv (.bool t))) (ht : t = false) (h : (MS.c b k s).ok x) : (MS.c (.cond o a b) k s).ok x := MC.cond hc (fun h => by rw [ht] at h; cases h) (fun _ => h)
theorem Ln {c : Code} {rows : List (List D)} (i : Nat) (h : xlk s.E i = some (.a (.c (.d (.s rows))))) (hk : rows.length ≤ 9223372036854775807 → (MS.c c k s).ok x) : (MS.c c k s).ok x := fun V H sg env hs => hk (by
  obtain ⟨v, _, h2⟩ := hs.lk i _ h
  simp only [XV.rel, XA.rel, XC.rel, rd] at h2
  obtain ⟨A, n, sz, rfl, h3, h4, _⟩ := h2
  exact Nat.le_trans h3 h4) V H sg env hs
theorem ns : ∀ u : XA, coA u u = u
  | .c x => by cases x with
    | d y => cases y <;> rfl
    | _ => rfl
  | .a _ => rfl
  | .g _ => rfl
theorem kE : ∀ l : List XA, coAs l l = l
  | [] => rfl
  | u :: r => by rw [coAs, ns, kE r]
theorem Fe {fn : Func} {N : Nat} {pk : Pk} {w0 : World} {own : List Seg} {H : Hp} {V : Vn} {v0 : ∀ g t, V g t ≠ none → t = 0 ∧ g ∈ ([] : List Nat)} {hf : (∀ g ∈ ([] : List Nat), g < 0) ∧ pk.hy H} {e : Exit} {us : List XA} {R : XV} (hr : df T s fn.results.toList = some us) (hc : cP us = R) (he : e = .ret ∨ e = .normal := by first | exact .inl rfl | exact .inr rfl) (hp : pure R = true := by rfl) :
    (MS.e e [] s).ok (Cp P pk w0 own H V v0 hf N fn (fun r => r = R)) := by
  refine Fq (T := T) hr ?_ he hp
  subst hc
  cases cP us with
  | a y => exact congrArg XV.a (ns y)
  | t l => exact congrArg XV.t (kE l)
  | _ => rfl
theorem Gs (st : Nat) {m m' : MS} {ob' : List Prop} (h : bZ T x.N true st 100000 m [] = (m', ob')) (h2 : m'.ok x) (h1 : aR ob' := by repeat' (first | exact trivial | assumption | apply And.intro | omega | (dsimp only; omega) | (refine DK.mk ?_; decide +kernel) | (refine BK.mk ?_; decide +kernel) | rfl | intro _ | (refine congrArg (a₂ := false) not ?_; assumption) | (simp [*]; done) | (simp_all; done))) : m.ok x := (ni h h1 h2).2
theorem LS.callp {pk : Pk} {f : FuncId} {args : List XV} {ops : Array Oper} {d : Option Tmp} {ty : TypeId} {pos : String} {af : Array Edge} {opd : Operand} {xs : List Operand} {tys : Array TypeId} {Er : XE} {nx : Nat} {fv : XV} {fs cs : List XC} {us : List XV} {Ψ : XV → Prop}
    (h : XP P pk f args Ψ) (hfv : xev Er opd = some fv) (hfn : fnv fv = some (f, fs, cs)) (hus : fo (xev Er) xs = some us) (hargs : SubV (cl fs ++ (us ++ cl cs)) args) :
    LS P pk ops { dst := d, op := .call { callee := .value opd, args := xs.toArray, argTypes := tys }, type := ty, pos := pos, after := af, guard := none } Er [] nx nx (fun x fp' => Ψ x ∧ fp' = []) := by
  obtain ⟨h1, h2, hcl, h3⟩ := h
  have mono : ∀ {xs : List XV}, XVs.all (fun _ _ => false) xs = true → XVs.all (low 0) xs = true := by
    have hp : (fun g t => low 0 g t) = fun _ _ => false := by funext g t; simp [low, Nat.blt]
    intro xs hx
    have : low 0 = fun _ _ => false := hp
    rw [this]; exact hx
  have e := XVs.ren_pure (μ := muc [] 0 nx []) h1
  refine (LS.call (fp := []) (gs := []) (vs := []) (nx := nx) hfv hfn hcl h3 (by simp only [fR, mono h1, Bool.true_and]; rfl) (Nat.le_refl 0) hus (by rw [e]; exact hargs) rfl rfl List.nodup_nil (by simp)).weak ?_
  rintro y fp' ⟨r, hp', ⟨hr, rfl⟩, rfl, rfl, _⟩
  exact ⟨by rw [XV.ren_pure (h2 r hr)]; exact hr, rfl⟩
section
variable {E Er Es : XE} {hp : XH} {nx i : Nat} {ops : List Oper} {dm : Option (List Rc)} {l : List (Nat × Oper)} {d : Tmp} {ty : TypeId} {pos : String} {af : Array Edge} {g : Option (Nat × Bool)} {c : Bool} {R : XA} {ob : List Prop} {f : FuncId} {args : List XV}
theorem MS.sft {op : Op} (hEr : vis dm ops { dst := some d, op := op, type := ty, pos := pos, after := af, guard := g } E = Er) (hc : xcnd ops Er g = some c) (hs : sofO Er op = (Es, ob)) (hob : c = true → aR ob) (hd : okD x.N (some d) = true)
    (hL : c = true → LS P x.B.pk ops.toArray { dst := some d, op := op, type := ty, pos := pos, after := af, guard := none } Es [] nx nx (fun x fp' => x = .a R ∧ fp' = [])) (hdk : DkM dm ops ⟨i, [], false, false⟩) (hk : (MS.r ops (bE dm ⟨i, [], false, false⟩) l k ⟨(d, .gd c R) :: E, hp, nx⟩).ok x) :
    (MS.r ops dm ((i, { dst := some d, op := op, type := ty, pos := pos, after := af, guard := g }) :: l) k ⟨E, hp, nx⟩).ok x := by
  subst hEr
  have e0 : names ([] : XH) ++ List.range' nx (nx - nx) = [] := by simp [names]
  refine MS.op (fp := []) (rest := hp) (Ψ := fun x fp' => x = .gd c R ∧ fp' = []) false false hd (.refl _) (Nat.le_refl _) (LS.soft (o := { dst := some d, op := op, type := ty, pos := pos, after := af, guard := g }) hc (fun hct V H env hl => l5 hl hs (hob hct)) hL) (by rw [e0]; exact hdk) (fun _ => ⟨_, _, ⟨rfl, rfl⟩, fun _ _ h => h⟩) (fun h => by cases h) ?_
  rintro y fp' ⟨rfl, rfl⟩
  refine ⟨by simp, by simp [names], fun _ => ⟨rfl, rfl⟩, hp, .refl _, ?_⟩
  rw [e0]; exact hk
theorem Cs {opd : Operand} {xs : List Operand} {tys : Array TypeId} {fv : XV} {us : List XV}
    (h : c = true → XQ P x.B.pk f args (.a R)) (hEr : vis dm ops { dst := some d, op := .call { callee := .value opd, args := xs.toArray, argTypes := tys }, type := ty, pos := pos, after := af, guard := g } E = Er) (hc : xcnd ops Er g = some c) (hs : sofO Er (.call { callee := .value opd, args := xs.toArray, argTypes := tys }) = (Es, ob))
    (hfv : xev Es opd = some fv) (hfn : fnv fv = some (f, [], [])) (hus : fo (xev Es) xs = some us) (hargs : cos args us = args) (hd : okD x.N (some d) = true)
    (hk : (MS.r ops (bE dm ⟨i, [], false, false⟩) l k ⟨(d, .gd c R) :: E, hp, nx⟩).ok x) (hdk : DkM dm ops ⟨i, [], false, false⟩ := by first | exact trivial | (refine DK.mk ?_; decide +kernel)) (hob : c = true → aR ob := by first | exact fun _ => trivial | (intro _; repeat' (first | exact trivial | assumption | apply And.intro | (simp_all; done)))) :
    (MS.r ops dm ((i, { dst := some d, op := .call { callee := .value opd, args := xs.toArray, argTypes := tys }, type := ty, pos := pos, after := af, guard := g }) :: l) k ⟨E, hp, nx⟩).ok x :=
  MS.sft hEr hc hs hob hd (fun hct => LS.callp (h hct) hfv hfn hus (SubV.stat hargs)) hdk hk
theorem Is {t : TypeId} {o iv : Operand} {rows : List (List D)} {ki : IntKind} {jv : Int} {e sz by_ : Nat} (j : Nat) (r : List D)
    (hx : c = true → rows[j]? = some r ∧ jv = (j : Int)) (hEr : vis dm ops { dst := some d, op := .indexAddr t o iv, type := ty, pos := pos, after := af, guard := g } E = Er) (hc : xcnd ops Er g = some c) (hs : sofO Er (.indexAddr t o iv) = (Es, ob)) (ho : xev Es o = some (.a (.c (.d (.s rows))))) (hi : xev Es iv = some (xv (.int ki jv))) (ht : T.bt.get t = some (.sl e sz by_)) (hd : okD x.N (some d) = true) (hr : r.length = sz)
    (hk : (MS.r ops (bE dm ⟨i, [], false, false⟩) l k ⟨(d, .gd c (.c (.d (.p r)))) :: E, hp, nx⟩).ok x) (hdk : DkM dm ops ⟨i, [], false, false⟩ := by first | exact trivial | (refine DK.mk ?_; decide +kernel)) (hob : c = true → aR ob := by first | exact fun _ => trivial | (intro _; repeat' (first | exact trivial | assumption | apply And.intro | (simp_all; done)))) :
    (MS.r ops dm ((i, { dst := some d, op := .indexAddr t o iv, type := ty, pos := pos, after := af, guard := g }) :: l) k ⟨E, hp, nx⟩).ok x :=
  MS.sft hEr hc hs hob hd (fun hct => LS.ix (T := T) j (hx hct).1 ho hi ht (hx hct).2 hr) hdk hk
end
def bz1 (g t : Nat) (ds : List D) : XC → XC
  | .p g' t' o => bif Nat.beq g g' && Nat.beq t t' then .d (.p (ds.drop o)) else .p g' t' o
  | y => y
def bzs (g t : Nat) (ds : List D) : List XC → List XC
  | [] => []
  | y :: r => bz1 g t ds y :: bzs g t ds r
def bzC (g t : Nat) (ds : List D) : XC → XC
  | .f fn fs cs => match gM (bzs g t ds fs), gM (bzs g t ds cs) with
    | some a, some b => .d (.f fn a b)
    | _, _ => .f fn (bzs g t ds fs) (bzs g t ds cs)
  | .p g' t' o => bif Nat.beq g g' && Nat.beq t t' then .d (.p (ds.drop o)) else .p g' t' o
  | y => y
def bzCs (g t : Nat) (ds : List D) : List XC → List XC
  | [] => []
  | y :: r => bzC g t ds y :: bzCs g t ds r
def bzV (g t : Nat) (ds : List D) : XV → XV
  | .a (.c y) => .a (.c (bzC g t ds y))
  | .a (.a l) => .a (.a (bzCs g t ds l))
  | y => y
def bzE (g t : Nat) (ds : List D) : XE → XE
  | [] => []
  | (i, y) :: r => (i, bzV g t ds y) :: bzE g t ds r
def bzH (g t : Nat) (ds : List D) : XH → XH
  | [] => []
  | ⟨g', t', .cells c e⟩ :: r => ⟨g', t', .cells (bzCs g t ds c) e⟩ :: bzH g t ds r
  | b :: r => b :: bzH g t ds r
def bzS (g : Nat) : XS → Option XS
  | ⟨E, hp, nx⟩ => match ah hp g with
    | some ⟨_, t, .cells c _⟩ => match gM c with | some ds => some ⟨bzE g t ds E, bzH g t ds (bi hp g), nx⟩ | none => none
    | _ => none
section
variable {g t e b : Nat} {ds : List D} {V : Vn} {H : Hp}
theorem bz1_ok (hV : V g t = some (some b, e)) (hr : rds H b 0 ds) {y : XC} {v : Value} (h : y.rel V H v) : (bz1 g t ds y).rel V H v := by
  unfold bz1
  split
  · rename_i g' t' o
    cases hb : (Nat.beq g g' && Nat.beq t t') with
    | false => exact h
    | true =>
      simp only [Bool.and_eq_true] at hb
      have h1 := Nat.eq_of_beq_eq_true hb.1
      have h2 := Nat.eq_of_beq_eq_true hb.2
      subst h1 h2
      simp only [XC.rel] at h
      obtain ⟨b', e', h3, rfl⟩ := h
      rw [hV] at h3; cases h3
      simp only [cond_true, XC.rel, rd]
      exact ⟨b, o, rfl, by have := hr.drop (n := o); rwa [Nat.zero_add] at this⟩
  · exact h
theorem bzs_ok (hV : V g t = some (some b, e)) (hr : rds H b 0 ds) : ∀ {ys : List XC} {vs : List Value}, rels V H ys vs → rels V H (bzs g t ds ys) vs
  | [], [], h => h
  | _ :: _, _ :: _, h => ⟨bz1_ok hV hr h.1, bzs_ok hV hr h.2⟩
  | [], _ :: _, h => h.elim
  | _ :: _, [], h => h.elim
theorem bzC_ok (hV : V g t = some (some b, e)) (hr : rds H b 0 ds) {y : XC} {v : Value} (h : y.rel V H v) : (bzC g t ds y).rel V H v := by
  unfold bzC
  split
  · simp only [XC.rel] at h
    obtain ⟨us, ws, rfl, h1, h2⟩ := h
    have k1 := bzs_ok hV hr h1
    have k2 := bzs_ok hV hr h2
    split
    · rename_i a b' e1 e2
      simp only [XC.rel, rd]
      exact ⟨us, ws, rfl, cD e1 k1, cD e2 k2⟩
    · simp only [XC.rel]; exact ⟨us, ws, rfl, k1, k2⟩
  · exact bz1_ok (y := .p _ _ _) hV hr h
  · exact h
theorem ma (hV : V g t = some (some b, e)) (hr : rds H b 0 ds) : ∀ {ys : List XC} {vs : List Value}, rels V H ys vs → rels V H (bzCs g t ds ys) vs
  | [], [], h => h
  | _ :: _, _ :: _, h => ⟨bzC_ok hV hr h.1, ma hV hr h.2⟩
  | [], _ :: _, h => h.elim
  | _ :: _, [], h => h.elim
theorem bzV_ok (hV : V g t = some (some b, e)) (hr : rds H b 0 ds) {y : XV} {v : Value} (h : y.rel V H v) : (bzV g t ds y).rel V H v := by
  unfold bzV
  split
  · exact bzC_ok hV hr h
  · obtain ⟨us, h1, h2⟩ := h; exact ⟨us, h1, ma hV hr h2⟩
  · exact h
theorem xlk_bz : ∀ {E : XE} {i : Nat} {u : XV}, xlk (bzE g t ds E) i = some u → ∃ y, xlk E i = some y ∧ u = bzV g t ds y
  | [], i, u, h => by cases h
  | (j, y) :: r, i, u, h => by
    simp only [bzE, xlk] at h ⊢
    cases hb : Nat.beq j i with
    | true => rw [hb] at h; cases h; exact ⟨y, rfl, rfl⟩
    | false => rw [hb] at h; exact xlk_bz h
theorem mb (hV : V g t = some (some b, e)) (hr : rds H b 0 ds) : ∀ {hp : XH} {sg : Seg}, HR V H hp sg → HR V H (bzH g t ds hp) sg
  | [], _, h => h
  | ⟨g', t', .cells c e⟩ :: r, _, ⟨s1, s2, h0, h1, h4⟩ => by
    refine ⟨s1, s2, h0, ?_, mb hV hr h4⟩
    rcases h1 with ⟨b', ob, ex, h1, h2, us, h3, h5⟩ | ⟨_, _, e', sz, h3, _⟩
    · exact .inl ⟨b', ob, ex, h1, h2, us, ma hV hr h3, h5⟩
    · cases h3
  | ⟨g', t', .row n2 rows2 e sz⟩ :: r, _, ⟨s1, s2, h0, h1, h4⟩ => ⟨s1, s2, h0, h1, mb hV hr h4⟩
  | ⟨g', t', .mp Q⟩ :: r, _, ⟨s1, s2, h0, h1, h4⟩ => ⟨s1, s2, h0, h1, mb hV hr h4⟩
theorem ez : ∀ hp : XH, (bzH g t ds hp).map (fun b => (b.g, b.t)) = hp.map fun b => (b.g, b.t)
  | [] => rfl
  | ⟨_, _, .cells _ _⟩ :: r => by simp only [bzH, List.map_cons, ez r]
  | ⟨_, _, .row _ _ _ _⟩ :: r => by simp only [bzH, List.map_cons, ez r]
  | ⟨_, _, .mp _⟩ :: r => by simp only [bzH, List.map_cons, ez r]
end
def FzTo (s s' : XS) : Prop := ∀ (B : Bs) V H sg env, SR B s V H sg env → ∃ s1 s2 : Seg, (s1 ++ s2).Perm sg ∧ ∀ H', Le H H' → (∀ p ∈ s1, H' p.1 = some p.2) → SR B s' V H' s2 env
theorem FzTo.bz {s s' : XS} (g : Nat) (h : bzS g s = some s') : FzTo s s' := fun B V H sg env hs => by
  obtain ⟨E, hp, nx⟩ := s
  simp only [bzS] at h
  split at h
  · rename_i g' t c e hg
    split at h
    · rename_i ds hds
      cases h
      obtain ⟨p1, p2, _⟩ := aD hg
      simp only at p2
      subst p2
      obtain ⟨sg', q1, q2⟩ := hs.hr.perm p1
      obtain ⟨t1, t2, rfl, hrel, q3⟩ := q2
      refine ⟨t1, t2, q1, fun H' hle hH => ?_⟩
      rcases hrel with ⟨b, ob, ex, rfl, hV, us, r1, r2⟩ | ⟨_, _, _, _, h2, _⟩
      · have hq := hH _ (List.mem_singleton.2 rfl)
        simp only at hq hV
        have key : ∀ (vs pre : List Value), pre ++ vs = us → hAt H' b pre.length vs := by
          intro vs
          induction vs with
          | nil => intro _ _; trivial
          | cons v vs ih =>
            intro pre he
            refine ⟨?_, by have := ih (pre ++ [v]) (by simpa using he); simpa using this⟩
            simp only [cel, hq, r2]
            rw [← he]
            simp
        have hrd : rds H' b 0 ds := rds.of (key us [] rfl) (cD hds (XC.monos (VLe.refl _) hle r1))
        have hsub : ∀ b ∈ bzH g' t ds (bi hp g'), ∃ c ∈ hp, c.g = b.g ∧ c.t = b.t := by
          intro b hb
          have : (b.g, b.t) ∈ (bi hp g').map fun b => (b.g, b.t) := by rw [← ez (ds := ds) (g := g') (t := t)]; exact List.mem_map.2 ⟨b, hb, rfl⟩
          obtain ⟨c, hc, e9⟩ := List.mem_map.1 this
          simp only [Prod.mk.injEq] at e9
          exact ⟨c, p1.mem_iff.2 (List.mem_cons_of_mem _ hc), e9.1, e9.2⟩
        refine ⟨fun i u hu => ?_, mb hV hrd (q3.mono (VLe.refl _) hle), ?_, ?_, hs.fresh, hs.le.trans hle, hs.vle, hs.keep, ?_, hs.nxle⟩
        · obtain ⟨y, hy, rfl⟩ := xlk_bz hu
          obtain ⟨v, a1, a2⟩ := hs.lk i y hy
          exact ⟨v, a1, bzV_ok hV hrd (XV.mono (VLe.refl _) hle a2)⟩
        · intro b hb t' ht'
          obtain ⟨c, hc, e1, e2⟩ := hsub b hb
          rw [← e1]; exact hs.top c hc t' (by omega)
        · have h1 := (p1.map XB.g).nodup_iff.1 hs.nd
          have h2 : (names (bi hp g')).Nodup := (List.nodup_cons.1 h1).2
          have h3 : names (bzH g' t ds (bi hp g')) = names (bi hp g') := by
            have := congrArg (List.map Prod.fst) (ez (ds := ds) (g := g') (t := t) (bi hp g'))
            simpa [names, List.map_map, Function.comp_def] using this
          rw [h3]; exact h2
        · intro b hb
          obtain ⟨c, hc, e1, e2⟩ := hsub b hb
          rw [← e1]; exact hs.sub c hc
      · cases h2
    · cases h
  · cases h
theorem FzTo.c {s s' : XS} {c : Code} (h : FzTo s s') (hk : (MS.c c k s').ok x) : (MS.c c k s).ok x := fun V H sg env hs a w ha hw => by
  obtain ⟨s1, s2, h1, h2⟩ := h _ _ _ _ _ hs
  obtain ⟨H', h3, h4, h5⟩ := St.fz h1 hw
  exact hk V H' s2 env (h2 H' h3 h4) a w ha h5
theorem FzTo.e {s s' : XS} {e : Exit} (h : FzTo s s') (hk : (MS.e e k s').ok x) : (MS.e e k s).ok x := fun V H sg env hs a w ha hw => by
  obtain ⟨s1, s2, h1, h2⟩ := h _ _ _ _ _ hs
  obtain ⟨H', h3, h4, h5⟩ := St.fz h1 hw
  exact hk V H' s2 env (h2 H' h3 h4) a w ha h5
theorem FzTo.r {s s' : XS} {ops : List Oper} {l : List (Nat × Oper)} (h : FzTo s s') (hk : (MS.r ops none l k s').ok x) : (MS.r ops none l k s).ok x := fun B Q hB hpan hK V H sg env hs a w ha hw => by
  obtain ⟨s1, s2, h1, h2⟩ := h _ _ _ _ _ hs
  obtain ⟨H', h3, h4, h5⟩ := St.fz h1 hw
  exact hk B Q hB hpan hK V H' s2 env (h2 H' h3 h4) a w ha h5
end
section
variable {P : Program} {x : Cx P} {T : Tb P} {k : List Fr} {s : XS}
variable {E Er : XE} {hp : XH} {nx i : Nat} {ops : List Oper} {dm : Option (List Rc)} {l : List (Nat × Oper)} {ty : TypeId} {pos : String} {af : Array Edge} {g : Option (Nat × Bool)} {pk : Pk}
theorem LS.newMap {ops : Array Oper} {d : Option Tmp} {t : TypeId} (Q : Obj → Prop) (hQ : Q (.map #[] 0)) :
    LS P pk ops { dst := d, op := .makeMap t none, type := ty, pos := pos, after := af, guard := none } Er [] nx (nx + 1) (fun x fp' => x = .a (.c (.m nx 0)) ∧ fp' = [⟨nx, 0, .mp Q⟩]) := by
  intro w0 N Q' rest env own H V sg hl hV htp hf hd _ hh
  have hV0 := HR0 hV
  subst hV0
  refine TL.newMap hd (fun g => ?_)
  obtain ⟨k1, k2, k3⟩ := cU (V := V) (H := H) (g := g) (ex := 0) (o := .map #[] 0) (xo := .mp Q) hf hQ
  have h9 := hh (.map (some g)) (.a (.c (.m nx 0))) _ _ H _ ⟨rfl, rfl⟩ (by simp only [XV.rel, XA.rel, XC.rel]; exact ⟨g, 0, Vn.new_at .., rfl⟩) k1 k2 k3 (Le.refl _)
  exact TL.flat (own' := [(g, .map #[] 0)] :: own) (List.Perm.refl _) h9
theorem Mm {d : Tmp} {t : TypeId} (Q : Obj → Prop) (hQ : Q (.map #[] 0)) (hb : ax ops E g = some true ∧ okD x.N (some d) = true) (hk : (MS.r ops none l k ⟨(d, .a (.c (.m nx 0))) :: E, ⟨nx, 0, .mp Q⟩ :: hp, nx + 1⟩).ok x) :
    (MS.r ops none ((i, { dst := some d, op := .makeMap t none, type := ty, pos := pos, after := af, guard := g }) :: l) k ⟨E, hp, nx⟩).ok x := by
  refine MS.op (fp := []) (rest := hp) (Ψ := fun x fp' => x = .a (.c (.m nx 0)) ∧ fp' = [⟨nx, 0, .mp Q⟩]) true false hb.2 (.refl _) (Nat.le_succ _) (LS.yes (o := { dst := some d, op := .makeMap t none, type := ty, pos := pos, after := af, guard := g }) hb.1 (LS.newMap Q hQ)) trivial (fun _ => ⟨_, _, ⟨rfl, rfl⟩, fun _ _ h => h⟩) (fun h => by cases h) ?_
  rintro y fp' ⟨rfl, rfl⟩
  exact ⟨by simp, by simp [names], fun h => (by cases h), _, .refl _, hk⟩
def vls : List D → Option (List Value)
  | [] => some []
  | .c v :: r => match vls r with | some l => some (v :: l) | none => none
  | _ :: _ => none
def vOf : XV → Option Value
  | .a (.c (.d (.c v))) => some v
  | .a (.a l) => match gM l with | some ds => (match vls ds with | some vs => some (.agg vs.toArray) | none => none) | none => none
  | .a (.g ds) => match vls ds with | some vs => some (.agg vs.toArray) | none => none
  | _ => none
theorem vls_ok {H : Hp} : ∀ {ds : List D} {vs us : List Value}, vls ds = some vs → rdL H ds us → us = vs
  | [], _, [], h, _ => by cases h; rfl
  | .c v :: r, vs, u :: us, h, hr => by
    simp only [vls] at h
    split at h
    · rename_i l hl
      cases h
      have h1 := hr.1
      simp only [rd] at h1
      rw [h1.1, vls_ok hl hr.2]
    · cases h
  | [], _, _ :: _, _, hr => hr.elim
  | _ :: _, _, [], _, hr => hr.elim
  | .s _ :: _, _, _ :: _, h, _ => by cases h
  | .p _ :: _, _, _ :: _, h, _ => by cases h
  | .f _ _ _ :: _, _, _ :: _, h, _ => by cases h
  | .mp _ :: _, _, _ :: _, h, _ => by cases h
theorem jy {V : Vn} {H : Hp} {y : XV} {v u : Value} (h : vOf y = some v) (hr : y.rel V H u) : u = v := by
  unfold vOf at h
  split at h
  · cases h; exact bD hr
  · split at h
    · rename_i ds h1
      split at h
      · rename_i vs h2
        cases h
        obtain ⟨us, rfl, h3⟩ := hr
        rw [← vls_ok h2 (cD h1 h3)]
      · cases h
    · cases h
  · split at h
    · rename_i vs h2
      cases h
      obtain ⟨us, rfl, h3⟩ := hr
      rw [← vls_ok h2 h3]
    · cases h
  · cases h
theorem LS.insR {ops : Array Oper} {d : Option Tmp} {t kt e : TypeId} {m y z : Operand} {g t0 n : Nat} {f : Value → Option Value} (f' : Value → Option Value) {key v : Value} {kl : Lit} {dd : DataW Unit} {yv zv : XV}
    (hm : xev Er m = some (.a (.c (.m g t0)))) (hy : xev Er y = some yv) (hyv : vOf yv = some key) (hz : xev Er z = some zv) (hzv : vOf zv = some v) (ht : T.bt.get t = some (.m kt e)) (K : Maps.Keyed P kt) (hn : n < maxLen) (hk : keyOf P kt key = some kl) (hv : R0 v = some (dd, [])) (hnone : f key = none)
    (hg1 : f' key = some v) (hg2 : ∀ s, s ≠ key → f' s = f s) :
    LS P pk ops { dst := d, op := .insert t m y z, type := ty, pos := pos, after := af, guard := none } Er [⟨g, t0, .mp (fun o => MapR P kt e o n f)⟩] nx nx (fun x fp' => x = .u ∧ fp' = [⟨g, t0, .mp (fun o => MapR P kt e o (n + 1) f')⟩]) := by
  intro w0 N Q rest env own H V sg hl hV htp hf hd _ hh
  obtain ⟨w1, h1, h2⟩ := hl.lks _ _ hm
  obtain ⟨w2, h3, h4⟩ := hl.lks _ _ hy
  obtain ⟨w3, h5, h6⟩ := hl.lks _ _ hz
  have := jy hyv h4; subst this
  have := jy hzv h6; subst this
  simp only [XV.rel, XA.rel, XC.rel] at h2
  obtain ⟨b, e0, hb, rfl⟩ := h2
  obtain ⟨s1, s2, rfl, h7, rfl⟩ := hV
  rcases h7 with ⟨b', ob, ex, rfl, h8, h9⟩ | ⟨_, _, _, _, h8, _⟩
  · simp only at h8
    rw [h8] at hb; cases hb
    have hM : MapR P kt e ob n f := h9
    haveI := Und.mk (tok_m (BT.all_get T.ok ht))
    refine TL.insertR 0 0 f' h1 h3 h5 rfl rfl K hM hn hk hv hnone hg1 hg2 hd (fun o' ho' => ?_)
    exact hh undef .u _ V H [(b, o')] ⟨rfl, rfl⟩ rfl ⟨[(b, o')], [], rfl, .inl ⟨b, o', _, rfl, h8, ho'⟩, rfl⟩ (fun q hq t' ht' => by rw [List.mem_singleton] at hq; subst hq; exact htp _ (List.mem_singleton.2 rfl) t' ht') (VX.refl _ _ _) (Le.refl _)
  · cases h8
theorem Mi {t kt e : TypeId} {m y z : Operand} {gm t0 n : Nat} {f : Value → Option Value} (f' : Value → Option Value) {key v : Value} {kl : Lit} {dd : DataW Unit} {yv zv : XV} {hp' : XH}
    (hm : xev E m = some (.a (.c (.m gm t0)))) (hg : ah hp gm = some ⟨gm, t0, .mp (fun o => MapR P kt e o n f)⟩) (hy : xev E y = some yv) (hyv : vOf yv = some key) (hz : xev E z = some zv) (hzv : vOf zv = some v) (ht : T.bt.get t = some (.m kt e)) (hset' : aF hp gm t0 (.mp (fun o => MapR P kt e o (n + 1) f')) = some hp') (hw : ax ops E g = some true)
    (K : Maps.Keyed P kt) (hn : n < maxLen) (hk : keyOf P kt key = some kl) (hv : R0 v = some (dd, [])) (hnone : f key = none) (hg1 : f' key = some v) (hg2 : ∀ s, s ≠ key → f' s = f s)
    (hnext : (MS.r ops none l k ⟨E, hp', nx⟩).ok x) :
    (MS.r ops none ((i, { dst := none, op := .insert t m y z, type := ty, pos := pos, after := af, guard := g }) :: l) k ⟨E, hp, nx⟩).ok x := by
  obtain ⟨p1, p2, p3⟩ := aD hg
  refine MS.op (fp := [⟨gm, t0, .mp (fun o => MapR P kt e o n f)⟩]) (rest := bi hp gm) true false rfl p1 (Nat.le_refl _) (LS.yes (o := { dst := none, op := .insert t m y z, type := ty, pos := pos, after := af, guard := g }) hw (LS.insR (T := T) f' hm hy hyv hz hzv ht K hn hk hv hnone hg1 hg2)) trivial (fun _ => ⟨_, _, ⟨rfl, rfl⟩, fun _ _ h => h⟩) (fun h => by cases h) ?_
  rintro q fp' ⟨rfl, rfl⟩
  exact ⟨by simp [names], by simp [names], fun h => (by cases h), hp', p3 _ _ _ hset', hnext⟩
theorem LS.look {ops : Array Oper} {d : Option Tmp} {t kt e : TypeId} {m y : Operand} {n : Nat} {f : Value → Option Value} {key : Value} {kl : Lit} {c : Bool} {z : Value} {R yv : XV}
    (hm : xev Er m = some (.a (.c (.d (.mp (fun o => MapR P kt e o n f)))))) (hy : xev Er y = some yv) (hyv : vOf yv = some key) (ht : T.bt.get t = some (.m kt e)) (K : Maps.Keyed P kt) (hk : keyOf P kt key = some kl) (hz : ∀ w, (zeroValue e).run P w = .ok z w) (hR : ∀ V H, R.rel V H (if c then .tuple #[(f key).getD z, .bool (f key).isSome] else (f key).getD z)) :
    LS P pk ops { dst := d, op := .lookup t m y c, type := ty, pos := pos, after := af, guard := none } Er [] nx nx (fun x fp' => x = R ∧ fp' = []) := by
  intro w0 N Q rest env own H V sg hl hV htp hf hd _ hh
  obtain ⟨w1, h1, h2⟩ := hl.lks _ _ hm
  obtain ⟨w2, h3, h4⟩ := hl.lks _ _ hy
  have := jy hyv h4; subst this
  simp only [XV.rel, XA.rel, XC.rel, rd] at h2
  obtain ⟨b, ob, rfl, h5, h6⟩ := h2
  haveI := Und.mk (tok_m (BT.all_get T.ok ht))
  exact TL.lookRH h1 h3 h5 K h6 hk hz hd (hh _ R [] V H sg ⟨rfl, rfl⟩ (hR V H) hV htp (VX.refl _ _ _) (Le.refl _))
theorem Lu {d : Tmp} {t kt e : TypeId} {m y : Operand} {n : Nat} {f : Value → Option Value} {key : Value} {kl : Lit} {c : Bool} {z : Value} {yv : XV} (R : XV) (hR : ∀ V H, R.rel V H (if c then .tuple #[(f key).getD z, .bool (f key).isSome] else (f key).getD z)) (K : Maps.Keyed P kt) (hk : keyOf P kt key = some kl) (hz : ∀ w, (zeroValue e).run P w = .ok z w)
    (hEr : vis dm ops { dst := some d, op := .lookup t m y c, type := ty, pos := pos, after := af, guard := g } E = Er) (hm : xev Er m = some (.a (.c (.d (.mp (fun o => MapR P kt e o n f)))))) (hy : xev Er y = some yv) (hyv : vOf yv = some key) (ht : T.bt.get t = some (.m kt e)) (hb : ax ops Er g = some true ∧ okD x.N (some d) = true)
    (hk' : (MS.r ops (bE dm ⟨i, [], false, false⟩) l k ⟨(d, R) :: E, hp, nx⟩).ok x) (hdk : DkM dm ops ⟨i, [], false, false⟩ := by first | exact trivial | (refine DK.mk ?_; decide +kernel)) :
    (MS.r ops dm ((i, { dst := some d, op := .lookup t m y c, type := ty, pos := pos, after := af, guard := g }) :: l) k ⟨E, hp, nx⟩).ok x :=
  MS.val hEr hb (LS.look (T := T) hm hy hyv ht K hk hz hR) hdk hk'
end
def mz (g t : Nat) (Q : Obj → Prop) : XV → XV
  | .a (.c (.m g' t')) => bif Nat.beq g g' && Nat.beq t t' then .a (.c (.d (.mp Q))) else .a (.c (.m g' t'))
  | y => y
def mzE (g t : Nat) (Q : Obj → Prop) : XE → XE
  | [] => []
  | (i, y) :: r => (i, mz g t Q y) :: mzE g t Q r
def mzS (g : Nat) : XS → Option XS
  | ⟨E, hp, nx⟩ => match ah hp g with
    | some ⟨_, t, .mp Q⟩ => some ⟨mzE g t Q E, bi hp g, nx⟩
    | _ => none
theorem xlk_mz {g t : Nat} {Q : Obj → Prop} : ∀ {E : XE} {i : Nat} {u : XV}, xlk (mzE g t Q E) i = some u → ∃ y, xlk E i = some y ∧ u = mz g t Q y
  | [], i, u, h => by cases h
  | (j, y) :: r, i, u, h => by
    simp only [mzE, xlk] at h ⊢
    cases hb : Nat.beq j i with
    | true => rw [hb] at h; cases h; exact ⟨y, rfl, rfl⟩
    | false => rw [hb] at h; exact xlk_mz h
theorem FzTo.mz {s s' : XS} (g : Nat) (h : mzS g s = some s') : FzTo s s' := fun B V H sg env hs => by
  obtain ⟨E, hp, nx⟩ := s
  simp only [mzS] at h
  split at h
  · rename_i g' t Q hg
    cases h
    obtain ⟨p1, p2, _⟩ := aD hg
    simp only at p2
    subst p2
    obtain ⟨sg', q1, q2⟩ := hs.hr.perm p1
    obtain ⟨t1, t2, rfl, hrel, q3⟩ := q2
    refine ⟨t1, t2, q1, fun H' hle hH => ?_⟩
    rcases hrel with ⟨b, ob, ex, rfl, hV, r1⟩ | ⟨_, _, _, _, h2, _⟩
    · have hq := hH _ (List.mem_singleton.2 rfl)
      simp only at hq hV
      have hmem : ∀ c ∈ bi hp g', c ∈ hp := fun c hc => p1.mem_iff.2 (List.mem_cons_of_mem _ hc)
      refine ⟨fun i u hu => ?_, q3.mono (VLe.refl _) hle, fun c hc => hs.top c (hmem c hc), ?_, hs.fresh, hs.le.trans hle, hs.vle, hs.keep, fun c hc => hs.sub c (hmem c hc), hs.nxle⟩
      · obtain ⟨y, hy, rfl⟩ := xlk_mz hu
        obtain ⟨v, a1, a2⟩ := hs.lk i y hy
        refine ⟨v, a1, ?_⟩
        unfold X.mz
        split
        · rename_i g2 t2
          cases hb : (Nat.beq g' g2 && Nat.beq t t2) with
          | false => exact XV.mono (VLe.refl _) hle a2
          | true =>
            simp only [Bool.and_eq_true] at hb
            have e1 := Nat.eq_of_beq_eq_true hb.1
            have e2 := Nat.eq_of_beq_eq_true hb.2
            subst e1 e2
            simp only [XV.rel, XA.rel, XC.rel] at a2
            obtain ⟨b', e', h3, rfl⟩ := a2
            rw [hV] at h3; cases h3
            simp only [cond_true, XV.rel, XA.rel, XC.rel, rd]
            exact ⟨b, ob, rfl, hq, r1⟩
        · exact XV.mono (VLe.refl _) hle a2
      · have h1 := (p1.map XB.g).nodup_iff.1 hs.nd
        exact (List.nodup_cons.1 h1).2
    · cases h2
  · cases h
open Go.Proofs
def tbt : BT := (.n 153 (.f) (.n 77 (.f) (.n 37 (.sl 73 4 72) (.n 19 (.st 1 [(0, 1)] [.p]) (.n 10 (.s) (.n 5 (.i .u8) (.n 3 (.i .i64) (.n 2 (.i .i64) (.n 1 (.f) .e .e) .e) (.n 4 (.b) .e .e)) (.n 8 (.st 4 [(0, 1), (1, 1), (2, 1), (3, 1)] [.i .i64, .i .i64, .b, .i .u8]) (.n 7 (.st 4 [(0, 1), (1, 1), (2, 1), (3, 1)] [.i .i64, .i .i64, .b, .i .u8]) (.n 6 (.i .u8) .e .e) .e) (.n 9 (.s) .e .e))) (.n 15 (.p) (.n 13 (.st 2 [(0, 1), (1, 1)] [.s, .i .u64]) (.n 12 (.i .u64) (.n 11 (.s) .e .e) .e) (.n 14 (.st 2 [(0, 1), (1, 1)] [.s, .i .u64]) .e .e)) (.n 17 (.p) (.n 16 (.p) .e .e) (.n 18 (.st 1 [(0, 1)] [.p]) .e .e)))) (.n 28 (.st 3 [(0, 1), (1, 1), (2, 1)] [.n, .n, .n]) (.n 24 (.f) (.n 22 (.sl 3 1 8) (.n 21 (.i .i32) (.n 20 (.e) .e .e) .e) (.n 23 (.ar 3 3 1 [.i .i64, .i .i64, .i .i64]) .e .e)) (.n 26 (.sl 80 8 104) (.n 25 (.sl 85 3 48) .e .e) (.n 27 (.sl 71 10 144) .e .e))) (.n 33 (.sl 35 2 40) (.n 31 (.f) (.n 30 (.f) (.n 29 (.st 3 [(0, 1), (1, 1), (2, 1)] [.n, .n, .n]) .e .e) .e) (.n 32 (.f) .e .e)) (.n 35 (.st 2 [(0, 1), (1, 1)] [.s, .n]) (.n 34 (.st 2 [(0, 1), (1, 1)] [.s, .n]) .e .e) (.n 36 (.f) .e .e))))) (.n 59 (.st 4 [(0, 1), (1, 1), (2, 1), (3, 1)] [.i .i64, .s, .i .i64, .n]) (.n 49 (.f) (.n 45 (.f) (.n 41 (.f) (.n 39 (.i .i64) (.n 38 (.f) .e .e) .e) (.n 43 (.f) .e .e)) (.n 47 (.f) (.n 46 (.f) .e .e) (.n 48 (.f) .e .e))) (.n 55 (.f) (.n 53 (.sl 5 1 1) (.n 52 (.f) (.n 51 (.f) .e .e) .e) (.n 54 (.ar 12 9 1 [.s, .s, .s, .s, .s, .s, .s, .s, .s, .s, .s, .s]) .e .e)) (.n 57 (.f) (.n 56 (.f) .e .e) (.n 58 (.sl 60 4 56) .e .e)))) (.n 68 (.st 2 [(0, 1), (1, 1)] [.i .i64, .i .u16]) (.n 64 (.sl 63 1 24) (.n 62 (.sl 87 4 56) (.n 61 (.i .u16) (.n 60 (.st 4 [(0, 1), (1, 1), (2, 1), (3, 1)] [.i .i64, .s, .i .i64, .n]) .e .e) .e) (.n 63 (.sl 66 11 184) .e .e)) (.n 66 (.st 11 [(0, 1), (1, 1), (2, 4), (6, 1), (7, 1), (8, 1), (9, 1), (10, 1)] [.i .i64, .s, .i .i64, .s, .i .i64, .n, .i .u16, .n, .n, .n, .n]) (.n 65 (.st 11 [(0, 1), (1, 1), (2, 4), (6, 1), (7, 1), (8, 1), (9, 1), (10, 1)] [.i .i64, .s, .i .i64, .s, .i .i64, .n, .i .u16, .n, .n, .n, .n]) .e .e) (.n 67 (.sl 83 5 72) .e .e))) (.n 73 (.st 4 [(0, 1), (1, 1), (2, 2)] [.i .i64, .n, .s, .n]) (.n 71 (.st 10 [(0, 1), (1, 1), (2, 4), (6, 1), (7, 1), (8, 2)] [.s, .n, .i .i64, .s, .i .i64, .n, .n, .b, .i .i64, .i .u16]) (.n 70 (.st 10 [(0, 1), (1, 1), (2, 4), (6, 1), (7, 1), (8, 2)] [.s, .n, .i .i64, .s, .i .i64, .n, .n, .b, .i .i64, .i .u16]) (.n 69 (.st 2 [(0, 1), (1, 1)] [.i .i64, .i .u16]) .e .e) .e) (.n 72 (.st 4 [(0, 1), (1, 1), (2, 2)] [.i .i64, .n, .s, .n]) .e .e)) (.n 75 (.f) (.n 74 (.f) .e .e) (.n 76 (.p) .e .e)))))) (.n 116 (.f) (.n 96 (.f) (.n 87 (.st 4 [(0, 1), (1, 1), (2, 1), (3, 1)] [.i .i64, .s, .i .u16, .n]) (.n 82 (.st 5 [(0, 1), (1, 4)] [.s, .i .i64, .s, .i .i64, .n]) (.n 80 (.st 8 [(0, 1), (1, 4), (5, 1), (6, 1), (7, 1)] [.s, .i .i64, .s, .i .i64, .n, .i .i64, .i .u16, .s]) (.n 79 (.st 8 [(0, 1), (1, 4), (5, 1), (6, 1), (7, 1)] [.s, .i .i64, .s, .i .i64, .n, .i .i64, .i .u16, .s]) (.n 78 (.p) .e .e) .e) (.n 81 (.sl 9 1 16) .e .e)) (.n 85 (.st 3 [(0, 1), (1, 1), (2, 1)] [.s, .b, .n]) (.n 84 (.st 3 [(0, 1), (1, 1), (2, 1)] [.s, .b, .n]) (.n 83 (.st 5 [(0, 1), (1, 4)] [.s, .i .i64, .s, .i .i64, .n]) .e .e) .e) (.n 86 (.st 4 [(0, 1), (1, 1), (2, 1), (3, 1)] [.i .i64, .s, .i .u16, .n]) .e .e))) (.n 92 (.f) (.n 90 (.f) (.n 89 (.f) (.n 88 (.f) .e .e) .e) (.n 91 (.f) .e .e)) (.n 94 (.f) (.n 93 (.f) .e .e) (.n 95 (.f) .e .e)))) (.n 105 (.f) (.n 101 (.m 175 3) (.n 99 (.f) (.n 98 (.f) (.n 97 (.f) .e .e) .e) (.n 100 (.p) .e .e)) (.n 103 (.st 2 [(0, 1), (1, 1)] [.m, .m]) (.n 102 (.m 207 3) .e .e) (.n 104 (.st 2 [(0, 1), (1, 1)] [.m, .m]) .e .e))) (.n 111 (.p) (.n 108 (.f) (.n 107 (.f) (.n 106 (.p) .e .e) .e) (.n 110 (.f) .e .e)) (.n 113 (.st 0 [] []) (.n 112 (.st 0 [] []) .e .e) (.n 115 (.f) .e .e))))) (.n 135 (.f) (.n 125 (.f) (.n 121 (.f) (.n 119 (.f) (.n 118 (.f) (.n 117 (.f) .e .e) .e) (.n 120 (.f) .e .e)) (.n 123 (.f) (.n 122 (.f) .e .e) (.n 124 (.f) .e .e))) (.n 130 (.st 2 [(0, 1), (1, 1)] [.n, .i .i64]) (.n 128 (.f) (.n 127 (.f) (.n 126 (.f) .e .e) .e) (.n 129 (.p) .e .e)) (.n 132 (.f) (.n 131 (.st 2 [(0, 1), (1, 1)] [.n, .i .i64]) .e .e) (.n 133 (.f) .e .e)))) (.n 144 (.f) (.n 140 (.f) (.n 138 (.st 11 [(0, 1), (1, 1), (2, 1), (3, 1), (4, 1), (5, 1), (6, 1), (7, 1), (8, 1), (9, 1), (10, 1)] [.n, .i .i64, .i .i64, .i .i64, .i .i64, .n, .i .i64, .n, .i .i64, .i .i64, .n]) (.n 137 (.st 11 [(0, 1), (1, 1), (2, 1), (3, 1), (4, 1), (5, 1), (6, 1), (7, 1), (8, 1), (9, 1), (10, 1)] [.n, .i .i64, .i .i64, .i .i64, .i .i64, .n, .i .i64, .n, .i .i64, .i .i64, .n]) (.n 136 (.p) .e .e) .e) (.n 139 (.f) .e .e)) (.n 142 (.f) (.n 141 (.f) .e .e) (.n 143 (.f) .e .e))) (.n 149 (.f) (.n 147 (.f) (.n 146 (.f) (.n 145 (.f) .e .e) .e) (.n 148 (.f) .e .e)) (.n 151 (.f) (.n 150 (.f) .e .e) (.n 152 (.f) .e .e))))))) (.n 231 (.m 3 9) (.n 194 (.f) (.n 174 (.st 2 [(0, 1), (1, 1)] [.s, .s]) (.n 163 (.f) (.n 158 (.f) (.n 156 (.f) (.n 155 (.f) (.n 154 (.f) .e .e) .e) (.n 157 (.f) .e .e)) (.n 161 (.f) (.n 160 (.f) (.n 159 (.f) .e .e) .e) (.n 162 (.f) .e .e))) (.n 169 (.f) (.n 166 (.st 6 [(0, 1), (1, 1), (2, 1), (3, 1), (4, 2)] [.s, .i .i64, .i .i64, .n, .s, .n]) (.n 165 (.st 6 [(0, 1), (1, 1), (2, 1), (3, 1), (4, 2)] [.s, .i .i64, .i .i64, .n, .s, .n]) (.n 164 (.sl 106 1 8) .e .e) .e) (.n 167 (.f) .e .e)) (.n 171 (.f) (.n 170 (.sl 22 1 24) .e .e) (.n 172 (.f) .e .e)))) (.n 184 (.f) (.n 179 (.f) (.n 177 (.f) (.n 176 (.f) (.n 175 (.st 2 [(0, 1), (1, 1)] [.s, .s]) .e .e) .e) (.n 178 (.f) .e .e)) (.n 182 (.f) (.n 181 (.f) .e .e) (.n 183 (.f) .e .e))) (.n 189 (.f) (.n 187 (.f) (.n 186 (.f) (.n 185 (.f) .e .e) .e) (.n 188 (.f) .e .e)) (.n 192 (.f) (.n 190 (.f) .e .e) (.n 193 (.f) .e .e))))) (.n 213 (.f) (.n 203 (.i .u64) (.n 199 (.f) (.n 197 (.f) (.n 196 (.f) (.n 195 (.f) .e .e) .e) (.n 198 (.f) .e .e)) (.n 201 (.f) (.n 200 (.f) .e .e) (.n 202 (.f) .e .e))) (.n 208 (.f) (.n 206 (.st 2 [(0, 1), (1, 1)] [.i .i64, .i .i64]) (.n 205 (.f) (.n 204 (.f) .e .e) .e) (.n 207 (.st 2 [(0, 1), (1, 1)] [.i .i64, .i .i64]) .e .e)) (.n 211 (.f) (.n 209 (.f) .e .e) (.n 212 (.f) .e .e)))) (.n 222 (.f) (.n 218 (.f) (.n 216 (.f) (.n 215 (.f) (.n 214 (.f) .e .e) .e) (.n 217 (.ar 8 9 1 [.s, .s, .s, .s, .s, .s, .s, .s]) .e .e)) (.n 220 (.ar 6 3 1 [.i .i64, .i .i64, .i .i64, .i .i64, .i .i64, .i .i64]) (.n 219 (.f) .e .e) (.n 221 (.f) .e .e))) (.n 227 (.f) (.n 225 (.f) (.n 224 (.f) (.n 223 (.f) .e .e) .e) (.n 226 (.f) .e .e)) (.n 229 (.f) (.n 228 (.f) .e .e) (.n 230 (.f) .e .e)))))) (.n 272 (.f) (.n 252 (.sl 81 1 24) (.n 242 (.st 8 [(0, 1), (1, 1), (2, 1), (3, 1), (4, 1), (5, 1), (6, 1), (7, 1)] [.i .i64, .i .i64, .b, .b, .b, .b, .b, .b]) (.n 237 (.ar 15 9 1 [.s, .s, .s, .s, .s, .s, .s, .s, .s, .s, .s, .s, .s, .s, .s]) (.n 234 (.e) (.n 233 (.e) (.n 232 (.f) .e .e) .e) (.n 236 (.f) .e .e)) (.n 240 (.f) (.n 239 (.f) (.n 238 (.f) .e .e) .e) (.n 241 (.st 8 [(0, 1), (1, 1), (2, 1), (3, 1), (4, 1), (5, 1), (6, 1), (7, 1)] [.i .i64, .i .i64, .b, .b, .b, .b, .b, .b]) .e .e))) (.n 248 (.f) (.n 246 (.f) (.n 245 (.f) (.n 244 (.f) .e .e) .e) (.n 247 (.f) .e .e)) (.n 250 (.f) (.n 249 (.f) .e .e) (.n 251 (.ar 16 9 1 [.s, .s, .s, .s, .s, .s, .s, .s, .s, .s, .s, .s, .s, .s, .s, .s]) .e .e)))) (.n 261 (.ar 24 5 1 [.i .u8, .i .u8, .i .u8, .i .u8, .i .u8, .i .u8, .i .u8, .i .u8, .i .u8, .i .u8, .i .u8, .i .u8, .i .u8, .i .u8, .i .u8, .i .u8, .i .u8, .i .u8, .i .u8, .i .u8, .i .u8, .i .u8, .i .u8, .i .u8]) (.n 257 (.m 9 3) (.n 255 (.f) (.n 254 (.f) (.n 253 (.f) .e .e) .e) (.n 256 (.m 3 242) .e .e)) (.n 259 (.f) (.n 258 (.f) .e .e) (.n 260 (.f) .e .e))) (.n 267 (.i .i64) (.n 264 (.f) (.n 263 (.f) (.n 262 (.i .u64) .e .e) .e) (.n 266 (.f) .e .e)) (.n 270 (.p) (.n 269 (.f) .e .e) (.n 271 (.f) .e .e))))) (.n 292 (.p) (.n 281 (.f) (.n 277 (.f) (.n 275 (.f) (.n 274 (.f) (.n 273 (.f) .e .e) .e) (.n 276 (.f) .e .e)) (.n 279 (.i .u32) (.n 278 (.ar 20 262 1 [.i .u64, .i .u64, .i .u64, .i .u64, .i .u64, .i .u64, .i .u64, .i .u64, .i .u64, .i .u64, .i .u64, .i .u64, .i .u64, .i .u64, .i .u64, .i .u64, .i .u64, .i .u64, .i .u64, .i .u64]) .e .e) (.n 280 (.ar 65 5 1 [.i .u8, .i .u8, .i .u8, .i .u8, .i .u8, .i .u8, .i .u8, .i .u8, .i .u8, .i .u8, .i .u8, .i .u8, .i .u8, .i .u8, .i .u8, .i .u8, .i .u8, .i .u8, .i .u8, .i .u8, .i .u8, .i .u8, .i .u8, .i .u8, .i .u8, .i .u8, .i .u8, .i .u8, .i .u8, .i .u8, .i .u8, .i .u8, .i .u8, .i .u8, .i .u8, .i .u8, .i .u8, .i .u8, .i .u8, .i .u8, .i .u8, .i .u8, .i .u8, .i .u8, .i .u8, .i .u8, .i .u8, .i .u8, .i .u8, .i .u8, .i .u8, .i .u8, .i .u8, .i .u8, .i .u8, .i .u8, .i .u8, .i .u8, .i .u8, .i .u8, .i .u8, .i .u8, .i .u8, .i .u8, .i .u8]) .e .e))) (.n 288 (.f) (.n 286 (.st 3 [(0, 1), (1, 1), (2, 1)] [.s, .s, .e]) (.n 285 (.f) (.n 283 (.f) .e .e) .e) (.n 287 (.st 3 [(0, 1), (1, 1), (2, 1)] [.s, .s, .e]) .e .e)) (.n 290 (.f) (.n 289 (.f) .e .e) (.n 291 (.p) .e .e)))) (.n 301 (.st 0 [(0, 0)] []) (.n 297 (.st 4 [(0, 1), (1, 1), (2, 1), (3, 1)] [.p, .p, .p, .s]) (.n 295 (.ar 32 5 1 [.i .u8, .i .u8, .i .u8, .i .u8, .i .u8, .i .u8, .i .u8, .i .u8, .i .u8, .i .u8, .i .u8, .i .u8, .i .u8, .i .u8, .i .u8, .i .u8, .i .u8, .i .u8, .i .u8, .i .u8, .i .u8, .i .u8, .i .u8, .i .u8, .i .u8, .i .u8, .i .u8, .i .u8, .i .u8, .i .u8, .i .u8, .i .u8]) (.n 294 (.st 1 [(0, 1)] [.s]) (.n 293 (.st 1 [(0, 1)] [.s]) .e .e) .e) (.n 296 (.ar 64 5 1 [.i .u8, .i .u8, .i .u8, .i .u8, .i .u8, .i .u8, .i .u8, .i .u8, .i .u8, .i .u8, .i .u8, .i .u8, .i .u8, .i .u8, .i .u8, .i .u8, .i .u8, .i .u8, .i .u8, .i .u8, .i .u8, .i .u8, .i .u8, .i .u8, .i .u8, .i .u8, .i .u8, .i .u8, .i .u8, .i .u8, .i .u8, .i .u8, .i .u8, .i .u8, .i .u8, .i .u8, .i .u8, .i .u8, .i .u8, .i .u8, .i .u8, .i .u8, .i .u8, .i .u8, .i .u8, .i .u8, .i .u8, .i .u8, .i .u8, .i .u8, .i .u8, .i .u8, .i .u8, .i .u8, .i .u8, .i .u8, .i .u8, .i .u8, .i .u8, .i .u8, .i .u8, .i .u8, .i .u8, .i .u8]) .e .e)) (.n 299 (.ar 0 16 1 []) (.n 298 (.st 4 [(0, 1), (1, 1), (2, 1), (3, 1)] [.p, .p, .p, .s]) .e .e) (.n 300 (.st 0 [(0, 0)] []) .e .e))) (.n 306 (.i .i32) (.n 304 (.i .u8) (.n 303 (.i .u8) (.n 302 (.f) .e .e) .e) (.n 305 (.f) .e .e)) (.n 308 (.st 11 [(0, 1), (1, 1), (2, 1), (3, 1), (4, 1), (5, 1), (6, 1), (7, 1), (8, 1), (9, 1), (10, 1)] [.i .u64, .i .u64, .i .u32, .i .u8, .i .u8, .i .u8, .i .u8, .f, .p, .i .i32, .i .i32]) (.n 307 (.i .i32) .e .e) (.n 309 (.st 11 [(0, 1), (1, 1), (2, 1), (3, 1), (4, 1), (5, 1), (6, 1), (7, 1), (8, 1), (9, 1), (10, 1)] [.i .u64, .i .u64, .i .u32, .i .u8, .i .u8, .i .u8, .i .u8, .f, .p, .i .i32, .i .i32]) .e .e))))))))
theorem tbt_ok : tbt.all (tok Tryz.prog) = true := by kernel_rfl
def T : Tb Tryz.prog := ⟨tbt, by kernel_rfl, tbt_ok⟩
end Go.Proofs.YtlmahofogapkgaaGreatDoor.X
namespace Go.Proofs.YtlmahofogapkgaaGreatDoor.K
open Go Go.RowKit Go.Proofs
theorem list_3 {α : Type} {l : List α} (h : l.length = 3) : ∃ c0 c1 c2, l = [c0, c1, c2] := by
  match l, h with
  | [c0, c1, c2], _ => exact ⟨c0, c1, c2, rfl⟩
theorem list_8 {α : Type} {l : List α} (h : l.length = 8) : ∃ c0 c1 c2 c3 c4 c5 c6 c7, l = [c0, c1, c2, c3, c4, c5, c6, c7] := by
  match l, h with
  | [c0, c1, c2, c3, c4, c5, c6, c7], _ => exact ⟨c0, c1, c2, c3, c4, c5, c6, c7, rfl⟩
theorem list_10 {α : Type} {l : List α} (h : l.length = 10) : ∃ c0 c1 c2 c3 c4 c5 c6 c7 c8 c9, l = [c0, c1, c2, c3, c4, c5, c6, c7, c8, c9] := by
  match l, h with
  | [c0, c1, c2, c3, c4, c5, c6, c7, c8, c9], _ => exact ⟨c0, c1, c2, c3, c4, c5, c6, c7, c8, c9, rfl⟩
inductive Ty4 where
  | mk (k : Int) (nm : ByteArray) (n : Int) (ts : List Ty4)
mutual
def Ty4.d : Ty4 → List D
  | .mk k nm n ts => [.c (.int .i64 k), .c (.string nm), .c (.int .i64 n), .s 4 (Ty4.ds ts)]
def Ty4.ds : List Ty4 → List D
  | [] => []
  | t :: r => t.d ++ Ty4.ds r
end
inductive Ex where
  | mk (k : Int) (nm : ByteArray) (n : Int) (ks : List Ex)
mutual
def Ex.d : Ex → List D
  | .mk k nm n ks => [.c (.int .i64 k), .c (.string nm), .c (.int .u16 n), .s 4 (Ex.ds ks)]
def Ex.ds : List Ex → List D
  | [] => []
  | t :: r => t.d ++ Ex.ds r
end
inductive Sm where
  | mk (k : Int) (nm : ByteArray) (t : Ty4) (n : Int) (xs : List Ex) (b el : List Sm) (cs : List (List Sm))
mutual
def Sm.d : Sm → List D
  | .mk k nm t n xs b el cs => [.c (.int .i64 k), .c (.string nm)] ++ t.d ++ [.c (.int .u16 n), .s 4 (Ex.ds xs), .s 11 (Sm.ds b), .s 11 (Sm.ds el), .s 1 (Sm.cd cs)]
def Sm.ds : List Sm → List D
  | [] => []
  | t :: r => t.d ++ Sm.ds r
def Sm.cd : List (List Sm) → List D
  | [] => []
  | c :: r => .s 11 (Sm.ds c) :: Sm.cd r
end
mutual
def renE (to : ByteArray → ByteArray) (lo : ByteArray → Bool) : Ex → Ex
  | .mk k nm n ks => .mk k (if k = 14 ∨ (k = 2 ∧ lo nm = false) then to nm else nm) n (renEs to lo ks)
def renEs (to : ByteArray → ByteArray) (lo : ByteArray → Bool) : List Ex → List Ex
  | [] => []
  | t :: r => renE to lo t :: renEs to lo r
end
mutual
def renS (to : ByteArray → ByteArray) (lo : ByteArray → Bool) : Sm → Sm
  | .mk k nm t n xs b el cs => .mk k nm t n (renEs to lo xs) (renSs to lo b) (renSs to lo el) (renCs to lo cs)
def renSs (to : ByteArray → ByteArray) (lo : ByteArray → Bool) : List Sm → List Sm
  | [] => []
  | t :: r => renS to lo t :: renSs to lo r
def renCs (to : ByteArray → ByteArray) (lo : ByteArray → Bool) : List (List Sm) → List (List Sm)
  | [] => []
  | c :: r => renSs to lo c :: renCs to lo r
end
mutual
def decS : Sm → List ByteArray
  | .mk k nm _ _ _ b el cs => (if k = 1 then [nm] else []) ++ decSs b ++ decSs el ++ decCs cs
def decSs : List Sm → List ByteArray
  | [] => []
  | t :: r => decS t ++ decSs r
def decCs : List (List Sm) → List ByteArray
  | [] => []
  | c :: r => decSs c ++ decCs r
end
structure Par where
  nm : ByteArray
  ty : Ty4
def Par.d (f : Par) : List D := .c (.string f.nm) :: f.ty.d
def Par.ds (l : List Par) : List D := l.flatMap Par.d
structure Fu where
  nm : ByteArray
  ps : List Par
  res : Ty4
  body : List Sm
  fl : Bool
  x : Int
  y : Int
def Fu.d (f : Fu) : List D := [.c (.string f.nm), .s 5 (Par.ds f.ps)] ++ f.res.d ++ [.s 11 (Sm.ds f.body), .c (.bool f.fl), .c (.int .i64 f.x), .c (.int .u16 f.y)]
def ak {α : Type} (d : α → List D) (l : List α) : List D := l.flatMap d
theorem bM {α : Type} {d : α → List D} {n : Nat} (hd : ∀ a, (d a).length = n) : ∀ l : List α, (ak d l).length = l.length * n
  | [] => by simp [ak]
  | a :: r => by
    have := bM hd r
    simp only [ak, List.flatMap_cons, List.length_append, hd, List.length_cons] at this ⊢
    rw [this, Nat.add_mul]; omega
theorem dC {α : Type} (d : α → List D) (l m : List α) : ak d (l ++ m) = ak d l ++ ak d m := by simp [ak]
theorem Ty4.ds_of : ∀ l : List Ty4, Ty4.ds l = ak Ty4.d l
  | [] => rfl
  | t :: r => by simp only [Ty4.ds, Ty4.ds_of r, ak, List.flatMap_cons]
theorem Ex.ds_of : ∀ l : List Ex, Ex.ds l = ak Ex.d l
  | [] => rfl
  | t :: r => by simp only [Ex.ds, Ex.ds_of r, ak, List.flatMap_cons]
theorem Sm.ds_of : ∀ l : List Sm, Sm.ds l = ak Sm.d l
  | [] => rfl
  | t :: r => by simp only [Sm.ds, Sm.ds_of r, ak, List.flatMap_cons]
theorem Ty4.d_len (t : Ty4) : t.d.length = 4 := by cases t; simp [Ty4.d]
theorem Sm.d_len (t : Sm) : t.d.length = 11 := by cases t; simp [Sm.d, Ty4.d_len]
theorem Par.d_len (f : Par) : f.d.length = 5 := by simp [Par.d, Ty4.d_len]
theorem el_len {α : Type} {d : α → List D} {n : Nat} (hd : ∀ a, (d a).length = n) (hn : 0 < n) {H : Hp} {l : List α} {v : Value} (h : rd H (.s n (ak d l)) v) : ∃ A c, v = .slice A l.length c ∧ l.length ≤ c ∧ c ≤ 9223372036854775807 := by
  obtain ⟨A, m, c, rfl, h1, h2, h3⟩ := h.s_len
  rw [bM hd] at h1
  have : m = l.length := by
    first
      | exact (Nat.eq_of_mul_eq_mul_right hn h1).symm
      | exact Nat.eq_of_mul_eq_mul_right hn h1
  subst this
  exact ⟨A, c, rfl, h2, h3⟩
theorem rds.cellsE {H : Hp} {b : Nat} : ∀ {xs : List D} {o : Nat}, rds H b o xs → ∃ vs, hAt H b o vs ∧ RdL H xs vs
  | [], _, _ => ⟨[], trivial, trivial⟩
  | x :: r, o, h => by
    simp only [rds] at h
    obtain ⟨⟨u, h1, h2⟩, h3⟩ := h
    obtain ⟨vs, h4, h5⟩ := rds.cellsE h3
    exact ⟨u :: vs, ⟨h1, h4⟩, h2, h5⟩
theorem el_at {α : Type} {d : α → List D} {n : Nat} (hd : ∀ a, (d a).length = n) (hn : 0 < n) {H : Hp} {l : List α} {A : Option Addr} {m c : Nat} (h : rd H (.s n (ak d l)) (.slice A m c)) {i : Nat} {t : α} (hi : l[i]? = some t) :
    ∃ b o cs, A = some ⟨b, o, none⟩ ∧ hAt H b (o + i * n) cs ∧ RdL H (d t) cs ∧ cs.length = n := by
  have hlt : i < l.length := (List.getElem?_eq_some_iff.1 hi).1
  have hm : m = l.length := by
    obtain ⟨A', c', e, _⟩ := el_len hd hn h
    injection e
  subst hm
  obtain ⟨_, b, o, rfl, hr⟩ := h.s_at (by omega)
  obtain ⟨l1, l2, rfl, rfl⟩ := bp hi
  have hr' : rds H b (o + l1.length * n) (d t) := by
    refine rds.mk fun j x hx => ?_
    have hj : j < (d t).length := (List.getElem?_eq_some_iff.1 hx).1
    have := hr.get (l1.length * n + j) x (by
      rw [dC, List.getElem?_append_right (by rw [bM hd]; omega), bM hd]
      simp only [ak, List.flatMap_cons]
      rw [Nat.add_sub_cancel_left, List.getElem?_append_left hj, hx])
    obtain ⟨u, h1, h2⟩ := this
    exact ⟨u, by rw [← h1]; congr 1; omega, h2⟩
  obtain ⟨cs, h1, h2⟩ := rds.cellsE hr'
  exact ⟨b, o, cs, rfl, h1, h2, by rw [← h2.len, hd]⟩
def bs (l : List UInt8) : ByteArray := ⟨l.toArray⟩
def ty4z : Ty4 := .mk 0 ⟨#[]⟩ 0 []
theorem ex_mk {H : Hp} {k n : Int} {nm : ByteArray} {ks : List Ex} {v : Value} (h : rd H (.s 4 (Ex.ds ks)) v) : RdL H (Ex.mk k nm n ks).d [.int .i64 k, .string nm, .int .u16 n, v] := by
  simp only [Ex.d]
  exact ⟨by simp [rd], by simp [rd], by simp [rd], h, trivial⟩
theorem ex_cons {H : Hp} {e : Ex} {r : List Ex} {cs vs : List Value} (h : RdL H e.d cs) (hr : RdL H (Ex.ds r) vs) : RdL H (Ex.ds (e :: r)) (cs ++ vs) := h.append hr
theorem ex_nil (H : Hp) : RdL H (Ex.ds []) [] := trivial
def fS (n : Int) : Bool := decide (97 ≤ orI .u8 n 32) && decide (orI .u8 n 32 ≤ 122)
def jz (n : Int) : Bool := decide (48 ≤ n) && decide (n ≤ 57)
def im (n : Int) : Bool := fS n || jz n || decide (n = 95)
def eA (p : UInt8 → Bool) : List UInt8 → Nat → Nat
  | [], k => k
  | b :: r, k => if p b then eA p r (k + 1) else k
theorem nt (s : ByteArray) (k : Nat) : s[k]? = s.data.toList[k]? := by
  rw [Array.getElem?_toList]
  by_cases h : k < s.size
  · have h2 : k < s.data.size := h
    rw [getElem?_pos s k h, Array.getElem?_eq_getElem h2]; rfl
  · have h2 : ¬ k < s.data.size := h
    rw [getElem?_neg s k h, Array.getElem?_eq_none (by omega)]
abbrev ef (s t : ByteArray) : Bool := Op.bytesLess s.toList t.toList
def strs (l : List ByteArray) : List D := (l.map Value.string).map D.c
def kws : List ByteArray := [⟨#[97, 116]⟩, ⟨#[98, 108, 111, 99, 107]⟩, ⟨#[98, 114, 101, 97, 107]⟩, ⟨#[99, 97, 115, 101]⟩, ⟨#[99, 111, 110, 115, 116]⟩, ⟨#[99, 111, 110, 116, 105, 110, 117, 101]⟩, ⟨#[100, 101, 102, 97, 117, 108, 116]⟩, ⟨#[101, 108, 115, 101]⟩, ⟨#[101, 120, 116, 101, 114, 110]⟩, ⟨#[102, 110]⟩, ⟨#[104, 97, 108, 116]⟩, ⟨#[105, 102]⟩, ⟨#[105, 110]⟩, ⟨#[108, 101, 116]⟩, ⟨#[108, 111, 111, 112]⟩, ⟨#[109, 101, 109, 49, 54]⟩, ⟨#[109, 101, 109, 56]⟩, ⟨#[111, 117, 116]⟩, ⟨#[112, 111, 108, 108]⟩, ⟨#[114, 101, 116, 117, 114, 110]⟩, ⟨#[114, 111, 109, 49, 54]⟩, ⟨#[114, 111, 109, 56]⟩, ⟨#[115, 49, 54]⟩, ⟨#[115, 116, 114, 117, 99, 116]⟩, ⟨#[115, 119, 105, 116, 99, 104]⟩, ⟨#[117, 49, 54]⟩, ⟨#[117, 56]⟩, ⟨#[117, 110, 105, 111, 110]⟩, ⟨#[118, 97, 114]⟩, ⟨#[119, 104, 105, 108, 101]⟩]
theorem io : ∀ (a : List UInt8), Op.bytesLess a a = false
  | [] => rfl
  | x :: r => by simp [Op.bytesLess, io r]
theorem jA : ∀ {a b c : List UInt8}, Op.bytesLess a b = true → Op.bytesLess b c = true → Op.bytesLess a c = true
  | _, [], _, h, _ => by simp [Op.bytesLess] at h
  | _, _ :: _, [], _, h => by simp [Op.bytesLess] at h
  | [], _ :: _, _ :: _, _, _ => rfl
  | x :: a, y :: b, z :: c, h, k => by
    simp only [Op.bytesLess, Bool.or_eq_true, decide_eq_true_eq, Bool.and_eq_true, beq_iff_eq] at h k ⊢
    rcases h with h | ⟨rfl, h⟩
    · rcases k with k | ⟨rfl, k⟩
      · exact .inl (UInt8.lt_trans h k)
      · exact .inl h
    · rcases k with k | ⟨rfl, k⟩
      · exact .inl k
      · exact .inr ⟨rfl, jA h k⟩
theorem fT (s : ByteArray) : ∀ {l : List ByteArray}, l.Pairwise (fun a b => ef a b = true) → ∃ k, k ≤ l.length ∧ (∀ i x, l[i]? = some x → i < k → ef x s = true) ∧ (∀ i x, l[i]? = some x → k ≤ i → ef x s = false)
  | [], _ => ⟨0, by simp, by simp, by simp⟩
  | a :: r, h => by
    rw [List.pairwise_cons] at h
    rcases Bool.eq_false_or_eq_true (ef a s) with ha | ha
    · obtain ⟨k, h1, h2, h3⟩ := fT s h.2
      refine ⟨k + 1, by simpa using h1, fun i x hx hi => ?_, fun i x hx hi => ?_⟩
      · cases i with
        | zero => simp at hx; subst hx; exact ha
        | succ i => exact h2 i x (by simpa using hx) (by omega)
      · cases i with
        | zero => omega
        | succ i => exact h3 i x (by simpa using hx) (by omega)
    · refine ⟨0, by simp, fun i x _ hi => by omega, fun i x hx _ => ?_⟩
      cases i with
      | zero => simp at hx; subst hx; exact ha
      | succ i =>
        have hm : x ∈ r := List.mem_of_getElem? (by simpa using hx)
        rcases Bool.eq_false_or_eq_true (ef x s) with hx2 | hx2
        · have := jA (h.1 x hm) hx2
          have ha2 : Op.bytesLess a.toList s.toList = false := ha
          rw [ha2] at this; cases this
        · exact hx2
theorem found_mem {s : ByteArray} {l : List ByteArray} {k : Nat} (hs : l.Pairwise (fun a b => ef a b = true)) (h1 : ∀ i x, l[i]? = some x → i < k → ef x s = true) (h2 : ∀ i x, l[i]? = some x → k ≤ i → ef x s = false) : decide (l[k]? = some s) = (l.any fun x => decide (x = s)) := by
  rw [Bool.eq_iff_iff]
  simp only [decide_eq_true_eq, List.any_eq_true]
  constructor
  · intro h; exact ⟨s, List.mem_of_getElem? h, rfl⟩
  · rintro ⟨_, h, rfl⟩
    obtain ⟨i, hi, hie⟩ := List.getElem_of_mem h
    subst hie
    have hg : l[i]? = some l[i] := List.getElem?_eq_getElem hi
    have hki : k ≤ i := by
      by_cases hq : k ≤ i
      · exact hq
      · have h3 := h1 i _ hg (by omega)
        have h4 := io l[i].toList
        have h3' : Op.bytesLess l[i].toList l[i].toList = true := h3
        rw [h4] at h3'; cases h3'
    by_cases hq : k = i
    · subst hq; exact hg
    · have hk : k < l.length := by omega
      have h3 := List.pairwise_iff_getElem.1 hs k i hk hi (by omega)
      have h4 := h2 k _ (List.getElem?_eq_getElem hk) (Nat.le_refl _)
      rw [h4] at h3; cases h3
theorem jB : kws.Pairwise (fun a b => ef a b = true) := by decide +kernel
def firstB (s : ByteArray) : Int := match s.data.toList with | [] => 0 | b :: _ => (b.toNat : Int)
def ae (s : ByteArray) : Bool := decide (s ≠ ⟨#[]⟩) && decide (s.size ≤ 24) && !(kws.any fun x => decide (x = s)) && fS (firstB s) && decide (eA (fun b => im (b.toNat : Int)) s.data.toList 0 = s.size)
theorem first_at {s : ByteArray} (h : s ≠ ⟨#[]⟩) : ∃ b : UInt8, s[0]? = some b ∧ firstB s = (b.toNat : Int) := by
  obtain ⟨⟨l⟩⟩ := s
  cases l with
  | nil => exact absurd rfl h
  | cons b r => exact ⟨b, by rw [nt]; rfl, rfl⟩
def az (t : Ty4) (k : Int) : Bool := match t with | .mk k' nm n ts => decide (k' = k) && decide (nm = ⟨#[]⟩) && decide (n = 0) && decide (ts.length = 0)
abbrev eS : ByteArray := ⟨#[]⟩
mutual
def Ty4.size : Ty4 → Nat
  | .mk _ _ _ ts => Ty4.sizes ts + 1
def Ty4.sizes : List Ty4 → Nat
  | [] => 0
  | t :: r => t.size + Ty4.sizes r
end
mutual
def Ex.size : Ex → Nat
  | .mk _ _ _ ks => Ex.sizes ks + 1
def Ex.sizes : List Ex → Nat
  | [] => 0
  | t :: r => t.size + Ex.sizes r
end
mutual
def Sm.size : Sm → Nat
  | .mk _ _ t _ xs b el cs => t.size + Ex.sizes xs + Sm.sizes b + Sm.sizes el + Sm.csizes cs + 1
def Sm.sizes : List Sm → Nat
  | [] => 0
  | t :: r => t.size + Sm.sizes r
def Sm.csizes : List (List Sm) → Nat
  | [] => 0
  | c :: r => Sm.sizes c + 1 + Sm.csizes r
end
theorem Ty4.size_pos (t : Ty4) : 0 < t.size := by cases t; simp [Ty4.size]
theorem Ex.size_pos (e : Ex) : 0 < e.size := by cases e; simp [Ex.size]
theorem Sm.size_pos (e : Sm) : 0 < e.size := by cases e; simp [Sm.size]
theorem Ty4.size_mem {e : Ty4} : ∀ {l : List Ty4}, e ∈ l → e.size ≤ Ty4.sizes l
  | u :: us, h => by
    simp only [Ty4.sizes]
    rcases List.mem_cons.1 h with rfl | h
    · omega
    · have := Ty4.size_mem h; omega
theorem Ex.size_mem {e : Ex} : ∀ {l : List Ex}, e ∈ l → e.size ≤ Ex.sizes l
  | u :: us, h => by
    simp only [Ex.sizes]
    rcases List.mem_cons.1 h with rfl | h
    · omega
    · have := Ex.size_mem h; omega
theorem Sm.size_mem {e : Sm} : ∀ {l : List Sm}, e ∈ l → e.size ≤ Sm.sizes l
  | u :: us, h => by
    simp only [Sm.sizes]
    rcases List.mem_cons.1 h with rfl | h
    · omega
    · have := Sm.size_mem h; omega
theorem Sm.csize_mem {c : List Sm} : ∀ {l : List (List Sm)}, c ∈ l → Sm.sizes c + 1 ≤ Sm.csizes l
  | u :: us, h => by
    simp only [Sm.csizes]
    rcases List.mem_cons.1 h with rfl | h
    · omega
    · have := Sm.csize_mem h; omega
theorem Ty4.len_le : ∀ l : List Ty4, l.length ≤ Ty4.sizes l
  | [] => by simp
  | t :: ts => by
    have := Ty4.len_le ts
    have := t.size_pos
    simp only [Ty4.sizes, List.length_cons]; omega
theorem Ex.len_le : ∀ l : List Ex, l.length ≤ Ex.sizes l
  | [] => by simp
  | t :: ts => by
    have := Ex.len_le ts
    have := t.size_pos
    simp only [Ex.sizes, List.length_cons]; omega
theorem Sm.len_le : ∀ l : List Sm, l.length ≤ Sm.sizes l
  | [] => by simp
  | t :: ts => by
    have := Sm.len_le ts
    have := t.size_pos
    simp only [Sm.sizes, List.length_cons]; omega
theorem Sm.clen_le : ∀ l : List (List Sm), l.length ≤ Sm.csizes l
  | [] => by simp
  | t :: ts => by
    have := Sm.clen_le ts
    simp only [Sm.csizes, List.length_cons]; omega
mutual
def Ty4.ok : Ty4 → Prop
  | .mk k nm n ts => I64 k ∧ nm.size ≤ 1000000 ∧ I64 n ∧ Ty4.oks ts
def Ty4.oks : List Ty4 → Prop
  | [] => True
  | t :: r => t.ok ∧ Ty4.oks r
end
mutual
def Ex.ok : Ex → Prop
  | .mk k nm n ks => I64 k ∧ nm.size ≤ 1000000 ∧ (0 ≤ n ∧ n ≤ 65535) ∧ Ex.oks ks
def Ex.oks : List Ex → Prop
  | [] => True
  | t :: r => t.ok ∧ Ex.oks r
end
mutual
def Sm.ok : Sm → Prop
  | .mk k nm t n xs b el cs => I64 k ∧ nm.size ≤ 1000000 ∧ t.ok ∧ (0 ≤ n ∧ n ≤ 65535) ∧ Ex.oks xs ∧ Sm.oks b ∧ Sm.oks el ∧ Sm.okc cs
def Sm.oks : List Sm → Prop
  | [] => True
  | t :: r => t.ok ∧ Sm.oks r
def Sm.okc : List (List Sm) → Prop
  | [] => True
  | c :: r => Sm.oks c ∧ Sm.okc r
end
theorem Ty4.oks_mem {t : Ty4} : ∀ {l : List Ty4}, Ty4.oks l → t ∈ l → t.ok
  | u :: us, h, hm => by
    rcases List.mem_cons.1 hm with rfl | hm
    · exact h.1
    · exact Ty4.oks_mem h.2 hm
theorem Ex.oks_mem {t : Ex} : ∀ {l : List Ex}, Ex.oks l → t ∈ l → t.ok
  | u :: us, h, hm => by
    rcases List.mem_cons.1 hm with rfl | hm
    · exact h.1
    · exact Ex.oks_mem h.2 hm
theorem Sm.oks_mem {t : Sm} : ∀ {l : List Sm}, Sm.oks l → t ∈ l → t.ok
  | u :: us, h, hm => by
    rcases List.mem_cons.1 hm with rfl | hm
    · exact h.1
    · exact Sm.oks_mem h.2 hm
theorem Sm.okc_mem {c : List Sm} : ∀ {l : List (List Sm)}, Sm.okc l → c ∈ l → Sm.oks c
  | u :: us, h, hm => by
    rcases List.mem_cons.1 hm with rfl | hm
    · exact h.1
    · exact Sm.okc_mem h.2 hm
theorem Ex.oks_append : ∀ {a b : List Ex}, Ex.oks (a ++ b) ↔ Ex.oks a ∧ Ex.oks b
  | [], b => by simp [Ex.oks]
  | t :: r, b => by simp only [List.cons_append, Ex.oks, Ex.oks_append (a := r), and_assoc]
theorem Sm.oks_append : ∀ {a b : List Sm}, Sm.oks (a ++ b) ↔ Sm.oks a ∧ Sm.oks b
  | [], b => by simp [Sm.oks]
  | t :: r, b => by simp only [List.cons_append, Sm.oks, Sm.oks_append (a := r), and_assoc]
theorem Sm.okc_append : ∀ {a b : List (List Sm)}, Sm.okc (a ++ b) ↔ Sm.okc a ∧ Sm.okc b
  | [], b => by simp [Sm.okc]
  | t :: r, b => by simp only [List.cons_append, Sm.okc, Sm.okc_append (a := r), and_assoc]
theorem Ex.sizes_append : ∀ {a b : List Ex}, Ex.sizes (a ++ b) = Ex.sizes a + Ex.sizes b
  | [], b => by simp [Ex.sizes]
  | t :: r, b => by simp only [List.cons_append, Ex.sizes, Ex.sizes_append (a := r)]; omega
theorem Sm.sizes_append : ∀ {a b : List Sm}, Sm.sizes (a ++ b) = Sm.sizes a + Sm.sizes b
  | [], b => by simp [Sm.sizes]
  | t :: r, b => by simp only [List.cons_append, Sm.sizes, Sm.sizes_append (a := r)]; omega
theorem Sm.csizes_append : ∀ {a b : List (List Sm)}, Sm.csizes (a ++ b) = Sm.csizes a + Sm.csizes b
  | [], b => by simp [Sm.csizes]
  | t :: r, b => by simp only [List.cons_append, Sm.csizes, Sm.csizes_append (a := r)]; omega
structure Td where
  nm : ByteArray
  un : Bool
  fs : List Par
structure Gb where
  nm : ByteArray
  ty : Ty4
  bank : Int
  addr : Int
  bytes : ByteArray
structure Pg where
  ts : List Td
  gs : List Gb
  fs : List Fu
def Td.d (t : Td) : List D := [.c (.string t.nm), .c (.bool t.un), .s 5 (ak Par.d t.fs)]
def Gb.d (g : Gb) : List D := .c (.string g.nm) :: g.ty.d ++ [.c (.int .i64 g.bank), .c (.int .u16 g.addr), .c (.string g.bytes)]
def Pg.d (p : Pg) : List D := [.s 3 (ak Td.d p.ts), .s 8 (ak Gb.d p.gs), .s 10 (ak Fu.d p.fs)]
theorem Td.d_len (t : Td) : t.d.length = 3 := rfl
theorem Gb.d_len (t : Gb) : t.d.length = 8 := by simp [Gb.d, Ty4.d_len]
theorem Fu.d_len (t : Fu) : t.d.length = 10 := by simp [Fu.d, Ty4.d_len]
def Par.ok (B : Nat) (p : Par) : Prop := p.nm.size ≤ 1000000 ∧ p.ty.ok ∧ p.ty.size ≤ B
def Td.ok (B : Nat) (t : Td) : Prop := t.nm.size ≤ 1000000 ∧ t.fs.length ≤ B ∧ ∀ p ∈ t.fs, p.ok B
def Gb.ok (B : Nat) (g : Gb) : Prop := g.nm.size ≤ 1000000 ∧ g.ty.ok ∧ g.ty.size ≤ B ∧ I64 g.bank ∧ (0 ≤ g.addr ∧ g.addr ≤ 65535) ∧ g.bytes.size ≤ B
def Fu.ok (B : Nat) (f : Fu) : Prop := f.nm.size ≤ 1000000 ∧ f.ps.length ≤ B ∧ (∀ p ∈ f.ps, p.ok B) ∧ f.res.ok ∧ f.res.size ≤ B ∧ Sm.oks f.body ∧ Sm.sizes f.body ≤ B ∧ I64 f.x ∧ (0 ≤ f.y ∧ f.y ≤ 65535)
structure Pg.ok (B : Nat) (p : Pg) : Prop where
  tl : p.ts.length ≤ B
  gl : p.gs.length ≤ B
  fl : p.fs.length ≤ B
  t : ∀ x ∈ p.ts, x.ok B
  g : ∀ x ∈ p.gs, x.ok B
  f : ∀ x ∈ p.fs, x.ok B
theorem Par.ok.mono {B C : Nat} (h : B ≤ C) {p : Par} (hp : p.ok B) : p.ok C := ⟨hp.1, hp.2.1, Nat.le_trans hp.2.2 h⟩
theorem Td.ok.mono {B C : Nat} (h : B ≤ C) {p : Td} (hp : p.ok B) : p.ok C := ⟨hp.1, Nat.le_trans hp.2.1 h, fun x hx => (hp.2.2 x hx).mono h⟩
theorem Gb.ok.mono {B C : Nat} (h : B ≤ C) {p : Gb} (hp : p.ok B) : p.ok C := by
  obtain ⟨h1, h2, h3, h4, h5, h6⟩ := hp
  exact ⟨h1, h2, Nat.le_trans h3 h, h4, h5, Nat.le_trans h6 h⟩
theorem Fu.ok.mono {B C : Nat} (h : B ≤ C) {p : Fu} (hp : p.ok B) : p.ok C := by
  obtain ⟨h1, h2, h3, h4, h5, h6, h7, h8, h9⟩ := hp
  exact ⟨h1, Nat.le_trans h2 h, fun x hx => (h3 x hx).mono h, h4, Nat.le_trans h5 h, h6, Nat.le_trans h7 h, h8, h9⟩
mutual
def rTy : Ty4 → Bool
  | .mk k nm n ts =>
    if k = 4 then ae nm && decide (n = 0) && decide (ts.length = 0)
    else if k = 1 ∨ k = 2 ∨ k = 3 then decide (nm = eS) && decide (n = 0) && decide (ts.length = 0)
    else if k = 5 ∨ k = 6 then decide (nm = eS) && decide (0 ≤ n) && decide (n ≤ if k = 5 then 65535 else 64) && decide (ts.length = 1) && rTys ts
    else false
def rTys : List Ty4 → Bool
  | [] => true
  | t :: r => rTy t && rTys r
end
def opsL : List ByteArray := [⟨#[124]⟩, ⟨#[94]⟩, ⟨#[38]⟩, ⟨#[61, 61]⟩, ⟨#[33, 61]⟩, ⟨#[60]⟩, ⟨#[60, 61]⟩, ⟨#[62]⟩, ⟨#[62, 61]⟩, ⟨#[60, 60]⟩, ⟨#[62, 62]⟩, ⟨#[43]⟩, ⟨#[45]⟩, ⟨#[42]⟩, ⟨#[47]⟩, ⟨#[37]⟩]
def unL : List ByteArray := [⟨#[45]⟩, ⟨#[126]⟩, ⟨#[33]⟩]
def castL : List ByteArray := [⟨#[117, 56]⟩, ⟨#[117, 49, 54]⟩, ⟨#[115, 49, 54]⟩]
def aC (s : ByteArray) (l : List ByteArray) : Bool := l.any fun x => decide (x = s)
def bx (k : Int) (nm : ByteArray) : Bool :=
  if k = 2 ∨ k = 3 ∨ k = 14 then ae nm
  else if k = 13 then aC nm opsL
  else if k = 12 then aC nm unL
  else if k = 15 then aC nm castL
  else decide (nm = eS)
def dg (k : Int) : Int := if k = 1 ∨ k = 2 ∨ k = 11 then 0 else if k = 4 ∨ k = 13 then 2 else 1
def cK (k : Int) : Int := if k = 1 then 65536 else if k = 11 then 256 else if k = 9 ∨ k = 10 then 64 else 1
mutual
def rEx : Ex → Bool
  | .mk k nm n ks => decide (1 ≤ k ∧ k ≤ 15) && bx k nm && (decide (k = 14) || decide ((ks.length : Int) = dg k)) && decide (n < cK k) && rExs ks
def rExs : List Ex → Bool
  | [] => true
  | t :: r => rEx t && rExs r
end
def aB (k : Int) : Int := if k = 2 then 2 else if k = 1 ∨ k = 3 ∨ k = 4 ∨ k = 9 ∨ k = 11 ∨ k = 14 then 1 else 0
def aY (k : Int) : Int := if k = 2 then 2 else if k = 1 ∨ k = 3 ∨ k = 4 ∨ k = 9 ∨ k = 10 ∨ k = 11 ∨ k = 14 then 1 else 0
def eB (k : Int) : Bool := decide (k = 1 ∨ k = 6 ∨ k = 7 ∨ k = 8)
def fA (k : Int) : Bool := decide (k = 4 ∨ k = 5)
def iA (k : Int) : Bool := decide (k = 3 ∨ k = 4 ∨ k = 5 ∨ k = 6)
def iB (k : Int) : Bool := decide (k = 3 ∨ k = 9)
def iC (k : Int) : Bool := decide (k = 9)
def smPo (k : Int) : Bool := decide (k = 11)
def bU (k : Int) (nm : ByteArray) : Bool := if eB k then ae nm else decide (nm = eS) || (fA k && ae nm)
def Ex.kind : Ex → Int | .mk k _ _ _ => k
def bn (k : Int) : Bool := decide (k = 2 ∨ k = 3 ∨ k = 4 ∨ k = 5 ∨ k = 7 ∨ k = 8)
def bA (p : Int → Bool) : List Ex → Bool
  | [] => true
  | e :: _ => p e.kind
mutual
def rSm : Sm → Bool
  | .mk k nm t n xs b el cs => decide (1 ≤ k ∧ k ≤ 14) && decide (aB k ≤ (xs.length : Int)) && decide ((xs.length : Int) ≤ aY k) && rExs xs && bU k nm && (if k = 1 then rTy t else az t 0)
    && (decide (n = 0) || (smPo k && decide (n < 256))) && (iA k || decide (b.length = 0)) && (iB k || decide (el.length = 0)) && (iC k || decide (cs.length = 0))
    && (!decide (k = 14) || bA (fun j => decide (j = 14)) xs) && (!decide (k = 2) || bA bn xs) && cT b && cT el && rCs cs
def cT : List Sm → Bool
  | [] => true
  | t :: r => rSm t && cT r
def rCs : List (List Sm) → Bool
  | [] => true
  | c :: r => cT c && rCs r
end
theorem eC : ∀ l, rTys l = l.all rTy
  | [] => rfl
  | t :: r => by simp only [rTys, List.all_cons, eC r]
theorem be : ∀ l, rExs l = l.all rEx
  | [] => rfl
  | t :: r => by simp only [rExs, List.all_cons, be r]
theorem aH : ∀ l, cT l = l.all rSm
  | [] => rfl
  | t :: r => by simp only [cT, List.all_cons, aH r]
theorem dD : ∀ l, rCs l = l.all cT
  | [] => rfl
  | t :: r => by simp only [rCs, List.all_cons, dD r]
def cN (p : Par) : Bool := ae p.nm && rTy p.ty
def rTd (t : Td) : Bool := ae t.nm && t.fs.all cN
def rGb (g : Gb) : Bool := ae g.nm && rTy g.ty && ((decide (g.bank = -1) && decide (g.bytes = eS)) || (decide (0 ≤ g.bank) && decide (g.bank < 64)))
def rFu (f : Fu) : Bool := ae f.nm && f.ps.all cN && (az f.res 7 || rTy f.res) &&
  (if f.fl then decide (f.body.length = 0) && decide (0 ≤ f.x) && decide (f.x < 64) else decide (f.x = 0 ∧ f.y = 0) && cT f.body)
def rPg (p : Pg) : Bool := p.ts.all rTd && p.gs.all rGb && p.fs.all rFu
theorem kF {H : Hp} {k n : Int} {nm : ByteArray} {ts : List Ty4} {c0 c1 c2 c3 : Value} (h : RdL H (Ty4.mk k nm n ts).d [c0, c1, c2, c3]) : c0 = .int .i64 k ∧ c1 = .string nm ∧ c2 = .int .i64 n ∧ rd H (.s 4 (ak Ty4.d ts)) c3 := by
  simp only [Ty4.d] at h
  obtain ⟨h0, h1, h2, h3, _⟩ := h
  simp only [rd] at h0 h1 h2
  rw [Ty4.ds_of] at h3
  exact ⟨h0, h1, h2, h3⟩
theorem cd_of : ∀ l : List (List Sm), Sm.cd l = ak (fun c => [D.s 11 (ak Sm.d c)]) l
  | [] => rfl
  | c :: r => by simp only [Sm.cd, cd_of r, ak, List.flatMap_cons, List.cons_append, List.nil_append, Sm.ds_of]
theorem sm_cells {H : Hp} {k n : Int} {nm : ByteArray} {t : Ty4} {xs : List Ex} {b el : List Sm} {cs : List (List Sm)} {c0 c1 c2 c3 c4 c5 c6 c7 c8 c9 c10 : Value} (h : RdL H (Sm.mk k nm t n xs b el cs).d [c0, c1, c2, c3, c4, c5, c6, c7, c8, c9, c10]) :
    c0 = .int .i64 k ∧ c1 = .string nm ∧ RdL H t.d [c2, c3, c4, c5] ∧ c6 = .int .u16 n ∧ rd H (.s 4 (ak Ex.d xs)) c7 ∧ rd H (.s 11 (ak Sm.d b)) c8 ∧ rd H (.s 11 (ak Sm.d el)) c9 ∧ rd H (.s 1 (ak (fun c => [D.s 11 (ak Sm.d c)]) cs)) c10 := by
  obtain ⟨tk, tn, tm, tt⟩ := t
  simp only [Sm.d, Ty4.d, List.cons_append, List.nil_append] at h ⊢
  obtain ⟨h0, h1, h2, h3, h4, h5, h6, h7, h8, h9, h10, _⟩ := h
  simp only [rd] at h0 h1 h6
  rw [Ex.ds_of] at h7
  rw [Sm.ds_of] at h8 h9
  rw [cd_of] at h10
  exact ⟨h0, h1, ⟨h2, h3, h4, h5, trivial⟩, h6, h7, h8, h9, h10⟩
theorem nu {H : Hp} {p : Td} {c0 c1 c2 : Value} (h : RdL H p.d [c0, c1, c2]) : c0 = .string p.nm ∧ c1 = .bool p.un ∧ rd H (.s 5 (ak Par.d p.fs)) c2 := by
  simp only [Td.d] at h
  obtain ⟨h0, h1, h2, _⟩ := h
  simp only [rd] at h0 h1
  exact ⟨h0, h1, h2⟩
theorem nv {H : Hp} {p : Gb} {c0 c1 c2 c3 c4 c5 c6 c7 : Value} (h : RdL H p.d [c0, c1, c2, c3, c4, c5, c6, c7]) : c0 = .string p.nm ∧ RdL H p.ty.d [c1, c2, c3, c4] ∧ c5 = .int .i64 p.bank ∧ c6 = .int .u16 p.addr ∧ c7 = .string p.bytes := by
  obtain ⟨nm, ⟨tk, tn, tm, tt⟩, bank, addr, bytes⟩ := p
  simp only [Gb.d, Ty4.d, List.cons_append, List.nil_append] at h ⊢
  obtain ⟨h0, h2, h3, h4, h5, h6, h7, h8, _⟩ := h
  simp only [rd] at h0 h6 h7 h8
  exact ⟨h0, ⟨h2, h3, h4, h5, trivial⟩, h6, h7, h8⟩
theorem fu_cells {H : Hp} {p : Fu} {c0 c1 c2 c3 c4 c5 c6 c7 c8 c9 : Value} (h : RdL H p.d [c0, c1, c2, c3, c4, c5, c6, c7, c8, c9]) :
    c0 = .string p.nm ∧ rd H (.s 5 (ak Par.d p.ps)) c1 ∧ RdL H p.res.d [c2, c3, c4, c5] ∧ rd H (.s 11 (ak Sm.d p.body)) c6 ∧ c7 = .bool p.fl ∧ c8 = .int .i64 p.x ∧ c9 = .int .u16 p.y := by
  obtain ⟨nm, ps, ⟨tk, tn, tm, tt⟩, body, fl, x, y⟩ := p
  simp only [Fu.d, Ty4.d, List.cons_append, List.nil_append] at h ⊢
  obtain ⟨h0, h1, h2, h3, h4, h5, h6, h7, h8, h9, _⟩ := h
  simp only [rd] at h0 h7 h8 h9
  rw [Sm.ds_of] at h6
  exact ⟨h0, h1, ⟨h2, h3, h4, h5, trivial⟩, h6, h7, h8, h9⟩
theorem nw {H : Hp} {p : Pg} {c0 c1 c2 : Value} (h : RdL H p.d [c0, c1, c2]) : rd H (.s 3 (ak Td.d p.ts)) c0 ∧ rd H (.s 8 (ak Gb.d p.gs)) c1 ∧ rd H (.s 10 (ak Fu.d p.fs)) c2 := by
  obtain ⟨h0, h1, h2, _⟩ := h
  exact ⟨h0, h1, h2⟩
theorem mc {H : Hp} {p : Pg} {c0 c1 c2 : Value} (h : RdL H p.d [c0, c1, c2]) : Ones [c0, c1, c2] := by
  obtain ⟨h0, h1, h2⟩ := nw h
  exact ⟨h0.one, h1.one, h2.one, trivial⟩
end Go.Proofs.YtlmahofogapkgaaGreatDoor.K
namespace Go.Proofs.YtlmahofogapkgaaGreatDoor.X
open Go Go.RowKit Go.Proofs K
def lb : Tr → ByteArray
  | .node l _ => l
mutual
def kd : Tr → List (List D)
  | .node _ ks => kds ks
def kds : List Tr → List (List D)
  | [] => []
  | t :: r => [.c (.string (lb t)), .s (kd t)] :: kds r
end
def trd (t : Tr) : List D := [.c (.string (lb t)), .s (kd t)]
abbrev aN (l : List Tr) : List (List D) := l.map trd
theorem kds_eq : ∀ l : List Tr, kds l = aN l
  | [] => rfl
  | t :: r => congrArg (trd t :: ·) (kds_eq r)
theorem aZ (lb : ByteArray) (ks : List Tr) : trd (.node lb ks) = [.c (.string lb), .s (aN ks)] := by
  show [D.c (.string lb), .s (kds ks)] = _
  rw [kds_eq]
def tk : Ty4 → Int | .mk k _ _ _ => k
def tnm : Ty4 → ByteArray | .mk _ nm _ _ => nm
def tn : Ty4 → Int | .mk _ _ n _ => n
mutual
def tyS : Ty4 → List (List D)
  | .mk _ _ _ ts => tyR ts
def tyR : List Ty4 → List (List D)
  | [] => []
  | t :: r => [.c (.int .i64 (tk t)), .c (.string (tnm t)), .c (.int .i64 (tn t)), .s (tyS t)] :: tyR r
end
def tyD (t : Ty4) : List D := [.c (.int .i64 (tk t)), .c (.string (tnm t)), .c (.int .i64 (tn t)), .s (tyS t)]
theorem tyR_eq : ∀ l : List Ty4, tyR l = l.map tyD
  | [] => rfl
  | t :: r => congrArg (tyD t :: ·) (tyR_eq r)
theorem gR (k n : Int) (nm : ByteArray) (ts : List Ty4) : tyD (.mk k nm n ts) = [.c (.int .i64 k), .c (.string nm), .c (.int .i64 n), .s (ts.map tyD)] := by
  show [D.c (.int .i64 k), .c (.string nm), .c (.int .i64 n), .s (tyR ts)] = _
  rw [tyR_eq]
def ek : Ex → Int | .mk k _ _ _ => k
def enm : Ex → ByteArray | .mk _ nm _ _ => nm
def en : Ex → Int | .mk _ _ n _ => n
mutual
def exS : Ex → List (List D)
  | .mk _ _ _ ts => exR ts
def exR : List Ex → List (List D)
  | [] => []
  | t :: r => [.c (.int .i64 (ek t)), .c (.string (enm t)), .c (.int .u16 (en t)), .s (exS t)] :: exR r
end
def exD (t : Ex) : List D := [.c (.int .i64 (ek t)), .c (.string (enm t)), .c (.int .u16 (en t)), .s (exS t)]
theorem exR_eq : ∀ l : List Ex, exR l = l.map exD
  | [] => rfl
  | t :: r => congrArg (exD t :: ·) (exR_eq r)
theorem jC (k n : Int) (nm : ByteArray) (ts : List Ex) : exD (.mk k nm n ts) = [.c (.int .i64 k), .c (.string nm), .c (.int .u16 n), .s (ts.map exD)] := by
  show [D.c (.int .i64 k), .c (.string nm), .c (.int .u16 n), .s (exR ts)] = _
  rw [exR_eq]
def sk : Sm → Int | .mk k _ _ _ _ _ _ _ => k
def snm : Sm → ByteArray | .mk _ nm _ _ _ _ _ _ => nm
def sty : Sm → Ty4 | .mk _ _ t _ _ _ _ _ => t
def sn : Sm → Int | .mk _ _ _ n _ _ _ _ => n
def sX : Sm → List (List D) | .mk _ _ _ _ xs _ _ _ => xs.map exD
mutual
def sB : Sm → List (List D)
  | .mk _ _ _ _ _ b _ _ => sR b
def sEl : Sm → List (List D)
  | .mk _ _ _ _ _ _ el _ => sR el
def sCs : Sm → List (List D)
  | .mk _ _ _ _ _ _ _ cs => sCC cs
def sR : List Sm → List (List D)
  | [] => []
  | s :: r => [.c (.int .i64 (sk s)), .c (.string (snm s)), .c (.int .i64 (tk (sty s))), .c (.string (tnm (sty s))), .c (.int .i64 (tn (sty s))), .s (tyS (sty s)), .c (.int .u16 (sn s)), .s (sX s), .s (sB s), .s (sEl s), .s (sCs s)] :: sR r
def sCC : List (List Sm) → List (List D)
  | [] => []
  | c :: r => [.s (sR c)] :: sCC r
end
def smD (s : Sm) : List D := [.c (.int .i64 (sk s)), .c (.string (snm s)), .c (.int .i64 (tk (sty s))), .c (.string (tnm (sty s))), .c (.int .i64 (tn (sty s))), .s (tyS (sty s)), .c (.int .u16 (sn s)), .s (sX s), .s (sB s), .s (sEl s), .s (sCs s)]
theorem sR_eq : ∀ l : List Sm, sR l = l.map smD
  | [] => rfl
  | t :: r => congrArg (smD t :: ·) (sR_eq r)
def blD (c : List Sm) : List D := [.s (c.map smD)]
theorem sCC_eq : ∀ l : List (List Sm), sCC l = l.map blD
  | [] => rfl
  | c :: r => by show [D.s (sR c)] :: sCC r = blD c :: r.map blD; rw [sR_eq, sCC_eq r]; rfl
theorem dW (k n : Int) (nm : ByteArray) (t : Ty4) (xs : List Ex) (b el : List Sm) (cs : List (List Sm)) : smD (.mk k nm t n xs b el cs) = [.c (.int .i64 k), .c (.string nm), .c (.int .i64 (tk t)), .c (.string (tnm t)), .c (.int .i64 (tn t)), .s (tyS t), .c (.int .u16 n), .s (xs.map exD), .s (b.map smD), .s (el.map smD), .s (cs.map blD)] := by
  show [D.c (.int .i64 k), .c (.string nm), .c (.int .i64 (tk t)), .c (.string (tnm t)), .c (.int .i64 (tn t)), .s (tyS t), .c (.int .u16 n), .s (xs.map exD), .s (sR b), .s (sR el), .s (sCC cs)] = _
  rw [sR_eq, sR_eq, sCC_eq]
def paD (p : Par) : List D := [.c (.string p.nm), .c (.int .i64 (tk p.ty)), .c (.string (tnm p.ty)), .c (.int .i64 (tn p.ty)), .s (tyS p.ty)]
def tdD (t : Td) : List D := [.c (.string t.nm), .c (.bool t.un), .s (t.fs.map paD)]
def gbD (g : Gb) : List D := [.c (.string g.nm), .c (.int .i64 (tk g.ty)), .c (.string (tnm g.ty)), .c (.int .i64 (tn g.ty)), .s (tyS g.ty), .c (.int .i64 g.bank), .c (.int .u16 g.addr), .c (.string g.bytes)]
def fuD (f : Fu) : List D := [.c (.string f.nm), .s (f.ps.map paD), .c (.int .i64 (tk f.res)), .c (.string (tnm f.res)), .c (.int .i64 (tn f.res)), .s (tyS f.res), .s (f.body.map smD), .c (.bool f.fl), .c (.int .i64 f.x), .c (.int .u16 f.y)]
def pgD (p : Pg) : List D := [.s (p.ts.map tdD), .s (p.gs.map gbD), .s (p.fs.map fuD)]
abbrev cs9 (fs cs : List D) (l : List XV) : List XV := cl (fs.map .d) ++ (l ++ cl (cs.map .d))
abbrev xf (fc : FuncId) (fs cs : List D) : XV := .a (.c (.d (.f fc fs cs)))
theorem aa {α β : Type} {l : List α} {f : α → β} {j : Nat} {y : α} (h : l[j]? = some y) : (l.map f)[j]? = some (f y) := by rw [List.getElem?_map, h]; rfl
theorem al {α : Type} {l : List α} {j : Nat} (h : j < l.length) : ∃ y, l[j]? = some y := ⟨_, List.getElem?_eq_getElem h⟩
def idxI {α : Type} (p : α → Bool) (l : List α) : Int := if l.any p then (l.findIdx p : Int) else -1
section
variable {α : Type} {p : α → Bool} {l : List α} {j : Nat} {y : α}
theorem eD (h : (l.take j).any p = false) (hy : l[j]? = some y) (hp : p y = false) : (l.take (j + 1)).any p = false := by
  rw [List.take_succ, hy, List.any_append, h]; simp [hp]
theorem eZ (h : (l.take j).any p = false) (hy : l[j]? = some y) (hp : p y = true) : idxI p l = j := by
  have hlt : j < l.length := (List.getElem?_eq_some_iff.1 hy).1
  have hj : l[j] = y := (List.getElem?_eq_some_iff.1 hy).2
  have hany : l.any p = true := List.any_eq_true.2 ⟨y, List.mem_of_getElem? hy, hp⟩
  rw [idxI, if_pos hany]
  have : l.findIdx p = j := by
    rw [List.findIdx_eq hlt]
    refine ⟨by rw [hj]; exact hp, fun k hk => ?_⟩
    have := List.any_eq_false.1 h (l[k]'(by omega)) (by
      rw [List.mem_iff_getElem?]; exact ⟨k, by rw [List.getElem?_take, if_pos hk, List.getElem?_eq_getElem (by omega)]⟩)
    simpa using this
  rw [this]
theorem fU (h : (l.take j).any p = false) (hj : l.length ≤ j) : idxI p l = -1 := by
  rw [List.take_of_length_le hj] at h
  rw [idxI, h]; rfl
theorem iL (p : α → Bool) (l : List α) : decide (0 ≤ idxI p l) = l.any p := by
  unfold idxI
  cases h : l.any p
  · rfl
  · simp
theorem not_any (p : α → Bool) (l : List α) : (!l.any fun x => !p x) = l.all p := by rw [List.all_eq_not_any_not]
end
def IdxT (pk : Pk) (f : FuncId) {α : Type} (da : α → List D) (ar : α → XV) (R : (α → Bool) → List α → XV) : Prop := ∀ (l : List α) (p : α → Bool) (fc : FuncId) (fs cs : List D),
  (∀ x ∈ l, XQ Tryz.prog pk fc (cs9 fs cs [ar x]) (xb (p x))) → XQ Tryz.prog pk f [xr (l.map da), xf fc fs cs] (R p l)
abbrev IdxA (pk : Pk) (R : {α : Type} → (α → Bool) → List α → XV) (f1 f2 f3 f4 f5 f6 f7 f8 : FuncId) : Prop := IdxT pk f1 tdD (fun t => xd (tdD t)) R ∧ IdxT pk f2 gbD (fun t => xd (gbD t)) R ∧ IdxT pk f3 fuD (fun t => xd (fuD t)) R ∧ IdxT pk f4 paD (fun t => xd (paD t)) R ∧
  IdxT pk f5 tyD (fun t => xd (tyD t)) R ∧ IdxT pk f6 smD (fun t => xd (smD t)) R ∧ IdxT pk f7 exD (fun t => xd (exD t)) R ∧ IdxT pk f8 blD (fun c => xr (c.map smD)) R
theorem index_all (pk : Pk) : IdxA pk (fun p l => xi (idxI p l)) 160 168 170 186 204 205 225 228 := by
  refine ⟨fun l p fc fs cs hcl => XQ.en Tryz.func160 Tryz.ntmps160 (fun w0 own H V v0 hf => ?_), fun l p fc fs cs hcl => XQ.en Tryz.func168 Tryz.ntmps168 (fun w0 own H V v0 hf => ?_),
    fun l p fc fs cs hcl => XQ.en Tryz.func170 Tryz.ntmps170 (fun w0 own H V v0 hf => ?_), fun l p fc fs cs hcl => XQ.en Tryz.func186 Tryz.ntmps186 (fun w0 own H V v0 hf => ?_),
    fun l p fc fs cs hcl => XQ.en Tryz.func204 Tryz.ntmps204 (fun w0 own H V v0 hf => ?_), fun l p fc fs cs hcl => XQ.en Tryz.func205 Tryz.ntmps205 (fun w0 own H V v0 hf => ?_),
    fun l p fc fs cs hcl => XQ.en Tryz.func225 Tryz.ntmps225 (fun w0 own H V v0 hf => ?_), fun l p fc fs cs hcl => XQ.en Tryz.func228 Tryz.ntmps228 (fun w0 own H V v0 hf => ?_)⟩
  all_goals
    refine Ln 0 rfl (fun hl => ?_); rw [List.length_map] at hl
    refine G (T := T) 1000 rfl ?_
    refine Lq [0, 1, 7] (fun q r => (4, xi 0) :: (8, xi (q : Nat)) :: r) (fun q => []) 0 (fun q => q ≤ l.length ∧ (l.take q).any p = false) (fun q => l.length - q) 0 rfl ⟨Nat.zero_le _, rfl⟩ ?_
    rintro j ⟨hj, hI⟩
    refine G (T := T) 1000 rfl ?_
    refine If rfl (fun h => ?_) (fun h => ?_)
    · have hjl := of_decide_eq_true h; rw [List.length_map] at hjl
      obtain ⟨y, hy⟩ := al (l := l) (j := j) (by omega)
      refine G (T := T) 14 rfl ?_
      refine Ix (T := T) j (aa hy) rfl rfl rfl rfl ⟨rfl, rfl⟩ rfl rfl ?_
      refine G (T := T) 1000 rfl ?_
      refine Cv (hcl y (List.mem_of_getElem? hy)) rfl rfl rfl rfl rfl ⟨rfl, rfl⟩ ?_
      refine G (T := T) 1000 rfl ?_
      refine If rfl (fun h => ?_) (fun h => ?_)
      · refine G (T := T) 1000 rfl ?_
        exact Fe (T := T) rfl (by show xi _ = xi _; rw [eZ hI hy h])
      · refine G (T := T) 1000 rfl ?_
        exact Nq (j + 1) ⟨by omega, eD hI hy h⟩ (by show _ - (j + 1) < _ - j; omega)
    · have hjl := of_decide_eq_false h; rw [List.length_map] at hjl
      refine G (T := T) 1000 rfl ?_
      exact Fe (T := T) rfl (by show xi _ = xi _; rw [fU hI (by omega)])
theorem mf (pk : Pk) : IdxA pk (fun p l => xb (l.any p)) 127 132 135 166 187 189 206 211 := by
  obtain ⟨a1, a2, a3, a4, a5, a6, a7, a8⟩ := index_all pk
  refine ⟨fun l p fc fs cs hcl => XQ.en Tryz.func127 Tryz.ntmps127 (fun w0 own H V v0 hf => ?_), fun l p fc fs cs hcl => XQ.en Tryz.func132 Tryz.ntmps132 (fun w0 own H V v0 hf => ?_), fun l p fc fs cs hcl => XQ.en Tryz.func135 Tryz.ntmps135 (fun w0 own H V v0 hf => ?_), fun l p fc fs cs hcl => XQ.en Tryz.func166 Tryz.ntmps166 (fun w0 own H V v0 hf => ?_), fun l p fc fs cs hcl => XQ.en Tryz.func187 Tryz.ntmps187 (fun w0 own H V v0 hf => ?_), fun l p fc fs cs hcl => XQ.en Tryz.func189 Tryz.ntmps189 (fun w0 own H V v0 hf => ?_), fun l p fc fs cs hcl => XQ.en Tryz.func206 Tryz.ntmps206 (fun w0 own H V v0 hf => ?_), fun l p fc fs cs hcl => XQ.en Tryz.func211 Tryz.ntmps211 (fun w0 own H V v0 hf => ?_)⟩
  all_goals
    refine G (T := T) 1000 rfl ?_
    first
      | refine Cq (a1 l p fc fs cs hcl) rfl rfl rfl rfl rfl ⟨rfl, rfl⟩ ?_
      | refine Cq (a2 l p fc fs cs hcl) rfl rfl rfl rfl rfl ⟨rfl, rfl⟩ ?_
      | refine Cq (a3 l p fc fs cs hcl) rfl rfl rfl rfl rfl ⟨rfl, rfl⟩ ?_
      | refine Cq (a4 l p fc fs cs hcl) rfl rfl rfl rfl rfl ⟨rfl, rfl⟩ ?_
      | refine Cq (a5 l p fc fs cs hcl) rfl rfl rfl rfl rfl ⟨rfl, rfl⟩ ?_
      | refine Cq (a6 l p fc fs cs hcl) rfl rfl rfl rfl rfl ⟨rfl, rfl⟩ ?_
      | refine Cq (a7 l p fc fs cs hcl) rfl rfl rfl rfl rfl ⟨rfl, rfl⟩ ?_
      | refine Cq (a8 l p fc fs cs hcl) rfl rfl rfl rfl rfl ⟨rfl, rfl⟩ ?_
    refine G (T := T) 1000 rfl ?_
    exact Fe (T := T) rfl (by show xb _ = xb _; rw [← iL])
abbrev NotT (pk : Pk) (f : FuncId) {α : Type} (ar : α → XV) : Prop := ∀ (fc : FuncId) (fs cs : List D) (b : Bool) (x : α), XQ Tryz.prog pk fc (cs9 fs cs [ar x]) (xb b) → XQ Tryz.prog pk f [ar x, .a (.c (.d (.p [.f fc fs cs])))] (xb (!b))
theorem not_all (pk : Pk) : NotT pk 128 (fun t => xd (tdD t)) ∧ NotT pk 133 (fun t => xd (gbD t)) ∧ NotT pk 136 (fun t => xd (fuD t)) ∧ NotT pk 167 (fun t => xd (paD t)) ∧ NotT pk 188 (fun t => xd (tyD t)) ∧ NotT pk 190 (fun t => xd (smD t)) ∧ NotT pk 207 (fun t => xd (exD t)) ∧ NotT pk 212 (fun c : List Sm => xr (c.map smD)) := by
  refine ⟨fun fc fs cs b x h => XQ.en Tryz.func128 Tryz.ntmps128 (fun w0 own H V v0 hf => ?_), fun fc fs cs b x h => XQ.en Tryz.func133 Tryz.ntmps133 (fun w0 own H V v0 hf => ?_), fun fc fs cs b x h => XQ.en Tryz.func136 Tryz.ntmps136 (fun w0 own H V v0 hf => ?_), fun fc fs cs b x h => XQ.en Tryz.func167 Tryz.ntmps167 (fun w0 own H V v0 hf => ?_), fun fc fs cs b x h => XQ.en Tryz.func188 Tryz.ntmps188 (fun w0 own H V v0 hf => ?_), fun fc fs cs b x h => XQ.en Tryz.func190 Tryz.ntmps190 (fun w0 own H V v0 hf => ?_), fun fc fs cs b x h => XQ.en Tryz.func207 Tryz.ntmps207 (fun w0 own H V v0 hf => ?_), fun fc fs cs b x h => XQ.en Tryz.func212 Tryz.ntmps212 (fun w0 own H V v0 hf => ?_)⟩
  all_goals
    refine G (T := T) 1000 rfl ?_
    refine Cv h rfl rfl rfl rfl rfl ⟨rfl, rfl⟩ ?_
    refine G (T := T) 1000 rfl ?_
    exact Fe (T := T) rfl rfl
theorem bF (pk : Pk) : IdxA pk (fun p l => xb (l.all p)) 78 80 82 130 169 171 192 195 := by
  obtain ⟨a1, a2, a3, a4, a5, a6, a7, a8⟩ := mf pk
  obtain ⟨b1, b2, b3, b4, b5, b6, b7, b8⟩ := not_all pk
  refine ⟨fun l p fc fs cs hcl => XQ.en Tryz.func78 Tryz.ntmps78 (fun w0 own H V v0 hf => ?_), fun l p fc fs cs hcl => XQ.en Tryz.func80 Tryz.ntmps80 (fun w0 own H V v0 hf => ?_), fun l p fc fs cs hcl => XQ.en Tryz.func82 Tryz.ntmps82 (fun w0 own H V v0 hf => ?_), fun l p fc fs cs hcl => XQ.en Tryz.func130 Tryz.ntmps130 (fun w0 own H V v0 hf => ?_), fun l p fc fs cs hcl => XQ.en Tryz.func169 Tryz.ntmps169 (fun w0 own H V v0 hf => ?_), fun l p fc fs cs hcl => XQ.en Tryz.func171 Tryz.ntmps171 (fun w0 own H V v0 hf => ?_), fun l p fc fs cs hcl => XQ.en Tryz.func192 Tryz.ntmps192 (fun w0 own H V v0 hf => ?_), fun l p fc fs cs hcl => XQ.en Tryz.func195 Tryz.ntmps195 (fun w0 own H V v0 hf => ?_)⟩
  all_goals
    refine G (T := T) 1000 rfl ?_
    refine (FzTo.bz 0 rfl).r ?_
    first
      | refine Cq (a1 l (fun x => !p x) _ [] [.p [.f fc fs cs]] (fun x hx => b1 fc fs cs _ x (hcl x hx))) rfl rfl rfl rfl rfl ⟨rfl, rfl⟩ ?_
      | refine Cq (a2 l (fun x => !p x) _ [] [.p [.f fc fs cs]] (fun x hx => b2 fc fs cs _ x (hcl x hx))) rfl rfl rfl rfl rfl ⟨rfl, rfl⟩ ?_
      | refine Cq (a3 l (fun x => !p x) _ [] [.p [.f fc fs cs]] (fun x hx => b3 fc fs cs _ x (hcl x hx))) rfl rfl rfl rfl rfl ⟨rfl, rfl⟩ ?_
      | refine Cq (a4 l (fun x => !p x) _ [] [.p [.f fc fs cs]] (fun x hx => b4 fc fs cs _ x (hcl x hx))) rfl rfl rfl rfl rfl ⟨rfl, rfl⟩ ?_
      | refine Cq (a5 l (fun x => !p x) _ [] [.p [.f fc fs cs]] (fun x hx => b5 fc fs cs _ x (hcl x hx))) rfl rfl rfl rfl rfl ⟨rfl, rfl⟩ ?_
      | refine Cq (a6 l (fun x => !p x) _ [] [.p [.f fc fs cs]] (fun x hx => b6 fc fs cs _ x (hcl x hx))) rfl rfl rfl rfl rfl ⟨rfl, rfl⟩ ?_
      | refine Cq (a7 l (fun x => !p x) _ [] [.p [.f fc fs cs]] (fun x hx => b7 fc fs cs _ x (hcl x hx))) rfl rfl rfl rfl rfl ⟨rfl, rfl⟩ ?_
      | refine Cq (a8 l (fun x => !p x) _ [] [.p [.f fc fs cs]] (fun x hx => b8 fc fs cs _ x (hcl x hx))) rfl rfl rfl rfl rfl ⟨rfl, rfl⟩ ?_
    refine G (T := T) 1000 rfl ?_
    exact Fe (T := T) rfl (by show xb (!_) = xb _; rw [not_any])
section
open Go Go.RowKit Go.Proofs K
abbrev strR (l : List ByteArray) : List (List D) := l.map fun s => [.c (.string s)]
theorem ny {l : List ByteArray} {j : Nat} {s : ByteArray} (h : l[j]? = some s) : (strR l)[j]? = some [.c (.string s)] := by rw [List.getElem?_map, h]; rfl
variable {pk : Pk}
theorem jD (n : Int) : XQ Tryz.prog pk 163 [.a (.c (.d (.c (.int .u8 n))))] (xb (fS n)) := by
  refine XQ.en Tryz.func163 Tryz.ntmps163 (fun w0 own H V v0 hf => ?_)
  refine Gs (T := T) 1000 rfl ?_
  exact Fe (T := T) rfl rfl
theorem syn_digit (n : Int) : XQ Tryz.prog pk 185 [.a (.c (.d (.c (.int .u8 n))))] (xb (jz n)) := by
  refine XQ.en Tryz.func185 Tryz.ntmps185 (fun w0 own H V v0 hf => ?_)
  refine Gs (T := T) 1000 rfl ?_
  exact Fe (T := T) rfl rfl
theorem syn_part (n : Int) : XQ Tryz.prog pk 165 [.a (.c (.d (.c (.int .u8 n))))] (xb (im n)) := by
  refine XQ.en Tryz.func165 Tryz.ntmps165 (fun w0 own H V v0 hf => ?_)
  refine Gs (T := T) 1000 rfl ?_
  refine Cq (jD n) rfl rfl rfl rfl rfl ⟨rfl, rfl⟩ ?_
  refine Gs (T := T) 1000 rfl ?_
  refine Cs (fun _ => syn_digit n) rfl rfl rfl rfl rfl rfl rfl rfl ?_
  refine Gs (T := T) 1000 rfl ?_
  exact Fe (T := T) rfl rfl
abbrev xu8 (n : Int) : XV := .a (.c (.d (.c (.int .u8 n))))
theorem sp_at {s : ByteArray} {k : Nat} (h : k < s.size) : s.data.toList.drop k = s.data.getD ((k : Nat) : Int).toNat 0 :: s.data.toList.drop (k + 1) := by
  have h' : k < s.data.toList.length := by simpa using h
  rw [List.drop_eq_getElem_cons h']
  congr 1
  rw [Array.getD, dif_pos (by simpa using h')]
  rfl
theorem syn_span {p : UInt8 → Bool} {fc : FuncId} {s : ByteArray} (hs : s.size ≤ 9223372036854775806) (hcl : ∀ b : UInt8, XQ Tryz.prog pk fc [xu8 (b.toNat : Int)] (xb (p b))) : XQ Tryz.prog pk 164 [xs s, xf fc [] []] (xi (eA p s.data.toList 0 : Nat)) := by
  refine XQ.en Tryz.func164 Tryz.ntmps164 (fun w0 own H V v0 hf => ?_)
  refine G (T := T) 1000 rfl ?_
  refine Lq [0, 1, 7] (fun q r => (4, xi 0) :: (8, xi (q : Nat)) :: r) (fun q => []) 0 (fun k => k ≤ s.size ∧ eA p s.data.toList 0 = eA p (s.data.toList.drop k) k) (fun q => s.size - q) 0 rfl ⟨Nat.zero_le _, rfl⟩ ?_
  rintro k ⟨hk, hI⟩
  refine G (T := T) 1000 rfl ?_
  refine If rfl (fun h => ?_) (fun h => ?_)
  · have hlt : k < s.size := by have := of_decide_eq_true h; omega
    rw [sp_at hlt] at hI; simp only [eA] at hI
    refine G (T := T) 1000 rfl ?_
    refine Cq (hcl _) rfl rfl rfl rfl rfl ⟨rfl, rfl⟩ ?_
    refine G (T := T) 1000 rfl ?_
    refine If rfl (fun h => ?_) (fun h => ?_)
    · refine G (T := T) 1000 rfl ?_
      exact Fe (T := T) rfl (by rw [hI, if_neg (by simpa using h)]; rfl)
    · refine G (T := T) 1000 rfl ?_
      exact Nq (k + 1) ⟨hlt, by rw [hI, if_pos (by simpa using h)]⟩ (by show _ - (k + 1) < _ - k; omega)
  · have hlt : s.size ≤ k := by have := of_decide_eq_false h; omega
    refine G (T := T) 1000 rfl ?_
    exact Fe (T := T) rfl (by rw [hI, List.drop_of_length_le (by simpa using hlt)]; show xi (s.size : Nat) = xi (k : Nat); rw [show s.size = k by omega])
theorem cmp_isNaN (s : ByteArray) : XQ Tryz.prog pk 203 [xs s] (xb false) := by
  refine XQ.en Tryz.func203 Tryz.ntmps203 (fun w0 own H V v0 hf => ?_)
  refine G (T := T) 1000 rfl ?_
  exact Fe (T := T) rfl (by show xb (decide (s ≠ s)) = _; simp)
theorem fV (s : ByteArray) : XQ Tryz.prog pk 184 [xs s] (xb false) := by
  refine XQ.en Tryz.func184 Tryz.ntmps184 (fun w0 own H V v0 hf => ?_)
  refine G (T := T) 1000 rfl ?_
  exact Fe (T := T) rfl (by show xb (decide (s ≠ s)) = _; simp)
theorem cmp_Less (s t : ByteArray) : XQ Tryz.prog pk 183 [xs s, xs t] (xb (ef s t)) := by
  refine XQ.en Tryz.func183 Tryz.ntmps183 (fun w0 own H V v0 hf => ?_)
  refine G (T := T) 1000 rfl ?_
  refine Cq (cmp_isNaN s) rfl rfl rfl rfl rfl ⟨rfl, rfl⟩ ?_
  refine G (T := T) 1000 rfl ?_
  exact Fe (T := T) rfl rfl
theorem mh : XQ Tryz.prog pk 162 [] (xr (strR kws)) := by
  refine XQ.en Tryz.func162 Tryz.ntmps162 (fun w0 own H V v0 hf => ?_)
  refine G (T := T) 1000 rfl ?_
  exact Fe (T := T) rfl rfl
theorem ko {l : List ByteArray} {s : ByteArray} {k : Nat} (hk : k ≤ l.length) (hlen : l.length ≤ 1000000) (h1 : ∀ i x, l[i]? = some x → i < k → ef x s = true) (h2 : ∀ i x, l[i]? = some x → k ≤ i → ef x s = false) :
    XQ Tryz.prog pk 161 [xr (strR l), xs s] (.t [.c (.d (.c (.int .i64 (k : Nat)))), .c (.d (.c (.bool (decide (l[k]? = some s)))))]) := by
  refine XQ.en Tryz.func161 Tryz.ntmps161 (fun w0 own H V v0 hf => ?_)
  have hll : (strR l).length = l.length := List.length_map ..
  refine G (T := T) 1000 rfl ?_
  refine Lq [0, 1, 6] (fun (q : Nat × Nat) r => (7, xi (q.1 : Nat)) :: (8, xi (q.2 : Nat)) :: r) (fun q => []) 0 (fun q => q.1 ≤ k ∧ k ≤ q.2 ∧ q.2 ≤ l.length) (fun q => q.2 - q.1) (0, (strR l).length) rfl ⟨Nat.zero_le _, by rw [hll]; exact hk, by rw [hll]; exact Nat.le_refl _⟩ ?_
  rintro ⟨i, j⟩ ⟨hi, hj, hjl⟩; dsimp only at *
  refine G (T := T) 1000 rfl ?_
  refine If rfl (fun h => ?_) (fun h => ?_)
  · have hlt : i < j := by have := of_decide_eq_true h; omega
    obtain ⟨m, hm⟩ : ∃ m, m = (i + j) / 2 := ⟨_, rfl⟩
    obtain ⟨y, hy⟩ := al (l := l) (j := m) (by omega)
    have hw : ((IntKind.u64.wrap ((i : Int) + (j : Int))).fdiv (2 ^ (min (1 : Int).toNat IntKind.u64.bits)) : Int) = (m : Nat) := by
      rw [show IntKind.u64.wrap ((i : Int) + (j : Int)) = ((i + j : Nat) : Int) by rw [IntWalk.u64_in _ ⟨by omega, by omega⟩]; omega, show (2 : Int) ^ (min (1 : Int).toNat IntKind.u64.bits) = 2 from rfl, Int.fdiv_eq_ediv_of_nonneg _ (by omega)]; omega
    refine G (T := T) 22 rfl ?_ ⟨by rw [hw]; exact ⟨by omega, by omega⟩, by omega, ⟨by omega, by omega⟩, trivial⟩
    rw [hw]
    refine G (T := T) 1000 rfl ?_
    refine Ix (T := T) m (ny hy) rfl rfl rfl rfl ⟨rfl, rfl⟩ rfl rfl ?_
    refine G (T := T) 1000 rfl ?_
    refine Cq (cmp_Less y s) rfl rfl rfl rfl rfl ⟨rfl, rfl⟩ ?_
    refine G (T := T) 1000 rfl ?_
    refine If rfl (fun h => ?_) (fun h => ?_)
    · have hmk : m < k := by
        by_cases hq : m < k
        · exact hq
        · have := h2 m y hy (by omega); rw [this] at h; cases h
      refine G (T := T) 1000 rfl ?_
      exact Nq (m + 1, j) ⟨hmk, hj, hjl⟩ (by show j - (m + 1) < j - i; omega)
    · have hmk : k ≤ m := by
        by_cases hq : m < k
        · have := h1 m y hy hq; rw [this] at h; cases h
        · omega
      refine G (T := T) 1000 rfl ?_
      exact Nq (i, m) ⟨hi, hmk, by dsimp only; omega⟩ (by show m - i < j - i; omega)
  · have hij := of_decide_eq_false h
    obtain rfl : i = k := by omega
    refine Gs (T := T) 1000 rfl ?_
    have hx : ∀ c : Bool, c = decide ((i : Int) < (strR l).length) → c = true → (strR l)[i]? = some [.c (.string (l.getD i eS))] := by
      rintro _ rfl hc
      have := of_decide_eq_true hc; rw [hll] at this
      exact ny (by rw [List.getD_eq_getElem?_getD]; obtain ⟨y, hy⟩ := al (l := l) (j := i) (by omega); rw [hy]; rfl)
    refine Is (T := T) i [.c (.string (l.getD i eS))] (fun h => ⟨hx _ rfl h, rfl⟩) rfl rfl rfl rfl rfl rfl rfl rfl ?_
    refine Gs (T := T) 1000 rfl ?_
    refine Is (T := T) i [.c (.string (l.getD i eS))] (fun h => ⟨hx _ rfl (Bool.and_eq_true_iff.1 h).1, rfl⟩) rfl rfl rfl rfl rfl rfl rfl rfl ?_
    refine Gs (T := T) 1000 rfl ?_
    refine Cs (fun _ => fV _) rfl rfl rfl rfl rfl rfl rfl rfl ?_
    refine Gs (T := T) 1000 rfl ?_
    refine Cs (fun _ => fV _) rfl rfl rfl rfl rfl rfl rfl rfl ?_
    refine Gs (T := T) 1000 rfl ?_
    refine Fe (T := T) rfl ?_
    show XV.t [_, .c (.d (.c (.bool (_ && (decide (l.getD i eS = s) || _)))))] = _
    congr 5
    by_cases hq : i < l.length
    · obtain ⟨y, hy⟩ := al hq
      simp [hy, hq]
    · simp [List.getElem?_eq_none (Nat.le_of_not_lt hq), hq]
theorem jE (s : ByteArray) (h : s ≠ eS) : firstB s = ((s.data.getD (0 : Int).toNat 0).toNat : Int) := by
  obtain ⟨b, h1, h2⟩ := first_at (s := s) h
  rw [h2]
  obtain ⟨⟨l⟩⟩ := s
  cases l with
  | nil => exact absurd rfl h
  | cons c r => rw [nt] at h1; cases h1; rfl
theorem aI {s : ByteArray} (hs : s.size ≤ 9223372036854775806) : XQ Tryz.prog pk 129 [xs s] (xb (ae s)) := by
  obtain ⟨k, hk, hk1, hk2⟩ := fT s jB
  have hfm := found_mem jB hk1 hk2
  have h0 : ¬ s = ⟨#[]⟩ → 0 < s.size := fun h => Nat.pos_of_ne_zero fun e => h (by obtain ⟨a⟩ := s; exact congrArg ByteArray.mk (Array.eq_empty_of_size_eq_zero e))
  refine XQ.en Tryz.func129 Tryz.ntmps129 (fun w0 own H V v0 hf => ?_)
  refine Gs (T := T) 1000 rfl ?_
  refine Cq mh rfl rfl rfl rfl rfl ⟨rfl, rfl⟩ ?_
  refine Gs (T := T) 1000 rfl ?_
  refine Cq (ko hk (by decide) hk1 hk2) rfl rfl rfl rfl rfl ⟨rfl, rfl⟩ ?_
  refine Gs (T := T) 1000 rfl ?_
  refine Cs (fun _ => jD _) rfl rfl rfl rfl rfl rfl rfl rfl ?_
  refine Gs (T := T) 1000 rfl ?_
  refine Cs (fun _ => syn_span hs (fun b => syn_part _)) rfl rfl rfl rfl rfl rfl rfl rfl ?_
  refine Gs (T := T) 1000 rfl ?_
  refine Fe (T := T) rfl ?_
  show xb (_ && decide ((s.size : Int) ≤ 24) && !decide (kws[k]? = some s) && _ && decide (((eA (fun b => im (b.toNat : Int)) s.data.toList 0 : Nat) : Int) = (s.size : Int))) = xb _
  rw [hfm, ae]
  by_cases hq : s = eS
  · simp [hq, eS]
  · rw [jE s hq, show decide ((s.size : Int) ≤ 24) = decide (s.size ≤ 24) from decide_eq_decide.2 (by omega), show ∀ a b : Nat, decide ((a : Int) = (b : Int)) = decide (a = b) from fun a b => decide_eq_decide.2 (by omega)]
end
end Go.Proofs.YtlmahofogapkgaaGreatDoor.X
namespace Go.Proofs.YtlmahofogapkgaaGreatDoor.K
open Go Go.RowKit Go.Proofs
abbrev w_u16 : ByteArray := ⟨#[117, 49, 54]⟩
abbrev w_u8 : ByteArray := ⟨#[117, 56]⟩
abbrev w_s16 : ByteArray := ⟨#[115, 49, 54]⟩
abbrev jF : ByteArray := ⟨#[116, 121, 112, 101]⟩
abbrev fW : ByteArray := ⟨#[97, 114, 114, 97, 121]⟩
abbrev w_ptr : ByteArray := ⟨#[112, 116, 114]⟩
abbrev w_void : ByteArray := ⟨#[118, 111, 105, 100]⟩
abbrev w_num : ByteArray := ⟨#[110, 117, 109]⟩
abbrev w_id : ByteArray := ⟨#[105, 100]⟩
abbrev eE : ByteArray := ⟨#[115, 101, 108, 101, 99, 116]⟩
abbrev fX : ByteArray := ⟨#[105, 110, 100, 101, 120]⟩
abbrev fY : ByteArray := ⟨#[100, 101, 114, 101, 102]⟩
abbrev jG : ByteArray := ⟨#[97, 100, 100, 114]⟩
abbrev jH : ByteArray := ⟨#[109, 101, 109, 56]⟩
abbrev fZ : ByteArray := ⟨#[109, 101, 109, 49, 54]⟩
abbrev jI : ByteArray := ⟨#[114, 111, 109, 56]⟩
abbrev f9 : ByteArray := ⟨#[114, 111, 109, 49, 54]⟩
abbrev w_in : ByteArray := ⟨#[105, 110]⟩
abbrev ga : ByteArray := ⟨#[117, 110, 97, 114, 121]⟩
abbrev eF : ByteArray := ⟨#[98, 105, 110, 97, 114, 121]⟩
abbrev jJ : ByteArray := ⟨#[99, 97, 108, 108]⟩
abbrev jK : ByteArray := ⟨#[99, 97, 115, 116]⟩
abbrev w_let : ByteArray := ⟨#[108, 101, 116]⟩
abbrev gb : ByteArray := ⟨#[97, 115, 115, 105, 103, 110]⟩
abbrev w_if : ByteArray := ⟨#[105, 102]⟩
abbrev mi : ByteArray := ⟨#[119, 104, 105, 108, 101]⟩
abbrev w_loop : ByteArray := ⟨#[108, 111, 111, 112]⟩
abbrev mj : ByteArray := ⟨#[98, 108, 111, 99, 107]⟩
abbrev ml : ByteArray := ⟨#[98, 114, 101, 97, 107]⟩
abbrev fB : ByteArray := ⟨#[99, 111, 110, 116, 105, 110, 117, 101]⟩
abbrev eG : ByteArray := ⟨#[115, 119, 105, 116, 99, 104]⟩
abbrev gc : ByteArray := ⟨#[114, 101, 116, 117, 114, 110]⟩
abbrev kG : ByteArray := ⟨#[111, 117, 116]⟩
abbrev w_poll : ByteArray := ⟨#[112, 111, 108, 108]⟩
abbrev w_halt : ByteArray := ⟨#[104, 97, 108, 116]⟩
abbrev w_do : ByteArray := ⟨#[100, 111]⟩
abbrev gT : ByteArray := ⟨#[116, 104, 101, 110]⟩
abbrev gV : ByteArray := ⟨#[101, 108, 115, 101]⟩
abbrev dK : ByteArray := ⟨#[98, 111, 100, 121]⟩
abbrev mr : ByteArray := ⟨#[99, 97, 115, 101]⟩
abbrev cz : ByteArray := ⟨#[100, 101, 102, 97, 117, 108, 116]⟩
abbrev cF : ByteArray := ⟨#[112, 97, 114, 97, 109]⟩
abbrev dh : ByteArray := ⟨#[112, 97, 114, 97, 109, 115]⟩
abbrev fa : ByteArray := ⟨#[102, 105, 101, 108, 100]⟩
abbrev di : ByteArray := ⟨#[114, 101, 115, 117, 108, 116]⟩
abbrev ge : ByteArray := ⟨#[115, 116, 114, 117, 99, 116]⟩
abbrev iM : ByteArray := ⟨#[117, 110, 105, 111, 110]⟩
abbrev w_at : ByteArray := ⟨#[97, 116]⟩
abbrev w_var : ByteArray := ⟨#[118, 97, 114]⟩
abbrev ms : ByteArray := ⟨#[99, 111, 110, 115, 116]⟩
abbrev dX : ByteArray := ⟨#[98, 97, 110, 107]⟩
abbrev iN : ByteArray := ⟨#[98, 121, 116, 101, 115]⟩
abbrev gf : ByteArray := ⟨#[101, 120, 116, 101, 114, 110]⟩
abbrev w_fn : ByteArray := ⟨#[102, 110]⟩
abbrev dE : ByteArray := ⟨#[116, 121, 112, 101, 115]⟩
abbrev cW : ByteArray := ⟨#[103, 108, 111, 98, 97, 108, 115]⟩
abbrev gh : ByteArray := ⟨#[102, 117, 110, 99, 115]⟩
abbrev gW : ByteArray := ⟨#[112, 114, 111, 103, 114, 97, 109]⟩
def au (w p : ByteArray) : ByteArray := if p = ⟨#[]⟩ then w else w ++ (⟨#[32]⟩ ++ p)
def dY (n : Nat) : List UInt8 := if n < 10 then [UInt8.ofNat (48 + n)] else dY (n / 10) ++ [UInt8.ofNat (48 + n % 10)]
termination_by n
decreasing_by omega
def bo (n : Nat) : ByteArray := bb (dY n)
def dO (n : Nat) : UInt8 := if n < 10 then UInt8.ofNat (48 + n) else UInt8.ofNat (87 + n)
def gX : List UInt8 → List UInt8
  | [] => []
  | b :: r => dO (b.toNat / 16) :: dO (b.toNat % 16) :: gX r
def hexB (s : ByteArray) : ByteArray := bb (gX s.data.toList)
def tyL (k : Int) (nm : ByteArray) (n : Int) : ByteArray :=
  if k = 1 then w_u16
  else if k = 2 then w_u8
  else if k = 3 then w_s16
  else if k = 4 then au jF nm
  else if k = 5 then au fW (bo n.toNat)
  else if k = 6 then au w_ptr (bo n.toNat)
  else if k = 7 then w_void
  else eS
mutual
def tTy : Ty4 → Tr
  | .mk k nm n ts => .node (tyL k nm n) (tTys ts)
def tTys : List Ty4 → List Tr
  | [] => []
  | t :: r => tTy t :: tTys r
end
def exW (k : Int) : ByteArray :=
  if k = 1 then w_num
  else if k = 2 then w_id
  else if k = 3 then eE
  else if k = 4 then fX
  else if k = 5 then fY
  else if k = 6 then jG
  else if k = 7 then jH
  else if k = 8 then fZ
  else if k = 9 then jI
  else if k = 10 then f9
  else if k = 11 then w_in
  else if k = 12 then ga
  else if k = 13 then eF
  else if k = 14 then jJ
  else if k = 15 then jK
  else eS
def dF (k : Int) : Bool := decide (k = 1 ∨ k = 9 ∨ k = 10 ∨ k = 11)
mutual
def tEx : Ex → Tr
  | .mk k nm n ks => .node (au (exW k) (if dF k then bo n.toNat else nm)) (tExs ks)
def tExs : List Ex → List Tr
  | [] => []
  | t :: r => tEx t :: tExs r
end
def smW (k : Int) : ByteArray :=
  if k = 1 then w_let
  else if k = 2 then gb
  else if k = 3 then w_if
  else if k = 4 then mi
  else if k = 5 then w_loop
  else if k = 6 then mj
  else if k = 7 then ml
  else if k = 8 then fB
  else if k = 9 then eG
  else if k = 10 then gc
  else if k = 11 then kG
  else if k = 12 then w_poll
  else if k = 13 then w_halt
  else if k = 14 then w_do
  else eS
def smL (k : Int) (nm : ByteArray) (n : Int) : ByteArray := au (smW k) (if k = 11 then bo n.toNat else nm)
def smT (k : Int) (b el cs : List Tr) : List Tr :=
  if k = 3 then [.node gT b, .node gV el]
  else if k = 4 then [.node dK b]
  else if k = 5 ∨ k = 6 then b
  else if k = 9 then cs ++ [.node cz el]
  else []
mutual
def tSm : Sm → Tr
  | .mk k nm t n xs b el cs => .node (smL k nm n) ((if k = 1 then [tTy t] else []) ++ (tExs xs ++ smT k (tSms b) (tSms el) (tCs cs)))
def tSms : List Sm → List Tr
  | [] => []
  | t :: r => tSm t :: tSms r
def tCs : List (List Sm) → List Tr
  | [] => []
  | c :: r => .node mr (tSms c) :: tCs r
end
theorem nz : ∀ l, tTys l = l.map tTy
  | [] => rfl
  | t :: r => by simp only [tTys, List.map_cons, nz r]
theorem gj : ∀ l, tExs l = l.map tEx
  | [] => rfl
  | t :: r => by simp only [tExs, List.map_cons, gj r]
theorem dP : ∀ l, tSms l = l.map tSm
  | [] => rfl
  | t :: r => by simp only [tSms, List.map_cons, dP r]
theorem tCs_map : ∀ l, tCs l = l.map fun c => Tr.node mr (tSms c)
  | [] => rfl
  | t :: r => by simp only [tCs, List.map_cons, tCs_map r]
def eH (w : ByteArray) (p : Par) : Tr := .node (au w p.nm) [tTy p.ty]
def tTd (t : Td) : Tr := .node (au (if t.un then iM else ge) t.nm) (t.fs.map (eH fa))
def iD (w : ByteArray) (n : Int) : Tr := .node (au w (bo n.toNat)) []
def tGb (g : Gb) : Tr :=
  if g.bank < 0 then .node (au w_var g.nm) [tTy g.ty, iD w_at g.addr]
  else .node (au ms g.nm) [tTy g.ty, iD dX g.bank, iD w_at g.addr, .node (au iN (hexB g.bytes)) []]
def tFu (f : Fu) : Tr :=
  if f.fl then .node (au gf f.nm) [.node dh (f.ps.map (eH cF)), .node di [tTy f.res], iD dX f.x, iD w_at f.y]
  else .node (au w_fn f.nm) [.node dh (f.ps.map (eH cF)), .node di [tTy f.res], .node dK (tSms f.body)]
def tPg (p : Pg) : Tr := .node gW [.node dE (p.ts.map tTd), .node cW (p.gs.map tGb), .node gh (p.fs.map tFu)]
def dj (p : Pg) : Tr := if rPg p then tPg p else Tr.zero
theorem bV {n : Nat} (h : n < 10) : dY n = [UInt8.ofNat (48 + n)] := by rw [dY, if_pos h]
theorem dQ {n : Nat} (h : ¬ n < 10) : dY n = dY (n / 10) ++ [UInt8.ofNat (48 + n % 10)] := by rw [dY, if_neg h]
theorem decN_ne (n : Nat) : dY n ≠ [] := by
  by_cases h : n < 10
  · rw [bV h]; simp
  · rw [dQ h]; simp
theorem jL : ∀ (m n : Nat), n < 10 ^ (m + 1) → (dY n).length ≤ m + 1
  | 0, n, h => by rw [bV (by simpa using h)]; simp
  | m + 1, n, h => by
    by_cases h9 : n < 10
    · rw [bV h9]; simp
    · rw [dQ h9, List.length_append]
      have := jL m (n / 10) (by rw [Nat.pow_succ] at h; omega)
      simp; omega
def cutN : List UInt8 → Nat
  | [] => 0
  | b :: r => if b = 32 then 0 else cutN r + 1
def eg (s : ByteArray) : ByteArray := bb (s.data.toList.take (cutN s.data.toList))
def jM (s : ByteArray) : ByteArray := bb (s.data.toList.drop (cutN s.data.toList + 1))
theorem mv : ∀ (l r : List UInt8), (∀ b ∈ l, b ≠ 32) → cutN (l ++ r) = l.length + cutN r
  | [], r, _ => by simp
  | b :: l, r, h => by
    have h1 : b ≠ 32 := h b (by simp)
    simp only [List.cons_append, cutN, if_neg h1, mv l r (fun x hx => h x (by simp [hx])), List.length_cons]; omega
def noSp (w : ByteArray) : Bool := w.data.toList.all fun b => decide (b ≠ 32)
theorem nA {w : ByteArray} (h : noSp w = true) : ∀ b ∈ w.data.toList, b ≠ 32 := fun b hb => by
  have := List.all_eq_true.1 h b hb
  simpa using this
theorem mw (s : ByteArray) : bb s.data.toList = s := by unfold bb; simp
theorem dk (a b : ByteArray) : (a ++ b).data.toList = a.data.toList ++ b.data.toList := by simp
theorem kH {α : Type} (b : α) (r : List α) : ∀ l : List α, (l ++ b :: r).drop (l.length + 1) = r
  | [] => rfl
  | _ :: l => by simpa using kH b r l
theorem nB {w p : ByteArray} (h : noSp w = true) : cutN (w ++ ((⟨#[32]⟩ : ByteArray) ++ p)).data.toList = w.data.toList.length := by
  rw [dk, mv _ _ (nA h), dk]
  simp [cutN]
theorem nC {w : ByteArray} (h : noSp w = true) : cutN w.data.toList = w.data.toList.length := by
  have e := mv w.data.toList [] (nA h)
  rw [List.append_nil] at e
  rw [e]; rfl
theorem gY {w p : ByteArray} (h : noSp w = true) : eg (au w p) = w := by
  unfold au eg
  split
  · rw [nC h, List.take_length]; exact mw w
  · rw [nB h, dk, List.take_left]; exact mw w
theorem gZ {w p : ByteArray} (h : noSp w = true) : jM (au w p) = p := by
  unfold au jM
  split
  · rename_i hp
    rw [nC h, List.drop_of_length_le (Nat.le_succ _), hp]; rfl
  · rw [nB h, dk, dk]
    show bb ((w.data.toList ++ 32 :: p.data.toList).drop _) = p
    rw [kH]; exact mw p
def digV : List UInt8 → Nat → Option Nat
  | [], acc => some acc
  | b :: r, acc => if 48 ≤ b.toNat ∧ b.toNat ≤ 57 then digV r (acc * 10 + (b.toNat - 48)) else none
def natV (l : List UInt8) : Option Nat := if l = [] then none else digV l 0
def sgnV : List UInt8 → Option Int
  | 45 :: r => (natV r).map fun n => -(n : Int)
  | 43 :: r => (natV r).map fun n => (n : Int)
  | l => (natV l).map fun n => (n : Int)
def atoiV (s : ByteArray) : Option Int := (sgnV s.data.toList).bind fun n => if -9223372036854775808 ≤ n ∧ n ≤ 9223372036854775807 then some n else none
theorem kI : ∀ (l : List UInt8) (acc : Nat) (b : UInt8), 48 ≤ b.toNat → b.toNat ≤ 57 → digV (l ++ [b]) acc = (digV l acc).map fun n => n * 10 + (b.toNat - 48)
  | [], acc, b, h1, h2 => by simp [digV, h1, h2]
  | c :: r, acc, b, h1, h2 => by
    simp only [List.cons_append, digV]
    split
    · exact kI r _ b h1 h2
    · rfl
theorem iO {d : Nat} (h : d < 10) : (UInt8.ofNat (48 + d)).toNat = 48 + d := by simp; omega
theorem digV_dec : ∀ n : Nat, digV (dY n) 0 = some n := fun n => by
  induction n using Nat.strongRecOn with
  | _ n ih =>
    by_cases h : n < 10
    · rw [bV h]
      have := iO h
      simp only [digV, this]
      rw [if_pos (by omega)]; simp
    · rw [dQ h]
      have := iO (d := n % 10) (by omega)
      rw [kI _ _ _ (by omega) (by omega), ih (n / 10) (by omega), this]
      simp; omega
theorem oq : ∀ n : Nat, ∀ b ∈ dY n, 48 ≤ b.toNat ∧ b.toNat ≤ 57 := fun n => by
  induction n using Nat.strongRecOn with
  | _ n ih =>
    by_cases h : n < 10
    · rw [bV h]
      have := iO h
      simp only [List.mem_singleton]; rintro b rfl; omega
    · rw [dQ h]
      have := iO (d := n % 10) (by omega)
      simp only [List.mem_append, List.mem_singleton]
      rintro b (hb | rfl)
      · exact ih (n / 10) (by omega) b hb
      · omega
theorem sgnV_dec (n : Nat) : sgnV (dY n) = some (n : Int) := by
  have h := oq n
  have hv : natV (dY n) = some n := by rw [natV, if_neg (decN_ne n), digV_dec]
  unfold sgnV
  split
  · rename_i r e
    have := h 45 (by rw [e]; simp)
    simp at this
  · rename_i r e
    have := h 43 (by rw [e]; simp)
    simp at this
  · rw [hv]; rfl
theorem nD {n : Int} (h0 : 0 ≤ n) (h1 : n ≤ 9223372036854775807) : atoiV (bo n.toNat) = some n := by
  unfold atoiV bo bb
  simp only
  rw [sgnV_dec]
  simp only [Option.bind_some]
  rw [if_pos (by omega)]
  congr 1; omega
def kidE {α : Type} (ks : List Tr) (i : Nat) (f : Tr → Option α) : Option α := (ks[i]?).bind f
def allO {α : Type} : List (Option α) → Option (List α)
  | [] => some []
  | x :: r => x.bind fun a => (allO r).map fun l => a :: l
def lstK {α : Type} (ks : List Tr) (r : List (Option α)) (i : Nat) (w : ByteArray) : Option α := (ks[i]?).bind fun t => if t.lab = w then (r[i]?).bind id else none
def fTy : Tr → Option Ty4
  | .node L ks =>
    if eg L = w_u16 then some (.mk 1 eS 0 [])
    else if eg L = w_u8 then some (.mk 2 eS 0 [])
    else if eg L = w_s16 then some (.mk 3 eS 0 [])
    else if eg L = w_void then some (.mk 7 eS 0 [])
    else if eg L = jF then some (.mk 4 (jM L) 0 [])
    else if eg L = fW ∨ eg L = w_ptr then (atoiV (jM L)).bind fun n => match ks with
      | [] => none
      | k :: _ => (fTy k).map fun t => .mk (if eg L = fW then 5 else 6) eS n [t]
    else none
def exKs : List (Int × ByteArray) := [(1, w_num), (2, w_id), (3, eE), (4, fX), (5, fY), (6, jG), (7, jH), (8, fZ), (9, jI), (10, f9), (11, w_in), (12, ga), (13, eF), (14, jJ), (15, jK)]
def lookW : List (Int × ByteArray) → ByteArray → Option Int
  | [], _ => none
  | (k, w) :: r, s => if w = s then some k else lookW r s
mutual
def fEx : Tr → Option Ex
  | .node L ks => (lookW exKs (eg L)).bind fun k => (fExs ks).bind fun xs =>
    if dF k then (atoiV (jM L)).map fun n => .mk k eS (IntKind.u16.wrap n) xs else some (.mk k (jM L) 0 xs)
def fExs : List Tr → Option (List Ex)
  | [] => some []
  | t :: r => (fEx t).bind fun x => (fExs r).map fun l => x :: l
end
def smKs : List (Int × ByteArray) := [(1, w_let), (2, gb), (3, w_if), (4, mi), (5, w_loop), (6, mj), (7, ml), (8, fB), (9, eG), (10, gc), (11, kG), (12, w_poll), (13, w_halt), (14, w_do)]
def fSmK (k : Int) (p : ByteArray) (ks : List Tr) (ss : Option (List Sm)) (cs : List (Option (List Sm))) : Option Sm :=
  if k = 1 then (kidE ks 0 fTy).bind fun t => (kidE ks 1 fEx).map fun x => .mk 1 p t 0 [x] [] [] []
  else if k = 3 then (kidE ks 0 fEx).bind fun x => (lstK ks cs 1 gT).bind fun b => (lstK ks cs 2 gV).map fun e => .mk 3 eS ty4z 0 [x] b e []
  else if k = 4 then (kidE ks 0 fEx).bind fun x => (lstK ks cs 1 dK).map fun b => .mk 4 p ty4z 0 [x] b [] []
  else if k = 5 ∨ k = 6 then ss.map fun b => .mk k p ty4z 0 [] b [] []
  else if k = 7 ∨ k = 8 then some (.mk k p ty4z 0 [] [] [] [])
  else if k = 9 then if ks.length < 2 then none else (kidE ks 0 fEx).bind fun x => (allO ((cs.take (ks.length - 1)).drop 1)).bind fun c => (lstK ks cs (ks.length - 1) cz).map fun e => .mk 9 eS ty4z 0 [x] [] e c
  else if k = 12 ∨ k = 13 then some (.mk k eS ty4z 0 [] [] [] [])
  else (fExs ks).bind fun xs => if k = 11 then (atoiV p).map fun n => .mk 11 eS ty4z (IntKind.u16.wrap n) xs [] [] [] else some (.mk k eS ty4z 0 xs [] [] [])
mutual
def fSm : Tr → Option Sm
  | .node L ks => (lookW smKs (eg L)).bind fun k => fSmK k (jM L) ks (fSms ks) (fKs ks)
def fSms : List Tr → Option (List Sm)
  | [] => some []
  | t :: r => (fSm t).bind fun x => (fSms r).map fun l => x :: l
def fKs : List Tr → List (Option (List Sm))
  | [] => []
  | .node _ ks :: r => fSms ks :: fKs r
end
mutual
theorem fTy_ty : ∀ t : Ty4, (rTy t = true ∨ az t 7 = true) → fTy (tTy t) = some t
  | .mk k nm n ts, h => by
    rcases h with h | h
    · simp only [rTy] at h
      split at h
      · rename_i hk; subst hk
        simp only [Bool.and_eq_true, decide_eq_true_eq] at h
        obtain ⟨⟨h1, rfl⟩, h3⟩ := h
        rw [List.length_eq_zero_iff] at h3; subst h3
        show fTy (.node (au jF nm) []) = _
        simp only [fTy]
        rw [gY (by decide), gZ (by decide), if_neg (by decide), if_neg (by decide), if_neg (by decide), if_neg (by decide), if_pos rfl]
      · split at h
        · rename_i h4 hk
          simp only [Bool.and_eq_true, decide_eq_true_eq] at h
          obtain ⟨⟨rfl, rfl⟩, h3⟩ := h
          rw [List.length_eq_zero_iff] at h3; subst h3
          rcases hk with rfl | rfl | rfl <;> (simp only [tTy, tyL, fTy]; rfl)
        · split at h
          · rename_i h4 h123 hk
            simp only [Bool.and_eq_true, decide_eq_true_eq] at h
            obtain ⟨⟨⟨⟨rfl, h0⟩, h1⟩, h3⟩, h5⟩ := h
            match ts, h3, h5 with
            | [t], _, h5 =>
              simp only [rTys, Bool.and_true] at h5
              have ih := fTy_ty t (.inl h5)
              have hn : n ≤ 65535 := by split at h1 <;> omega
              rcases hk with rfl | rfl
              · show fTy (.node (au fW (bo n.toNat)) [tTy t]) = _
                simp only [fTy]
                rw [gY (by decide), gZ (by decide), nD h0 (by omega), if_neg (by decide), if_neg (by decide), if_neg (by decide), if_neg (by decide), if_neg (by decide), if_pos (by decide)]
                simp only [Option.bind_some, ih, Option.map_some]; rfl
              · show fTy (.node (au w_ptr (bo n.toNat)) [tTy t]) = _
                simp only [fTy]
                rw [gY (by decide), gZ (by decide), nD h0 (by omega), if_neg (by decide), if_neg (by decide), if_neg (by decide), if_neg (by decide), if_neg (by decide), if_pos (by decide)]
                simp only [Option.bind_some, ih, Option.map_some]; rfl
          · cases h
    · simp only [az, Bool.and_eq_true, decide_eq_true_eq] at h
      obtain ⟨⟨⟨rfl, rfl⟩, rfl⟩, h4⟩ := h
      rw [List.length_eq_zero_iff] at h4; subst h4
      simp only [tTy, tyL, fTy]; rfl
end
def ints (l : List Int) : List D := (l.map (Value.int .i64)).map D.c
section
variable {P : Program} {w0 : World} {N : Nat} {Q : Exit → Act → World → Prop} {env : Env} {own : List Seg} {H : Hp}
end
section
variable {P : Program} {w0 : World} {N : Nat} {Q : Exit → Act → World → Prop} {env : Env} {own : List Seg} {H : Hp}
end
theorem strs_at {H : Hp} {L : List ByteArray} {v : Value} (h : rd H (.s 1 (strs L)) v) {k : Nat} (hk : k < L.length) : ∃ b o c x, v = .slice (some ⟨b, o, none⟩) L.length c ∧ cel H b (o + k * 1) = some (.string x) ∧ L[k]? = some x := by
  obtain ⟨A, c, rfl, hc1, hc2⟩ := fI h
  simp only [List.length_map] at h ⊢
  have hx : L[k]? = some L[k] := List.getElem?_eq_getElem hk
  obtain ⟨b, o, rfl, h1⟩ := vals_at (l := L.map Value.string) (i := k) (u := .string L[k]) h (by simp [hx])
  exact ⟨b, o, c, _, rfl, h1, hx⟩
structure EG (B : Nat) (e : Ex) : Prop where
  r : rEx e = true
  o : e.ok
  s : e.size ≤ B
structure EGs (B : Nat) (l : List Ex) : Prop where
  r : rExs l = true
  o : Ex.oks l
  s : Ex.sizes l ≤ B
theorem EG.mono {B C : Nat} {e : Ex} (h : EG B e) (hl : B ≤ C) : EG C e := ⟨h.r, h.o, Nat.le_trans h.s hl⟩
theorem EGs.mono {B C : Nat} {e : List Ex} (h : EGs B e) (hl : B ≤ C) : EGs C e := ⟨h.r, h.o, Nat.le_trans h.s hl⟩
theorem EGs.nil : EGs 0 [] := ⟨rfl, trivial, Nat.le_refl _⟩
theorem EGs.cons {B C : Nat} {e : Ex} {l : List Ex} (h : EG B e) (k : EGs C l) : EGs (B + C) (e :: l) := ⟨by simp [rExs, h.r, k.r], ⟨h.o, k.o⟩, by have := h.s; have := k.s; simp only [Ex.sizes]; omega⟩
theorem EGs.one {B : Nat} {e : Ex} (h : EG B e) : EGs B [e] := (EGs.cons h EGs.nil).mono (by omega)
theorem EGs.snoc {B C : Nat} {e : Ex} {l : List Ex} (h : EGs B l) (k : EG C e) : EGs (B + C) (l ++ [e]) := ⟨by rw [be, List.all_append, ← be]; simp [h.r, k.r], Ex.oks_append.2 ⟨h.o, k.o, trivial⟩, by have := h.s; have := k.s; simp only [Ex.sizes_append, Ex.sizes]; omega⟩
theorem aA {s : ByteArray} (h : ae s = true) : s.size ≤ 24 := by
  simp only [ae, Bool.and_eq_true, decide_eq_true_eq] at h
  exact h.1.1.1.2
theorem EG.of {B : Nat} {k n : Int} {nm : ByteArray} {ks : List Ex} (hk : 1 ≤ k ∧ k ≤ 15) (hn : bx k nm = true) (hs : nm.size ≤ 1000000) (hl : k = 14 ∨ (ks.length : Int) = dg k) (h0 : 0 ≤ n) (h1 : n < cK k) (h : EGs B ks) : EG (B + 1) (.mk k nm n ks) := by
  have hx : cK k ≤ 65536 := by unfold cK; split; omega; split; omega; split <;> omega
  refine ⟨?_, ⟨⟨by omega, by omega⟩, hs, ⟨h0, by omega⟩, h.o⟩, by have := h.s; simp only [Ex.size]; omega⟩
  simp only [rEx, Bool.and_eq_true, Bool.or_eq_true, decide_eq_true_eq]
  exact ⟨⟨⟨⟨hk, hn⟩, hl⟩, h1⟩, h.r⟩
structure FR (f : Fu) : Prop where
  nm : ae f.nm = true
  ps : ∀ p ∈ f.ps, ae p.nm = true ∧ rTy p.ty = true ∧ p.ty.ok ∧ p.ty.size ≤ 8
  pl : f.ps.length ≤ 3
  res : (rTy f.res = true ∨ az f.res 7 = true) ∧ f.res.ok ∧ f.res.size ≤ 8
  body : f.body = [] ∧ f.fl = false ∧ f.x = 0 ∧ f.y = 0
structure ME (l : List Int) (fs : List Fu) (vars : List ByteArray) (me : Nat) : Prop where
  hl : ∀ n ∈ l, I64 n
  hll : l.length ≤ 1000000
  hv : ∀ s ∈ vars, ae s = true
  hvl : vars.length ≤ 1000000
  hme : me < fs.length
  hfl : fs.length ≤ 1000000
  hf : ∀ f ∈ fs, FR f
def SB (d : Nat) : Nat := 8 * 4 ^ d
theorem Row.asl {e : TypeId} {sz : Nat} {v : Value} {n : Nat} {xs : List Value} {seg : Seg} (h : Row e sz v n xs seg) : ∃ A c, v = .slice A n c ∧ n ≤ c ∧ c ≤ 9223372036854775807 := by
  obtain ⟨_, h⟩ := h
  rcases h with ⟨rfl, rfl, _⟩ | ⟨g, cap, cur, rfl, rfl, h1, h2, _⟩
  · exact ⟨none, 0, rfl, Nat.le_refl _, by omega⟩
  · exact ⟨_, cap, rfl, h1, by simpa [maxLen] using h2⟩
theorem EGs.step {i d : Nat} {es : List Ex} {e : Ex} (h : EGs (i * SB d) es) (he : EG (SB d) e) : EGs ((i + 1) * SB d) (es ++ [e]) := (h.snoc he).mono (by rw [Nat.add_mul]; omega)
structure SG (B : Nat) (s : Sm) : Prop where
  r : rSm s = true
  o : s.ok
  s : s.size ≤ B
structure SGs (B : Nat) (l : List Sm) : Prop where
  r : cT l = true
  o : Sm.oks l
  s : Sm.sizes l ≤ B
structure SGc (B : Nat) (l : List (List Sm)) : Prop where
  r : rCs l = true
  o : Sm.okc l
  s : Sm.csizes l ≤ B
theorem SG.mono {B C : Nat} {e : Sm} (h : SG B e) (hl : B ≤ C) : SG C e := ⟨h.r, h.o, Nat.le_trans h.s hl⟩
theorem SGs.mono {B C : Nat} {e : List Sm} (h : SGs B e) (hl : B ≤ C) : SGs C e := ⟨h.r, h.o, Nat.le_trans h.s hl⟩
theorem SGc.mono {B C : Nat} {e : List (List Sm)} (h : SGc B e) (hl : B ≤ C) : SGc C e := ⟨h.r, h.o, Nat.le_trans h.s hl⟩
theorem SGs.nil : SGs 0 [] := ⟨rfl, trivial, Nat.le_refl _⟩
theorem SGc.nil : SGc 0 [] := ⟨rfl, trivial, Nat.le_refl _⟩
theorem SGs.cons {B C : Nat} {e : Sm} {l : List Sm} (h : SG B e) (k : SGs C l) : SGs (B + C) (e :: l) := ⟨by simp [cT, h.r, k.r], ⟨h.o, k.o⟩, by have := h.s; have := k.s; simp only [Sm.sizes]; omega⟩
theorem SGs.one {B : Nat} {e : Sm} (h : SG B e) : SGs B [e] := (SGs.cons h SGs.nil).mono (by omega)
theorem SGs.append {B C : Nat} {a b : List Sm} (h : SGs B a) (k : SGs C b) : SGs (B + C) (a ++ b) := ⟨by rw [aH, List.all_append, ← aH, ← aH]; simp [h.r, k.r], Sm.oks_append.2 ⟨h.o, k.o⟩, by have := h.s; have := k.s; simp only [Sm.sizes_append]; omega⟩
theorem SGs.snoc {B C : Nat} {e : Sm} {l : List Sm} (h : SGs B l) (k : SG C e) : SGs (B + C) (l ++ [e]) := h.append (SGs.one k)
theorem SGc.snoc {B C : Nat} {e : List Sm} {l : List (List Sm)} (h : SGc B l) (k : SGs C e) : SGc (B + C + 1) (l ++ [e]) := ⟨by rw [dD, List.all_append, ← dD]; simp [h.r, k.r], Sm.okc_append.2 ⟨h.o, k.o, trivial⟩, by have := h.s; have := k.s; simp only [Sm.csizes_append, Sm.csizes]; omega⟩
theorem ay : ty4z.ok := ⟨⟨by omega, by omega⟩, by decide, ⟨by omega, by omega⟩, trivial⟩
theorem SG.of {A B C D T : Nat} {k n : Int} {nm : ByteArray} {t : Ty4} {xs : List Ex} {b el : List Sm} {cs : List (List Sm)} (hk : 1 ≤ k ∧ k ≤ 14) (hl : aB k ≤ (xs.length : Int)) (hm : (xs.length : Int) ≤ aY k) (hnm : bU k nm = true) (hns : nm.size ≤ 1000000)
    (ht : (if k = 1 then rTy t else az t 0) = true) (hto : t.ok) (hts : t.size ≤ T) (hn : n = 0 ∨ smPo k = true) (h0 : 0 ≤ n) (h1 : n < 256) (hb : iA k = true ∨ b = []) (hel : iB k = true ∨ el = []) (hcs : iC k = true ∨ cs = [])
    (hd : k = 14 → bA (fun j => decide (j = 14)) xs = true) (ha : k = 2 → bA bn xs = true) (hx : EGs A xs) (hB : SGs B b) (hE : SGs C el) (hC : SGc D cs) : SG (T + A + B + C + D + 1) (.mk k nm t n xs b el cs) := by
  refine ⟨?_, ⟨⟨by omega, by omega⟩, hns, hto, ⟨h0, by omega⟩, hx.o, hB.o, hE.o, hC.o⟩, by have := hx.s; have := hB.s; have := hE.s; have := hC.s; simp only [Sm.size]; omega⟩
  simp only [rSm, Bool.and_eq_true, Bool.or_eq_true, decide_eq_true_eq, Bool.not_eq_true', decide_eq_false_iff_not, List.length_eq_zero_iff]
  refine ⟨⟨⟨⟨⟨⟨⟨⟨⟨⟨⟨⟨⟨⟨hk, hl⟩, hm⟩, hx.r⟩, hnm⟩, ht⟩, ?_⟩, hb⟩, hel⟩, hcs⟩, ?_⟩, ?_⟩, hB.r⟩, hE.r⟩, hC.r⟩
  · rcases hn with h | h
    · exact .inl h
    · exact .inr ⟨h, h1⟩
  · by_cases h : k = 14
    · exact .inr (hd h)
    · exact .inl h
  · by_cases h : k = 2
    · exact .inr (ha h)
    · exact .inl h
theorem sm_mk2 {H : Hp} {k n : Int} {nm : ByteArray} {t : Ty4} {xs : List Ex} {b el : List Sm} {cs : List (List Sm)} {c2 c3 c4 c5 v7 v8 v9 v10 : Value} (ht : RdL H t.d [c2, c3, c4, c5]) (hx : rd H (.s 4 (Ex.ds xs)) v7) (hb : rd H (.s 11 (Sm.ds b)) v8) (he : rd H (.s 11 (Sm.ds el)) v9) (hc : rd H (.s 1 (Sm.cd cs)) v10) :
    RdL H (Sm.mk k nm t n xs b el cs).d [.int .i64 k, .string nm, c2, c3, c4, c5, .int .u16 n, v7, v8, v9, v10] := by
  simp only [Sm.d]
  have h1 : RdL H [D.c (.int .i64 k), D.c (.string nm)] [.int .i64 k, .string nm] := ⟨by simp [rd], by simp [rd], trivial⟩
  have h2 : RdL H [D.c (.int .u16 n), .s 4 (Ex.ds xs), .s 11 (Sm.ds b), .s 11 (Sm.ds el), .s 1 (Sm.cd cs)] [.int .u16 n, v7, v8, v9, v10] := ⟨by simp [rd], hx, hb, he, hc, trivial⟩
  exact (h1.append ht).append h2
theorem ty0_d (H : Hp) : RdL H ty4z.d [.int .i64 0, .string ⟨#[]⟩, .int .i64 0, .slice none 0 0] := ⟨by simp [rd], by simp [rd], by simp [rd], rd.nil _ _, trivial⟩
theorem tyk_d (H : Hp) (k : Int) : RdL H (Ty4.mk k eS 0 []).d [.int .i64 k, .string ⟨#[]⟩, .int .i64 0, .slice none 0 0] := ⟨by simp [rd], by simp [rd], by simp [rd], rd.nil _ _, trivial⟩
theorem sms_cons {H : Hp} {e : Sm} {r : List Sm} {cs vs : List Value} (h : RdL H e.d cs) (hr : RdL H (Sm.ds r) vs) : RdL H (Sm.ds (e :: r)) (cs ++ vs) := h.append hr
theorem sms_nil (H : Hp) : RdL H (Sm.ds []) [] := trivial
theorem my {H : Hp} {s : Sm} {c0 c1 c2 c3 c4 c5 c6 c7 c8 c9 c10 : Value} (h : RdL H s.d [c0, c1, c2, c3, c4, c5, c6, c7, c8, c9, c10]) : Ones [c0, c1, c2, c3, c4, c5, c6, c7, c8, c9, c10] := by
  obtain ⟨k, nm, t, n, xs, b, el, cs⟩ := s
  obtain ⟨rfl, rfl, h2, rfl, h7, h8, h9, h10⟩ := sm_cells h
  obtain ⟨tk, tn, tm, tt⟩ := t
  obtain ⟨rfl, rfl, rfl, h5⟩ := kF h2
  exact ⟨rfl, rfl, rfl, rfl, rfl, h5.one, rfl, h7.one, h8.one, h9.one, h10.one, trivial⟩
theorem ex_ds_one : ∀ l : List Ex, ∀ d ∈ Ex.ds l, D.One d
  | [], _, h => by cases h
  | .mk k nm n ks :: r, d, h => by
    simp only [Ex.ds, Ex.d, List.cons_append, List.nil_append, List.mem_cons] at h
    rcases h with rfl | rfl | rfl | rfl | h
    · exact (rfl : (Value.int .i64 k).oneCell' = true)
    · exact (rfl : (Value.string nm).oneCell' = true)
    · exact (rfl : (Value.int .u16 n).oneCell' = true)
    · trivial
    · exact ex_ds_one r d h
theorem kJ : ∀ l : List Sm, ∀ d ∈ Sm.ds l, D.One d
  | [], _, h => by cases h
  | .mk k nm (.mk tk tn tm tt) n xs b el cs :: r, d, h => by
    simp only [Sm.ds, Sm.d, Ty4.d, List.cons_append, List.nil_append, List.mem_cons] at h
    rcases h with rfl | rfl | rfl | rfl | rfl | rfl | rfl | rfl | rfl | rfl | rfl | h
    · exact (rfl : (Value.int .i64 k).oneCell' = true)
    · exact (rfl : (Value.string nm).oneCell' = true)
    · exact (rfl : (Value.int .i64 tk).oneCell' = true)
    · exact (rfl : (Value.string tn).oneCell' = true)
    · exact (rfl : (Value.int .i64 tm).oneCell' = true)
    · trivial
    · exact (rfl : (Value.int .u16 n).oneCell' = true)
    · trivial
    · trivial
    · trivial
    · trivial
    · exact kJ r d h
theorem sms_src {H : Hp} {b : List Sm} {v : Value} (h : rd H (.s 11 (Sm.ds b)) v) : ∃ A c news, v = .slice A b.length c ∧ (∀ w0 own, Src w0 H own A 11 b.length news) ∧ RdL H (Sm.ds b) news :=
  h.srcN (by omega) (by rw [Sm.ds_of]; exact bM Sm.d_len b) (kJ b)
def tyW (k : Int) : Ty4 := .mk k eS 0 []
def tyA (n k : Int) : Ty4 := .mk 5 eS n [tyW k]
def tyN (s : ByteArray) : Ty4 := .mk 4 s 0 []
theorem ty4_mk {H : Hp} {k n : Int} {nm : ByteArray} {ts : List Ty4} {v : Value} (h : rd H (.s 4 (ak Ty4.d ts)) v) : RdL H (Ty4.mk k nm n ts).d [.int .i64 k, .string nm, .int .i64 n, v] := by
  rw [← Ty4.ds_of] at h
  exact ⟨by simp [rd], by simp [rd], by simp [rd], h, trivial⟩
theorem ty4_nil (H : Hp) : RdL H (ak Ty4.d []) [] := trivial
theorem nE {H : Hp} {t : Ty4} {r : List Ty4} {cs vs : List Value} (h : RdL H t.d cs) (hr : RdL H (ak Ty4.d r) vs) : RdL H (ak Ty4.d (t :: r)) (cs ++ vs) := h.append hr
theorem tyN_d (H : Hp) (s : ByteArray) : RdL H (tyN s).d [.int .i64 4, .string s, .int .i64 0, .slice none 0 0] := ty4_mk (rd.nil _ _)
theorem gk {H : Hp} {t : Ty4} {c0 c1 c2 c3 : Value} (h : RdL H t.d [c0, c1, c2, c3]) : Ones [c0, c1, c2, c3] := by
  obtain ⟨k, nm, n, ts⟩ := t
  obtain ⟨rfl, rfl, rfl, h3⟩ := kF h
  exact ⟨rfl, rfl, rfl, h3.one, trivial⟩
theorem par_mk {H : Hp} {nm : ByteArray} {t : Ty4} {c1 c2 c3 c4 : Value} (h : RdL H t.d [c1, c2, c3, c4]) : RdL H (Par.d ⟨nm, t⟩) [.string nm, c1, c2, c3, c4] := ⟨by simp [rd], h⟩
theorem iP {α : Type} {f : α → List D} {H : Hp} {t : α} {r : List α} {cs vs : List Value} (h : RdL H (f t) cs) (hr : RdL H (ak f r) vs) : RdL H (ak f (t :: r)) (cs ++ vs) := h.append hr
theorem ds_nil {α : Type} {f : α → List D} (H : Hp) : RdL H (ak f []) [] := trivial
theorem gq {α : Type} {f : α → List D} {H : Hp} {t : α} {r : List α} {cs vs : List Value} (hr : RdL H (ak f r) vs) (h : RdL H (f t) cs) : RdL H (ak f (r ++ [t])) (vs ++ cs) := by
  rw [dC]
  exact hr.append (by simpa [ak] using h)
theorem td_mk {H : Hp} {nm : ByteArray} {b : Bool} {fs : List Par} {v : Value} (h : rd H (.s 5 (ak Par.d fs)) v) : RdL H (Td.d ⟨nm, b, fs⟩) [.string nm, .bool b, v] := ⟨by simp [rd], by simp [rd], h, trivial⟩
theorem jN {H : Hp} {nm s : ByteArray} {t : Ty4} {k n : Int} {c1 c2 c3 c4 : Value} (h : RdL H t.d [c1, c2, c3, c4]) : RdL H (Gb.d ⟨nm, t, k, n, s⟩) [.string nm, c1, c2, c3, c4, .int .i64 k, .int .u16 n, .string s] :=
  ⟨by simp [rd], (RdL.append h (show RdL H [D.c (.int .i64 k), .c (.int .u16 n), .c (.string s)] [.int .i64 k, .int .u16 n, .string s] from ⟨by simp [rd], by simp [rd], by simp [rd], trivial⟩))⟩
theorem td_ones {H : Hp} {p : Td} {c0 c1 c2 : Value} (h : RdL H p.d [c0, c1, c2]) : Ones [c0, c1, c2] := by
  obtain ⟨rfl, rfl, h2⟩ := nu h
  exact ⟨rfl, rfl, h2.one, trivial⟩
theorem gb_ones {H : Hp} {p : Gb} {c0 c1 c2 c3 c4 c5 c6 c7 : Value} (h : RdL H p.d [c0, c1, c2, c3, c4, c5, c6, c7]) : Ones [c0, c1, c2, c3, c4, c5, c6, c7] := by
  obtain ⟨rfl, h0, rfl, rfl, rfl⟩ := nv h
  obtain ⟨h1, h2, h3, h4, _⟩ := gk h0
  exact ⟨rfl, h1, h2, h3, h4, rfl, rfl, rfl, trivial⟩
def TdG (t : Td) : Prop := rTd t = true ∧ t.ok 100
def GbG (t : Gb) : Prop := rGb t = true ∧ t.ok 100
def PrG (p : Par) : Prop := ae p.nm = true ∧ rTy p.ty = true ∧ p.ty.ok ∧ p.ty.size ≤ 8
theorem parP_G : PrG ⟨⟨#[112]⟩, .mk 6 eS 0 [tyN ⟨#[83]⟩]⟩ := ⟨by decide +kernel, by decide +kernel, ⟨⟨by omega, by omega⟩, by decide, ⟨by omega, by omega⟩, ⟨⟨by omega, by omega⟩, by decide, ⟨by omega, by omega⟩, trivial⟩, trivial⟩, by simp [tyN, Ty4.size, Ty4.sizes]⟩
def gS : ByteArray := ⟨#[83]⟩
def gU : ByteArray := ⟨#[85]⟩
def tdS : Td := ⟨gS, false, [⟨⟨#[97]⟩, tyW 1⟩, ⟨⟨#[98]⟩, tyW 2⟩, ⟨⟨#[99]⟩, tyW 3⟩, ⟨⟨#[100]⟩, tyA 4 2⟩]⟩
def tdU : Td := ⟨gU, true, [⟨⟨#[119]⟩, tyW 1⟩, ⟨⟨#[108]⟩, tyW 2⟩]⟩
def gbs0 : List Gb := [⟨⟨#[103, 48]⟩, tyW 1, -1, 16384, eS⟩, ⟨⟨#[103, 49]⟩, tyW 3, -1, 16386, eS⟩, ⟨⟨#[103, 50]⟩, tyW 2, -1, 16388, eS⟩, ⟨⟨#[97, 114, 114]⟩, tyA 8 1, -1, 16390, eS⟩, ⟨⟨#[98, 121, 116, 101, 115]⟩, tyA 16 2, -1, 16416, eS⟩]
def gbS : Gb := ⟨⟨#[103, 115]⟩, tyN gS, -1, 16448, eS⟩
def gbU : Gb := ⟨⟨#[103, 117]⟩, tyN gU, -1, 16464, eS⟩
def gbT (s : ByteArray) : Gb := ⟨⟨#[116, 97, 98]⟩, tyA 8 2, 0, 3584, s⟩
def gbW (s : ByteArray) : Gb := ⟨⟨#[119, 111, 114, 100, 115]⟩, tyA 4 1, 1, 256, s⟩
theorem eI {k : Int} (h : I64 k) : (tyW k).ok ∧ (tyW k).size ≤ 100 := ⟨⟨h, by decide, ⟨by omega, by omega⟩, trivial⟩, by simp [tyW, Ty4.size, Ty4.sizes]⟩
theorem jO {n k : Int} (h : I64 k) (hn : I64 n) : (tyA n k).ok ∧ (tyA n k).size ≤ 100 := ⟨⟨⟨by omega, by omega⟩, by decide, hn, ⟨h, by decide, ⟨by omega, by omega⟩, trivial⟩, trivial⟩, by simp [tyA, tyW, Ty4.size, Ty4.sizes]⟩
theorem tyN_ok {s : ByteArray} (h : s.size ≤ 1000000) : (tyN s).ok ∧ (tyN s).size ≤ 100 := ⟨⟨⟨by omega, by omega⟩, h, ⟨by omega, by omega⟩, trivial⟩, by simp [tyN, Ty4.size, Ty4.sizes]⟩
theorem GbG.of {nm s : ByteArray} {t : Ty4} {k n : Int} (h : rGb ⟨nm, t, k, n, s⟩ = true) (ht : t.ok ∧ t.size ≤ 100) (hn : 0 ≤ n ∧ n ≤ 65535) (hk : I64 k) (hs : s.size ≤ 100) : GbG ⟨nm, t, k, n, s⟩ := by
  refine ⟨h, ?_, ht.1, ht.2, hk, hn, hs⟩
  simp only [rGb, Bool.and_eq_true] at h
  have := aA h.1.1; show nm.size ≤ _; omega
theorem tdS_G : TdG tdS := by
  refine ⟨by decide +kernel, by decide, by decide, fun p hp => ?_⟩
  simp only [tdS, List.mem_cons, List.not_mem_nil, or_false] at hp
  rcases hp with rfl | rfl | rfl | rfl
  · exact ⟨by show (1 : Nat) ≤ _; omega, eI ⟨by omega, by omega⟩⟩
  · exact ⟨by show (1 : Nat) ≤ _; omega, eI ⟨by omega, by omega⟩⟩
  · exact ⟨by show (1 : Nat) ≤ _; omega, eI ⟨by omega, by omega⟩⟩
  · exact ⟨by show (1 : Nat) ≤ _; omega, jO ⟨by omega, by omega⟩ ⟨by omega, by omega⟩⟩
theorem tdU_G : TdG tdU := by
  refine ⟨by decide +kernel, by decide, by decide, fun p hp => ?_⟩
  simp only [tdU, List.mem_cons, List.not_mem_nil, or_false] at hp
  rcases hp with rfl | rfl
  · exact ⟨by show (1 : Nat) ≤ _; omega, eI ⟨by omega, by omega⟩⟩
  · exact ⟨by show (1 : Nat) ≤ _; omega, eI ⟨by omega, by omega⟩⟩
theorem gbs0_G : ∀ x ∈ gbs0, GbG x := fun x hx => by
  simp only [gbs0, List.mem_cons, List.not_mem_nil, or_false] at hx
  rcases hx with rfl | rfl | rfl | rfl | rfl
  · exact GbG.of (by decide +kernel) (eI ⟨by omega, by omega⟩) (by omega) ⟨by omega, by omega⟩ (by decide)
  · exact GbG.of (by decide +kernel) (eI ⟨by omega, by omega⟩) (by omega) ⟨by omega, by omega⟩ (by decide)
  · exact GbG.of (by decide +kernel) (eI ⟨by omega, by omega⟩) (by omega) ⟨by omega, by omega⟩ (by decide)
  · exact GbG.of (by decide +kernel) (jO ⟨by omega, by omega⟩ ⟨by omega, by omega⟩) (by omega) ⟨by omega, by omega⟩ (by decide)
  · exact GbG.of (by decide +kernel) (jO ⟨by omega, by omega⟩ ⟨by omega, by omega⟩) (by omega) ⟨by omega, by omega⟩ (by decide)
theorem gbS_G : GbG gbS := GbG.of (by decide +kernel) (tyN_ok (by decide)) (by omega) ⟨by omega, by omega⟩ (by decide)
theorem gbU_G : GbG gbU := GbG.of (by decide +kernel) (tyN_ok (by decide)) (by omega) ⟨by omega, by omega⟩ (by decide)
theorem gb_r {nm s : ByteArray} {t : Ty4} {k n : Int} (h : ae nm = true) (ht : rTy t = true) (h0 : 0 ≤ k) (h1 : k < 64) : rGb ⟨nm, t, k, n, s⟩ = true := by simp [rGb, h, ht, h0, h1]
theorem gbT_G {s : ByteArray} (h : s.size ≤ 100) : GbG (gbT s) := GbG.of (gb_r (by decide +kernel) (by decide +kernel) (by omega) (by omega)) (jO ⟨by omega, by omega⟩ ⟨by omega, by omega⟩) (by omega) ⟨by omega, by omega⟩ h
theorem gbW_G {s : ByteArray} (h : s.size ≤ 100) : GbG (gbW s) := GbG.of (gb_r (by decide +kernel) (by decide +kernel) (by omega) (by omega)) (jO ⟨by omega, by omega⟩ ⟨by omega, by omega⟩) (by omega) ⟨by omega, by omega⟩ h
def BG : Nat := 400000000
def FuG (f : Fu) : Prop := rFu f = true ∧ f.ok BG
theorem fu_mk {H : Hp} {nm : ByteArray} {ps : List Par} {res : Ty4} {body : List Sm} {fl : Bool} {x y : Int} {v1 c2 c3 c4 c5 v6 : Value} (h1 : rd H (.s 5 (ak Par.d ps)) v1) (h2 : RdL H res.d [c2, c3, c4, c5]) (h6 : rd H (.s 11 (Sm.ds body)) v6) :
    RdL H (Fu.d ⟨nm, ps, res, body, fl, x, y⟩) [.string nm, v1, c2, c3, c4, c5, v6, .bool fl, .int .i64 x, .int .u16 y] := by
  have h3 : RdL H [D.s 11 (Sm.ds body), .c (.bool fl), .c (.int .i64 x), .c (.int .u16 y)] [v6, .bool fl, .int .i64 x, .int .u16 y] := ⟨h6, by simp [rd], by simp [rd], by simp [rd], trivial⟩
  exact ⟨by simp [rd], h1, h2.append h3⟩
theorem FuG.of {f : Fu} (h : FR f) {b : List Sm} (hb : SGs 399999999 b) : FuG ⟨f.nm, f.ps, f.res, b, false, 0, 0⟩ := by
  have hn := aA h.nm
  refine ⟨?_, by show f.nm.size ≤ _; omega, by show f.ps.length ≤ _; have := h.pl; unfold BG; omega, fun p hp => ?_, h.res.2.1, by have := h.res.2.2; show f.res.size ≤ _; unfold BG; omega, hb.o, Nat.le_trans hb.s (by unfold BG; omega), (show I64 0 from ⟨by omega, by omega⟩), (show (0 : Int) ≤ 0 ∧ (0 : Int) ≤ 65535 from ⟨by omega, by omega⟩)⟩
  · simp only [rFu, h.nm, hb.r, Bool.true_and, Bool.and_true, Bool.false_eq_true, if_false, Bool.and_eq_true, Bool.or_eq_true, List.all_eq_true, decide_eq_true_eq, and_self]
    refine ⟨⟨fun p hp => ?_, h.res.1.symm⟩, trivial⟩
    have := h.ps p hp
    simp [cN, this.1, this.2.1]
  · have := h.ps p hp
    have hq := aA this.1
    exact ⟨by omega, this.2.2.1, by have := this.2.2.2; unfold BG; omega⟩
theorem pg_G {ts : List Td} {gs : List Gb} {fs : List Fu} (h1 : ts.length ≤ 2) (h2 : gs.length ≤ 9) (h3 : fs.length ≤ 5) (ht : ∀ x ∈ ts, TdG x) (hg : ∀ x ∈ gs, GbG x) (hf : ∀ x ∈ fs, FuG x) : rPg ⟨ts, gs, fs⟩ = true ∧ Pg.ok BG ⟨ts, gs, fs⟩ := by
  refine ⟨?_, by unfold BG; show ts.length ≤ _; omega, by unfold BG; show gs.length ≤ _; omega, by unfold BG; show fs.length ≤ _; omega, fun x hx => (ht x hx).2.mono (by unfold BG; omega), fun x hx => (hg x hx).2.mono (by unfold BG; omega), fun x hx => (hf x hx).2⟩
  simp only [rPg, Bool.and_eq_true, List.all_eq_true]
  exact ⟨⟨fun x hx => (ht x hx).1, fun x hx => (hg x hx).1⟩, fun x hx => (hf x hx).1⟩
def decI (n m : Nat) (s : List UInt8) : Prop := dY n = if m < 10 then s else dY (m / 10) ++ s
theorem decI_0 (n : Nat) : decI n n [UInt8.ofNat (48 + n % 10)] := by
  unfold decI
  by_cases h : n < 10
  · rw [if_pos h, bV h, Nat.mod_eq_of_lt h]
  · rw [if_neg h, dQ h]
theorem decI_step {n m : Nat} {s : List UInt8} (h : decI n m s) (hm : 10 ≤ m) : decI n (m / 10) (UInt8.ofNat (48 + m / 10 % 10) :: s) := by
  unfold decI at h ⊢
  rw [if_neg (by omega)] at h
  rw [h]
  by_cases h9 : m / 10 < 10
  · rw [if_pos h9, bV h9, Nat.mod_eq_of_lt h9]; rfl
  · rw [if_neg h9, dQ h9, List.append_assoc]; rfl
theorem decI_end {n m : Nat} {s : List UInt8} (h : decI n m s) (hm : m < 10) : dY n = s := by
  unfold decI at h; rw [if_pos hm] at h; exact h
theorem decI_len {n m : Nat} {s : List UInt8} (h : decI n m s) (hn : n < 10 ^ 20) : s.length ≤ 20 := by
  have h1 := jL 19 n hn
  unfold decI at h
  rw [h] at h1
  split at h1
  · exact h1
  · rw [List.length_append] at h1; omega
theorem decB_size {n : Nat} (h : n < 10 ^ 20) : (bo n).size ≤ 20 := by
  rw [bo, fL]; exact jL 19 n h
theorem decB_ne (n : Nat) : bo n ≠ eS := fun h => decN_ne n (bb_inj (a := dY n) (b := []) h)
theorem fC (n : Nat) : IntKind.u8.wrap (48 + ((n : Int).tmod 10)) = ((UInt8.ofNat (48 + n % 10)).toNat : Int) := by
  have h : ∀ m : Nat, m < 10 → IntKind.u8.wrap (48 + (m : Int)) = ((UInt8.ofNat (48 + m)).toNat : Int) := by decide +kernel
  rw [show (n : Int).tmod 10 = ((n % 10 : Nat) : Int) from rfl]
  exact h _ (Nat.mod_lt _ (by omega))
theorem ip : ∀ a b, gX (a ++ b) = gX a ++ gX b
  | [], _ => rfl
  | x :: r, b => by simp only [List.cons_append, gX, ip r b]
theorem gt : ∀ l, (gX l).length = 2 * l.length
  | [] => rfl
  | x :: r => by simp only [gX, List.length_cons, gt r]; omega
theorem kK {l : List UInt8} {k : Nat} {b : UInt8} (h : l[k]? = some b) : gX (l.take (k + 1)) = gX (l.take k) ++ [dO (b.toNat / 16), dO (b.toNat % 16)] := by
  rw [List.take_add_one, h, ip]; rfl
def digB : ByteArray := ⟨#[48, 49, 50, 51, 52, 53, 54, 55, 56, 57, 97, 98, 99, 100, 101, 102]⟩
theorem dig_ext : ∀ h : Nat, h < 16 → digB.extract h (h + 1) = bb [dO h] := by decide +kernel
theorem kL (s : ByteArray) : (hexB s).size = 2 * s.size := by
  rw [hexB, fL, gt]; rfl
theorem cp {H : Hp} {t : Tr} {c0 c1 : Value} {ks : List Tr} {vs : List Value} (ht : RdL H t.d [c0, c1]) (h : RdL H (Tr.ds ks) vs) : RdL H (Tr.ds (t :: ks)) (c0 :: c1 :: vs) := by
  rw [show Tr.ds (t :: ks) = t.d ++ Tr.ds ks from by simp [Tr.ds]]
  exact ht.append h
theorem notT {b : Bool} (h : (!b) = true) : b = false := by cases b; rfl; cases h
theorem notF {b : Bool} (h : (!b) = false) : b = true := by cases b; cases h; rfl
theorem rTy_w {k n : Int} {nm : ByteArray} {ts : List Ty4} (h : k = 1 ∨ k = 2 ∨ k = 3) : rTy (.mk k nm n ts) = (decide (nm = ⟨#[]⟩) && decide (n = 0) && decide (ts.length = 0)) := by
  simp only [rTy]; rw [if_neg (by omega), if_pos h]
theorem rTy_n {k n : Int} {nm : ByteArray} {ts : List Ty4} (h : k = 4) : rTy (.mk k nm n ts) = (ae nm && decide (n = 0) && decide (ts.length = 0)) := by
  simp only [rTy]; rw [if_pos h]
theorem rTy_a {k n : Int} {nm : ByteArray} {ts : List Ty4} (h : k = 5 ∨ k = 6) : rTy (.mk k nm n ts) = (decide (nm = ⟨#[]⟩) && decide (0 ≤ n) && decide (n ≤ if k = 6 then 64 else 65535) && decide (ts.length = 1) && ts.all rTy) := by
  simp only [rTy]; rw [if_neg (by omega), if_neg (by omega), if_pos h, eC]
  rcases h with rfl | rfl <;> rfl
theorem rTy_0 {k n : Int} {nm : ByteArray} {ts : List Ty4} (h : ¬ (k = 1 ∨ k = 2 ∨ k = 3)) (h4 : k ≠ 4) (h5 : ¬ (k = 5 ∨ k = 6)) : rTy (.mk k nm n ts) = false := by
  simp only [rTy]; rw [if_neg h4, if_neg h, if_neg h5]
def shp (k : Int) : Int × Int × Int :=
  if k = 1 then (0, 65536, 0) else if k = 2 then (0, 1, 1) else if k = 3 then (1, 1, 1) else if k = 4 then (2, 1, 0) else if k = 5 ∨ k = 6 ∨ k = 7 ∨ k = 8 then (1, 1, 0)
  else if k = 9 ∨ k = 10 then (1, 64, 0) else if k = 11 then (0, 256, 0) else if k = 12 ∨ k = 15 then (1, 1, 2) else if k = 13 then (2, 1, 2) else if k = 14 then (-1, 1, 1) else (-1, 0, 0)
theorem kind15 {k : Int} (h : 1 ≤ k ∧ k ≤ 15) : k = 1 ∨ k = 2 ∨ k = 3 ∨ k = 4 ∨ k = 5 ∨ k = 6 ∨ k = 7 ∨ k = 8 ∨ k = 9 ∨ k = 10 ∨ k = 11 ∨ k = 12 ∨ k = 13 ∨ k = 14 ∨ k = 15 := by omega
theorem shp_out {k : Int} (h : ¬ (1 ≤ k ∧ k ≤ 15)) : shp k = (-1, 0, 0) := by
  unfold shp
  rw [if_neg (by omega), if_neg (by omega), if_neg (by omega), if_neg (by omega), if_neg (by omega), if_neg (by omega), if_neg (by omega), if_neg (by omega), if_neg (by omega), if_neg (by omega)]
theorem shp_in {k : Int} (h : 1 ≤ k ∧ k ≤ 15) : shp k = (if k = 14 then -1 else dg k, cK k, if k = 2 ∨ k = 3 ∨ k = 14 then 1 else if k = 12 ∨ k = 13 ∨ k = 15 then 2 else 0) := by
  rcases kind15 h with rfl | rfl | rfl | rfl | rfl | rfl | rfl | rfl | rfl | rfl | rfl | rfl | rfl | rfl | rfl <;> rfl
theorem ot (k : Int) : 0 ≤ dg k := by unfold dg; split; omega; split <;> omega
def ir (k n : Int) (m : Nat) : Bool := (decide (0 ≤ (shp k).1) && decide ((m : Int) ≠ (shp k).1)) || decide ((shp k).2.1 ≤ n)
theorem rEx_split {k n : Int} {nm : ByteArray} {ks : List Ex} (h0 : 0 ≤ n) : rEx (.mk k nm n ks) = (!ir k n ks.length && bx k nm && ks.all rEx) := by
  simp only [rEx, be, ir]
  by_cases h : 1 ≤ k ∧ k ≤ 15
  · rw [shp_in h, decide_eq_true h]
    have hp := ot k
    by_cases h14 : k = 14
    · subst h14
      by_cases hn : n < cK 14
      · rw [decide_eq_true hn, decide_eq_false (show ¬ cK 14 ≤ n by omega)]; simp
      · rw [decide_eq_false hn]; simp; intro hx; omega
    · simp only [if_neg h14, decide_eq_true hp, decide_eq_false h14, Bool.false_or, Bool.true_and]
      by_cases hn : n < cK k
      · rw [decide_eq_true hn, decide_eq_false (show ¬ cK k ≤ n by omega)]
        by_cases hk : (ks.length : Int) = dg k
        · rw [decide_eq_true hk]; simp [hk]
        · rw [decide_eq_false hk]; simp [hk]
      · rw [decide_eq_false hn, decide_eq_true (show cK k ≤ n by omega)]; simp
  · rw [shp_out h, decide_eq_false h]; simp [h0]
theorem exOne_in {k n : Int} {m : Nat} (h0 : 0 ≤ n) (h : ir k n m = false) : 1 ≤ k ∧ k ≤ 15 := by
  by_cases hk : 1 ≤ k ∧ k ≤ 15
  · exact hk
  · unfold ir at h; rw [shp_out hk] at h; simp [h0] at h
def levL : List (List ByteArray) := [[⟨#[124]⟩], [⟨#[94]⟩], [⟨#[38]⟩], [⟨#[61, 61]⟩, ⟨#[33, 61]⟩], [⟨#[60]⟩, ⟨#[60, 61]⟩, ⟨#[62]⟩, ⟨#[62, 61]⟩], [⟨#[60, 60]⟩, ⟨#[62, 62]⟩], [⟨#[43]⟩, ⟨#[45]⟩], [⟨#[42]⟩, ⟨#[47]⟩, ⟨#[37]⟩]]
theorem ops_lev (s : ByteArray) : aC s opsL = levL.any (aC s) := by simp [aC, opsL, levL, Bool.or_assoc]
def knd (k : Int) : List Int :=
  if k = 1 then [1, 1, 1, 0, 0, 0] else if k = 2 then [2, 2, 0, 0, 0, 0] else if k = 3 then [1, 1, 0, 1, 1, 0] else if k = 4 then [1, 1, 2, 1, 0, 0] else if k = 5 then [0, 0, 2, 1, 0, 0] else if k = 6 then [0, 0, 1, 1, 0, 0]
  else if k = 7 ∨ k = 8 then [0, 0, 1, 0, 0, 0] else if k = 9 then [1, 1, 0, 0, 1, 1] else if k = 10 then [0, 1, 0, 0, 0, 0] else if k = 11 ∨ k = 14 then [1, 1, 0, 0, 0, 0] else if k = 12 ∨ k = 13 then [0, 0, 0, 0, 0, 0] else [1, 0, 0, 0, 0, 0]
theorem kind14 {k : Int} (h : 1 ≤ k ∧ k ≤ 14) : k = 1 ∨ k = 2 ∨ k = 3 ∨ k = 4 ∨ k = 5 ∨ k = 6 ∨ k = 7 ∨ k = 8 ∨ k = 9 ∨ k = 10 ∨ k = 11 ∨ k = 12 ∨ k = 13 ∨ k = 14 := by omega
def knm (k : Int) : Int := if k = 1 ∨ k = 6 ∨ k = 7 ∨ k = 8 then 1 else if k = 4 ∨ k = 5 then 2 else 0
def b01 (b : Bool) : Int := if b then 1 else 0
theorem knd_in {k : Int} (h : 1 ≤ k ∧ k ≤ 14) : knd k = [aB k, aY k, knm k, b01 (iA k), b01 (iB k), b01 (iC k)] := by
  rcases kind14 h with rfl | rfl | rfl | rfl | rfl | rfl | rfl | rfl | rfl | rfl | rfl | rfl | rfl | rfl <;> rfl
theorem mA {k : Int} (h : ¬ (1 ≤ k ∧ k ≤ 14)) : knd k = [1, 0, 0, 0, 0, 0] := by
  unfold knd
  rw [if_neg (by omega), if_neg (by omega), if_neg (by omega), if_neg (by omega), if_neg (by omega), if_neg (by omega), if_neg (by omega), if_neg (by omega), if_neg (by omega), if_neg (by omega), if_neg (by omega)]
theorem shp_nm1 {k : Int} (h : 1 ≤ k ∧ k ≤ 15) : (shp k).2.2 = 1 ↔ k = 2 ∨ k = 3 ∨ k = 14 := by
  rw [shp_in h]; simp only
  by_cases h1 : k = 2 ∨ k = 3 ∨ k = 14
  · rw [if_pos h1]; exact iff_of_true rfl h1
  · rw [if_neg h1]; refine iff_of_false ?_ h1; split <;> omega
theorem nF {k : Int} {nm : ByteArray} (h : k = 2 ∨ k = 3 ∨ k = 14) : bx k nm = ae nm := by unfold bx; rw [if_pos h]
theorem ou {k : Int} {nm : ByteArray} (h : k = 13) : bx k nm = aC nm opsL := by subst h; rfl
theorem exName_un {k : Int} {nm : ByteArray} (h : k = 12) : bx k nm = (decide (nm = ⟨#[45]⟩) || decide (nm = ⟨#[126]⟩) || decide (nm = ⟨#[33]⟩)) := by
  subst h; simp [bx, aC, unL, eq_comm, Bool.or_assoc]
theorem nG {k : Int} {nm : ByteArray} (h : k = 15) : bx k nm = (decide (nm = ⟨#[117, 56]⟩) || decide (nm = ⟨#[117, 49, 54]⟩) || decide (nm = ⟨#[115, 49, 54]⟩)) := by
  subst h; simp [bx, aC, castL, eq_comm, Bool.or_assoc]
theorem nH {k : Int} {nm : ByteArray} (h : ¬ (k = 2 ∨ k = 3 ∨ k = 14)) (h2 : k ≠ 12) (h5 : k ≠ 15) (h3 : k ≠ 13) : bx k nm = decide (nm = ⟨#[]⟩) := by
  unfold bx; rw [if_neg h, if_neg h3, if_neg h2, if_neg h5]
def kd (k : Int) (j : Nat) : Int := (knd k).getD j 0
theorem kd_in {k : Int} (h : 1 ≤ k ∧ k ≤ 14) : kd k 0 = aB k ∧ kd k 1 = aY k ∧ kd k 2 = knm k ∧ kd k 3 = b01 (iA k) ∧ kd k 4 = b01 (iB k) ∧ kd k 5 = b01 (iC k) := by
  simp only [kd, knd_in h]; exact ⟨rfl, rfl, rfl, rfl, rfl, rfl⟩
def eJ (k : Int) (nm : ByteArray) : Bool := if kd k 2 = 0 ∨ (kd k 2 = 2 ∧ nm = ⟨#[]⟩) then decide (nm = ⟨#[]⟩) else ae nm
def dG (k : Int) (t : Ty4) : Bool := if k = 1 then rTy t else az t 0
def cG (k n : Int) (m : Nat) (b1 b2 : Bool) : Bool := decide ((m : Int) < kd k 0) || decide (kd k 1 < (m : Int)) || !b1 || !b2 || decide (255 < n) || (decide (k ≠ 11) && decide (n ≠ 0))
def kM (k : Int) (a b c : Nat) : Bool := (decide (kd k 3 = 0) && decide (0 < (a : Int))) || (decide (kd k 4 = 0) && decide (0 < (b : Int))) || (decide (kd k 5 = 0) && decide (0 < (c : Int)))
theorem b01_zero (b : Bool) : decide (b01 b = 0) = !b := by cases b <;> rfl
theorem len_pos {α : Type} (l : List α) : decide (0 < (l.length : Int)) = !decide (l.length = 0) := by
  by_cases h : l.length = 0
  · rw [decide_eq_true h, decide_eq_false (by omega)]; rfl
  · rw [decide_eq_false h, decide_eq_true (by omega)]; rfl
theorem smOne_in {k : Int} {nm : ByteArray} (h : 1 ≤ k ∧ k ≤ 14) : eJ k nm = bU k nm := by
  unfold eJ bU
  rw [(kd_in h).2.2.1]
  unfold knm eB fA
  by_cases h1 : k = 1 ∨ k = 6 ∨ k = 7 ∨ k = 8
  · rw [if_pos h1, if_neg (by omega), decide_eq_true h1, if_pos rfl]
  · rw [if_neg h1, decide_eq_false h1, if_neg Bool.false_ne_true]
    by_cases h2 : k = 4 ∨ k = 5
    · rw [if_pos h2, decide_eq_true h2]
      by_cases hn : nm = ⟨#[]⟩
      · rw [if_pos (.inr ⟨rfl, hn⟩)]; simp [hn]
      · rw [if_neg (by rintro (h | ⟨_, h⟩); omega; exact hn h)]; simp [hn]
    · rw [if_neg h2, decide_eq_false h2, if_pos (.inl rfl)]; simp
theorem rSm_split {k n : Int} {nm : ByteArray} {t : Ty4} {xs : List Ex} {b el : List Sm} {cs : List (List Sm)} (h0 : 0 ≤ n) :
    rSm (.mk k nm t n xs b el cs) = (!cG k n xs.length (eJ k nm) (dG k t) && !kM k b.length el.length cs.length && xs.all rEx && !(decide (k = 14) && !bA (fun j => decide (j = 14)) xs) && !(decide (k = 2) && !bA bn xs) && cs.all cT && b.all rSm && el.all rSm) := by
  simp only [rSm, be, aH, dD, dG]
  by_cases h : 1 ≤ k ∧ k ≤ 14
  · obtain ⟨e0, e1, e2, e3, e4, e5⟩ := kd_in h
    simp only [cG, kM, e0, e1, e3, e4, e5, b01_zero, len_pos, smOne_in h, decide_eq_true h, smPo]
    generalize hB : (b.all rSm) = B
    generalize hE : (el.all rSm) = E
    generalize hC : (cs.all cT) = C
    generalize hX : (xs.all rEx) = X
    generalize hN : bU k nm = N
    generalize hT : (if k = 1 then rTy t else az t 0) = T
    generalize hh1 : bA (fun j => decide (j = 14)) xs = H1
    generalize hh2 : bA bn xs = H2
    have a1 : decide ((xs.length : Int) < aB k) = !decide (aB k ≤ (xs.length : Int)) := by
      by_cases q : aB k ≤ (xs.length : Int)
      · rw [decide_eq_true q, decide_eq_false (by omega)]; rfl
      · rw [decide_eq_false q, decide_eq_true (by omega)]; rfl
    have a2 : decide (aY k < (xs.length : Int)) = !decide ((xs.length : Int) ≤ aY k) := by
      by_cases q : (xs.length : Int) ≤ aY k
      · rw [decide_eq_true q, decide_eq_false (by omega)]; rfl
      · rw [decide_eq_false q, decide_eq_true (by omega)]; rfl
    have a3 : decide (255 < n) = !decide (n < 256) := by
      by_cases q : n < 256
      · rw [decide_eq_true q, decide_eq_false (by omega)]; rfl
      · rw [decide_eq_false q, decide_eq_true (by omega)]; rfl
    have a5 : (decide (n = 0) || (decide (k = 11) && decide (n < 256))) = (!(!decide (n < 256)) && !(!decide (k = 11) && !decide (n = 0))) := by
      by_cases q : n = 0
      · rw [decide_eq_true q, decide_eq_true (show n < 256 by omega)]; simp
      · rw [decide_eq_false q]; cases decide (k = 11) <;> simp
    have a6 : decide (k ≠ 11) = !decide (k = 11) := by simp
    have a7 : decide (n ≠ 0) = !decide (n = 0) := by simp
    rw [a1, a2, a3, a6, a7, a5]
    generalize decide (aB k ≤ (xs.length : Int)) = p1
    generalize decide ((xs.length : Int) ≤ aY k) = p2
    generalize decide (n < 256) = p3
    generalize decide (k = 11) = p4
    generalize decide (n = 0) = p5
    generalize iA k = p6
    generalize iB k = p7
    generalize iC k = p8
    generalize decide (b.length = 0) = q6
    generalize decide (el.length = 0) = q7
    generalize decide (cs.length = 0) = q8
    generalize decide (k = 14) = p9
    generalize decide (k = 2) = pa
    revert B E C X N T H1 H2 p1 p2 p3 p4 p5 p6 p7 p8 q6 q7 q8 p9 pa
    intro B _ E _ C _ X _ N _ T _ H1 _ H2 _ p1 p2 p3 p4 p5 p6 p7 p8 q6 q7 q8 p9 pa
    cases p1 <;> cases p2 <;> simp
    cases N <;> cases T <;> simp
    cases X <;> simp
    cases B <;> cases E <;> cases C <;> simp
    cases H1 <;> cases H2 <;> cases p9 <;> cases pa <;> cases p6 <;> cases p7 <;> cases p8 <;> cases q6 <;> cases q7 <;> cases q8 <;> simp
  · have e0 : kd k 0 = 1 := by simp only [kd, mA h]; rfl
    have e1 : kd k 1 = 0 := by simp only [kd, mA h]; rfl
    have : cG k n xs.length (eJ k nm) (if k = 1 then rTy t else az t 0) = true := by
      unfold cG
      rw [e0, e1]
      by_cases q : (xs.length : Int) < 1
      · rw [decide_eq_true q]; simp
      · rw [decide_eq_true (show (0 : Int) < xs.length by omega)]; simp
    rw [this, decide_eq_false h]; simp
theorem nI {k n : Int} {m : Nat} {b1 b2 : Bool} (h : cG k n m b1 b2 = false) : kd k 0 ≤ (m : Int) := by
  by_cases q : (m : Int) < kd k 0
  · unfold cG at h; rw [decide_eq_true q] at h; simp at h
  · omega
open Go.ChangeMaps Go.MapKept Go.WideMaps Go.Maps
open Classical in
noncomputable def dZ : List (ByteArray × Value) → Value → Option Value
  | [], _ => none
  | (n, v) :: r, key => if key = .string n then some v else dZ r key
theorem nJ {n : ByteArray} {v : Value} {r : List (ByteArray × Value)} : dZ ((n, v) :: r) (.string n) = some v := by simp [dZ]
theorem nK {n : ByteArray} {v : Value} {r : List (ByteArray × Value)} (s : Value) (h : s ≠ .string n) : dZ ((n, v) :: r) s = dZ r s := by simp [dZ, h]
theorem nL (v : Value) : R0 v = some (.lit (.bool true), []) := rfl
theorem K9 : Maps.Keyed Tryz.prog 9 := Maps.string_keyed Tryz.underlying9
theorem key9 {s : ByteArray} (hs : s.size ≤ 1000000) : keyOf Tryz.prog 9 (.string s) = some (strK s) := keyOf_string_mk Tryz.underlying9 (by simp only [maxLen]; omega)
section
variable {w0 : World} {N : Nat} {Q : Exit → Act → World → Prop} {env : Env} {own : List Seg} {H : Hp} {ops : Array Oper} {rest : List Oper}
variable {d : Option Tmp} {ty : TypeId} {pos : String} {af : Array Edge}
end
def levT : List (ByteArray × Value) := [(⟨#[37]⟩, .int .i64 7), (⟨#[47]⟩, .int .i64 7), (⟨#[42]⟩, .int .i64 7), (⟨#[45]⟩, .int .i64 6), (⟨#[43]⟩, .int .i64 6), (⟨#[62, 62]⟩, .int .i64 5), (⟨#[60, 60]⟩, .int .i64 5), (⟨#[62, 61]⟩, .int .i64 4), (⟨#[62]⟩, .int .i64 4), (⟨#[60, 61]⟩, .int .i64 4), (⟨#[60]⟩, .int .i64 4), (⟨#[33, 61]⟩, .int .i64 3), (⟨#[61, 61]⟩, .int .i64 3), (⟨#[38]⟩, .int .i64 2), (⟨#[94]⟩, .int .i64 1), (⟨#[124]⟩, .int .i64 0)]
theorem kN {s : ByteArray} : ∀ l : List (ByteArray × Value), (dZ l (.string s)).isSome = (l.map (·.1)).any fun x => decide (x = s)
  | [] => rfl
  | (n, v) :: r => by
    rw [List.map_cons, List.any_cons, ← kN r]
    by_cases h : n = s
    · subst h; rw [nJ, decide_eq_true rfl]; rfl
    · rw [nK _ (by simpa using fun e => h e.symm), decide_eq_false h, Bool.false_or]
theorem lev_some (s : ByteArray) : (dZ levT (.string s)).isSome = aC s opsL := by
  rw [kN, show levT.map (·.1) = opsL.reverse from rfl, List.any_reverse]; rfl
theorem rEx_out {k n : Int} {nm : ByteArray} {ks : List Ex} (h : ¬ (1 ≤ k ∧ k ≤ 15)) : rEx (.mk k nm n ks) = false := by rw [rEx, decide_eq_false h]; rfl
section
variable {k n kc lim : Int} {nm : ByteArray} {ks : List Ex} (hk : 1 ≤ k ∧ k ≤ 15) (hc : kc = if k = 14 then (ks.length : Int) else dg k) (hl : lim = cK k)
include hk hc hl
theorem syn_ex : rEx (.mk k nm n ks) = (bx k nm && decide ((ks.length : Int) = kc) && decide (n < lim) && ks.all rEx) := by
  rw [rEx, decide_eq_true hk, hl, Bool.true_and, be, hc]
  congr 3
  split
  · rename_i h; rw [decide_eq_true h, decide_eq_true rfl]; rfl
  · rename_i h; rw [decide_eq_false h, Bool.false_or]
end
def aJ : List (Int × Value) := [(14, .agg #[.int .i64 1, .int .i64 1, .bool false, .bool false, .bool false, .bool false, .bool false, .bool false]), (13, .agg #[.int .i64 0, .int .i64 0, .bool false, .bool false, .bool false, .bool false, .bool false, .bool false]), (12, .agg #[.int .i64 0, .int .i64 0, .bool false, .bool false, .bool false, .bool false, .bool false, .bool false]), (11, .agg #[.int .i64 1, .int .i64 1, .bool false, .bool false, .bool false, .bool false, .bool false, .bool true]), (10, .agg #[.int .i64 0, .int .i64 1, .bool false, .bool false, .bool false, .bool false, .bool false, .bool false]), (9, .agg #[.int .i64 1, .int .i64 1, .bool false, .bool false, .bool false, .bool true, .bool true, .bool false]), (8, .agg #[.int .i64 0, .int .i64 0, .bool true, .bool false, .bool false, .bool false, .bool false, .bool false]), (7, .agg #[.int .i64 0, .int .i64 0, .bool true, .bool false, .bool false, .bool false, .bool false, .bool false]), (6, .agg #[.int .i64 0, .int .i64 0, .bool true, .bool false, .bool true, .bool false, .bool false, .bool false]), (5, .agg #[.int .i64 0, .int .i64 0, .bool false, .bool true, .bool true, .bool false, .bool false, .bool false]), (4, .agg #[.int .i64 1, .int .i64 1, .bool false, .bool true, .bool true, .bool false, .bool false, .bool false]), (3, .agg #[.int .i64 1, .int .i64 1, .bool false, .bool false, .bool true, .bool true, .bool false, .bool false]), (2, .agg #[.int .i64 2, .int .i64 2, .bool false, .bool false, .bool false, .bool false, .bool false, .bool false]), (1, .agg #[.int .i64 1, .int .i64 1, .bool true, .bool false, .bool false, .bool false, .bool false, .bool false])]
theorem form_in {k : Int} (h : 1 ≤ k ∧ k ≤ 14) : aq aJ (.int .i64 k) = some (.agg #[.int .i64 (aB k), .int .i64 (aY k), .bool (eB k), .bool (fA k), .bool (iA k), .bool (iB k), .bool (iC k), .bool (smPo k)]) := by
  rcases kind14 h with rfl | rfl | rfl | rfl | rfl | rfl | rfl | rfl | rfl | rfl | rfl | rfl | rfl | rfl
  · rw [show aq aJ (.int .i64 1) = some (.agg #[.int .i64 1, .int .i64 1, .bool true, .bool false, .bool false, .bool false, .bool false, .bool false]) from by simp [aJ, aq]]; rfl
  · rw [show aq aJ (.int .i64 2) = some (.agg #[.int .i64 2, .int .i64 2, .bool false, .bool false, .bool false, .bool false, .bool false, .bool false]) from by simp [aJ, aq]]; rfl
  · rw [show aq aJ (.int .i64 3) = some (.agg #[.int .i64 1, .int .i64 1, .bool false, .bool false, .bool true, .bool true, .bool false, .bool false]) from by simp [aJ, aq]]; rfl
  · rw [show aq aJ (.int .i64 4) = some (.agg #[.int .i64 1, .int .i64 1, .bool false, .bool true, .bool true, .bool false, .bool false, .bool false]) from by simp [aJ, aq]]; rfl
  · rw [show aq aJ (.int .i64 5) = some (.agg #[.int .i64 0, .int .i64 0, .bool false, .bool true, .bool true, .bool false, .bool false, .bool false]) from by simp [aJ, aq]]; rfl
  · rw [show aq aJ (.int .i64 6) = some (.agg #[.int .i64 0, .int .i64 0, .bool true, .bool false, .bool true, .bool false, .bool false, .bool false]) from by simp [aJ, aq]]; rfl
  · rw [show aq aJ (.int .i64 7) = some (.agg #[.int .i64 0, .int .i64 0, .bool true, .bool false, .bool false, .bool false, .bool false, .bool false]) from by simp [aJ, aq]]; rfl
  · rw [show aq aJ (.int .i64 8) = some (.agg #[.int .i64 0, .int .i64 0, .bool true, .bool false, .bool false, .bool false, .bool false, .bool false]) from by simp [aJ, aq]]; rfl
  · rw [show aq aJ (.int .i64 9) = some (.agg #[.int .i64 1, .int .i64 1, .bool false, .bool false, .bool false, .bool true, .bool true, .bool false]) from by simp [aJ, aq]]; rfl
  · rw [show aq aJ (.int .i64 10) = some (.agg #[.int .i64 0, .int .i64 1, .bool false, .bool false, .bool false, .bool false, .bool false, .bool false]) from by simp [aJ, aq]]; rfl
  · rw [show aq aJ (.int .i64 11) = some (.agg #[.int .i64 1, .int .i64 1, .bool false, .bool false, .bool false, .bool false, .bool false, .bool true]) from by simp [aJ, aq]]; rfl
  · rw [show aq aJ (.int .i64 12) = some (.agg #[.int .i64 0, .int .i64 0, .bool false, .bool false, .bool false, .bool false, .bool false, .bool false]) from by simp [aJ, aq]]; rfl
  · rw [show aq aJ (.int .i64 13) = some (.agg #[.int .i64 0, .int .i64 0, .bool false, .bool false, .bool false, .bool false, .bool false, .bool false]) from by simp [aJ, aq]]; rfl
  · rw [show aq aJ (.int .i64 14) = some (.agg #[.int .i64 1, .int .i64 1, .bool false, .bool false, .bool false, .bool false, .bool false, .bool false]) from by simp [aJ, aq]]; rfl
theorem nM {k : Int} (h : ¬ (1 ≤ k ∧ k ≤ 14)) : aq aJ (.int .i64 k) = none := by
  simp only [aJ, aq, Value.int.injEq, true_and]
  repeat rw [if_neg (by omega)]
theorem form_get (k : Int) : (aq aJ (.int .i64 k)).getD (.agg #[.int .i64 0, .int .i64 0, .bool false, .bool false, .bool false, .bool false, .bool false, .bool false]) = .agg #[.int .i64 (aB k), .int .i64 (aY k), .bool (eB k), .bool (fA k), .bool (iA k), .bool (iB k), .bool (iC k), .bool (smPo k)] := by
  by_cases h : 1 ≤ k ∧ k ≤ 14
  · rw [form_in h]; rfl
  · rw [nM h]
    have e1 : aB k = 0 := by unfold aB; (repeat' split) <;> omega
    have e2 : aY k = 0 := by unfold aY; (repeat' split) <;> omega
    have e3 : eB k = false := decide_eq_false (by omega)
    have e4 : fA k = false := decide_eq_false (by omega)
    have e5 : iA k = false := decide_eq_false (by omega)
    have e6 : iB k = false := decide_eq_false (by omega)
    have e7 : iC k = false := decide_eq_false (by omega)
    have e8 : smPo k = false := decide_eq_false (by omega)
    rw [e1, e2, e3, e4, e5, e6, e7, e8]; rfl
theorem form_some (k : Int) : (aq aJ (.int .i64 k)).isSome = decide (1 ≤ k ∧ k ≤ 14) := by
  by_cases h : 1 ≤ k ∧ k ≤ 14
  · rw [form_in h, decide_eq_true h]; rfl
  · rw [nM h, decide_eq_false h]; rfl
theorem ov (k : Int) : ([2, 3, 4, 5, 7, 8].any fun x => decide (x = k)) = bn k := by
  rw [Bool.eq_iff_iff]
  simp [bn]
  omega
theorem smName_or (k : Int) (nm : ByteArray) : bU k nm = ((eB k && ae nm) || ((fA k && (decide (nm = ⟨#[]⟩) || ae nm)) || ((!eB k && !fA k) && decide (nm = ⟨#[]⟩)))) := by
  have h : eB k = true → fA k = false := fun h => decide_eq_false (by have := of_decide_eq_true h; omega)
  unfold bU
  cases h1 : eB k with
  | true => rw [h h1]; simp
  | false => cases fA k <;> simp
def smPort (k n : Int) : Bool := decide (n = 0) || (smPo k && decide (n < 256))
def smBlk (k : Int) (b el cs : Nat) : Bool := (iA k || decide (b = 0)) && ((iB k || decide (el = 0)) && (iC k || decide (cs = 0)))
section
variable {k n : Int} {nm : ByteArray} {t : Ty4} {xs : List Ex} {b el : List Sm} {cs : List (List Sm)}
theorem rSm_e (h : (!decide (k = 14) || bA (fun j => decide (j = 14)) xs) = false) : false = rSm (.mk k nm t n xs b el cs) := by rw [rSm, h]; simp
theorem rSm_f (h : (!decide (k = 2) || bA bn xs) = false) : false = rSm (.mk k nm t n xs b el cs) := by rw [rSm, h]; simp
theorem rSm_g (h1 : decide (1 ≤ k ∧ k ≤ 14) = true) (h2 : aB k ≤ (xs.length : Int)) (h3 : (xs.length : Int) ≤ aY k) (h4 : xs.all rEx = true) (h5 : (!decide (k = 14) || bA (fun j => decide (j = 14)) xs) = true) (h6 : (!decide (k = 2) || bA bn xs) = true) :
    rSm (.mk k nm t n xs b el cs) = (bU k nm && (dG k t && (smPort k n && (smBlk k b.length el.length cs.length && (cT b && (cT el && cs.all cT)))))) := by
  rw [rSm, h1, decide_eq_true h2, decide_eq_true h3, be, h4, h5, h6, dD]
  unfold smPort smBlk dG
  simp only [Bool.true_and, Bool.and_true, Bool.and_assoc]
end
end Go.Proofs.YtlmahofogapkgaaGreatDoor.K
namespace Go.Proofs.YtlmahofogapkgaaGreatDoor.X
section
open Go Go.RowKit Go.Proofs K
section
variable {x : Cx Tryz.prog} {k : List Fr} {E : XE} {hp hp' : XH} {nx i : Nat} {ops : List Oper} {l : List (Nat × Oper)} {ty : TypeId} {pos : String} {af : Array Edge} {g : Option (Nat × Bool)} {t e : TypeId} {m y z : Operand} {gm t0 n : Nat} {v : Value} {zv : XV}
theorem In9 {r : List (ByteArray × Value)} {a : ByteArray} (hm : xev E m = some (.a (.c (.m gm t0)))) (hg : ah hp gm = some ⟨gm, t0, .mp (fun o => MapR Tryz.prog 9 e o n (dZ r))⟩) (hy : xev E y = some (xs a)) (hz : xev E z = some zv) (hzv : vOf zv = some v) (ht : T.bt.get t = some (.m 9 e))
    (hset' : aF hp gm t0 (.mp (fun o => MapR Tryz.prog 9 e o (n + 1) (dZ ((a, v) :: r)))) = some hp') (hw : ax ops E g = some true) (ha : a.size ≤ 1000000) (hn : n < 100) (hnone : dZ r (.string a) = none) (hk : (MS.r ops none l k ⟨E, hp', nx⟩).ok x) :
    (MS.r ops none ((i, { dst := none, op := .insert t m y z, type := ty, pos := pos, after := af, guard := g }) :: l) k ⟨E, hp, nx⟩).ok x :=
  Mi (T := T) (dZ ((a, v) :: r)) hm hg hy rfl hz hzv ht hset' hw K9 (by simp only [maxLen]; omega) (key9 ha) (nL _) hnone nJ (fun s hs => nK s hs) hk
theorem In3 {r : List (Int × Value)} {a : Int} (hm : xev E m = some (.a (.c (.m gm t0)))) (hg : ah hp gm = some ⟨gm, t0, .mp (fun o => MapR Tryz.prog 3 e o n (aq r))⟩) (hy : xev E y = some (xi a)) (hz : xev E z = some zv) (hzv : vOf zv = some v) (ht : T.bt.get t = some (.m 3 e))
    (hset' : aF hp gm t0 (.mp (fun o => MapR Tryz.prog 3 e o (n + 1) (aq ((a, v) :: r)))) = some hp') (hw : ax ops E g = some true) (ha : I64 a) (hn : n < 100) (hnone : aq r (.int .i64 a) = none) (hk : (MS.r ops none l k ⟨E, hp', nx⟩).ok x) :
    (MS.r ops none ((i, { dst := none, op := .insert t m y z, type := ty, pos := pos, after := af, guard := g }) :: l) k ⟨E, hp, nx⟩).ok x :=
  Mi (T := T) (aq ((a, v) :: r)) hm hg hy rfl hz hzv ht hset' hw K3 (by simp only [maxLen]; omega) (key3 ha) (nL _) hnone tblF_new (fun s hs => tblF_old s hs) hk
end
variable {pk : Pk}
theorem zeroF (w : World) : (zeroValue 242).run Tryz.prog w = .ok (.agg #[.int .i64 0, .int .i64 0, .bool false, .bool false, .bool false, .bool false, .bool false, .bool false]) w := by simp [zeroValue, typeInfo, show Tryz.prog.info? 242 = some Tryz.t242 from by kernel_rfl]; rfl
theorem ow : XQ Tryz.prog pk 208 [] (.a (.c (.d (.mp (fun o => MapR Tryz.prog 9 3 o 16 (dZ levT)))))) := by
  refine XQ.en Tryz.func208 Tryz.ntmps208 (fun w0 own H V v0 hf => ?_)
  refine G (T := T) 1000 rfl ?_
  refine Mm (fun o => MapR Tryz.prog 9 3 o 0 (dZ [])) (MapR.nil _ _ _) ⟨rfl, rfl⟩ ?_
  iterate 16 (refine In9 rfl rfl rfl rfl rfl rfl rfl rfl (by decide) (by omega) (by simp [dZ]) ?_)
  refine G (T := T) 1000 rfl ?_
  refine (FzTo.mz 0 rfl).e ?_
  exact Fe (T := T) rfl rfl
theorem syn_form {k : Int} (hk : I64 k) : XQ Tryz.prog pk 191 [xi k] (.t [.g [.c (.int .i64 (aB k)), .c (.int .i64 (aY k)), .c (.bool (eB k)), .c (.bool (fA k)), .c (.bool (iA k)), .c (.bool (iB k)), .c (.bool (iC k)), .c (.bool (smPo k))], .c (.d (.c (.bool (decide (1 ≤ k ∧ k ≤ 14)))))]) := by
  refine XQ.en Tryz.func191 Tryz.ntmps191 (fun w0 own H V v0 hf => ?_)
  refine G (T := T) 1000 rfl ?_
  refine Mm (fun o => MapR Tryz.prog 3 242 o 0 (aq [])) (MapR.nil _ _ _) ⟨rfl, rfl⟩ ?_
  iterate 14
    refine G (T := T) 1000 rfl ?_
    refine In3 rfl rfl rfl rfl rfl rfl rfl rfl ⟨by omega, by omega⟩ (by omega) (by simp [aq]) ?_
  refine G (T := T) 100002 rfl ?_
  refine (FzTo.mz 1 rfl).c ?_
  refine G (T := T) 1000 rfl ?_
  refine Lu (T := T) (.t [.g [.c (.int .i64 (aB k)), .c (.int .i64 (aY k)), .c (.bool (eB k)), .c (.bool (fA k)), .c (.bool (iA k)), .c (.bool (iB k)), .c (.bool (iC k)), .c (.bool (smPo k))], .c (.d (.c (.bool (decide (1 ≤ k ∧ k ≤ 14)))))]) ?_ K3 (key3 hk) zeroF rfl rfl rfl rfl rfl ⟨rfl, rfl⟩ ?_
  · intro V H
    show XV.rel V H _ (.tuple #[(aq aJ (.int .i64 k)).getD _, .bool (aq aJ (.int .i64 k)).isSome])
    rw [form_some, form_get]
    exact ⟨_, rfl, ⟨_, rfl, by simp [rdL, rd]; trivial⟩, by simp [XA.rel, XC.rel, rd]; trivial, trivial⟩
  refine G (T := T) 1000 rfl ?_
  exact Fq (T := T) rfl rfl
abbrev cq (s : ByteArray) : List D := [.c (.string s)]
abbrev gu (n : Int) : List D := [.c (.int .i64 n)]
theorem index_str {l : List ByteArray} (hl : l.length ≤ 1000000) (s : ByteArray) : XQ Tryz.prog pk 226 [xr (l.map cq), xs s] (xi (idxI (fun x => decide (s = x)) l)) := by
  refine XQ.en Tryz.func226 Tryz.ntmps226 (fun w0 own H V v0 hf => ?_)
  refine G (T := T) 1000 rfl ?_
  refine Lq [0, 1, 7] (fun q r => (4, xi 0) :: (8, xi (q : Nat)) :: r) (fun q => []) 0 (fun q => q ≤ l.length ∧ (l.take q).any (fun x => decide (s = x)) = false) (fun q => l.length - q) 0 rfl ⟨Nat.zero_le _, rfl⟩ ?_
  rintro j ⟨hj, hI⟩
  refine G (T := T) 1000 rfl ?_
  refine If rfl (fun h => ?_) (fun h => ?_)
  · have hjl := of_decide_eq_true h; rw [List.length_map] at hjl
    obtain ⟨y, hy⟩ := al (l := l) (j := j) (by omega)
    refine G (T := T) 1000 rfl ?_
    refine Ix (T := T) j (aa hy) rfl rfl rfl rfl ⟨rfl, rfl⟩ rfl rfl ?_
    refine G (T := T) 1000 rfl ?_
    refine If rfl (fun h => ?_) (fun h => ?_)
    · refine G (T := T) 1000 rfl ?_
      exact Fe (T := T) rfl (by show xi _ = xi _; rw [eZ hI hy h])
    · refine G (T := T) 1000 rfl ?_
      exact Nq (j + 1) ⟨by omega, eD hI hy h⟩ (by show _ - (j + 1) < _ - j; omega)
  · have hjl := of_decide_eq_false h; rw [List.length_map] at hjl
    refine G (T := T) 1000 rfl ?_
    exact Fe (T := T) rfl (by show xi _ = xi _; rw [fU hI (by omega)])
theorem gv {l : List ByteArray} (hl : l.length ≤ 1000000) (s : ByteArray) : XQ Tryz.prog pk 209 [xr (l.map cq), xs s] (xb (l.any fun x => decide (x = s))) := by
  refine XQ.en Tryz.func209 Tryz.ntmps209 (fun w0 own H V v0 hf => ?_)
  refine G (T := T) 1000 rfl ?_
  refine Cq (index_str hl s) rfl rfl rfl rfl rfl ⟨rfl, rfl⟩ ?_
  refine G (T := T) 1000 rfl ?_
  exact Fe (T := T) rfl (by show xb _ = xb _; rw [show (fun x => decide (x = s)) = fun x => decide (s = x) from funext fun x => decide_eq_decide.2 eq_comm, ← iL])
theorem index_int {l : List Int} (hl : l.length ≤ 1000000) (s : Int) : XQ Tryz.prog pk 227 [xr (l.map gu), xi s] (xi (idxI (fun x => decide (s = x)) l)) := by
  refine XQ.en Tryz.func227 Tryz.ntmps227 (fun w0 own H V v0 hf => ?_)
  refine G (T := T) 1000 rfl ?_
  refine Lq [0, 1, 7] (fun q r => (4, xi 0) :: (8, xi (q : Nat)) :: r) (fun q => []) 0 (fun q => q ≤ l.length ∧ (l.take q).any (fun x => decide (s = x)) = false) (fun q => l.length - q) 0 rfl ⟨Nat.zero_le _, rfl⟩ ?_
  rintro j ⟨hj, hI⟩
  refine G (T := T) 1000 rfl ?_
  refine If rfl (fun h => ?_) (fun h => ?_)
  · have hjl := of_decide_eq_true h; rw [List.length_map] at hjl
    obtain ⟨y, hy⟩ := al (l := l) (j := j) (by omega)
    refine G (T := T) 1000 rfl ?_
    refine Ix (T := T) j (aa hy) rfl rfl rfl rfl ⟨rfl, rfl⟩ rfl rfl ?_
    refine G (T := T) 1000 rfl ?_
    refine If rfl (fun h => ?_) (fun h => ?_)
    · refine G (T := T) 1000 rfl ?_
      exact Fe (T := T) rfl (by show xi _ = xi _; rw [eZ hI hy h])
    · refine G (T := T) 1000 rfl ?_
      exact Nq (j + 1) ⟨by omega, eD hI hy h⟩ (by show _ - (j + 1) < _ - j; omega)
  · have hjl := of_decide_eq_false h; rw [List.length_map] at hjl
    refine G (T := T) 1000 rfl ?_
    exact Fe (T := T) rfl (by show xi _ = xi _; rw [fU hI (by omega)])
theorem mC {l : List Int} (hl : l.length ≤ 1000000) (s : Int) : XQ Tryz.prog pk 210 [xr (l.map gu), xi s] (xb (l.any fun x => decide (x = s))) := by
  refine XQ.en Tryz.func210 Tryz.ntmps210 (fun w0 own H V v0 hf => ?_)
  refine G (T := T) 1000 rfl ?_
  refine Cq (index_int hl s) rfl rfl rfl rfl rfl ⟨rfl, rfl⟩ ?_
  refine G (T := T) 1000 rfl ?_
  exact Fe (T := T) rfl (by show xb _ = xb _; rw [show (fun x => decide (x = s)) = fun x => decide (s = x) from funext fun x => decide_eq_decide.2 eq_comm, ← iL])
end
section
open Go Go.RowKit Go.Proofs K
variable {pk : Pk}
theorem kO (t : Ty4) (k : Int) : XQ Tryz.prog pk 137 [xd (tyD t), xi k] (xb (az t k)) := by
  obtain ⟨k', nm, n, ts⟩ := t
  rw [gR]
  refine XQ.en Tryz.func137 Tryz.ntmps137 (fun w0 own H V v0 hf => ?_)
  refine Gs (T := T) 100001 rfl ?_
  refine (FzTo.bz 0 rfl).c ?_
  refine Gs (T := T) 1000 rfl ?_
  refine Fe (T := T) rfl ?_
  show xb (_ && decide (((ts.map tyD).length : Int) = 0)) = _
  rw [List.length_map, show decide ((ts.length : Int) = 0) = decide (ts.length = 0) from decide_eq_decide.2 (by omega)]
  rfl
abbrev TyI (k kc mo : Int) : Prop := ((k = 1 ∨ k = 2 ∨ k = 3) ∧ kc = 0 ∧ mo = 0) ∨ ((k = 5 ∨ k = 6) ∧ kc = 1 ∧ mo = if k = 6 then 64 else 65535)
theorem ty_eq {k n kc mo : Int} {nm : ByteArray} {ts : List Ty4} (h : TyI k kc mo) : rTy (.mk k nm n ts) = (decide (nm = ⟨#[]⟩) && decide (0 ≤ n) && decide (n ≤ mo) && decide ((ts.length : Int) = kc) && ts.all rTy) := by
  rw [rTy]
  rcases h with ⟨h, rfl, rfl⟩ | ⟨h, rfl, rfl⟩
  · rw [if_neg (by omega), if_pos (by omega)]
    by_cases h0 : n = 0
    · subst h0
      cases ts with
      | nil => simp [eS]
      | cons a r => simp; intro h; omega
    · rw [decide_eq_false h0]
      by_cases h1 : 0 ≤ n
      · rw [decide_eq_false (show ¬ n ≤ 0 by omega)]; simp
      · rw [decide_eq_false h1]; simp
  · rw [if_neg (by omega), if_neg (by omega), if_pos (by omega), eC, show decide ((ts.length : Int) = 1) = decide (ts.length = 1) from decide_eq_decide.2 (by omega)]
    congr 4
    by_cases h5 : k = 5
    · subst h5; rfl
    · rw [if_neg h5, if_pos (by omega)]
theorem syn_Type : ∀ (m : Nat) {t : Ty4}, t.size ≤ m → t.ok → XQ Tryz.prog pk 134 [xd (tyD t)] (xb (rTy t)) := by
  intro m
  induction m with
  | zero => intro t hm; have := t.size_pos; omega
  | succ m ih =>
  intro t hm hok
  obtain ⟨k, nm, n, ts⟩ := t
  obtain ⟨hk, hn, hn2, hts⟩ := hok
  rw [gR]
  have hsz : (Ty4.mk k nm n ts).size = Ty4.sizes ts + 1 := rfl
  have hle := Ty4.len_le ts
  refine XQ.en Tryz.func134 Tryz.ntmps134 (fun w0 own H V v0 hf => ?_)
  refine Gs (T := T) 100001 rfl ?_
  refine (FzTo.bz 0 rfl).c ?_
  refine Gs (T := T) 1000 rfl ?_
  refine If rfl (fun h => ?_) (fun h => ?_)
  · have h4 := of_decide_eq_true h
    refine Gs (T := T) 1000 rfl ?_
    refine Cq (aI (by omega)) rfl rfl rfl rfl rfl ⟨rfl, rfl⟩ ?_
    refine Gs (T := T) 1000 rfl ?_
    refine Fe (T := T) rfl ?_
    show xb (_ && decide (((ts.map tyD).length : Int) = 0)) = _
    rw [List.length_map, show decide ((ts.length : Int) = 0) = decide (ts.length = 0) from decide_eq_decide.2 (by omega), rTy, if_pos h4]
  have h4 := of_decide_eq_false h
  refine Gs (T := T) 200000 rfl ?_
  refine Cf [1] (fun (q : Int × Int) r => (3, xi q.1) :: (4, xi q.2) :: r) (fun q => []) 1 (fun q => TyI k q.1 q.2) rfl ?_ ?_
  · refine Gs (T := T) 1000 rfl ?_
    have out : ¬ (k = 1 ∨ k = 2 ∨ k = 3 ∨ k = 4 ∨ k = 5 ∨ k = 6) → xb false = xb (rTy (.mk k nm n ts)) := fun h => by rw [rTy, if_neg (by omega), if_neg (by omega), if_neg (by omega)]
    refine If rfl (fun h => ?_) (fun h => ?_)
    · have h9 := of_decide_eq_true h
      refine Gs (T := T) 1000 rfl ?_; refine IfT rfl h ?_; refine Gs (T := T) 1000 rfl ?_; exact Dn (0, 0) (.inl ⟨by omega, rfl, rfl⟩)
    have h2 := of_decide_eq_false h
    refine Gs (T := T) 1000 rfl ?_
    refine If rfl (fun h => ?_) (fun h => ?_)
    · have h9 := of_decide_eq_true h
      refine Gs (T := T) 1000 rfl ?_; refine IfT rfl h ?_; refine Gs (T := T) 1000 rfl ?_; exact Dn (0, 0) (.inl ⟨by omega, rfl, rfl⟩)
    have h1 := of_decide_eq_false h
    refine Gs (T := T) 1000 rfl ?_
    refine If rfl (fun h => ?_) (fun h => ?_)
    · have h9 := of_decide_eq_true h
      refine Gs (T := T) 1000 rfl ?_; exact Dn (0, 0) (.inl ⟨by omega, rfl, rfl⟩)
    have h3 := of_decide_eq_false h
    refine Gs (T := T) 1000 rfl ?_
    refine If rfl (fun h => ?_) (fun h => ?_)
    · have h9 := of_decide_eq_true h
      refine Gs (T := T) 1000 rfl ?_; exact Dn (1, 65535) (.inr ⟨by omega, rfl, by rw [if_neg (by omega)]⟩)
    have h5 := of_decide_eq_false h
    refine Gs (T := T) 1000 rfl ?_
    refine If rfl (fun h => ?_) (fun h => ?_)
    · have h9 := of_decide_eq_true h
      refine Gs (T := T) 1000 rfl ?_; exact Dn (1, 64) (.inr ⟨by omega, rfl, by rw [if_pos h9]⟩)
    have h6 := of_decide_eq_false h
    refine Gs (T := T) 1000 rfl ?_
    exact Fe (T := T) rfl (out (by omega))
  · rintro ⟨kc, mo⟩ hI; dsimp only at *
    refine Gs (T := T) 1000 rfl ?_
    refine Cs (fun _ => (bF pk).2.2.2.2.1 ts rTy _ [] [] (fun x hx => ih (by have := Ty4.size_mem hx; omega) (Ty4.oks_mem hts hx))) rfl rfl rfl rfl rfl rfl rfl rfl ?_
    refine Gs (T := T) 1000 rfl ?_
    refine Fe (T := T) rfl ?_
    rw [ty_eq hI]
    show xb (_ && decide (((ts.map tyD).length : Int) = kc) && _) = _
    rw [List.length_map]
theorem mD {t : Ty4} (h : t.ok) : XQ Tryz.prog pk 134 [xd (tyD t)] (xb (rTy t)) := syn_Type _ (Nat.le_refl _) h
theorem syn_Field {p : Par} (h1 : p.nm.size ≤ 1000000) (h2 : p.ty.ok) : XQ Tryz.prog pk 131 [xd (paD p)] (xb (cN p)) := by
  refine XQ.en Tryz.func131 Tryz.ntmps131 (fun w0 own H V v0 hf => ?_)
  refine Gs (T := T) 100001 rfl ?_
  refine (FzTo.bz 0 rfl).c ?_
  refine Gs (T := T) 1000 rfl ?_
  refine Cq (aI (by omega)) rfl rfl rfl rfl rfl ⟨rfl, rfl⟩ ?_
  refine Gs (T := T) 1000 rfl ?_
  refine Cs (fun _ => mD h2) rfl rfl rfl rfl rfl rfl rfl rfl ?_
  refine Gs (T := T) 1000 rfl ?_
  exact Fe (T := T) rfl rfl
theorem jP {B : Nat} {l : List Par} (h : ∀ p ∈ l, p.ok B) : XQ Tryz.prog pk 130 [xr (l.map paD), xf 131 [] []] (xb (l.all cN)) := (bF pk).2.2.2.1 l cN _ [] [] (fun x hx => syn_Field (h x hx).1 (h x hx).2.1)
theorem syn_Def {t : Td} {B : Nat} (hok : t.ok B) : XQ Tryz.prog pk 79 [xd (tdD t)] (xb (rTd t)) := by
  obtain ⟨h1, h2, h3⟩ := hok
  refine XQ.en Tryz.func79 Tryz.ntmps79 (fun w0 own H V v0 hf => ?_)
  refine Gs (T := T) 100001 rfl ?_
  refine (FzTo.bz 0 rfl).c ?_
  refine Gs (T := T) 1000 rfl ?_
  refine Cq (aI (by omega)) rfl rfl rfl rfl rfl ⟨rfl, rfl⟩ ?_
  refine Gs (T := T) 1000 rfl ?_
  refine Cs (fun _ => jP h3) rfl rfl rfl rfl rfl rfl rfl rfl ?_
  refine Gs (T := T) 1000 rfl ?_
  exact Fe (T := T) rfl rfl
theorem ox {g : Gb} {B : Nat} (hok : g.ok B) : XQ Tryz.prog pk 81 [xd (gbD g)] (xb (rGb g)) := by
  obtain ⟨h1, h2, h3, h4, h5, h6⟩ := hok
  refine XQ.en Tryz.func81 Tryz.ntmps81 (fun w0 own H V v0 hf => ?_)
  refine Gs (T := T) 100001 rfl ?_
  refine (FzTo.bz 0 rfl).c ?_
  refine Gs (T := T) 1000 rfl ?_
  refine Cq (aI (by omega)) rfl rfl rfl rfl rfl ⟨rfl, rfl⟩ ?_
  refine Gs (T := T) 1000 rfl ?_
  refine Cs (fun _ => mD h2) rfl rfl rfl rfl rfl rfl rfl rfl ?_
  refine Gs (T := T) 1000 rfl ?_
  exact Fe (T := T) rfl rfl
theorem syn_place (k : Int) (a b c : D) : XQ Tryz.prog pk 194 [xd [.c (.int .i64 k), a, b, c]] (xb (bn k)) := by
  refine XQ.en Tryz.func194 Tryz.ntmps194 (fun w0 own H V v0 hf => ?_)
  refine Gs (T := T) 100001 rfl ?_
  refine (FzTo.bz 0 rfl).c ?_
  refine Gs (T := T) 1000 rfl ?_
  refine Cq (mC (l := [2, 3, 4, 5, 7, 8]) (by decide) k) rfl rfl rfl rfl rfl ⟨rfl, rfl⟩ ?_
  refine Gs (T := T) 1000 rfl ?_
  exact Fe (T := T) rfl (congrArg xb (ov k))
end
section
open Go Go.RowKit Go.Proofs K
variable {pk : Pk}
theorem nN {key z : Value} (hz : z.oneCell' = true) : ∀ {l : List (ByteArray × Value)}, (∀ p ∈ l, p.2.oneCell' = true) → ((dZ l key).getD z).oneCell' = true
  | [], _ => hz
  | (n, v) :: r, h => by
    rw [dZ]
    split
    · exact h _ (List.mem_cons_self ..)
    · exact nN hz fun p hp => h p (List.mem_cons_of_mem _ hp)
theorem lev_one {key : Value} : ((dZ levT key).getD (.int .i64 0)).oneCell' = true := nN rfl (by
  intro p hp
  simp only [levT, List.mem_cons, List.not_mem_nil, or_false] at hp
  rcases hp with rfl | rfl | rfl | rfl | rfl | rfl | rfl | rfl | rfl | rfl | rfl | rfl | rfl | rfl | rfl | rfl <;> rfl)
theorem zeroI (w : World) : (zeroValue 3).run Tryz.prog w = .ok (.int .i64 0) w := by simp [zeroValue, typeInfo, show Tryz.prog.info? 3 = some Tryz.t3 from by kernel_rfl]; rfl
abbrev ExI (k : Int) (nm : ByteArray) (n : Nat) (q : Int × Int × Bool) : Prop := (1 ≤ k ∧ k ≤ 15) ∧ q.1 = (if k = 14 then (n : Int) else dg k) ∧ q.2.1 = cK k ∧ q.2.2 = bx k nm
theorem syn_Expr : ∀ (m : Nat) {e : Ex}, e.size ≤ m → e.ok → XQ Tryz.prog pk 193 [xd (exD e)] (xb (rEx e)) := by
  intro m
  induction m with
  | zero => intro e hm; have := e.size_pos; omega
  | succ m ih =>
  intro e hm hok
  obtain ⟨k, nm, n, ks⟩ := e
  obtain ⟨hok1, hok2, hok3, hok4⟩ := hok
  rw [jC]
  have hsz : (Ex.mk k nm n ks).size = Ex.sizes ks + 1 := rfl
  refine XQ.en Tryz.func193 Tryz.ntmps193 (fun w0 own H V v0 hf => ?_)
  refine Gs (T := T) 100001 rfl ?_
  refine (FzTo.bz 0 rfl).c ?_
  refine Gs (T := T) 1000 rfl ?_
  refine Cq ow rfl rfl rfl rfl rfl ⟨rfl, rfl⟩ ?_
  refine Gs (T := T) 1000 rfl ?_
  refine Lu (T := T) (.t [.c (.d (.c ((dZ levT (.string nm)).getD (.int .i64 0)))), .c (.d (.c (.bool (aC nm opsL))))]) (fun V H => ?_) K9 (key9 hok2) zeroI rfl rfl rfl rfl rfl ⟨rfl, rfl⟩ ?_
  · rw [if_pos rfl, lev_some]
    refine ⟨_, rfl, ?_, ?_, trivial⟩
    · simp only [XA.rel, XC.rel, rd]; exact ⟨trivial, lev_one⟩
    · simp only [XA.rel, XC.rel, rd]; exact ⟨trivial, rfl⟩
  refine Gs (T := T) 200000 rfl ?_
  refine Cf [1] (fun (q : Int × Int × Bool) r => (3, xi q.1) :: (4, xi q.2.1) :: (5, xb q.2.2) :: r) (fun q => []) 1 (ExI k nm ks.length) rfl ?_ ?_
  · refine Gs (T := T) 1000 rfl ?_
    iterate 15
      refine If rfl (fun h => ?_) (fun h => ?_)
      rotate_left
      have := of_decide_eq_false h
      refine Gs (T := T) 1000 rfl ?_
    · exact Fe (T := T) rfl (by rw [rEx_out (by omega)]; rfl)
    all_goals
      have h9 := of_decide_eq_true h
      have key : ∀ {q : Int × Int × Bool}, q.2.2 = bx k nm → q.1 = (if k = 14 then (ks.length : Int) else dg k) → q.2.1 = cK k → ExI k nm ks.length q := fun h1 h2 h3 => ⟨by omega, h2, h3, h1⟩
      refine Gs (T := T) 1000 rfl ?_
      first
        | refine Dn (_, _, _) (key ?_ ?_ ?_) ⟨⟨_, _, rfl, rfl⟩, rfl, rfl⟩
        | (refine IfT rfl h ?_; refine Gs (T := T) 1000 rfl ?_; refine Dn (_, _, _) (key ?_ ?_ ?_) ⟨⟨_, _, rfl, rfl⟩, rfl, rfl⟩)
        | (refine Cq (aI (by omega)) rfl rfl rfl rfl rfl ⟨rfl, rfl⟩ ?_; refine Gs (T := T) 1000 rfl ?_; refine Dn (_, _, _) (key ?_ ?_ ?_) ⟨⟨_, _, rfl, rfl⟩, rfl, rfl⟩)
        | (refine Cq (gv (l := unL) (by decide) nm) rfl rfl rfl rfl rfl ⟨rfl, rfl⟩ ?_; refine Gs (T := T) 1000 rfl ?_; refine Dn (_, _, _) (key ?_ ?_ ?_) ⟨⟨_, _, rfl, rfl⟩, rfl, rfl⟩)
        | (refine Cq (gv (l := castL) (by decide) nm) rfl rfl rfl rfl rfl ⟨rfl, rfl⟩ ?_; refine Gs (T := T) 1000 rfl ?_; refine Dn (_, _, _) (key ?_ ?_ ?_) ⟨⟨_, _, rfl, rfl⟩, rfl, rfl⟩)
    all_goals first
      | (dsimp only; unfold dg; (repeat' split) <;> omega)
      | (dsimp only; rw [if_pos h9, List.length_map])
      | (dsimp only; unfold cK; (repeat' split) <;> omega)
      | exact (nF (by omega)).symm
      | exact (nH (by omega) (by omega) (by omega) (by omega)).symm
      | (subst h9; rfl)
  · rintro ⟨kc, lim, b⟩ ⟨hk, hkc, hl, rfl⟩; dsimp only at *
    refine Gs (T := T) 1000 rfl ?_
    refine Cs (fun _ => (bF pk).2.2.2.2.2.2.1 ks rEx _ [] [] (fun x hx => ih (by have := Ex.size_mem hx; omega) (Ex.oks_mem hok4 hx))) rfl rfl rfl rfl rfl rfl rfl rfl ?_
    refine Gs (T := T) 1000 rfl ?_
    refine Fe (T := T) rfl ?_
    rw [syn_ex hk hkc hl]
    show xb (_ && decide (((ks.map exD).length : Int) = kc) && decide (n < lim) && _) = _
    rw [List.length_map]
theorem syn_Ex {e : Ex} (h : e.ok) : XQ Tryz.prog pk 193 [xd (exD e)] (xb (rEx e)) := syn_Expr _ (Nat.le_refl _) h
theorem syn_Exs {l : List Ex} (h : Ex.oks l) : XQ Tryz.prog pk 192 [xr (l.map exD), xf 193 [] []] (xb (l.all rEx)) := (bF pk).2.2.2.2.2.2.1 l rEx _ [] [] (fun x hx => syn_Ex (Ex.oks_mem h hx))
theorem kP {l : List Sm} (h : ∀ s ∈ l, XQ Tryz.prog pk 172 [xd (smD s)] (xb (rSm s))) : XQ Tryz.prog pk 138 [xr (l.map smD)] (xb (cT l)) := by
  refine XQ.en Tryz.func138 Tryz.ntmps138 (fun w0 own H V v0 hf => ?_)
  refine Gs (T := T) 1000 rfl ?_
  refine Cq ((bF pk).2.2.2.2.2.1 l rSm _ [] [] h) rfl rfl rfl rfl rfl ⟨rfl, rfl⟩ ?_
  refine Gs (T := T) 1000 rfl ?_
  exact Fe (T := T) rfl (by rw [aH]; rfl)
section
variable {k n : Int} {nm : ByteArray} {t : Ty4} {xs : List Ex} {b el : List Sm} {cs : List (List Sm)}
theorem rSm_out (h : (((!decide (1 ≤ k ∧ k ≤ 14) || decide ((xs.length : Int) < aB k)) || decide (aY k < (xs.length : Int))) || !xs.all rEx) = true) : rSm (.mk k nm t n xs b el cs) = false := by
  rw [rSm, be]
  simp only [Bool.or_eq_true, Bool.not_eq_true', decide_eq_true_eq] at h
  rcases h with ((h | h) | h) | h
  · rw [h]; rfl
  · rw [decide_eq_false (show ¬ aB k ≤ (xs.length : Int) by omega)]; simp
  · rw [decide_eq_false (show ¬ (xs.length : Int) ≤ aY k by omega)]; simp
  · rw [h]; simp
theorem rSm_in (h : (((!decide (1 ≤ k ∧ k ≤ 14) || decide ((xs.length : Int) < aB k)) || decide (aY k < (xs.length : Int))) || !xs.all rEx) = false) : decide (1 ≤ k ∧ k ≤ 14) = true ∧ aB k ≤ (xs.length : Int) ∧ (xs.length : Int) ≤ aY k ∧ xs.all rEx = true := by
  simp only [Bool.or_eq_false_iff, Bool.not_eq_false', decide_eq_false_iff_not] at h
  exact ⟨h.1.1.1, by omega, by omega, h.2⟩
end
theorem syn_Stmt : ∀ (m : Nat) {s : Sm}, s.size ≤ m → s.ok → XQ Tryz.prog pk 172 [xd (smD s)] (xb (rSm s)) := by
  intro m
  induction m with
  | zero => intro e hm; have := e.size_pos; omega
  | succ m ih =>
  intro s hm hok
  obtain ⟨k, nm, t, n, xs, b, el, cs⟩ := s
  obtain ⟨hk, hn, ht, hn2, hx, hb, he, hc⟩ := hok
  rw [dW]
  have hsz : (Sm.mk k nm t n xs b el cs).size = t.size + Ex.sizes xs + Sm.sizes b + Sm.sizes el + Sm.csizes cs + 1 := rfl
  have blk : ∀ {l : List Sm}, Sm.sizes l ≤ m → Sm.oks l → XQ Tryz.prog pk 138 [xr (l.map smD)] (xb (cT l)) := fun h1 h2 => kP fun s hs => ih (by have := Sm.size_mem hs; omega) (Sm.oks_mem h2 hs)
  refine XQ.en Tryz.func172 Tryz.ntmps172 (fun w0 own H V v0 hf => ?_)
  refine Gs (T := T) 100001 rfl ?_
  refine (FzTo.bz 0 rfl).c ?_
  refine Gs (T := T) 1000 rfl ?_
  refine Cq (syn_form hk) rfl rfl rfl rfl rfl ⟨rfl, rfl⟩ ?_
  refine Gs (T := T) 100002 rfl ?_
  refine (FzTo.bz 1 rfl).c ?_
  refine Gs (T := T) 1000 rfl ?_
  refine Cs (fun _ => syn_Exs hx) rfl rfl rfl rfl rfl rfl rfl rfl ?_
  refine Gs (T := T) 1000 rfl ?_
  refine If rfl (fun h => ?_) (fun h => ?_)
  · rw [List.length_map] at h
    refine Gs (T := T) 1000 rfl ?_
    exact Fe (T := T) rfl (by rw [rSm_out h]; rfl)
  rw [List.length_map] at h
  obtain ⟨g1, g2, g3, g4⟩ := rSm_in h
  refine Gs (T := T) 1000 rfl ?_
  refine Cs (fun _ => aI (by omega)) rfl rfl rfl rfl rfl rfl rfl rfl ?_
  refine Gs (T := T) 1000 rfl ?_
  refine Cs (fun _ => aI (by omega)) rfl rfl rfl rfl rfl rfl rfl rfl ?_
  refine Gs (T := T) 1000 rfl ?_
  refine Cq (kO t 0) rfl rfl rfl rfl rfl ⟨rfl, rfl⟩ ?_
  refine Gs (T := T) 1000 rfl ?_
  refine Cf [1, 3, 5] (fun (_ : Unit) r => (6, xb (dG k t)) :: r) (fun q => []) 2 (fun _ => True) rfl ?_ ?_
  · refine If rfl (fun h => ?_) (fun h => ?_)
    · have h1 := of_decide_eq_true h
      refine Gs (T := T) 1000 rfl ?_
      refine Cq (mD ht) rfl rfl rfl rfl rfl ⟨rfl, rfl⟩ ?_
      refine Gs (T := T) 1000 rfl ?_
      rw [show dG k t = rTy t from if_pos h1]
      exact Dn () trivial
    · have h1 := of_decide_eq_false h
      refine Gs (T := T) 1000 rfl ?_
      rw [show dG k t = az t 0 from if_neg h1]
      exact Dn () trivial
  rintro _ -
  obtain ⟨e0, he0⟩ : ∃ e0 : Ex, k = 14 ∨ k = 2 → xs[0]? = some e0 := by
    cases xs with
    | nil => exact ⟨.mk 0 eS 0 [], fun hq => by
        have : 1 ≤ aB k := by unfold aB; (repeat' split) <;> omega
        simp at g2; omega⟩
    | cons a r => exact ⟨a, fun _ => rfl⟩
  have hK : ∀ p : Int → Bool, k = 14 ∨ k = 2 → bA p xs = p (ek e0) := fun p hq => by
    have := he0 hq
    cases xs with
    | nil => simp at this
    | cons a r => simp at this; subst this; cases a; rfl
  have sat : ∀ {c : Bool} {q : Int}, c = decide (k = q) → q = 14 ∨ q = 2 → c = true → (xs.map exD)[0]? = some (exD e0) ∧ (0 : Int) = ((0 : Nat) : Int) := fun h1 h2 h3 => by
    subst h1
    have := of_decide_eq_true h3
    exact ⟨aa (he0 (by omega)), rfl⟩
  refine Gs (T := T) 1000 rfl ?_
  refine Is (T := T) 0 (exD e0) (sat rfl (.inl rfl)) rfl rfl rfl rfl rfl rfl rfl rfl ?_
  refine Gs (T := T) 1000 rfl ?_
  refine If rfl (fun h => ?_) (fun h => ?_)
  · refine Gs (T := T) 1000 rfl ?_
    refine IfT rfl h ?_
    refine Gs (T := T) 1000 rfl ?_
    refine Fe (T := T) rfl (congrArg xb (rSm_e ?_))
    simp only [Bool.and_eq_true, decide_eq_true_eq] at h
    rw [hK _ (.inl h.1), decide_eq_true h.1, decide_eq_false h.2]; rfl
  have h5 : (!decide (k = 14) || bA (fun j => decide (j = 14)) xs) = true := by
    by_cases hq : k = 14
    · rw [hK _ (.inl hq), decide_eq_true hq]
      rw [show decide (k = 14) = true from decide_eq_true hq, Bool.true_and] at h
      simpa using h
    · rw [decide_eq_false hq]; rfl
  refine Gs (T := T) 1000 rfl ?_
  refine Is (T := T) 0 (exD e0) (sat rfl (.inr rfl)) rfl rfl rfl rfl rfl rfl rfl rfl ?_
  refine Gs (T := T) 1000 rfl ?_
  refine Cs (fun _ => syn_place (ek e0) _ _ _) rfl rfl rfl rfl rfl rfl rfl rfl ?_
  refine Gs (T := T) 1000 rfl ?_
  refine If rfl (fun h => ?_) (fun h => ?_)
  · refine Gs (T := T) 1000 rfl ?_
    refine Fe (T := T) rfl (congrArg xb (rSm_f ?_))
    simp only [Bool.and_eq_true, decide_eq_true_eq, Bool.not_eq_true'] at h
    rw [hK _ (.inr h.1), decide_eq_true h.1, h.2]; rfl
  have h6 : (!decide (k = 2) || bA bn xs) = true := by
    by_cases hq : k = 2
    · rw [hK _ (.inr hq), decide_eq_true hq]
      rw [show decide (k = 2) = true from decide_eq_true hq, Bool.true_and] at h
      simpa using h
    · rw [decide_eq_false hq]; rfl
  refine Gs (T := T) 1000 rfl ?_
  refine Cs (fun _ => blk (by omega) hb) rfl rfl rfl rfl rfl rfl rfl rfl ?_
  refine Gs (T := T) 1000 rfl ?_
  refine Cs (fun _ => blk (by omega) he) rfl rfl rfl rfl rfl rfl rfl rfl ?_
  refine Gs (T := T) 1000 rfl ?_
  refine Cs (fun _ => (bF pk).2.2.2.2.2.2.2 cs cT _ [] [] (fun c hcm => blk (by have := Sm.csize_mem hcm; omega) (Sm.okc_mem hc hcm))) rfl rfl rfl rfl rfl rfl rfl rfl ?_
  refine Gs (T := T) 1000 rfl ?_
  refine Fe (T := T) rfl ?_
  rw [rSm_g g1 g2 g3 g4 h5 h6, smName_or]
  have e9 : ∀ {α : Type} {f : α → List D} {l : List α}, decide (((l.map f).length : Int) = 0) = decide (l.length = 0) := fun {α f l} => by rw [List.length_map]; exact decide_eq_decide.2 (by omega)
  refine congrArg xb ?_
  simp only [smPort, smBlk, e9, Bool.and_assoc, Bool.or_assoc]
end
section
open Go Go.RowKit Go.Proofs K
section
variable {P : Program} {x : Cx P} {k : List Fr} {E Er : XE} {hp : XH} {nx i : Nat} {ops : List Oper} {dm : Option (List Rc)} {l : List (Nat × Oper)} {d : Tmp} {ty : TypeId} {pos : String} {af : Array Edge} {g : Option (Nat × Bool)} {a b : Operand} {tx t' : TypeId} {ya yb : XV} {va vb : Array Value} {c : Bool}
theorem Eqs (hEr : vis dm ops { dst := some d, op := .binOp .eql tx a b t', type := ty, pos := pos, after := af, guard := g } E = Er) (ha : xev Er a = some ya) (hva : vOf ya = some (.agg va)) (hb : xev Er b = some yb) (hvb : vOf yb = some (.agg vb)) (hm : P.eqGuardType P.depth tx = false) (hr : ∀ w, (Op.equalIn 10000 tx (.agg va) (.agg vb)).run P w = .ok c w) (hd : ax ops Er g = some true ∧ okD x.N (some d) = true)
    (hk : (MS.r ops (bE dm ⟨i, [], false, false⟩) l k ⟨(d, xb c) :: E, hp, nx⟩).ok x) (hdk : DkM dm ops ⟨i, [], false, false⟩ := by first | exact trivial | (refine DK.mk ?_; decide +kernel)) :
    (MS.r ops dm ((i, { dst := some d, op := .binOp .eql tx a b t', type := ty, pos := pos, after := af, guard := g }) :: l) k ⟨E, hp, nx⟩).ok x := by
  refine MS.val hEr hd ?_ hdk hk
  intro w0 N Q rest env own H V sg hl hV htp hf hd _ hh
  obtain ⟨u, h1, h2⟩ := hl.lks _ _ ha
  obtain ⟨v, h3, h4⟩ := hl.lks _ _ hb
  have := jy hva h2; subst this
  have := jy hvb h4; subst this
  refine Qd hd (fun ac ha w => ?_) (hh (.bool c) _ [] V H sg ⟨rfl, rfl⟩ (by simp only [xb, XV.rel, XA.rel, XC.rel, rd]; exact ⟨trivial, rfl⟩) hV htp (VX.refl _ _ _) (Le.refl _))
  have e1 := run_eqGuard_agg (P := P) w .eql tx a b va vb hm
  have e2 := run_eql_struct (P := P) w tx va vb
  rw [hr w] at e2
  simp only [execOp, ha.ev h1, ha.ev h3, Sem.run_bind, e1, Result.andThen_ok, e2, Sem.run_map, Sem.run_pure]
end
theorem nO (x y x' y' : Int) (w : World) : (Op.equalIn 10000 69 (.agg #[.int .i64 x, .int .u16 y]) (.agg #[.int .i64 x', .int .u16 y'])).run Tryz.prog w = .ok (x == x' && y == y') w := by
  have hS : Tryz.prog.underlying 69 = some (.struct (Tryz.prog.fieldsOf 69)) := by kernel_rfl
  have ty3 := ej (BT.all_get T.ok (i := 3) (v := .i .i64) rfl)
  have ty61 := ej (BT.all_get T.ok (i := 61) (v := .i .u16) rfl)
  rw [show (10000 : Nat) = 9999 + 1 from rfl, run_equalIn_agg w 9999 69 _ _ hS (by kernel_rfl)]
  have u3 := Tryz.underlying3
  have uS := Tryz.underlying61
  have a3 := ty3.isAgg
  have aS := ty61.isAgg
  have s3 := ty3.size
  have sS := ty61.size
  simp only [Program.fieldsOf, Tryz.underlying69]
  simp [Op.eqFields, part, TI.agg, TI.n, a3, aS, s3, sS, Go.run_equalIn_int _ _ 3 _ _ _ _ u3, Go.run_equalIn_int _ _ 61 _ _ _ _ uS]
  by_cases hx : x = x' <;> by_cases hy : y = y' <;> simp [hx, hy]
variable {pk : Pk}
theorem syn_Func {f : Fu} {B : Nat} (hok : f.ok B) : XQ Tryz.prog pk 83 [xd (fuD f)] (xb (rFu f)) := by
  obtain ⟨h1, h2, h3, h4, h5, h6, h7, h8, h9⟩ := hok
  refine XQ.en Tryz.func83 Tryz.ntmps83 (fun w0 own H V v0 hf => ?_)
  refine Gs (T := T) 100001 rfl ?_
  refine (FzTo.bz 0 rfl).c ?_
  refine Gs (T := T) 1000 rfl ?_
  refine Cq (aI (by omega)) rfl rfl rfl rfl rfl ⟨rfl, rfl⟩ ?_
  refine Gs (T := T) 1000 rfl ?_
  refine Cs (fun _ => jP h3) rfl rfl rfl rfl rfl rfl rfl rfl ?_
  refine Gs (T := T) 1000 rfl ?_
  refine Cs (fun _ => kO f.res 7) rfl rfl rfl rfl rfl rfl rfl rfl ?_
  refine Gs (T := T) 1000 rfl ?_
  refine Cs (fun _ => mD h4) rfl rfl rfl rfl rfl rfl rfl rfl ?_
  refine Gs (T := T) 1000 rfl ?_
  refine If rfl (fun h => ?_) (fun h => ?_)
  · refine Gs (T := T) 1000 rfl ?_
    refine Fe (T := T) rfl (congrArg xb ?_)
    rw [rFu]
    cases hq1 : ae f.nm <;> cases hq2 : f.ps.all cN <;> cases hq3 : az f.res 7 <;> cases hq4 : rTy f.res <;> simp_all
  have e1 : (ae f.nm && f.ps.all cN && (az f.res 7 || rTy f.res)) = true := by
    cases hq1 : ae f.nm <;> cases hq2 : f.ps.all cN <;> cases hq3 : az f.res 7 <;> cases hq4 : rTy f.res <;> simp_all
  refine Gs (T := T) 1000 rfl ?_
  refine If rfl (fun h => ?_) (fun h => ?_)
  · refine Gs (T := T) 1000 rfl ?_
    refine Fe (T := T) rfl (congrArg xb ?_)
    rw [rFu, e1, h, Bool.true_and, if_pos rfl, List.length_map, show decide ((f.body.length : Int) = 0) = decide (f.body.length = 0) from decide_eq_decide.2 (by omega)]
  · refine Gs (T := T) 46 rfl ?_
    refine Eqs rfl rfl rfl rfl rfl (by kernel_rfl) (nO _ _ _ _) ⟨rfl, rfl⟩ ?_
    refine Gs (T := T) 1000 rfl ?_
    refine Cs (fun _ => kP fun s hs => syn_Stmt _ (Nat.le_refl _) (Sm.oks_mem h6 hs)) rfl rfl rfl rfl rfl rfl rfl rfl ?_
    refine Gs (T := T) 1000 rfl ?_
    refine Fe (T := T) rfl (congrArg xb ?_)
    rw [rFu, e1, h, Bool.true_and, if_neg (by simp)]
    congr 1
    rw [Bool.eq_iff_iff]; simp
theorem syn_Right {p : Pg} {B : Nat} (hok : p.ok B) : XQ Tryz.prog pk 32 [xd (pgD p)] (xb (rPg p)) := by
  refine XQ.en Tryz.func32 Tryz.ntmps32 (fun w0 own H V v0 hf => ?_)
  refine Gs (T := T) 100001 rfl ?_
  refine (FzTo.bz 0 rfl).c ?_
  refine Gs (T := T) 1000 rfl ?_
  refine Cq ((bF pk).1 p.ts rTd _ [] [] (fun x hx => syn_Def (hok.t x hx))) rfl rfl rfl rfl rfl ⟨rfl, rfl⟩ ?_
  refine Gs (T := T) 1000 rfl ?_
  refine Cs (fun _ => (bF pk).2.1 p.gs rGb _ [] [] (fun x hx => ox (hok.g x hx))) rfl rfl rfl rfl rfl rfl rfl rfl ?_
  refine Gs (T := T) 1000 rfl ?_
  refine Cs (fun _ => (bF pk).2.2.1 p.fs rFu _ [] [] (fun x hx => syn_Func (hok.f x hx))) rfl rfl rfl rfl rfl rfl rfl rfl ?_
  refine Gs (T := T) 1000 rfl ?_
  exact Fe (T := T) rfl rfl
end
open Go Go.RowKit K
section
variable {P : Program} {pk : Pk} {f : FuncId} {args : List XV} {R : XV}
theorem XQ.ofFn (hcl : Callable P f) (h : ∀ w0 own H V vals, pk.hy H → XVs.rels V H args vals → K.Fn P f vals w0 H own (fun r o H' => R.rel V H' r ∧ o = own ∧ Le H H')) (ha : XVs.all (fun _ _ => false) args = true := by rfl) (hp : pure R = true := by rfl) : XQ P pk f args R := by
  refine ⟨ha, by rintro _ rfl; exact hp, hcl, ?_⟩
  rintro ⟨w0, own, H, V, nx0, F, pk', v0, hF⟩ rfl rfl rfl sg vals hr hh ht w hw
  have hsg := HR0 hh
  subst hsg
  refine Calls.mono (h w0 ([] :: own) H V vals hF.2 hr w hw) ?_
  rintro e w' ⟨r, o, H', rfl, ⟨h1, rfl, h2⟩, h3⟩
  have hn : ∀ g t, V g t = none := fun g t => by
    cases hv : V g t with
    | none => rfl
    | some i => have := (v0 g t (by rw [hv]; simp)).2; simp [names] at this
  exact .inl ⟨r, R, [], V, H', [], rfl, ⟨rfl, rfl⟩, h1, rfl, by intro b hb; simp at hb, List.nodup_nil, by intro b hb; simp at hb, VLe.refl _, fun g t _ => hn g t, fun g t _ k => absurd (hn g t) k, h2, h3⟩
theorem XQ.toFn (h : XQ P pk f args R) (hψ : ¬ pk.ψ) {w0 : World} {own : List Seg} {H : Hp} {vals : List Value} (hy : pk.hy H) (hv : XVs.rels (fun _ _ => none) H args vals) : K.Fn P f vals w0 H own (fun r o H' => R.rel (fun _ _ => none) H' r ∧ o = own ∧ Le H H') := by
  obtain ⟨h1, h2, h3, h4⟩ := h
  intro w hw
  have hw' : St w0 H ([] :: own) w := hw.flat (List.Perm.refl _)
  refine Calls.mono (h4 ⟨w0, own, H, fun _ _ => none, 0, [], pk, fun _ _ h => absurd rfl h, ⟨by intro g hg; simp at hg, hy⟩⟩ rfl rfl rfl [] vals hv rfl (by intro b hb; simp at hb) w hw') ?_
  rintro e w' (⟨v, r, hp', V', H', sg', rfl, ⟨rfl, rfl⟩, q1, q2, q3, q4, q5, q6, q7, q8, q9, q10⟩ | ⟨rfl, q1, _⟩)
  · have := HR0 q2
    subst this
    refine ⟨v, own, H', rfl, ⟨?_, rfl, q9⟩, q10.flat (List.Perm.refl _)⟩
    have e : V' = fun _ _ => none := by funext g t; exact q7 g t (Nat.zero_le _)
    rw [← e]; exact q1
  · exact absurd q1 hψ
end
abbrev cu (l : List UInt8) : List (List D) := l.map fun b => [.c (ja b)]
theorem mE {H : Hp} : ∀ {l : List UInt8} {us : List Value}, rdL H (cu l).flatten us → us = l.map ja
  | [], [], _ => rfl
  | b :: r, u :: us, h => by
    have h1 := h.1
    simp only [rd] at h1
    rw [h1.1, mE (l := r) h.2]; rfl
  | [], _ :: _, h => h.elim
  | _ :: _, [], h => h.elim
section
variable {P : Program} {x : Cx P} {T : Tb P} {k : List Fr} {E : XE} {hp : XH} {nx i : Nat} {ops : List Oper} {l : List (Nat × Oper)} {d : Tmp} {ty : TypeId} {pos : String} {af : Array Edge} {g : Option (Nat × Bool)}
theorem LS.convB {pk : Pk} {ops : Array Oper} {d : Option Tmp} {s t e : TypeId} {y : Operand} {gr t0 n c m : Nat} {bs : List UInt8} (hy : xev E y = some (.a (.c (.l gr t0 1 0 n c)))) (hs : T.bt.get s = some (.sl e 1 1)) (he : T.bt.get e = some (.i .u8)) (ht : T.bt.get t = some .s) (hn : n = bs.length) (hc : c = bs.length) :
    LS P pk ops { dst := d, op := .convert s t y, type := ty, pos := pos, after := af, guard := none } E [⟨gr, t0, .row m (cu bs) e 1⟩] nx nx (fun x fp' => x = .a (.c (.d (.c (.string ⟨bs.toArray⟩)))) ∧ fp' = [⟨gr, t0, .row m (cu bs) e 1⟩]) := by
  intro w0 N Q rest env own H V sg hl hV htp hf hd _ hh
  obtain ⟨v, h1, h2⟩ := hl.lks _ _ hy
  have hh' := hh (.string ⟨bs.toArray⟩) (.a (.c (.d (.c (.string ⟨bs.toArray⟩))))) _ V H sg ⟨rfl, rfl⟩ (by simp only [XV.rel, XA.rel, XC.rel, rd]; exact ⟨trivial, rfl⟩) hV htp (VX.refl _ _ _) (Le.refl _)
  obtain ⟨z, hS⟩ := cM (BT.all_get T.ok hs)
  haveI : Und P s (.slice e) := ⟨hS.und⟩
  haveI : Und P e (.int .u8) := ⟨tok_i (BT.all_get T.ok he)⟩
  haveI : Und P t .string := ⟨tok_s (BT.all_get T.ok ht)⟩
  simp only [XV.rel, XA.rel, XC.rel] at h2
  obtain ⟨b, ex, hb, rfl⟩ := h2
  obtain ⟨s1, s2, rfl, h3, rfl⟩ := hV
  rcases h3 with ⟨b', ob, ex', rfl, h4, us, j, h5, h6, h7, rfl, h9, h10, _⟩ | ⟨rfl, h4, e', sz, h5, _⟩
  · simp only at h4
    rw [h4] at hb; cases hb
    have hus := mE h6
    subst hus
    have hlen : (bs.map ja).length = bs.length := List.length_map ..
    have hbl : (cu bs).length = bs.length := List.length_map ..
    exact TL.convBS 0 0 bs h1 rfl rfl hn.symm (lT fun q u hq => by
      rw [Nat.zero_mul, Nat.zero_add]
      show ((bs.map ja ++ j).toArray.toList)[q]? = _
      rw [List.getElem?_append_left (List.getElem?_eq_some_iff.1 hq).1]; exact hq) hd hh'
  · simp only [XO.row.injEq] at h5
    have : bs = [] := by
      have := h5.2.1
      cases bs with
      | nil => rfl
      | cons => simp [cu] at this
    subst this
    simp only at h4
    rw [h4] at hb; cases hb
    simp only [List.length_nil] at hn hc
    subst hn hc
    refine TL.val rfl hd (fun a w ha hw => ⟨w, by
      have hr : (convert s t (.slice none 0 0)).run P w = Result.ok (.string ⟨#[]⟩) w := by
        rw [run_convert_bytes_string w s t e none 0 0 (Und.eq (P := P) (t := s)) (Und.eq (P := P) (t := e)) (Und.eq (P := P) (t := t))]
        simp [Conv.bytesToString, loadCells]
        rfl
      simp only [execOp, ha.ev h1, Sem.run_bind, hr, Result.andThen_ok, Option.map_none]
      rfl, hw⟩) hh'
theorem Cb {s t e : TypeId} {y : Operand} {gr t0 n c m : Nat} {bs : List UInt8} (hy : xev E y = some (.a (.c (.l gr t0 1 0 n c)))) (hg : ah hp gr = some ⟨gr, t0, .row m (cu bs) e 1⟩) (hs : T.bt.get s = some (.sl e 1 1)) (he : T.bt.get e = some (.i .u8)) (ht : T.bt.get t = some .s) (hb : ax ops E g = some true ∧ okD x.N (some d) = true) (hn : n = bs.length) (hc : c = bs.length)
    (hk : (MS.r ops none l k ⟨(d, .a (.c (.d (.c (.string ⟨bs.toArray⟩))))) :: E, hp, nx⟩).ok x) : (MS.r ops none ((i, { dst := some d, op := .convert s t y, type := ty, pos := pos, after := af, guard := g }) :: l) k ⟨E, hp, nx⟩).ok x := by
  obtain ⟨p1, p2, p3⟩ := aD hg
  refine MS.op (fp := [⟨gr, t0, .row m (cu bs) e 1⟩]) (rest := bi hp gr) false false hb.2 p1 (Nat.le_refl _) (LS.yes (o := { dst := some d, op := .convert s t y, type := ty, pos := pos, after := af, guard := g }) hb.1 (LS.convB (T := T) hy hs he ht hn hc)) trivial (fun _ => ⟨_, _, ⟨rfl, rfl⟩, fun _ _ h => h⟩) (fun h => by cases h) ?_
  rintro q fp' ⟨rfl, rfl⟩
  exact ⟨by simp [names], by simp [names], fun _ => ⟨rfl, rfl⟩, hp, p1, hk⟩
theorem LS.convD {pk : Pk} {ops : Array Oper} {d : Option Tmp} {s t e : TypeId} {y : Operand} {Er : XE} {bs : List UInt8} {rows : List (List D)} (hrows : rows = cu bs) (hy : xev Er y = some (.a (.c (.d (.s rows))))) (hs : T.bt.get s = some (.sl e 1 1)) (he : T.bt.get e = some (.i .u8)) (ht : T.bt.get t = some .s) :
    LS P pk ops { dst := d, op := .convert s t y, type := ty, pos := pos, after := af, guard := none } Er [] nx nx (fun x fp' => x = .a (.c (.d (.c (.string ⟨bs.toArray⟩)))) ∧ fp' = []) := by
  subst hrows
  intro w0 N Q rest env own H V sg hl hV htp hf hd _ hh
  obtain ⟨v, h1, h2⟩ := hl.lks _ _ hy
  have hh' := hh (.string ⟨bs.toArray⟩) (.a (.c (.d (.c (.string ⟨bs.toArray⟩))))) _ V H sg ⟨rfl, rfl⟩ (by simp only [XV.rel, XA.rel, XC.rel, rd]; exact ⟨trivial, rfl⟩) hV htp (VX.refl _ _ _) (Le.refl _)
  obtain ⟨z, hS⟩ := cM (BT.all_get T.ok hs)
  have u1 : P.underlying s = some (.slice e) := hS.und
  have u2 : P.underlying e = some (.int .u8) := tok_i (BT.all_get T.ok he)
  have u3 : P.underlying t = some .string := tok_s (BT.all_get T.ok ht)
  simp only [XV.rel, XA.rel, XC.rel, rd] at h2
  obtain ⟨A, c, sz, rfl, h3, h4, h5⟩ := h2
  have hlen : (cu bs).length = bs.length := List.length_map ..
  refine TL.val rfl hd (fun a w ha hw => ⟨w, ?_, hw⟩) hh'
  have hr : (convert s t (.slice A (cu bs).length c)).run P w = Result.ok (.string ⟨bs.toArray⟩) w := by
    rw [hlen]
    rcases h5 with h5 | ⟨b, o, rfl, h5⟩
    · have : bs = [] := by
        cases bs with
        | nil => rfl
        | cons => simp [cu] at h5
      subst this
      show (convert s t (.slice A 0 c)).run P w = _
      rw [run_convert_bytes_string w s t e A 0 c u1 u2 u3]
      cases A <;> simp [Conv.bytesToString, loadCells] <;> rfl
    · obtain ⟨us, a1, a2, _⟩ := rdr.cells h5
      have := mE a2
      subst this
      exact run_convert_bytes_back (P := P) w s t e ⟨b, o, none⟩ c bs u1 u2 u3 fun q hq => by
        rw [bB]
        exact hw.cel (hAt.get a1 q (.int .u8 (bs[q].toNat : Int)) (by simp [hq, ja]))
  simp only [execOp, ha.ev h1, Sem.run_bind, hr, Result.andThen_ok]
  rfl
theorem Cd {s t e : TypeId} {y : Operand} {Er : XE} {dm : Option (List Rc)} {rows : List (List D)} (bs : List UInt8) (hrows : rows = cu bs) (hEr : vis dm ops { dst := some d, op := .convert s t y, type := ty, pos := pos, after := af, guard := g } E = Er) (hy : xev Er y = some (.a (.c (.d (.s rows))))) (hs : T.bt.get s = some (.sl e 1 1)) (he : T.bt.get e = some (.i .u8)) (ht : T.bt.get t = some .s) (hb : ax ops Er g = some true ∧ okD x.N (some d) = true)
    (hk : (MS.r ops (bE dm ⟨i, [], false, false⟩) l k ⟨(d, .a (.c (.d (.c (.string ⟨bs.toArray⟩))))) :: E, hp, nx⟩).ok x) (hdk : DkM dm ops ⟨i, [], false, false⟩ := by first | exact trivial | (refine DK.mk ?_; decide +kernel)) :
    (MS.r ops dm ((i, { dst := some d, op := .convert s t y, type := ty, pos := pos, after := af, guard := g }) :: l) k ⟨E, hp, nx⟩).ok x := MS.val hEr hb (LS.convD (T := T) hrows hy hs he ht) hdk hk
end
end Go.Proofs.YtlmahofogapkgaaGreatDoor.X
namespace Go.Proofs
open Go.Shelf
def Tryz.laysM171_ren : Go.Shelf.Ren := ⟨fun | 171 => 140 | 243 => 173 | 246 => 196 | 283 => 213 | 284 => 214 | 285 => 215 | 286 => 216 | 129 => 230 | 317 => 229 | 318 => 231 | 319 => 232 | 320 => 233 | 337 => 238 | 338 => 239 | n => n, fun | 3 => 3 | 9 => 9 | 2 => 2 | 4 => 4 | 171 => 261 | 0 => 0 | 53 => 262 | 37 => 53 | 5 => 5 | 173 => 265 | 212 => 278 | 51 => 279 | 20 => 20 | 213 => 280 | 46 => 203 | 232 => 295 | 233 => 296 | n => n, fun | 17 => 1 | 18 => 4 | 19 => 5 | n => n⟩
theorem Tryz.laysM171 : Go.Proofs.LaysM.n171 Tryz.prog Tryz.laysM171_ren := {
  mixed := by kernel_rfl
  f129 := Tryz.func230.trans (congrArg some (by kernel_rfl))
  f171 := Tryz.func140.trans (congrArg some (by kernel_rfl))
  f243 := Tryz.func173.trans (congrArg some (by kernel_rfl))
  f246 := Tryz.func196.trans (congrArg some (by kernel_rfl))
  f283 := Tryz.func213.trans (congrArg some (by kernel_rfl))
  f284 := Tryz.func214.trans (congrArg some (by kernel_rfl))
  f285 := Tryz.func215.trans (congrArg some (by kernel_rfl))
  f286 := Tryz.func216.trans (congrArg some (by kernel_rfl))
  f317 := Tryz.func229.trans (congrArg some (by kernel_rfl))
  f318 := Tryz.func231.trans (congrArg some (by kernel_rfl))
  f319 := Tryz.func232.trans (congrArg some (by kernel_rfl))
  f320 := Tryz.func233.trans (congrArg some (by kernel_rfl))
  f337 := Tryz.func238.trans (congrArg some (by kernel_rfl))
  f338 := Tryz.func239.trans (congrArg some (by kernel_rfl))
  t0 := Tryz.underlying0
  a0 := Tryz.isAgg0
  z0 := Tryz.sizeOf0
  v0 := Tryz.zeroValue0
  t2 := Tryz.underlying2
  a2 := Tryz.isAgg2
  z2 := Tryz.sizeOf2
  v2 := Tryz.zeroValue2
  t3 := Tryz.underlying3
  a3 := Tryz.isAgg3
  z3 := Tryz.sizeOf3
  v3 := Tryz.zeroValue3
  t4 := Tryz.underlying4
  a4 := Tryz.isAgg4
  z4 := Tryz.sizeOf4
  v4 := Tryz.zeroValue4
  t5 := Tryz.underlying5
  a5 := Tryz.isAgg5
  z5 := Tryz.sizeOf5
  v5 := Tryz.zeroValue5
  t9 := Tryz.underlying9
  a9 := Tryz.isAgg9
  z9 := Tryz.sizeOf9
  v9 := Tryz.zeroValue9
  t20 := Tryz.underlying20
  a20 := Tryz.isAgg20
  z20 := Tryz.sizeOf20
  v20 := Tryz.zeroValue20
  t37 := Tryz.underlying53
  a37 := Tryz.isAgg53
  z37 := Tryz.sizeOf53
  v37 := Tryz.zeroValue53
  t46 := Tryz.underlying203
  a46 := Tryz.isAgg203
  z46 := Tryz.sizeOf203
  v46 := Tryz.zeroValue203
  t51 := Tryz.underlying279
  a51 := Tryz.isAgg279
  z51 := Tryz.sizeOf279
  v51 := Tryz.zeroValue279
  t53 := Tryz.underlying262
  a53 := Tryz.isAgg262
  z53 := Tryz.sizeOf262
  v53 := Tryz.zeroValue262
  t171 := Tryz.underlying261
  a171 := Tryz.isAgg261
  z171 := Tryz.sizeOf261
  v171 := Tryz.zeroValue261
  t173 := Tryz.underlying265
  a173 := Tryz.isAgg265
  z173 := Tryz.sizeOf265
  v173 := Tryz.zeroValue265
  t212 := Tryz.underlying278
  a212 := Tryz.isAgg278
  z212 := Tryz.sizeOf278
  v212 := Tryz.zeroValue278
  t213 := Tryz.underlying280
  a213 := Tryz.isAgg280
  z213 := Tryz.sizeOf280
  t232 := Tryz.underlying295
  a232 := Tryz.isAgg295
  z232 := Tryz.sizeOf295
  v232 := Tryz.zeroValue295
  t233 := Tryz.underlying296
  a233 := Tryz.isAgg296
  z233 := Tryz.sizeOf296
  v233 := Tryz.zeroValue296
  g17 := by kernel_rfl
  g18 := by kernel_rfl
  g19 := by kernel_rfl
  i0 := by kernel_rfl
  i2 := by kernel_rfl
  i3 := by kernel_rfl
  i4 := by kernel_rfl
  i5 := by kernel_rfl
  i9 := by kernel_rfl
  i20 := by kernel_rfl
  i37 := by kernel_rfl
  i46 := by kernel_rfl
  i51 := by kernel_rfl
  i53 := by kernel_rfl
  i171 := by kernel_rfl
  i173 := by kernel_rfl
  i212 := by kernel_rfl
  i232 := by kernel_rfl
  i233 := by kernel_rfl
  m17 := by kernel_rfl
  m18 := by kernel_rfl
  m19 := by kernel_rfl }
end Go.Proofs
namespace Go.Proofs.YtlmahofogapkgaaGreatDoor.K
open Go Go.RowKit Go.Proofs Go.Sort
theorem St.grown {w0 w : World} {own : List Seg} {H : Hp} (h : St w0 H own w) (k : Nat) (os : Array Obj) : St w0 H own (grow (w.drewN k) os) := by
  have up : ∀ {b : Nat} {o : Obj}, w.heap[b]? = some o → (grow (w.drewN k) os).heap[b]? = some o := fun {b} {o} hb => by
    show (w.heap ++ os)[b]? = some o
    rw [Array.getElem?_append_left (Array.getElem?_eq_some_iff.1 hb).1]; exact hb
  exact ⟨h.os, ⟨h.tape.1, Nat.le_trans h.tape.2 (Nat.le_add_right _ _)⟩, h.output, fun b o hb => up (h.imm b o hb), fun p hp => up (h.own_at p hp), h.apart, h.nodup⟩
theorem dec_itoa : ∀ n : Nat, Lib.decDigits n = dY n := fun n => by
  induction n using Nat.strongRecOn with
  | ind n ih =>
    rw [Lib.decDigits, dY]
    split
    · rfl
    · rw [ih _ (by omega)]
def TabH (H : Hp) : Prop := ∃ e fz, H 1 = some (.cells (Lib.pow10Tab.map fun z => Value.int .u64 z).toArray e fz)
theorem TabH.mono {H H' : Hp} (hl : Le H H') (h : TabH H) : TabH H' := by
  obtain ⟨e, fz, h⟩ := h
  exact ⟨e, fz, hl _ _ h⟩
theorem gw {n : Int} (h0 : 0 ≤ n) (h1 : n ≤ 9223372036854775807) {w0 : World} {H : Hp} {own : List Seg} (hT : TabH H) : Fn Tryz.prog 140 [.int .i64 n] w0 H own (fun r o H' => r = .string (bo n.toNat) ∧ o = own ∧ Le H H') := by
  obtain ⟨e, fz, hT⟩ := hT
  intro w hw
  refine Calls.mono (Any.strconv_Itoa Tryz.laysM171 n (by omega) h1 w ?_) ?_
  · have hb := hw.imm _ _ hT
    unfold Lib.TabIs World.var?
    rw [show Program.globalNamed Tryz.prog _ = some 1 from by kernel_rfl, Option.bind_some, hb]
  · rintro e w' ⟨rfl, k, os, rfl⟩
    refine ⟨.string (bo n.toNat), own, H, ?_, ⟨rfl, rfl, Le.refl _⟩, hw.grown k os⟩
    rw [Lib.itoa, if_neg (by omega), dec_itoa]; rfl
section
variable {P : Program} {w0 : World} {N : Nat} {Q : Exit → Act → World → Prop} {env : Env} {own : List Seg} {H : Hp} {ops : Array Oper} {rest : List Oper}
variable {d : Option Tmp} {ty : TypeId} {pos : String} {af : Array Edge}
end
section
variable {P : Program} {w0 : World} {N : Nat} {Q : Exit → Act → World → Prop} {env : Env} {own : List Seg} {H : Hp} {ops : Array Oper} {rest : List Oper}
variable {d : Option Tmp} {ty : TypeId} {pos : String} {af : Array Edge}
def andI (k : IntKind) (x y : Int) : Int := k.wrap (BitVec.ofInt k.bits x &&& BitVec.ofInt k.bits y).toNat
end
theorem and15 (b : UInt8) : andI .u8 (b.toNat : Int) 15 = ((b.toNat % 16 : Nat) : Int) := by
  have h : ∀ n : Nat, n < 256 → andI .u8 (n : Int) 15 = ((n % 16 : Nat) : Int) := by decide +kernel
  exact h _ b.toNat_lt
theorem shr4 (b : UInt8) : (b.toNat : Int).fdiv (2 ^ (min (4 : Int).toNat IntKind.u8.bits)) = ((b.toNat / 16 : Nat) : Int) := by
  have h : ∀ n : Nat, n < 256 → (n : Int).fdiv (2 ^ (min (4 : Int).toNat IntKind.u8.bits)) = ((n / 16 : Nat) : Int) := by decide +kernel
  exact h _ b.toNat_lt
theorem ty_kids {k n : Int} {nm : ByteArray} {ts : List Ty4} (h : rTy (.mk k nm n ts) = true ∨ az (.mk k nm n ts) 7 = true) : (k = 5 ∨ k = 6 → ∃ u, ts = [u]) ∧ (¬ (k = 5 ∨ k = 6) → ts = []) := by
  rcases h with h | h
  · by_cases h5 : k = 5 ∨ k = 6
    · rw [rTy_a h5] at h
      simp only [Bool.and_eq_true, decide_eq_true_eq] at h
      refine ⟨fun _ => ?_, fun e => absurd h5 e⟩
      match ts, h.1.2 with
      | [u], _ => exact ⟨u, rfl⟩
    · refine ⟨fun e => absurd e h5, fun _ => ?_⟩
      by_cases h4 : k = 4
      · rw [rTy_n h4] at h
        simp only [Bool.and_eq_true, decide_eq_true_eq] at h
        exact List.length_eq_zero_iff.1 h.2
      · by_cases h1 : k = 1 ∨ k = 2 ∨ k = 3
        · rw [rTy_w h1] at h
          simp only [Bool.and_eq_true, decide_eq_true_eq] at h
          exact List.length_eq_zero_iff.1 h.2
        · rw [rTy_0 h1 h4 h5] at h; cases h
  · simp only [az, Bool.and_eq_true, decide_eq_true_eq] at h
    exact ⟨fun e => by omega, fun _ => List.length_eq_zero_iff.1 h.2⟩
def aM : List (Int × Value) := [(15, .string jK), (14, .string jJ), (13, .string eF), (12, .string ga), (11, .string w_in), (10, .string f9), (9, .string jI), (8, .string fZ), (7, .string jH), (6, .string jG), (5, .string fY), (4, .string fX), (3, .string eE), (2, .string w_id), (1, .string w_num)]
theorem word_get {k : Int} (h : 1 ≤ k ∧ k ≤ 15) : (aq aM (.int .i64 k)).getD (.string ⟨#[]⟩) = .string (exW k) := by
  rcases kind15 h with rfl | rfl | rfl | rfl | rfl | rfl | rfl | rfl | rfl | rfl | rfl | rfl | rfl | rfl | rfl
  · rw [show aq aM (.int .i64 1) = some (.string w_num) from by simp [aM, aq]]; rfl
  · rw [show aq aM (.int .i64 2) = some (.string w_id) from by simp [aM, aq]]; rfl
  · rw [show aq aM (.int .i64 3) = some (.string eE) from by simp [aM, aq]]; rfl
  · rw [show aq aM (.int .i64 4) = some (.string fX) from by simp [aM, aq]]; rfl
  · rw [show aq aM (.int .i64 5) = some (.string fY) from by simp [aM, aq]]; rfl
  · rw [show aq aM (.int .i64 6) = some (.string jG) from by simp [aM, aq]]; rfl
  · rw [show aq aM (.int .i64 7) = some (.string jH) from by simp [aM, aq]]; rfl
  · rw [show aq aM (.int .i64 8) = some (.string fZ) from by simp [aM, aq]]; rfl
  · rw [show aq aM (.int .i64 9) = some (.string jI) from by simp [aM, aq]]; rfl
  · rw [show aq aM (.int .i64 10) = some (.string f9) from by simp [aM, aq]]; rfl
  · rw [show aq aM (.int .i64 11) = some (.string w_in) from by simp [aM, aq]]; rfl
  · rw [show aq aM (.int .i64 12) = some (.string ga) from by simp [aM, aq]]; rfl
  · rw [show aq aM (.int .i64 13) = some (.string eF) from by simp [aM, aq]]; rfl
  · rw [show aq aM (.int .i64 14) = some (.string jJ) from by simp [aM, aq]]; rfl
  · rw [show aq aM (.int .i64 15) = some (.string jK) from by simp [aM, aq]]; rfl
abbrev cQ (c : List Sm) : Tr := .node mr (c.map tSm)
section
variable {k n : Int} {nm : ByteArray} {t : Ty4} {es : List Ex} {b el : List Sm} {cs : List (List Sm)}
theorem tCs_map' (cs : List (List Sm)) : tCs cs = cs.map cQ := by
  rw [tCs_map]; exact List.map_congr_left fun c _ => by rw [dP]
theorem bW : tSm (.mk k nm t n es b el cs) = .node (smL k nm n) ((if k = 1 then [tTy t] else []) ++ (es.map tEx ++ smT k (b.map tSm) (el.map tSm) (cs.map cQ))) := by
  rw [tSm, gj, dP, dP, tCs_map']
theorem aW (h : rSm (.mk k nm t n es b el cs) = true) : aB k ≤ (es.length : Int) ∧ (es.length : Int) ≤ aY k ∧ (eB k = false → fA k = false → nm = eS) := by
  rw [rSm] at h
  simp only [Bool.and_eq_true] at h
  obtain ⟨⟨⟨⟨⟨⟨⟨⟨⟨⟨⟨⟨⟨⟨_, h2⟩, h3⟩, _⟩, h5⟩, _⟩, _⟩, _⟩, _⟩, _⟩, _⟩, _⟩, _⟩, _⟩, _⟩ := h
  refine ⟨of_decide_eq_true h2, of_decide_eq_true h3, fun e1 e2 => ?_⟩
  rw [bU, e1, e2] at h5
  simpa using h5
theorem one_of {l : List Ex} (h1 : 1 ≤ (l.length : Int)) (h2 : (l.length : Int) ≤ 1) : ∃ x, l = [x] := by
  match l, h1, h2 with
  | [x], _, _ => exact ⟨x, rfl⟩
  | _ :: _ :: _, _, h => simp at h; omega
theorem fb {l : List Ex} (h2 : (l.length : Int) ≤ 0) : l = [] := List.length_eq_zero_iff.1 (by omega)
theorem tSm_1 (hk : k = 1) (h : rSm (.mk k nm t n es b el cs) = true) : ∃ x, es = [x] ∧ tSm (.mk k nm t n es b el cs) = .node (au w_let nm) [tTy t, tEx x] := by
  subst hk
  obtain ⟨h1, h2, h3⟩ := aW h
  obtain ⟨x, rfl⟩ := one_of h1 h2
  refine ⟨x, rfl, ?_⟩
  rw [bW]
  rfl
theorem tSm_2 (hk : k = 2) (h : rSm (.mk k nm t n es b el cs) = true) : tSm (.mk k nm t n es b el cs) = .node gb (es.map tEx) := by
  subst hk
  obtain ⟨h1, h2, h3⟩ := aW h
  have hn : nm = eS := h3 (by decide) (by decide)
  rw [bW]
  rw [hn]
  show Tr.node gb (es.map tEx ++ []) = _
  rw [List.append_nil]
theorem tSm_3 (hk : k = 3) (h : rSm (.mk k nm t n es b el cs) = true) : ∃ x, es = [x] ∧ tSm (.mk k nm t n es b el cs) = .node w_if [tEx x, .node gT (b.map tSm), .node gV (el.map tSm)] := by
  subst hk
  obtain ⟨h1, h2, h3⟩ := aW h
  have hn : nm = eS := h3 (by decide) (by decide)
  obtain ⟨x, rfl⟩ := one_of h1 h2
  refine ⟨x, rfl, ?_⟩
  rw [bW]
  rw [hn]
  rfl
theorem tSm_4 (hk : k = 4) (h : rSm (.mk k nm t n es b el cs) = true) : ∃ x, es = [x] ∧ tSm (.mk k nm t n es b el cs) = .node (au mi nm) [tEx x, .node dK (b.map tSm)] := by
  subst hk
  obtain ⟨h1, h2, h3⟩ := aW h
  obtain ⟨x, rfl⟩ := one_of h1 h2
  refine ⟨x, rfl, ?_⟩
  rw [bW]
  rfl
theorem tSm_5 (hk : k = 5) (h : rSm (.mk k nm t n es b el cs) = true) : es = [] ∧ tSm (.mk k nm t n es b el cs) = .node (au w_loop nm) (b.map tSm) := by
  subst hk
  obtain ⟨h1, h2, h3⟩ := aW h
  obtain rfl := fb h2
  refine ⟨rfl, ?_⟩
  rw [bW]
  rfl
theorem tSm_6 (hk : k = 6) (h : rSm (.mk k nm t n es b el cs) = true) : es = [] ∧ tSm (.mk k nm t n es b el cs) = .node (au mj nm) (b.map tSm) := by
  subst hk
  obtain ⟨h1, h2, h3⟩ := aW h
  obtain rfl := fb h2
  refine ⟨rfl, ?_⟩
  rw [bW]
  rfl
theorem tSm_7 (hk : k = 7) (h : rSm (.mk k nm t n es b el cs) = true) : es = [] ∧ tSm (.mk k nm t n es b el cs) = .node (au ml nm) [] := by
  subst hk
  obtain ⟨h1, h2, h3⟩ := aW h
  obtain rfl := fb h2
  refine ⟨rfl, ?_⟩
  rw [bW]
  rfl
theorem tSm_8 (hk : k = 8) (h : rSm (.mk k nm t n es b el cs) = true) : es = [] ∧ tSm (.mk k nm t n es b el cs) = .node (au fB nm) [] := by
  subst hk
  obtain ⟨h1, h2, h3⟩ := aW h
  obtain rfl := fb h2
  refine ⟨rfl, ?_⟩
  rw [bW]
  rfl
theorem tSm_9 (hk : k = 9) (h : rSm (.mk k nm t n es b el cs) = true) : tSm (.mk k nm t n es b el cs) = .node eG (es.map tEx ++ cs.map cQ ++ [.node cz (el.map tSm)]) := by
  subst hk
  obtain ⟨h1, h2, h3⟩ := aW h
  have hn : nm = eS := h3 (by decide) (by decide)
  rw [bW]
  rw [hn]
  show Tr.node eG (es.map tEx ++ (cs.map cQ ++ [.node cz (el.map tSm)])) = _
  rw [List.append_assoc]
theorem tSm_10 (hk : k = 10) (h : rSm (.mk k nm t n es b el cs) = true) : tSm (.mk k nm t n es b el cs) = .node gc (es.map tEx) := by
  subst hk
  obtain ⟨h1, h2, h3⟩ := aW h
  have hn : nm = eS := h3 (by decide) (by decide)
  rw [bW]
  rw [hn]
  show Tr.node gc (es.map tEx ++ []) = _
  rw [List.append_nil]
theorem tSm_11 (hk : k = 11) (h : rSm (.mk k nm t n es b el cs) = true) : tSm (.mk k nm t n es b el cs) = .node (au kG (bo n.toNat)) (es.map tEx) := by
  subst hk
  obtain ⟨h1, h2, h3⟩ := aW h
  rw [bW]
  show Tr.node (au kG (bo n.toNat)) (es.map tEx ++ []) = _
  rw [List.append_nil]
theorem tSm_12 (hk : k = 12) (h : rSm (.mk k nm t n es b el cs) = true) : es = [] ∧ tSm (.mk k nm t n es b el cs) = .node w_poll [] := by
  subst hk
  obtain ⟨h1, h2, h3⟩ := aW h
  have hn : nm = eS := h3 (by decide) (by decide)
  obtain rfl := fb h2
  refine ⟨rfl, ?_⟩
  rw [bW]
  rw [hn]
  rfl
theorem tSm_13 (hk : k = 13) (h : rSm (.mk k nm t n es b el cs) = true) : es = [] ∧ tSm (.mk k nm t n es b el cs) = .node w_halt [] := by
  subst hk
  obtain ⟨h1, h2, h3⟩ := aW h
  have hn : nm = eS := h3 (by decide) (by decide)
  obtain rfl := fb h2
  refine ⟨rfl, ?_⟩
  rw [bW]
  rw [hn]
  rfl
theorem tSm_14 (hk : k = 14) (h : rSm (.mk k nm t n es b el cs) = true) : tSm (.mk k nm t n es b el cs) = .node w_do (es.map tEx) := by
  subst hk
  obtain ⟨h1, h2, h3⟩ := aW h
  have hn : nm = eS := h3 (by decide) (by decide)
  rw [bW]
  rw [hn]
  show Tr.node w_do (es.map tEx ++ []) = _
  rw [List.append_nil]
end
theorem itoaz0 {p : Prop} (h : p := by
  first
    | exact ⟨congrArg Value.string (small1 n (by omega)), rfl, hL⟩
    | exact ⟨congrArg Value.string (small2 n hn (by omega)), rfl, hL⟩) : p := h
theorem small1 : ∀ n, n < 10 → (⟨#[48, 49, 50, 51, 52, 53, 54, 55, 56, 57, 97, 98, 99, 100, 101, 102, 103, 104, 105, 106, 107, 108, 109, 110, 111, 112, 113, 114, 115, 116, 117, 118, 119, 120, 121, 122]⟩ : ByteArray).extract n (n + 1) = bb (decL n) := by decide +kernel
def smallsB : ByteArray := ⟨#[48, 48, 48, 49, 48, 50, 48, 51, 48, 52, 48, 53, 48, 54, 48, 55, 48, 56, 48, 57, 49, 48, 49, 49, 49, 50, 49, 51, 49, 52, 49, 53, 49, 54, 49, 55, 49, 56, 49, 57, 50, 48, 50, 49, 50, 50, 50, 51, 50, 52, 50, 53, 50, 54, 50, 55, 50, 56, 50, 57, 51, 48, 51, 49, 51, 50, 51, 51, 51, 52, 51, 53, 51, 54, 51, 55, 51, 56, 51, 57, 52, 48, 52, 49, 52, 50, 52, 51, 52, 52, 52, 53, 52, 54, 52, 55, 52, 56, 52, 57, 53, 48, 53, 49, 53, 50, 53, 51, 53, 52, 53, 53, 53, 54, 53, 55, 53, 56, 53, 57, 54, 48, 54, 49, 54, 50, 54, 51, 54, 52, 54, 53, 54, 54, 54, 55, 54, 56, 54, 57, 55, 48, 55, 49, 55, 50, 55, 51, 55, 52, 55, 53, 55, 54, 55, 55, 55, 56, 55, 57, 56, 48, 56, 49, 56, 50, 56, 51, 56, 52, 56, 53, 56, 54, 56, 55, 56, 56, 56, 57, 57, 48, 57, 49, 57, 50, 57, 51, 57, 52, 57, 53, 57, 54, 57, 55, 57, 56, 57, 57]⟩
theorem mF : smallsB.size = 200 := by decide +kernel
theorem small2 : ∀ n, n < 100 → 10 ≤ n → smallsB.extract (n * 2) (n * 2 + 2) = bb (decL n) := by decide +kernel
theorem small_n {n : Nat} (hn : n < 100) {w0 : World} {H : Hp} {own : List Seg} :
    Fn Tryz.prog 213 [.int .i64 (n : Int)] w0 H own (fun r own' H' => r = .string (bb (decL n)) ∧ own' = own ∧ Le H H') := by
  refine Fn.enter Tryz.func213 rfl Tryz.ntmps213 rfl ?_; have hL := Le.refl H; refine Y9 ?_
  refine TL.lssB rfl rfl rfl (fun h10 => ?_) (fun h10 => ?_); {
  refine Y7 ?_; refine TL.add rfl rfl rfl ⟨by omega, by omega⟩ ?_; refine TL.sliceStr n (n + 1) rfl rfl rfl rfl (by simp) (by omega) (by show _ ≤ 36; omega) rfl ?_
  refine Y5 ?_; refine TQ.ret1 0 rfl rfl ?_
  exact itoaz0}; {
  refine Y8 ?_; refine TL.mul rfl rfl rfl ⟨by omega, by omega⟩ ?_; refine Y1 ?_; refine TL.mul rfl rfl rfl ⟨by omega, by omega⟩ ?_; refine TL.add rfl rfl rfl ⟨by omega, by omega⟩ ?_; refine TL.sliceStr (n * 2) (n * 2 + 2) rfl rfl rfl (by simp) (by simp) (by omega) (by show _ ≤ smallsB.size; rw [mF]; omega) rfl ?_
  refine Y4 ?_; refine TQ.ret1 0 rfl rfl ?_
  exact itoaz0}
theorem format_n {n : Nat} (hn : n < 100) {w0 : World} {H : Hp} {own : List Seg} :
    Fn Tryz.prog 196 [.int .i64 (n : Int), .int .i64 10] w0 H own (fun r own' H' => r = .string (bb (decL n)) ∧ own' = own ∧ Le H H') := by
  refine Fn.enter Tryz.func196 rfl Tryz.ntmps196 rfl ?_; have hL := Le.refl H; refine Y9 ?_
  refine TL.eqlB rfl rfl rfl (fun hb => ?_) (fun hb => ?_); {
  refine Y7 ?_
  refine TL.leqB rfl rfl rfl (fun h0 => ?_) (fun h0 => ?_); {
  refine Y4 ?_
  refine TL.lssB rfl rfl rfl (fun h100 => ?_) (fun h100 => ?_); {
  refine Y7 ?_; refine Qe (small_n hn) ⟨rfl, trivial⟩ rfl ?_
  rintro _ own H2 ⟨rfl, rfl, hle2⟩
  have hL := Le.trans hL hle2; refine Y6 ?_; refine TQ.ret1 0 rfl rfl ?_
  exact ⟨rfl, rfl, hL⟩}; {
  omega}}; {
  omega}}; {
  exact absurd rfl hb}
theorem itoa_i {n : Nat} (hn : n < 100) {w0 : World} {H : Hp} {own : List Seg} :
    Fn Tryz.prog 173 [.int .i64 (n : Int)] w0 H own (fun r own' H' => r = .string (bb (decL n)) ∧ own' = own ∧ Le H H') := by
  refine Fn.enter Tryz.func173 rfl Tryz.ntmps173 rfl ?_; have hL := Le.refl H; refine Y8 ?_; refine Qe (format_n hn) ⟨rfl, rfl, trivial⟩ rfl ?_
  rintro _ own H2 ⟨rfl, rfl, hle2⟩
  have hL := Le.trans hL hle2; refine Y4 ?_; refine TQ.ret1 0 rfl rfl ?_
  exact ⟨rfl, rfl, hL⟩
theorem itoa_n {n : Nat} (hn : n < 100) {w0 : World} {H : Hp} {own : List Seg} :
    Fn Tryz.prog 140 [.int .i64 (n : Int)] w0 H own (fun r own' H' => r = .string (bb (decL n)) ∧ own' = own ∧ Le H H') := by
  refine Fn.enter Tryz.func140 rfl Tryz.ntmps140 rfl ?_; have hL := Le.refl H; refine Y8 ?_; refine Qe (itoa_i hn) ⟨rfl, trivial⟩ rfl ?_
  rintro _ own H2 ⟨rfl, rfl, hle2⟩
  have hL := Le.trans hL hle2; refine Y4 ?_; refine TQ.ret1 0 rfl rfl ?_
  exact ⟨rfl, rfl, hL⟩
theorem decimal_n {n : Nat} (hn : n < 100) {w0 : World} {H : Hp} {own : List Seg} :
    Fn Tryz.prog 88 [.int .i64 (n : Int)] w0 H own (fun r own' H' => r = .string (bb (decL n)) ∧ own' = own ∧ Le H H') := by
  refine Fn.enter Tryz.func88 rfl Tryz.ntmps88 rfl ?_; have hL := Le.refl H; refine Y8 ?_; refine Qe (itoa_n hn) ⟨rfl, trivial⟩ rfl ?_
  rintro _ own H2 ⟨rfl, rfl, hle2⟩
  have hL := Le.trans hL hle2; refine Y4 ?_; refine TQ.ret1 0 rfl rfl ?_
  exact ⟨rfl, rfl, hL⟩
end Go.Proofs.YtlmahofogapkgaaGreatDoor.K
namespace Go.Proofs.YtlmahofogapkgaaGreatDoor.X
section
open Go Go.RowKit Go.Proofs K
variable {pk : Pk}
theorem am {w p : ByteArray} {ks : List Tr} (hw : w.size ≤ 1000) (hp9 : p.size ≤ 1900000000) : XQ Tryz.prog pk 33 [xs w, xs p, xr (aN ks)] (xd (trd (.node (au w p) ks))) := by
  rw [aZ]
  refine XQ.en Tryz.func33 Tryz.ntmps33 (fun w0 own H V v0 hf => ?_)
  refine G (T := T) 1000 rfl ?_
  refine If rfl (fun h => ?_) (fun h => ?_)
  · rw [show au w p = _ from if_neg (of_decide_eq_true h)]
    refine G (T := T) 1000 rfl ?_ ⟨by rw [ByteArray.size_append]; show w.size + (1 + p.size) ≤ _; omega, by show 1 + p.size ≤ _; omega, trivial⟩
    exact Fq (T := T) rfl rfl
  · rw [show au w p = _ from if_pos (Decidable.not_not.1 (of_decide_eq_false h))]
    refine G (T := T) 1000 rfl ?_
    exact Fq (T := T) rfl rfl
theorem an {w : ByteArray} {ks : List Tr} (hw : w.size ≤ 1000) : XQ Tryz.prog pk 33 [xs w, xs ⟨#[]⟩, xr (aN ks)] (xd (trd (.node w ks))) := am hw (by decide)
theorem aT {α β : Type} {l : List α} {k : Nat} {x : α} (f : α → β) (h : l[k]? = some x) : (l.take (k + 1)).map f = (l.take k).map f ++ [f x] := by rw [List.take_succ, h, List.map_append]; rfl
theorem aK (l : List Tr) (t : Tr) : aN (l ++ [t]) = aN l ++ [trd t] := List.map_append ..
abbrev kQ (pk : Pk) (f : FuncId) {α : Type} (da : α → List D) : Prop := ∀ {l : List α} (tr : α → Tr) {fc : FuncId} {fs cs : List D}, l.length ≤ 1000000000 → (∀ x ∈ l, XQ Tryz.prog pk fc (cs9 fs cs [xd (da x)]) (xd (trd (tr x)))) → XQ Tryz.prog pk f [xr (l.map da), xf fc fs cs] (xr (aN (l.map tr)))
theorem dl (pk : Pk) : kQ pk 34 tdD ∧ kQ pk 36 gbD ∧ kQ pk 38 fuD ∧ kQ pk 84 paD ∧ kQ pk 90 smD ∧ kQ pk 141 exD := by
  refine ⟨fun {l} tr {fc fs cs} hl hcl => XQ.en Tryz.func34 Tryz.ntmps34 (fun w0 own H V v0 hf => ?_), fun {l} tr {fc fs cs} hl hcl => XQ.en Tryz.func36 Tryz.ntmps36 (fun w0 own H V v0 hf => ?_), fun {l} tr {fc fs cs} hl hcl => XQ.en Tryz.func38 Tryz.ntmps38 (fun w0 own H V v0 hf => ?_),
    fun {l} tr {fc fs cs} hl hcl => XQ.en Tryz.func84 Tryz.ntmps84 (fun w0 own H V v0 hf => ?_), fun {l} tr {fc fs cs} hl hcl => XQ.en Tryz.func90 Tryz.ntmps90 (fun w0 own H V v0 hf => ?_), fun {l} tr {fc fs cs} hl hcl => XQ.en Tryz.func141 Tryz.ntmps141 (fun w0 own H V v0 hf => ?_)⟩
  all_goals
    refine G (T := T) 1000 rfl ?_
    refine (Nr 5 35 2 rfl rfl).c ?_
    refine Lq [1, 8, 9] (fun (q : Nat × List (List D)) r => (5, .a (.c (.l 0 1 2 0 q.1 q.1))) :: (10, xi (q.1 : Nat)) :: r) (fun q => [⟨0, 1, .row q.1 q.2 35 2⟩]) 1 (fun q => q.1 ≤ l.length ∧ q.2 = aN ((l.take q.1).map tr)) (fun q => l.length - q.1) (0, []) rfl ⟨Nat.zero_le _, rfl⟩ ?_
    rintro ⟨j, R⟩ ⟨hj, hR⟩; dsimp only at hj hR ⊢
    refine G (T := T) 1000 rfl ?_
    refine If rfl (fun h => ?_) (fun h => ?_)
    · have hjl := of_decide_eq_true h; rw [List.length_map] at hjl
      obtain ⟨y, hy⟩ := al (l := l) (j := j) (by omega)
      refine G (T := T) 12 rfl ?_
      refine Ix (T := T) j (aa hy) rfl rfl rfl rfl ⟨rfl, rfl⟩ rfl rfl ?_
      refine G (T := T) 1000 rfl ?_
      refine Cv (hcl y (List.mem_of_getElem? hy)) rfl rfl rfl rfl rfl ⟨rfl, rfl⟩ ?_
      refine G (T := T) 1000 rfl ?_
      exact Nq (j + 1, R ++ [trd (tr y)]) ⟨by omega, by dsimp only; rw [hR, aT tr hy, aK]⟩ (by show _ - (j + 1) < _ - j; omega)
    · have hjl := of_decide_eq_false h; rw [List.length_map] at hjl
      refine G (T := T) 1000 rfl ?_
      rw [List.take_of_length_le (by omega)] at hR; subst hR
      refine MS.fze 0 rfl ?_ ⟨rfl, rfl, rfl, rfl, rfl, rfl, trivial⟩
      exact Fq (T := T) rfl rfl
theorem gw (hT : ∀ H, pk.hy H → TabH H) {n : Int} (h0 : 0 ≤ n) (h1 : n ≤ 9223372036854775807) : XQ Tryz.prog pk 140 [xi n] (xs (bo n.toNat)) := XQ.ofFn inferInstance (fun w0 own H V vals hy hv => by
  match vals, hv with
  | [v], hv =>
    have := bD hv.1; subst this
    refine (K.gw h0 h1 (hT H hy)).mono ?_
    rintro _ _ H' ⟨rfl, h2, h3⟩
    exact ⟨by simp only [xs, XV.rel, XA.rel, XC.rel, rd]; exact ⟨trivial, rfl⟩, h2, h3⟩)
theorem fd (hT : ∀ H, pk.hy H → TabH H) {n : Int} (h0 : 0 ≤ n) (h1 : n ≤ 9223372036854775807) : XQ Tryz.prog pk 88 [xi n] (xs (bo n.toNat)) := by
  refine XQ.en Tryz.func88 Tryz.ntmps88 (fun w0 own H V v0 hf => ?_)
  refine G (T := T) 1000 rfl ?_
  refine Cq (gw hT h0 h1) rfl rfl rfl rfl rfl ⟨rfl, rfl⟩ ?_
  refine G (T := T) 1000 rfl ?_
  exact Fe (T := T) rfl rfl
theorem fe (hT : ∀ H, pk.hy H → TabH H) {n : Int} (h0 : 0 ≤ n) (h1 : n ≤ 65535) : XQ Tryz.prog pk 86 [.a (.c (.d (.c (.int .u16 n))))] (xs (bo n.toNat)) := by
  refine XQ.en Tryz.func86 Tryz.ntmps86 (fun w0 own H V v0 hf => ?_)
  refine G (T := T) 1000 rfl ?_
  refine Cq (gw hT h0 (by omega)) rfl rfl rfl rfl rfl ⟨rfl, rfl⟩ ?_
  refine G (T := T) 1000 rfl ?_
  exact Fe (T := T) rfl rfl
theorem andX15 (b : UInt8) : andX .u8 (b.toNat : Int) 15 = ((b.toNat % 16 : Nat) : Int) := and15 b
theorem nP {n : Nat} (h : n < 16) : (ByteArray.mk #[48, 49, 50, 51, 52, 53, 54, 55, 56, 57, 97, 98, 99, 100, 101, 102]).data.getD ((n : Nat) : Int).toNat 0 = dO n := by
  have e : ∀ n : Nat, n < 16 → (ByteArray.mk #[48, 49, 50, 51, 52, 53, 54, 55, 56, 57, 97, 98, 99, 100, 101, 102]).data.getD ((n : Nat) : Int).toNat 0 = dO n := by decide +kernel
  exact e n h
theorem diff_hex {s : ByteArray} (hs : s.size ≤ 1000000000) : XQ Tryz.prog pk 89 [xs s] (xs (hexB s)) := by
  refine XQ.en Tryz.func89 Tryz.ntmps89 (fun w0 own H V v0 hf => ?_)
  refine G (T := T) 1000 rfl ?_
  refine (Nr 3 5 1 rfl rfl).c ?_
  refine Lq [0, 6] (fun (q : Nat × Nat × List (List D)) r => (3, .a (.c (.l 0 1 1 0 q.2.1 q.2.1))) :: (7, xi (q.1 : Nat)) :: r) (fun q => [⟨0, 1, .row q.2.1 q.2.2 5 1⟩]) 1 (fun q => q.1 ≤ s.size ∧ q.2.1 = 2 * q.1 ∧ q.2.2 = cu (gX (s.data.toList.take q.1))) (fun q => s.size - q.1) (0, 0, []) rfl ⟨Nat.zero_le _, rfl, rfl⟩ ?_
  rintro ⟨j, m, R⟩ ⟨hj, hm, hR⟩; dsimp only at hj hm hR ⊢
  refine G (T := T) 1000 rfl ?_
  refine If rfl (fun h => ?_) (fun h => ?_)
  · have hlt : j < s.size := by have := of_decide_eq_true h; omega
    have hb : s.data.toList[j]? = some (s.data.getD ((j : Nat) : Int).toNat 0) := by
      rw [Array.getElem?_toList, Array.getElem?_eq_getElem hlt, Array.getD, dif_pos (by exact hlt)]; rfl
    have hb2 := (s.data.getD ((j : Nat) : Int).toNat 0).toNat_lt
    have h16 : (ByteArray.mk #[48, 49, 50, 51, 52, 53, 54, 55, 56, 57, 97, 98, 99, 100, 101, 102]).size = 16 := rfl
    refine G (T := T) 15 rfl ?_
    rw [shr4]
    refine G (T := T) 20 rfl ?_
    rw [andX15]
    refine G (T := T) 22 rfl ?_
    rw [nP (n := _ / 16) (by omega), nP (n := _ % 16) (by omega)]
    refine Gs (T := T) 1000 rfl ?_
    refine Nq (j + 1, m + 2, R ++ cu [dO (_ / 16), dO (_ % 16)]) ⟨hlt, by dsimp only; omega, ?_⟩ (by show _ - (j + 1) < _ - j; omega)
    dsimp only
    rw [hR, kK hb, cu, cu, cu, List.map_append]
  · have hlt : s.size ≤ j := by have := of_decide_eq_false h; omega
    rw [List.take_of_length_le (by simpa using hlt)] at hR
    subst hR
    have hl : m = (gX s.data.toList).length := by rw [gt, hm]; show 2 * j = 2 * s.size; omega
    refine G (T := T) 1000 rfl ?_
    refine Cb (T := T) rfl rfl rfl rfl rfl ⟨rfl, rfl⟩ hl hl ?_
    refine G (T := T) 1000 rfl ?_
    exact Fe (T := T) rfl rfl
end
section
open Go Go.RowKit Go.Proofs K
variable {pk : Pk}
theorem bX {n : Int} (h0 : 0 ≤ n) (h1 : n ≤ 9223372036854775807) : (bo n.toNat).size ≤ 1900000000 := Nat.le_trans (decB_size (by rw [show (10 : Nat) ^ 20 = 100000000000000000000 from by decide]; omega)) (by decide)
theorem ty_num {k n : Int} {nm : ByteArray} {ts : List Ty4} (h : rTy (.mk k nm n ts) = true ∨ az (.mk k nm n ts) 7 = true) (hk : k = 5 ∨ k = 6) : 0 ≤ n ∧ ts.all rTy = true := by
  rcases h with h | h
  · rw [rTy_a hk] at h
    simp only [Bool.and_eq_true, decide_eq_true_eq] at h
    refine ⟨by omega, ?_⟩
    first | exact h.2 | (rw [← eC]; exact h.2) | (rw [eC] at h; exact h.2)
  · simp only [az, Bool.and_eq_true, decide_eq_true_eq] at h; omega
theorem diff_Type (hT : ∀ H, pk.hy H → TabH H) : ∀ (m : Nat) {t : Ty4}, t.size ≤ m → t.ok → (rTy t = true ∨ az t 7 = true) → XQ Tryz.prog pk 87 [xd (tyD t)] (xd (trd (tTy t))) := by
  intro m
  induction m with
  | zero => intro t hm; have := t.size_pos; omega
  | succ m ih =>
  intro t hm hok hr
  obtain ⟨k, nm, n, ts⟩ := t
  obtain ⟨hk, hn, hn2, hts⟩ := hok
  obtain ⟨s1, s2⟩ := ty_kids hr
  have hnum := ty_num hr
  have hsz : (Ty4.mk k nm n ts).size = Ty4.sizes ts + 1 := rfl
  have leaf : ∀ {w}, tyL k nm n = w → ¬ (k = 5 ∨ k = 6) → tTy (.mk k nm n ts) = .node w [] := by rintro w rfl h; rw [s2 h]; rfl
  rw [gR]
  refine XQ.en Tryz.func87 Tryz.ntmps87 (fun w0 own H V v0 hf => ?_)
  refine G (T := T) 100001 rfl ?_
  refine (FzTo.bz 0 rfl).c ?_
  refine G (T := T) 1000 rfl ?_
  iterate 4
    refine If rfl (fun h => ?_) (fun h => ?_)
    · have h9 := of_decide_eq_true h
      rw [leaf (by subst h9; rfl) (by omega)]
      refine G (T := T) 1000 rfl ?_
      refine Cq (an (ks := []) (by decide)) rfl rfl rfl rfl rfl ⟨rfl, rfl⟩ ?_
      refine G (T := T) 1000 rfl ?_
      exact Fq (T := T) rfl rfl
    have := of_decide_eq_false h
    refine G (T := T) 1000 rfl ?_
  refine If rfl (fun h => ?_) (fun h => ?_)
  · have h9 := of_decide_eq_true h
    rw [leaf (w := au jF nm) (by subst h9; rfl) (by omega)]
    refine G (T := T) 1000 rfl ?_
    refine Cq (am (ks := []) (by decide) (by omega)) rfl rfl rfl rfl rfl ⟨rfl, rfl⟩ ?_
    refine G (T := T) 1000 rfl ?_
    exact Fq (T := T) rfl rfl
  have h4 := of_decide_eq_false h
  have rest : ∀ {w : ByteArray} {u : Ty4}, ts = [u] → tyL k nm n = au w (bo n.toNat) → tTy (.mk k nm n ts) = .node (au w (bo n.toNat)) [tTy u] := by rintro w u rfl h; rw [tTy, h]; rfl
  refine G (T := T) 1000 rfl ?_
  refine If rfl (fun h => ?_) (fun h => ?_)
  · have h9 := of_decide_eq_true h
    obtain ⟨u, hu⟩ := s1 (.inl h9)
    obtain ⟨h0, aP⟩ := hnum (.inl h9)
    rw [rest hu (by subst h9; rfl)]
    subst hu
    refine G (T := T) 1000 rfl ?_
    refine Cq (fd hT h0 (by omega)) rfl rfl rfl rfl rfl ⟨rfl, rfl⟩ ?_
    refine G (T := T) 1000 rfl ?_
    refine Ix (T := T) 0 (r := tyD u) rfl rfl rfl rfl rfl ⟨rfl, rfl⟩ rfl rfl ?_
    refine G (T := T) 1000 rfl ?_
    refine Cq (ih (t := u) (by simp only [Ty4.sizes] at hsz; omega) hts.1 (.inl (by simpa using aP))) rfl rfl rfl rfl rfl ⟨rfl, rfl⟩ ?_
    refine G (T := T) 1000 rfl ?_
    refine Cq (am (ks := [tTy u]) (by decide) (bX h0 (by omega))) rfl rfl rfl rfl rfl ⟨rfl, rfl⟩ ?_
    refine G (T := T) 1000 rfl ?_
    exact Fq (T := T) rfl rfl
  have h5 := of_decide_eq_false h
  have h6 : k = 6 := by
    rcases hr with h | h
    · by_cases h9 : k = 6
      · exact h9
      · rw [rTy, if_neg (by omega), if_neg (by omega), if_neg (by omega)] at h; cases h
    · simp only [az, Bool.and_eq_true, decide_eq_true_eq] at h; omega
  obtain ⟨u, hu⟩ := s1 (.inr h6)
  obtain ⟨h0, aP⟩ := hnum (.inr h6)
  rw [rest (w := w_ptr) hu (by subst h6; rfl)]
  subst hu
  refine G (T := T) 1000 rfl ?_
  refine Cq (fd hT h0 (by omega)) rfl rfl rfl rfl rfl ⟨rfl, rfl⟩ ?_
  refine G (T := T) 1000 rfl ?_
  refine Ix (T := T) 0 (r := tyD u) rfl rfl rfl rfl rfl ⟨rfl, rfl⟩ rfl rfl ?_
  refine G (T := T) 1000 rfl ?_
  refine Cq (ih (t := u) (by simp only [Ty4.sizes] at hsz; omega) hts.1 (.inl (by simpa using aP))) rfl rfl rfl rfl rfl ⟨rfl, rfl⟩ ?_
  refine G (T := T) 1000 rfl ?_
  refine Cq (am (ks := [tTy u]) (by decide) (bX h0 (by omega))) rfl rfl rfl rfl rfl ⟨rfl, rfl⟩ ?_
  refine G (T := T) 1000 rfl ?_
  exact Fq (T := T) rfl rfl
theorem gx (hT : ∀ H, pk.hy H → TabH H) {t : Ty4} (h : t.ok) (hr : rTy t = true ∨ az t 7 = true) : XQ Tryz.prog pk 87 [xd (tyD t)] (xd (trd (tTy t))) := diff_Type hT _ (Nat.le_refl _) h hr
theorem kq (k : Int) : XQ Tryz.prog pk 174 [xi k] (xb (dF k)) := by
  refine XQ.en Tryz.func174 Tryz.ntmps174 (fun w0 own H V v0 hf => ?_)
  refine Gs (T := T) 1000 rfl ?_
  exact Fe (T := T) rfl (congrArg xb (by simp [dF, Bool.or_assoc]))
theorem oy : XQ Tryz.prog pk 175 [] (.a (.c (.d (.mp (fun o => MapR Tryz.prog 3 9 o 15 (aq aM)))))) := by
  refine XQ.en Tryz.func175 Tryz.ntmps175 (fun w0 own H V v0 hf => ?_)
  refine G (T := T) 1000 rfl ?_
  refine Mm (fun o => MapR Tryz.prog 3 9 o 0 (aq [])) (MapR.nil _ _ _) ⟨rfl, rfl⟩ ?_
  iterate 15 (refine In3 rfl rfl rfl rfl rfl rfl rfl rfl ⟨by omega, by omega⟩ (by omega) (by simp [aq]) ?_)
  refine G (T := T) 1000 rfl ?_
  refine (FzTo.mz 0 rfl).e ?_
  exact Fe (T := T) rfl rfl
theorem zeroS (w : World) : (zeroValue 9).run Tryz.prog w = .ok (.string ⟨#[]⟩) w := by simp [zeroValue, typeInfo, show Tryz.prog.info? 9 = some Tryz.t9 from by kernel_rfl]; rfl
theorem ite_le {p : Prop} [Decidable p] {a b : ByteArray} (ha : a.size ≤ 1000) (hb : b.size ≤ 1000) : (if p then a else b).size ≤ 1000 := by split <;> assumption
theorem exW_le (k : Int) : (exW k).size ≤ 1000 := by unfold exW; repeat' (first | apply ite_le | decide)
theorem diff_Expr (hT : ∀ H, pk.hy H → TabH H) : ∀ (m : Nat), m ≤ 1000000000 → ∀ {e : Ex}, e.size ≤ m → e.ok → rEx e = true → XQ Tryz.prog pk 142 [xd (exD e)] (xd (trd (tEx e))) := by
  intro m
  induction m with
  | zero => intro _ e hm; have := e.size_pos; omega
  | succ m ih =>
  intro hB e hm hok hr
  obtain ⟨k, nm, n, ks⟩ := e
  obtain ⟨hk, hn, hn2, hks⟩ := hok
  have hsz : (Ex.mk k nm n ks).size = Ex.sizes ks + 1 := rfl
  have hlen := Ex.len_le ks
  rw [rEx, be] at hr
  simp only [Bool.and_eq_true] at hr
  have hk15 := of_decide_eq_true hr.1.1.1.1
  have aP := List.all_eq_true.1 hr.2
  rw [jC, show tEx (.mk k nm n ks) = .node (au (exW k) (if dF k then bo n.toNat else nm)) (ks.map tEx) from by rw [tEx, gj]]
  refine XQ.en Tryz.func142 Tryz.ntmps142 (fun w0 own H V v0 hf => ?_)
  refine G (T := T) 100001 rfl ?_
  refine (FzTo.bz 0 rfl).c ?_
  refine G (T := T) 1000 rfl ?_
  refine Cq (kq k) rfl rfl rfl rfl rfl ⟨rfl, rfl⟩ ?_
  refine G (T := T) 1000 rfl ?_
  refine Cf [1, 2] (fun (_ : Unit) r => (3, xs (if dF k then bo n.toNat else nm)) :: r) (fun _ => [⟨1, 0, .cells [.d (.c (.string eS)), .z] 35⟩]) 2 (fun _ => True) rfl ?_ ?_
  · refine If rfl (fun h => ?_) (fun h => ?_)
    · refine G (T := T) 1000 rfl ?_
      refine Cq (fe hT hn2.1 hn2.2) rfl rfl rfl rfl rfl ⟨rfl, rfl⟩ ?_
      refine G (T := T) 1000 rfl ?_
      rw [if_pos h]
      exact Dn () trivial
    · refine G (T := T) 1000 rfl ?_
      rw [if_neg (by rw [h]; simp)]
      exact Dn () trivial
  rintro _ -
  refine G (T := T) 1000 rfl ?_
  refine Cq oy rfl rfl rfl rfl rfl ⟨rfl, rfl⟩ ?_
  refine G (T := T) 1000 rfl ?_
  refine Lu (T := T) (xs (exW k)) (fun V H => ?_) K3 (key3 hk) zeroS rfl rfl rfl rfl rfl ⟨rfl, rfl⟩ ?_
  · rw [if_neg (by simp), word_get hk15]; simp only [xs, XV.rel, XA.rel, XC.rel, rd]; exact ⟨trivial, rfl⟩
  refine G (T := T) 1000 rfl ?_
  refine Cq ((dl pk).2.2.2.2.2 tEx (fs := []) (cs := []) (by omega) (fun x hx => ih (by omega) (by have := Ex.size_mem hx; omega) (Ex.oks_mem hks hx) (aP x hx))) rfl rfl rfl rfl rfl ⟨rfl, rfl⟩ ?_
  refine G (T := T) 1000 rfl ?_
  refine Cq (am (ks := ks.map tEx) (exW_le k) (by split <;> first | exact bX hn2.1 (by omega) | omega)) rfl rfl rfl rfl rfl ⟨rfl, rfl⟩ ?_
  refine G (T := T) 1000 rfl ?_
  exact Fq (T := T) rfl rfl
end
open Go Go.RowKit K
structure XN (P : Program) (pk : Pk) (f : FuncId) (args : List XV) (R : XV) (B : XH) (m' : Nat) : Prop where
  pure : XVs.all (fun _ _ => false) args = true
  nm : ∀ nx, (∀ b ∈ bm (muc [] 0 nx []) B, nx ≤ b.g ∧ b.g < nx + m') ∧ (names (bm (muc [] 0 nx []) B)).Nodup
  call : Callable P f
  fn : XFn P pk f args [] 0 m' (fun r hp' => r = R ∧ hp' = B)
section
variable {P : Program} {pk : Pk} {f : FuncId} {fn : Func} {c : Code} {args : List XV} {N m' : Nat} {R : XV} {B : XH}
abbrev Cz (P : Program) (pk : Pk) (w0 : World) (own : List Seg) (H : Hp) (V : Vn) (v0 : ∀ g t, V g t ≠ none → t = 0 ∧ g ∈ ([] : List Nat)) (hf : (∀ g ∈ ([] : List Nat), g < 0) ∧ pk.hy H) (N : Nat) (fn : Func) (m' : Nat) (R : XV) (B : XH) : Cx P := Cx.of P (Bs.mk w0 own H V 0 [] pk v0 hf) N fn m' (fun r hp' => r = R ∧ hp' = B)
theorem XN.en (hf : P.funcs[f]? = some fn) (hN : fn.ntmps = N) (h : ∀ w0 own H V v0 hf, (MS.c c [] ⟨dB 0 args, [], 0⟩).ok (Cz P pk w0 own H V v0 hf N fn m' R B)) (hb : fn.body = some c := by rfl) (hn : (fn.name == "runtime.NumGoroutine") = false := by rfl) (hl : Nat.ble args.length N = true := by rfl) (ha : XVs.all (fun _ _ => false) args = true := by rfl)
    (hm : ∀ nx, (∀ b ∈ bm (muc [] 0 nx []) B, nx ≤ b.g ∧ b.g < nx + m') ∧ (names (bm (muc [] 0 nx []) B)).Nodup := by intro nx; simp [bm, muc, names, Nat.blt, show Nat.ble 1 0 = false from rfl]) : XN P pk f args R B m' :=
  ⟨ha, hm, Callable.of hf hn hb, XFn.enter hf hb hN hl rfl h⟩
theorem Fz {T : Tb P} {w0 : World} {own : List Seg} {H : Hp} {V : Vn} {v0 : ∀ g t, V g t ≠ none → t = 0 ∧ g ∈ ([] : List Nat)} {hf : (∀ g ∈ ([] : List Nat), g < 0) ∧ pk.hy H} {s : XS} {e : Exit} {us : List XA} (nm : Nat → Nat) (hr : df T s fn.results.toList = some us) (hm : Mt 0 [] ⟨[(0, co1 R (cP us))], s.hp, s.nx⟩ ⟨[(0, R)], B, m'⟩ nm) (he : e = .ret ∨ e = .normal := by first | exact .inl rfl | exact .inr rfl) :
    (MS.e e [] s).ok (Cz P pk w0 own H V v0 hf N fn m' R B) := ME.fin nm he hr hm ⟨rfl, rfl⟩
variable {x : Cx P} {k : List Fr} {E Er : XE} {hp : XH} {nx i : Nat} {ops : List Oper} {dm : Option (List Rc)} {l : List (Nat × Oper)} {d : Tmp} {ty : TypeId} {pos : String} {af : Array Edge} {g : Option (Nat × Bool)}
theorem Cn {opd : Operand} {xs : List Operand} {tys : Array TypeId} {fv : XV} {us : List XV} (h : XN P x.B.pk f args R B m')
    (hEr : vis dm ops { dst := some d, op := .call { callee := .value opd, args := xs.toArray, argTypes := tys }, type := ty, pos := pos, after := af, guard := g } E = Er) (hfv : xev Er opd = some fv) (hfn : fnv fv = some (f, [], [])) (hus : fo (xev Er) xs = some us)
    (hargs : cos args us = args) (hb : ax ops Er g = some true ∧ okD x.N (some d) = true)
    (hk : (MS.r ops (bE dm ⟨i, List.range' nx m', true, false⟩) l k ⟨(d, R.ren (muc [] 0 nx [])) :: E, bm (muc [] 0 nx []) B ++ hp, nx + m'⟩).ok x) (hdk : DkM dm ops ⟨i, List.range' nx m', true, false⟩ := by first | exact trivial | (refine DK.mk ?_; decide +kernel)) :
    (MS.r ops dm ((i, { dst := some d, op := .call { callee := .value opd, args := xs.toArray, argTypes := tys }, type := ty, pos := pos, after := af, guard := g }) :: l) k ⟨E, hp, nx⟩).ok x := by
  obtain ⟨h1, h2, hcl, h3⟩ := h
  have mono : ∀ {xs : List XV}, XVs.all (fun _ _ => false) xs = true → XVs.all (low 0) xs = true := by
    have hp : (fun g t => low 0 g t) = fun _ _ => false := by funext g t; simp [low, Nat.blt]
    intro xs hx
    have : low 0 = fun _ _ => false := hp
    rw [this]; exact hx
  have e := XVs.ren_pure (μ := muc [] 0 nx []) h1
  have e0 : names ([] : XH) ++ List.range' nx (nx + (m' - 0) - nx) = List.range' nx m' := by simp [names]
  obtain ⟨n1, n2⟩ := h2 nx
  refine MS.call [] true false h3 hEr hfv hfn hcl hus rfl (by show SubV _ (XVs.ren (muc [] 0 nx []) args); rw [e]; exact SubV.stat hargs) rfl (by simp only [fR, mono h1, Bool.true_and]; rfl) ⟨⟨hb.1, rfl⟩, by rw [hb.2]; simp [bc]⟩ (by rw [e0]; exact hdk) (fun h => by cases h) (fun _ => ⟨R, B, ⟨rfl, rfl⟩, fun _ _ h => h, fun b hb => .inr (n1 b hb), n2⟩) (fun h => by cases h) ?_
  rintro r hp' ⟨rfl, rfl⟩
  rw [e0]
  exact hk
theorem Lo {T : Tb P} {tt : TypeId} {y : Operand} {gp t0 o e : Nat} {cs : List XC} {ti : TI} (u : XC) (hx : at_ cs o = some u) (hEr : vis dm ops { dst := some d, op := .load tt y, type := ty, pos := pos, after := af, guard := g } E = Er) (hy : xev Er y = some (.a (.c (.p gp t0 o)))) (hg : ah hp gp = some ⟨gp, t0, .cells cs e⟩) (ht : T.bt.get tt = some ti) (h1 : (!ti.agg && Nat.beq ti.n 1) = true) (hb : ax ops Er g = some true ∧ okD x.N (some d) = true)
    (hk : (MS.r ops (bE dm ⟨i, [gp], false, false⟩) l k ⟨(d, .a (.c u)) :: E, hp, nx⟩).ok x) (hdk : DkM dm ops ⟨i, [gp], false, false⟩ := by first | exact trivial | (refine DK.mk ?_; decide +kernel)) :
    (MS.r ops dm ((i, { dst := some d, op := .load tt y, type := ty, pos := pos, after := af, guard := g }) :: l) k ⟨E, hp, nx⟩).ok x := by
  subst hEr
  obtain ⟨p1, p2, p3⟩ := aD hg
  simp only [Bool.and_eq_true, Bool.not_eq_true'] at h1
  have e0 : names [(⟨gp, t0, .cells cs e⟩ : XB)] ++ List.range' nx (nx - nx) = [gp] := by simp [names]
  have hxop : xop T (xev (vis dm ops { dst := some d, op := .load tt y, type := ty, pos := pos, after := af, guard := g } E)) (ah hp) nx (.load tt y) = some (.r (.a (.c u)) gp, []) := by
    simp only [xop, hy, ht, hg, show Nat.beq gp gp = true from Nat.beq_refl gp, show Nat.beq t0 t0 = true from Nat.beq_refl t0, h1.1, h1.2, Bool.and_self, Bool.or_true, cond_true, de, hx]
  have hLS := LS.yes (pk := x.B.pk) (l := ops) (o := { dst := some d, op := .load tt y, type := ty, pos := pos, after := af, guard := g }) hb.1 (LS.plain (pk := x.B.pk) (ops := ops.toArray) (o := { dst := some d, op := .load tt y, type := ty, pos := pos, after := af, guard := none }) rfl hxop trivial)
  simp only [XK.fp, XK.fp', XK.nx, XK.v, hg, lst] at hLS
  refine MS.op (fp := [⟨gp, t0, .cells cs e⟩]) (rest := bi hp gp) false false hb.2 p1 (Nat.le_refl _) hLS (by rw [e0]; exact hdk) (fun _ => ⟨_, _, ⟨rfl, rfl⟩, fun _ _ h => h⟩) (fun h => by cases h) ?_
  rintro q fp' ⟨rfl, rfl⟩
  refine ⟨by simp [names], by simp [names], fun _ => ⟨rfl, rfl⟩, hp, p1, ?_⟩
  rw [e0]; exact hk
theorem Zc {s s' : XS} {cc : Code} {ob : List Prop} (g : Nat) (h : fzS g s = some (s', ob)) (hk : (MS.c cc k s').ok x) (ho : aR ob := by repeat' (first | exact trivial | apply And.intro | rfl)) : (MS.c cc k s).ok x := MS.fzc g h hk ho
theorem Zr {s s' : XS} {l : List (Nat × Oper)} {ob : List Prop} (g : Nat) (h : fzS g s = some (s', ob)) (hk : (MS.r ops none l k s').ok x) (ho : aR ob := by repeat' (first | exact trivial | apply And.intro | rfl)) : (MS.r ops none l k s).ok x := MS.fzr g h hk ho
end
end Go.Proofs.YtlmahofogapkgaaGreatDoor.X
