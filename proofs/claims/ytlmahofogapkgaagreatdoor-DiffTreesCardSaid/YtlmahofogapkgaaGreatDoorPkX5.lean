/-
  Part 5 of 6 of the proof that DiffTrees returns true for every list of numbers and every two triples, and leaves its arguments as they were. No condition beyond the given statement.
-/
import Derived.Lib.AppendZerosOnto
import Derived.Lib.Overlaps
import Derived.Laws.Externs
import Derived.Laws.Pointers
import Derived.Test.YtlmahofogapkgaaGreatDoorPkX4
set_option linter.unusedVariables false
set_option linter.unusedSimpArgs false
set_option linter.defProp false
set_option linter.all false
set_option maxRecDepth 100000
set_option maxHeartbeats 8000000
namespace Go.Proofs.YtlmahofogapkgaaGreatDoor.X
section
open Go Go.RowKit Go.Proofs K
variable {pk : Pk}
def ib (tn : Nat) : List Td := if tn = 0 then [] else if tn = 1 then [tdS] else [tdS, tdU]
def gB (tn : Nat) : List Gb := gbs0 ++ (if tn = 0 then [] else if tn = 1 then [gbS] else [gbS, gbU])
theorem nY (l : List Gb) (p : Gb) : l.map gbD ++ [gbD p] = (l ++ [p]).map gbD := by rw [List.map_append]; rfl
theorem setR_byt {bs : List UInt8} {j : Nat} {k : Int} (hj : j < bs.length) (h0 : 0 ≤ k) (h1 : k < 256) : setR (cu bs) j 0 [.c (.int .u8 (IntKind.u8.wrap k))] = cu (bs.set j (UInt8.ofNat k.toNat)) := by
  obtain ⟨n, rfl⟩ := Int.eq_ofNat_of_zero_le h0
  have hn : n < 256 := by omega
  have e : ∀ m : Nat, m < 256 → IntKind.u8.wrap (m : Int) = ((UInt8.ofNat m).toNat : Int) := by decide +kernel
  rw [e n hn]
  simp only [setR, cu, List.getElem?_map, List.getElem?_eq_getElem hj, Option.map_some, List.map_set]
  rfl
theorem byt_one (bs : List UInt8) : ∀ r ∈ cu bs, r.length = 1 := fun r hr => by
  obtain ⟨b, _, rfl⟩ := List.mem_map.1 hr
  rfl
theorem nZ (bs : List UInt8) (a n : Nat) : ((cu bs).drop a).take n = cu ((bs.drop a).take n) := by simp [cu, List.map_take, List.map_drop]
theorem zero5 (z : Value) (hz : Sl Tryz.prog 53 5 1 1 z) (H : Hp) : rdL H [.c (.int .u8 0)] z.cells.toList := by
  obtain ⟨i, hi, hz1, _⟩ := hz.ex
  obtain ⟨inf, zv, hi2, hz2, hc⟩ := fJ (BT.all_get T.ok (i := 5) (v := .i .u8) rfl)
  rw [hi2] at hi; cases hi
  rw [hz2] at hz1; cases hz1
  have h9 := hc (fun _ _ => none) H
  revert h9
  generalize z.cells.toList = us
  intro h9
  match us, h9 with
  | [u], h9 => exact ⟨by have h8 : XC.rel (fun _ _ => none) H (.d (.c (.int .u8 0))) u := h9.1; simpa only [XC.rel] using h8, trivial⟩
theorem oL {l : List Int} {fs : List Fu} {tn : Nat} (h1 : ∀ n ∈ l, I64 n) (h2 : l.length ≤ 1000000) (ht : tn ≤ 2) :
    XKp Tryz.prog pk 66 [pm] (mkR l fs tn 0) 4 (fun r => ∃ s1 s2 : ByteArray, r = .a (.a [.d (.s ((ib tn).map tdD)), .d (.s ((gB tn ++ [gbT s1, gbW s2]).map gbD)), .z]) ∧ s1.size ≤ 100 ∧ s2.size ≤ 100) := by
  refine XM.en Tryz.func66 Tryz.ntmps66 (fun w0 own H V v0 hf => ?_)
  refine G (T := T) 100002 rfl ?_
  refine (FzTo.bz 5 rfl).c ?_
  refine G (T := T) 100003 rfl ?_
  refine (FzTo.bz 6 rfl).c ?_
  refine G (T := T) 26 rfl ?_
  refine Br (T := T) rfl rfl rfl rfl rfl ⟨rfl, rfl⟩ ?_
  refine G (T := T) 100005 rfl ?_
  refine (Nrh 7 0 85 3 rfl rfl rfl rfl rfl).c ?_
  change (MS.c _ _ ⟨_, _, 10⟩).ok _
  let PB9 : Nat → List Td → Nat → List Gb → XH := fun n ts m gs => mkR l fs tn 0 ++ [⟨7, 0, .cells [.l 9 1 3 0 n n, .l 8 1 8 0 m m, .z] 29⟩, ⟨9, 1, .row n (ts.map tdD) 85 3⟩, ⟨8, 1, .row m (gs.map gbD) 80 8⟩, ⟨4, 0, .cells [.z, .z, .z] 29⟩]
  refine G (T := T) 1000 rfl ?_
  refine Cf [0, 2, 3, 4, 5] (fun (q : List Td × List Gb) r => r) (fun q => PB9 q.1.length q.1 q.2.length q.2) 10 (fun q => q.1 = (if tn = 0 then [] else [tdS]) ∧ q.2 = gbs0 ++ (if tn = 0 then [] else [gbS])) rfl ?_ ?_
  · refine If rfl (fun h => ?_) (fun h => ?_)
    · have h9 : tn ≠ 0 := by have := of_decide_eq_true h; omega
      refine G (T := T) 1000 rfl ?_
      exact Dn ([tdS], gbs0 ++ [gbS]) ⟨(if_neg h9).symm, by rw [if_neg h9]⟩
    · have h9 : tn = 0 := by have := of_decide_eq_false h; omega
      refine G (T := T) 1000 rfl ?_
      exact Dn ([], gbs0) ⟨(if_pos h9).symm, by rw [if_pos h9]; rfl⟩
  rintro ⟨ts, gs⟩ ⟨e1, e2⟩; dsimp only at e1 e2 ⊢
  have htl : ts.length ≤ 1 := by rw [e1]; split <;> decide
  have hgl : gs.length ≤ 6 := by rw [e2]; split <;> decide
  refine G (T := T) 1000 rfl ?_
  refine Cf [0, 2, 3, 4, 5] (fun (q : Nat × List (List D) × Nat × List (List D)) r => r) (fun q => mkR l fs tn 0 ++ [⟨7, 0, .cells [.l 9 1 3 0 q.1 q.1, .l 8 1 8 0 q.2.2.1 q.2.2.1, .z] 29⟩, ⟨9, 1, .row q.1 q.2.1 85 3⟩, ⟨8, 1, .row q.2.2.1 q.2.2.2 80 8⟩, ⟨4, 0, .cells [.z, .z, .z] 29⟩]) 10 (fun q => q.1 = (ib tn).length ∧ q.2.1 = (ib tn).map tdD ∧ q.2.2.1 = (gB tn).length ∧ q.2.2.2 = (gB tn).map gbD) rfl ?_ ?_
  · refine If rfl (fun h => ?_) (fun h => ?_)
    · have h9 : tn = 2 := by have := of_decide_eq_true h; omega
      subst h9
      subst e1 e2
      refine G (T := T) 1000 rfl ?_
      refine Dn (_, _, _, _) ⟨?_, ?_, ?_, ?_⟩ ⟨⟨_, _, rfl, rfl⟩, rfl, rfl⟩ <;> rfl
    · have h9 : tn ≤ 1 := by have := of_decide_eq_false h; omega
      refine G (T := T) 1000 rfl ?_
      refine Dn (_, _, _, _) ⟨?_, ?_, ?_, ?_⟩ ⟨⟨_, _, rfl, rfl⟩, rfl, rfl⟩
      all_goals (subst e1 e2; have : tn = 0 ∨ tn = 1 := (by omega); rcases this with rfl | rfl <;> rfl)
  rintro ⟨n, R, m, S⟩ ⟨hn, hR, hm, hS⟩; dsimp only at hn hR hm hS ⊢; subst hn hR hm hS
  have htl2 : (ib tn).length ≤ 2 := by unfold ib; (repeat' split) <;> decide
  have hgl2 : (gB tn).length ≤ 7 := by unfold gB; (repeat' split) <;> decide
  refine G (T := T) 81 rfl ?_
  refine Mz (T := T) 16 [.c (.int .u8 0)] rfl rfl rfl rfl ⟨rfl, rfl⟩ rfl (by decide) (by decide) zero5 ?_
  generalize hts : ib tn = ts9 at htl2 ⊢
  generalize hgs : gB tn = gs9 at hgl2 ⊢
  refine G (T := T) 1000 rfl ?_
  refine Lq [0, 2, 3, 4, 5, 7] (fun (q : Nat × List UInt8) r => (8, xi (q.1 : Nat)) :: r) (fun q => mkR l fs tn 0 ++ [⟨7, 0, .cells [.l 9 1 3 0 ts9.length ts9.length, .l 8 1 8 0 gs9.length gs9.length, .z] 29⟩, ⟨9, 1, .row ts9.length (ts9.map tdD) 85 3⟩, ⟨8, 1, .row gs9.length (gs9.map gbD) 80 8⟩, ⟨4, 0, .cells [.z, .z, .z] 29⟩, ⟨10, 0, .row 16 (cu q.2) 5 1⟩]) 11 (fun q => q.1 ≤ 16 ∧ q.2.length = 16) (fun q => 16 - q.1) (0, List.replicate 16 0) rfl ⟨by decide, rfl⟩ ?_
  rintro ⟨j, bs⟩ ⟨hj, hb⟩; dsimp only at hj hb ⊢
  refine G (T := T) 1000 rfl ?_
  refine If rfl (fun h => ?_) (fun h => ?_)
  · have hj1 := of_decide_eq_true h
    obtain ⟨y, hy⟩ := al (l := bs) (j := j) (by omega)
    refine G (T := T) 1000 rfl ?_
    refine Ck [0, 1, 2, 3] (dq (fs := fs) (tn := tn) h1 h2 (n := 256) (by omega) (by omega)) rfl rfl rfl rfl rfl rfl rfl ⟨⟨rfl, rfl⟩, rfl⟩ ?_
    rintro _ ⟨q, rfl, q1, q2⟩
    refine G (T := T) 91 rfl ?_
    refine Iq (T := T) j rfl rfl rfl rfl rfl ⟨rfl, rfl⟩ rfl (by omega) rfl ?_
    refine Sr (T := T) (rows := cu bs) (aa hy) rfl rfl rfl rfl rfl rfl rfl ⟨rfl, rfl⟩ rfl rfl ?_
    rw [setR_byt (by omega) q1 q2]
    refine G (T := T) 1000 rfl ?_
    exact Nq (j + 1, bs.set j (UInt8.ofNat q.toNat)) ⟨by dsimp only; omega, by dsimp only; rw [List.length_set]; exact hb⟩ (by show 16 - (j + 1) < 16 - j; omega)
  · have hbl : (cu bs).length = 16 := by rw [cu, List.length_map]; exact hb
    refine G (T := T) 100017 rfl ?_
    refine Zc 10 rfl ?_
    refine G (T := T) 98 rfl ?_
    refine Sd (T := T) 0 8 rfl ⟨_, _, rfl, rfl⟩ rfl rfl rfl ⟨rfl, rfl⟩ rfl rfl (by decide) (by rw [hbl]; decide) (byt_one bs) ?_
    refine Cd (T := T) ((bs.drop 0).take 8) (nZ bs 0 8) rfl rfl rfl rfl rfl ⟨rfl, rfl⟩ ?_
    refine G (T := T) 110 rfl ?_
    refine Sd (T := T) (ri := none) 8 16 ⟨_, _, rfl, rfl⟩ rfl rfl rfl rfl ⟨rfl, rfl⟩ rfl (by rw [hbl]; rfl) (by decide) (by rw [hbl]; decide) (byt_one bs) ?_
    refine Cd (T := T) ((bs.drop 8).take 8) (nZ bs 8 8) rfl rfl rfl rfl rfl ⟨rfl, rfl⟩ ?_
    refine G (T := T) 100019 rfl ?_
    refine Zc 9 rfl ?_
    refine Zc 8 rfl ?_
    refine G (T := T) 1000 rfl ?_
    refine Fm (T := T) id (.a (.a [.d (.s (ts9.map tdD)), .d (.s ((gs9.map gbD ++ [gbD (gbT ⟨((bs.drop 0).take 8).toArray⟩)]) ++ [gbD (gbW ⟨((bs.drop 8).take 8).toArray⟩)])), .z])) (mkR l fs tn 0) ⟨⟨⟨((bs.drop 0).take 8).toArray⟩, ⟨((bs.drop 8).take 8).toArray⟩, ?_, ?_, ?_⟩, rfl⟩ rfl
    · rw [nY, nY, List.append_assoc]; rfl
    · show ((bs.drop 0).take 8).length ≤ 100; rw [List.length_take]; omega
    · show ((bs.drop 8).take 8).length ≤ 100; rw [List.length_take]; omega
end
section
open Go Go.RowKit Go.Proofs K
variable {pk : Pk}
def FuM (f : Fu) : Prop := FR ⟨f.nm, f.ps, f.res, [], f.fl, f.x, f.y⟩ ∧ SGs 399999999 f.body
def intN : ByteArray := ⟨#[105, 110, 116, 101, 114, 114, 117, 112, 116]⟩
def intF (b : List Sm) : Fu := ⟨intN, [], .mk 7 eS 0 [], b, false, 0, 0⟩
def MP (p : Pg) : Prop := ∃ tn s1 s2 fs hd, tn ≤ 2 ∧ s1.size ≤ 100 ∧ s2.size ≤ 100 ∧ p = ⟨ib tn, gB tn ++ [gbT s1, gbW s2], fs ++ hd⟩ ∧ 1 ≤ fs.length ∧ fs.length ≤ 4 ∧ fs.map (·.nm) = funL.take fs.length ∧ (∀ f ∈ fs, FuM f) ∧ (hd = [] ∨ ∃ b, hd = [intF b] ∧ SGs 100 b)
abbrev iw (f : Fu) (b : List Sm) : Fu := ⟨f.nm, f.ps, f.res, b, f.fl, f.x, f.y⟩
theorem kY (l : List Fu) (p : Fu) : l.map fuD ++ [fuD p] = (l ++ [p]).map fuD := by rw [List.map_append]; rfl
theorem mP {s : ByteArray} {ps : List Par} {k : Int} (hs : funN s = true) (h1 : ∀ p ∈ ps, PrG' p) (h2 : ps.length ≤ 3) (h3 : k = 1 ∨ k = 2 ∨ k = 3 ∨ k = 7) : FR ⟨s, ps, .mk k eS 0 [], [], false, 0, 0⟩ := by
  refine ⟨hs, h1, h2, ⟨?_, ⟨⟨by omega, by omega⟩, by decide, ⟨by omega, by omega⟩, trivial⟩, by simp [Ty4.size, Ty4.sizes]⟩, rfl, rfl, rfl, rfl⟩
  rcases h3 with rfl | rfl | rfl | rfl
  · exact .inl rfl
  · exact .inl rfl
  · exact .inl rfl
  · exact .inr rfl
theorem ZB3 : ZB 3 = 336580000 := by decide
theorem funL_get {i : Nat} (h : i < 4) : ∃ y, funL[i]? = some y ∧ funN y = true := by
  obtain ⟨y, hy⟩ := al (l := funL) (j := i) h
  exact ⟨y, hy, List.any_eq_true.2 ⟨y, List.mem_of_getElem? hy, by simp⟩⟩
theorem XP.en {P : Program} {pk : Pk} {f : FuncId} {fn : Func} {c : Code} {args : List XV} {N : Nat} {Ψ : XV → Prop} (hf : P.funcs[f]? = some fn) (hN : fn.ntmps = N) (hΨ : ∀ r, Ψ r → pure r = true) (h : ∀ w0 own H V v0 hf, (MS.c c [] ⟨dB 0 args, [], 0⟩).ok (Cp P pk w0 own H V v0 hf N fn Ψ)) (hb : fn.body = some c := by rfl) (hn : (fn.name == "runtime.NumGoroutine") = false := by rfl) (hl : Nat.ble args.length N = true := by rfl) (ha : XVs.all (fun _ _ => false) args = true := by rfl) : XP P pk f args Ψ :=
  XP.enter hf hb hN hn hl ha hΨ h
theorem Fp {P : Program} {pk : Pk} {T : Tb P} {fn : Func} {N : Nat} {Ψ : XV → Prop} {s : XS} {w0 : World} {own : List Seg} {H : Hp} {V : Vn} {v0 : ∀ g t, V g t ≠ none → t = 0 ∧ g ∈ ([] : List Nat)} {hf : (∀ g ∈ ([] : List Nat), g < 0) ∧ pk.hy H} {e : Exit} {us : List XA} (r : XV) (hΨ : Ψ r) (hr : df T s fn.results.toList = some us) (hc : co1 r (cP us) = r) (he : e = .ret ∨ e = .normal := by first | exact .inl rfl | exact .inr rfl) (hp : pure r = true := by rfl) :
    (MS.e e [] s).ok (Cp P pk w0 own H V v0 hf N fn Ψ) := ME.finp he hr hc hp hΨ
theorem mk_Made {l : List Int} (h1 : ∀ n ∈ l, I64 n) (h2 : l.length ≤ 1000000) : XP Tryz.prog pk 24 [xr (l.map gu)] (fun r => ∃ p, r = xd (pgD p) ∧ MP p) := by
  refine XP.en Tryz.func24 Tryz.ntmps24 (by rintro _ ⟨p, rfl, _⟩; rfl) (fun w0 own H V v0 hf => ?_)
  refine G (T := T) 100002 rfl ?_
  refine (Nrh 1 5 9 1 rfl rfl rfl rfl rfl).c ?_
  refine (Nrh 1 7 9 1 rfl rfl rfl rfl rfl).c ?_
  refine (Nrh 1 10 71 10 rfl rfl rfl rfl rfl).c ?_
  refine (SRto.wk 1 1 (atP l) rfl rfl rfl rfl ⟨0, Nat.zero_le _, rfl⟩).c ?_
  refine (SRto.wk 1 4 ndP rfl rfl rfl rfl ⟨_, rfl⟩).c ?_
  refine G (T := T) 1000 rfl ?_
  refine Ck [1, 2, 3, 4] (dq (fs := []) (tn := 0) h1 h2 (n := 3) (by omega) (by omega)) rfl rfl rfl rfl rfl rfl rfl ⟨⟨rfl, rfl⟩, rfl⟩ ?_
  rintro _ ⟨tq, rfl, tq1, tq2⟩
  obtain ⟨tn, rfl⟩ := Int.eq_ofNat_of_zero_le tq1
  refine G (T := T) 1000 rfl ?_
  refine Ck [1, 2, 3, 4] (dq (fs := []) (tn := tn) h1 h2 (n := 4) (by omega) (by omega)) rfl rfl rfl rfl rfl rfl rfl ⟨⟨rfl, rfl⟩, rfl⟩ ?_
  rintro _ ⟨mq, rfl, mq1, mq2⟩
  obtain ⟨many, rfl⟩ := Int.eq_ofNat_of_zero_le mq1
  refine G (T := T) 1000 rfl ?_
  refine Ck [1, 2, 3, 4] (dq (fs := []) (tn := tn) h1 h2 (n := 3) (by omega) (by omega)) rfl rfl rfl rfl rfl rfl rfl ⟨⟨rfl, rfl⟩, rfl⟩ ?_
  rintro _ ⟨hq, rfl, _, _⟩
  refine G (T := T) 1000 rfl ?_
  refine Ck [1, 2, 3, 4] (oL (fs := []) (tn := tn) h1 h2 (by omega)) rfl rfl rfl rfl rfl rfl rfl ⟨⟨rfl, rfl⟩, rfl⟩ ?_
  rintro _ ⟨s1, s2, rfl, hs1, hs2⟩
  generalize hts : (ib tn).map tdD = TS
  generalize hgs : (gB tn ++ [gbT s1, gbW s2]).map gbD = GS
  refine G (T := T) 100006 rfl ?_
  refine (Nrh 5 2 71 10 rfl rfl rfl rfl rfl).c ?_
  refine G (T := T) 1000 rfl ?_
  refine Lq [2, 3, 4, 5, 6, 7] (fun (q : Nat × Nat × List (List D) × List Fu) r => (8, xi (q.1 : Nat)) :: r) (fun q => mkRx 1 2 3 4 l q.2.1 q.2.2.1 tn 1 ++ [⟨5, 0, .cells [.d (.s TS), .d (.s GS), .l 6 0 10 0 0 0] 29⟩, ⟨6, 0, .row 0 [] 71 10⟩, ⟨0, 0, .cells [.z, .z, .z] 29⟩]) 7 (fun q => q.1 ≤ 1 + many ∧ q.2.1 = q.2.2.2.length ∧ q.2.2.1 = q.2.2.2.map fuD ∧ q.2.2.2.length = q.1 ∧ q.2.2.2.map (·.nm) = funL.take q.1 ∧ ∀ f ∈ q.2.2.2, FR f) (fun q => 1 + many - q.1) (0, 0, [], []) rfl ⟨Nat.zero_le _, rfl, rfl, rfl, rfl, fun f hf => (by cases hf)⟩ ?_
  rintro ⟨i, n, R, fs⟩ ⟨hi, hn9, hR9, hl, hnm, hF⟩; dsimp only at hi hn9 hR9 hl hnm hF ⊢; subst hn9 hR9
  refine G (T := T) 1000 rfl ?_
  refine If rfl (fun h => ?_) (fun h => ?_)
  · have hi1 := of_decide_eq_true h
    obtain ⟨y, hy, hyf⟩ := funL_get (i := i) (by omega)
    refine G (T := T) 39 rfl ?_
    refine Ix (T := T) (rows := funL.map cq) i (aa hy) rfl rfl rfl rfl ⟨rfl, rfl⟩ rfl rfl ?_
    refine G (T := T) 1000 rfl ?_
    have fin : ∀ {f : Fu}, f.nm = y → FR f → (i + 1 ≤ 1 + many ∧ fs.length + 1 = (fs ++ [f]).length ∧ fs.map fuD ++ [fuD f] = (fs ++ [f]).map fuD ∧ (fs ++ [f]).length = i + 1 ∧ (fs ++ [f]).map (·.nm) = funL.take (i + 1) ∧ ∀ g ∈ fs ++ [f], FR g) := fun {f} h1 h2 => ⟨by omega, by rw [List.length_append]; rfl, kY fs f, by rw [List.length_append, hl]; rfl, by rw [List.map_append, hnm, List.take_succ, hy, ← h1]; rfl, fun g hg => by
      rcases List.mem_append.1 hg with hg | hg
      · exact hF g hg
      · rw [List.mem_singleton.1 hg]; exact h2⟩
    refine If rfl (fun h => ?_) (fun h => ?_)
    · refine G (T := T) 1000 rfl ?_
      refine Cx' [1, 2, 3, 4, 7] (fun a => mkRn 1 2 3 4 l fs tn 1 ++ [fuB' 7 y (.d (.s (a.1.map paD))) a.2.1 (cond a.2.2 .z (.d (.s [])))]) (mO (fs := fs) (tn := tn) h1 h2 y) rfl rfl rfl rfl rfl rfl rfl ⟨⟨rfl, rfl⟩, rfl⟩ (by rintro ⟨_, _, b⟩; cases b <;> rfl) (fun _ => rfl) ?_
      rintro ⟨ps, k, b⟩ ⟨hp1, hp2, hk⟩; dsimp only at hp1 hp2 hk ⊢
      have hFR := mP hyf hp1 hp2 hk
      cases b
      all_goals
        refine G (T := T) 1000 rfl ?_
        exact Nq (i + 1, _, _, fs ++ [⟨y, ps, .mk k eS 0 [], [], false, 0, 0⟩]) (fin rfl hFR) (by show 1 + many - (i + 1) < 1 + many - i; omega)
    · refine G (T := T) 1000 rfl ?_
      exact Nq (i + 1, _, _, fs ++ [⟨y, [], .mk 7 eS 0 [], [], false, 0, 0⟩]) (fin rfl (mP hyf (fun _ h => by cases h) (Nat.zero_le _) (by omega))) (by show 1 + many - (i + 1) < 1 + many - i; omega)
  have hi2 : i = 1 + many := by have := of_decide_eq_false h; omega
  have hfl4 : fs.length ≤ 4 := by omega
  refine G (T := T) 100014 rfl ?_
  refine Zc 4 rfl ?_
  refine G (T := T) 1000 rfl ?_
  refine Lq [2, 3, 4, 5, 6] (fun (q : Nat × Nat × KV × Nat × List (List D) × List Fu) r => (10, xi (q.1 : Nat)) :: r) (fun q => mkQn 1 2 3 l fs tn q.2.1 q.2.2.1.vars [] q.2.2.1.lf q.2.2.1.mn q.2.2.1.ct 1 1 ++ [⟨5, 0, .cells [.d (.s TS), .d (.s GS), .l 6 1 10 0 q.2.2.2.1 q.2.2.2.1] 29⟩, ⟨6, 1, .row q.2.2.2.1 q.2.2.2.2.1 71 10⟩, ⟨0, 0, .cells [.z, .z, .z] 29⟩]) 7 (fun q => q.1 ≤ 1 + many ∧ q.2.2.2.1 = q.2.2.2.2.2.length ∧ q.2.2.2.2.1 = q.2.2.2.2.2.map fuD ∧ q.2.2.2.2.2.length = q.1 ∧ q.2.2.2.2.2.map (·.nm) = funL.take q.1 ∧ ∀ f ∈ q.2.2.2.2.2, FuM f) (fun q => 1 + many - q.1) (0, 0, ⟨[], 0, 0, 0⟩, 0, [], []) rfl ⟨Nat.zero_le _, rfl, rfl, rfl, rfl, fun f hf => (by cases hf)⟩ ?_
  rintro ⟨i2, me, v, n, R, out⟩ ⟨hj, hn9, hR9, hol, honm, hoF⟩; dsimp only at hj hn9 hR9 hol honm hoF ⊢; subst hn9 hR9
  refine G (T := T) 1000 rfl ?_
  refine If rfl (fun h => ?_) (fun h => ?_)
  · have hj1 := of_decide_eq_true h
    obtain ⟨f, hfi⟩ := al (l := fs) (j := i2) (by omega)
    have hFR := hF f (List.mem_of_getElem? hfi)
    have hfy : funL[i2]? = some f.nm := by
      have e : (fs.map (·.nm))[i2]? = some f.nm := by rw [List.getElem?_map, hfi]; rfl
      rw [hnm, List.getElem?_take, if_pos (by omega)] at e
      exact e
    have hpl := hFR.pl
    refine G (T := T) 86 rfl ?_
    refine Ix (T := T) i2 (aa hfi) rfl rfl rfl rfl ⟨rfl, rfl⟩ rfl rfl ?_
    refine G (T := T) 100024 rfl ?_
    refine (SRto.wk 1 4 ndP rfl rfl rfl rfl ⟨_, rfl⟩).c ?_
    refine (Nrh 1 5 9 1 rfl rfl rfl rfl rfl).c ?_
    refine G (T := T) 1000 rfl ?_
    refine Lq [2, 3, 4, 5, 6, 10, 11] (fun (q : Nat × Nat × List (List D) × List ByteArray) r => (12, xi (q.1 : Nat)) :: r) (fun q => mkQx 1 8 3 l fs tn i2 q.2.1 q.2.2.1 [] 8 0 0 1 1 ++ [⟨7, 0, .cells ((fuD f).map .d) 71⟩, ⟨5, 0, .cells [.d (.s TS), .d (.s GS), .l 6 1 10 0 out.length out.length] 29⟩, ⟨6, 1, .row out.length (out.map fuD) 71 10⟩, ⟨0, 0, .cells [.z, .z, .z] 29⟩]) 9 (fun q => q.1 ≤ f.ps.length ∧ q.2.1 = q.2.2.2.length ∧ q.2.2.1 = q.2.2.2.map cq ∧ q.2.2.2.length ≤ q.1 ∧ ∀ s ∈ q.2.2.2, dR s = true) (fun q => f.ps.length - q.1) (0, 0, [], []) rfl ⟨Nat.zero_le _, rfl, rfl, Nat.zero_le _, fun s hs => (by cases hs)⟩ ?_
    rintro ⟨k, n, R, vars⟩ ⟨hk, hn9, hR9, hvl, hvn⟩; dsimp only at hk hn9 hR9 hvl hvn ⊢; subst hn9 hR9
    refine G (T := T) 1000 rfl ?_
    refine If rfl (fun h => ?_) (fun h => ?_)
    · have hkl := of_decide_eq_true h; rw [List.length_map] at hkl
      obtain ⟨p, hp⟩ := al (l := f.ps) (j := k) (by omega)
      refine G (T := T) 98 rfl ?_
      refine Ix (T := T) k (aa hp) rfl rfl rfl rfl ⟨rfl, rfl⟩ rfl rfl ?_
      refine G (T := T) 1000 rfl ?_
      refine If rfl (fun h => ?_) (fun h => ?_)
      · refine G (T := T) 111 rfl ?_
        refine Ix (T := T) k (aa hp) rfl rfl rfl rfl ⟨rfl, rfl⟩ rfl rfl ?_
        refine G (T := T) 1000 rfl ?_
        refine Nq (k + 1, _, _, vars ++ [p.nm]) ⟨by dsimp only; omega, ?_, ?_, by dsimp only; rw [List.length_append]; simp only [List.length_cons, List.length_nil]; omega, fun s hs => ?_⟩ (by show _ - (k + 1) < _ - k; omega) ⟨⟨_, _, rfl, rfl⟩, rfl, rfl⟩
        · dsimp only; rw [List.length_append]; rfl
        · dsimp only; rw [List.map_append]; rfl
        · rcases List.mem_append.1 hs with hs | hs
          · exact hvn s hs
          · rw [List.mem_singleton.1 hs]; exact (hFR.ps p (List.mem_of_getElem? hp)).1
      · refine G (T := T) 1000 rfl ?_
        exact Nq (k + 1, _, _, vars) ⟨by dsimp only; omega, rfl, rfl, by dsimp only; omega, hvn⟩ (by show _ - (k + 1) < _ - k; omega)
    have hc : (⟨l, fs, tn, i2, vars, [], 8, 0, 0⟩ : KC).ok := ⟨h1, h2, hvn, by show vars.length ≤ 1000; omega, by show i2 < fs.length; omega, by show fs.length ≤ 1000; omega, hF, by show tn ≤ 1000; omega, fun s hs => (by cases hs), by show 0 ≤ 1000; omega⟩
    have hI0 : KI (vars.length + 8) ⟨vars, 8, 0, 0⟩ := ⟨hvn, Nat.le_refl _, by show 0 ≤ 8; omega, by show 0 + 8 ≤ 8; omega, by omega⟩
    refine G (T := T) 1000 rfl ?_
    refine Cy [1, 8, 3] (fun a => .a (.c (.l 9 1 11 0 a.2.length a.2.length))) (fun a => mkQn 1 8 3 l fs tn i2 a.1.vars [] a.1.lf a.1.mn a.1.ct 2 2 ++ [⟨9, 1, .row a.2.length (a.2.map smD) 66 11⟩]) (kX false 3 (fun j _ hj => mk_stmts j hj) (by omega) ⟨l, fs, tn, i2, vars, [], 8, 0, 0⟩ (vars.length + 8) 1 hc hI0 rfl (by show 0 + 3 ≤ 8; omega)) rfl rfl rfl rfl rfl rfl rfl ⟨⟨rfl, rfl⟩, rfl⟩ (fun _ => rfl) (fun _ => rfl) rfl ?_
    rintro ⟨v2, ss⟩ ⟨hI2, hS⟩; dsimp only at hI2 hS ⊢
    rw [ZB3] at hS
    have hslen := hS.len
    have fin : ∀ {b : List Sm}, SGs 399999999 b → (i2 + 1 ≤ 1 + many ∧ out.length + 1 = (out ++ [iw f b]).length ∧ out.map fuD ++ [fuD (iw f b)] = (out ++ [iw f b]).map fuD ∧ (out ++ [iw f b]).length = i2 + 1 ∧ (out ++ [iw f b]).map (·.nm) = funL.take (i2 + 1) ∧ ∀ g ∈ out ++ [iw f b], FuM g) := fun {b} hb => ⟨by omega, by rw [List.length_append]; rfl, kY _ _, by rw [List.length_append, hol]; rfl, by rw [List.map_append, honm, List.take_succ, hfy]; rfl, fun g hg => by
      rcases List.mem_append.1 hg with hg | hg
      · exact hoF g hg
      · rw [List.mem_singleton.1 hg]; exact ⟨⟨hFR.nm, hFR.ps, hFR.pl, hFR.res, rfl, hFR.body.2⟩, hb⟩⟩
    refine G (T := T) 1000 rfl ?_
    refine If rfl (fun h => ?_) (fun h => ?_)
    · refine G (T := T) 1000 rfl ?_
      refine Cq (ad ⟨#[103, 48]⟩) rfl rfl rfl rfl rfl ⟨rfl, rfl⟩ ?_
      refine G (T := T) 133 rfl ?_
      refine Zr 9 rfl ?_
      refine G (T := T) 1000 rfl ?_
      have hS2 : SGs 399999999 (ss ++ [outS 1 (ao ⟨#[103, 48]⟩)]) := (hS.snoc (sg_out (n := 1) (by omega) (by omega) (bL (s := ⟨#[103, 48]⟩) (by decide)))).mono (by omega)
      refine Nqn (fun g => bif Nat.beq g 2 then 8 else g) (i2 + 1, i2, v2, _, _, out ++ [iw f (ss ++ [outS 1 (ao ⟨#[103, 48]⟩)])]) ⟨(fin hS2).1, ?_, ?_, (fin hS2).2.2.2⟩ (by show 1 + many - (i2 + 1) < 1 + many - i2; omega) ⟨⟨_, _, rfl, rfl⟩, rfl, rfl⟩
      · exact (fin hS2).2.1
      · rw [← (fin hS2).2.2.1]
        simp only [fuD, List.map_append]
        rfl
    · refine G (T := T) 133 rfl ?_
      refine Zr 9 rfl ?_
      refine G (T := T) 1000 rfl ?_
      exact Nqn (fun g => bif Nat.beq g 2 then 8 else g) (i2 + 1, i2, v2, _, _, out ++ [iw f ss]) (fin (hS.mono (by omega))) (by show 1 + many - (i2 + 1) < 1 + many - i2; omega)
  have hol2 : out.length = 1 + many := by have := of_decide_eq_false h; omega
  have fin : ∀ {hd : List Fu}, (hd = [] ∨ ∃ b, hd = [intF b] ∧ SGs 100 b) → ∀ {r : XV}, r = xd [.s TS, .s GS, .s ((out ++ hd).map fuD)] → ∃ p, r = xd (pgD p) ∧ MP p := fun {hd} h1 {r} h2 => ⟨⟨ib tn, gB tn ++ [gbT s1, gbW s2], out ++ hd⟩, by rw [h2, ← hts, ← hgs]; rfl, tn, s1, s2, out, hd, by omega, hs1, hs2, rfl, by omega, by omega, by rw [honm, hol], hoF, h1⟩
  refine G (T := T) 1000 rfl ?_
  refine If rfl (fun h => ?_) (fun h => ?_)
  · refine G (T := T) 1000 rfl ?_
    refine Cq (ad ⟨#[103, 49]⟩) rfl rfl rfl rfl rfl ⟨rfl, rfl⟩ ?_
    refine G (T := T) 1000 rfl ?_
    refine Ck [1, 2, 3] (aw (c := ⟨l, fs, tn, me, v.vars, [], v.lf, v.mn, v.ct⟩) h1 h2 (n := 3) (by omega) (by omega)) rfl rfl rfl rfl rfl rfl rfl ⟨⟨rfl, rfl⟩, rfl⟩ ?_
    rintro _ ⟨q, rfl, q1, q2⟩
    refine G (T := T) 1000 rfl ?_
    refine Cq (av (n := 1 + q) (by omega) (by omega)) rfl rfl rfl rfl rfl ⟨rfl, rfl⟩ ?_
    refine G (T := T) 1000 rfl ?_
    refine Cq (aE ⟨#[43]⟩ (ao ⟨#[103, 49]⟩) (bK (1 + q))) rfl rfl rfl rfl rfl ⟨rfl, rfl⟩ ?_
    refine G (T := T) 1000 rfl ?_
    refine Cq (ad ⟨#[103, 49]⟩) rfl rfl rfl rfl rfl ⟨rfl, rfl⟩ ?_
    refine G (T := T) 1000 rfl ?_
    refine Cq (ad ⟨#[103, 49]⟩) rfl rfl rfl rfl rfl ⟨rfl, rfl⟩ ?_
    refine G (T := T) 100037 rfl ?_
    refine Zc 6 rfl ?_
    refine G (T := T) 1000 rfl ?_
    let b : List Sm := [.mk 2 eS ty4z 0 [ao ⟨#[103, 49]⟩, eL ⟨#[43]⟩ (ao ⟨#[103, 49]⟩) (bK (1 + q))] [] [] [], outS 9 (ao ⟨#[103, 49]⟩)]
    have hb : SGs 100 b := (SGs.cons (sg_asg (A := 1) ⟨bL (by decide), rfl⟩ (eO (by decide) (bL (by decide)) (fD (n := 1 + q) (by omega) (by omega)))) (SGs.one (sg_out (n := 9) (by omega) (by omega) (bL (by decide))))).mono (by omega)
    exact Fp (T := T) (xd [.s TS, .s GS, .s (out.map fuD ++ [fuD (intF b)])]) (fin (.inr ⟨b, rfl, hb⟩) (by rw [List.map_append]; rfl)) rfl rfl
  · refine G (T := T) 100037 rfl ?_
    refine Zc 6 rfl ?_
    refine G (T := T) 1000 rfl ?_
    exact Fp (T := T) (xd [.s TS, .s GS, .s (out.map fuD)]) (fin (.inl rfl) (by rw [List.append_nil])) rfl rfl
end
section
open Go Go.RowKit Go.Proofs K
variable {pk : Pk}
theorem PrG'.of {p : Par} (h : dR p.nm = true ∧ rTy p.ty = true ∧ p.ty.ok ∧ p.ty.size ≤ 8) : cN p = true ∧ p.ok BG := by
  obtain ⟨h1, h2, h3, h4⟩ := h
  have hi := mI h1
  have := aA hi
  exact ⟨by rw [cN, hi, h2]; rfl, by omega, h3, by unfold BG; omega⟩
theorem FR.facts {f : Fu} (h : FR f) {nm : ByteArray} (hn : ae nm = true) {b : List Sm} (hb : SGs 399999999 b) {fl : Bool} {x y : Int} (hf : fl = false ∧ x = 0 ∧ y = 0) : rFu ⟨nm, f.ps, f.res, b, fl, x, y⟩ = true ∧ Fu.ok BG ⟨nm, f.ps, f.res, b, fl, x, y⟩ := by
  obtain ⟨rfl, rfl, rfl⟩ := hf
  have hs := aA hn
  have hps : f.ps.all cN = true := List.all_eq_true.2 fun p hp => (PrG'.of (h.ps p hp)).1
  have hres : (az f.res 7 || rTy f.res) = true := by rcases h.res.1 with q | q <;> rw [q] <;> simp
  refine ⟨?_, by show nm.size ≤ _; omega, by show f.ps.length ≤ _; have := h.pl; unfold BG; omega, fun p hp => (PrG'.of (h.ps p hp)).2, h.res.2.1, by show f.res.size ≤ _; have := h.res.2.2; unfold BG; omega, hb.o, Nat.le_trans hb.s (by unfold BG; omega), ⟨by show (_ : Int) ≤ 0; omega, by show (0 : Int) ≤ _; omega⟩, by show (0 : Int) ≤ 0; omega, by show (0 : Int) ≤ _; omega⟩
  show (ae nm && f.ps.all cN && (az f.res 7 || rTy f.res) && (decide ((0 : Int) = 0 ∧ (0 : Int) = 0) && cT b)) = true
  rw [hn, hps, hres, hb.r]; rfl
theorem MP.facts {p : Pg} (h : MP p) : rPg p = true ∧ p.ok BG := by
  obtain ⟨tn, s1, s2, fs, hd, ht, h1, h2, rfl, hl1, hl2, hn, hF, hh⟩ := h
  have hts : ∀ x ∈ ib tn, TdG x := fun x hx => by
    unfold ib at hx
    (repeat' split at hx) <;> simp only [List.mem_cons, List.not_mem_nil, or_false] at hx
    · rw [hx]; exact tdS_G
    · rcases hx with rfl | rfl
      · exact tdS_G
      · exact tdU_G
  have hgs : ∀ x ∈ gB tn ++ [gbT s1, gbW s2], GbG x := fun x hx => by
    rcases List.mem_append.1 hx with hx | hx
    · unfold gB at hx
      rcases List.mem_append.1 hx with hx | hx
      · exact gbs0_G x hx
      · (repeat' split at hx) <;> simp only [List.mem_cons, List.not_mem_nil, or_false] at hx
        · rw [hx]; exact gbS_G
        · rcases hx with rfl | rfl
          · exact gbS_G
          · exact gbU_G
    · simp only [List.mem_cons, List.not_mem_nil, or_false] at hx
      rcases hx with rfl | rfl
      · exact gbT_G h1
      · exact gbW_G h2
  have hfs : ∀ x ∈ fs ++ hd, FuG x := fun x hx => by
    rcases List.mem_append.1 hx with hx | hx
    · obtain ⟨a, b⟩ := hF x hx
      exact FR.facts a (mJ a.nm) b a.body.2
    · rcases hh with rfl | ⟨b, rfl, hb⟩
      · cases hx
      · rw [List.mem_singleton.1 hx]
        exact FR.facts (f := ⟨⟨#[109, 97, 105, 110]⟩, [], .mk 7 eS 0 [], [], false, 0, 0⟩) (mP (by decide) (fun _ h => by cases h) (Nat.zero_le _) (by omega)) (nm := intN) (by decide +kernel) (hb.mono (by omega)) ⟨rfl, rfl, rfl⟩
  have l1 : (ib tn).length ≤ 2 := by unfold ib; (repeat' split) <;> decide
  have l0 : (gB tn).length ≤ 7 := by unfold gB; (repeat' split) <;> decide
  have l2 : (gB tn ++ [gbT s1, gbW s2]).length ≤ 9 := by rw [List.length_append]; simp only [List.length_cons, List.length_nil]; omega
  have l3 : (fs ++ hd).length ≤ 5 := by
    rw [List.length_append]
    rcases hh with rfl | ⟨b, rfl, _⟩ <;> simp only [List.length_cons, List.length_nil] <;> omega
  exact pg_G l1 l2 l3 hts hgs hfs
theorem ints_one (l : List Int) : ∀ r ∈ l.map gu, r.length = 1 := fun r hr => by
  obtain ⟨s, _, rfl⟩ := List.mem_map.1 hr
  rfl
theorem eP {l : List Int} (h1 : ∀ n ∈ l, I64 n) : XP Tryz.prog pk 9 [xr (l.map gu)] (fun r => ∃ p, r = xd (pgD p) ∧ MP p) := by
  refine XP.en Tryz.func9 Tryz.ntmps9 (by rintro _ ⟨p, rfl, _⟩; rfl) (fun w0 own H V v0 hf => ?_)
  refine Ln 0 rfl (fun hl => ?_); rw [List.length_map] at hl
  refine G (T := T) 7 rfl ?_
  have hm : (min ((l.map gu).length : Int) 120) = ((min l.length 120 : Nat) : Int) := by rw [List.length_map]; omega
  refine Sd (T := T) (li := none) 0 (min l.length 120) rfl ⟨_, _, rfl, rfl⟩ rfl rfl rfl ⟨rfl, rfl⟩ rfl hm (Nat.zero_le _) (by rw [List.length_map]; omega) (ints_one l) ?_
  rw [List.drop_zero, Nat.sub_zero, ← List.map_take]
  refine G (T := T) 1000 rfl ?_
  refine Ce (mk_Made (l := l.take (min l.length 120)) (fun n hn => h1 n (List.mem_of_mem_take hn)) (by rw [List.length_take]; omega)) rfl rfl rfl rfl rfl ⟨rfl, rfl⟩ ?_
  rintro _ ⟨p, rfl, hp⟩
  refine G (T := T) 1000 rfl ?_
  exact Fp (T := T) (xd (pgD p)) ⟨p, rfl, hp⟩ rfl rfl
end
open Go Go.RowKit K
mutual
def cv : D → K.D → Prop
  | .c v, d => d = .c v ∧ v.oneCell' = true
  | .s rows, d => ∃ sz xs, d = .s sz xs ∧ 0 < sz ∧ cvr sz rows xs
  | _, _ => False
def cvl : List D → List K.D → Prop
  | [], l => l = []
  | x :: xs, l => ∃ y ys, l = y :: ys ∧ cv x y ∧ cvl xs ys
def cvr (sz : Nat) : List (List D) → List K.D → Prop
  | [], l => l = []
  | r :: rs, l => ∃ a b, l = a ++ b ∧ a.length = sz ∧ cvl r a ∧ cvr sz rs b
end
theorem iR : ∀ {xs : List D} {ys : List K.D}, cvl xs ys → xs.length = ys.length
  | [], ys, h => by simp only [cvl] at h; subst h; rfl
  | x :: xs, ys, h => by
    simp only [cvl] at h
    obtain ⟨y, ys, rfl, _, h⟩ := h
    rw [List.length_cons, List.length_cons, iR h]
theorem mQ {sz : Nat} : ∀ {rows : List (List D)} {xs : List K.D}, cvr sz rows xs → xs.length = rows.length * sz
  | [], xs, h => by simp only [cvr] at h; subst h; simp
  | r :: rs, xs, h => by
    simp only [cvr] at h
    obtain ⟨a, b, rfl, h1, h2, h3⟩ := h
    rw [List.length_append, List.length_cons, h1, mQ h3, Nat.add_mul]; omega
theorem eQ {H : Hp} {b : Nat} : ∀ {xs ys : List K.D} {o : Nat}, K.rds H b o (xs ++ ys) ↔ K.rds H b o xs ∧ K.rds H b (o + xs.length) ys
  | [], ys, o => by simp [K.rds]
  | x :: xs, ys, o => by
    simp only [List.cons_append, K.rds, eQ (xs := xs), List.length_cons, and_assoc]
    rw [show o + 1 + xs.length = o + (xs.length + 1) by omega]
mutual
theorem cv.old {H : Hp} : ∀ {d : D} {d' : K.D} {u : Value}, rd H d u → cv d d' → K.rd H d' u
  | .c v, d', u, h, k => by
    simp only [cv] at k
    obtain ⟨rfl, _⟩ := k
    simp only [rd] at h
    simp only [K.rd]
    exact h.1
  | .s rows, d', u, h, k => by
    simp only [cv] at k
    obtain ⟨sz, xs, rfl, _, k⟩ := k
    simp only [rd] at h
    obtain ⟨A, c, sz', rfl, h1, h2, h3⟩ := h
    simp only [K.rd]
    refine ⟨A, rows.length, c, rfl, mQ k, h1, (by simpa [maxLen] using h2), ?_⟩
    rcases h3 with rfl | ⟨b, o, rfl, h3⟩
    · exact .inl rfl
    · exact .inr ⟨b, o, rfl, cvr.old h3 k⟩
  | .p _, _, _, _, k => by simp only [cv] at k
  | .f .., _, _, _, k => by simp only [cv] at k
  | .mp _, _, _, _, k => by simp only [cv] at k
theorem cvl.old {H : Hp} {b : Nat} : ∀ {xs : List D} {ys : List K.D} {o : Nat}, rds H b o xs → cvl xs ys → K.rds H b o ys
  | [], ys, o, _, k => by simp only [cvl] at k; subst k; simp only [K.rds]
  | x :: xs, ys, o, h, k => by
    simp only [cvl] at k
    obtain ⟨y, ys, rfl, k1, k2⟩ := k
    simp only [rds] at h
    obtain ⟨⟨u, h1, h2⟩, h3⟩ := h
    simp only [K.rds]
    exact ⟨⟨u, h1, cv.old h2 k1⟩, cvl.old h3 k2⟩
theorem cvr.old {H : Hp} {b sz' sz : Nat} : ∀ {rows : List (List D)} {xs : List K.D} {o : Nat}, rdr H b sz' o rows → cvr sz rows xs → K.rds H b o xs
  | [], xs, o, _, k => by simp only [cvr] at k; subst k; simp only [K.rds]
  | r :: rs, xs, o, h, k => by
    simp only [cvr] at k
    obtain ⟨a, b', rfl, k1, k2, k3⟩ := k
    simp only [rdr] at h
    obtain ⟨⟨h1, h2⟩, h3⟩ := h
    rw [eQ, ← iR k2, h1]
    exact ⟨cvl.old h2 k2, cvr.old h3 k3⟩
end
theorem cvl.oldL {H : Hp} : ∀ {xs : List D} {ys : List K.D} {vs : List Value}, rdL H xs vs → cvl xs ys → RdL H ys vs
  | [], ys, [], _, k => by simp only [cvl] at k; subst k; trivial
  | x :: xs, ys, v :: vs, h, k => by
    simp only [cvl] at k
    obtain ⟨y, ys, rfl, k1, k2⟩ := k
    exact ⟨cv.old h.1 k1, cvl.oldL h.2 k2⟩
  | [], _, _ :: _, h, _ => h.elim
  | _ :: _, _, [], h, _ => h.elim
mutual
theorem cv.new {H : Hp} : ∀ {d : D} {d' : K.D} {u : Value}, K.rd H d' u → cv d d' → rd H d u
  | .c v, d', u, h, k => by
    simp only [cv] at k
    obtain ⟨rfl, k⟩ := k
    simp only [K.rd] at h
    simp only [rd]
    exact ⟨h, k⟩
  | .s rows, d', u, h, k => by
    simp only [cv] at k
    obtain ⟨sz, xs, rfl, h0, k⟩ := k
    simp only [K.rd] at h
    obtain ⟨A, n, c, rfl, h1, h2, h3, h4⟩ := h
    have hn : n = rows.length := Nat.eq_of_mul_eq_mul_right h0 (h1.symm.trans (mQ k))
    subst hn
    simp only [rd]
    refine ⟨A, c, sz, rfl, h2, (by simpa [maxLen] using h3), ?_⟩
    rcases h4 with h4 | ⟨b, o, rfl, h4⟩
    · exact .inl (List.eq_nil_of_length_eq_zero h4)
    · exact .inr ⟨b, o, rfl, cvr.new h4 k⟩
  | .p _, _, _, _, k => by simp only [cv] at k
  | .f .., _, _, _, k => by simp only [cv] at k
  | .mp _, _, _, _, k => by simp only [cv] at k
theorem cvl.new {H : Hp} {b : Nat} : ∀ {xs : List D} {ys : List K.D} {o : Nat}, K.rds H b o ys → cvl xs ys → rds H b o xs
  | [], ys, o, _, k => by simp only [rds]
  | x :: xs, ys, o, h, k => by
    simp only [cvl] at k
    obtain ⟨y, ys, rfl, k1, k2⟩ := k
    simp only [K.rds] at h
    obtain ⟨⟨u, h1, h2⟩, h3⟩ := h
    simp only [rds]
    exact ⟨⟨u, h1, cv.new h2 k1⟩, cvl.new h3 k2⟩
theorem cvr.new {H : Hp} {b sz : Nat} : ∀ {rows : List (List D)} {xs : List K.D} {o : Nat}, K.rds H b o xs → cvr sz rows xs → rdr H b sz o rows
  | [], xs, o, _, k => by simp only [rdr]
  | r :: rs, xs, o, h, k => by
    simp only [cvr] at k
    obtain ⟨a, b', rfl, k1, k2, k3⟩ := k
    rw [eQ, k1] at h
    simp only [rdr]
    exact ⟨⟨(iR k2).trans k1, cvl.new h.1 k2⟩, cvr.new h.2 k3⟩
end
theorem cvl.newL {H : Hp} : ∀ {xs : List D} {ys : List K.D} {vs : List Value}, RdL H ys vs → cvl xs ys → rdL H xs vs
  | [], ys, vs, h, k => by
    simp only [cvl] at k
    subst k
    cases vs with
    | nil => trivial
    | cons => exact h.elim
  | x :: xs, ys, vs, h, k => by
    simp only [cvl] at k
    obtain ⟨y, ys, rfl, k1, k2⟩ := k
    cases vs with
    | nil => exact h.elim
    | cons => exact ⟨cv.new h.1 k1, cvl.newL h.2 k2⟩
theorem bS : cvl [] [] := by simp only [cvl]
theorem bH {v : Value} {xs : List D} {ys : List K.D} (h : cvl xs ys) (hv : v.oneCell' = true := by rfl) : cvl (.c v :: xs) (.c v :: ys) := by
  simp only [cvl]; exact ⟨_, _, rfl, by simp only [cv]; exact ⟨trivial, hv⟩, h⟩
theorem dI {sz : Nat} {rows : List (List D)} {us : List K.D} {xs : List D} {ys : List K.D} (k : cvr sz rows us) (h : cvl xs ys) (h0 : 0 < sz := by decide) : cvl (.s rows :: xs) (.s sz us :: ys) := by
  simp only [cvl]; exact ⟨_, _, rfl, by simp only [cv]; exact ⟨_, _, rfl, h0, k⟩, h⟩
theorem ed {sz : Nat} : cvr sz [] [] := by simp only [cvr]
theorem dt {sz : Nat} {r : List D} {rs : List (List D)} {a b : List K.D} (h : cvl r a) (k : cvr sz rs b) (hr : r.length = sz) : cvr sz (r :: rs) (a ++ b) := by
  simp only [cvr]; exact ⟨a, b, rfl, (iR h).symm.trans hr, h, k⟩
theorem fg {α : Type} {sz : Nat} {f : α → List D} {g : α → List K.D} (hl : ∀ x, (f x).length = sz) (h : ∀ x, cvl (f x) (g x)) : ∀ l : List α, cvr sz (l.map f) (l.flatMap g)
  | [] => ed
  | x :: r => by rw [List.flatMap_cons]; exact dt (h x) (fg hl h r) (hl x)
theorem du {xs xs' : List D} {ys ys' : List K.D} (h : cvl xs ys) (h' : cvl xs' ys') : cvl (xs ++ xs') (ys ++ ys') := by
  induction xs generalizing ys with
  | nil => simp only [cvl] at h; subst h; exact h'
  | cons x xs ih =>
    simp only [cvl] at h
    obtain ⟨y, ys, rfl, h1, h2⟩ := h
    simp only [List.cons_append, cvl]
    exact ⟨_, _, rfl, h1, ih h2⟩
mutual
theorem cvl_tr : ∀ t : Tr, cvl (trd t) t.d
  | .node l ks => by simp only [Tr.d]; exact bH (dI (cvr_trs ks) bS)
theorem cvr_trs : ∀ ks : List Tr, cvr 2 (kds ks) (Tr.ds ks)
  | [] => ed
  | t :: r => by simp only [Tr.ds]; exact dt (cvl_tr t) (cvr_trs r) rfl
end
mutual
theorem jX : ∀ t : Ty4, cvl (tyD t) t.d
  | .mk k nm n ts => by simp only [Ty4.d]; exact bH (bH (bH (dI (cvr_tys ts) bS)))
theorem cvr_tys : ∀ ks : List Ty4, cvr 4 (tyR ks) (Ty4.ds ks)
  | [] => ed
  | t :: r => by simp only [Ty4.ds]; exact dt (jX t) (cvr_tys r) rfl
end
mutual
theorem cvl_ex : ∀ t : Ex, cvl (exD t) t.d
  | .mk k nm n ts => by simp only [Ex.d]; exact bH (bH (bH (dI (mR ts) bS)))
theorem mR : ∀ ks : List Ex, cvr 4 (exR ks) (Ex.ds ks)
  | [] => ed
  | t :: r => by simp only [Ex.ds]; exact dt (cvl_ex t) (mR r) rfl
end
mutual
theorem cvl_sm : ∀ t : Sm, cvl (smD t) t.d
  | .mk k nm t n xs b el cs => by
    simp only [Sm.d]
    refine du (xs := [_, _, _, _, _, _]) (xs' := [_, _, _, _, _]) (du (xs := [_, _]) (bH (bH bS)) (jX t)) (bH (dI ?_ (dI (gC b) (dI (gC el) (dI (cvr_cds cs) bS)))))
    show cvr 4 (xs.map exD) _
    rw [← exR_eq]; exact mR xs
theorem gC : ∀ ks : List Sm, cvr 11 (sR ks) (Sm.ds ks)
  | [] => ed
  | t :: r => by simp only [Sm.ds]; exact dt (cvl_sm t) (gC r) rfl
theorem cvr_cds : ∀ ks : List (List Sm), cvr 1 (sCC ks) (Sm.cd ks)
  | [] => ed
  | t :: r => by simp only [Sm.cd]; exact dt (a := [_]) (dI (gC t) bS) (cvr_cds r) rfl
end
theorem cvl_pa (p : Par) : cvl (paD p) p.d := bH (jX p.ty)
theorem cvl_td (t : Td) : cvl (tdD t) t.d := bH (bH (dI (fg (f := paD) (g := Par.d) (fun _ => rfl) cvl_pa _) bS))
theorem cvl_gb (g : Gb) : cvl (gbD g) g.d := bH (du (xs := tyD g.ty) (jX g.ty) (bH (bH (bH bS))))
theorem cvl_fu (f : Fu) : cvl (fuD f) f.d := by
  refine du (xs := [_, _, _, _, _, _]) (xs' := [_, _, _, _]) (du (xs := [_, _]) (bH (dI (fg (f := paD) (g := Par.d) (fun _ => rfl) cvl_pa _) bS)) (jX f.res)) (dI ?_ (bH (bH (bH bS))))
  rw [← sR_eq]; exact gC _
theorem cvl_pg (p : Pg) : cvl (pgD p) p.d := dI (fg (f := tdD) (g := Td.d) (fun _ => rfl) cvl_td _) (dI (fg (f := gbD) (g := Gb.d) (fun _ => rfl) cvl_gb _) (dI (fg (f := fuD) (g := Fu.d) (fun _ => rfl) cvl_fu _) bS))
theorem cvr_ints (l : List Int) : cvr 1 (l.map gu) (ints l) := by
  induction l with
  | nil => exact ed
  | cons n r ih => exact dt (a := [_]) (bH bS) ih rfl
section
variable {P : Program} {pk : Pk} {f : FuncId} {args : List XV} {R : XV} {Ψ : XV → Prop}
theorem XP.toFn (h : XP P pk f args Ψ) (hψ : ¬ pk.ψ) {w0 : World} {own : List Seg} {H : Hp} {vals : List Value} (hy : pk.hy H) (hv : XVs.rels (fun _ _ => none) H args vals) : K.Fn P f vals w0 H own (fun r o H' => (∃ R, Ψ R ∧ R.rel (fun _ _ => none) H' r) ∧ o = own ∧ Le H H') := by
  obtain ⟨h1, h2, h3, h4⟩ := h
  intro w hw
  have hw' : St w0 H ([] :: own) w := hw.flat (List.Perm.refl _)
  refine Calls.mono (h4 ⟨w0, own, H, fun _ _ => none, 0, [], pk, fun _ _ h => absurd rfl h, ⟨by intro g hg; simp at hg, hy⟩⟩ rfl rfl rfl [] vals hv rfl (by intro b hb; simp at hb) w hw') ?_
  rintro e w' (⟨v, r, hp', V', H', sg', rfl, ⟨q0, rfl⟩, q1, q2, q3, q4, q5, q6, q7, q8, q9, q10⟩ | ⟨rfl, q1, _⟩)
  · have := HR0 q2
    subst this
    refine ⟨v, own, H', rfl, ⟨⟨r, q0, ?_⟩, rfl, q9⟩, q10.flat (List.Perm.refl _)⟩
    have e : V' = fun _ _ => none := by funext g t; exact q7 g t (Nat.zero_le _)
    rw [← e]; exact q1
  · exact absurd q1 hψ
end
def pkT : Pk := ⟨default, False, TabH, TabH.mono⟩
def pkO : Pk := ⟨default, False, fun _ => True, fun _ _ => trivial⟩
theorem pg_new {H : Hp} {p : Pg} {c0 c1 c2 : Value} (h : RdL H p.d [c0, c1, c2]) : XVs.rels (fun _ _ => none) H [xd (pgD p)] [.agg #[c0, c1, c2]] := ⟨⟨#[c0, c1, c2], rfl, cvl.newL h (cvl_pg p)⟩, trivial⟩
theorem agg2 {H : Hp} {xs : List D} {ys : List K.D} {r : Value} (h : (xd xs).rel (fun _ _ => none) H r) (hc : cvl xs ys) (hl : xs.length = 2) : ∃ c0 c1, r = .agg #[c0, c1] ∧ RdL H ys [c0, c1] := by
  obtain ⟨⟨us⟩, rfl, h⟩ := h
  have := rdL.len h
  rw [hl] at this
  match us, this, h with
  | [a, b], _, h => exact ⟨a, b, rfl, cvl.oldL h hc⟩
theorem agg3 {H : Hp} {xs : List D} {ys : List K.D} {r : Value} (h : (xd xs).rel (fun _ _ => none) H r) (hc : cvl xs ys) (hl : xs.length = 3) : ∃ c0 c1 c2, r = .agg #[c0, c1, c2] ∧ RdL H ys [c0, c1, c2] := by
  obtain ⟨⟨us⟩, rfl, h⟩ := h
  have := rdL.len h
  rw [hl] at this
  match us, this, h with
  | [a, b, c], _, h => exact ⟨a, b, c, rfl, cvl.oldL h hc⟩
end Go.Proofs.YtlmahofogapkgaaGreatDoor.X
namespace Go.Proofs.YtlmahofogapkgaaGreatDoor.K
open Go Go.RowKit
theorem cf {p : Pg} {B : Nat} (hB : B ≤ 900000000) (hok : p.ok B) {w0 : World} {H : Hp} {own : List Seg} (hT : TabH H) {c0 c1 c2 : Value} (ht : RdL H p.d [c0, c1, c2]) : Fn Tryz.prog 12 [.agg #[c0, c1, c2]] w0 H own (fun r o H' => ∃ c0 c1, r = .agg #[c0, c1] ∧ RdL H' (dj p).d [c0, c1] ∧ o = own ∧ Le H H') :=
  (X.XQ.toFn (X.cf (pk := X.pkT) (fun _ h => h) hB hok) id hT (X.pg_new ht)).mono fun r o H' ⟨h1, h2, h3⟩ => by
    obtain ⟨a, b, h4, h5⟩ := X.agg2 h1 (X.cvl_tr _) rfl
    exact ⟨a, b, h4, h5, h2, h3⟩
theorem dp {p : Pg} {B : Nat} (hB : B ≤ 900000000) (hok : p.ok B) {w0 : World} {H : Hp} {own : List Seg} {c0 c1 c2 : Value} (ht : RdL H p.d [c0, c1, c2]) : Fn Tryz.prog 19 [.agg #[c0, c1, c2]] w0 H own (fun r o H' => ∃ c0 c1, r = .agg #[c0, c1] ∧ RdL H' (dj p).d [c0, c1] ∧ o = own ∧ Le H H') :=
  (X.XQ.toFn (X.dp (pk := X.pkO) hB hok (X.ref_Right hB hok)) id trivial (X.pg_new ht)).mono fun r o H' ⟨h1, h2, h3⟩ => by
    obtain ⟨a, b, h4, h5⟩ := X.agg2 h1 (X.cvl_tr _) rfl
    exact ⟨a, b, h4, h5, h2, h3⟩
theorem eP {l : List Int} (hl : ∀ n ∈ l, I64 n) {w0 : World} {H : Hp} {own : List Seg} {v : Value} (hA : rd H (.s 1 (ints l)) v) (hlen : l.length ≤ 9223372036854775807) :
    Fn Tryz.prog 9 [v] w0 H own (fun r o H' => ∃ v0 v1 v2 p, r = .agg #[v0, v1, v2] ∧ RdL H' (Pg.d p) [v0, v1, v2] ∧ rPg p = true ∧ p.ok BG ∧ o = own ∧ Le H H') := by
  have h0 : X.rd H (.s (l.map X.gu)) v := X.cv.new hA (by simp only [X.cv]; exact ⟨1, _, rfl, Nat.zero_lt_one, X.cvr_ints l⟩)
  refine (X.XP.toFn (X.eP (pk := X.pkO) hl) id trivial (vals := [v]) ⟨h0, trivial⟩).mono fun r o H' ⟨⟨R, ⟨p, hR, hp⟩, h1⟩, h2, h3⟩ => ?_
  subst hR
  obtain ⟨a, b, c, h4, h5⟩ := X.agg3 h1 (X.cvl_pg p) rfl
  exact ⟨a, b, c, p, h4, h5, hp.facts.1, hp.facts.2, h2, h3⟩
open Go.Proofs
theorem bN {t : Tr} {w0 : World} {H : Hp} {own : List Seg} {v : Value} (hA : rd H (.s 2 (Tr.ds t.kids)) v) :
    Fn Tryz.prog 22 [.string t.lab, v] w0 H own (fun r own' H' => ∃ c0 c1, r = .agg #[c0, c1] ∧ RdL H' t.d [c0, c1] ∧ own' = own ∧ Le H H') := by
  have hv := hA.one
  obtain ⟨l, ks⟩ := t
  simp only [Tr.lab, Tr.kids] at *
  refine Fn.enter Tryz.func22 rfl Tryz.ntmps22 rfl ?_; have hL := Le.refl H; refine Y3 ?_; intro g4; refine Y6 ?_; refine Ql [(0, [_]), (1, [_])] ⟨rfl, ⟨_, rfl, rfl⟩, rfl, ⟨_, rfl, bq hv⟩, trivial⟩ rfl rfl ?_; refine Qj 0 0 (c' := #[_, _]) (own' := [(_, .cells #[_, _] _ _)] :: _) rfl rfl rfl rfl rfl ⟨rfl, hv, trivial⟩ (by simp [ba]) rfl rfl rfl ?_; refine Y3 ?_; refine TQ.retC 0 0 1 [_, _] rfl rfl rfl rfl ⟨rfl, rfl, trivial⟩ rfl rfl ?_
  exact ⟨_, _, rfl, tr_mk hA, rfl, hL⟩
structure Uni (U : List Tr) : Prop where
  len : U.length ≤ 100
  kid : ∀ x ∈ U, ∀ k ∈ x.kids, k ∈ U
  lab : ∀ x ∈ U, x.lab.size ≤ 1000000
def fro : List Tr → List Tr → Nat
  | x :: a, y :: b => if x = y then fro a b + 1 else 0
  | _, _ => 0
def rv (f : Nat) (a : List Tr) : List Tr := (a.drop f).reverse
def bak (f : Nat) (a b : List Tr) : Nat := fro (rv f a) (rv f b)
def midA (a b : List Tr) : List Tr := (a.drop (fro a b)).take (a.length - bak (fro a b) a b - fro a b)
def midB (a b : List Tr) : List Tr := (b.drop (fro a b)).take (b.length - bak (fro a b) a b - fro a b)
def alD (d : Tr → Tr → Nat) : List Tr → List Tr → Nat
  | [], b => Tr.sizes b
  | x :: a, [] => Tr.sizes (x :: a)
  | x :: a, y :: b => min (min (alD d a b + d x y) (alD d a (y :: b) + x.size)) (alD d (x :: a) b + y.size)
termination_by a b => a.length + b.length
def distK : Nat → Tr → Tr → Nat
  | 0, _, _ => 0
  | k + 1, x, y => if x = y then 0 else if x.lab ≠ y.lab then x.size + y.size else alD (distK k) (midA x.kids y.kids) (midB x.kids y.kids)
def dist (x y : Tr) : Nat := distK x.size x y
def pairV (S : List Tr) (x y : Tr) : Value := .agg #[.int .i64 (S.idxOf x : Int), .int .i64 (S.idxOf y : Int)]
structure Memo (S : List Tr) (D : List (Tr × Tr)) (m : Value → Option Value) : Prop where
  nodup : D.Nodup
  mem : ∀ p ∈ D, p.1 ∈ S ∧ p.2 ∈ S
  has : ∀ x ∈ S, ∀ y ∈ S, (x, y) ∈ D → m (pairV S x y) = some (.int .i64 (dist x y : Int))
  none : ∀ x ∈ S, ∀ y ∈ S, (x, y) ∉ D → m (pairV S x y) = none
section
variable {P : Program} {w0 : World} {N : Nat} {Q : Exit → Act → World → Prop} {env : Env} {own : List Seg} {H : Hp} {ops : Array Oper} {rest : List Oper}
variable {d : Option Tmp} {ty : TypeId} {pos : String} {af : Array Edge}
theorem TL.min3 {x y z : Operand} {tys : Array TypeId} {k : IntKind} {m n q : Int} (hx : ev env x = some (.int k m)) (hy : ev env y = some (.int k n)) (hz : ev env z = some (.int k q)) (hd : okD N d = true) (h : TL P w0 N Q ops rest (ab d (.int k (min (min m n) q)) env) own H) :
    TL P w0 N Q ops ({ dst := d, op := .call { callee := .builtin .min, args := #[x, y, z], argTypes := tys }, type := ty, pos := pos, after := af, guard := none } :: rest) env own H :=
  Qd hd (fun a ha w => by
    simp [execOp, resolve, invoke, builtin, Builtin.min_, Builtin.min2, ha.ev hx, ha.ev hy, ha.ev hz]
    omega) h
end
structure Ed where
  op : Int
  path : Path
  tree : Tr
section
variable {e : Tr → Tr → Path → List Ed} {p : Path} {a b : List Tr} {i j q : Nat} {c d : Tr}
end
mutual
def ownT : Tr → Value → Value → Seg → Prop
  | .node l ks, v0, v1, s => v0 = .string l ∧ ∃ xs sr sk, Row 35 2 v1 ks.length xs sr ∧ s.Perm (sr ++ sk) ∧ ownL ks xs sk
def ownL : List Tr → List Value → Seg → Prop
  | [], xs, s => xs = [] ∧ s = []
  | t :: r, xs, s => ∃ v0 v1 ys s1 s2, xs = v0 :: v1 :: ys ∧ s.Perm (s1 ++ s2) ∧ ownT t v0 v1 s1 ∧ ownL r ys s2
end
mutual
theorem ownT.rd {H : Hp} : ∀ {t : Tr} {v0 v1 : Value} {s : Seg}, ownT t v0 v1 s → (∀ p ∈ s, H p.1 = some p.2) → RdL H t.d [v0, v1]
  | .node l ks, v0, v1, s, h, hz => by
    simp only [ownT] at h
    obtain ⟨rfl, xs, sr, sk, h1, h2, h3⟩ := h
    exact tr_mk (rd.ofRow h1 (fun p hp => hz p (h2.mem_iff.2 (List.mem_append_left _ hp))) (ownL.rd h3 (fun p hp => hz p (h2.mem_iff.2 (List.mem_append_right _ hp)))) (Le.refl _))
theorem ownL.rd {H : Hp} : ∀ {ts : List Tr} {xs : List Value} {s : Seg}, ownL ts xs s → (∀ p ∈ s, H p.1 = some p.2) → RdL H (Tr.ds ts) xs
  | [], xs, s, h, _ => by
    simp only [ownL] at h
    obtain ⟨rfl, _⟩ := h
    trivial
  | t :: r, xs, s, h, hz => by
    simp only [ownL] at h
    obtain ⟨v0, v1, ys, s1, s2, rfl, h2, h3, h4⟩ := h
    have e1 := ownT.rd h3 (fun p hp => hz p (h2.mem_iff.2 (List.mem_append_left _ hp)))
    have e2 := ownL.rd h4 (fun p hp => hz p (h2.mem_iff.2 (List.mem_append_right _ hp)))
    rw [show Tr.ds (t :: r) = t.d ++ Tr.ds r from by simp [Tr.ds]]
    exact e1.append e2
end
def sub : Tr → Path → Option Tr
  | t, [] => some t
  | .node _ ks, i :: q => (ks[i]?).bind fun u => sub u q
section
variable {P : Program} {w0 : World} {N : Nat} {Q : Exit → Act → World → Prop} {env : Env} {own : List Seg} {H : Hp} {ops : Array Oper} {rest : List Oper}
variable {d : Option Tmp} {ty : TypeId} {pos : String} {af : Array Edge}
end
theorem jY : ∀ (vs : List Value) (c : Array Value) (o : Nat), o + vs.length ≤ c.size → (ba c o vs).toList = c.toList.take o ++ vs ++ c.toList.drop (o + vs.length)
  | [], c, o, _ => by simp [ba]
  | v :: r, c, o, h => by
    simp only [List.length_cons] at h
    have ih := jY r (c.setIfInBounds o v) (o + 1) (by simp; omega)
    simp only [ba, ih, Array.toList_setIfInBounds]
    have := list_seg_step c.toList o v r (by rw [Array.length_toList]; omega)
    rw [this]
    simp
section
variable {P : Program} {w0 : World} {N : Nat} {Q : Exit → Act → World → Prop} {env : Env} {own : List Seg} {H : Hp} {ops : Array Oper} {rest : List Oper}
variable {d : Option Tmp} {ty : TypeId} {pos : String} {af : Array Edge}
end
section
variable {P : Program} {w0 : World} {N : Nat} {Q : Exit → Act → World → Prop} {env : Env} {own : List Seg} {H : Hp} {ops : Array Oper} {rest : List Oper}
variable {d : Option Tmp} {ty : TypeId} {pos : String} {af : Array Edge}
theorem TL.appendRoom (k j : Nat) {t e : TypeId} {x y : Operand} {g n c m k2 b o : Nat} {seg : Seg} {cur : Array Value} {news : List Value} {sz by_ : Nat} {z : Value} [hU : Sl P t e sz by_ z]
    (hx : ev env x = some (.slice (some ⟨g, 0, none⟩) n c)) (hy : ev env y = some (.slice (some ⟨b, o, none⟩) m k2)) (hi : own[k]? = some seg) (hj : seg[j]? = some (g, .cells cur e (0, 0)))
    (hs : Src w0 H own (some ⟨b, o, none⟩) sz m news) (hroom : n + m ≤ c) (hfit : n * sz + news.length ≤ cur.size) (hd : okD N d = true)
    (h : TL P w0 N Q ops rest (ab d (.slice (some ⟨g, 0, none⟩) (n + m) c) env) (own.set k (seg.set j (g, .cells (cur.toList.take (n * sz) ++ news ++ cur.toList.drop (n * sz + news.length)).toArray e (0, 0)))) H) :
    TL P w0 N Q ops ({ dst := d, op := .call { callee := .builtin .append, args := #[x, y], argTypes := #[t, t] }, type := ty, pos := pos, after := af, guard := none } :: rest) env own H :=
  TL.val rfl hd (fun a w ha hw => ⟨_, by
    obtain ⟨ii, hii, _, hsz, _⟩ := hU.ex
    have hnews : ∀ j u, news[j]? = some u → w.cell? ((⟨b, o, none⟩ : Addr).add j) = some u := by
      intro j u hu
      rcases hs.2.2 with ⟨_, h0⟩ | ⟨b', o', e1, h1⟩
      · rw [h0] at hu; simp at hu
      · injection e1 with e1
        injection e1 with e1 e2
        subst e1 e2
        rw [bB]; exact h1 w hw j u hu
    have hr := run_append_room (P := P) w t ty e ii hU.und hii g n c cur (hw.own_blk hi hj) ⟨b, o, none⟩ m k2 news (by rw [hsz]; exact hs.1) hnews hs.2.1 hroom (by rw [hsz]; exact hfit)
    rw [hsz] at hr
    simp only [execOp, resolve, invoke, builtin, List.map_toArray, List.map_cons, List.map_nil, ha.ev hx, ha.ev hy, Sem.run_bind, Sem.run_pure, Result.andThen_ok, hr], hw.setRow hi hj⟩) h
theorem TL.slice3 {t e : TypeId} {x y1 y2 y3 : Operand} {A : Option Addr} {n c : Nat} {sz by_ : Nat} {z : Value} {k1 k2 k3 : IntKind} {q1 q2 q3 : Int} (l r m : Nat) (hx : ev env x = some (.slice A n c)) [hU : Sl P t e sz by_ z]
    (h1 : ev env y1 = some (.int k1 q1)) (h2 : ev env y2 = some (.int k2 q2)) (h3 : ev env y3 = some (.int k3 q3)) (hl : q1 = (l : Int)) (hr : q2 = (r : Int)) (hm : q3 = (m : Int)) (hlr : l ≤ r) (hrm : r ≤ m) (hmc : m ≤ c) (hd : okD N d = true)
    (h : ∀ v, TL P w0 N Q ops rest (ab d v env) own H) :
    TL P w0 N Q ops ({ dst := d, op := .slice t x (some y1) (some y2) (some y3), type := ty, pos := pos, after := af, guard := none } :: rest) env own H :=
  Qd (v := .slice (if m = l then A else A.map (·.add (l * sz))) (r - l) (m - l)) hd (fun a ha w => by
    subst hl hr hm
    have hb : (Instr.sliceBounds true n c (some (a.eval y1)) (some (a.eval y2)) (some (a.eval y3))).run P w = .ok (l, r, m) w := by
      simp [Instr.sliceBounds, Instr.sliceBound, asIntOf, ha.ev h1, ha.ev h2, ha.ev h3, hlr, hrm, hmc]
    simp [execOp, Instr.sliceAt, Instr.slice, run_underlying hU.und, ha.ev hx, hb, hU.sizeOf]) (h _)
end
structure Ei where
  op : Int
  path : List Int
  tree : Tr
def Ei.d (e : Ei) : List D := [.c (.int .i64 e.op), .s 1 (ints e.path)] ++ e.tree.d
def eiD (l : List Ei) : List D := l.flatMap Ei.d
section
variable {t s : Tr} {e : Ei}
end
section
variable {P : Program} {w0 : World} {N : Nat} {Q : Exit → Act → World → Prop} {env : Env} {own : List Seg} {H : Hp} {ops : Array Oper} {rest : List Oper}
variable {d : Option Tmp} {ty : TypeId} {pos : String} {af : Array Edge}
theorem TL.eqlP {x y : Operand} {tx t' e : TypeId} {p : Option Addr} (hu : P.underlying tx = some (.pointer e)) (hx : ev env x = some (.pointer p)) (hy : ev env y = some (.pointer none)) (hd : okD N d = true)
    (h : TL P w0 N Q ops rest (ab d (.bool p.isNone) env) own H) :
    TL P w0 N Q ops ({ dst := d, op := .binOp .eql tx x y t', type := ty, pos := pos, after := af, guard := none } :: rest) env own H :=
  Qd hd (fun a ha w => by
    have hp : P.underlying tx = some (.pointer (P.pointee tx)) := by simp only [Program.pointee, hu]
    have := run_equal_pointer_nil (P := P) w tx p hp
    simp only [execOp, eqGuard, binOp, ha.ev hx, ha.ev hy]
    simp [this]) h
end
section
variable {t : Tr} {p : List Int} {w0 : World} {H : Hp} {own : List Seg} {g0 : Nat} {v0 v1 vp : Value} {S Q : Seg}
end
structure Vl where
  id : Nat → Nat
  ex : Nat → Nat
  ob : Nat → Obj
inductive XC where
  | i (k : IntKind) (n : Int)
  | b (b : Bool)
  | s (s : ByteArray)
  | p (g o : Nat)
  | np
  | l (g o n c : Nat)
  | nl
  | m (g : Nat)
  | nm
  | e (g o o' : Nat)
deriving DecidableEq
def XC.val (V : Vl) : XC → Value
  | .i k n => .int k n
  | .b t => .bool t
  | .s t => .string t
  | .p g o => .pointer (some ⟨V.id g, o, none⟩)
  | .np => .pointer none
  | .l g o n c => .slice (some ⟨V.id g, o, none⟩) n (c + V.ex g)
  | .nl => .slice none 0 0
  | .m g => .map (some (V.id g))
  | .nm => .map none
  | .e g o o' => .slice (some ⟨V.id g, if V.ex g = 0 then o else o', none⟩) 0 (V.ex g)
inductive XA where
  | c (x : XC)
  | a (l : List XC)
deriving DecidableEq
def XA.val (V : Vl) : XA → Value
  | .c x => x.val V
  | .a l => .agg (l.map (XC.val V)).toArray
def XA.cells : XA → List XC
  | .c x => [x]
  | .a l => l
inductive XV where
  | a (x : XA)
  | t (l : List XA)
  | u
deriving DecidableEq
def XV.val (V : Vl) : XV → Value
  | .a x => x.val V
  | .t l => .tuple (l.map (XA.val V)).toArray
  | .u => undef
theorem XC.one (V : Vl) (x : XC) : (x.val V).oneCell' = true := by cases x <;> rfl
theorem XA.cells_val (V : Vl) (x : XA) : (x.val V).cells = (x.cells.map (XC.val V)).toArray := by
  cases x with
  | c x => exact bq (x.one V)
  | a l => rfl
abbrev XE := List (Nat × XV)
def XE.val (V : Vl) (E : XE) : Env := E.map fun p => (p.1, p.2.val V)
def xlk : XE → Nat → Option XV
  | [], _ => none
  | (j, v) :: r, i => bif Nat.beq j i then some v else xlk r i
theorem cH (V : Vl) : ∀ (E : XE) (i : Nat), lk (E.val V) i = (xlk E i).map (XV.val V)
  | [], _ => rfl
  | (j, v) :: r, i => by
    simp only [XE.val, List.map_cons, lk, xlk]
    cases Nat.beq j i
    · exact cH V r i
    · rfl
def ofC : Value → Option XC
  | .int k n => some (.i k n)
  | .bool b => some (.b b)
  | .string s => some (.s s)
  | .pointer none => some .np
  | .slice none 0 0 => some .nl
  | .map none => some .nm
  | _ => none
theorem mS (V : Vl) {v : Value} {x : XC} (h : ofC v = some x) : x.val V = v := by
  unfold ofC at h
  split at h <;> (try cases h) <;> rfl
def ofCs : List Value → Option (List XC)
  | [] => some []
  | v :: r => match ofC v, ofCs r with
    | some x, some l => some (x :: l)
    | _, _ => none
theorem dv (V : Vl) : ∀ {l : List Value} {xs : List XC}, ofCs l = some xs → xs.map (XC.val V) = l
  | [], _, h => by cases h; rfl
  | v :: r, xs, h => by
    simp only [ofCs] at h
    split at h
    · rename_i x l h1 h2
      cases h
      simp only [List.map_cons, mS V h1, dv V h2]
    · cases h
def ofV (v : Value) : Option XV := match v with
  | .agg a => (ofCs a.toList).map fun l => .a (.a l)
  | v => (ofC v).map fun x => .a (.c x)
theorem ofV_val (V : Vl) {v : Value} {x : XV} (h : ofV v = some x) : x.val V = v := by
  unfold ofV at h
  split at h
  · rename_i a
    cases h1 : ofCs a.toList with
    | none => rw [h1] at h; cases h
    | some l =>
      rw [h1] at h; cases h
      have := dv V h1
      simp only [XV.val, XA.val, this]
  · cases h1 : ofC v with
    | none => rw [h1] at h; cases h
    | some l => rw [h1] at h; cases h; exact mS V h1
def xev (E : XE) : Operand → Option XV
  | .tmp t => xlk E t
  | .const v => ofV v
  | _ => none
theorem mT (V : Vl) {E : XE} {x : Operand} {u : XV} (h : xev E x = some u) : ev (E.val V) x = some (u.val V) := by
  cases x with
  | tmp t => simp only [xev] at h; simp only [ev, cH, h, Option.map_some]
  | const v => simp only [xev] at h; simp only [ev, ofV_val V h]
  | _ => cases h
def Lks (look : Operand → Option XV) (V : Vl) (env : Env) : Prop := ∀ x u, look x = some u → ev env x = some (u.val V)
def XC.pure : XC → Bool
  | .i _ _ => true
  | .b _ => true
  | .s _ => true
  | _ => false
def XA.pure : XA → Bool
  | .c x => x.pure
  | .a l => l.all XC.pure
theorem XC.pure_inj {V : Vl} {x y : XC} (hx : x.pure = true) (h : x.val V = y.val V) : x = y := by
  cases x <;> (try cases hx) <;> cases y <;> simp_all [XC.val]
theorem XC.pure_injL {V : Vl} : ∀ {x y : List XC}, x.all XC.pure = true → x.map (XC.val V) = y.map (XC.val V) → x = y
  | [], [], _, _ => rfl
  | [], _ :: _, _, h => by simp at h
  | _ :: _, [], _, h => by simp at h
  | a :: x, c :: y, hx, h => by
    simp only [List.all_cons, Bool.and_eq_true] at hx
    simp only [List.map_cons, List.cons.injEq] at h
    rw [XC.pure_inj hx.1 h.1, XC.pure_injL hx.2 h.2]
theorem XA.pure_inj {V : Vl} {x y : XA} (hx : x.pure = true) (h : x.val V = y.val V) : x = y := by
  cases x with
  | c x =>
    cases y with
    | c y => exact congrArg XA.c (XC.pure_inj hx h)
    | a l => cases x <;> simp [XA.val, XC.val] at h
  | a x =>
    cases y with
    | c y => cases y <;> simp [XA.val, XC.val] at h
    | a l => simp only [XA.val, Value.agg.injEq] at h; exact congrArg XA.a (XC.pure_injL hx (by simpa using h))
structure XP (P : Program) where
  key : TypeId → XA → Bool
  hook : FuncId → List XV → Option XV
  fn : FuncId → Bool
  fnOk : ∀ f, fn f = true → Callable P f
  keyOk : ∀ k x, key k x = true → Maps.Keyed P k ∧ x.pure = true ∧ ∀ V, ∃ kl, keyOf P k (x.val V) = some kl
  hookOk : ∀ f vs r, hook f vs = some r → Callable P f ∧ ∀ (V : Vl) w0 H own, Fn P f (vs.map (XV.val V)) w0 H own (fun u o H' => u = r.val V ∧ o = own ∧ Le H H')
inductive XO where
  | cells (c : List XC) (e : TypeId) (sz : Nat)
  | map (k e : TypeId) (es : List (XA × XC))
abbrev XH := List (Nat × XO)
open Classical in
noncomputable def iG (V : Vl) : List (XA × XC) → Value → Option Value
  | [], _ => none
  | (k, x) :: r, key => if key = k.val V then some (x.val V) else iG V r key
def Rel (P : Program) (V : Vl) (g : Nat) : XO → Prop
  | .cells c e sz => ∃ j : List Value, V.ob g = .cells (c.map (XC.val V) ++ j).toArray e (0, 0) ∧ j.length = V.ex g * sz ∧ (sz = 0 ∨ ∃ n, c.length = n * sz ∧ n + V.ex g ≤ maxLen)
  | .map k e es => MapG P k e (V.ob g) es.length (iG V es) ∧ ∀ p ∈ es, p.1.pure = true
def HOk (P : Program) (V : Vl) (hp : XH) : Prop := ∀ p ∈ hp, Rel P V p.1 p.2
def seg (V : Vl) (hp : XH) : Seg := hp.map fun p => (V.id p.1, V.ob p.1)
def ah : XH → Nat → Option XO
  | [], _ => none
  | (j, o) :: r, g => bif Nat.beq j g then some o else ah r g
def aF : XH → Nat → XO → XH
  | [], _, _ => []
  | (j, o) :: r, g, o' => bif Nat.beq j g then (j, o') :: r else (j, o) :: aF r g o'
def bi : XH → Nat → XH
  | [], _ => []
  | (j, o) :: r, g => bif Nat.beq j g then r else (j, o) :: bi r g
theorem cI (V : Vl) : ∀ {hp : XH} {g : Nat} {o : XO}, ah hp g = some o → ∃ j : Nat, (seg V hp)[j]? = some (V.id g, V.ob g) ∧ hp[j]? = some (g, o)
  | [], _, _, h => by cases h
  | (i, x) :: r, g, o, h => by
    simp only [ah] at h
    cases hb : Nat.beq i g with
    | true =>
      have e := Nat.eq_of_beq_eq_true hb
      subst e
      simp only [hb, cond_true, Option.some.injEq] at h
      subst h
      exact ⟨0, rfl, rfl⟩
    | false =>
      simp only [hb, cond_false] at h
      obtain ⟨j, h1, h2⟩ := cI V h
      exact ⟨j + 1, h1, h2⟩
theorem bh {P : Program} {V : Vl} {hp : XH} (hV : HOk P V hp) {g : Nat} {o : XO} (h : ah hp g = some o) : Rel P V g o := by
  obtain ⟨j, _, h2⟩ := cI V h
  exact hV _ (List.mem_of_getElem? h2)
def xbin : BinOp → XC → XC → Option XC
  | .add, .i k m, .i k' n => if k = k' then some (.i k (k.wrap (m + n))) else none
  | .sub, .i k m, .i k' n => if k = k' then some (.i k (k.wrap (m - n))) else none
  | .mul, .i k m, .i k' n => if k = k' then some (.i k (k.wrap (m * n))) else none
  | .quo, .i k m, .i k' n => if k = k' ∧ n ≠ 0 then some (.i k (k.wrap (m.tdiv n))) else none
  | .rem, .i k m, .i k' n => if k = k' ∧ n ≠ 0 then some (.i k (m.tmod n)) else none
  | .lss, .i k m, .i k' n => if k = k' then some (.b (decide (m < n))) else none
  | .leq, .i k m, .i k' n => if k = k' then some (.b (decide (m ≤ n))) else none
  | .gtr, .i k m, .i k' n => if k = k' then some (.b (decide (n < m))) else none
  | .geq, .i k m, .i k' n => if k = k' then some (.b (decide (n ≤ m))) else none
  | .eql, .i k m, .i k' n => if k = k' then some (.b (decide (m = n))) else none
  | .neq, .i k m, .i k' n => if k = k' then some (.b (decide (m ≠ n))) else none
  | .eql, .s a, .s c => some (.b (decide (a = c)))
  | .neq, .s a, .s c => some (.b (decide (a ≠ c)))
  | .add, .s a, .s c => if a.size + c.size ≤ 9223372036854775807 then some (.s (a ++ c)) else none
  | _, _, _ => none
theorem xbin_ok {P : Program} {op : BinOp} {x y z : XC} (h : xbin op x y = some z) {w0 : World} {N : Nat} {Q : Exit → Act → World → Prop} {env : Env} {own : List Seg} {H : Hp} {ops : Array Oper} {rest : List Oper} {d : Option Tmp} {ty : TypeId} {pos : String} {af : Array Edge}
    {V : Vl} {a b : Operand} {tx t' : TypeId} (hx : ev env a = some (x.val V)) (hy : ev env b = some (y.val V)) (hd : okD N d = true) (hh : TL P w0 N Q ops rest (ab d (z.val V) env) own H) :
    TL P w0 N Q ops ({ dst := d, op := .binOp op tx a b t', type := ty, pos := pos, after := af, guard := none } :: rest) env own H := by
  unfold xbin at h
  split at h
  all_goals first | (split at h) | skip
  all_goals first | cases h | skip
  all_goals first | subst_vars | skip
  · exact TL.addW hx hy hd hh
  · exact TL.subW hx hy hd hh
  · exact TL.mulW hx hy hd hh
  · rename_i e; obtain ⟨rfl, e⟩ := e; exact TL.quo hx hy hd e hh
  · rename_i e; obtain ⟨rfl, e⟩ := e; exact TL.rem hx hy hd e hh
  · exact TL.lss hx hy hd hh
  · exact TL.leq hx hy hd hh
  · exact TL.gtr hx hy hd hh
  · exact TL.geq hx hy hd hh
  · exact TL.eql hx hy hd hh
  · exact TL.neq hx hy hd hh
  · exact TL.eqlS hx hy hd hh
  · exact TL.neqS hx hy hd hh
  · rename_i e; exact TL.addS hx hy hd e hh
def xnil (P : Program) (tx : TypeId) : BinOp → XC → XC → Option XC
  | .eql, .p _ _, .np => match P.underlying tx with | some (.pointer _) => some (.b false) | _ => none
  | .eql, .np, .np => match P.underlying tx with | some (.pointer _) => some (.b true) | _ => none
  | .eql, .l _ _ _ _, .nl => match P.underlying tx with | some (.slice _) => some (.b false) | _ => none
  | .eql, .nl, .nl => match P.underlying tx with | some (.slice _) => some (.b true) | _ => none
  | _, _, _ => none
theorem xnil_ok {P : Program} {op : BinOp} {x y z : XC} {tx : TypeId} (h : xnil P tx op x y = some z) {w0 : World} {N : Nat} {Q : Exit → Act → World → Prop} {env : Env} {own : List Seg} {H : Hp} {ops : Array Oper} {rest : List Oper} {d : Option Tmp} {ty : TypeId} {pos : String} {af : Array Edge}
    {V : Vl} {a b : Operand} {t' : TypeId} (hx : ev env a = some (x.val V)) (hy : ev env b = some (y.val V)) (hd : okD N d = true) (hh : TL P w0 N Q ops rest (ab d (z.val V) env) own H) :
    TL P w0 N Q ops ({ dst := d, op := .binOp op tx a b t', type := ty, pos := pos, after := af, guard := none } :: rest) env own H := by
  unfold xnil at h
  split at h
  all_goals first | (split at h) | skip
  all_goals first | cases h | skip
  · rename_i e; exact TL.eqlP e hx hy hd hh
  · rename_i e; exact TL.eqlP e hx hy hd hh
  · rename_i e
    have : Und P tx (.slice _) := ⟨e⟩
    exact TL.eqlNilB hx hy hd (fun h => by cases h) (fun _ => hh)
  · rename_i e
    have : Und P tx (.slice _) := ⟨e⟩
    exact TL.eqlNilB hx hy hd (fun _ => hh) (fun h => absurd rfl h)
def cx (look : Operand → Option XV) : List (Nat × Operand) → Option (List (Nat × List XC))
  | [] => some []
  | (k, x) :: r => match look x, cx look r with
    | some (.a u), some l => some ((k, u.cells) :: l)
    | _, _ => none
def pvV (V : Vl) (l : List (Nat × List XC)) : List (Nat × List Value) := l.map fun p => (p.1, p.2.map (XC.val V))
theorem bC {look : Operand → Option XV} {V : Vl} {env : Env} (hl : Lks look V env) : ∀ {ps : List (Nat × Operand)} {l : List (Nat × List XC)}, cx look ps = some l → ig env ps (pvV V l)
  | [], _, h => by cases h; trivial
  | (k, x) :: r, l, h => by
    simp only [cx] at h
    split at h
    · rename_i w l' h1 h2
      cases h
      exact ⟨rfl, ⟨_, hl _ _ h1, XA.cells_val V w⟩, bC hl h2⟩
    · cases h
def co : List XC → Nat → List XC → List XC
  | c, _, [] => c
  | c, o, v :: r => co (c.set o v) (o + 1) r
theorem gD : ∀ (vs c : List XC) (o : Nat), (co c o vs).length = c.length
  | [], _, _ => rfl
  | v :: r, c, o => by simp only [co, gD r, List.length_set]
theorem eR (V : Vl) : ∀ (vs c : List XC) (o : Nat) (j : List Value), o + vs.length ≤ c.length → ba (c.map (XC.val V) ++ j).toArray o (vs.map (XC.val V)) = ((co c o vs).map (XC.val V) ++ j).toArray
  | [], _, _, _, _ => rfl
  | v :: r, c, o, j, h => by
    simp only [List.length_cons] at h
    simp only [List.map_cons, ba, co]
    have e : ((c.map (XC.val V) ++ j).toArray).setIfInBounds o (v.val V) = ((c.set o v).map (XC.val V) ++ j).toArray := by
      rw [List.setIfInBounds_toArray, List.set_append_left _ _ (by simp; omega), ← List.map_set]
    rw [e]
    exact eR V r (c.set o v) (o + 1) j (by rw [List.length_set]; omega)
def em (place : Nat → Option (Nat × Nat)) (c : List XC) : List (Nat × List XC) → Option (List XC)
  | [] => some c
  | (k, vs) :: r => match place k with
    | none => none
    | some (off, size) => if vs.length = size ∧ off + vs.length ≤ c.length then em place (co c off vs) r else none
theorem dN (V : Vl) {place : Nat → Option (Nat × Nat)} : ∀ {pv : List (Nat × List XC)} {c r : List XC}, em place c pv = some r → dy place (c.map (XC.val V)).toArray (pvV V pv) = some (r.map (XC.val V)).toArray
  | [], c, r, h => by cases h; rfl
  | (k, vs) :: pv, c, r, h => by
    simp only [em] at h
    simp only [pvV, List.map_cons, dy]
    split at h
    · cases h
    · rename_i off size hp
      simp only [hp]
      split at h
      · rename_i hc
        rw [if_pos (by simpa using hc)]
        have e := eR V vs c off [] hc.2
        simp only [List.append_nil] at e
        rw [e]
        exact dN V h
      · cases h
def mget : List (XA × XC) → XA → Option XC
  | [], _ => none
  | (k, x) :: r, key => if key = k then some x else mget r key
theorem jZ {V : Vl} : ∀ {es : List (XA × XC)} {key : XA}, key.pure = true → iG V es (key.val V) = (mget es key).map (XC.val V)
  | [], _, _ => rfl
  | (k, x) :: r, key, h => by
    simp only [iG, mget]
    by_cases e : key = k
    · subst e; rw [if_pos rfl, if_pos rfl]; rfl
    · rw [if_neg (fun e' => e (XA.pure_inj h e')), if_neg e]; exact jZ h
def xidx (n : Int) : Option Nat := if 0 ≤ n then some n.toNat else none
theorem gE {n : Int} {j : Nat} (h : xidx n = some j) : n = (j : Int) := by
  unfold xidx at h
  split at h
  · injection h with h; omega
  · cases h
def xsl (P : Program) (t : TypeId) : Option (TypeId × Nat × Nat × Value) := match P.underlying t with
  | some (.slice e) => match P.info? e with
    | some inf => match inf.zero with
      | some z => if z.cells.size = inf.size ∧ 0 < inf.size then some (e, inf.size, inf.bytes, z) else none
      | none => none
    | none => none
  | _ => none
theorem eT {P : Program} {t e : TypeId} {sz by_ : Nat} {z : Value} (h : xsl P t = some (e, sz, by_, z)) : Sl P t e sz by_ z := by
  unfold xsl at h
  split at h
  · rename_i e' hu
    split at h
    · rename_i inf hi
      split at h
      · rename_i z' hz
        split at h
        · rename_i hc
          cases h
          exact Sl.of hu hi hz hc.1 (by simpa [Nat.blt_eq] using hc.2)
        · cases h
      · cases h
    · cases h
  · cases h
def xty (P : Program) (t : TypeId) : Option (Bool × Nat) := match P.underlying t, P.info? t with
  | some d, some inf => some (lm d, inf.size)
  | _, _ => none
theorem mU {P : Program} {t : TypeId} {g : Bool} {n : Nat} (h : xty P t = some (g, n)) : Ty P t g n := by
  unfold xty at h
  split at h
  · rename_i hu hi; cases h; exact Ty.of hu hi
  · cases h
def xfld (P : Program) (t : TypeId) (f : Nat) : Option Nat := match P.underlying t with
  | some (.struct fs) => match fs[f]? with
    | some fl => match xty P fl.type with
      | some (_, n) => if n = 0 then none else some fl.offset
      | none => none
    | none => none
  | _ => none
theorem xfld_ok {P : Program} {t : TypeId} {f o : Nat} (h : xfld P t f = some o) : Fld P t f o := by
  unfold xfld at h
  split at h
  · rename_i fs hu
    split at h
    · rename_i fl hf
      split at h
      · rename_i n ht
        split at h
        · cases h
        · rename_i hn
          cases h
          exact Fld.of hu hf (mU ht) (by cases n with | zero => exact absurd rfl hn | succ n => rfl)
      · cases h
    · cases h
  · cases h
def xstr (P : Program) (t : TypeId) : Option (List (Nat × Nat) × List XC) := match P.underlying t, P.info? t with
  | some (.struct fs), some inf => match inf.zero with
    | some z => match ofCs z.cells.toList with
      | some cs => if fs.toList.all (fun f => (P.info? f.type).isSome) then some (fs.toList.map fun f => (f.offset, P.cellsOf f.type), cs) else none
      | none => none
    | none => none
  | _, _ => none
theorem xstr_ok {P : Program} {t : TypeId} {pl : List (Nat × Nat)} {cs : List XC} (h : xstr P t = some (pl, cs)) : ∃ z : Array Value, Str P t pl z ∧ ∀ V, z = (cs.map (XC.val V)).toArray := by
  unfold xstr at h
  split at h
  · rename_i fs inf hu hi
    split at h
    · rename_i z hz
      split at h
      · rename_i cs' hcs
        split at h
        · rename_i aP
          cases h
          exact ⟨_, Str.of hu hi hz rfl aP rfl, fun V => by rw [dv V hcs]⟩
        · cases h
      · cases h
    · cases h
  · cases h
def de (c : List XC) (o : Nat) : Bool × Nat → Option XV
  | (true, n) => if o + n ≤ c.length then some (.a (.a ((c.drop o).take n))) else none
  | (false, 1) => (c[o]?).map fun x => .a (.c x)
  | _ => none
def cO (look : Operand → Option XV) (dft : Nat) : Option Operand → Option Nat
  | none => some dft
  | some x => match look x with
    | some (.a (.c (.i _ n))) => xidx n
    | _ => none
def xq {P : Program} (X : XP P) (look : Operand → Option XV) (hp : XH) : Op → Option (Option XV)
  | .move x => (look x).map some
  | .assign x => (look x).map some
  | .pick c x y => match look c, look x, look y with
    | some (.a (.c (.b t))), some u, some v => some (some (if t then u else v))
    | _, _, _ => none
  | .binOp op tx x y _ => match look x, look y with
    | some (.a (.c u)), some (.a (.c v)) => match xbin op u v with
      | some z => some (some (.a (.c z)))
      | none => (xnil P tx op u v).map fun z => some (.a (.c z))
    | _, _ => none
  | .unOp .not _ x => match look x with
    | some (.a (.c (.b t))) => some (some (.a (.c (.b (!t)))))
    | _ => none
  | .nilCheck x => match look x with
    | some (.a (.c (.p g o))) => some (some (.a (.c (.p g o))))
    | _ => none
  | .extract x k => match look x with
    | some (.t l) => (l[k]?).map fun u => some (.a u)
    | _ => none
  | .fieldAddr s x f => match look x, xfld P s f with
    | some (.a (.c (.p g o))), some off => some (some (.a (.c (.p g (o + off)))))
    | _, _ => none
  | .indexAddr t x i => match look x, look i, xsl P t with
    | some (.a (.c (.l g o n _))), some (.a (.c (.i _ iv))), some (_, sz, _, _) => match xidx iv with
      | some j => if j < n then some (some (.a (.c (.p g (o + j * sz))))) else none
      | none => none
    | _, _, _ => none
  | .index t x i => match look x, look i, P.underlying t with
    | some (.a (.c (.s s))), some (.a (.c (.i _ iv))), some .string => match xidx iv with
      | some j => (s[j]?).map fun b => some (.a (.c (.i .u8 (b.toNat : Int))))
      | none => none
    | _, _, _ => none
  | .load t x => match look x, xty P t with
    | some (.a (.c (.p g o))), some ty => match ah hp g with
      | some (.cells c _ _) => (de c o ty).map some
      | _ => none
    | _, _ => none
  | .slice t x lo hi none => match look x, xsl P t with
    | some (.a (.c (.l g o n c))), some (_, sz, _, _) => match cO look 0 lo, cO look n hi with
      | some l, some r => if l ≤ r ∧ r ≤ c then (if l < c then some (some (.a (.c (.l g (o + l * sz) (r - l) (c - l))))) else some (some (.a (.c (.e g o (o + l * sz)))))) else none
      | _, _ => none
    | some (.a (.c .nl)), some _ => match cO look 0 lo, cO look 0 hi with
      | some 0, some 0 => some (some (.a (.c .nl)))
      | _, _ => none
    | _, _ => none
  | .slice t x (some lo) (some hi) (some mx) => match look x, xsl P t with
    | some (.a (.c (.l _ _ _ c))), some _ => match cO look 0 (some lo), cO look 0 (some hi), cO look 0 (some mx) with
      | some l, some r, some m => if l ≤ r ∧ r ≤ m ∧ m ≤ c then some none else none
      | _, _, _ => none
    | _, _ => none
  | .build t ps => match cx look ps.toList, xstr P t with
    | some pv, some (pl, z) => (em (pl.toArray[·]?) z pv).map fun r => some (.a (.a r))
    | _, _ => none
  | .lookup t m x c => match look m, look x, P.underlying t with
    | some (.a (.c (.m g))), some (.a key), some (.map k e) => match ah hp g, P.info? e with
      | some (.map k' e' es), some inf => match inf.zero with
        | some (.int .i64 0) => if X.key k key = true ∧ k' = k ∧ e' = e then
            some (some (if c then .t [.c ((mget es key).getD (.i .i64 0)), .c (.b (mget es key).isSome)] else .a (.c ((mget es key).getD (.i .i64 0))))) else none
        | _ => none
      | _, _ => none
    | _, _, _ => none
  | .convert s t x => match look x, P.underlying s, P.underlying t with
    | some (.a (.c (.i _ n))), some _, some (.int k') => some (some (.a (.c (.i k' (k'.wrap n)))))
    | _, _, _ => none
  | .call c => match c.callee, c.args.toList, c.argTypes.toList with
    | .builtin .len, [x], [t] => match look x, P.underlying t with
      | some (.a (.c (.l _ _ n _))), some (.slice _) => some (some (.a (.c (.i .i64 (n : Int)))))
      | some (.a (.c .nl)), some (.slice _) => some (some (.a (.c (.i .i64 0))))
      | some (.a (.c (.e _ _ _))), some (.slice _) => some (some (.a (.c (.i .i64 0))))
      | some (.a (.c (.s s))), some .string => some (some (.a (.c (.i .i64 (s.size : Int)))))
      | some (.a (.c (.m g))), some (.map k e) => match ah hp g with
        | some (.map k' e' es) => if k' = k ∧ e' = e then some (some (.a (.c (.i .i64 (es.length : Int))))) else none
        | _ => none
      | _, _ => none
    | .builtin .min, [x, y], _ => match look x, look y with
      | some (.a (.c (.i k m))), some (.a (.c (.i k' n))) => if k = k' then some (some (.a (.c (.i k (min m n))))) else none
      | _, _ => none
    | .builtin .min, [x, y, z], _ => match look x, look y, look z with
      | some (.a (.c (.i k m))), some (.a (.c (.i k' n))), some (.a (.c (.i k2 q))) => if k = k' ∧ k = k2 then some (some (.a (.c (.i k (min (min m n) q))))) else none
      | _, _, _ => none
    | _, _, _ => none
  | _ => none
theorem fh {look : Operand → Option XV} {V : Vl} {env : Env} (hl : Lks look V env) {dft l : Nat} {lo : Option Operand} (h : cO look dft lo = some l) : ∃ li : Option Int, optI env lo li ∧ li.getD (dft : Int) = (l : Int) := by
  cases lo with
  | none => simp only [cO] at h; cases h; exact ⟨none, rfl, rfl⟩
  | some x =>
    simp only [cO] at h
    split at h
    · rename_i k n hx
      have := hl _ _ hx
      exact ⟨some n, ⟨k, n, rfl, this⟩, gE h⟩
    · cases h
theorem eU {look : Operand → Option XV} {V : Vl} {env : Env} (hl : Lks look V env) {dft l : Nat} {x : Operand} (h : cO look dft (some x) = some l) : ∃ k n, ev env x = some (.int k n) ∧ n = (l : Int) := by
  simp only [cO] at h
  split at h
  · rename_i k n hx
    exact ⟨k, n, hl _ _ hx, gE h⟩
  · cases h
theorem cAt_x (V : Vl) (j : List Value) : ∀ (n o : Nat) (c : List XC), o + n ≤ c.length → cAt (c.map (XC.val V) ++ j).toArray o (((c.drop o).take n).map (XC.val V))
  | 0, o, c, _ => by simp [cAt]
  | n + 1, o, c, h => by
    have hlt : o < c.length := by omega
    rw [List.drop_eq_getElem_cons hlt, List.take_succ_cons, List.map_cons]
    refine ⟨?_, cAt_x V j n (o + 1) c (by omega)⟩
    rw [cR, List.toList_toArray, List.getElem?_append_left (by simpa using hlt)]
    simp [hlt]
section
variable {P : Program} {w0 : World} {N : Nat} {Q : Exit → Act → World → Prop} {env : Env} {own : List Seg} {H : Hp} {ops : Array Oper} {rest : List Oper}
variable {d : Option Tmp} {ty : TypeId} {pos : String} {af : Array Edge}
theorem TL.slice3v {t e : TypeId} {x y1 y2 y3 : Operand} {A : Option Addr} {n c : Nat} {sz by_ : Nat} {z : Value} {k1 k2 k3 : IntKind} {q1 q2 q3 : Int} (l r m : Nat) (hx : ev env x = some (.slice A n c)) (hU : Sl P t e sz by_ z)
    (h1 : ev env y1 = some (.int k1 q1)) (h2 : ev env y2 = some (.int k2 q2)) (h3 : ev env y3 = some (.int k3 q3)) (hl : q1 = (l : Int)) (hr : q2 = (r : Int)) (hm : q3 = (m : Int)) (hlr : l ≤ r) (hrm : r ≤ m) (hmc : m ≤ c) (hd : okD N d = true)
    (h : ∀ v, TL P w0 N Q ops rest (ab d v env) own H) :
    TL P w0 N Q ops ({ dst := d, op := .slice t x (some y1) (some y2) (some y3), type := ty, pos := pos, after := af, guard := none } :: rest) env own H := TL.slice3 l r m hx h1 h2 h3 hl hr hm hlr hrm hmc hd h
theorem xq_ok {X : XP P} {look : Operand → Option XV} {hp : XH} {op : Op} {v : Option XV} (h : xq X look hp op = some v) {V : Vl} (hl : Lks look V env) (hV : HOk P V hp) (hd : okD N d = true)
    (hh : ∀ u, (∀ x, v = some x → u = x.val V) → TL P w0 N Q ops rest (ab d u env) (seg V hp :: own) H) :
    TL P w0 N Q ops ({ dst := d, op := op, type := ty, pos := pos, after := af, guard := none } :: rest) env (seg V hp :: own) H := by
  have one : ∀ x : XV, v = some x → TL P w0 N Q ops rest (ab d (x.val V) env) (seg V hp :: own) H := fun x hx => hh _ (fun y hy => by rw [hx] at hy; cases hy; rfl)
  unfold xq at h
  split at h
  · -- move
    rename_i x
    cases hx : look x with
    | none => rw [hx] at h; cases h
    | some u => rw [hx] at h; cases h; exact TL.move (hl _ _ hx) hd (one u rfl)
  · rename_i x
    cases hx : look x with
    | none => rw [hx] at h; cases h
    | some u => rw [hx] at h; cases h; exact TL.assign (hl _ _ hx) hd (one u rfl)
  · split at h
    · rename_i t u v' h1 h2 h3
      cases h
      refine TL.pick (hl _ _ h1) (hl _ _ h2) (hl _ _ h3) hd ?_
      have := one _ rfl
      cases t <;> exact this
    · cases h
  · split at h
    · rename_i u v' h1 h2
      split at h
      · rename_i z hz
        cases h
        exact xbin_ok hz (hl _ _ h1) (hl _ _ h2) hd (one _ rfl)
      · rename_i hz
        cases h3 : xnil P _ _ u v' with
        | none => rw [h3] at h; cases h
        | some z => rw [h3] at h; cases h; exact xnil_ok h3 (hl _ _ h1) (hl _ _ h2) hd (one _ rfl)
    · cases h
  · split at h
    · rename_i t h1
      cases h
      exact TL.not (hl _ _ h1) hd (one _ rfl)
    · cases h
  · split at h
    · rename_i g o h1
      cases h
      exact TL.nilCheck (hl _ _ h1) hd (one _ rfl)
    · cases h
  · split at h
    · rename_i l h1
      rename_i x k _
      cases h2 : l[k]? with
      | none => rw [h2] at h; cases h
      | some u =>
        rw [h2] at h; cases h
        exact TL.extract (hl _ _ h1) (by simp [h2]; rfl) hd (one _ rfl)
    · cases h
  · split at h
    · rename_i g o off h1 h2
      cases h
      have := xfld_ok h2
      exact TL.fieldAddr (hl _ _ h1) hd (one _ rfl)
    · cases h
  · split at h
    · rename_i g o n _ k iv e sz by_ z h1 h2 h3
      split at h
      · rename_i j hj
        split at h
        · rename_i hlt
          cases h
          have := eT h3
          exact Qg j (hl _ _ h1) (hl _ _ h2) (gE hj) hlt hd (one _ rfl)
        · cases h
      · cases h
    · cases h
  · split at h
    · rename_i s k iv h1 h2 h3
      split at h
      · rename_i j hj
        cases h4 : s[j]? with
        | none => rw [h4] at h; cases h
        | some b =>
          rw [h4] at h; cases h
          have : Und P _ .string := ⟨h3⟩
          exact TL.indexS j (hl _ _ h1) (hl _ _ h2) (gE hj) h4 hd (one _ rfl)
      · cases h
    · cases h
  · split at h
    · rename_i g o ty' h1 h2
      split at h
      · rename_i c e sz h3
        obtain ⟨j, hj, _⟩ := cI V h3
        obtain ⟨jk, hob, _⟩ := bh hV h3
        rw [hob] at hj
        obtain ⟨gg, n⟩ := ty'
        have hty := mU h2
        cases gg with
        | true =>
          simp only [de] at h
          split at h
          · rename_i hn
            cases h
            refine Qb 0 j _ (hl _ _ h1) rfl hj (cAt_x V jk n o c hn) (by rw [List.length_map, List.length_take, List.length_drop]; omega) hd ?_
            exact one _ rfl
          · cases h
        | false =>
          match n, h, hty with
          | 1, h, hty =>
            simp only [de] at h
            cases h4 : c[o]? with
            | none => rw [h4] at h; cases h
            | some x =>
              rw [h4] at h; cases h
              refine Qf 0 j (v := x.val V) (hl _ _ h1) rfl hj ?_ hd (one _ rfl)
              have hlt : o < c.length := (List.getElem?_eq_some_iff.1 h4).1
              rw [cR, List.toList_toArray, List.getElem?_append_left (by simpa using hlt)]
              simp [h4]
          | 0, h, _ => cases h
          | n + 2, h, _ => cases h
      · cases h
    · cases h
  · split at h
    · rename_i g o n c e sz by_ z h1 h2
      split at h
      · rename_i l r hl1 hr1
        split at h
        · rename_i hc
          obtain ⟨li, hli, el⟩ := fh hl hl1
          obtain ⟨ri, hri, er⟩ := fh hl hr1
          have := eT h2
          split at h
          · rename_i hlc
            cases h
            refine TL.slice l r (hl _ _ h1) hli hri (by simpa using el) er hc.1 (Nat.le_trans hc.2 (Nat.le_add_right _ _)) hd ?_
            have h5 := one _ rfl
            rw [if_neg (by omega)]
            have e6 : c + V.ex g - l = c - l + V.ex g := by omega
            rw [e6, Option.map_some, bB]
            exact h5
          · rename_i hlc
            cases h
            have e7 : l = c := by omega
            have e8 : r = c := by omega
            subst e7 e8
            refine TL.slice r r (hl _ _ h1) hli hri (by simpa using el) er (Nat.le_refl _) (Nat.le_add_right _ _) hd ?_
            have h5 := one _ rfl
            rw [Nat.sub_self, Nat.add_sub_cancel_left]
            have e9 : (if r + V.ex g = r then (some ⟨V.id g, o, none⟩ : Option Addr) else (some ⟨V.id g, o, none⟩ : Option Addr).map fun x => x.add (r * sz)) = some ⟨V.id g, if V.ex g = 0 then o else o + r * sz, none⟩ := by
              by_cases h0 : V.ex g = 0
              · rw [if_pos (by omega), if_pos h0]
              · rw [if_neg (by omega), if_neg h0, Option.map_some, bB]
            rw [e9]
            exact h5
        · cases h
      · cases h
    · rename_i h1 h2
      split at h
      · rename_i hl1 hr1
        cases h
        obtain ⟨li, hli, el⟩ := fh hl hl1
        obtain ⟨ri, hri, er⟩ := fh hl hr1
        obtain ⟨⟨e, sz, by_, z⟩, h2⟩ := (⟨_, h2⟩ : ∃ q, xsl P _ = some q)
        have := eT h2
        refine TL.slice 0 0 (hl _ _ h1) hli hri (by simpa using el) (by simpa using er) (Nat.le_refl _) (Nat.zero_le _) hd ?_
        exact one _ rfl
      · cases h
    · cases h
  · split at h
    · rename_i q h1 h2
      split at h
      · rename_i l r m hl1 hr1 hm1
        split at h
        · rename_i hc
          cases h
          obtain ⟨e, sz, by_, z⟩ := q
          obtain ⟨k1, n1, e1, f1⟩ := eU hl hl1
          obtain ⟨k2, n2, e2, f2⟩ := eU hl hr1
          obtain ⟨k3, n3, e3, f3⟩ := eU hl hm1
          exact TL.slice3v l r m (hl _ _ h1) (eT h2) e1 e2 e3 f1 f2 f3 hc.1 hc.2.1 (Nat.le_trans hc.2.2 (Nat.le_add_right _ _)) hd (fun u => hh u (fun x hx => by cases hx))
        · cases h
      · cases h
    · cases h
  · split at h
    · rename_i t ps pv pl z h1 h2
      cases h3 : em (pl.toArray[·]?) z pv with
      | none => rw [h3] at h; cases h
      | some r =>
        rw [h3] at h; cases h
        obtain ⟨zz, hs, hz⟩ := xstr_ok h2
        have hf := dN V h3
        rw [← hz V] at hf
        have := Ql (hs := hs) (ty := ty) (pos := pos) (af := af) (pvV V pv) (bC hl h1) hd hf (one _ rfl)
        simpa using this
    · cases h
  · split at h
    · rename_i g key k e h1 h2 h3
      split at h
      · rename_i k' e' es inf h4 h5
        split at h
        · rename_i h6
          split at h
          · rename_i hc
            cases h
            obtain ⟨hk, rfl, rfl⟩ := hc
            obtain ⟨K, hp1, hk2⟩ := X.keyOk _ _ hk
            obtain ⟨kl, hkl⟩ := hk2 V
            obtain ⟨j, hj, _⟩ := cI V h4
            obtain ⟨hM, _⟩ := bh hV h4
            have hu := Und.mk h3
            have hz : ∀ w, (zeroValue e').run P w = .ok (.int .i64 0) w := fun w => by simp [zeroValue, typeInfo, h5, h6]
            refine TL.lookG 0 j (hl _ _ h1) (hl _ _ h2) rfl hj K hM hkl hz hd ?_
            have := one _ rfl
            rw [show (XV.a key).val V = key.val V from rfl, jZ hp1]
            rw [apply_ite (XV.val V)] at this
            cases hg : mget es key with
            | none => rw [hg] at this; exact this
            | some u => rw [hg] at this; exact this
          · cases h
        · cases h
      · cases h
    · cases h
  · split at h
    · rename_i k n ds k' h1 h2 h3
      cases h
      have := Und.mk h2; have := Und.mk h3
      exact TL.convI (hl _ _ h1) hd (one _ rfl)
    · cases h
  · rename_i c
    obtain ⟨callee, args, tys⟩ := c
    simp only at h
    split at h
    · rename_i x t ha ht
      have ha' : args = #[x] := by rw [← Array.toArray_toList (xs := args), ha]
      have ht' : tys = #[t] := by rw [← Array.toArray_toList (xs := tys), ht]
      subst ha' ht'
      split at h
      · rename_i h1 h2; cases h; have := Und.mk h2; exact TL.len_slice (hl _ _ h1) hd (one _ rfl)
      · rename_i h1 h2; cases h; have := Und.mk h2; exact TL.len_slice (hl _ _ h1) hd (one _ rfl)
      · rename_i h1 h2; cases h; have := Und.mk h2; exact TL.len_slice (hl _ _ h1) hd (one _ rfl)
      · rename_i h1 h2; cases h; have := Und.mk h2; exact TL.len_string (hl _ _ h1) hd (one _ rfl)
      · rename_i g k e h1 h2
        split at h
        · rename_i k' e' es h3
          split at h
          · rename_i hc'
            cases h
            obtain ⟨rfl, rfl⟩ := hc'
            obtain ⟨j, hj, _⟩ := cI V h3
            obtain ⟨hM, _⟩ := bh hV h3
            have := Und.mk h2
            exact TL.lenMap 0 j (hl _ _ h1) rfl hj hM hd (one _ rfl)
          · cases h
        · cases h
      · cases h
    · rename_i x y ha
      have ha' : args = #[x, y] := by rw [← Array.toArray_toList (xs := args), ha]
      subst ha'
      split at h
      · rename_i k m k' n h1 h2
        split at h
        · rename_i e; subst e; cases h
          exact TL.min2 (hl _ _ h1) (hl _ _ h2) hd (one _ rfl)
        · cases h
      · cases h
    · rename_i x y z ha
      have ha' : args = #[x, y, z] := by rw [← Array.toArray_toList (xs := args), ha]
      subst ha'
      split at h
      · rename_i k m k' n k2 q h1 h2 h3
        split at h
        · rename_i e; obtain ⟨rfl, rfl⟩ := e; cases h
          exact TL.min3 (hl _ _ h1) (hl _ _ h2) (hl _ _ h3) hd (one _ rfl)
        · cases h
      · cases h
    · cases h
  · cases h
end
def Agr (nx : Nat) (V V' : Vl) : Prop := ∀ g, g < nx → V'.id g = V.id g ∧ V'.ex g = V.ex g
theorem Agr.refl (nx : Nat) (V : Vl) : Agr nx V V := fun _ _ => ⟨rfl, rfl⟩
theorem Agr.trans {a b : Nat} {V V' V'' : Vl} (h : Agr a V V') (hab : a ≤ b) (h' : Agr b V' V'') : Agr a V V'' := fun g hg => ⟨(h' g (by omega)).1.trans (h g hg).1, (h' g (by omega)).2.trans (h g hg).2⟩
def XC.lt (nx : Nat) : XC → Bool
  | .p g _ => Nat.blt g nx
  | .l g _ _ _ => Nat.blt g nx
  | .m g => Nat.blt g nx
  | .e g _ _ => Nat.blt g nx
  | _ => true
theorem XC.agr {nx : Nat} {V V' : Vl} (h : Agr nx V V') {x : XC} (hx : x.lt nx = true) : x.val V' = x.val V := by
  cases x <;> simp only [XC.lt, Nat.blt_eq] at hx <;> simp only [XC.val]
  · rw [(h _ hx).1]
  · rw [(h _ hx).1, (h _ hx).2]
  · rw [(h _ hx).1]
  · rw [(h _ hx).1, (h _ hx).2]
def XA.lt (nx : Nat) : XA → Bool
  | .c x => x.lt nx
  | .a l => l.all (XC.lt nx)
theorem XC.agrL {nx : Nat} {V V' : Vl} (h : Agr nx V V') {l : List XC} (hx : l.all (XC.lt nx) = true) : l.map (XC.val V') = l.map (XC.val V) :=
  List.map_congr_left fun x hm => XC.agr h (List.all_eq_true.1 hx x hm)
theorem XA.agr {nx : Nat} {V V' : Vl} (h : Agr nx V V') {x : XA} (hx : x.lt nx = true) : x.val V' = x.val V := by
  cases x with
  | c x => exact XC.agr h hx
  | a l => simp only [XA.val]; rw [XC.agrL h hx]
def XV.lt (nx : Nat) : XV → Bool
  | .a x => x.lt nx
  | .t l => l.all (XA.lt nx)
  | .u => true
theorem XV.agr {nx : Nat} {V V' : Vl} (h : Agr nx V V') {x : XV} (hx : x.lt nx = true) : x.val V' = x.val V := by
  cases x with
  | a x => exact XA.agr h hx
  | t l =>
    simp only [XV.val]
    rw [List.map_congr_left fun x hm => XA.agr h (List.all_eq_true.1 hx x hm)]
  | u => rfl
def XE.lt (nx : Nat) (E : XE) : Bool := E.all fun p => p.2.lt nx
theorem XE.agr {nx : Nat} {V V' : Vl} (h : Agr nx V V') {E : XE} (hx : XE.lt nx E = true) : XE.val V' E = XE.val V E :=
  List.map_congr_left fun p hm => by rw [XV.agr h (List.all_eq_true.1 hx p hm)]
def XO.lt (nx : Nat) : XO → Bool
  | .cells c _ _ => c.all (XC.lt nx)
  | .map _ _ es => es.all fun p => p.1.lt nx && p.2.lt nx
def hlt (nx : Nat) (hp : XH) : Bool := hp.all fun p => Nat.blt p.1 nx && p.2.lt nx
theorem n6 {nx : Nat} {V V' : Vl} (h : Agr nx V V') : ∀ {es : List (XA × XC)}, (es.all fun p => p.1.lt nx && p.2.lt nx) = true → iG V' es = iG V es
  | [], _ => rfl
  | (k, x) :: r, hx => by
    simp only [List.all_cons, Bool.and_eq_true] at hx
    funext key
    simp only [iG, XC.agr h hx.1.2, n6 h (es := r) (by simpa using hx.2)]
    rw [XA.agr h hx.1.1]
theorem Rel.agr {P : Program} {nx : Nat} {V V' : Vl} (h : Agr nx V V') {g : Nat} (hg : g < nx) (ho : V'.ob g = V.ob g) {xo : XO} (hx : xo.lt nx = true) (hr : Rel P V g xo) : Rel P V' g xo := by
  cases xo with
  | cells c e sz =>
    obtain ⟨j, h1, h2, h3⟩ := hr
    refine ⟨j, ?_, ?_, ?_⟩
    · rw [ho, h1, XC.agrL h hx]
    · rw [(h g hg).2]; exact h2
    · rw [(h g hg).2]; exact h3
  | map k e es =>
    obtain ⟨h1, h2⟩ := hr
    refine ⟨?_, h2⟩
    rw [ho, n6 h hx]; exact h1
theorem HOk.agr {P : Program} {nx : Nat} {V V' : Vl} (h : Agr nx V V') {hp : XH} (hob : ∀ g, g < nx → V'.ob g = V.ob g) (hx : hlt nx hp = true) (hV : HOk P V hp) : HOk P V' hp ∧ seg V' hp = seg V hp := by
  have hx' := List.all_eq_true.1 hx
  refine ⟨fun p hm => ?_, List.map_congr_left fun p hm => ?_⟩
  · have := hx' p hm
    simp only [Bool.and_eq_true, Nat.blt_eq] at this
    exact (hV p hm).agr h this.1 (hob _ this.1) this.2
  · have := hx' p hm
    simp only [Bool.and_eq_true, Nat.blt_eq] at this
    rw [(h _ this.1).1, hob _ this.1]
def updN {α : Type} (f : Nat → α) (g : Nat) (v : α) : Nat → α := fun k => if k = g then v else f k
theorem aU {α : Type} (f : Nat → α) (g : Nat) (v : α) : updN f g v g = v := if_pos rfl
theorem fi {α : Type} (f : Nat → α) {g k : Nat} (v : α) (h : k ≠ g) : updN f g v k = f k := if_neg h
def Vl.new (V : Vl) (nx g ex : Nat) (o : Obj) : Vl := ⟨updN V.id nx g, updN V.ex nx ex, updN V.ob nx o⟩
theorem Vl.new_agr (V : Vl) (nx g ex : Nat) (o : Obj) : Agr nx V (V.new nx g ex o) := fun k hk => ⟨fi _ _ (by omega), fi _ _ (by omega)⟩
theorem Vl.new_ok {P : Program} {V : Vl} {hp : XH} {nx : Nat} (hV : HOk P V hp) (hx : hlt nx hp = true) (g ex : Nat) (o : Obj) (xo : XO) (hr : Rel P (V.new nx g ex o) nx xo) :
    HOk P (V.new nx g ex o) ((nx, xo) :: hp) ∧ seg (V.new nx g ex o) ((nx, xo) :: hp) = (g, o) :: seg V hp := by
  obtain ⟨h1, h2⟩ := hV.agr (V.new_agr nx g ex o) (fun k hk => fi _ _ (by omega)) hx
  refine ⟨fun p hm => ?_, ?_⟩
  · rcases List.mem_cons.1 hm with rfl | hm
    · exact hr
    · exact h1 p hm
  · show ((V.new nx g ex o).id nx, (V.new nx g ex o).ob nx) :: seg (V.new nx g ex o) hp = _
    rw [h2]
    simp [Vl.new, aU]
def Vl.put (V : Vl) (g : Nat) (o : Obj) : Vl := { V with ob := updN V.ob g o }
theorem Vl.put_agr (V : Vl) (nx g : Nat) (o : Obj) : Agr nx V (V.put g o) := fun _ _ => ⟨rfl, rfl⟩
theorem Vl.put_val (V : Vl) (g : Nat) (o : Obj) : XC.val (V.put g o) = XC.val V := funext fun x => by cases x <;> rfl
theorem Vl.put_valA (V : Vl) (g : Nat) (o : Obj) (x : XA) : x.val (V.put g o) = x.val V := by cases x <;> simp only [XA.val, Vl.put_val]
theorem Vl.put_mapF (V : Vl) (g : Nat) (o : Obj) : ∀ es, iG (V.put g o) es = iG V es
  | [] => rfl
  | (k, x) :: r => by funext key; simp only [iG, Vl.put_val, Vl.put_mapF V g o r]; rw [Vl.put_valA]
theorem Rel.put {P : Program} {V : Vl} {g k : Nat} {o : Obj} (hk : k ≠ g) {xo : XO} (hr : Rel P V k xo) : Rel P (V.put g o) k xo := by
  have e : (V.put g o).ob k = V.ob k := fi _ _ hk
  cases xo with
  | cells c e' sz =>
    obtain ⟨j, h1, h2, h3⟩ := hr
    exact ⟨j, by rw [e, h1, Vl.put_val], h2, h3⟩
  | map k' e' es =>
    obtain ⟨h1, h2⟩ := hr
    exact ⟨by rw [e, Vl.put_mapF]; exact h1, h2⟩
theorem seg_put (V : Vl) {g : Nat} (o : Obj) : ∀ {hp : XH}, (∀ p ∈ hp, p.1 ≠ g) → seg (V.put g o) hp = seg V hp := fun h => List.map_congr_left fun p hm => by
  show (V.id p.1, updN V.ob g o p.1) = _
  rw [fi _ _ (h p hm)]
theorem fj {P : Program} (V : Vl) {g : Nat} : ∀ {hp : XH} {xo : XO}, (hp.map (·.1)).Nodup → HOk P V hp → ah hp g = some xo →
    ∃ j : Nat, (seg V hp)[j]? = some (V.id g, V.ob g) ∧ ∀ o xo', Rel P (V.put g o) g xo' → seg (V.put g o) (aF hp g xo') = (seg V hp).set j (V.id g, o) ∧ HOk P (V.put g o) (aF hp g xo')
  | [], _, _, _, h => by cases h
  | (i, x) :: r, xo, hn, hV, h => by
    simp only [List.map_cons, List.nodup_cons] at hn
    simp only [ah] at h
    simp only [aF]
    cases hb : Nat.beq i g with
    | true =>
      have e := Nat.eq_of_beq_eq_true hb
      subst e
      have hne : ∀ p ∈ r, p.1 ≠ i := fun p hm e => hn.1 (e ▸ List.mem_map.2 ⟨p, hm, rfl⟩)
      refine ⟨0, rfl, fun o xo' hr => ⟨?_, fun p hm => ?_⟩⟩
      · show (V.id i, updN V.ob i o i) :: seg (V.put i o) r = (V.id i, o) :: seg V r
        rw [aU, seg_put V o hne]
      · rcases List.mem_cons.1 hm with rfl | hm
        · exact hr
        · exact (hV p (List.mem_cons_of_mem _ hm)).put (hne p hm)
    | false =>
      have hne := Nat.ne_of_beq_eq_false hb
      simp only [hb, cond_false] at h
      obtain ⟨j, h1, h2⟩ := fj V hn.2 (fun p hm => hV p (List.mem_cons_of_mem _ hm)) h
      refine ⟨j + 1, h1, fun o xo' hr => ⟨?_, fun p hm => ?_⟩⟩
      · show (V.id i, updN V.ob g o i) :: seg (V.put g o) (aF r g xo') = (V.id i, V.ob i) :: (seg V r).set j (V.id g, o)
        rw [fi _ _ hne, (h2 o xo' hr).1]
      · rcases List.mem_cons.1 hm with rfl | hm
        · exact (hV _ (List.mem_cons_self ..)).put hne
        · exact (h2 o xo' hr).2 p hm
theorem St.names {w0 w : World} {H : Hp} {own : List Seg} {V : Vl} {hp : XH} (h : St w0 H (seg V hp :: own) w) : (hp.map (·.1)).Nodup := by
  have hn := h.nodup
  simp only [List.flatten_cons, List.map_append, List.nodup_append] at hn
  have h1 := hn.1
  rw [show (seg V hp).map (·.1) = (hp.map (·.1)).map V.id by simp [seg, Function.comp_def]] at h1
  exact (List.pairwise_map.1 h1).imp fun h e => h (by rw [e])
def eo (P : Program) (t : TypeId) : Option (List XC) := match P.info? t with
  | some inf => match inf.zero with
    | some z => ofCs z.cells.toList
    | none => none
  | none => none
def xseq (sz : Nat) : Nat → List (Nat × List XC) → Bool
  | _, [] => true
  | k, (j, vs) :: r => Nat.beq j k && Nat.beq vs.length sz && xseq sz (k + 1) r
theorem xseq_ok (V : Vl) {sz : Nat} : ∀ {pv : List (Nat × List XC)} {k : Nat}, xseq sz k pv = true → seqP sz k (pvV V pv) = true ∧ (pv.flatMap (·.2)).length = pv.length * sz
  | [], _, _ => ⟨rfl, by simp⟩
  | (j, vs) :: r, k, h => by
    simp only [xseq, Bool.and_eq_true] at h
    obtain ⟨⟨h1, h2⟩, h3⟩ := h
    have e1 := Nat.eq_of_beq_eq_true h1
    have e2 := Nat.eq_of_beq_eq_true h2
    obtain ⟨h4, h5⟩ := xseq_ok V h3
    subst e1
    refine ⟨?_, ?_⟩
    · simp only [pvV, List.map_cons, seqP] at h4 ⊢
      simp [e2, h4]
    · simp only [List.flatMap_cons, List.length_append, h5, e2, List.length_cons, Nat.add_mul]; omega
def xh {P : Program} (X : XP P) (look : Operand → Option XV) (hp : XH) (nx : Nat) : Op → Option (XV × XH × Nat)
  | .alloc t => match eo P t with
    | some cs => if hlt nx hp && cs.all (XC.lt nx) then some (.a (.c (.p nx 0)), (nx, .cells cs t 0) :: hp, nx + 1) else none
    | none => none
  | .box t x => match look x with
    | some (.a v) => if hlt nx hp && v.lt nx then some (.a (.c (.p nx 0)), (nx, .cells v.cells t 0) :: hp, nx + 1) else none
    | _ => none
  | .buildSlice t len ps => match cx look ps.toList, xsl P t with
    | some pv, some (e, sz, _, _) => if hlt nx hp && (xseq sz 0 pv && Nat.beq pv.length len && Nat.ble (len * sz) 16777216 && (pv.flatMap (·.2)).all (XC.lt nx)) then
        some (.a (.c (.l nx 0 len len)), (nx, .cells (pv.flatMap (·.2)) e sz) :: hp, nx + 1) else none
    | _, _ => none
  | .makeSlice t x y => match look x, look y, xsl P t with
    | some (.a (.c (.i _ l))), some (.a (.c (.i _ l'))), some (e, sz, by_, z) => match xidx l with
      | some n => match ofCs (madeCells z.cells (n * sz)).toList with
        | some cs => if hlt nx hp && cs.all (XC.lt nx) && decide (l' = l ∧ by_ * n ≤ 281474976710656 ∧ n ≤ maxLen) then some (.a (.c (.l nx 0 n n)), (nx, .cells cs e sz) :: hp, nx + 1) else none
        | none => none
      | none => none
    | _, _, _ => none
  | .makeMap t none => match P.underlying t with
    | some (.map k e) => if hlt nx hp then some (.a (.c (.m nx)), (nx, .map k e []) :: hp, nx + 1) else none
    | _ => none
  | .store t x y => match look x, look y, xty P t with
    | some (.a (.c (.p g o))), some (.a v), some (_, n) => match ah hp g with
      | some (.cells c e sz) => if Nat.beq v.cells.length n && Nat.ble (o + v.cells.length) c.length then some (.u, aF hp g (.cells (co c o v.cells) e sz), nx) else none
      | _ => none
    | _, _, _ => none
  | .mapUpdate t m x y => match look m, look x, look y, P.underlying t with
    | some (.a (.c (.m g))), some (.a key), some (.a (.c (.i .i64 n))), some (.map k e) => match ah hp g, P.underlying e with
      | some (.map k' e' es), some (.int .i64) => if X.key k key = true ∧ k' = k ∧ e' = e ∧ mget es key = none ∧ es.length < maxLen ∧ I64 n then some (.u, aF hp g (.map k e ((key, .i .i64 n) :: es)), nx) else none
      | _, _ => none
    | _, _, _, _ => none
  | .call c => match c.callee, c.args.toList, c.argTypes.toList with
    | .builtin .append, [x, y], [t, t'] => match xsl P t with
      | some (e, sz, by_, _) => if t' = t then match look x, look y with
        | some (.a (.c (.l g 0 n c))), some (.a (.c (.l b o m _))) => match ah hp g, ah hp b with
          | some (.cells cg e' sz'), some (.cells cb _ _) =>
            if e' = e ∧ o + m * sz ≤ cb.length then
              if n + m ≤ c ∧ n * sz + m * sz ≤ cg.length then some (.a (.c (.l g 0 (n + m) c)), aF hp g (.cells (co cg (n * sz) ((cb.drop o).take (m * sz))) e' sz'), nx)
              else if sz' = sz ∧ cg.length = c * sz ∧ n ≤ c ∧ n + m ≤ maxLen ∧ (n + m) * by_ ≤ 140737488355328 ∧ hlt nx hp = true ∧ 0 < m then
                some (.a (.c (.l nx 0 (n + m) (n + m))), (nx, .cells (cg.take (n * sz) ++ (cb.drop o).take (m * sz)) e sz) :: bi hp g, nx + 1)
              else none
            else none
          | _, _ => none
        | some (.a (.c (.l g 0 n c))), some (.a (.c (.e _ _ _))) => match ah hp g with
          | some (.cells cg e' sz') => if e' = e ∧ n ≤ c ∧ n * sz ≤ cg.length then some (.a (.c (.l g 0 n c)), aF hp g (.cells cg e' sz'), nx) else none
          | _ => none
        | some (.a (.c .nl)), some (.a (.c (.l b o m _))) => match ah hp b with
          | some (.cells cb _ _) => if o + m * sz ≤ cb.length ∧ m ≤ maxLen ∧ m * by_ ≤ 140737488355328 ∧ hlt nx hp = true ∧ 0 < m then
              some (.a (.c (.l nx 0 m m)), (nx, .cells ((cb.drop o).take (m * sz)) e sz) :: hp, nx + 1) else none
          | _ => none
        | _, _ => none
        else none
      | none => none
    | .builtin .clear, [x], [t] => match look x, xsl P t with
      | some (.a (.c (.l g o n _))), some (_, _, _, z) => match ah hp g, ofCs (Builtin.zeroCells z.cells n).toList with
        | some (.cells c e sz), some zs => if 0 < n ∧ o + zs.length ≤ c.length then some (.t [], aF hp g (.cells (co c o zs) e sz), nx) else none
        | _, _ => none
      | _, _ => none
    | _, _, _ => none
  | _ => none
theorem kZ (V : Vl) : ∀ {hp : XH} {g : Nat} {o : XO}, ah hp g = some o → (seg V hp).Perm ((V.id g, V.ob g) :: seg V (bi hp g))
  | [], _, _, h => by cases h
  | (i, x) :: r, g, o, h => by
    simp only [ah] at h
    simp only [bi]
    cases hb : Nat.beq i g with
    | true => have e := Nat.eq_of_beq_eq_true hb; subst e; exact .refl _
    | false =>
      simp only [hb, cond_false] at h
      exact (List.Perm.cons _ (kZ V h)).trans (.swap _ _ _)
theorem j6 : ∀ {hp : XH} {g : Nat} {p : Nat × XO}, p ∈ bi hp g → p ∈ hp
  | [], _, _, h => by cases h
  | (i, x) :: r, g, p, h => by
    simp only [bi] at h
    cases hb : Nat.beq i g with
    | true => simp only [hb, cond_true] at h; exact List.mem_cons_of_mem _ h
    | false =>
      simp only [hb, cond_false] at h
      rcases List.mem_cons.1 h with h | h
      · exact h ▸ List.mem_cons_self ..
      · exact List.mem_cons_of_mem _ (j6 h)
theorem ic {nx : Nat} {hp : XH} (hx : hlt nx hp = true) {g : Nat} {c : List XC} {e : TypeId} {sz : Nat} (h : ah hp g = some (.cells c e sz)) : c.all (XC.lt nx) = true := by
  obtain ⟨j, _, h2⟩ := cI ⟨fun x => x, fun x => x, fun _ => .map #[] 0⟩ h
  have := List.all_eq_true.1 hx _ (List.mem_of_getElem? h2)
  simp only [Bool.and_eq_true] at this
  exact this.2
theorem iS {α : Type} {p : α → Bool} {l m : List α} (h : m.all p = true) (hs : ∀ x ∈ l, x ∈ m) : l.all p = true := List.all_eq_true.2 fun x hx => List.all_eq_true.1 h x (hs x hx)
section
variable {P : Program} {w0 : World} {N : Nat} {Q : Exit → Act → World → Prop} {env : Env} {own : List Seg} {H : Hp} {ops : Array Oper} {rest : List Oper}
variable {d : Option Tmp} {ty : TypeId} {pos : String} {af : Array Edge}
theorem dT {V : Vl} {hp hp' : XH} {nx : Nat} (hV : HOk P V hp) (hx : hlt nx hp = true) {g ex : Nat} {o : Obj} {xo : XO} (hr : Rel P (V.new nx g ex o) nx xo) {v : XV} {u : Value} (hu : u = v.val (V.new nx g ex o)) (he : hp' = (nx, xo) :: hp)
    (hh : ∀ V', Agr nx V V' → nx ≤ nx + 1 → HOk P V' hp' → TL P w0 N Q ops rest (ab d (v.val V') env) (seg V' hp' :: own) H) : TL P w0 N Q ops rest (ab d u env) ([(g, o)] :: seg V hp :: own) H := by
  obtain ⟨h1, h2⟩ := V.new_ok hV hx g ex o xo hr
  subst he
  have h3 := hh _ (V.new_agr nx g ex o) (Nat.le_succ _) h1
  rw [h2, ← hu] at h3
  exact TL.flat (own' := ((g, o) :: seg V hp) :: own) (.refl _) h3
theorem Rel.newCells {V : Vl} {nx g ex : Nat} {c : List XC} {e : TypeId} {sz : Nat} {cs : Array Value} (j : List Value) (hc : cs.toList = c.map (XC.val (V.new nx g ex (.cells cs e (0, 0)))) ++ j) (hj : j.length = ex * sz) (hs : sz = 0 ∨ ∃ n, c.length = n * sz ∧ n + ex ≤ maxLen) :
    Rel P (V.new nx g ex (.cells cs e (0, 0))) nx (.cells c e sz) := by
  have h1 : (V.new nx g ex (.cells cs e (0, 0))).ob nx = .cells cs e (0, 0) := aU ..
  have h2 : (V.new nx g ex (.cells cs e (0, 0))).ex nx = ex := aU ..
  refine ⟨j, ?_, by rw [h2]; exact hj, by rw [h2]; exact hs⟩
  rw [h1, ← hc]
theorem ie {V : Vl} {nx g ex : Nat} {o : Obj} : (V.new nx g ex o).id nx = g := aU ..
theorem new_ex {V : Vl} {nx g ex : Nat} {o : Obj} : (V.new nx g ex o).ex nx = ex := aU ..
theorem Src.flat {own own' : List Seg} {A : Option Addr} {sz m : Nat} {news : List Value} (h : Src w0 H own A sz m news) (hf : own'.flatten.Perm own.flatten) : Src w0 H own' A sz m news :=
  ⟨h.1, h.2.1, h.2.2.imp id fun ⟨b, o, h1, h2⟩ => ⟨b, o, h1, fun W hW => h2 W (hW.flat hf.symm)⟩⟩
theorem grow_ok {V : Vl} {hp : XH} {nx : Nat} (hV : HOk P V hp) (hx : hlt nx hp = true) {e : TypeId} {sz n : Nat} (hsz : 0 < sz) (hn : 0 < n) (hnm : n ≤ maxLen) {c : List XC} {xs : List Value} {v' : Value} {seg' : Seg} (hc : c.map (XC.val V) = xs) (hlt : c.all (XC.lt nx) = true) (hrow : Row e sz v' n xs seg')
    (hh : ∀ V', Agr nx V V' → nx ≤ nx + 1 → HOk P V' ((nx, .cells c e sz) :: hp) → TL P w0 N Q ops rest (ab d ((XV.a (.c (.l nx 0 n n))).val V') env) (seg V' ((nx, .cells c e sz) :: hp) :: own) H) :
    TL P w0 N Q ops rest (ab d v' env) (seg' :: seg V hp :: own) H := by
  obtain ⟨hlen, hr⟩ := hrow
  rcases hr with ⟨_, h0, _⟩ | ⟨g, cap, cur, rfl, rfl, h1, h2, h3, h4⟩
  · omega
  · refine dT hV hx (ex := cap - n) (Rel.newCells (cur.toList.drop (n * sz)) ?_ ?_ (.inr ⟨n, ?_, by omega⟩)) ?_ rfl hh
    · rw [XC.agrL (V.new_agr nx g (cap - n) _) hlt, hc, ← h4, List.take_append_drop]
    · rw [List.length_drop, Array.length_toList, h3, Nat.sub_mul]
    · have := congrArg List.length hc
      rw [List.length_map] at this
      rw [this, hlen]
    · simp only [XV.val, XA.val, XC.val, ie, new_ex]
      rw [show n + (cap - n) = cap by omega]
theorem xh_ok {X : XP P} {look : Operand → Option XV} {hp hp' : XH} {nx nx' : Nat} {op : Op} {v : XV} (h : xh X look hp nx op = some (v, hp', nx')) {V : Vl} (hl : Lks look V env) (hV : HOk P V hp) (hd : okD N d = true)
    (hh : ∀ V', Agr nx V V' → nx ≤ nx' → HOk P V' hp' → TL P w0 N Q ops rest (ab d (v.val V') env) (seg V' hp' :: own) H) :
    TL P w0 N Q ops ({ dst := d, op := op, type := ty, pos := pos, after := af, guard := none } :: rest) env (seg V hp :: own) H := by
  unfold xh at h
  split at h
  · -- alloc
    rename_i t
    split at h
    · rename_i cs hcs
      split at h
      · rename_i hb
        cases h
        simp only [Bool.and_eq_true] at hb
        unfold eo at hcs
        split at hcs
        · rename_i inf hi
          split at hcs
          · rename_i z hz
            have : Inf P t inf := ⟨hi⟩
            refine TL.alloc hz rfl hd (fun g => ?_)
            refine dT hV hb.1 (ex := 0) (Rel.newCells [] ?_ (by simp) (.inl rfl)) ?_ rfl hh
            · rw [List.append_nil, dv _ hcs]
            · simp only [XV.val, XA.val, XC.val, ie]
          · cases hcs
        · cases hcs
      · cases h
    · cases h
  · -- box
    rename_i t x
    split at h
    · rename_i v' h1
      split at h
      · rename_i hb
        cases h
        simp only [Bool.and_eq_true] at hb
        refine TL.box (hl _ _ h1) rfl hd (fun g => ?_)
        refine dT hV hb.1 (ex := 0) (Rel.newCells [] ?_ (by simp) (.inl rfl)) ?_ rfl hh
        · rw [List.append_nil, show (XV.a v').val V = v'.val V from rfl, XA.cells_val]
          refine (XC.agrL (V.new_agr nx g 0 _) ?_).symm
          cases v' with
          | c x => have := hb.2; simp only [XA.lt] at this; simp [XA.cells, this]
          | a l => exact hb.2
        · simp only [XV.val, XA.val, XC.val, ie]
      · cases h
    · cases h
  · -- buildSlice
    rename_i t len ps
    split at h
    · rename_i pv e sz by_ z h1 h2
      split at h
      · rename_i hb
        cases h
        simp only [Bool.and_eq_true] at hb
        obtain ⟨hb1, ⟨⟨hb2, hb3⟩, hb4⟩, hb5⟩ := hb
        have hU := eT h2
        have hlen := Nat.eq_of_beq_eq_true hb3
        obtain ⟨h4, h5⟩ := xseq_ok V hb2
        have h6 := Nat.le_of_ble_eq_true hb4
        have := TL.litF (hu := hU) (ty := ty) (pos := pos) (af := af) (rest := rest) (ops := ops) (Q := Q) (own := seg V hp :: own) (H := H) (w0 := w0) (pvV V pv) (bC hl h1) hb4 (by rw [h4, ← hlen]; simp [pvV]) rfl hd (fun g => ?_)
        · simpa using this
        · have hfm : (pvV V pv).flatMap (·.2) = (pv.flatMap (·.2)).map (XC.val V) := by
            simp only [pvV, List.flatMap_map, List.map_flatMap]
          refine dT hV hb1 (ex := 0) (Rel.newCells [] ?_ (by simp) (.inr ⟨len, by rw [h5, hlen], ?_⟩)) ?_ rfl hh
          · rw [List.append_nil, List.toList_toArray, hfm]
            exact (XC.agrL (V.new_agr nx g 0 _) hb5).symm
          · have := hU.pos
            have : len ≤ len * sz := Nat.le_mul_of_pos_right _ this
            simp only [maxLen]; omega
          · simp only [XV.val, XA.val, XC.val, ie, new_ex, Nat.add_zero]
      · cases h
    · cases h
  · -- makeSlice
    rename_i t x y
    split at h
    · rename_i k l k' l' e sz by_ z h1 h2 h3
      split at h
      · rename_i n hn
        split at h
        · rename_i cs hcs
          split at h
          · rename_i hb
            cases h
            simp only [Bool.and_eq_true, decide_eq_true_eq] at hb
            obtain ⟨⟨hb1, hb2⟩, rfl, hb3, hb4⟩ := hb
            have hU := eT h3
            refine TL.makeSlice n (hl _ _ h1) (hl _ _ h2) (gE hn) hb3 (by simpa [maxLen] using hb4) hd (fun g => ?_)
            refine dT hV hb1 (ex := 0) (Rel.newCells [] ?_ (by simp) (.inr ⟨n, ?_, by simpa using hb4⟩)) ?_ rfl hh
            · rw [List.append_nil, dv _ hcs]
            · have e1 := congrArg List.length (dv V hcs)
              simp only [List.length_map, Array.length_toList] at e1; rw [size_madeCells] at e1
              exact e1
            · simp only [XV.val, XA.val, XC.val, ie, new_ex, Nat.add_zero]
          · cases h
        · cases h
      · cases h
    · cases h
  · -- makeMap
    rename_i t
    split at h
    · rename_i k e hu
      split at h
      · rename_i hb
        cases h
        refine TL.newMap hd (fun g => ?_)
        refine dT hV hb (ex := 0) (xo := .map k e []) ⟨?_, by simp⟩ ?_ rfl hh
        · have h1 : (V.new nx g 0 (.map #[] 0)).ob nx = .map #[] 0 := aU ..
          rw [h1]
          exact MapG.nil P k e
        · simp only [XV.val, XA.val, XC.val, ie]
      · cases h
    · cases h
  · -- store
    rename_i t x y
    split at h
    · rename_i g o v' gg n h1 h2 h3
      split at h
      · rename_i c e sz h4
        split at h
        · rename_i hb
          cases h
          simp only [Bool.and_eq_true] at hb
          have e1 := Nat.eq_of_beq_eq_true hb.1
          have e2 := Nat.le_of_ble_eq_true hb.2
          have hty := mU h3
          intro a w ha hw
          obtain ⟨jk, hob, hj1, hj2⟩ := bh hV h4
          have hp1 := eR V v'.cells c o jk e2
          obtain ⟨j, hj, aF⟩ := fj (P := P) V hw.names hV h4
          obtain ⟨hs, hV'⟩ := aF (.cells ((co c o v'.cells).map (XC.val V) ++ jk).toArray e (0, 0)) (.cells (co c o v'.cells) e sz)
            ⟨jk, by rw [Vl.put_val]; exact aU .., hj1, by rw [gD]; exact hj2⟩
          rw [hob] at hj
          refine (TL.store 0 j (hl _ _ h1) (hl _ _ h2) rfl hj (XA.cells_val V v') (by simpa using e1) (fun u hu => ?_) (by simp; omega) hp1 rfl hd ?_) a w ha hw
          · obtain ⟨x', _, rfl⟩ := List.mem_map.1 hu
            exact x'.one V
          · have := hh _ (V.put_agr nx g _) (Nat.le_refl _) hV'
            rw [hs] at this
            exact this
        · cases h
      · cases h
    · cases h
  · -- mapUpdate
    split at h
    · rename_i t m x y g key n k e h1 h2 h3 h4
      split at h
      · rename_i k' e' es h5 h6
        split at h
        · rename_i hb
          cases h
          obtain ⟨hk, rfl, rfl, hg, hlen, h64⟩ := hb
          obtain ⟨K, hp1, hk2⟩ := X.keyOk _ _ hk
          obtain ⟨kl, hkl⟩ := hk2 V
          have hu := Und.mk h4
          intro a w ha hw
          obtain ⟨hM, hpu⟩ := bh hV h5
          obtain ⟨j0, hj0, aF⟩ := fj (P := P) V hw.names hV h5
          refine (TL.mapSetG 0 j0 (iG V ((key, .i .i64 n) :: es)) (hl _ _ h1) (hl _ _ h2) (hl _ _ h3) rfl hj0 K hM hlen hkl (dd := .lit (.int .i64 n)) ?_ ?_ ?_ ?_ hd (fun o' hM' => ?_)) a w ha hw
          · show plainElem P _ (.int .i64 n) = _
            unfold plainElem
            rw [h6]; simp [wf64 h64]
          · show iG V es (key.val V) = none
            rw [jZ hp1, hg]; rfl
          · exact if_pos rfl
          · intro s hs
            exact if_neg hs
          · obtain ⟨hs, hV'⟩ := aF o' (.map k' e' ((key, .i .i64 n) :: es)) ⟨by
                rw [Vl.put_mapF]
                have : (V.put g o').ob g = o' := aU ..
                rw [this]; exact hM', fun p hm => by
                rcases List.mem_cons.1 hm with rfl | hm
                · exact hp1
                · exact hpu p hm⟩
            have h9 := hh _ (V.put_agr nx g _) (Nat.le_refl _) hV'
            rw [hs] at h9
            exact h9
        · cases h
      · cases h
    · cases h
  · -- append, clear
    rename_i c
    obtain ⟨callee, args, tys⟩ := c
    simp only at h
    split at h
    · rename_i x y t t' ha ht
      have ha' : args = #[x, y] := by rw [← Array.toArray_toList (xs := args), ha]
      have ht' : tys = #[t, t'] := by rw [← Array.toArray_toList (xs := tys), ht]
      subst ha' ht'
      split at h
      · rename_i e sz by_ z hsl
        have hU := eT hsl
        split at h
        · rename_i ett
          subst ett
          split at h
          · rename_i g n c b o m c2 h1 h2
            split at h
            · rename_i cg e' sz' cb e2 sz2 h3 h4
              split at h
              · rename_i hc
                obtain ⟨rfl, hcb⟩ := hc
                have hsrc : Src w0 H (seg V hp :: own) (some ⟨V.id b, o, none⟩) sz m (((cb.drop o).take (m * sz)).map (XC.val V)) := by
                  obtain ⟨jb, hjb, _⟩ := cI V h4
                  obtain ⟨jk, hob, _⟩ := bh hV h4
                  rw [hob] at hjb
                  refine Src.ofOwn 0 jb rfl hjb (by rw [List.length_map, List.length_take, List.length_drop]; omega) (fun u hu => ?_) (cAt_x V jk _ o cb hcb)
                  obtain ⟨x', _, rfl⟩ := List.mem_map.1 hu
                  exact x'.one V
                have hnl : ((cb.drop o).take (m * sz)).length = m * sz := by rw [List.length_take, List.length_drop]; omega
                split at h
                · rename_i hroom
                  cases h
                  intro a w haa hw
                  obtain ⟨j, hj, aF⟩ := fj (P := P) V hw.names hV h3
                  obtain ⟨jk, hob, hj1, hj2⟩ := bh hV h3
                  rw [hob] at hj
                  have hp1 := eR V ((cb.drop o).take (m * sz)) cg (n * sz) jk (by rw [hnl]; exact hroom.2)
                  obtain ⟨hs, hV'⟩ := aF (.cells ((co cg (n * sz) ((cb.drop o).take (m * sz))).map (XC.val V) ++ jk).toArray e' (0, 0)) (.cells (co cg (n * sz) ((cb.drop o).take (m * sz))) e' sz')
                    ⟨jk, by rw [Vl.put_val]; exact aU .., hj1, by rw [gD]; exact hj2⟩
                  refine (TL.appendRoom 0 j (hl _ _ h1) (hl _ _ h2) rfl hj hsrc (Nat.le_trans hroom.1 (Nat.le_add_right _ _)) (by simp [hnl]; omega) hd ?_) a w haa hw
                  have h9 := hh _ (V.put_agr nx g _) (Nat.le_refl _) hV'
                  rw [hs] at h9
                  have e5 : ((cg.map (XC.val V) ++ jk).toArray.toList.take (n * sz) ++ ((cb.drop o).take (m * sz)).map (XC.val V) ++ (cg.map (XC.val V) ++ jk).toArray.toList.drop (n * sz + (((cb.drop o).take (m * sz)).map (XC.val V)).length)).toArray = ((co cg (n * sz) ((cb.drop o).take (m * sz))).map (XC.val V) ++ jk).toArray := by
                    rw [← hp1, ← jY _ _ _ (by rw [List.length_map, hnl, List.size_toArray, List.length_append, List.length_map]; omega)]
                  show TL P w0 N Q ops rest _ ((seg V hp).set j (V.id g, .cells _ e' (0, 0)) :: own) H
                  rw [e5]
                  exact h9
                · split at h
                  · rename_i hg
                    cases h
                    obtain ⟨rfl, hcl, hnc, hm1, hm2, hx, hm0⟩ := hg
                    have hsz := hU.pos
                    obtain ⟨jk, hob, hj1, hj2⟩ := bh hV h3
                    have hpm := kZ V h3
                    have hfl : ([(V.id g, V.ob g)] :: seg V (bi hp g) :: own).flatten.Perm (seg V hp :: own).flatten := by
                      simp only [List.flatten_cons, ← List.append_assoc]
                      exact (List.Perm.append_right _ hpm.symm)
                    have hx2 : hlt nx (bi hp g) = true := iS hx fun p hp => j6 hp
                    have hV2 : HOk P V (bi hp g) := fun p hp => hV p (j6 hp)
                    have hex : c + V.ex g ≤ maxLen := by
                      rcases hj2 with e0 | ⟨n0, e1, e2⟩
                      · omega
                      · have : n0 = c := Nat.eq_of_mul_eq_mul_right hsz (by rw [← e1, hcl])
                        omega
                    have hnn : n * sz' ≤ c * sz' := Nat.mul_le_mul_right _ hnc
                    have hrow : Row e' sz' (.slice (some ⟨V.id g, 0, none⟩) n (c + V.ex g)) n ((cg.take (n * sz')).map (XC.val V)) [(V.id g, V.ob g)] := by
                      refine ⟨by rw [List.length_map, List.length_take]; omega, .inr ⟨V.id g, c + V.ex g, _, rfl, by rw [hob], by omega, hex, ?_, ?_⟩⟩
                      · simp only [List.size_toArray, List.length_append, List.length_map]; rw [hcl, hj1, Nat.add_mul]
                      · rw [List.toList_toArray, List.take_append_of_le_length (by rw [List.length_map]; omega), List.map_take]
                    refine TL.flat hfl ?_
                    refine TL.append 0 (hl _ _ h1) (hl _ _ h2) rfl hrow (hsrc.flat hfl) (by simpa [maxLen] using hm1) hm2 hd (fun v' seg' hrow' => ?_)
                    refine grow_ok (hp := bi hp g) hV2 hx2 hsz (by omega) (by simp only [maxLen] at hm1 ⊢; omega) ?_ ?_ hrow' hh
                    · rw [List.map_append]
                    · rw [List.all_append, Bool.and_eq_true]
                      exact ⟨iS (ic hx h3) fun x hm => List.mem_of_mem_take hm, iS (ic hx h4) fun x hm => List.mem_of_mem_drop (List.mem_of_mem_take hm)⟩
                  · cases h
              · cases h
            · cases h
          · rename_i g n c b o o' h1 h2
            split at h
            · rename_i cg e' sz' h3
              split at h
              · rename_i hc
                cases h
                obtain ⟨rfl, hnc, hfit⟩ := hc
                intro a w haa hw
                obtain ⟨j, hj, aF⟩ := fj (P := P) V hw.names hV h3
                have hrel := bh hV h3
                obtain ⟨jk, hob, hj1, hj2⟩ := hrel
                rw [hob] at hj
                obtain ⟨hs, hV'⟩ := aF (.cells (cg.map (XC.val V) ++ jk).toArray e' (0, 0)) (.cells cg e' sz') ⟨jk, by rw [Vl.put_val]; exact aU .., hj1, hj2⟩
                refine (TL.appendRoom 0 j (hl _ _ h1) (hl _ _ h2) rfl hj Src.nil (by omega) (by simp; omega) hd ?_) a w haa hw
                have h9 := hh _ (V.put_agr nx g _) (Nat.le_refl _) hV'
                rw [hs] at h9
                show TL P w0 N Q ops rest _ ((seg V hp).set j (V.id g, .cells _ e' (0, 0)) :: own) H
                simp only [List.append_nil, List.length_nil, Nat.add_zero, List.take_append_drop]
                exact h9
              · cases h
            · cases h
          · rename_i b o m c2 h1 h2
            split at h
            · rename_i cb e2 sz2 h4
              split at h
              · rename_i hc
                cases h
                obtain ⟨hcb, hm1, hm2, hx, hm0⟩ := hc
                have hsz := hU.pos
                have hsrc : Src w0 H (seg V hp :: own) (some ⟨V.id b, o, none⟩) sz m (((cb.drop o).take (m * sz)).map (XC.val V)) := by
                  obtain ⟨jb, hjb, _⟩ := cI V h4
                  obtain ⟨jk, hob, _⟩ := bh hV h4
                  rw [hob] at hjb
                  refine Src.ofOwn 0 jb rfl hjb (by rw [List.length_map, List.length_take, List.length_drop]; omega) (fun u hu => ?_) (cAt_x V jk _ o cb hcb)
                  obtain ⟨x', _, rfl⟩ := List.mem_map.1 hu
                  exact x'.one V
                have hfl : ([] :: seg V hp :: own).flatten.Perm (seg V hp :: own).flatten := .refl _
                refine TL.flat hfl ?_
                refine TL.append 0 (hl _ _ h1) (hl _ _ h2) rfl (Row.nil e sz) (hsrc.flat hfl) (by simp only [maxLen] at hm1; omega) (by simpa using hm2) hd (fun v' seg' hrow' => ?_)
                rw [Nat.zero_add, List.nil_append] at hrow'
                refine grow_ok hV hx hsz hm0 hm1 rfl ?_ hrow' hh
                exact iS (ic hx h4) fun x hm => List.mem_of_mem_drop (List.mem_of_mem_take hm)
              · cases h
            · cases h
          · cases h
        · cases h
      · cases h
    · rename_i x t ha ht
      have ha' : args = #[x] := by rw [← Array.toArray_toList (xs := args), ha]
      have ht' : tys = #[t] := by rw [← Array.toArray_toList (xs := tys), ht]
      subst ha' ht'
      split at h
      · rename_i g o n c e0 sz0 by0 z h1 h2
        split at h
        · rename_i c' e sz zs h3 h4
          split at h
          · rename_i hc
            cases h
            have hU := eT h2
            intro a w haa hw
            obtain ⟨j, hj, aF⟩ := fj (P := P) V hw.names hV h3
            obtain ⟨jk, hob, hj1, hj2⟩ := bh hV h3
            rw [hob] at hj
            have hp1 := eR V zs c' o jk hc.2
            have hzs := dv V h4
            rw [hzs] at hp1
            obtain ⟨hs, hV'⟩ := aF (.cells ((co c' o zs).map (XC.val V) ++ jk).toArray e (0, 0)) (.cells (co c' o zs) e sz)
              ⟨jk, by rw [Vl.put_val]; exact aU .., hj1, by rw [gD]; exact hj2⟩
            refine (TL.clear 0 j (hl _ _ h1) rfl hj hc.1 (fun u hu => ?_) ?_ hd ?_) a w haa hw
            · rw [← hzs] at hu
              obtain ⟨x', _, rfl⟩ := List.mem_map.1 hu
              exact x'.one V
            · rw [← hzs]; simp; omega
            · have h9 := hh _ (V.put_agr nx g _) (Nat.le_refl _) hV'
              rw [hs] at h9
              rw [hp1]
              exact h9
          · cases h
        · cases h
      · cases h
    · cases h
  · cases h
end
theorem At.mono {N : Nat} {env env' : Env} {a : Act} (h : At N env a) (hs : ∀ i v, lk env' i = some v → lk env i = some v) : At N env' a := ⟨h.defers, h.size, fun i v hv => h.slots i v (hs i v hv)⟩
def xera : XE → Nat → XE
  | [], _ => []
  | (j, v) :: r, d => bif Nat.beq j d then xera r d else (j, v) :: xera r d
def bl (d : Option Tmp) (v : Option XV) (E : XE) : XE := match d with
  | none => E
  | some d => match v with
    | some v => (d, v) :: xera E d
    | none => xera E d
theorem gF : ∀ (E : XE) (d i : Nat), xlk (xera E d) i = if d = i then none else xlk E i
  | [], d, i => by simp [xera, xlk]
  | (j, v) :: r, d, i => by
    simp only [xera]
    cases hb : Nat.beq j d with
    | true =>
      have e := Nat.eq_of_beq_eq_true hb
      subst e
      simp only [cond_true, gF r, xlk]
      by_cases h : j = i
      · rw [if_pos h, if_pos h]
      · rw [if_neg h, if_neg h]
        have : Nat.beq j i = false := by cases hh : Nat.beq j i with
          | true => exact absurd (Nat.eq_of_beq_eq_true hh) h
          | false => rfl
        rw [this]; rfl
    | false =>
      have hne := Nat.ne_of_beq_eq_false hb
      simp only [cond_false, xlk, gF r]
      cases hi : Nat.beq j i with
      | true =>
        have e := Nat.eq_of_beq_eq_true hi
        subst e
        simp only [cond_true]; rw [if_neg (Ne.symm hne)]
      | false => rfl
theorem iK {V : Vl} {E : XE} {d : Option Tmp} {v : Option XV} {u : Value} (hu : ∀ x, v = some x → u = x.val V) : ∀ i w, lk (XE.val V (bl d v E)) i = some w → lk (ab d u (XE.val V E)) i = some w := by
  intro i w h
  cases d with
  | none => exact h
  | some d =>
    have er : ∀ (h : lk (XE.val V (xera E d)) i = some w), d ≠ i ∧ lk (XE.val V E) i = some w := by
      intro h
      rw [cH, gF] at h
      by_cases hd : d = i
      · rw [if_pos hd] at h; cases h
      · rw [if_neg hd] at h; exact ⟨hd, by rw [cH]; exact h⟩
    have ne : ∀ {j : Nat}, d ≠ j → Nat.beq d j = false := fun {j} hne => by
      cases hh : Nat.beq d j with
      | true => exact absurd (Nat.eq_of_beq_eq_true hh) hne
      | false => rfl
    cases v with
    | none =>
      obtain ⟨h1, h2⟩ := er h
      simp only [ab, lk, ne h1, cond_false]
      exact h2
    | some x =>
      simp only [bl, XE.val, List.map_cons, lk] at h
      simp only [ab, lk]
      cases hb : Nat.beq d i with
      | true =>
        rw [hb] at h
        simp only [cond_true] at h ⊢
        rw [hu x rfl]; exact h
      | false =>
        rw [hb] at h
        simp only [cond_false] at h ⊢
        exact (er h).2
abbrev cw := FuncId → List XV → XH → Nat → Option (XV × XH × Nat)
def fE (P : Program) (call : cw) : Prop := ∀ f vs hp nx r hp' nx', call f vs hp nx = some (r, hp', nx') → Callable P f ∧ ∀ (V : Vl) w0 H own, HOk P V hp → (vs.all (XV.lt nx)) = true →
  Fn P f (vs.map (XV.val V)) w0 H (seg V hp :: own) (fun u o H' => ∃ V', Agr nx V V' ∧ nx ≤ nx' ∧ HOk P V' hp' ∧ u = r.val V' ∧ o = seg V' hp' :: own ∧ Le H H')
def k6 (look : Operand → Option XV) : List Operand → Option (List XV)
  | [] => some []
  | x :: r => match look x, k6 look r with
    | some u, some l => some (u :: l)
    | _, _ => none
theorem n7 {look : Operand → Option XV} {V : Vl} {env : Env} (hl : Lks look V env) : ∀ {xs : List Operand} {vs : List XV}, k6 look xs = some vs → Evs env xs (vs.map (XV.val V))
  | [], _, h => by cases h; trivial
  | x :: r, vs, h => by
    simp only [k6] at h
    split at h
    · rename_i u l h1 h2
      cases h
      exact ⟨hl _ _ h1, n7 hl h2⟩
    · cases h
def j7 {P : Program} (X : XP P) (look : Operand → Option XV) (hp : XH) (op : Op) : Option (Option XV) :=
  match op with
  | .call ⟨.value (.func f), args, _⟩ => match k6 look args.toList with
    | some vs => (X.hook f vs).map some
    | none => none
  | op => xq X look hp op
def xeff {P : Program} (X : XP P) (call : cw) (look : Operand → Option XV) (hp : XH) (nx : Nat) (op : Op) : Option (XV × XH × Nat) :=
  match op with
  | .call ⟨.value (.func f), args, _⟩ => match k6 look args.toList with
    | some vs => if vs.all (XV.lt nx) then call f vs hp nx else none
    | none => none
  | op => xh X look hp nx op
def xdo {P : Program} (X : XP P) (call : cw) (look : Operand → Option XV) (hp : XH) (nx : Nat) (op : Op) : Option (Option XV × XH × Nat) :=
  match j7 X look hp op with
  | some v => some (v, hp, nx)
  | none => (xeff X call look hp nx op).map fun r => (some r.1, r.2)
section
variable {P : Program} {w0 : World} {N : Nat} {Q : Exit → Act → World → Prop} {env : Env} {own : List Seg} {H : Hp} {ops : Array Oper} {rest : List Oper}
variable {d : Option Tmp} {ty : TypeId} {pos : String} {af : Array Edge}
theorem call_ok {look : Operand → Option XV} {V : Vl} (hl : Lks look V env) {f : FuncId} {args : Array Operand} {tys : Array TypeId} {vs : List XV} (hvs : k6 look args.toList = some vs) (hd : okD N d = true) {own : List Seg} {φ : Value → List Seg → Hp → Prop} [Callable P f]
    (hf : Fn P f (vs.map (XV.val V)) w0 H own φ) (hn : ∀ v own' H', φ v own' H' → TL P w0 N Q ops rest (ab d v env) own' H') :
    TL P w0 N Q ops ({ dst := d, op := .call ⟨.value (.func f), args, tys⟩, type := ty, pos := pos, after := af, guard := none } :: rest) env own H := by
  have := Qe (ty := ty) (pos := pos) (af := af) (tys := tys) hf (n7 hl hvs) hd hn
  simpa using this
theorem k7 {X : XP P} {look : Operand → Option XV} {hp : XH} {op : Op} {v : Option XV} (h : j7 X look hp op = some v) {V : Vl} (hl : Lks look V env) (hV : HOk P V hp) (hd : okD N d = true)
    (hh : ∀ H' u, Le H H' → (∀ x, v = some x → u = x.val V) → TL P w0 N Q ops rest (ab d u env) (seg V hp :: own) H') :
    TL P w0 N Q ops ({ dst := d, op := op, type := ty, pos := pos, after := af, guard := none } :: rest) env (seg V hp :: own) H := by
  unfold j7 at h
  split at h
  · rename_i f args tys
    split at h
    · rename_i vs hvs
      cases hr : X.hook f vs with
      | none => rw [hr] at h; cases h
      | some r =>
        rw [hr] at h; cases h
        obtain ⟨_, hF⟩ := X.hookOk f vs r hr
        exact call_ok hl hvs hd (hF V w0 H (seg V hp :: own)) (by rintro u o H' ⟨rfl, rfl, hle⟩; exact hh H' _ hle (fun x hx => by cases hx; rfl))
    · cases h
  · exact xq_ok h hl hV hd (fun u hu => hh H u (Le.refl _) hu)
theorem xeff_ok {X : XP P} {call : cw} (hcall : fE P call) {look : Operand → Option XV} {hp hp' : XH} {nx nx' : Nat} {op : Op} {v : XV} (h : xeff X call look hp nx op = some (v, hp', nx')) {V : Vl} (hl : Lks look V env) (hV : HOk P V hp) (hd : okD N d = true)
    (hh : ∀ V' H', Agr nx V V' → nx ≤ nx' → HOk P V' hp' → Le H H' → TL P w0 N Q ops rest (ab d (v.val V') env) (seg V' hp' :: own) H') :
    TL P w0 N Q ops ({ dst := d, op := op, type := ty, pos := pos, after := af, guard := none } :: rest) env (seg V hp :: own) H := by
  unfold xeff at h
  split at h
  · rename_i f args tys
    split at h
    · rename_i vs hvs
      split at h
      · rename_i hlt
        obtain ⟨_, hF⟩ := hcall f vs hp nx v _ _ h
        exact call_ok hl hvs hd (hF V w0 H own hV hlt) (by rintro u o H' ⟨V', h1, h2, h3, rfl, rfl, h4⟩; exact hh V' H' h1 h2 h3 h4)
      · cases h
    · cases h
  · exact xh_ok h hl hV hd (fun V' h1 h2 h3 => hh V' H h1 h2 h3 (Le.refl _))
theorem xdo_ok {X : XP P} {call : cw} (hcall : fE P call) {look : Operand → Option XV} {hp hp' : XH} {nx nx' : Nat} {op : Op} {v : Option XV} (h : xdo X call look hp nx op = some (v, hp', nx')) {V : Vl} (hl : Lks look V env) (hV : HOk P V hp) (hd : okD N d = true)
    (hh : ∀ V' H' u, Agr nx V V' → nx ≤ nx' → HOk P V' hp' → Le H H' → (∀ x, v = some x → u = x.val V') → TL P w0 N Q ops rest (ab d u env) (seg V' hp' :: own) H') :
    TL P w0 N Q ops ({ dst := d, op := op, type := ty, pos := pos, after := af, guard := none } :: rest) env (seg V hp :: own) H := by
  unfold xdo at h
  split at h
  · rename_i v' hq
    cases h
    exact k7 hq hl hV hd (fun H' u hle hu => hh V H' u (Agr.refl _ _) (Nat.le_refl _) hV hle hu)
  · cases hx : xeff X call look hp nx op with
    | none => rw [hx] at h; cases h
    | some r =>
      obtain ⟨r, hp2, nx2⟩ := r
      rw [hx] at h; cases h
      exact xeff_ok hcall hx hl hV hd (fun V' H' h1 h2 h3 h4 => hh V' H' _ h1 h2 h3 h4 (fun x hx => by cases hx; rfl))
end
def ax (ops : Array Oper) (E : XE) (g : Option (Nat × Bool)) : Option Bool := match g with
  | none => some true
  | some (j, want) => match (ops[j]?).bind (·.dst) with
    | some t => match xlk E t with
      | some (.a (.c (.b b))) => some (b == want)
      | some .u => some false
      | _ => none
    | none => none
def k8 {P : Program} (X : XP P) (call : cw) (N : Nat) (ops : Array Oper) : List Oper → XE → XH → Nat → Option (XE × XH × Nat)
  | [], E, hp, nx => some (E, hp, nx)
  | o :: r, E, hp, nx => if okD N o.dst then match ax ops E o.guard with
    | some true => match xdo X call (xev E) hp nx o.op with
      | some (v, hp', nx') => if XE.lt nx E then k8 X call N ops r (bl o.dst v E) hp' nx' else none
      | none => none
    | some false => k8 X call N ops r (bl o.dst (some .u) E) hp nx
    | none => none
    else none
section
variable {P : Program} {w0 : World} {N : Nat} {Q : Exit → Act → World → Prop} {own : List Seg} {ops : Array Oper}
theorem eV {E : XE} {V : Vl} {o : Oper} {rest : List Oper} {H : Hp} {own : List Seg} {t : Bool} (h : ax ops E o.guard = some t) {env : Env} (hE : ∀ i u, xlk E i = some u → lk env i = some (u.val V)) (hd : okD N o.dst = true)
    (hyes : t = true → TL P w0 N Q ops ({ o with guard := none } :: rest) env own H) (hno : t = false → TL P w0 N Q ops rest (ab o.dst undef env) own H) : TL P w0 N Q ops (o :: rest) env own H := by
  obtain ⟨d, op, ty, pos, af, g⟩ := o
  simp only at h hd hyes hno
  cases g with
  | none => simp only [ax, Option.some.injEq] at h; exact hyes h.symm
  | some q =>
    obtain ⟨j, want⟩ := q
    simp only [ax] at h
    split at h
    · rename_i t' ht
      split at h
      · rename_i b hb
        have hb' := hE _ _ hb
        simp only [Option.some.injEq] at h
        refine TL.guard (b := b) ht hb' hd (fun e => hyes ?_) (fun e => hno ?_)
        · rw [← h, e]; simp
        · rw [← h, e]; cases want <;> rfl
      · rename_i hb
        cases h
        exact TL.gund ht (hE _ _ hb) hd (hno rfl)
      · cases h
    · cases h
theorem j8 {X : XP P} {call : cw} (hcall : fE P call) : ∀ {l : List Oper} {E E' : XE} {hp hp' : XH} {nx nx' : Nat}, k8 X call N ops l E hp nx = some (E', hp', nx') → ∀ {V : Vl} {H : Hp}, HOk P V hp →
    (∀ V' H', Agr nx V V' → nx ≤ nx' → HOk P V' hp' → Le H H' → TQ w0 N Q .normal (XE.val V' E') (seg V' hp' :: own) H') → TL P w0 N Q ops l (XE.val V E) (seg V hp :: own) H
  | [], E, E', hp, hp', nx, nx', h, V, H, hV, hh => by
    cases h
    exact TL.nil (hh V H (Agr.refl _ _) (Nat.le_refl _) hV (Le.refl _))
  | o :: r, E, E', hp, hp', nx, nx', h, V, H, hV, hh => by
    simp only [k8] at h
    split at h
    · rename_i hd
      split at h
      · rename_i hw
        split at h
        · rename_i v hp1 nx1 hx
          split at h
          · rename_i hlt
            refine eV (V := V) hw (fun i u hu => by rw [cH, hu]; rfl) hd (fun _ => ?_) (fun e => by cases e)
            refine xdo_ok hcall hx (fun x u hu => mT V hu) hV hd (fun V1 H1 u h1 h2 h3 h4 h5 => ?_)
            have ih := j8 hcall h (V := V1) (H := H1) h3 (fun V' H' k1 k2 k3 k4 => hh V' H' (h1.trans h2 k1) (Nat.le_trans h2 k2) k3 (h4.trans k4))
            intro a w ha hw'
            rw [← XE.agr h1 hlt] at ha
            exact ih a w (ha.mono (iK h5)) hw'
          · cases h
        · cases h
      · rename_i hw
        refine eV (V := V) hw (fun i u hu => by rw [cH, hu]; rfl) hd (fun e => by cases e) (fun _ => ?_)
        have ih := j8 hcall h (V := V) (H := H) hV hh
        intro a w ha hw'
        exact ih a w (ha.mono (iK (fun x hx => by cases hx; rfl))) hw'
      · cases h
    · cases h
end
inductive Pre (ops : Array Oper) (j : Nat) : Nat → Prop
  | here {k : Nat} {o : Oper} {e : Edge} (ho : ops[k]? = some o) (he : e ∈ o.after) (hb : Region.binds .any e = true) (hj : e.on = j) : Pre ops j k
  | more {k : Nat} {o : Oper} {e : Edge} (ho : ops[k]? = some o) (he : e ∈ o.after) (hb : Region.binds .any e = true) (hj : Pre ops j e.on) : Pre ops j k
def fQ (acc : List Nat) : List Edge → Nat → Nat
  | [], s => s
  | e :: r, s => fQ acc r (if Region.binds .any e then s ||| (2 ^ e.on ||| acc.getD e.on 0) else s)
def aG : List Oper → List Nat → List Nat
  | [], acc => acc
  | o :: r, acc => aG r (acc ++ [fQ acc o.after.toList 0])
theorem ep {ops : Array Oper} {acc : List Nat} {k : Nat} {o : Oper} (ho : ops[k]? = some o) (hacc : ∀ i j, (acc.getD i 0).testBit j = true → Pre ops j i) : ∀ {es : List Edge} {s : Nat}, (∀ e ∈ es, e ∈ o.after) → (∀ j, s.testBit j = true → Pre ops j k) → ∀ j, (fQ acc es s).testBit j = true → Pre ops j k
  | [], s, _, hs, j, h => hs j h
  | e :: r, s, he, hs, j, h => by
    simp only [fQ] at h
    refine ep ho hacc (fun e' hm => he e' (List.mem_cons_of_mem _ hm)) ?_ j h
    intro i hi
    split at hi
    · rename_i hb
      simp only [Nat.testBit_or, Bool.or_eq_true] at hi
      rcases hi with hi | hi | hi
      · exact hs i hi
      · rw [Nat.testBit_two_pow] at hi
        exact .here ho (he e (List.mem_cons_self ..)) hb (by simpa using hi)
      · exact .more ho (he e (List.mem_cons_self ..)) hb (hacc _ _ hi)
    · exact hs i hi
theorem cV {ops : Array Oper} : ∀ {l : List Oper} {acc : List Nat}, (∀ j, l[j]? = ops[acc.length + j]?) → (∀ i j, (acc.getD i 0).testBit j = true → Pre ops j i) → ∀ i j, ((aG l acc).getD i 0).testBit j = true → Pre ops j i
  | [], acc, _, hacc, i, j, h => hacc i j h
  | o :: r, acc, hl, hacc, i, j, h => by
    simp only [aG] at h
    refine cV (fun j => ?_) ?_ i j h
    · have := hl (j + 1)
      simp only [List.getElem?_cons_succ] at this
      rw [this, List.length_append, List.length_singleton]
      congr 1; omega
    · intro i j h
      rcases Nat.lt_trichotomy i acc.length with hi | hi | hi
      · rw [List.getD_eq_getElem?_getD, List.getElem?_append_left hi, ← List.getD_eq_getElem?_getD] at h
        exact hacc i j h
      · subst hi
        rw [List.getD_eq_getElem?_getD, List.getElem?_append_right (Nat.le_refl _)] at h
        simp only [Nat.sub_self, List.getElem?_cons_zero, Option.getD_some] at h
        have ho : ops[acc.length]? = some o := by have := hl 0; simpa using this.symm
        exact ep ho hacc (fun e he => Array.mem_toList_iff.1 he) (fun j hj => by simp at hj) j h
      · rw [List.getD_eq_getElem?_getD, List.getElem?_eq_none (by simp; omega)] at h
        simp at h
def Closed (ops : Array Oper) (L : Nat → Bool) : Prop := ∀ k o, ops[k]? = some o → L k = true → ∀ e ∈ o.after, Region.binds .any e = true → L e.on = true
theorem Closed.pre {ops : Array Oper} {L : Nat → Bool} (h : Closed ops L) {j k : Nat} (hp : Pre ops j k) (hk : L k = true) : L j = true := by
  induction hp with
  | here ho he hb hj => exact hj ▸ h _ _ ho hk _ he hb
  | more ho he hb _ ih => exact ih (h _ _ ho hk _ he hb)
theorem Pre.ready {ops : Array Oper} {L : Nat → Bool} (h : Closed ops L) {i j : Nat} (hp : Pre ops j i) (hr : ∀ o, ops[i]? = some o → ∀ e ∈ o.after, Region.binds .any e = true → L e.on = true) : L j = true := by
  cases hp with
  | here ho he hb hj => exact hj ▸ hr _ ho _ he hb
  | more ho he hb hj => exact h.pre hj (hr _ ho _ he hb)
structure Rc where
  E : XE
  hp : XH
  nx : Nat
  v : Option XV
  kind : Nat
def bu (pm : List Nat) (j k : Nat) : Bool := (pm.getD k 0).testBit j
def xord (pm : List Nat) (k j : Nat) : Bool := Nat.beq j k || (bif Nat.blt j k then bu pm j k else bu pm k j)
theorem xord_ok {pm : List Nat} {k j : Nat} (h : xord pm k j = true) (hne : j ≠ k) : (j < k → bu pm j k = true) ∧ (k < j → bu pm k j = true) := by
  simp only [xord, Bool.or_eq_true] at h
  rcases h with h | h
  · exact absurd (Nat.eq_of_beq_eq_true h) hne
  · refine ⟨fun hlt => ?_, fun hlt => ?_⟩
    · rw [show Nat.blt j k = true by rw [Nat.blt_eq]; exact hlt] at h; exact h
    · rw [show Nat.blt j k = false by
        cases hb : Nat.blt j k with
        | true => rw [Nat.blt_eq] at hb; omega
        | false => rfl] at h
      exact h
def eh (pm : List Nat) (k : Nat) : List (Option Tmp) → Nat → List Tmp
  | [], _ => []
  | none :: r, j => eh pm k r (j + 1)
  | some t :: r, j => bif xord pm k j then eh pm k r (j + 1) else t :: eh pm k r (j + 1)
theorem mV {pm : List Nat} {k : Nat} {s : Tmp} : ∀ {ds : List (Option Tmp)} {j : Nat}, (eh pm k ds j).contains s = false → ∀ i : Nat, ds[i]? = some (some s) → j + i ≠ k → (j + i < k → bu pm (j + i) k = true) ∧ (k < j + i → bu pm k (j + i) = true)
  | [], j, _, i, h, _ => by simp at h
  | none :: r, j, hc, 0, h, _ => by simp at h
  | none :: r, j, hc, i + 1, h, hne => by
    have := mV (ds := r) (j := j + 1) hc i (by simpa using h) (by omega)
    rw [show j + 1 + i = j + (i + 1) by omega] at this
    exact this
  | some t :: r, j, hc, 0, h, hne => by
    simp only [List.getElem?_cons_zero, Option.some.injEq] at h
    subst h
    simp only [eh] at hc
    cases hb : xord pm k j with
    | true => exact xord_ok hb hne
    | false => rw [hb] at hc; simp at hc
  | some t :: r, j, hc, i + 1, h, hne => by
    have hc' : (eh pm k r (j + 1)).contains s = false := by
      simp only [eh] at hc
      cases hb : xord pm k j with
      | true => rw [hb] at hc; exact hc
      | false => rw [hb] at hc; simp only [cond_false, List.contains_cons, Bool.or_eq_false_iff] at hc; exact hc.2
    have := mV (ds := r) (j := j + 1) hc' i (by simpa using h) (by omega)
    rw [show j + 1 + i = j + (i + 1) by omega] at this
    exact this
def xcut (bad : List Tmp) (E : XE) : XE := E.filter fun p => !bad.contains p.1
theorem mW {bad : List Tmp} : ∀ {E : XE} {i : Nat} {u : XV}, xlk (xcut bad E) i = some u → xlk E i = some u ∧ bad.contains i = false
  | [], i, u, h => by cases h
  | (j, v) :: r, i, u, h => by
    simp only [xcut, List.filter_cons] at h
    split at h
    · rename_i hb
      simp only [xlk] at h ⊢
      cases hj : Nat.beq j i with
      | true =>
        rw [hj] at h
        have e := Nat.eq_of_beq_eq_true hj
        subst e
        exact ⟨h, by simpa using hb⟩
      | false =>
        rw [hj] at h
        exact mW h
    · rename_i hb
      obtain ⟨h1, h2⟩ := mW (E := r) h
      refine ⟨?_, h2⟩
      simp only [xlk]
      cases hj : Nat.beq j i with
      | true =>
        have e := Nat.eq_of_beq_eq_true hj
        subst e
        simp only [Bool.not_eq_true, Bool.not_eq_false'] at hb
        rw [hb] at h2; cases h2
      | false => exact h1
def xdst (bad : List Tmp) : Option Tmp → Bool
  | some d => !bad.contains d
  | none => true
def xrun {P : Program} (X : XP P) (call : cw) (N : Nat) (ops : Array Oper) (pm : List Nat) (ds : List (Option Tmp)) : Nat → List Oper → XE → XH → Nat → Option (List Rc)
  | _, [], E, hp, nx => some [⟨E, hp, nx, none, 0⟩]
  | k, o :: r, E, hp, nx =>
    let bad := eh pm k ds 0
    let E' := xcut bad E
    if okD N o.dst = true ∧ xdst bad o.dst = true then match ax ops E' o.guard with
    | some false => (xrun X call N ops pm ds (k + 1) r (bl o.dst (some .u) E) hp nx).map fun l => ⟨E, hp, nx, some .u, 0⟩ :: l
    | some true => match j7 X (xev E') hp o.op with
      | some v => (xrun X call N ops pm ds (k + 1) r (bl o.dst v E) hp nx).map fun l => ⟨E, hp, nx, v, 1⟩ :: l
      | none => match xeff X call (xev E') hp nx o.op with
        | some (v, hp', nx') => (xrun X call N ops pm ds (k + 1) r (bl o.dst (some v) E) hp' nx').map fun l => ⟨E, hp, nx, some v, 2⟩ :: l
        | none => none
    | none => none
    else none
structure StepF {P : Program} (X : XP P) (call : cw) (N : Nat) (ops : Array Oper) (bad : List Tmp) (o : Oper) (c c' : Rc) : Prop where
  dst : okD N o.dst = true
  free : ∀ d, o.dst = some d → bad.contains d = false
  E : c'.E = bl o.dst c.v c.E
  st : (c.kind = 0 ∧ ax ops (xcut bad c.E) o.guard = some false ∧ c.v = some .u ∧ c'.hp = c.hp ∧ c'.nx = c.nx) ∨
    (c.kind = 1 ∧ ax ops (xcut bad c.E) o.guard = some true ∧ c'.hp = c.hp ∧ c'.nx = c.nx) ∨
    (c.kind = 2 ∧ ax ops (xcut bad c.E) o.guard = some true ∧ ∃ v, c.v = some v ∧ xeff X call (xev (xcut bad c.E)) c.hp c.nx o.op = some (v, c'.hp, c'.nx))
theorem xrun_ok {P : Program} {X : XP P} {call : cw} {N : Nat} {ops : Array Oper} {pm : List Nat} {ds : List (Option Tmp)} : ∀ {l : List Oper} {k : Nat} {E : XE} {hp : XH} {nx : Nat} {rs : List Rc}, xrun X call N ops pm ds k l E hp nx = some rs →
    rs.length = l.length + 1 ∧ (∃ c, rs[0]? = some c ∧ c.E = E ∧ c.hp = hp ∧ c.nx = nx) ∧ (∀ c, rs[l.length]? = some c → c.kind = 0) ∧ ∀ (j : Nat) o, l[j]? = some o → ∃ c c', rs[j]? = some c ∧ rs[j + 1]? = some c' ∧ StepF X call N ops (eh pm (k + j) ds 0) o c c'
  | [], k, E, hp, nx, rs, h => by
    cases h
    exact ⟨rfl, ⟨_, rfl, rfl, rfl, rfl⟩, fun c hc => (by simp at hc; subst hc; rfl), fun j o hj => by simp at hj⟩
  | o :: r, k, E, hp, nx, rs, h => by
    simp only [xrun] at h
    have key : ∀ {v : Option XV} {kind : Nat} {hp' : XH} {nx' : Nat}, (xrun X call N ops pm ds (k + 1) r (bl o.dst v E) hp' nx').map (fun l => (⟨E, hp, nx, v, kind⟩ : Rc) :: l) = some rs →
        (∀ c', c'.E = bl o.dst v E → c'.hp = hp' → c'.nx = nx' → StepF X call N ops (eh pm k ds 0) o ⟨E, hp, nx, v, kind⟩ c') →
        rs.length = (o :: r).length + 1 ∧ (∃ c, rs[0]? = some c ∧ c.E = E ∧ c.hp = hp ∧ c.nx = nx) ∧ (∀ c, rs[(o :: r).length]? = some c → c.kind = 0) ∧ ∀ (j : Nat) o', (o :: r)[j]? = some o' → ∃ c c', rs[j]? = some c ∧ rs[j + 1]? = some c' ∧ StepF X call N ops (eh pm (k + j) ds 0) o' c c' := by
      intro v kind hp' nx' h hs
      cases hr : xrun X call N ops pm ds (k + 1) r (bl o.dst v E) hp' nx' with
      | none => rw [hr] at h; cases h
      | some l =>
        rw [hr] at h; cases h
        obtain ⟨h1, ⟨c, h2, h3, h4, h5⟩, h7, h6⟩ := xrun_ok hr
        refine ⟨by simp [h1], ⟨_, rfl, rfl, rfl, rfl⟩, fun c hc => h7 c (by simpa using hc), fun j o' hj => ?_⟩
        cases j with
        | zero =>
          simp only [List.getElem?_cons_zero, Option.some.injEq] at hj
          subst hj
          exact ⟨_, c, rfl, h2, hs c h3 h4 h5⟩
        | succ j =>
          obtain ⟨c, c', k1, k2, k3⟩ := h6 j o' (by simpa using hj)
          rw [show k + 1 + j = k + (j + 1) by omega] at k3
          exact ⟨c, c', k1, k2, k3⟩
    split at h
    · rename_i hd
      have hfree : ∀ d, o.dst = some d → (eh pm k ds 0).contains d = false := fun d e => by
        have := hd.2
        rw [e] at this
        simpa [xdst] using this
      split at h
      · rename_i hw
        exact key h (fun c' e1 e2 e3 => ⟨hd.1, hfree, e1, .inl ⟨rfl, hw, rfl, e2, e3⟩⟩)
      · rename_i hw
        split at h
        · rename_i v hq
          exact key h (fun c' e1 e2 e3 => ⟨hd.1, hfree, e1, .inr (.inl ⟨rfl, hw, e2, e3⟩)⟩)
        · split at h
          · rename_i v hp' nx' hx
            exact key h (fun c' e1 e2 e3 => ⟨hd.1, hfree, e1, .inr (.inr ⟨rfl, hw, v, rfl, by rw [e2, e3]; exact hx⟩)⟩)
          · cases h
      · cases h
    · cases h
def vlt (nx : Nat) : Option XV → Bool
  | some x => x.lt nx
  | none => true
def bI : List Rc → Nat → List Nat
  | [], _ => []
  | c :: r, k => bif Nat.beq c.kind 2 then k :: bI r (k + 1) else bI r (k + 1)
theorem la : ∀ {rs : List Rc} {k e : Nat}, e ∈ bI rs k ↔ ∃ (j : Nat) (c : Rc), e = k + j ∧ rs[j]? = some c ∧ c.kind = 2
  | [], k, e => by simp [bI]
  | c :: r, k, e => by
    have ih := la (rs := r) (k := k + 1) (e := e)
    have key : e ∈ bI (c :: r) k ↔ (c.kind = 2 ∧ e = k) ∨ e ∈ bI r (k + 1) := by
      simp only [bI]
      cases hb : Nat.beq c.kind 2 with
      | true => have := Nat.eq_of_beq_eq_true hb; simp [this]
      | false => have := Nat.ne_of_beq_eq_false hb; simp [this]
    rw [key, ih]
    constructor
    · rintro (⟨h1, rfl⟩ | ⟨j, c', rfl, h2, h3⟩)
      · exact ⟨0, c, rfl, rfl, h1⟩
      · exact ⟨j + 1, c', by omega, by simpa using h2, h3⟩
    · rintro ⟨j, c', rfl, h2, h3⟩
      cases j with
      | zero => simp only [List.getElem?_cons_zero, Option.some.injEq] at h2; subst h2; exact .inl ⟨h3, rfl⟩
      | succ j => exact .inr ⟨j, c', by omega, by simpa using h2, h3⟩
def xadm (pm effs : List Nat) (k t : Nat) : Bool := effs.all fun e => (!bu pm e k || Nat.blt e t) && (!bu pm k e || Nat.ble t e)
def xchk {P : Program} (X : XP P) (ds : List (Option Tmp)) (pm effs : List Nat) (rs : List Rc) (k : Nat) (o : Oper) (c : Rc) : Bool :=
  bif Nat.beq c.kind 1 then (0 :: effs.map (· + 1)).all fun t => !xadm pm effs k t || (match rs[t]? with
    | some ct => decide (j7 X (xev (xcut (eh pm k ds 0) c.E)) ct.hp o.op = some c.v) && vlt ct.nx c.v
    | none => false)
  else bif Nat.beq c.kind 2 then (effs.all fun e => Nat.ble k e || bu pm e k) && (match rs[k + 1]? with
    | some c' => vlt c'.nx c.v && Nat.ble c.nx c'.nx
    | none => false)
  else true
def lc {P : Program} (X : XP P) (ds : List (Option Tmp)) (pm effs : List Nat) (rs : List Rc) : Nat → List Oper → List Rc → Bool
  | k, o :: r, c :: cs => xchk X ds pm effs rs k o c && (o.after.toList.all fun e => !Region.binds .any e || Nat.blt e.on k) && lc X ds pm effs rs (k + 1) r cs
  | _, [], _ => true
  | _, _, [] => false
theorem n8 {P : Program} {X : XP P} {ds : List (Option Tmp)} {pm effs : List Nat} {rs : List Rc} : ∀ {l : List Oper} {cs : List Rc} {k : Nat}, lc X ds pm effs rs k l cs = true → ∀ (j : Nat) o c, l[j]? = some o → cs[j]? = some c →
    xchk X ds pm effs rs (k + j) o c = true ∧ ∀ e ∈ o.after, Region.binds .any e = true → e.on < k + j
  | [], _, _, _, j, o, c, h, _ => by simp at h
  | _ :: _, [], _, h, _, _, _, _, _ => by simp [lc] at h
  | o :: r, c :: cs, k, h, j, o', c', ho, hc => by
    simp only [lc, Bool.and_eq_true] at h
    obtain ⟨⟨h1, h2⟩, h3⟩ := h
    cases j with
    | zero =>
      simp only [List.getElem?_cons_zero, Option.some.injEq] at ho hc
      subst ho hc
      refine ⟨h1, fun e he hb => ?_⟩
      have := List.all_eq_true.1 h2 e (Array.mem_toList_iff.2 he)
      simpa [hb, Nat.blt_eq] using this
    | succ j =>
      have := n8 h3 j o' c' (by simpa using ho) (by simpa using hc)
      rw [show k + 1 + j = k + (j + 1) by omega] at this
      exact this
def xdraw {P : Program} (X : XP P) (call : cw) (N : Nat) (ops : Array Oper) (E : XE) (hp : XH) (nx : Nat) : Option (XE × XH × Nat) :=
  let l := ops.toList
  let pm := aG l []
  let ds := l.map (·.dst)
  match xrun X call N ops pm ds 0 l E hp nx with
  | some rs => if XE.lt nx E = true ∧ lc X ds pm (bI rs 0) rs 0 l rs = true then (rs[l.length]?).map fun c => (c.E, c.hp, c.nx) else none
  | none => none
def slv (ds : Nat → Option Tmp) (vs : Nat → Option XV) (L : Nat → Bool) (base : Option XV) (s : Tmp) : Nat → Option XV
  | 0 => base
  | k + 1 => if L k = true ∧ ds k = some s then vs k else slv ds vs L base s k
theorem cA {ds : Nat → Option Tmp} {vs : Nat → Option XV} {L L' : Nat → Bool} {base : Option XV} {s : Tmp} : ∀ {n : Nat}, (∀ k, k < n → ds k = some s → L k = L' k) → slv ds vs L base s n = slv ds vs L' base s n
  | 0, _ => rfl
  | k + 1, h => by
    simp only [slv]
    have ih := cA (vs := vs) (base := base) (n := k) (fun j hj => h j (by omega))
    by_cases hd : ds k = some s
    · rw [h k (by omega) hd, ih]
    · rw [if_neg (fun e => hd e.2), if_neg (fun e => hd e.2), ih]
theorem mX {ds : Nat → Option Tmp} {vs : Nat → Option XV} {base : Option XV} {s : Tmp} {i : Nat} : ∀ {n : Nat}, i ≤ n → slv ds vs (fun k => Nat.blt k i) base s n = slv ds vs (fun _ => true) base s i
  | 0, h => by have : i = 0 := by omega
               subst this; rfl
  | k + 1, h => by
    simp only [slv]
    rcases Nat.lt_or_ge k i with hk | hk
    · have e : i = k + 1 := by omega
      subst e
      rw [show slv ds vs (fun _ => true) base s (k + 1) = if (true = true ∧ ds k = some s) then vs k else slv ds vs (fun _ => true) base s k from rfl]
      rw [cA (L' := fun _ => true) (n := k) (fun j hj _ => by rw [Nat.blt_eq]; omega)]
      by_cases hd : ds k = some s
      · rw [if_pos ⟨by rw [Nat.blt_eq]; omega, hd⟩, if_pos ⟨rfl, hd⟩]
      · rw [if_neg (fun e => hd e.2), if_neg (fun e => hd e.2)]
    · rw [if_neg (fun e => by have := e.1; rw [Nat.blt_eq] at this; omega)]
      exact mX hk
theorem slv_mem {ds : Nat → Option Tmp} {vs : Nat → Option XV} {L : Nat → Bool} {base : Option XV} {s : Tmp} {u : XV} : ∀ {n : Nat}, slv ds vs L base s n = some u → base = some u ∨ ∃ k, k < n ∧ L k = true ∧ vs k = some u
  | 0, h => .inl h
  | k + 1, h => by
    simp only [slv] at h
    split at h
    · rename_i hc; exact .inr ⟨k, by omega, hc.1, h⟩
    · rcases slv_mem h with h | ⟨j, h1, h2⟩
      · exact .inl h
      · exact .inr ⟨j, by omega, h2⟩
theorem xput_xlk {d : Option Tmp} {v : Option XV} {E : XE} {s : Tmp} : xlk (bl d v E) s = if d = some s then v else xlk E s := by
  cases d with
  | none => simp [bl]
  | some d =>
    cases v with
    | none =>
      simp only [bl, gF]
      by_cases h : d = s
      · simp [h]
      · simp [h]
    | some v =>
      simp only [bl, xlk]
      by_cases h : d = s
      · subst h; simp
      · have : Nat.beq d s = false := by
          cases hb : Nat.beq d s with
          | true => exact absurd (Nat.eq_of_beq_eq_true hb) h
          | false => rfl
        simp [this, h, gF]
section
variable {P : Program} {w0 : World} {N : Nat} {Q : Exit → Act → World → Prop} {own : List Seg} {H : Hp} {ops : Array Oper}
theorem cy {K : Act → World → Prop} {o : Oper} {i : Nat} {env : Env} {own : List Seg} {H : Hp} {a : Act} {w : World} (ho : ops[i]? = some o) (h : TL P w0 N (Exit.then K Q) ops [o] env own H) (ha : At N env a) (hw : St w0 H own w) : wpOp P ops Q i K a w := by
  have h2 := h a w ha hw
  have hQ : ∀ r K', o.upon P a K' (Exit.then K Q) r → o.upon P a K' Q r := by
    intro r K' hr
    cases r with
    | ok nx w' =>
      cases nx with
      | enter f args => exact Calls.mono hr (fun e w'' he => by cases e <;> exact he)
      | _ => exact hr
    | halt h w' => cases h <;> exact hr
  have fin : ∀ a w, wpList P ops (Exit.then K Q) [] a w → K a w := fun _ _ h => h
  unfold wpOp
  simp only [ho]
  simp only [wpList] at h2
  split
  · rename_i hw
    simp only [hw, if_true] at h2
    rcases h2 with h2 | ⟨h2, h3⟩
    · exact .inl (Oper.wp_mono fin (hQ _ _ h2))
    · exact .inr ⟨h2, h3⟩
  · rename_i hw
    simp only [hw] at h2
    exact fin _ _ h2
theorem XV.lt_mono {a b : Nat} (h : a ≤ b) {x : XV} (hx : x.lt a = true) : x.lt b = true := by
  have hc : ∀ c : XC, c.lt a = true → c.lt b = true := fun c hc => by cases c <;> simp only [XC.lt, Nat.blt_eq] at hc ⊢ <;> omega
  have hA : ∀ c : XA, c.lt a = true → c.lt b = true := fun c hc' => by
    cases c with
    | c c => exact hc c hc'
    | a l => exact List.all_eq_true.2 fun y hy => hc y (List.all_eq_true.1 hc' y hy)
  cases x with
  | a x => exact hA x hx
  | t l => exact List.all_eq_true.2 fun y hy => hA y (List.all_eq_true.1 hx y hy)
  | u => rfl
theorem xlk_lt {nx : Nat} : ∀ {E : XE} {s : Tmp} {u : XV}, XE.lt nx E = true → xlk E s = some u → u.lt nx = true
  | [], _, _, _, h => by cases h
  | (j, v) :: r, s, u, hE, h => by
    simp only [XE.lt, List.all_cons, Bool.and_eq_true] at hE
    simp only [xlk] at h
    cases hb : Nat.beq j s with
    | true => rw [hb] at h; simp only [cond_true, Option.some.injEq] at h; exact h ▸ hE.1
    | false => rw [hb] at h; exact xlk_lt hE.2 h
structure DInv (P : Program) (w0 : World) (N : Nat) (own : List Seg) (H : Hp) (ops : Array Oper) (rs : List Rc) (E : XE) (nx : Nat) (V0 : Vl) (listed : Array Bool) (a : Act) (w : World) (t : Nat) (ct : Rc) (V : Vl) (H' : Hp) : Prop where
  size : listed.size = ops.size
  closed : Closed ops (fun i => listed.getD i false)
  at_ : rs[t]? = some ct
  tm : t ∈ 0 :: (bI rs 0).map (· + 1)
  eff : ∀ e ∈ bI rs 0, (listed.getD e false = true ↔ e < t)
  agr : Agr nx V0 V
  le : nx ≤ ct.nx
  hok : HOk P V ct.hp
  hle : Le H H'
  defers : a.defers = []
  tmps : a.tmps.size = N
  slots : ∀ s u, slv (fun k => (ops[k]?).bind (·.dst)) (fun k => (rs[k]?).bind (·.v)) (fun i => listed.getD i false) (xlk E s) s ops.size = some u → a.tmps[s]? = some (u.val V)
  lt : ∀ k u, k < ops.size → listed.getD k false = true → (rs[k]?).bind (·.v) = some u → u.lt ct.nx = true
  st : St w0 H' (seg V ct.hp :: own) w
theorem gG {rs : List Rc} {n : Nat} (hs : ∀ k, k < n → ∃ c c', rs[k]? = some c ∧ rs[k + 1]? = some c' ∧ (c.kind ≠ 2 → c'.hp = c.hp ∧ c'.nx = c.nx)) : ∀ (m t : Nat) (ct : Rc), t + m ≤ n → rs[t]? = some ct → (∀ k c, t ≤ k → k < t + m → rs[k]? = some c → c.kind ≠ 2) →
    ∃ c', rs[t + m]? = some c' ∧ c'.hp = ct.hp ∧ c'.nx = ct.nx
  | 0, t, ct, _, h, _ => ⟨ct, h, rfl, rfl⟩
  | m + 1, t, ct, hm, h, hk => by
    obtain ⟨c, h1, h2, h3⟩ := gG hs m t ct (by omega) h (fun k c a b => hk k c a (by omega))
    obtain ⟨c1, c2, k1, k2, k3⟩ := hs (t + m) (by omega)
    rw [h1] at k1
    cases k1
    obtain ⟨e1, e2⟩ := k3 (hk (t + m) c (by omega) (by omega) h1)
    exact ⟨c2, k2, e1.trans h2, e2.trans h3⟩
theorem xdraw_get {X : XP P} {call : cw} {E E' : XE} {hp hp' : XH} {nx nx' : Nat} (h : xdraw X call N ops E hp nx = some (E', hp', nx')) : ∃ rs cn, xrun X call N ops (aG ops.toList []) (ops.toList.map (·.dst)) 0 ops.toList E hp nx = some rs ∧ XE.lt nx E = true ∧
    lc X (ops.toList.map (·.dst)) (aG ops.toList []) (bI rs 0) rs 0 ops.toList rs = true ∧ rs[ops.toList.length]? = some cn ∧ E' = cn.E ∧ hp' = cn.hp ∧ nx' = cn.nx := by
  unfold xdraw at h
  simp only at h
  split at h
  · rename_i rs hrs
    split at h
    · rename_i hb
      cases hcn : rs[ops.toList.length]? with
      | none => rw [hcn] at h; cases h
      | some cn =>
        rw [hcn] at h
        cases h
        exact ⟨rs, cn, hrs, hb.1, hb.2, hcn, rfl, rfl, rfl⟩
    · cases h
  · cases h
theorem xdraw_ok {X : XP P} {call : cw} (hcall : fE P call) (hm : P.follows .mixedOrders = true) {E E' : XE} {hp hp' : XH} {nx nx' : Nat} {id : Nat} (h : xdraw X call N ops E hp nx = some (E', hp', nx')) {V : Vl} (hV : HOk P V hp)
    (hh : ∀ V' H', Agr nx V V' → nx ≤ nx' → HOk P V' hp' → Le H H' → TQ w0 N Q .normal (XE.val V' E') (seg V' hp' :: own) H') : TC P w0 N Q (.region id ops true) (XE.val V E) (seg V hp :: own) H := by
  obtain ⟨rs, cn, hrs, hElt, hchk, hcn, rfl, rfl, rfl⟩ := xdraw_get h
  obtain ⟨hlen, ⟨c0, hc0, e1, e2, e3⟩, hlast, hstep⟩ := xrun_ok hrs
  subst e1 e2 e3
  have hn : ops.toList.length = ops.size := Array.length_toList
  rw [hn] at hcn hlen
  have hpre : ∀ {j k : Nat}, bu (aG ops.toList []) j k = true → Pre ops j k := fun {j k} hb => cV (ops := ops) (l := ops.toList) (acc := []) (fun j => by simp) (fun i j h => by simp at h) k j hb
  have hF : ∀ (k : Nat) o, ops[k]? = some o → ∃ c c', rs[k]? = some c ∧ rs[k + 1]? = some c' ∧ StepF X call N ops (eh (aG ops.toList []) k (ops.toList.map (·.dst)) 0) o c c' ∧
      xchk X (ops.toList.map (·.dst)) (aG ops.toList []) (bI rs 0) rs k o c = true ∧ ∀ e ∈ o.after, Region.binds .any e = true → e.on < k := fun k o ho => by
    have ho' : ops.toList[k]? = some o := by rw [Array.getElem?_toList]; exact ho
    obtain ⟨c, c', h1, h2, h3⟩ := hstep k o ho'
    rw [Nat.zero_add] at h3
    obtain ⟨h4, h5⟩ := n8 hchk k o c ho' h1
    rw [Nat.zero_add] at h4 h5
    exact ⟨c, c', h1, h2, h3, h4, h5⟩
  have ah : ∀ k, k < ops.size → ∃ o, ops[k]? = some o := fun k hk => ⟨_, Array.getElem?_eq_getElem hk⟩
  have hsame := gG (rs := rs) (n := ops.size) (fun k hk => by
    obtain ⟨o, ho⟩ := ah k hk
    obtain ⟨c, c', h1, h2, h3, _⟩ := hF k o ho
    refine ⟨c, c', h1, h2, fun hne => ?_⟩
    rcases h3.st with h | h | h
    · exact ⟨h.2.2.2.1, h.2.2.2.2⟩
    · exact ⟨h.2.2.1, h.2.2.2⟩
    · exact absurd h.1 hne)
  have heffs : ∀ e, e ∈ bI rs 0 ↔ ∃ c, rs[e]? = some c ∧ c.kind = 2 := fun e => by
    rw [la]
    constructor
    · rintro ⟨j, c, rfl, h⟩; rw [Nat.zero_add]; exact ⟨c, h⟩
    · rintro ⟨c, h⟩; exact ⟨e, c, by omega, h⟩
  have hslv : ∀ (i : Nat) c s, i ≤ ops.size → rs[i]? = some c → xlk c.E s = slv (fun k => (ops[k]?).bind (·.dst)) (fun k => (rs[k]?).bind (·.v)) (fun _ => true) (xlk c0.E s) s i := by
    intro i
    induction i with
    | zero => intro c s _ hc; rw [hc0] at hc; cases hc; rfl
    | succ i ih =>
      intro c s hi hc
      obtain ⟨o, ho⟩ := ah i (by omega)
      obtain ⟨d1, d2, h1, h2, h3, _⟩ := hF i o ho
      rw [hc] at h2
      cases h2
      rw [h3.E, xput_xlk, ih d1 s (by omega) h1]
      simp only [slv, ho, h1, Option.bind_some, true_and]
  have main : ∀ (fuel : Nat) (listed : Array Bool) (a : Act) (w : World) t ct V1 H1, DInv P w0 N own H ops rs c0.E c0.nx V listed a w t ct V1 H1 → left listed ops.size ≤ fuel → wpAny P .any ops Q fuel listed a w := by
    have fin : ∀ (listed : Array Bool) (a : Act) (w : World) t ct V1 H1, DInv P w0 N own H ops rs c0.E c0.nx V listed a w t ct V1 H1 → Region.ready .any ops listed = [] → Q .normal a w := by
      intro listed a w t ct V1 H1 hI hr
      have aP : ∀ m k, k < m → k < ops.size → listed.getD k false = true := by
        intro m
        induction m with
        | zero => intro k h; omega
        | succ m ih =>
          intro k hk hkn
          cases hl : listed.getD k false with
          | true => rfl
          | false =>
            exfalso
            obtain ⟨o, ho⟩ := ah k hkn
            obtain ⟨_, _, _, _, _, _, hback⟩ := hF k o ho
            have : k ∈ Region.ready .any ops listed := mem_ready.2 ⟨getD_in (by rw [hI.size]; exact hkn) hl, o, ho, fun e he hb => ih e.on (by have := hback e he hb; omega) (by have := hback e he hb; omega)⟩
            rw [hr] at this
            cases this
      have hall' : ∀ k, k < ops.size → listed.getD k false = true := fun k hk => aP (k + 1) k (by omega) hk
      have ht : t ≤ ops.size := by
        have := (List.getElem?_eq_some_iff.1 hI.at_).1
        omega
      obtain ⟨c', k1, k2, k3⟩ := hsame (ops.size - t) t ct (by omega) hI.at_ (fun k c h1 h2 h3 h4 => by
        have := (hI.eff k ((heffs k).2 ⟨c, h3, h4⟩)).1 (hall' k (by omega))
        omega)
      rw [show t + (ops.size - t) = ops.size by omega, hcn] at k1
      cases k1
      rw [k3] at hh
      rw [k2] at hh
      refine hh V1 H1 hI.agr hI.le hI.hok hI.hle a w ⟨hI.defers, hI.tmps, fun s u hu => ?_⟩ hI.st
      rw [cH] at hu
      cases hx : xlk cn.E s with
      | none => rw [hx] at hu; cases hu
      | some x =>
        rw [hx] at hu
        cases hu
        refine hI.slots s x ?_
        rw [cA (L' := fun _ => true) (fun k hk _ => hall' k hk), ← hslv ops.size cn s (Nat.le_refl _) hcn]
        exact hx
    intro fuel
    induction fuel with
    | zero =>
      intro listed a w t ct V1 H1 hI hl
      have hr : Region.ready .any ops listed = [] := by
        cases hr : Region.ready .any ops listed with
        | nil => rfl
        | cons i r =>
          exfalso
          have hi : i ∈ Region.ready .any ops listed := by rw [hr]; exact List.mem_cons_self ..
          obtain ⟨hu, o, ho, _⟩ := mem_ready.1 hi
          have hin : i < ops.size := (Array.getElem?_eq_some_iff.1 ho).1
          have := ei (listed := listed) hin (getD_both hu) (by rw [hI.size]; exact hin)
          omega
      exact ⟨hr, fin listed a w t ct V1 H1 hI hr⟩
    | succ fuel ih =>
      intro listed a w t ct V1 H1 hI hl
      refine ⟨fin listed a w t ct V1 H1 hI, fun i hi => ?_⟩
      obtain ⟨hu, o, ho, hdir⟩ := mem_ready.1 hi
      have hin : i < ops.size := (Array.getElem?_eq_some_iff.1 ho).1
      have hunl := getD_both hu
      obtain ⟨c, c', hc, hc', hS, hK, _⟩ := hF i o ho
      have hprel : ∀ {j : Nat}, Pre ops j i → listed.getD j false = true := fun {j} hp => hp.ready hI.closed (fun o' ho' => by rw [ho] at ho'; cases ho'; exact hdir)
      have hpost : ∀ {j : Nat}, Pre ops i j → listed.getD j false = false := fun {j} hp => by
        cases hj : listed.getD j false with
        | false => rfl
        | true => have := hI.closed.pre hp hj; rw [hunl] at this; cases this
      have hord : ∀ s, (eh (aG ops.toList []) i (ops.toList.map (·.dst)) 0).contains s = false → ∀ k, k < ops.size → (ops[k]?).bind (·.dst) = some s → k ≠ i → listed.getD k false = Nat.blt k i := by
        intro s hs k hk hd hne
        obtain ⟨ok, hok⟩ := ah k hk
        rw [hok] at hd
        simp only [Option.bind_some] at hd
        obtain ⟨b1, b2⟩ := mV hs k (by rw [List.getElem?_map, Array.getElem?_toList, hok]; exact congrArg some hd) (by omega)
        rw [Nat.zero_add] at b1 b2
        rcases Nat.lt_or_ge k i with hlt | hge
        · rw [hprel (hpre (b1 hlt)), show Nat.blt k i = true by rw [Nat.blt_eq]; exact hlt]
        · rw [hpost (hpre (b2 (by omega)))]
          symm
          cases hb : Nat.blt k i with
          | true => rw [Nat.blt_eq] at hb; omega
          | false => rfl
      have hlook : ∀ s u, xlk (xcut (eh (aG ops.toList []) i (ops.toList.map (·.dst)) 0) c.E) s = some u → a.tmps[s]? = some (u.val V1) := by
        intro s u hs
        obtain ⟨h1, h2⟩ := mW hs
        refine hI.slots s u ?_
        rw [cA (L' := fun k => Nat.blt k i) (fun k hk hd => ?_), mX (by omega), ← hslv i c s (by omega) hc]
        · exact h1
        · by_cases hki : k = i
          · subst hki
            rw [hunl]
            cases hb : Nat.blt k k with
            | true => rw [Nat.blt_eq] at hb; omega
            | false => rfl
          · exact hord s h2 k hk hd hki
      have hLks : Lks (xev (xcut (eh (aG ops.toList []) i (ops.toList.map (·.dst)) 0) c.E)) V1 (cJ a) := by
        intro x u hx
        cases x with
        | tmp s => simp only [xev] at hx; simp only [ev, bk]; exact hlook s u hx
        | const v => simp only [xev] at hx; simp only [ev, ofV_val V1 hx]
        | _ => cases hx
      have hAt : At N (cJ a) a := ⟨hI.defers, hI.tmps, fun s v hv => by rwa [bk] at hv⟩
      have hself : (listed.setIfInBounds i true).getD i false = true := by
        have : i < listed.size := by rw [hI.size]; exact hin
        simp [this]
      have hother : ∀ k, k ≠ i → (listed.setIfInBounds i true).getD k false = listed.getD k false := fun k hk => getD_set_ne false (Ne.symm hk)
      have put : ∀ (t' : Nat) (ct' : Rc) (V' : Vl) (H2 : Hp) (u : Value) (a' : Act) (w' : World), rs[t']? = some ct' → t' ∈ 0 :: (bI rs 0).map (· + 1) → (∀ e ∈ bI rs 0, ((listed.setIfInBounds i true).getD e false = true ↔ e < t')) → Agr ct.nx V1 V' → ct.nx ≤ ct'.nx →
          HOk P V' ct'.hp → Le H1 H2 → (∀ x, c.v = some x → u = x.val V') → vlt ct'.nx c.v = true → At N (ab o.dst u (cJ a)) a' → St w0 H2 (seg V' ct'.hp :: own) w' → wpAny P .any ops Q fuel (listed.setIfInBounds i true) a' w' := by
        intro t' ct' V' H2 u a' w' q1 q2 q3 q4 q5 q6 q7 q8 q9 q10 q11
        have hleft : left (listed.setIfInBounds i true) ops.size ≤ fuel := by
          have := ei (listed := listed) hin hunl (by rw [hI.size]; exact hin)
          omega
        refine ih _ a' w' t' ct' V' H2 ⟨by simp [hI.size], ?_, q1, q2, q3, hI.agr.trans hI.le q4, Nat.le_trans hI.le q5, q6, hI.hle.trans q7, q10.defers, q10.size, ?_, ?_, q11⟩ hleft
        · intro k ok hok hk e he hb
          by_cases hki : k = i
          · subst hki
            rw [ho] at hok
            cases hok
            exact getD_set_true (hdir e he hb)
          · change (listed.setIfInBounds i true).getD k false = true at hk
            rw [hother k hki] at hk
            exact getD_set_true (hI.closed k ok hok hk e he hb)
        · intro s x hs
          by_cases hd : o.dst = some s
          · rw [cA (L' := fun k => Nat.blt k (i + 1)) (fun k hk hdk => ?_), mX (by omega)] at hs
            · simp only [slv, ho, hc, Option.bind_some, hd, true_and, if_true] at hs
              have hu := q8 x hs
              refine q10.slots s _ ?_
              rw [hd]
              simp only [ab, lk, Nat.beq_refl, cond_true, hu]
            · by_cases hki : k = i
              · subst hki
                rw [hself]
                symm
                rw [Nat.blt_eq]; omega
              · rw [hother k hki, hord s (hS.free s hd) k hk hdk hki]
                rcases Nat.lt_or_ge k i with hlt | hge
                · rw [show Nat.blt k i = true by rw [Nat.blt_eq]; exact hlt]
                  symm
                  rw [Nat.blt_eq]; omega
                · have f1 : Nat.blt k i = false := by
                    cases hb : Nat.blt k i with
                    | true => rw [Nat.blt_eq] at hb; omega
                    | false => rfl
                  have f2 : Nat.blt k (i + 1) = false := by
                    cases hb : Nat.blt k (i + 1) with
                    | true => rw [Nat.blt_eq] at hb; omega
                    | false => rfl
                  rw [f1, f2]
          · rw [cA (L' := fun i => listed.getD i false) (fun k hk hdk => hother k (fun e => by
              subst e
              rw [ho] at hdk
              exact hd hdk))] at hs
            have h1 := hI.slots s x hs
            have hlt : x.lt ct.nx = true := by
              rcases slv_mem hs with h2 | ⟨k, k1, k2, k3⟩
              · exact XV.lt_mono hI.le (xlk_lt hElt h2)
              · exact hI.lt k x k1 k2 k3
            rw [XV.agr q4 hlt]
            refine q10.slots s _ ?_
            rw [← bk] at h1
            cases hod : o.dst with
            | none => exact h1
            | some d' =>
              simp only [ab, lk]
              have : Nat.beq d' s = false := by
                cases hb : Nat.beq d' s with
                | true => exact absurd (by rw [hod, Nat.eq_of_beq_eq_true hb]) hd
                | false => rfl
              rw [this]
              exact h1
        · intro k x hk hl2 hx
          by_cases hki : k = i
          · subst hki
            rw [hc] at hx
            simp only [Option.bind_some] at hx
            rw [hx] at q9
            exact q9
          · rw [hother k hki] at hl2
            exact XV.lt_mono q5 (hI.lt k x hk hl2 hx)
      have hq3 : c.kind ≠ 2 → ∀ e ∈ bI rs 0, ((listed.setIfInBounds i true).getD e false = true ↔ e < t) := fun hk e he => by
        have hne : e ≠ i := fun hei => by
          subst hei
          obtain ⟨c2, h1, h2⟩ := (heffs e).1 he
          rw [hc] at h1; cases h1
          exact hk h2
        rw [hother e hne]
        exact hI.eff e he
      have hEe : ∀ s u, xlk (xcut (eh (aG ops.toList []) i (ops.toList.map (·.dst)) 0) c.E) s = some u → lk (cJ a) s = some (u.val V1) := fun s u hs => by rw [bk]; exact hlook s u hs
      rcases hS.st with ⟨hk, hw, hv, _, _⟩ | ⟨hk, hw, _, _⟩ | ⟨hk, hw, v, hv, hx⟩
      · refine cy ho (eV (V := V1) hw hEe hS.dst (fun e => by cases e) (fun _ => TL.nil ?_)) hAt hI.st
        intro a' w' ha' hw'
        exact put t ct V1 H1 undef a' w' hI.at_ hI.tm (hq3 (by omega)) (Agr.refl _ _) (Nat.le_refl _) hI.hok (Le.refl _) (fun x hx => by rw [hv] at hx; cases hx; rfl) (by rw [hv]; rfl) ha' hw'
      · have hkk := hK
        simp only [xchk, hk] at hkk
        have h1 := List.all_eq_true.1 (show _ = true from hkk) t hI.tm
        have hadm : xadm (aG ops.toList []) (bI rs 0) i t = true := List.all_eq_true.2 fun e he => by
          simp only [Bool.and_eq_true, Bool.or_eq_true, Bool.not_eq_true', Nat.blt_eq]
          refine ⟨?_, ?_⟩
          · cases hb : bu (aG ops.toList []) e i with
            | false => exact .inl rfl
            | true => exact .inr ((hI.eff e he).1 (hprel (hpre hb)))
          · cases hb : bu (aG ops.toList []) i e with
            | false => exact .inl rfl
            | true =>
              refine .inr ?_
              have := hpost (hpre hb)
              have h2 := mt (hI.eff e he).2 (by rw [this]; simp)
              rw [Nat.ble_eq]
              omega
        rw [hadm, hI.at_] at h1
        simp only [Bool.not_true, Bool.false_or, Bool.and_eq_true, decide_eq_true_eq] at h1
        refine cy ho (eV (V := V1) hw hEe hS.dst (fun _ => ?_) (fun e => by cases e)) hAt hI.st
        refine k7 h1.1 hLks hI.hok hS.dst (fun H2 u hle hu => TL.nil ?_)
        intro a' w' ha' hw'
        exact put t ct V1 H2 u a' w' hI.at_ hI.tm (hq3 (by omega)) (Agr.refl _ _) (Nat.le_refl _) hI.hok hle hu h1.2 ha' hw'
      · have hkk := hK
        simp only [xchk, hk] at hkk
        have hkk2 : ((bI rs 0).all fun e => Nat.ble i e || bu (aG ops.toList []) e i) = true ∧ (vlt c'.nx c.v && Nat.ble c.nx c'.nx) = true := by
          rw [hc'] at hkk
          simpa using hkk
        obtain ⟨hb1, hb2⟩ := hkk2
        simp only [Bool.and_eq_true] at hb2
        have hie : i ∈ bI rs 0 := (heffs i).2 ⟨c, hc, hk⟩
        have hbef : ∀ e ∈ bI rs 0, e < i → listed.getD e false = true := fun e he hlt => by
          have := List.all_eq_true.1 hb1 e he
          simp only [Bool.or_eq_true] at this
          rcases this with h2 | h2
          · have := Nat.le_of_ble_eq_true h2; omega
          · exact hprel (hpre h2)
        have haft : ∀ e ∈ bI rs 0, i < e → listed.getD e false = false := fun e he hlt => by
          obtain ⟨ce, hce, hke⟩ := (heffs e).1 he
          have hes : e < ops.size := by
            have h5 := (List.getElem?_eq_some_iff.1 hce).1
            rcases Nat.lt_or_ge e ops.size with h6 | h6
            · exact h6
            · exfalso
              have : e = ops.size := by omega
              subst this
              rw [hcn] at hce
              cases hce
              have := hlast cn (by rw [hn]; exact hcn)
              omega
          obtain ⟨oe, hoe⟩ := ah e hes
          obtain ⟨c2, _, k1, _, _, k4, _⟩ := hF e oe hoe
          rw [hce] at k1
          cases k1
          simp only [xchk, hke] at k4
          have k5 : ((bI rs 0).all fun e' => Nat.ble e e' || bu (aG ops.toList []) e' e) = true := by
            have : Nat.beq 2 1 = false := rfl
            have h7 : Nat.beq 2 2 = true := rfl
            rw [this, h7] at k4
            simp only [cond_false, cond_true, Bool.and_eq_true] at k4
            exact k4.1
          have := List.all_eq_true.1 k5 i hie
          simp only [Bool.or_eq_true] at this
          rcases this with h2 | h2
          · have := Nat.le_of_ble_eq_true h2; omega
          · exact hpost (hpre h2)
        have hti : t ≤ i := by
          have := mt (hI.eff i hie).2 (by rw [hunl]; simp)
          omega
        obtain ⟨c2, k1, k2, k3⟩ := hsame (i - t) t ct (by omega) hI.at_ (fun k ck q1 q2 q3 q4 => by
          have hke := (heffs k).2 ⟨ck, q3, q4⟩
          have := (hI.eff k hke).1 (hbef k hke (by omega))
          omega)
        rw [show t + (i - t) = i by omega, hc] at k1
        cases k1
        refine cy ho (eV (V := V1) hw hEe hS.dst (fun _ => ?_) (fun e => by cases e)) hAt hI.st
        have hok2 : HOk P V1 c.hp := by rw [k2]; exact hI.hok
        rw [← k2]
        refine xeff_ok hcall hx hLks hok2 hS.dst (fun V' H2 h1 h2 h3 h4 => TL.nil ?_)
        intro a' w' ha' hw'
        refine put (i + 1) c' V' H2 _ a' w' hc' (List.mem_cons_of_mem _ (List.mem_map.2 ⟨i, hie, rfl⟩)) (fun e he => ?_) (by rw [← k3]; exact h1) (by rw [← k3]; exact h2) h3 h4 (fun x hx => by rw [hv] at hx; cases hx; rfl) hb2.1 ha' hw'
        rcases Nat.lt_trichotomy e i with hlt | heq | hgt
        · rw [hother e (by omega), hbef e he hlt]; simp; omega
        · subst heq; rw [hself]; simp
        · rw [hother e (by omega), haft e he hgt]; simp; omega
  intro a w ha hw
  refine wp_region_any hm ?_
  refine main ops.size (Array.replicate ops.size false) a { w with drawn := w.drawn + 1 } 0 c0 V H ⟨by simp, ?_, hc0, List.mem_cons_self .., ?_, Agr.refl _ _, Nat.le_refl _, hV, Le.refl _, ha.defers, ha.size, ?_, ?_, ?_⟩ ?_
  · intro k o _ hk
    change (Array.replicate ops.size false).getD k false = true at hk
    rw [getD_replicate_false] at hk; cases hk
  · intro e _
    rw [getD_replicate_false]; simp
  · intro s u hu
    rw [cA (L' := fun k => Nat.blt k 0) (fun k _ _ => by rw [getD_replicate_false]; rfl), mX (Nat.zero_le _)] at hu
    exact ha.slots s _ (by rw [cH]; simp only [slv] at hu; rw [hu]; rfl)
  · intro k u _ hk
    rw [getD_replicate_false] at hk; cases hk
  · exact ⟨hw.os, ⟨hw.tape.1, Nat.le_succ_of_le hw.tape.2⟩, hw.output, hw.imm, hw.own_at, hw.apart, hw.nodup⟩
  · unfold left
    exact Nat.le_trans (List.length_filter_le _ _) (by simp)
end
inductive XX where
  | n
  | r
  | e (i : Nat)
deriving DecidableEq
def XX.ex : XX → Exit
  | .n => .normal
  | .r => .ret
  | .e i => .exit i
abbrev XRes := XX × XE × XH × Nat
def bO {P : Program} (X : XP P) (call : cw) (N : Nat) : Nat → Code → XE → XH → Nat → Option XRes
  | 0, _, _, _, _ => none
  | f + 1, c, E, hp, nx => match c with
    | .skip => some (.n, E, hp, nx)
    | .ret => some (.r, E, hp, nx)
    | .exit i => some (.e i, E, hp, nx)
    | .region _ ops false => (k8 X call N ops ops.toList E hp nx).map fun r => (.n, r)
    | .region _ ops true => (xdraw X call N ops E hp nx).map fun r => (.n, r)
    | .seq a b => match bO X call N f a E hp nx with
      | some (.n, E', hp', nx') => bO X call N f b E' hp' nx'
      | r => r
    | .cond x a b => match xev E x with
      | some (.a (.c (.b t))) => bO X call N f (if t then a else b) E hp nx
      | _ => none
    | .block i a => match bO X call N f a E hp nx with
      | some (.e j, E', hp', nx') => if j = i then some (.n, E', hp', nx') else some (.e j, E', hp', nx')
      | r => r
    | .loop a => match bO X call N f a E hp nx with
      | some (.n, E', hp', nx') => bO X call N f (.loop a) E' hp' nx'
      | r => r
    | _ => none
section
variable {P : Program} {w0 : World} {N : Nat} {own : List Seg}
def XPost (P : Program) (w0 : World) (N : Nat) (Q : Exit → Act → World → Prop) (own : List Seg) (V : Vl) (H : Hp) (nx : Nat) (r : XRes) : Prop :=
  ∀ V' H', Agr nx V V' → nx ≤ r.2.2.2 → HOk P V' r.2.2.1 → Le H H' → TQ w0 N Q r.1.ex (XE.val V' r.2.1) (seg V' r.2.2.1 :: own) H'
theorem XPost.trans {Q : Exit → Act → World → Prop} {V V' : Vl} {H H' : Hp} {nx nx' : Nat} {r : XRes} (h : XPost P w0 N Q own V H nx r) (ha : Agr nx V V') (hn : nx ≤ nx') (hl : Le H H') : XPost P w0 N Q own V' H' nx' r :=
  fun V2 H2 h1 h2 h3 h4 => h V2 H2 (ha.trans hn h1) (Nat.le_trans hn h2) h3 (hl.trans h4)
theorem TC.loopL {Q : Exit → Act → World → Prop} {c : Code} {env : Env} {own : List Seg} {H : Hp} (J : Nat → Env → List Seg → Hp → Prop) (n : Nat) (h0 : J n env own H)
    (round : ∀ n env own H, J n env own H → TC P w0 N (Exit.then (Nx w0 N J n) Q) c env own H) : TC P w0 N Q (.loop c) env own H := fun a w ha hw => by
  refine wp_loop_ghost (fun n a w => ∃ env own H, J n env own H ∧ At N env a ∧ St w0 H own w) n ⟨env, own, H, h0, ha, hw⟩ ?_
  rintro n a w ⟨env, own, H, hJ, ha, hw⟩
  refine wp_mono (round n env own H hJ a w ha hw) ?_
  intro e a' w' hq
  cases e with
  | normal => obtain ⟨n', env, own, H, hlt, hJ', ha', hw'⟩ := hq; exact ⟨n', hlt, env, own, H, hJ', ha', hw'⟩
  | exit id => exact hq
  | goto l => exact hq
  | ret => exact hq
  | panic ch => exact hq
  | outgrown => exact hq
theorem TQ.nextL {Q : Exit → Act → World → Prop} {J : Nat → Env → List Seg → Hp → Prop} {n : Nat} {env : Env} {own : List Seg} {H : Hp} (n' : Nat) (hlt : n' < n) (hJ : J n' env own H) : TQ w0 N (Exit.then (Nx w0 N J n) Q) .normal env own H := fun _ _ ha hw => ⟨n', env, own, H, hlt, hJ, ha, hw⟩
theorem xcode_ok {X : XP P} {call : cw} (hcall : fE P call) (hm : P.follows .mixedOrders = true) : ∀ (f : Nat) {Q : Exit → Act → World → Prop} {c : Code} {E : XE} {hp : XH} {nx : Nat} {r : XRes} {V : Vl} {H : Hp}, bO X call N f c E hp nx = some r → HOk P V hp →
    XPost P w0 N Q own V H nx r → TC P w0 N Q c (XE.val V E) (seg V hp :: own) H := by
  intro f
  induction f using Nat.strongRecOn with
  | _ f IH =>
  intro Q c E hp nx r V H h hV hh
  cases f with
  | zero => cases h
  | succ f =>
  have ih := fun {Q : Exit → Act → World → Prop} {c : Code} {E : XE} {hp : XH} {nx : Nat} {r : XRes} {V : Vl} {H : Hp} => @IH f (Nat.lt_succ_self f) Q c E hp nx r V H
  have self : ∀ (x : XX) (E' : XE) (hp' : XH), r = (x, E', hp', nx) → hp' = hp → E' = E → TQ w0 N Q x.ex (XE.val V E) (seg V hp :: own) H := fun x E' hp' e1 e2 e3 => by
    subst e2 e3
    have := hh V H (Agr.refl _ _) (by rw [e1]; exact Nat.le_refl _) (by rw [e1]; exact hV) (Le.refl _)
    rw [e1] at this
    exact this
  cases c with
  | skip => simp only [bO, Option.some.injEq] at h; exact TC.skip (self .n E hp h.symm rfl rfl)
  | ret => simp only [bO, Option.some.injEq] at h; exact TC.ret (self .r E hp h.symm rfl rfl)
  | exit i => simp only [bO, Option.some.injEq] at h; exact TC.exit (self (.e i) E hp h.symm rfl rfl)
  | region id ops dr =>
    cases dr with
    | false =>
      simp only [bO] at h
      cases hx : k8 X call N ops ops.toList E hp nx with
      | none => rw [hx] at h; cases h
      | some q =>
        rw [hx] at h
        cases h
        have : TC P w0 N Q (.region id ops.toList.toArray false) (XE.val V E) (seg V hp :: own) H := TC.region (j8 (by simpa using hcall) (by simpa using hx) hV (fun V' H' h1 h2 h3 h4 => hh V' H' h1 h2 h3 h4))
        simpa using this
    | true =>
      simp only [bO] at h
      cases hx : xdraw X call N ops E hp nx with
      | none => rw [hx] at h; cases h
      | some q =>
        rw [hx] at h
        cases h
        exact xdraw_ok hcall hm hx hV (fun V' H' h1 h2 h3 h4 => hh V' H' h1 h2 h3 h4)
  | seq a b =>
    simp only [bO] at h
    refine TC.seq ?_
    cases ha : bO X call N f a E hp nx with
    | none => rw [ha] at h; cases h
    | some q =>
      obtain ⟨x, E', hp', nx'⟩ := q
      rw [ha] at h
      cases x with
      | n => exact ih ha hV (fun V' H' h1 h2 h3 h4 => TQ.then_n (ih h h3 (hh.trans h1 h2 h4)))
      | r => cases h; exact ih ha hV (fun V' H' h1 h2 h3 h4 => TQ.then_r (hh V' H' h1 h2 h3 h4))
      | e i => cases h; exact ih ha hV (fun V' H' h1 h2 h3 h4 => TQ.then_e (hh V' H' h1 h2 h3 h4))
  | cond x a b =>
    simp only [bO] at h
    split at h
    · rename_i t hx
      cases t with
      | true => exact TC.cond_t (mT V hx) (ih h hV hh)
      | false => exact TC.cond_f (mT V hx) (ih h hV hh)
    · cases h
  | block i a =>
    simp only [bO] at h
    refine TC.block ?_
    cases ha : bO X call N f a E hp nx with
    | none => rw [ha] at h; cases h
    | some q =>
      obtain ⟨x, E', hp', nx'⟩ := q
      rw [ha] at h
      cases x with
      | n => cases h; exact ih ha hV (fun V' H' h1 h2 h3 h4 => TQ.in_n (hh V' H' h1 h2 h3 h4))
      | r => cases h; exact ih ha hV (fun V' H' h1 h2 h3 h4 => TQ.in_r (hh V' H' h1 h2 h3 h4))
      | e j =>
        simp only at h
        split at h
        · rename_i hji; subst hji; cases h; exact ih ha hV (fun V' H' h1 h2 h3 h4 => TQ.in_e (hh V' H' h1 h2 h3 h4))
        · rename_i hji
          cases h
          refine ih ha hV (fun V' H' h1 h2 h3 h4 => TQ.in_o ?_ (hh V' H' h1 h2 h3 h4))
          cases hb : Nat.beq j i with
          | true => exact absurd (Nat.eq_of_beq_eq_true hb) hji
          | false => rfl
  | loop a =>
    refine TC.loopL (fun n env own' H' => n ≤ f + 1 ∧ ∃ V1 E1 hp1 nx1, bO X call N n (.loop a) E1 hp1 nx1 = some r ∧ Agr nx V V1 ∧ nx ≤ nx1 ∧ HOk P V1 hp1 ∧ Le H H' ∧ env = XE.val V1 E1 ∧ own' = seg V1 hp1 :: own) (f + 1)
      ⟨Nat.le_refl _, V, E, hp, nx, h, Agr.refl _ _, Nat.le_refl _, hV, Le.refl _, rfl, rfl⟩ ?_
    · rintro n env own' H' ⟨hn, V1, E1, hp1, nx1, hx, h1, h2, h3, h4, rfl, rfl⟩
      cases n with
      | zero => cases hx
      | succ n =>
        simp only [bO] at hx
        cases ha : bO X call N n a E1 hp1 nx1 with
        | none => rw [ha] at hx; cases hx
        | some q =>
          obtain ⟨x, E', hp', nx'⟩ := q
          rw [ha] at hx
          have ihn := @IH n (by omega)
          cases x with
          | n =>
            refine ihn ha h3 (fun V' H2 k1 k2 k3 k4 => ?_)
            exact TQ.nextL n (Nat.lt_succ_self n) ⟨by omega, V', E', hp', nx', hx, h1.trans h2 k1, Nat.le_trans h2 k2, k3, h4.trans k4, rfl, rfl⟩
          | r => cases hx; exact ihn ha h3 (fun V' H2 k1 k2 k3 k4 => TQ.then_r (hh V' H2 (h1.trans h2 k1) (Nat.le_trans h2 k2) k3 (h4.trans k4)))
          | e i => cases hx; exact ihn ha h3 (fun V' H2 k1 k2 k3 k4 => TQ.then_e (hh V' H2 (h1.trans h2 k1) (Nat.le_trans h2 k2) k3 (h4.trans k4)))
  | _ => cases h
def xres {P : Program} (X : XP P) (E : XE) (hp : XH) : ResultVar → Option XV
  | .tmp t => xlk E t
  | .cell t ty => match xlk E t, xty P ty with
    | some (.a (.c (.p g o))), some tt => match ah hp g with
      | some (.cells c _ _) => de c o tt
      | _ => none
    | _, _ => none
def rvS (tmps : Array Value) : ResultVar → Sem Value
  | .tmp t => pure (tmps.getD t undef)
  | .cell t ty => do loadVar ty (← asAddr (tmps.getD t undef))
theorem l7 {X : XP P} {E : XE} {hp : XH} {rv : ResultVar} {u : XV} (h : xres X E hp rv = some u) {V : Vl} {H : Hp} {own : List Seg} {a : Act} {w : World} (hV : HOk P V hp) (ha : At N (XE.val V E) a) (hw : St w0 H (seg V hp :: own) w) :
    (rvS a.tmps rv).run P w = .ok (u.val V) w := by
  cases rv with
  | tmp t =>
    simp only [xres] at h
    have h1 := ha.slots t (u.val V) (by rw [cH, h]; rfl)
    simp [rvS, Array.getD_eq_getD_getElem?, h1]
  | cell t ty =>
    simp only [xres] at h
    split at h
    · rename_i g o tt h1 h2
      split at h
      · rename_i c e sz h3
        have h4 := ha.slots t _ (by rw [cH, h1]; rfl)
        obtain ⟨j, hj, _⟩ := cI V h3
        obtain ⟨jk, hob, _⟩ := bh hV h3
        rw [hob] at hj
        have hb := hw.own_blk (i := 0) rfl hj
        obtain ⟨gg, n⟩ := tt
        have hty := mU h2
        have key : ∀ (vs : List Value) (v : Value), vs.length = n → mkV gg vs = some v → cAt (c.map (XC.val V) ++ jk).toArray o vs → (loadVar ty ⟨V.id g, o, none⟩).run P w = .ok v w := fun vs v e1 e2 e3 =>
          bv hty e1 e2 (fun k u hu => by rw [aL hb]; exact e3.get k u hu)
        have h5 : a.tmps.getD t undef = .pointer (some ⟨V.id g, o, none⟩) := by
          rw [Array.getD_eq_getD_getElem?, h4]; rfl
        simp only [rvS, h5, asAddr, Sem.run_bind]
        cases gg with
        | true =>
          simp only [de] at h
          split at h
          · rename_i hn
            cases h
            have := key _ (.agg (((c.drop o).take n).map (XC.val V)).toArray) (by rw [List.length_map, List.length_take, List.length_drop]; omega) rfl (cAt_x V jk n o c hn)
            simpa [XV.val, XA.val] using this
          · cases h
        | false =>
          match n, h, hty, key with
          | 1, h, hty, key =>
            simp only [de] at h
            cases h6 : c[o]? with
            | none => rw [h6] at h; cases h
            | some x =>
              rw [h6] at h; cases h
              have hlt : o < c.length := (List.getElem?_eq_some_iff.1 h6).1
              have := key [x.val V] (x.val V) rfl rfl ⟨by rw [cR, List.toList_toArray, List.getElem?_append_left (by simpa using hlt)]; simp [h6], trivial⟩
              simpa [XV.val, XA.val] using this
          | 0, h, _, _ => cases h
          | n + 2, h, _, _ => cases h
      · cases h
    · cases h
def df {P : Program} (X : XP P) (E : XE) (hp : XH) : List ResultVar → Option (List XV)
  | [] => some []
  | r :: l => match xres X E hp r, df X E hp l with
    | some u, some us => some (u :: us)
    | _, _ => none
theorem ew {X : XP P} {E : XE} {hp : XH} {V : Vl} {H : Hp} {own : List Seg} {a : Act} {w : World} (hV : HOk P V hp) (ha : At N (XE.val V E) a) (hw : St w0 H (seg V hp :: own) w) : ∀ {l : List ResultVar} {us : List XV}, df X E hp l = some us →
    (l.mapM (rvS a.tmps)).run P w = .ok (us.map (XV.val V)) w
  | [], _, h => by cases h; simp
  | r :: l, us, h => by
    simp only [df] at h
    split at h
    · rename_i u us' h1 h2
      cases h
      have e1 := l7 h1 hV ha hw
      have e2 := ew hV ha hw h2
      rw [List.mapM_cons]
      simp only [Sem.run_bind, Sem.run_pure, List.map_cons]
      rw [e1]
      simp only [Result.andThen_ok]
      rw [e2]
      simp only [Result.andThen_ok]
    · cases h
def cP : List XV → Option XV
  | [u] => some u
  | us => (us.mapM fun | XV.a x => some x | _ => none).map XV.t
theorem xpack_ok {us : List XV} {r : XV} (h : cP us = some r) (V : Vl) : (if h : (us.map (XV.val V)).toArray.size = 1 then (us.map (XV.val V)).toArray[0] else .tuple (us.map (XV.val V)).toArray) = r.val V := by
  have key : ∀ (us : List XV) (xs : List XA), us.mapM (fun | XV.a x => some x | _ => none) = some xs → us.map (XV.val V) = xs.map (XA.val V) := by
    intro us
    induction us with
    | nil => intro xs h; simp at h; subst h; rfl
    | cons u us ih =>
      intro xs h
      rw [List.mapM_cons] at h
      cases u with
      | a x =>
        cases h2 : us.mapM (fun | XV.a x => some x | _ => none) with
        | none => simp [h2] at h
        | some ys =>
          simp [h2] at h
          subst h
          simp only [List.map_cons, ih ys h2, XV.val]
      | t l => simp at h
      | u => simp at h
  unfold cP at h
  split at h
  · cases h; simp
  · rename_i hne
    cases h2 : us.mapM (fun | XV.a x => some x | _ => none) with
    | none => rw [h2] at h; cases h
    | some xs =>
      rw [h2] at h; cases h
      rw [dif_neg (fun hs => by
        match us, hne, hs with
        | [u], hne, _ => exact hne u rfl
        | [], _, hs => simp at hs
        | _ :: _ :: _, _, hs => simp at hs)]
      simp only [XV.val, key us xs h2]
def dB : Nat → List XV → XE
  | _, [] => []
  | i, v :: r => (i, v) :: dB (i + 1) r
theorem lg (V : Vl) : ∀ (l : List XV) (k : Nat), XE.val V (dB k l) = cB k (l.map (XV.val V))
  | [], _ => rfl
  | v :: r, k => by
    simp only [dB, XE.val, List.map_cons, cB]
    rw [← lg V r (k + 1)]
    rfl
def XC.names : XC → List Nat
  | .p g _ => [g]
  | .l g _ _ _ => [g]
  | .m g => [g]
  | .e g _ _ => [g]
  | _ => []
def XO.names : XO → List Nat
  | .cells c _ _ => c.flatMap XC.names
  | .map _ _ es => es.flatMap fun p => p.1.cells.flatMap XC.names ++ p.2.names
def XA.names (x : XA) : List Nat := x.cells.flatMap XC.names
def XV.names : XV → List Nat
  | .a x => x.names
  | .t l => l.flatMap XA.names
  | .u => []
def mY (hp : XH) (lo : Nat) : Nat → List Nat → List Nat → List Nat
  | 0, _, seen => seen
  | _, [], seen => seen
  | f + 1, g :: r, seen => if Nat.blt g lo || seen.contains g then mY hp lo f r seen else match ah hp g with
    | some o => mY hp lo f (o.names ++ r) (g :: seen)
    | none => mY hp lo f r seen
def xold (hp : XH) (lo : Nat) : List Nat := hp.flatMap fun p => if Nat.blt p.1 lo then p.2.names else []
def xgc (hp : XH) (lo : Nat) (r : XV) : XH :=
  let keep := mY hp lo 100000 (r.names ++ xold hp lo) []
  hp.filter fun p => Nat.blt p.1 lo || keep.contains p.1
theorem St.sub {w0 w : World} {H : Hp} {own : List Seg} {V : Vl} {hp : XH} (p : Nat × XO → Bool) (h : St w0 H (seg V hp :: own) w) : St w0 H (seg V (hp.filter p) :: own) w := by
  have hp1 : (seg V (hp.filter fun x => !p x) ++ seg V (hp.filter p)).Perm (seg V hp) := by
    unfold seg
    rw [← List.map_append]
    exact ((List.perm_append_comm).trans (List.filter_append_perm p hp)).map _
  have h1 : St w0 H (seg V (hp.filter fun x => !p x) :: seg V (hp.filter p) :: own) w := h.flat (by
    simp only [List.flatten_cons, ← List.append_assoc]
    exact hp1.append_right _)
  exact h1.tail
def xbody {P : Program} (X : XP P) (call : cw) (fuel : Nat) (fn : Func) (vs : List XV) (hp : XH) (nx : Nat) : Option (XV × XH × Nat) :=
  match fn.body with
  | some c => if Nat.ble vs.length fn.ntmps then match bO X call fn.ntmps fuel c (dB 0 vs) hp nx with
    | some (x, E', hp', nx') => if x = .n ∨ x = .r then match df X E' hp' fn.results.toList with
      | some us => match cP us with
        | some r => some (r, xgc hp' nx r, nx')
        | none => none
      | none => none
      else none
    | none => none
    else none
  | none => none
theorem xbody_ok {X : XP P} {call : cw} (hcall : fE P call) (hm : P.follows .mixedOrders = true) {fuel : Nat} {f : FuncId} {fn : Func} (hf : P.funcs[f]? = some fn) {vs : List XV} {hp hp' : XH} {nx nx' : Nat} {r : XV} (h : xbody X call fuel fn vs hp nx = some (r, hp', nx')) {V : Vl} {H : Hp} (hV : HOk P V hp) :
    Fn P f (vs.map (XV.val V)) w0 H (seg V hp :: own) (fun u o H' => ∃ V', Agr nx V V' ∧ nx ≤ nx' ∧ HOk P V' hp' ∧ u = r.val V' ∧ o = seg V' hp' :: own ∧ Le H H') := by
  unfold xbody at h
  split at h; {
  rename_i c hb
  split at h; {
  rename_i hl
  split at h; {
  rename_i x E' hp1 nx1 hx
  split at h; {
  rename_i hxx
  split at h; {
  rename_i us hus
  split at h; {
  rename_i r' hr
  cases h
  refine Fn.enter hf hb rfl (by simpa using hl) ?_
  rw [← lg]
  refine xcode_ok hcall hm fuel hx hV (fun V' H' h1 h2 h3 h4 => ?_)
  intro a w ha hw
  have hres : (results fn a.tmps).run P w = .ok (r.val V') w := by
    have e1 := ew h3 ha hw hus
    have e2 : (fn.results.mapM (rvS a.tmps)).run P w = .ok (us.map (XV.val V')).toArray w := by
      rw [Array.mapM_eq_mapM_toList]
      simp only [Sem.run_map, e1]
      rfl
    show (do let vs ← fn.results.mapM (rvS a.tmps); pure (if h : vs.size = 1 then vs[0] else .tuple vs) : Sem Value).run P w = _
    simp only [Sem.run_bind, e2, Result.andThen_ok, Sem.run_pure]
    rw [xpack_ok hr V']
  have hR : Ret w0 (fun u o H' => ∃ V', Agr nx V V' ∧ nx ≤ nx' ∧ HOk P V' (xgc hp1 nx r) ∧ u = r.val V' ∧ o = seg V' (xgc hp1 nx r) :: own ∧ Le H H') (.returned (r.val V')) w :=
    ⟨_, _, H', rfl, ⟨V', h1, h2, fun p hp => h3 p (List.mem_filter.1 hp).1, rfl, rfl, h4⟩, hw.sub _⟩
  rcases hxx with e | e
  {
  subst e; exact bodyPost_end hres ha.defers hR}; {
  subst e; exact bodyPost_ret hres ha.defers hR}}; {
  cases h}}; {
  cases h}}; {
  cases h}}; {
  cases h}}; {
  cases h}}; {
  cases h}
def xcall {P : Program} (X : XP P) (fuel : Nat) : Nat → cw
  | 0 => fun _ _ _ _ => none
  | k + 1 => fun f vs hp nx => if X.fn f then match P.funcs[f]? with
    | some fn => xbody X (xcall X fuel k) fuel fn vs hp nx
    | none => none
    else none
theorem n9 (X : XP P) (hm : P.follows .mixedOrders = true) (fuel : Nat) : ∀ k, fE P (xcall X fuel k)
  | 0 => fun _ _ _ _ _ _ _ h => by cases h
  | k + 1 => fun f vs hp nx r hp' nx' h => by
    simp only [xcall] at h
    split at h
    · rename_i hfn
      split at h
      · rename_i fn hf
        exact ⟨X.fnOk f hfn, fun V w0 H own hV _ => xbody_ok (n9 X hm fuel k) hm hf h hV⟩
      · cases h
    · cases h
end
mutual
def rdX (hp : XH) : D → XC → Bool
  | .c v, x => decide (ofC v = some x)
  | .s _ xs, .nl => xs.isEmpty
  | .s sz xs, .l g o n c => match ah hp g with
    | some (.cells cs _ sz') => Nat.beq xs.length (n * sz) && Nat.ble n c && Nat.blt 0 sz' && Nat.ble (o + c * sz') cs.length && rdXs hp xs (cs.drop o)
    | _ => false
  | _, _ => false
def rdXs (hp : XH) : List D → List XC → Bool
  | [], _ => true
  | d :: ds, x :: xs => rdX hp d x && rdXs hp ds xs
  | _ :: _, [] => false
end
section
variable {P : Program} {V : Vl} {hp : XH} {H : Hp}
mutual
theorem rdX_ok (hV : HOk P V hp) (hz : ∀ p ∈ seg V hp, H p.1 = some p.2) : ∀ (d : D) (x : XC), rdX hp d x = true → rd H d (x.val V)
  | .c v, x, h => by
    simp only [rdX, decide_eq_true_eq] at h
    simp only [rd]
    exact mS V h
  | .s sz xs, x, h => by
    cases x with
    | nl =>
      simp only [rdX, List.isEmpty_iff] at h
      subst h
      simp only [rd, XC.val]
      exact ⟨none, 0, 0, rfl, by simp, Nat.le_refl _, by omega, .inl rfl⟩
    | l g o n c =>
      simp only [rdX] at h
      split at h
      · rename_i cs e sz' hg
        simp only [Bool.and_eq_true] at h
        obtain ⟨⟨⟨⟨h1, h2⟩, h3⟩, h4⟩, h5⟩ := h
        have h1 := Nat.eq_of_beq_eq_true h1
        have h2 := Nat.le_of_ble_eq_true h2
        rw [Nat.blt_eq] at h3
        have h4 := Nat.le_of_ble_eq_true h4
        obtain ⟨jk, hob, hj1, hj2⟩ := bh hV hg
        obtain ⟨j, hj, _⟩ := cI V hg
        have hH := hz _ (List.mem_of_getElem? hj)
        simp only at hH
        rw [hob] at hH
        have hcel : ∀ k, cel H (V.id g) k = (cs.map (XC.val V) ++ jk)[k]? := fun k => by
          simp only [cel, hH]
          simp
        simp only [rd, XC.val]
        refine ⟨_, n, c + V.ex g, rfl, h1, by omega, ?_, .inr ⟨_, o, rfl, ?_⟩⟩
        · rcases hj2 with e0 | ⟨n0, e1, e2⟩
          · omega
          · have : c ≤ n0 := Nat.le_of_mul_le_mul_right (by rw [← e1]; omega) h3
            simp only [maxLen] at e2; omega
        · refine rdXs_ok hV hz xs (cs.drop o) h5 (V.id g) o (fun k x hx => ?_)
          rw [hcel]
          rw [List.getElem?_drop] at hx
          have hlt : o + k < cs.length := (List.getElem?_eq_some_iff.1 hx).1
          rw [List.getElem?_append_left (by simpa using hlt)]
          simp [hx]
      · cases h
    | _ => simp [rdX] at h
theorem rdXs_ok (hV : HOk P V hp) (hz : ∀ p ∈ seg V hp, H p.1 = some p.2) : ∀ (ds : List D) (xs : List XC), rdXs hp ds xs = true → ∀ (b o : Nat), (∀ (k : Nat) (x : XC), xs[k]? = some x → cel H b (o + k) = some (x.val V)) → rds H b o ds
  | [], _, _, _, _, _ => by simp [rds]
  | d :: ds, x :: xs, h, b, o, hc => by
    simp only [rdXs, Bool.and_eq_true] at h
    simp only [rds]
    refine ⟨⟨x.val V, hc 0 x rfl, rdX_ok hV hz d x h.1⟩, rdXs_ok hV hz ds xs h.2 b (o + 1) (fun k y hy => ?_)⟩
    have := hc (k + 1) y (by simpa using hy)
    rw [show o + 1 + k = o + (k + 1) by omega]; exact this
  | _ :: _, [], h, _, _, _ => by simp [rdXs] at h
end
end
theorem Fn.stay {P : Program} {f : FuncId} {args : List Value} {w0 : World} {H : Hp} {own : List Seg} {own0 : List Seg} {V : Vl} {hp' : XH} {r : XV} {nx nx' : Nat}
    (h : Fn P f args w0 H own0 (fun u o H' => ∃ V', Agr nx V V' ∧ nx ≤ nx' ∧ HOk P V' hp' ∧ u = r.val V' ∧ o = seg V' hp' :: own ∧ Le H H')) :
    Fn P f args w0 H own0 (fun u o H' => (∃ V', HOk P V' hp' ∧ u = r.val V' ∧ (∀ p ∈ seg V' hp', H' p.1 = some p.2)) ∧ o = own ∧ Le H H') := fun w hw => by
  refine (h w hw).mono ?_
  rintro e w' ⟨v, o, H', rfl, ⟨V', h1, h2, h3, h4, rfl, h5⟩, h6⟩
  obtain ⟨k1, k2, k3⟩ := h6.freeze
  exact ⟨v, own, _, rfl, ⟨⟨V', h3, h4, k3⟩, rfl, h5.trans k2⟩, k1⟩
theorem Fn.flat {P : Program} {f : FuncId} {args : List Value} {w0 : World} {H : Hp} {own own' : List Seg} {φ : Value → List Seg → Hp → Prop} (h : Fn P f args w0 H own' φ) (hf : own'.flatten.Perm own.flatten) : Fn P f args w0 H own φ := fun w hw => h w (hw.flat hf)
def xqKey (k : TypeId) : XA → Bool
  | .a [.s a, .s b] => Nat.beq k 175 && decide (a.size ≤ maxLen) && decide (b.size ≤ maxLen)
  | .a [.i .i64 a, .i .i64 b] => Nat.beq k 207 && decide (I64 a) && decide (I64 b)
  | _ => false
def xqHook (f : FuncId) : List XV → Option XV
  | [.a (.c (.i .i64 n))] => if f = 88 ∧ 0 ≤ n ∧ n < 100 then some (.a (.c (.s (bb (decL n.toNat))))) else none
  | _ => none
instance call92 : Callable Tryz.prog 92 := Callable.of Tryz.func92 (by decide) rfl
instance call93 : Callable Tryz.prog 93 := Callable.of Tryz.func93 (by decide) rfl
instance call94 : Callable Tryz.prog 94 := Callable.of Tryz.func94 (by decide) rfl
instance call95 : Callable Tryz.prog 95 := Callable.of Tryz.func95 (by decide) rfl
instance call96 : Callable Tryz.prog 96 := Callable.of Tryz.func96 (by decide) rfl
instance call98 : Callable Tryz.prog 98 := Callable.of Tryz.func98 (by decide) rfl
def XQ : XP Tryz.prog where
  key := xqKey
  hook := xqHook
  fn := fun f => [13, 14, 16, 40, 41, 42, 43, 54, 92, 93, 94, 95, 96, 98].contains f
  fnOk := fun f h => by
    rw [List.contains_iff_mem] at h
    simp only [List.mem_cons, List.not_mem_nil, or_false] at h
    rcases h with rfl | rfl | rfl | rfl | rfl | rfl | rfl | rfl | rfl | rfl | rfl | rfl | rfl | rfl <;> infer_instance
  keyOk := fun k x h => by
    unfold xqKey at h
    split at h
    · simp only [Bool.and_eq_true, decide_eq_true_eq] at h
      obtain ⟨⟨h1, h2⟩, h3⟩ := h
      have := Nat.eq_of_beq_eq_true h1
      subst this
      exact ⟨K115, rfl, fun V => ⟨_, key115 h2 h3⟩⟩
    · simp only [Bool.and_eq_true, decide_eq_true_eq] at h
      obtain ⟨⟨h1, h2⟩, h3⟩ := h
      have := Nat.eq_of_beq_eq_true h1
      subst this
      exact ⟨K137, rfl, fun V => ⟨_, key137 (wf64 h2) (wf64 h3)⟩⟩
    · cases h
  hookOk := fun f vs r h => by
    unfold xqHook at h
    split at h
    · rename_i n
      split at h
      · rename_i hc
        cases h
        obtain ⟨rfl, h0, h1⟩ := hc
        obtain ⟨m, rfl⟩ := Int.eq_ofNat_of_zero_le h0
        exact ⟨inferInstance, fun V w0 H own => decimal_n (n := m) (by omega)⟩
      · cases h
    · cases h
noncomputable def xok (f : FuncId) (vs : List XV) (hp : XH) (nx : Nat) (chk : XV → XH → Bool) : Bool := match xcall XQ 100000 100 f vs hp nx with
  | some r => chk r.1 r.2.1
  | none => false
theorem mZ {f : FuncId} {vs : List XV} {hp : XH} {nx : Nat} {chk : XV → XH → Bool} (h : xok f vs hp nx chk = true) (hl : vs.all (XV.lt nx) = true) {V : Vl} (hV : HOk Tryz.prog V hp) {args : List Value} {w0 : World} {H : Hp} {own own0 : List Seg} {ψ : Value → List Seg → Hp → Prop} (ha : vs.map (XV.val V) = args) (hown : (seg V hp :: own).flatten.Perm own0.flatten)
    (hh : ∀ V' hp' r H', chk r hp' = true → HOk Tryz.prog V' hp' → (∀ p ∈ seg V' hp', H' p.1 = some p.2) → Le H H' → ψ (r.val V') own H') : Fn Tryz.prog f args w0 H own0 ψ := by
  unfold xok at h
  cases hx : xcall XQ 100000 100 f vs hp nx with
  | none => rw [hx] at h; cases h
  | some r =>
    obtain ⟨r, hp', nx'⟩ := r
    rw [hx] at h
    obtain ⟨_, hF⟩ := n9 XQ ai 100000 100 f vs hp nx r hp' nx' hx
    subst ha
    refine (Fn.flat (Fn.stay (hF V w0 H own hV hl)) hown).mono ?_
    rintro u o H' ⟨⟨V', h1, rfl, h3⟩, rfl, h5⟩
    exact hh V' hp' r H' h h1 h3 h5
def vlOf (l : List (Nat × Obj)) : Vl := ⟨fun k => (l.getD k (0, .map #[] 0)).1, fun _ => 0, fun k => (l.getD k (0, .map #[] 0)).2⟩
theorem iT {V : Vl} : HOk Tryz.prog V [] := fun _ h => by cases h
theorem bP {V : Vl} {g : Nat} {c : List XC} {e : TypeId} {sz : Nat} {hp : XH} (n : Nat) (h1 : V.ob g = .cells (c.map (XC.val V)).toArray e (0, 0)) (h2 : V.ex g = 0) (h3 : c.length = n * sz) (h4 : n ≤ maxLen) (h : HOk Tryz.prog V hp) : HOk Tryz.prog V ((g, .cells c e sz) :: hp) := fun p hm => by
  rcases List.mem_cons.1 hm with rfl | hm
  · exact ⟨[], by rw [h1, List.append_nil], by rw [h2]; simp, .inr ⟨n, h3, by rw [h2]; exact h4⟩⟩
  · exact h p hm
abbrev tyT : TypeId := 35
def lfX (l : ByteArray) : List XC := [.s l, .nl]
def chkE (es : List Ei) (r : XV) (hp : XH) : Bool := match r with
  | .a (.c x) => rdX hp (.s 4 (eiD es)) x
  | _ => false
def xd1h : XH := [(0, .cells (lfX ⟨#[97]⟩ ++ lfX ⟨#[98]⟩) tyT 2), (1, .cells (lfX ⟨#[98]⟩) tyT 2)]
theorem xd1 : xok 13 [.a (.a [.s ⟨#[120]⟩, .l 0 0 2 2]), .a (.a [.s ⟨#[120]⟩, .l 1 0 1 1])] xd1h 2 (chkE [⟨2, [0], Tr.zero⟩]) = true := by kernel_rfl
def xd2h : XH := [(0, .cells (lfX ⟨#[97]⟩) tyT 2), (1, .cells (lfX ⟨#[97]⟩) tyT 2)]
theorem xd2 : xok 13 [.a (.a [.s ⟨#[120]⟩, .l 0 0 1 1]), .a (.a [.s ⟨#[121]⟩, .l 1 0 1 1])] xd2h 2 (chkE [⟨3, [], .node ⟨#[121]⟩ [.node ⟨#[97]⟩ []]⟩]) = true := by kernel_rfl
def chkA (r : XV) (_ : XH) : Bool := decide (r = .t [.a [.s ⟨#[]⟩, .nl], .c (.i .i64 101)])
def xd3h : XH := [(0, .cells (lfX ⟨#[97]⟩) tyT 2), (1, .cells [.i .i64 2] 3 1), (2, .cells [.i .i64 1, .l 1 0 1 1, .s ⟨#[98]⟩, .nl] 73 4)]
theorem xd3 : xok 14 [.a (.a [.s ⟨#[120]⟩, .l 0 0 1 1]), .a (.c (.l 2 0 1 1))] xd3h 3 chkA = true := by kernel_rfl
def chkI (es : List Ei) (r : XV) (hp : XH) : Bool := match r with
  | .t [.c x, .c (.i .i64 0)] => rdX hp (.s 4 (eiD es)) x
  | _ => false
def xd4h : XH := [(0, .cells (lfX ⟨#[97]⟩ ++ lfX ⟨#[98]⟩) tyT 2), (1, .cells [.i .i64 1] 3 1), (2, .cells [.i .i64 2, .l 1 0 1 1, .s ⟨#[]⟩, .nl] 73 4)]
theorem xd4 : xok 16 [.a (.a [.s ⟨#[120]⟩, .l 0 0 2 2]), .a (.c (.l 2 0 1 1))] xd4h 3 (chkI [⟨1, [1], .node ⟨#[98]⟩ []⟩]) = true := by kernel_rfl
theorem lh {hp : XH} {V : Vl} {r : XV} {H : Hp} {es : List Ei} (hV : HOk Tryz.prog V hp) (hz : ∀ p ∈ seg V hp, H p.1 = some p.2) (h : chkE es r hp = true) : rd H (.s 4 (eiD es)) (r.val V) := by
  unfold chkE at h
  split at h
  · exact rdX_ok hV hz _ _ h
  · cases h
theorem run_inv {hp : XH} {V : Vl} {r : XV} {H : Hp} {es : List Ei} (hV : HOk Tryz.prog V hp) (hz : ∀ p ∈ seg V hp, H p.1 = some p.2) (h : chkI es r hp = true) : ∃ v, r.val V = .tuple #[v, .int .i64 0] ∧ rd H (.s 4 (eiD es)) v := by
  unfold chkI at h
  split at h
  · exact ⟨_, rfl, rdX_ok hV hz _ _ h⟩
  · cases h
theorem san_d1 {g0 g1 : Nat} {w0 : World} {H : Hp} {own : List Seg} : Fn Tryz.prog 13 [.agg #[.string ⟨#[120]⟩, .slice (some ⟨g0, 0, none⟩) 2 2], .agg #[.string ⟨#[120]⟩, .slice (some ⟨g1, 0, none⟩) 1 1]] w0 H ([(g0, .cells #[.string ⟨#[97]⟩, .slice none 0 0, .string ⟨#[98]⟩, .slice none 0 0] tyT (0, 0))] :: [(g1, .cells #[.string ⟨#[98]⟩, .slice none 0 0] tyT (0, 0))] :: own) (fun u o H' => rd H' (.s 4 (eiD [⟨2, [0], Tr.zero⟩])) u ∧ o = own ∧ Le H H') := by
  refine mZ (own := own) xd1 rfl (V := vlOf [(g0, .cells #[.string ⟨#[97]⟩, .slice none 0 0, .string ⟨#[98]⟩, .slice none 0 0] tyT (0, 0)), (g1, .cells #[.string ⟨#[98]⟩, .slice none 0 0] tyT (0, 0))]) (bP 2 rfl rfl rfl (by decide) (bP 1 rfl rfl rfl (by decide) (iT))) rfl (.refl _) (fun V' hp' r H' h1 h2 h3 h5 => ?_)
  exact ⟨lh h2 h3 h1, rfl, h5⟩
theorem san_d2 {g0 g1 : Nat} {w0 : World} {H : Hp} {own : List Seg} : Fn Tryz.prog 13 [.agg #[.string ⟨#[120]⟩, .slice (some ⟨g0, 0, none⟩) 1 1], .agg #[.string ⟨#[121]⟩, .slice (some ⟨g1, 0, none⟩) 1 1]] w0 H ([(g0, .cells #[.string ⟨#[97]⟩, .slice none 0 0] tyT (0, 0))] :: [(g1, .cells #[.string ⟨#[97]⟩, .slice none 0 0] tyT (0, 0))] :: own) (fun u o H' => rd H' (.s 4 (eiD [⟨3, [], .node ⟨#[121]⟩ [.node ⟨#[97]⟩ []]⟩])) u ∧ o = own ∧ Le H H') := by
  refine mZ (own := own) xd2 rfl (V := vlOf [(g0, .cells #[.string ⟨#[97]⟩, .slice none 0 0] tyT (0, 0)), (g1, .cells #[.string ⟨#[97]⟩, .slice none 0 0] tyT (0, 0))]) (bP 1 rfl rfl rfl (by decide) (bP 1 rfl rfl rfl (by decide) (iT))) rfl (.refl _) (fun V' hp' r H' h1 h2 h3 h5 => ?_)
  exact ⟨lh h2 h3 h1, rfl, h5⟩
theorem san_ap {g0 g1 g2 : Nat} {w0 : World} {H : Hp} {own : List Seg} : Fn Tryz.prog 14 [.agg #[.string ⟨#[120]⟩, .slice (some ⟨g0, 0, none⟩) 1 1], .slice (some ⟨g2, 0, none⟩) 1 1] w0 H ([(g0, .cells #[.string ⟨#[97]⟩, .slice none 0 0] tyT (0, 0))] :: [(g2, .cells #[.int .i64 1, .slice (some ⟨g1, 0, none⟩) 1 1, .string ⟨#[98]⟩, .slice none 0 0] 73 (0, 0))] :: [(g1, .cells #[.int .i64 2] 3 (0, 0))] :: own) (fun u o H' => u = .tuple #[.agg #[.string ⟨#[]⟩, .slice none 0 0], .int .i64 101] ∧ o = own ∧ Le H H') := by
  refine mZ (own := own) xd3 rfl (V := vlOf [(g0, .cells #[.string ⟨#[97]⟩, .slice none 0 0] tyT (0, 0)), (g1, .cells #[.int .i64 2] 3 (0, 0)), (g2, .cells #[.int .i64 1, .slice (some ⟨g1, 0, none⟩) 1 1, .string ⟨#[98]⟩, .slice none 0 0] 73 (0, 0))]) (bP 1 rfl rfl rfl (by decide) (bP 1 rfl rfl rfl (by decide) (bP 1 rfl rfl rfl (by decide) (iT)))) rfl (.cons _ (.swap _ _ _)) (fun V' hp' r H' h1 h2 h3 h5 => ?_)
  exact ⟨by rw [of_decide_eq_true (show decide _ = true from h1)]; rfl, rfl, h5⟩
theorem san_iv {g0 g1 g2 : Nat} {w0 : World} {H : Hp} {own : List Seg} : Fn Tryz.prog 16 [.agg #[.string ⟨#[120]⟩, .slice (some ⟨g0, 0, none⟩) 2 2], .slice (some ⟨g2, 0, none⟩) 1 1] w0 H ([(g0, .cells #[.string ⟨#[97]⟩, .slice none 0 0, .string ⟨#[98]⟩, .slice none 0 0] tyT (0, 0))] :: [(g1, .cells #[.int .i64 1] 3 (0, 0))] :: [(g2, .cells #[.int .i64 2, .slice (some ⟨g1, 0, none⟩) 1 1, .string ⟨#[]⟩, .slice none 0 0] 73 (0, 0))] :: own) (fun u o H' => (∃ v, u = .tuple #[v, .int .i64 0] ∧ rd H' (.s 4 (eiD [⟨1, [1], .node ⟨#[98]⟩ []⟩])) v) ∧ o = own ∧ Le H H') := by
  refine mZ (own := own) xd4 rfl (V := vlOf [(g0, .cells #[.string ⟨#[97]⟩, .slice none 0 0, .string ⟨#[98]⟩, .slice none 0 0] tyT (0, 0)), (g1, .cells #[.int .i64 1] 3 (0, 0)), (g2, .cells #[.int .i64 2, .slice (some ⟨g1, 0, none⟩) 1 1, .string ⟨#[]⟩, .slice none 0 0] 73 (0, 0))]) (bP 2 rfl rfl rfl (by decide) (bP 1 rfl rfl rfl (by decide) (bP 1 rfl rfl rfl (by decide) (iT)))) rfl (.refl _) (fun V' hp' r H' h1 h2 h3 h5 => ?_)
  exact ⟨run_inv h2 h3 h1, rfl, h5⟩
theorem Ei.d_len (e : Ei) : e.d.length = 4 := by simp [Ei.d, Tr.d_len]
theorem m0 (l : List Ei) : (eiD l).length = l.length * 4 := by
  induction l with
  | nil => rfl
  | cons e r ih =>
    have h := e.d_len
    simp only [eiD, List.flatMap_cons, List.length_append, List.length_cons] at ih ⊢
    omega
theorem oM (a b : List Ei) : eiD (a ++ b) = eiD a ++ eiD b := by simp [eiD]
theorem eiD_cons (e : Ei) (r : List Ei) : eiD (e :: r) = e.d ++ eiD r := by simp [eiD]
theorem iU {H : Hp} {es : List Ei} {v : Value} (h : rd H (.s 4 (eiD es)) v) : ∃ A c, v = .slice A es.length c ∧ es.length ≤ c ∧ c ≤ 9223372036854775807 := by
  obtain ⟨A, n, c, rfl, h1, h2, h3⟩ := h.s_len
  rw [m0] at h1
  have : n = es.length := by omega
  subst this
  exact ⟨A, c, rfl, h2, h3⟩
theorem eis_at {H : Hp} {es : List Ei} {A : Option Addr} {n c : Nat} (h : rd H (.s 4 (eiD es)) (.slice A n c)) {i : Nat} {e : Ei} (hi : es[i]? = some e) :
    ∃ b o vp c0 c1, A = some ⟨b, o, none⟩ ∧ hAt H b (o + i * 4) [.int .i64 e.op, vp, c0, c1] ∧ rd H (.s 1 (ints e.path)) vp ∧ RdL H e.tree.d [c0, c1] := by
  have hlt : i < es.length := (List.getElem?_eq_some_iff.1 hi).1
  have hn : n = es.length := by
    obtain ⟨A', c', e, _⟩ := iU h
    injection e
  subst hn
  obtain ⟨_, b, o, rfl, hr⟩ := h.s_at (by omega)
  obtain ⟨l1, l2, rfl, rfl⟩ := bp hi
  have hr' : rds H b (o + l1.length * 4) (e.d ++ eiD l2) := by
    refine rds.mk fun j x hx => ?_
    have := hr.get (l1.length * 4 + j) x (by
      rw [oM, List.getElem?_append_right (by rw [m0]; omega), m0, eiD_cons]
      rw [← hx]; congr 1; omega)
    obtain ⟨u, h1, h2⟩ := this
    exact ⟨u, by rw [← h1]; congr 1; omega, h2⟩
  obtain ⟨op, path, ⟨l, ks⟩⟩ := e
  simp only [Ei.d, Tr.d, List.cons_append, List.nil_append, rds] at hr'
  obtain ⟨⟨u0, h1, r1⟩, ⟨u1, h2, r2⟩, ⟨u2, h3, r3⟩, ⟨u3, h4, r4⟩, _⟩ := hr'
  simp only [K.rd] at r1
  subst r1
  refine ⟨b, o, u1, u2, u3, rfl, ⟨h1, h2, h3, h4, trivial⟩, r2, ?_⟩
  simp only [Tr.d]
  exact ⟨r3, r4, trivial⟩
def pollS : Sm := .mk 12 eS ty4z 0 [] [] [] []
def mainF : Fu := ⟨⟨#[109, 97, 105, 110]⟩, [], .mk 7 eS 0 [], [pollS], false, 0, 0⟩
def pMain : Pg := ⟨[], [], [mainF]⟩
theorem pMain_ok : pMain.ok 100 := by
  refine ⟨by decide, by decide, by decide, fun x h => (by cases h), fun x h => (by cases h), fun x h => ?_⟩
  rw [List.mem_singleton.1 h]
  exact ⟨by decide, by decide, fun x h => (by cases h), ⟨⟨by omega, by omega⟩, by decide, ⟨by omega, by omega⟩, trivial⟩, by decide, ⟨⟨⟨by omega, by omega⟩, by decide, ay, ⟨by omega, by omega⟩, trivial, trivial, trivial, trivial⟩, trivial⟩, by decide, (show I64 0 from ⟨by omega, by omega⟩), (show (0 : Int) ≤ 0 ∧ (0 : Int) ≤ 65535 by omega)⟩
def mainT : Tr := .node ⟨#[112, 114, 111, 103, 114, 97, 109]⟩ [.node ⟨#[116, 121, 112, 101, 115]⟩ [], .node ⟨#[103, 108, 111, 98, 97, 108, 115]⟩ [], .node ⟨#[102, 117, 110, 99, 115]⟩ [.node ⟨#[102, 110, 32, 109, 97, 105, 110]⟩ [.node ⟨#[112, 97, 114, 97, 109, 115]⟩ [], .node ⟨#[114, 101, 115, 117, 108, 116]⟩ [.node ⟨#[118, 111, 105, 100]⟩ []], .node ⟨#[98, 111, 100, 121]⟩ [.node ⟨#[112, 111, 108, 108]⟩ []]]]]
theorem oN : dj pMain = mainT := by decide +kernel
def lA : ByteArray := ⟨#[97]⟩
def lB : ByteArray := ⟨#[98]⟩
def lX : ByteArray := ⟨#[120]⟩
def lY : ByteArray := ⟨#[121]⟩
def sA : Tr := .node lA []
def sB : Tr := .node lB []
def sYa : Tr := .node lY [sA]
theorem dw {p q : Prop} (k : q) (h : W9 q → p := by (intro yq; refine TL.litF (r := [_, _]) [(0, [_, _])] ⟨rfl, ⟨_, rfl, rfl⟩, trivial⟩ rfl rfl rfl rfl ?_; exact yq.1)) : p := h ⟨k⟩
theorem oa {p q : Prop} (k : q) (h : W9 q → p := by (intro yq; refine TL.litF (r := [_, _, _, _, _, _]) [(0, [_, _]), (1, [_, _]), (2, [_, _])] ⟨rfl, ⟨_, rfl, rfl⟩, rfl, ⟨_, rfl, rfl⟩, rfl, ⟨_, rfl, rfl⟩, trivial⟩ rfl rfl rfl rfl ?_; exact yq.1)) : p := h ⟨k⟩
theorem oc {p q : Prop} (k : q) (h : W9 q → p := by (intro yq; refine Qj 0 0 (c' := #[_, _]) (own' := [(_, .cells #[_, _] _ _)] :: _) rfl rfl rfl rfl rfl ⟨rfl, rfl, trivial⟩ (by simp) rfl rfl rfl ?_; exact yq.1)) : p := h ⟨k⟩
theorem od {p q : Prop} (k : q) (h : W9 q → p := by (intro yq; refine TL.litF (r := [_, _, _, _]) [(0, [_, _]), (1, [_, _])] ⟨rfl, ⟨_, rfl, rfl⟩, rfl, ⟨_, rfl, rfl⟩, trivial⟩ rfl rfl rfl rfl ?_; exact yq.1)) : p := h ⟨k⟩
theorem dU {p q : Prop} (k : q) (h : W9 q → p := by (intro yq; refine TL.toOwn (own' := _ :: _) rfl ?_; exact yq.1)) : p := h ⟨k⟩
theorem eW {p q : Prop} (k : q) (h : W9 q → p := by (intro yq; refine Qe (fk (l := lX) rfl) ⟨rfl, rfl, trivial⟩ rfl ?_; exact yq.1)) : p := h ⟨k⟩
theorem og {p q : Prop} (k : q) (h : W9 q → p := by (intro yq; refine TL.litF (r := [_, _, _, _]) [(0, [_, _, _, _])] ⟨rfl, ⟨_, rfl, rfl⟩, trivial⟩ rfl rfl rfl rfl ?_; exact yq.1)) : p := h ⟨k⟩
theorem dx {p q : Prop} (k : q) (h : W9 q → p := by (intro yq; refine Qg (0) rfl rfl rfl (by simp) rfl ?_; exact yq.1)) : p := h ⟨k⟩
theorem fk {l : ByteArray} {v : Value} (hv : v.oneCell' = true) {w0 : World} {H : Hp} {own : List Seg} : Fn Tryz.prog 22 [.string l, v] w0 H own (fun r own' H' => r = .agg #[.string l, v] ∧ own' = own ∧ Le H H') := by
  refine Fn.enter Tryz.func22 rfl Tryz.ntmps22 rfl ?_; have hL := Le.refl H; refine Y3 ?_; intro g4; refine Y6 ?_; refine Ql [(0, [_]), (1, [_])] ⟨rfl, ⟨_, rfl, rfl⟩, rfl, ⟨_, rfl, bq hv⟩, trivial⟩ rfl rfl ?_; refine Qj 0 0 (c' := #[_, _]) (own' := [(_, .cells #[_, _] _ _)] :: _) rfl rfl rfl rfl rfl ⟨rfl, hv, trivial⟩ (by simp [ba]) rfl rfl rfl ?_; refine Y3 ?_; refine TQ.retC 0 0 1 [_, _] rfl rfl rfl rfl ⟨rfl, rfl, trivial⟩ rfl rfl ?_
  exact ⟨rfl, rfl, hL⟩
theorem gH (t : Tr) : t.eqb t = true := by rw [Tr.eqb_iff]
theorem lab_of {H : Hp} {l : ByteArray} {ks : List Tr} {c0 c1 : Value} (h : RdL H (Tr.node l ks).d [c0, c1]) : c0 = .string l := (dM h).1
theorem oO {w0 : World} {H : Hp} {own : List Seg} (hT : TabH H) : Fn Tryz.prog 8 [] w0 H own (fun r o H' => r = .bool true ∧ o = own ∧ Le H H') := by
  have hsz : mainT.size = 10 := by decide +kernel
  refine Fn.enter Tryz.func8 rfl Tryz.ntmps8 rfl ?_; have hL := Le.refl H; refine Y7 ?_; refine Ql [(0, [_])] ⟨rfl, ⟨_, rfl, rfl⟩, trivial⟩ rfl rfl ?_; refine Ql [(0, [_])] ⟨rfl, ⟨_, rfl, rfl⟩, trivial⟩ rfl rfl ?_
  refine TL.litF (r := [_, _, _, _, _, _, _, _, _, _, _]) [(0, [_, _, _, _, _, _, _, _, _, _, _])] ⟨rfl, ⟨_, rfl, rfl⟩, trivial⟩ rfl rfl rfl rfl ?_; intro g13
  refine TL.freeze (fun H1 hle hz_g13 => ?_)
  have hL := Le.trans hL hle; have hT := TabH.mono hle hT
  have hpd : rd H1 (.s 11 (Sm.ds [pollS])) _ := rd.ofRow (Row.lit 66 11 1 _ _ rfl (by omega)) hz_g13 (sms_cons (sm_mk2 (xs := []) (b := []) (el := []) (cs := []) (ty0_d _) (rd.nil _ _) (rd.nil _ _) (rd.nil _ _) (rd.nil _ _)) (sms_nil _)) (Le.refl _)
  refine Ql [(0, [_]), (2, [_, _, _, _]), (3, [_])] ⟨rfl, ⟨_, rfl, rfl⟩, rfl, ⟨_, rfl, rfl⟩, rfl, ⟨_, rfl, rfl⟩, trivial⟩ rfl rfl ?_
  refine TL.litF (r := [_, _, _, _, _, _, _, _, _, _]) [(0, [_, _, _, _, _, _, _, _, _, _])] ⟨rfl, ⟨_, rfl, rfl⟩, trivial⟩ rfl rfl rfl rfl ?_; intro g15
  refine TL.freeze (fun H2 hle hz_g15 => ?_)
  have hL := Le.trans hL hle; have hT := TabH.mono hle hT; have hpd := rd.mono hle hpd
  have hmd : rd H2 (.s 10 (ak Fu.d [mainF])) _ := rd.ofRow (Row.lit 71 10 1 _ _ rfl (by omega)) hz_g15 (iP (fu_mk (ps := []) (rd.nil _ _) (tyk_d _ 7) hpd) (ds_nil _)) (Le.refl _)
  refine Ql [(2, [_])] ⟨rfl, ⟨_, rfl, rfl⟩, trivial⟩ rfl rfl ?_
  refine Y1 ?_; intro g1; refine Qj 0 0 (c' := #[_, _, _]) (own' := [(_, .cells #[_, _, _] _ _)] :: _) rfl rfl rfl rfl rfl ⟨rfl, rfl, rfl, trivial⟩ (by simp) rfl rfl rfl ?_; refine Y4 ?_; refine Qe (bN (t := (.node ⟨#[116, 121, 112, 101, 115]⟩ [])) (rd.nil _ _)) ⟨rfl, rfl, trivial⟩ rfl ?_
  rintro _ own H17 ⟨a17, b17, rfl, hr17, rfl, hle17⟩
  have hL := Le.trans hL hle17; have hT := TabH.mono hle17 hT; have hmd := rd.mono hle17 hmd; refine Qe (bN (t := (.node ⟨#[103, 108, 111, 98, 97, 108, 115]⟩ [])) (rd.nil _ _)) ⟨rfl, rfl, trivial⟩ rfl ?_
  rintro _ own H18 ⟨a18, b18, rfl, hr18, rfl, hle18⟩
  have hL := Le.trans hL hle18; have hT := TabH.mono hle18 hT; have hmd := rd.mono hle18 hmd; have hr17 := RdL.mono hle18 hr17; refine Qe (bN (t := (.node ⟨#[112, 97, 114, 97, 109, 115]⟩ [])) (rd.nil _ _)) ⟨rfl, rfl, trivial⟩ rfl ?_
  rintro _ own H19 ⟨a19, b19, rfl, hr19, rfl, hle19⟩
  have hL := Le.trans hL hle19; have hT := TabH.mono hle19 hT; have hmd := rd.mono hle19 hmd; have hr17 := RdL.mono hle19 hr17; have hr18 := RdL.mono hle19 hr18; refine Qe (bN (t := (.node ⟨#[118, 111, 105, 100]⟩ [])) (rd.nil _ _)) ⟨rfl, rfl, trivial⟩ rfl ?_
  rintro _ own H20 ⟨a20, b20, rfl, hr20, rfl, hle20⟩
  have hL := Le.trans hL hle20; have hT := TabH.mono hle20 hT; have hmd := rd.mono hle20 hmd; have hr17 := RdL.mono hle20 hr17; have hr18 := RdL.mono hle20 hr18; have hr19 := RdL.mono hle20 hr19
  refine dw ?_; intro g21
  refine TL.freeze (fun H3 hle hz_g21 => ?_)
  have hL := Le.trans hL hle; have hT := TabH.mono hle hT; have hmd := rd.mono hle hmd; have hr17 := RdL.mono hle hr17; have hr18 := RdL.mono hle hr18; have hr19 := RdL.mono hle hr19; have hr20 := RdL.mono hle hr20
  have hk21 : rd H3 (.s 2 (Tr.ds [(.node ⟨#[118, 111, 105, 100]⟩ [])])) _ := rd.ofRow (Row.lit 35 2 1 _ _ rfl (by omega)) hz_g21 (cp hr20 (trivial)) (Le.refl _)
  refine Qe (bN (t := (.node ⟨#[114, 101, 115, 117, 108, 116]⟩ [(.node ⟨#[118, 111, 105, 100]⟩ [])])) hk21) ⟨rfl, rfl, trivial⟩ rfl ?_
  rintro _ own H22 ⟨a22, b22, rfl, hr22, rfl, hle22⟩
  have hL := Le.trans hL hle22; have hT := TabH.mono hle22 hT; have hmd := rd.mono hle22 hmd; have hr17 := RdL.mono hle22 hr17; have hr18 := RdL.mono hle22 hr18; have hr19 := RdL.mono hle22 hr19; refine Qe (bN (t := (.node ⟨#[112, 111, 108, 108]⟩ [])) (rd.nil _ _)) ⟨rfl, rfl, trivial⟩ rfl ?_
  rintro _ own H23 ⟨a23, b23, rfl, hr23, rfl, hle23⟩
  have hL := Le.trans hL hle23; have hT := TabH.mono hle23 hT; have hmd := rd.mono hle23 hmd; have hr17 := RdL.mono hle23 hr17; have hr18 := RdL.mono hle23 hr18; have hr19 := RdL.mono hle23 hr19; have hr22 := RdL.mono hle23 hr22
  refine dw ?_; intro g24
  refine TL.freeze (fun H4 hle hz_g24 => ?_)
  have hL := Le.trans hL hle; have hT := TabH.mono hle hT; have hmd := rd.mono hle hmd; have hr17 := RdL.mono hle hr17; have hr18 := RdL.mono hle hr18; have hr19 := RdL.mono hle hr19; have hr22 := RdL.mono hle hr22; have hr23 := RdL.mono hle hr23
  have hk24 : rd H4 (.s 2 (Tr.ds [(.node ⟨#[112, 111, 108, 108]⟩ [])])) _ := rd.ofRow (Row.lit 35 2 1 _ _ rfl (by omega)) hz_g24 (cp hr23 (trivial)) (Le.refl _)
  refine Qe (bN (t := (.node ⟨#[98, 111, 100, 121]⟩ [(.node ⟨#[112, 111, 108, 108]⟩ [])])) hk24) ⟨rfl, rfl, trivial⟩ rfl ?_
  rintro _ own H25 ⟨a25, b25, rfl, hr25, rfl, hle25⟩
  have hL := Le.trans hL hle25; have hT := TabH.mono hle25 hT; have hmd := rd.mono hle25 hmd; have hr17 := RdL.mono hle25 hr17; have hr18 := RdL.mono hle25 hr18; have hr19 := RdL.mono hle25 hr19; have hr22 := RdL.mono hle25 hr22
  refine oa ?_; intro g26
  refine TL.freeze (fun H5 hle hz_g26 => ?_)
  have hL := Le.trans hL hle; have hT := TabH.mono hle hT; have hmd := rd.mono hle hmd; have hr17 := RdL.mono hle hr17; have hr18 := RdL.mono hle hr18; have hr19 := RdL.mono hle hr19; have hr22 := RdL.mono hle hr22; have hr25 := RdL.mono hle hr25
  have hk26 : rd H5 (.s 2 (Tr.ds [(.node ⟨#[112, 97, 114, 97, 109, 115]⟩ []), (.node ⟨#[114, 101, 115, 117, 108, 116]⟩ [(.node ⟨#[118, 111, 105, 100]⟩ [])]), (.node ⟨#[98, 111, 100, 121]⟩ [(.node ⟨#[112, 111, 108, 108]⟩ [])])])) _ := rd.ofRow (Row.lit 35 2 3 _ _ rfl (by omega)) hz_g26 (cp hr19 (cp hr22 (cp hr25 (trivial)))) (Le.refl _)
  refine Qe (bN (t := (.node ⟨#[102, 110, 32, 109, 97, 105, 110]⟩ [(.node ⟨#[112, 97, 114, 97, 109, 115]⟩ []), (.node ⟨#[114, 101, 115, 117, 108, 116]⟩ [(.node ⟨#[118, 111, 105, 100]⟩ [])]), (.node ⟨#[98, 111, 100, 121]⟩ [(.node ⟨#[112, 111, 108, 108]⟩ [])])])) hk26) ⟨rfl, rfl, trivial⟩ rfl ?_
  rintro _ own H27 ⟨a27, b27, rfl, hr27, rfl, hle27⟩
  have hL := Le.trans hL hle27; have hT := TabH.mono hle27 hT; have hmd := rd.mono hle27 hmd; have hr17 := RdL.mono hle27 hr17; have hr18 := RdL.mono hle27 hr18
  refine dw ?_; intro g28
  refine TL.freeze (fun H6 hle hz_g28 => ?_)
  have hL := Le.trans hL hle; have hT := TabH.mono hle hT; have hmd := rd.mono hle hmd; have hr17 := RdL.mono hle hr17; have hr18 := RdL.mono hle hr18; have hr27 := RdL.mono hle hr27
  have hk28 : rd H6 (.s 2 (Tr.ds [(.node ⟨#[102, 110, 32, 109, 97, 105, 110]⟩ [(.node ⟨#[112, 97, 114, 97, 109, 115]⟩ []), (.node ⟨#[114, 101, 115, 117, 108, 116]⟩ [(.node ⟨#[118, 111, 105, 100]⟩ [])]), (.node ⟨#[98, 111, 100, 121]⟩ [(.node ⟨#[112, 111, 108, 108]⟩ [])])])])) _ := rd.ofRow (Row.lit 35 2 1 _ _ rfl (by omega)) hz_g28 (cp hr27 (trivial)) (Le.refl _)
  refine Qe (bN (t := (.node ⟨#[102, 117, 110, 99, 115]⟩ [(.node ⟨#[102, 110, 32, 109, 97, 105, 110]⟩ [(.node ⟨#[112, 97, 114, 97, 109, 115]⟩ []), (.node ⟨#[114, 101, 115, 117, 108, 116]⟩ [(.node ⟨#[118, 111, 105, 100]⟩ [])]), (.node ⟨#[98, 111, 100, 121]⟩ [(.node ⟨#[112, 111, 108, 108]⟩ [])])])])) hk28) ⟨rfl, rfl, trivial⟩ rfl ?_
  rintro _ own H29 ⟨a29, b29, rfl, hr29, rfl, hle29⟩
  have hL := Le.trans hL hle29; have hT := TabH.mono hle29 hT; have hmd := rd.mono hle29 hmd; have hr17 := RdL.mono hle29 hr17; have hr18 := RdL.mono hle29 hr18
  refine oa ?_; intro g30
  refine TL.freeze (fun H7 hle hz_g30 => ?_)
  have hL := Le.trans hL hle; have hT := TabH.mono hle hT; have hmd := rd.mono hle hmd; have hr17 := RdL.mono hle hr17; have hr18 := RdL.mono hle hr18; have hr29 := RdL.mono hle hr29
  have hk30 : rd H7 (.s 2 (Tr.ds [(.node ⟨#[116, 121, 112, 101, 115]⟩ []), (.node ⟨#[103, 108, 111, 98, 97, 108, 115]⟩ []), (.node ⟨#[102, 117, 110, 99, 115]⟩ [(.node ⟨#[102, 110, 32, 109, 97, 105, 110]⟩ [(.node ⟨#[112, 97, 114, 97, 109, 115]⟩ []), (.node ⟨#[114, 101, 115, 117, 108, 116]⟩ [(.node ⟨#[118, 111, 105, 100]⟩ [])]), (.node ⟨#[98, 111, 100, 121]⟩ [(.node ⟨#[112, 111, 108, 108]⟩ [])])])])])) _ := rd.ofRow (Row.lit 35 2 3 _ _ rfl (by omega)) hz_g30 (cp hr17 (cp hr18 (cp hr29 (trivial)))) (Le.refl _)
  refine Qe (bN (t := mainT) hk30) ⟨rfl, rfl, trivial⟩ rfl ?_
  rintro _ own H31 ⟨a31, b31, rfl, hr31, rfl, hle31⟩
  have hL := Le.trans hL hle31; have hT := TabH.mono hle31 hT; have hmd := rd.mono hle31 hmd
  refine Y1 ?_; intro g2; refine Qj 0 0 (c' := #[_, _]) (own' := [(_, .cells #[_, _] _ _)] :: _) rfl rfl rfl rfl rfl (tr_ones hr31) (by simp) rfl rfl rfl ?_; refine Y4 ?_; refine Qe (fk (l := lA) rfl) ⟨rfl, rfl, trivial⟩ rfl ?_
  rintro _ own H32 ⟨rfl, rfl, hle32⟩
  have hL := Le.trans hL hle32; have hT := TabH.mono hle32 hT; have hmd := rd.mono hle32 hmd; have hr31 := RdL.mono hle32 hr31; refine Qe (fk (l := lB) rfl) ⟨rfl, rfl, trivial⟩ rfl ?_
  rintro _ own H33 ⟨rfl, rfl, hle33⟩
  have hL := Le.trans hL hle33; have hT := TabH.mono hle33 hT; have hmd := rd.mono hle33 hmd; have hr31 := RdL.mono hle33 hr31
  refine Y1 ?_; intro g3
  refine Y1 ?_; intro g4; refine Qj 1 0 (c' := #[_, _]) (own' := _ :: [(_, .cells #[_, _] _ _)] :: _) rfl rfl rfl rfl rfl ⟨rfl, rfl, trivial⟩ (by simp) rfl rfl rfl ?_; refine oc ?_; refine Y3 ?_; refine TC.drawQV 6  [(0, _), (1, _), (2, _), (3, _), (4, _)] ai ⟨rfl, rfl, rfl, rfl, rfl, trivial⟩ ?_
  refine YQ (some 34) [] ?_; refine YQ (some 35) [] ?_
  refine Qk true [] (some 36) [(0, 1), (1, 0)] ([]) (fun _ => fun u sg H => ∃ g, u = .slice (some ⟨g, 0, none⟩) 2 2 ∧ sg = [[(g, .cells #[.string lA, .slice none 0 0, .string lB, .slice none 0 0] tyT (0, 0))]]) (by
  intro H' X F hle; have hL := Le.trans hL hle; intro hF
  refine od ?_; intro g36; refine Y1 ?_
  exact Qc [_] hF (Le.refl _) ⟨_, rfl, rfl⟩) ?_
  refine Qk false [2] (some 37) [(2, 0)] ([]) (fun _ => fun u sg H => ∃ g, u = .agg #[.string lX, .slice (some ⟨g, 0, none⟩) 2 2] ∧ sg = [[(g, .cells #[.string lA, .slice none 0 0, .string lB, .slice none 0 0] tyT (0, 0))]]) (by
  intro H' X F hle; have hL := Le.trans hL hle; intro _
  rintro _ _ Hr36 hler36 ⟨g36, rfl, rfl⟩
  intro hF; refine dU ?_; refine eW ?_
  rintro _ own H37 ⟨rfl, rfl, hle37⟩
  have hL := Le.trans hL hle37; refine Y1 ?_
  exact Qc [_] hF hle37 ⟨_, rfl, rfl⟩) ?_
  refine YQ (some 38) [] ?_
  refine Qh (some 39) [(4, 0)] ([]) (fun _ => fun u sg H => ∃ g, u = .slice (some ⟨g, 0, none⟩) 1 1 ∧ sg = [[(g, .cells #[.string lB, .slice none 0 0] tyT (0, 0))]]) (by
  intro H' X F hle; have hL := Le.trans hL hle; intro hF
  refine dw ?_; intro g39; refine Y1 ?_
  exact Qc [_] hF (Le.refl _) ⟨_, rfl, rfl⟩) ?_
  refine ⟨by kernel_rfl, .refl _, ?_⟩; {
  intro H8 hle
  rintro _ _ Hr36 hler36 ⟨g36, rfl, rfl⟩
  rintro _ _ Hr37 hler37 ⟨g37, rfl, rfl⟩
  rintro _ _ Hr39 hler39 ⟨g39, rfl, rfl⟩
  have hL := Le.trans hL hle; have hT := TabH.mono hle hT; have hmd := rd.mono hle hmd; have hr31 := RdL.mono hle hr31; refine TL.toOwn (own' := _ :: _ :: _ :: _ :: _ :: _ :: own) rfl ?_; refine TL.wk (env' := [(0, _), (1, _), (2, _), (3, _), (4, _), (37, _), (39, _)]) ⟨rfl, rfl, rfl, rfl, rfl, rfl, rfl, trivial⟩ ?_; refine eW ?_
  rintro _ own H40 ⟨rfl, rfl, hle40⟩
  have hL := Le.trans hL hle40; have hT := TabH.mono hle40 hT; have hmd := rd.mono hle40 hmd; have hr31 := RdL.mono hle40 hr31
  refine TL.sv 6 [1,0,2,3,4,5] ?_
  refine Qe (san_d1) ⟨rfl, rfl, trivial⟩ rfl ?_
  rintro v41 own H41 ⟨hr41, rfl, hle41⟩
  have hL := Le.trans hL hle41; have hT := TabH.mono hle41 hT; have hmd := rd.mono hle41 hmd; have hr31 := RdL.mono hle41 hr31; refine Y4 ?_; refine TC.drawQV 5  [(0, _), (1, _), (2, _), (3, _), (4, _), (5, _)] ai ⟨rfl, rfl, rfl, rfl, rfl, rfl, trivial⟩ ?_
  refine YQ (some 42) [] ?_
  refine Qk true [] (some 43) [(0, 0)] ([]) (fun _ => fun u sg H => ∃ g, u = .slice (some ⟨g, 0, none⟩) 1 1 ∧ sg = [[(g, .cells #[.string lA, .slice none 0 0] tyT (0, 0))]]) (by
  intro H' X F hle; have hL := Le.trans hL hle; intro hF
  refine dw ?_; intro g43; refine Y1 ?_
  exact Qc [_] hF (Le.refl _) ⟨_, rfl, rfl⟩) ?_
  refine Qk false [1] (some 44) [(1, 0)] ([]) (fun _ => fun u sg H => ∃ g, u = .agg #[.string lX, .slice (some ⟨g, 0, none⟩) 1 1] ∧ sg = [[(g, .cells #[.string lA, .slice none 0 0] tyT (0, 0))]]) (by
  intro H' X F hle; have hL := Le.trans hL hle; intro _
  rintro _ _ Hr43 hler43 ⟨g43, rfl, rfl⟩
  intro hF; refine dU ?_; refine eW ?_
  rintro _ own H44 ⟨rfl, rfl, hle44⟩
  have hL := Le.trans hL hle44; refine Y1 ?_
  exact Qc [_] hF hle44 ⟨_, rfl, rfl⟩) ?_
  refine YQ (some 45) [] ?_
  refine Qh (some 46) [(3, 0)] ([]) (fun _ => fun u sg H => ∃ g, u = .slice (some ⟨g, 0, none⟩) 1 1 ∧ sg = [[(g, .cells #[.string lA, .slice none 0 0] tyT (0, 0))]]) (by
  intro H' X F hle; have hL := Le.trans hL hle; intro hF
  refine dw ?_; intro g46; refine Y1 ?_
  exact Qc [_] hF (Le.refl _) ⟨_, rfl, rfl⟩) ?_
  refine ⟨by kernel_rfl, .refl _, ?_⟩; {
  intro H9 hle
  rintro _ _ Hr43 hler43 ⟨g43, rfl, rfl⟩
  rintro _ _ Hr44 hler44 ⟨g44, rfl, rfl⟩
  rintro _ _ Hr46 hler46 ⟨g46, rfl, rfl⟩
  have hL := Le.trans hL hle; have hT := TabH.mono hle hT; have hmd := rd.mono hle hmd; have hr31 := RdL.mono hle hr31; have hr41 := rd.mono hle hr41; refine TL.toOwn (own' := _ :: _ :: _ :: _ :: _ :: _ :: own) rfl ?_; refine TL.wk (env' := [(0, _), (1, _), (2, _), (3, _), (4, _), (5, _), (44, _), (46, _)]) ⟨rfl, rfl, rfl, rfl, rfl, rfl, rfl, rfl, trivial⟩ ?_; refine Qe (fk (l := lY) rfl) ⟨rfl, rfl, trivial⟩ rfl ?_
  rintro _ own H47 ⟨rfl, rfl, hle47⟩
  have hL := Le.trans hL hle47; have hT := TabH.mono hle47 hT; have hmd := rd.mono hle47 hmd; have hr31 := RdL.mono hle47 hr31; have hr41 := rd.mono hle47 hr41
  refine TL.sv 6 [1,0,2,3,4,5] ?_
  refine Qe (san_d2) ⟨rfl, rfl, trivial⟩ rfl ?_
  rintro v48 own H48 ⟨hr48, rfl, hle48⟩
  have hL := Le.trans hL hle48; have hT := TabH.mono hle48 hT; have hmd := rd.mono hle48 hmd; have hr31 := RdL.mono hle48 hr31; have hr41 := rd.mono hle48 hr41; refine Y4 ?_; refine TC.drawQV 13  [(0, _), (1, _), (2, _), (3, _), (4, _), (5, _), (6, _)] ai ⟨rfl, rfl, rfl, rfl, rfl, rfl, rfl, trivial⟩ ?_
  refine YQ (some 50) [] ?_
  refine Qk true [] (some 51) [(0, 0)] ([]) (fun _ => fun u sg H => ∃ g, u = .slice (some ⟨g, 0, none⟩) 1 1 ∧ sg = [[(g, .cells #[.string lA, .slice none 0 0] tyT (0, 0))]]) (by
  intro H' X F hle; have hL := Le.trans hL hle; intro hF
  refine dw ?_; intro g51; refine Y1 ?_
  exact Qc [_] hF (Le.refl _) ⟨_, rfl, rfl⟩) ?_
  refine Qk true [1] (some 52) [(1, 0)] ([]) (fun _ => fun u sg H => ∃ g, u = .agg #[.string lX, .slice (some ⟨g, 0, none⟩) 1 1] ∧ sg = [[(g, .cells #[.string lA, .slice none 0 0] tyT (0, 0))]]) (by
  intro H' X F hle; have hL := Le.trans hL hle; intro _
  rintro _ _ Hr51 hler51 ⟨g51, rfl, rfl⟩
  intro hF; refine dU ?_; refine eW ?_
  rintro _ own H52 ⟨rfl, rfl, hle52⟩
  have hL := Le.trans hL hle52; refine Y1 ?_
  exact Qc [_] hF hle52 ⟨_, rfl, rfl⟩) ?_
  refine Qk true [] (some 53) [] ([]) (fun _ => fun u sg H => ∃ g, u = .slice (some ⟨g, 0, none⟩) 1 1 ∧ sg = [[(g, .cells #[.int .i64 2] 3 (0, 0))]]) (by
  intro H' X F hle; have hL := Le.trans hL hle; intro hF
  refine TL.litF (r := [_]) [(0, [_])] ⟨rfl, ⟨_, rfl, rfl⟩, trivial⟩ rfl rfl rfl rfl ?_; intro g53; refine Y1 ?_
  exact Qc [_] hF (Le.refl _) ⟨_, rfl, rfl⟩) ?_
  refine YQ (some 54) [] ?_
  refine Qk true [3] (some 55) [(3, 1), (4, 0)] ([]) (fun _ => fun u sg H => ∃ g, u = .agg #[.int .i64 1, .slice (some ⟨g, 0, none⟩) 1 1, .string lB, .slice none 0 0] ∧ sg = [[(g, .cells #[.int .i64 2] 3 (0, 0))]]) (by
  intro H' X F hle; have hL := Le.trans hL hle; intro _
  rintro _ _ Hr53 hler53 ⟨g53, rfl, rfl⟩
  intro hF; refine dU ?_; refine Ql [(0, [_]), (1, [_]), (2, [_, _])] ⟨rfl, ⟨_, rfl, rfl⟩, rfl, ⟨_, rfl, rfl⟩, rfl, ⟨_, rfl, rfl⟩, trivial⟩ rfl rfl ?_; refine Y1 ?_
  exact Qc [_] hF (Le.refl _) ⟨_, rfl, rfl⟩) ?_
  refine Qk true [5] (some 56) [(5, 0)] ([]) (fun _ => fun u sg H => ∃ g g', u = .slice (some ⟨g', 0, none⟩) 1 1 ∧ sg = [[(g', .cells #[.int .i64 1, .slice (some ⟨g, 0, none⟩) 1 1, .string lB, .slice none 0 0] 73 (0, 0))], [(g, .cells #[.int .i64 2] 3 (0, 0))]]) (by
  intro H' X F hle; have hL := Le.trans hL hle; intro _
  rintro _ _ Hr55 hler55 ⟨g55, rfl, rfl⟩
  intro hF; refine dU ?_
  refine og ?_; intro g56; refine Y1 ?_
  exact Qc [_, _] hF (Le.refl _) ⟨_, _, rfl, rfl⟩) ?_
  refine Qk false [2, 6] (some 57) [(2, 4), (6, 0)] ([]) (fun _ => fun u sg H => u = .tuple #[.agg #[.string ⟨#[]⟩, .slice none 0 0], .int .i64 101] ∧ sg = []) (by
  intro H' X F hle; have hL := Le.trans hL hle; intro _
  rintro _ _ Hr52 hler52 ⟨g52, rfl, rfl⟩
  intro _
  rintro _ _ Hr56 hler56 ⟨g55, g56, rfl, rfl⟩
  intro hF; refine TL.toOwn (own' := _ :: _ :: _ :: _) rfl ?_; refine Qe (san_ap) ⟨rfl, rfl, trivial⟩ rfl ?_
  rintro _ own H57 ⟨rfl, rfl, hle57⟩
  have hL := Le.trans hL hle57; refine Y1 ?_
  exact Qc [] hF hle57 ⟨rfl, rfl⟩) ?_
  refine Qa (some 49) [(7, 0)] (by
  intro H' X F hle; intro _
  rintro _ _ Hr57 hler57 ⟨rfl, rfl⟩
  intro hF; refine Y1 ?_
  exact Qi hF) ?_
  refine YQ (some 58) [(8, 0)] ?_; refine YQ (some 59) [(8, 1)] ?_
  refine Qk true [] (some 7) [] ([]) (fun _ => fun u sg H => ∃ g, u = .pointer (some ⟨g, 0, none⟩) ∧ sg = [[(g, .cells #[.string ⟨#[]⟩, .slice none 0 0] 35 (0, 0))]]) (by
  intro H' X F hle; have hL := Le.trans hL hle; intro hF
  refine Y1 ?_; intro g7; refine Y1 ?_
  exact Qc [_] hF (Le.refl _) ⟨_, rfl, rfl⟩) ?_
  refine Qk false [11] none [(11, 0), (9, 2)] ([]) (fun vs u sg H => ∃ g, nthV vs 0 = .pointer (some ⟨g, 0, none⟩) ∧ sg = [[(g, .cells #[.string ⟨#[]⟩, .slice none 0 0] 35 (0, 0))]]) (by
  intro H' X F hle; have hL := Le.trans hL hle; intro _
  rintro _ _ Hr hler ⟨g7, rfl, rfl⟩
  intro hF; refine dU ?_; refine oc ?_; refine Y1 ?_
  exact Qc [_] hF (Le.refl _) ⟨_, rfl, rfl⟩) ?_
  refine ⟨by kernel_rfl, .refl _, ?_⟩; {
  intro H10 hle
  rintro _ _ Hr51 hler51 ⟨g51, rfl, rfl⟩
  rintro _ _ Hr52 hler52 ⟨g52, rfl, rfl⟩
  rintro _ _ Hr53 hler53 ⟨g53, rfl, rfl⟩
  rintro _ _ Hr55 hler55 ⟨g55, rfl, rfl⟩
  rintro _ _ Hr56 hler56 ⟨g55, g56, rfl, rfl⟩
  rintro _ _ Hr57 hler57 ⟨rfl, rfl⟩
  rintro _ _ Hr hler ⟨g7, rfl, rfl⟩
  rintro _ _ Hr hler ⟨g7, e7, rfl⟩
  cases e7
  have hL := Le.trans hL hle; have hT := TabH.mono hle hT; have hmd := rd.mono hle hmd; have hr31 := RdL.mono hle hr31; have hr41 := rd.mono hle hr41; have hr48 := rd.mono hle hr48; refine TL.toOwn (own' := _ :: _ :: _ :: _ :: _ :: own) rfl ?_; refine TL.wk (env' := [(0, _), (1, _), (2, _), (3, _), (4, _), (5, _), (6, _), (59, _)]) ⟨rfl, rfl, rfl, rfl, rfl, rfl, rfl, rfl, trivial⟩ ?_; refine Y7 ?_
  refine od ?_; intro g63; refine eW ?_
  rintro _ own H64 ⟨rfl, rfl, hle64⟩
  have hL := Le.trans hL hle64; have hT := TabH.mono hle64 hT; have hmd := rd.mono hle64 hmd; have hr31 := RdL.mono hle64 hr31; have hr41 := rd.mono hle64 hr41; have hr48 := rd.mono hle64 hr48
  refine TL.litF (r := [_]) [(0, [_])] ⟨rfl, ⟨_, rfl, rfl⟩, trivial⟩ rfl rfl rfl rfl ?_; intro g65; refine Ql [(0, [_]), (1, [_])] ⟨rfl, ⟨_, rfl, rfl⟩, rfl, ⟨_, rfl, rfl⟩, trivial⟩ rfl rfl ?_
  refine og ?_; intro g67
  refine TL.sv 8 [2,1,0,3,4,5,6,7] ?_
  refine Qe (san_iv) ⟨rfl, rfl, trivial⟩ rfl ?_
  rintro _ own H68 ⟨⟨v68, rfl, hr68⟩, rfl, hle68⟩
  have hL := Le.trans hL hle68; have hT := TabH.mono hle68 hT; have hmd := rd.mono hle68 hmd; have hr31 := RdL.mono hle68 hr31; have hr41 := rd.mono hle68 hr41; have hr48 := rd.mono hle68 hr48; refine Y8 ?_
  obtain ⟨A5, c5, rfl, _, _⟩ := iU hr41
  obtain ⟨b5, o5, p5, x5, y5, rfl, ha1, hpp1, _⟩ := eis_at hr41 (i := 0) (e := ⟨2, [0], Tr.zero⟩) rfl
  obtain ⟨A6, c6, rfl, _, _⟩ := fI (l := [Value.int .i64 0]) hpp1
  obtain ⟨b6, o6, rfl, hp1⟩ := vals_at (l := [Value.int .i64 0]) hpp1 (i := 0) rfl
  obtain ⟨A7, c7, rfl, _, _⟩ := iU hr48
  obtain ⟨b7, o7, p7, x7, y7, rfl, ha2, _, _⟩ := eis_at hr48 (i := 0) (e := ⟨3, [], sYa⟩) rfl
  obtain ⟨A8, c8, rfl, _, _⟩ := iU hr68
  obtain ⟨b8, o8, p8, x8, y8, rfl, ha3, _, hx8⟩ := eis_at hr68 (i := 0) (e := ⟨1, [1], sB⟩) rfl
  obtain rfl := lab_of hx8
  refine TC.drawQV 3  [(0, _), (1, _), (2, _), (3, _), (4, _), (5, _), (6, _), (8, _), (9, _), (10, _)] ai ⟨rfl, rfl, rfl, rfl, rfl, rfl, rfl, rfl, rfl, rfl, trivial⟩ ?_
  refine Qa (some 71) [] (by
  intro H' X F hle; have hL := Le.trans hL hle; intro hF; refine Qb 4 0 [_, _, _] rfl rfl rfl ⟨rfl, rfl, rfl, trivial⟩ rfl rfl ?_
  exact Qi hF) ?_
  refine Qh (some 72) [(0, 0)] ([]) (fun _ => fun u sg H => ∃ d0 d1, u = .agg #[d0, d1] ∧ RdL H (dj pMain).d [d0, d1] ∧ sg = []) (by
  intro H' X F hle; have hL := Le.trans hL hle; have hT := TabH.mono hle hT; have hmd := rd.mono hle hmd; intro hF; refine Qe (cf (p := pMain) (B := 100) (by omega) pMain_ok hT ⟨rd.nil _ _, rd.nil _ _, hmd, trivial⟩) ⟨rfl, trivial⟩ rfl ?_
  rintro _ own H72 ⟨a72, b72, rfl, hr72, rfl, hle72⟩
  have hL := Le.trans hL hle72; refine Y1 ?_
  exact Qc [] hF hle72 ⟨a72, b72, rfl, hr72, rfl⟩) ?_
  refine Qa (some 73) [] (by
  intro H' X F hle; have hL := Le.trans hL hle; intro hF; refine Qb 3 0 [_, _] rfl rfl rfl ⟨rfl, rfl, trivial⟩ rfl rfl ?_
  exact Qi hF) ?_
  refine ⟨by kernel_rfl, .refl _, ?_⟩; {
  intro H11 hle
  rintro _ _ Hi72 hle72 ⟨a72, b72, rfl, hr72, rfl⟩
  replace hr72 := RdL.mono hle72 hr72
  have hL := Le.trans hL hle; have hr31 := RdL.mono hle hr31; have ha1 := hAt.mono hle ha1; have ha2 := hAt.mono hle ha2; have ha3 := hAt.mono hle ha3; have hp1 := db hle hp1; refine TL.toOwn (own' := _ :: _ :: _ :: _ :: _ :: own) rfl ?_; refine TL.wk (env' := [(0, _), (1, _), (2, _), (3, _), (4, _), (5, _), (6, _), (8, _), (9, _), (10, _), (72, _), (73, _)]) ⟨rfl, rfl, rfl, rfl, rfl, rfl, rfl, rfl, rfl, rfl, rfl, rfl, trivial⟩ ?_
  simp only [List.append]
  refine Qe (fK _ _ _ (Nat.le_refl _) hr72 hr31) ⟨rfl, rfl, trivial⟩ rfl ?_
  rintro _ own Hs74 ⟨rfl, rfl, hles74⟩
  rw [oN, gH]
  have hL := Le.trans hL hles74; have hr31 := RdL.mono hles74 hr31; have ha1 := hAt.mono hles74 ha1; have ha2 := hAt.mono hles74 ha2; have ha3 := hAt.mono hles74 ha3; have hp1 := db hles74 hp1; refine Y6 ?_
  refine (TL.eql rfl rfl rfl ?_)
  rw [decide_eq_true (by first | rfl | decide | omega)]
  refine Y5 ?_; refine dx ?_; refine Y3 ?_; refine TL.load_imm rfl (ha1.1) rfl ?_; refine Y1 ?_
  refine (TL.eql rfl rfl rfl ?_)
  rw [decide_eq_true (by first | rfl | decide | omega)]
  refine Y5 ?_; refine dx ?_; refine Y3 ?_; refine TL.load_imm rfl (ha1.2.1) rfl ?_; refine Y3 ?_
  refine (TL.eql rfl rfl rfl ?_)
  rw [decide_eq_true (by first | rfl | decide | omega)]
  refine Y5 ?_; refine dx ?_; refine Y3 ?_; refine TL.load_imm rfl (ha1.2.1) rfl ?_; refine Y1 ?_; refine dx ?_; refine Y1 ?_; refine TL.load_imm rfl (hp1) rfl ?_; refine Y1 ?_
  refine (TL.eql rfl rfl rfl ?_)
  rw [decide_eq_true (by first | rfl | decide | omega)]
  refine Y7 ?_
  refine (TL.eql rfl rfl rfl ?_)
  rw [decide_eq_true (by first | rfl | decide | omega)]
  refine Y5 ?_; refine dx ?_; refine Y3 ?_; refine TL.load_imm rfl (ha2.1) rfl ?_; refine Y1 ?_
  refine (TL.eql rfl rfl rfl ?_)
  rw [decide_eq_true (by first | rfl | decide | omega)]
  refine Y5 ?_
  refine (TL.eql rfl rfl rfl ?_)
  rw [decide_eq_true (by first | rfl | decide | omega)]
  refine Y7 ?_
  refine (TL.eql rfl rfl rfl ?_)
  rw [decide_eq_true (by first | rfl | decide | omega)]
  refine Y5 ?_
  refine (TL.eql rfl rfl rfl ?_)
  rw [decide_eq_true (by first | rfl | decide | omega)]
  refine Y5 ?_; refine dx ?_; refine Y3 ?_; refine TL.load_imm rfl (ha3.1) rfl ?_; refine Y1 ?_
  refine (TL.eql rfl rfl rfl ?_)
  rw [decide_eq_true (by first | rfl | decide | omega)]
  refine Y5 ?_; refine dx ?_; refine Y5 ?_; refine TL.load_imm rfl (ha3.2.2.1) rfl ?_; refine Y2 ?_
  rw [decide_eq_true (show lB = ⟨#[98]⟩ from rfl)]
  refine Y3 ?_; refine Qb 3 0 [_, _] rfl rfl rfl ⟨rfl, rfl, trivial⟩ rfl rfl ?_; refine Y1 ?_; refine Qe (oo _ mainT (Nat.le_refl _) (by omega) hr31) ⟨rfl, trivial⟩ rfl ?_
  rintro _ own H146 ⟨rfl, rfl, hle146⟩
  rw [hsz]
  have hL := Le.trans hL hle146; refine Y1 ?_
  refine (TL.eql rfl rfl rfl ?_)
  rw [decide_eq_true (by first | rfl | decide | omega)]
  refine Y5 ?_; refine TQ.ret1 5 rfl rfl ?_
  exact ⟨rfl, rfl, hL⟩}}}}
def RowD {α : Type} (e : TypeId) (sz : Nat) (f : α → List D) (H : Hp) (l : List α) (v : Value) (seg : Seg) : Prop := ∃ xs, Row e sz v l.length xs seg ∧ RdL H (ak f l) xs
section
variable {α : Type} {e : TypeId} {sz : Nat} {f : α → List D} {H H5 : Hp} {l : List α} {v : Value} {seg : Seg}
theorem RowD.mono (hl : Le H H5) (h : RowD e sz f H l v seg) : RowD e sz f H5 l v seg := by
  obtain ⟨xs, h1, h2⟩ := h
  exact ⟨xs, h1, h2.mono hl⟩
theorem RowD.one (h : RowD e sz f H l v seg) : v.oneCell' = true := by
  obtain ⟨xs, h1, _⟩ := h
  exact h1.one
theorem RowD.nil (H : Hp) : RowD e sz f H ([] : List α) (.slice none 0 0) [] := ⟨[], Row.nil _ _, trivial⟩
theorem RowD.rd (h : RowD e sz f H l v seg) (hl : Le H H5) (hz : ∀ p ∈ seg, H5 p.1 = some p.2) : rd H5 (.s sz (ak f l)) v := by
  obtain ⟨xs, h1, h2⟩ := h
  exact rd.ofRow h1 hz (h2.mono hl) (Le.refl _)
theorem RowD.copy {news : List Value} (h : Row e sz v (0 + l.length) ([] ++ news) seg) (hn : RdL H (ak f l) news) : RowD e sz f H l v seg := ⟨news, by rw [Nat.zero_add] at h; exact h, hn⟩
theorem RowD.snoc {xs cs : List Value} {x : α} (h : Row e sz v (l.length + 1) (xs ++ cs) seg) (hx : RdL H (ak f l) xs) (hc : RdL H (f x) cs) : RowD e sz f H (l ++ [x]) v seg := ⟨_, by rw [List.length_append]; exact h, gq hx hc⟩
end
def FuJ (H : Hp) (f : Fu) (cj : List Value) (sp sb : Seg) : Prop := ∃ vp t0 t1 t2 t3 vb, cj = [.string f.nm, vp, t0, t1, t2, t3, vb, .bool f.fl, .int .i64 f.x, .int .u16 f.y] ∧ RdL H f.res.d [t0, t1, t2, t3] ∧ RowD 83 5 Par.d H f.ps vp sp ∧ RowD 66 11 Sm.d H f.body vb sb
section
variable {H H5 : Hp} {f : Fu} {cj : List Value} {sp sb : Seg}
theorem FuJ.mono (hl : Le H H5) (h : FuJ H f cj sp sb) : FuJ H5 f cj sp sb := by
  obtain ⟨vp, t0, t1, t2, t3, vb, h1, h2, h3, h4⟩ := h
  exact ⟨vp, t0, t1, t2, t3, vb, h1, h2.mono hl, h3.mono hl, h4.mono hl⟩
theorem FuJ.rdl (h : FuJ H f cj sp sb) (hl : Le H H5) (hp : ∀ p ∈ sp, H5 p.1 = some p.2) (hb : ∀ p ∈ sb, H5 p.1 = some p.2) : RdL H5 f.d cj := by
  obtain ⟨vp, t0, t1, t2, t3, vb, rfl, h2, h3, h4⟩ := h
  exact fu_mk (h3.rd hl hp) (h2.mono hl) (by rw [Sm.ds_of]; exact h4.rd hl hb)
end
def FsJ (H : Hp) (fs : List Fu) (i j : Nat) (xs : List Value) (sp sb : Seg) : Prop :=
  (i ≤ j ∧ RdL H (ak Fu.d (fs.take i)) xs ∧ sp = [] ∧ sb = []) ∨
  (j < i ∧ ∃ f pre post cj, fs[j]? = some f ∧ xs = pre ++ (cj ++ post) ∧ RdL H (ak Fu.d (fs.take j)) pre ∧ RdL H (ak Fu.d ((fs.take i).drop (j + 1))) post ∧ FuJ H f cj sp sb)
section
variable {H H5 : Hp} {fs : List Fu} {i j : Nat} {xs : List Value} {sp sb : Seg} {f : Fu}
theorem FsJ.mono (hl : Le H H5) (h : FsJ H fs i j xs sp sb) : FsJ H5 fs i j xs sp sb := by
  rcases h with ⟨h1, h2, h3⟩ | ⟨h1, f, pre, post, cj, h2, h3, h4, h5, h6⟩
  · exact .inl ⟨h1, h2.mono hl, h3⟩
  · exact .inr ⟨h1, f, pre, post, cj, h2, h3, h4.mono hl, h5.mono hl, h6.mono hl⟩
theorem FsJ.nil (H : Hp) (fs : List Fu) (j : Nat) : FsJ H fs 0 j [] [] [] := .inl ⟨Nat.zero_le _, trivial, rfl, rfl⟩
theorem FsJ.step {cs : List Value} (hij : ¬ i = j) (h : FsJ H fs i j xs sp sb) (hf : fs[i]? = some f) (hc : RdL H f.d cs) : FsJ H fs (i + 1) j (xs ++ cs) sp sb := by
  have hlt := (List.getElem?_eq_some_iff.1 hf).1
  rcases h with ⟨h1, h2, h3⟩ | ⟨h1, f0, pre, post, cj, h2, rfl, h4, h5, h6⟩
  · exact .inl ⟨by omega, by rw [List.take_add_one, hf]; exact gq h2 hc, h3⟩
  · refine .inr ⟨by omega, f0, pre, post ++ cs, cj, h2, by simp only [List.append_assoc], h4, ?_, h6⟩
    rw [List.take_add_one, hf, List.drop_append_of_le_length (by rw [List.length_take]; omega)]
    exact gq h5 hc
theorem FsJ.hit {cj : List Value} {sp' sb' : Seg} (hij : i = j) (h : FsJ H fs i j xs sp sb) (hf : fs[i]? = some f) (hj : FuJ H f cj sp' sb') : FsJ H fs (i + 1) j (xs ++ cj) sp' sb' := by
  subst hij
  have hlt := (List.getElem?_eq_some_iff.1 hf).1
  rcases h with ⟨h1, h2, h3⟩ | ⟨h1, _⟩
  · exact .inr ⟨by omega, f, xs, [], cj, hf, by rw [List.append_nil], h2, by rw [List.drop_of_length_le (by rw [List.length_take]; omega)]; trivial, hj⟩
  · omega
end
def TsR (H : Hp) (C : Nat) (v : Value) (seg : Seg) : Prop := ∃ ts : List Td, RowD 85 3 Td.d H ts v seg ∧ ts.length ≤ C ∧ ∀ t ∈ ts, t.ok C
def GsR (H : Hp) (C : Nat) (v : Value) (seg : Seg) : Prop := ∃ gs : List Gb, RowD 80 8 Gb.d H gs v seg ∧ gs.length ≤ C ∧ ∀ t ∈ gs, t.ok C
def FsR (H : Hp) (C : Nat) (v : Value) (rf sp sb : Seg) : Prop := ∃ (fs : List Fu) (xs : List Value), Row 71 10 v fs.length xs rf ∧ (∀ H5, Le H H5 → (∀ p ∈ sp, H5 p.1 = some p.2) → (∀ p ∈ sb, H5 p.1 = some p.2) → RdL H5 (ak Fu.d fs) xs) ∧ fs.length ≤ C ∧ ∀ f ∈ fs, f.ok C
theorem TsR.mono {H H5 : Hp} (hl : Le H H5) {C : Nat} {v : Value} {seg : Seg} (h : TsR H C v seg) : TsR H5 C v seg := by
  obtain ⟨ts, h1, h2⟩ := h
  exact ⟨ts, h1.mono hl, h2⟩
theorem GsR.mono {H H5 : Hp} (hl : Le H H5) {C : Nat} {v : Value} {seg : Seg} (h : GsR H C v seg) : GsR H5 C v seg := by
  obtain ⟨ts, h1, h2⟩ := h
  exact ⟨ts, h1.mono hl, h2⟩
theorem FsR.mono {H H5 : Hp} (hl : Le H H5) {C : Nat} {v : Value} {rf sp sb : Seg} (h : FsR H C v rf sp sb) : FsR H5 C v rf sp sb := by
  obtain ⟨fs, xs, h1, h2, h3⟩ := h
  exact ⟨fs, xs, h1, fun H6 hle => h2 H6 (Le.trans hl hle), h3⟩
theorem TsR.one {H : Hp} {C : Nat} {v : Value} {seg : Seg} (h : TsR H C v seg) : v.oneCell' = true := by
  obtain ⟨ts, h1, _⟩ := h
  exact h1.one
theorem GsR.one {H : Hp} {C : Nat} {v : Value} {seg : Seg} (h : GsR H C v seg) : v.oneCell' = true := by
  obtain ⟨ts, h1, _⟩ := h
  exact h1.one
theorem j9 {H H5 : Hp} {C : Nat} {vt vg vf : Value} {rt rg rf sp sb : Seg} (hT : TsR H C vt rt) (hG : GsR H C vg rg) (hF : FsR H C vf rf sp sb) (hl : Le H H5) (hz : ∀ p ∈ rt ++ (rg ++ (rf ++ (sp ++ sb))), H5 p.1 = some p.2) :
    ∃ p : Pg, RdL H5 p.d [vt, vg, vf] ∧ p.ok C := by
  obtain ⟨ts, h1, h2, h3⟩ := hT
  obtain ⟨gs, k1, k2, k3⟩ := hG
  obtain ⟨fs, xs, m1, m2, m3, m4⟩ := hF
  have z1 : ∀ p ∈ rt, H5 p.1 = some p.2 := fun p hp => hz p (by simp [hp])
  have z2 : ∀ p ∈ rg, H5 p.1 = some p.2 := fun p hp => hz p (by simp [hp])
  have z3 : ∀ p ∈ rf, H5 p.1 = some p.2 := fun p hp => hz p (by simp [hp])
  have z4 : ∀ p ∈ sp, H5 p.1 = some p.2 := fun p hp => hz p (by simp [hp])
  have z5 : ∀ p ∈ sb, H5 p.1 = some p.2 := fun p hp => hz p (by simp [hp])
  exact ⟨⟨ts, gs, fs⟩, ⟨h1.rd hl z1, k1.rd hl z2, rd.ofRow m1 z3 (m2 H5 hl z4 z5) (Le.refl _), trivial⟩, ⟨h2, k2, m3, h3, k3, m4⟩⟩
theorem ds_part {α : Type} {f : α → List D} {n : Nat} (hd : ∀ a, (f a).length = n) {H : Hp} {l : List α} {xs : List Value} (h : RdL H (ak f l) xs) {j : Nat} {x : α} (hx : l[j]? = some x) :
    ∃ pre mid post, xs = pre ++ (mid ++ post) ∧ RdL H (ak f (l.take j)) pre ∧ RdL H (f x) mid ∧ RdL H (ak f (l.drop (j + 1))) post := by
  have e : l = l.take j ++ x :: l.drop (j + 1) := by
    have hlt := (List.getElem?_eq_some_iff.1 hx)
    rw [← hlt.2, List.getElem_cons_drop, List.take_append_drop]
  rw [e, dC, show ak f (x :: l.drop (j + 1)) = f x ++ ak f (l.drop (j + 1)) from by simp [ak]] at h
  obtain ⟨pre, r, rfl, h1, h2⟩ := RdL.split h
  obtain ⟨mid, post, rfl, h3, h4⟩ := RdL.split h2
  exact ⟨pre, mid, post, rfl, h1, h3, h4⟩
theorem ds_put {α : Type} {f : α → List D} {H : Hp} {l : List α} {j : Nat} (hj : j < l.length) {x : α} {pre mid post : List Value} (h1 : RdL H (ak f (l.take j)) pre) (h2 : RdL H (f x) mid) (h3 : RdL H (ak f (l.drop (j + 1))) post) : RdL H (ak f (l.set j x)) (pre ++ (mid ++ post)) := by
  rw [List.set_eq_take_append_cons_drop, if_pos hj, dC, show ak f (x :: l.drop (j + 1)) = f x ++ ak f (l.drop (j + 1)) from by simp [ak]]
  exact h1.append (h2.append h3)
theorem pre_len {α : Type} {f : α → List D} {n : Nat} (hd : ∀ a, (f a).length = n) {H : Hp} {l : List α} {pre : List Value} {j : Nat} (hj : j < l.length) (h : RdL H (ak f (l.take j)) pre) : pre.length = j * n := by
  rw [← h.len, bM hd, List.length_take, Nat.min_eq_left (by omega)]
def setL : List Value → Nat → List Value → List Value
  | l, _, [] => l
  | l, k, v :: r => setL (l.set k v) (k + 1) r
theorem oh : ∀ (vs pre mid post : List Value) (k : Nat), k + vs.length ≤ mid.length → setL (pre ++ (mid ++ post)) (pre.length + k) vs = pre ++ (setL mid k vs ++ post)
  | [], _, _, _, _, _ => rfl
  | v :: r, pre, mid, post, k, h => by
    simp only [List.length_cons] at h
    rw [setL, setL, List.set_append_right _ _ (by omega), show pre.length + k - pre.length = k by omega, List.set_append_left _ _ (by omega), Nat.add_assoc, oh r pre _ post (k + 1) (by simp; omega)]
theorem Row.puts {e : TypeId} {sz n g c : Nat} : ∀ (vs xs : List Value) (k : Nat) (cur : Array Value), Row e sz (.slice (some ⟨g, 0, none⟩) n c) n xs [(g, .cells cur e (0, 0))] → k + vs.length ≤ n * sz →
    Row e sz (.slice (some ⟨g, 0, none⟩) n c) n (setL xs k vs) [(g, .cells (ba cur k vs) e (0, 0))]
  | [], _, _, _, h, _ => h
  | v :: r, xs, k, cur, h, hk => by
    simp only [List.length_cons] at hk
    refine Row.puts r _ (k + 1) _ ?_ (by omega)
    obtain ⟨h1, h2 | ⟨g', cap, cur', h2, h3, h4, h5, h6, h7⟩⟩ := h
    · obtain ⟨h2, _⟩ := h2; cases h2
    · cases h2
      simp only [List.cons.injEq, Prod.mk.injEq, Obj.cells.injEq, and_true, true_and] at h3
      subst h3
      exact ⟨by simpa using h1, .inr ⟨g, c, _, rfl, rfl, h4, h5, by simpa using h6, by rw [Array.toList_setIfInBounds, List.take_set, h7]⟩⟩
theorem Row.midPut {e : TypeId} {sz n g c q k : Nat} {pre mid post vs : List Value} {cur : Array Value} (h : Row e sz (.slice (some ⟨g, 0, none⟩) n c) n (pre ++ (mid ++ post)) [(g, .cells cur e (0, 0))]) (hq : pre.length = q) (hk : k + vs.length ≤ mid.length) :
    Row e sz (.slice (some ⟨g, 0, none⟩) n c) n (pre ++ (setL mid k vs ++ post)) [(g, .cells (ba cur (q + k) vs) e (0, 0))] := by
  subst hq
  have hl := h.1
  simp only [List.length_append] at hl
  have := Row.puts vs _ (pre.length + k) _ h (by omega)
  rwa [oh _ _ _ _ _ hk] at this
theorem Row.midAt {e : TypeId} {sz n g c q k : Nat} {pre mid post : List Value} {cur : Array Value} {v : Value} (h : Row e sz (.slice (some ⟨g, 0, none⟩) n c) n (pre ++ (mid ++ post)) [(g, .cells cur e (0, 0))]) (hq : pre.length = q) (hv : mid[k]? = some v) : lget cur.toList (q + k) = some v := by
  subst hq
  obtain ⟨h1, h2 | ⟨g', cap, cur', h2, h3, h4, h5, h6, h7⟩⟩ := h
  · obtain ⟨h2, _⟩ := h2; cases h2
  · cases h2
    simp only [List.cons.injEq, Prod.mk.injEq, Obj.cells.injEq, and_true, true_and] at h3
    subst h3
    have hk := (List.getElem?_eq_some_iff.1 hv).1
    simp only [List.length_append] at h1
    have := congrArg (fun x : List Value => x[pre.length + k]?) h7
    simp only [List.getElem?_take] at this
    rw [if_pos (by omega), List.getElem?_append_right (by omega), show pre.length + k - pre.length = k by omega, List.getElem?_append_left (by omega), hv] at this
    rw [cR]; exact this
theorem Row.size_le {e : TypeId} {sz n g c : Nat} {xs : List Value} {cur : Array Value} (h : Row e sz (.slice (some ⟨g, 0, none⟩) n c) n xs [(g, .cells cur e (0, 0))]) : n * sz ≤ cur.size := by
  obtain ⟨h1, h2 | ⟨g', cap, cur', h2, h3, h4, h5, h6, h7⟩⟩ := h
  · obtain ⟨h2, _⟩ := h2; cases h2
  · cases h2
    simp only [List.cons.injEq, Prod.mk.injEq, Obj.cells.injEq, and_true, true_and] at h3
    subst h3
    rw [h6]; exact Nat.mul_le_mul_right _ h4
theorem ka {α : Type} {l : List α} {j : Nat} {x y : α} (h : y ∈ l.set j x) : y = x ∨ y ∈ l := by
  rcases List.mem_or_eq_of_mem_set h with h | h
  · exact .inr h
  · exact .inl h
theorem ke : ∀ l : List Par, ∀ d ∈ ak Par.d l, D.One d := fun l d h => by
  simp only [ak, List.mem_flatMap] at h
  obtain ⟨⟨nm, ⟨k, n, m, ts⟩⟩, _, h⟩ := h
  simp only [Par.d, Ty4.d, List.cons_append, List.nil_append, List.mem_cons, List.not_mem_nil, or_false] at h
  rcases h with rfl | rfl | rfl | rfl | rfl
  · exact (rfl : (Value.string nm).oneCell' = true)
  · exact (rfl : (Value.int .i64 k).oneCell' = true)
  · exact (rfl : (Value.string n).oneCell' = true)
  · exact (rfl : (Value.int .i64 m).oneCell' = true)
  · trivial
theorem gb_ds_one : ∀ l : List Gb, ∀ d ∈ ak Gb.d l, D.One d := fun l d h => by
  simp only [ak, List.mem_flatMap] at h
  obtain ⟨⟨nm, ⟨k, n, m, ts⟩, b, a, by_⟩, _, h⟩ := h
  simp only [Gb.d, Ty4.d, List.cons_append, List.nil_append, List.mem_cons, List.not_mem_nil, or_false] at h
  rcases h with rfl | rfl | rfl | rfl | rfl | rfl | rfl | rfl
  · exact (rfl : (Value.string nm).oneCell' = true)
  · exact (rfl : (Value.int .i64 k).oneCell' = true)
  · exact (rfl : (Value.string n).oneCell' = true)
  · exact (rfl : (Value.int .i64 m).oneCell' = true)
  · trivial
  · exact (rfl : (Value.int .i64 b).oneCell' = true)
  · exact (rfl : (Value.int .u16 a).oneCell' = true)
  · exact (rfl : (Value.string by_).oneCell' = true)
theorem Row.blk9 {e : TypeId} {sz : Nat} {A : Option Addr} {m c n : Nat} {xs : List Value} {seg : Seg} (h : Row e sz (.slice A m c) n xs seg) (hn : 0 < n) : ∃ g cur, A = some ⟨g, 0, none⟩ ∧ seg = [(g, .cells cur e (0, 0))] := by
  obtain ⟨_, h2 | ⟨g', cap, cur', h2, h3, _⟩⟩ := h
  · omega
  · cases h2; exact ⟨_, _, rfl, h3⟩
theorem gI (n : Int) : 0 ≤ IntKind.u16.wrap n ∧ IntKind.u16.wrap n ≤ 65535 := by
  unfold IntKind.wrap
  simp [IntKind.bits, IntKind.signed] <;> omega
theorem TQ.merge5 {w0 : World} {N : Nat} {Q : Exit → Act → World → Prop} {env : Env} {own : List Seg} {H : Hp} {e : Exit} {a b c d x : Seg} (h : TQ w0 N Q e env ((a ++ (b ++ (c ++ (d ++ x)))) :: own) H) : TQ w0 N Q e env (a :: b :: c :: d :: x :: own) H :=
  TQ.flat (by simp) h
theorem FsJ.at {H : Hp} {fs : List Fu} {j : Nat} {xs : List Value} {sp sb : Seg} (h : FsJ H fs fs.length j xs sp sb) (hj : j < fs.length) : ∃ f pre post cj, fs[j]? = some f ∧ xs = pre ++ (cj ++ post) ∧ RdL H (ak Fu.d (fs.take j)) pre ∧ RdL H (ak Fu.d (fs.drop (j + 1))) post ∧ FuJ H f cj sp sb := by
  rcases h with ⟨h1, _⟩ | ⟨h1, f, pre, post, cj, h2, h3, h4, h5, h6⟩
  · omega
  · rw [List.take_of_length_le (Nat.le_refl _)] at h5
    exact ⟨f, pre, post, cj, h2, h3, h4, h5, h6⟩
theorem FsR.mk {H : Hp} {C : Nat} {v : Value} {fs : List Fu} {j : Nat} {f : Fu} {pre cj post : List Value} {rf sp sb : Seg} (hj : j < fs.length) (hl : fs.length ≤ C) (ho : ∀ f ∈ fs, f.ok C) (h1 : RdL H (ak Fu.d (fs.take j)) pre) (h2 : RdL H (ak Fu.d (fs.drop (j + 1))) post) (hr : Row 71 10 v fs.length (pre ++ (cj ++ post)) rf) (hf : FuJ H f cj sp sb) (hok : f.ok C) : FsR H C v rf sp sb :=
  ⟨fs.set j f, _, by rw [List.length_set]; exact hr, fun H5 hle hp hb => ds_put hj (h1.mono hle) (hf.rdl hle hp hb) (h2.mono hle), by rw [List.length_set]; exact hl, fun x hx => by
    rcases ka hx with rfl | hx
    · exact hok
    · exact ho x hx⟩
theorem FsR.of {H : Hp} {C : Nat} {v : Value} {fs : List Fu} {j : Nat} {xs : List Value} {rf sp sb : Seg} (hl : fs.length ≤ C) (ho : ∀ f ∈ fs, f.ok C) (hr : Row 71 10 v fs.length xs rf) (h : FsJ H fs fs.length j xs sp sb) : FsR H C v rf sp sb := by
  by_cases hj : j < fs.length
  · obtain ⟨f, pre, post, cj, h1, rfl, h2, h3, h4⟩ := h.at hj
    exact FsR.mk hj hl ho h2 h3 hr h4 (ho f (List.mem_of_getElem? h1))
  · rcases h with ⟨h1, h2, h3⟩ | ⟨h1, _⟩
    · rw [List.take_of_length_le (Nat.le_refl _)] at h2
      exact ⟨fs, _, hr, fun H5 hle _ _ => h2.mono hle, hl, ho⟩
    · omega
theorem GsR.mk {H : Hp} {C : Nat} {v : Value} {gs : List Gb} {j : Nat} {g : Gb} {pre cj post : List Value} {rg : Seg} (hj : j < gs.length) (hl : gs.length ≤ C) (ho : ∀ g ∈ gs, g.ok C) (h1 : RdL H (ak Gb.d (gs.take j)) pre) (h2 : RdL H (ak Gb.d (gs.drop (j + 1))) post) (hr : Row 80 8 v gs.length (pre ++ (cj ++ post)) rg) (hf : RdL H g.d cj) (hok : g.ok C) : GsR H C v rg :=
  ⟨gs.set j g, ⟨_, by rw [List.length_set]; exact hr, ds_put hj h1 hf h2⟩, by rw [List.length_set]; exact hl, fun x hx => by
    rcases ka hx with rfl | hx
    · exact hok
    · exact ho x hx⟩
theorem GsR.of {H : Hp} {C : Nat} {v : Value} {gs : List Gb} {xs : List Value} {rg : Seg} (hl : gs.length ≤ C) (ho : ∀ g ∈ gs, g.ok C) (hr : Row 80 8 v gs.length xs rg) (h : RdL H (ak Gb.d gs) xs) : GsR H C v rg := ⟨gs, ⟨_, hr, h⟩, hl, ho⟩
theorem TsR.of {H : Hp} {C : Nat} {v : Value} {ts : List Td} {xs : List Value} {rt : Seg} (hl : ts.length ≤ C) (ho : ∀ g ∈ ts, g.ok C) (hr : Row 85 3 v ts.length xs rt) (h : RdL H (ak Td.d ts) xs) : TsR H C v rt := ⟨ts, ⟨_, hr, h⟩, hl, ho⟩
theorem FuJ.mk {H : Hp} {nm : ByteArray} {ps : List Par} {res : Ty4} {body : List Sm} {fl : Bool} {x y : Int} {vp t0 t1 t2 t3 vb : Value} {sp sb : Seg} (h1 : RdL H res.d [t0, t1, t2, t3]) (h2 : RowD 83 5 Par.d H ps vp sp) (h3 : RowD 66 11 Sm.d H body vb sb) :
    FuJ H ⟨nm, ps, res, body, fl, x, y⟩ [.string nm, vp, t0, t1, t2, t3, vb, .bool fl, .int .i64 x, .int .u16 y] sp sb := ⟨vp, t0, t1, t2, t3, vb, rfl, h1, h2, h3⟩
theorem kh {α : Type} {p : α → Prop} {l : List α} {x : α} (h : ∀ y ∈ l, p y) (hx : p x) : ∀ y ∈ l ++ [x], p y := fun y hy => by
  rcases List.mem_append.1 hy with hy | hy
  · exact h y hy
  · rw [List.mem_singleton.1 hy]; exact hx
theorem Sm.sizes_snoc (l : List Sm) (x : Sm) : Sm.sizes (l ++ [x]) = Sm.sizes l + x.size := by
  induction l with
  | nil => simp [Sm.sizes]
  | cons t r ih => simp only [List.cons_append, Sm.sizes, ih]; omega
theorem RowD.cons {α : Type} {e : TypeId} {sz : Nat} {f : α → List D} {H : Hp} {l : List α} {v : Value} {seg : Seg} {x : α} {cs xs : List Value} (h : Row e sz v (1 + l.length) (cs ++ xs) seg) (hc : RdL H (f x) cs) (hx : RdL H (ak f l) xs) : RowD e sz f H (x :: l) v seg := ⟨_, by rw [List.length_cons, Nat.add_comm]; exact h, iP hc hx⟩
theorem ds_put9 {α : Type} {f : α → List D} {H : Hp} {l : List α} {j : Nat} {x : α} (hx : l[j]? = some x) {pre mid post : List Value} (h1 : RdL H (ak f (l.take j)) pre) (h2 : RdL H (f x) mid) (h3 : RdL H (ak f (l.drop (j + 1))) post) : RdL H (ak f l) (pre ++ (mid ++ post)) := by
  obtain ⟨hj, he⟩ := List.getElem?_eq_some_iff.1 hx
  have := ds_put hj h1 h2 h3
  rwa [← he, List.set_getElem_self] at this
def nmT : List ByteArray := [⟨#[109, 97, 105, 110]⟩, ⟨#[105, 110, 116, 101, 114, 114, 117, 112, 116]⟩, ⟨#[103, 48]⟩, ⟨#[83]⟩, ⟨#[102, 105, 114, 115, 116]⟩, ⟨#[49, 120]⟩, ⟨#[97, 95, 110, 97, 109, 101, 95, 111, 102, 95, 50, 53, 95, 99, 104, 97, 114, 97, 99, 116, 101, 114, 115, 95, 120]⟩]
theorem name_at {j : Nat} (h : j < 7) : ∃ s : ByteArray, lget (((nmT.map Value.string).toArray : Array Value)).toList (0 + j * 1) = some (.string s) ∧ s.size ≤ 1000000 := by
  have e : j = 0 ∨ j = 1 ∨ j = 2 ∨ j = 3 ∨ j = 4 ∨ j = 5 ∨ j = 6 := by omega
  rcases e with rfl | rfl | rfl | rfl | rfl | rfl | rfl <;> exact ⟨_, rfl, by decide⟩
theorem tn3s0 {p q : Prop} (k : q) (h : W9 q → p := by (intro yq; refine TL.litF (r := []) [] trivial rfl rfl rfl rfl ?_; exact yq.1)) : p := h ⟨k⟩
theorem tn3s1 {p q : Prop} (k : q) (h : W9 q → p := by (intro yq; refine TL.litF (r := [_, _, _, _, _, _, _, _, _, _]) [(0, [_, _, _, _, _, _, _, _, _, _])] ⟨rfl, ⟨_, rfl, rfl⟩, trivial⟩ rfl rfl rfl rfl ?_; exact yq.1)) : p := h ⟨k⟩
theorem ref_Own {p : Pg} {B : Nat} (hB : B ≤ 900000000) (hok : p.ok B) (j : Nat) {w0 : World} {H : Hp} {own : List Seg} {c0 c1 c2 : Value} (ht : RdL H p.d [c0, c1, c2]) : Fn Tryz.prog 25 [.agg #[c0, c1, c2]] w0 H own (fun r o H' => ∃ vt vg vf rt rg rf sp sb xs, r = .agg #[vt, vg, vf] ∧ RowD 85 3 Td.d H' p.ts vt rt ∧ RowD 80 8 Gb.d H' p.gs vg rg ∧ Row 71 10 vf p.fs.length xs rf ∧ FsJ H' p.fs p.fs.length j xs sp sb ∧ o = rt :: rg :: rf :: sp :: sb :: own ∧ Le H H') := by
  obtain ⟨ts, gs, fs⟩ := p
  obtain ⟨h0, h1, h2⟩ := nw ht
  simp only at h0 h1 h2
  obtain ⟨A0, k0, rfl, _, _⟩ := el_len Td.d_len (by omega) h0
  obtain ⟨A1, k1, news1, e1, hsrc1, hnews1⟩ := h1.srcN (m := gs.length) (by omega) (bM Gb.d_len _) (gb_ds_one _)
  subst e1
  obtain ⟨A2, k2, rfl, _, _⟩ := el_len Fu.d_len (by omega) h2
  have hot := hok.t; have hof := hok.f; have hlt := hok.tl; have hlg := hok.gl; have hlf := hok.fl
  simp only at hot hof hlt hlg hlf
  refine Fn.enter Tryz.func25 rfl Tryz.ntmps25 rfl ?_; have hL := Le.refl H; refine Y3 ?_; intro g1
  refine Y1 ?_; intro g2; refine Y4 ?_
  refine tn3s0 ?_; intro g8; refine Y2 ?_; refine TL.append 0 rfl rfl rfl (Row.lit 80 8 0 _ #[] rfl (by omega)) (hsrc1 _ _) (by omega) (by omega) rfl ?_; intro vg segvg rowvg; have hG := RowD.copy rowvg hnews1; refine Ql [(1, [_])] ⟨rfl, ⟨_, rfl, bq hG.one⟩, trivial⟩ rfl rfl ?_
  refine Y1 ?_; intro g3; refine Qj 0 0 (c' := #[_, _, _]) (own' := [(_, .cells #[_, _, _] _ _)] :: _) rfl rfl rfl rfl rfl ⟨rfl, hG.one, rfl, trivial⟩ (by simp [ba]) rfl rfl rfl ?_; refine Y4 ?_
  refine TC.sv 4 [1,0,3,2] ?_
  refine TC.nilseg ?_; refine Y5 ?_; refine TC.loop (fun z env' own' H' => ∃ (i : Nat) (vt : Value) (rt : Seg), z = ts.length - i ∧ i ≤ ts.length ∧ RowD 85 3 Td.d H' (ts.take i) vt rt ∧ env' = [(1, .pointer (some ⟨g1, 0, none⟩)), (2, .pointer (some ⟨g2, 0, none⟩)), (3, .pointer (some ⟨g3, 0, none⟩)), (4, .int .i64 (i : Int))] ∧ own' = rt :: segvg :: [(g3, .cells #[vt, vg, .slice none 0 0] 29 (0, 0))] :: [(g1, .cells #[.slice A0 ts.length k0, .slice A1 gs.length k1, .slice A2 fs.length k2] 29 (0, 0))] :: [(g2, .cells #[.slice none 0 0, .slice none 0 0, .slice none 0 0] 29 (0, 0))] :: own ∧ Le H H') ts.length [(1, _), (2, _), (3, _), (4, _)] ⟨rfl, rfl, rfl, rfl, trivial⟩ ⟨0, _, _, rfl, by omega, RowD.nil _, rfl, rfl, Le.refl _⟩ ?_
  rintro z _ _ Hl ⟨i, vt, rt, rfl, hi, hT, rfl, rfl, hlel⟩
  have hL := Le.trans hL hlel; have h0 := rd.mono hlel h0; have h2 := rd.mono hlel h2; have hG := RowD.mono hlel hG; refine Y7 ?_
  refine TL.lssB rfl rfl rfl (fun hlx => ?_) (fun hlx => ?_); {
  obtain ⟨x, hx⟩ : ∃ x, ts[i]? = some x := ⟨_, List.getElem?_eq_getElem (by omega)⟩
  obtain ⟨b9, o9, cs9, he9, hp9, hr9, hl9⟩ := el_at Td.d_len (by omega) h0 hx
  obtain ⟨d0, d1, d2, rfl⟩ := list_3 hl9
  cases he9
  have hxm := List.mem_of_getElem? hx
  obtain ⟨hx1, hx2, hx3⟩ := hot x hxm
  obtain ⟨rfl, rfl, hr8⟩ := nu hr9
  obtain ⟨A8, c8, news8, e8, hsrc8, hnews8⟩ := hr8.srcN (m := x.fs.length) (by omega) (bM Par.d_len _) (ke _)
  subst e8
  obtain ⟨xs, hrow, hxs⟩ := hT
  have hLn : (ts.take i).length = i := by rw [List.length_take]; omega
  refine Y12 ?_; refine Qg (i) rfl rfl rfl (by omega) rfl ?_; refine TL.load_immA rfl (hp9) rfl rfl ?_
  refine Y1 ?_; intro g5; refine Qj 0 0 (c' := #[_, _, _]) (own' := [(_, .cells #[_, _, _] _ _)] :: _) rfl rfl rfl rfl rfl ⟨rfl, rfl, rfl, trivial⟩ (by simp) rfl rfl rfl ?_; refine Y4 ?_
  refine tn3s0 ?_; intro g25; refine Y2 ?_; refine TL.append 0 rfl rfl rfl (Row.lit 83 5 0 _ #[] rfl (by omega)) (hsrc8 _ _) (by omega) (by omega) rfl ?_; intro v28 segv28 rowv28; refine Y1 ?_
  refine TL.freeze (fun H1 hle hz_g25 => ?_)
  have hL := Le.trans hL hle; have hlel := Le.trans hlel hle; have hnews8 := RdL.mono hle hnews8; have hxs := RdL.mono hle hxs
  have hr28 := (RowD.copy rowv28 hnews8).rd (Le.refl _) hz_g25
  refine TL.store1 0 0 (c' := #[_, _, _]) (own' := [(_, .cells #[_, _, _] _ _)] :: _) rfl rfl rfl rfl hr28.one (by simp) rfl rfl rfl ?_; refine Y6 ?_
  refine TL.litF (r := [_, _, _]) [(0, [_, _, _])] ⟨rfl, ⟨_, rfl, rfl⟩, trivial⟩ rfl rfl rfl rfl ?_; intro g33; refine TL.append 2 rfl rfl rfl hrow (Src.ofOwn 0 0 rfl rfl rfl (Ones.all (show Ones [_, _, _] from ⟨rfl, rfl, hr28.one, trivial⟩)) ⟨rfl, rfl, rfl, trivial⟩) (by omega) (by omega) rfl ?_; intro u2 seg2 hrow2
  have hT2 := RowD.snoc (x := x) hrow2 hxs (td_mk hr28)
  refine Y1 ?_; refine TL.store1 4 0 (c' := #[_, _, _]) (own' := _ :: _ :: _ :: _ :: [(_, .cells #[_, _, _] _ _)] :: _) rfl rfl rfl rfl hT2.one (by simp) rfl rfl rfl ?_; refine Y5 ?_; refine TL.add rfl rfl rfl ⟨by omega, by omega⟩ ?_; refine Y2 ?_
  refine TQ.sv 7 [2,3,4,5,6] ?_
  exact TQ.next (ts.length - (i + 1)) [(1, _), (2, _), (3, _), (4, _)] (by omega) ⟨rfl, rfl, rfl, rfl, trivial⟩ ⟨i + 1, _, _, rfl, by omega, by rw [List.take_add_one, hx]; exact hT2, rfl, rfl, hlel⟩}; {
  refine Y10 ?_; refine TC.nilseg ?_; refine TC.nilseg ?_; refine TC.nilseg ?_
  rw [List.take_of_length_le (by omega)] at hT
  refine Y5 ?_; refine TC.loop (fun z env' own' H' => ∃ (i : Nat) (vf : Value) (rf sp sb : Seg) (xs : List Value), z = fs.length - i ∧ i ≤ fs.length ∧ Row 71 10 vf i xs rf ∧ FsJ H' fs i j xs sp sb ∧ env' = [(1, .pointer (some ⟨g1, 0, none⟩)), (2, .pointer (some ⟨g2, 0, none⟩)), (3, .pointer (some ⟨g3, 0, none⟩)), (6, .int .i64 (i : Int))] ∧ own' = rf :: sp :: sb :: rt :: segvg :: [(g3, .cells #[vt, vg, vf] 29 (0, 0))] :: [(g1, .cells #[.slice A0 ts.length k0, .slice A1 gs.length k1, .slice A2 fs.length k2] 29 (0, 0))] :: [(g2, .cells #[.slice none 0 0, .slice none 0 0, .slice none 0 0] 29 (0, 0))] :: own ∧ Le Hl H') fs.length [(1, _), (2, _), (3, _), (6, _)] ⟨rfl, rfl, rfl, rfl, trivial⟩ ⟨0, _, _, _, _, _, rfl, by omega, Row.nil _ _, FsJ.nil _ _ _, rfl, rfl, Le.refl _⟩ ?_
  rintro z _ _ Hl9 ⟨i, vf, rf, sp, sb, xs, rfl, hi, hrow, hF, rfl, rfl, hlel9⟩
  have hL := Le.trans hL hlel9; have h2 := rd.mono hlel9 h2; have hG := RowD.mono hlel9 hG; have hT := RowD.mono hlel9 hT; refine Y5 ?_; refine Qf 6 0 rfl rfl rfl rfl rfl ?_; refine Y1 ?_
  refine TL.lssB rfl rfl rfl (fun hlx => ?_) (fun hlx => ?_); {
  obtain ⟨x, hx⟩ : ∃ x, fs[i]? = some x := ⟨_, List.getElem?_eq_getElem (by omega)⟩
  obtain ⟨b9, o9, cs9, he9, hp9, hr9, hl9⟩ := el_at Fu.d_len (by omega) h2 hx
  obtain ⟨d0, d1, d2, d3, d4, d5, d6, d7, d8, d9, rfl⟩ := list_10 hl9
  cases he9
  have hxm := List.mem_of_getElem? hx
  obtain ⟨ho1, ho2, ho3, ho4, ho5, ho6, ho7, ho8, ho9⟩ := hof x hxm
  have hsl := Sm.len_le x.body
  obtain ⟨rfl, hps, hty, hbd, rfl, rfl, rfl⟩ := fu_cells hr9
  obtain ⟨o1, o2, o3, o4, _⟩ := gk hty
  obtain ⟨A8, c8, news8, e8, hsrc8, hnews8⟩ := hps.srcN (m := x.ps.length) (by omega) (bM Par.d_len _) (ke _)
  subst e8
  obtain ⟨A7, c7, news7, e7, hsrc7, hnews7⟩ := sms_src (b := x.body) (by rw [Sm.ds_of]; exact hbd)
  subst e7
  rw [Sm.ds_of] at hnews7
  refine Y10 ?_; refine Qf 6 0 rfl rfl rfl rfl rfl ?_; refine Y1 ?_; refine Qg (i) rfl rfl rfl (by omega) rfl ?_; refine TL.load_immA rfl (hp9) rfl rfl ?_
  refine Y1 ?_; intro g7; refine Qj 0 0 (c' := #[_, _, _, _, _, _, _, _, _, _]) (own' := [(_, .cells #[_, _, _, _, _, _, _, _, _, _] _ _)] :: _) rfl rfl rfl rfl rfl ⟨rfl, rfl, o1, o2, o3, o4, rfl, rfl, rfl, rfl, trivial⟩ (by simp [ba]) (nf rfl) rfl rfl ?_; refine Y4 ?_
  refine tn3s0 ?_; intro g48; refine Y2 ?_; refine TL.append 0 rfl rfl rfl (Row.lit 83 5 0 _ #[] rfl (by omega)) (hsrc8 _ _) (by omega) (by omega) rfl ?_; intro v51 segv51 rowv51; have hR51 := RowD.copy rowv51 hnews8; refine Y1 ?_; refine TL.store1 1 0 (c' := #[_, _, _, _, _, _, _, _, _, _]) (own' := _ :: [(_, .cells #[_, _, _, _, _, _, _, _, _, _] _ _)] :: _) rfl rfl rfl rfl hR51.one (by simp) rfl rfl rfl ?_; refine Y4 ?_
  refine tn3s0 ?_; intro g53; refine Y2 ?_; refine TL.append 0 rfl rfl rfl (Row.lit 66 11 0 _ #[] rfl (by omega)) (hsrc7 _ _) (by omega) (by omega) rfl ?_; intro v56 segv56 rowv56; have hR56 := RowD.copy rowv56 hnews7; refine Y1 ?_; refine TL.store1 2 0 (c' := #[_, _, _, _, _, _, _, _, _, _]) (own' := _ :: _ :: [(_, .cells #[_, _, _, _, _, _, _, _, _, _] _ _)] :: _) rfl rfl rfl rfl hR56.one (by simp) rfl rfl rfl ?_; refine Y2 ?_
  by_cases hij : i = j; {
  refine Y2 ?_; refine Qf 8 0 rfl rfl rfl rfl rfl ?_; refine Qb 2 0 [_, _, _, _, _, _, _, _, _, _] rfl rfl rfl ⟨rfl, rfl, rfl, rfl, rfl, rfl, rfl, rfl, rfl, rfl, trivial⟩ rfl rfl ?_
  refine tn3s1 ?_; intro g61; refine TL.append 4 rfl rfl rfl hrow (Src.ofOwn 0 0 rfl rfl rfl (Ones.all (show Ones [_, _, _, _, _, _, _, _, _, _] from ⟨rfl, hR51.one, o1, o2, o3, o4, hR56.one, rfl, rfl, rfl, trivial⟩)) ⟨rfl, rfl, rfl, rfl, rfl, rfl, rfl, rfl, rfl, rfl, trivial⟩) (by omega) (by omega) rfl ?_; intro u2 seg2 hrow2; refine Y1 ?_; refine TL.store1 9 0 (c' := #[_, _, _]) (own' := _ :: _ :: _ :: _ :: _ :: _ :: _ :: _ :: _ :: [(_, .cells #[_, _, _] _ _)] :: _) rfl rfl rfl rfl hrow2.one (by simp) rfl rfl rfl ?_; refine Y5 ?_; refine TL.add rfl rfl rfl ⟨by omega, by omega⟩ ?_; refine Y2 ?_
  refine TQ.sv 12 [4,2,1,7,8,9,10,11] ?_
  exact TQ.next (fs.length - (i + 1)) [(1, _), (2, _), (3, _), (6, _)] (by omega) ⟨rfl, rfl, rfl, rfl, trivial⟩ ⟨i + 1, _, _, _, _, _, rfl, by omega, hrow2, FsJ.hit hij hF hx ⟨_, _, _, _, _, _, rfl, hty, hR51, hR56⟩, rfl, rfl, hlel9⟩}; {
  refine Y1 ?_
  refine TL.sv 11 [1,0,2,3,4,5,6,7,8,9,10] ?_
  refine TL.freeze (fun H2 hle hz_g48 => ?_)
  have hL := Le.trans hL hle; have hlel9 := Le.trans hlel9 hle; have hF := FsJ.mono hle hF; have hty := RdL.mono hle hty; have hR51 := RowD.mono hle hR51; have hR56 := RowD.mono hle hR56
  refine TL.freeze (fun H3 hle hz_g53 => ?_)
  have hL := Le.trans hL hle; have hlel9 := Le.trans hlel9 hle; have hF := FsJ.mono hle hF; have hty := RdL.mono hle hty; have hR51 := RowD.mono hle hR51; have hR56 := RowD.mono hle hR56; have hz_g48 := hz.mono hle hz_g48
  have hr51 := hR51.rd (Le.refl _) hz_g48
  have hr56 := hR56.rd (Le.refl _) hz_g53
  refine Y1 ?_; refine Qf 6 0 rfl rfl rfl rfl rfl ?_; refine Y1 ?_
  refine tn3s1 ?_; intro g61; refine TL.append 2 rfl rfl rfl hrow (Src.ofOwn 0 0 rfl rfl rfl (Ones.all (show Ones [_, _, _, _, _, _, _, _, _, _] from ⟨rfl, hR51.one, o1, o2, o3, o4, hR56.one, rfl, rfl, rfl, trivial⟩)) ⟨rfl, rfl, rfl, rfl, rfl, rfl, rfl, rfl, rfl, rfl, trivial⟩) (by omega) (by omega) rfl ?_; intro u2 seg2 hrow2; refine Y1 ?_; refine TL.store1 7 0 (c' := #[_, _, _]) (own' := _ :: _ :: _ :: _ :: _ :: _ :: _ :: [(_, .cells #[_, _, _] _ _)] :: _) rfl rfl rfl rfl hrow2.one (by simp) rfl rfl rfl ?_; refine Y5 ?_; refine TL.add rfl rfl rfl ⟨by omega, by omega⟩ ?_; refine Y2 ?_
  refine TQ.sv 10 [2,3,4,5,6,7,8,9] ?_
  exact TQ.next (fs.length - (i + 1)) [(1, _), (2, _), (3, _), (6, _)] (by omega) ⟨rfl, rfl, rfl, rfl, trivial⟩ ⟨i + 1, _, _, _, _, _, rfl, by omega, hrow2, FsJ.step hij hF hx (fu_mk hr51 hty (by rw [Sm.ds_of]; exact hr56)), rfl, rfl, hlel9⟩}}; {
  refine Y9 ?_
  obtain rfl : i = fs.length := by omega
  refine Y1 ?_; refine Qb 5 0 [_, _, _] rfl rfl rfl ⟨rfl, rfl, rfl, trivial⟩ rfl rfl ?_; refine Qj 7 0 (c' := #[_, _, _]) (own' := _ :: _ :: _ :: _ :: _ :: _ :: _ :: [(_, .cells #[_, _, _] _ _)] :: _) rfl rfl rfl rfl rfl ⟨hT.one, hG.one, hrow.one, trivial⟩ (by simp) rfl rfl rfl ?_; refine Y3 ?_
  refine TQ.sv 8 [7,3,4,0,1,2] ?_
  refine TQ.retC 0 0 1 [_, _, _] rfl rfl rfl rfl ⟨rfl, rfl, rfl, trivial⟩ rfl rfl ?_
  exact ⟨_, _, _, _, _, _, _, _, _, rfl, hT, hG, hrow, hF, rfl, hL⟩}}
end Go.Proofs.YtlmahofogapkgaaGreatDoor.K
