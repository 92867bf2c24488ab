/-
  Part 6 of 6 of the proof that DiffTrees returns true for every list of numbers and every two triples, and leaves its arguments as they were. No condition beyond the given statement.
-/
import Derived.ProofKit
import Derived.Deep.Slices
import Derived.OpenShut
import Derived.WideKeyArr2
import Derived.Lib.LaidTab
import Derived.LaidSub
import Derived.MakeChecks
import Derived.Test.YtlmahofogapkgaaGreatDoorRows
import Derived.Test.YtlmahofogapkgaaGreatDoorTie
import Derived.Test.YtlmahofogapkgaaGreatDoorCards
import Derived.LaidMore
import Derived.Stop.Joined
import Derived.Test.YtlmahofogapkgaaGreatDoorPkX5
set_option linter.unusedVariables false
set_option linter.unusedSimpArgs false
set_option linter.defProp false
set_option linter.all false
set_option maxRecDepth 100000
set_option maxHeartbeats 8000000
namespace Go.Proofs.YtlmahofogapkgaaGreatDoor.X
section
open Go Go.RowKit Go.Proofs K
variable {pk : Pk}
abbrev eGs : Ex := ao ⟨#[103, 115]⟩
abbrev eArr : Ex := ao ⟨#[97, 114, 114]⟩
abbrev ePtr : Ex := .mk 6 eS 0 [eArr]
abbrev eAt : Ex := .mk 6 eS 0 [eGs]
def expsL : List Ex := [eGs, eArr, ePtr, eAt, (ao ⟨#[110, 111, 112, 101]⟩), (ao ⟨#[118, 49]⟩), (ao ⟨#[112]⟩), (iE eGs ⟨#[97]⟩), (iE eGs ⟨#[120]⟩), (iE (ao ⟨#[103, 48]⟩) ⟨#[97]⟩), (iF (ao ⟨#[103, 48]⟩) (bK 1)), (iF eArr ePtr), (.mk 5 eS 0 [eAt]), (.mk 5 eS 0 [(ao ⟨#[103, 48]⟩)]), (iE (.mk 5 eS 0 [eAt]) ⟨#[99]⟩), (.mk 6 eS 0 [(ao ⟨#[118, 49]⟩)]), (.mk 6 eS 0 [(iF (ao ⟨#[116, 97, 98]⟩) (bK 1))]), (eL ⟨#[61, 61]⟩ eAt eAt), (eL ⟨#[61, 61]⟩ eAt ePtr), (eL ⟨#[61, 61]⟩ eAt (bK 0)), (eL ⟨#[43]⟩ eAt (bK 1)), (eL ⟨#[60]⟩ eAt eAt), (.mk 12 ⟨#[45]⟩ 0 [eAt]), (.mk 15 ⟨#[117, 49, 54]⟩ 0 [eAt]), (.mk 15 ⟨#[117, 56]⟩ 0 [eAt]), (.mk 15 ⟨#[115, 49, 54]⟩ 0 [eGs]), (.mk 14 ⟨#[102, 105, 114, 115, 116]⟩ 0 []), (.mk 14 ⟨#[102, 105, 114, 115, 116]⟩ 0 [(bK 1)]), (.mk 14 ⟨#[102, 105, 114, 115, 116]⟩ 0 [eAt, (bK 1)]), (.mk 14 ⟨#[109, 97, 105, 110]⟩ 0 []), (.mk 14 ⟨#[109, 105, 115, 115, 105, 110, 103]⟩ 0 []), (.mk 7 eS 0 [eAt]), (.mk 8 eS 0 [(bK 3)]), (.mk 9 eS 63 [(bK 3)]), (.mk 11 eS 0 []), (.mk 10 eS 99 [(bK 3)]), (.mk 99 eS 0 []), (iF (ao ⟨#[116, 97, 98]⟩) (bK 9))]
mutual
def Ex.okB : Ex → Bool
  | .mk k nm n ks => decide (-9223372036854775808 ≤ k) && decide (k ≤ 9223372036854775807) && decide (nm.size ≤ 1000000) && decide (0 ≤ n) && decide (n ≤ 65535) && Ex.oksB ks
def Ex.oksB : List Ex → Bool
  | [] => true
  | t :: r => Ex.okB t && Ex.oksB r
end
mutual
theorem Ex.okB_ok : ∀ e : Ex, Ex.okB e = true → e.ok
  | .mk k nm n ks, h => by
    simp only [Ex.okB, Bool.and_eq_true, decide_eq_true_eq] at h
    exact ⟨⟨h.1.1.1.1.1, h.1.1.1.1.2⟩, h.1.1.1.2, ⟨h.1.1.2, h.1.2⟩, Ex.oksB_ok ks h.2⟩
theorem Ex.oksB_ok : ∀ l : List Ex, Ex.oksB l = true → Ex.oks l
  | [], _ => trivial
  | t :: r, h => by
    simp only [Ex.oksB, Bool.and_eq_true] at h
    exact ⟨Ex.okB_ok t h.1, Ex.oksB_ok r h.2⟩
end
theorem exps_ok : ∀ e ∈ expsL, e.ok ∧ e.size ≤ 10 := by
  have h : ∀ e ∈ expsL, Ex.okB e = true ∧ e.size ≤ 10 := by decide +kernel
  exact fun e he => ⟨Ex.okB_ok e (h e he).1, (h e he).2⟩
theorem ref_exprs : XQ Tryz.prog pk 72 [] (xr (expsL.map exD)) := by
  refine XQ.en Tryz.func72 Tryz.ntmps72 (fun w0 own H V v0 hf => ?_)
  refine G (T := T) 1000 rfl ?_
  refine Cq (ad _) rfl rfl rfl rfl rfl ⟨rfl, rfl⟩ ?_
  refine G (T := T) 1000 rfl ?_
  refine Cq (ad _) rfl rfl rfl rfl rfl ⟨rfl, rfl⟩ ?_
  refine G (T := T) 1000 rfl ?_
  refine Cq (ad _) rfl rfl rfl rfl rfl ⟨rfl, rfl⟩ ?_
  refine G (T := T) 1000 rfl ?_
  refine Cq (ad _) rfl rfl rfl rfl rfl ⟨rfl, rfl⟩ ?_
  refine G (T := T) 1000 rfl ?_
  refine Cq (ad _) rfl rfl rfl rfl rfl ⟨rfl, rfl⟩ ?_
  refine G (T := T) 1000 rfl ?_
  refine Cq (bG eGs _) rfl rfl rfl rfl rfl ⟨rfl, rfl⟩ ?_
  refine G (T := T) 1000 rfl ?_
  refine Cq (bG eGs _) rfl rfl rfl rfl rfl ⟨rfl, rfl⟩ ?_
  refine G (T := T) 1000 rfl ?_
  refine Cq (ad _) rfl rfl rfl rfl rfl ⟨rfl, rfl⟩ ?_
  refine G (T := T) 1000 rfl ?_
  refine Cq (bG (ao ⟨#[103, 48]⟩) _) rfl rfl rfl rfl rfl ⟨rfl, rfl⟩ ?_
  refine G (T := T) 1000 rfl ?_
  refine Cq (ad _) rfl rfl rfl rfl rfl ⟨rfl, rfl⟩ ?_
  refine G (T := T) 1000 rfl ?_
  refine Cq (av (by omega) (by omega)) rfl rfl rfl rfl rfl ⟨rfl, rfl⟩ ?_
  refine G (T := T) 1000 rfl ?_
  refine Cq (aX (ao ⟨#[103, 48]⟩) (bK 1)) rfl rfl rfl rfl rfl ⟨rfl, rfl⟩ ?_
  refine G (T := T) 1000 rfl ?_
  refine Cq (aX eArr ePtr) rfl rfl rfl rfl rfl ⟨rfl, rfl⟩ ?_
  refine G (T := T) 1000 rfl ?_
  refine Cq (ad _) rfl rfl rfl rfl rfl ⟨rfl, rfl⟩ ?_
  refine G (T := T) 1000 rfl ?_
  refine Cq (bG (.mk 5 eS 0 [eAt]) _) rfl rfl rfl rfl rfl ⟨rfl, rfl⟩ ?_
  refine G (T := T) 1000 rfl ?_
  refine Cq (ad _) rfl rfl rfl rfl rfl ⟨rfl, rfl⟩ ?_
  refine G (T := T) 1000 rfl ?_
  refine Cq (ad _) rfl rfl rfl rfl rfl ⟨rfl, rfl⟩ ?_
  refine G (T := T) 1000 rfl ?_
  refine Cq (av (by omega) (by omega)) rfl rfl rfl rfl rfl ⟨rfl, rfl⟩ ?_
  refine G (T := T) 1000 rfl ?_
  refine Cq (aX (ao ⟨#[116, 97, 98]⟩) (bK 1)) rfl rfl rfl rfl rfl ⟨rfl, rfl⟩ ?_
  refine G (T := T) 1000 rfl ?_
  refine Cq (aE _ eAt eAt) rfl rfl rfl rfl rfl ⟨rfl, rfl⟩ ?_
  refine G (T := T) 1000 rfl ?_
  refine Cq (aE _ eAt ePtr) rfl rfl rfl rfl rfl ⟨rfl, rfl⟩ ?_
  refine G (T := T) 1000 rfl ?_
  refine Cq (av (by omega) (by omega)) rfl rfl rfl rfl rfl ⟨rfl, rfl⟩ ?_
  refine G (T := T) 1000 rfl ?_
  refine Cq (aE _ eAt (bK 0)) rfl rfl rfl rfl rfl ⟨rfl, rfl⟩ ?_
  refine G (T := T) 1000 rfl ?_
  refine Cq (av (by omega) (by omega)) rfl rfl rfl rfl rfl ⟨rfl, rfl⟩ ?_
  refine G (T := T) 1000 rfl ?_
  refine Cq (aE _ eAt (bK 1)) rfl rfl rfl rfl rfl ⟨rfl, rfl⟩ ?_
  refine G (T := T) 1000 rfl ?_
  refine Cq (aE _ eAt eAt) rfl rfl rfl rfl rfl ⟨rfl, rfl⟩ ?_
  refine G (T := T) 1000 rfl ?_
  refine Cq (av (by omega) (by omega)) rfl rfl rfl rfl rfl ⟨rfl, rfl⟩ ?_
  refine G (T := T) 1000 rfl ?_
  refine Cq (av (by omega) (by omega)) rfl rfl rfl rfl rfl ⟨rfl, rfl⟩ ?_
  refine G (T := T) 1000 rfl ?_
  refine Cq (av (by omega) (by omega)) rfl rfl rfl rfl rfl ⟨rfl, rfl⟩ ?_
  refine G (T := T) 1000 rfl ?_
  refine Cq (av (by omega) (by omega)) rfl rfl rfl rfl rfl ⟨rfl, rfl⟩ ?_
  refine G (T := T) 1000 rfl ?_
  refine Cq (av (by omega) (by omega)) rfl rfl rfl rfl rfl ⟨rfl, rfl⟩ ?_
  refine G (T := T) 1000 rfl ?_
  refine Cq (ad _) rfl rfl rfl rfl rfl ⟨rfl, rfl⟩ ?_
  refine G (T := T) 1000 rfl ?_
  refine Cq (av (by omega) (by omega)) rfl rfl rfl rfl rfl ⟨rfl, rfl⟩ ?_
  refine G (T := T) 1000 rfl ?_
  refine Cq (aX (ao ⟨#[116, 97, 98]⟩) (bK 9)) rfl rfl rfl rfl rfl ⟨rfl, rfl⟩ ?_
  refine G (T := T) 1000 rfl ?_
  exact Fq (T := T) rfl rfl
end
section
open Go Go.RowKit Go.Proofs K
variable {pk : Pk}
def labL : List ByteArray := [⟨#[]⟩, ⟨#[76, 49]⟩, ⟨#[76, 50]⟩, ⟨#[105, 102]⟩]
def nmL5 : List ByteArray := [⟨#[118, 49]⟩, ⟨#[120]⟩, ⟨#[103, 48]⟩, ⟨#[109, 97, 105, 110]⟩, ⟨#[97]⟩]
def jmpL : List Int := [7, 8]
def tyl : List Ty4 := [.mk 1 eS 0 [], .mk 6 eS 0 [.mk 4 ⟨#[83]⟩ 0 []], .mk 4 ⟨#[83]⟩ 0 [], .mk 7 eS 0 [], .mk 6 eS 1 [.mk 2 eS 0 []]]
theorem tyl_ok : ∀ t ∈ tyl, t.ok ∧ t.size ≤ 3 := fun t h => by
  simp only [tyl, List.mem_cons, List.not_mem_nil, or_false] at h
  have a : ∀ {k : Int} {s : ByteArray} {l : List Ty4} {n : Int}, 0 ≤ k ∧ k ≤ 9 → s.size ≤ 1000000 → 0 ≤ n ∧ n ≤ 9 → Ty4.oks l → (Ty4.mk k s n l).ok := fun h1 h2 h3 h4 => ⟨⟨by omega, by omega⟩, h2, ⟨by omega, by omega⟩, h4⟩
  rcases h with rfl | rfl | rfl | rfl | rfl
  · exact ⟨a (by omega) (by decide) (by omega) trivial, by decide⟩
  · exact ⟨a (by omega) (by decide) (by omega) ⟨a (by omega) (by decide) (by omega) trivial, trivial⟩, by decide⟩
  · exact ⟨a (by omega) (by decide) (by omega) trivial, by decide⟩
  · exact ⟨a (by omega) (by decide) (by omega) trivial, by decide⟩
  · exact ⟨a (by omega) (by decide) (by omega) ⟨a (by omega) (by decide) (by omega) trivial, trivial⟩, by decide⟩
theorem bJ {k n : Int} {nm : ByteArray} {t : Ty4} {xs : List Ex} {b el : List Sm} {cs : List (List Sm)} (hk : 0 ≤ k ∧ k ≤ 99) (hn : nm.size ≤ 1000000) (ht : t.ok) (h0 : 0 ≤ n ∧ n ≤ 300) (hx : Ex.oks xs) (hb : Sm.oks b) (he : Sm.oks el) (hc : Sm.okc cs) : (Sm.mk k nm t n xs b el cs).ok := ⟨⟨by omega, by omega⟩, hn, ht, ⟨by omega, by omega⟩, hx, hb, he, hc⟩
theorem fm {α : Type} {l : List α} {n m : Int} (hl : (l.length : Int) = m) (hm : 0 < m) : ∃ (j : Nat) (a : α), modR n m = (j : Int) ∧ l[j]? = some a ∧ a ∈ l := by
  have h := ff (n := n) hm
  obtain ⟨j, hj⟩ := Int.eq_ofNat_of_zero_le h.1
  have hlt : j < l.length := by omega
  exact ⟨j, l[j], hj, List.getElem?_eq_getElem hlt, List.getElem_mem hlt⟩
theorem dL {q0 q1 q2 : Int} : XP Tryz.prog pk 27 [xd [.c (.int .i64 q0), .c (.int .i64 q1), .c (.int .i64 q2)]] (fun r => ∃ s, r = xd (smD s) ∧ s.ok ∧ s.size ≤ 100) := by
  obtain ⟨j1, e1, hj1, he1, m1⟩ := fm (l := expsL) (n := q1) (m := 38) rfl (by omega)
  obtain ⟨j2, e2, hj2, he2, m2⟩ := fm (l := expsL) (n := q2) (m := 38) rfl (by omega)
  obtain ⟨j3, lb, hj3, he3, m3⟩ := fm (l := labL) (n := q2) (m := 4) rfl (by omega)
  obtain ⟨ko1, ks1⟩ := exps_ok e1 m1
  obtain ⟨ko2, ks2⟩ := exps_ok e2 m2
  have hlb : lb.size ≤ 1000000 := (show ∀ s ∈ labL, s.size ≤ 1000000 by decide) lb m3
  refine XP.en Tryz.func27 Tryz.ntmps27 (by rintro _ ⟨p, rfl, _⟩; rfl) (fun w0 own H V v0 hf => ?_)
  refine G (T := T) 1000 rfl ?_
  refine Cq ref_exprs rfl rfl rfl rfl rfl ⟨rfl, rfl⟩ ?_
  refine G (T := T) 1000 rfl ?_
  refine Cq (bQ (n := q1) (m := 38) (by omega) (by omega)) rfl rfl rfl rfl rfl ⟨rfl, rfl⟩ ?_
  refine G (T := T) 14 rfl ?_
  rw [hj1]
  refine Ix (T := T) (rows := expsL.map exD) j1 (aa he1) rfl rfl rfl rfl ⟨rfl, rfl⟩ rfl rfl ?_
  refine G (T := T) 1000 rfl ?_
  refine Cq (bQ (n := q2) (m := 38) (by omega) (by omega)) rfl rfl rfl rfl rfl ⟨rfl, rfl⟩ ?_
  refine G (T := T) 22 rfl ?_
  rw [hj2]
  refine Ix (T := T) (rows := expsL.map exD) j2 (aa he2) rfl rfl rfl rfl ⟨rfl, rfl⟩ rfl rfl ?_
  refine G (T := T) 1000 rfl ?_
  refine Cq (bQ (n := q2) (m := 4) (by omega) (by omega)) rfl rfl rfl rfl rfl ⟨rfl, rfl⟩ ?_
  refine G (T := T) 28 rfl ?_
  rw [hj3]
  refine Ix (T := T) (rows := labL.map cq) j3 (aa he3) rfl rfl rfl rfl ⟨rfl, rfl⟩ rfl rfl ?_
  refine G (T := T) 1000 rfl ?_
  refine Cq (bQ (n := q0) (m := 14) (by omega) (by omega)) rfl rfl rfl rfl rfl ⟨rfl, rfl⟩ ?_
  generalize modR q0 14 = z
  refine G (T := T) 1000 rfl ?_
  refine If rfl (fun h => ?_) (fun h => ?_)
  · obtain ⟨j4, nm, hj4, he4, m4⟩ := fm (l := nmL5) (n := q2) (m := 5) rfl (by omega)
    obtain ⟨j5, ty, hj5, he5, m5⟩ := fm (l := tyl) (n := q0) (m := 5) rfl (by omega)
    have hnm : nm.size ≤ 1000000 := (show ∀ s ∈ nmL5, s.size ≤ 1000000 by decide) nm m4
    obtain ⟨hty, hts⟩ := tyl_ok ty m5
    refine G (T := T) 1000 rfl ?_
    refine Cq (bQ (n := q2) (m := 5) (by omega) (by omega)) rfl rfl rfl rfl rfl ⟨rfl, rfl⟩ ?_
    refine G (T := T) 39 rfl ?_
    rw [hj4]
    refine Ix (T := T) (rows := nmL5.map cq) j4 (aa he4) rfl rfl rfl rfl ⟨rfl, rfl⟩ rfl rfl ?_
    refine G (T := T) 1000 rfl ?_
    refine Cq (bQ (n := q0) (m := 5) (by omega) (by omega)) rfl rfl rfl rfl rfl ⟨rfl, rfl⟩ ?_
    refine G (T := T) 54 rfl ?_
    rw [hj5]
    refine Ix (T := T) (rows := tyl.map tyD) j5 (aa he5) rfl rfl rfl rfl ⟨rfl, rfl⟩ rfl rfl ?_
    refine G (T := T) 1000 rfl ?_
    exact Fp (T := T) (xd (smD (.mk 1 nm ty 0 [e1] [] [] []))) ⟨_, rfl, (bJ ⟨by omega, by omega⟩ hnm hty ⟨by omega, by omega⟩ ⟨ko1, trivial⟩ trivial trivial trivial), (by simp only [Sm.size, Sm.sizes, Sm.csizes, Ex.sizes, Ty4.size, Ty4.sizes, ty4z]; omega)⟩ rfl rfl
  refine G (T := T) 1000 rfl ?_
  refine If rfl (fun h => ?_) (fun h => ?_)
  · refine G (T := T) 1000 rfl ?_
    refine If rfl (fun _ => ?_) (fun h2 => (by cases h.symm.trans h2))
    refine G (T := T) 1000 rfl ?_
    exact Fp (T := T) (xd (smD (.mk 2 eS ty4z 0 [e1, e2] [] [] []))) ⟨_, rfl, (bJ ⟨by omega, by omega⟩ (by decide) ay ⟨by omega, by omega⟩ ⟨ko1, ko2, trivial⟩ trivial trivial trivial), (by simp only [Sm.size, Sm.sizes, Sm.csizes, Ex.sizes, Ty4.size, Ty4.sizes, ty4z]; omega)⟩ rfl rfl
  refine G (T := T) 1000 rfl ?_
  refine If rfl (fun h => ?_) (fun h => ?_)
  · refine G (T := T) 1000 rfl ?_
    refine If rfl (fun _ => ?_) (fun h2 => (by cases h.symm.trans h2))
    refine G (T := T) 1000 rfl ?_
    exact Fp (T := T) (xd (smD (.mk 2 eS ty4z 0 [e1, e2] [] [] []))) ⟨_, rfl, (bJ ⟨by omega, by omega⟩ (by decide) ay ⟨by omega, by omega⟩ ⟨ko1, ko2, trivial⟩ trivial trivial trivial), (by simp only [Sm.size, Sm.sizes, Sm.csizes, Ex.sizes, Ty4.size, Ty4.sizes, ty4z]; omega)⟩ rfl rfl
  refine G (T := T) 1000 rfl ?_
  refine If rfl (fun h => ?_) (fun h => ?_)
  · refine G (T := T) 1000 rfl ?_
    exact Fp (T := T) (xd (smD (.mk 2 eS ty4z 0 [e1, e2] [] [] []))) ⟨_, rfl, (bJ ⟨by omega, by omega⟩ (by decide) ay ⟨by omega, by omega⟩ ⟨ko1, ko2, trivial⟩ trivial trivial trivial), (by simp only [Sm.size, Sm.sizes, Sm.csizes, Ex.sizes, Ty4.size, Ty4.sizes, ty4z]; omega)⟩ rfl rfl
  refine G (T := T) 1000 rfl ?_
  refine If rfl (fun h => ?_) (fun h => ?_)
  · refine G (T := T) 1000 rfl ?_
    exact Fp (T := T) (xd (smD (.mk 3 eS ty4z 0 [e1] [.mk 7 lb ty4z 0 [] [] [] []] [] []))) ⟨_, rfl, (bJ ⟨by omega, by omega⟩ (by decide) ay ⟨by omega, by omega⟩ ⟨ko1, trivial⟩ ⟨(bJ ⟨by omega, by omega⟩ hlb ay ⟨by omega, by omega⟩ trivial trivial trivial trivial), trivial⟩ trivial trivial), (by simp only [Sm.size, Sm.sizes, Sm.csizes, Ex.sizes, Ty4.size, Ty4.sizes, ty4z]; omega)⟩ rfl rfl
  refine G (T := T) 1000 rfl ?_
  refine If rfl (fun h => ?_) (fun h => ?_)
  · obtain ⟨j4, k, hj4, he4, m4⟩ := fm (l := jmpL) (n := q1) (m := 2) rfl (by omega)
    have hk : 0 ≤ k ∧ k ≤ 99 := (show ∀ s ∈ jmpL, 0 ≤ s ∧ s ≤ 99 by decide) k m4
    refine G (T := T) 1000 rfl ?_
    refine Cq (bQ (n := q1) (m := 2) (by omega) (by omega)) rfl rfl rfl rfl rfl ⟨rfl, rfl⟩ ?_
    refine G (T := T) 82 rfl ?_
    rw [hj4]
    refine Ix (T := T) (rows := jmpL.map gu) j4 (aa he4) rfl rfl rfl rfl ⟨rfl, rfl⟩ rfl rfl ?_
    refine G (T := T) 1000 rfl ?_
    exact Fp (T := T) (xd (smD (.mk 6 lb ty4z 0 [] [.mk k ⟨#[76, 49]⟩ ty4z 0 [] [] [] []] [] []))) ⟨_, rfl, (bJ ⟨by omega, by omega⟩ hlb ay ⟨by omega, by omega⟩ trivial ⟨(bJ hk (by decide) ay ⟨by omega, by omega⟩ trivial trivial trivial trivial), trivial⟩ trivial trivial), (by simp only [Sm.size, Sm.sizes, Sm.csizes, Ex.sizes, Ty4.size, Ty4.sizes, ty4z]; omega)⟩ rfl rfl
  refine G (T := T) 1000 rfl ?_
  refine If rfl (fun h => ?_) (fun h => ?_)
  · refine G (T := T) 1000 rfl ?_
    exact Fp (T := T) (xd (smD (.mk 5 lb ty4z 0 [] [.mk 5 ⟨#[76, 49]⟩ ty4z 0 [] [.mk 8 ⟨#[76, 49]⟩ ty4z 0 [] [] [] []] [] []] [] []))) ⟨_, rfl, (bJ ⟨by omega, by omega⟩ hlb ay ⟨by omega, by omega⟩ trivial ⟨(bJ ⟨by omega, by omega⟩ (by decide) ay ⟨by omega, by omega⟩ trivial ⟨(bJ ⟨by omega, by omega⟩ (by decide) ay ⟨by omega, by omega⟩ trivial trivial trivial trivial), trivial⟩ trivial trivial), trivial⟩ trivial trivial), (by simp only [Sm.size, Sm.sizes, Sm.csizes, Ex.sizes, Ty4.size, Ty4.sizes, ty4z]; omega)⟩ rfl rfl
  refine G (T := T) 1000 rfl ?_
  refine If rfl (fun h => ?_) (fun h => ?_)
  · refine G (T := T) 1000 rfl ?_
    exact Fp (T := T) (xd (smD (.mk 10 eS ty4z 0 [e1] [] [] []))) ⟨_, rfl, (bJ ⟨by omega, by omega⟩ (by decide) ay ⟨by omega, by omega⟩ ⟨ko1, trivial⟩ trivial trivial trivial), (by simp only [Sm.size, Sm.sizes, Sm.csizes, Ex.sizes, Ty4.size, Ty4.sizes, ty4z]; omega)⟩ rfl rfl
  refine G (T := T) 1000 rfl ?_
  refine If rfl (fun h => ?_) (fun h => ?_)
  · refine G (T := T) 1000 rfl ?_
    exact Fp (T := T) (xd (smD (.mk 10 eS ty4z 0 [] [] [] []))) ⟨_, rfl, (bJ ⟨by omega, by omega⟩ (by decide) ay ⟨by omega, by omega⟩ trivial trivial trivial trivial), (by simp only [Sm.size, Sm.sizes, Sm.csizes, Ex.sizes, Ty4.size, Ty4.sizes, ty4z]; omega)⟩ rfl rfl
  refine G (T := T) 1000 rfl ?_
  refine If rfl (fun h => ?_) (fun h => ?_)
  · obtain ⟨n0, n1⟩ := ff (n := q2) (show (0 : Int) < 300 by omega)
    refine G (T := T) 1000 rfl ?_
    refine Cq (bQ (n := q2) (m := 300) (by omega) (by omega)) rfl rfl rfl rfl rfl ⟨rfl, rfl⟩ ?_
    refine G (T := T) 111 rfl ?_
    rw [mM n0 (by omega)]
    generalize modR q2 300 = n at n0 n1 ⊢
    refine G (T := T) 1000 rfl ?_
    exact Fp (T := T) (xd (smD (.mk 11 eS ty4z n [e1] [] [] []))) ⟨_, rfl, (bJ ⟨by omega, by omega⟩ (by decide) ay ⟨by omega, by omega⟩ ⟨ko1, trivial⟩ trivial trivial trivial), (by simp only [Sm.size, Sm.sizes, Sm.csizes, Ex.sizes, Ty4.size, Ty4.sizes, ty4z]; omega)⟩ rfl rfl
  refine G (T := T) 1000 rfl ?_
  refine If rfl (fun h => ?_) (fun h => ?_)
  · refine G (T := T) 1000 rfl ?_
    exact Fp (T := T) (xd (smD (.mk 9 eS ty4z 0 [e1] [] [] [[.mk 14 eS ty4z 0 [e2] [] [] []]]))) ⟨_, rfl, (bJ ⟨by omega, by omega⟩ (by decide) ay ⟨by omega, by omega⟩ ⟨ko1, trivial⟩ trivial trivial ⟨⟨(bJ ⟨by omega, by omega⟩ (by decide) ay ⟨by omega, by omega⟩ ⟨ko2, trivial⟩ trivial trivial trivial), trivial⟩, trivial⟩), (by simp only [Sm.size, Sm.sizes, Sm.csizes, Ex.sizes, Ty4.size, Ty4.sizes, ty4z]; omega)⟩ rfl rfl
  refine G (T := T) 1000 rfl ?_
  refine If rfl (fun h => ?_) (fun h => ?_)
  · obtain ⟨n0, n1⟩ := ff (n := q2) (show (0 : Int) < 16 by omega)
    refine G (T := T) 1000 rfl ?_
    refine Cq (bQ (n := q2) (m := 16) (by omega) (by omega)) rfl rfl rfl rfl rfl ⟨rfl, rfl⟩ ?_
    generalize modR q2 16 = n at n0 n1 ⊢
    refine G (T := T) 1000 rfl ?_
    exact Fp (T := T) (xd (smD (.mk 4 eS ty4z 0 [e1] [] [.mk n eS ty4z 0 [] [] [] []] []))) ⟨_, rfl, (bJ ⟨by omega, by omega⟩ (by decide) ay ⟨by omega, by omega⟩ ⟨ko1, trivial⟩ trivial ⟨(bJ ⟨by omega, by omega⟩ (by decide) ay ⟨by omega, by omega⟩ trivial trivial trivial trivial), trivial⟩ trivial), (by simp only [Sm.size, Sm.sizes, Sm.csizes, Ex.sizes, Ty4.size, Ty4.sizes, ty4z]; omega)⟩ rfl rfl
  refine G (T := T) 1000 rfl ?_
  refine If rfl (fun h => ?_) (fun h => ?_)
  · refine G (T := T) 1000 rfl ?_
    exact Fp (T := T) (xd (smD (.mk 14 eS ty4z 0 [e2] [] [] []))) ⟨_, rfl, (bJ ⟨by omega, by omega⟩ (by decide) ay ⟨by omega, by omega⟩ ⟨ko2, trivial⟩ trivial trivial trivial), (by simp only [Sm.size, Sm.sizes, Sm.csizes, Ex.sizes, Ty4.size, Ty4.sizes, ty4z]; omega)⟩ rfl rfl
  refine G (T := T) 1000 rfl ?_
  obtain ⟨n0, n1⟩ := ff (n := q1) (show (0 : Int) < 16 by omega)
  refine Cq (bQ (n := q1) (m := 16) (by omega) (by omega)) rfl rfl rfl rfl rfl ⟨rfl, rfl⟩ ?_
  generalize modR q1 16 = n at n0 n1 ⊢
  refine G (T := T) 1000 rfl ?_
  exact Fp (T := T) (xd (smD (.mk n lb ty4z 0 [e2] [] [] []))) ⟨_, rfl, (bJ ⟨by omega, by omega⟩ hlb ay ⟨by omega, by omega⟩ ⟨ko2, trivial⟩ trivial trivial trivial), (by simp only [Sm.size, Sm.sizes, Sm.csizes, Ex.sizes, Ty4.size, Ty4.sizes, ty4z]; omega)⟩ rfl rfl
end
end Go.Proofs.YtlmahofogapkgaaGreatDoor.X
namespace Go.Proofs.YtlmahofogapkgaaGreatDoor.K
open Go Go.RowKit
theorem bJ {k n : Int} {nm : ByteArray} {t : Ty4} {xs : List Ex} {b el : List Sm} {cs : List (List Sm)} (hk : I64 k) (hn : nm.size ≤ 1000000) (ht : t.ok) (h0 : 0 ≤ n ∧ n ≤ 65535) (hx : Ex.oks xs) (hb : Sm.oks b) (he : Sm.oks el) (hc : Sm.okc cs) : (Sm.mk k nm t n xs b el cs).ok := ⟨hk, hn, ht, h0, hx, hb, he, hc⟩
theorem dL {q0 q1 q2 : Int} (i0 : I64 q0) (i1 : I64 q1) (i2 : I64 q2) {w0 : World} {H : Hp} {own : List Seg} : Fn Tryz.prog 27 [.agg #[.int .i64 q0, .int .i64 q1, .int .i64 q2]] w0 H own (fun r o H' => ∃ c0 c1 c2 c3 c4 c5 c6 c7 c8 c9 c10 s, r = .agg #[c0, c1, c2, c3, c4, c5, c6, c7, c8, c9, c10] ∧ RdL H' (Sm.d s) [c0, c1, c2, c3, c4, c5, c6, c7, c8, c9, c10] ∧ s.ok ∧ s.size ≤ 100 ∧ o = own ∧ Le H H') := by
  have ha : ∀ H, X.rdL H [.c (.int .i64 q0), .c (.int .i64 q1), .c (.int .i64 q2)] [.int .i64 q0, .int .i64 q1, .int .i64 q2] := fun H => by simp only [X.rdL, X.rd]; exact ⟨⟨trivial, rfl⟩, ⟨trivial, rfl⟩, ⟨trivial, rfl⟩, trivial⟩
  refine (X.XP.toFn (X.dL (pk := X.pkO)) id trivial (vals := [.agg #[.int .i64 q0, .int .i64 q1, .int .i64 q2]]) ⟨⟨_, rfl, ha H⟩, trivial⟩).mono fun r o H' ⟨⟨R, ⟨s, hR, hs, hz⟩, h1⟩, h2, h3⟩ => ?_
  subst hR
  obtain ⟨⟨us⟩, rfl, h⟩ := h1
  have hl : 11 = us.length := X.rdL.len h
  match us, hl, h with
  | [a0, a1, a2, a3, a4, a5, a6, a7, a8, a9, b0], _, h => exact ⟨a0, a1, a2, a3, a4, a5, a6, a7, a8, a9, b0, s, rfl, X.cvl.oldL h (X.cvl_sm s), hs, hz, h2, h3⟩
open Go.Proofs
theorem mod13 {n m : Int} (hn : I64 n) (hm : 0 < m) (hm2 : m ≤ 1099511627776) {w0 : World} {H : Hp} {own : List Seg} : Fn Tryz.prog 26 [.int .i64 n, .int .i64 m] w0 H own (fun r o H' => r = .int .i64 (n % m) ∧ o = own ∧ Le H H') := by
  have b1 := Int.tmod_lt_of_pos n hm
  have b2 := Int.lt_tmod_of_pos n hm
  refine Fn.enter Tryz.func26 rfl Tryz.ntmps26 rfl ?_; have hL := Le.refl H; refine Y9 ?_; refine TL.rem rfl rfl rfl (by omega) ?_; refine Y1 ?_; refine TL.add rfl rfl rfl ⟨by omega, by omega⟩ ?_; refine Y1 ?_; refine TL.rem rfl rfl rfl (by omega) ?_; refine Y4 ?_; refine TQ.ret1 0 rfl rfl ?_
  exact ⟨by rw [mod_eq hm], rfl, hL⟩
theorem dJ {p : Prop} (h : p := by
  refine TQ.merge5 ?_
  refine TQ.freeze (fun H9 hle9 hz9 => ?_)
  obtain ⟨p9, hr9, hok9⟩ := j9 hTs hGs hFs hle9 hz9
  exact TQ.mid [(4, _), (5, _)] ⟨rfl, rfl, trivial⟩ ⟨_, _, _, p9, hr9, hok9, rfl, rfl, Le.trans hcut hle9⟩) : p := h
theorem tn4s0 {p q : Prop} (k : q) (h : W9 q → p := by (intro yq; refine Qj 6 0 (c' := #[_, _, _]) (own' := _ :: _ :: _ :: _ :: _ :: _ :: [(_, .cells #[_, _, _] _ _)] :: _) rfl rfl rfl rfl rfl ⟨rfl, rfl, rfl, trivial⟩ (by simp) rfl rfl rfl ?_; exact yq.1)) : p := h ⟨k⟩
theorem tn4s1 {p q : Prop} (k : q) (h : W9 q → p := by (intro yq; refine TL.indexArr (2) rfl rfl rfl (by omega) rfl ?_; exact yq.1)) : p := h ⟨k⟩
theorem tn4s2 {p q : Prop} (k : q) (h : W9 q → p := by (intro yq; refine Qe (mod13 i2 (by omega) (by omega)) ⟨rfl, rfl, trivial⟩ rfl ?_; exact yq.1)) : p := h ⟨k⟩
theorem kj {p q : Prop} (k : q) (h : W9 q → p := by (intro yq; refine TL.indexArr (1) rfl rfl rfl (by omega) rfl ?_; exact yq.1)) : p := h ⟨k⟩
theorem gJ {p q : Prop} (k : q) (h : W9 q → p := by (intro yq; refine Qf 8 0 rfl rfl rfl rfl rfl ?_; exact yq.1)) : p := h ⟨k⟩
theorem lj {p q : Prop} (k : q) (h : W9 q → p := by (intro yq; refine Qe (mod13 i1 (by omega) (by omega)) ⟨rfl, rfl, trivial⟩ rfl ?_; exact yq.1)) : p := h ⟨k⟩
theorem tn4s6 {p q : Prop} (k : q) (h : W9 q → p := by (intro yq; refine TL.store1 4 0 (c' := _) (own' := _ :: _ :: _ :: _ :: _ :: _) rfl rfl rfl rfl rfl (by first | omega | (simp; omega)) rfl rfl rfl ?_; exact yq.1)) : p := h ⟨k⟩
theorem iy {p q : Prop} (k : q) (h : W9 q → p := by (intro yq; refine TQ.sv 10 [2,3,4,5,6,1,7] ?_; exact yq.1)) : p := h ⟨k⟩
theorem tn4s8 {p q : Prop} (k : q) (h : W9 q → p := by (intro yq; refine TL.store1 3 0 (c' := _) (own' := _ :: _ :: _ :: _ :: _) rfl rfl rfl rfl rfl (by first | omega | (simp; omega)) rfl rfl rfl ?_; exact yq.1)) : p := h ⟨k⟩
theorem tn4s9 {p q : Prop} (k : q) (h : W9 q → p := by (intro yq; refine TL.toOwn (own' := _ :: _ :: _ :: _ :: _ :: _ :: _ :: _ :: _ :: _ :: own) rfl ?_; exact yq.1)) : p := h ⟨k⟩
theorem m6 {p q : Prop} (k : q) (h : W9 q → p := by (intro yq; refine Qb 3 0 [_, _, _, _] rfl rfl rfl ⟨hrg.midAt hplg (k := 1) rfl, hrg.midAt hplg (k := 2) rfl, hrg.midAt hplg (k := 3) rfl, hrg.midAt hplg (k := 4) rfl, trivial⟩ rfl rfl ?_; exact yq.1)) : p := h ⟨k⟩
theorem tn4s11 {p q : Prop} (k : q) (h : W9 q → p := by (intro yq; refine TL.litF (r := [_, _, _, _]) [(0, [_, _, _, _])] ⟨rfl, ⟨_, rfl, rfl⟩, trivial⟩ rfl rfl rfl rfl ?_; exact yq.1)) : p := h ⟨k⟩
theorem tn4s12 {p q : Prop} (k : q) (h : W9 q → p := by (intro yq; refine Ql [(0, [_]), (1, [_, _, _, _])] ⟨rfl, ⟨_, rfl, rfl⟩, rfl, ⟨_, rfl, rfl⟩, trivial⟩ rfl rfl ?_; exact yq.1)) : p := h ⟨k⟩
theorem eX {p q : Prop} (k : q) (h : W9 q → p := by (intro yq; refine TL.toOwn (own' := _ :: _) rfl ?_; exact yq.1)) : p := h ⟨k⟩
theorem tn4s14 {p q : Prop} (k : q) (h : W9 q → p := by (intro yq; refine Ql [(0, [_]), (1, [_])] ⟨rfl, ⟨_, rfl, rfl⟩, rfl, ⟨_, rfl, rfl⟩, trivial⟩ rfl rfl ?_; exact yq.1)) : p := h ⟨k⟩
theorem m7 {p q : Prop} (k : q) (h : W9 q → p := by (intro yq; refine TL.toOwn (own' := _ :: _ :: _ :: _ :: _ :: _ :: _ :: _ :: _ :: _ :: _ :: own) rfl ?_; exact yq.1)) : p := h ⟨k⟩
theorem tn4s16 {p q : Prop} (k : q) (h : W9 q → p := by (intro yq; refine TL.litF (r := [_, _, _, _, _, _, _, _, _, _, _]) [(0, [_, _, _, _, _, _, _, _, _, _, _])] ⟨rfl, ⟨_, rfl, rfl⟩, trivial⟩ rfl rfl rfl rfl ?_; exact yq.1)) : p := h ⟨k⟩
theorem tn4s17 {p q : Prop} (k : q) (h : W9 q → p := by (intro yq; refine TL.append 1 rfl rfl rfl hrb (Src.ofOwn 0 0 rfl rfl rfl (Ones.all (show Ones [_, _, _, _, _, _, _, _, _, _, _] from ⟨by rfl, by rfl, by rfl, by rfl, by rfl, by rfl, by rfl, by rfl, by rfl, by rfl, by rfl, trivial⟩)) ⟨rfl, rfl, rfl, rfl, rfl, rfl, rfl, rfl, rfl, rfl, rfl, trivial⟩) (by omega) (by omega) rfl ?_; exact yq.1)) : p := h ⟨k⟩
theorem km {p : Pg} {B : Nat} (hB : B ≤ 900000000) (hok : p.ok B) {q0 q1 q2 : Int} (i0 : I64 q0) (i1 : I64 q1) (i2 : I64 q2) {w0 : World} {H : Hp} {own : List Seg} {c0 c1 c2 : Value} (ht : RdL H p.d [c0, c1, c2]) : Fn Tryz.prog 10 [.agg #[c0, c1, c2], .agg #[.int .i64 q0, .int .i64 q1, .int .i64 q2]] w0 H own (fun r o H' => ∃ d0 d1 d2 p', r = .agg #[d0, d1, d2] ∧ RdL H' (Pg.d p') [d0, d1, d2] ∧ p'.ok (B + 200) ∧ o = own ∧ Le H H') := by
  have hlt := hok.tl; have hlg := hok.gl; have hlf := hok.fl; refine Fn.enter Tryz.func10 rfl Tryz.ntmps10 rfl ?_; have hL := Le.refl H; refine Y3 ?_; intro g2
  refine Y1 ?_; intro g3
  refine Y1 ?_; intro g4; refine Y4 ?_; refine Qb 2 0 [_, _, _] rfl rfl rfl ⟨rfl, rfl, rfl, trivial⟩ rfl rfl ?_; refine Qe (ref_Own hB hok (q2 % (p.fs.length : Int)).toNat ht) ⟨rfl, trivial⟩ rfl ?_
  rintro _ _ H12 ⟨vt, vg, vf, rt, rg, rf, sp, sb, xsf, rfl, hT, hG, hrow, hF, rfl, hle12⟩
  have hL := Le.trans hL hle12
  refine Y1 ?_; intro g5; refine Qj 0 0 (c' := #[_, _, _]) (own' := [(_, .cells #[_, _, _] _ _)] :: _) rfl rfl rfl rfl rfl ⟨hT.one, hG.one, hrow.one, trivial⟩ (by simp) rfl rfl rfl ?_; refine Y4 ?_
  obtain ⟨xst, hrt, hxt⟩ := hT
  obtain ⟨xsg, hrg, hxg⟩ := hG
  obtain ⟨At, kt, rfl, _, _⟩ := hrt.asl
  obtain ⟨Ag, kg, rfl, _, _⟩ := hrg.asl
  obtain ⟨Af, kf, rfl, _, _⟩ := hrow.asl
  have hots : ∀ t ∈ p.ts, t.ok (B + 200) := fun t h => (hok.t t h).mono (by omega)
  have hogs : ∀ t ∈ p.gs, t.ok (B + 200) := fun t h => (hok.g t h).mono (by omega)
  have hofs : ∀ t ∈ p.fs, t.ok (B + 200) := fun t h => (hok.f t h).mono (by omega)
  have hTs := TsR.of (C := B + 200) (by omega) hots hrt hxt
  have hGs := GsR.of (C := B + 200) (by omega) hogs hrg hxg
  have hFs := FsR.of (C := B + 200) (by omega) hofs hrow hF
  refine Y4 ?_
  refine TL.eqlB rfl rfl rfl (fun hz16 => ?_) (fun hz16 => ?_); {
  refine Y12 ?_; refine tn4s0 ?_; refine Y4 ?_
  refine TQ.sv 9 [1,2,3,4,5,6] ?_
  refine TQ.merge5 ?_
  refine TQ.freeze (fun H1 hle hz_R5 => ?_)
  have hL := Le.trans hL hle; have hTs := TsR.mono hle hTs; have hGs := GsR.mono hle hGs; have hFs := FsR.mono hle hFs
  obtain ⟨p9, hr9, hok9⟩ := j9 hTs hGs hFs (Le.refl _) hz_R5
  refine TQ.retC 0 0 1 [_, _, _] rfl rfl rfl rfl ⟨rfl, rfl, rfl, trivial⟩ rfl rfl ?_
  exact ⟨_, _, _, p9, rfl, hr9, hok9, rfl, hL⟩}; {
  refine Y8 ?_
  refine TL.eqlB rfl rfl rfl (fun hz21 => ?_) (fun hz21 => ?_); {
  refine Y7 ?_; refine tn4s0 ?_; refine Y4 ?_
  refine TQ.sv 9 [1,2,3,4,5,6] ?_
  refine TQ.merge5 ?_
  refine TQ.freeze (fun H2 hle hz_R5 => ?_)
  have hL := Le.trans hL hle; have hTs := TsR.mono hle hTs; have hGs := GsR.mono hle hGs; have hFs := FsR.mono hle hFs
  obtain ⟨p9, hr9, hok9⟩ := j9 hTs hGs hFs (Le.refl _) hz_R5
  refine TQ.retC 0 0 1 [_, _, _] rfl rfl rfl rfl ⟨rfl, rfl, rfl, trivial⟩ rfl rfl ?_
  exact ⟨_, _, _, p9, rfl, hr9, hok9, rfl, hL⟩}; {
  refine Y7 ?_
  obtain ⟨bf, curf, rfl, rfl⟩ := hrow.blk9 (by omega)
  obtain ⟨bg, curg, rfl, rfl⟩ := hrg.blk9 (by omega)
  have mf1 := Int.emod_nonneg q2 (show (p.fs.length : Int) ≠ 0 by omega)
  have mf2 := Int.emod_lt_of_pos q2 (show (0 : Int) < p.fs.length by omega)
  have mg1 := Int.emod_nonneg q2 (show (p.gs.length : Int) ≠ 0 by omega)
  have mg2 := Int.emod_lt_of_pos q2 (show (0 : Int) < p.gs.length by omega)
  have hjf : (q2 % (p.fs.length : Int)).toNat < p.fs.length := by omega
  have hjg : (q2 % (p.gs.length : Int)).toNat < p.gs.length := by omega
  obtain ⟨f, pre, post, cj, hfj, rfl, hpre, hpost, hFu⟩ := hF.at hjf
  obtain ⟨vp, t0, t1, t2, t3, vb, rfl, hres, ⟨xsp, hrp, hxp⟩, ⟨xsb, hrb, hxb⟩⟩ := hFu
  obtain ⟨g, hgj⟩ : ∃ g, p.gs[(q2 % (p.gs.length : Int)).toNat]? = some g := ⟨_, List.getElem?_eq_getElem hjg⟩
  obtain ⟨preg, mg, postg, rfl, hpreg, hmid, hpostg⟩ := ds_part Gb.d_len hxg hgj
  obtain ⟨e0, e1, e2, e3, e4, e5, e6, e7, rfl⟩ := list_8 (by rw [← hmid.len]; exact Gb.d_len g)
  obtain ⟨rfl, hgt, rfl, rfl, rfl⟩ := nv hmid
  have hpl : pre.length = 0 + (q2 % (p.fs.length : Int)).toNat * 10 := by rw [pre_len Fu.d_len hjf hpre]; omega
  have hplg : preg.length = 0 + (q2 % (p.gs.length : Int)).toNat * 8 := by rw [pre_len Gb.d_len hjg hpreg]; omega
  have hszf := hrow.size_le; have hszg := hrg.size_le
  obtain ⟨fo1, fo2, fo3, fo4, fo5, fo6, fo7, fo8, fo9⟩ := hok.f f (List.mem_of_getElem? hfj)
  obtain ⟨go1, go2, go3, go4, go5, go6⟩ := hok.g g (List.mem_of_getElem? hgj)
  have fo2' : f.ps.length ≤ B + 200 := by omega
  have fo5' : f.res.size ≤ B + 200 := by omega
  have fo7' : Sm.sizes f.body ≤ B + 200 := by omega
  have go3' : g.ty.size ≤ B + 200 := by omega
  have go6' : g.bytes.size ≤ B + 200 := by omega
  have fo3' : ∀ x ∈ f.ps, x.ok (B + 200) := fun x h => (fo3 x h).mono (by omega)
  obtain ⟨o1, o2, o3, o4, _⟩ := gk hgt
  obtain ⟨Ap, kp, rfl, _, _⟩ := hrp.asl
  obtain ⟨Ab, kb, rfl, _, _⟩ := hrb.asl
  have hsl := Sm.len_le f.body; have hl7 := hxb.len
  rw [bM Sm.d_len] at hl7
  refine TC.drawQV 8  [(0, _), (1, _), (2, _), (3, _), (4, _), (5, _)] ai ⟨rfl, rfl, rfl, rfl, rfl, rfl, trivial⟩ ?_; refine YQ (some 24) [] ?_; refine YQ (some 25) [(0, 0)] ?_
  refine Qa (some 26) [] (by
  intro H' X F hle hF; refine tn4s1 ?_
  exact Qi hF) ?_
  refine Qa (some 27) [(2, 0)] (by
  intro H' X F hle; have hL := Le.trans hL hle; intro hF; refine Qf 7 0 rfl rfl rfl rfl rfl ?_
  exact Qi hF) ?_
  refine YQ (some 28) [] ?_; refine YQ (some 29) [(4, 0)] ?_; refine YQ (some 30) [(5, 0)] ?_
  refine Qa (some 31) [(3, 3), (6, 0)] (by
  intro H' X F hle; have hL := Le.trans hL hle; intro hF; refine tn4s2 ?_
  rintro _ own H31 ⟨rfl, rfl, hle31⟩
  have hL := Le.trans hL hle31; refine Y1 ?_
  exact Qc [] hF hle31 ⟨rfl, rfl⟩) ?_
  refine ⟨by kernel_rfl, .refl _, ?_⟩; {
  intro H3 hle; have hL := Le.trans hL hle; have hxt := RdL.mono hle hxt; have hTs := TsR.mono hle hTs; have hGs := GsR.mono hle hGs; have hFs := FsR.mono hle hFs; have hpre := RdL.mono hle hpre; have hpost := RdL.mono hle hpost; have hres := RdL.mono hle hres; have hxp := RdL.mono hle hxp; have hxb := RdL.mono hle hxb; have hpreg := RdL.mono hle hpreg; have hpostg := RdL.mono hle hpostg; have hgt := RdL.mono hle hgt; refine TL.toOwn (own' := _ :: _ :: _ :: _ :: _ :: _ :: _ :: _ :: _ :: own) rfl ?_; refine TL.wk (env' := [(0, _), (1, _), (2, _), (3, _), (4, _), (5, _), (25, _), (31, _)]) ⟨rfl, rfl, rfl, rfl, rfl, rfl, rfl, rfl, trivial⟩ ?_; refine Qg ((q2 % (p.fs.length : Int)).toNat) rfl rfl (by omega) (by omega) rfl ?_; refine Y4 ?_
  refine TC.drawQV 8  [(0, _), (1, _), (2, _), (3, _), (4, _), (5, _), (6, _)] ai ⟨rfl, rfl, rfl, rfl, rfl, rfl, rfl, trivial⟩ ?_; refine YQ (some 33) [] ?_; refine YQ (some 34) [(0, 0)] ?_
  refine Qa (some 35) [] (by
  intro H' X F hle hF; refine tn4s1 ?_
  exact Qi hF) ?_
  refine Qa (some 36) [(2, 0)] (by
  intro H' X F hle; have hL := Le.trans hL hle; intro hF; refine Qf 7 0 rfl rfl rfl rfl rfl ?_
  exact Qi hF) ?_
  refine YQ (some 37) [] ?_; refine YQ (some 38) [(4, 0)] ?_; refine YQ (some 39) [(5, 0)] ?_
  refine Qa (some 40) [(3, 3), (6, 0)] (by
  intro H' X F hle; have hL := Le.trans hL hle; intro hF; refine tn4s2 ?_
  rintro _ own H40 ⟨rfl, rfl, hle40⟩
  have hL := Le.trans hL hle40; refine Y1 ?_
  exact Qc [] hF hle40 ⟨rfl, rfl⟩) ?_
  refine ⟨by kernel_rfl, .refl _, ?_⟩; {
  intro H4 hle; have hL := Le.trans hL hle; have hxt := RdL.mono hle hxt; have hTs := TsR.mono hle hTs; have hGs := GsR.mono hle hGs; have hFs := FsR.mono hle hFs; have hpre := RdL.mono hle hpre; have hpost := RdL.mono hle hpost; have hres := RdL.mono hle hres; have hxp := RdL.mono hle hxp; have hxb := RdL.mono hle hxb; have hpreg := RdL.mono hle hpreg; have hpostg := RdL.mono hle hpostg; have hgt := RdL.mono hle hgt; refine TL.toOwn (own' := _ :: _ :: _ :: _ :: _ :: _ :: _ :: _ :: _ :: own) rfl ?_; refine TL.wk (env' := [(0, _), (1, _), (2, _), (3, _), (4, _), (5, _), (6, _), (34, _), (40, _)]) ⟨rfl, rfl, rfl, rfl, rfl, rfl, rfl, rfl, rfl, trivial⟩ ?_; refine Qg ((q2 % (p.gs.length : Int)).toNat) rfl rfl (by omega) (by omega) rfl ?_; refine Y5 ?_
  refine TL.litF (r := [_, _, _, _, _, _, _]) [(0, [_]), (1, [_]), (2, [_]), (3, [_]), (4, [_]), (5, [_]), (6, [_])] ⟨rfl, ⟨_, rfl, rfl⟩, rfl, ⟨_, rfl, rfl⟩, rfl, ⟨_, rfl, rfl⟩, rfl, ⟨_, rfl, rfl⟩, rfl, ⟨_, rfl, rfl⟩, rfl, ⟨_, rfl, rfl⟩, rfl, ⟨_, rfl, rfl⟩, trivial⟩ rfl rfl rfl rfl ?_; intro g42; refine Y4 ?_
  have m7a := Int.emod_nonneg q1 (show (7 : Int) ≠ 0 by omega)
  have m7b := Int.emod_lt_of_pos q1 (show (0 : Int) < 7 by omega)
  obtain ⟨nm, hnm, hnms⟩ := name_at (j := (q1 % 7).toNat) (by omega)
  refine Y2 ?_; refine kj ?_; refine gJ ?_; refine lj ?_
  rintro _ own H46 ⟨rfl, rfl, hle46⟩
  have hL := Le.trans hL hle46; have hxt := RdL.mono hle46 hxt; have hTs := TsR.mono hle46 hTs; have hGs := GsR.mono hle46 hGs; have hFs := FsR.mono hle46 hFs; have hpre := RdL.mono hle46 hpre; have hpost := RdL.mono hle46 hpost; have hres := RdL.mono hle46 hres; have hxp := RdL.mono hle46 hxp; have hxb := RdL.mono hle46 hxb; have hpreg := RdL.mono hle46 hpreg; have hpostg := RdL.mono hle46 hpostg; have hgt := RdL.mono hle46 hgt; refine Qg ((q1 % 7).toNat) rfl rfl (by omega) (by show _ < 7; omega) rfl ?_
  refine Qf 0 0 rfl rfl rfl hnm rfl ?_; refine Y3 ?_
  refine TC.cut (fun env' own' H' => ∃ v0 v1 v2 p9, RdL H' (Pg.d p9) [v0, v1, v2] ∧ p9.ok (B + 200) ∧ env' = [(4, .pointer (some ⟨g4, 0, none⟩)), (5, .pointer (some ⟨g5, 0, none⟩))] ∧ own' = [(g5, .cells #[v0, v1, v2] 29 (0, 0))] :: [(g4, .cells #[.slice none 0 0, .slice none 0 0, .slice none 0 0] 29 (0, 0))] :: own ∧ Le H46 H') ?_ ?_; {
  have hcut := Le.refl H46; refine Y2 ?_; refine TL.indexArr (0) rfl rfl rfl (by omega) rfl ?_; refine gJ ?_; refine Qe (mod13 i0 (by omega) (by omega)) ⟨rfl, rfl, trivial⟩ rfl ?_
  rintro _ own H51 ⟨rfl, rfl, hle51⟩
  have hL := Le.trans hL hle51; have hxt := RdL.mono hle51 hxt; have hTs := TsR.mono hle51 hTs; have hGs := GsR.mono hle51 hGs; have hFs := FsR.mono hle51 hFs; have hpre := RdL.mono hle51 hpre; have hpost := RdL.mono hle51 hpost; have hres := RdL.mono hle51 hres; have hxp := RdL.mono hle51 hxp; have hxb := RdL.mono hle51 hxb; have hpreg := RdL.mono hle51 hpreg; have hpostg := RdL.mono hle51 hpostg; have hgt := RdL.mono hle51 hgt; have hcut := Le.trans hcut hle51; refine Y5 ?_
  refine TL.eqlB rfl rfl rfl (fun h5 => ?_) (fun h5 => ?_); {
  refine Y4 ?_
  have hFs := FsR.mk (f := { f with nm := nm }) hjf (by omega) hofs hpre hpost (hrow.midPut (k := 0) (vs := [.string nm]) hpl (by simp)) (FuJ.mk hres ⟨xsp, hrp, hxp⟩ ⟨xsb, hrb, hxb⟩) ⟨hnms, fo2', fo3', fo4, fo5', fo6, fo7', fo8, fo9⟩
  refine Y5 ?_; refine tn4s6 ?_
  refine Y2 ?_
  refine iy ?_
  exact dJ}; {
  refine Y6 ?_
  refine TL.eqlB rfl rfl rfl (fun h6 => ?_) (fun h6 => ?_); {
  refine Y4 ?_
  have hGs := GsR.mk (g := { g with nm := nm }) hjg (by omega) hogs hpreg hpostg (hrg.midPut (k := 0) (vs := [.string nm]) hplg (by simp)) (jN hgt) ⟨hnms, go2, go3', go4, go5, go6'⟩
  refine Y5 ?_; refine tn4s8 ?_
  refine Y2 ?_
  refine iy ?_
  exact dJ}; {
  refine Y6 ?_
  refine TL.eqlB rfl rfl rfl (fun h7 => ?_) (fun h7 => ?_); {
  refine Y4 ?_; refine TC.drawQV 11  [(0, _), (1, _), (2, _), (3, _), (4, _), (5, _), (6, _), (7, _), (8, _), (9, _), (51, _)] ai ⟨rfl, rfl, rfl, rfl, rfl, rfl, rfl, rfl, rfl, rfl, rfl, trivial⟩ ?_; refine YQ (some 93) [] ?_; refine YQ (some 94) [] ?_; refine YQ (some 95) [(1, 0)] ?_; refine YQ (some 96) [(2, 0)] ?_
  refine Qa (some 97) [(3, 0)] (by
  intro H' X F hle; have hL := Le.trans hL hle; intro hF; refine Qf 3 0 rfl rfl rfl (hrg.midAt hplg (k := 6) rfl) rfl ?_
  exact Qi hF) ?_
  refine Qa (some 98) [] (by
  intro H' X F hle hF; refine kj ?_
  exact Qi hF) ?_
  refine Qa (some 99) [(5, 0)] (by
  intro H' X F hle; have hL := Le.trans hL hle; intro hF; refine gJ ?_
  exact Qi hF) ?_
  refine Qa (some 100) [(6, 0)] (by
  intro H' X F hle; have hL := Le.trans hL hle; intro hF; refine lj ?_
  rintro _ own H100 ⟨rfl, rfl, hle100⟩
  have hL := Le.trans hL hle100; refine Y1 ?_
  exact Qc [] hF hle100 ⟨rfl, rfl⟩) ?_
  refine YQ (some 101) [(7, 0)] ?_
  refine Qa (some 102) [(4, 4), (8, 0)] (by
  intro H' X F hle hF; refine TL.addW rfl rfl rfl ?_
  exact Qi hF) ?_
  refine YQ (some 103) [(9, 0)] ?_
  refine ⟨by kernel_rfl, .refl _, ?_⟩; {
  intro H8 hle; have hL := Le.trans hL hle; have hTs := TsR.mono hle hTs; have hGs := GsR.mono hle hGs; have hFs := FsR.mono hle hFs; have hpreg := RdL.mono hle hpreg; have hpostg := RdL.mono hle hpostg; have hgt := RdL.mono hle hgt; have hcut := Le.trans hcut hle; refine tn4s9 ?_; refine TL.wk (env' := [(0, _), (1, _), (2, _), (3, _), (4, _), (5, _), (6, _), (7, _), (8, _), (9, _), (51, _), (93, _), (103, _)]) ⟨rfl, rfl, rfl, rfl, rfl, rfl, rfl, rfl, rfl, rfl, rfl, rfl, rfl, trivial⟩ ?_
  have hGs := GsR.mk (g := { g with addr := IntKind.u16.wrap (IntKind.u16.wrap (g.addr + IntKind.u16.wrap (q1 % 50)) - 25) }) hjg (by omega) hogs hpreg hpostg (hrg.midPut (k := 6) (vs := [.int .u16 (IntKind.u16.wrap (IntKind.u16.wrap (g.addr + IntKind.u16.wrap (q1 % 50)) - 25))]) hplg (by simp)) (jN hgt) ⟨go1, go2, go3', go4, (gI _), go6'⟩
  refine Y2 ?_; refine tn4s8 ?_
  refine Y2 ?_
  refine iy ?_
  exact dJ}}; {
  refine Y6 ?_
  refine TL.eqlB rfl rfl rfl (fun h9 => ?_) (fun h9 => ?_); {
  refine Y4 ?_
  have m66a := Int.emod_nonneg q1 (show (66 : Int) ≠ 0 by omega)
  have m66b := Int.emod_lt_of_pos q1 (show (0 : Int) < 66 by omega)
  have hGs := GsR.mk (g := { g with bank := q1 % 66 - 1 }) hjg (by omega) hogs hpreg hpostg (hrg.midPut (k := 5) (vs := [.int .i64 (q1 % 66 - 1)]) hplg (by simp)) (jN hgt) ⟨go1, go2, go3', (show I64 (q1 % 66 - 1) from ⟨by omega, by omega⟩), go5, go6'⟩
  refine Y2 ?_; refine kj ?_; refine gJ ?_; refine lj ?_
  rintro _ own H111 ⟨rfl, rfl, hle111⟩
  have hL := Le.trans hL hle111; have hTs := TsR.mono hle111 hTs; have hGs := GsR.mono hle111 hGs; have hFs := FsR.mono hle111 hFs; have hcut := Le.trans hcut hle111; refine TL.sub rfl rfl rfl ⟨by omega, by omega⟩ ?_; refine Y2 ?_; refine tn4s8 ?_
  refine Y2 ?_
  refine iy ?_
  exact dJ}; {
  refine Y6 ?_
  refine TL.eqlB rfl rfl rfl (fun h10 => ?_) (fun h10 => ?_); {
  refine Y4 ?_
  have hb22 : (g.bytes ++ (⟨#[120]⟩ : ByteArray)).size ≤ B + 1 := by rw [ByteArray.size_append]; show g.bytes.size + 1 ≤ _; omega
  have hGs := GsR.mk (g := { g with bytes := g.bytes ++ (⟨#[120]⟩ : ByteArray) }) hjg (by omega) hogs hpreg hpostg (hrg.midPut (k := 7) (vs := [.string (g.bytes ++ (⟨#[120]⟩ : ByteArray))]) hplg (by simp)) (jN hgt) ⟨go1, go2, go3', go4, go5, (by show (g.bytes ++ (⟨#[120]⟩ : ByteArray)).size ≤ _; omega)⟩
  refine Y5 ?_; refine Qf 3 0 rfl rfl rfl (hrg.midAt hplg (k := 7) rfl) rfl ?_; refine TL.addS rfl rfl rfl (by show g.bytes.size + 1 ≤ _; omega) ?_
  refine Y2 ?_; refine tn4s8 ?_
  refine Y2 ?_
  refine iy ?_
  exact dJ}; {
  refine Y6 ?_
  refine TL.eqlB rfl rfl rfl (fun h11 => ?_) (fun h11 => ?_); {
  refine Y4 ?_
  have m5a := Int.emod_nonneg q1 (show (5000 : Int) ≠ 0 by omega)
  have m5b := Int.emod_lt_of_pos q1 (show (0 : Int) < 5000 by omega)
  refine TC.drawQV 10  [(0, _), (1, _), (2, _), (3, _), (4, _), (5, _), (6, _), (7, _), (8, _), (9, _), (51, _)] ai ⟨rfl, rfl, rfl, rfl, rfl, rfl, rfl, rfl, rfl, rfl, rfl, trivial⟩ ?_; refine YQ (some 127) [] ?_
  refine Qa (some 128) [] (by
  intro H' X F hle hF; refine kj ?_
  exact Qi hF) ?_
  refine Qa (some 129) [(1, 0)] (by
  intro H' X F hle; have hL := Le.trans hL hle; intro hF; refine gJ ?_
  exact Qi hF) ?_
  refine Qa (some 130) [(2, 0)] (by
  intro H' X F hle; have hL := Le.trans hL hle; intro hF; refine lj ?_
  rintro _ own H130 ⟨rfl, rfl, hle130⟩
  have hL := Le.trans hL hle130; refine Y1 ?_
  exact Qc [] hF hle130 ⟨rfl, rfl⟩) ?_
  refine YQ (some 131) [] ?_; refine YQ (some 132) [(4, 0)] ?_; refine YQ (some 133) [(5, 0)] ?_
  refine Qa (some 134) [(6, 0)] (by
  intro H' X F hle; have hL := Le.trans hL hle; intro hF; refine m6 ?_
  exact Qi hF) ?_
  refine Qh (some 135) [(7, 0)] ([]) (fun _ => fun u sg H => rd H (.s 4 (ak Ty4.d [g.ty])) u ∧ sg = []) (by
  intro H' X F hle; have hL := Le.trans hL hle; have hgt := RdL.mono hle hgt; intro hF
  refine tn4s11 ?_; intro g135; refine Y1 ?_
  refine TQ.freeze (fun H3 hle3 hz => ?_)
  exact Qc [] hF hle3 ⟨rd.ofRow (Row.lit 60 4 1 _ _ rfl (by omega)) hz (nE hgt (ty4_nil _)) hle3, rfl⟩) ?_
  refine Qh (some 136) [(3, 5), (8, 0)] ([]) (fun _ => fun u sg H => ∃ d0 d1 d2 d3, u = .agg #[d0, d1, d2, d3] ∧ RdL H (Ty4.d (.mk 5 eS (q1 % 5000) [g.ty])) [d0, d1, d2, d3] ∧ sg = []) (by
  intro H' X F hle; have hL := Le.trans hL hle; intro _
  rintro v135 _ Hi135 hle135 ⟨hr135, rfl⟩
  replace hr135 := rd.mono hle135 hr135
  intro hF; refine Ql [(0, [_]), (2, [_]), (3, [_])] ⟨rfl, ⟨_, rfl, rfl⟩, rfl, ⟨_, rfl, rfl⟩, rfl, ⟨_, rfl, bq hr135.one⟩, trivial⟩ rfl rfl ?_; refine Y1 ?_
  exact Qc [] hF (Le.refl _) ⟨_, _, _, _, rfl, ty4_mk hr135, rfl⟩) ?_
  refine ⟨by kernel_rfl, .refl _, ?_⟩; {
  intro H12 hle
  rintro v135 _ Hi135 hle135 ⟨hr135, rfl⟩
  rintro _ _ Hi136 hle136 ⟨x1360, x1361, x1362, x1363, rfl, hx136, rfl⟩
  replace hx136 := RdL.mono hle136 hx136
  have hL := Le.trans hL hle; have hTs := TsR.mono hle hTs; have hGs := GsR.mono hle hGs; have hFs := FsR.mono hle hFs; have hpreg := RdL.mono hle hpreg; have hpostg := RdL.mono hle hpostg; have hcut := Le.trans hcut hle; refine tn4s9 ?_; refine TL.wk (env' := [(0, _), (1, _), (2, _), (3, _), (4, _), (5, _), (6, _), (7, _), (8, _), (9, _), (51, _), (127, _), (136, _)]) ⟨rfl, rfl, rfl, rfl, rfl, rfl, rfl, rfl, rfl, rfl, rfl, rfl, rfl, trivial⟩ ?_
  have hGs := GsR.mk (g := { g with ty := .mk 5 eS (q1 % 5000) [g.ty] }) hjg (by omega) hogs hpreg hpostg (hrg.midPut (k := 1) (vs := [x1360, x1361, x1362, x1363]) hplg (by simp)) (jN hx136) ⟨go1, (show Ty4.ok (.mk 5 eS (q1 % 5000) [g.ty]) from ⟨⟨by omega, by omega⟩, by decide, ⟨by omega, by omega⟩, go2, trivial⟩), (by show Ty4.size (.mk 5 eS _ [g.ty]) ≤ _; simp only [Ty4.size, Ty4.sizes]; omega), go4, go5, go6'⟩
  refine Y2 ?_; refine Qj 3 0 (c' := _) (own' := _ :: _ :: _ :: _ :: _) rfl rfl rfl rfl rfl (gk hx136) (by first | (show _ + 4 ≤ _; omega) | (show _ + 2 ≤ _; omega) | (show _ + 11 ≤ _; omega)) rfl rfl rfl ?_
  refine Y2 ?_
  refine iy ?_
  exact dJ}}; {
  refine Y6 ?_
  refine TL.eqlB rfl rfl rfl (fun h13 => ?_) (fun h13 => ?_); {
  refine Y4 ?_
  refine TC.sv 10 [5,0,1,2,3,4,6,7,8,9] ?_
  refine TC.drawCV 12  [(0, _), (1, _), (2, _), (3, _), (4, _), (5, _), (6, _), (7, _), (8, _), (9, _), (51, _)] ai ⟨rfl, rfl, rfl, rfl, rfl, rfl, rfl, rfl, rfl, rfl, rfl, trivial⟩ ?_; refine YQ (some 141) [] ?_; refine YQ (some 142) [] ?_; refine YQ (some 143) [(1, 0)] ?_; refine YQ (some 144) [(2, 0)] ?_
  refine Qa (some 145) [(3, 0)] (by
  intro H' X F hle; have hL := Le.trans hL hle; intro hF; refine Qf 4 0 rfl rfl rfl (hrow.midAt hpl (k := 1) rfl) rfl ?_
  exact Qi hF) ?_
  refine YQ (some 146) [] ?_; refine YQ (some 147) [(5, 0)] ?_; refine YQ (some 148) [(6, 0)] ?_
  refine Qa (some 149) [(7, 0)] (by
  intro H' X F hle; have hL := Le.trans hL hle; intro hF; refine m6 ?_
  exact Qi hF) ?_
  refine Qa (some 150) [(8, 0)] (by
  intro H' X F hle; have hL := Le.trans hL hle; intro hF; refine tn4s12 ?_
  exact Qi hF) ?_
  refine Qk true [] (some 151) [(9, 0)] ([]) (fun _ => fun u sg H => ∃ g, u = .slice (some ⟨g, 0, none⟩) 1 1 ∧ sg = [[(g, .cells #[.string ⟨#[97]⟩, e1, e2, e3, e4] 83 (0, 0))]]) (by
  intro H' X F hle; have hL := Le.trans hL hle; intro hF
  refine TL.litF (r := [_, _, _, _, _]) [(0, [_, _, _, _, _])] ⟨rfl, ⟨_, rfl, rfl⟩, trivial⟩ rfl rfl rfl rfl ?_; intro g151; refine Y1 ?_
  exact Qc [_] hF (Le.refl _) ⟨_, rfl, rfl⟩) ?_
  refine Qk false [10] (some 152) [(4, 6), (10, 0)] ([sp]) (fun _ => fun u sg H => ∃ s, RowD 83 5 Par.d H (f.ps ++ [⟨⟨#[97]⟩, g.ty⟩]) u s ∧ sg = [s]) (by
  intro H' X F hle; have hL := Le.trans hL hle; have hxp := RdL.mono hle hxp; have hgt := RdL.mono hle hgt; intro _
  rintro _ _ Hi151 hle151 ⟨gl151, rfl, rfl⟩
  intro hF; refine eX ?_; refine TL.append 1 rfl rfl rfl hrp (Src.ofOwn 0 0 rfl rfl rfl (Ones.all (show Ones [_, _, _, _, _] from ⟨rfl, o1, o2, o3, o4, trivial⟩)) ⟨rfl, rfl, rfl, rfl, rfl, trivial⟩) (by omega) (by omega) rfl ?_; intro u2 seg2 hrow2; refine Y1 ?_; refine TQ.drop 1 ?_
  exact Qc [_] hF (Le.refl _) ⟨_, RowD.snoc hrow2 hxp (par_mk hgt), rfl⟩) ?_
  refine ⟨by kernel_rfl, .refl _, ?_⟩; {
  intro H14 hle
  rintro _ _ Hi151 hle151 ⟨gl151, rfl, rfl⟩
  rintro v152 _ Hi152 hle152 ⟨s152, hr152, rfl⟩
  replace hr152 := RowD.mono hle152 hr152
  have hL := Le.trans hL hle; have hTs := TsR.mono hle hTs; have hGs := GsR.mono hle hGs; have hFs := FsR.mono hle hFs; have hpre := RdL.mono hle hpre; have hpost := RdL.mono hle hpost; have hres := RdL.mono hle hres; have hxb := RdL.mono hle hxb; have hcut := Le.trans hcut hle; refine tn4s9 ?_; refine TL.wk (env' := [(0, _), (1, _), (2, _), (3, _), (4, _), (5, _), (6, _), (7, _), (8, _), (9, _), (51, _), (141, _), (152, _)]) ⟨rfl, rfl, rfl, rfl, rfl, rfl, rfl, rfl, rfl, rfl, rfl, rfl, rfl, trivial⟩ ?_
  have hFs := FsR.mk (f := { f with ps := f.ps ++ [⟨⟨#[97]⟩, g.ty⟩] }) hjf (by omega) hofs hpre hpost (hrow.midPut (k := 1) (vs := [v152]) hpl (by simp)) (FuJ.mk hres hr152 ⟨xsb, hrb, hxb⟩) ⟨fo1, (by simp; omega), kh fo3' ⟨by show 1 ≤ 1000000; omega, go2, go3'⟩, fo4, fo5', fo6, fo7', fo8, fo9⟩
  refine Y2 ?_; refine TL.store1 5 0 (c' := _) (own' := _ :: _ :: _ :: _ :: _ :: _ :: _) rfl rfl rfl rfl hr152.one (by first | omega | (simp; omega)) rfl rfl rfl ?_
  refine Y2 ?_
  refine TQ.sv 10 [3,4,5,0,6,2,7] ?_
  exact dJ}}; {
  refine Y6 ?_
  refine TL.eqlB rfl rfl rfl (fun h15 => ?_) (fun h15 => ?_); {
  refine Y4 ?_
  have hFs := FsR.mk (f := { f with res := g.ty }) hjf (by omega) hofs hpre hpost (hrow.midPut (k := 2) (vs := [e1, e2, e3, e4]) hpl (by simp)) (FuJ.mk hgt ⟨xsp, hrp, hxp⟩ ⟨xsb, hrb, hxb⟩) ⟨fo1, fo2', fo3', go2, go3', fo6, fo7', fo8, fo9⟩
  refine Y5 ?_; refine m6 ?_; refine Y2 ?_; refine Qj 4 0 (c' := _) (own' := _ :: _ :: _ :: _ :: _ :: _) rfl rfl rfl rfl rfl ⟨o1, o2, o3, o4, trivial⟩ (by first | (show _ + 4 ≤ _; omega) | (show _ + 2 ≤ _; omega) | (show _ + 11 ≤ _; omega)) rfl rfl rfl ?_
  refine Y2 ?_
  refine iy ?_
  exact dJ}; {
  refine Y6 ?_
  refine TL.eqlB rfl rfl rfl (fun h16 => ?_) (fun h16 => ?_); {
  refine Y9 ?_; refine tn4s6 ?_
  refine Y2 ?_
  have m3a := Int.emod_nonneg q1 (show (3 : Int) ≠ 0 by omega)
  have m3b := Int.emod_lt_of_pos q1 (show (0 : Int) < 3 by omega)
  have hrow := hrow.midPut (k := 7) (vs := [.bool true]) hpl (by simp)
  have hFs := FsR.mk (f := { f with fl := true, x := q1 % 3, y := 4160 }) hjf (by omega) hofs hpre hpost (hrow.midPut (k := 8) (vs := [.int .i64 (q1 % 3), .int .u16 4160]) hpl (by simp [setL])) (FuJ.mk hres ⟨xsp, hrp, hxp⟩ ⟨xsb, hrb, hxb⟩) ⟨fo1, fo2', fo3', fo4, fo5', fo6, fo7', (show I64 (q1 % 3) from ⟨by omega, by omega⟩), (show (0 : Int) ≤ 4160 ∧ (4160 : Int) ≤ 65535 by omega)⟩
  refine Y2 ?_; refine kj ?_; refine gJ ?_; refine lj ?_
  rintro _ own H172 ⟨rfl, rfl, hle172⟩
  have hL := Le.trans hL hle172; have hTs := TsR.mono hle172 hTs; have hGs := GsR.mono hle172 hGs; have hFs := FsR.mono hle172 hFs; have hcut := Le.trans hcut hle172; refine tn4s14 ?_; refine Y2 ?_; refine Qj 4 0 (c' := _) (own' := _ :: _ :: _ :: _ :: _ :: _) rfl rfl rfl rfl rfl ⟨rfl, rfl, trivial⟩ (by show _ + 2 ≤ (Array.setIfInBounds _ _ _).size; rw [Array.size_setIfInBounds]; omega) rfl rfl rfl ?_
  refine Y2 ?_
  refine iy ?_
  exact dJ}; {
  refine Y6 ?_
  refine TL.eqlB rfl rfl rfl (fun h17 => ?_) (fun h17 => ?_); {
  refine Y4 ?_
  have m2a := Int.emod_nonneg q2 (show (2 : Int) ≠ 0 by omega)
  have m2b := Int.emod_lt_of_pos q2 (show (0 : Int) < 2 by omega)
  have m3a := Int.emod_nonneg q2 (show (3 : Int) ≠ 0 by omega)
  have m3b := Int.emod_lt_of_pos q2 (show (0 : Int) < 3 by omega)
  refine TC.drawQV 26  [(0, _), (1, _), (2, _), (3, _), (4, _), (5, _), (6, _), (7, _), (8, _), (9, _), (51, _)] ai ⟨rfl, rfl, rfl, rfl, rfl, rfl, rfl, rfl, rfl, rfl, rfl, trivial⟩ ?_; refine YQ (some 178) [] ?_; refine YQ (some 179) [(0, 0)] ?_; refine YQ (some 180) [] ?_; refine YQ (some 181) [] ?_; refine YQ (some 182) [(3, 0)] ?_; refine YQ (some 183) [(4, 0)] ?_
  refine Qa (some 184) [(5, 0)] (by
  intro H' X F hle; have hL := Le.trans hL hle; intro hF; refine m6 ?_
  exact Qi hF) ?_
  refine Qa (some 185) [(6, 0)] (by
  intro H' X F hle; have hL := Le.trans hL hle; intro hF; refine tn4s12 ?_
  exact Qi hF) ?_
  refine Qh (some 186) [] ([]) (fun _ => fun u sg H => rd H (.s 1 (strs [⟨#[97]⟩, ⟨#[98]⟩])) u ∧ sg = []) (by
  intro H' X F hle; have hL := Le.trans hL hle; intro hF
  refine TL.litF (r := [_, _]) [(0, [_]), (1, [_])] ⟨rfl, ⟨_, rfl, rfl⟩, rfl, ⟨_, rfl, rfl⟩, trivial⟩ rfl rfl rfl rfl ?_; intro g186; refine Y1 ?_
  refine TQ.freeze (fun H3 hle3 hz => ?_)
  exact Qc [] hF hle3 ⟨rd.ofRow (Row.lit 9 1 2 _ _ rfl (by omega)) hz (RdL.vals _) hle3, rfl⟩) ?_
  refine Qa (some 187) [] (by
  intro H' X F hle hF; refine tn4s1 ?_
  exact Qi hF) ?_
  refine Qa (some 188) [(9, 0)] (by
  intro H' X F hle; have hL := Le.trans hL hle; intro hF; refine gJ ?_
  exact Qi hF) ?_
  refine Qa (some 189) [(10, 0)] (by
  intro H' X F hle; have hL := Le.trans hL hle; intro hF; refine tn4s2 ?_
  rintro _ own H189 ⟨rfl, rfl, hle189⟩
  have hL := Le.trans hL hle189; refine Y1 ?_
  exact Qc [] hF hle189 ⟨rfl, rfl⟩) ?_
  refine Qh (some 190) [(8, 3), (11, 0)] ([]) (fun _ => fun u sg H => ∃ b o s, u = .pointer (some ⟨b, o, none⟩) ∧ cel H b o = some (.string s) ∧ s.size ≤ 1000000 ∧ sg = []) (by
  intro H' X F hle; have hL := Le.trans hL hle; intro _
  rintro v186 _ Hi186 hle186 ⟨hr186, rfl⟩
  replace hr186 := rd.mono hle186 hr186
  intro hF
  obtain ⟨b9, o9, c9, s9, he9, hs9, hq9⟩ := strs_at hr186 (k := (q2 % 2).toNat) (by show _ < 2; omega)
  cases he9
  have hsz9 : s9.size ≤ 1000000 := (by decide : ∀ s ∈ ([⟨#[97]⟩, ⟨#[98]⟩] : List ByteArray), s.size ≤ 1000000) s9 (List.mem_of_getElem? hq9)
  refine Qg ((q2 % 2).toNat) rfl rfl (by omega) (by show _ < 2; omega) rfl ?_
  refine Y1 ?_
  exact Qc [] hF (Le.refl _) ⟨_, _, _, rfl, hs9, hsz9, rfl⟩) ?_
  refine Qh (some 191) [(12, 0)] ([]) (fun _ => fun u sg H => ∃ s, u = .string s ∧ s.size ≤ 1000000 ∧ sg = []) (by
  intro H' X F hle; have hL := Le.trans hL hle; intro _
  rintro _ _ Hi190 hle190 ⟨b190, o190, s190, rfl, hc190, hm190, rfl⟩
  replace hc190 := db hle190 hc190
  intro hF; refine TL.load_imm rfl (hc190) rfl ?_; refine Y1 ?_
  exact Qc [] hF (Le.refl _) ⟨_, rfl, hm190, rfl⟩) ?_
  refine YQ (some 192) [] ?_
  refine Qh (some 193) [(14, 0)] ([]) (fun _ => fun u sg H => rd H (.s 1 (strs [⟨#[83]⟩, ⟨#[84]⟩, nm])) u ∧ sg = []) (by
  intro H' X F hle; have hL := Le.trans hL hle; intro hF
  refine TL.litF (r := [_, _, _]) [(0, [_]), (1, [_]), (2, [_])] ⟨rfl, ⟨_, rfl, rfl⟩, rfl, ⟨_, rfl, rfl⟩, rfl, ⟨_, rfl, rfl⟩, trivial⟩ rfl rfl rfl rfl ?_; intro g193; refine Y1 ?_
  refine TQ.freeze (fun H3 hle3 hz => ?_)
  exact Qc [] hF hle3 ⟨rd.ofRow (Row.lit 9 1 3 _ _ rfl (by omega)) hz (RdL.vals _) hle3, rfl⟩) ?_
  refine Qa (some 194) [] (by
  intro H' X F hle hF; refine tn4s1 ?_
  exact Qi hF) ?_
  refine Qa (some 195) [(16, 0)] (by
  intro H' X F hle; have hL := Le.trans hL hle; intro hF; refine gJ ?_
  exact Qi hF) ?_
  refine Qa (some 196) [(17, 0)] (by
  intro H' X F hle; have hL := Le.trans hL hle; intro hF; refine tn4s2 ?_
  rintro _ own H196 ⟨rfl, rfl, hle196⟩
  have hL := Le.trans hL hle196; refine Y1 ?_
  exact Qc [] hF hle196 ⟨rfl, rfl⟩) ?_
  refine Qh (some 197) [(15, 3), (18, 0)] ([]) (fun _ => fun u sg H => ∃ b o s, u = .pointer (some ⟨b, o, none⟩) ∧ cel H b o = some (.string s) ∧ s.size ≤ 1000000 ∧ sg = []) (by
  intro H' X F hle; have hL := Le.trans hL hle; intro _
  rintro v193 _ Hi193 hle193 ⟨hr193, rfl⟩
  replace hr193 := rd.mono hle193 hr193
  intro hF
  obtain ⟨b9, o9, c9, s9, he9, hs9, hq9⟩ := strs_at hr193 (k := (q2 % 3).toNat) (by show _ < 3; omega)
  cases he9
  have hsz9 : s9.size ≤ 1000000 := (by intro s hs; simp only [List.mem_cons, List.not_mem_nil, or_false] at hs; rcases hs with rfl | rfl | rfl <;> first | exact hnms | decide : ∀ s ∈ ([⟨#[83]⟩, ⟨#[84]⟩, nm] : List ByteArray), s.size ≤ 1000000) s9 (List.mem_of_getElem? hq9)
  refine Qg ((q2 % 3).toNat) rfl rfl (by omega) (by show _ < 3; omega) rfl ?_
  refine Y1 ?_
  exact Qc [] hF (Le.refl _) ⟨_, _, _, rfl, hs9, hsz9, rfl⟩) ?_
  refine Qh (some 198) [(19, 0)] ([]) (fun _ => fun u sg H => ∃ s, u = .string s ∧ s.size ≤ 1000000 ∧ sg = []) (by
  intro H' X F hle; have hL := Le.trans hL hle; intro _
  rintro _ _ Hi197 hle197 ⟨b197, o197, s197, rfl, hc197, hm197, rfl⟩
  replace hc197 := db hle197 hc197
  intro hF; refine TL.load_imm rfl (hc197) rfl ?_; refine Y1 ?_
  exact Qc [] hF (Le.refl _) ⟨_, rfl, hm197, rfl⟩) ?_
  refine Qh (some 199) [(20, 0)] ([]) (fun _ => fun u sg H => ∃ s, u = .agg #[.int .i64 4, .string s, .int .i64 0, .slice none 0 0] ∧ s.size ≤ 1000000 ∧ sg = []) (by
  intro H' X F hle; have hL := Le.trans hL hle; intro _
  rintro _ _ _ _ ⟨s198, rfl, hm198, rfl⟩
  intro hF; refine tn4s14 ?_; refine Y1 ?_
  exact Qc [] hF (Le.refl _) ⟨_, rfl, hm198, rfl⟩) ?_
  refine Qh (some 200) [(13, 8), (21, 0)] ([]) (fun _ => fun u sg H => ∃ s1 s2, u = .agg #[.string s1, .int .i64 4, .string s2, .int .i64 0, .slice none 0 0] ∧ s1.size ≤ 1000000 ∧ s2.size ≤ 1000000 ∧ sg = []) (by
  intro H' X F hle; have hL := Le.trans hL hle; intro _
  rintro _ _ _ _ ⟨s191, rfl, hm191, rfl⟩
  intro _
  rintro _ _ _ _ ⟨s199, rfl, hm199, rfl⟩
  intro hF; refine tn4s12 ?_; refine Y1 ?_
  exact Qc [] hF (Le.refl _) ⟨_, _, rfl, hm191, hm199, rfl⟩) ?_
  refine Qh (some 201) [(7, 15), (22, 0)] ([]) (fun _ => fun u sg H => ∃ ps, rd H (.s 5 (ak Par.d ps)) u ∧ ps.length ≤ 2 ∧ (∀ x ∈ ps, x.ok (B + 200)) ∧ sg = []) (by
  intro H' X F hle; have hL := Le.trans hL hle; have hgt := RdL.mono hle hgt; intro _
  rintro _ _ _ _ ⟨s200, s201, rfl, hm200, hm201, rfl⟩
  intro hF
  refine TL.litF (r := [_, _, _, _, _, _, _, _, _, _]) [(0, [_, _, _, _, _]), (1, [_, _, _, _, _])] ⟨rfl, ⟨_, rfl, rfl⟩, rfl, ⟨_, rfl, rfl⟩, trivial⟩ rfl rfl rfl rfl ?_; intro g201; refine Y1 ?_
  refine TQ.freeze (fun H3 hle3 hz => ?_)
  exact Qc [] hF hle3 ⟨[⟨⟨#[97]⟩, g.ty⟩, ⟨s200, tyN s201⟩], rd.ofRow (Row.lit 83 5 2 _ _ rfl (by omega)) hz (iP (par_mk hgt) (iP (par_mk (tyN_d _ _)) (ds_nil _))) hle3, by simp, by
     intro x hx
     simp only [List.mem_cons, List.not_mem_nil, or_false] at hx
     rcases hx with rfl | rfl
     {
     exact ⟨by show 1 ≤ 1000000; omega, go2, go3'⟩}; {
     exact ⟨hm200, ⟨⟨by omega, by omega⟩, hm201, ⟨by omega, by omega⟩, trivial⟩, by show 1 ≤ _; omega⟩}, rfl⟩) ?_
  refine Qh (some 202) [(2, 21), (23, 0)] ([]) (fun _ => fun u sg H => ∃ d0 d1 d2 t, u = .agg #[d0, d1, d2] ∧ RdL H (Td.d t) [d0, d1, d2] ∧ t.ok (B + 200) ∧ sg = []) (by
  intro H' X F hle; have hL := Le.trans hL hle; intro _
  rintro v201 _ Hi201 hle201 ⟨ps201, hr201, hl201, hm201, rfl⟩
  replace hr201 := rd.mono hle201 hr201
  intro hF; refine Ql [(0, [_]), (2, [_])] ⟨rfl, ⟨_, rfl, rfl⟩, rfl, ⟨_, rfl, bq hr201.one⟩, trivial⟩ rfl rfl ?_; refine Y1 ?_
  exact Qc [] hF (Le.refl _) ⟨_, _, _, ⟨nm, false, ps201⟩, rfl, td_mk hr201, ⟨hnms, by show ps201.length ≤ _; omega, hm201⟩, rfl⟩) ?_
  refine Qh (some 203) [(24, 0)] ([]) (fun _ => fun u sg H => ∃ g d0 d1 d2 t, u = .slice (some ⟨g, 0, none⟩) 1 1 ∧ RdL H (Td.d t) [d0, d1, d2] ∧ t.ok (B + 200) ∧ sg = [[(g, .cells #[d0, d1, d2] 85 (0, 0))]]) (by
  intro H' X F hle; have hL := Le.trans hL hle; intro _
  rintro _ _ Hi202 hle202 ⟨d0, d1, d2, t202, rfl, hr202, hk202, rfl⟩
  replace hr202 := RdL.mono hle202 hr202
  intro hF
  refine TL.litF (r := [_, _, _]) [(0, [_, _, _])] ⟨rfl, ⟨_, rfl, rfl⟩, trivial⟩ rfl rfl rfl rfl ?_; intro g203; refine Y1 ?_
  exact Qc [_] hF (Le.refl _) ⟨_, _, _, _, t202, rfl, hr202, hk202, rfl⟩) ?_
  refine ⟨by kernel_rfl, .refl _, ?_⟩; {
  intro H18 hle
  rintro v186 _ Hi186 hle186 ⟨hr186, rfl⟩
  rintro _ _ Hi190 hle190 ⟨b190, o190, s190, rfl, hc190, hm190, rfl⟩
  replace hc190 := db hle190 hc190
  rintro _ _ _ _ ⟨s191, rfl, hm191, rfl⟩
  rintro v193 _ Hi193 hle193 ⟨hr193, rfl⟩
  rintro _ _ Hi197 hle197 ⟨b197, o197, s197, rfl, hc197, hm197, rfl⟩
  replace hc197 := db hle197 hc197
  rintro _ _ _ _ ⟨s198, rfl, hm198, rfl⟩
  rintro _ _ _ _ ⟨s199, rfl, hm199, rfl⟩
  rintro _ _ _ _ ⟨s200, s201, rfl, hm200, hm201, rfl⟩
  rintro v201 _ Hi201 hle201 ⟨ps201, hr201, hl201, hm201, rfl⟩
  rintro _ _ Hi202 hle202 ⟨d0, d1, d2, t202, rfl, hr202, hk202, rfl⟩
  rintro _ _ Hi203 hle203 ⟨gl203, d0, d1, d2, t203, rfl, hr203, hk203, rfl⟩
  replace hr203 := RdL.mono hle203 hr203
  have hL := Le.trans hL hle; have hxt := RdL.mono hle hxt; have hTs := TsR.mono hle hTs; have hGs := GsR.mono hle hGs; have hFs := FsR.mono hle hFs; have hcut := Le.trans hcut hle; refine m7 ?_; refine TL.wk (env' := [(0, _), (1, _), (2, _), (3, _), (4, _), (5, _), (6, _), (7, _), (8, _), (9, _), (51, _), (179, _), (203, _)]) ⟨rfl, rfl, rfl, rfl, rfl, rfl, rfl, rfl, rfl, rfl, rfl, rfl, rfl, trivial⟩ ?_; refine TL.append 3 rfl rfl rfl hrt (Src.ofOwn 0 0 rfl rfl rfl (Ones.all (td_ones hr203)) ⟨rfl, rfl, rfl, trivial⟩) (by omega) (by omega) rfl ?_; intro u2 seg2 hrow2
  have hTs : TsR H18 (B + 200) _ _ := ⟨p.ts ++ [t203], RowD.snoc hrow2 hxt hr203, by simp; omega, kh hots hk203⟩
  refine Y1 ?_; refine TL.store1 2 0 (c' := #[_, _, _]) (own' := _ :: _ :: [(_, .cells #[_, _, _] _ _)] :: _) rfl rfl rfl rfl hTs.one (by simp) rfl rfl rfl ?_; refine Y2 ?_
  refine TQ.sv 11 [3,4,5,6,7,2,8] ?_
  exact dJ}}; {
  refine Y6 ?_
  refine TL.eqlB rfl rfl rfl (fun h19 => ?_) (fun h19 => ?_); {
  refine Y4 ?_
  have m40a := Int.emod_nonneg q1 (show (40 : Int) ≠ 0 by omega)
  have m40b := Int.emod_lt_of_pos q1 (show (0 : Int) < 40 by omega)
  have hk220 : Gb.ok (B + 200) ⟨⟨#[109, 111, 114, 101]⟩, .mk 5 eS 3 [.mk 2 eS 0 []], 1, IntKind.u16.wrap (240 + q1 % 40), ⟨#[97, 98, 99]⟩⟩ := ⟨by show 4 ≤ 1000000; omega, (show Ty4.ok (.mk 5 eS 3 [.mk 2 eS 0 []]) from ⟨⟨by omega, by omega⟩, by decide, ⟨by omega, by omega⟩, ⟨⟨by omega, by omega⟩, by decide, ⟨by omega, by omega⟩, trivial⟩, trivial⟩), (by show 2 ≤ _; omega), (show I64 1 from ⟨by omega, by omega⟩), gI _, (by show 3 ≤ _; omega)⟩
  refine TC.drawQV 12  [(0, _), (1, _), (2, _), (3, _), (4, _), (5, _), (6, _), (7, _), (8, _), (9, _), (51, _)] ai ⟨rfl, rfl, rfl, rfl, rfl, rfl, rfl, rfl, rfl, rfl, rfl, trivial⟩ ?_; refine YQ (some 208) [] ?_; refine YQ (some 209) [(0, 0)] ?_
  refine Qa (some 210) [] (by
  intro H' X F hle; have hL := Le.trans hL hle; intro hF; refine Ql [(0, [_])] ⟨rfl, ⟨_, rfl, rfl⟩, trivial⟩ rfl rfl ?_
  exact Qi hF) ?_
  refine Qh (some 211) [(2, 0)] ([]) (fun _ => fun u sg H => rd H (.s 4 (ak Ty4.d [.mk 2 eS 0 []])) u ∧ sg = []) (by
  intro H' X F hle; have hL := Le.trans hL hle; intro hF
  refine tn4s11 ?_; intro g211; refine Y1 ?_
  refine TQ.freeze (fun H3 hle3 hz => ?_)
  exact Qc [] hF hle3 ⟨rd.ofRow (Row.lit 60 4 1 _ _ rfl (by omega)) hz (nE (tyk_d _ 2) (ty4_nil _)) hle3, rfl⟩) ?_
  refine Qh (some 212) [(3, 0)] ([]) (fun _ => fun u sg H => ∃ d0 d1 d2 d3, u = .agg #[d0, d1, d2, d3] ∧ RdL H (Ty4.d (.mk 5 eS 3 [.mk 2 eS 0 []])) [d0, d1, d2, d3] ∧ sg = []) (by
  intro H' X F hle; have hL := Le.trans hL hle; intro _
  rintro v211 _ Hi211 hle211 ⟨hr211, rfl⟩
  replace hr211 := rd.mono hle211 hr211
  intro hF; refine Ql [(0, [_]), (2, [_]), (3, [_])] ⟨rfl, ⟨_, rfl, rfl⟩, rfl, ⟨_, rfl, rfl⟩, rfl, ⟨_, rfl, bq hr211.one⟩, trivial⟩ rfl rfl ?_; refine Y1 ?_
  exact Qc [] hF (Le.refl _) ⟨_, _, _, _, rfl, ty4_mk hr211, rfl⟩) ?_
  refine Qa (some 213) [] (by
  intro H' X F hle hF; refine kj ?_
  exact Qi hF) ?_
  refine Qa (some 214) [(5, 0)] (by
  intro H' X F hle; have hL := Le.trans hL hle; intro hF; refine gJ ?_
  exact Qi hF) ?_
  refine Qa (some 215) [(6, 0)] (by
  intro H' X F hle; have hL := Le.trans hL hle; intro hF; refine lj ?_
  rintro _ own H215 ⟨rfl, rfl, hle215⟩
  have hL := Le.trans hL hle215; refine Y1 ?_
  exact Qc [] hF hle215 ⟨rfl, rfl⟩) ?_
  refine Qa (some 216) [(7, 0)] (fun _ _ _ _ hF => TL.add rfl rfl rfl ⟨by omega, by omega⟩ (Qi hF)) ?_
  refine YQ (some 217) [(8, 0)] ?_
  refine Qh (some 218) [(4, 5), (9, 0)] ([]) (fun _ => fun u sg H => ∃ d0 d1 d2 d3 d4 d5 d6 d7, u = .agg #[d0, d1, d2, d3, d4, d5, d6, d7] ∧ RdL H (Gb.d ⟨⟨#[109, 111, 114, 101]⟩, .mk 5 eS 3 [.mk 2 eS 0 []], 1, IntKind.u16.wrap (240 + q1 % 40), ⟨#[97, 98, 99]⟩⟩) [d0, d1, d2, d3, d4, d5, d6, d7] ∧ sg = []) (by
  intro H' X F hle; have hL := Le.trans hL hle; intro _
  rintro _ _ Hi212 hle212 ⟨x2120, x2121, x2122, x2123, rfl, hx212, rfl⟩
  replace hx212 := RdL.mono hle212 hx212
  intro hF; refine Ql [(0, [_]), (1, [_, _, _, _]), (2, [_]), (3, [_]), (4, [_])] ⟨rfl, ⟨_, rfl, rfl⟩, rfl, ⟨_, rfl, rfl⟩, rfl, ⟨_, rfl, rfl⟩, rfl, ⟨_, rfl, rfl⟩, rfl, ⟨_, rfl, rfl⟩, trivial⟩ rfl rfl ?_; refine Y1 ?_
  exact Qc [] hF (Le.refl _) ⟨_, _, _, _, _, _, _, _, rfl, jN hx212, rfl⟩) ?_
  refine Qh (some 219) [(10, 0)] ([]) (fun _ => fun u sg H => ∃ g d0 d1 d2 d3 d4 d5 d6 d7, u = .slice (some ⟨g, 0, none⟩) 1 1 ∧ RdL H (Gb.d ⟨⟨#[109, 111, 114, 101]⟩, .mk 5 eS 3 [.mk 2 eS 0 []], 1, IntKind.u16.wrap (240 + q1 % 40), ⟨#[97, 98, 99]⟩⟩) [d0, d1, d2, d3, d4, d5, d6, d7] ∧ sg = [[(g, .cells #[d0, d1, d2, d3, d4, d5, d6, d7] 80 (0, 0))]]) (by
  intro H' X F hle; have hL := Le.trans hL hle; intro _
  rintro _ _ Hi218 hle218 ⟨d0, d1, d2, d3, d4, d5, d6, d7, rfl, hr218, rfl⟩
  replace hr218 := RdL.mono hle218 hr218
  intro hF
  refine TL.litF (r := [_, _, _, _, _, _, _, _]) [(0, [_, _, _, _, _, _, _, _])] ⟨rfl, ⟨_, rfl, rfl⟩, trivial⟩ rfl rfl rfl rfl ?_; intro g219; refine Y1 ?_
  exact Qc [_] hF (Le.refl _) ⟨_, _, _, _, _, _, _, _, _, rfl, hr218, rfl⟩) ?_
  refine ⟨by kernel_rfl, .refl _, ?_⟩; {
  intro H20 hle
  rintro v211 _ Hi211 hle211 ⟨hr211, rfl⟩
  rintro _ _ Hi212 hle212 ⟨x2120, x2121, x2122, x2123, rfl, hx212, rfl⟩
  rintro _ _ Hi218 hle218 ⟨d0, d1, d2, d3, d4, d5, d6, d7, rfl, hr218, rfl⟩
  rintro _ _ Hi219 hle219 ⟨gl219, d0, d1, d2, d3, d4, d5, d6, d7, rfl, hr219, rfl⟩
  replace hr219 := RdL.mono hle219 hr219
  have hL := Le.trans hL hle; have hTs := TsR.mono hle hTs; have hGs := GsR.mono hle hGs; have hFs := FsR.mono hle hFs; have hpreg := RdL.mono hle hpreg; have hpostg := RdL.mono hle hpostg; have hgt := RdL.mono hle hgt; have hcut := Le.trans hcut hle; refine m7 ?_; refine TL.wk (env' := [(0, _), (1, _), (2, _), (3, _), (4, _), (5, _), (6, _), (7, _), (8, _), (9, _), (51, _), (209, _), (219, _)]) ⟨rfl, rfl, rfl, rfl, rfl, rfl, rfl, rfl, rfl, rfl, rfl, rfl, rfl, trivial⟩ ?_; refine TL.append 4 rfl rfl rfl hrg (Src.ofOwn 0 0 rfl rfl rfl (Ones.all (gb_ones hr219)) ⟨rfl, rfl, rfl, rfl, rfl, rfl, rfl, rfl, trivial⟩) (by omega) (by omega) rfl ?_; intro u2 seg2 hrow2
  have hGs : GsR H20 (B + 200) _ _ := ⟨p.gs ++ [⟨⟨#[109, 111, 114, 101]⟩, .mk 5 eS 3 [.mk 2 eS 0 []], 1, IntKind.u16.wrap (240 + q1 % 40), ⟨#[97, 98, 99]⟩⟩], RowD.snoc hrow2 (ds_put9 hgj hpreg (jN hgt) hpostg) hr219, by simp; omega, kh hogs hk220⟩
  refine Y1 ?_; refine TL.store1 2 0 (c' := #[_, _, _]) (own' := _ :: _ :: [(_, .cells #[_, _, _] _ _)] :: _) rfl rfl rfl rfl hGs.one (by simp) rfl rfl rfl ?_; refine Y2 ?_
  refine TQ.sv 11 [3,4,5,6,7,2,8] ?_
  exact dJ}}; {
  refine Y6 ?_
  refine TL.eqlB rfl rfl rfl (fun h21 => ?_) (fun h21 => ?_); {
  refine Y4 ?_
  refine TC.sv 10 [4,6,0,1,2,3,5,7,8,9] ?_
  refine TC.drawC2V 16  [(0, _), (1, _), (2, _), (3, _), (4, _), (5, _), (6, _), (7, _), (8, _), (9, _), (51, _)] ai ⟨rfl, rfl, rfl, rfl, rfl, rfl, rfl, rfl, rfl, rfl, rfl, trivial⟩ ?_; refine YQ (some 224) [] ?_; refine YQ (some 225) [(0, 0)] ?_; refine YQ (some 226) [(1, 0)] ?_
  refine Qk true [] (some 227) [(2, 0)] ([[(bf, .cells curf 71 (0, 0))]]) (fun _ => fun u sg H => u = .slice Ab f.body.length kb ∧ sg = [[(bf, .cells curf 71 (0, 0))]]) (by
  intro H' X F hle; have hL := Le.trans hL hle; intro hF; refine Qf 0 0 rfl rfl rfl (hrow.midAt hpl (k := 6) rfl) rfl ?_; refine Y1 ?_
  exact Qc [_] hF (Le.refl _) ⟨rfl, rfl⟩) ?_
  refine YQ (some 228) [] ?_
  refine Qa (some 229) [(4, 0)] (by
  intro H' X F hle; have hL := Le.trans hL hle; intro hF; refine tn4s14 ?_
  exact Qi hF) ?_
  refine Qh (some 230) [(5, 0)] ([]) (fun _ => fun u sg H => rd H (.s 4 (Ex.ds [(Ex.mk 14 nm 0 [])])) u ∧ sg = []) (by
  intro H' X F hle; have hL := Le.trans hL hle; intro hF
  refine tn4s11 ?_; intro g230; refine Y1 ?_
  refine TQ.freeze (fun H3 hle3 hz => ?_)
  exact Qc [] hF hle3 ⟨rd.ofRow (Row.lit 87 4 1 _ _ rfl (by omega)) hz (ex_cons (ex_mk (rd.nil _ _)) (ex_nil _)) hle3, rfl⟩) ?_
  refine Qh (some 231) [(6, 0)] ([]) (fun _ => fun u sg H => ∃ y0 y1 y2 y3 y4 y5 y6 y7 y8 y9 y10, u = .agg #[y0, y1, y2, y3, y4, y5, y6, y7, y8, y9, y10] ∧ RdL H (Sm.d (Sm.mk 14 eS ty4z 0 [(Ex.mk 14 nm 0 [])] [] [] [])) [y0, y1, y2, y3, y4, y5, y6, y7, y8, y9, y10] ∧ sg = []) (by
  intro H' X F hle; have hL := Le.trans hL hle; intro _
  rintro v230 _ Hi230 hle230 ⟨hr230, rfl⟩
  replace hr230 := rd.mono hle230 hr230
  intro hF; refine Ql [(0, [_]), (4, [_])] ⟨rfl, ⟨_, rfl, rfl⟩, rfl, ⟨_, rfl, bq hr230.one⟩, trivial⟩ rfl rfl ?_; refine Y1 ?_
  exact Qc [] hF (Le.refl _) ⟨_, _, _, _, _, _, _, _, _, _, _, rfl, sm_mk2 (b := []) (el := []) (cs := []) (ty0_d _) hr230 (rd.nil _ _) (rd.nil _ _) (rd.nil _ _), rfl⟩) ?_
  refine Qa (some 232) [(3, 4)] (by
  intro H' X F hle; have hL := Le.trans hL hle; intro _
  rintro _ _ Hi227 hle227 ⟨rfl, rfl⟩
  intro hF; refine Y1 ?_
  exact Qi hF) ?_
  refine Qk true [] (some 233) [] ([]) (fun _ => fun u sg H => ∃ g, u = .slice (some ⟨g, 0, none⟩) 1 1 ∧ sg = [[(g, .cells #[.int .i64 0, .string eS, .int .i64 0, .string eS, .int .i64 0, .slice none 0 0, .int .u16 0, .slice none 0 0, .slice none 0 0, .slice none 0 0, .slice none 0 0] 66 (0, 0))]]) (by
  intro H' X F hle; have hL := Le.trans hL hle; intro hF
  refine tn4s16 ?_; intro g233; refine Y1 ?_
  exact Qc [_] hF (Le.refl _) ⟨_, rfl, rfl⟩) ?_
  refine Qk true [9] (some 234) [(3, 6), (9, 0)] ([sb]) (fun _ => fun u sg H => ∃ g c cur, u = .slice (some ⟨g, 0, none⟩) (f.body.length + 1) c ∧ sg = [[(g, .cells cur 66 (0, 0))]] ∧ Row 66 11 (.slice (some ⟨g, 0, none⟩) (f.body.length + 1) c) (f.body.length + 1) (xsb ++ ([.int .i64 0, .string eS, .int .i64 0, .string eS, .int .i64 0, .slice none 0 0, .int .u16 0, .slice none 0 0, .slice none 0 0, .slice none 0 0, .slice none 0 0] ++ [])) [(g, .cells cur 66 (0, 0))]) (by
  intro H' X F hle; have hL := Le.trans hL hle; intro _
  rintro _ _ Hi227 hle227 ⟨rfl, rfl⟩
  intro _
  rintro _ _ Hi233 hle233 ⟨gl233, rfl, rfl⟩
  intro hF; refine eX ?_; refine tn4s17 ?_; intro u2 seg2 hrow2
  obtain ⟨A2, k2, rfl, _, _⟩ := hrow2.asl
  obtain ⟨b2, cur2, rfl, rfl⟩ := hrow2.blk9 (by omega)
  refine Y1 ?_; refine TQ.drop 1 ?_
  exact Qc [_] hF (Le.refl _) ⟨_, _, _, rfl, rfl, hrow2⟩) ?_
  refine Qh (some 235) [(10, 0), (8, 2)] ([]) (fun vs u sg H => ∃ g c, vs[0]? = some (.slice (some ⟨g, 0, none⟩) (f.body.length + 1) c) ∧ u = .pointer (some ⟨g, 0 + f.body.length * 11, none⟩) ∧ sg = []) (by
  intro H' X F hle; have hL := Le.trans hL hle; intro _
  rintro _ _ Hi234 hle234 ⟨gr, cr, curr, rfl, rfl, hrr⟩
  intro hF; refine Qg (f.body.length) rfl rfl rfl (by omega) rfl ?_; refine Y1 ?_
  exact Qc [] hF (Le.refl _) ⟨_, _, rfl, rfl, rfl⟩) ?_
  refine Qk false [10] none [(11, 0), (7, 4), (10, 1)] ([]) (fun vs u sg H => ∃ g c cur, vs[2]? = some (.slice (some ⟨g, 0, none⟩) (f.body.length + 1) c) ∧ sg = [[(g, .cells cur 66 (0, 0))]] ∧ RowD 66 11 Sm.d H (f.body ++ [(Sm.mk 14 eS ty4z 0 [(Ex.mk 14 nm 0 [])] [] [] [])]) (.slice (some ⟨g, 0, none⟩) (f.body.length + 1) c) [(g, .cells cur 66 (0, 0))]) (by
  intro H' X F hle; have hL := Le.trans hL hle; have hxb := RdL.mono hle hxb; intro us
  rintro _ _ Hi235 hle235 ⟨gi, ci, hvi, rfl, rfl⟩
  intro _
  rintro _ _ Hi7 hle7 ⟨y0, y1, y2, y3, y4, y5, y6, y7, y8, y9, y10, rfl, hy, rfl⟩
  replace hy := RdL.mono hle7 hy
  intro _
  rintro _ _ Hi234 hle234 ⟨gr, cr, curr, rfl, rfl, hrr⟩
  intro hF; refine eX ?_; have he9 := us.2.at hF 0 10 234 rfl rfl rfl
  rw [hvi] at he9
  cases he9
  have hszr := hrr.size_le; refine Qj 0 0 (c' := _) (own' := _ :: _) rfl rfl rfl rfl rfl (my hy) (by show _ + 11 ≤ _; omega) rfl rfl rfl ?_
  refine Y1 ?_
  exact Qc [_] hF (Le.refl _) ⟨_, _, _, rfl, rfl, ⟨_, by rw [List.length_append]; exact hrr.midPut (q := 0 + f.body.length * 11) (k := 0) (vs := [y0, y1, y2, y3, y4, y5, y6, y7, y8, y9, y10]) (by rw [← hl7]; omega) (by simp), by rw [List.append_nil]; exact gq hxb hy⟩⟩) ?_
  refine YQ (some 236) [(0, 12)] ?_; refine YQ (some 237) [(13, 0)] ?_
  refine Qk false [3] none [(14, 0), (10, 4), (3, 11)] ([]) (fun vs u sg H => ∃ v, vs[1]? = some v ∧ sg = [[(bf, .cells (curf.setIfInBounds (0 + (q2 % (p.fs.length : Int)).toNat * 10 + 6) v) 71 (0, 0))]]) (by
  intro H' X F hle; have hL := Le.trans hL hle; intro _
  rintro _ _ Hi234 hle234 ⟨gr, cr, curr, rfl, rfl, hrr⟩
  intro _
  rintro _ _ Hi227 hle227 ⟨rfl, rfl⟩
  intro hF; refine eX ?_; refine TL.store1 0 0 (c' := _) (own' := _ :: _) rfl rfl rfl rfl rfl (by omega) rfl rfl rfl ?_; refine Y1 ?_
  exact Qc [_] hF (Le.refl _) ⟨_, rfl, rfl⟩) ?_
  refine ⟨by kernel_rfl, .refl _, ?_⟩; {
  intro H22 hle
  rintro _ _ Hi227 hle227 ⟨rfl, rfl⟩
  rintro v230 _ Hi230 hle230 ⟨hr230, rfl⟩
  rintro _ _ Hi7 hle7 ⟨y0, y1, y2, y3, y4, y5, y6, y7, y8, y9, y10, rfl, hy, rfl⟩
  rintro _ _ Hi233 hle233 ⟨gl233, rfl, rfl⟩
  rintro _ _ Hi234 hle234 ⟨gr, cr, curr, rfl, rfl, hrr⟩
  rintro _ _ Hi235 hle235 ⟨gi, ci, hvi, rfl, rfl⟩
  rintro _ _ Hi9 hle9 ⟨g9, c9, cur9, he9, rfl, hr9⟩
  cases he9
  replace hr9 := RowD.mono hle9 hr9
  rintro _ _ Hi8 hle8 ⟨_, hv8, rfl⟩
  cases hv8
  have hL := Le.trans hL hle; have hTs := TsR.mono hle hTs; have hGs := GsR.mono hle hGs; have hFs := FsR.mono hle hFs; have hpre := RdL.mono hle hpre; have hpost := RdL.mono hle hpost; have hres := RdL.mono hle hres; have hxp := RdL.mono hle hxp; have hcut := Le.trans hcut hle; refine tn4s9 ?_; refine TL.wk (env' := [(0, _), (1, _), (2, _), (3, _), (4, _), (5, _), (6, _), (7, _), (8, _), (9, _), (51, _)]) ⟨rfl, rfl, rfl, rfl, rfl, rfl, rfl, rfl, rfl, rfl, rfl, trivial⟩ ?_
  have hFs := FsR.mk (f := { f with body := f.body ++ [(Sm.mk 14 eS ty4z 0 [(Ex.mk 14 nm 0 [])] [] [] [])] }) hjf (by omega) hofs hpre hpost (hrow.midPut (k := 6) (vs := [_]) hpl (by simp)) (FuJ.mk hres ⟨xsp, hrp, hxp⟩ hr9) ⟨fo1, fo2', fo3', fo4, fo5', (Sm.oks_append.2 ⟨fo6, (bJ ⟨by omega, by omega⟩ (by decide) ay ⟨by omega, by omega⟩ ⟨⟨⟨by omega, by omega⟩, hnms, ⟨by omega, by omega⟩, trivial⟩, trivial⟩ trivial trivial trivial), trivial⟩), (by show Sm.sizes (f.body ++ [_]) ≤ _; rw [Sm.sizes_snoc]; (simp only [Sm.size, Sm.sizes, Sm.csizes, Ex.sizes, Ex.size, Ty4.size, Ty4.sizes, ty4z]; omega)), fo8, fo9⟩
  refine Y2 ?_
  refine TQ.sv 10 [4,5,0,6,1,3,7] ?_
  exact dJ}}; {
  refine Y6 ?_; refine Qb 8 0 [_, _, _] rfl rfl rfl ⟨rfl, rfl, rfl, trivial⟩ rfl rfl ?_; refine Qe (dL i0 i1 i2) ⟨rfl, trivial⟩ rfl ?_
  rintro _ own H53 ⟨s0, s1, s2, s3, s4, s5, s6, s7, s8, s9, s10, st, rfl, hst, hsok, hssz, rfl, hle53⟩
  have hL := Le.trans hL hle53; have hTs := TsR.mono hle53 hTs; have hGs := GsR.mono hle53 hGs; have hFs := FsR.mono hle53 hFs; have hpre := RdL.mono hle53 hpre; have hpost := RdL.mono hle53 hpost; have hres := RdL.mono hle53 hres; have hxp := RdL.mono hle53 hxp; have hxb := RdL.mono hle53 hxb; have hcut := Le.trans hcut hle53
  refine Y1 ?_; intro g10; refine Qj 0 0 (c' := #[_, _, _, _, _, _, _, _, _, _, _]) (own' := [(_, .cells #[_, _, _, _, _, _, _, _, _, _, _] _ _)] :: _) rfl rfl rfl rfl rfl (my hst) (by simp [ba]) (nf rfl) rfl rfl ?_; refine Y4 ?_; refine kj ?_; refine Qf 9 0 rfl rfl rfl rfl rfl ?_; refine TL.rem rfl rfl rfl (by omega) ?_
  refine TL.eqlB rfl rfl rfl (fun h23 => ?_) (fun h23 => ?_); {
  refine Y3 ?_
  refine TC.sv 11 [7,0,1,2,3,4,5,6,8,9,10] ?_
  refine TC.freeze (fun H24 hle hz_sb => ?_)
  have hL := Le.trans hL hle; have hTs := TsR.mono hle hTs; have hGs := GsR.mono hle hGs; have hFs := FsR.mono hle hFs; have hpre := RdL.mono hle hpre; have hpost := RdL.mono hle hpost; have hres := RdL.mono hle hres; have hxp := RdL.mono hle hxp; have hxb := RdL.mono hle hxb; have hcut := Le.trans hcut hle; have hst := RdL.mono hle hst
  have hb9 := RowD.rd ⟨xsb, hrb, hxb⟩ (Le.refl _) hz_sb
  rw [← Sm.ds_of] at hb9
  refine TC.drawQV 8  [(0, _), (1, _), (2, _), (3, _), (4, _), (5, _), (6, _), (7, _), (8, _), (9, _), (51, _), (10, _)] ai ⟨rfl, rfl, rfl, rfl, rfl, rfl, rfl, rfl, rfl, rfl, rfl, rfl, trivial⟩ ?_; refine YQ (some 58) [] ?_; refine YQ (some 59) [] ?_
  refine Qk true [] (some 60) [(1, 0)] ([]) (fun _ => fun u sg H => ∃ g, u = .slice (some ⟨g, 0, none⟩) 1 1 ∧ sg = [[(g, .cells #[s0, s1, s2, s3, s4, s5, s6, s7, s8, s9, s10] 66 (0, 0))]]) (by
  intro H' X F hle; have hL := Le.trans hL hle; intro hF
  refine tn4s16 ?_; intro g60; refine Y1 ?_
  exact Qc [_] hF (Le.refl _) ⟨_, rfl, rfl⟩) ?_
  refine YQ (some 61) [] ?_; refine YQ (some 62) [(3, 0)] ?_; refine YQ (some 63) [(4, 0)] ?_
  refine Qa (some 64) [(5, 0)] (by
  intro H' X F hle; have hL := Le.trans hL hle; intro hF; refine Qf 5 0 rfl rfl rfl (hrow.midAt hpl (k := 6) rfl) rfl ?_
  exact Qi hF) ?_
  refine Qk false [2] (some 65) [(2, 4), (6, 0)] ([]) (fun _ => fun u sg H => ∃ s, RowD 66 11 Sm.d H (st :: f.body) u s ∧ sg = [s]) (by
  intro H' X F hle; have hL := Le.trans hL hle; have hst := RdL.mono hle hst; have hb9 := rd.mono hle hb9; intro _
  rintro _ _ Hi60 hle60 ⟨gl60, rfl, rfl⟩
  intro hF; refine eX ?_
  obtain ⟨A9, k9, news9, e9, hsrc9, hnews9⟩ := sms_src hb9
  cases e9
  rw [Sm.ds_of] at hnews9
  refine TL.append 0 rfl rfl rfl (Row.lit 66 11 1 _ _ rfl (by omega)) (hsrc9 _ _) (by omega) (by omega) rfl ?_; intro u2 seg2 hrow2; refine Y1 ?_
  exact Qc [_] hF (Le.refl _) ⟨_, RowD.cons hrow2 hst hnews9, rfl⟩) ?_
  refine ⟨by kernel_rfl, .refl _, ?_⟩; {
  intro H25 hle
  rintro _ _ Hi60 hle60 ⟨gl60, rfl, rfl⟩
  rintro v65 _ Hi65 hle65 ⟨s65, hr65, rfl⟩
  replace hr65 := RowD.mono hle65 hr65
  have hL := Le.trans hL hle; have hTs := TsR.mono hle hTs; have hGs := GsR.mono hle hGs; have hFs := FsR.mono hle hFs; have hpre := RdL.mono hle hpre; have hpost := RdL.mono hle hpost; have hres := RdL.mono hle hres; have hxp := RdL.mono hle hxp; have hcut := Le.trans hcut hle; refine m7 ?_; refine TL.wk (env' := [(0, _), (1, _), (2, _), (3, _), (4, _), (5, _), (6, _), (7, _), (8, _), (9, _), (51, _), (10, _), (58, _), (65, _)]) ⟨rfl, rfl, rfl, rfl, rfl, rfl, rfl, rfl, rfl, rfl, rfl, rfl, rfl, rfl, trivial⟩ ?_
  have hFs := FsR.mk (f := { f with body := st :: f.body }) hjf (by omega) hofs hpre hpost (hrow.midPut (k := 6) (vs := [v65]) hpl (by simp)) (FuJ.mk hres ⟨xsp, hrp, hxp⟩ hr65) ⟨fo1, fo2', fo3', fo4, fo5', ⟨hsok, fo6⟩, (by show Sm.sizes (st :: f.body) ≤ _; simp only [Sm.sizes]; omega), fo8, fo9⟩
  refine Y2 ?_; refine TL.store1 6 0 (c' := _) (own' := _ :: _ :: _ :: _ :: _ :: _ :: _ :: _) rfl rfl rfl rfl hr65.one (by first | omega | (simp; omega)) rfl rfl rfl ?_
  refine Y2 ?_
  refine TQ.sv 11 [4,5,6,7,0,3,8] ?_
  exact dJ}}; {
  refine Y3 ?_
  refine TC.sv 11 [5,7,0,1,2,3,4,6,8,9,10] ?_
  refine TC.drawC2V 13  [(0, _), (1, _), (2, _), (3, _), (4, _), (5, _), (6, _), (7, _), (8, _), (9, _), (51, _), (10, _)] ai ⟨rfl, rfl, rfl, rfl, rfl, rfl, rfl, rfl, rfl, rfl, rfl, rfl, trivial⟩ ?_; refine YQ (some 68) [] ?_; refine YQ (some 69) [(0, 0)] ?_; refine YQ (some 70) [(1, 0)] ?_
  refine Qk true [] (some 71) [(2, 0)] ([[(bf, .cells curf 71 (0, 0))]]) (fun _ => fun u sg H => u = .slice Ab f.body.length kb ∧ sg = [[(bf, .cells curf 71 (0, 0))]]) (by
  intro H' X F hle; have hL := Le.trans hL hle; intro hF; refine Qf 0 0 rfl rfl rfl (hrow.midAt hpl (k := 6) rfl) rfl ?_; refine Y1 ?_
  exact Qc [_] hF (Le.refl _) ⟨rfl, rfl⟩) ?_
  refine YQ (some 72) [] ?_
  refine Qa (some 73) [(3, 1)] (by
  intro H' X F hle; have hL := Le.trans hL hle; intro _
  rintro _ _ Hi71 hle71 ⟨rfl, rfl⟩
  intro hF; refine Y1 ?_
  exact Qi hF) ?_
  refine Qk true [] (some 74) [] ([]) (fun _ => fun u sg H => ∃ g, u = .slice (some ⟨g, 0, none⟩) 1 1 ∧ sg = [[(g, .cells #[.int .i64 0, .string eS, .int .i64 0, .string eS, .int .i64 0, .slice none 0 0, .int .u16 0, .slice none 0 0, .slice none 0 0, .slice none 0 0, .slice none 0 0] 66 (0, 0))]]) (by
  intro H' X F hle; have hL := Le.trans hL hle; intro hF
  refine tn4s16 ?_; intro g74; refine Y1 ?_
  exact Qc [_] hF (Le.refl _) ⟨_, rfl, rfl⟩) ?_
  refine Qk true [6] (some 75) [(3, 3), (6, 0)] ([sb]) (fun _ => fun u sg H => ∃ g c cur, u = .slice (some ⟨g, 0, none⟩) (f.body.length + 1) c ∧ sg = [[(g, .cells cur 66 (0, 0))]] ∧ Row 66 11 (.slice (some ⟨g, 0, none⟩) (f.body.length + 1) c) (f.body.length + 1) (xsb ++ ([.int .i64 0, .string eS, .int .i64 0, .string eS, .int .i64 0, .slice none 0 0, .int .u16 0, .slice none 0 0, .slice none 0 0, .slice none 0 0, .slice none 0 0] ++ [])) [(g, .cells cur 66 (0, 0))]) (by
  intro H' X F hle; have hL := Le.trans hL hle; intro _
  rintro _ _ Hi71 hle71 ⟨rfl, rfl⟩
  intro _
  rintro _ _ Hi74 hle74 ⟨gl74, rfl, rfl⟩
  intro hF; refine eX ?_; refine tn4s17 ?_; intro u2 seg2 hrow2
  obtain ⟨A2, k2, rfl, _, _⟩ := hrow2.asl
  obtain ⟨b2, cur2, rfl, rfl⟩ := hrow2.blk9 (by omega)
  refine Y1 ?_; refine TQ.drop 1 ?_
  exact Qc [_] hF (Le.refl _) ⟨_, _, _, rfl, rfl, hrow2⟩) ?_
  refine Qh (some 76) [(7, 0), (5, 2)] ([]) (fun vs u sg H => ∃ g c, vs[0]? = some (.slice (some ⟨g, 0, none⟩) (f.body.length + 1) c) ∧ u = .pointer (some ⟨g, 0 + f.body.length * 11, none⟩) ∧ sg = []) (by
  intro H' X F hle; have hL := Le.trans hL hle; intro _
  rintro _ _ Hi75 hle75 ⟨gr, cr, curr, rfl, rfl, hrr⟩
  intro hF; refine Qg (f.body.length) rfl rfl rfl (by omega) rfl ?_; refine Y1 ?_
  exact Qc [] hF (Le.refl _) ⟨_, _, rfl, rfl, rfl⟩) ?_
  refine Qk false [7] none [(8, 0), (4, 4), (7, 1)] ([]) (fun vs u sg H => ∃ g c cur, vs[2]? = some (.slice (some ⟨g, 0, none⟩) (f.body.length + 1) c) ∧ sg = [[(g, .cells cur 66 (0, 0))]] ∧ RowD 66 11 Sm.d H (f.body ++ [st]) (.slice (some ⟨g, 0, none⟩) (f.body.length + 1) c) [(g, .cells cur 66 (0, 0))]) (by
  intro H' X F hle; have hL := Le.trans hL hle; have hxb := RdL.mono hle hxb; have hst := RdL.mono hle hst; intro us
  rintro _ _ Hi76 hle76 ⟨gi, ci, hvi, rfl, rfl⟩
  intro _
  rintro _ _ Hi75 hle75 ⟨gr, cr, curr, rfl, rfl, hrr⟩
  intro hF; refine eX ?_; have he9 := us.2.at hF 0 7 75 rfl rfl rfl
  rw [hvi] at he9
  cases he9
  have hszr := hrr.size_le; refine Qj 0 0 (c' := _) (own' := _ :: _) rfl rfl rfl rfl rfl (my hst) (by show _ + 11 ≤ _; omega) rfl rfl rfl ?_
  refine Y1 ?_
  exact Qc [_] hF (Le.refl _) ⟨_, _, _, rfl, rfl, ⟨_, by rw [List.length_append]; exact hrr.midPut (q := 0 + f.body.length * 11) (k := 0) (vs := [s0, s1, s2, s3, s4, s5, s6, s7, s8, s9, s10]) (by rw [← hl7]; omega) (by simp), by rw [List.append_nil]; exact gq hxb hst⟩⟩) ?_
  refine YQ (some 77) [(0, 9)] ?_; refine YQ (some 78) [(10, 0)] ?_
  refine Qk false [3] none [(11, 0), (7, 4), (3, 8)] ([]) (fun vs u sg H => ∃ v, vs[1]? = some v ∧ sg = [[(bf, .cells (curf.setIfInBounds (0 + (q2 % (p.fs.length : Int)).toNat * 10 + 6) v) 71 (0, 0))]]) (by
  intro H' X F hle; have hL := Le.trans hL hle; intro _
  rintro _ _ Hi75 hle75 ⟨gr, cr, curr, rfl, rfl, hrr⟩
  intro _
  rintro _ _ Hi71 hle71 ⟨rfl, rfl⟩
  intro hF; refine eX ?_; refine TL.store1 0 0 (c' := _) (own' := _ :: _) rfl rfl rfl rfl rfl (by omega) rfl rfl rfl ?_; refine Y1 ?_
  exact Qc [_] hF (Le.refl _) ⟨_, rfl, rfl⟩) ?_
  refine ⟨by kernel_rfl, .refl _, ?_⟩; {
  intro H26 hle
  rintro _ _ Hi71 hle71 ⟨rfl, rfl⟩
  rintro _ _ Hi74 hle74 ⟨gl74, rfl, rfl⟩
  rintro _ _ Hi75 hle75 ⟨gr, cr, curr, rfl, rfl, hrr⟩
  rintro _ _ Hi76 hle76 ⟨gi, ci, hvi, rfl, rfl⟩
  rintro _ _ Hi9 hle9 ⟨g9, c9, cur9, he9, rfl, hr9⟩
  cases he9
  replace hr9 := RowD.mono hle9 hr9
  rintro _ _ Hi8 hle8 ⟨_, hv8, rfl⟩
  cases hv8
  have hL := Le.trans hL hle; have hTs := TsR.mono hle hTs; have hGs := GsR.mono hle hGs; have hFs := FsR.mono hle hFs; have hpre := RdL.mono hle hpre; have hpost := RdL.mono hle hpost; have hres := RdL.mono hle hres; have hxp := RdL.mono hle hxp; have hcut := Le.trans hcut hle; refine m7 ?_; refine TL.wk (env' := [(0, _), (1, _), (2, _), (3, _), (4, _), (5, _), (6, _), (7, _), (8, _), (9, _), (51, _), (10, _)]) ⟨rfl, rfl, rfl, rfl, rfl, rfl, rfl, rfl, rfl, rfl, rfl, rfl, trivial⟩ ?_
  have hFs := FsR.mk (f := { f with body := f.body ++ [st] }) hjf (by omega) hofs hpre hpost (hrow.midPut (k := 6) (vs := [_]) hpl (by simp)) (FuJ.mk hres ⟨xsp, hrp, hxp⟩ hr9) ⟨fo1, fo2', fo3', fo4, fo5', (Sm.oks_append.2 ⟨fo6, hsok, trivial⟩), (by show Sm.sizes (f.body ++ [_]) ≤ _; rw [Sm.sizes_snoc]; omega), fo8, fo9⟩
  refine Y2 ?_
  refine TQ.sv 11 [5,6,0,7,1,4,8] ?_
  exact dJ}}}}}}}}}}}}}}}
  rintro _ _ Hc8 ⟨v0, v1, v2, p9, hr9, hok9, rfl, rfl, hlec8⟩
  have hL := Le.trans hL hlec8; refine Y3 ?_; refine Qj 1 0 (c' := #[_, _, _]) (own' := _ :: [(_, .cells #[_, _, _] _ _)] :: _) rfl rfl rfl rfl rfl ⟨hr9.1.one, hr9.2.1.one, hr9.2.2.1.one, trivial⟩ (by simp) rfl rfl rfl ?_; refine Y3 ?_; refine TQ.retC 1 0 2 [_, _, _] rfl rfl rfl rfl ⟨rfl, rfl, rfl, trivial⟩ rfl rfl ?_
  exact ⟨_, _, _, p9, rfl, hr9, hok9, rfl, hL⟩}}}}
theorem ee {p q : Prop} (k : q) (h : W9 q → p := by (intro yq; refine Qb 2 0 [_, _, _] rfl rfl rfl ⟨rfl, rfl, rfl, trivial⟩ rfl rfl ?_; exact yq.1)) : p := h ⟨k⟩
theorem law_trees {l : List Int} (hl : ∀ n ∈ l, I64 n) {a0 a1 a2 : Int} (ia0 : I64 a0) (ia1 : I64 a1) (ia2 : I64 a2) {b0 b1 b2 : Int} (ib0 : I64 b0) (ib1 : I64 b1) (ib2 : I64 b2) {w0 : World} {H : Hp} {own : List Seg} {v : Value} (hA : rd H (.s 1 (ints l)) v) (hT : TabH H) : Fn Tryz.prog 4 [v, .agg #[.int .i64 a0, .int .i64 a1, .int .i64 a2], .agg #[.int .i64 b0, .int .i64 b1, .int .i64 b2]] w0 H own (fun r o H' => r = .bool true ∧ o = own ∧ Le H H') := by
  have hlen : l.length ≤ 9223372036854775807 := by
    obtain ⟨A, c, rfl, hc1, hc2⟩ := fI hA
    simp only [List.length_map] at hc1
    omega
  refine Fn.enter Tryz.func4 rfl Tryz.ntmps4 rfl ?_; have hL := Le.refl H; refine Y3 ?_; intro g4
  refine Y1 ?_; intro g5; refine Y5 ?_; refine Qe (oO hT) trivial rfl ?_
  rintro _ own Hsn ⟨rfl, rfl, hlesn⟩
  have hL := Le.trans hL hlesn; have hA := rd.mono hlesn hA; have hT := TabH.mono hlesn hT; refine Y6 ?_; refine Qe (eP hl hA hlen) ⟨rfl, trivial⟩ rfl ?_
  rintro _ own H13 ⟨v0, v1, v2, p, rfl, hp, hpr, hpo, rfl, hle13⟩
  have hL := Le.trans hL hle13; have hT := TabH.mono hle13 hT
  refine Y1 ?_; intro g8; refine Qj 0 0 (c' := #[_, _, _]) (own' := [(_, .cells #[_, _, _] _ _)] :: _) rfl rfl rfl rfl rfl (mc hp) (by simp) rfl rfl rfl ?_; refine Y5 ?_; refine ee ?_; refine Qe (km (by decide) hpo ia0 ia1 ia2 hp) ⟨rfl, rfl, trivial⟩ rfl ?_
  rintro _ own H16 ⟨x0, x1, x2, p1, rfl, hp1, hp1o, rfl, hle16⟩
  have hL := Le.trans hL hle16; have hT := TabH.mono hle16 hT; have hp := RdL.mono hle16 hp
  refine Y1 ?_; intro g9; refine Qj 0 0 (c' := #[_, _, _]) (own' := [(_, .cells #[_, _, _] _ _)] :: _) rfl rfl rfl rfl rfl (mc hp1) (by simp) rfl rfl rfl ?_; refine Y5 ?_; refine ee ?_; refine Qe (km (by decide) hp1o ib0 ib1 ib2 hp1) ⟨rfl, rfl, trivial⟩ rfl ?_
  rintro _ own H19 ⟨y0, y1, y2, p2, rfl, hp2, hp2o, rfl, hle19⟩
  have hL := Le.trans hL hle19; have hT := TabH.mono hle19 hT; have hp := RdL.mono hle19 hp; have hp1 := RdL.mono hle19 hp1
  refine Y1 ?_; intro g10; refine Qj 0 0 (c' := #[_, _, _]) (own' := [(_, .cells #[_, _, _] _ _)] :: _) rfl rfl rfl rfl rfl (mc hp2) (by simp) rfl rfl rfl ?_; refine Y3 ?_; refine TC.drawQV 19  [(0, _), (1, _), (2, _), (4, _), (5, _), (6, _), (7, _), (8, _), (9, _), (10, _)] ai ⟨rfl, rfl, rfl, rfl, rfl, rfl, rfl, rfl, rfl, rfl, trivial⟩ ?_; refine YQ (some 20) [] ?_; refine YQ (some 21) [(0, 0)] ?_
  refine Qa (some 22) [(1, 0)] (by
  intro H' X F hle; have hL := Le.trans hL hle; intro hF; refine Y1 ?_; refine ee ?_
  exact Qi hF) ?_
  refine Qh (some 23) [(2, 0), (1, 1)] ([]) (fun _ => fun u sg H => ∃ d0 d1, u = .agg #[d0, d1] ∧ RdL H (dj p).d [d0, d1] ∧ sg = []) (by
  intro H' X F hle; have hL := Le.trans hL hle; have hT := TabH.mono hle hT; have hp := RdL.mono hle hp; intro hF; refine Y1 ?_; refine Qe (cf (by decide) hpo hT hp) ⟨rfl, trivial⟩ rfl ?_
  rintro _ own H23 ⟨a23, b23, rfl, hr23, rfl, hle23⟩
  have hL := Le.trans hL hle23; refine Y1 ?_
  exact Qc [] hF hle23 ⟨a23, b23, rfl, hr23, rfl⟩) ?_
  refine Qa (some 24) [(1, 2)] (by
  intro H' X F hle; have hL := Le.trans hL hle; intro hF; refine Y1 ?_; refine ee ?_
  exact Qi hF) ?_
  refine Qh (some 25) [(4, 0), (1, 3)] ([]) (fun _ => fun u sg H => ∃ d0 d1, u = .agg #[d0, d1] ∧ RdL H (dj p).d [d0, d1] ∧ sg = []) (by
  intro H' X F hle; have hL := Le.trans hL hle; have hp := RdL.mono hle hp; intro hF; refine Y1 ?_; refine Qe (dp (by decide) hpo hp) ⟨rfl, trivial⟩ rfl ?_
  rintro _ own H25 ⟨a25, b25, rfl, hr25, rfl, hle25⟩
  have hL := Le.trans hL hle25; refine Y1 ?_
  exact Qc [] hF hle25 ⟨a25, b25, rfl, hr25, rfl⟩) ?_
  refine Qa (some 26) [(3, 2), (5, 0), (1, 4)] (by
  intro H' X F hle; have hL := Le.trans hL hle; intro _
  rintro _ _ Hi23 hle23 ⟨a23, b23, rfl, hr23, rfl⟩
  replace hr23 := RdL.mono hle23 hr23
  intro _
  rintro _ _ Hi25 hle25 ⟨a25, b25, rfl, hr25, rfl⟩
  replace hr25 := RdL.mono hle25 hr25
  intro hF; refine Y1 ?_; refine Qe (fK _ _ _ (Nat.le_refl _) hr23 hr25) ⟨rfl, rfl, trivial⟩ rfl ?_
  rintro _ own Hd26 ⟨rfl, rfl, hled26⟩
  rw [gH]
  have hL := Le.trans hL hled26; refine Y1 ?_
  exact Qc [] hF hled26 ⟨rfl, rfl⟩) ?_
  refine YQ (some 27) [(1, 5), (6, 0)] ?_; refine YQ (some 28) [(7, 0)] ?_
  refine Qa (some 29) [(8, 0)] (by
  intro H' X F hle; have hL := Le.trans hL hle; intro hF; refine Y1 ?_; refine Qb 1 0 [_, _, _] rfl rfl rfl ⟨rfl, rfl, rfl, trivial⟩ rfl rfl ?_
  exact Qi hF) ?_
  refine Qh (some 30) [(9, 0), (8, 1)] ([]) (fun _ => fun u sg H => ∃ d0 d1, u = .agg #[d0, d1] ∧ RdL H (dj p1).d [d0, d1] ∧ sg = []) (by
  intro H' X F hle; have hL := Le.trans hL hle; have hT := TabH.mono hle hT; have hp1 := RdL.mono hle hp1; intro hF; refine Y1 ?_; refine Qe (cf (by decide) hp1o hT hp1) ⟨rfl, trivial⟩ rfl ?_
  rintro _ own H30 ⟨a30, b30, rfl, hr30, rfl, hle30⟩
  have hL := Le.trans hL hle30; refine Y1 ?_
  exact Qc [] hF hle30 ⟨a30, b30, rfl, hr30, rfl⟩) ?_
  refine Qa (some 31) [(8, 2)] (by
  intro H' X F hle; have hL := Le.trans hL hle; intro hF; refine Y1 ?_; refine Qb 1 0 [_, _, _] rfl rfl rfl ⟨rfl, rfl, rfl, trivial⟩ rfl rfl ?_
  exact Qi hF) ?_
  refine Qh (some 32) [(11, 0), (8, 3)] ([]) (fun _ => fun u sg H => ∃ d0 d1, u = .agg #[d0, d1] ∧ RdL H (dj p1).d [d0, d1] ∧ sg = []) (by
  intro H' X F hle; have hL := Le.trans hL hle; have hp1 := RdL.mono hle hp1; intro hF; refine Y1 ?_; refine Qe (dp (by decide) hp1o hp1) ⟨rfl, trivial⟩ rfl ?_
  rintro _ own H32 ⟨a32, b32, rfl, hr32, rfl, hle32⟩
  have hL := Le.trans hL hle32; refine Y1 ?_
  exact Qc [] hF hle32 ⟨a32, b32, rfl, hr32, rfl⟩) ?_
  refine Qa (some 33) [(10, 2), (12, 0), (8, 4)] (by
  intro H' X F hle; have hL := Le.trans hL hle; intro _
  rintro _ _ Hi30 hle30 ⟨a30, b30, rfl, hr30, rfl⟩
  replace hr30 := RdL.mono hle30 hr30
  intro _
  rintro _ _ Hi32 hle32 ⟨a32, b32, rfl, hr32, rfl⟩
  replace hr32 := RdL.mono hle32 hr32
  intro hF; refine Y1 ?_; refine Qe (fK _ _ _ (Nat.le_refl _) hr30 hr32) ⟨rfl, rfl, trivial⟩ rfl ?_
  rintro _ own Hd33 ⟨rfl, rfl, hled33⟩
  rw [gH]
  have hL := Le.trans hL hled33; refine Y1 ?_
  exact Qc [] hF hled33 ⟨rfl, rfl⟩) ?_
  refine YQ (some 34) [(8, 5), (13, 0)] ?_; refine YQ (some 35) [(14, 0)] ?_
  refine Qa (some 36) [(15, 0)] (by
  intro H' X F hle; have hL := Le.trans hL hle; intro hF; refine Y2 ?_
  exact Qi hF) ?_
  refine Qh (some 37) [(16, 0), (15, 1)] ([]) (fun _ => fun u sg H => ∃ d0 d1, u = .agg #[d0, d1] ∧ RdL H (dj p2).d [d0, d1] ∧ sg = []) (by
  intro H' X F hle; have hL := Le.trans hL hle; have hT := TabH.mono hle hT; have hp2 := RdL.mono hle hp2; intro hF; refine Y1 ?_; refine Qe (cf (by decide) hp2o hT hp2) ⟨rfl, trivial⟩ rfl ?_
  rintro _ own H37 ⟨a37, b37, rfl, hr37, rfl, hle37⟩
  have hL := Le.trans hL hle37; refine Y1 ?_
  exact Qc [] hF hle37 ⟨a37, b37, rfl, hr37, rfl⟩) ?_
  refine Qa (some 38) [(15, 2)] (by
  intro H' X F hle; have hL := Le.trans hL hle; intro hF; refine Y2 ?_
  exact Qi hF) ?_
  refine ⟨by kernel_rfl, .refl _, ?_⟩; {
  intro H1 hle
  rintro _ _ Hi23 hle23 ⟨a23, b23, rfl, hr23, rfl⟩
  rintro _ _ Hi25 hle25 ⟨a25, b25, rfl, hr25, rfl⟩
  rintro _ _ Hi30 hle30 ⟨a30, b30, rfl, hr30, rfl⟩
  rintro _ _ Hi32 hle32 ⟨a32, b32, rfl, hr32, rfl⟩
  rintro _ _ Hi37 hle37 ⟨a37, b37, rfl, hr37, rfl⟩
  replace hr37 := RdL.mono hle37 hr37
  have hL := Le.trans hL hle; have hp2 := RdL.mono hle hp2; refine TL.toOwn (own' := _ :: _ :: _ :: _ :: _ :: own) rfl ?_; refine TL.wk (env' := [(0, _), (1, _), (2, _), (4, _), (5, _), (6, _), (8, _), (9, _), (10, _), (35, _), (37, _), (38, _)]) ⟨rfl, rfl, rfl, rfl, rfl, rfl, rfl, rfl, rfl, rfl, rfl, rfl, trivial⟩ ?_; refine Y1 ?_; refine Qe (dp (by decide) hp2o hp2) ⟨rfl, trivial⟩ rfl ?_
  rintro _ own H39 ⟨a39, b39, rfl, hr39, rfl, hle39⟩
  have hL := Le.trans hL hle39; have hr37 := RdL.mono hle39 hr37; refine Y1 ?_; refine Qe (fK _ _ _ (Nat.le_refl _) hr37 hr39) ⟨rfl, rfl, trivial⟩ rfl ?_
  rintro _ own Hd40 ⟨rfl, rfl, hled40⟩
  rw [gH]
  have hL := Le.trans hL hled40; refine Y5 ?_; refine TQ.ret1 5 rfl rfl ?_
  exact ⟨rfl, rfl, hL⟩}
open Go.ChangeShapes Go.WideShapes Go.Deep
def kints (k : IntKind) (l : List Int) : List D := (l.map (Value.int k)).map D.c
abbrev InK (k : IntKind) (n : Int) : Prop := k.min ≤ n ∧ n ≤ k.max
theorem lit_in {k : IntKind} {n : Int} (h : (Lit.int k n).wf = true) : InK k n := by
  unfold Lit.wf at h
  simp only [Bool.and_eq_true, decide_eq_true_eq] at h
  exact h
theorem inK_i64 {n : Int} (h : InK .i64 n) : -9223372036854775808 ≤ n ∧ n ≤ 9223372036854775807 := by
  have e1 : IntKind.i64.min = -9223372036854775808 := by decide
  have e2 : IntKind.i64.max = 9223372036854775807 := by decide
  obtain ⟨h1, h2⟩ := h
  rw [e1] at h1; rw [e2] at h2
  exact ⟨h1, h2⟩
def allH (W : World) : Hp := fun b => W.heap[b]?
theorem St.all (W : World) : St W (allH W) [] W := ⟨rfl, ⟨rfl, Nat.le_refl _⟩, rfl, fun _ _ h => h, by simp, by simp, by simp⟩
theorem spot_none {W : World} {a : Addr} {v : Value} (h : W.cell? a = some v) : a = ⟨a.block, a.off, none⟩ := by
  obtain ⟨b, o, s⟩ := a
  cases s with
  | none => rfl
  | some s =>
    unfold World.cell? at h
    split at h <;> simp at h
theorem cel_of {W : World} {b o : Nat} {v : Value} (h : W.cell? ⟨b, o, none⟩ = some v) : cel (allH W) b o = some v := by
  unfold World.cell? at h
  unfold cel allH
  split at h
  · rename_i hb
    rw [hb]
    simpa using h
  · cases h
theorem add_zero' (a : Addr) : a.add 0 = a := by unfold Addr.add; simp
section
variable {P : Program} {H : Type} {enc : TypeId × Value → H} {W : World}
theorem oP {t e : TypeId} {k : IntKind} (ht : P.underlying t = some (.slice e)) (he : P.underlying e = some (.int k)) (hc : P.cellsOf e = 1) {a : Option Addr} {len cap : Nat} {d : DataW H} {ps : List MemPlace}
    (h : DataW.Trod enc P W 0 (fun _ => true) true t (.slice a len cap) d ps) : ∃ l : List Int, (∀ n ∈ l, InK k n) ∧ rd (allH W) (.s 1 (kints k l)) (.slice a len cap) := by
  obtain ⟨fuel, hf⟩ := h
  have hcs : (Value.slice a len cap).cells.toList = [.slice a len cap] := rfl
  rw [hcs] at hf
  rcases open_ints ht he hc hf with ⟨hcs, _⟩ | ⟨a, len', cap', zs, hcs, _, hl, hm, hz, _, hcell, hwz⟩
  · simp only [List.cons.injEq, Value.slice.injEq, and_true] at hcs
    obtain ⟨rfl, rfl, rfl⟩ := hcs
    exact ⟨[], by simp, rd.nil _ _⟩
  · simp only [List.cons.injEq, Value.slice.injEq, and_true] at hcs
    obtain ⟨rfl, rfl, rfl⟩ := hcs
    simp only [if_true] at hz
    refine ⟨zs.take len, fun n hn => ?_, ?_⟩
    · exact lit_in (hwz n (List.mem_of_mem_take hn))
    · simp only [rd]
      refine ⟨_, _, _, rfl, by simp [kints]; omega, hl, by simpa [maxLen] using hm, ?_⟩
      by_cases h0 : len = 0
      · exact .inl h0
      · have e := hcell 0 (by omega)
        rw [add_zero'] at e
        have ea := spot_none e
        refine .inr ⟨a.block, a.off, by rw [← ea], rds.mk fun i x hx => ?_⟩
        simp only [kints, List.getElem?_map, List.getElem?_take] at hx
        split at hx
        · rename_i hlt
          have h1 := hcell i (by omega)
          have h2 : zs[i]? = some zs[i] := List.getElem?_eq_getElem (by omega)
          rw [h2] at hx
          simp only [Option.map_some, Option.some.injEq] at hx
          subst hx
          refine ⟨.int k zs[i], ?_, by simp [rd]⟩
          rw [ea, bB] at h1
          rw [List.getD_eq_getElem?_getD, h2] at h1
          exact cel_of h1
        · simp at hx
theorem ll (hl : laidOutB P = true) {W' : World} (hb : ∀ k, k < W.heap.size → W'.heap[k]? = W.heap[k]?) {sp : Nat → Bool} : ∀ {ts : List TypeId} {vs : List Value} {ds : List (DataW H)} {ps : List MemPlace},
    (ts.all fun t => P.readableRec t && decide (t < P.types.size)) = true → DataW.TrodAll enc P W 0 (fun _ => true) true ts vs ds ps → (∀ x ∈ ps, x.block < W.heap.size) → (∀ x ∈ ps, sp x.block = true) → DataW.TrodAll enc P W' 0 sp true ts vs ds ps
  | [], [], [], _, _, h, _, _ => h
  | t :: ts, v :: vs, d :: ds, _, hts, h, hlt, hsp => by
    obtain ⟨p, q, h1, h2, rfl⟩ := h
    simp only [List.all_cons, Bool.and_eq_true, decide_eq_true_eq] at hts
    refine ⟨p, q, WideElems.Trod_stays hl hts.1.1 hts.1.2 h1 (fun x hx => ?_) (fun x hx => hsp x (List.mem_append_left _ hx)), ll hl hb hts.2 h2 (fun x hx => hlt x (List.mem_append_right _ hx)) (fun x hx => hsp x (List.mem_append_right _ hx)), rfl⟩
    have hx' := hlt x (List.mem_append_left _ hx)
    cases x with
    | cell b o => exact World.cell?_of_block (w := W) (hb b hx')
    | map b => exact hb b hx'
theorem law_post {f : Func} {s : ChangeSpec} {apart fresh handsOn again : Bool} {W' : World} {args : Array Value} {ds gs : List (DataW H)} {et : List MemPlace} {bt : TypeId} (hl : laidOutB P = true)
    (hW : DataW.Whole enc P f.params.toList s.vars apart W args.toList ds gs et) (hvs : s.vars = []) (hfn : s.fn H (ds ++ gs) = { results := [.lit (.bool true)], args := ds }) (hrt : f.resultTypes = #[bt]) (hbt : P.underlying bt = some .bool)
    (hts : (f.params.toList.all fun t => P.readableRec t && decide (t < P.types.size)) = true)
    (hos : W'.os = W.os) (hout : W'.output = W.output) (hb : ∀ k, k < W.heap.size → W'.heap[k]? = W.heap[k]?) : s.post enc P f apart fresh handsOn again W args (.bool true) W' := by
  have hlt := hW.lt
  have hW0 := hW
  obtain ⟨p, q, hA, hV, rfl, hfz, hnd⟩ := hW
  have hq : q = [] := by
    rw [hvs] at hV
    obtain ⟨_, rfl⟩ := trodVars_none hV
    rfl
  subst hq
  have hg : gs = [] := by
    rw [hvs] at hV
    obtain ⟨rfl, _⟩ := trodVars_none hV
    rfl
  subst hg
  simp only [List.append_nil] at hlt hfz hnd hW0
  have hres : ∀ (b : Nat) (sp : Nat → Bool) (hd : Bool), DataW.TrodAll enc P W' b sp hd f.resultTypes.toList ((Value.bool true).resultList f.resultTypes.size) (s.fn H (ds ++ [])).results [] := by
    intro b sp hd
    rw [hfn, hrt]
    exact trodAll_mk1 (shut_bool hbt true)
  have hargs : ∀ sp : Nat → Bool, (∀ x ∈ p, sp x.block = true) → DataW.TrodAll enc P W' 0 sp true f.params.toList args.toList (s.fn H (ds ++ [])).args p := by
    intro sp hsp
    rw [hfn]
    exact ll hl hb hts hA hlt hsp
  have hvars : ∀ sp : Nat → Bool, DataW.TrodVars enc P W' sp s.vars (s.fn H (ds ++ [])).vars [] := by
    intro sp
    rw [hfn, hvs]
    rfl
  have hok : ∀ (j : Nat) (t : TypeId) (r : Value), f.resultTypes[j]? = some t → ((Value.bool true).resultList f.resultTypes.size)[j]? = some r → Value.okWide P W' .any 0 t r := by
    rw [hrt]
    intro j t r hj hr
    match j, hj, hr with
    | 0, hj, hr =>
      simp [Value.resultList] at hj hr
      subst hj; subst hr
      simp [Value.okWide, hbt, Cell.okWide, Cell.ok]
    | j + 1, hj, hr => simp at hj
  have hk : W.keptBut W' (fun x => x ∈ p ∧ (x ∈ ([] : List MemPlace) ∨ x ∈ p ∨ x ∈ ([] : List MemPlace))) := by
    refine ⟨hos, hout, fun i hi => ?_⟩
    rw [hb i hi]
    split <;> simp_all
  have hfz' : W'.noneFrozen p := by
    intro b off hp
    have := hfz b off hp
    rw [← this]
    exact World.frozen?_of_block (w := W) (hb b (hlt _ hp))
  refine ⟨ds, [], p, [], p, [], by simpa using hW0, hres _ _ _, hargs _ (fun x hx => by simpa using hlt x hx), hvars _, hk, fun _ => ⟨hok, _, _, ([] ++ p) ++ [], ⟨[] ++ p, [], trodAll_append (hargs _ (fun _ _ => rfl)) (hres _ _ _), hvars _, rfl, by simpa using hfz', fun ha => by simpa using hnd ha⟩, fun x hx _ => by simpa using hx⟩⟩
end
section
end
section
variable {P : Program} {H : Type} {enc : TypeId × Value → H} {W : World}
theorem open_arrI {t e : TypeId} {n : Nat} (ht : P.underlying t = some (.array n e)) (he : P.underlying e = some (.int .i64)) (hc : P.cellsOf t = n) (hc1 : P.cellsOf e = 1) {fuel : Nat} {cs : List Value} {x : DataW H × List MemPlace} (hl : cs.length = n)
    (h : DataW.trod enc P W 0 (fun _ => true) true fuel t cs = some x) : ∃ l : List Int, l.length = n ∧ (∀ y ∈ l, I64 y) ∧ cs = l.map (Value.int .i64) := by
  obtain ⟨xs, mm, _, _, _, hxs, hel⟩ := DataW.trod_array ht h
  have one : ∀ i, i < n → ∃ y : Int, I64 y ∧ cs[i]? = some (.int .i64 y) := by
    intro i hi
    have e1 := hel i (by omega)
    rw [List.getElem?_eq_getElem (by omega), hc1, Nat.mul_one] at e1
    obtain ⟨y, g, _, w⟩ := DataW.trod_int he e1
    refine ⟨y, inK_i64 (lit_in w), ?_⟩
    have h2 := congrArg (fun l => l[0]?) g
    simp only [List.getElem?_cons_zero] at h2
    rw [List.getElem?_take, if_pos (by omega), List.getElem?_drop] at h2
    simpa using h2
  obtain ⟨f, hF⟩ := choose_lt one
  refine ⟨(List.range n).map f, by simp, fun y hy => ?_, ?_⟩
  · obtain ⟨i, hi, rfl⟩ := List.mem_map.1 hy
    exact (hF i (List.mem_range.1 hi)).1
  · refine List.ext_getElem? fun i => ?_
    by_cases hi : i < n
    · rw [(hF i hi).2]
      simp [hi]
    · rw [List.getElem?_eq_none (by omega), List.getElem?_eq_none (by simp; omega)]
theorem open_arrV {t e : TypeId} {n : Nat} (ht : P.underlying t = some (.array n e)) (he : P.underlying e = some (.int .i64)) (hc : P.cellsOf t = n) (hc1 : P.cellsOf e = 1) {r : Reach} {b0 : Nat} {v : Value} {d : DataW H} {ps : List MemPlace} (hval : Value.okWide P W r b0 t v)
    (h : DataW.Trod enc P W 0 (fun _ => true) true t v d ps) : ∃ l : List Int, l.length = n ∧ (∀ y ∈ l, I64 y) ∧ v = .agg (l.map (Value.int .i64)).toArray := by
  simp only [Value.okWide, ht] at hval
  obtain ⟨cs, rfl, h2, _⟩ := hval
  rw [hc] at h2
  obtain ⟨fuel, hf⟩ := h
  obtain ⟨l, h3, h4, h5⟩ := open_arrI ht he hc hc1 (cs := cs.toList) (by simpa using h2) hf
  exact ⟨l, h3, h4, by rw [← h5]⟩
end
section
variable {H : Type} {enc : TypeId × Value → H} {W : World}
theorem kn {v : Value} {d : DataW H} {ps : List MemPlace} {r : Reach} {b0 : Nat} (hval : Value.okWide Tryz.prog W r b0 23 v) (h : DataW.Trod enc Tryz.prog W 0 (fun _ => true) true 23 v d ps) : ∃ a b c : Int, I64 a ∧ I64 b ∧ I64 c ∧ v = .agg #[.int .i64 a, .int .i64 b, .int .i64 c] := by
  obtain ⟨l, h1, h2, rfl⟩ := open_arrV Tryz.underlying23 Tryz.underlying3 (by kernel_rfl) (by kernel_rfl) hval h
  match l, h1, h2 with
  | [a, b, c], _, h2 => exact ⟨a, b, c, h2 a (by simp), h2 b (by simp), h2 c (by simp), rfl⟩
end
theorem tabH_of {W : World} {l : List (String × DataW Unit)} (h : laidMetH Tryz.prog l W) (hk : (l.filter fun x => x.1 == "internal/strconv.uint64pow10") = [("internal/strconv.uint64pow10", Lib.tabData .u64 Lib.pow10Tab)]) {t e : TypeId} {n : Nat}
    (hty : (Tryz.prog.globals[1]?).map (·.type) = some t) (ht : Tryz.prog.underlying t = some (.array n e)) (he : Tryz.prog.underlying e = some (.int .u64)) (hce : Tryz.prog.cellsOf e = 1) (hct : Tryz.prog.cellsOf t = n) : TabH (allH W) := by
  have h1 := h.filter fun x => x.1 == "internal/strconv.uint64pow10"
  rw [hk, MakeChecks.laidMetH_plain _ _ _ (by rfl)] at h1
  have hg : Tryz.prog.globalNamed "internal/strconv.uint64pow10" = some 1 := by kernel_rfl
  have h2 := Lib.tabIs_of_head hg hty ht he hce hct h1
  unfold Lib.TabIs World.var? at h2
  rw [hg, Option.bind_some] at h2
  unfold TabH allH
  split at h2
  · rename_i cs e fz hb
    cases h2
    exact ⟨_, _, hb⟩
  · cases h2
end Go.Proofs.YtlmahofogapkgaaGreatDoor.K
namespace Go.Proofs.YtlmahofogapkgaaGreatDoor
open Go Go.RowKit Go.ChangeShapes Go.WideShapes Go.ChangeAt
namespace Row4
theorem own0 : ownKnob Tryz.prog.godebug = none := by kernel_rfl
theorem laid0 : laidOutB Tryz.prog = true := by kernel_rfl
theorem door_met (os : Os) (args : Array Value) : laidMetH Tryz.prog Rows.diffTreesRow.laid ((World.doorLaid Tryz.prog 400 os).forCall (fun _ _ => 0) ⟨#[], args, []⟩).memory :=
  laidMetH_of_parts3 (fuel := 8) (laidMet_of_run' 8 (by kernel_rfl) (by kernel_rfl)) (by kernel_rfl) (by kernel_rfl)
theorem lifted (os : Os) (started : os.Started) (H : Type) (enc : TypeId × Value → H) :
    ReturnsInHanded {} Tryz.checked os 4 .any (fun w args => (Rows.diffTreesSpec.pre enc Tryz.prog Tryz.f4 [] false w args ∧ laidMetH Tryz.prog Rows.diffTreesRow.laid w) ∧ sizedMet enc Tryz.prog Tryz.f4 (OpenSpec.ofChange Rows.diffTreesSpec) false w args)
      (Rows.diffTreesSpec.post enc Tryz.prog Tryz.f4 false true false false) := by
  refine returnsInHanded_of_change_and (C := Tryz.checked) (X := fun w _ => laidMetH Tryz.prog Rows.diffTreesRow.laid w) (fun _ _ _ hh h => h.of_heap hh) own0 started (by kernel_rfl) Tryz.func4
    (ChangeSpec.witness_shaped (enc := enc) (C := Tryz.checked) (os := os) (X := fun w _ => laidMetH Tryz.prog Rows.diffTreesRow.laid w) false (World.doorLaid Tryz.prog 400 os) #[.slice none 0 0, .agg #[.int .i64 0, .int .i64 0, .int .i64 0], .agg #[.int .i64 0, .int .i64 0, .int .i64 0]] 8 rfl (World.shaped_of_RefB (by kernel_rfl) (by kernel_rfl)) (by kernel_rfl) (by kernel_rfl) (by kernel_rfl) (door_met os _)) ?_
  intro W base args ds gs et hval0 hW _ _ hX _
  have hval : ∀ (j : Nat) t v, Tryz.f4.params[j]? = some t → args[j]? = some v → Value.okWide Tryz.prog W .any base t v := hval0
  have hW' : DataW.Whole enc Tryz.prog Tryz.f4.params.toList Rows.diffTreesSpec.vars false W args.toList ds gs et := hW
  obtain ⟨p, q, hA0, hV, rfl, hfz, hnd⟩ := hW
  have hA : DataW.TrodAll enc Tryz.prog W 0 (fun _ => true) true Tryz.f4.params.toList args.toList ds p := hA0
  rw [Tryz.params4] at hA hval
  obtain ⟨v0, v1, v2, d0, d1, d2, p0, p1, p2, rfl, rfl, rfl, h0, h1, h2⟩ := trodAll_three hA
  obtain ⟨rfl, rfl⟩ := trodVars_none hV
  obtain ⟨a0, n0, c0, rfl⟩ := okWide_slice Tryz.underlying22 (hval 0 22 v0 rfl rfl)
  obtain ⟨l0, k0, r0⟩ := K.oP Tryz.underlying22 Tryz.underlying3 (by kernel_rfl) h0
  obtain ⟨a1, b1, c1, ka1, kb1, kc1, rfl⟩ := K.kn (hval 1 23 v1 rfl rfl) h1
  obtain ⟨a2, b2, c2, ka2, kb2, kc2, rfl⟩ := K.kn (hval 2 23 v2 rfl rfl) h2
  have htab := K.tabH_of hX (by rfl) (by kernel_rfl) Tryz.underlying278 Tryz.underlying262 (by kernel_rfl) (by kernel_rfl)
  refine (K.law_trees (fun n h => K.inK_i64 (k0 n h)) ka1 kb1 kc1 ka2 kb2 kc2 r0 htab W (K.St.all W)).mono fun e W1 hh => ?_
  obtain ⟨v, own1, H1, rfl, ⟨rfl, _, hle⟩, hst⟩ := hh
  exact ⟨_, rfl, K.law_post laid0 hW' rfl rfl rfl Tryz.underlying4 (by kernel_rfl) hst.os hst.output (fun k hk => by
    have e1 : W.heap[k]? = some W.heap[k] := by simp [hk]
    rw [e1]
    exact hst.imm k _ (hle k _ e1))⟩
end Row4
theorem oQ : Rows.DiffTreesSaid :=
  OpenClaim.holds_of_wide 4 Tryz.f4 rfl rfl rfl rfl rfl rfl rfl ⟨rfl, rfl, rfl, rfl, rfl⟩ rfl rfl rfl rfl rfl (by kernel_rfl) Tryz.func4 (by kernel_rfl)
    (of_decide_eq_true (by kernel_rfl)) (by unfold Func.isWrapper; first | (rw [if_pos (by decide +kernel)]; kernel_rfl) | (rw [if_neg (by decide +kernel)]; exact ⟨rfl, rfl⟩))
    (fun os started H enc _ => Row4.lifted os started H enc)
theorem trees_card : Rows.DiffTreesCardSaid :=
  Claim7.holds_tied_plain_at .later [] [.data, .data, .data] true (true, "425d4d93d6f6ba2554feac068bfcbb84dd0da43f1293f155f5ec7a392b3866b3") true
    oQ (fun _ h => by cases h) (by kernel_rfl) (fun _ h => by cases h) diffTrees_row_tie rfl ⟨rfl, rfl⟩ (by kernel_rfl) rfl
    (fun f fn hf hfn => by
      obtain rfl : f = 4 := Option.some.inj ((show Tryz.prog.funcNamed Rows.diffTreesRow.func = some 4 by kernel_rfl).symm.trans hf) |>.symm
      obtain rfl : fn = Tryz.f4 := (Option.some.inj (Tryz.func4.symm.trans hfn)).symm
      exact ⟨by kernel_rfl, fun j t ht => by
        rw [Tryz.params4] at ht
        have hm : t ∈ [22, 23, 23] := by simpa using Array.mem_of_getElem? ht
        have aP : ([22, 23, 23].all fun u => !Tryz.prog.wantsStandIn u) = true := by kernel_rfl
        exact (show Tryz.prog.wantsStandIn t = false by simpa using List.all_eq_true.1 aP t hm)⟩)
    (by kernel_rfl)
end Go.Proofs.YtlmahofogapkgaaGreatDoor
