/-
  Part 6 of 6 of the proof that DiffEdits returns true for every two lists of numbers. No condition beyond the given statement.
-/
import Derived.ProofKit
import Derived.Deep.Slices
import Derived.OpenShut
import Derived.Test.YtaomdfcplamenaaGreatDoorRows
import Derived.Test.YtaomdfcplamenaaGreatDoorTie
import Derived.Test.YtaomdfcplamenaaGreatDoorCards
import Derived.LaidMore
import Derived.Stop.Joined
import Derived.Test.YtaomdfcplamenaaGreatDoorPkE5
set_option linter.unusedVariables false
set_option linter.unusedSimpArgs false
set_option linter.defProp false
set_option maxHeartbeats 4000000
set_option maxRecDepth 100000
namespace Go.Proofs.YtaomdfcplamenaaGreatDoor.K
open Go Go.RowKit Go.Proofs

theorem Fn.froze {P : Program} {f : FuncId} {args : List Value} {w0 : World} {H : Hp} {own : List Seg} {R : Value → Seg → Hp → Prop} {S : Value → Hp → Prop}
    (h : Fn P f args w0 H own (fun v o H' => ∃ seg, R v seg H' ∧ o = seg :: own ∧ Le H H')) (hR : ∀ v seg H' H'', R v seg H' → Le H' H'' → (∀ p ∈ seg, H'' p.1 = some p.2) → S v H'') :
    Fn P f args w0 H own (fun v o H' => S v H' ∧ o = own ∧ Le H H') := fun w hw => by
  refine (h w hw).mono ?_
  rintro e w' ⟨v, o, H', rfl, ⟨seg, h1, rfl, h2⟩, h3⟩
  obtain ⟨k1, k2, k3⟩ := h3.freeze
  exact ⟨v, own, _, rfl, ⟨hR v seg H' _ h1 k2 k3, rfl, h2.trans k2⟩, k1⟩
section
variable {es : List Ei} {t : Tr} {w0 : World} {H : Hp} {own : List Seg} {a0 a1 ve : Value}
theorem Apply_bad {c : Int} (hs : applyI t es = .inl c) (hpl : ∀ e ∈ es, e.path.length ≤ 1000000) (hsz : t.size + treesI es ≤ 1000000) (hel : es.length ≤ 1000000) (ht : RdL H t.d [a0, a1]) (hve : rd H (.s 4 (eiD es)) ve) :
    Fn Tryz.prog 17 [.agg #[a0, a1], ve] w0 H own (fun r o H' => r = .tuple #[.agg #[.string ⟨#[]⟩, .slice none 0 0], .int .i64 c] ∧ o = own ∧ Le H H') :=
  (diff_Apply hpl hsz hel ht hve).mono fun r o H' h => by
    obtain ⟨⟨c', h1, h2, h3⟩ | ⟨u, _, _, _, h1, _⟩, h4⟩ := h
    · rw [hs] at h1; cases h1; exact ⟨h2, h3, h4⟩
    · rw [hs] at h1; cases h1
theorem Apply_ok {u : Tr} (hs : applyI t es = .inr u) (hpl : ∀ e ∈ es, e.path.length ≤ 1000000) (hsz : t.size + treesI es ≤ 1000000) (hel : es.length ≤ 1000000) (ht : RdL H t.d [a0, a1]) (hve : rd H (.s 4 (eiD es)) ve) :
    Fn Tryz.prog 17 [.agg #[a0, a1], ve] w0 H own (fun r o H' => ∃ u0 u1 S, r = .tuple #[.agg #[u0, u1], .int .i64 0] ∧ ownT u u0 u1 S ∧ o = S :: own ∧ Le H H') :=
  (diff_Apply hpl hsz hel ht hve).mono fun r o H' h => by
    obtain ⟨⟨c', h1, h2, h3⟩ | ⟨u', u0, u1, S, h1, h2, h3, h5⟩, h4⟩ := h
    · rw [hs] at h1; cases h1
    · rw [hs] at h1; cases h1; exact ⟨u0, u1, S, h2, h3, h5, h4⟩
theorem Apply_okF {u : Tr} (hs : applyI t es = .inr u) (hpl : ∀ e ∈ es, e.path.length ≤ 1000000) (hsz : t.size + treesI es ≤ 1000000) (hel : es.length ≤ 1000000) (ht : RdL H t.d [a0, a1]) (hve : rd H (.s 4 (eiD es)) ve) :
    Fn Tryz.prog 17 [.agg #[a0, a1], ve] w0 H own (fun r o H' => (∃ u0 u1, r = .tuple #[.agg #[u0, u1], .int .i64 0] ∧ RdL H' u.d [u0, u1]) ∧ o = own ∧ Le H H') :=
  Fn.froze (R := fun v S _ => ∃ u0 u1, v = .tuple #[.agg #[u0, u1], .int .i64 0] ∧ ownT u u0 u1 S) (S := fun v H' => ∃ u0 u1, v = .tuple #[.agg #[u0, u1], .int .i64 0] ∧ RdL H' u.d [u0, u1])
    ((Apply_ok hs hpl hsz hel ht hve).mono fun r o H' ⟨u0, u1, S, h1, h2, h3, h4⟩ => ⟨S, ⟨u0, u1, h1, h2⟩, h3, h4⟩)
    (fun v seg H' H'' ⟨u0, u1, h1, h2⟩ _ hz => ⟨u0, u1, h1, h2.rd hz⟩)
theorem Invert_bad {c : Int} (hs : invertI t es = .inl c) (hpl : ∀ e ∈ es, e.path.length ≤ 1000000) (hsz : t.size + treesI es ≤ 1000000) (hel : es.length ≤ 1000000) (ht : RdL H t.d [a0, a1]) (hve : rd H (.s 4 (eiD es)) ve) :
    Fn Tryz.prog 19 [.agg #[a0, a1], ve] w0 H own (fun r o H' => r = .tuple #[.slice none 0 0, .int .i64 c] ∧ o = own ∧ Le H H') :=
  (diff_Invert hpl hsz hel ht hve).mono fun r o H' h => by
    obtain ⟨⟨c', h1, h2, h3⟩ | ⟨u, _, _, h1, _⟩, h4⟩ := h
    · rw [hs] at h1; cases h1; exact ⟨h2, h3, h4⟩
    · rw [hs] at h1; cases h1
theorem Invert_ok {bs : List Ei} (hs : invertI t es = .inr bs) (hpl : ∀ e ∈ es, e.path.length ≤ 1000000) (hsz : t.size + treesI es ≤ 1000000) (hel : es.length ≤ 1000000) (ht : RdL H t.d [a0, a1]) (hve : rd H (.s 4 (eiD es)) ve) :
    Fn Tryz.prog 19 [.agg #[a0, a1], ve] w0 H own (fun r o H' => (∃ v, r = .tuple #[v, .int .i64 0] ∧ rd H' (.s 4 (eiD bs)) v) ∧ o = own ∧ Le H H') :=
  Fn.froze (R := fun r seg H' => ∃ v, r = .tuple #[v, .int .i64 0] ∧ EiLog H' v bs seg) (S := fun r H' => ∃ v, r = .tuple #[v, .int .i64 0] ∧ rd H' (.s 4 (eiD bs)) v)
    ((diff_Invert hpl hsz hel ht hve).mono fun r o H' h => by
      obtain ⟨⟨c', h1, h2, h3⟩ | ⟨bs', v, seg, h1, h2, h3, h5⟩, h4⟩ := h
      · rw [hs] at h1; cases h1
      · rw [hs] at h1; cases h1; exact ⟨seg, ⟨v, h2, h3⟩, h5, h4⟩)
    (fun r seg H' H'' ⟨v, h1, h2⟩ hl hz => ⟨v, h1, h2.rd hz hl⟩)
end
def lA : ByteArray := ⟨#[97]⟩
def lB : ByteArray := ⟨#[98]⟩
def lX : ByteArray := ⟨#[120]⟩
def lY : ByteArray := ⟨#[121]⟩
def sA : Tr := .node lA []
def sB : Tr := .node lB []
def sXab : Tr := .node lX [sA, sB]
def sXb : Tr := .node lX [sB]
def sXa : Tr := .node lX [sA]
def sYa : Tr := .node lY [sA]
theorem uni1 : Uni [sXab, sXb, sA, sB] := ⟨by decide, by decide +kernel, by decide +kernel⟩
theorem uni2 : Uni [sXa, sYa, sA] := ⟨by decide, by decide +kernel, by decide +kernel⟩
theorem ed1 : edT sXab sXb [] = [⟨2, [0], Tr.zero⟩] := by
  have hne : sXab ≠ sXb := by decide +kernel
  have hf : fro sXab.kids sXb.kids = 0 := by decide +kernel
  have hb : bak 0 sXab.kids sXb.kids = 1 := by decide +kernel
  rw [edT_eq, if_neg hne, if_neg (by decide +kernel)]
  unfold midA midB
  rw [hf, hb]
  show wk edT [] [sA] [] 0 = _
  rw [wk_cn, wk_nn]
  rfl
theorem ed2 : edT sXa sYa [] = [⟨3, [], sYa⟩] := by
  rw [edT_eq, if_neg (by decide +kernel), if_pos (by decide +kernel)]
theorem ap3 : applyI sXa [⟨1, [2], sB⟩] = .inl 101 := by decide +kernel
theorem iv4 : invertI sXab [⟨2, [1], Tr.zero⟩] = .inr [⟨1, [1], sB⟩] := by rfl
end Go.Proofs.YtaomdfcplamenaaGreatDoor.K

namespace Go.Proofs.YtaomdfcplamenaaGreatDoor.K
open Go Go.RowKit Go.Proofs

structure RndC where
  op : Int
  path : List Int
  x : Tr
  at_ : Nat
theorem grow1_le (l : List Int) (a : Nat) : (growT l 1 a).2 ≤ a + 8 ∧ (growT l 1 a).1.size ≤ 4 := ⟨growT_le l 1 a, growT_size l 1 a⟩
end Go.Proofs.YtaomdfcplamenaaGreatDoor.K

namespace Go.Proofs.YtaomdfcplamenaaGreatDoor.K
open Go Go.RowKit Go.Proofs

theorem main_mk {H : Hp} {v : Value} (h : rd H (.s 11 pollD) v) : RdL H mainD [.string ⟨#[109, 97, 105, 110]⟩, .slice none 0 0, .int .i64 7, .string ⟨#[]⟩, .int .i64 0, .slice none 0 0, v, .bool false, .int .i64 0, .int .u16 0] :=
  ⟨by simp [rd], by simp [rd], by simp [rd], by simp [rd], by simp [rd], by simp [rd], h, by simp [rd], by simp [rd], by simp [rd], trivial⟩
theorem eqb_self (t : Tr) : t.eqb t = true := by rw [Tr.eqb_iff]
theorem lab_of {H : Hp} {l : ByteArray} {ks : List Tr} {c0 c1 : Value} (h : RdL H (Tr.node l ks).d [c0, c1]) : c0 = .string l := (tr_cells h).1
theorem law_sanity {w0 : World} {H : Hp} {own : List Seg} : Fn Tryz.prog 10 [] w0 H own (fun r o H' => r = .bool true ∧ o = own ∧ Le H H') := by
  have hsz : mainT.size = 10 := by decide +kernel
  refine Fn.enter Tryz.func10 rfl Tryz.ntmps10 rfl ?_; have hL := Le.refl H; refine TC.seq ?_; refine TC.region ?_; refine TL.assign rfl rfl ?_; refine TL.nsr ?_; refine TL.struct [(0, [_])] ⟨rfl, ⟨_, rfl, rfl⟩, trivial⟩ rfl rfl ?_; refine TL.struct [(0, [_])] ⟨rfl, ⟨_, rfl, rfl⟩, trivial⟩ rfl rfl ?_
  refine TL.litF (r := [_, _, _, _, _, _, _, _, _, _, _]) [(0, [_, _, _, _, _, _, _, _, _, _, _])] ⟨rfl, ⟨_, rfl, rfl⟩, trivial⟩ rfl rfl rfl rfl ?_; intro g13
  refine TL.freeze (fun H1 hle hz_g13 => ?_)
  have hL := Le.trans hL hle
  have hpd : rd H1 (.s 11 pollD) _ := rd.ofRow (Row.lit 56 11 1 _ _ rfl (by omega)) hz_g13 (RdL.vals _) (Le.refl _)
  refine TL.struct [(0, [_]), (2, [_, _, _, _]), (3, [_])] ⟨rfl, ⟨_, rfl, rfl⟩, rfl, ⟨_, rfl, rfl⟩, rfl, ⟨_, rfl, rfl⟩, trivial⟩ rfl rfl ?_
  refine TL.litF (r := [_, _, _, _, _, _, _, _, _, _]) [(0, [_, _, _, _, _, _, _, _, _, _])] ⟨rfl, ⟨_, rfl, rfl⟩, trivial⟩ rfl rfl rfl rfl ?_; intro g15
  refine TL.freeze (fun H2 hle hz_g15 => ?_)
  have hL := Le.trans hL hle; have hpd := rd.mono hle hpd
  have hmd : rd H2 (.s 10 mainD) _ := rd.ofRow (Row.lit 61 10 1 _ _ rfl (by omega)) hz_g15 (main_mk hpd) (Le.refl _)
  refine TL.struct [(2, [_])] ⟨rfl, ⟨_, rfl, rfl⟩, trivial⟩ rfl rfl ?_
  refine TL.new rfl ?_; intro g1; refine TL.storeA 0 0 (c' := #[_, _, _]) (own' := [(_, .cells #[_, _, _] _ _)] :: _) rfl rfl rfl rfl rfl ⟨rfl, rfl, rfl, trivial⟩ (by simp) rfl rfl rfl ?_; refine TL.nsr ?_; refine TL.call (law_tree (t := (.node ⟨#[116, 121, 112, 101, 115]⟩ [])) (rd.nil _ _)) ⟨rfl, rfl, trivial⟩ rfl ?_
  rintro _ own H17 ⟨a17, b17, rfl, hr17, rfl, hle17⟩
  have hL := Le.trans hL hle17; have hmd := rd.mono hle17 hmd; refine TL.call (law_tree (t := (.node ⟨#[103, 108, 111, 98, 97, 108, 115]⟩ [])) (rd.nil _ _)) ⟨rfl, rfl, trivial⟩ rfl ?_
  rintro _ own H18 ⟨a18, b18, rfl, hr18, rfl, hle18⟩
  have hL := Le.trans hL hle18; have hmd := rd.mono hle18 hmd; have hr17 := RdL.mono hle18 hr17; refine TL.call (law_tree (t := (.node ⟨#[112, 97, 114, 97, 109, 115]⟩ [])) (rd.nil _ _)) ⟨rfl, rfl, trivial⟩ rfl ?_
  rintro _ own H19 ⟨a19, b19, rfl, hr19, rfl, hle19⟩
  have hL := Le.trans hL hle19; have hmd := rd.mono hle19 hmd; have hr17 := RdL.mono hle19 hr17; have hr18 := RdL.mono hle19 hr18; refine TL.call (law_tree (t := (.node ⟨#[118, 111, 105, 100]⟩ [])) (rd.nil _ _)) ⟨rfl, rfl, trivial⟩ rfl ?_
  rintro _ own H20 ⟨a20, b20, rfl, hr20, rfl, hle20⟩
  have hL := Le.trans hL hle20; have hmd := rd.mono hle20 hmd; have hr17 := RdL.mono hle20 hr17; have hr18 := RdL.mono hle20 hr18; have hr19 := RdL.mono hle20 hr19
  refine TL.litF (r := [_, _]) [(0, [_, _])] ⟨rfl, ⟨_, rfl, rfl⟩, trivial⟩ rfl rfl rfl rfl ?_; intro g21
  refine TL.freeze (fun H3 hle hz_g21 => ?_)
  have hL := Le.trans hL hle; have hmd := rd.mono hle hmd; have hr17 := RdL.mono hle hr17; have hr18 := RdL.mono hle hr18; have hr19 := RdL.mono hle hr19; have hr20 := RdL.mono hle hr20
  have hk21 : rd H3 (.s 2 (Tr.ds [(.node ⟨#[118, 111, 105, 100]⟩ [])])) _ := rd.ofRow (Row.lit 26 2 1 _ _ rfl (by omega)) hz_g21 (trs_cons hr20 (trivial)) (Le.refl _)
  refine TL.call (law_tree (t := (.node ⟨#[114, 101, 115, 117, 108, 116]⟩ [(.node ⟨#[118, 111, 105, 100]⟩ [])])) hk21) ⟨rfl, rfl, trivial⟩ rfl ?_
  rintro _ own H22 ⟨a22, b22, rfl, hr22, rfl, hle22⟩
  have hL := Le.trans hL hle22; have hmd := rd.mono hle22 hmd; have hr17 := RdL.mono hle22 hr17; have hr18 := RdL.mono hle22 hr18; have hr19 := RdL.mono hle22 hr19; refine TL.call (law_tree (t := (.node ⟨#[112, 111, 108, 108]⟩ [])) (rd.nil _ _)) ⟨rfl, rfl, trivial⟩ rfl ?_
  rintro _ own H23 ⟨a23, b23, rfl, hr23, rfl, hle23⟩
  have hL := Le.trans hL hle23; have hmd := rd.mono hle23 hmd; have hr17 := RdL.mono hle23 hr17; have hr18 := RdL.mono hle23 hr18; have hr19 := RdL.mono hle23 hr19; have hr22 := RdL.mono hle23 hr22
  refine TL.litF (r := [_, _]) [(0, [_, _])] ⟨rfl, ⟨_, rfl, rfl⟩, trivial⟩ rfl rfl rfl rfl ?_; intro g24
  refine TL.freeze (fun H4 hle hz_g24 => ?_)
  have hL := Le.trans hL hle; have hmd := rd.mono hle hmd; have hr17 := RdL.mono hle hr17; have hr18 := RdL.mono hle hr18; have hr19 := RdL.mono hle hr19; have hr22 := RdL.mono hle hr22; have hr23 := RdL.mono hle hr23
  have hk24 : rd H4 (.s 2 (Tr.ds [(.node ⟨#[112, 111, 108, 108]⟩ [])])) _ := rd.ofRow (Row.lit 26 2 1 _ _ rfl (by omega)) hz_g24 (trs_cons hr23 (trivial)) (Le.refl _)
  refine TL.call (law_tree (t := (.node ⟨#[98, 111, 100, 121]⟩ [(.node ⟨#[112, 111, 108, 108]⟩ [])])) hk24) ⟨rfl, rfl, trivial⟩ rfl ?_
  rintro _ own H25 ⟨a25, b25, rfl, hr25, rfl, hle25⟩
  have hL := Le.trans hL hle25; have hmd := rd.mono hle25 hmd; have hr17 := RdL.mono hle25 hr17; have hr18 := RdL.mono hle25 hr18; have hr19 := RdL.mono hle25 hr19; have hr22 := RdL.mono hle25 hr22
  refine TL.litF (r := [_, _, _, _, _, _]) [(0, [_, _]), (1, [_, _]), (2, [_, _])] ⟨rfl, ⟨_, rfl, rfl⟩, rfl, ⟨_, rfl, rfl⟩, rfl, ⟨_, rfl, rfl⟩, trivial⟩ rfl rfl rfl rfl ?_; intro g26
  refine TL.freeze (fun H5 hle hz_g26 => ?_)
  have hL := Le.trans hL hle; have hmd := rd.mono hle hmd; have hr17 := RdL.mono hle hr17; have hr18 := RdL.mono hle hr18; have hr19 := RdL.mono hle hr19; have hr22 := RdL.mono hle hr22; have hr25 := RdL.mono hle hr25
  have hk26 : rd H5 (.s 2 (Tr.ds [(.node ⟨#[112, 97, 114, 97, 109, 115]⟩ []), (.node ⟨#[114, 101, 115, 117, 108, 116]⟩ [(.node ⟨#[118, 111, 105, 100]⟩ [])]), (.node ⟨#[98, 111, 100, 121]⟩ [(.node ⟨#[112, 111, 108, 108]⟩ [])])])) _ := rd.ofRow (Row.lit 26 2 3 _ _ rfl (by omega)) hz_g26 (trs_cons hr19 (trs_cons hr22 (trs_cons hr25 (trivial)))) (Le.refl _)
  refine TL.call (law_tree (t := (.node ⟨#[102, 110, 32, 109, 97, 105, 110]⟩ [(.node ⟨#[112, 97, 114, 97, 109, 115]⟩ []), (.node ⟨#[114, 101, 115, 117, 108, 116]⟩ [(.node ⟨#[118, 111, 105, 100]⟩ [])]), (.node ⟨#[98, 111, 100, 121]⟩ [(.node ⟨#[112, 111, 108, 108]⟩ [])])])) hk26) ⟨rfl, rfl, trivial⟩ rfl ?_
  rintro _ own H27 ⟨a27, b27, rfl, hr27, rfl, hle27⟩
  have hL := Le.trans hL hle27; have hmd := rd.mono hle27 hmd; have hr17 := RdL.mono hle27 hr17; have hr18 := RdL.mono hle27 hr18
  refine TL.litF (r := [_, _]) [(0, [_, _])] ⟨rfl, ⟨_, rfl, rfl⟩, trivial⟩ rfl rfl rfl rfl ?_; intro g28
  refine TL.freeze (fun H6 hle hz_g28 => ?_)
  have hL := Le.trans hL hle; have hmd := rd.mono hle hmd; have hr17 := RdL.mono hle hr17; have hr18 := RdL.mono hle hr18; have hr27 := RdL.mono hle hr27
  have hk28 : rd H6 (.s 2 (Tr.ds [(.node ⟨#[102, 110, 32, 109, 97, 105, 110]⟩ [(.node ⟨#[112, 97, 114, 97, 109, 115]⟩ []), (.node ⟨#[114, 101, 115, 117, 108, 116]⟩ [(.node ⟨#[118, 111, 105, 100]⟩ [])]), (.node ⟨#[98, 111, 100, 121]⟩ [(.node ⟨#[112, 111, 108, 108]⟩ [])])])])) _ := rd.ofRow (Row.lit 26 2 1 _ _ rfl (by omega)) hz_g28 (trs_cons hr27 (trivial)) (Le.refl _)
  refine TL.call (law_tree (t := (.node ⟨#[102, 117, 110, 99, 115]⟩ [(.node ⟨#[102, 110, 32, 109, 97, 105, 110]⟩ [(.node ⟨#[112, 97, 114, 97, 109, 115]⟩ []), (.node ⟨#[114, 101, 115, 117, 108, 116]⟩ [(.node ⟨#[118, 111, 105, 100]⟩ [])]), (.node ⟨#[98, 111, 100, 121]⟩ [(.node ⟨#[112, 111, 108, 108]⟩ [])])])])) hk28) ⟨rfl, rfl, trivial⟩ rfl ?_
  rintro _ own H29 ⟨a29, b29, rfl, hr29, rfl, hle29⟩
  have hL := Le.trans hL hle29; have hmd := rd.mono hle29 hmd; have hr17 := RdL.mono hle29 hr17; have hr18 := RdL.mono hle29 hr18
  refine TL.litF (r := [_, _, _, _, _, _]) [(0, [_, _]), (1, [_, _]), (2, [_, _])] ⟨rfl, ⟨_, rfl, rfl⟩, rfl, ⟨_, rfl, rfl⟩, rfl, ⟨_, rfl, rfl⟩, trivial⟩ rfl rfl rfl rfl ?_; intro g30
  refine TL.freeze (fun H7 hle hz_g30 => ?_)
  have hL := Le.trans hL hle; have hmd := rd.mono hle hmd; have hr17 := RdL.mono hle hr17; have hr18 := RdL.mono hle hr18; have hr29 := RdL.mono hle hr29
  have hk30 : rd H7 (.s 2 (Tr.ds [(.node ⟨#[116, 121, 112, 101, 115]⟩ []), (.node ⟨#[103, 108, 111, 98, 97, 108, 115]⟩ []), (.node ⟨#[102, 117, 110, 99, 115]⟩ [(.node ⟨#[102, 110, 32, 109, 97, 105, 110]⟩ [(.node ⟨#[112, 97, 114, 97, 109, 115]⟩ []), (.node ⟨#[114, 101, 115, 117, 108, 116]⟩ [(.node ⟨#[118, 111, 105, 100]⟩ [])]), (.node ⟨#[98, 111, 100, 121]⟩ [(.node ⟨#[112, 111, 108, 108]⟩ [])])])])])) _ := rd.ofRow (Row.lit 26 2 3 _ _ rfl (by omega)) hz_g30 (trs_cons hr17 (trs_cons hr18 (trs_cons hr29 (trivial)))) (Le.refl _)
  refine TL.call (law_tree (t := mainT) hk30) ⟨rfl, rfl, trivial⟩ rfl ?_
  rintro _ own H31 ⟨a31, b31, rfl, hr31, rfl, hle31⟩
  have hL := Le.trans hL hle31; have hmd := rd.mono hle31 hmd
  refine TL.new rfl ?_; intro g2; refine TL.storeA 0 0 (c' := #[_, _]) (own' := [(_, .cells #[_, _] _ _)] :: _) rfl rfl rfl rfl rfl (tr_ones hr31) (by simp) rfl rfl rfl ?_; refine TL.nsr ?_; refine TL.call (law_tree (t := sA) (rd.nil _ _)) ⟨rfl, rfl, trivial⟩ rfl ?_
  rintro _ own H32 ⟨a32, b32, rfl, hr32, rfl, hle32⟩
  have hL := Le.trans hL hle32; have hmd := rd.mono hle32 hmd; have hr31 := RdL.mono hle32 hr31; refine TL.call (law_tree (t := sB) (rd.nil _ _)) ⟨rfl, rfl, trivial⟩ rfl ?_
  rintro _ own H33 ⟨a33, b33, rfl, hr33, rfl, hle33⟩
  have hL := Le.trans hL hle33; have hmd := rd.mono hle33 hmd; have hr31 := RdL.mono hle33 hr31; have hr32 := RdL.mono hle33 hr32
  refine TL.new rfl ?_; intro g3
  refine TL.new rfl ?_; intro g4; refine TL.storeA 1 0 (c' := #[_, _]) (own' := _ :: [(_, .cells #[_, _] _ _)] :: _) rfl rfl rfl rfl rfl (tr_ones hr32) (by simp) rfl rfl rfl ?_; refine TL.storeA 0 0 (c' := #[_, _]) (own' := [(_, .cells #[_, _] _ _)] :: _) rfl rfl rfl rfl rfl (tr_ones hr33) (by simp) rfl rfl rfl ?_; refine TL.nil ?_; refine TQ.then_n ?_; refine TC.seq ?_; refine TC.drawQV 6  [(0, _), (1, _), (2, _), (3, _), (4, _)] follows_mixed ⟨rfl, rfl, rfl, rfl, rfl, trivial⟩ ?_
  refine ChainV.q (some 34) [] (by
   intro H' X F hle; have hL := Le.trans hL hle; intro hF; refine TL.load_ownA 1 0 [_, _] rfl rfl rfl ⟨rfl, rfl, trivial⟩ rfl rfl ?_
   exact TL.one hF) ?_
  refine ChainV.q (some 35) [] (by
   intro H' X F hle; have hL := Le.trans hL hle; intro hF; refine TL.load_ownA 0 0 [_, _] rfl rfl rfl ⟨rfl, rfl, trivial⟩ rfl rfl ?_
   exact TL.one hF) ?_
  refine ChainV.r (some 36) [(0, 1), (1, 0)] ([]) (fun _ => fun u sg H => rd H (.s 2 (Tr.ds [sA, sB])) u ∧ sg = []) (by
   intro H' X F hle; have hL := Le.trans hL hle; have hr32 := RdL.mono hle hr32; have hr33 := RdL.mono hle hr33; intro hF
   refine TL.litF (r := [_, _, _, _]) [(0, [_, _]), (1, [_, _])] ⟨rfl, ⟨_, rfl, rfl⟩, rfl, ⟨_, rfl, rfl⟩, trivial⟩ rfl rfl rfl rfl ?_; intro g36; refine TL.nil ?_
   refine TQ.freeze (fun H9 hle9 hz => ?_)
   exact TQ.one [] hF hle9 ⟨rd.ofRow (Row.lit 26 2 2 _ _ rfl (by omega)) hz (trs_cons hr32 (trs_cons hr33 (trivial))) hle9, rfl⟩) ?_
  refine ChainV.r (some 37) [(2, 0)] ([]) (fun _ => fun u sg H => ∃ d0 d1, u = .agg #[d0, d1] ∧ RdL H sXab.d [d0, d1] ∧ sg = []) (by
   intro H' X F hle; have hL := Le.trans hL hle; intro _
   rintro v36 _ Hi36 hle36 ⟨hr36, rfl⟩
   replace hr36 := rd.mono hle36 hr36
   intro hF; refine TL.call (law_tree (t := sXab) hr36) ⟨rfl, rfl, trivial⟩ rfl ?_
   rintro _ own H37 ⟨a37, b37, rfl, hr37, rfl, hle37⟩
   have hL := Le.trans hL hle37; refine TL.nil ?_
   exact TQ.one [] hF hle37 ⟨a37, b37, rfl, hr37, rfl⟩) ?_
  refine ChainV.q (some 38) [] (by
   intro H' X F hle; have hL := Le.trans hL hle; intro hF; refine TL.load_ownA 0 0 [_, _] rfl rfl rfl ⟨rfl, rfl, trivial⟩ rfl rfl ?_
   exact TL.one hF) ?_
  refine ChainV.r (some 39) [(4, 0)] ([]) (fun _ => fun u sg H => rd H (.s 2 (Tr.ds [sB])) u ∧ sg = []) (by
   intro H' X F hle; have hL := Le.trans hL hle; have hr33 := RdL.mono hle hr33; intro hF
   refine TL.litF (r := [_, _]) [(0, [_, _])] ⟨rfl, ⟨_, rfl, rfl⟩, trivial⟩ rfl rfl rfl rfl ?_; intro g39; refine TL.nil ?_
   refine TQ.freeze (fun H9 hle9 hz => ?_)
   exact TQ.one [] hF hle9 ⟨rd.ofRow (Row.lit 26 2 1 _ _ rfl (by omega)) hz (trs_cons hr33 (trivial)) hle9, rfl⟩) ?_
  refine ⟨by kernel_rfl, .refl _, ?_⟩
  ·
   intro H8 hle
   rintro v36 _ Hi36 hle36 ⟨hr36, rfl⟩
   rintro _ _ Hi37 hle37 ⟨a37, b37, rfl, hr37, rfl⟩
   replace hr37 := RdL.mono hle37 hr37
   rintro v39 _ Hi39 hle39 ⟨hr39, rfl⟩
   replace hr39 := rd.mono hle39 hr39
   have hL := Le.trans hL hle; have hmd := rd.mono hle hmd; have hr31 := RdL.mono hle hr31; have hr32 := RdL.mono hle hr32; have hr33 := RdL.mono hle hr33; refine TL.toOwn (own' := _ :: _ :: _ :: _ :: own) rfl ?_; refine TL.wk (env' := [(0, _), (1, _), (2, _), (3, _), (4, _), (37, _), (39, _)]) ⟨rfl, rfl, rfl, rfl, rfl, rfl, rfl, trivial⟩ ?_; refine TL.call (law_tree (t := sXb) hr39) ⟨rfl, rfl, trivial⟩ rfl ?_
   rintro _ own H40 ⟨a40, b40, rfl, hr40, rfl, hle40⟩
   have hL := Le.trans hL hle40; have hmd := rd.mono hle40 hmd; have hr31 := RdL.mono hle40 hr31; have hr32 := RdL.mono hle40 hr32; have hr33 := RdL.mono hle40 hr33; have hr37 := RdL.mono hle40 hr37; refine TL.call (Diff_n uni1 (by simp) (by simp) (by decide) hr37 hr40) ⟨rfl, rfl, trivial⟩ rfl ?_
   rintro v41 own H41 ⟨hr41, rfl, hle41⟩
   replace hr41 : rd H41 (.s 4 (eiD [⟨2, [0], Tr.zero⟩])) v41 := by
     rw [ed1, ← eiD_of] at hr41
     exact hr41
   have hL := Le.trans hL hle41; have hmd := rd.mono hle41 hmd; have hr31 := RdL.mono hle41 hr31; have hr32 := RdL.mono hle41 hr32; have hr33 := RdL.mono hle41 hr33; refine TL.assign rfl rfl ?_; refine TL.nil ?_; refine TQ.then_n ?_; refine TC.seq ?_; refine TC.drawQV 5  [(0, _), (1, _), (2, _), (3, _), (4, _), (5, _)] follows_mixed ⟨rfl, rfl, rfl, rfl, rfl, rfl, trivial⟩ ?_
   refine ChainV.q (some 42) [] (by
    intro H' X F hle; have hL := Le.trans hL hle; intro hF; refine TL.load_ownA 1 0 [_, _] rfl rfl rfl ⟨rfl, rfl, trivial⟩ rfl rfl ?_
    exact TL.one hF) ?_
   refine ChainV.r (some 43) [(0, 0)] ([]) (fun _ => fun u sg H => rd H (.s 2 (Tr.ds [sA])) u ∧ sg = []) (by
    intro H' X F hle; have hL := Le.trans hL hle; have hr32 := RdL.mono hle hr32; intro hF
    refine TL.litF (r := [_, _]) [(0, [_, _])] ⟨rfl, ⟨_, rfl, rfl⟩, trivial⟩ rfl rfl rfl rfl ?_; intro g43; refine TL.nil ?_
    refine TQ.freeze (fun H9 hle9 hz => ?_)
    exact TQ.one [] hF hle9 ⟨rd.ofRow (Row.lit 26 2 1 _ _ rfl (by omega)) hz (trs_cons hr32 (trivial)) hle9, rfl⟩) ?_
   refine ChainV.r (some 44) [(1, 0)] ([]) (fun _ => fun u sg H => ∃ d0 d1, u = .agg #[d0, d1] ∧ RdL H sXa.d [d0, d1] ∧ sg = []) (by
    intro H' X F hle; have hL := Le.trans hL hle; intro _
    rintro v43 _ Hi43 hle43 ⟨hr43, rfl⟩
    replace hr43 := rd.mono hle43 hr43
    intro hF; refine TL.call (law_tree (t := sXa) hr43) ⟨rfl, rfl, trivial⟩ rfl ?_
    rintro _ own H44 ⟨a44, b44, rfl, hr44, rfl, hle44⟩
    have hL := Le.trans hL hle44; refine TL.nil ?_
    exact TQ.one [] hF hle44 ⟨a44, b44, rfl, hr44, rfl⟩) ?_
   refine ChainV.q (some 45) [] (by
    intro H' X F hle; have hL := Le.trans hL hle; intro hF; refine TL.load_ownA 1 0 [_, _] rfl rfl rfl ⟨rfl, rfl, trivial⟩ rfl rfl ?_
    exact TL.one hF) ?_
   refine ChainV.r (some 46) [(3, 0)] ([]) (fun _ => fun u sg H => rd H (.s 2 (Tr.ds [sA])) u ∧ sg = []) (by
    intro H' X F hle; have hL := Le.trans hL hle; have hr32 := RdL.mono hle hr32; intro hF
    refine TL.litF (r := [_, _]) [(0, [_, _])] ⟨rfl, ⟨_, rfl, rfl⟩, trivial⟩ rfl rfl rfl rfl ?_; intro g46; refine TL.nil ?_
    refine TQ.freeze (fun H9 hle9 hz => ?_)
    exact TQ.one [] hF hle9 ⟨rd.ofRow (Row.lit 26 2 1 _ _ rfl (by omega)) hz (trs_cons hr32 (trivial)) hle9, rfl⟩) ?_
   refine ⟨by kernel_rfl, .refl _, ?_⟩
   ·
    intro H9 hle
    rintro v43 _ Hi43 hle43 ⟨hr43, rfl⟩
    rintro _ _ Hi44 hle44 ⟨a44, b44, rfl, hr44, rfl⟩
    replace hr44 := RdL.mono hle44 hr44
    rintro v46 _ Hi46 hle46 ⟨hr46, rfl⟩
    replace hr46 := rd.mono hle46 hr46
    have hL := Le.trans hL hle; have hmd := rd.mono hle hmd; have hr31 := RdL.mono hle hr31; have hr32 := RdL.mono hle hr32; have hr33 := RdL.mono hle hr33; have hr41 := rd.mono hle hr41; refine TL.toOwn (own' := _ :: _ :: _ :: _ :: own) rfl ?_; refine TL.wk (env' := [(0, _), (1, _), (2, _), (3, _), (4, _), (5, _), (44, _), (46, _)]) ⟨rfl, rfl, rfl, rfl, rfl, rfl, rfl, rfl, trivial⟩ ?_; refine TL.call (law_tree (t := sYa) hr46) ⟨rfl, rfl, trivial⟩ rfl ?_
    rintro _ own H47 ⟨a47, b47, rfl, hr47, rfl, hle47⟩
    have hL := Le.trans hL hle47; have hmd := rd.mono hle47 hmd; have hr31 := RdL.mono hle47 hr31; have hr32 := RdL.mono hle47 hr32; have hr33 := RdL.mono hle47 hr33; have hr41 := rd.mono hle47 hr41; have hr44 := RdL.mono hle47 hr44; refine TL.call (Diff_n uni2 (by simp) (by simp) (by decide) hr44 hr47) ⟨rfl, rfl, trivial⟩ rfl ?_
    rintro v48 own H48 ⟨hr48, rfl, hle48⟩
    replace hr48 : rd H48 (.s 4 (eiD [⟨3, [], sYa⟩])) v48 := by
      rw [ed2, ← eiD_of] at hr48
      exact hr48
    have hL := Le.trans hL hle48; have hmd := rd.mono hle48 hmd; have hr31 := RdL.mono hle48 hr31; have hr32 := RdL.mono hle48 hr32; have hr33 := RdL.mono hle48 hr33; have hr41 := rd.mono hle48 hr41; refine TL.assign rfl rfl ?_; refine TL.nil ?_; refine TQ.then_n ?_; refine TC.seq ?_; refine TC.drawQV 13  [(0, _), (1, _), (2, _), (3, _), (4, _), (5, _), (6, _)] follows_mixed ⟨rfl, rfl, rfl, rfl, rfl, rfl, rfl, trivial⟩ ?_
    refine ChainV.q (some 50) [] (by
     intro H' X F hle; have hL := Le.trans hL hle; intro hF; refine TL.load_ownA 1 0 [_, _] rfl rfl rfl ⟨rfl, rfl, trivial⟩ rfl rfl ?_
     exact TL.one hF) ?_
    refine ChainV.r (some 51) [(0, 0)] ([]) (fun _ => fun u sg H => rd H (.s 2 (Tr.ds [sA])) u ∧ sg = []) (by
     intro H' X F hle; have hL := Le.trans hL hle; have hr32 := RdL.mono hle hr32; intro hF
     refine TL.litF (r := [_, _]) [(0, [_, _])] ⟨rfl, ⟨_, rfl, rfl⟩, trivial⟩ rfl rfl rfl rfl ?_; intro g51; refine TL.nil ?_
     refine TQ.freeze (fun H9 hle9 hz => ?_)
     exact TQ.one [] hF hle9 ⟨rd.ofRow (Row.lit 26 2 1 _ _ rfl (by omega)) hz (trs_cons hr32 (trivial)) hle9, rfl⟩) ?_
    refine ChainV.r (some 52) [(1, 0)] ([]) (fun _ => fun u sg H => ∃ d0 d1, u = .agg #[d0, d1] ∧ RdL H sXa.d [d0, d1] ∧ sg = []) (by
     intro H' X F hle; have hL := Le.trans hL hle; intro _
     rintro v51 _ Hi51 hle51 ⟨hr51, rfl⟩
     replace hr51 := rd.mono hle51 hr51
     intro hF; refine TL.call (law_tree (t := sXa) hr51) ⟨rfl, rfl, trivial⟩ rfl ?_
     rintro _ own H52 ⟨a52, b52, rfl, hr52, rfl, hle52⟩
     have hL := Le.trans hL hle52; refine TL.nil ?_
     exact TQ.one [] hF hle52 ⟨a52, b52, rfl, hr52, rfl⟩) ?_
    refine ChainV.r (some 53) [] ([]) (fun _ => fun u sg H => rd H (.s 1 (ints [2])) u ∧ sg = []) (by
     intro H' X F hle; have hL := Le.trans hL hle; intro hF
     refine TL.litF (r := [_]) [(0, [_])] ⟨rfl, ⟨_, rfl, rfl⟩, trivial⟩ rfl rfl rfl rfl ?_; intro g53; refine TL.nil ?_
     refine TQ.freeze (fun H9 hle9 hz => ?_)
     exact TQ.one [] hF hle9 ⟨rd.ofRow (Row.lit 3 1 1 _ _ rfl (by omega)) hz (RdL.vals [.int .i64 2]) hle9, rfl⟩) ?_
    refine ChainV.q (some 54) [] (by
     intro H' X F hle; have hL := Le.trans hL hle; intro hF; refine TL.load_ownA 0 0 [_, _] rfl rfl rfl ⟨rfl, rfl, trivial⟩ rfl rfl ?_
     exact TL.one hF) ?_
    refine ChainV.r (some 55) [(3, 1), (4, 0)] ([]) (fun _ => fun u sg H => ∃ a b c d, u = .agg #[a, b, c, d] ∧ RdL H (Ei.d ⟨1, [2], sB⟩) [a, b, c, d] ∧ sg = []) (by
     intro H' X F hle; have hL := Le.trans hL hle; have hr33 := RdL.mono hle hr33; intro _
     rintro v53 _ Hi53 hle53 ⟨hr53, rfl⟩
     replace hr53 := rd.mono hle53 hr53
     intro hF; refine TL.struct [(0, [_]), (1, [_]), (2, [_, _])] ⟨rfl, ⟨_, rfl, rfl⟩, rfl, ⟨_, rfl, one_cells hr53.one⟩, rfl, ⟨_, rfl, rfl⟩, trivial⟩ rfl rfl ?_; refine TL.nil ?_
     exact TQ.one [] hF (Le.refl _) ⟨_, _, _, _, rfl, ei_mk (e := ⟨1, [2], sB⟩) hr53 hr33, rfl⟩) ?_
    refine ChainV.r (some 56) [(5, 0)] ([]) (fun _ => fun u sg H => rd H (.s 4 (eiD [⟨1, [2], sB⟩])) u ∧ sg = []) (by
     intro H' X F hle; have hL := Le.trans hL hle; intro _
     rintro _ _ Hi55 hle55 ⟨p0, p1, p2, p3, rfl, hr55, rfl⟩
     replace hr55 := RdL.mono hle55 hr55
     intro hF
     refine TL.litF (r := [_, _, _, _]) [(0, [_, _, _, _])] ⟨rfl, ⟨_, rfl, rfl⟩, trivial⟩ rfl rfl rfl rfl ?_; intro g56; refine TL.nil ?_
     refine TQ.freeze (fun H9 hle9 hz => ?_)
     exact TQ.one [] hF hle9 ⟨rd.ofRow (Row.lit 46 4 1 _ _ rfl (by omega)) hz (by simpa [eiD] using hr55) hle9, rfl⟩) ?_
    refine ChainV.q (some 57) [(2, 4), (6, 0)] (by
     intro H' X F hle; have hL := Le.trans hL hle; intro _
     rintro _ _ Hi52 hle52 ⟨a52, b52, rfl, hr52, rfl⟩
     replace hr52 := RdL.mono hle52 hr52
     intro _
     rintro v56 _ Hi56 hle56 ⟨hr56, rfl⟩
     replace hr56 := rd.mono hle56 hr56
     intro hF; refine TL.call (Apply_bad ap3 (by decide) (by decide) (by decide) hr52 hr56) ⟨rfl, rfl, trivial⟩ rfl ?_
     rintro _ own H57 ⟨rfl, rfl, hle57⟩
     have hL := Le.trans hL hle57; refine TL.nil ?_
     exact TQ.one [] hF hle57 ⟨rfl, rfl⟩) ?_
    refine ChainV.q (some 49) [(7, 0)] (fun _ _ _ _ hF => TL.move rfl rfl (TL.one hF)) ?_; refine ChainV.q (some 58) [(8, 0)] (fun _ _ _ _ hF => TL.extract rfl rfl rfl (TL.one hF)) ?_; refine ChainV.q (some 59) [(8, 1)] (fun _ _ _ _ hF => TL.extract rfl rfl rfl (TL.one hF)) ?_
    refine ChainV.t true [] (some 7) [] ([]) (fun _ => fun u sg H => ∃ g, u = .pointer (some ⟨g, 0, none⟩) ∧ sg = [[(g, .cells #[.string ⟨#[]⟩, .slice none 0 0] 26 (0, 0))]]) (by
     intro H' X F hle; have hL := Le.trans hL hle; intro hF
     refine TL.new rfl ?_; intro g7; refine TL.nil ?_
     exact TQ.one [_] hF (Le.refl _) ⟨_, rfl, rfl⟩) ?_
    refine ChainV.t false [11] none [(11, 0), (9, 2)] ([]) (fun vs u sg H => ∃ g, nthV vs 0 = .pointer (some ⟨g, 0, none⟩) ∧ sg = [[(g, .cells #[.string ⟨#[]⟩, .slice none 0 0] 26 (0, 0))]]) (by
     intro H' X F hle; have hL := Le.trans hL hle; intro _
     rintro _ _ Hr hler ⟨g7, rfl, rfl⟩
     intro hF; refine TL.toOwn (own' := _ :: _) rfl ?_; refine TL.storeA 0 0 (c' := #[_, _]) (own' := [(_, .cells #[_, _] _ _)] :: _) rfl rfl rfl rfl rfl ⟨rfl, rfl, trivial⟩ (by simp) rfl rfl rfl ?_; refine TL.nil ?_
     exact TQ.one [_] hF (Le.refl _) ⟨_, rfl, rfl⟩) ?_
    refine ⟨by kernel_rfl, .refl _, ?_⟩
    ·
     intro H10 hle
     rintro v51 _ Hi51 hle51 ⟨hr51, rfl⟩
     rintro _ _ Hi52 hle52 ⟨a52, b52, rfl, hr52, rfl⟩
     rintro v53 _ Hi53 hle53 ⟨hr53, rfl⟩
     rintro _ _ Hi55 hle55 ⟨p0, p1, p2, p3, rfl, hr55, rfl⟩
     rintro v56 _ Hi56 hle56 ⟨hr56, rfl⟩
     rintro _ _ Hr hler ⟨g7, rfl, rfl⟩
     rintro _ _ Hr hler ⟨g7, e7, rfl⟩
     cases e7
     have hL := Le.trans hL hle; have hmd := rd.mono hle hmd; have hr31 := RdL.mono hle hr31; have hr32 := RdL.mono hle hr32; have hr33 := RdL.mono hle hr33; have hr41 := rd.mono hle hr41; have hr48 := rd.mono hle hr48; refine TL.toOwn (own' := _ :: _ :: _ :: _ :: _ :: own) rfl ?_; refine TL.wk (env' := [(0, _), (1, _), (2, _), (3, _), (4, _), (5, _), (6, _), (59, _)]) ⟨rfl, rfl, rfl, rfl, rfl, rfl, rfl, rfl, trivial⟩ ?_; refine TL.assign rfl rfl ?_; refine TL.nsr ?_; refine TL.load_ownA 2 0 [_, _] rfl rfl rfl ⟨rfl, rfl, trivial⟩ rfl rfl ?_; refine TL.load_ownA 1 0 [_, _] rfl rfl rfl ⟨rfl, rfl, trivial⟩ rfl rfl ?_
     refine TL.litF (r := [_, _, _, _]) [(0, [_, _]), (1, [_, _])] ⟨rfl, ⟨_, rfl, rfl⟩, rfl, ⟨_, rfl, rfl⟩, trivial⟩ rfl rfl rfl rfl ?_; intro g63
     refine TL.freeze (fun H11 hle hz_g63 => ?_)
     have hL := Le.trans hL hle; have hmd := rd.mono hle hmd; have hr31 := RdL.mono hle hr31; have hr32 := RdL.mono hle hr32; have hr33 := RdL.mono hle hr33; have hr41 := rd.mono hle hr41; have hr48 := rd.mono hle hr48
     have hk63 : rd H11 (.s 2 (Tr.ds [sA, sB])) _ := rd.ofRow (Row.lit 26 2 2 _ _ rfl (by omega)) hz_g63 (trs_cons hr32 (trs_cons hr33 (trivial))) (Le.refl _)
     refine TL.call (law_tree (t := sXab) hk63) ⟨rfl, rfl, trivial⟩ rfl ?_
     rintro _ own H64 ⟨a64, b64, rfl, hr64, rfl, hle64⟩
     have hL := Le.trans hL hle64; have hmd := rd.mono hle64 hmd; have hr31 := RdL.mono hle64 hr31; have hr41 := rd.mono hle64 hr41; have hr48 := rd.mono hle64 hr48
     refine TL.litF (r := [_]) [(0, [_])] ⟨rfl, ⟨_, rfl, rfl⟩, trivial⟩ rfl rfl rfl rfl ?_; intro g65
     refine TL.freeze (fun H12 hle hz_g65 => ?_)
     have hL := Le.trans hL hle; have hmd := rd.mono hle hmd; have hr31 := RdL.mono hle hr31; have hr41 := rd.mono hle hr41; have hr48 := rd.mono hle hr48; have hr64 := RdL.mono hle hr64
     have hr65 : rd H12 (.s 1 (ints [1])) _ := rd.ofRow (Row.lit 3 1 1 _ _ rfl (by omega)) hz_g65 (RdL.vals [.int .i64 1]) (Le.refl _)
     refine TL.struct [(0, [_]), (1, [_])] ⟨rfl, ⟨_, rfl, rfl⟩, rfl, ⟨_, rfl, rfl⟩, trivial⟩ rfl rfl ?_
     refine TL.litF (r := [_, _, _, _]) [(0, [_, _, _, _])] ⟨rfl, ⟨_, rfl, rfl⟩, trivial⟩ rfl rfl rfl rfl ?_; intro g67
     refine TL.freeze (fun H13 hle hz_g67 => ?_)
     have hL := Le.trans hL hle; have hmd := rd.mono hle hmd; have hr31 := RdL.mono hle hr31; have hr41 := rd.mono hle hr41; have hr48 := rd.mono hle hr48; have hr64 := RdL.mono hle hr64; have hr65 := rd.mono hle hr65
     have hr67 : rd H13 (.s 4 (eiD [⟨2, [1], Tr.zero⟩])) _ := rd.ofRow (Row.lit 46 4 1 _ _ rfl (by omega)) hz_g67 (ei_mk (e := ⟨2, [1], Tr.zero⟩) hr65 (zero_rd _)) (Le.refl _)
     refine TL.call (Invert_ok iv4 (by decide) (by decide) (by decide) hr64 hr67) ⟨rfl, rfl, trivial⟩ rfl ?_
     rintro _ own H68 ⟨⟨v68, rfl, hr68⟩, rfl, hle68⟩
     have hL := Le.trans hL hle68; have hmd := rd.mono hle68 hmd; have hr31 := RdL.mono hle68 hr31; have hr41 := rd.mono hle68 hr41; have hr48 := rd.mono hle68 hr48; refine TL.move rfl rfl ?_; refine TL.extract rfl rfl rfl ?_; refine TL.extract rfl rfl rfl ?_; refine TL.assign rfl rfl ?_; refine TL.assign rfl rfl ?_; refine TL.nil ?_; refine TQ.then_n ?_; refine TC.seq ?_
     obtain ⟨A5, c5, rfl, _, _⟩ := eis_len hr41
     obtain ⟨b5, o5, p5, x5, y5, rfl, ha1, hpp1, _⟩ := eis_at hr41 (i := 0) (e := ⟨2, [0], Tr.zero⟩) rfl
     obtain ⟨A6, c6, rfl, _, _⟩ := vals_len (l := [Value.int .i64 0]) hpp1
     obtain ⟨b6, o6, rfl, hp1⟩ := vals_at (l := [Value.int .i64 0]) hpp1 (i := 0) rfl
     obtain ⟨A7, c7, rfl, _, _⟩ := eis_len hr48
     obtain ⟨b7, o7, p7, x7, y7, rfl, ha2, _, _⟩ := eis_at hr48 (i := 0) (e := ⟨3, [], sYa⟩) rfl
     obtain ⟨A8, c8, rfl, _, _⟩ := eis_len hr68
     obtain ⟨b8, o8, p8, x8, y8, rfl, ha3, _, hx8⟩ := eis_at hr68 (i := 0) (e := ⟨1, [1], sB⟩) rfl
     obtain rfl := lab_of hx8
     refine TC.drawQV 3  [(0, _), (1, _), (2, _), (3, _), (4, _), (5, _), (6, _), (8, _), (9, _), (10, _)] follows_mixed ⟨rfl, rfl, rfl, rfl, rfl, rfl, rfl, rfl, rfl, rfl, trivial⟩ ?_
     refine ChainV.q (some 71) [] (by
      intro H' X F hle; have hL := Le.trans hL hle; intro hF; refine TL.load_ownA 4 0 [_, _, _] rfl rfl rfl ⟨rfl, rfl, rfl, trivial⟩ rfl rfl ?_
      exact TL.one hF) ?_
     refine ChainV.r (some 72) [(0, 0)] ([]) (fun _ => fun u sg H => ∃ d0 d1, u = .agg #[d0, d1] ∧ RdL H mainT.d [d0, d1] ∧ sg = []) (by
      intro H' X F hle; have hL := Le.trans hL hle; have hmd := rd.mono hle hmd; intro hF; refine TL.call (diff_ToTree hmd) ⟨rfl, trivial⟩ rfl ?_
      rintro _ own H72 ⟨a72, b72, rfl, hr72, rfl, hle72⟩
      have hL := Le.trans hL hle72; refine TL.nil ?_
      exact TQ.one [] hF hle72 ⟨a72, b72, rfl, hr72, rfl⟩) ?_
     refine ChainV.q (some 73) [] (by
      intro H' X F hle; have hL := Le.trans hL hle; intro hF; refine TL.load_ownA 3 0 [_, _] rfl rfl rfl ⟨rfl, rfl, trivial⟩ rfl rfl ?_
      exact TL.one hF) ?_
     refine ⟨by kernel_rfl, .refl _, ?_⟩
     ·
      intro H14 hle
      rintro _ _ Hi72 hle72 ⟨a72, b72, rfl, hr72, rfl⟩
      replace hr72 := RdL.mono hle72 hr72
      have hL := Le.trans hL hle; have hr31 := RdL.mono hle hr31; have ha1 := hAt.mono hle ha1; have ha2 := hAt.mono hle ha2; have ha3 := hAt.mono hle ha3; have hp1 := cel_le hle hp1; refine TL.toOwn (own' := _ :: _ :: _ :: _ :: _ :: own) rfl ?_; refine TL.wk (env' := [(0, _), (1, _), (2, _), (3, _), (4, _), (5, _), (6, _), (8, _), (9, _), (10, _), (72, _), (73, _)]) ⟨rfl, rfl, rfl, rfl, rfl, rfl, rfl, rfl, rfl, rfl, rfl, rfl, trivial⟩ ?_; refine TL.call (ref_same _ _ _ (Nat.le_refl _) hr72 hr31) ⟨rfl, rfl, trivial⟩ rfl ?_
      rintro _ own Hs74 ⟨rfl, rfl, hles74⟩
      rw [eqb_self]
      have hL := Le.trans hL hles74; have hr31 := RdL.mono hles74 hr31; have ha1 := hAt.mono hles74 ha1; have ha2 := hAt.mono hles74 ha2; have ha3 := hAt.mono hles74 ha3; have hp1 := cel_le hles74 hp1; refine TL.move rfl rfl ?_; refine TL.gyes rfl rfl rfl ?_; refine TL.move rfl rfl ?_; refine TL.gyes rfl rfl rfl ?_; refine TL.len_slice rfl rfl ?_; refine TL.gyes rfl rfl rfl ?_; refine TL.eql rfl rfl rfl ?_
      rw [decide_eq_true (by first | rfl | decide | omega)]
      refine TL.pickT rfl rfl rfl rfl ?_; refine TL.move rfl rfl ?_; refine TL.gyes rfl rfl rfl ?_; refine TL.move rfl rfl ?_; refine TL.gyes rfl rfl rfl ?_; refine TL.indexAddr (0) rfl rfl rfl (by simp) rfl ?_; refine TL.gyes rfl rfl rfl ?_; refine TL.fieldAddr rfl rfl ?_; refine TL.gyes rfl rfl rfl ?_; refine TL.load_imm rfl (ha1.1) rfl ?_; refine TL.gyes rfl rfl rfl ?_; refine TL.eql rfl rfl rfl ?_
      rw [decide_eq_true (by first | rfl | decide | omega)]
      refine TL.pickT rfl rfl rfl rfl ?_; refine TL.move rfl rfl ?_; refine TL.gyes rfl rfl rfl ?_; refine TL.move rfl rfl ?_; refine TL.gyes rfl rfl rfl ?_; refine TL.indexAddr (0) rfl rfl rfl (by simp) rfl ?_; refine TL.gyes rfl rfl rfl ?_; refine TL.fieldAddr rfl rfl ?_; refine TL.gyes rfl rfl rfl ?_; refine TL.load_imm rfl (ha1.2.1) rfl ?_; refine TL.gyes rfl rfl rfl ?_; refine TL.len_slice rfl rfl ?_; refine TL.gyes rfl rfl rfl ?_; refine TL.eql rfl rfl rfl ?_
      rw [decide_eq_true (by first | rfl | decide | omega)]
      refine TL.pickT rfl rfl rfl rfl ?_; refine TL.move rfl rfl ?_; refine TL.gyes rfl rfl rfl ?_; refine TL.move rfl rfl ?_; refine TL.gyes rfl rfl rfl ?_; refine TL.indexAddr (0) rfl rfl rfl (by simp) rfl ?_; refine TL.gyes rfl rfl rfl ?_; refine TL.fieldAddr rfl rfl ?_; refine TL.gyes rfl rfl rfl ?_; refine TL.load_imm rfl (ha1.2.1) rfl ?_; refine TL.gyes rfl rfl rfl ?_; refine TL.indexAddr (0) rfl rfl rfl (by simp) rfl ?_; refine TL.gyes rfl rfl rfl ?_; refine TL.load_imm rfl (hp1) rfl ?_; refine TL.gyes rfl rfl rfl ?_; refine TL.eql rfl rfl rfl ?_
      rw [decide_eq_true (by first | rfl | decide | omega)]
      refine TL.pickT rfl rfl rfl rfl ?_; refine TL.move rfl rfl ?_; refine TL.gyes rfl rfl rfl ?_; refine TL.move rfl rfl ?_; refine TL.gyes rfl rfl rfl ?_; refine TL.len_slice rfl rfl ?_; refine TL.gyes rfl rfl rfl ?_; refine TL.eql rfl rfl rfl ?_
      rw [decide_eq_true (by first | rfl | decide | omega)]
      refine TL.pickT rfl rfl rfl rfl ?_; refine TL.move rfl rfl ?_; refine TL.gyes rfl rfl rfl ?_; refine TL.move rfl rfl ?_; refine TL.gyes rfl rfl rfl ?_; refine TL.indexAddr (0) rfl rfl rfl (by simp) rfl ?_; refine TL.gyes rfl rfl rfl ?_; refine TL.fieldAddr rfl rfl ?_; refine TL.gyes rfl rfl rfl ?_; refine TL.load_imm rfl (ha2.1) rfl ?_; refine TL.gyes rfl rfl rfl ?_; refine TL.eql rfl rfl rfl ?_
      rw [decide_eq_true (by first | rfl | decide | omega)]
      refine TL.pickT rfl rfl rfl rfl ?_; refine TL.move rfl rfl ?_; refine TL.gyes rfl rfl rfl ?_; refine TL.move rfl rfl ?_; refine TL.gyes rfl rfl rfl ?_; refine TL.eql rfl rfl rfl ?_
      rw [decide_eq_true (by first | rfl | decide | omega)]
      refine TL.pickT rfl rfl rfl rfl ?_; refine TL.move rfl rfl ?_; refine TL.gyes rfl rfl rfl ?_; refine TL.move rfl rfl ?_; refine TL.gyes rfl rfl rfl ?_; refine TL.len_slice rfl rfl ?_; refine TL.gyes rfl rfl rfl ?_; refine TL.eql rfl rfl rfl ?_
      rw [decide_eq_true (by first | rfl | decide | omega)]
      refine TL.pickT rfl rfl rfl rfl ?_; refine TL.move rfl rfl ?_; refine TL.gyes rfl rfl rfl ?_; refine TL.move rfl rfl ?_; refine TL.gyes rfl rfl rfl ?_; refine TL.eql rfl rfl rfl ?_
      rw [decide_eq_true (by first | rfl | decide | omega)]
      refine TL.pickT rfl rfl rfl rfl ?_; refine TL.move rfl rfl ?_; refine TL.gyes rfl rfl rfl ?_; refine TL.move rfl rfl ?_; refine TL.gyes rfl rfl rfl ?_; refine TL.indexAddr (0) rfl rfl rfl (by simp) rfl ?_; refine TL.gyes rfl rfl rfl ?_; refine TL.fieldAddr rfl rfl ?_; refine TL.gyes rfl rfl rfl ?_; refine TL.load_imm rfl (ha3.1) rfl ?_; refine TL.gyes rfl rfl rfl ?_; refine TL.eql rfl rfl rfl ?_
      rw [decide_eq_true (by first | rfl | decide | omega)]
      refine TL.pickT rfl rfl rfl rfl ?_; refine TL.move rfl rfl ?_; refine TL.gyes rfl rfl rfl ?_; refine TL.move rfl rfl ?_; refine TL.gyes rfl rfl rfl ?_; refine TL.indexAddr (0) rfl rfl rfl (by simp) rfl ?_; refine TL.gyes rfl rfl rfl ?_; refine TL.fieldAddr rfl rfl ?_; refine TL.gyes rfl rfl rfl ?_; refine TL.fieldAddr rfl rfl ?_; refine TL.gyes rfl rfl rfl ?_; refine TL.load_imm rfl (ha3.2.2.1) rfl ?_; refine TL.gyes rfl rfl rfl ?_; refine TL.eqlS rfl rfl rfl ?_
      rw [decide_eq_true (show lB = ⟨#[98]⟩ from rfl)]
      refine TL.pickT rfl rfl rfl rfl ?_; refine TL.move rfl rfl ?_; refine TL.gyes rfl rfl rfl ?_; refine TL.load_ownA 3 0 [_, _] rfl rfl rfl ⟨rfl, rfl, trivial⟩ rfl rfl ?_; refine TL.gyes rfl rfl rfl ?_; refine TL.call (diff_Count _ mainT (Nat.le_refl _) (by omega) hr31) ⟨rfl, trivial⟩ rfl ?_
      rintro _ own H146 ⟨rfl, rfl, hle146⟩
      rw [hsz]
      have hL := Le.trans hL hle146; refine TL.gyes rfl rfl rfl ?_; refine TL.eql rfl rfl rfl ?_
      rw [decide_eq_true (by first | rfl | decide | omega)]
      refine TL.pickT rfl rfl rfl rfl ?_; refine TL.assign rfl rfl ?_; refine TL.nil ?_; refine TQ.then_n ?_; refine TC.ret ?_; refine TQ.ret1 5 rfl rfl ?_
      exact ⟨rfl, rfl, hL⟩

end Go.Proofs.YtaomdfcplamenaaGreatDoor.K

namespace Go.Proofs.YtaomdfcplamenaaGreatDoor.K
open Go Go.RowKit Go.Proofs

theorem ints_le {H : Hp} {l : List Int} {v : Value} (h : rd H (.s 1 (ints l)) v) : l.length ≤ 9223372036854775807 := by
  obtain ⟨A, c, rfl, h1, h2⟩ := vals_len h
  rw [List.length_map] at h1; omega
section
variable {P : Program} {w0 : World} {N : Nat} {Q : Exit → Act → World → Prop} {env : Env} {own : List Seg} {H : Hp} {ops : Array Oper} {rest : List Oper}
variable {d : Option Tmp} {ty : TypeId} {pos : String} {af : Array Edge}
end
end Go.Proofs.YtaomdfcplamenaaGreatDoor.K

namespace Go.Proofs.YtaomdfcplamenaaGreatDoor.K
open Go Go.RowKit Go.Proofs

theorem sub_putT : ∀ (p : Path) (t : Tr) {s : Tr} (x : Tr), sub t p = some s → sub (putT t p x) p = some x
  | [], t, s, x, _ => by cases x; simp [putT, sub]
  | i :: q, .node l ks, s, x, h => by
    simp only [sub, Option.bind_eq_some_iff] at h
    obtain ⟨u, hu, hs⟩ := h
    have hi := (List.getElem?_eq_some_iff.1 hu).1
    simp only [putT, hu, sub, List.getElem?_set_self hi, Option.bind_some]
    exact sub_putT q u x hs
theorem putT_putT : ∀ (p : Path) (t : Tr) {s : Tr} (x y : Tr), sub t p = some s → putT (putT t p x) p y = putT t p y
  | [], t, s, x, y, _ => by simp [putT]
  | i :: q, .node l ks, s, x, y, h => by
    simp only [sub, Option.bind_eq_some_iff] at h
    obtain ⟨u, hu, hs⟩ := h
    have hi := (List.getElem?_eq_some_iff.1 hu).1
    simp only [putT, hu, List.getElem?_set_self hi, List.set_set, putT_putT q u x y hs]
theorem putT_same : ∀ (p : Path) (t : Tr) {s : Tr}, sub t p = some s → putT t p s = t
  | [], t, s, h => by
    have h : t = s := by simpa [sub] using h
    simp [putT, h]
  | i :: q, .node l ks, s, h => by
    simp only [sub, Option.bind_eq_some_iff] at h
    obtain ⟨u, hu, hs⟩ := h
    simp only [putT, hu, putT_same q u hs]
    congr 1
    refine List.ext_getElem? fun k => ?_
    rw [List.getElem?_set]
    split
    · rename_i e
      subst e
      rw [if_pos (List.getElem?_eq_some_iff.1 hu).1, hu]
    · rfl
theorem subI_nn : ∀ (p : List Int) (t : Tr) {s : Tr}, subI t p = some s → ∀ x ∈ p, 0 ≤ x
  | [], _, _, _, x, hx => by simp at hx
  | i :: q, .node l ks, s, h, x, hx => by
    simp only [subI] at h
    split at h
    · cases h
    · simp only [Option.bind_eq_some_iff] at h
      obtain ⟨u, hu, hs⟩ := h
      rcases List.mem_cons.1 hx with rfl | hx
      · omega
      · exact subI_nn q u hs x hx
theorem subI_of_sub : ∀ (p : List Int) (t : Tr), (∀ x ∈ p, 0 ≤ x) → subI t p = sub t (p.map Int.toNat)
  | [], t, _ => by cases t; rfl
  | i :: q, .node l ks, h => by
    simp only [subI, List.map_cons, sub, if_neg (show ¬ i < 0 by have := h i (by simp); omega)]
    cases ks[i.toNat]? with
    | none => rfl
    | some u => exact subI_of_sub q u (fun x hx => h x (by simp [hx]))
theorem subI_put {t s x : Tr} {p : List Int} (h : subI t p = some s) : subI (putT t (p.map Int.toNat) x) p = some x := by
  rw [subI_of_sub _ _ (subI_nn p t h)]
  exact sub_putT _ _ _ (subI_sub p t h)
/-- The edit as it comes back. -/
def normI (e : Ei) : Ei := ⟨e.op, e.path, if e.op = 2 then Tr.zero else e.tree⟩
theorem del_ins (s x : Tr) (k : Nat) (hk : k ≤ s.kids.length) : delT (insT s k x) k = s := by
  obtain ⟨l, ks⟩ := s
  simp only [delT, insT, Tr.kids, Tr.lab] at *
  congr 1
  rw [List.append_assoc, List.take_append_of_le_length (by simp; omega), List.take_of_length_le (by simp; omega), List.drop_append, List.drop_of_length_le (by simp; omega)]
  simp only [List.nil_append, List.length_take, Nat.min_eq_left hk, show k + 1 - k = 1 by omega, List.singleton_append, List.drop_succ_cons, List.drop_zero]
  exact List.take_append_drop k ks
theorem ins_del (s y : Tr) (k : Nat) (hk : s.kids[k]? = some y) : insT (delT s k) k y = s := by
  obtain ⟨l, ks⟩ := s
  simp only [delT, insT, Tr.kids, Tr.lab] at *
  have hlt := (List.getElem?_eq_some_iff.1 hk).1
  congr 1
  rw [List.take_append_of_le_length (by simp; omega), List.take_of_length_le (by simp; omega), List.drop_append, List.drop_of_length_le (by simp; omega)]
  simp only [List.nil_append, List.length_take, Nat.min_eq_left (show k ≤ ks.length by omega), Nat.sub_self, List.drop_zero]
  rw [List.append_assoc, List.singleton_append, ← drop_cons hk]
  exact List.take_append_drop k ks
theorem insT_at (s x : Tr) (k : Nat) (hk : k ≤ s.kids.length) : (insT s k x).kids[k]? = some x := by
  obtain ⟨l, ks⟩ := s
  simp only [Tr.kids] at hk
  simp only [insT, Tr.kids]
  rw [List.append_assoc, List.getElem?_append_right (by simp; omega)]
  simp [Nat.min_eq_left hk]
theorem ins_len (s x : Tr) (k : Nat) (hk : k ≤ s.kids.length) : (insT s k x).kids.length = s.kids.length + 1 := by
  simp only [insT, Tr.kids, List.length_append, List.length_take, List.length_drop, List.length_singleton]; omega
theorem del_len (s : Tr) (k : Nat) (hk : k < s.kids.length) : (delT s k).kids.length = s.kids.length - 1 := by
  obtain ⟨l, ks⟩ := s
  simp only [Tr.kids] at hk
  simp only [delT, Tr.kids, List.length_append, List.length_take, List.length_drop]; omega
theorem step_inv {t u : Tr} {e b : Ei} (h : stepI t e = .inr (b, u)) : stepI u b = .inr (normI e, t) := by
  rcases stepI_cases h with ⟨h3, s, hs, rfl, rfl⟩ | ⟨h1, hp, s, hs, h0, hk, rfl, rfl⟩ | ⟨h2, hp, s, hs, h0, hk, rfl, rfl⟩
  · rw [step_rep (e := ⟨3, e.path, s⟩) (s := e.tree) rfl (subI_put hs)]
    simp only [normI, h3]
    rw [putT_putT _ _ _ _ (subI_sub _ _ hs), putT_same _ _ (subI_sub _ _ hs)]
    simp
  · have hkn : (e.path.getLastD 0).toNat ≤ s.kids.length := by omega
    rw [step_del (e := ⟨2, e.path, Tr.zero⟩) (s := insT s (e.path.getLastD 0).toNat e.tree) rfl hp (subI_put hs) (by rw [ins_len _ _ _ hkn]; simp only; omega)]
    simp only [normI, h1]
    rw [putT_putT _ _ _ _ (subI_sub _ _ hs), del_ins _ _ _ hkn, putT_same _ _ (subI_sub _ _ hs), List.getD_eq_getElem?_getD, insT_at _ _ _ hkn]
    simp
  · have hkn : (e.path.getLastD 0).toNat < s.kids.length := by omega
    obtain ⟨y, hy⟩ : ∃ y, s.kids[(e.path.getLastD 0).toNat]? = some y := ⟨_, List.getElem?_eq_getElem hkn⟩
    have hyd : s.kids.getD (e.path.getLastD 0).toNat Tr.zero = y := by rw [List.getD_eq_getElem?_getD, hy]; rfl
    rw [hyd]
    rw [step_ins (e := ⟨1, e.path, y⟩) (s := delT s (e.path.getLastD 0).toNat) rfl hp (subI_put hs) (by rw [del_len _ _ hkn]; simp only; omega)]
    simp only [normI, h2]
    rw [putT_putT _ _ _ _ (subI_sub _ _ hs), ins_del _ _ _ hy, putT_same _ _ (subI_sub _ _ hs)]
    simp
theorem applyI_append {t u : Tr} : ∀ {a b : List Ei}, applyI t a = .inr u → applyI t (a ++ b) = applyI u b := by
  intro a
  induction a generalizing t with
  | nil => intro b h; simp only [applyI, Sum.inr.injEq] at h; rw [h]; rfl
  | cons e r ih =>
    intro b h
    cases hst : stepI t e with
    | inl c => rw [applyI_bad hst] at h; cases h
    | inr p =>
      obtain ⟨b', t1⟩ := p
      rw [applyI_cons hst] at h
      rw [List.cons_append, applyI_cons hst]
      exact ih h
theorem invert_apply {t u : Tr} : ∀ {es : List Ei}, applyI t es = .inr u → ∃ bs, invertI t es = .inr bs ∧ applyI u bs = .inr t ∧ bs.length = es.length := by
  intro es
  induction es generalizing t with
  | nil => intro h; simp only [applyI, Sum.inr.injEq] at h; exact ⟨[], rfl, by simp [applyI, h], rfl⟩
  | cons e r ih =>
    intro h
    cases hst : stepI t e with
    | inl c => rw [applyI_bad hst] at h; cases h
    | inr p =>
      obtain ⟨b, t1⟩ := p
      rw [applyI_cons hst] at h
      obtain ⟨bs, h1, h2, h3⟩ := ih h
      refine ⟨bs ++ [b], by simp only [invertI, hst, h1], ?_, by simp [h3]⟩
      rw [applyI_append h2, applyI_cons (step_inv hst)]
      rfl
theorem invert_bad {t : Tr} {c : Int} : ∀ {es : List Ei}, applyI t es = .inl c → invertI t es = .inl c := by
  intro es
  induction es generalizing t with
  | nil => intro h; simp [applyI] at h
  | cons e r ih =>
    intro h
    cases hst : stepI t e with
    | inl c' => rw [applyI_bad hst] at h; cases h; simp only [invertI, hst]
    | inr p =>
      obtain ⟨b, t1⟩ := p
      rw [applyI_cons hst] at h
      simp only [invertI, hst, ih h]
/-- Bounds of the edits that undo. -/
theorem invert_bd {t : Tr} {B : Nat} : ∀ {es bs : List Ei}, invertI t es = .inr bs → t.size + treesI es ≤ B → (∀ e ∈ bs, e.tree.size ≤ B + 1) ∧ (∀ K, (∀ e ∈ es, e.path.length ≤ K) → ∀ e ∈ bs, e.path.length ≤ K) := by
  intro es
  induction es generalizing t with
  | nil => intro bs h _; simp only [invertI, Sum.inr.injEq] at h; subst h; exact ⟨by simp, by simp⟩
  | cons e r ih =>
    intro bs h hB
    cases hst : stepI t e with
    | inl c' => simp only [invertI, hst] at h; cases h
    | inr p =>
      obtain ⟨b, t1⟩ := p
      simp only [invertI, hst] at h
      cases hr : invertI t1 r with
      | inl c => rw [hr] at h; cases h
      | inr cs =>
        rw [hr] at h
        injection h with h
        subst h
        have h1 := stepI_size hst
        rw [treesI_cons] at hB
        obtain ⟨i1, i2⟩ := ih hr (by omega)
        refine ⟨fun x hx => ?_, fun K hK x hx => ?_⟩
        · rcases List.mem_append.1 hx with hx | hx
          · exact i1 x hx
          · simp at hx; subst hx; omega
        · rcases List.mem_append.1 hx with hx | hx
          · exact i2 K (fun y hy => hK y (by simp [hy])) x hx
          · simp at hx; subst hx; rw [h1.2.2]; exact hK e (by simp)
theorem treesI_le {B : Nat} : ∀ {es : List Ei}, (∀ e ∈ es, e.tree.size ≤ B) → treesI es ≤ es.length * B
  | [], _ => by simp [treesI]
  | e :: r, h => by
    have := treesI_le (B := B) (es := r) (fun x hx => h x (by simp [hx]))
    have h1 := h e (by simp)
    rw [treesI_cons, List.length_cons, Nat.add_mul]; omega
end Go.Proofs.YtaomdfcplamenaaGreatDoor.K

namespace Go.Proofs.YtaomdfcplamenaaGreatDoor.K
open Go Go.RowKit Go.Proofs

def pathE (l : List Int) (n a : Nat) : List Int := (List.range n).map fun i => takeV l (a + i) 5 - 1
theorem pathE_cons (l : List Int) (n a : Nat) : pathE l (n + 1) a = (takeV l a 5 - 1) :: pathE l n (a + 1) := by
  simp only [pathE, List.range_succ_eq_map, List.map_cons, List.map_map, Nat.add_zero, List.cons.injEq, true_and]
  refine List.map_congr_left fun i _ => ?_
  simp only [Function.comp]
  rw [show a + (i + 1) = a + 1 + i by omega]
def editE (l : List Int) (a : Nat) : Ei × Nat :=
  if takeV l a 5 = 2 then (⟨2, pathE l (takeV l (a + 1) 4).toNat (a + 2), Tr.zero⟩, a + 2 + (takeV l (a + 1) 4).toNat)
  else (⟨takeV l a 5, pathE l (takeV l (a + 1) 4).toNat (a + 2), (growT l 1 (a + 2 + (takeV l (a + 1) 4).toNat)).1⟩, (growT l 1 (a + 2 + (takeV l (a + 1) 4).toNat)).2)
def editsN (l : List Int) : Nat → Nat → List Ei → List Ei
  | 0, _, outs => outs
  | n + 1, a, outs => editsN l n (editE l a).2 (outs ++ [(editE l a).1])
/-- Any edits that numbers make. -/
def editsI (l : List Int) : List Ei := editsN l (min (l.length / 4) 5) 0 []
theorem ref_Edits {l : List Int} (hl : ∀ n ∈ l, I64 n) (hlen : l.length ≤ 9223372036854775807) {w0 : World} {H : Hp} {own : List Seg} {vl : Value} (hA : rd H (.s 1 (ints l)) vl) :
    Fn Tryz.prog 18 [vl] w0 H own (fun r o H' => rd H' (.s 4 (eiD (editsI l))) r ∧ o = own ∧ Le H H') := by
  have hv := hA.one
  obtain ⟨A, c, rfl, hc1, hc2⟩ := vals_len hA
  simp only [List.length_map] at hA hc1 hv ⊢
  obtain ⟨N0, hN0⟩ : ∃ N0, N0 = min (l.length / 4) 5 := ⟨_, rfl⟩
  have hq : IntKind.i64.wrap ((l.length : Int).tdiv 4) = ((l.length / 4 : Nat) : Int) := by
    rw [Int.tdiv_eq_ediv_of_nonneg (by omega), wrap_i64 ⟨by omega, by omega⟩]; omega
  have hmn : min ((l.length / 4 : Nat) : Int) 5 = (N0 : Int) := by omega
  refine Fn.enter Tryz.func18 rfl Tryz.ntmps18 rfl ?_; have hL := Le.refl H; refine TC.seq ?_; refine TC.region ?_; refine TL.assign rfl rfl ?_; refine TL.nsr ?_; refine TL.move rfl rfl ?_; refine TL.struct [(0, [_])] ⟨rfl, ⟨_, rfl, rfl⟩, trivial⟩ rfl rfl ?_
  refine TL.box (c := #[_, _]) rfl rfl rfl ?_; intro g10; refine TL.assign rfl rfl ?_; refine TL.nsr ?_; refine TL.assign rfl rfl ?_; refine TL.nil ?_; refine TQ.then_n ?_; refine TC.seq ?_; refine TC.seq ?_; refine TC.toOwn (own' := _ :: own) rfl ?_; refine TC.region ?_; refine TL.move rfl rfl ?_; refine TL.len_slice rfl rfl ?_; refine TL.quo rfl rfl rfl (by omega) ?_
  rw [hq]
  refine TL.min2 rfl rfl rfl ?_
  rw [hmn]
  refine TL.assign rfl rfl ?_; refine TL.nil ?_; refine TQ.then_n ?_; refine TC.block ?_; refine TC.nilseg ?_
  refine TC.sel 2 [1, 0] rfl (fun o ho => ?_)
  simp only [K.sel, List.map_cons, List.map_nil, List.getD_cons_zero, List.getD_cons_succ, List.drop_succ_cons, List.drop_zero, List.cons_append, List.nil_append, List.set_cons_zero, List.set_cons_succ] at ho; subst ho
  refine TC.loop (fun z env' own' H' => ∃ (n : Nat) (outs : List Ei) (a : Nat) (v4 : Value) (log : Seg), n = z ∧ editsI l = editsN l n a outs ∧ n ≤ 5 ∧ a ≤ (5 - n) * 20 ∧ EiLog H' v4 outs log ∧ outs.length + n ≤ 5 ∧ env' = [(3, .pointer (some ⟨g10, 0, none⟩)), (4, v4), (5, .int .i64 ((n : Nat) : Int))] ∧ own' = [(g10, .cells #[.slice A l.length c, .int .i64 ((a : Nat) : Int)] 80 (0, 0))] :: log :: own ∧ Le H H') N0 [(3, _), (4, _), (5, _)] ⟨rfl, rfl, rfl, trivial⟩ ⟨N0, [], 0, _, [], rfl, by rw [editsI, hN0], by omega, by omega, EiLog.nil _, by simp; omega, rfl, rfl, Le.refl _⟩ ?_
  rintro z _ _ H1 ⟨n, outs, a, v4, log, rfl, hinv, hn5, ha, hlog, hol, rfl, rfl, hle0⟩
  have hL := Le.trans hL hle0; have hA := rd.mono hle0 hA; refine TC.seq ?_; refine TC.seq ?_; refine TC.region ?_; refine TL.move rfl rfl ?_
  refine TL.gtrB rfl rfl rfl (fun hn => ?_) (fun hn => ?_)
  ·
   obtain ⟨n, rfl⟩ : ∃ m, n = m + 1 := ⟨n - 1, by omega⟩
   have hb5 := takeV_bd (l := l) (at_ := a) (n := 5) (by omega)
   have hb4 := takeV_bd (l := l) (at_ := a + 1) (n := 4) (by omega)
   obtain ⟨x1, hx1⟩ : ∃ x1, x1 = takeV l a 5 := ⟨_, rfl⟩
   rw [← hx1] at hb5
   obtain ⟨D0, hD0⟩ : ∃ D0 : Nat, takeV l (a + 1) 4 = (D0 : Int) := ⟨(takeV l (a + 1) 4).toNat, (Int.toNat_of_nonneg hb4.1).symm⟩
   refine TL.nil ?_; refine TQ.then_n ?_; refine TC.cond_t rfl ?_; refine TC.skip ?_; refine TQ.then_n ?_; refine TC.seq ?_; refine TC.block ?_; refine TC.seq ?_; refine TC.region ?_; refine TL.move rfl rfl ?_; refine TL.call (ref_take hl (m := 5) (by omega) (by omega) (by omega) hA) ⟨rfl, rfl, trivial⟩ rfl ?_
   rintro _ _ Hk20 ⟨rfl, rfl, hlek20⟩
   rw [← hx1]
   have hL := Le.trans hL hlek20; have hA := rd.mono hlek20 hA; have hle0 := Le.trans hle0 hlek20; have hlog := EiLog.mono hlek20 hlog; refine TL.struct [(0, [_])] ⟨rfl, ⟨_, rfl, rfl⟩, trivial⟩ rfl rfl ?_
   refine TL.new rfl ?_; intro g6; refine TL.storeA 0 0 (c' := #[_, _, _, _]) (own' := [(_, .cells #[_, _, _, _] _ _)] :: _) rfl rfl rfl rfl rfl ⟨rfl, rfl, rfl, rfl, trivial⟩ (by simp) rfl rfl rfl ?_; refine TL.nil ?_; refine TQ.then_n ?_; refine TC.seq ?_; refine TC.seq ?_; refine TC.region ?_; refine TL.move rfl rfl ?_
   refine TL.sel 3 [1, 0, 2] rfl (fun o ho => ?_)
   simp only [K.sel, List.map_cons, List.map_nil, List.getD_cons_zero, List.getD_cons_succ, List.drop_succ_cons, List.drop_zero, List.cons_append, List.nil_append, List.set_cons_zero, List.set_cons_succ] at ho; subst ho
   refine TL.call (ref_take hl (m := 4) (by omega) (by omega) (by omega) hA) ⟨rfl, rfl, trivial⟩ rfl ?_
   rintro _ _ Hk23 ⟨rfl, rfl, hlek23⟩
   rw [hD0]
   have hL := Le.trans hL hlek23; have hA := rd.mono hlek23 hA; have hle0 := Le.trans hle0 hlek23; have hlog := EiLog.mono hlek23 hlog; refine TL.assign rfl rfl ?_; refine TL.nil ?_; refine TQ.then_n ?_; refine TC.block ?_; refine TC.nilseg ?_
   refine TC.sel 4 [0, 2, 1, 3] rfl (fun o ho => ?_)
   simp only [K.sel, List.map_cons, List.map_nil, List.getD_cons_zero, List.getD_cons_succ, List.drop_succ_cons, List.drop_zero, List.cons_append, List.nil_append, List.set_cons_zero, List.set_cons_succ] at ho; subst ho
   refine TC.loop (fun z env' own' H' => ∃ (dd : Nat) (path : List Int) (b : Nat) (vp : Value) (rowp : Seg), dd = z ∧ pathE l D0 (a + 2) = path ++ pathE l dd b ∧ b + dd = a + 2 + D0 ∧ path.length + dd ≤ 3 ∧ Row 3 1 vp path.length (path.map (Value.int .i64)) rowp ∧ env' = [(3, .pointer (some ⟨g10, 0, none⟩)), (4, v4), (5, .int .i64 ((n + 1 : Nat) : Int)), (6, .pointer (some ⟨g6, 0, none⟩)), (7, .int .i64 ((dd : Nat) : Int))] ∧ own' = rowp :: [(g6, .cells #[.int .i64 x1, vp, .string ⟨#[]⟩, .slice none 0 0] 46 (0, 0))] :: [(g10, .cells #[.slice A l.length c, .int .i64 ((b : Nat) : Int)] 80 (0, 0))] :: log :: own ∧ Le Hk23 H') D0 [(3, _), (4, _), (5, _), (6, _), (7, _)] ⟨rfl, rfl, rfl, rfl, rfl, trivial⟩ ⟨D0, [], a + 2, _, [], rfl, rfl, rfl, by simp; omega, Row.nil 3 1, rfl, rfl, Le.refl _⟩ ?_
   rintro z _ _ H2 ⟨dd, path, b, vp, rowp, rfl, hpe, hbd, hpl, hrowp, rfl, rfl, hle1⟩
   have hL := Le.trans hL hle1; have hA := rd.mono hle1 hA; have hle0 := Le.trans hle0 hle1; have hlog := EiLog.mono hle1 hlog; refine TC.seq ?_; refine TC.seq ?_; refine TC.region ?_; refine TL.move rfl rfl ?_
   refine TL.gtrB rfl rfl rfl (fun hdd => ?_) (fun hdd => ?_)
   ·
    obtain ⟨dd, rfl⟩ : ∃ m, dd = m + 1 := ⟨dd - 1, by omega⟩
    have hkb := takeV_bd (l := l) (at_ := b) (n := 5) (by omega)
    refine TL.nil ?_; refine TQ.then_n ?_; refine TC.cond_t rfl ?_; refine TC.skip ?_; refine TQ.then_n ?_; refine TC.seq ?_; refine TC.block ?_
    refine TC.sel 4 [2, 0, 1, 3] rfl (fun o ho => ?_)
    simp only [K.sel, List.map_cons, List.map_nil, List.getD_cons_zero, List.getD_cons_succ, List.drop_succ_cons, List.drop_zero, List.cons_append, List.nil_append, List.set_cons_zero, List.set_cons_succ] at ho; subst ho
    refine TC.drawCV 6  [(3, _), (4, _), (5, _), (6, _), (7, _)] follows_mixed ⟨rfl, rfl, rfl, rfl, rfl, trivial⟩ ?_; refine ChainV.q (some 28) [] (fun _ _ _ _ hF => TL.fieldAddr rfl rfl (TL.one hF)) ?_
    refine ChainV.q (some 29) [(0, 0)] (by
     intro H' X F hle; have hL := Le.trans hL hle; intro hF; refine TL.load_own 1 0 rfl rfl rfl rfl rfl ?_
     exact TL.one hF) ?_
    refine ChainV.q (some 30) [] (fun _ _ _ _ hF => TL.move rfl rfl (TL.one hF)) ?_
    refine ChainV.r (some 31) [(2, 0)] ([[(g10, .cells #[.slice A l.length c, .int .i64 ((b : Nat) : Int)] 80 (0, 0))]]) (fun _ => fun u sg H => u = .int .i64 (takeV l b 5) ∧ sg = [[(g10, .cells #[.slice A l.length c, .int .i64 ((b + 1 : Nat) : Int)] 80 (0, 0))]]) (by
     intro H' X F hle; have hL := Le.trans hL hle; have hA := rd.mono hle hA; intro hF; refine TL.call (ref_take hl (m := 5) (by omega) (by omega) (by omega) hA) ⟨rfl, rfl, trivial⟩ rfl ?_
     rintro _ _ Hk31 ⟨rfl, rfl, hlek31⟩
     refine TL.nil ?_
     exact TQ.one [_] hF hlek31 ⟨rfl, rfl⟩) ?_
    refine ChainV.q (some 32) [(3, 0)] (by
     intro H' X F hle; intro _
     rintro _ _ Hi31 hle31 ⟨rfl, rfl⟩
     intro hF; refine TL.sub rfl rfl rfl ⟨by omega, by omega⟩ ?_
     exact TL.one hF) ?_
    refine ChainV.r (some 33) [(4, 0)] ([]) (fun _ => fun u sg H => ∃ g, u = .slice (some ⟨g, 0, none⟩) 1 1 ∧ sg = [[(g, .cells #[.int .i64 (takeV l b 5 - 1)] 3 (0, 0))]]) (by
     intro H' X F hle; have hL := Le.trans hL hle; intro hF
     refine TL.litF (r := [_]) [(0, [_])] ⟨rfl, ⟨_, rfl, rfl⟩, trivial⟩ rfl rfl rfl rfl ?_; intro g33; refine TL.nil ?_
     exact TQ.one [_] hF (Le.refl _) ⟨_, rfl, rfl⟩) ?_
    refine ⟨by kernel_rfl, .refl _, ?_⟩
    ·
     intro H1 hle
     rintro _ _ Hi31 hle31 ⟨rfl, rfl⟩
     rintro _ _ Hi33 hle33 ⟨g33, rfl, rfl⟩
     have hL := Le.trans hL hle; have hle1 := Le.trans hle1 hle; refine TL.toOwn (own' := _ :: _ :: _ :: _ :: _ :: own) rfl ?_; refine TL.wk (env' := [(3, _), (4, _), (5, _), (6, _), (7, _), (29, _), (33, _)]) ⟨rfl, rfl, rfl, rfl, rfl, rfl, rfl, trivial⟩ ?_; refine TL.append 2 rfl rfl rfl hrowp (Src.ofOwn 0 0 rfl rfl rfl (Ones.all (show Ones [_] from ⟨by rfl, trivial⟩)) ⟨rfl, trivial⟩) (by omega) (by omega) rfl ?_; intro v2 seg2 hrow2; refine TL.fieldAddr rfl rfl ?_; refine TL.store1 3 0 (c' := #[_, _, _, _]) (own' := _ :: _ :: _ :: [(_, .cells #[_, _, _, _] _ _)] :: _) rfl rfl rfl rfl hrow2.one (by simp) rfl rfl rfl ?_; refine TL.nil ?_; refine TQ.in_n ?_; refine TQ.then_n ?_; refine TC.region ?_; refine TL.move rfl rfl ?_; refine TL.sub rfl rfl rfl ⟨by omega, by omega⟩ ?_; refine TL.assign rfl rfl ?_; refine TL.nil ?_
     refine TQ.sel 5 [2, 3, 1, 4] rfl (fun o ho => ?_)
     simp only [K.sel, List.map_cons, List.map_nil, List.getD_cons_zero, List.getD_cons_succ, List.drop_succ_cons, List.drop_zero, List.cons_append, List.nil_append, List.set_cons_zero, List.set_cons_succ] at ho; subst ho
     refine TQ.next dd [(3, _), (4, _), (5, _), (6, _), (7, _)] (by omega) ⟨rfl, rfl, rfl, rfl, rfl, trivial⟩ ⟨dd, path ++ [takeV l b 5 - 1], b + 1, v2, seg2, rfl, ?_, by omega, by simp; omega, by simpa using hrow2, by simp, rfl, hle1⟩
     rw [hpe, pathE_cons]
     simp
   ·
    refine TL.nil ?_; refine TQ.then_n ?_; refine TC.cond_f rfl ?_; refine TC.exit ?_; refine TQ.then_e ?_; refine TQ.then_e ?_; refine TQ.in_e ?_; refine TQ.then_n ?_; refine TC.seq ?_; refine TC.seq ?_
    have hdd0 : dd = 0 := by omega
    subst hdd0
    have hpx : pathE l D0 (a + 2) = path := by rw [hpe]; simp [pathE]
    have hgr := grow1_le l b
    have hbe : a + 2 + D0 = b := by omega
    rcases Classical.em (x1 = 2) with hx2 | hx2
    ·
     have hre : editE l a = (⟨2, path, Tr.zero⟩, b) := by
       rw [editE, ← hx1, if_pos hx2, hD0, Int.toNat_natCast, hpx, hbe]
     refine TC.region ?_; refine TL.fieldAddr rfl rfl ?_; refine TL.load_own 1 0 rfl rfl rfl rfl rfl ?_; refine TL.neq rfl rfl rfl ?_
     rw [decide_eq_false (fun h => h hx2)]
     refine TL.nil ?_; refine TQ.then_n ?_; refine TC.cond_f rfl ?_; refine TC.skip ?_; refine TQ.then_n ?_
     refine TC.freeze (fun H2 hle hz_rowp => ?_)
     have hL := Le.trans hL hle; have hle0 := Le.trans hle0 hle; have hlog := EiLog.mono hle hlog
     have hvp : rd H2 (.s 1 (ints path)) vp := rd.ofRow hrowp hz_rowp (RdL.vals _) (Le.refl _)
     obtain ⟨xs7, hrow7, hxs7⟩ := hlog
     have hedr := ei_mk (e := (⟨2, path, Tr.zero⟩ : Ei)) hvp (zero_rd _)
     have hones := RdL.ones hedr (Ei.d_one _)
     subst hx2
     refine TC.region ?_; refine TL.move rfl rfl ?_; refine TL.load_ownA 0 0 [_, _, _, _] rfl rfl rfl ⟨rfl, rfl, rfl, rfl, trivial⟩ rfl rfl ?_
     refine TL.litF (r := [_, _, _, _]) [(0, [_, _, _, _])] ⟨rfl, ⟨_, rfl, rfl⟩, trivial⟩ rfl rfl rfl rfl ?_; intro g44; refine TL.append 3 rfl rfl rfl hrow7 (Src.ofOwn 0 0 rfl rfl rfl (Ones.all hones) ⟨rfl, rfl, rfl, rfl, trivial⟩) (by omega) (by omega) rfl ?_; intro v45 sg45 hrow45; have hxs45 := ei_snoc hxs7 hedr; refine TL.assign rfl rfl ?_; refine TL.nil ?_; refine TQ.in_n ?_; refine TQ.then_n ?_; refine TC.region ?_; refine TL.move rfl rfl ?_; refine TL.sub rfl rfl rfl ⟨by omega, by omega⟩ ?_; refine TL.assign rfl rfl ?_; refine TL.nil ?_
     refine TQ.sel 4 [2, 3] rfl (fun o ho => ?_)
     simp only [K.sel, List.map_cons, List.map_nil, List.getD_cons_zero, List.getD_cons_succ, List.drop_succ_cons, List.drop_zero, List.cons_append, List.nil_append, List.set_cons_zero, List.set_cons_succ] at ho; subst ho
     refine TQ.next n [(3, _), (4, _), (5, _)] (by omega) ⟨rfl, rfl, rfl, trivial⟩ ⟨n, outs ++ [⟨2, path, Tr.zero⟩], b, v45, sg45, rfl, ?_, by omega, by omega, ⟨_, by simpa using hrow45, hxs45⟩, by simp; omega, by simp, rfl, hle0⟩
     rw [hinv, editsN, hre]
    ·
     have hre : editE l a = (⟨x1, path, (growT l 1 b).1⟩, (growT l 1 b).2) := by
       rw [editE, ← hx1, if_neg hx2, hD0, Int.toNat_natCast, hpx, hbe]
     refine TC.region ?_; refine TL.fieldAddr rfl rfl ?_; refine TL.load_own 1 0 rfl rfl rfl rfl rfl ?_; refine TL.neq rfl rfl rfl ?_
     rw [decide_eq_true hx2]
     refine TL.nil ?_; refine TQ.then_n ?_; refine TC.cond_t rfl ?_; refine TC.region ?_; refine TL.move rfl rfl ?_
     refine TL.sel 4 [2, 0, 1, 3] rfl (fun o ho => ?_)
     simp only [K.sel, List.map_cons, List.map_nil, List.getD_cons_zero, List.getD_cons_succ, List.drop_succ_cons, List.drop_zero, List.cons_append, List.nil_append, List.set_cons_zero, List.set_cons_succ] at ho; subst ho
     refine TL.call (ref_tree hl 1 (deep := 1) rfl (by omega) (by omega) hA) ⟨rfl, rfl, trivial⟩ rfl ?_
     rintro _ _ H5 ⟨k0, k1, rfl, hk, rfl, hle5⟩
     have hL := Le.trans hL hle5; have hle0 := Le.trans hle0 hle5; have hlog := EiLog.mono hle5 hlog; refine TL.fieldAddr rfl rfl ?_; refine TL.storeA 2 0 (c' := #[_, _, _, _]) (own' := _ :: _ :: [(_, .cells #[_, _, _, _] _ _)] :: _) rfl rfl rfl rfl rfl (tr_ones hk) (by simp) rfl rfl rfl ?_; refine TL.nil ?_; refine TQ.then_n ?_
     refine TC.sel 4 [1, 0, 2, 3] rfl (fun o ho => ?_)
     simp only [K.sel, List.map_cons, List.map_nil, List.getD_cons_zero, List.getD_cons_succ, List.drop_succ_cons, List.drop_zero, List.cons_append, List.nil_append, List.set_cons_zero, List.set_cons_succ] at ho; subst ho
     refine TC.freeze (fun H3 hle hz_rowp => ?_)
     have hL := Le.trans hL hle; have hle0 := Le.trans hle0 hle; have hlog := EiLog.mono hle hlog; have hk := RdL.mono hle hk
     have hvp : rd H3 (.s 1 (ints path)) vp := rd.ofRow hrowp hz_rowp (RdL.vals _) (Le.refl _)
     obtain ⟨xs7, hrow7, hxs7⟩ := hlog
     have hedr := ei_mk (e := (⟨x1, path, (growT l 1 b).1⟩ : Ei)) hvp hk
     have hones := RdL.ones hedr (Ei.d_one _)
     refine TC.region ?_; refine TL.move rfl rfl ?_; refine TL.load_ownA 1 0 [_, _, _, _] rfl rfl rfl ⟨rfl, rfl, rfl, rfl, trivial⟩ rfl rfl ?_
     refine TL.litF (r := [_, _, _, _]) [(0, [_, _, _, _])] ⟨rfl, ⟨_, rfl, rfl⟩, trivial⟩ rfl rfl rfl rfl ?_; intro g44; refine TL.append 3 rfl rfl rfl hrow7 (Src.ofOwn 0 0 rfl rfl rfl (Ones.all hones) ⟨rfl, rfl, rfl, rfl, trivial⟩) (by omega) (by omega) rfl ?_; intro v45 sg45 hrow45; have hxs45 := ei_snoc hxs7 hedr; refine TL.assign rfl rfl ?_; refine TL.nil ?_; refine TQ.in_n ?_; refine TQ.then_n ?_; refine TC.region ?_; refine TL.move rfl rfl ?_; refine TL.sub rfl rfl rfl ⟨by omega, by omega⟩ ?_; refine TL.assign rfl rfl ?_; refine TL.nil ?_
     refine TQ.sel 4 [1, 3] rfl (fun o ho => ?_)
     simp only [K.sel, List.map_cons, List.map_nil, List.getD_cons_zero, List.getD_cons_succ, List.drop_succ_cons, List.drop_zero, List.cons_append, List.nil_append, List.set_cons_zero, List.set_cons_succ] at ho; subst ho
     refine TQ.next n [(3, _), (4, _), (5, _)] (by omega) ⟨rfl, rfl, rfl, trivial⟩ ⟨n, outs ++ [⟨x1, path, (growT l 1 b).1⟩], (growT l 1 b).2, v45, sg45, rfl, ?_, by omega, by omega, ⟨_, by simpa using hrow45, hxs45⟩, by simp; omega, by simp, rfl, hle0⟩
     rw [hinv, editsN, hre]
  ·
   refine TL.nil ?_; refine TQ.then_n ?_; refine TC.cond_f rfl ?_; refine TC.exit ?_; refine TQ.then_e ?_; refine TQ.then_e ?_; refine TQ.in_e ?_; refine TQ.nsr ?_; refine TL.move rfl rfl ?_; refine TL.assign rfl rfl ?_; refine TL.nil ?_; refine TQ.then_n ?_; refine TC.ret ?_
   refine TQ.sel 2 [1, 0] rfl (fun o ho => ?_)
   simp only [K.sel, List.map_cons, List.map_nil, List.getD_cons_zero, List.getD_cons_succ, List.drop_succ_cons, List.drop_zero, List.cons_append, List.nil_append, List.set_cons_zero, List.set_cons_succ] at ho; subst ho
   refine TQ.freeze (fun H4 hle hz_log => ?_)
   have hL := Le.trans hL hle; have hlog := EiLog.mono hle hlog; refine TQ.ret1 1 rfl rfl ?_
   exact ⟨by rw [hinv, show n = 0 by omega]; exact hlog.rd hz_log (Le.refl _), rfl, hL⟩

end Go.Proofs.YtaomdfcplamenaaGreatDoor.K

namespace Go.Proofs.YtaomdfcplamenaaGreatDoor.K
open Go Go.RowKit Go.Proofs

theorem applyI_code {t : Tr} {c : Int} : ∀ {es : List Ei}, applyI t es = .inl c → c = 1 ∨ c = 101 := by
  intro es
  induction es generalizing t with
  | nil => intro h; simp [applyI] at h
  | cons e r ih =>
    intro h
    cases hst : stepI t e with
    | inl c' => rw [applyI_bad hst] at h; injection h with h; subst h; exact stepI_code hst
    | inr p =>
      obtain ⟨b, t1⟩ := p
      rw [applyI_cons hst] at h
      exact ih h
theorem applyI_size {t u : Tr} : ∀ {es : List Ei}, applyI t es = .inr u → u.size ≤ t.size + treesI es := by
  intro es
  induction es generalizing t with
  | nil => intro h; simp only [applyI, Sum.inr.injEq] at h; rw [h]; omega
  | cons e r ih =>
    intro h
    cases hst : stepI t e with
    | inl c => rw [applyI_bad hst] at h; cases h
    | inr p =>
      obtain ⟨b, t1⟩ := p
      rw [applyI_cons hst] at h
      have h1 := ih h
      have h2 := (stepI_size hst).1
      rw [treesI_cons]; omega
theorem editE_bd (l : List Int) (a : Nat) : (editE l a).1.path.length ≤ 3 ∧ (editE l a).1.tree.size ≤ 4 := by
  have hb4 := takeV_bd (l := l) (at_ := a + 1) (n := 4) (by omega)
  unfold editE
  split
  · exact ⟨by simp [pathE]; omega, by show Tr.zero.size ≤ 4; decide⟩
  · exact ⟨by simp [pathE]; omega, (grow1_le _ _).2⟩
theorem editsN_bd {l : List Int} : ∀ (n a : Nat) (outs : List Ei), (∀ e ∈ outs, e.path.length ≤ 3 ∧ e.tree.size ≤ 4) → (∀ e ∈ editsN l n a outs, e.path.length ≤ 3 ∧ e.tree.size ≤ 4) ∧ (editsN l n a outs).length = outs.length + n
  | 0, a, outs, h => ⟨h, rfl⟩
  | n + 1, a, outs, h => by
    have := editsN_bd (l := l) n (editE l a).2 (outs ++ [(editE l a).1]) (fun e he => by
      rcases List.mem_append.1 he with he | he
      · exact h e he
      · simp at he; subst he; exact editE_bd l a)
    refine ⟨this.1, ?_⟩
    have h2 := this.2
    simp only [List.length_append, List.length_singleton] at h2
    simp only [editsN]
    omega
theorem editsI_bd (l : List Int) : (∀ e ∈ editsI l, e.path.length ≤ 3 ∧ e.tree.size ≤ 4) ∧ (editsI l).length ≤ 5 := by
  have h := editsN_bd (l := l) (min (l.length / 4) 5) 0 [] (by simp)
  refine ⟨h.1, ?_⟩
  have h2 := h.2
  simp only [List.length_nil] at h2
  unfold editsI
  omega
section
variable {es : List Ei} {t : Tr} {w0 : World} {H : Hp} {own : List Seg} {a0 a1 ve : Value}
theorem rApply_bad {c : Int} (hs : applyI t es = .inl c) (hpl : ∀ e ∈ es, e.path.length ≤ 1000000) (hsz : t.size + treesI es ≤ 1000000) (hel : es.length ≤ 1000000) (ht : RdL H t.d [a0, a1]) (hve : rd H (.s 4 (eiD es)) ve) :
    Fn Tryz.prog 12 [.agg #[a0, a1], ve] w0 H own (fun r o H' => r = .tuple #[.agg #[.string ⟨#[]⟩, .slice none 0 0], .int .i64 0, .int .i64 c] ∧ o = own ∧ Le H H') :=
  (ref_Apply hpl hsz hel ht hve).mono fun r o H' h => by
    obtain ⟨⟨c', h1, h2⟩ | ⟨u, _, _, h1, _⟩, h3, h4⟩ := h
    · rw [hs] at h1; cases h1; exact ⟨h2, h3, h4⟩
    · rw [hs] at h1; cases h1
theorem rApply_ok {u : Tr} (hs : applyI t es = .inr u) (hpl : ∀ e ∈ es, e.path.length ≤ 1000000) (hsz : t.size + treesI es ≤ 1000000) (hel : es.length ≤ 1000000) (ht : RdL H t.d [a0, a1]) (hve : rd H (.s 4 (eiD es)) ve) :
    Fn Tryz.prog 12 [.agg #[a0, a1], ve] w0 H own (fun r o H' => (∃ d0 d1, r = .tuple #[.agg #[d0, d1], .int .i64 (costI t es : Int), .int .i64 0] ∧ RdL H' u.d [d0, d1]) ∧ o = own ∧ Le H H') :=
  (ref_Apply hpl hsz hel ht hve).mono fun r o H' h => by
    obtain ⟨⟨c', h1, h2⟩ | ⟨u', d0, d1, h1, h2, h5⟩, h3, h4⟩ := h
    · rw [hs] at h1; cases h1
    · rw [hs] at h1; cases h1; exact ⟨⟨d0, d1, h2, h5⟩, h3, h4⟩
end
theorem law_edits {l m : List Int} (hl : ∀ n ∈ l, I64 n) (hm : ∀ n ∈ m, I64 n) {w0 : World} {H : Hp} {own : List Seg} {v0 v1 : Value} (h0 : rd H (.s 1 (ints l)) v0) (h1 : rd H (.s 1 (ints m)) v1) :
    Fn Tryz.prog 5 [v0, v1] w0 H own (fun r o H' => r = .bool true ∧ o = own ∧ Le H H') := by
  have L0 := ints_le h0
  have L1 := ints_le h1
  obtain ⟨A1, c1, rfl, hc11, hc12⟩ := vals_len h1
  simp only [List.length_map] at h1 hc11 ⊢
  obtain ⟨mm, hmm⟩ : ∃ mm, mm = min m.length 60 := ⟨_, rfl⟩
  have hmml : min ((m.length : Nat) : Int) 60 = (mm : Int) := by omega
  have hmmi : ∀ n ∈ m.take mm, I64 n := fun n hn => hm n (List.mem_of_mem_take hn)
  have haz := madeT_size (l.take 150)
  obtain ⟨hEb, hEl⟩ := editsI_bd (m.take mm)
  have tE := treesI_le (B := 4) (fun e he => (hEb e he).2)
  have pE : ∀ e ∈ (editsI (m.take mm)), e.path.length ≤ 1000000 := fun e he => by have := (hEb e he).1; omega
  refine Fn.enter Tryz.func5 rfl Tryz.ntmps5 rfl ?_; have hL := Le.refl H; refine TC.seq ?_; refine TC.region ?_; refine TL.assign rfl rfl ?_; refine TL.nsr ?_; refine TL.call (law_sanity) trivial rfl ?_
  rintro _ own Hsn ⟨rfl, rfl, hlesn⟩
  have hL := Le.trans hL hlesn; have h0 := rd.mono hlesn h0; have h1 := rd.mono hlesn h1; refine TL.assign rfl rfl ?_; refine TL.nsr ?_; refine TL.move rfl rfl ?_; refine TL.call (law_made hl h0 L0) ⟨rfl, trivial⟩ rfl ?_
  rintro _ own H20 ⟨a20, b20, rfl, hr20, rfl, hle20⟩
  have hL := Le.trans hL hle20; have h1 := rd.mono hle20 h1
  refine TL.new rfl ?_; intro g6; refine TL.storeA 0 0 (c' := #[_, _]) (own' := [(_, .cells #[_, _] _ _)] :: _) rfl rfl rfl rfl rfl (tr_ones hr20) (by simp) rfl rfl rfl ?_; refine TL.nsr ?_; refine TL.move rfl rfl ?_; refine TL.move rfl rfl ?_; refine TL.len_slice rfl rfl ?_; refine TL.min2 rfl rfl rfl ?_
  rw [hmml]
  refine TL.slice (0) (mm) rfl rfl ⟨_, _, rfl, rfl⟩ rfl (by simp only [Option.getD_some]) (by omega) (by omega) rfl ?_
  refine TL.call (ref_Edits hmmi (by simp; omega) (by
    have h := rd.cut h1 (l := 0) (r := mm) (by omega) (by omega)
    rw [show ((ints m).drop (0 * 1)).take ((mm - 0) * 1) = ints (m.take mm) from by simp [ints]] at h
    exact h)) ⟨rfl, trivial⟩ rfl ?_
  rintro v26 own H26 ⟨hE, rfl, hle26⟩
  have hL := Le.trans hL hle26; have hr20 := RdL.mono hle26 hr20; refine TL.assign rfl rfl ?_; refine TL.nil ?_; refine TQ.then_n ?_; refine TC.seq ?_
  rcases hap : applyI (madeT (l.take 150)) (editsI (m.take mm)) with cc | u
  ·
   have hib := invert_bad hap; have hcc := applyI_code hap; refine TC.region ?_; refine TL.load_ownA 0 0 [_, _] rfl rfl rfl ⟨rfl, rfl, trivial⟩ rfl rfl ?_; refine TL.move rfl rfl ?_; refine TL.call (Apply_bad hap pE (by omega) (by omega) hr20 hE) ⟨rfl, rfl, trivial⟩ rfl ?_
   rintro _ own H30 ⟨rfl, rfl, hle30⟩
   have hL := Le.trans hL hle30; have hr20 := RdL.mono hle30 hr20; have hE := rd.mono hle30 hE; refine TL.move rfl rfl ?_; refine TL.extract rfl rfl rfl ?_; refine TL.extract rfl rfl rfl ?_
   refine TL.new rfl ?_; intro g8; refine TL.storeA 0 0 (c' := #[_, _]) (own' := [(_, .cells #[_, _] _ _)] :: _) rfl rfl rfl rfl rfl ⟨rfl, rfl, trivial⟩ (by simp) rfl rfl rfl ?_; refine TL.assign rfl rfl ?_; refine TL.nsr ?_; refine TL.load_ownA 1 0 [_, _] rfl rfl rfl ⟨rfl, rfl, trivial⟩ rfl rfl ?_; refine TL.move rfl rfl ?_; refine TL.call (rApply_bad hap pE (by omega) (by omega) hr20 hE) ⟨rfl, rfl, trivial⟩ rfl ?_
   rintro _ own H36 ⟨rfl, rfl, hle36⟩
   have hL := Le.trans hL hle36; have hr20 := RdL.mono hle36 hr20; have hE := rd.mono hle36 hE; refine TL.move rfl rfl ?_; refine TL.extract rfl rfl rfl ?_; refine TL.extract rfl rfl rfl ?_; refine TL.extract rfl rfl rfl ?_
   refine TL.new rfl ?_; intro g10; refine TL.storeA 0 0 (c' := #[_, _]) (own' := [(_, .cells #[_, _] _ _)] :: _) rfl rfl rfl rfl rfl ⟨rfl, rfl, trivial⟩ (by simp) rfl rfl rfl ?_; refine TL.assign rfl rfl ?_; refine TL.assign rfl rfl ?_; refine TL.nsr ?_; refine TL.load_ownA 2 0 [_, _] rfl rfl rfl ⟨rfl, rfl, trivial⟩ rfl rfl ?_; refine TL.move rfl rfl ?_; refine TL.call (Invert_bad hib pE (by omega) (by omega) hr20 hE) ⟨rfl, rfl, trivial⟩ rfl ?_
   rintro _ own H43 ⟨rfl, rfl, hle43⟩
   have hL := Le.trans hL hle43; refine TL.move rfl rfl ?_; refine TL.extract rfl rfl rfl ?_; refine TL.extract rfl rfl rfl ?_; refine TL.assign rfl rfl ?_; refine TL.assign rfl rfl ?_; refine TL.nil ?_; refine TQ.then_n ?_; refine TC.seq ?_; refine TC.seq ?_; refine TC.region ?_; refine TL.move rfl rfl ?_; refine TL.move rfl rfl ?_; refine TL.neq rfl rfl rfl ?_
   rw [decide_eq_false (by simp)]
   refine TL.move rfl rfl ?_; refine TL.gyes rfl rfl rfl ?_; refine TL.move rfl rfl ?_; refine TL.gyes rfl rfl rfl ?_; refine TL.move rfl rfl ?_; refine TL.gyes rfl rfl rfl ?_; refine TL.neq rfl rfl rfl ?_
   rw [decide_eq_false (by simp)]
   refine TL.pickF rfl rfl rfl rfl ?_; refine TL.nil ?_; refine TQ.then_n ?_; refine TC.cond_f rfl ?_; refine TC.skip ?_; refine TQ.then_n ?_; refine TC.seq ?_; refine TC.seq ?_; refine TC.region ?_; refine TL.move rfl rfl ?_; refine TL.neq rfl rfl rfl ?_
   rw [decide_eq_true (by omega)]
   refine TL.nil ?_; refine TQ.then_n ?_; refine TC.cond_t rfl ?_; refine TC.seq ?_; refine TC.region ?_; refine TL.move rfl rfl ?_; refine TL.move rfl rfl ?_; refine TL.gyes rfl rfl rfl ?_; refine TL.load_ownA 1 0 [_, _] rfl rfl rfl ⟨rfl, rfl, trivial⟩ rfl rfl ?_; refine TL.gyes rfl rfl rfl ?_; refine TL.struct [] trivial rfl rfl ?_; refine TL.gyes rfl rfl rfl ?_; refine TL.call (ref_same _ _ _ (Nat.le_refl _) (zero_rd _) (zero_rd _)) ⟨rfl, rfl, trivial⟩ rfl ?_
   rintro _ own Hd60 ⟨rfl, rfl, hled60⟩
   rw [eqb_self]
   have hL := Le.trans hL hled60; refine TL.pickT rfl rfl rfl rfl ?_; refine TL.move rfl rfl ?_; refine TL.gyes rfl rfl rfl ?_; refine TL.move rfl rfl ?_; refine TL.gyes rfl rfl rfl ?_; refine TL.len_slice rfl rfl ?_; refine TL.gyes rfl rfl rfl ?_; refine TL.eql rfl rfl rfl ?_
   rw [decide_eq_true (by first | rfl | omega)]
   refine TL.pickT rfl rfl rfl rfl ?_; refine TL.assign rfl rfl ?_; refine TL.nil ?_; refine TQ.then_n ?_; refine TC.ret ?_; refine TQ.then_r ?_; refine TQ.ret1 3 rfl rfl ?_
   exact ⟨rfl, rfl, hL⟩
  ·
   obtain ⟨bs, hbs, hbu, hbl⟩ := invert_apply hap
   have hus := applyI_size hap
   have bb := invert_bd (B := 100) hbs (by omega)
   have tb := treesI_le (B := 101) bb.1
   have pb := bb.2 1000000 pE
   refine TC.region ?_; refine TL.load_ownA 0 0 [_, _] rfl rfl rfl ⟨rfl, rfl, trivial⟩ rfl rfl ?_; refine TL.move rfl rfl ?_; refine TL.call (Apply_okF hap pE (by omega) (by omega) hr20 hE) ⟨rfl, rfl, trivial⟩ rfl ?_
   rintro _ own H30 ⟨⟨a30, b30, rfl, hr30⟩, rfl, hle30⟩
   have hL := Le.trans hL hle30; have hr20 := RdL.mono hle30 hr20; have hE := rd.mono hle30 hE; refine TL.move rfl rfl ?_; refine TL.extract rfl rfl rfl ?_; refine TL.extract rfl rfl rfl ?_
   refine TL.new rfl ?_; intro g8; refine TL.storeA 0 0 (c' := #[_, _]) (own' := [(_, .cells #[_, _] _ _)] :: _) rfl rfl rfl rfl rfl (tr_ones hr30) (by simp) rfl rfl rfl ?_; refine TL.assign rfl rfl ?_; refine TL.nsr ?_; refine TL.load_ownA 1 0 [_, _] rfl rfl rfl ⟨rfl, rfl, trivial⟩ rfl rfl ?_; refine TL.move rfl rfl ?_; refine TL.call (rApply_ok hap pE (by omega) (by omega) hr20 hE) ⟨rfl, rfl, trivial⟩ rfl ?_
   rintro _ own H36 ⟨⟨a36, b36, rfl, hr36⟩, rfl, hle36⟩
   have hL := Le.trans hL hle36; have hr20 := RdL.mono hle36 hr20; have hE := rd.mono hle36 hE; have hr30 := RdL.mono hle36 hr30; refine TL.move rfl rfl ?_; refine TL.extract rfl rfl rfl ?_; refine TL.extract rfl rfl rfl ?_; refine TL.extract rfl rfl rfl ?_
   refine TL.new rfl ?_; intro g10; refine TL.storeA 0 0 (c' := #[_, _]) (own' := [(_, .cells #[_, _] _ _)] :: _) rfl rfl rfl rfl rfl (tr_ones hr36) (by simp) rfl rfl rfl ?_; refine TL.assign rfl rfl ?_; refine TL.assign rfl rfl ?_; refine TL.nsr ?_; refine TL.load_ownA 2 0 [_, _] rfl rfl rfl ⟨rfl, rfl, trivial⟩ rfl rfl ?_; refine TL.move rfl rfl ?_; refine TL.call (Invert_ok hbs pE (by omega) (by omega) hr20 hE) ⟨rfl, rfl, trivial⟩ rfl ?_
   rintro _ own H43 ⟨⟨v43, rfl, hi43⟩, rfl, hle43⟩
   have hL := Le.trans hL hle43; have hr20 := RdL.mono hle43 hr20; have hE := rd.mono hle43 hE; have hr30 := RdL.mono hle43 hr30; have hr36 := RdL.mono hle43 hr36; refine TL.move rfl rfl ?_; refine TL.extract rfl rfl rfl ?_; refine TL.extract rfl rfl rfl ?_; refine TL.assign rfl rfl ?_; refine TL.assign rfl rfl ?_; refine TL.nil ?_; refine TQ.then_n ?_; refine TC.seq ?_; refine TC.seq ?_; refine TC.region ?_; refine TL.move rfl rfl ?_; refine TL.move rfl rfl ?_; refine TL.neq rfl rfl rfl ?_
   rw [decide_eq_false (by simp)]
   refine TL.move rfl rfl ?_; refine TL.gyes rfl rfl rfl ?_; refine TL.move rfl rfl ?_; refine TL.gyes rfl rfl rfl ?_; refine TL.move rfl rfl ?_; refine TL.gyes rfl rfl rfl ?_; refine TL.neq rfl rfl rfl ?_
   rw [decide_eq_false (by simp)]
   refine TL.pickF rfl rfl rfl rfl ?_; refine TL.nil ?_; refine TQ.then_n ?_; refine TC.cond_f rfl ?_; refine TC.skip ?_; refine TQ.then_n ?_; refine TC.seq ?_; refine TC.seq ?_; refine TC.region ?_; refine TL.move rfl rfl ?_; refine TL.neq rfl rfl rfl ?_
   rw [decide_eq_false (by simp)]
   refine TL.nil ?_; refine TQ.then_n ?_; refine TC.cond_f rfl ?_; refine TC.skip ?_; refine TQ.nsr ?_; refine TL.load_ownA 1 0 [_, _] rfl rfl rfl ⟨rfl, rfl, trivial⟩ rfl rfl ?_; refine TL.move rfl rfl ?_; refine TL.call (rApply_ok hbu pb (by omega) (by omega) hr30 hi43) ⟨rfl, rfl, trivial⟩ rfl ?_
   rintro _ own H70 ⟨⟨a70, b70, rfl, hr70⟩, rfl, hle70⟩
   have hL := Le.trans hL hle70; have hr20 := RdL.mono hle70 hr20; have hE := rd.mono hle70 hE; have hr30 := RdL.mono hle70 hr30; have hr36 := RdL.mono hle70 hr36; have hi43 := rd.mono hle70 hi43; refine TL.move rfl rfl ?_; refine TL.extract rfl rfl rfl ?_; refine TL.extract rfl rfl rfl ?_; refine TL.extract rfl rfl rfl ?_
   refine TL.new rfl ?_; intro g15; refine TL.storeA 0 0 (c' := #[_, _]) (own' := [(_, .cells #[_, _] _ _)] :: _) rfl rfl rfl rfl rfl (tr_ones hr70) (by simp) rfl rfl rfl ?_; refine TL.assign rfl rfl ?_; refine TL.assign rfl rfl ?_; refine TL.nil ?_; refine TQ.then_n ?_; refine TC.seq ?_
   obtain ⟨X3, x3, rfl, _, _⟩ := eis_len hi43
   obtain ⟨XE, xE, rfl, _, _⟩ := eis_len hE
   refine TC.region ?_; refine TL.move rfl rfl ?_; refine TL.move rfl rfl ?_; refine TL.gyes rfl rfl rfl ?_; refine TL.load_ownA 2 0 [_, _] rfl rfl rfl ⟨rfl, rfl, trivial⟩ rfl rfl ?_; refine TL.gyes rfl rfl rfl ?_; refine TL.load_ownA 1 0 [_, _] rfl rfl rfl ⟨rfl, rfl, trivial⟩ rfl rfl ?_; refine TL.gyes rfl rfl rfl ?_; refine TL.call (ref_same _ _ _ (Nat.le_refl _) hr30 hr36) ⟨rfl, rfl, trivial⟩ rfl ?_
   rintro _ own Hd78 ⟨rfl, rfl, hled78⟩
   rw [eqb_self]
   have hL := Le.trans hL hled78; have hr20 := RdL.mono hled78 hr20; have hr70 := RdL.mono hled78 hr70; refine TL.pickT rfl rfl rfl rfl ?_; refine TL.move rfl rfl ?_; refine TL.gyes rfl rfl rfl ?_; refine TL.move rfl rfl ?_; refine TL.gyes rfl rfl rfl ?_; refine TL.len_slice rfl rfl ?_; refine TL.gyes rfl rfl rfl ?_; refine TL.move rfl rfl ?_; refine TL.gyes rfl rfl rfl ?_; refine TL.len_slice rfl rfl ?_; refine TL.gyes rfl rfl rfl ?_; refine TL.eql rfl rfl rfl ?_
   rw [decide_eq_true (by first | rfl | omega)]
   refine TL.pickT rfl rfl rfl rfl ?_; refine TL.move rfl rfl ?_; refine TL.gyes rfl rfl rfl ?_; refine TL.move rfl rfl ?_; refine TL.gyes rfl rfl rfl ?_; refine TL.eql rfl rfl rfl ?_
   rw [decide_eq_true (by first | rfl | omega)]
   refine TL.pickT rfl rfl rfl rfl ?_; refine TL.move rfl rfl ?_; refine TL.gyes rfl rfl rfl ?_; refine TL.load_ownA 0 0 [_, _] rfl rfl rfl ⟨rfl, rfl, trivial⟩ rfl rfl ?_; refine TL.gyes rfl rfl rfl ?_; refine TL.load_ownA 3 0 [_, _] rfl rfl rfl ⟨rfl, rfl, trivial⟩ rfl rfl ?_; refine TL.gyes rfl rfl rfl ?_; refine TL.call (ref_same _ _ _ (Nat.le_refl _) hr70 hr20) ⟨rfl, rfl, trivial⟩ rfl ?_
   rintro _ own Hd94 ⟨rfl, rfl, hled94⟩
   rw [eqb_self]
   have hL := Le.trans hL hled94; refine TL.pickT rfl rfl rfl rfl ?_; refine TL.assign rfl rfl ?_; refine TL.nil ?_; refine TQ.then_n ?_; refine TC.ret ?_; refine TQ.ret1 4 rfl rfl ?_
   exact ⟨rfl, rfl, hL⟩

end Go.Proofs.YtaomdfcplamenaaGreatDoor.K

namespace Go.Proofs.YtaomdfcplamenaaGreatDoor.K
open Go Go.RowKit Go.ChangeShapes Go.WideShapes Go.Deep

/-- Numbers as data: of a kind; three by three. -/
def kints (k : IntKind) (l : List Int) : List D := (l.map (Value.int k)).map D.c
abbrev InK (k : IntKind) (n : Int) : Prop := k.min ≤ n ∧ n ≤ k.max
theorem lit_in {k : IntKind} {n : Int} (h : (Lit.int k n).wf = true) : InK k n := by
  unfold Lit.wf at h
  simp only [Bool.and_eq_true, decide_eq_true_eq] at h
  exact h
theorem inK_i64 {n : Int} (h : InK .i64 n) : -9223372036854775808 ≤ n ∧ n ≤ 9223372036854775807 := by
  have e1 : IntKind.i64.min = -9223372036854775808 := by decide
  have e2 : IntKind.i64.max = 9223372036854775807 := by decide
  obtain ⟨h1, h2⟩ := h
  rw [e1] at h1; rw [e2] at h2
  exact ⟨h1, h2⟩

def allH (W : World) : Hp := fun b => W.heap[b]?
theorem St.all (W : World) : St W (allH W) [] W := ⟨rfl, ⟨rfl, Nat.le_refl _⟩, rfl, fun _ _ h => h, by simp, by simp, by simp⟩

theorem spot_none {W : World} {a : Addr} {v : Value} (h : W.cell? a = some v) : a = ⟨a.block, a.off, none⟩ := by
  obtain ⟨b, o, s⟩ := a
  cases s with
  | none => rfl
  | some s =>
    unfold World.cell? at h
    split at h <;> simp at h
theorem cel_of {W : World} {b o : Nat} {v : Value} (h : W.cell? ⟨b, o, none⟩ = some v) : cel (allH W) b o = some v := by
  unfold World.cell? at h
  unfold cel allH
  split at h
  · rename_i hb
    rw [hb]
    simpa using h
  · cases h
theorem add_zero' (a : Addr) : a.add 0 = a := by unfold Addr.add; simp
section
variable {P : Program} {H : Type} {enc : TypeId × Value → H} {W : World}

theorem open_kints {t e : TypeId} {k : IntKind} (ht : P.underlying t = some (.slice e)) (he : P.underlying e = some (.int k)) (hc : P.cellsOf e = 1) {a : Option Addr} {len cap : Nat} {d : DataW H} {ps : List MemPlace}
    (h : DataW.Trod enc P W 0 (fun _ => true) true t (.slice a len cap) d ps) : ∃ l : List Int, (∀ n ∈ l, InK k n) ∧ rd (allH W) (.s 1 (kints k l)) (.slice a len cap) := by
  obtain ⟨fuel, hf⟩ := h
  have hcs : (Value.slice a len cap).cells.toList = [.slice a len cap] := rfl
  rw [hcs] at hf
  rcases open_ints ht he hc hf with ⟨hcs, _⟩ | ⟨a, len', cap', zs, hcs, _, hl, hm, hz, _, hcell, hwz⟩
  · simp only [List.cons.injEq, Value.slice.injEq, and_true] at hcs
    obtain ⟨rfl, rfl, rfl⟩ := hcs
    exact ⟨[], by simp, rd.nil _ _⟩
  · simp only [List.cons.injEq, Value.slice.injEq, and_true] at hcs
    obtain ⟨rfl, rfl, rfl⟩ := hcs
    simp only [if_true] at hz
    refine ⟨zs.take len, fun n hn => ?_, ?_⟩
    · exact lit_in (hwz n (List.mem_of_mem_take hn))
    · simp only [rd]
      refine ⟨_, _, _, rfl, by simp [kints]; omega, hl, by simpa [maxLen] using hm, ?_⟩
      by_cases h0 : len = 0
      · exact .inl h0
      · have e := hcell 0 (by omega)
        rw [add_zero'] at e
        have ea := spot_none e
        refine .inr ⟨a.block, a.off, by rw [← ea], rds.mk fun i x hx => ?_⟩
        simp only [kints, List.getElem?_map, List.getElem?_take] at hx
        split at hx
        · rename_i hlt
          have h1 := hcell i (by omega)
          have h2 : zs[i]? = some zs[i] := List.getElem?_eq_getElem (by omega)
          rw [h2] at hx
          simp only [Option.map_some, Option.some.injEq] at hx
          subst hx
          refine ⟨.int k zs[i], ?_, by simp [rd]⟩
          rw [ea, add_off] at h1
          rw [List.getD_eq_getElem?_getD, h2] at h1
          exact cel_of h1
        · simp at hx

theorem args_stay (hl : laidOutB P = true) {W' : World} (hb : ∀ k, k < W.heap.size → W'.heap[k]? = W.heap[k]?) {sp : Nat → Bool} : ∀ {ts : List TypeId} {vs : List Value} {ds : List (DataW H)} {ps : List MemPlace},
    (ts.all fun t => P.readableRec t && decide (t < P.types.size)) = true → DataW.TrodAll enc P W 0 (fun _ => true) true ts vs ds ps → (∀ x ∈ ps, x.block < W.heap.size) → (∀ x ∈ ps, sp x.block = true) → DataW.TrodAll enc P W' 0 sp true ts vs ds ps
  | [], [], [], _, _, h, _, _ => h
  | t :: ts, v :: vs, d :: ds, _, hts, h, hlt, hsp => by
    obtain ⟨p, q, h1, h2, rfl⟩ := h
    simp only [List.all_cons, Bool.and_eq_true, decide_eq_true_eq] at hts
    refine ⟨p, q, WideElems.Trod_stays hl hts.1.1 hts.1.2 h1 (fun x hx => ?_) (fun x hx => hsp x (List.mem_append_left _ hx)), args_stay hl hb hts.2 h2 (fun x hx => hlt x (List.mem_append_right _ hx)) (fun x hx => hsp x (List.mem_append_right _ hx)), rfl⟩
    have hx' := hlt x (List.mem_append_left _ hx)
    cases x with
    | cell b o => exact World.cell?_of_block (w := W) (hb b hx')
    | map b => exact hb b hx'

/-- The post of a law that answers true and leaves the blocks as they were. -/
theorem law_post {f : Func} {s : ChangeSpec} {apart fresh handsOn again : Bool} {W' : World} {args : Array Value} {ds gs : List (DataW H)} {before : List MemPlace} {bt : TypeId} (hl : laidOutB P = true)
    (hW : DataW.Whole enc P f.params.toList s.vars apart W args.toList ds gs before) (hvs : s.vars = []) (hfn : s.fn H (ds ++ gs) = { results := [.lit (.bool true)], args := ds }) (hrt : f.resultTypes = #[bt]) (hbt : P.underlying bt = some .bool)
    (hts : (f.params.toList.all fun t => P.readableRec t && decide (t < P.types.size)) = true)
    (hos : W'.os = W.os) (hout : W'.output = W.output) (hb : ∀ k, k < W.heap.size → W'.heap[k]? = W.heap[k]?) : s.post enc P f apart fresh handsOn again W args (.bool true) W' := by
  have hlt := hW.lt
  have hW0 := hW
  obtain ⟨p, q, hA, hV, rfl, hfz, hnd⟩ := hW
  have hq : q = [] := by
    rw [hvs] at hV
    obtain ⟨_, rfl⟩ := trodVars_none hV
    rfl
  subst hq
  have hg : gs = [] := by
    rw [hvs] at hV
    obtain ⟨rfl, _⟩ := trodVars_none hV
    rfl
  subst hg
  simp only [List.append_nil] at hlt hfz hnd hW0
  have hres : ∀ (b : Nat) (sp : Nat → Bool) (hd : Bool), DataW.TrodAll enc P W' b sp hd f.resultTypes.toList ((Value.bool true).resultList f.resultTypes.size) (s.fn H (ds ++ [])).results [] := by
    intro b sp hd
    rw [hfn, hrt]
    exact trodAll_mk1 (shut_bool hbt true)
  have hargs : ∀ sp : Nat → Bool, (∀ x ∈ p, sp x.block = true) → DataW.TrodAll enc P W' 0 sp true f.params.toList args.toList (s.fn H (ds ++ [])).args p := by
    intro sp hsp
    rw [hfn]
    exact args_stay hl hb hts hA hlt hsp
  have hvars : ∀ sp : Nat → Bool, DataW.TrodVars enc P W' sp s.vars (s.fn H (ds ++ [])).vars [] := by
    intro sp
    rw [hfn, hvs]
    rfl
  have hok : ∀ (j : Nat) (t : TypeId) (r : Value), f.resultTypes[j]? = some t → ((Value.bool true).resultList f.resultTypes.size)[j]? = some r → Value.okWide P W' .any 0 t r := by
    rw [hrt]
    intro j t r hj hr
    match j, hj, hr with
    | 0, hj, hr =>
      simp [Value.resultList] at hj hr
      subst hj; subst hr
      simp [Value.okWide, hbt, Cell.okWide, Cell.ok]
    | j + 1, hj, hr => simp at hj
  have hk : W.keptBut W' (fun x => x ∈ p ∧ (x ∈ ([] : List MemPlace) ∨ x ∈ p ∨ x ∈ ([] : List MemPlace))) := by
    refine ⟨hos, hout, fun i hi => ?_⟩
    rw [hb i hi]
    split <;> simp_all
  have hfz' : W'.noneFrozen p := by
    intro b off hp
    have := hfz b off hp
    rw [← this]
    exact World.frozen?_of_block (w := W) (hb b (hlt _ hp))
  refine ⟨ds, [], p, [], p, [], by simpa using hW0, hres _ _ _, hargs _ (fun x hx => by simpa using hlt x hx), hvars _, hk, fun _ => ⟨hok, _, _, ([] ++ p) ++ [], ⟨[] ++ p, [], trodAll_append (hargs _ (fun _ _ => rfl)) (hres _ _ _), hvars _, rfl, by simpa using hfz', fun ha => by simpa using hnd ha⟩, fun x hx _ => by simpa using hx⟩⟩
end
section
end
end Go.Proofs.YtaomdfcplamenaaGreatDoor.K

namespace Go.Proofs.YtaomdfcplamenaaGreatDoor
open Go Go.RowKit Go.ChangeShapes Go.WideShapes Go.ChangeAt
namespace Row5
theorem own0 : ownKnob Tryz.prog.godebug = none := by kernel_rfl
theorem laid0 : laidOutB Tryz.prog = true := by kernel_rfl
theorem door_met (os : Os) (args : Array Value) : laidMetH Tryz.prog Rows.diffEditsRow.laid ((World.doorLaid Tryz.prog 400 os).forCall (fun _ _ => 0) ⟨#[], args, []⟩).memory :=
  laidMetH_of_parts3 (fuel := 8) (laidMet_of_run' 8 (by kernel_rfl) (by kernel_rfl)) (by kernel_rfl) (by kernel_rfl)
theorem lifted (os : Os) (started : os.Started) (H : Type) (enc : TypeId × Value → H) :
    ReturnsInHanded {} Tryz.checked os 5 .any (fun w args => (Rows.diffEditsSpec.pre enc Tryz.prog Tryz.f5 [] false w args ∧ laidMetH Tryz.prog Rows.diffEditsRow.laid w) ∧ sizedMet enc Tryz.prog Tryz.f5 (OpenSpec.ofChange Rows.diffEditsSpec) false w args)
      (Rows.diffEditsSpec.post enc Tryz.prog Tryz.f5 false true false false) := by
  refine returnsInHanded_of_change_and (C := Tryz.checked) (X := fun w _ => laidMetH Tryz.prog Rows.diffEditsRow.laid w) (fun _ _ _ hh h => h.of_heap hh) own0 started (by kernel_rfl) Tryz.func5
    (ChangeSpec.witness_shaped (enc := enc) (C := Tryz.checked) (os := os) (X := fun w _ => laidMetH Tryz.prog Rows.diffEditsRow.laid w) false (World.doorLaid Tryz.prog 400 os) #[.slice none 0 0, .slice none 0 0] 8 rfl (World.shaped_of_RefB (by kernel_rfl) (by kernel_rfl)) (by kernel_rfl) (by kernel_rfl) (by kernel_rfl) (door_met os _)) ?_
  intro W base args ds gs before hval0 hW _ _ _ _
  have hval : ∀ (j : Nat) t v, Tryz.f5.params[j]? = some t → args[j]? = some v → Value.okWide Tryz.prog W .any base t v := hval0
  have hW' : DataW.Whole enc Tryz.prog Tryz.f5.params.toList Rows.diffEditsSpec.vars false W args.toList ds gs before := hW
  obtain ⟨p, q, hA0, hV, rfl, hfz, hnd⟩ := hW
  have hA : DataW.TrodAll enc Tryz.prog W 0 (fun _ => true) true Tryz.f5.params.toList args.toList ds p := hA0
  rw [Tryz.params5] at hA hval
  obtain ⟨v0, v1, d0, d1, p0, p1, rfl, rfl, rfl, h0, h1⟩ := trodAll_two hA
  obtain ⟨rfl, rfl⟩ := trodVars_none hV
  obtain ⟨a0, n0, c0, rfl⟩ := okWide_slice Tryz.underlying22 (hval 0 22 v0 rfl rfl)
  obtain ⟨l0, k0, r0⟩ := K.open_kints Tryz.underlying22 Tryz.underlying3 (by kernel_rfl) h0
  obtain ⟨a1, n1, c1, rfl⟩ := okWide_slice Tryz.underlying22 (hval 1 22 v1 rfl rfl)
  obtain ⟨l1, k1, r1⟩ := K.open_kints Tryz.underlying22 Tryz.underlying3 (by kernel_rfl) h1
  refine (K.law_edits (fun n h => K.inK_i64 (k0 n h)) (fun n h => K.inK_i64 (k1 n h)) r0 r1 W (K.St.all W)).mono fun e W1 hh => ?_
  obtain ⟨v, own1, H1, rfl, ⟨rfl, _, hle⟩, hst⟩ := hh
  exact ⟨_, rfl, K.law_post laid0 hW' rfl rfl rfl Tryz.underlying4 (by kernel_rfl) hst.os hst.output (fun k hk => by
    have e1 : W.heap[k]? = some W.heap[k] := by simp [hk]
    rw [e1]
    exact hst.imm k _ (hle k _ e1))⟩
end Row5
theorem row5_holds : Rows.DiffEditsSaid :=
  OpenClaim.holds_of_wide 5 Tryz.f5 rfl rfl rfl rfl rfl rfl rfl ⟨rfl, rfl, rfl, rfl, rfl⟩ rfl rfl rfl rfl rfl (by kernel_rfl) Tryz.func5 (by kernel_rfl)
    (of_decide_eq_true (by kernel_rfl)) (by unfold Func.isWrapper; first | (rw [if_pos (by decide +kernel)]; kernel_rfl) | (rw [if_neg (by decide +kernel)]; exact ⟨rfl, rfl⟩))
    (fun os started H enc _ => Row5.lifted os started H enc)
theorem edits_card : Rows.DiffEditsCardSaid :=
  Claim7.holds_tied_plain_at .later [] [.data, .data, .data] true (true, "c3a3d83251cddf20a06a1c1d7fbab972c92b014fa72253d1f7004ef94f10e88e") false
    row5_holds (fun _ h => by cases h) (by kernel_rfl) (fun _ h => by cases h) diffEdits_row_tie rfl ⟨rfl, rfl⟩ (by kernel_rfl) rfl
    (fun f fn hf hfn => by
      obtain rfl : f = 5 := Option.some.inj ((show Tryz.prog.funcNamed Rows.diffEditsRow.func = some 5 by kernel_rfl).symm.trans hf) |>.symm
      obtain rfl : fn = Tryz.f5 := (Option.some.inj (Tryz.func5.symm.trans hfn)).symm
      exact ⟨by kernel_rfl, fun j t ht => by
        rw [Tryz.params5] at ht
        have hm : t ∈ [22, 22] := by simpa using Array.mem_of_getElem? ht
        have hall : ([22, 22].all fun u => !Tryz.prog.wantsStandIn u) = true := by kernel_rfl
        exact (show Tryz.prog.wantsStandIn t = false by simpa using List.all_eq_true.1 hall t hm)⟩)
    (by kernel_rfl)
end Go.Proofs.YtaomdfcplamenaaGreatDoor
