/-
  Part 3 of 5 of the proof that seven laws of chapter 25 return true and leave their arguments as they were. No condition beyond the given statement.
-/
import Derived.Test.YteeamfkhkbfilaaGreatPkA2
set_option linter.unusedVariables false
set_option linter.unusedSimpArgs false
set_option linter.defProp false
set_option maxHeartbeats 4000000
namespace Go.Proofs.YteeamfkhkbfilaaGreat.K
open Go Go.RowKit Go.Proofs

theorem ref_same {f g : Fact} (hf : FOk f) (hg : FOk g) {w0 : World} {H : Hp} {own : List Seg} :
    Fn Tryz.prog 47 [.agg #[.int .i64 f.kind, .int .i64 f.bank, .int .u16 f.addr, .string f.text], .agg #[.int .i64 g.kind, .int .i64 g.bank, .int .u16 g.addr, .string g.text]] w0 H own (fun r own' H' => r = .bool (decide (f.key = g.key)) ∧ own' = own ∧ Le H H') := by
  obtain ⟨hf1, hf2, hf3, hf4⟩ := hf
  obtain ⟨hg1, hg2, hg3, hg4⟩ := hg
  refine Fn.enter Tryz.func47 rfl Tryz.ntmps47 rfl ?_; have hL := Le.refl H; refine TC.seq ?_; refine TC.region ?_
  refine TL.box (c := #[_, _, _, _]) rfl rfl rfl ?_; intro g2
  refine TL.box (c := #[_, _, _, _]) rfl rfl rfl ?_; intro g3; refine TL.assign rfl rfl ?_; refine TL.nsr ?_; refine TL.fieldAddr rfl rfl ?_; refine TL.load_own 1 0 rfl rfl rfl rfl rfl ?_; refine TL.fieldAddr rfl rfl ?_; refine TL.load_own 0 0 rfl rfl rfl rfl rfl ?_
  refine TL.eqlB rfl rfl rfl (fun ha => ?_) (fun ha => ?_)
  ·
   refine TL.move rfl rfl ?_; refine TL.gyes rfl rfl rfl ?_; refine TL.fieldAddr rfl rfl ?_; refine TL.gyes rfl rfl rfl ?_; refine TL.load_ownA 1 0 [_, _] rfl rfl rfl ⟨rfl, rfl, trivial⟩ rfl rfl ?_; refine TL.gyes rfl rfl rfl ?_; refine TL.fieldAddr rfl rfl ?_; refine TL.gyes rfl rfl rfl ?_; refine TL.load_ownA 0 0 [_, _] rfl rfl rfl ⟨rfl, rfl, trivial⟩ rfl rfl ?_; refine TL.gyes rfl rfl rfl ?_; refine TL.eqlPlace rfl rfl hf2 hf3 hg2 hg3 rfl ?_; refine TL.pickT rfl rfl rfl rfl ?_; refine TL.assign rfl rfl ?_; refine TL.nil ?_; refine TQ.then_n ?_; refine TC.ret ?_; refine TQ.ret1 2 rfl rfl ?_
   refine ⟨congrArg Value.bool ?_, rfl, hL⟩
   symm
   unfold Fact.key
   first
     | (rw [decide_eq_decide]; simp only [Prod.mk.injEq]; exact ⟨fun h => ⟨h.2.1, h.2.2⟩, fun h => ⟨ha, h.1, h.2⟩⟩)
     | (rw [decide_eq_false_iff_not]; simp only [Prod.mk.injEq]; exact fun h => ha h.1)
  ·
   refine TL.move rfl rfl ?_; refine TL.gno rfl rfl rfl rfl ?_; refine TL.gno rfl rfl rfl rfl ?_; refine TL.gno rfl rfl rfl rfl ?_; refine TL.gno rfl rfl rfl rfl ?_; refine TL.gno rfl rfl rfl rfl ?_; refine TL.pickF rfl rfl rfl rfl ?_; refine TL.assign rfl rfl ?_; refine TL.nil ?_; refine TQ.then_n ?_; refine TC.ret ?_; refine TQ.ret1 2 rfl rfl ?_
   refine ⟨congrArg Value.bool ?_, rfl, hL⟩
   symm
   unfold Fact.key
   first
     | (rw [decide_eq_decide]; simp only [Prod.mk.injEq]; exact ⟨fun h => ⟨h.2.1, h.2.2⟩, fun h => ⟨ha, h.1, h.2⟩⟩)
     | (rw [decide_eq_false_iff_not]; simp only [Prod.mk.injEq]; exact fun h => ha h.1)
theorem ref_before {f g : Fact} {w0 : World} {H : Hp} {own : List Seg} :
    Fn Tryz.prog 92 [.agg #[.int .i64 f.kind, .int .i64 f.bank, .int .u16 f.addr, .string f.text], .agg #[.int .i64 g.kind, .int .i64 g.bank, .int .u16 g.addr, .string g.text]] w0 H own (fun r own' H' => r = .bool (kb f.key g.key) ∧ own' = own ∧ Le H H') := by
  refine Fn.enter Tryz.func92 rfl Tryz.ntmps92 rfl ?_; have hL := Le.refl H; refine TC.seq ?_; refine TC.region ?_
  refine TL.box (c := #[_, _, _, _]) rfl rfl rfl ?_; intro g2
  refine TL.box (c := #[_, _, _, _]) rfl rfl rfl ?_; intro g3; refine TL.assign rfl rfl ?_; refine TL.nil ?_; refine TQ.then_n ?_; refine TC.seq ?_; refine TC.seq ?_; refine TC.region ?_; refine TL.fieldAddr rfl rfl ?_; refine TL.fieldAddr rfl rfl ?_; refine TL.load_own 1 0 rfl rfl rfl rfl rfl ?_; refine TL.fieldAddr rfl rfl ?_; refine TL.fieldAddr rfl rfl ?_; refine TL.load_own 0 0 rfl rfl rfl rfl rfl ?_
  refine TL.neqB rfl rfl rfl (fun hb => ?_) (fun hb => ?_)
  ·
   refine TL.nil ?_; refine TQ.then_n ?_; refine TC.cond_t rfl ?_; refine TC.seq ?_; refine TC.region ?_; refine TL.fieldAddr rfl rfl ?_; refine TL.fieldAddr rfl rfl ?_; refine TL.load_own 1 0 rfl rfl rfl rfl rfl ?_; refine TL.fieldAddr rfl rfl ?_; refine TL.fieldAddr rfl rfl ?_; refine TL.load_own 0 0 rfl rfl rfl rfl rfl ?_; refine TL.lss rfl rfl rfl ?_; refine TL.assign rfl rfl ?_; refine TL.nil ?_; refine TQ.then_n ?_; refine TC.ret ?_; refine TQ.then_r ?_; refine TQ.ret1 2 rfl rfl ?_
   refine ⟨congrArg Value.bool ?_, rfl, hL⟩
   symm
   unfold kb Fact.key
   first
     | (rw [if_pos hb]; done)
     | (rw [if_neg (by simpa using hb), if_pos ha]; done)
     | (rw [if_neg (by simpa using hb), if_neg (by simpa using ha)]; done)
  ·
   refine TL.nil ?_; refine TQ.then_n ?_; refine TC.cond_f rfl ?_; refine TC.skip ?_; refine TQ.then_n ?_; refine TC.seq ?_; refine TC.seq ?_; refine TC.region ?_; refine TL.fieldAddr rfl rfl ?_; refine TL.fieldAddr rfl rfl ?_; refine TL.load_own 1 0 rfl rfl rfl rfl rfl ?_; refine TL.fieldAddr rfl rfl ?_; refine TL.fieldAddr rfl rfl ?_; refine TL.load_own 0 0 rfl rfl rfl rfl rfl ?_
   refine TL.neqB rfl rfl rfl (fun ha => ?_) (fun ha => ?_)
   ·
    refine TL.nil ?_; refine TQ.then_n ?_; refine TC.cond_t rfl ?_; refine TC.seq ?_; refine TC.region ?_; refine TL.fieldAddr rfl rfl ?_; refine TL.fieldAddr rfl rfl ?_; refine TL.load_own 1 0 rfl rfl rfl rfl rfl ?_; refine TL.fieldAddr rfl rfl ?_; refine TL.fieldAddr rfl rfl ?_; refine TL.load_own 0 0 rfl rfl rfl rfl rfl ?_; refine TL.lss rfl rfl rfl ?_; refine TL.assign rfl rfl ?_; refine TL.nil ?_; refine TQ.then_n ?_; refine TC.ret ?_; refine TQ.then_r ?_; refine TQ.ret1 2 rfl rfl ?_
    refine ⟨congrArg Value.bool ?_, rfl, hL⟩
    symm
    unfold kb Fact.key
    first
      | (rw [if_pos hb]; done)
      | (rw [if_neg (by simpa using hb), if_pos ha]; done)
      | (rw [if_neg (by simpa using hb), if_neg (by simpa using ha)]; done)
   ·
    refine TL.nil ?_; refine TQ.then_n ?_; refine TC.cond_f rfl ?_; refine TC.skip ?_; refine TQ.nsr ?_; refine TL.fieldAddr rfl rfl ?_; refine TL.load_own 1 0 rfl rfl rfl rfl rfl ?_; refine TL.fieldAddr rfl rfl ?_; refine TL.load_own 0 0 rfl rfl rfl rfl rfl ?_; refine TL.lss rfl rfl rfl ?_; refine TL.assign rfl rfl ?_; refine TL.nil ?_; refine TQ.then_n ?_; refine TC.ret ?_; refine TQ.ret1 2 rfl rfl ?_
    refine ⟨congrArg Value.bool ?_, rfl, hL⟩
    symm
    unfold kb Fact.key
    first
      | (rw [if_pos hb]; done)
      | (rw [if_neg (by simpa using hb), if_pos ha]; done)
      | (rw [if_neg (by simpa using hb), if_neg (by simpa using ha)]; done)
theorem ref_Right {f : Fact} (hf : f.text.size ≤ 1000000) {w0 : World} {H : Hp} {own : List Seg} :
    Fn Tryz.prog 91 [.agg #[.int .i64 f.kind, .int .i64 f.bank, .int .u16 f.addr, .string f.text]] w0 H own (fun r own' H' => r = .bool (factR f) ∧ own' = own ∧ Le H H') := by
  refine Fn.enter Tryz.func91 rfl Tryz.ntmps91 rfl ?_; have hL := Le.refl H; refine TC.seq ?_; refine TC.region ?_
  refine TL.box (c := #[_, _, _, _]) rfl rfl rfl ?_; intro g1; refine TL.assign rfl rfl ?_; refine TL.nsr ?_; refine TL.fieldAddr rfl rfl ?_; refine TL.load_own 0 0 rfl rfl rfl rfl rfl ?_; refine TL.call (ref_IsName (by omega)) ⟨rfl, trivial⟩ rfl ?_
  rintro _ own H6 ⟨rfl, rfl, hle6⟩
  have hL := Le.trans hL hle6
  rcases hid : identN f.text with _ | _
  rotate_left
  ·
   refine TL.assign rfl rfl ?_; refine TL.nil ?_; refine TQ.then_n ?_; refine TC.seq ?_; refine TC.seq ?_; refine TC.region ?_; refine TL.fieldAddr rfl rfl ?_; refine TL.load_own 0 0 rfl rfl rfl rfl rfl ?_
   refine TL.eqlB rfl rfl rfl (fun hk => ?_) (fun hk => ?_)
   ·
    refine TL.move rfl rfl ?_; refine TL.gyes rfl rfl rfl ?_; refine TL.fieldAddr rfl rfl ?_; refine TL.gyes rfl rfl rfl ?_; refine TL.load_own 0 0 rfl rfl rfl rfl rfl ?_; refine TL.gyes rfl rfl rfl ?_
    refine TL.neqSB rfl rfl rfl (fun he => ?_) (fun he => ?_)
    ·
     refine TL.pickT rfl rfl rfl rfl ?_; refine TL.move rfl rfl ?_; refine TL.gyes rfl rfl rfl ?_; refine TL.move rfl rfl ?_; refine TL.gyes rfl rfl rfl ?_; refine TL.not rfl rfl ?_; refine TL.pickT rfl rfl rfl rfl ?_; refine TL.nil ?_; refine TQ.then_n ?_; refine TC.cond_f rfl ?_; refine TC.skip ?_; refine TQ.nsr ?_; refine TL.fieldAddr rfl rfl ?_; refine TL.load_own 0 0 rfl rfl rfl rfl rfl ?_
     refine TL.geqB rfl rfl rfl (fun h1 => ?_) (fun h1 => ?_)
     ·
      refine TL.move rfl rfl ?_; refine TL.gyes rfl rfl rfl ?_; refine TL.fieldAddr rfl rfl ?_; refine TL.gyes rfl rfl rfl ?_; refine TL.load_own 0 0 rfl rfl rfl rfl rfl ?_; refine TL.gyes rfl rfl rfl ?_
      refine TL.leqB rfl rfl rfl (fun h2 => ?_) (fun h2 => ?_)
      ·
       refine TL.pickT rfl rfl rfl rfl ?_; refine TL.move rfl rfl ?_; refine TL.gyes rfl rfl rfl ?_; refine TL.fieldAddr rfl rfl ?_; refine TL.gyes rfl rfl rfl ?_; refine TL.fieldAddr rfl rfl ?_; refine TL.gyes rfl rfl rfl ?_; refine TL.load_own 0 0 rfl rfl rfl rfl rfl ?_; refine TL.gyes rfl rfl rfl ?_
       refine TL.geqB rfl rfl rfl (fun h3 => ?_) (fun h3 => ?_)
       ·
        refine TL.pickT rfl rfl rfl rfl ?_; refine TL.move rfl rfl ?_; refine TL.gyes rfl rfl rfl ?_; refine TL.fieldAddr rfl rfl ?_; refine TL.gyes rfl rfl rfl ?_; refine TL.fieldAddr rfl rfl ?_; refine TL.gyes rfl rfl rfl ?_; refine TL.load_own 0 0 rfl rfl rfl rfl rfl ?_; refine TL.gyes rfl rfl rfl ?_
        refine TL.leqB rfl rfl rfl (fun h4 => ?_) (fun h4 => ?_)
        ·
         refine TL.pickT rfl rfl rfl rfl ?_; refine TL.move rfl rfl ?_; refine TL.gyes rfl rfl rfl ?_; refine TL.fieldAddr rfl rfl ?_; refine TL.gyes rfl rfl rfl ?_; refine TL.load_own 0 0 rfl rfl rfl rfl rfl ?_; refine TL.gyes rfl rfl rfl ?_; refine TL.len_string rfl rfl ?_; refine TL.gyes rfl rfl rfl ?_
         refine TL.leqB rfl rfl rfl (fun h5 => ?_) (fun h5 => ?_)
         ·
          refine TL.pickT rfl rfl rfl rfl ?_; refine TL.assign rfl rfl ?_; refine TL.nil ?_; refine TQ.then_n ?_; refine TC.ret ?_; refine TQ.ret1 1 rfl rfl ?_
          refine ⟨congrArg Value.bool ?_, rfl, hL⟩
          symm
          first
            | exact factR_k1 (by omega)
            | exact factR_k2 (by omega)
            | exact factR_b1 (by omega)
            | exact factR_b2 (by omega)
            | exact factR_t (by omega)
            | exact factR_n (by omega) he hid
            | exact factR_ok (by omega) (by omega) (by omega) (by omega) (by omega) (by first | exact .inl (by omega) | exact .inr (.inl he) | exact .inr (.inr hid))
         ·
          refine TL.pickT rfl rfl rfl rfl ?_; refine TL.assign rfl rfl ?_; refine TL.nil ?_; refine TQ.then_n ?_; refine TC.ret ?_; refine TQ.ret1 1 rfl rfl ?_
          refine ⟨congrArg Value.bool ?_, rfl, hL⟩
          symm
          first
            | exact factR_k1 (by omega)
            | exact factR_k2 (by omega)
            | exact factR_b1 (by omega)
            | exact factR_b2 (by omega)
            | exact factR_t (by omega)
            | exact factR_n (by omega) he hid
            | exact factR_ok (by omega) (by omega) (by omega) (by omega) (by omega) (by first | exact .inl (by omega) | exact .inr (.inl he) | exact .inr (.inr hid))
        ·
         refine TL.pickT rfl rfl rfl rfl ?_; refine TL.move rfl rfl ?_; refine TL.gno rfl rfl rfl rfl ?_; refine TL.gno rfl rfl rfl rfl ?_; refine TL.gno rfl rfl rfl rfl ?_; refine TL.gno rfl rfl rfl rfl ?_; refine TL.pickF rfl rfl rfl rfl ?_; refine TL.assign rfl rfl ?_; refine TL.nil ?_; refine TQ.then_n ?_; refine TC.ret ?_; refine TQ.ret1 1 rfl rfl ?_
         refine ⟨congrArg Value.bool ?_, rfl, hL⟩
         symm
         first
           | exact factR_k1 (by omega)
           | exact factR_k2 (by omega)
           | exact factR_b1 (by omega)
           | exact factR_b2 (by omega)
           | exact factR_t (by omega)
           | exact factR_n (by omega) he hid
           | exact factR_ok (by omega) (by omega) (by omega) (by omega) (by omega) (by first | exact .inl (by omega) | exact .inr (.inl he) | exact .inr (.inr hid))
       ·
        refine TL.pickT rfl rfl rfl rfl ?_; refine TL.move rfl rfl ?_; refine TL.gno rfl rfl rfl rfl ?_; refine TL.gno rfl rfl rfl rfl ?_; refine TL.gno rfl rfl rfl rfl ?_; refine TL.gno rfl rfl rfl rfl ?_; refine TL.pickF rfl rfl rfl rfl ?_; refine TL.move rfl rfl ?_; refine TL.gno rfl rfl rfl rfl ?_; refine TL.gno rfl rfl rfl rfl ?_; refine TL.gno rfl rfl rfl rfl ?_; refine TL.gno rfl rfl rfl rfl ?_; refine TL.pickF rfl rfl rfl rfl ?_; refine TL.assign rfl rfl ?_; refine TL.nil ?_; refine TQ.then_n ?_; refine TC.ret ?_; refine TQ.ret1 1 rfl rfl ?_
        refine ⟨congrArg Value.bool ?_, rfl, hL⟩
        symm
        first
          | exact factR_k1 (by omega)
          | exact factR_k2 (by omega)
          | exact factR_b1 (by omega)
          | exact factR_b2 (by omega)
          | exact factR_t (by omega)
          | exact factR_n (by omega) he hid
          | exact factR_ok (by omega) (by omega) (by omega) (by omega) (by omega) (by first | exact .inl (by omega) | exact .inr (.inl he) | exact .inr (.inr hid))
      ·
       refine TL.pickT rfl rfl rfl rfl ?_; refine TL.move rfl rfl ?_; refine TL.gno rfl rfl rfl rfl ?_; refine TL.gno rfl rfl rfl rfl ?_; refine TL.gno rfl rfl rfl rfl ?_; refine TL.gno rfl rfl rfl rfl ?_; refine TL.pickF rfl rfl rfl rfl ?_; refine TL.move rfl rfl ?_; refine TL.gno rfl rfl rfl rfl ?_; refine TL.gno rfl rfl rfl rfl ?_; refine TL.gno rfl rfl rfl rfl ?_; refine TL.gno rfl rfl rfl rfl ?_; refine TL.pickF rfl rfl rfl rfl ?_; refine TL.move rfl rfl ?_; refine TL.gno rfl rfl rfl rfl ?_; refine TL.gno rfl rfl rfl rfl ?_; refine TL.gno rfl rfl rfl rfl ?_; refine TL.gno rfl rfl rfl rfl ?_; refine TL.pickF rfl rfl rfl rfl ?_; refine TL.assign rfl rfl ?_; refine TL.nil ?_; refine TQ.then_n ?_; refine TC.ret ?_; refine TQ.ret1 1 rfl rfl ?_
       refine ⟨congrArg Value.bool ?_, rfl, hL⟩
       symm
       first
         | exact factR_k1 (by omega)
         | exact factR_k2 (by omega)
         | exact factR_b1 (by omega)
         | exact factR_b2 (by omega)
         | exact factR_t (by omega)
         | exact factR_n (by omega) he hid
         | exact factR_ok (by omega) (by omega) (by omega) (by omega) (by omega) (by first | exact .inl (by omega) | exact .inr (.inl he) | exact .inr (.inr hid))
     ·
      refine TL.move rfl rfl ?_; refine TL.gno rfl rfl rfl rfl ?_; refine TL.gno rfl rfl rfl rfl ?_; refine TL.gno rfl rfl rfl rfl ?_; refine TL.pickF rfl rfl rfl rfl ?_; refine TL.move rfl rfl ?_; refine TL.gno rfl rfl rfl rfl ?_; refine TL.gno rfl rfl rfl rfl ?_; refine TL.gno rfl rfl rfl rfl ?_; refine TL.gno rfl rfl rfl rfl ?_; refine TL.pickF rfl rfl rfl rfl ?_; refine TL.move rfl rfl ?_; refine TL.gno rfl rfl rfl rfl ?_; refine TL.gno rfl rfl rfl rfl ?_; refine TL.gno rfl rfl rfl rfl ?_; refine TL.gno rfl rfl rfl rfl ?_; refine TL.pickF rfl rfl rfl rfl ?_; refine TL.move rfl rfl ?_; refine TL.gno rfl rfl rfl rfl ?_; refine TL.gno rfl rfl rfl rfl ?_; refine TL.gno rfl rfl rfl rfl ?_; refine TL.gno rfl rfl rfl rfl ?_; refine TL.pickF rfl rfl rfl rfl ?_; refine TL.assign rfl rfl ?_; refine TL.nil ?_; refine TQ.then_n ?_; refine TC.ret ?_; refine TQ.ret1 1 rfl rfl ?_
      refine ⟨congrArg Value.bool ?_, rfl, hL⟩
      symm
      first
        | exact factR_k1 (by omega)
        | exact factR_k2 (by omega)
        | exact factR_b1 (by omega)
        | exact factR_b2 (by omega)
        | exact factR_t (by omega)
        | exact factR_n (by omega) he hid
        | exact factR_ok (by omega) (by omega) (by omega) (by omega) (by omega) (by first | exact .inl (by omega) | exact .inr (.inl he) | exact .inr (.inr hid))
    ·
     refine TL.pickT rfl rfl rfl rfl ?_; refine TL.move rfl rfl ?_; refine TL.gno rfl rfl rfl rfl ?_; refine TL.gno rfl rfl rfl rfl ?_; refine TL.pickF rfl rfl rfl rfl ?_; refine TL.nil ?_; refine TQ.then_n ?_; refine TC.cond_f rfl ?_; refine TC.skip ?_; refine TQ.nsr ?_; refine TL.fieldAddr rfl rfl ?_; refine TL.load_own 0 0 rfl rfl rfl rfl rfl ?_
     refine TL.geqB rfl rfl rfl (fun h1 => ?_) (fun h1 => ?_)
     ·
      refine TL.move rfl rfl ?_; refine TL.gyes rfl rfl rfl ?_; refine TL.fieldAddr rfl rfl ?_; refine TL.gyes rfl rfl rfl ?_; refine TL.load_own 0 0 rfl rfl rfl rfl rfl ?_; refine TL.gyes rfl rfl rfl ?_
      refine TL.leqB rfl rfl rfl (fun h2 => ?_) (fun h2 => ?_)
      ·
       refine TL.pickT rfl rfl rfl rfl ?_; refine TL.move rfl rfl ?_; refine TL.gyes rfl rfl rfl ?_; refine TL.fieldAddr rfl rfl ?_; refine TL.gyes rfl rfl rfl ?_; refine TL.fieldAddr rfl rfl ?_; refine TL.gyes rfl rfl rfl ?_; refine TL.load_own 0 0 rfl rfl rfl rfl rfl ?_; refine TL.gyes rfl rfl rfl ?_
       refine TL.geqB rfl rfl rfl (fun h3 => ?_) (fun h3 => ?_)
       ·
        refine TL.pickT rfl rfl rfl rfl ?_; refine TL.move rfl rfl ?_; refine TL.gyes rfl rfl rfl ?_; refine TL.fieldAddr rfl rfl ?_; refine TL.gyes rfl rfl rfl ?_; refine TL.fieldAddr rfl rfl ?_; refine TL.gyes rfl rfl rfl ?_; refine TL.load_own 0 0 rfl rfl rfl rfl rfl ?_; refine TL.gyes rfl rfl rfl ?_
        refine TL.leqB rfl rfl rfl (fun h4 => ?_) (fun h4 => ?_)
        ·
         refine TL.pickT rfl rfl rfl rfl ?_; refine TL.move rfl rfl ?_; refine TL.gyes rfl rfl rfl ?_; refine TL.fieldAddr rfl rfl ?_; refine TL.gyes rfl rfl rfl ?_; refine TL.load_own 0 0 rfl rfl rfl rfl rfl ?_; refine TL.gyes rfl rfl rfl ?_; refine TL.len_string rfl rfl ?_; refine TL.gyes rfl rfl rfl ?_
         refine TL.leqB rfl rfl rfl (fun h5 => ?_) (fun h5 => ?_)
         ·
          refine TL.pickT rfl rfl rfl rfl ?_; refine TL.assign rfl rfl ?_; refine TL.nil ?_; refine TQ.then_n ?_; refine TC.ret ?_; refine TQ.ret1 1 rfl rfl ?_
          refine ⟨congrArg Value.bool ?_, rfl, hL⟩
          symm
          first
            | exact factR_k1 (by omega)
            | exact factR_k2 (by omega)
            | exact factR_b1 (by omega)
            | exact factR_b2 (by omega)
            | exact factR_t (by omega)
            | exact factR_n (by omega) he hid
            | exact factR_ok (by omega) (by omega) (by omega) (by omega) (by omega) (by first | exact .inl (by omega) | exact .inr (.inl he) | exact .inr (.inr hid))
         ·
          refine TL.pickT rfl rfl rfl rfl ?_; refine TL.assign rfl rfl ?_; refine TL.nil ?_; refine TQ.then_n ?_; refine TC.ret ?_; refine TQ.ret1 1 rfl rfl ?_
          refine ⟨congrArg Value.bool ?_, rfl, hL⟩
          symm
          first
            | exact factR_k1 (by omega)
            | exact factR_k2 (by omega)
            | exact factR_b1 (by omega)
            | exact factR_b2 (by omega)
            | exact factR_t (by omega)
            | exact factR_n (by omega) he hid
            | exact factR_ok (by omega) (by omega) (by omega) (by omega) (by omega) (by first | exact .inl (by omega) | exact .inr (.inl he) | exact .inr (.inr hid))
        ·
         refine TL.pickT rfl rfl rfl rfl ?_; refine TL.move rfl rfl ?_; refine TL.gno rfl rfl rfl rfl ?_; refine TL.gno rfl rfl rfl rfl ?_; refine TL.gno rfl rfl rfl rfl ?_; refine TL.gno rfl rfl rfl rfl ?_; refine TL.pickF rfl rfl rfl rfl ?_; refine TL.assign rfl rfl ?_; refine TL.nil ?_; refine TQ.then_n ?_; refine TC.ret ?_; refine TQ.ret1 1 rfl rfl ?_
         refine ⟨congrArg Value.bool ?_, rfl, hL⟩
         symm
         first
           | exact factR_k1 (by omega)
           | exact factR_k2 (by omega)
           | exact factR_b1 (by omega)
           | exact factR_b2 (by omega)
           | exact factR_t (by omega)
           | exact factR_n (by omega) he hid
           | exact factR_ok (by omega) (by omega) (by omega) (by omega) (by omega) (by first | exact .inl (by omega) | exact .inr (.inl he) | exact .inr (.inr hid))
       ·
        refine TL.pickT rfl rfl rfl rfl ?_; refine TL.move rfl rfl ?_; refine TL.gno rfl rfl rfl rfl ?_; refine TL.gno rfl rfl rfl rfl ?_; refine TL.gno rfl rfl rfl rfl ?_; refine TL.gno rfl rfl rfl rfl ?_; refine TL.pickF rfl rfl rfl rfl ?_; refine TL.move rfl rfl ?_; refine TL.gno rfl rfl rfl rfl ?_; refine TL.gno rfl rfl rfl rfl ?_; refine TL.gno rfl rfl rfl rfl ?_; refine TL.gno rfl rfl rfl rfl ?_; refine TL.pickF rfl rfl rfl rfl ?_; refine TL.assign rfl rfl ?_; refine TL.nil ?_; refine TQ.then_n ?_; refine TC.ret ?_; refine TQ.ret1 1 rfl rfl ?_
        refine ⟨congrArg Value.bool ?_, rfl, hL⟩
        symm
        first
          | exact factR_k1 (by omega)
          | exact factR_k2 (by omega)
          | exact factR_b1 (by omega)
          | exact factR_b2 (by omega)
          | exact factR_t (by omega)
          | exact factR_n (by omega) he hid
          | exact factR_ok (by omega) (by omega) (by omega) (by omega) (by omega) (by first | exact .inl (by omega) | exact .inr (.inl he) | exact .inr (.inr hid))
      ·
       refine TL.pickT rfl rfl rfl rfl ?_; refine TL.move rfl rfl ?_; refine TL.gno rfl rfl rfl rfl ?_; refine TL.gno rfl rfl rfl rfl ?_; refine TL.gno rfl rfl rfl rfl ?_; refine TL.gno rfl rfl rfl rfl ?_; refine TL.pickF rfl rfl rfl rfl ?_; refine TL.move rfl rfl ?_; refine TL.gno rfl rfl rfl rfl ?_; refine TL.gno rfl rfl rfl rfl ?_; refine TL.gno rfl rfl rfl rfl ?_; refine TL.gno rfl rfl rfl rfl ?_; refine TL.pickF rfl rfl rfl rfl ?_; refine TL.move rfl rfl ?_; refine TL.gno rfl rfl rfl rfl ?_; refine TL.gno rfl rfl rfl rfl ?_; refine TL.gno rfl rfl rfl rfl ?_; refine TL.gno rfl rfl rfl rfl ?_; refine TL.pickF rfl rfl rfl rfl ?_; refine TL.assign rfl rfl ?_; refine TL.nil ?_; refine TQ.then_n ?_; refine TC.ret ?_; refine TQ.ret1 1 rfl rfl ?_
       refine ⟨congrArg Value.bool ?_, rfl, hL⟩
       symm
       first
         | exact factR_k1 (by omega)
         | exact factR_k2 (by omega)
         | exact factR_b1 (by omega)
         | exact factR_b2 (by omega)
         | exact factR_t (by omega)
         | exact factR_n (by omega) he hid
         | exact factR_ok (by omega) (by omega) (by omega) (by omega) (by omega) (by first | exact .inl (by omega) | exact .inr (.inl he) | exact .inr (.inr hid))
     ·
      refine TL.move rfl rfl ?_; refine TL.gno rfl rfl rfl rfl ?_; refine TL.gno rfl rfl rfl rfl ?_; refine TL.gno rfl rfl rfl rfl ?_; refine TL.pickF rfl rfl rfl rfl ?_; refine TL.move rfl rfl ?_; refine TL.gno rfl rfl rfl rfl ?_; refine TL.gno rfl rfl rfl rfl ?_; refine TL.gno rfl rfl rfl rfl ?_; refine TL.gno rfl rfl rfl rfl ?_; refine TL.pickF rfl rfl rfl rfl ?_; refine TL.move rfl rfl ?_; refine TL.gno rfl rfl rfl rfl ?_; refine TL.gno rfl rfl rfl rfl ?_; refine TL.gno rfl rfl rfl rfl ?_; refine TL.gno rfl rfl rfl rfl ?_; refine TL.pickF rfl rfl rfl rfl ?_; refine TL.move rfl rfl ?_; refine TL.gno rfl rfl rfl rfl ?_; refine TL.gno rfl rfl rfl rfl ?_; refine TL.gno rfl rfl rfl rfl ?_; refine TL.gno rfl rfl rfl rfl ?_; refine TL.pickF rfl rfl rfl rfl ?_; refine TL.assign rfl rfl ?_; refine TL.nil ?_; refine TQ.then_n ?_; refine TC.ret ?_; refine TQ.ret1 1 rfl rfl ?_
      refine ⟨congrArg Value.bool ?_, rfl, hL⟩
      symm
      first
        | exact factR_k1 (by omega)
        | exact factR_k2 (by omega)
        | exact factR_b1 (by omega)
        | exact factR_b2 (by omega)
        | exact factR_t (by omega)
        | exact factR_n (by omega) he hid
        | exact factR_ok (by omega) (by omega) (by omega) (by omega) (by omega) (by first | exact .inl (by omega) | exact .inr (.inl he) | exact .inr (.inr hid))
   ·
    refine TL.move rfl rfl ?_; refine TL.gno rfl rfl rfl rfl ?_; refine TL.gno rfl rfl rfl rfl ?_; refine TL.gno rfl rfl rfl rfl ?_; refine TL.pickF rfl rfl rfl rfl ?_; refine TL.move rfl rfl ?_; refine TL.gno rfl rfl rfl rfl ?_; refine TL.gno rfl rfl rfl rfl ?_; refine TL.pickF rfl rfl rfl rfl ?_; refine TL.nil ?_; refine TQ.then_n ?_; refine TC.cond_f rfl ?_; refine TC.skip ?_; refine TQ.nsr ?_; refine TL.fieldAddr rfl rfl ?_; refine TL.load_own 0 0 rfl rfl rfl rfl rfl ?_
    refine TL.geqB rfl rfl rfl (fun h1 => ?_) (fun h1 => ?_)
    ·
     refine TL.move rfl rfl ?_; refine TL.gyes rfl rfl rfl ?_; refine TL.fieldAddr rfl rfl ?_; refine TL.gyes rfl rfl rfl ?_; refine TL.load_own 0 0 rfl rfl rfl rfl rfl ?_; refine TL.gyes rfl rfl rfl ?_
     refine TL.leqB rfl rfl rfl (fun h2 => ?_) (fun h2 => ?_)
     ·
      refine TL.pickT rfl rfl rfl rfl ?_; refine TL.move rfl rfl ?_; refine TL.gyes rfl rfl rfl ?_; refine TL.fieldAddr rfl rfl ?_; refine TL.gyes rfl rfl rfl ?_; refine TL.fieldAddr rfl rfl ?_; refine TL.gyes rfl rfl rfl ?_; refine TL.load_own 0 0 rfl rfl rfl rfl rfl ?_; refine TL.gyes rfl rfl rfl ?_
      refine TL.geqB rfl rfl rfl (fun h3 => ?_) (fun h3 => ?_)
      ·
       refine TL.pickT rfl rfl rfl rfl ?_; refine TL.move rfl rfl ?_; refine TL.gyes rfl rfl rfl ?_; refine TL.fieldAddr rfl rfl ?_; refine TL.gyes rfl rfl rfl ?_; refine TL.fieldAddr rfl rfl ?_; refine TL.gyes rfl rfl rfl ?_; refine TL.load_own 0 0 rfl rfl rfl rfl rfl ?_; refine TL.gyes rfl rfl rfl ?_
       refine TL.leqB rfl rfl rfl (fun h4 => ?_) (fun h4 => ?_)
       ·
        refine TL.pickT rfl rfl rfl rfl ?_; refine TL.move rfl rfl ?_; refine TL.gyes rfl rfl rfl ?_; refine TL.fieldAddr rfl rfl ?_; refine TL.gyes rfl rfl rfl ?_; refine TL.load_own 0 0 rfl rfl rfl rfl rfl ?_; refine TL.gyes rfl rfl rfl ?_; refine TL.len_string rfl rfl ?_; refine TL.gyes rfl rfl rfl ?_
        refine TL.leqB rfl rfl rfl (fun h5 => ?_) (fun h5 => ?_)
        ·
         refine TL.pickT rfl rfl rfl rfl ?_; refine TL.assign rfl rfl ?_; refine TL.nil ?_; refine TQ.then_n ?_; refine TC.ret ?_; refine TQ.ret1 1 rfl rfl ?_
         refine ⟨congrArg Value.bool ?_, rfl, hL⟩
         symm
         first
           | exact factR_k1 (by omega)
           | exact factR_k2 (by omega)
           | exact factR_b1 (by omega)
           | exact factR_b2 (by omega)
           | exact factR_t (by omega)
           | exact factR_n (by omega) he hid
           | exact factR_ok (by omega) (by omega) (by omega) (by omega) (by omega) (by first | exact .inl (by omega) | exact .inr (.inl he) | exact .inr (.inr hid))
        ·
         refine TL.pickT rfl rfl rfl rfl ?_; refine TL.assign rfl rfl ?_; refine TL.nil ?_; refine TQ.then_n ?_; refine TC.ret ?_; refine TQ.ret1 1 rfl rfl ?_
         refine ⟨congrArg Value.bool ?_, rfl, hL⟩
         symm
         first
           | exact factR_k1 (by omega)
           | exact factR_k2 (by omega)
           | exact factR_b1 (by omega)
           | exact factR_b2 (by omega)
           | exact factR_t (by omega)
           | exact factR_n (by omega) he hid
           | exact factR_ok (by omega) (by omega) (by omega) (by omega) (by omega) (by first | exact .inl (by omega) | exact .inr (.inl he) | exact .inr (.inr hid))
       ·
        refine TL.pickT rfl rfl rfl rfl ?_; refine TL.move rfl rfl ?_; refine TL.gno rfl rfl rfl rfl ?_; refine TL.gno rfl rfl rfl rfl ?_; refine TL.gno rfl rfl rfl rfl ?_; refine TL.gno rfl rfl rfl rfl ?_; refine TL.pickF rfl rfl rfl rfl ?_; refine TL.assign rfl rfl ?_; refine TL.nil ?_; refine TQ.then_n ?_; refine TC.ret ?_; refine TQ.ret1 1 rfl rfl ?_
        refine ⟨congrArg Value.bool ?_, rfl, hL⟩
        symm
        first
          | exact factR_k1 (by omega)
          | exact factR_k2 (by omega)
          | exact factR_b1 (by omega)
          | exact factR_b2 (by omega)
          | exact factR_t (by omega)
          | exact factR_n (by omega) he hid
          | exact factR_ok (by omega) (by omega) (by omega) (by omega) (by omega) (by first | exact .inl (by omega) | exact .inr (.inl he) | exact .inr (.inr hid))
      ·
       refine TL.pickT rfl rfl rfl rfl ?_; refine TL.move rfl rfl ?_; refine TL.gno rfl rfl rfl rfl ?_; refine TL.gno rfl rfl rfl rfl ?_; refine TL.gno rfl rfl rfl rfl ?_; refine TL.gno rfl rfl rfl rfl ?_; refine TL.pickF rfl rfl rfl rfl ?_; refine TL.move rfl rfl ?_; refine TL.gno rfl rfl rfl rfl ?_; refine TL.gno rfl rfl rfl rfl ?_; refine TL.gno rfl rfl rfl rfl ?_; refine TL.gno rfl rfl rfl rfl ?_; refine TL.pickF rfl rfl rfl rfl ?_; refine TL.assign rfl rfl ?_; refine TL.nil ?_; refine TQ.then_n ?_; refine TC.ret ?_; refine TQ.ret1 1 rfl rfl ?_
       refine ⟨congrArg Value.bool ?_, rfl, hL⟩
       symm
       first
         | exact factR_k1 (by omega)
         | exact factR_k2 (by omega)
         | exact factR_b1 (by omega)
         | exact factR_b2 (by omega)
         | exact factR_t (by omega)
         | exact factR_n (by omega) he hid
         | exact factR_ok (by omega) (by omega) (by omega) (by omega) (by omega) (by first | exact .inl (by omega) | exact .inr (.inl he) | exact .inr (.inr hid))
     ·
      refine TL.pickT rfl rfl rfl rfl ?_; refine TL.move rfl rfl ?_; refine TL.gno rfl rfl rfl rfl ?_; refine TL.gno rfl rfl rfl rfl ?_; refine TL.gno rfl rfl rfl rfl ?_; refine TL.gno rfl rfl rfl rfl ?_; refine TL.pickF rfl rfl rfl rfl ?_; refine TL.move rfl rfl ?_; refine TL.gno rfl rfl rfl rfl ?_; refine TL.gno rfl rfl rfl rfl ?_; refine TL.gno rfl rfl rfl rfl ?_; refine TL.gno rfl rfl rfl rfl ?_; refine TL.pickF rfl rfl rfl rfl ?_; refine TL.move rfl rfl ?_; refine TL.gno rfl rfl rfl rfl ?_; refine TL.gno rfl rfl rfl rfl ?_; refine TL.gno rfl rfl rfl rfl ?_; refine TL.gno rfl rfl rfl rfl ?_; refine TL.pickF rfl rfl rfl rfl ?_; refine TL.assign rfl rfl ?_; refine TL.nil ?_; refine TQ.then_n ?_; refine TC.ret ?_; refine TQ.ret1 1 rfl rfl ?_
      refine ⟨congrArg Value.bool ?_, rfl, hL⟩
      symm
      first
        | exact factR_k1 (by omega)
        | exact factR_k2 (by omega)
        | exact factR_b1 (by omega)
        | exact factR_b2 (by omega)
        | exact factR_t (by omega)
        | exact factR_n (by omega) he hid
        | exact factR_ok (by omega) (by omega) (by omega) (by omega) (by omega) (by first | exact .inl (by omega) | exact .inr (.inl he) | exact .inr (.inr hid))
    ·
     refine TL.move rfl rfl ?_; refine TL.gno rfl rfl rfl rfl ?_; refine TL.gno rfl rfl rfl rfl ?_; refine TL.gno rfl rfl rfl rfl ?_; refine TL.pickF rfl rfl rfl rfl ?_; refine TL.move rfl rfl ?_; refine TL.gno rfl rfl rfl rfl ?_; refine TL.gno rfl rfl rfl rfl ?_; refine TL.gno rfl rfl rfl rfl ?_; refine TL.gno rfl rfl rfl rfl ?_; refine TL.pickF rfl rfl rfl rfl ?_; refine TL.move rfl rfl ?_; refine TL.gno rfl rfl rfl rfl ?_; refine TL.gno rfl rfl rfl rfl ?_; refine TL.gno rfl rfl rfl rfl ?_; refine TL.gno rfl rfl rfl rfl ?_; refine TL.pickF rfl rfl rfl rfl ?_; refine TL.move rfl rfl ?_; refine TL.gno rfl rfl rfl rfl ?_; refine TL.gno rfl rfl rfl rfl ?_; refine TL.gno rfl rfl rfl rfl ?_; refine TL.gno rfl rfl rfl rfl ?_; refine TL.pickF rfl rfl rfl rfl ?_; refine TL.assign rfl rfl ?_; refine TL.nil ?_; refine TQ.then_n ?_; refine TC.ret ?_; refine TQ.ret1 1 rfl rfl ?_
     refine ⟨congrArg Value.bool ?_, rfl, hL⟩
     symm
     first
       | exact factR_k1 (by omega)
       | exact factR_k2 (by omega)
       | exact factR_b1 (by omega)
       | exact factR_b2 (by omega)
       | exact factR_t (by omega)
       | exact factR_n (by omega) he hid
       | exact factR_ok (by omega) (by omega) (by omega) (by omega) (by omega) (by first | exact .inl (by omega) | exact .inr (.inl he) | exact .inr (.inr hid))
  ·
   refine TL.assign rfl rfl ?_; refine TL.nil ?_; refine TQ.then_n ?_; refine TC.seq ?_; refine TC.seq ?_; refine TC.region ?_; refine TL.fieldAddr rfl rfl ?_; refine TL.load_own 0 0 rfl rfl rfl rfl rfl ?_
   refine TL.eqlB rfl rfl rfl (fun hk => ?_) (fun hk => ?_)
   ·
    refine TL.move rfl rfl ?_; refine TL.gyes rfl rfl rfl ?_; refine TL.fieldAddr rfl rfl ?_; refine TL.gyes rfl rfl rfl ?_; refine TL.load_own 0 0 rfl rfl rfl rfl rfl ?_; refine TL.gyes rfl rfl rfl ?_
    refine TL.neqSB rfl rfl rfl (fun he => ?_) (fun he => ?_)
    ·
     refine TL.pickT rfl rfl rfl rfl ?_; refine TL.move rfl rfl ?_; refine TL.gyes rfl rfl rfl ?_; refine TL.move rfl rfl ?_; refine TL.gyes rfl rfl rfl ?_; refine TL.not rfl rfl ?_; refine TL.pickT rfl rfl rfl rfl ?_; refine TL.nil ?_; refine TQ.then_n ?_; refine TC.cond_t rfl ?_; refine TC.seq ?_; refine TC.region ?_; refine TL.assign rfl rfl ?_; refine TL.nil ?_; refine TQ.then_n ?_; refine TC.ret ?_; refine TQ.then_r ?_; refine TQ.ret1 1 rfl rfl ?_
     refine ⟨congrArg Value.bool ?_, rfl, hL⟩
     symm
     first
       | exact factR_k1 (by omega)
       | exact factR_k2 (by omega)
       | exact factR_b1 (by omega)
       | exact factR_b2 (by omega)
       | exact factR_t (by omega)
       | exact factR_n (by omega) he hid
       | exact factR_ok (by omega) (by omega) (by omega) (by omega) (by omega) (by first | exact .inl (by omega) | exact .inr (.inl he) | exact .inr (.inr hid))
    ·
     refine TL.pickT rfl rfl rfl rfl ?_; refine TL.move rfl rfl ?_; refine TL.gno rfl rfl rfl rfl ?_; refine TL.gno rfl rfl rfl rfl ?_; refine TL.pickF rfl rfl rfl rfl ?_; refine TL.nil ?_; refine TQ.then_n ?_; refine TC.cond_f rfl ?_; refine TC.skip ?_; refine TQ.nsr ?_; refine TL.fieldAddr rfl rfl ?_; refine TL.load_own 0 0 rfl rfl rfl rfl rfl ?_
     refine TL.geqB rfl rfl rfl (fun h1 => ?_) (fun h1 => ?_)
     ·
      refine TL.move rfl rfl ?_; refine TL.gyes rfl rfl rfl ?_; refine TL.fieldAddr rfl rfl ?_; refine TL.gyes rfl rfl rfl ?_; refine TL.load_own 0 0 rfl rfl rfl rfl rfl ?_; refine TL.gyes rfl rfl rfl ?_
      refine TL.leqB rfl rfl rfl (fun h2 => ?_) (fun h2 => ?_)
      ·
       refine TL.pickT rfl rfl rfl rfl ?_; refine TL.move rfl rfl ?_; refine TL.gyes rfl rfl rfl ?_; refine TL.fieldAddr rfl rfl ?_; refine TL.gyes rfl rfl rfl ?_; refine TL.fieldAddr rfl rfl ?_; refine TL.gyes rfl rfl rfl ?_; refine TL.load_own 0 0 rfl rfl rfl rfl rfl ?_; refine TL.gyes rfl rfl rfl ?_
       refine TL.geqB rfl rfl rfl (fun h3 => ?_) (fun h3 => ?_)
       ·
        refine TL.pickT rfl rfl rfl rfl ?_; refine TL.move rfl rfl ?_; refine TL.gyes rfl rfl rfl ?_; refine TL.fieldAddr rfl rfl ?_; refine TL.gyes rfl rfl rfl ?_; refine TL.fieldAddr rfl rfl ?_; refine TL.gyes rfl rfl rfl ?_; refine TL.load_own 0 0 rfl rfl rfl rfl rfl ?_; refine TL.gyes rfl rfl rfl ?_
        refine TL.leqB rfl rfl rfl (fun h4 => ?_) (fun h4 => ?_)
        ·
         refine TL.pickT rfl rfl rfl rfl ?_; refine TL.move rfl rfl ?_; refine TL.gyes rfl rfl rfl ?_; refine TL.fieldAddr rfl rfl ?_; refine TL.gyes rfl rfl rfl ?_; refine TL.load_own 0 0 rfl rfl rfl rfl rfl ?_; refine TL.gyes rfl rfl rfl ?_; refine TL.len_string rfl rfl ?_; refine TL.gyes rfl rfl rfl ?_
         refine TL.leqB rfl rfl rfl (fun h5 => ?_) (fun h5 => ?_)
         ·
          refine TL.pickT rfl rfl rfl rfl ?_; refine TL.assign rfl rfl ?_; refine TL.nil ?_; refine TQ.then_n ?_; refine TC.ret ?_; refine TQ.ret1 1 rfl rfl ?_
          refine ⟨congrArg Value.bool ?_, rfl, hL⟩
          symm
          first
            | exact factR_k1 (by omega)
            | exact factR_k2 (by omega)
            | exact factR_b1 (by omega)
            | exact factR_b2 (by omega)
            | exact factR_t (by omega)
            | exact factR_n (by omega) he hid
            | exact factR_ok (by omega) (by omega) (by omega) (by omega) (by omega) (by first | exact .inl (by omega) | exact .inr (.inl he) | exact .inr (.inr hid))
         ·
          refine TL.pickT rfl rfl rfl rfl ?_; refine TL.assign rfl rfl ?_; refine TL.nil ?_; refine TQ.then_n ?_; refine TC.ret ?_; refine TQ.ret1 1 rfl rfl ?_
          refine ⟨congrArg Value.bool ?_, rfl, hL⟩
          symm
          first
            | exact factR_k1 (by omega)
            | exact factR_k2 (by omega)
            | exact factR_b1 (by omega)
            | exact factR_b2 (by omega)
            | exact factR_t (by omega)
            | exact factR_n (by omega) he hid
            | exact factR_ok (by omega) (by omega) (by omega) (by omega) (by omega) (by first | exact .inl (by omega) | exact .inr (.inl he) | exact .inr (.inr hid))
        ·
         refine TL.pickT rfl rfl rfl rfl ?_; refine TL.move rfl rfl ?_; refine TL.gno rfl rfl rfl rfl ?_; refine TL.gno rfl rfl rfl rfl ?_; refine TL.gno rfl rfl rfl rfl ?_; refine TL.gno rfl rfl rfl rfl ?_; refine TL.pickF rfl rfl rfl rfl ?_; refine TL.assign rfl rfl ?_; refine TL.nil ?_; refine TQ.then_n ?_; refine TC.ret ?_; refine TQ.ret1 1 rfl rfl ?_
         refine ⟨congrArg Value.bool ?_, rfl, hL⟩
         symm
         first
           | exact factR_k1 (by omega)
           | exact factR_k2 (by omega)
           | exact factR_b1 (by omega)
           | exact factR_b2 (by omega)
           | exact factR_t (by omega)
           | exact factR_n (by omega) he hid
           | exact factR_ok (by omega) (by omega) (by omega) (by omega) (by omega) (by first | exact .inl (by omega) | exact .inr (.inl he) | exact .inr (.inr hid))
       ·
        refine TL.pickT rfl rfl rfl rfl ?_; refine TL.move rfl rfl ?_; refine TL.gno rfl rfl rfl rfl ?_; refine TL.gno rfl rfl rfl rfl ?_; refine TL.gno rfl rfl rfl rfl ?_; refine TL.gno rfl rfl rfl rfl ?_; refine TL.pickF rfl rfl rfl rfl ?_; refine TL.move rfl rfl ?_; refine TL.gno rfl rfl rfl rfl ?_; refine TL.gno rfl rfl rfl rfl ?_; refine TL.gno rfl rfl rfl rfl ?_; refine TL.gno rfl rfl rfl rfl ?_; refine TL.pickF rfl rfl rfl rfl ?_; refine TL.assign rfl rfl ?_; refine TL.nil ?_; refine TQ.then_n ?_; refine TC.ret ?_; refine TQ.ret1 1 rfl rfl ?_
        refine ⟨congrArg Value.bool ?_, rfl, hL⟩
        symm
        first
          | exact factR_k1 (by omega)
          | exact factR_k2 (by omega)
          | exact factR_b1 (by omega)
          | exact factR_b2 (by omega)
          | exact factR_t (by omega)
          | exact factR_n (by omega) he hid
          | exact factR_ok (by omega) (by omega) (by omega) (by omega) (by omega) (by first | exact .inl (by omega) | exact .inr (.inl he) | exact .inr (.inr hid))
      ·
       refine TL.pickT rfl rfl rfl rfl ?_; refine TL.move rfl rfl ?_; refine TL.gno rfl rfl rfl rfl ?_; refine TL.gno rfl rfl rfl rfl ?_; refine TL.gno rfl rfl rfl rfl ?_; refine TL.gno rfl rfl rfl rfl ?_; refine TL.pickF rfl rfl rfl rfl ?_; refine TL.move rfl rfl ?_; refine TL.gno rfl rfl rfl rfl ?_; refine TL.gno rfl rfl rfl rfl ?_; refine TL.gno rfl rfl rfl rfl ?_; refine TL.gno rfl rfl rfl rfl ?_; refine TL.pickF rfl rfl rfl rfl ?_; refine TL.move rfl rfl ?_; refine TL.gno rfl rfl rfl rfl ?_; refine TL.gno rfl rfl rfl rfl ?_; refine TL.gno rfl rfl rfl rfl ?_; refine TL.gno rfl rfl rfl rfl ?_; refine TL.pickF rfl rfl rfl rfl ?_; refine TL.assign rfl rfl ?_; refine TL.nil ?_; refine TQ.then_n ?_; refine TC.ret ?_; refine TQ.ret1 1 rfl rfl ?_
       refine ⟨congrArg Value.bool ?_, rfl, hL⟩
       symm
       first
         | exact factR_k1 (by omega)
         | exact factR_k2 (by omega)
         | exact factR_b1 (by omega)
         | exact factR_b2 (by omega)
         | exact factR_t (by omega)
         | exact factR_n (by omega) he hid
         | exact factR_ok (by omega) (by omega) (by omega) (by omega) (by omega) (by first | exact .inl (by omega) | exact .inr (.inl he) | exact .inr (.inr hid))
     ·
      refine TL.move rfl rfl ?_; refine TL.gno rfl rfl rfl rfl ?_; refine TL.gno rfl rfl rfl rfl ?_; refine TL.gno rfl rfl rfl rfl ?_; refine TL.pickF rfl rfl rfl rfl ?_; refine TL.move rfl rfl ?_; refine TL.gno rfl rfl rfl rfl ?_; refine TL.gno rfl rfl rfl rfl ?_; refine TL.gno rfl rfl rfl rfl ?_; refine TL.gno rfl rfl rfl rfl ?_; refine TL.pickF rfl rfl rfl rfl ?_; refine TL.move rfl rfl ?_; refine TL.gno rfl rfl rfl rfl ?_; refine TL.gno rfl rfl rfl rfl ?_; refine TL.gno rfl rfl rfl rfl ?_; refine TL.gno rfl rfl rfl rfl ?_; refine TL.pickF rfl rfl rfl rfl ?_; refine TL.move rfl rfl ?_; refine TL.gno rfl rfl rfl rfl ?_; refine TL.gno rfl rfl rfl rfl ?_; refine TL.gno rfl rfl rfl rfl ?_; refine TL.gno rfl rfl rfl rfl ?_; refine TL.pickF rfl rfl rfl rfl ?_; refine TL.assign rfl rfl ?_; refine TL.nil ?_; refine TQ.then_n ?_; refine TC.ret ?_; refine TQ.ret1 1 rfl rfl ?_
      refine ⟨congrArg Value.bool ?_, rfl, hL⟩
      symm
      first
        | exact factR_k1 (by omega)
        | exact factR_k2 (by omega)
        | exact factR_b1 (by omega)
        | exact factR_b2 (by omega)
        | exact factR_t (by omega)
        | exact factR_n (by omega) he hid
        | exact factR_ok (by omega) (by omega) (by omega) (by omega) (by omega) (by first | exact .inl (by omega) | exact .inr (.inl he) | exact .inr (.inr hid))
   ·
    refine TL.move rfl rfl ?_; refine TL.gno rfl rfl rfl rfl ?_; refine TL.gno rfl rfl rfl rfl ?_; refine TL.gno rfl rfl rfl rfl ?_; refine TL.pickF rfl rfl rfl rfl ?_; refine TL.move rfl rfl ?_; refine TL.gno rfl rfl rfl rfl ?_; refine TL.gno rfl rfl rfl rfl ?_; refine TL.pickF rfl rfl rfl rfl ?_; refine TL.nil ?_; refine TQ.then_n ?_; refine TC.cond_f rfl ?_; refine TC.skip ?_; refine TQ.nsr ?_; refine TL.fieldAddr rfl rfl ?_; refine TL.load_own 0 0 rfl rfl rfl rfl rfl ?_
    refine TL.geqB rfl rfl rfl (fun h1 => ?_) (fun h1 => ?_)
    ·
     refine TL.move rfl rfl ?_; refine TL.gyes rfl rfl rfl ?_; refine TL.fieldAddr rfl rfl ?_; refine TL.gyes rfl rfl rfl ?_; refine TL.load_own 0 0 rfl rfl rfl rfl rfl ?_; refine TL.gyes rfl rfl rfl ?_
     refine TL.leqB rfl rfl rfl (fun h2 => ?_) (fun h2 => ?_)
     ·
      refine TL.pickT rfl rfl rfl rfl ?_; refine TL.move rfl rfl ?_; refine TL.gyes rfl rfl rfl ?_; refine TL.fieldAddr rfl rfl ?_; refine TL.gyes rfl rfl rfl ?_; refine TL.fieldAddr rfl rfl ?_; refine TL.gyes rfl rfl rfl ?_; refine TL.load_own 0 0 rfl rfl rfl rfl rfl ?_; refine TL.gyes rfl rfl rfl ?_
      refine TL.geqB rfl rfl rfl (fun h3 => ?_) (fun h3 => ?_)
      ·
       refine TL.pickT rfl rfl rfl rfl ?_; refine TL.move rfl rfl ?_; refine TL.gyes rfl rfl rfl ?_; refine TL.fieldAddr rfl rfl ?_; refine TL.gyes rfl rfl rfl ?_; refine TL.fieldAddr rfl rfl ?_; refine TL.gyes rfl rfl rfl ?_; refine TL.load_own 0 0 rfl rfl rfl rfl rfl ?_; refine TL.gyes rfl rfl rfl ?_
       refine TL.leqB rfl rfl rfl (fun h4 => ?_) (fun h4 => ?_)
       ·
        refine TL.pickT rfl rfl rfl rfl ?_; refine TL.move rfl rfl ?_; refine TL.gyes rfl rfl rfl ?_; refine TL.fieldAddr rfl rfl ?_; refine TL.gyes rfl rfl rfl ?_; refine TL.load_own 0 0 rfl rfl rfl rfl rfl ?_; refine TL.gyes rfl rfl rfl ?_; refine TL.len_string rfl rfl ?_; refine TL.gyes rfl rfl rfl ?_
        refine TL.leqB rfl rfl rfl (fun h5 => ?_) (fun h5 => ?_)
        ·
         refine TL.pickT rfl rfl rfl rfl ?_; refine TL.assign rfl rfl ?_; refine TL.nil ?_; refine TQ.then_n ?_; refine TC.ret ?_; refine TQ.ret1 1 rfl rfl ?_
         refine ⟨congrArg Value.bool ?_, rfl, hL⟩
         symm
         first
           | exact factR_k1 (by omega)
           | exact factR_k2 (by omega)
           | exact factR_b1 (by omega)
           | exact factR_b2 (by omega)
           | exact factR_t (by omega)
           | exact factR_n (by omega) he hid
           | exact factR_ok (by omega) (by omega) (by omega) (by omega) (by omega) (by first | exact .inl (by omega) | exact .inr (.inl he) | exact .inr (.inr hid))
        ·
         refine TL.pickT rfl rfl rfl rfl ?_; refine TL.assign rfl rfl ?_; refine TL.nil ?_; refine TQ.then_n ?_; refine TC.ret ?_; refine TQ.ret1 1 rfl rfl ?_
         refine ⟨congrArg Value.bool ?_, rfl, hL⟩
         symm
         first
           | exact factR_k1 (by omega)
           | exact factR_k2 (by omega)
           | exact factR_b1 (by omega)
           | exact factR_b2 (by omega)
           | exact factR_t (by omega)
           | exact factR_n (by omega) he hid
           | exact factR_ok (by omega) (by omega) (by omega) (by omega) (by omega) (by first | exact .inl (by omega) | exact .inr (.inl he) | exact .inr (.inr hid))
       ·
        refine TL.pickT rfl rfl rfl rfl ?_; refine TL.move rfl rfl ?_; refine TL.gno rfl rfl rfl rfl ?_; refine TL.gno rfl rfl rfl rfl ?_; refine TL.gno rfl rfl rfl rfl ?_; refine TL.gno rfl rfl rfl rfl ?_; refine TL.pickF rfl rfl rfl rfl ?_; refine TL.assign rfl rfl ?_; refine TL.nil ?_; refine TQ.then_n ?_; refine TC.ret ?_; refine TQ.ret1 1 rfl rfl ?_
        refine ⟨congrArg Value.bool ?_, rfl, hL⟩
        symm
        first
          | exact factR_k1 (by omega)
          | exact factR_k2 (by omega)
          | exact factR_b1 (by omega)
          | exact factR_b2 (by omega)
          | exact factR_t (by omega)
          | exact factR_n (by omega) he hid
          | exact factR_ok (by omega) (by omega) (by omega) (by omega) (by omega) (by first | exact .inl (by omega) | exact .inr (.inl he) | exact .inr (.inr hid))
      ·
       refine TL.pickT rfl rfl rfl rfl ?_; refine TL.move rfl rfl ?_; refine TL.gno rfl rfl rfl rfl ?_; refine TL.gno rfl rfl rfl rfl ?_; refine TL.gno rfl rfl rfl rfl ?_; refine TL.gno rfl rfl rfl rfl ?_; refine TL.pickF rfl rfl rfl rfl ?_; refine TL.move rfl rfl ?_; refine TL.gno rfl rfl rfl rfl ?_; refine TL.gno rfl rfl rfl rfl ?_; refine TL.gno rfl rfl rfl rfl ?_; refine TL.gno rfl rfl rfl rfl ?_; refine TL.pickF rfl rfl rfl rfl ?_; refine TL.assign rfl rfl ?_; refine TL.nil ?_; refine TQ.then_n ?_; refine TC.ret ?_; refine TQ.ret1 1 rfl rfl ?_
       refine ⟨congrArg Value.bool ?_, rfl, hL⟩
       symm
       first
         | exact factR_k1 (by omega)
         | exact factR_k2 (by omega)
         | exact factR_b1 (by omega)
         | exact factR_b2 (by omega)
         | exact factR_t (by omega)
         | exact factR_n (by omega) he hid
         | exact factR_ok (by omega) (by omega) (by omega) (by omega) (by omega) (by first | exact .inl (by omega) | exact .inr (.inl he) | exact .inr (.inr hid))
     ·
      refine TL.pickT rfl rfl rfl rfl ?_; refine TL.move rfl rfl ?_; refine TL.gno rfl rfl rfl rfl ?_; refine TL.gno rfl rfl rfl rfl ?_; refine TL.gno rfl rfl rfl rfl ?_; refine TL.gno rfl rfl rfl rfl ?_; refine TL.pickF rfl rfl rfl rfl ?_; refine TL.move rfl rfl ?_; refine TL.gno rfl rfl rfl rfl ?_; refine TL.gno rfl rfl rfl rfl ?_; refine TL.gno rfl rfl rfl rfl ?_; refine TL.gno rfl rfl rfl rfl ?_; refine TL.pickF rfl rfl rfl rfl ?_; refine TL.move rfl rfl ?_; refine TL.gno rfl rfl rfl rfl ?_; refine TL.gno rfl rfl rfl rfl ?_; refine TL.gno rfl rfl rfl rfl ?_; refine TL.gno rfl rfl rfl rfl ?_; refine TL.pickF rfl rfl rfl rfl ?_; refine TL.assign rfl rfl ?_; refine TL.nil ?_; refine TQ.then_n ?_; refine TC.ret ?_; refine TQ.ret1 1 rfl rfl ?_
      refine ⟨congrArg Value.bool ?_, rfl, hL⟩
      symm
      first
        | exact factR_k1 (by omega)
        | exact factR_k2 (by omega)
        | exact factR_b1 (by omega)
        | exact factR_b2 (by omega)
        | exact factR_t (by omega)
        | exact factR_n (by omega) he hid
        | exact factR_ok (by omega) (by omega) (by omega) (by omega) (by omega) (by first | exact .inl (by omega) | exact .inr (.inl he) | exact .inr (.inr hid))
    ·
     refine TL.move rfl rfl ?_; refine TL.gno rfl rfl rfl rfl ?_; refine TL.gno rfl rfl rfl rfl ?_; refine TL.gno rfl rfl rfl rfl ?_; refine TL.pickF rfl rfl rfl rfl ?_; refine TL.move rfl rfl ?_; refine TL.gno rfl rfl rfl rfl ?_; refine TL.gno rfl rfl rfl rfl ?_; refine TL.gno rfl rfl rfl rfl ?_; refine TL.gno rfl rfl rfl rfl ?_; refine TL.pickF rfl rfl rfl rfl ?_; refine TL.move rfl rfl ?_; refine TL.gno rfl rfl rfl rfl ?_; refine TL.gno rfl rfl rfl rfl ?_; refine TL.gno rfl rfl rfl rfl ?_; refine TL.gno rfl rfl rfl rfl ?_; refine TL.pickF rfl rfl rfl rfl ?_; refine TL.move rfl rfl ?_; refine TL.gno rfl rfl rfl rfl ?_; refine TL.gno rfl rfl rfl rfl ?_; refine TL.gno rfl rfl rfl rfl ?_; refine TL.gno rfl rfl rfl rfl ?_; refine TL.pickF rfl rfl rfl rfl ?_; refine TL.assign rfl rfl ?_; refine TL.nil ?_; refine TQ.then_n ?_; refine TC.ret ?_; refine TQ.ret1 1 rfl rfl ?_
     refine ⟨congrArg Value.bool ?_, rfl, hL⟩
     symm
     first
       | exact factR_k1 (by omega)
       | exact factR_k2 (by omega)
       | exact factR_b1 (by omega)
       | exact factR_b2 (by omega)
       | exact factR_t (by omega)
       | exact factR_n (by omega) he hid
       | exact factR_ok (by omega) (by omega) (by omega) (by omega) (by omega) (by first | exact .inl (by omega) | exact .inr (.inl he) | exact .inr (.inr hid))
theorem proj_valid {f : Fact} (hf : f.text.size ≤ 1000000) {w0 : World} {H : Hp} {own : List Seg} :
    Fn Tryz.prog 96 [.agg #[.int .i64 f.kind, .int .i64 f.bank, .int .u16 f.addr, .string f.text]] w0 H own (fun r own' H' => r = .bool (factR f) ∧ own' = own ∧ Le H H') := by
  refine Fn.enter Tryz.func96 rfl Tryz.ntmps96 rfl ?_; have hL := Le.refl H; refine TC.seq ?_; refine TC.region ?_
  refine TL.box (c := #[_, _, _, _]) rfl rfl rfl ?_; intro g1; refine TL.assign rfl rfl ?_; refine TL.nsr ?_; refine TL.fieldAddr rfl rfl ?_; refine TL.load_own 0 0 rfl rfl rfl rfl rfl ?_
  refine TL.geqB rfl rfl rfl (fun h1 => ?_) (fun h1 => ?_)
  ·
   refine TL.move rfl rfl ?_; refine TL.gyes rfl rfl rfl ?_; refine TL.fieldAddr rfl rfl ?_; refine TL.gyes rfl rfl rfl ?_; refine TL.load_own 0 0 rfl rfl rfl rfl rfl ?_; refine TL.gyes rfl rfl rfl ?_
   refine TL.leqB rfl rfl rfl (fun h2 => ?_) (fun h2 => ?_)
   ·
    refine TL.pickT rfl rfl rfl rfl ?_; refine TL.move rfl rfl ?_; refine TL.gyes rfl rfl rfl ?_; refine TL.fieldAddr rfl rfl ?_; refine TL.gyes rfl rfl rfl ?_; refine TL.fieldAddr rfl rfl ?_; refine TL.gyes rfl rfl rfl ?_; refine TL.load_own 0 0 rfl rfl rfl rfl rfl ?_; refine TL.gyes rfl rfl rfl ?_
    refine TL.geqB rfl rfl rfl (fun h3 => ?_) (fun h3 => ?_)
    ·
     refine TL.pickT rfl rfl rfl rfl ?_; refine TL.move rfl rfl ?_; refine TL.gyes rfl rfl rfl ?_; refine TL.fieldAddr rfl rfl ?_; refine TL.gyes rfl rfl rfl ?_; refine TL.fieldAddr rfl rfl ?_; refine TL.gyes rfl rfl rfl ?_; refine TL.load_own 0 0 rfl rfl rfl rfl rfl ?_; refine TL.gyes rfl rfl rfl ?_
     refine TL.lssB rfl rfl rfl (fun h4 => ?_) (fun h4 => ?_)
     ·
      refine TL.pickT rfl rfl rfl rfl ?_; refine TL.move rfl rfl ?_; refine TL.gyes rfl rfl rfl ?_; refine TL.fieldAddr rfl rfl ?_; refine TL.gyes rfl rfl rfl ?_; refine TL.load_own 0 0 rfl rfl rfl rfl rfl ?_; refine TL.gyes rfl rfl rfl ?_; refine TL.len_string rfl rfl ?_; refine TL.gyes rfl rfl rfl ?_
      refine TL.leqB rfl rfl rfl (fun h5 => ?_) (fun h5 => ?_)
      ·
       refine TL.pickT rfl rfl rfl rfl ?_; refine TL.move rfl rfl ?_; refine TL.gyes rfl rfl rfl ?_; refine TL.fieldAddr rfl rfl ?_; refine TL.gyes rfl rfl rfl ?_; refine TL.load_own 0 0 rfl rfl rfl rfl rfl ?_; refine TL.gyes rfl rfl rfl ?_
       refine TL.neqB rfl rfl rfl (fun hk => ?_) (fun hk => ?_)
       ·
        refine TL.gyes rfl rfl rfl ?_; refine TL.move rfl rfl ?_; refine TL.gno rfl rfl rfl rfl ?_; refine TL.gno rfl rfl rfl rfl ?_; refine TL.gno rfl rfl rfl rfl ?_; refine TL.gyes rfl rfl rfl ?_; refine TL.pickT rfl rfl rfl rfl ?_; refine TL.gyes rfl rfl rfl ?_; refine TL.move rfl rfl ?_; refine TL.gno rfl rfl rfl rfl ?_; refine TL.gno rfl rfl rfl rfl ?_; refine TL.gno rfl rfl rfl rfl ?_; refine TL.gyes rfl rfl rfl ?_; refine TL.pickT rfl rfl rfl rfl ?_; refine TL.pickT rfl rfl rfl rfl ?_; refine TL.assign rfl rfl ?_; refine TL.nil ?_; refine TQ.then_n ?_; refine TC.ret ?_; refine TQ.ret1 1 rfl rfl ?_
        refine ⟨congrArg Value.bool ?_, rfl, hL⟩
        symm
        first
          | exact factR_k1 (by omega)
          | exact factR_k2 (by omega)
          | exact factR_b1 (by omega)
          | exact factR_b2 (by omega)
          | exact factR_t (by omega)
          | exact factR_n (by omega) he hid
          | exact factR_ok (by omega) (by omega) (by omega) (by omega) (by omega) (by first | exact .inl (by omega) | exact .inr (.inl he) | exact .inr (.inr hid))
       ·
        refine TL.gyes rfl rfl rfl ?_; refine TL.move rfl rfl ?_; refine TL.gyes rfl rfl rfl ?_; refine TL.fieldAddr rfl rfl ?_; refine TL.gyes rfl rfl rfl ?_; refine TL.load_own 0 0 rfl rfl rfl rfl rfl ?_; refine TL.gyes rfl rfl rfl ?_
        refine TL.eqlSB rfl rfl rfl (fun he => ?_) (fun he => ?_)
        ·
         refine TL.gyes rfl rfl rfl ?_; refine TL.pickF rfl rfl rfl rfl ?_; refine TL.gyes rfl rfl rfl ?_; refine TL.move rfl rfl ?_; refine TL.gno rfl rfl rfl rfl ?_; refine TL.gno rfl rfl rfl rfl ?_; refine TL.gno rfl rfl rfl rfl ?_; refine TL.gyes rfl rfl rfl ?_; refine TL.pickT rfl rfl rfl rfl ?_; refine TL.pickT rfl rfl rfl rfl ?_; refine TL.assign rfl rfl ?_; refine TL.nil ?_; refine TQ.then_n ?_; refine TC.ret ?_; refine TQ.ret1 1 rfl rfl ?_
         refine ⟨congrArg Value.bool ?_, rfl, hL⟩
         symm
         first
           | exact factR_k1 (by omega)
           | exact factR_k2 (by omega)
           | exact factR_b1 (by omega)
           | exact factR_b2 (by omega)
           | exact factR_t (by omega)
           | exact factR_n (by omega) he hid
           | exact factR_ok (by omega) (by omega) (by omega) (by omega) (by omega) (by first | exact .inl (by omega) | exact .inr (.inl he) | exact .inr (.inr hid))
        ·
         refine TL.gyes rfl rfl rfl ?_; refine TL.pickF rfl rfl rfl rfl ?_; refine TL.gyes rfl rfl rfl ?_; refine TL.move rfl rfl ?_; refine TL.gyes rfl rfl rfl ?_; refine TL.fieldAddr rfl rfl ?_; refine TL.gyes rfl rfl rfl ?_; refine TL.load_own 0 0 rfl rfl rfl rfl rfl ?_; refine TL.gyes rfl rfl rfl ?_; refine TL.call (proj_named (by omega)) ⟨rfl, trivial⟩ rfl ?_
         rintro _ own H41 ⟨rfl, rfl, hle41⟩
         have hL := Le.trans hL hle41
         rcases hid : identN f.text with _ | _
         rotate_left
         ·
          refine TL.gyes rfl rfl rfl ?_; refine TL.pickF rfl rfl rfl rfl ?_; refine TL.pickT rfl rfl rfl rfl ?_; refine TL.assign rfl rfl ?_; refine TL.nil ?_; refine TQ.then_n ?_; refine TC.ret ?_; refine TQ.ret1 1 rfl rfl ?_
          refine ⟨congrArg Value.bool ?_, rfl, hL⟩
          symm
          first
            | exact factR_k1 (by omega)
            | exact factR_k2 (by omega)
            | exact factR_b1 (by omega)
            | exact factR_b2 (by omega)
            | exact factR_t (by omega)
            | exact factR_n (by omega) he hid
            | exact factR_ok (by omega) (by omega) (by omega) (by omega) (by omega) (by first | exact .inl (by omega) | exact .inr (.inl he) | exact .inr (.inr hid))
         ·
          refine TL.gyes rfl rfl rfl ?_; refine TL.pickF rfl rfl rfl rfl ?_; refine TL.pickT rfl rfl rfl rfl ?_; refine TL.assign rfl rfl ?_; refine TL.nil ?_; refine TQ.then_n ?_; refine TC.ret ?_; refine TQ.ret1 1 rfl rfl ?_
          refine ⟨congrArg Value.bool ?_, rfl, hL⟩
          symm
          first
            | exact factR_k1 (by omega)
            | exact factR_k2 (by omega)
            | exact factR_b1 (by omega)
            | exact factR_b2 (by omega)
            | exact factR_t (by omega)
            | exact factR_n (by omega) he hid
            | exact factR_ok (by omega) (by omega) (by omega) (by omega) (by omega) (by first | exact .inl (by omega) | exact .inr (.inl he) | exact .inr (.inr hid))
      ·
       refine TL.pickT rfl rfl rfl rfl ?_; refine TL.move rfl rfl ?_; refine TL.gno rfl rfl rfl rfl ?_; refine TL.gno rfl rfl rfl rfl ?_; refine TL.gno rfl rfl rfl rfl ?_; refine TL.gno rfl rfl rfl rfl ?_; refine TL.gund rfl rfl rfl ?_; refine TL.gund rfl rfl rfl ?_; refine TL.gund rfl rfl rfl ?_; refine TL.gno rfl rfl rfl rfl ?_; refine TL.gno rfl rfl rfl rfl ?_; refine TL.gund rfl rfl rfl ?_; refine TL.gund rfl rfl rfl ?_; refine TL.gund rfl rfl rfl ?_; refine TL.gno rfl rfl rfl rfl ?_; refine TL.pickF rfl rfl rfl rfl ?_; refine TL.assign rfl rfl ?_; refine TL.nil ?_; refine TQ.then_n ?_; refine TC.ret ?_; refine TQ.ret1 1 rfl rfl ?_
       refine ⟨congrArg Value.bool ?_, rfl, hL⟩
       symm
       first
         | exact factR_k1 (by omega)
         | exact factR_k2 (by omega)
         | exact factR_b1 (by omega)
         | exact factR_b2 (by omega)
         | exact factR_t (by omega)
         | exact factR_n (by omega) he hid
         | exact factR_ok (by omega) (by omega) (by omega) (by omega) (by omega) (by first | exact .inl (by omega) | exact .inr (.inl he) | exact .inr (.inr hid))
     ·
      refine TL.pickT rfl rfl rfl rfl ?_; refine TL.move rfl rfl ?_; refine TL.gno rfl rfl rfl rfl ?_; refine TL.gno rfl rfl rfl rfl ?_; refine TL.gno rfl rfl rfl rfl ?_; refine TL.gno rfl rfl rfl rfl ?_; refine TL.pickF rfl rfl rfl rfl ?_; refine TL.move rfl rfl ?_; refine TL.gno rfl rfl rfl rfl ?_; refine TL.gno rfl rfl rfl rfl ?_; refine TL.gno rfl rfl rfl rfl ?_; refine TL.gno rfl rfl rfl rfl ?_; refine TL.gund rfl rfl rfl ?_; refine TL.gund rfl rfl rfl ?_; refine TL.gund rfl rfl rfl ?_; refine TL.gno rfl rfl rfl rfl ?_; refine TL.gno rfl rfl rfl rfl ?_; refine TL.gund rfl rfl rfl ?_; refine TL.gund rfl rfl rfl ?_; refine TL.gund rfl rfl rfl ?_; refine TL.gno rfl rfl rfl rfl ?_; refine TL.pickF rfl rfl rfl rfl ?_; refine TL.assign rfl rfl ?_; refine TL.nil ?_; refine TQ.then_n ?_; refine TC.ret ?_; refine TQ.ret1 1 rfl rfl ?_
      refine ⟨congrArg Value.bool ?_, rfl, hL⟩
      symm
      first
        | exact factR_k1 (by omega)
        | exact factR_k2 (by omega)
        | exact factR_b1 (by omega)
        | exact factR_b2 (by omega)
        | exact factR_t (by omega)
        | exact factR_n (by omega) he hid
        | exact factR_ok (by omega) (by omega) (by omega) (by omega) (by omega) (by first | exact .inl (by omega) | exact .inr (.inl he) | exact .inr (.inr hid))
    ·
     refine TL.pickT rfl rfl rfl rfl ?_; refine TL.move rfl rfl ?_; refine TL.gno rfl rfl rfl rfl ?_; refine TL.gno rfl rfl rfl rfl ?_; refine TL.gno rfl rfl rfl rfl ?_; refine TL.gno rfl rfl rfl rfl ?_; refine TL.pickF rfl rfl rfl rfl ?_; refine TL.move rfl rfl ?_; refine TL.gno rfl rfl rfl rfl ?_; refine TL.gno rfl rfl rfl rfl ?_; refine TL.gno rfl rfl rfl rfl ?_; refine TL.gno rfl rfl rfl rfl ?_; refine TL.pickF rfl rfl rfl rfl ?_; refine TL.move rfl rfl ?_; refine TL.gno rfl rfl rfl rfl ?_; refine TL.gno rfl rfl rfl rfl ?_; refine TL.gno rfl rfl rfl rfl ?_; refine TL.gno rfl rfl rfl rfl ?_; refine TL.gund rfl rfl rfl ?_; refine TL.gund rfl rfl rfl ?_; refine TL.gund rfl rfl rfl ?_; refine TL.gno rfl rfl rfl rfl ?_; refine TL.gno rfl rfl rfl rfl ?_; refine TL.gund rfl rfl rfl ?_; refine TL.gund rfl rfl rfl ?_; refine TL.gund rfl rfl rfl ?_; refine TL.gno rfl rfl rfl rfl ?_
     refine TL.pickF rfl rfl rfl rfl ?_; refine TL.assign rfl rfl ?_; refine TL.nil ?_; refine TQ.then_n ?_; refine TC.ret ?_; refine TQ.ret1 1 rfl rfl ?_
     refine ⟨congrArg Value.bool ?_, rfl, hL⟩
     symm
     first
       | exact factR_k1 (by omega)
       | exact factR_k2 (by omega)
       | exact factR_b1 (by omega)
       | exact factR_b2 (by omega)
       | exact factR_t (by omega)
       | exact factR_n (by omega) he hid
       | exact factR_ok (by omega) (by omega) (by omega) (by omega) (by omega) (by first | exact .inl (by omega) | exact .inr (.inl he) | exact .inr (.inr hid))
   ·
    refine TL.pickT rfl rfl rfl rfl ?_; refine TL.move rfl rfl ?_; refine TL.gno rfl rfl rfl rfl ?_; refine TL.gno rfl rfl rfl rfl ?_; refine TL.gno rfl rfl rfl rfl ?_; refine TL.gno rfl rfl rfl rfl ?_; refine TL.pickF rfl rfl rfl rfl ?_; refine TL.move rfl rfl ?_; refine TL.gno rfl rfl rfl rfl ?_; refine TL.gno rfl rfl rfl rfl ?_; refine TL.gno rfl rfl rfl rfl ?_; refine TL.gno rfl rfl rfl rfl ?_; refine TL.pickF rfl rfl rfl rfl ?_; refine TL.move rfl rfl ?_; refine TL.gno rfl rfl rfl rfl ?_; refine TL.gno rfl rfl rfl rfl ?_; refine TL.gno rfl rfl rfl rfl ?_; refine TL.gno rfl rfl rfl rfl ?_; refine TL.pickF rfl rfl rfl rfl ?_; refine TL.move rfl rfl ?_; refine TL.gno rfl rfl rfl rfl ?_; refine TL.gno rfl rfl rfl rfl ?_; refine TL.gno rfl rfl rfl rfl ?_; refine TL.gno rfl rfl rfl rfl ?_; refine TL.gund rfl rfl rfl ?_; refine TL.gund rfl rfl rfl ?_; refine TL.gund rfl rfl rfl ?_
    refine TL.gno rfl rfl rfl rfl ?_; refine TL.gno rfl rfl rfl rfl ?_; refine TL.gund rfl rfl rfl ?_; refine TL.gund rfl rfl rfl ?_; refine TL.gund rfl rfl rfl ?_; refine TL.gno rfl rfl rfl rfl ?_; refine TL.pickF rfl rfl rfl rfl ?_; refine TL.assign rfl rfl ?_; refine TL.nil ?_; refine TQ.then_n ?_; refine TC.ret ?_; refine TQ.ret1 1 rfl rfl ?_
    refine ⟨congrArg Value.bool ?_, rfl, hL⟩
    symm
    first
      | exact factR_k1 (by omega)
      | exact factR_k2 (by omega)
      | exact factR_b1 (by omega)
      | exact factR_b2 (by omega)
      | exact factR_t (by omega)
      | exact factR_n (by omega) he hid
      | exact factR_ok (by omega) (by omega) (by omega) (by omega) (by omega) (by first | exact .inl (by omega) | exact .inr (.inl he) | exact .inr (.inr hid))
  ·
   refine TL.move rfl rfl ?_; refine TL.gno rfl rfl rfl rfl ?_; refine TL.gno rfl rfl rfl rfl ?_; refine TL.gno rfl rfl rfl rfl ?_; refine TL.pickF rfl rfl rfl rfl ?_; refine TL.move rfl rfl ?_; refine TL.gno rfl rfl rfl rfl ?_; refine TL.gno rfl rfl rfl rfl ?_; refine TL.gno rfl rfl rfl rfl ?_; refine TL.gno rfl rfl rfl rfl ?_; refine TL.pickF rfl rfl rfl rfl ?_; refine TL.move rfl rfl ?_; refine TL.gno rfl rfl rfl rfl ?_; refine TL.gno rfl rfl rfl rfl ?_; refine TL.gno rfl rfl rfl rfl ?_; refine TL.gno rfl rfl rfl rfl ?_; refine TL.pickF rfl rfl rfl rfl ?_; refine TL.move rfl rfl ?_; refine TL.gno rfl rfl rfl rfl ?_; refine TL.gno rfl rfl rfl rfl ?_; refine TL.gno rfl rfl rfl rfl ?_; refine TL.gno rfl rfl rfl rfl ?_; refine TL.pickF rfl rfl rfl rfl ?_; refine TL.move rfl rfl ?_; refine TL.gno rfl rfl rfl rfl ?_; refine TL.gno rfl rfl rfl rfl ?_; refine TL.gno rfl rfl rfl rfl ?_
   refine TL.gno rfl rfl rfl rfl ?_; refine TL.gund rfl rfl rfl ?_; refine TL.gund rfl rfl rfl ?_; refine TL.gund rfl rfl rfl ?_; refine TL.gno rfl rfl rfl rfl ?_; refine TL.gno rfl rfl rfl rfl ?_; refine TL.gund rfl rfl rfl ?_; refine TL.gund rfl rfl rfl ?_; refine TL.gund rfl rfl rfl ?_; refine TL.gno rfl rfl rfl rfl ?_; refine TL.pickF rfl rfl rfl rfl ?_; refine TL.assign rfl rfl ?_; refine TL.nil ?_; refine TQ.then_n ?_; refine TC.ret ?_; refine TQ.ret1 1 rfl rfl ?_
   refine ⟨congrArg Value.bool ?_, rfl, hL⟩
   symm
   first
     | exact factR_k1 (by omega)
     | exact factR_k2 (by omega)
     | exact factR_b1 (by omega)
     | exact factR_b2 (by omega)
     | exact factR_t (by omega)
     | exact factR_n (by omega) he hid
     | exact factR_ok (by omega) (by omega) (by omega) (by omega) (by omega) (by first | exact .inl (by omega) | exact .inr (.inl he) | exact .inr (.inr hid))
theorem ref_put {l : List Fact} {f : Fact} (hl : ∀ g ∈ l, FOk g) (hf : FOk f) (hlen : l.length ≤ 1000000000000) {w0 : World} {H : Hp} {own : List Seg} {v : Value} (hA : rd H (.s 4 (factsD l)) v) :
    Fn Tryz.prog 41 [v, .agg #[.int .i64 f.kind, .int .i64 f.bank, .int .u16 f.addr, .string f.text]] w0 H own (fun r own' H' => rd H' (.s 4 (factsD (putF l f))) r ∧ own' = own ∧ Le H H') := by
  obtain ⟨A, c, rfl, hc1, hc2⟩ := facts_len hA
  refine Fn.enter Tryz.func41 rfl Tryz.ntmps41 rfl ?_; have hL := Le.refl H; refine TC.seq ?_; refine TC.region ?_
  refine TL.box (c := #[_, _, _, _]) rfl rfl rfl ?_; intro g3; refine TL.assign rfl rfl ?_; refine TL.nsr ?_; refine TL.assign rfl rfl ?_; refine TL.nsr ?_; refine TL.fieldAddr rfl rfl ?_; refine TL.load_own 0 0 rfl rfl rfl rfl rfl ?_
  refine TL.eqlSB rfl rfl rfl (fun hte => ?_) (fun hte => ?_)
  ·
   refine TL.assign rfl rfl ?_; refine TL.nil ?_; refine TQ.then_n ?_; refine TC.seq ?_; refine TC.seq ?_; refine TC.nilseg ?_; refine TC.region ?_; refine TL.assign rfl rfl ?_; refine TL.nil ?_; refine TQ.then_n ?_; refine TC.block ?_
   refine TC.loop (fun n env' own' H' => ∃ (i : Nat) (dn : Bool) (out : List Fact) (u : Value) (seg : Seg), n = l.length - i ∧ i ≤ l.length ∧ putF l f = out ++ putL f dn (l.drop i) ∧ out.length ≤ 2 * i ∧ Row 60 4 u out.length (factsV out) seg ∧ env' = [(0, .slice A l.length c), (3, .pointer (some ⟨g3, 0, none⟩)), (5, u), (6, .bool dn), (7, .int .i64 (i : Int))] ∧ own' = seg :: [(g3, .cells #[.int .i64 f.kind, .int .i64 f.bank, .int .u16 f.addr, .string f.text] 60 (0, 0))] :: own ∧ Le H H') l.length [(0, _), (3, _), (5, _), (6, _), (7, _)] ⟨rfl, rfl, rfl, rfl, rfl, trivial⟩ ⟨0, _, [], .slice none 0 0, [], by omega, by omega, by unfold putF; first | (rw [decide_eq_true hte]; rfl) | (rw [decide_eq_false hte]; rfl), by simp, Row.nil _ 4, rfl, rfl, Le.refl _⟩ ?_
   rintro n _ _ H1 ⟨i, dn, out, u, row, rfl, hi1, hinv, hout, hrow, rfl, rfl, hle0⟩
   have hL := Le.trans hL hle0; have hA := rd.mono hle0 hA; refine TC.seq ?_; refine TC.seq ?_; refine TC.region ?_; refine TL.move rfl rfl ?_; refine TL.move rfl rfl ?_; refine TL.len_slice rfl rfl ?_
   refine TL.lssB rfl rfl rfl (fun hlt => ?_) (fun hlt => ?_)
   ·
    obtain ⟨x, hx⟩ : ∃ x, l[i]? = some x := ⟨_, List.getElem?_eq_getElem (by omega)⟩
    have hx1 := hl x (List.mem_of_getElem? hx)
    have hdr := drop_cons hx
    obtain ⟨b1, o1, rfl, hpx⟩ := facts_at hA hx
    refine TL.nil ?_; refine TQ.then_n ?_; refine TC.cond_t rfl ?_; refine TC.skip ?_; refine TQ.then_n ?_; refine TC.seq ?_; refine TC.block ?_; refine TC.seq ?_
    rcases hsm : decide (x.key = f.key) with _ | _ <;> rcases hkb : kb f.key x.key with _ | _ <;> rcases dn with _ | _
    ·
     have hsk : ¬ x.key = f.key := by simpa using hsm
     refine TC.drawQV 5  [(0, _), (3, _), (5, _), (6, _), (7, _)] follows_mixed ⟨rfl, rfl, rfl, rfl, rfl, trivial⟩ ?_; refine ChainV.q (some 19) [] (fun _ _ _ _ hF => TL.move rfl rfl (TL.one hF)) ?_; refine ChainV.q (some 20) [] (fun _ _ _ _ hF => TL.move rfl rfl (TL.one hF)) ?_; refine ChainV.q (some 21) [(0, 1), (1, 0)] (fun _ _ _ _ hF => TL.indexAddr (i) rfl rfl rfl (by omega) rfl (TL.one hF)) ?_
     refine ChainV.q (some 22) [(2, 0)] (by
      intro H' X F hle; have hL := Le.trans hL hle; have hpx := hAt.mono hle hpx; intro hF; refine TL.load_immA rfl (hpx) rfl rfl ?_
      exact TL.one hF) ?_
     refine ChainV.q (some 23) [] (by
      intro H' X F hle; have hL := Le.trans hL hle; intro hF; refine TL.load_ownA 1 0 [_, _, _, _] rfl rfl rfl ⟨rfl, rfl, rfl, rfl, trivial⟩ rfl rfl ?_
      exact TL.one hF) ?_
     refine ⟨by kernel_rfl, .refl _, ?_⟩
     ·
      intro H1 hle; have hL := Le.trans hL hle; have hle0 := Le.trans hle0 hle; have hpx := hAt.mono hle hpx; refine TL.toOwn (own' := _ :: _ :: own) rfl ?_; refine TL.wk (env' := [(0, _), (3, _), (5, _), (6, _), (7, _), (22, _), (23, _)]) ⟨rfl, rfl, rfl, rfl, rfl, rfl, rfl, trivial⟩ ?_; refine TL.call (ref_same hx1 hf) ⟨rfl, rfl, trivial⟩ rfl ?_
      rintro _ own H24 ⟨rfl, rfl, hle24⟩
      rw [hsm]
      have hL := Le.trans hL hle24; have hle0 := Le.trans hle0 hle24; have hpx := hAt.mono hle24 hpx; refine TL.assign rfl rfl ?_; refine TL.nil ?_; refine TQ.then_n ?_; refine TC.seq ?_; refine TC.drawQV 5  [(0, _), (3, _), (5, _), (6, _), (7, _), (8, _)] follows_mixed ⟨rfl, rfl, rfl, rfl, rfl, rfl, trivial⟩ ?_
      refine ChainV.q (some 25) [] (by
       intro H' X F hle; have hL := Le.trans hL hle; intro hF; refine TL.load_ownA 1 0 [_, _, _, _] rfl rfl rfl ⟨rfl, rfl, rfl, rfl, trivial⟩ rfl rfl ?_
       exact TL.one hF) ?_
      refine ChainV.q (some 26) [] (fun _ _ _ _ hF => TL.move rfl rfl (TL.one hF)) ?_; refine ChainV.q (some 27) [] (fun _ _ _ _ hF => TL.move rfl rfl (TL.one hF)) ?_; refine ChainV.q (some 28) [(1, 1), (2, 0)] (fun _ _ _ _ hF => TL.indexAddr (i) rfl rfl rfl (by omega) rfl (TL.one hF)) ?_
      refine ChainV.q (some 29) [(3, 0)] (by
       intro H' X F hle; have hL := Le.trans hL hle; have hpx := hAt.mono hle hpx; intro hF; refine TL.load_immA rfl (hpx) rfl rfl ?_
       exact TL.one hF) ?_
      refine ⟨by kernel_rfl, .refl _, ?_⟩
      ·
       intro H2 hle; have hL := Le.trans hL hle; have hle0 := Le.trans hle0 hle; have hpx := hAt.mono hle hpx; refine TL.toOwn (own' := _ :: _ :: own) rfl ?_; refine TL.wk (env' := [(0, _), (3, _), (5, _), (6, _), (7, _), (8, _), (25, _), (29, _)]) ⟨rfl, rfl, rfl, rfl, rfl, rfl, rfl, rfl, trivial⟩ ?_; refine TL.call (ref_before) ⟨rfl, rfl, trivial⟩ rfl ?_
       rintro _ own H30 ⟨rfl, rfl, hle30⟩
       rw [hkb]
       have hL := Le.trans hL hle30; have hle0 := Le.trans hle0 hle30; have hpx := hAt.mono hle30 hpx; refine TL.assign rfl rfl ?_; refine TL.nil ?_; refine TQ.then_n ?_; refine TC.seq ?_; refine TC.seq ?_; refine TC.region ?_; refine TL.move rfl rfl ?_; refine TL.not rfl rfl ?_; refine TL.move rfl rfl ?_; refine TL.gyes rfl rfl rfl ?_; refine TL.move rfl rfl ?_; refine TL.gyes rfl rfl rfl ?_; refine TL.move rfl rfl ?_; refine TL.gyes rfl rfl rfl ?_; refine TL.move rfl rfl ?_; refine TL.gyes rfl rfl rfl ?_; refine TL.pickF rfl rfl rfl rfl ?_; refine TL.pickT rfl rfl rfl rfl ?_; refine TL.nil ?_; refine TQ.then_n ?_; refine TC.cond_f rfl ?_; refine TC.skip ?_; refine TQ.nsr ?_; refine TL.move rfl rfl ?_; refine TL.not rfl rfl ?_; refine TL.nil ?_; refine TQ.then_n ?_; refine TC.cond_t rfl ?_; refine TC.region ?_; refine TL.move rfl rfl ?_; refine TL.move rfl rfl ?_
       refine TL.move rfl rfl ?_; refine TL.indexAddr (i) rfl rfl rfl (by omega) rfl ?_; refine TL.load_immA rfl (hpx) rfl rfl ?_
       refine TL.litF (r := [_, _, _, _]) [(0, [_, _, _, _])] ⟨rfl, ⟨_, rfl, rfl⟩, trivial⟩ rfl rfl rfl rfl ?_; intro g50; refine TL.append 1 rfl rfl rfl hrow (Src.ofOwn 0 0 rfl rfl rfl (Ones.all (show Ones [_, _, _, _] from ⟨by rfl, by rfl, by rfl, by rfl, trivial⟩)) ⟨rfl, rfl, rfl, rfl, trivial⟩) (by first | omega | (simp; omega)) (by first | omega | (simp; omega)) rfl ?_
       intro v2 seg2 hrow3
       have hrowN : Row 60 4 v2 (out ++ [x]).length (factsV (out ++ [x])) seg2 := by rw [factsV_snoc, List.length_append]; exact hrow3
       refine TL.assign rfl rfl ?_; refine TL.nil ?_; refine TQ.in_n ?_; refine TQ.then_n ?_; refine TC.region ?_; refine TL.move rfl rfl ?_; refine TL.add rfl rfl rfl ⟨by omega, by omega⟩ ?_; refine TL.assign rfl rfl ?_; refine TL.nil ?_
       refine TQ.sel 3 [1, 2] rfl (fun o ho => ?_)
       simp only [K.sel, List.map_cons, List.map_nil, List.getD_cons_zero, List.getD_cons_succ, List.drop_succ_cons, List.drop_zero, List.cons_append, List.nil_append, List.set_cons_zero, List.set_cons_succ] at ho; subst ho
       refine TQ.next (l.length - (i + 1)) [(0, _), (3, _), (5, _), (6, _), (7, _)] (by omega) ⟨rfl, rfl, rfl, rfl, rfl, trivial⟩ ⟨i + 1, false, (out ++ [x]), _, _, rfl, by omega, ?_, ?_, hrowN, by simp, rfl, hle0⟩
       · rw [hinv, hdr]
         simp [putL, hkb, hsk]
       · first | omega | (simp; omega)
    ·
     have hsk : ¬ x.key = f.key := by simpa using hsm
     refine TC.drawQV 5  [(0, _), (3, _), (5, _), (6, _), (7, _)] follows_mixed ⟨rfl, rfl, rfl, rfl, rfl, trivial⟩ ?_; refine ChainV.q (some 19) [] (fun _ _ _ _ hF => TL.move rfl rfl (TL.one hF)) ?_; refine ChainV.q (some 20) [] (fun _ _ _ _ hF => TL.move rfl rfl (TL.one hF)) ?_; refine ChainV.q (some 21) [(0, 1), (1, 0)] (fun _ _ _ _ hF => TL.indexAddr (i) rfl rfl rfl (by omega) rfl (TL.one hF)) ?_
     refine ChainV.q (some 22) [(2, 0)] (by
      intro H' X F hle; have hL := Le.trans hL hle; have hpx := hAt.mono hle hpx; intro hF; refine TL.load_immA rfl (hpx) rfl rfl ?_
      exact TL.one hF) ?_
     refine ChainV.q (some 23) [] (by
      intro H' X F hle; have hL := Le.trans hL hle; intro hF; refine TL.load_ownA 1 0 [_, _, _, _] rfl rfl rfl ⟨rfl, rfl, rfl, rfl, trivial⟩ rfl rfl ?_
      exact TL.one hF) ?_
     refine ⟨by kernel_rfl, .refl _, ?_⟩
     ·
      intro H3 hle; have hL := Le.trans hL hle; have hle0 := Le.trans hle0 hle; have hpx := hAt.mono hle hpx; refine TL.toOwn (own' := _ :: _ :: own) rfl ?_; refine TL.wk (env' := [(0, _), (3, _), (5, _), (6, _), (7, _), (22, _), (23, _)]) ⟨rfl, rfl, rfl, rfl, rfl, rfl, rfl, trivial⟩ ?_; refine TL.call (ref_same hx1 hf) ⟨rfl, rfl, trivial⟩ rfl ?_
      rintro _ own H24 ⟨rfl, rfl, hle24⟩
      rw [hsm]
      have hL := Le.trans hL hle24; have hle0 := Le.trans hle0 hle24; have hpx := hAt.mono hle24 hpx; refine TL.assign rfl rfl ?_; refine TL.nil ?_; refine TQ.then_n ?_; refine TC.seq ?_; refine TC.drawQV 5  [(0, _), (3, _), (5, _), (6, _), (7, _), (8, _)] follows_mixed ⟨rfl, rfl, rfl, rfl, rfl, rfl, trivial⟩ ?_
      refine ChainV.q (some 25) [] (by
       intro H' X F hle; have hL := Le.trans hL hle; intro hF; refine TL.load_ownA 1 0 [_, _, _, _] rfl rfl rfl ⟨rfl, rfl, rfl, rfl, trivial⟩ rfl rfl ?_
       exact TL.one hF) ?_
      refine ChainV.q (some 26) [] (fun _ _ _ _ hF => TL.move rfl rfl (TL.one hF)) ?_; refine ChainV.q (some 27) [] (fun _ _ _ _ hF => TL.move rfl rfl (TL.one hF)) ?_; refine ChainV.q (some 28) [(1, 1), (2, 0)] (fun _ _ _ _ hF => TL.indexAddr (i) rfl rfl rfl (by omega) rfl (TL.one hF)) ?_
      refine ChainV.q (some 29) [(3, 0)] (by
       intro H' X F hle; have hL := Le.trans hL hle; have hpx := hAt.mono hle hpx; intro hF; refine TL.load_immA rfl (hpx) rfl rfl ?_
       exact TL.one hF) ?_
      refine ⟨by kernel_rfl, .refl _, ?_⟩
      ·
       intro H4 hle; have hL := Le.trans hL hle; have hle0 := Le.trans hle0 hle; have hpx := hAt.mono hle hpx; refine TL.toOwn (own' := _ :: _ :: own) rfl ?_; refine TL.wk (env' := [(0, _), (3, _), (5, _), (6, _), (7, _), (8, _), (25, _), (29, _)]) ⟨rfl, rfl, rfl, rfl, rfl, rfl, rfl, rfl, trivial⟩ ?_; refine TL.call (ref_before) ⟨rfl, rfl, trivial⟩ rfl ?_
       rintro _ own H30 ⟨rfl, rfl, hle30⟩
       rw [hkb]
       have hL := Le.trans hL hle30; have hle0 := Le.trans hle0 hle30; have hpx := hAt.mono hle30 hpx; refine TL.assign rfl rfl ?_; refine TL.nil ?_; refine TQ.then_n ?_; refine TC.seq ?_; refine TC.seq ?_; refine TC.region ?_; refine TL.move rfl rfl ?_; refine TL.not rfl rfl ?_; refine TL.move rfl rfl ?_; refine TL.gno rfl rfl rfl rfl ?_; refine TL.gno rfl rfl rfl rfl ?_; refine TL.gund rfl rfl rfl ?_; refine TL.gno rfl rfl rfl rfl ?_; refine TL.pickF rfl rfl rfl rfl ?_; refine TL.nil ?_; refine TQ.then_n ?_; refine TC.cond_f rfl ?_; refine TC.skip ?_; refine TQ.nsr ?_; refine TL.move rfl rfl ?_; refine TL.not rfl rfl ?_; refine TL.nil ?_; refine TQ.then_n ?_; refine TC.cond_t rfl ?_; refine TC.region ?_; refine TL.move rfl rfl ?_; refine TL.move rfl rfl ?_; refine TL.move rfl rfl ?_; refine TL.indexAddr (i) rfl rfl rfl (by omega) rfl ?_; refine TL.load_immA rfl (hpx) rfl rfl ?_
       refine TL.litF (r := [_, _, _, _]) [(0, [_, _, _, _])] ⟨rfl, ⟨_, rfl, rfl⟩, trivial⟩ rfl rfl rfl rfl ?_; intro g50; refine TL.append 1 rfl rfl rfl hrow (Src.ofOwn 0 0 rfl rfl rfl (Ones.all (show Ones [_, _, _, _] from ⟨by rfl, by rfl, by rfl, by rfl, trivial⟩)) ⟨rfl, rfl, rfl, rfl, trivial⟩) (by first | omega | (simp; omega)) (by first | omega | (simp; omega)) rfl ?_
       intro v2 seg2 hrow3
       have hrowN : Row 60 4 v2 (out ++ [x]).length (factsV (out ++ [x])) seg2 := by rw [factsV_snoc, List.length_append]; exact hrow3
       refine TL.assign rfl rfl ?_; refine TL.nil ?_; refine TQ.in_n ?_; refine TQ.then_n ?_; refine TC.region ?_; refine TL.move rfl rfl ?_; refine TL.add rfl rfl rfl ⟨by omega, by omega⟩ ?_; refine TL.assign rfl rfl ?_; refine TL.nil ?_
       refine TQ.sel 3 [1, 2] rfl (fun o ho => ?_)
       simp only [K.sel, List.map_cons, List.map_nil, List.getD_cons_zero, List.getD_cons_succ, List.drop_succ_cons, List.drop_zero, List.cons_append, List.nil_append, List.set_cons_zero, List.set_cons_succ] at ho; subst ho
       refine TQ.next (l.length - (i + 1)) [(0, _), (3, _), (5, _), (6, _), (7, _)] (by omega) ⟨rfl, rfl, rfl, rfl, rfl, trivial⟩ ⟨i + 1, true, (out ++ [x]), _, _, rfl, by omega, ?_, ?_, hrowN, by simp, rfl, hle0⟩
       · rw [hinv, hdr]
         simp [putL, hkb, hsk]
       · first | omega | (simp; omega)
    ·
     have hsk : ¬ x.key = f.key := by simpa using hsm
     refine TC.drawQV 5  [(0, _), (3, _), (5, _), (6, _), (7, _)] follows_mixed ⟨rfl, rfl, rfl, rfl, rfl, trivial⟩ ?_; refine ChainV.q (some 19) [] (fun _ _ _ _ hF => TL.move rfl rfl (TL.one hF)) ?_; refine ChainV.q (some 20) [] (fun _ _ _ _ hF => TL.move rfl rfl (TL.one hF)) ?_; refine ChainV.q (some 21) [(0, 1), (1, 0)] (fun _ _ _ _ hF => TL.indexAddr (i) rfl rfl rfl (by omega) rfl (TL.one hF)) ?_
     refine ChainV.q (some 22) [(2, 0)] (by
      intro H' X F hle; have hL := Le.trans hL hle; have hpx := hAt.mono hle hpx; intro hF; refine TL.load_immA rfl (hpx) rfl rfl ?_
      exact TL.one hF) ?_
     refine ChainV.q (some 23) [] (by
      intro H' X F hle; have hL := Le.trans hL hle; intro hF; refine TL.load_ownA 1 0 [_, _, _, _] rfl rfl rfl ⟨rfl, rfl, rfl, rfl, trivial⟩ rfl rfl ?_
      exact TL.one hF) ?_
     refine ⟨by kernel_rfl, .refl _, ?_⟩
     ·
      intro H5 hle; have hL := Le.trans hL hle; have hle0 := Le.trans hle0 hle; have hpx := hAt.mono hle hpx; refine TL.toOwn (own' := _ :: _ :: own) rfl ?_; refine TL.wk (env' := [(0, _), (3, _), (5, _), (6, _), (7, _), (22, _), (23, _)]) ⟨rfl, rfl, rfl, rfl, rfl, rfl, rfl, trivial⟩ ?_; refine TL.call (ref_same hx1 hf) ⟨rfl, rfl, trivial⟩ rfl ?_
      rintro _ own H24 ⟨rfl, rfl, hle24⟩
      rw [hsm]
      have hL := Le.trans hL hle24; have hle0 := Le.trans hle0 hle24; have hpx := hAt.mono hle24 hpx; refine TL.assign rfl rfl ?_; refine TL.nil ?_; refine TQ.then_n ?_; refine TC.seq ?_; refine TC.drawQV 5  [(0, _), (3, _), (5, _), (6, _), (7, _), (8, _)] follows_mixed ⟨rfl, rfl, rfl, rfl, rfl, rfl, trivial⟩ ?_
      refine ChainV.q (some 25) [] (by
       intro H' X F hle; have hL := Le.trans hL hle; intro hF; refine TL.load_ownA 1 0 [_, _, _, _] rfl rfl rfl ⟨rfl, rfl, rfl, rfl, trivial⟩ rfl rfl ?_
       exact TL.one hF) ?_
      refine ChainV.q (some 26) [] (fun _ _ _ _ hF => TL.move rfl rfl (TL.one hF)) ?_; refine ChainV.q (some 27) [] (fun _ _ _ _ hF => TL.move rfl rfl (TL.one hF)) ?_; refine ChainV.q (some 28) [(1, 1), (2, 0)] (fun _ _ _ _ hF => TL.indexAddr (i) rfl rfl rfl (by omega) rfl (TL.one hF)) ?_
      refine ChainV.q (some 29) [(3, 0)] (by
       intro H' X F hle; have hL := Le.trans hL hle; have hpx := hAt.mono hle hpx; intro hF; refine TL.load_immA rfl (hpx) rfl rfl ?_
       exact TL.one hF) ?_
      refine ⟨by kernel_rfl, .refl _, ?_⟩
      ·
       intro H6 hle; have hL := Le.trans hL hle; have hle0 := Le.trans hle0 hle; have hpx := hAt.mono hle hpx; refine TL.toOwn (own' := _ :: _ :: own) rfl ?_; refine TL.wk (env' := [(0, _), (3, _), (5, _), (6, _), (7, _), (8, _), (25, _), (29, _)]) ⟨rfl, rfl, rfl, rfl, rfl, rfl, rfl, rfl, trivial⟩ ?_; refine TL.call (ref_before) ⟨rfl, rfl, trivial⟩ rfl ?_
       rintro _ own H30 ⟨rfl, rfl, hle30⟩
       rw [hkb]
       have hL := Le.trans hL hle30; have hle0 := Le.trans hle0 hle30; have hpx := hAt.mono hle30 hpx; refine TL.assign rfl rfl ?_; refine TL.nil ?_; refine TQ.then_n ?_; refine TC.seq ?_; refine TC.seq ?_; refine TC.region ?_; refine TL.move rfl rfl ?_; refine TL.not rfl rfl ?_; refine TL.move rfl rfl ?_; refine TL.gyes rfl rfl rfl ?_; refine TL.move rfl rfl ?_; refine TL.gyes rfl rfl rfl ?_; refine TL.move rfl rfl ?_; refine TL.gyes rfl rfl rfl ?_; refine TL.move rfl rfl ?_; refine TL.gyes rfl rfl rfl ?_; refine TL.pickF rfl rfl rfl rfl ?_; refine TL.pickT rfl rfl rfl rfl ?_; refine TL.nil ?_; refine TQ.then_n ?_; refine TC.cond_t rfl ?_; refine TC.seq ?_; refine TC.region ?_; refine TL.move rfl rfl ?_; refine TL.load_ownA 1 0 [_, _, _, _] rfl rfl rfl ⟨rfl, rfl, rfl, rfl, trivial⟩ rfl rfl ?_
       refine TL.litF (r := [_, _, _, _]) [(0, [_, _, _, _])] ⟨rfl, ⟨_, rfl, rfl⟩, trivial⟩ rfl rfl rfl rfl ?_; intro g41; refine TL.append 1 rfl rfl rfl hrow (Src.ofOwn 0 0 rfl rfl rfl (Ones.all (show Ones [_, _, _, _] from ⟨by rfl, by rfl, by rfl, by rfl, trivial⟩)) ⟨rfl, rfl, rfl, rfl, trivial⟩) (by omega) (by omega) rfl ?_; intro v1 seg1 hrow1
       have hrow2 : Row 60 4 v1 (out ++ [f]).length (factsV (out ++ [f])) seg1 := by rw [factsV_snoc, List.length_append]; exact hrow1
       refine TL.assign rfl rfl ?_; refine TL.nil ?_; refine TQ.then_n ?_; refine TC.region ?_; refine TL.assign rfl rfl ?_; refine TL.nsr ?_; refine TL.move rfl rfl ?_; refine TL.not rfl rfl ?_; refine TL.nil ?_; refine TQ.then_n ?_; refine TC.cond_t rfl ?_; refine TC.region ?_; refine TL.move rfl rfl ?_; refine TL.move rfl rfl ?_; refine TL.move rfl rfl ?_; refine TL.indexAddr (i) rfl rfl rfl (by omega) rfl ?_; refine TL.load_immA rfl (hpx) rfl rfl ?_
       refine TL.litF (r := [_, _, _, _]) [(0, [_, _, _, _])] ⟨rfl, ⟨_, rfl, rfl⟩, trivial⟩ rfl rfl rfl rfl ?_; intro g50; refine TL.append 2 rfl rfl rfl hrow2 (Src.ofOwn 0 0 rfl rfl rfl (Ones.all (show Ones [_, _, _, _] from ⟨by rfl, by rfl, by rfl, by rfl, trivial⟩)) ⟨rfl, rfl, rfl, rfl, trivial⟩) (by first | omega | (simp; omega)) (by first | omega | (simp; omega)) rfl ?_
       intro v2 seg2 hrow3
       have hrowN : Row 60 4 v2 (out ++ [f] ++ [x]).length (factsV (out ++ [f] ++ [x])) seg2 := by rw [factsV_snoc, List.length_append]; exact hrow3
       refine TL.assign rfl rfl ?_; refine TL.nil ?_; refine TQ.in_n ?_; refine TQ.then_n ?_; refine TC.region ?_; refine TL.move rfl rfl ?_; refine TL.add rfl rfl rfl ⟨by omega, by omega⟩ ?_; refine TL.assign rfl rfl ?_; refine TL.nil ?_
       refine TQ.sel 4 [2, 3] rfl (fun o ho => ?_)
       simp only [K.sel, List.map_cons, List.map_nil, List.getD_cons_zero, List.getD_cons_succ, List.drop_succ_cons, List.drop_zero, List.cons_append, List.nil_append, List.set_cons_zero, List.set_cons_succ] at ho; subst ho
       refine TQ.next (l.length - (i + 1)) [(0, _), (3, _), (5, _), (6, _), (7, _)] (by omega) ⟨rfl, rfl, rfl, rfl, rfl, trivial⟩ ⟨i + 1, true, (out ++ [f] ++ [x]), _, _, rfl, by omega, ?_, ?_, hrowN, by simp, rfl, hle0⟩
       · rw [hinv, hdr]
         simp [putL, hkb, hsk]
       · first | omega | (simp; omega)
    ·
     have hsk : ¬ x.key = f.key := by simpa using hsm
     refine TC.drawQV 5  [(0, _), (3, _), (5, _), (6, _), (7, _)] follows_mixed ⟨rfl, rfl, rfl, rfl, rfl, trivial⟩ ?_; refine ChainV.q (some 19) [] (fun _ _ _ _ hF => TL.move rfl rfl (TL.one hF)) ?_; refine ChainV.q (some 20) [] (fun _ _ _ _ hF => TL.move rfl rfl (TL.one hF)) ?_; refine ChainV.q (some 21) [(0, 1), (1, 0)] (fun _ _ _ _ hF => TL.indexAddr (i) rfl rfl rfl (by omega) rfl (TL.one hF)) ?_
     refine ChainV.q (some 22) [(2, 0)] (by
      intro H' X F hle; have hL := Le.trans hL hle; have hpx := hAt.mono hle hpx; intro hF; refine TL.load_immA rfl (hpx) rfl rfl ?_
      exact TL.one hF) ?_
     refine ChainV.q (some 23) [] (by
      intro H' X F hle; have hL := Le.trans hL hle; intro hF; refine TL.load_ownA 1 0 [_, _, _, _] rfl rfl rfl ⟨rfl, rfl, rfl, rfl, trivial⟩ rfl rfl ?_
      exact TL.one hF) ?_
     refine ⟨by kernel_rfl, .refl _, ?_⟩
     ·
      intro H7 hle; have hL := Le.trans hL hle; have hle0 := Le.trans hle0 hle; have hpx := hAt.mono hle hpx; refine TL.toOwn (own' := _ :: _ :: own) rfl ?_; refine TL.wk (env' := [(0, _), (3, _), (5, _), (6, _), (7, _), (22, _), (23, _)]) ⟨rfl, rfl, rfl, rfl, rfl, rfl, rfl, trivial⟩ ?_; refine TL.call (ref_same hx1 hf) ⟨rfl, rfl, trivial⟩ rfl ?_
      rintro _ own H24 ⟨rfl, rfl, hle24⟩
      rw [hsm]
      have hL := Le.trans hL hle24; have hle0 := Le.trans hle0 hle24; have hpx := hAt.mono hle24 hpx; refine TL.assign rfl rfl ?_; refine TL.nil ?_; refine TQ.then_n ?_; refine TC.seq ?_; refine TC.drawQV 5  [(0, _), (3, _), (5, _), (6, _), (7, _), (8, _)] follows_mixed ⟨rfl, rfl, rfl, rfl, rfl, rfl, trivial⟩ ?_
      refine ChainV.q (some 25) [] (by
       intro H' X F hle; have hL := Le.trans hL hle; intro hF; refine TL.load_ownA 1 0 [_, _, _, _] rfl rfl rfl ⟨rfl, rfl, rfl, rfl, trivial⟩ rfl rfl ?_
       exact TL.one hF) ?_
      refine ChainV.q (some 26) [] (fun _ _ _ _ hF => TL.move rfl rfl (TL.one hF)) ?_; refine ChainV.q (some 27) [] (fun _ _ _ _ hF => TL.move rfl rfl (TL.one hF)) ?_; refine ChainV.q (some 28) [(1, 1), (2, 0)] (fun _ _ _ _ hF => TL.indexAddr (i) rfl rfl rfl (by omega) rfl (TL.one hF)) ?_
      refine ChainV.q (some 29) [(3, 0)] (by
       intro H' X F hle; have hL := Le.trans hL hle; have hpx := hAt.mono hle hpx; intro hF; refine TL.load_immA rfl (hpx) rfl rfl ?_
       exact TL.one hF) ?_
      refine ⟨by kernel_rfl, .refl _, ?_⟩
      ·
       intro H8 hle; have hL := Le.trans hL hle; have hle0 := Le.trans hle0 hle; have hpx := hAt.mono hle hpx; refine TL.toOwn (own' := _ :: _ :: own) rfl ?_; refine TL.wk (env' := [(0, _), (3, _), (5, _), (6, _), (7, _), (8, _), (25, _), (29, _)]) ⟨rfl, rfl, rfl, rfl, rfl, rfl, rfl, rfl, trivial⟩ ?_; refine TL.call (ref_before) ⟨rfl, rfl, trivial⟩ rfl ?_
       rintro _ own H30 ⟨rfl, rfl, hle30⟩
       rw [hkb]
       have hL := Le.trans hL hle30; have hle0 := Le.trans hle0 hle30; have hpx := hAt.mono hle30 hpx; refine TL.assign rfl rfl ?_; refine TL.nil ?_; refine TQ.then_n ?_; refine TC.seq ?_; refine TC.seq ?_; refine TC.region ?_; refine TL.move rfl rfl ?_; refine TL.not rfl rfl ?_; refine TL.move rfl rfl ?_; refine TL.gno rfl rfl rfl rfl ?_; refine TL.gno rfl rfl rfl rfl ?_; refine TL.gund rfl rfl rfl ?_; refine TL.gno rfl rfl rfl rfl ?_; refine TL.pickF rfl rfl rfl rfl ?_; refine TL.nil ?_; refine TQ.then_n ?_; refine TC.cond_f rfl ?_; refine TC.skip ?_; refine TQ.nsr ?_; refine TL.move rfl rfl ?_; refine TL.not rfl rfl ?_; refine TL.nil ?_; refine TQ.then_n ?_; refine TC.cond_t rfl ?_; refine TC.region ?_; refine TL.move rfl rfl ?_; refine TL.move rfl rfl ?_; refine TL.move rfl rfl ?_; refine TL.indexAddr (i) rfl rfl rfl (by omega) rfl ?_; refine TL.load_immA rfl (hpx) rfl rfl ?_
       refine TL.litF (r := [_, _, _, _]) [(0, [_, _, _, _])] ⟨rfl, ⟨_, rfl, rfl⟩, trivial⟩ rfl rfl rfl rfl ?_; intro g50; refine TL.append 1 rfl rfl rfl hrow (Src.ofOwn 0 0 rfl rfl rfl (Ones.all (show Ones [_, _, _, _] from ⟨by rfl, by rfl, by rfl, by rfl, trivial⟩)) ⟨rfl, rfl, rfl, rfl, trivial⟩) (by first | omega | (simp; omega)) (by first | omega | (simp; omega)) rfl ?_
       intro v2 seg2 hrow3
       have hrowN : Row 60 4 v2 (out ++ [x]).length (factsV (out ++ [x])) seg2 := by rw [factsV_snoc, List.length_append]; exact hrow3
       refine TL.assign rfl rfl ?_; refine TL.nil ?_; refine TQ.in_n ?_; refine TQ.then_n ?_; refine TC.region ?_; refine TL.move rfl rfl ?_; refine TL.add rfl rfl rfl ⟨by omega, by omega⟩ ?_; refine TL.assign rfl rfl ?_; refine TL.nil ?_
       refine TQ.sel 3 [1, 2] rfl (fun o ho => ?_)
       simp only [K.sel, List.map_cons, List.map_nil, List.getD_cons_zero, List.getD_cons_succ, List.drop_succ_cons, List.drop_zero, List.cons_append, List.nil_append, List.set_cons_zero, List.set_cons_succ] at ho; subst ho
       refine TQ.next (l.length - (i + 1)) [(0, _), (3, _), (5, _), (6, _), (7, _)] (by omega) ⟨rfl, rfl, rfl, rfl, rfl, trivial⟩ ⟨i + 1, true, (out ++ [x]), _, _, rfl, by omega, ?_, ?_, hrowN, by simp, rfl, hle0⟩
       · rw [hinv, hdr]
         simp [putL, hkb, hsk]
       · first | omega | (simp; omega)
    ·
     have hsk : x.key = f.key := by simpa using hsm
     refine TC.drawQV 5  [(0, _), (3, _), (5, _), (6, _), (7, _)] follows_mixed ⟨rfl, rfl, rfl, rfl, rfl, trivial⟩ ?_; refine ChainV.q (some 19) [] (fun _ _ _ _ hF => TL.move rfl rfl (TL.one hF)) ?_; refine ChainV.q (some 20) [] (fun _ _ _ _ hF => TL.move rfl rfl (TL.one hF)) ?_; refine ChainV.q (some 21) [(0, 1), (1, 0)] (fun _ _ _ _ hF => TL.indexAddr (i) rfl rfl rfl (by omega) rfl (TL.one hF)) ?_
     refine ChainV.q (some 22) [(2, 0)] (by
      intro H' X F hle; have hL := Le.trans hL hle; have hpx := hAt.mono hle hpx; intro hF; refine TL.load_immA rfl (hpx) rfl rfl ?_
      exact TL.one hF) ?_
     refine ChainV.q (some 23) [] (by
      intro H' X F hle; have hL := Le.trans hL hle; intro hF; refine TL.load_ownA 1 0 [_, _, _, _] rfl rfl rfl ⟨rfl, rfl, rfl, rfl, trivial⟩ rfl rfl ?_
      exact TL.one hF) ?_
     refine ⟨by kernel_rfl, .refl _, ?_⟩
     ·
      intro H9 hle; have hL := Le.trans hL hle; have hle0 := Le.trans hle0 hle; have hpx := hAt.mono hle hpx; refine TL.toOwn (own' := _ :: _ :: own) rfl ?_; refine TL.wk (env' := [(0, _), (3, _), (5, _), (6, _), (7, _), (22, _), (23, _)]) ⟨rfl, rfl, rfl, rfl, rfl, rfl, rfl, trivial⟩ ?_; refine TL.call (ref_same hx1 hf) ⟨rfl, rfl, trivial⟩ rfl ?_
      rintro _ own H24 ⟨rfl, rfl, hle24⟩
      rw [hsm]
      have hL := Le.trans hL hle24; have hle0 := Le.trans hle0 hle24; have hpx := hAt.mono hle24 hpx; refine TL.assign rfl rfl ?_; refine TL.nil ?_; refine TQ.then_n ?_; refine TC.seq ?_; refine TC.drawQV 5  [(0, _), (3, _), (5, _), (6, _), (7, _), (8, _)] follows_mixed ⟨rfl, rfl, rfl, rfl, rfl, rfl, trivial⟩ ?_
      refine ChainV.q (some 25) [] (by
       intro H' X F hle; have hL := Le.trans hL hle; intro hF; refine TL.load_ownA 1 0 [_, _, _, _] rfl rfl rfl ⟨rfl, rfl, rfl, rfl, trivial⟩ rfl rfl ?_
       exact TL.one hF) ?_
      refine ChainV.q (some 26) [] (fun _ _ _ _ hF => TL.move rfl rfl (TL.one hF)) ?_; refine ChainV.q (some 27) [] (fun _ _ _ _ hF => TL.move rfl rfl (TL.one hF)) ?_; refine ChainV.q (some 28) [(1, 1), (2, 0)] (fun _ _ _ _ hF => TL.indexAddr (i) rfl rfl rfl (by omega) rfl (TL.one hF)) ?_
      refine ChainV.q (some 29) [(3, 0)] (by
       intro H' X F hle; have hL := Le.trans hL hle; have hpx := hAt.mono hle hpx; intro hF; refine TL.load_immA rfl (hpx) rfl rfl ?_
       exact TL.one hF) ?_
      refine ⟨by kernel_rfl, .refl _, ?_⟩
      ·
       intro H10 hle; have hL := Le.trans hL hle; have hle0 := Le.trans hle0 hle; refine TL.toOwn (own' := _ :: _ :: own) rfl ?_; refine TL.wk (env' := [(0, _), (3, _), (5, _), (6, _), (7, _), (8, _), (25, _), (29, _)]) ⟨rfl, rfl, rfl, rfl, rfl, rfl, rfl, rfl, trivial⟩ ?_; refine TL.call (ref_before) ⟨rfl, rfl, trivial⟩ rfl ?_
       rintro _ own H30 ⟨rfl, rfl, hle30⟩
       rw [hkb]
       have hL := Le.trans hL hle30; have hle0 := Le.trans hle0 hle30; refine TL.assign rfl rfl ?_; refine TL.nil ?_; refine TQ.then_n ?_; refine TC.seq ?_; refine TC.seq ?_; refine TC.region ?_; refine TL.move rfl rfl ?_; refine TL.not rfl rfl ?_; refine TL.move rfl rfl ?_; refine TL.gyes rfl rfl rfl ?_; refine TL.move rfl rfl ?_; refine TL.gyes rfl rfl rfl ?_; refine TL.move rfl rfl ?_; refine TL.gno rfl rfl rfl rfl ?_; refine TL.gyes rfl rfl rfl ?_; refine TL.pickT rfl rfl rfl rfl ?_; refine TL.pickT rfl rfl rfl rfl ?_; refine TL.nil ?_; refine TQ.then_n ?_; refine TC.cond_t rfl ?_; refine TC.seq ?_; refine TC.region ?_; refine TL.move rfl rfl ?_; refine TL.load_ownA 1 0 [_, _, _, _] rfl rfl rfl ⟨rfl, rfl, rfl, rfl, trivial⟩ rfl rfl ?_
       refine TL.litF (r := [_, _, _, _]) [(0, [_, _, _, _])] ⟨rfl, ⟨_, rfl, rfl⟩, trivial⟩ rfl rfl rfl rfl ?_; intro g41; refine TL.append 1 rfl rfl rfl hrow (Src.ofOwn 0 0 rfl rfl rfl (Ones.all (show Ones [_, _, _, _] from ⟨by rfl, by rfl, by rfl, by rfl, trivial⟩)) ⟨rfl, rfl, rfl, rfl, trivial⟩) (by omega) (by omega) rfl ?_; intro v1 seg1 hrow1
       have hrow2 : Row 60 4 v1 (out ++ [f]).length (factsV (out ++ [f])) seg1 := by rw [factsV_snoc, List.length_append]; exact hrow1
       refine TL.assign rfl rfl ?_; refine TL.nil ?_; refine TQ.then_n ?_; refine TC.region ?_; refine TL.assign rfl rfl ?_; refine TL.nsr ?_; refine TL.move rfl rfl ?_; refine TL.not rfl rfl ?_; refine TL.nil ?_; refine TQ.then_n ?_; refine TC.cond_f rfl ?_; refine TC.skip ?_; refine TQ.in_n ?_; refine TQ.then_n ?_; refine TC.region ?_; refine TL.move rfl rfl ?_; refine TL.add rfl rfl rfl ⟨by omega, by omega⟩ ?_; refine TL.assign rfl rfl ?_; refine TL.nil ?_
       refine TQ.sel 3 [1, 2] rfl (fun o ho => ?_)
       simp only [K.sel, List.map_cons, List.map_nil, List.getD_cons_zero, List.getD_cons_succ, List.drop_succ_cons, List.drop_zero, List.cons_append, List.nil_append, List.set_cons_zero, List.set_cons_succ] at ho; subst ho
       have hrowN := hrow2
       refine TQ.next (l.length - (i + 1)) [(0, _), (3, _), (5, _), (6, _), (7, _)] (by omega) ⟨rfl, rfl, rfl, rfl, rfl, trivial⟩ ⟨i + 1, true, (out ++ [f]), _, _, rfl, by omega, ?_, ?_, hrowN, by simp, rfl, hle0⟩
       · rw [hinv, hdr]
         simp [putL, hkb, hsk]
       · first | omega | (simp; omega)
    ·
     have hsk : x.key = f.key := by simpa using hsm
     refine TC.drawQV 5  [(0, _), (3, _), (5, _), (6, _), (7, _)] follows_mixed ⟨rfl, rfl, rfl, rfl, rfl, trivial⟩ ?_; refine ChainV.q (some 19) [] (fun _ _ _ _ hF => TL.move rfl rfl (TL.one hF)) ?_; refine ChainV.q (some 20) [] (fun _ _ _ _ hF => TL.move rfl rfl (TL.one hF)) ?_; refine ChainV.q (some 21) [(0, 1), (1, 0)] (fun _ _ _ _ hF => TL.indexAddr (i) rfl rfl rfl (by omega) rfl (TL.one hF)) ?_
     refine ChainV.q (some 22) [(2, 0)] (by
      intro H' X F hle; have hL := Le.trans hL hle; have hpx := hAt.mono hle hpx; intro hF; refine TL.load_immA rfl (hpx) rfl rfl ?_
      exact TL.one hF) ?_
     refine ChainV.q (some 23) [] (by
      intro H' X F hle; have hL := Le.trans hL hle; intro hF; refine TL.load_ownA 1 0 [_, _, _, _] rfl rfl rfl ⟨rfl, rfl, rfl, rfl, trivial⟩ rfl rfl ?_
      exact TL.one hF) ?_
     refine ⟨by kernel_rfl, .refl _, ?_⟩
     ·
      intro H11 hle; have hL := Le.trans hL hle; have hle0 := Le.trans hle0 hle; have hpx := hAt.mono hle hpx; refine TL.toOwn (own' := _ :: _ :: own) rfl ?_; refine TL.wk (env' := [(0, _), (3, _), (5, _), (6, _), (7, _), (22, _), (23, _)]) ⟨rfl, rfl, rfl, rfl, rfl, rfl, rfl, trivial⟩ ?_; refine TL.call (ref_same hx1 hf) ⟨rfl, rfl, trivial⟩ rfl ?_
      rintro _ own H24 ⟨rfl, rfl, hle24⟩
      rw [hsm]
      have hL := Le.trans hL hle24; have hle0 := Le.trans hle0 hle24; have hpx := hAt.mono hle24 hpx; refine TL.assign rfl rfl ?_; refine TL.nil ?_; refine TQ.then_n ?_; refine TC.seq ?_; refine TC.drawQV 5  [(0, _), (3, _), (5, _), (6, _), (7, _), (8, _)] follows_mixed ⟨rfl, rfl, rfl, rfl, rfl, rfl, trivial⟩ ?_
      refine ChainV.q (some 25) [] (by
       intro H' X F hle; have hL := Le.trans hL hle; intro hF; refine TL.load_ownA 1 0 [_, _, _, _] rfl rfl rfl ⟨rfl, rfl, rfl, rfl, trivial⟩ rfl rfl ?_
       exact TL.one hF) ?_
      refine ChainV.q (some 26) [] (fun _ _ _ _ hF => TL.move rfl rfl (TL.one hF)) ?_; refine ChainV.q (some 27) [] (fun _ _ _ _ hF => TL.move rfl rfl (TL.one hF)) ?_; refine ChainV.q (some 28) [(1, 1), (2, 0)] (fun _ _ _ _ hF => TL.indexAddr (i) rfl rfl rfl (by omega) rfl (TL.one hF)) ?_
      refine ChainV.q (some 29) [(3, 0)] (by
       intro H' X F hle; have hL := Le.trans hL hle; have hpx := hAt.mono hle hpx; intro hF; refine TL.load_immA rfl (hpx) rfl rfl ?_
       exact TL.one hF) ?_
      refine ⟨by kernel_rfl, .refl _, ?_⟩
      ·
       intro H12 hle; have hL := Le.trans hL hle; have hle0 := Le.trans hle0 hle; refine TL.toOwn (own' := _ :: _ :: own) rfl ?_; refine TL.wk (env' := [(0, _), (3, _), (5, _), (6, _), (7, _), (8, _), (25, _), (29, _)]) ⟨rfl, rfl, rfl, rfl, rfl, rfl, rfl, rfl, trivial⟩ ?_; refine TL.call (ref_before) ⟨rfl, rfl, trivial⟩ rfl ?_
       rintro _ own H30 ⟨rfl, rfl, hle30⟩
       rw [hkb]
       have hL := Le.trans hL hle30; have hle0 := Le.trans hle0 hle30; refine TL.assign rfl rfl ?_; refine TL.nil ?_; refine TQ.then_n ?_; refine TC.seq ?_; refine TC.seq ?_; refine TC.region ?_; refine TL.move rfl rfl ?_; refine TL.not rfl rfl ?_; refine TL.move rfl rfl ?_; refine TL.gno rfl rfl rfl rfl ?_; refine TL.gno rfl rfl rfl rfl ?_; refine TL.gund rfl rfl rfl ?_; refine TL.gno rfl rfl rfl rfl ?_; refine TL.pickF rfl rfl rfl rfl ?_; refine TL.nil ?_; refine TQ.then_n ?_; refine TC.cond_f rfl ?_; refine TC.skip ?_; refine TQ.nsr ?_; refine TL.move rfl rfl ?_; refine TL.not rfl rfl ?_; refine TL.nil ?_; refine TQ.then_n ?_; refine TC.cond_f rfl ?_; refine TC.skip ?_; refine TQ.in_n ?_; refine TQ.then_n ?_; refine TC.region ?_; refine TL.move rfl rfl ?_; refine TL.add rfl rfl rfl ⟨by omega, by omega⟩ ?_; refine TL.assign rfl rfl ?_; refine TL.nil ?_
       refine TQ.toOwn (own' := _ :: _ :: own) rfl ?_; have hrowN := hrow
       refine TQ.next (l.length - (i + 1)) [(0, _), (3, _), (5, _), (6, _), (7, _)] (by omega) ⟨rfl, rfl, rfl, rfl, rfl, trivial⟩ ⟨i + 1, true, (out), _, _, rfl, by omega, ?_, ?_, hrowN, by simp, rfl, hle0⟩
       · rw [hinv, hdr]
         simp [putL, hkb, hsk]
       · first | omega | (simp; omega)
    ·
     have hsk : x.key = f.key := by simpa using hsm
     refine TC.drawQV 5  [(0, _), (3, _), (5, _), (6, _), (7, _)] follows_mixed ⟨rfl, rfl, rfl, rfl, rfl, trivial⟩ ?_; refine ChainV.q (some 19) [] (fun _ _ _ _ hF => TL.move rfl rfl (TL.one hF)) ?_; refine ChainV.q (some 20) [] (fun _ _ _ _ hF => TL.move rfl rfl (TL.one hF)) ?_; refine ChainV.q (some 21) [(0, 1), (1, 0)] (fun _ _ _ _ hF => TL.indexAddr (i) rfl rfl rfl (by omega) rfl (TL.one hF)) ?_
     refine ChainV.q (some 22) [(2, 0)] (by
      intro H' X F hle; have hL := Le.trans hL hle; have hpx := hAt.mono hle hpx; intro hF; refine TL.load_immA rfl (hpx) rfl rfl ?_
      exact TL.one hF) ?_
     refine ChainV.q (some 23) [] (by
      intro H' X F hle; have hL := Le.trans hL hle; intro hF; refine TL.load_ownA 1 0 [_, _, _, _] rfl rfl rfl ⟨rfl, rfl, rfl, rfl, trivial⟩ rfl rfl ?_
      exact TL.one hF) ?_
     refine ⟨by kernel_rfl, .refl _, ?_⟩
     ·
      intro H13 hle; have hL := Le.trans hL hle; have hle0 := Le.trans hle0 hle; have hpx := hAt.mono hle hpx; refine TL.toOwn (own' := _ :: _ :: own) rfl ?_; refine TL.wk (env' := [(0, _), (3, _), (5, _), (6, _), (7, _), (22, _), (23, _)]) ⟨rfl, rfl, rfl, rfl, rfl, rfl, rfl, trivial⟩ ?_; refine TL.call (ref_same hx1 hf) ⟨rfl, rfl, trivial⟩ rfl ?_
      rintro _ own H24 ⟨rfl, rfl, hle24⟩
      rw [hsm]
      have hL := Le.trans hL hle24; have hle0 := Le.trans hle0 hle24; have hpx := hAt.mono hle24 hpx; refine TL.assign rfl rfl ?_; refine TL.nil ?_; refine TQ.then_n ?_; refine TC.seq ?_; refine TC.drawQV 5  [(0, _), (3, _), (5, _), (6, _), (7, _), (8, _)] follows_mixed ⟨rfl, rfl, rfl, rfl, rfl, rfl, trivial⟩ ?_
      refine ChainV.q (some 25) [] (by
       intro H' X F hle; have hL := Le.trans hL hle; intro hF; refine TL.load_ownA 1 0 [_, _, _, _] rfl rfl rfl ⟨rfl, rfl, rfl, rfl, trivial⟩ rfl rfl ?_
       exact TL.one hF) ?_
      refine ChainV.q (some 26) [] (fun _ _ _ _ hF => TL.move rfl rfl (TL.one hF)) ?_; refine ChainV.q (some 27) [] (fun _ _ _ _ hF => TL.move rfl rfl (TL.one hF)) ?_; refine ChainV.q (some 28) [(1, 1), (2, 0)] (fun _ _ _ _ hF => TL.indexAddr (i) rfl rfl rfl (by omega) rfl (TL.one hF)) ?_
      refine ChainV.q (some 29) [(3, 0)] (by
       intro H' X F hle; have hL := Le.trans hL hle; have hpx := hAt.mono hle hpx; intro hF; refine TL.load_immA rfl (hpx) rfl rfl ?_
       exact TL.one hF) ?_
      refine ⟨by kernel_rfl, .refl _, ?_⟩
      ·
       intro H14 hle; have hL := Le.trans hL hle; have hle0 := Le.trans hle0 hle; refine TL.toOwn (own' := _ :: _ :: own) rfl ?_; refine TL.wk (env' := [(0, _), (3, _), (5, _), (6, _), (7, _), (8, _), (25, _), (29, _)]) ⟨rfl, rfl, rfl, rfl, rfl, rfl, rfl, rfl, trivial⟩ ?_; refine TL.call (ref_before) ⟨rfl, rfl, trivial⟩ rfl ?_
       rintro _ own H30 ⟨rfl, rfl, hle30⟩
       rw [hkb]
       have hL := Le.trans hL hle30; have hle0 := Le.trans hle0 hle30; refine TL.assign rfl rfl ?_; refine TL.nil ?_; refine TQ.then_n ?_; refine TC.seq ?_; refine TC.seq ?_; refine TC.region ?_; refine TL.move rfl rfl ?_; refine TL.not rfl rfl ?_; refine TL.move rfl rfl ?_; refine TL.gyes rfl rfl rfl ?_; refine TL.move rfl rfl ?_; refine TL.gyes rfl rfl rfl ?_; refine TL.move rfl rfl ?_; refine TL.gno rfl rfl rfl rfl ?_; refine TL.gyes rfl rfl rfl ?_; refine TL.pickT rfl rfl rfl rfl ?_; refine TL.pickT rfl rfl rfl rfl ?_; refine TL.nil ?_; refine TQ.then_n ?_; refine TC.cond_t rfl ?_; refine TC.seq ?_; refine TC.region ?_; refine TL.move rfl rfl ?_; refine TL.load_ownA 1 0 [_, _, _, _] rfl rfl rfl ⟨rfl, rfl, rfl, rfl, trivial⟩ rfl rfl ?_
       refine TL.litF (r := [_, _, _, _]) [(0, [_, _, _, _])] ⟨rfl, ⟨_, rfl, rfl⟩, trivial⟩ rfl rfl rfl rfl ?_; intro g41; refine TL.append 1 rfl rfl rfl hrow (Src.ofOwn 0 0 rfl rfl rfl (Ones.all (show Ones [_, _, _, _] from ⟨by rfl, by rfl, by rfl, by rfl, trivial⟩)) ⟨rfl, rfl, rfl, rfl, trivial⟩) (by omega) (by omega) rfl ?_; intro v1 seg1 hrow1
       have hrow2 : Row 60 4 v1 (out ++ [f]).length (factsV (out ++ [f])) seg1 := by rw [factsV_snoc, List.length_append]; exact hrow1
       refine TL.assign rfl rfl ?_; refine TL.nil ?_; refine TQ.then_n ?_; refine TC.region ?_; refine TL.assign rfl rfl ?_; refine TL.nsr ?_; refine TL.move rfl rfl ?_; refine TL.not rfl rfl ?_; refine TL.nil ?_; refine TQ.then_n ?_; refine TC.cond_f rfl ?_; refine TC.skip ?_; refine TQ.in_n ?_; refine TQ.then_n ?_; refine TC.region ?_; refine TL.move rfl rfl ?_; refine TL.add rfl rfl rfl ⟨by omega, by omega⟩ ?_; refine TL.assign rfl rfl ?_; refine TL.nil ?_
       refine TQ.sel 3 [1, 2] rfl (fun o ho => ?_)
       simp only [K.sel, List.map_cons, List.map_nil, List.getD_cons_zero, List.getD_cons_succ, List.drop_succ_cons, List.drop_zero, List.cons_append, List.nil_append, List.set_cons_zero, List.set_cons_succ] at ho; subst ho
       have hrowN := hrow2
       refine TQ.next (l.length - (i + 1)) [(0, _), (3, _), (5, _), (6, _), (7, _)] (by omega) ⟨rfl, rfl, rfl, rfl, rfl, trivial⟩ ⟨i + 1, true, (out ++ [f]), _, _, rfl, by omega, ?_, ?_, hrowN, by simp, rfl, hle0⟩
       · rw [hinv, hdr]
         simp [putL, hkb, hsk]
       · first | omega | (simp; omega)
    ·
     have hsk : x.key = f.key := by simpa using hsm
     refine TC.drawQV 5  [(0, _), (3, _), (5, _), (6, _), (7, _)] follows_mixed ⟨rfl, rfl, rfl, rfl, rfl, trivial⟩ ?_; refine ChainV.q (some 19) [] (fun _ _ _ _ hF => TL.move rfl rfl (TL.one hF)) ?_; refine ChainV.q (some 20) [] (fun _ _ _ _ hF => TL.move rfl rfl (TL.one hF)) ?_; refine ChainV.q (some 21) [(0, 1), (1, 0)] (fun _ _ _ _ hF => TL.indexAddr (i) rfl rfl rfl (by omega) rfl (TL.one hF)) ?_
     refine ChainV.q (some 22) [(2, 0)] (by
      intro H' X F hle; have hL := Le.trans hL hle; have hpx := hAt.mono hle hpx; intro hF; refine TL.load_immA rfl (hpx) rfl rfl ?_
      exact TL.one hF) ?_
     refine ChainV.q (some 23) [] (by
      intro H' X F hle; have hL := Le.trans hL hle; intro hF; refine TL.load_ownA 1 0 [_, _, _, _] rfl rfl rfl ⟨rfl, rfl, rfl, rfl, trivial⟩ rfl rfl ?_
      exact TL.one hF) ?_
     refine ⟨by kernel_rfl, .refl _, ?_⟩
     ·
      intro H15 hle; have hL := Le.trans hL hle; have hle0 := Le.trans hle0 hle; have hpx := hAt.mono hle hpx; refine TL.toOwn (own' := _ :: _ :: own) rfl ?_; refine TL.wk (env' := [(0, _), (3, _), (5, _), (6, _), (7, _), (22, _), (23, _)]) ⟨rfl, rfl, rfl, rfl, rfl, rfl, rfl, trivial⟩ ?_; refine TL.call (ref_same hx1 hf) ⟨rfl, rfl, trivial⟩ rfl ?_
      rintro _ own H24 ⟨rfl, rfl, hle24⟩
      rw [hsm]
      have hL := Le.trans hL hle24; have hle0 := Le.trans hle0 hle24; have hpx := hAt.mono hle24 hpx; refine TL.assign rfl rfl ?_; refine TL.nil ?_; refine TQ.then_n ?_; refine TC.seq ?_; refine TC.drawQV 5  [(0, _), (3, _), (5, _), (6, _), (7, _), (8, _)] follows_mixed ⟨rfl, rfl, rfl, rfl, rfl, rfl, trivial⟩ ?_
      refine ChainV.q (some 25) [] (by
       intro H' X F hle; have hL := Le.trans hL hle; intro hF; refine TL.load_ownA 1 0 [_, _, _, _] rfl rfl rfl ⟨rfl, rfl, rfl, rfl, trivial⟩ rfl rfl ?_
       exact TL.one hF) ?_
      refine ChainV.q (some 26) [] (fun _ _ _ _ hF => TL.move rfl rfl (TL.one hF)) ?_; refine ChainV.q (some 27) [] (fun _ _ _ _ hF => TL.move rfl rfl (TL.one hF)) ?_; refine ChainV.q (some 28) [(1, 1), (2, 0)] (fun _ _ _ _ hF => TL.indexAddr (i) rfl rfl rfl (by omega) rfl (TL.one hF)) ?_
      refine ChainV.q (some 29) [(3, 0)] (by
       intro H' X F hle; have hL := Le.trans hL hle; have hpx := hAt.mono hle hpx; intro hF; refine TL.load_immA rfl (hpx) rfl rfl ?_
       exact TL.one hF) ?_
      refine ⟨by kernel_rfl, .refl _, ?_⟩
      ·
       intro H16 hle; have hL := Le.trans hL hle; have hle0 := Le.trans hle0 hle; refine TL.toOwn (own' := _ :: _ :: own) rfl ?_; refine TL.wk (env' := [(0, _), (3, _), (5, _), (6, _), (7, _), (8, _), (25, _), (29, _)]) ⟨rfl, rfl, rfl, rfl, rfl, rfl, rfl, rfl, trivial⟩ ?_; refine TL.call (ref_before) ⟨rfl, rfl, trivial⟩ rfl ?_
       rintro _ own H30 ⟨rfl, rfl, hle30⟩
       rw [hkb]
       have hL := Le.trans hL hle30; have hle0 := Le.trans hle0 hle30; refine TL.assign rfl rfl ?_; refine TL.nil ?_; refine TQ.then_n ?_; refine TC.seq ?_; refine TC.seq ?_; refine TC.region ?_; refine TL.move rfl rfl ?_; refine TL.not rfl rfl ?_; refine TL.move rfl rfl ?_; refine TL.gno rfl rfl rfl rfl ?_; refine TL.gno rfl rfl rfl rfl ?_; refine TL.gund rfl rfl rfl ?_; refine TL.gno rfl rfl rfl rfl ?_; refine TL.pickF rfl rfl rfl rfl ?_; refine TL.nil ?_; refine TQ.then_n ?_; refine TC.cond_f rfl ?_; refine TC.skip ?_; refine TQ.nsr ?_; refine TL.move rfl rfl ?_; refine TL.not rfl rfl ?_; refine TL.nil ?_; refine TQ.then_n ?_; refine TC.cond_f rfl ?_; refine TC.skip ?_; refine TQ.in_n ?_; refine TQ.then_n ?_; refine TC.region ?_; refine TL.move rfl rfl ?_; refine TL.add rfl rfl rfl ⟨by omega, by omega⟩ ?_; refine TL.assign rfl rfl ?_; refine TL.nil ?_
       refine TQ.toOwn (own' := _ :: _ :: own) rfl ?_; have hrowN := hrow
       refine TQ.next (l.length - (i + 1)) [(0, _), (3, _), (5, _), (6, _), (7, _)] (by omega) ⟨rfl, rfl, rfl, rfl, rfl, trivial⟩ ⟨i + 1, true, (out), _, _, rfl, by omega, ?_, ?_, hrowN, by simp, rfl, hle0⟩
       · rw [hinv, hdr]
         simp [putL, hkb, hsk]
       · first | omega | (simp; omega)
   ·
    refine TL.nil ?_; refine TQ.then_n ?_; refine TC.cond_f rfl ?_; refine TC.exit ?_; refine TQ.then_e ?_; refine TQ.then_e ?_; refine TQ.in_e ?_; refine TQ.then_n ?_; refine TC.seq ?_; refine TC.seq ?_
    have hie : i = l.length := by omega
    rw [hie, List.drop_of_length_le (Nat.le_refl _)] at hinv
    rcases dn with _ | _
    ·
     refine TC.region ?_; refine TL.move rfl rfl ?_; refine TL.not rfl rfl ?_; refine TL.nil ?_; refine TQ.then_n ?_; refine TC.cond_t rfl ?_; refine TC.region ?_; refine TL.move rfl rfl ?_; refine TL.load_ownA 1 0 [_, _, _, _] rfl rfl rfl ⟨rfl, rfl, rfl, rfl, trivial⟩ rfl rfl ?_
     refine TL.litF (r := [_, _, _, _]) [(0, [_, _, _, _])] ⟨rfl, ⟨_, rfl, rfl⟩, trivial⟩ rfl rfl rfl rfl ?_; intro g56; refine TL.append 1 rfl rfl rfl hrow (Src.ofOwn 0 0 rfl rfl rfl (Ones.all (show Ones [_, _, _, _] from ⟨by rfl, by rfl, by rfl, by rfl, trivial⟩)) ⟨rfl, rfl, rfl, rfl, trivial⟩) (by omega) (by omega) rfl ?_; intro v1 seg1 hrow1
     have hrow2 : Row 60 4 v1 (out ++ [f]).length (factsV (out ++ [f])) seg1 := by rw [factsV_snoc, List.length_append]; exact hrow1
     refine TL.assign rfl rfl ?_; refine TL.nsr ?_; refine TL.move rfl rfl ?_; refine TL.assign rfl rfl ?_; refine TL.nil ?_; refine TQ.then_n ?_; refine TC.ret ?_
     refine TQ.sel 3 [1, 0, 2] rfl (fun o ho => ?_)
     simp only [K.sel, List.map_cons, List.map_nil, List.getD_cons_zero, List.getD_cons_succ, List.drop_succ_cons, List.drop_zero, List.cons_append, List.nil_append, List.set_cons_zero, List.set_cons_succ] at ho; subst ho
     refine TQ.freeze (fun H17 hle hz_row => ?_)
     have hL := Le.trans hL hle; refine TQ.ret1 2 rfl rfl ?_
     first
       | exact ⟨by rw [hinv]; exact facts_row hrow2 hz_row (Le.refl _), rfl, hL⟩
       | exact ⟨by rw [show putF l f = out by rw [hinv]; simp [putL]]; exact facts_row hrow hz_row (Le.refl _), rfl, hL⟩
    ·
     refine TC.region ?_; refine TL.move rfl rfl ?_; refine TL.not rfl rfl ?_; refine TL.nil ?_; refine TQ.then_n ?_; refine TC.cond_f rfl ?_; refine TC.skip ?_; refine TQ.nsr ?_; refine TL.move rfl rfl ?_; refine TL.assign rfl rfl ?_; refine TL.nil ?_; refine TQ.then_n ?_; refine TC.ret ?_
     refine TQ.freeze (fun H18 hle hz_row => ?_)
     have hL := Le.trans hL hle; refine TQ.ret1 1 rfl rfl ?_
     first
       | exact ⟨by rw [hinv]; exact facts_row hrow2 hz_row (Le.refl _), rfl, hL⟩
       | exact ⟨by rw [show putF l f = out by rw [hinv]; simp [putL]]; exact facts_row hrow hz_row (Le.refl _), rfl, hL⟩
  ·
   refine TL.assign rfl rfl ?_; refine TL.nil ?_; refine TQ.then_n ?_; refine TC.seq ?_; refine TC.seq ?_; refine TC.nilseg ?_; refine TC.region ?_; refine TL.assign rfl rfl ?_; refine TL.nil ?_; refine TQ.then_n ?_; refine TC.block ?_
   refine TC.loop (fun n env' own' H' => ∃ (i : Nat) (dn : Bool) (out : List Fact) (u : Value) (seg : Seg), n = l.length - i ∧ i ≤ l.length ∧ putF l f = out ++ putL f dn (l.drop i) ∧ out.length ≤ 2 * i ∧ Row 60 4 u out.length (factsV out) seg ∧ env' = [(0, .slice A l.length c), (3, .pointer (some ⟨g3, 0, none⟩)), (5, u), (6, .bool dn), (7, .int .i64 (i : Int))] ∧ own' = seg :: [(g3, .cells #[.int .i64 f.kind, .int .i64 f.bank, .int .u16 f.addr, .string f.text] 60 (0, 0))] :: own ∧ Le H H') l.length [(0, _), (3, _), (5, _), (6, _), (7, _)] ⟨rfl, rfl, rfl, rfl, rfl, trivial⟩ ⟨0, _, [], .slice none 0 0, [], by omega, by omega, by unfold putF; first | (rw [decide_eq_true hte]; rfl) | (rw [decide_eq_false hte]; rfl), by simp, Row.nil _ 4, rfl, rfl, Le.refl _⟩ ?_
   rintro n _ _ H1 ⟨i, dn, out, u, row, rfl, hi1, hinv, hout, hrow, rfl, rfl, hle0⟩
   have hL := Le.trans hL hle0; have hA := rd.mono hle0 hA; refine TC.seq ?_; refine TC.seq ?_; refine TC.region ?_; refine TL.move rfl rfl ?_; refine TL.move rfl rfl ?_; refine TL.len_slice rfl rfl ?_
   refine TL.lssB rfl rfl rfl (fun hlt => ?_) (fun hlt => ?_)
   ·
    obtain ⟨x, hx⟩ : ∃ x, l[i]? = some x := ⟨_, List.getElem?_eq_getElem (by omega)⟩
    have hx1 := hl x (List.mem_of_getElem? hx)
    have hdr := drop_cons hx
    obtain ⟨b1, o1, rfl, hpx⟩ := facts_at hA hx
    refine TL.nil ?_; refine TQ.then_n ?_; refine TC.cond_t rfl ?_; refine TC.skip ?_; refine TQ.then_n ?_; refine TC.seq ?_; refine TC.block ?_; refine TC.seq ?_
    rcases hsm : decide (x.key = f.key) with _ | _ <;> rcases hkb : kb f.key x.key with _ | _ <;> rcases dn with _ | _
    ·
     have hsk : ¬ x.key = f.key := by simpa using hsm
     refine TC.drawQV 5  [(0, _), (3, _), (5, _), (6, _), (7, _)] follows_mixed ⟨rfl, rfl, rfl, rfl, rfl, trivial⟩ ?_; refine ChainV.q (some 19) [] (fun _ _ _ _ hF => TL.move rfl rfl (TL.one hF)) ?_; refine ChainV.q (some 20) [] (fun _ _ _ _ hF => TL.move rfl rfl (TL.one hF)) ?_; refine ChainV.q (some 21) [(0, 1), (1, 0)] (fun _ _ _ _ hF => TL.indexAddr (i) rfl rfl rfl (by omega) rfl (TL.one hF)) ?_
     refine ChainV.q (some 22) [(2, 0)] (by
      intro H' X F hle; have hL := Le.trans hL hle; have hpx := hAt.mono hle hpx; intro hF; refine TL.load_immA rfl (hpx) rfl rfl ?_
      exact TL.one hF) ?_
     refine ChainV.q (some 23) [] (by
      intro H' X F hle; have hL := Le.trans hL hle; intro hF; refine TL.load_ownA 1 0 [_, _, _, _] rfl rfl rfl ⟨rfl, rfl, rfl, rfl, trivial⟩ rfl rfl ?_
      exact TL.one hF) ?_
     refine ⟨by kernel_rfl, .refl _, ?_⟩
     ·
      intro H19 hle; have hL := Le.trans hL hle; have hle0 := Le.trans hle0 hle; have hpx := hAt.mono hle hpx; refine TL.toOwn (own' := _ :: _ :: own) rfl ?_; refine TL.wk (env' := [(0, _), (3, _), (5, _), (6, _), (7, _), (22, _), (23, _)]) ⟨rfl, rfl, rfl, rfl, rfl, rfl, rfl, trivial⟩ ?_; refine TL.call (ref_same hx1 hf) ⟨rfl, rfl, trivial⟩ rfl ?_
      rintro _ own H24 ⟨rfl, rfl, hle24⟩
      rw [hsm]
      have hL := Le.trans hL hle24; have hle0 := Le.trans hle0 hle24; have hpx := hAt.mono hle24 hpx; refine TL.assign rfl rfl ?_; refine TL.nil ?_; refine TQ.then_n ?_; refine TC.seq ?_; refine TC.drawQV 5  [(0, _), (3, _), (5, _), (6, _), (7, _), (8, _)] follows_mixed ⟨rfl, rfl, rfl, rfl, rfl, rfl, trivial⟩ ?_
      refine ChainV.q (some 25) [] (by
       intro H' X F hle; have hL := Le.trans hL hle; intro hF; refine TL.load_ownA 1 0 [_, _, _, _] rfl rfl rfl ⟨rfl, rfl, rfl, rfl, trivial⟩ rfl rfl ?_
       exact TL.one hF) ?_
      refine ChainV.q (some 26) [] (fun _ _ _ _ hF => TL.move rfl rfl (TL.one hF)) ?_; refine ChainV.q (some 27) [] (fun _ _ _ _ hF => TL.move rfl rfl (TL.one hF)) ?_; refine ChainV.q (some 28) [(1, 1), (2, 0)] (fun _ _ _ _ hF => TL.indexAddr (i) rfl rfl rfl (by omega) rfl (TL.one hF)) ?_
      refine ChainV.q (some 29) [(3, 0)] (by
       intro H' X F hle; have hL := Le.trans hL hle; have hpx := hAt.mono hle hpx; intro hF; refine TL.load_immA rfl (hpx) rfl rfl ?_
       exact TL.one hF) ?_
      refine ⟨by kernel_rfl, .refl _, ?_⟩
      ·
       intro H20 hle; have hL := Le.trans hL hle; have hle0 := Le.trans hle0 hle; have hpx := hAt.mono hle hpx; refine TL.toOwn (own' := _ :: _ :: own) rfl ?_; refine TL.wk (env' := [(0, _), (3, _), (5, _), (6, _), (7, _), (8, _), (25, _), (29, _)]) ⟨rfl, rfl, rfl, rfl, rfl, rfl, rfl, rfl, trivial⟩ ?_; refine TL.call (ref_before) ⟨rfl, rfl, trivial⟩ rfl ?_
       rintro _ own H30 ⟨rfl, rfl, hle30⟩
       rw [hkb]
       have hL := Le.trans hL hle30; have hle0 := Le.trans hle0 hle30; have hpx := hAt.mono hle30 hpx; refine TL.assign rfl rfl ?_; refine TL.nil ?_; refine TQ.then_n ?_; refine TC.seq ?_; refine TC.seq ?_; refine TC.region ?_; refine TL.move rfl rfl ?_; refine TL.not rfl rfl ?_; refine TL.move rfl rfl ?_; refine TL.gyes rfl rfl rfl ?_; refine TL.move rfl rfl ?_; refine TL.gyes rfl rfl rfl ?_; refine TL.move rfl rfl ?_; refine TL.gyes rfl rfl rfl ?_; refine TL.move rfl rfl ?_; refine TL.gyes rfl rfl rfl ?_; refine TL.pickF rfl rfl rfl rfl ?_; refine TL.pickT rfl rfl rfl rfl ?_; refine TL.nil ?_; refine TQ.then_n ?_; refine TC.cond_f rfl ?_; refine TC.skip ?_; refine TQ.nsr ?_; refine TL.move rfl rfl ?_; refine TL.not rfl rfl ?_; refine TL.nil ?_; refine TQ.then_n ?_; refine TC.cond_t rfl ?_; refine TC.region ?_; refine TL.move rfl rfl ?_; refine TL.move rfl rfl ?_
       refine TL.move rfl rfl ?_; refine TL.indexAddr (i) rfl rfl rfl (by omega) rfl ?_; refine TL.load_immA rfl (hpx) rfl rfl ?_
       refine TL.litF (r := [_, _, _, _]) [(0, [_, _, _, _])] ⟨rfl, ⟨_, rfl, rfl⟩, trivial⟩ rfl rfl rfl rfl ?_; intro g50; refine TL.append 1 rfl rfl rfl hrow (Src.ofOwn 0 0 rfl rfl rfl (Ones.all (show Ones [_, _, _, _] from ⟨by rfl, by rfl, by rfl, by rfl, trivial⟩)) ⟨rfl, rfl, rfl, rfl, trivial⟩) (by first | omega | (simp; omega)) (by first | omega | (simp; omega)) rfl ?_
       intro v2 seg2 hrow3
       have hrowN : Row 60 4 v2 (out ++ [x]).length (factsV (out ++ [x])) seg2 := by rw [factsV_snoc, List.length_append]; exact hrow3
       refine TL.assign rfl rfl ?_; refine TL.nil ?_; refine TQ.in_n ?_; refine TQ.then_n ?_; refine TC.region ?_; refine TL.move rfl rfl ?_; refine TL.add rfl rfl rfl ⟨by omega, by omega⟩ ?_; refine TL.assign rfl rfl ?_; refine TL.nil ?_
       refine TQ.sel 3 [1, 2] rfl (fun o ho => ?_)
       simp only [K.sel, List.map_cons, List.map_nil, List.getD_cons_zero, List.getD_cons_succ, List.drop_succ_cons, List.drop_zero, List.cons_append, List.nil_append, List.set_cons_zero, List.set_cons_succ] at ho; subst ho
       refine TQ.next (l.length - (i + 1)) [(0, _), (3, _), (5, _), (6, _), (7, _)] (by omega) ⟨rfl, rfl, rfl, rfl, rfl, trivial⟩ ⟨i + 1, false, (out ++ [x]), _, _, rfl, by omega, ?_, ?_, hrowN, by simp, rfl, hle0⟩
       · rw [hinv, hdr]
         simp [putL, hkb, hsk]
       · first | omega | (simp; omega)
    ·
     have hsk : ¬ x.key = f.key := by simpa using hsm
     refine TC.drawQV 5  [(0, _), (3, _), (5, _), (6, _), (7, _)] follows_mixed ⟨rfl, rfl, rfl, rfl, rfl, trivial⟩ ?_; refine ChainV.q (some 19) [] (fun _ _ _ _ hF => TL.move rfl rfl (TL.one hF)) ?_; refine ChainV.q (some 20) [] (fun _ _ _ _ hF => TL.move rfl rfl (TL.one hF)) ?_; refine ChainV.q (some 21) [(0, 1), (1, 0)] (fun _ _ _ _ hF => TL.indexAddr (i) rfl rfl rfl (by omega) rfl (TL.one hF)) ?_
     refine ChainV.q (some 22) [(2, 0)] (by
      intro H' X F hle; have hL := Le.trans hL hle; have hpx := hAt.mono hle hpx; intro hF; refine TL.load_immA rfl (hpx) rfl rfl ?_
      exact TL.one hF) ?_
     refine ChainV.q (some 23) [] (by
      intro H' X F hle; have hL := Le.trans hL hle; intro hF; refine TL.load_ownA 1 0 [_, _, _, _] rfl rfl rfl ⟨rfl, rfl, rfl, rfl, trivial⟩ rfl rfl ?_
      exact TL.one hF) ?_
     refine ⟨by kernel_rfl, .refl _, ?_⟩
     ·
      intro H21 hle; have hL := Le.trans hL hle; have hle0 := Le.trans hle0 hle; have hpx := hAt.mono hle hpx; refine TL.toOwn (own' := _ :: _ :: own) rfl ?_; refine TL.wk (env' := [(0, _), (3, _), (5, _), (6, _), (7, _), (22, _), (23, _)]) ⟨rfl, rfl, rfl, rfl, rfl, rfl, rfl, trivial⟩ ?_; refine TL.call (ref_same hx1 hf) ⟨rfl, rfl, trivial⟩ rfl ?_
      rintro _ own H24 ⟨rfl, rfl, hle24⟩
      rw [hsm]
      have hL := Le.trans hL hle24; have hle0 := Le.trans hle0 hle24; have hpx := hAt.mono hle24 hpx; refine TL.assign rfl rfl ?_; refine TL.nil ?_; refine TQ.then_n ?_; refine TC.seq ?_; refine TC.drawQV 5  [(0, _), (3, _), (5, _), (6, _), (7, _), (8, _)] follows_mixed ⟨rfl, rfl, rfl, rfl, rfl, rfl, trivial⟩ ?_
      refine ChainV.q (some 25) [] (by
       intro H' X F hle; have hL := Le.trans hL hle; intro hF; refine TL.load_ownA 1 0 [_, _, _, _] rfl rfl rfl ⟨rfl, rfl, rfl, rfl, trivial⟩ rfl rfl ?_
       exact TL.one hF) ?_
      refine ChainV.q (some 26) [] (fun _ _ _ _ hF => TL.move rfl rfl (TL.one hF)) ?_; refine ChainV.q (some 27) [] (fun _ _ _ _ hF => TL.move rfl rfl (TL.one hF)) ?_; refine ChainV.q (some 28) [(1, 1), (2, 0)] (fun _ _ _ _ hF => TL.indexAddr (i) rfl rfl rfl (by omega) rfl (TL.one hF)) ?_
      refine ChainV.q (some 29) [(3, 0)] (by
       intro H' X F hle; have hL := Le.trans hL hle; have hpx := hAt.mono hle hpx; intro hF; refine TL.load_immA rfl (hpx) rfl rfl ?_
       exact TL.one hF) ?_
      refine ⟨by kernel_rfl, .refl _, ?_⟩
      ·
       intro H22 hle; have hL := Le.trans hL hle; have hle0 := Le.trans hle0 hle; have hpx := hAt.mono hle hpx; refine TL.toOwn (own' := _ :: _ :: own) rfl ?_; refine TL.wk (env' := [(0, _), (3, _), (5, _), (6, _), (7, _), (8, _), (25, _), (29, _)]) ⟨rfl, rfl, rfl, rfl, rfl, rfl, rfl, rfl, trivial⟩ ?_; refine TL.call (ref_before) ⟨rfl, rfl, trivial⟩ rfl ?_
       rintro _ own H30 ⟨rfl, rfl, hle30⟩
       rw [hkb]
       have hL := Le.trans hL hle30; have hle0 := Le.trans hle0 hle30; have hpx := hAt.mono hle30 hpx; refine TL.assign rfl rfl ?_; refine TL.nil ?_; refine TQ.then_n ?_; refine TC.seq ?_; refine TC.seq ?_; refine TC.region ?_; refine TL.move rfl rfl ?_; refine TL.not rfl rfl ?_; refine TL.move rfl rfl ?_; refine TL.gno rfl rfl rfl rfl ?_; refine TL.gno rfl rfl rfl rfl ?_; refine TL.gund rfl rfl rfl ?_; refine TL.gno rfl rfl rfl rfl ?_; refine TL.pickF rfl rfl rfl rfl ?_; refine TL.nil ?_; refine TQ.then_n ?_; refine TC.cond_f rfl ?_; refine TC.skip ?_; refine TQ.nsr ?_; refine TL.move rfl rfl ?_; refine TL.not rfl rfl ?_; refine TL.nil ?_; refine TQ.then_n ?_; refine TC.cond_t rfl ?_; refine TC.region ?_; refine TL.move rfl rfl ?_; refine TL.move rfl rfl ?_; refine TL.move rfl rfl ?_; refine TL.indexAddr (i) rfl rfl rfl (by omega) rfl ?_; refine TL.load_immA rfl (hpx) rfl rfl ?_
       refine TL.litF (r := [_, _, _, _]) [(0, [_, _, _, _])] ⟨rfl, ⟨_, rfl, rfl⟩, trivial⟩ rfl rfl rfl rfl ?_; intro g50; refine TL.append 1 rfl rfl rfl hrow (Src.ofOwn 0 0 rfl rfl rfl (Ones.all (show Ones [_, _, _, _] from ⟨by rfl, by rfl, by rfl, by rfl, trivial⟩)) ⟨rfl, rfl, rfl, rfl, trivial⟩) (by first | omega | (simp; omega)) (by first | omega | (simp; omega)) rfl ?_
       intro v2 seg2 hrow3
       have hrowN : Row 60 4 v2 (out ++ [x]).length (factsV (out ++ [x])) seg2 := by rw [factsV_snoc, List.length_append]; exact hrow3
       refine TL.assign rfl rfl ?_; refine TL.nil ?_; refine TQ.in_n ?_; refine TQ.then_n ?_; refine TC.region ?_; refine TL.move rfl rfl ?_; refine TL.add rfl rfl rfl ⟨by omega, by omega⟩ ?_; refine TL.assign rfl rfl ?_; refine TL.nil ?_
       refine TQ.sel 3 [1, 2] rfl (fun o ho => ?_)
       simp only [K.sel, List.map_cons, List.map_nil, List.getD_cons_zero, List.getD_cons_succ, List.drop_succ_cons, List.drop_zero, List.cons_append, List.nil_append, List.set_cons_zero, List.set_cons_succ] at ho; subst ho
       refine TQ.next (l.length - (i + 1)) [(0, _), (3, _), (5, _), (6, _), (7, _)] (by omega) ⟨rfl, rfl, rfl, rfl, rfl, trivial⟩ ⟨i + 1, true, (out ++ [x]), _, _, rfl, by omega, ?_, ?_, hrowN, by simp, rfl, hle0⟩
       · rw [hinv, hdr]
         simp [putL, hkb, hsk]
       · first | omega | (simp; omega)
    ·
     have hsk : ¬ x.key = f.key := by simpa using hsm
     refine TC.drawQV 5  [(0, _), (3, _), (5, _), (6, _), (7, _)] follows_mixed ⟨rfl, rfl, rfl, rfl, rfl, trivial⟩ ?_; refine ChainV.q (some 19) [] (fun _ _ _ _ hF => TL.move rfl rfl (TL.one hF)) ?_; refine ChainV.q (some 20) [] (fun _ _ _ _ hF => TL.move rfl rfl (TL.one hF)) ?_; refine ChainV.q (some 21) [(0, 1), (1, 0)] (fun _ _ _ _ hF => TL.indexAddr (i) rfl rfl rfl (by omega) rfl (TL.one hF)) ?_
     refine ChainV.q (some 22) [(2, 0)] (by
      intro H' X F hle; have hL := Le.trans hL hle; have hpx := hAt.mono hle hpx; intro hF; refine TL.load_immA rfl (hpx) rfl rfl ?_
      exact TL.one hF) ?_
     refine ChainV.q (some 23) [] (by
      intro H' X F hle; have hL := Le.trans hL hle; intro hF; refine TL.load_ownA 1 0 [_, _, _, _] rfl rfl rfl ⟨rfl, rfl, rfl, rfl, trivial⟩ rfl rfl ?_
      exact TL.one hF) ?_
     refine ⟨by kernel_rfl, .refl _, ?_⟩
     ·
      intro H23 hle; have hL := Le.trans hL hle; have hle0 := Le.trans hle0 hle; have hpx := hAt.mono hle hpx; refine TL.toOwn (own' := _ :: _ :: own) rfl ?_; refine TL.wk (env' := [(0, _), (3, _), (5, _), (6, _), (7, _), (22, _), (23, _)]) ⟨rfl, rfl, rfl, rfl, rfl, rfl, rfl, trivial⟩ ?_; refine TL.call (ref_same hx1 hf) ⟨rfl, rfl, trivial⟩ rfl ?_
      rintro _ own H24 ⟨rfl, rfl, hle24⟩
      rw [hsm]
      have hL := Le.trans hL hle24; have hle0 := Le.trans hle0 hle24; have hpx := hAt.mono hle24 hpx; refine TL.assign rfl rfl ?_; refine TL.nil ?_; refine TQ.then_n ?_; refine TC.seq ?_; refine TC.drawQV 5  [(0, _), (3, _), (5, _), (6, _), (7, _), (8, _)] follows_mixed ⟨rfl, rfl, rfl, rfl, rfl, rfl, trivial⟩ ?_
      refine ChainV.q (some 25) [] (by
       intro H' X F hle; have hL := Le.trans hL hle; intro hF; refine TL.load_ownA 1 0 [_, _, _, _] rfl rfl rfl ⟨rfl, rfl, rfl, rfl, trivial⟩ rfl rfl ?_
       exact TL.one hF) ?_
      refine ChainV.q (some 26) [] (fun _ _ _ _ hF => TL.move rfl rfl (TL.one hF)) ?_; refine ChainV.q (some 27) [] (fun _ _ _ _ hF => TL.move rfl rfl (TL.one hF)) ?_; refine ChainV.q (some 28) [(1, 1), (2, 0)] (fun _ _ _ _ hF => TL.indexAddr (i) rfl rfl rfl (by omega) rfl (TL.one hF)) ?_
      refine ChainV.q (some 29) [(3, 0)] (by
       intro H' X F hle; have hL := Le.trans hL hle; have hpx := hAt.mono hle hpx; intro hF; refine TL.load_immA rfl (hpx) rfl rfl ?_
       exact TL.one hF) ?_
      refine ⟨by kernel_rfl, .refl _, ?_⟩
      ·
       intro H24 hle; have hL := Le.trans hL hle; have hle0 := Le.trans hle0 hle; have hpx := hAt.mono hle hpx; refine TL.toOwn (own' := _ :: _ :: own) rfl ?_; refine TL.wk (env' := [(0, _), (3, _), (5, _), (6, _), (7, _), (8, _), (25, _), (29, _)]) ⟨rfl, rfl, rfl, rfl, rfl, rfl, rfl, rfl, trivial⟩ ?_; refine TL.call (ref_before) ⟨rfl, rfl, trivial⟩ rfl ?_
       rintro _ own H30 ⟨rfl, rfl, hle30⟩
       rw [hkb]
       have hL := Le.trans hL hle30; have hle0 := Le.trans hle0 hle30; have hpx := hAt.mono hle30 hpx; refine TL.assign rfl rfl ?_; refine TL.nil ?_; refine TQ.then_n ?_; refine TC.seq ?_; refine TC.seq ?_; refine TC.region ?_; refine TL.move rfl rfl ?_; refine TL.not rfl rfl ?_; refine TL.move rfl rfl ?_; refine TL.gyes rfl rfl rfl ?_; refine TL.move rfl rfl ?_; refine TL.gyes rfl rfl rfl ?_; refine TL.move rfl rfl ?_; refine TL.gyes rfl rfl rfl ?_; refine TL.move rfl rfl ?_; refine TL.gyes rfl rfl rfl ?_; refine TL.pickF rfl rfl rfl rfl ?_; refine TL.pickT rfl rfl rfl rfl ?_; refine TL.nil ?_; refine TQ.then_n ?_; refine TC.cond_t rfl ?_; refine TC.seq ?_; refine TC.region ?_; refine TL.move rfl rfl ?_; refine TL.load_ownA 1 0 [_, _, _, _] rfl rfl rfl ⟨rfl, rfl, rfl, rfl, trivial⟩ rfl rfl ?_
       refine TL.litF (r := [_, _, _, _]) [(0, [_, _, _, _])] ⟨rfl, ⟨_, rfl, rfl⟩, trivial⟩ rfl rfl rfl rfl ?_; intro g41; refine TL.append 1 rfl rfl rfl hrow (Src.ofOwn 0 0 rfl rfl rfl (Ones.all (show Ones [_, _, _, _] from ⟨by rfl, by rfl, by rfl, by rfl, trivial⟩)) ⟨rfl, rfl, rfl, rfl, trivial⟩) (by omega) (by omega) rfl ?_; intro v1 seg1 hrow1
       have hrow2 : Row 60 4 v1 (out ++ [f]).length (factsV (out ++ [f])) seg1 := by rw [factsV_snoc, List.length_append]; exact hrow1
       refine TL.assign rfl rfl ?_; refine TL.nil ?_; refine TQ.then_n ?_; refine TC.region ?_; refine TL.assign rfl rfl ?_; refine TL.nsr ?_; refine TL.move rfl rfl ?_; refine TL.not rfl rfl ?_; refine TL.nil ?_; refine TQ.then_n ?_; refine TC.cond_t rfl ?_; refine TC.region ?_; refine TL.move rfl rfl ?_; refine TL.move rfl rfl ?_; refine TL.move rfl rfl ?_; refine TL.indexAddr (i) rfl rfl rfl (by omega) rfl ?_; refine TL.load_immA rfl (hpx) rfl rfl ?_
       refine TL.litF (r := [_, _, _, _]) [(0, [_, _, _, _])] ⟨rfl, ⟨_, rfl, rfl⟩, trivial⟩ rfl rfl rfl rfl ?_; intro g50; refine TL.append 2 rfl rfl rfl hrow2 (Src.ofOwn 0 0 rfl rfl rfl (Ones.all (show Ones [_, _, _, _] from ⟨by rfl, by rfl, by rfl, by rfl, trivial⟩)) ⟨rfl, rfl, rfl, rfl, trivial⟩) (by first | omega | (simp; omega)) (by first | omega | (simp; omega)) rfl ?_
       intro v2 seg2 hrow3
       have hrowN : Row 60 4 v2 (out ++ [f] ++ [x]).length (factsV (out ++ [f] ++ [x])) seg2 := by rw [factsV_snoc, List.length_append]; exact hrow3
       refine TL.assign rfl rfl ?_; refine TL.nil ?_; refine TQ.in_n ?_; refine TQ.then_n ?_; refine TC.region ?_; refine TL.move rfl rfl ?_; refine TL.add rfl rfl rfl ⟨by omega, by omega⟩ ?_; refine TL.assign rfl rfl ?_; refine TL.nil ?_
       refine TQ.sel 4 [2, 3] rfl (fun o ho => ?_)
       simp only [K.sel, List.map_cons, List.map_nil, List.getD_cons_zero, List.getD_cons_succ, List.drop_succ_cons, List.drop_zero, List.cons_append, List.nil_append, List.set_cons_zero, List.set_cons_succ] at ho; subst ho
       refine TQ.next (l.length - (i + 1)) [(0, _), (3, _), (5, _), (6, _), (7, _)] (by omega) ⟨rfl, rfl, rfl, rfl, rfl, trivial⟩ ⟨i + 1, true, (out ++ [f] ++ [x]), _, _, rfl, by omega, ?_, ?_, hrowN, by simp, rfl, hle0⟩
       · rw [hinv, hdr]
         simp [putL, hkb, hsk]
       · first | omega | (simp; omega)
    ·
     have hsk : ¬ x.key = f.key := by simpa using hsm
     refine TC.drawQV 5  [(0, _), (3, _), (5, _), (6, _), (7, _)] follows_mixed ⟨rfl, rfl, rfl, rfl, rfl, trivial⟩ ?_; refine ChainV.q (some 19) [] (fun _ _ _ _ hF => TL.move rfl rfl (TL.one hF)) ?_; refine ChainV.q (some 20) [] (fun _ _ _ _ hF => TL.move rfl rfl (TL.one hF)) ?_; refine ChainV.q (some 21) [(0, 1), (1, 0)] (fun _ _ _ _ hF => TL.indexAddr (i) rfl rfl rfl (by omega) rfl (TL.one hF)) ?_
     refine ChainV.q (some 22) [(2, 0)] (by
      intro H' X F hle; have hL := Le.trans hL hle; have hpx := hAt.mono hle hpx; intro hF; refine TL.load_immA rfl (hpx) rfl rfl ?_
      exact TL.one hF) ?_
     refine ChainV.q (some 23) [] (by
      intro H' X F hle; have hL := Le.trans hL hle; intro hF; refine TL.load_ownA 1 0 [_, _, _, _] rfl rfl rfl ⟨rfl, rfl, rfl, rfl, trivial⟩ rfl rfl ?_
      exact TL.one hF) ?_
     refine ⟨by kernel_rfl, .refl _, ?_⟩
     ·
      intro H25 hle; have hL := Le.trans hL hle; have hle0 := Le.trans hle0 hle; have hpx := hAt.mono hle hpx; refine TL.toOwn (own' := _ :: _ :: own) rfl ?_; refine TL.wk (env' := [(0, _), (3, _), (5, _), (6, _), (7, _), (22, _), (23, _)]) ⟨rfl, rfl, rfl, rfl, rfl, rfl, rfl, trivial⟩ ?_; refine TL.call (ref_same hx1 hf) ⟨rfl, rfl, trivial⟩ rfl ?_
      rintro _ own H24 ⟨rfl, rfl, hle24⟩
      rw [hsm]
      have hL := Le.trans hL hle24; have hle0 := Le.trans hle0 hle24; have hpx := hAt.mono hle24 hpx; refine TL.assign rfl rfl ?_; refine TL.nil ?_; refine TQ.then_n ?_; refine TC.seq ?_; refine TC.drawQV 5  [(0, _), (3, _), (5, _), (6, _), (7, _), (8, _)] follows_mixed ⟨rfl, rfl, rfl, rfl, rfl, rfl, trivial⟩ ?_
      refine ChainV.q (some 25) [] (by
       intro H' X F hle; have hL := Le.trans hL hle; intro hF; refine TL.load_ownA 1 0 [_, _, _, _] rfl rfl rfl ⟨rfl, rfl, rfl, rfl, trivial⟩ rfl rfl ?_
       exact TL.one hF) ?_
      refine ChainV.q (some 26) [] (fun _ _ _ _ hF => TL.move rfl rfl (TL.one hF)) ?_; refine ChainV.q (some 27) [] (fun _ _ _ _ hF => TL.move rfl rfl (TL.one hF)) ?_; refine ChainV.q (some 28) [(1, 1), (2, 0)] (fun _ _ _ _ hF => TL.indexAddr (i) rfl rfl rfl (by omega) rfl (TL.one hF)) ?_
      refine ChainV.q (some 29) [(3, 0)] (by
       intro H' X F hle; have hL := Le.trans hL hle; have hpx := hAt.mono hle hpx; intro hF; refine TL.load_immA rfl (hpx) rfl rfl ?_
       exact TL.one hF) ?_
      refine ⟨by kernel_rfl, .refl _, ?_⟩
      ·
       intro H26 hle; have hL := Le.trans hL hle; have hle0 := Le.trans hle0 hle; have hpx := hAt.mono hle hpx; refine TL.toOwn (own' := _ :: _ :: own) rfl ?_; refine TL.wk (env' := [(0, _), (3, _), (5, _), (6, _), (7, _), (8, _), (25, _), (29, _)]) ⟨rfl, rfl, rfl, rfl, rfl, rfl, rfl, rfl, trivial⟩ ?_; refine TL.call (ref_before) ⟨rfl, rfl, trivial⟩ rfl ?_
       rintro _ own H30 ⟨rfl, rfl, hle30⟩
       rw [hkb]
       have hL := Le.trans hL hle30; have hle0 := Le.trans hle0 hle30; have hpx := hAt.mono hle30 hpx; refine TL.assign rfl rfl ?_; refine TL.nil ?_; refine TQ.then_n ?_; refine TC.seq ?_; refine TC.seq ?_; refine TC.region ?_; refine TL.move rfl rfl ?_; refine TL.not rfl rfl ?_; refine TL.move rfl rfl ?_; refine TL.gno rfl rfl rfl rfl ?_; refine TL.gno rfl rfl rfl rfl ?_; refine TL.gund rfl rfl rfl ?_; refine TL.gno rfl rfl rfl rfl ?_; refine TL.pickF rfl rfl rfl rfl ?_; refine TL.nil ?_; refine TQ.then_n ?_; refine TC.cond_f rfl ?_; refine TC.skip ?_; refine TQ.nsr ?_; refine TL.move rfl rfl ?_; refine TL.not rfl rfl ?_; refine TL.nil ?_; refine TQ.then_n ?_; refine TC.cond_t rfl ?_; refine TC.region ?_; refine TL.move rfl rfl ?_; refine TL.move rfl rfl ?_; refine TL.move rfl rfl ?_; refine TL.indexAddr (i) rfl rfl rfl (by omega) rfl ?_; refine TL.load_immA rfl (hpx) rfl rfl ?_
       refine TL.litF (r := [_, _, _, _]) [(0, [_, _, _, _])] ⟨rfl, ⟨_, rfl, rfl⟩, trivial⟩ rfl rfl rfl rfl ?_; intro g50; refine TL.append 1 rfl rfl rfl hrow (Src.ofOwn 0 0 rfl rfl rfl (Ones.all (show Ones [_, _, _, _] from ⟨by rfl, by rfl, by rfl, by rfl, trivial⟩)) ⟨rfl, rfl, rfl, rfl, trivial⟩) (by first | omega | (simp; omega)) (by first | omega | (simp; omega)) rfl ?_
       intro v2 seg2 hrow3
       have hrowN : Row 60 4 v2 (out ++ [x]).length (factsV (out ++ [x])) seg2 := by rw [factsV_snoc, List.length_append]; exact hrow3
       refine TL.assign rfl rfl ?_; refine TL.nil ?_; refine TQ.in_n ?_; refine TQ.then_n ?_; refine TC.region ?_; refine TL.move rfl rfl ?_; refine TL.add rfl rfl rfl ⟨by omega, by omega⟩ ?_; refine TL.assign rfl rfl ?_; refine TL.nil ?_
       refine TQ.sel 3 [1, 2] rfl (fun o ho => ?_)
       simp only [K.sel, List.map_cons, List.map_nil, List.getD_cons_zero, List.getD_cons_succ, List.drop_succ_cons, List.drop_zero, List.cons_append, List.nil_append, List.set_cons_zero, List.set_cons_succ] at ho; subst ho
       refine TQ.next (l.length - (i + 1)) [(0, _), (3, _), (5, _), (6, _), (7, _)] (by omega) ⟨rfl, rfl, rfl, rfl, rfl, trivial⟩ ⟨i + 1, true, (out ++ [x]), _, _, rfl, by omega, ?_, ?_, hrowN, by simp, rfl, hle0⟩
       · rw [hinv, hdr]
         simp [putL, hkb, hsk]
       · first | omega | (simp; omega)
    ·
     have hsk : x.key = f.key := by simpa using hsm
     refine TC.drawQV 5  [(0, _), (3, _), (5, _), (6, _), (7, _)] follows_mixed ⟨rfl, rfl, rfl, rfl, rfl, trivial⟩ ?_; refine ChainV.q (some 19) [] (fun _ _ _ _ hF => TL.move rfl rfl (TL.one hF)) ?_; refine ChainV.q (some 20) [] (fun _ _ _ _ hF => TL.move rfl rfl (TL.one hF)) ?_; refine ChainV.q (some 21) [(0, 1), (1, 0)] (fun _ _ _ _ hF => TL.indexAddr (i) rfl rfl rfl (by omega) rfl (TL.one hF)) ?_
     refine ChainV.q (some 22) [(2, 0)] (by
      intro H' X F hle; have hL := Le.trans hL hle; have hpx := hAt.mono hle hpx; intro hF; refine TL.load_immA rfl (hpx) rfl rfl ?_
      exact TL.one hF) ?_
     refine ChainV.q (some 23) [] (by
      intro H' X F hle; have hL := Le.trans hL hle; intro hF; refine TL.load_ownA 1 0 [_, _, _, _] rfl rfl rfl ⟨rfl, rfl, rfl, rfl, trivial⟩ rfl rfl ?_
      exact TL.one hF) ?_
     refine ⟨by kernel_rfl, .refl _, ?_⟩
     ·
      intro H27 hle; have hL := Le.trans hL hle; have hle0 := Le.trans hle0 hle; have hpx := hAt.mono hle hpx; refine TL.toOwn (own' := _ :: _ :: own) rfl ?_; refine TL.wk (env' := [(0, _), (3, _), (5, _), (6, _), (7, _), (22, _), (23, _)]) ⟨rfl, rfl, rfl, rfl, rfl, rfl, rfl, trivial⟩ ?_; refine TL.call (ref_same hx1 hf) ⟨rfl, rfl, trivial⟩ rfl ?_
      rintro _ own H24 ⟨rfl, rfl, hle24⟩
      rw [hsm]
      have hL := Le.trans hL hle24; have hle0 := Le.trans hle0 hle24; have hpx := hAt.mono hle24 hpx; refine TL.assign rfl rfl ?_; refine TL.nil ?_; refine TQ.then_n ?_; refine TC.seq ?_; refine TC.drawQV 5  [(0, _), (3, _), (5, _), (6, _), (7, _), (8, _)] follows_mixed ⟨rfl, rfl, rfl, rfl, rfl, rfl, trivial⟩ ?_
      refine ChainV.q (some 25) [] (by
       intro H' X F hle; have hL := Le.trans hL hle; intro hF; refine TL.load_ownA 1 0 [_, _, _, _] rfl rfl rfl ⟨rfl, rfl, rfl, rfl, trivial⟩ rfl rfl ?_
       exact TL.one hF) ?_
      refine ChainV.q (some 26) [] (fun _ _ _ _ hF => TL.move rfl rfl (TL.one hF)) ?_; refine ChainV.q (some 27) [] (fun _ _ _ _ hF => TL.move rfl rfl (TL.one hF)) ?_; refine ChainV.q (some 28) [(1, 1), (2, 0)] (fun _ _ _ _ hF => TL.indexAddr (i) rfl rfl rfl (by omega) rfl (TL.one hF)) ?_
      refine ChainV.q (some 29) [(3, 0)] (by
       intro H' X F hle; have hL := Le.trans hL hle; have hpx := hAt.mono hle hpx; intro hF; refine TL.load_immA rfl (hpx) rfl rfl ?_
       exact TL.one hF) ?_
      refine ⟨by kernel_rfl, .refl _, ?_⟩
      ·
       intro H28 hle; have hL := Le.trans hL hle; have hle0 := Le.trans hle0 hle; refine TL.toOwn (own' := _ :: _ :: own) rfl ?_; refine TL.wk (env' := [(0, _), (3, _), (5, _), (6, _), (7, _), (8, _), (25, _), (29, _)]) ⟨rfl, rfl, rfl, rfl, rfl, rfl, rfl, rfl, trivial⟩ ?_; refine TL.call (ref_before) ⟨rfl, rfl, trivial⟩ rfl ?_
       rintro _ own H30 ⟨rfl, rfl, hle30⟩
       rw [hkb]
       have hL := Le.trans hL hle30; have hle0 := Le.trans hle0 hle30; refine TL.assign rfl rfl ?_; refine TL.nil ?_; refine TQ.then_n ?_; refine TC.seq ?_; refine TC.seq ?_; refine TC.region ?_; refine TL.move rfl rfl ?_; refine TL.not rfl rfl ?_; refine TL.move rfl rfl ?_; refine TL.gyes rfl rfl rfl ?_; refine TL.move rfl rfl ?_; refine TL.gyes rfl rfl rfl ?_; refine TL.move rfl rfl ?_; refine TL.gno rfl rfl rfl rfl ?_; refine TL.gyes rfl rfl rfl ?_; refine TL.pickT rfl rfl rfl rfl ?_; refine TL.pickT rfl rfl rfl rfl ?_; refine TL.nil ?_; refine TQ.then_n ?_; refine TC.cond_t rfl ?_; refine TC.seq ?_; refine TC.region ?_; refine TL.move rfl rfl ?_; refine TL.load_ownA 1 0 [_, _, _, _] rfl rfl rfl ⟨rfl, rfl, rfl, rfl, trivial⟩ rfl rfl ?_
       refine TL.litF (r := [_, _, _, _]) [(0, [_, _, _, _])] ⟨rfl, ⟨_, rfl, rfl⟩, trivial⟩ rfl rfl rfl rfl ?_; intro g41; refine TL.append 1 rfl rfl rfl hrow (Src.ofOwn 0 0 rfl rfl rfl (Ones.all (show Ones [_, _, _, _] from ⟨by rfl, by rfl, by rfl, by rfl, trivial⟩)) ⟨rfl, rfl, rfl, rfl, trivial⟩) (by omega) (by omega) rfl ?_; intro v1 seg1 hrow1
       have hrow2 : Row 60 4 v1 (out ++ [f]).length (factsV (out ++ [f])) seg1 := by rw [factsV_snoc, List.length_append]; exact hrow1
       refine TL.assign rfl rfl ?_; refine TL.nil ?_; refine TQ.then_n ?_; refine TC.region ?_; refine TL.assign rfl rfl ?_; refine TL.nsr ?_; refine TL.move rfl rfl ?_; refine TL.not rfl rfl ?_; refine TL.nil ?_; refine TQ.then_n ?_; refine TC.cond_f rfl ?_; refine TC.skip ?_; refine TQ.in_n ?_; refine TQ.then_n ?_; refine TC.region ?_; refine TL.move rfl rfl ?_; refine TL.add rfl rfl rfl ⟨by omega, by omega⟩ ?_; refine TL.assign rfl rfl ?_; refine TL.nil ?_
       refine TQ.sel 3 [1, 2] rfl (fun o ho => ?_)
       simp only [K.sel, List.map_cons, List.map_nil, List.getD_cons_zero, List.getD_cons_succ, List.drop_succ_cons, List.drop_zero, List.cons_append, List.nil_append, List.set_cons_zero, List.set_cons_succ] at ho; subst ho
       have hrowN := hrow2
       refine TQ.next (l.length - (i + 1)) [(0, _), (3, _), (5, _), (6, _), (7, _)] (by omega) ⟨rfl, rfl, rfl, rfl, rfl, trivial⟩ ⟨i + 1, true, (out ++ [f]), _, _, rfl, by omega, ?_, ?_, hrowN, by simp, rfl, hle0⟩
       · rw [hinv, hdr]
         simp [putL, hkb, hsk]
       · first | omega | (simp; omega)
    ·
     have hsk : x.key = f.key := by simpa using hsm
     refine TC.drawQV 5  [(0, _), (3, _), (5, _), (6, _), (7, _)] follows_mixed ⟨rfl, rfl, rfl, rfl, rfl, trivial⟩ ?_; refine ChainV.q (some 19) [] (fun _ _ _ _ hF => TL.move rfl rfl (TL.one hF)) ?_; refine ChainV.q (some 20) [] (fun _ _ _ _ hF => TL.move rfl rfl (TL.one hF)) ?_; refine ChainV.q (some 21) [(0, 1), (1, 0)] (fun _ _ _ _ hF => TL.indexAddr (i) rfl rfl rfl (by omega) rfl (TL.one hF)) ?_
     refine ChainV.q (some 22) [(2, 0)] (by
      intro H' X F hle; have hL := Le.trans hL hle; have hpx := hAt.mono hle hpx; intro hF; refine TL.load_immA rfl (hpx) rfl rfl ?_
      exact TL.one hF) ?_
     refine ChainV.q (some 23) [] (by
      intro H' X F hle; have hL := Le.trans hL hle; intro hF; refine TL.load_ownA 1 0 [_, _, _, _] rfl rfl rfl ⟨rfl, rfl, rfl, rfl, trivial⟩ rfl rfl ?_
      exact TL.one hF) ?_
     refine ⟨by kernel_rfl, .refl _, ?_⟩
     ·
      intro H29 hle; have hL := Le.trans hL hle; have hle0 := Le.trans hle0 hle; have hpx := hAt.mono hle hpx; refine TL.toOwn (own' := _ :: _ :: own) rfl ?_; refine TL.wk (env' := [(0, _), (3, _), (5, _), (6, _), (7, _), (22, _), (23, _)]) ⟨rfl, rfl, rfl, rfl, rfl, rfl, rfl, trivial⟩ ?_; refine TL.call (ref_same hx1 hf) ⟨rfl, rfl, trivial⟩ rfl ?_
      rintro _ own H24 ⟨rfl, rfl, hle24⟩
      rw [hsm]
      have hL := Le.trans hL hle24; have hle0 := Le.trans hle0 hle24; have hpx := hAt.mono hle24 hpx; refine TL.assign rfl rfl ?_; refine TL.nil ?_; refine TQ.then_n ?_; refine TC.seq ?_; refine TC.drawQV 5  [(0, _), (3, _), (5, _), (6, _), (7, _), (8, _)] follows_mixed ⟨rfl, rfl, rfl, rfl, rfl, rfl, trivial⟩ ?_
      refine ChainV.q (some 25) [] (by
       intro H' X F hle; have hL := Le.trans hL hle; intro hF; refine TL.load_ownA 1 0 [_, _, _, _] rfl rfl rfl ⟨rfl, rfl, rfl, rfl, trivial⟩ rfl rfl ?_
       exact TL.one hF) ?_
      refine ChainV.q (some 26) [] (fun _ _ _ _ hF => TL.move rfl rfl (TL.one hF)) ?_; refine ChainV.q (some 27) [] (fun _ _ _ _ hF => TL.move rfl rfl (TL.one hF)) ?_; refine ChainV.q (some 28) [(1, 1), (2, 0)] (fun _ _ _ _ hF => TL.indexAddr (i) rfl rfl rfl (by omega) rfl (TL.one hF)) ?_
      refine ChainV.q (some 29) [(3, 0)] (by
       intro H' X F hle; have hL := Le.trans hL hle; have hpx := hAt.mono hle hpx; intro hF; refine TL.load_immA rfl (hpx) rfl rfl ?_
       exact TL.one hF) ?_
      refine ⟨by kernel_rfl, .refl _, ?_⟩
      ·
       intro H30 hle; have hL := Le.trans hL hle; have hle0 := Le.trans hle0 hle; refine TL.toOwn (own' := _ :: _ :: own) rfl ?_; refine TL.wk (env' := [(0, _), (3, _), (5, _), (6, _), (7, _), (8, _), (25, _), (29, _)]) ⟨rfl, rfl, rfl, rfl, rfl, rfl, rfl, rfl, trivial⟩ ?_; refine TL.call (ref_before) ⟨rfl, rfl, trivial⟩ rfl ?_
       rintro _ own H30 ⟨rfl, rfl, hle30⟩
       rw [hkb]
       have hL := Le.trans hL hle30; have hle0 := Le.trans hle0 hle30; refine TL.assign rfl rfl ?_; refine TL.nil ?_; refine TQ.then_n ?_; refine TC.seq ?_; refine TC.seq ?_; refine TC.region ?_; refine TL.move rfl rfl ?_; refine TL.not rfl rfl ?_; refine TL.move rfl rfl ?_; refine TL.gno rfl rfl rfl rfl ?_; refine TL.gno rfl rfl rfl rfl ?_; refine TL.gund rfl rfl rfl ?_; refine TL.gno rfl rfl rfl rfl ?_; refine TL.pickF rfl rfl rfl rfl ?_; refine TL.nil ?_; refine TQ.then_n ?_; refine TC.cond_f rfl ?_; refine TC.skip ?_; refine TQ.nsr ?_; refine TL.move rfl rfl ?_; refine TL.not rfl rfl ?_; refine TL.nil ?_; refine TQ.then_n ?_; refine TC.cond_f rfl ?_; refine TC.skip ?_; refine TQ.in_n ?_; refine TQ.then_n ?_; refine TC.region ?_; refine TL.move rfl rfl ?_; refine TL.add rfl rfl rfl ⟨by omega, by omega⟩ ?_; refine TL.assign rfl rfl ?_; refine TL.nil ?_
       refine TQ.toOwn (own' := _ :: _ :: own) rfl ?_; have hrowN := hrow
       refine TQ.next (l.length - (i + 1)) [(0, _), (3, _), (5, _), (6, _), (7, _)] (by omega) ⟨rfl, rfl, rfl, rfl, rfl, trivial⟩ ⟨i + 1, true, (out), _, _, rfl, by omega, ?_, ?_, hrowN, by simp, rfl, hle0⟩
       · rw [hinv, hdr]
         simp [putL, hkb, hsk]
       · first | omega | (simp; omega)
    ·
     have hsk : x.key = f.key := by simpa using hsm
     refine TC.drawQV 5  [(0, _), (3, _), (5, _), (6, _), (7, _)] follows_mixed ⟨rfl, rfl, rfl, rfl, rfl, trivial⟩ ?_; refine ChainV.q (some 19) [] (fun _ _ _ _ hF => TL.move rfl rfl (TL.one hF)) ?_; refine ChainV.q (some 20) [] (fun _ _ _ _ hF => TL.move rfl rfl (TL.one hF)) ?_; refine ChainV.q (some 21) [(0, 1), (1, 0)] (fun _ _ _ _ hF => TL.indexAddr (i) rfl rfl rfl (by omega) rfl (TL.one hF)) ?_
     refine ChainV.q (some 22) [(2, 0)] (by
      intro H' X F hle; have hL := Le.trans hL hle; have hpx := hAt.mono hle hpx; intro hF; refine TL.load_immA rfl (hpx) rfl rfl ?_
      exact TL.one hF) ?_
     refine ChainV.q (some 23) [] (by
      intro H' X F hle; have hL := Le.trans hL hle; intro hF; refine TL.load_ownA 1 0 [_, _, _, _] rfl rfl rfl ⟨rfl, rfl, rfl, rfl, trivial⟩ rfl rfl ?_
      exact TL.one hF) ?_
     refine ⟨by kernel_rfl, .refl _, ?_⟩
     ·
      intro H31 hle; have hL := Le.trans hL hle; have hle0 := Le.trans hle0 hle; have hpx := hAt.mono hle hpx; refine TL.toOwn (own' := _ :: _ :: own) rfl ?_; refine TL.wk (env' := [(0, _), (3, _), (5, _), (6, _), (7, _), (22, _), (23, _)]) ⟨rfl, rfl, rfl, rfl, rfl, rfl, rfl, trivial⟩ ?_; refine TL.call (ref_same hx1 hf) ⟨rfl, rfl, trivial⟩ rfl ?_
      rintro _ own H24 ⟨rfl, rfl, hle24⟩
      rw [hsm]
      have hL := Le.trans hL hle24; have hle0 := Le.trans hle0 hle24; have hpx := hAt.mono hle24 hpx; refine TL.assign rfl rfl ?_; refine TL.nil ?_; refine TQ.then_n ?_; refine TC.seq ?_; refine TC.drawQV 5  [(0, _), (3, _), (5, _), (6, _), (7, _), (8, _)] follows_mixed ⟨rfl, rfl, rfl, rfl, rfl, rfl, trivial⟩ ?_
      refine ChainV.q (some 25) [] (by
       intro H' X F hle; have hL := Le.trans hL hle; intro hF; refine TL.load_ownA 1 0 [_, _, _, _] rfl rfl rfl ⟨rfl, rfl, rfl, rfl, trivial⟩ rfl rfl ?_
       exact TL.one hF) ?_
      refine ChainV.q (some 26) [] (fun _ _ _ _ hF => TL.move rfl rfl (TL.one hF)) ?_; refine ChainV.q (some 27) [] (fun _ _ _ _ hF => TL.move rfl rfl (TL.one hF)) ?_; refine ChainV.q (some 28) [(1, 1), (2, 0)] (fun _ _ _ _ hF => TL.indexAddr (i) rfl rfl rfl (by omega) rfl (TL.one hF)) ?_
      refine ChainV.q (some 29) [(3, 0)] (by
       intro H' X F hle; have hL := Le.trans hL hle; have hpx := hAt.mono hle hpx; intro hF; refine TL.load_immA rfl (hpx) rfl rfl ?_
       exact TL.one hF) ?_
      refine ⟨by kernel_rfl, .refl _, ?_⟩
      ·
       intro H32 hle; have hL := Le.trans hL hle; have hle0 := Le.trans hle0 hle; refine TL.toOwn (own' := _ :: _ :: own) rfl ?_; refine TL.wk (env' := [(0, _), (3, _), (5, _), (6, _), (7, _), (8, _), (25, _), (29, _)]) ⟨rfl, rfl, rfl, rfl, rfl, rfl, rfl, rfl, trivial⟩ ?_; refine TL.call (ref_before) ⟨rfl, rfl, trivial⟩ rfl ?_
       rintro _ own H30 ⟨rfl, rfl, hle30⟩
       rw [hkb]
       have hL := Le.trans hL hle30; have hle0 := Le.trans hle0 hle30; refine TL.assign rfl rfl ?_; refine TL.nil ?_; refine TQ.then_n ?_; refine TC.seq ?_; refine TC.seq ?_; refine TC.region ?_; refine TL.move rfl rfl ?_; refine TL.not rfl rfl ?_; refine TL.move rfl rfl ?_; refine TL.gyes rfl rfl rfl ?_; refine TL.move rfl rfl ?_; refine TL.gyes rfl rfl rfl ?_; refine TL.move rfl rfl ?_; refine TL.gno rfl rfl rfl rfl ?_; refine TL.gyes rfl rfl rfl ?_; refine TL.pickT rfl rfl rfl rfl ?_; refine TL.pickT rfl rfl rfl rfl ?_; refine TL.nil ?_; refine TQ.then_n ?_; refine TC.cond_t rfl ?_; refine TC.seq ?_; refine TC.region ?_; refine TL.move rfl rfl ?_; refine TL.load_ownA 1 0 [_, _, _, _] rfl rfl rfl ⟨rfl, rfl, rfl, rfl, trivial⟩ rfl rfl ?_
       refine TL.litF (r := [_, _, _, _]) [(0, [_, _, _, _])] ⟨rfl, ⟨_, rfl, rfl⟩, trivial⟩ rfl rfl rfl rfl ?_; intro g41; refine TL.append 1 rfl rfl rfl hrow (Src.ofOwn 0 0 rfl rfl rfl (Ones.all (show Ones [_, _, _, _] from ⟨by rfl, by rfl, by rfl, by rfl, trivial⟩)) ⟨rfl, rfl, rfl, rfl, trivial⟩) (by omega) (by omega) rfl ?_; intro v1 seg1 hrow1
       have hrow2 : Row 60 4 v1 (out ++ [f]).length (factsV (out ++ [f])) seg1 := by rw [factsV_snoc, List.length_append]; exact hrow1
       refine TL.assign rfl rfl ?_; refine TL.nil ?_; refine TQ.then_n ?_; refine TC.region ?_; refine TL.assign rfl rfl ?_; refine TL.nsr ?_; refine TL.move rfl rfl ?_; refine TL.not rfl rfl ?_; refine TL.nil ?_; refine TQ.then_n ?_; refine TC.cond_f rfl ?_; refine TC.skip ?_; refine TQ.in_n ?_; refine TQ.then_n ?_; refine TC.region ?_; refine TL.move rfl rfl ?_; refine TL.add rfl rfl rfl ⟨by omega, by omega⟩ ?_; refine TL.assign rfl rfl ?_; refine TL.nil ?_
       refine TQ.sel 3 [1, 2] rfl (fun o ho => ?_)
       simp only [K.sel, List.map_cons, List.map_nil, List.getD_cons_zero, List.getD_cons_succ, List.drop_succ_cons, List.drop_zero, List.cons_append, List.nil_append, List.set_cons_zero, List.set_cons_succ] at ho; subst ho
       have hrowN := hrow2
       refine TQ.next (l.length - (i + 1)) [(0, _), (3, _), (5, _), (6, _), (7, _)] (by omega) ⟨rfl, rfl, rfl, rfl, rfl, trivial⟩ ⟨i + 1, true, (out ++ [f]), _, _, rfl, by omega, ?_, ?_, hrowN, by simp, rfl, hle0⟩
       · rw [hinv, hdr]
         simp [putL, hkb, hsk]
       · first | omega | (simp; omega)
    ·
     have hsk : x.key = f.key := by simpa using hsm
     refine TC.drawQV 5  [(0, _), (3, _), (5, _), (6, _), (7, _)] follows_mixed ⟨rfl, rfl, rfl, rfl, rfl, trivial⟩ ?_; refine ChainV.q (some 19) [] (fun _ _ _ _ hF => TL.move rfl rfl (TL.one hF)) ?_; refine ChainV.q (some 20) [] (fun _ _ _ _ hF => TL.move rfl rfl (TL.one hF)) ?_; refine ChainV.q (some 21) [(0, 1), (1, 0)] (fun _ _ _ _ hF => TL.indexAddr (i) rfl rfl rfl (by omega) rfl (TL.one hF)) ?_
     refine ChainV.q (some 22) [(2, 0)] (by
      intro H' X F hle; have hL := Le.trans hL hle; have hpx := hAt.mono hle hpx; intro hF; refine TL.load_immA rfl (hpx) rfl rfl ?_
      exact TL.one hF) ?_
     refine ChainV.q (some 23) [] (by
      intro H' X F hle; have hL := Le.trans hL hle; intro hF; refine TL.load_ownA 1 0 [_, _, _, _] rfl rfl rfl ⟨rfl, rfl, rfl, rfl, trivial⟩ rfl rfl ?_
      exact TL.one hF) ?_
     refine ⟨by kernel_rfl, .refl _, ?_⟩
     ·
      intro H33 hle; have hL := Le.trans hL hle; have hle0 := Le.trans hle0 hle; have hpx := hAt.mono hle hpx; refine TL.toOwn (own' := _ :: _ :: own) rfl ?_; refine TL.wk (env' := [(0, _), (3, _), (5, _), (6, _), (7, _), (22, _), (23, _)]) ⟨rfl, rfl, rfl, rfl, rfl, rfl, rfl, trivial⟩ ?_; refine TL.call (ref_same hx1 hf) ⟨rfl, rfl, trivial⟩ rfl ?_
      rintro _ own H24 ⟨rfl, rfl, hle24⟩
      rw [hsm]
      have hL := Le.trans hL hle24; have hle0 := Le.trans hle0 hle24; have hpx := hAt.mono hle24 hpx; refine TL.assign rfl rfl ?_; refine TL.nil ?_; refine TQ.then_n ?_; refine TC.seq ?_; refine TC.drawQV 5  [(0, _), (3, _), (5, _), (6, _), (7, _), (8, _)] follows_mixed ⟨rfl, rfl, rfl, rfl, rfl, rfl, trivial⟩ ?_
      refine ChainV.q (some 25) [] (by
       intro H' X F hle; have hL := Le.trans hL hle; intro hF; refine TL.load_ownA 1 0 [_, _, _, _] rfl rfl rfl ⟨rfl, rfl, rfl, rfl, trivial⟩ rfl rfl ?_
       exact TL.one hF) ?_
      refine ChainV.q (some 26) [] (fun _ _ _ _ hF => TL.move rfl rfl (TL.one hF)) ?_; refine ChainV.q (some 27) [] (fun _ _ _ _ hF => TL.move rfl rfl (TL.one hF)) ?_; refine ChainV.q (some 28) [(1, 1), (2, 0)] (fun _ _ _ _ hF => TL.indexAddr (i) rfl rfl rfl (by omega) rfl (TL.one hF)) ?_
      refine ChainV.q (some 29) [(3, 0)] (by
       intro H' X F hle; have hL := Le.trans hL hle; have hpx := hAt.mono hle hpx; intro hF; refine TL.load_immA rfl (hpx) rfl rfl ?_
       exact TL.one hF) ?_
      refine ⟨by kernel_rfl, .refl _, ?_⟩
      ·
       intro H34 hle; have hL := Le.trans hL hle; have hle0 := Le.trans hle0 hle; refine TL.toOwn (own' := _ :: _ :: own) rfl ?_; refine TL.wk (env' := [(0, _), (3, _), (5, _), (6, _), (7, _), (8, _), (25, _), (29, _)]) ⟨rfl, rfl, rfl, rfl, rfl, rfl, rfl, rfl, trivial⟩ ?_; refine TL.call (ref_before) ⟨rfl, rfl, trivial⟩ rfl ?_
       rintro _ own H30 ⟨rfl, rfl, hle30⟩
       rw [hkb]
       have hL := Le.trans hL hle30; have hle0 := Le.trans hle0 hle30; refine TL.assign rfl rfl ?_; refine TL.nil ?_; refine TQ.then_n ?_; refine TC.seq ?_; refine TC.seq ?_; refine TC.region ?_; refine TL.move rfl rfl ?_; refine TL.not rfl rfl ?_; refine TL.move rfl rfl ?_; refine TL.gno rfl rfl rfl rfl ?_; refine TL.gno rfl rfl rfl rfl ?_; refine TL.gund rfl rfl rfl ?_; refine TL.gno rfl rfl rfl rfl ?_; refine TL.pickF rfl rfl rfl rfl ?_; refine TL.nil ?_; refine TQ.then_n ?_; refine TC.cond_f rfl ?_; refine TC.skip ?_; refine TQ.nsr ?_; refine TL.move rfl rfl ?_; refine TL.not rfl rfl ?_; refine TL.nil ?_; refine TQ.then_n ?_; refine TC.cond_f rfl ?_; refine TC.skip ?_; refine TQ.in_n ?_; refine TQ.then_n ?_; refine TC.region ?_; refine TL.move rfl rfl ?_; refine TL.add rfl rfl rfl ⟨by omega, by omega⟩ ?_; refine TL.assign rfl rfl ?_; refine TL.nil ?_
       refine TQ.toOwn (own' := _ :: _ :: own) rfl ?_; have hrowN := hrow
       refine TQ.next (l.length - (i + 1)) [(0, _), (3, _), (5, _), (6, _), (7, _)] (by omega) ⟨rfl, rfl, rfl, rfl, rfl, trivial⟩ ⟨i + 1, true, (out), _, _, rfl, by omega, ?_, ?_, hrowN, by simp, rfl, hle0⟩
       · rw [hinv, hdr]
         simp [putL, hkb, hsk]
       · first | omega | (simp; omega)
   ·
    refine TL.nil ?_; refine TQ.then_n ?_; refine TC.cond_f rfl ?_; refine TC.exit ?_; refine TQ.then_e ?_; refine TQ.then_e ?_; refine TQ.in_e ?_; refine TQ.then_n ?_; refine TC.seq ?_; refine TC.seq ?_
    have hie : i = l.length := by omega
    rw [hie, List.drop_of_length_le (Nat.le_refl _)] at hinv
    rcases dn with _ | _
    ·
     refine TC.region ?_; refine TL.move rfl rfl ?_; refine TL.not rfl rfl ?_; refine TL.nil ?_; refine TQ.then_n ?_; refine TC.cond_t rfl ?_; refine TC.region ?_; refine TL.move rfl rfl ?_; refine TL.load_ownA 1 0 [_, _, _, _] rfl rfl rfl ⟨rfl, rfl, rfl, rfl, trivial⟩ rfl rfl ?_
     refine TL.litF (r := [_, _, _, _]) [(0, [_, _, _, _])] ⟨rfl, ⟨_, rfl, rfl⟩, trivial⟩ rfl rfl rfl rfl ?_; intro g56; refine TL.append 1 rfl rfl rfl hrow (Src.ofOwn 0 0 rfl rfl rfl (Ones.all (show Ones [_, _, _, _] from ⟨by rfl, by rfl, by rfl, by rfl, trivial⟩)) ⟨rfl, rfl, rfl, rfl, trivial⟩) (by omega) (by omega) rfl ?_; intro v1 seg1 hrow1
     have hrow2 : Row 60 4 v1 (out ++ [f]).length (factsV (out ++ [f])) seg1 := by rw [factsV_snoc, List.length_append]; exact hrow1
     refine TL.assign rfl rfl ?_; refine TL.nsr ?_; refine TL.move rfl rfl ?_; refine TL.assign rfl rfl ?_; refine TL.nil ?_; refine TQ.then_n ?_; refine TC.ret ?_
     refine TQ.sel 3 [1, 0, 2] rfl (fun o ho => ?_)
     simp only [K.sel, List.map_cons, List.map_nil, List.getD_cons_zero, List.getD_cons_succ, List.drop_succ_cons, List.drop_zero, List.cons_append, List.nil_append, List.set_cons_zero, List.set_cons_succ] at ho; subst ho
     refine TQ.freeze (fun H35 hle hz_row => ?_)
     have hL := Le.trans hL hle; refine TQ.ret1 2 rfl rfl ?_
     first
       | exact ⟨by rw [hinv]; exact facts_row hrow2 hz_row (Le.refl _), rfl, hL⟩
       | exact ⟨by rw [show putF l f = out by rw [hinv]; simp [putL]]; exact facts_row hrow hz_row (Le.refl _), rfl, hL⟩
    ·
     refine TC.region ?_; refine TL.move rfl rfl ?_; refine TL.not rfl rfl ?_; refine TL.nil ?_; refine TQ.then_n ?_; refine TC.cond_f rfl ?_; refine TC.skip ?_; refine TQ.nsr ?_; refine TL.move rfl rfl ?_; refine TL.assign rfl rfl ?_; refine TL.nil ?_; refine TQ.then_n ?_; refine TC.ret ?_
     refine TQ.freeze (fun H36 hle hz_row => ?_)
     have hL := Le.trans hL hle; refine TQ.ret1 1 rfl rfl ?_
     first
       | exact ⟨by rw [hinv]; exact facts_row hrow2 hz_row (Le.refl _), rfl, hL⟩
       | exact ⟨by rw [show putF l f = out by rw [hinv]; simp [putL]]; exact facts_row hrow hz_row (Le.refl _), rfl, hL⟩

end Go.Proofs.YteeamfkhkbfilaaGreat.K

namespace Go.Proofs.YteeamfkhkbfilaaGreat.K
open Go Go.RowKit Go.Proofs

theorem wrong_many {l : List Fact} (h : 1000 < l.length) : wrongC l = 2 := by unfold wrongC; rw [if_pos h]
theorem wrong_none {l : List Fact} (h : l.length = 0) : wrongC l = 1 := by
  have : l = [] := List.length_eq_zero_iff.1 h
  subst this; rfl
theorem wrong_bad {l : List Fact} (h : ¬ 1000 < l.length) {x : Fact} (hx : x ∈ l) (hr : factR x = false) : wrongC l = 1 := by
  unfold wrongC
  rw [if_neg h]
  split
  · rfl
  · rw [if_pos]
    rw [List.all_eq_false]
    exact ⟨x, hx, by simp [hr]⟩
theorem take_good {p : Fact → Bool} {l : List Fact} {i : Nat} (h : i = l.length) (hg : ∀ g ∈ l.take i, p g = true) : l.all p = true := by
  rw [List.all_eq_true]
  intro g hg2
  exact hg g (by rw [h, List.take_length]; exact hg2)
theorem wrong_twice {l : List Fact} (h : ¬ 1000 < l.length) (hr : l.all factR = true) {i j : Nat} {x y : Fact} (hx : l[i]? = some x) (hy : l[j]? = some y) (hij : j < i) (he : x.key = y.key) : wrongC l = 33 := by
  unfold wrongC
  rw [if_neg h, if_neg (fun h => by subst h; simp at hx), if_neg (by rw [hr]; simp), if_neg]
  intro hn
  have hil : i < (l.map Fact.key).length := by rw [List.length_map]; exact (List.getElem?_eq_some_iff.1 hx).1
  have : (l.map Fact.key)[i]? = (l.map Fact.key)[j]? := by rw [List.getElem?_map, List.getElem?_map, hx, hy]; simp [he]
  have := (List.getElem?_inj hil hn).1 this
  omega
theorem wrong_ok {l : List Fact} (h : ¬ 1000 < l.length) (h0 : ¬ l.length = 0) (hr : l.all factR = true) (hn : (l.map Fact.key).Nodup) : wrongC l = 0 := by
  unfold wrongC
  rw [if_neg h, if_neg (fun h => h0 (by rw [h]; rfl)), if_neg (by rw [hr]; simp), if_pos hn]
theorem nodup_take {l : List Fact} {i : Nat} {x : Fact} (hx : l[i]? = some x) (h : ((l.take i).map Fact.key).Nodup) (hn : ∀ k y, k < i → l[k]? = some y → y.key ≠ x.key) : ((l.take (i + 1)).map Fact.key).Nodup := by
  rw [take_succ hx, List.map_append, List.nodup_append]
  refine ⟨h, by simp, fun a ha b hb => ?_⟩
  simp at hb
  subst hb
  obtain ⟨g, hg, rfl⟩ := List.mem_map.1 ha
  obtain ⟨k, hk⟩ := List.getElem?_of_mem hg
  rw [List.getElem?_take] at hk
  split at hk
  · rename_i hki
    exact hn k g hki hk
  · cases hk
/-- What wrongC of nought says. -/
theorem wrong_zero {l : List Fact} (h : wrongC l = 0) : l.length ≤ 1000 ∧ l ≠ [] ∧ l.all factR = true ∧ (l.map Fact.key).Nodup := by
  unfold wrongC at h
  split at h
  · cases h
  · split at h
    · cases h
    · split at h
      · cases h
      · split at h
        · rename_i h1 h2 h3 h4
          exact ⟨by omega, h2, by simpa using h3, h4⟩
        · cases h
/-- The reference's state. -/
structure RS where
  facts : List Fact
  n : Nat
  stk : List (List Fact × List Fact)
def recC (n : Int) (l : List Fact) : ByteArray := recS ⟨#[67]⟩ n (payS l)
def recU (n : Int) : ByteArray := recS ⟨#[85]⟩ n eS
def RS.commit (s : RS) (l : List Fact) : RS := ⟨l.foldl putF s.facts, s.n + 1, s.stk ++ [(s.facts, l)]⟩
/-- A fact as it stood before. -/
def was (b : List Fact) (p : Fact) : Fact := ⟨p.kind, p.bank, p.addr, (look b p.key).getD eS⟩
def unput (b l s : List Fact) : List Fact := (l.map (was b)).foldl putF s
def RS.undo (s : RS) (b l : List Fact) : RS := ⟨unput b l s.facts, s.n + 1, s.stk.dropLast⟩
theorem was_key (b : List Fact) (p : Fact) : (was b p).key = p.key := rfl
/-- As the reference finds it. -/
def wasL : List Fact → Fact → Fact
  | [], q => q
  | f :: r, q => wasL r (if f.key = q.key then f else q)
theorem wasL_key : ∀ (b : List Fact) (q : Fact), (wasL b q).key = q.key
  | [], _ => rfl
  | f :: r, q => by
    unfold wasL
    rw [wasL_key]
    split <;> simp_all
theorem wasL_gone : ∀ {b : List Fact} {q : Fact}, (∀ f ∈ b, f.key ≠ q.key) → wasL b q = q
  | [], _, _ => rfl
  | f :: r, q, h => by
    unfold wasL
    rw [if_neg (h f (by simp))]
    exact wasL_gone fun g hg => h g (by simp [hg])
theorem wasL_was : ∀ {b : List Fact} (p : Fact), b.Pairwise (fun a b => kb a.key b.key = true) → wasL b ⟨p.kind, p.bank, p.addr, eS⟩ = was b p
  | [], p, _ => rfl
  | f :: r, p, h => by
    rw [List.pairwise_cons] at h
    unfold wasL
    rw [show (Fact.key ⟨p.kind, p.bank, p.addr, eS⟩) = p.key from rfl]
    by_cases hk : f.key = p.key
    · rw [if_pos hk, wasL_gone fun g hg he => by have := h.1 g hg; rw [he, kb_irrefl] at this; cases this]
      unfold was
      simp only [look, if_pos hk, Option.getD_some]
      obtain ⟨k1, k2, k3, k4⟩ := f
      obtain ⟨q1, q2, q3, q4⟩ := p
      simp only [Fact.key, Prod.mk.injEq] at hk ⊢
      obtain ⟨rfl, rfl, rfl⟩ := hk
      rfl
    · rw [if_neg hk, wasL_was p h.2]
      unfold was
      simp only [look, if_neg hk]
theorem wasL_take {b : List Fact} {k : Nat} {f q : Fact} (hf : b[k]? = some f) : wasL (b.take (k + 1)) q = if f.key = q.key then f else wasL (b.take k) q := by
  rw [take_succ hf]
  have gen : ∀ (l : List Fact) (q : Fact), wasL (l ++ [f]) q = if f.key = q.key then f else wasL l q := by
    intro l
    induction l with
    | nil => intro q; simp [wasL]
    | cons x r ih =>
      intro q
      simp only [List.cons_append, wasL, ih]
      by_cases hx : x.key = q.key
      · rw [if_pos hx, hx]
      · rw [if_neg hx]
  exact gen _ _
theorem wasL_mem : ∀ (b : List Fact) (q : Fact), wasL b q = q ∨ wasL b q ∈ b
  | [], _ => .inl rfl
  | f :: r, q => by
    unfold wasL
    split
    · rcases wasL_mem r f with h | h
      · rw [h]; exact .inr (by simp)
      · exact .inr (by simp [h])
    · rcases wasL_mem r q with h | h
      · exact .inl h
      · exact .inr (by simp [h])
theorem putF_mem {l : List Fact} {f g : Fact} (h : g ∈ putF l f) : g = f ∨ g ∈ l := by
  rcases putL_mem h with ⟨h, _⟩ | ⟨h, _⟩
  · exact .inl h
  · exact .inr h
theorem fold_mem : ∀ {ps l : List Fact} {g : Fact}, g ∈ ps.foldl putF l → g ∈ ps ∨ g ∈ l
  | [], l, g, h => .inr h
  | p :: r, l, g, h => by
    rcases fold_mem (ps := r) h with h | h
    · exact .inl (by simp [h])
    · rcases putF_mem h with rfl | h
      · exact .inl (by simp)
      · exact .inr h
theorem was_ok {b : List Fact} {p : Fact} (hb : ∀ f ∈ b, FOk f) (hp : FOk p) : FOk (was b p) := by
  refine ⟨hp.kind, hp.bank, hp.addr, ?_⟩
  show ((look b p.key).getD eS).size ≤ _
  cases h : look b p.key with
  | none => exact Nat.zero_le _
  | some t =>
    obtain ⟨f, hf, _, rfl⟩ := look_mem h
    exact (hb f hf).text
end Go.Proofs.YteeamfkhkbfilaaGreat.K

namespace Go.Proofs.YteeamfkhkbfilaaGreat.K
open Go Go.RowKit Go.Proofs

theorem ref_Wrong {l : List Fact} (hl : ∀ g ∈ l, FOk g) {w0 : World} {H : Hp} {own : List Seg} {v : Value} (hA : rd H (.s 4 (factsD l)) v) :
    Fn Tryz.prog 40 [v] w0 H own (fun r own' H' => r = .int .i64 (wrongC l) ∧ own' = own ∧ Le H H') := by
  obtain ⟨A, c, rfl, hc1, hc2⟩ := facts_len hA
  refine Fn.enter Tryz.func40 rfl Tryz.ntmps40 rfl ?_; have hL := Le.refl H; refine TC.seq ?_; refine TC.region ?_; refine TL.assign rfl rfl ?_; refine TL.nil ?_; refine TQ.then_n ?_; refine TC.seq ?_; refine TC.seq ?_; refine TC.region ?_; refine TL.move rfl rfl ?_; refine TL.len_slice rfl rfl ?_
  refine TL.gtrB rfl rfl rfl (fun hmany => ?_) (fun hmany => ?_)
  ·
   refine TL.nil ?_; refine TQ.then_n ?_; refine TC.cond_t rfl ?_; refine TC.seq ?_; refine TC.region ?_; refine TL.assign rfl rfl ?_; refine TL.nil ?_; refine TQ.then_n ?_; refine TC.ret ?_; refine TQ.then_r ?_; refine TQ.ret1 0 rfl rfl ?_
   refine ⟨congrArg (Value.int .i64) ?_, rfl, hL⟩
   symm
   first
     | exact wrong_many (by omega)
     | exact wrong_none (by omega)
     | exact wrong_bad (by omega) (List.mem_of_getElem? hx) hid
     | exact wrong_twice (by omega) hall hx hy hlt3n hsm
     | exact wrong_ok (by omega) (by omega) hall (by rw [show i = l.length by omega, List.take_length] at hnd; exact hnd)
  ·
   refine TL.nil ?_; refine TQ.then_n ?_; refine TC.cond_f rfl ?_; refine TC.skip ?_; refine TQ.then_n ?_; refine TC.seq ?_; refine TC.seq ?_; refine TC.region ?_; refine TL.move rfl rfl ?_; refine TL.len_slice rfl rfl ?_
   refine TL.eqlB rfl rfl rfl (fun hnone => ?_) (fun hnone => ?_)
   ·
    refine TL.nil ?_; refine TQ.then_n ?_; refine TC.cond_t rfl ?_; refine TC.seq ?_; refine TC.region ?_; refine TL.assign rfl rfl ?_; refine TL.nil ?_; refine TQ.then_n ?_; refine TC.ret ?_; refine TQ.then_r ?_; refine TQ.ret1 0 rfl rfl ?_
    refine ⟨congrArg (Value.int .i64) ?_, rfl, hL⟩
    symm
    first
      | exact wrong_many (by omega)
      | exact wrong_none (by omega)
      | exact wrong_bad (by omega) (List.mem_of_getElem? hx) hid
      | exact wrong_twice (by omega) hall hx hy hlt3n hsm
      | exact wrong_ok (by omega) (by omega) hall (by rw [show i = l.length by omega, List.take_length] at hnd; exact hnd)
   ·
    refine TL.nil ?_; refine TQ.then_n ?_; refine TC.cond_f rfl ?_; refine TC.skip ?_; refine TQ.then_n ?_; refine TC.seq ?_; refine TC.seq ?_; refine TC.region ?_; refine TL.assign rfl rfl ?_; refine TL.nil ?_; refine TQ.then_n ?_; refine TC.block ?_; refine TC.loop (fun n env' own' H' => ∃ i, n = l.length - i ∧ i ≤ l.length ∧ (∀ g ∈ l.take i, factR g = true) ∧ env' = [(0, .slice A l.length c), (3, .int .i64 (i : Int))] ∧ own' = own ∧ Le H H') l.length [(0, _), (3, _)] ⟨rfl, rfl, trivial⟩ ⟨0, by omega, by omega, by simp, rfl, rfl, Le.refl _⟩ ?_
    rintro n _ own H1 ⟨i, rfl, hi1, hgood, rfl, rfl, hle0⟩
    have hL := Le.trans hL hle0; have hA := rd.mono hle0 hA; refine TC.seq ?_; refine TC.seq ?_; refine TC.region ?_; refine TL.move rfl rfl ?_; refine TL.move rfl rfl ?_; refine TL.len_slice rfl rfl ?_
    refine TL.lssB rfl rfl rfl (fun hlt => ?_) (fun hlt => ?_)
    ·
     obtain ⟨x, hx⟩ : ∃ x, l[i]? = some x := ⟨_, List.getElem?_eq_getElem (by omega)⟩
     obtain ⟨b1, o1, rfl, hpx⟩ := facts_at hA hx
     refine TL.nil ?_; refine TQ.then_n ?_; refine TC.cond_t rfl ?_; refine TC.skip ?_; refine TQ.then_n ?_; refine TC.seq ?_; refine TC.block ?_; refine TC.seq ?_; refine TC.region ?_; refine TL.move rfl rfl ?_; refine TL.move rfl rfl ?_; refine TL.indexAddr (i) rfl rfl rfl (by omega) rfl ?_; refine TL.load_immA rfl (hpx) rfl rfl ?_; refine TL.call (ref_Right (hl x (List.mem_of_getElem? hx)).text) ⟨rfl, trivial⟩ rfl ?_
     rintro _ own H24 ⟨rfl, rfl, hle24⟩
     have hL := Le.trans hL hle24; have hle0 := Le.trans hle0 hle24
     rcases hid : factR x with _ | _
     rotate_left
     ·
      refine TL.assign rfl rfl ?_; refine TL.nsr ?_; refine TL.move rfl rfl ?_; refine TL.not rfl rfl ?_; refine TL.nil ?_; refine TQ.then_n ?_; refine TC.cond_f rfl ?_; refine TC.skip ?_; refine TQ.in_n ?_; refine TQ.then_n ?_; refine TC.region ?_; refine TL.move rfl rfl ?_; refine TL.add rfl rfl rfl ⟨by omega, by omega⟩ ?_; refine TL.assign rfl rfl ?_; refine TL.nil ?_; refine TQ.toOwn (own' := own) rfl ?_
      refine TQ.next (l.length - (i + 1)) [(0, _), (3, _)] (by omega) ⟨rfl, rfl, trivial⟩ ⟨i + 1, rfl, by omega, ?_, rfl, rfl, hle0⟩
      rw [take_succ hx]
      intro g hg
      rcases List.mem_append.1 hg with hg | hg
      · exact hgood g hg
      · simp at hg; subst hg; exact hid
     ·
      refine TL.assign rfl rfl ?_; refine TL.nsr ?_; refine TL.move rfl rfl ?_; refine TL.not rfl rfl ?_; refine TL.nil ?_; refine TQ.then_n ?_; refine TC.cond_t rfl ?_; refine TC.seq ?_; refine TC.region ?_; refine TL.assign rfl rfl ?_; refine TL.nil ?_; refine TQ.then_n ?_; refine TC.ret ?_; refine TQ.in_r ?_; refine TQ.then_r ?_; refine TQ.then_r ?_; refine TQ.in_r ?_; refine TQ.then_r ?_; refine TQ.ret1 0 rfl rfl ?_
      refine ⟨congrArg (Value.int .i64) ?_, rfl, hL⟩
      symm
      first
        | exact wrong_many (by omega)
        | exact wrong_none (by omega)
        | exact wrong_bad (by omega) (List.mem_of_getElem? hx) hid
        | exact wrong_twice (by omega) hall hx hy hlt3n hsm
        | exact wrong_ok (by omega) (by omega) hall (by rw [show i = l.length by omega, List.take_length] at hnd; exact hnd)
    ·
     have hall := take_good (by omega) hgood
     refine TL.nil ?_; refine TQ.then_n ?_; refine TC.cond_f rfl ?_; refine TC.exit ?_; refine TQ.then_e ?_; refine TQ.then_e ?_; refine TQ.in_e ?_; refine TQ.then_n ?_; refine TC.seq ?_; refine TC.seq ?_; refine TC.region ?_; refine TL.assign rfl rfl ?_; refine TL.nil ?_; refine TQ.then_n ?_; refine TC.block ?_; refine TC.loop (fun n env' own' H' => ∃ i, n = l.length - i ∧ i ≤ l.length ∧ ((l.take i).map Fact.key).Nodup ∧ env' = [(0, .slice A l.length c), (5, .int .i64 (i : Int))] ∧ own' = own ∧ Le H1 H') l.length [(0, _), (5, _)] ⟨rfl, rfl, trivial⟩ ⟨0, by omega, by omega, by simp, rfl, rfl, Le.refl _⟩ ?_
     rintro n _ own H2 ⟨i, rfl, hi2, hnd, rfl, rfl, hle1⟩
     have hL := Le.trans hL hle1; have hA := rd.mono hle1 hA; refine TC.seq ?_; refine TC.seq ?_; refine TC.region ?_; refine TL.move rfl rfl ?_; refine TL.move rfl rfl ?_; refine TL.len_slice rfl rfl ?_
     refine TL.lssB rfl rfl rfl (fun hlt2 => ?_) (fun hlt2 => ?_)
     ·
      obtain ⟨x, hx⟩ : ∃ x, l[i]? = some x := ⟨_, List.getElem?_eq_getElem (by omega)⟩
      obtain ⟨b2, o2, rfl, hpx⟩ := facts_at hA hx
      refine TL.nil ?_; refine TQ.then_n ?_; refine TC.cond_t rfl ?_; refine TC.skip ?_; refine TQ.then_n ?_; refine TC.seq ?_; refine TC.block ?_; refine TC.seq ?_; refine TC.region ?_; refine TL.assign rfl rfl ?_; refine TL.nil ?_; refine TQ.then_n ?_; refine TC.block ?_; refine TC.loop (fun n env' own' H' => ∃ j, n = i - j ∧ j ≤ i ∧ (∀ k y, k < j → l[k]? = some y → y.key ≠ x.key) ∧ env' = [(0, .slice (some ⟨b2, o2, none⟩) l.length c), (5, .int .i64 (i : Int)), (6, .int .i64 (j : Int))] ∧ own' = own ∧ Le H2 H') i [(0, _), (5, _), (6, _)] ⟨rfl, rfl, rfl, trivial⟩ ⟨0, by omega, by omega, by simp, rfl, rfl, Le.refl _⟩ ?_
      rintro n _ own H3 ⟨j, rfl, hj1, hno, rfl, rfl, hle2⟩
      have hL := Le.trans hL hle2; have hA := rd.mono hle2 hA; have hle1 := Le.trans hle1 hle2; have hpx := hAt.mono hle2 hpx; refine TC.seq ?_; refine TC.seq ?_; refine TC.region ?_; refine TL.move rfl rfl ?_; refine TL.move rfl rfl ?_
      refine TL.lssB rfl rfl rfl (fun hlt3 => ?_) (fun hlt3 => ?_)
      ·
       obtain ⟨y, hy⟩ : ∃ y, l[j]? = some y := ⟨_, List.getElem?_eq_getElem (by omega)⟩
       obtain ⟨b3, o3, heq, hpy⟩ := facts_at hA hy
       cases heq
       refine TL.nil ?_; refine TQ.then_n ?_; refine TC.cond_t rfl ?_; refine TC.skip ?_; refine TQ.then_n ?_; refine TC.seq ?_; refine TC.block ?_; refine TC.seq ?_
       rcases dsm : decide (x.key = y.key) with _ | _
       ·
        have hsm := of_decide_eq_false dsm; refine TC.drawQV 8  [(0, _), (5, _), (6, _)] follows_mixed ⟨rfl, rfl, rfl, trivial⟩ ?_; refine ChainV.q (some 38) [] (fun _ _ _ _ hF => TL.move rfl rfl (TL.one hF)) ?_; refine ChainV.q (some 39) [] (fun _ _ _ _ hF => TL.move rfl rfl (TL.one hF)) ?_; refine ChainV.q (some 40) [(0, 1), (1, 0)] (fun _ _ _ _ hF => TL.indexAddr (i) rfl rfl rfl (by omega) rfl (TL.one hF)) ?_
        refine ChainV.q (some 41) [(2, 0)] (by
         intro H' X F hle; have hL := Le.trans hL hle; have hpx := hAt.mono hle hpx; intro hF; refine TL.load_immA rfl (hpx) rfl rfl ?_
         exact TL.one hF) ?_
        refine ChainV.q (some 42) [] (fun _ _ _ _ hF => TL.move rfl rfl (TL.one hF)) ?_; refine ChainV.q (some 43) [] (fun _ _ _ _ hF => TL.move rfl rfl (TL.one hF)) ?_; refine ChainV.q (some 44) [(4, 1), (5, 0)] (fun _ _ _ _ hF => TL.indexAddr (j) rfl rfl rfl (by omega) rfl (TL.one hF)) ?_
        refine ChainV.q (some 45) [(6, 0)] (by
         intro H' X F hle; have hL := Le.trans hL hle; have hpy := hAt.mono hle hpy; intro hF; refine TL.load_immA rfl (hpy) rfl rfl ?_
         exact TL.one hF) ?_
        refine ⟨by kernel_rfl, .refl _, ?_⟩
        ·
         intro H1 hle; have hL := Le.trans hL hle; have hle2 := Le.trans hle2 hle; refine TL.toOwn (own' := own) rfl ?_; refine TL.wk (env' := [(0, _), (5, _), (6, _), (41, _), (45, _)]) ⟨rfl, rfl, rfl, rfl, rfl, trivial⟩ ?_; refine TL.call (ref_same (hl x (List.mem_of_getElem? hx)) (hl y (List.mem_of_getElem? hy))) ⟨rfl, rfl, trivial⟩ rfl ?_
         rintro _ own H46 ⟨rfl, rfl, hle46⟩
         rw [dsm]
         have hL := Le.trans hL hle46; have hle2 := Le.trans hle2 hle46; refine TL.assign rfl rfl ?_; refine TL.nsr ?_; refine TL.move rfl rfl ?_; refine TL.nil ?_; refine TQ.then_n ?_; refine TC.cond_f rfl ?_; refine TC.skip ?_; refine TQ.in_n ?_; refine TQ.then_n ?_; refine TC.region ?_; refine TL.move rfl rfl ?_; refine TL.add rfl rfl rfl ⟨by omega, by omega⟩ ?_; refine TL.assign rfl rfl ?_; refine TL.nil ?_; refine TQ.toOwn (own' := own) rfl ?_
         refine TQ.next (i - (j + 1)) [(0, _), (5, _), (6, _)] (by omega) ⟨rfl, rfl, rfl, trivial⟩ ⟨j + 1, rfl, by omega, fun k z hk hz => ?_, rfl, rfl, hle2⟩
         rcases Nat.lt_succ_iff_lt_or_eq.1 hk with hk | rfl
         · exact hno k z hk hz
         · rw [hy] at hz; cases hz; exact fun h => hsm h.symm
       ·
        have hsm := of_decide_eq_true dsm
        have hlt3n : j < i := by omega
        refine TC.drawQV 8  [(0, _), (5, _), (6, _)] follows_mixed ⟨rfl, rfl, rfl, trivial⟩ ?_; refine ChainV.q (some 38) [] (fun _ _ _ _ hF => TL.move rfl rfl (TL.one hF)) ?_; refine ChainV.q (some 39) [] (fun _ _ _ _ hF => TL.move rfl rfl (TL.one hF)) ?_; refine ChainV.q (some 40) [(0, 1), (1, 0)] (fun _ _ _ _ hF => TL.indexAddr (i) rfl rfl rfl (by omega) rfl (TL.one hF)) ?_
        refine ChainV.q (some 41) [(2, 0)] (by
         intro H' X F hle; have hL := Le.trans hL hle; have hpx := hAt.mono hle hpx; intro hF; refine TL.load_immA rfl (hpx) rfl rfl ?_
         exact TL.one hF) ?_
        refine ChainV.q (some 42) [] (fun _ _ _ _ hF => TL.move rfl rfl (TL.one hF)) ?_; refine ChainV.q (some 43) [] (fun _ _ _ _ hF => TL.move rfl rfl (TL.one hF)) ?_; refine ChainV.q (some 44) [(4, 1), (5, 0)] (fun _ _ _ _ hF => TL.indexAddr (j) rfl rfl rfl (by omega) rfl (TL.one hF)) ?_
        refine ChainV.q (some 45) [(6, 0)] (by
         intro H' X F hle; have hL := Le.trans hL hle; have hpy := hAt.mono hle hpy; intro hF; refine TL.load_immA rfl (hpy) rfl rfl ?_
         exact TL.one hF) ?_
        refine ⟨by kernel_rfl, .refl _, ?_⟩
        ·
         intro H2 hle; have hL := Le.trans hL hle; refine TL.toOwn (own' := own) rfl ?_; refine TL.wk (env' := [(0, _), (5, _), (6, _), (41, _), (45, _)]) ⟨rfl, rfl, rfl, rfl, rfl, trivial⟩ ?_; refine TL.call (ref_same (hl x (List.mem_of_getElem? hx)) (hl y (List.mem_of_getElem? hy))) ⟨rfl, rfl, trivial⟩ rfl ?_
         rintro _ own H46 ⟨rfl, rfl, hle46⟩
         rw [dsm]
         have hL := Le.trans hL hle46; refine TL.assign rfl rfl ?_; refine TL.nsr ?_; refine TL.move rfl rfl ?_; refine TL.nil ?_; refine TQ.then_n ?_; refine TC.cond_t rfl ?_; refine TC.seq ?_; refine TC.region ?_; refine TL.assign rfl rfl ?_; refine TL.nil ?_; refine TQ.then_n ?_; refine TC.ret ?_; refine TQ.in_r ?_; refine TQ.then_r ?_; refine TQ.then_r ?_; refine TQ.in_r ?_; refine TQ.in_r ?_; refine TQ.then_r ?_; refine TQ.then_r ?_; refine TQ.in_r ?_; refine TQ.then_r ?_; refine TQ.ret1 0 rfl rfl ?_
         refine ⟨congrArg (Value.int .i64) ?_, rfl, hL⟩
         symm
         first
           | exact wrong_many (by omega)
           | exact wrong_none (by omega)
           | exact wrong_bad (by omega) (List.mem_of_getElem? hx) hid
           | exact wrong_twice (by omega) hall hx hy hlt3n hsm
           | exact wrong_ok (by omega) (by omega) hall (by rw [show i = l.length by omega, List.take_length] at hnd; exact hnd)
      ·
       refine TL.nil ?_; refine TQ.then_n ?_; refine TC.cond_f rfl ?_; refine TC.exit ?_; refine TQ.then_e ?_; refine TQ.then_e ?_; refine TQ.in_e ?_; refine TQ.in_n ?_; refine TQ.then_n ?_; refine TC.region ?_; refine TL.move rfl rfl ?_; refine TL.add rfl rfl rfl ⟨by omega, by omega⟩ ?_; refine TL.assign rfl rfl ?_; refine TL.nil ?_; refine TQ.toOwn (own' := own) rfl ?_
       refine TQ.next (l.length - (i + 1)) [(0, _), (5, _)] (by omega) ⟨rfl, rfl, trivial⟩ ⟨i + 1, rfl, by omega, nodup_take hx hnd (fun k y hk => hno k y (by omega)), rfl, rfl, hle1⟩
     ·
      refine TL.nil ?_; refine TQ.then_n ?_; refine TC.cond_f rfl ?_; refine TC.exit ?_; refine TQ.then_e ?_; refine TQ.then_e ?_; refine TQ.in_e ?_; refine TQ.nsr ?_; refine TL.assign rfl rfl ?_; refine TL.nil ?_; refine TQ.then_n ?_; refine TC.ret ?_; refine TQ.ret1 0 rfl rfl ?_
      refine ⟨congrArg (Value.int .i64) ?_, rfl, hL⟩
      symm
      first
        | exact wrong_many (by omega)
        | exact wrong_none (by omega)
        | exact wrong_bad (by omega) (List.mem_of_getElem? hx) hid
        | exact wrong_twice (by omega) hall hx hy hlt3n hsm
        | exact wrong_ok (by omega) (by omega) hall (by rw [show i = l.length by omega, List.take_length] at hnd; exact hnd)
theorem ref_Payload {l : List Fact} (hl : ∀ g ∈ l, FOk g) (hlen : l.length ≤ 1000000) {w0 : World} {H : Hp} {own : List Seg} {v : Value} (hA : rd H (.s 4 (factsD l)) v) :
    Fn Tryz.prog 43 [v] w0 H own (fun r own' H' => r = .string (payS l) ∧ own' = own ∧ Le H H') := by
  obtain ⟨A, c, rfl, hc1, hc2⟩ := facts_len hA
  refine Fn.enter Tryz.func43 rfl Tryz.ntmps43 rfl ?_; have hL := Le.refl H; refine TC.seq ?_; refine TC.region ?_; refine TL.assign rfl rfl ?_; refine TL.nsr ?_; refine TL.assign rfl rfl ?_; refine TL.nil ?_; refine TQ.then_n ?_; refine TC.seq ?_; refine TC.seq ?_; refine TC.region ?_; refine TL.assign rfl rfl ?_; refine TL.nil ?_; refine TQ.then_n ?_; refine TC.block ?_; refine TC.loop (fun n env' own' H' => ∃ i, n = l.length - i ∧ i ≤ l.length ∧ env' = [(0, .slice A l.length c), (3, .string (payS (l.take i))), (4, .int .i64 (i : Int))] ∧ own' = own ∧ Le H H') l.length [(0, _), (3, _), (4, _)] ⟨rfl, rfl, rfl, trivial⟩ ⟨0, by omega, by omega, rfl, rfl, Le.refl _⟩ ?_
  rintro n _ own H1 ⟨i, rfl, hi1, rfl, rfl, hle0⟩
  have hL := Le.trans hL hle0; have hA := rd.mono hle0 hA; refine TC.seq ?_; refine TC.seq ?_; refine TC.region ?_; refine TL.move rfl rfl ?_; refine TL.move rfl rfl ?_; refine TL.len_slice rfl rfl ?_
  refine TL.lssB rfl rfl rfl (fun hlt => ?_) (fun hlt => ?_)
  ·
   obtain ⟨x, hx⟩ : ∃ x, l[i]? = some x := ⟨_, List.getElem?_eq_getElem (by omega)⟩
   obtain ⟨b1, o1, rfl, hpx⟩ := facts_at hA hx
   have hx1 := hl x (List.mem_of_getElem? hx)
   have hx2 := hx1.text
   have hps := payS_size (l.take i) (fun g hg => hl g (List.mem_of_mem_take hg))
   rw [List.length_take_of_le hi1] at hps
   refine TL.nil ?_; refine TQ.then_n ?_; refine TC.cond_t rfl ?_; refine TC.skip ?_; refine TQ.then_n ?_; refine TC.seq ?_; refine TC.block ?_; refine TC.seq ?_; refine TC.region ?_; refine TL.move rfl rfl ?_; refine TL.move rfl rfl ?_; refine TL.indexAddr (i) rfl rfl rfl (by omega) rfl ?_; refine TL.load_immA rfl (hpx) rfl rfl ?_
   refine TL.new rfl ?_; intro g5; refine TL.storeA 0 0 (c' := #[_, _, _, _]) (own' := [(_, .cells #[_, _, _, _] _ _)] :: _) rfl rfl rfl rfl rfl ⟨rfl, rfl, rfl, rfl, trivial⟩ (Nat.le_refl 4) rfl rfl rfl ?_; refine TL.nil ?_; refine TQ.then_n ?_; refine TC.region ?_; refine TL.move rfl rfl ?_; refine TL.fieldAddr rfl rfl ?_; refine TL.load_own 0 0 rfl rfl rfl rfl rfl ?_; refine TL.convI rfl rfl ?_; refine TL.fieldAddr rfl rfl ?_; refine TL.fieldAddr rfl rfl ?_; refine TL.load_own 0 0 rfl rfl rfl rfl rfl ?_; refine TL.convI rfl rfl ?_; refine TL.fieldAddr rfl rfl ?_; refine TL.fieldAddr rfl rfl ?_; refine TL.load_own 0 0 rfl rfl rfl rfl rfl ?_; refine TL.convI rfl rfl ?_; refine TL.fieldAddr rfl rfl ?_; refine TL.fieldAddr rfl rfl ?_; refine TL.load_own 0 0 rfl rfl rfl rfl rfl ?_; refine TL.quo rfl rfl rfl (by omega) ?_
   rw [quo256 hx1.addr]
   refine TL.convI rfl rfl ?_; refine TL.fieldAddr rfl rfl ?_; refine TL.load_own 0 0 rfl rfl rfl rfl rfl ?_; refine TL.len_string rfl rfl ?_; refine TL.convI rfl rfl ?_
   refine TL.litF (r := [_, _, _, _, _]) [(0, [_]), (1, [_]), (2, [_]), (3, [_]), (4, [_])] ⟨rfl, ⟨_, rfl, rfl⟩, rfl, ⟨_, rfl, rfl⟩, rfl, ⟨_, rfl, rfl⟩, rfl, ⟨_, rfl, rfl⟩, rfl, ⟨_, rfl, rfl⟩, trivial⟩ rfl rfl rfl rfl ?_; intro g37; refine TL.convBS 0 0 [b8 x.kind, b8 x.bank, b8 x.addr, b8 (x.addr / 256), b8 x.text.size] rfl rfl rfl rfl ⟨congrArg some (b8_val _).symm, congrArg some (b8_val _).symm, congrArg some (b8_val _).symm, congrArg some (b8_val _).symm, congrArg some (b8_val _).symm, trivial⟩ rfl ?_; refine TL.addS rfl rfl rfl (by show _ + 5 ≤ _; omega) ?_
   refine TL.fieldAddr rfl rfl ?_; refine TL.load_own 1 0 rfl rfl rfl rfl rfl ?_; refine TL.addS rfl rfl rfl (by rw [ByteArray.size_append]; show _ + 5 + _ ≤ _; omega) ?_
   refine TL.assign rfl rfl ?_; refine TL.nil ?_; refine TQ.in_n ?_; refine TQ.then_n ?_; refine TC.region ?_; refine TL.move rfl rfl ?_; refine TL.add rfl rfl rfl ⟨by omega, by omega⟩ ?_; refine TL.assign rfl rfl ?_; refine TL.nil ?_
   refine TQ.sel 2 [] rfl (fun o ho => ?_)
   simp only [K.sel, List.map_cons, List.map_nil, List.getD_cons_zero, List.getD_cons_succ, List.drop_succ_cons, List.drop_zero, List.cons_append, List.nil_append, List.set_cons_zero, List.set_cons_succ] at ho; subst ho
   refine TQ.next (l.length - (i + 1)) [(0, _), (3, _), (4, _)] (by omega) ⟨rfl, rfl, rfl, trivial⟩ ⟨i + 1, rfl, by omega, by rw [take_succ hx, payS_snoc, payF, ← ByteArray.append_assoc]; rfl, rfl, hle0⟩
  ·
   refine TL.nil ?_; refine TQ.then_n ?_; refine TC.cond_f rfl ?_; refine TC.exit ?_; refine TQ.then_e ?_; refine TQ.then_e ?_; refine TQ.in_e ?_; refine TQ.nsr ?_; refine TL.move rfl rfl ?_; refine TL.assign rfl rfl ?_; refine TL.nil ?_; refine TQ.then_n ?_; refine TC.ret ?_; refine TQ.ret1 0 rfl rfl ?_
   exact ⟨by rw [show i = l.length by omega, List.take_length], rfl, hL⟩
theorem ref_SameFacts {l m : List Fact} (hl : ∀ g ∈ l, FOk g) (hm : ∀ g ∈ m, FOk g) {w0 : World} {H : Hp} {own : List Seg} {v : Value} (hA : rd H (.s 4 (factsD l)) v) {v2 : Value} (hB : rd H (.s 4 (factsD m)) v2) :
    Fn Tryz.prog 14 [v, v2] w0 H own (fun r own' H' => r = .bool (decide (l = m)) ∧ own' = own ∧ Le H H') := by
  obtain ⟨A, c, rfl, hc1, hc2⟩ := facts_len hA
  obtain ⟨B, d, rfl, hd1, hd2⟩ := facts_len hB
  refine Fn.enter Tryz.func14 rfl Tryz.ntmps14 rfl ?_; have hL := Le.refl H; refine TC.seq ?_; refine TC.region ?_; refine TL.assign rfl rfl ?_; refine TL.nil ?_; refine TQ.then_n ?_; refine TC.seq ?_; refine TC.seq ?_; refine TC.region ?_; refine TL.move rfl rfl ?_; refine TL.len_slice rfl rfl ?_; refine TL.move rfl rfl ?_; refine TL.len_slice rfl rfl ?_
  refine TL.neqB rfl rfl rfl (fun hne => ?_) (fun hne => ?_)
  ·
   refine TL.nil ?_; refine TQ.then_n ?_; refine TC.cond_t rfl ?_; refine TC.seq ?_; refine TC.region ?_; refine TL.assign rfl rfl ?_; refine TL.nil ?_; refine TQ.then_n ?_; refine TC.ret ?_; refine TQ.then_r ?_; refine TQ.ret1 0 rfl rfl ?_
   refine ⟨congrArg Value.bool ?_, rfl, hL⟩
   symm
   first
     | exact decide_eq_false (fun h => hne (by rw [h]))
     | exact decide_eq_false (fun h => by subst h; rw [hx] at hy; cases hy; exact hxy rfl)
     | (refine decide_eq_true ?_; rw [show i = l.length by omega, List.take_length, List.take_of_length_le (by omega)] at hpre; exact hpre)
  ·
   refine TL.nil ?_; refine TQ.then_n ?_; refine TC.cond_f rfl ?_; refine TC.skip ?_; refine TQ.then_n ?_; refine TC.seq ?_; refine TC.seq ?_; refine TC.region ?_; refine TL.assign rfl rfl ?_; refine TL.nil ?_; refine TQ.then_n ?_; refine TC.block ?_; refine TC.loop (fun n env' own' H' => ∃ i, n = l.length - i ∧ i ≤ l.length ∧ l.take i = m.take i ∧ env' = [(0, .slice A l.length c), (1, .slice B m.length d), (5, .int .i64 (i : Int))] ∧ own' = own ∧ Le H H') l.length [(0, _), (1, _), (5, _)] ⟨rfl, rfl, rfl, trivial⟩ ⟨0, by omega, by omega, rfl, rfl, rfl, Le.refl _⟩ ?_
   rintro n _ own H1 ⟨i, rfl, hi1, hpre, rfl, rfl, hle0⟩
   have hL := Le.trans hL hle0; have hA := rd.mono hle0 hA; have hB := rd.mono hle0 hB; refine TC.seq ?_; refine TC.seq ?_; refine TC.region ?_; refine TL.move rfl rfl ?_; refine TL.move rfl rfl ?_; refine TL.len_slice rfl rfl ?_
   refine TL.lssB rfl rfl rfl (fun hlt => ?_) (fun hlt => ?_)
   ·
    obtain ⟨x, hx⟩ : ∃ x, l[i]? = some x := ⟨_, List.getElem?_eq_getElem (by omega)⟩
    obtain ⟨b1, o1, rfl, hpx⟩ := facts_at hA hx
    obtain ⟨y, hy⟩ : ∃ y, m[i]? = some y := ⟨_, List.getElem?_eq_getElem (by omega)⟩
    obtain ⟨b2, o2, rfl, hpy⟩ := facts_at hB hy
    refine TL.nil ?_; refine TQ.then_n ?_; refine TC.cond_t rfl ?_; refine TC.skip ?_; refine TQ.then_n ?_; refine TC.seq ?_; refine TC.block ?_; refine TC.seq ?_
    rcases dxy : decide (x ≠ y) with _ | _
    ·
     have hxy : x = y := by simpa using dxy
     refine TC.drawQV 8  [(0, _), (1, _), (5, _)] follows_mixed ⟨rfl, rfl, rfl, trivial⟩ ?_; refine ChainV.q (some 17) [] (fun _ _ _ _ hF => TL.move rfl rfl (TL.one hF)) ?_; refine ChainV.q (some 18) [] (fun _ _ _ _ hF => TL.move rfl rfl (TL.one hF)) ?_; refine ChainV.q (some 19) [(0, 1), (1, 0)] (fun _ _ _ _ hF => TL.indexAddr (i) rfl rfl rfl (by omega) rfl (TL.one hF)) ?_
     refine ChainV.q (some 20) [(2, 0)] (by
      intro H' X F hle; have hL := Le.trans hL hle; have hpx := hAt.mono hle hpx; intro hF; refine TL.load_immA rfl (hpx) rfl rfl ?_
      exact TL.one hF) ?_
     refine ChainV.q (some 21) [] (fun _ _ _ _ hF => TL.move rfl rfl (TL.one hF)) ?_; refine ChainV.q (some 22) [] (fun _ _ _ _ hF => TL.move rfl rfl (TL.one hF)) ?_; refine ChainV.q (some 23) [(4, 1), (5, 0)] (fun _ _ _ _ hF => TL.indexAddr (i) rfl rfl rfl (by omega) rfl (TL.one hF)) ?_
     refine ChainV.q (some 24) [(6, 0)] (by
      intro H' X F hle; have hL := Le.trans hL hle; have hpy := hAt.mono hle hpy; intro hF; refine TL.load_immA rfl (hpy) rfl rfl ?_
      exact TL.one hF) ?_
     refine ⟨by kernel_rfl, .refl _, ?_⟩
     ·
      intro H1 hle; have hL := Le.trans hL hle; have hle0 := Le.trans hle0 hle; refine TL.toOwn (own' := own) rfl ?_; refine TL.wk (env' := [(0, _), (1, _), (5, _), (20, _), (24, _)]) ⟨rfl, rfl, rfl, rfl, rfl, trivial⟩ ?_; refine TL.neqFact rfl rfl (hl x (List.mem_of_getElem? hx)) (hm y (List.mem_of_getElem? hy)) rfl ?_
      rw [dxy]
      refine TL.nil ?_; refine TQ.then_n ?_; refine TC.cond_f rfl ?_; refine TC.skip ?_; refine TQ.in_n ?_; refine TQ.then_n ?_; refine TC.region ?_; refine TL.move rfl rfl ?_; refine TL.add rfl rfl rfl ⟨by omega, by omega⟩ ?_; refine TL.assign rfl rfl ?_; refine TL.nil ?_; refine TQ.toOwn (own' := own) rfl ?_
      refine TQ.next (l.length - (i + 1)) [(0, _), (1, _), (5, _)] (by omega) ⟨rfl, rfl, rfl, trivial⟩ ⟨i + 1, rfl, by omega, by rw [take_succ hx, take_succ hy, hpre, hxy], rfl, rfl, hle0⟩
    ·
     have hxy := of_decide_eq_true dxy; refine TC.drawQV 8  [(0, _), (1, _), (5, _)] follows_mixed ⟨rfl, rfl, rfl, trivial⟩ ?_; refine ChainV.q (some 17) [] (fun _ _ _ _ hF => TL.move rfl rfl (TL.one hF)) ?_; refine ChainV.q (some 18) [] (fun _ _ _ _ hF => TL.move rfl rfl (TL.one hF)) ?_; refine ChainV.q (some 19) [(0, 1), (1, 0)] (fun _ _ _ _ hF => TL.indexAddr (i) rfl rfl rfl (by omega) rfl (TL.one hF)) ?_
     refine ChainV.q (some 20) [(2, 0)] (by
      intro H' X F hle; have hL := Le.trans hL hle; have hpx := hAt.mono hle hpx; intro hF; refine TL.load_immA rfl (hpx) rfl rfl ?_
      exact TL.one hF) ?_
     refine ChainV.q (some 21) [] (fun _ _ _ _ hF => TL.move rfl rfl (TL.one hF)) ?_; refine ChainV.q (some 22) [] (fun _ _ _ _ hF => TL.move rfl rfl (TL.one hF)) ?_; refine ChainV.q (some 23) [(4, 1), (5, 0)] (fun _ _ _ _ hF => TL.indexAddr (i) rfl rfl rfl (by omega) rfl (TL.one hF)) ?_
     refine ChainV.q (some 24) [(6, 0)] (by
      intro H' X F hle; have hL := Le.trans hL hle; have hpy := hAt.mono hle hpy; intro hF; refine TL.load_immA rfl (hpy) rfl rfl ?_
      exact TL.one hF) ?_
     refine ⟨by kernel_rfl, .refl _, ?_⟩
     ·
      intro H2 hle; have hL := Le.trans hL hle; refine TL.toOwn (own' := own) rfl ?_; refine TL.wk (env' := [(0, _), (1, _), (5, _), (20, _), (24, _)]) ⟨rfl, rfl, rfl, rfl, rfl, trivial⟩ ?_; refine TL.neqFact rfl rfl (hl x (List.mem_of_getElem? hx)) (hm y (List.mem_of_getElem? hy)) rfl ?_
      rw [dxy]
      refine TL.nil ?_; refine TQ.then_n ?_; refine TC.cond_t rfl ?_; refine TC.seq ?_; refine TC.region ?_; refine TL.assign rfl rfl ?_; refine TL.nil ?_; refine TQ.then_n ?_; refine TC.ret ?_; refine TQ.in_r ?_; refine TQ.then_r ?_; refine TQ.then_r ?_; refine TQ.in_r ?_; refine TQ.then_r ?_; refine TQ.ret1 0 rfl rfl ?_
      refine ⟨congrArg Value.bool ?_, rfl, hL⟩
      symm
      first
        | exact decide_eq_false (fun h => hne (by rw [h]))
        | exact decide_eq_false (fun h => by subst h; rw [hx] at hy; cases hy; exact hxy rfl)
        | (refine decide_eq_true ?_; rw [show i = l.length by omega, List.take_length, List.take_of_length_le (by omega)] at hpre; exact hpre)
   ·
    refine TL.nil ?_; refine TQ.then_n ?_; refine TC.cond_f rfl ?_; refine TC.exit ?_; refine TQ.then_e ?_; refine TQ.then_e ?_; refine TQ.in_e ?_; refine TQ.nsr ?_; refine TL.assign rfl rfl ?_; refine TL.nil ?_; refine TQ.then_n ?_; refine TC.ret ?_; refine TQ.ret1 0 rfl rfl ?_
    refine ⟨congrArg Value.bool ?_, rfl, hL⟩
    symm
    first
      | exact decide_eq_false (fun h => hne (by rw [h]))
      | exact decide_eq_false (fun h => by subst h; rw [hx] at hy; cases hy; exact hxy rfl)
      | (refine decide_eq_true ?_; rw [show i = l.length by omega, List.take_length, List.take_of_length_le (by omega)] at hpre; exact hpre)

end Go.Proofs.YteeamfkhkbfilaaGreat.K

namespace Go.Proofs.YteeamfkhkbfilaaGreat.K
open Go Go.RowKit Go.Proofs

theorem Row.sl {e : TypeId} {sz : Nat} {v : Value} {n : Nat} {xs : List Value} {seg : Seg} (h : Row e sz v n xs seg) : ∃ A c, v = .slice A n c ∧ n ≤ c ∧ c ≤ 9223372036854775807 := by
  rcases h.2 with ⟨rfl, rfl, _⟩ | ⟨g, cap, cur, rfl, _, h1, h2, _⟩
  · exact ⟨_, _, rfl, by omega, by omega⟩
  · exact ⟨_, _, rfl, h1, by simpa [maxLen] using h2⟩
theorem Row.pop {e : TypeId} {v : Value} {n m : Nat} {xs : List Value} {x : Value} {seg : Seg} (h : Row e 1 v n (xs ++ [x]) seg) (hn : n = m + 1) : ∃ g cap cur, v = .slice (some ⟨g, 0, none⟩) n cap ∧ seg = [(g, .cells cur e (0, 0))] ∧ n ≤ cap ∧ cap ≤ 9223372036854775807 ∧ lget cur.toList (0 + m * 1) = some x ∧ Row e 1 (.slice (some ⟨g, 0, none⟩) m cap) m xs seg := by
  obtain ⟨h0, h⟩ := h
  rcases h with ⟨_, h, _⟩ | ⟨g, cap, cur, rfl, rfl, h1, h2, h3, h4⟩
  · omega
  · have hl : xs.length = m := by simp at h0; omega
    refine ⟨g, cap, cur, rfl, rfl, h1, by simpa [maxLen] using h2, ?_, by omega, .inr ⟨g, cap, cur, rfl, rfl, by omega, h2, h3, ?_⟩⟩
    · rw [lget_eq, Nat.zero_add, Nat.mul_one]
      have h5 : (cur.toList.take (n * 1))[m]? = some x := by rw [h4, List.getElem?_append_right (by omega), hl, Nat.sub_self]; rfl
      rwa [List.getElem?_take, if_pos (by omega)] at h5
    · have h5 := congrArg (List.take m) h4
      rw [List.take_take, List.take_append_of_le_length (by omega), List.take_of_length_le (l := xs) (by omega)] at h5
      rw [Nat.mul_one, ← h5]
      congr 1
      omega
theorem slice_zero (g c sz r : Nat) : Value.slice (if c = 0 then some ⟨g, 0, none⟩ else (some (⟨g, 0, none⟩ : Addr)).map (·.add (0 * sz))) (r - 0) (c - 0) = .slice (some ⟨g, 0, none⟩) r c := by
  have : (⟨g, 0, none⟩ : Addr).add (0 * sz) = ⟨g, 0, none⟩ := by rw [add_off, Nat.zero_mul]
  simp only [Option.map_some, this, ite_self, Nat.sub_zero]
abbrev stkB (l : List (List Fact × List Fact)) : List D := l.map fun p => .s 4 (factsD p.1)
abbrev stkC (l : List (List Fact × List Fact)) : List D := l.map fun p => .s 4 (factsD p.2)
/-- The state's parts. -/
structure RSm (H : Hp) (z : RS) (fv bv cv : Value) (sb sc : Seg) (xb xc : List Value) : Prop where
  f : rd H (.s 4 (factsD z.facts)) fv
  b : Row 25 1 bv z.stk.length xb sb
  c : Row 25 1 cv z.stk.length xc sc
  xb : RdL H (stkB z.stk) xb
  xc : RdL H (stkC z.stk) xc
theorem RSm.mono {H H' : Hp} {z : RS} {fv bv cv : Value} {sb sc : Seg} {xb xc : List Value} (hl : Le H H') (h : RSm H z fv bv cv sb sc xb xc) : RSm H' z fv bv cv sb sc xb xc :=
  ⟨h.f.mono hl, h.b, h.c, RdL.mono hl h.xb, RdL.mono hl h.xc⟩
/-- What holds of the state's facts. -/
structure LOk (l : List Fact) : Prop where
  good : Good l
  fok : ∀ g ∈ l, FOk g
  len : l.length ≤ 1000000000000
structure COk (l : List Fact) : Prop where
  fok : ∀ g ∈ l, FOk g
  ok : wrongC l = 0
structure RS.Ok (z : RS) : Prop where
  now : LOk z.facts
  n : z.facts.length ≤ 1000 * z.n
  stk : z.stk.length ≤ z.n
  each : ∀ p ∈ z.stk, LOk p.1 ∧ COk p.2
theorem LOk.put {l : List Fact} (h : LOk l) {f : Fact} (hf : FOk f) (hl : l.length < 1000000000000) : LOk (putF l f) :=
  ⟨h.good.put f, fun g hg => (putF_mem hg).elim (fun e => e ▸ hf) (h.fok g), by have := putF_len l f; have := hl; omega⟩
theorem LOk.fold : ∀ {ps l : List Fact}, LOk l → (∀ g ∈ ps, FOk g) → l.length + ps.length ≤ 1000000000000 → LOk (ps.foldl putF l)
  | [], _, h, _, _ => h
  | p :: r, l, h, hp, hl => by
    simp only [List.length_cons] at hl
    have := putF_len l p
    exact LOk.fold (ps := r) (l := putF l p) (h.put (hp p (by simp)) (by omega)) (fun g hg => hp g (by simp [hg])) (by omega)
theorem COk.len {l : List Fact} (h : COk l) : l.length ≤ 1000 := (wrong_zero h.ok).1
theorem unput_len (b l s : List Fact) : (unput b l s).length ≤ s.length + l.length := by
  have := fold_len (l.map (was b)) s
  rw [List.length_map] at this
  exact this
theorem RS.Ok.commit {z : RS} (h : z.Ok) (hn : z.n ≤ 10000000) {l : List Fact} (hl : COk l) : (z.commit l).Ok := by
  have h1 := hl.len
  have h2 := h.n
  have h3 := h.stk
  refine ⟨h.now.fold hl.fok (by omega), ?_, ?_, fun p hp => ?_⟩
  · show (l.foldl putF z.facts).length ≤ 1000 * (z.n + 1)
    have := fold_len l z.facts
    omega
  · show (z.stk ++ [_]).length ≤ z.n + 1
    simp; omega
  · rcases List.mem_append.1 hp with hp | hp
    · exact h.each p hp
    · simp at hp; subst hp; exact ⟨h.now, hl⟩
theorem RS.Ok.undo {z : RS} (h : z.Ok) (hn : z.n ≤ 10000000) {p : List Fact × List Fact} (hp : p ∈ z.stk) : (z.undo p.1 p.2).Ok := by
  obtain ⟨hb, hc⟩ := h.each p hp
  have h1 := hc.len
  have h2 := h.n
  have h3 := h.stk
  refine ⟨?_, ?_, ?_, fun q hq => h.each q (List.dropLast_subset _ hq)⟩
  · show LOk ((p.2.map (was p.1)).foldl putF z.facts)
    refine h.now.fold (fun g hg => ?_) (by rw [List.length_map]; omega)
    obtain ⟨q, hq, rfl⟩ := List.mem_map.1 hg
    exact was_ok hb.fok (hc.fok q hq)
  · show (unput p.1 p.2 z.facts).length ≤ 1000 * (z.n + 1)
    have := unput_len p.1 p.2 z.facts
    omega
  · show z.stk.dropLast.length ≤ z.n + 1
    rw [List.length_dropLast]; omega
/-- The reference's commit and undo: record, error, state. -/
def rCom (z : RS) (l : List Fact) : ByteArray × Int × RS := if wrongC l = 0 then (recC (z.n + 1 : Nat) l, 0, z.commit l) else (eS, wrongC l, z)
def rUnd (z : RS) : ByteArray × Int × RS := match z.stk.getLast? with
  | none => (eS, 101, z)
  | some p => (recU (z.n + 1 : Nat), 0, z.undo p.1 p.2)
theorem rCom_ok {z : RS} (h : z.Ok) (hn : z.n ≤ 10000000) {l : List Fact} (hl : ∀ g ∈ l, FOk g) : (rCom z l).2.2.Ok ∧ (rCom z l).2.2.n ≤ z.n + 1 := by
  unfold rCom
  split
  · rename_i he
    exact ⟨h.commit hn ⟨hl, he⟩, Nat.le_refl _⟩
  · exact ⟨h, Nat.le_succ _⟩
theorem rUnd_ok {z : RS} (h : z.Ok) (hn : z.n ≤ 10000000) : (rUnd z).2.2.Ok ∧ (rUnd z).2.2.n ≤ z.n + 1 := by
  unfold rUnd
  split
  · exact ⟨h, Nat.le_succ _⟩
  · rename_i p hp
    exact ⟨h.undo hn (List.mem_of_getLast? hp), Nat.le_refl _⟩
theorem rCom_bad {z : RS} {l : List Fact} (h : wrongC l ≠ 0) : rCom z l = (eS, wrongC l, z) := by unfold rCom; rw [if_neg h]
theorem rCom_good {z : RS} {l : List Fact} (h : wrongC l = 0) : rCom z l = (recC (z.n + 1 : Nat) l, 0, z.commit l) := by unfold rCom; rw [if_pos h]
theorem factR_text {f : Fact} (h : factR f = true) : f.text.size ≤ 200 := by
  unfold factR at h
  simp only [Bool.and_eq_true, decide_eq_true_eq] at h
  exact h.1.2
theorem payS_small {l : List Fact} (h : wrongC l = 0) : (payS l).size ≤ 205000 := by
  obtain ⟨h1, _, h2, _⟩ := wrong_zero h
  rw [List.all_eq_true] at h2
  have gen : ∀ (l : List Fact) (s : ByteArray), (∀ f ∈ l, factR f = true) → (l.foldl (fun s f => s ++ payF f) s).size ≤ s.size + l.length * 205 := by
    intro l
    induction l with
    | nil => intro s _; simp
    | cons f r ih =>
      intro s h
      have h1 := ih (s ++ payF f) (fun g hg => h g (by simp [hg]))
      have h2 := factR_text (h f (by simp))
      rw [ByteArray.size_append, payF_size] at h1
      simp only [List.foldl_cons, List.length_cons]; omega
  have h3 := gen l eS h2
  have e : (eS : ByteArray).size = 0 := rfl
  unfold payS
  omega
theorem rUnd_none {z : RS} (h : z.stk.length = 0) : rUnd z = (eS, 101, z) := by
  have : z.stk = [] := List.length_eq_zero_iff.1 h
  unfold rUnd; rw [this]; rfl
theorem rUnd_some {z : RS} {st : List (List Fact × List Fact)} {p : List Fact × List Fact} (h : z.stk = st ++ [p]) : rUnd z = (recU (z.n + 1 : Nat), 0, z.undo p.1 p.2) := by
  unfold rUnd; rw [h, List.getLast?_concat]
theorem stk_last {l : List (List Fact × List Fact)} (h : 0 < l.length) : ∃ st p, l = st ++ [p] := by
  rcases List.eq_nil_or_concat l with rfl | ⟨st, p, h2⟩
  · simp at h
  · exact ⟨st, p, by simpa using h2⟩
theorem was_take {b l s : List Fact} {i : Nat} {x : Fact} (hx : l[i]? = some x) : unput b (l.take (i + 1)) s = putF (unput b (l.take i) s) (was b x) := by
  unfold unput
  rw [take_succ hx, List.map_append, List.foldl_append]
  rfl
theorem fold_take {l s : List Fact} {i : Nat} {x : Fact} (hx : l[i]? = some x) : (l.take (i + 1)).foldl putF s = putF ((l.take i).foldl putF s) x := by
  rw [take_succ hx, List.foldl_append]
  rfl
end Go.Proofs.YteeamfkhkbfilaaGreat.K

namespace Go.Proofs.YteeamfkhkbfilaaGreat.K
open Go Go.RowKit Go.Proofs

theorem ref_Commit {z : RS} (hz : z.Ok) (hn : z.n ≤ 10000000) {l : List Fact} (hl : ∀ g ∈ l, FOk g) {w0 : World} {H : Hp} {own : List Seg} {gs : Nat} {fv bv cv : Value} {sb sc : Seg} {xb xc : List Value} (hm : RSm H z fv bv cv sb sc xb xc) {v : Value} (hA : rd H (.s 4 (factsD l)) v) :
    Fn Tryz.prog 18 [.pointer (some ⟨gs, 0, none⟩), v] w0 H ([(gs, .cells #[fv, .int .i64 (z.n : Int), bv, cv] 28 (0, 0))] :: sb :: sc :: own)
      (fun r own' H' => ∃ fv' bv' cv' sb' sc' xb' xc', r = .tuple #[.string (rCom z l).1, .int .i64 (rCom z l).2.1] ∧ own' = [(gs, .cells #[fv', .int .i64 ((rCom z l).2.2.n : Int), bv', cv'] 28 (0, 0))] :: sb' :: sc' :: own ∧ RSm H' (rCom z l).2.2 fv' bv' cv' sb' sc' xb' xc' ∧ Le H H') := by
  obtain ⟨A, c, rfl, hc1, hc2⟩ := facts_len hA
  obtain ⟨hfv, hrb, hrc, hxb, hxc⟩ := hm
  have hnow := hz.now; have hzn := hz.n; have hzs := hz.stk; refine Fn.enter Tryz.func18 rfl Tryz.ntmps18 rfl ?_; have hL := Le.refl H; refine TC.seq ?_; refine TC.region ?_; refine TL.assign rfl rfl ?_; refine TL.assign rfl rfl ?_; refine TL.nsr ?_; refine TL.move rfl rfl ?_; refine TL.call (ref_Wrong hl hA) ⟨rfl, trivial⟩ rfl ?_
  rintro _ _ H9 ⟨rfl, rfl, hle9⟩
  have hL := Le.trans hL hle9; have hA := rd.mono hle9 hA; have hfv := rd.mono hle9 hfv; have hxb := RdL.mono hle9 hxb; have hxc := RdL.mono hle9 hxc; refine TL.assign rfl rfl ?_; refine TL.nil ?_; refine TQ.then_n ?_; refine TC.seq ?_; refine TC.seq ?_; refine TC.region ?_; refine TL.move rfl rfl ?_
  refine TL.neqB rfl rfl rfl (fun hw => ?_) (fun hw => ?_)
  ·
   refine TL.nil ?_; refine TQ.then_n ?_; refine TC.cond_t rfl ?_; refine TC.seq ?_; refine TC.region ?_; refine TL.move rfl rfl ?_; refine TL.assign rfl rfl ?_; refine TL.assign rfl rfl ?_; refine TL.nil ?_; refine TQ.then_n ?_; refine TC.ret ?_; refine TQ.then_r ?_; refine TQ.toOwn (own' := _ :: _ :: _ :: own) rfl ?_; refine TQ.ret2 0 rfl rfl rfl ?_
   first
     | (rw [rCom_bad (by omega)]; exact ⟨_, _, _, _, _, _, _, rfl, rfl, ⟨hfv, hrb, hrc, hxb, hxc⟩, hL⟩)
     | (rw [rCom_good hw0]
        rw [show i = l.length by omega, List.take_length] at hfv'
        exact ⟨_, _, _, _, _, _, _, rfl, rfl, ⟨hfv', by rw [show (z.commit l).stk.length = z.stk.length + 1 from List.length_append]; exact hrb23, by rw [show (z.commit l).stk.length = z.stk.length + 1 from List.length_append]; exact hrc33, by rw [show stkB (z.commit l).stk = stkB z.stk ++ [.s 4 (factsD z.facts)] from List.map_append]; exact hxb23, by rw [show stkC (z.commit l).stk = stkC z.stk ++ [.s 4 (factsD l)] from List.map_append]; exact hxc33⟩, hL⟩)
  ·
   have hw0 : wrongC l = 0 := by omega
   have hlen := (wrong_zero hw0).1
   refine TL.nil ?_; refine TQ.then_n ?_; refine TC.cond_f rfl ?_; refine TC.skip ?_; refine TQ.then_n ?_; refine TC.seq ?_
   refine TC.sel 3 [1, 0, 2] rfl (fun o ho => ?_)
   simp only [K.sel, List.map_cons, List.map_nil, List.getD_cons_zero, List.getD_cons_succ, List.drop_succ_cons, List.drop_zero, List.cons_append, List.nil_append, List.set_cons_zero, List.set_cons_succ] at ho; subst ho
   refine TC.drawCV 11  [(0, _), (1, _), (4, _), (5, _), (6, _)] follows_mixed ⟨rfl, rfl, rfl, rfl, rfl, trivial⟩ ?_; refine ChainV.q (some 13) [] (fun _ _ _ _ hF => TL.move rfl rfl (TL.one hF)) ?_; refine ChainV.q (some 14) [] (fun _ _ _ _ hF => TL.move rfl rfl (TL.one hF)) ?_; refine ChainV.q (some 15) [(1, 0)] (fun _ _ _ _ hF => TL.nilCheck rfl rfl (TL.one hF)) ?_; refine ChainV.q (some 16) [(2, 0)] (fun _ _ _ _ hF => TL.fieldAddr rfl rfl (TL.one hF)) ?_
   refine ChainV.q (some 17) [(3, 0)] (by
    intro H' X F hle; have hL := Le.trans hL hle; intro hF; refine TL.load_own 0 0 rfl rfl rfl rfl rfl ?_
    exact TL.one hF) ?_
   refine ChainV.q (some 18) [] (fun _ _ _ _ hF => TL.move rfl rfl (TL.one hF)) ?_; refine ChainV.q (some 19) [(5, 0)] (fun _ _ _ _ hF => TL.nilCheck rfl rfl (TL.one hF)) ?_; refine ChainV.q (some 20) [(6, 0)] (fun _ _ _ _ hF => TL.fieldAddr rfl rfl (TL.one hF)) ?_
   refine ChainV.q (some 21) [(7, 0)] (by
    intro H' X F hle; have hL := Le.trans hL hle; intro hF; refine TL.load_own 0 0 rfl rfl rfl rfl rfl ?_
    exact TL.one hF) ?_
   refine ChainV.r (some 22) [(8, 0)] ([]) (fun _ => fun r s H => rd H (.s 1 [.s 4 (factsD z.facts)]) r ∧ s = []) (by
    intro H' X F hle; have hL := Le.trans hL hle; have hfv := rd.mono hle hfv; intro hF
    refine TL.litF (r := [_]) [(0, [_])] ⟨rfl, ⟨_, rfl, one_cells hfv.one⟩, trivial⟩ rfl rfl rfl rfl ?_; intro g22; refine TL.nil ?_
    refine TQ.freeze (fun H3 hle3 hz3 => ?_)
    exact TQ.one [] hF hle3 ⟨rd.ofRow (Row.lit 25 1 1 _ _ rfl (by omega)) hz3 ⟨hfv.mono hle3, trivial⟩ (Le.refl _), rfl⟩) ?_
   refine ChainV.r (some 23) [(4, 5), (9, 0)] ([sb]) (fun _ => fun r s H => ∃ sg xs, s = [sg] ∧ Row 25 1 r (z.stk.length + 1) xs sg ∧ RdL H (stkB z.stk ++ [.s 4 (factsD z.facts)]) xs) (by
    intro H' X F hle; have hL := Le.trans hL hle; have hxb := RdL.mono hle hxb; intro _
    rintro _ _ Hr hler ⟨hs, rfl⟩
    intro hF
    replace hs := hs.mono hler
    obtain ⟨A1, c1, news, rfl, hsrc, hnw⟩ := hs.srcN (m := 1) (by omega) rfl (fun d hd => by simp only [List.mem_singleton] at hd; subst hd; trivial)
    refine TL.append 0 rfl rfl rfl hrb (hsrc _ _) (by omega) (by omega) rfl ?_; intro v' seg' hrow'; refine TL.nil ?_
    exact TQ.one [_] hF (Le.refl _) ⟨_, _, rfl, hrow', hxb.append hnw⟩) ?_
   refine ⟨by kernel_rfl, .refl _, ?_⟩
   ·
    intro H1 hle
    rintro _ _ Hr hler ⟨hs, rfl⟩
    rintro v23 _ Hr hler ⟨sb23, xb23, rfl, hrb23, hxb23⟩
    replace hxb23 := RdL.mono hler hxb23
    have hL := Le.trans hL hle; have hA := rd.mono hle hA; have hfv := rd.mono hle hfv; have hxb := RdL.mono hle hxb; have hxc := RdL.mono hle hxc; refine TL.toOwn (own' := _ :: _ :: _ :: own) rfl ?_; refine TL.wk (env' := [(0, _), (1, _), (4, _), (5, _), (6, _), (13, _), (23, _)]) ⟨rfl, rfl, rfl, rfl, rfl, rfl, rfl, trivial⟩ ?_; refine TL.nilCheck rfl rfl ?_; refine TL.fieldAddr rfl rfl ?_; refine TL.store1 1 0 (c' := #[_, _, _, _]) (own' := _ :: [(_, .cells #[_, _, _, _] _ _)] :: _) rfl rfl rfl rfl hrb23.one (by simp) rfl rfl rfl ?_; refine TL.nsr ?_; refine TL.move rfl rfl ?_; refine TL.move rfl rfl ?_; refine TL.nilCheck rfl rfl ?_; refine TL.fieldAddr rfl rfl ?_; refine TL.load_own 1 0 rfl rfl rfl rfl rfl ?_; refine TL.move rfl rfl ?_
    refine TL.litF (r := [_]) [(0, [_])] ⟨rfl, ⟨_, rfl, rfl⟩, trivial⟩ rfl rfl rfl rfl ?_; intro g32; refine TL.append 3 rfl rfl rfl hrc (Src.ofOwn 0 0 rfl rfl rfl (Ones.all (show Ones [_] from ⟨by rfl, trivial⟩)) ⟨rfl, trivial⟩) (by omega) (by omega) rfl ?_; intro v33 sc33 hrc33
    have hxc33 := hxc.append (show RdL _ [.s 4 (factsD l)] [_] from ⟨hA, trivial⟩)
    refine TL.nilCheck rfl rfl ?_; refine TL.fieldAddr rfl rfl ?_; refine TL.store1 2 0 (c' := #[_, _, _, _]) (own' := _ :: _ :: [(_, .cells #[_, _, _, _] _ _)] :: _) rfl rfl rfl rfl hrc33.one (by simp) rfl rfl rfl ?_; refine TL.nil ?_; refine TQ.then_n ?_; refine TC.seq ?_; refine TC.seq ?_
    refine TC.sel 4 [2, 1, 3] rfl (fun o ho => ?_)
    simp only [K.sel, List.map_cons, List.map_nil, List.getD_cons_zero, List.getD_cons_succ, List.drop_succ_cons, List.drop_zero, List.cons_append, List.nil_append, List.set_cons_zero, List.set_cons_succ] at ho; subst ho
    refine TC.region ?_; refine TL.assign rfl rfl ?_; refine TL.nil ?_; refine TQ.then_n ?_; refine TC.block ?_; refine TC.loop (fun n env' own' H' => ∃ i fv', n = l.length - i ∧ i ≤ l.length ∧ rd H' (.s 4 (factsD ((l.take i).foldl putF z.facts))) fv' ∧ env' = [(0, .pointer (some ⟨gs, 0, none⟩)), (1, .slice A l.length c), (7, .int .i64 (i : Int))] ∧ own' = [(gs, .cells #[fv', .int .i64 (z.n : Int), v23, v33] 28 (0, 0))] :: sb23 :: sc33 :: own ∧ Le H1 H') l.length [(0, _), (1, _), (7, _)] ⟨rfl, rfl, rfl, trivial⟩ ⟨0, _, by omega, by omega, hfv, rfl, rfl, Le.refl _⟩ ?_
    rintro n _ _ H1 ⟨i, fv', rfl, hi1, hfv', rfl, rfl, hle0⟩
    have hL := Le.trans hL hle0; have hA := rd.mono hle0 hA; have hfv := rd.mono hle0 hfv; have hxb := RdL.mono hle0 hxb; have hxc := RdL.mono hle0 hxc; have hxb23 := RdL.mono hle0 hxb23; have hxc33 := RdL.mono hle0 hxc33; refine TC.seq ?_; refine TC.seq ?_; refine TC.region ?_; refine TL.move rfl rfl ?_; refine TL.move rfl rfl ?_; refine TL.len_slice rfl rfl ?_
    refine TL.lssB rfl rfl rfl (fun hlt => ?_) (fun hlt => ?_)
    ·
     obtain ⟨x, hx⟩ : ∃ x, l[i]? = some x := ⟨_, List.getElem?_eq_getElem (by omega)⟩
     obtain ⟨b1, o1, rfl, hpx⟩ := facts_at hA hx
     have hcur : LOk ((l.take i).foldl putF z.facts) := hnow.fold (fun g hg => hl g (List.mem_of_mem_take hg)) (by rw [List.length_take]; omega)
     refine TL.nil ?_; refine TQ.then_n ?_; refine TC.cond_t rfl ?_; refine TC.skip ?_; refine TQ.then_n ?_; refine TC.seq ?_; refine TC.block ?_; refine TC.drawQV 10  [(0, _), (1, _), (7, _)] follows_mixed ⟨rfl, rfl, rfl, trivial⟩ ?_; refine ChainV.q (some 42) [] (fun _ _ _ _ hF => TL.move rfl rfl (TL.one hF)) ?_; refine ChainV.q (some 43) [] (fun _ _ _ _ hF => TL.move rfl rfl (TL.one hF)) ?_; refine ChainV.q (some 44) [(1, 0)] (fun _ _ _ _ hF => TL.nilCheck rfl rfl (TL.one hF)) ?_; refine ChainV.q (some 45) [(2, 0)] (fun _ _ _ _ hF => TL.fieldAddr rfl rfl (TL.one hF)) ?_
     refine ChainV.q (some 46) [(3, 0)] (by
      intro H' X F hle; have hL := Le.trans hL hle; intro hF; refine TL.load_own 0 0 rfl rfl rfl rfl rfl ?_
      exact TL.one hF) ?_
     refine ChainV.q (some 47) [] (fun _ _ _ _ hF => TL.move rfl rfl (TL.one hF)) ?_; refine ChainV.q (some 48) [] (fun _ _ _ _ hF => TL.move rfl rfl (TL.one hF)) ?_; refine ChainV.q (some 49) [(5, 1), (6, 0)] (fun _ _ _ _ hF => TL.indexAddr (i) rfl rfl rfl (by omega) rfl (TL.one hF)) ?_
     refine ChainV.q (some 50) [(7, 0)] (by
      intro H' X F hle; have hL := Le.trans hL hle; have hpx := hAt.mono hle hpx; intro hF; refine TL.load_immA rfl (hpx) rfl rfl ?_
      exact TL.one hF) ?_
     refine ChainV.r (some 51) [(4, 4), (8, 0)] ([]) (fun _ => fun r s H => rd H (.s 4 (factsD (putF ((l.take i).foldl putF z.facts) x))) r ∧ s = []) (by
      intro H' X F hle; have hL := Le.trans hL hle; have hfv' := rd.mono hle hfv'; intro hF; refine TL.call (ref_put hcur.fok (hl x (List.mem_of_getElem? hx)) hcur.len hfv') ⟨rfl, rfl, trivial⟩ rfl ?_
      rintro v51 _ H51 ⟨hr51, rfl, hle51⟩
      have hL := Le.trans hL hle51; refine TL.nil ?_
      exact TQ.one [] hF hle51 ⟨hr51, rfl⟩) ?_
     refine ⟨by kernel_rfl, .refl _, ?_⟩
     ·
      intro H2 hle
      rintro v51 _ Hr hler ⟨hfv51, rfl⟩
      replace hfv51 := hfv51.mono hler
      have hL := Le.trans hL hle; have hle0 := Le.trans hle0 hle; refine TL.toOwn (own' := _ :: _ :: _ :: own) rfl ?_; refine TL.wk (env' := [(0, _), (1, _), (7, _), (42, _), (51, _)]) ⟨rfl, rfl, rfl, rfl, rfl, trivial⟩ ?_; refine TL.nilCheck rfl rfl ?_; refine TL.fieldAddr rfl rfl ?_; refine TL.store1 0 0 (c' := #[_, _, _, _]) (own' := [(_, .cells #[_, _, _, _] _ _)] :: _) rfl rfl rfl rfl hfv51.one (by simp) rfl rfl rfl ?_; refine TL.nil ?_; refine TQ.in_n ?_; refine TQ.then_n ?_; refine TC.region ?_; refine TL.move rfl rfl ?_; refine TL.add rfl rfl rfl ⟨by omega, by omega⟩ ?_; refine TL.assign rfl rfl ?_; refine TL.nil ?_; refine TQ.toOwn (own' := _ :: _ :: _ :: own) rfl ?_
      refine TQ.next (l.length - (i + 1)) [(0, _), (1, _), (7, _)] (by omega) ⟨rfl, rfl, rfl, trivial⟩ ⟨i + 1, _, rfl, by omega, by rw [fold_take hx]; exact hfv51, rfl, rfl, hle0⟩
    ·
     refine TL.nil ?_; refine TQ.then_n ?_; refine TC.cond_f rfl ?_; refine TC.exit ?_; refine TQ.then_e ?_; refine TQ.then_e ?_; refine TQ.in_e ?_; refine TQ.nsr ?_; refine TL.move rfl rfl ?_; refine TL.nilCheck rfl rfl ?_; refine TL.fieldAddr rfl rfl ?_; refine TL.load_own 0 0 rfl rfl rfl rfl rfl ?_; refine TL.add rfl rfl rfl ⟨by omega, by omega⟩ ?_; refine TL.nilCheck rfl rfl ?_; refine TL.fieldAddr rfl rfl ?_; refine TL.store1 0 0 (c' := #[_, _, _, _]) (own' := [(_, .cells #[_, _, _, _] _ _)] :: _) rfl rfl rfl rfl rfl (by simp) rfl rfl rfl ?_; refine TL.nil ?_; refine TQ.then_n ?_; refine TC.seq ?_; refine TC.drawQV 6  [(0, _), (1, _), (7, _)] follows_mixed ⟨rfl, rfl, rfl, trivial⟩ ?_; refine ChainV.q (some 61) [] (fun _ _ _ _ hF => TL.move rfl rfl (TL.one hF)) ?_; refine ChainV.q (some 62) [(0, 0)] (fun _ _ _ _ hF => TL.nilCheck rfl rfl (TL.one hF)) ?_
     refine ChainV.q (some 63) [(1, 0)] (fun _ _ _ _ hF => TL.fieldAddr rfl rfl (TL.one hF)) ?_
     refine ChainV.q (some 64) [(2, 0)] (by
      intro H' X F hle; have hL := Le.trans hL hle; intro hF; refine TL.load_own 0 0 rfl rfl rfl rfl rfl ?_
      exact TL.one hF) ?_
     refine ChainV.q (some 65) [] (fun _ _ _ _ hF => TL.move rfl rfl (TL.one hF)) ?_
     refine ChainV.q (some 66) [(4, 0)] (by
      intro H' X F hle; have hL := Le.trans hL hle; have hA := rd.mono hle hA; intro hF; refine TL.call (ref_Payload hl (by omega) hA) ⟨rfl, trivial⟩ rfl ?_
      rintro _ _ H66 ⟨rfl, rfl, hle66⟩
      have hL := Le.trans hL hle66; refine TL.nil ?_
      exact TQ.one [] hF hle66 ⟨rfl, rfl⟩) ?_
     refine ⟨by kernel_rfl, .refl _, ?_⟩
     ·
      intro H3 hle; have hL := Le.trans hL hle; have hfv := rd.mono hle hfv; have hxb := RdL.mono hle hxb; have hxc := RdL.mono hle hxc; have hxb23 := RdL.mono hle hxb23; have hxc33 := RdL.mono hle hxc33; have hfv' := rd.mono hle hfv'; refine TL.toOwn (own' := _ :: _ :: _ :: own) rfl ?_; refine TL.wk (env' := [(0, _), (1, _), (7, _), (64, _), (66, _)]) ⟨rfl, rfl, rfl, rfl, rfl, trivial⟩ ?_; refine TL.call (ref_record (k := ⟨#[67]⟩) ⟨by omega, by omega⟩ (by decide) (by have := payS_small hw0; omega)) ⟨rfl, rfl, rfl, trivial⟩ rfl ?_
      rintro _ _ H67 ⟨rfl, rfl, hle67⟩
      have hL := Le.trans hL hle67; have hfv := rd.mono hle67 hfv; have hxb := RdL.mono hle67 hxb; have hxc := RdL.mono hle67 hxc; have hxb23 := RdL.mono hle67 hxb23; have hxc33 := RdL.mono hle67 hxc33; have hfv' := rd.mono hle67 hfv'; refine TL.assign rfl rfl ?_; refine TL.assign rfl rfl ?_; refine TL.nil ?_; refine TQ.then_n ?_; refine TC.ret ?_; refine TQ.toOwn (own' := _ :: _ :: _ :: own) rfl ?_; refine TQ.ret2 0 rfl rfl rfl ?_
      first
        | (rw [rCom_bad (by omega)]; exact ⟨_, _, _, _, _, _, _, rfl, rfl, ⟨hfv, hrb, hrc, hxb, hxc⟩, hL⟩)
        | (rw [rCom_good hw0]
           rw [show i = l.length by omega, List.take_length] at hfv'
           exact ⟨_, _, _, _, _, _, _, rfl, rfl, ⟨hfv', by rw [show (z.commit l).stk.length = z.stk.length + 1 from List.length_append]; exact hrb23, by rw [show (z.commit l).stk.length = z.stk.length + 1 from List.length_append]; exact hrc33, by rw [show stkB (z.commit l).stk = stkB z.stk ++ [.s 4 (factsD z.facts)] from List.map_append]; exact hxb23, by rw [show stkC (z.commit l).stk = stkC z.stk ++ [.s 4 (factsD l)] from List.map_append]; exact hxc33⟩, hL⟩)

end Go.Proofs.YteeamfkhkbfilaaGreat.K

namespace Go.Proofs.YteeamfkhkbfilaaGreat.K
open Go Go.RowKit Go.Proofs

theorem ref_Undo {z : RS} (hz : z.Ok) (hn : z.n ≤ 10000000) {w0 : World} {H : Hp} {own : List Seg} {gs : Nat} {fv bv cv : Value} {sb sc : Seg} {xb xc : List Value} (hm : RSm H z fv bv cv sb sc xb xc) :
    Fn Tryz.prog 31 [.pointer (some ⟨gs, 0, none⟩)] w0 H ([(gs, .cells #[fv, .int .i64 (z.n : Int), bv, cv] 28 (0, 0))] :: sb :: sc :: own)
      (fun r own' H' => ∃ fv' bv' cv' sb' sc' xb' xc', r = .tuple #[.string (rUnd z).1, .int .i64 (rUnd z).2.1] ∧ own' = [(gs, .cells #[fv', .int .i64 ((rUnd z).2.2.n : Int), bv', cv'] 28 (0, 0))] :: sb' :: sc' :: own ∧ RSm H' (rUnd z).2.2 fv' bv' cv' sb' sc' xb' xc' ∧ Le H H') := by
  obtain ⟨hfv, hrb, hrc, hxb, hxc⟩ := hm
  have hnow := hz.now; have hzn := hz.n; have hzs := hz.stk
  obtain ⟨Ab, cb, rfl, hb1, hb2⟩ := hrb.sl
  obtain ⟨Ac, cc, rfl, hcc1, hcc2⟩ := hrc.sl
  refine Fn.enter Tryz.func31 rfl Tryz.ntmps31 rfl ?_; have hL := Le.refl H; refine TC.seq ?_; refine TC.region ?_; refine TL.assign rfl rfl ?_; refine TL.assign rfl rfl ?_; refine TL.nsr ?_; refine TL.move rfl rfl ?_; refine TL.nilCheck rfl rfl ?_; refine TL.fieldAddr rfl rfl ?_; refine TL.load_own 0 0 rfl rfl rfl rfl rfl ?_; refine TL.len_slice rfl rfl ?_; refine TL.sub rfl rfl rfl ⟨by omega, by omega⟩ ?_; refine TL.assign rfl rfl ?_; refine TL.nil ?_; refine TQ.then_n ?_; refine TC.seq ?_; refine TC.seq ?_; refine TC.region ?_; refine TL.move rfl rfl ?_
  refine TL.lssB rfl rfl rfl (fun hneg => ?_) (fun hneg => ?_)
  ·
   refine TL.nil ?_; refine TQ.then_n ?_; refine TC.cond_t rfl ?_; refine TC.seq ?_; refine TC.region ?_; refine TL.assign rfl rfl ?_; refine TL.assign rfl rfl ?_; refine TL.nil ?_; refine TQ.then_n ?_; refine TC.ret ?_; refine TQ.then_r ?_; refine TQ.toOwn (own' := _ :: _ :: _ :: own) rfl ?_; refine TQ.ret2 0 rfl rfl rfl ?_
   first
     | (rw [rUnd_none (by omega)]; exact ⟨_, _, _, _, _, _, _, rfl, rfl, ⟨hfv, hrb, hrc, hxb, hxc⟩, hL⟩)
     | (rw [rUnd_some hst]
        rw [show i = l.length by omega, List.take_length] at hfv'
        have e : (z.undo b l).stk = st := by show z.stk.dropLast = st; rw [hst, List.dropLast_concat]
        exact ⟨_, _, _, _, _, _, _, rfl, rfl, ⟨hfv', by rw [e, ← hm]; exact hrb3, by rw [e, ← hm]; exact hrc3, by rw [e]; exact hxb3, by rw [e]; exact hxc3⟩, hL⟩)
  ·
   obtain ⟨st, ⟨b, l⟩, hst⟩ := stk_last (l := z.stk) (by omega)
   obtain ⟨m, hm⟩ : ∃ m, m = st.length := ⟨_, rfl⟩
   have hsl : z.stk.length = m + 1 := by rw [hst, hm]; simp
   obtain ⟨hbo, hlo⟩ := hz.each (b, l) (by rw [hst]; simp)
   simp only at hbo hlo
   have hll := hlo.len
   rw [show ((z.stk.length : Int) - 1) = (m : Int) by omega]
   have hxb2 := hxb; have hxc2 := hxc
   rw [hst] at hxb2 hxc2
   simp only [stkB, stkC, List.map_append, List.map_cons, List.map_nil] at hxb2 hxc2
   obtain ⟨xb1, _ | ⟨vb, _ | _⟩, rfl, hxb3, hvb⟩ := hxb2.split
   · exact hvb.elim
   rotate_left
   · exact hvb.2.elim
   obtain ⟨xc1, _ | ⟨vc, _ | _⟩, rfl, hxc3, hvc⟩ := hxc2.split
   · exact hvc.elim
   rotate_left
   · exact hvc.2.elim
   replace hvb := hvb.1
   replace hvc := hvc.1
   obtain ⟨gb, capb, curb, heb, rfl, hcb1, hcb2, hgb, hrb3⟩ := hrb.pop hsl
   cases heb
   obtain ⟨gc, capc, curc, hec, rfl, hcg1, hcg2, hgc, hrc3⟩ := hrc.pop hsl
   cases hec
   obtain ⟨A, c, rfl, hc1, hc2⟩ := facts_len hvc
   refine TL.nil ?_; refine TQ.then_n ?_; refine TC.cond_f rfl ?_; refine TC.skip ?_; refine TQ.nsr ?_; refine TL.move rfl rfl ?_; refine TL.nilCheck rfl rfl ?_; refine TL.fieldAddr rfl rfl ?_; refine TL.load_own 0 0 rfl rfl rfl rfl rfl ?_; refine TL.move rfl rfl ?_; refine TL.indexAddr (m) rfl rfl rfl (by omega) rfl ?_; refine TL.load_own 1 0 rfl rfl rfl hgb rfl ?_; refine TL.assign rfl rfl ?_; refine TL.nsr ?_; refine TL.move rfl rfl ?_; refine TL.nilCheck rfl rfl ?_; refine TL.fieldAddr rfl rfl ?_; refine TL.load_own 0 0 rfl rfl rfl rfl rfl ?_; refine TL.move rfl rfl ?_; refine TL.indexAddr (m) rfl rfl rfl (by omega) rfl ?_; refine TL.load_own 2 0 rfl rfl rfl hgc rfl ?_; refine TL.assign rfl rfl ?_; refine TL.nil ?_; refine TQ.then_n ?_; refine TC.seq ?_; refine TC.seq ?_; refine TC.region ?_; refine TL.assign rfl rfl ?_; refine TL.nil ?_; refine TQ.then_n ?_; refine TC.block ?_
   refine TC.loop (fun n env' own' H' => ∃ i fv', n = l.length - i ∧ i ≤ l.length ∧ rd H' (.s 4 (factsD (unput b (l.take i) z.facts))) fv' ∧ env' = [(0, .pointer (some ⟨gs, 0, none⟩)), (4, .int .i64 (m : Int)), (5, vb), (6, .slice A l.length c), (7, .int .i64 (i : Int))] ∧ own' = [(gs, .cells #[fv', .int .i64 (z.n : Int), .slice (some ⟨gb, 0, none⟩) z.stk.length cb, .slice (some ⟨gc, 0, none⟩) z.stk.length cc] 28 (0, 0))] :: [(gb, .cells curb 25 (0, 0))] :: [(gc, .cells curc 25 (0, 0))] :: own ∧ Le H H') l.length [(0, _), (4, _), (5, _), (6, _), (7, _)] ⟨rfl, rfl, rfl, rfl, rfl, trivial⟩ ⟨0, _, by omega, by omega, hfv, rfl, rfl, Le.refl _⟩ ?_
   rintro n _ _ H1 ⟨i, fv', rfl, hi1, hfv', rfl, rfl, hle0⟩
   have hL := Le.trans hL hle0; have hfv := rd.mono hle0 hfv; have hxb := RdL.mono hle0 hxb; have hxc := RdL.mono hle0 hxc; have hvb := rd.mono hle0 hvb; have hvc := rd.mono hle0 hvc; have hxb3 := RdL.mono hle0 hxb3; have hxc3 := RdL.mono hle0 hxc3; refine TC.seq ?_; refine TC.seq ?_; refine TC.region ?_; refine TL.move rfl rfl ?_; refine TL.move rfl rfl ?_; refine TL.len_slice rfl rfl ?_
   refine TL.lssB rfl rfl rfl (fun hlt => ?_) (fun hlt => ?_)
   ·
    obtain ⟨x, hx⟩ : ∃ x, l[i]? = some x := ⟨_, List.getElem?_eq_getElem (by omega)⟩
    obtain ⟨b1, o1, rfl, hpx⟩ := facts_at hvc hx
    have hx1 := hlo.fok x (List.mem_of_getElem? hx)
    have hcur : LOk (unput b (l.take i) z.facts) := hnow.fold (fun g hg => by obtain ⟨q, hq, rfl⟩ := List.mem_map.1 hg; exact was_ok hbo.fok (hlo.fok q (List.mem_of_mem_take hq))) (by rw [List.length_map, List.length_take]; omega)
    obtain ⟨q0, hq0⟩ : ∃ q0, q0 = Fact.mk x.kind x.bank x.addr eS := ⟨_, rfl⟩
    refine TL.nil ?_; refine TQ.then_n ?_; refine TC.cond_t rfl ?_; refine TC.skip ?_; refine TQ.then_n ?_; refine TC.seq ?_; refine TC.block ?_; refine TC.seq ?_; refine TC.drawQV 12  [(0, _), (4, _), (5, _), (6, _), (7, _)] follows_mixed ⟨rfl, rfl, rfl, rfl, rfl, trivial⟩ ?_; refine ChainV.q (some 39) [] (fun _ _ _ _ hF => TL.move rfl rfl (TL.one hF)) ?_; refine ChainV.q (some 40) [] (fun _ _ _ _ hF => TL.move rfl rfl (TL.one hF)) ?_; refine ChainV.q (some 41) [(0, 1), (1, 0)] (fun _ _ _ _ hF => TL.indexAddr (i) rfl rfl rfl (by omega) rfl (TL.one hF)) ?_; refine ChainV.q (some 42) [(2, 0)] (fun _ _ _ _ hF => TL.fieldAddr rfl rfl (TL.one hF)) ?_
    refine ChainV.q (some 43) [(3, 0)] (by
     intro H' X F hle; have hL := Le.trans hL hle; have hpx := hAt.mono hle hpx; intro hF; refine TL.load_imm rfl (hpx.1) rfl ?_
     exact TL.one hF) ?_
    refine ChainV.q (some 44) [] (fun _ _ _ _ hF => TL.move rfl rfl (TL.one hF)) ?_; refine ChainV.q (some 45) [] (fun _ _ _ _ hF => TL.move rfl rfl (TL.one hF)) ?_; refine ChainV.q (some 46) [(5, 1), (6, 0)] (fun _ _ _ _ hF => TL.indexAddr (i) rfl rfl rfl (by omega) rfl (TL.one hF)) ?_; refine ChainV.q (some 47) [(7, 0)] (fun _ _ _ _ hF => TL.fieldAddr rfl rfl (TL.one hF)) ?_
    refine ChainV.q (some 48) [(8, 0)] (by
     intro H' X F hle; have hL := Le.trans hL hle; have hpx := hAt.mono hle hpx; intro hF; refine TL.load_immA rfl ((show hAt _ _ _ [.int .i64 x.bank, .int .u16 x.addr] from ⟨hpx.2.1, hpx.2.2.1, trivial⟩)) rfl rfl ?_
     exact TL.one hF) ?_
    refine ChainV.q (some 49) [(4, 5), (9, 0)] (by
     intro H' X F hle; have hL := Le.trans hL hle; intro hF; refine TL.struct [(0, [_]), (1, [_, _])] ⟨rfl, ⟨_, rfl, rfl⟩, rfl, ⟨_, rfl, rfl⟩, trivial⟩ rfl rfl ?_
     exact TL.one hF) ?_
    refine ChainV.r (some 8) [] ([]) (fun _ => fun r s H => ∃ g, r = .pointer (some ⟨g, 0, none⟩) ∧ s = [[(g, .cells #[.int .i64 0, .int .i64 0, .int .u16 0, .string ⟨#[]⟩] 60 (0, 0))]]) (by
     intro H' X F hle; have hL := Le.trans hL hle; intro hF
     refine TL.new rfl ?_; intro g8; refine TL.nil ?_
     exact TQ.one [_] hF (Le.refl _) ⟨_, rfl, rfl⟩) ?_
    refine ⟨by kernel_rfl, .refl _, ?_⟩
    ·
     intro H1 hle
     rintro _ _ Hr hler ⟨g8, rfl, rfl⟩
     have hL := Le.trans hL hle; have hvb := rd.mono hle hvb; have hle0 := Le.trans hle0 hle; have hfv' := rd.mono hle hfv'; refine TL.toOwn (own' := _ :: _ :: _ :: _ :: own) rfl ?_; refine TL.wk (env' := [(0, _), (4, _), (5, _), (6, _), (7, _), (49, _), (8, _)]) ⟨rfl, rfl, rfl, rfl, rfl, rfl, rfl, trivial⟩ ?_; refine TL.storeA 0 0 (c' := #[_, _, _, _]) (own' := [(_, .cells #[_, _, _, _] _ _)] :: _) rfl rfl rfl rfl rfl ⟨rfl, rfl, rfl, rfl, trivial⟩ (by simp [putC]) rfl rfl rfl ?_; refine TL.nil ?_; refine TQ.then_n ?_; refine TC.seq ?_; refine TC.seq ?_; refine TC.toOwn (own' := _ :: _ :: _ :: _ :: own) rfl ?_
     obtain ⟨B, d, rfl, hd1, hd2⟩ := facts_len hvb
     refine TC.region ?_; refine TL.assign rfl rfl ?_; refine TL.nil ?_; refine TQ.then_n ?_; refine TC.block ?_
     refine TC.loop (fun n env' own' H' => ∃ k q, n = b.length - k ∧ k ≤ b.length ∧ q = wasL (b.take k) q0 ∧ env' = [(0, .pointer (some ⟨gs, 0, none⟩)), (4, .int .i64 (m : Int)), (5, .slice B b.length d), (6, .slice (some ⟨b1, o1, none⟩) l.length c), (7, .int .i64 (i : Int)), (8, .pointer (some ⟨g8, 0, none⟩)), (9, .int .i64 (k : Int))] ∧ own' = [(g8, .cells #[.int .i64 q.kind, .int .i64 q.bank, .int .u16 q.addr, .string q.text] 60 (0, 0))] :: [(gs, .cells #[fv', .int .i64 (z.n : Int), .slice (some ⟨gb, 0, none⟩) z.stk.length cb, .slice (some ⟨gc, 0, none⟩) z.stk.length cc] 28 (0, 0))] :: [(gb, .cells curb 25 (0, 0))] :: [(gc, .cells curc 25 (0, 0))] :: own ∧ Le H1 H') b.length [(0, _), (4, _), (5, _), (6, _), (7, _), (8, _), (9, _)] ⟨rfl, rfl, rfl, rfl, rfl, rfl, rfl, trivial⟩ ⟨0, q0, by omega, by omega, rfl, rfl, by rw [hq0], Le.refl _⟩ ?_
     rintro n _ _ H2 ⟨k, q, rfl, hk1, hq, rfl, rfl, hle1⟩
     have hL := Le.trans hL hle1; have hvb := rd.mono hle1 hvb; have hle0 := Le.trans hle0 hle1; have hfv' := rd.mono hle1 hfv'; refine TC.seq ?_; refine TC.seq ?_; refine TC.region ?_; refine TL.move rfl rfl ?_; refine TL.move rfl rfl ?_; refine TL.len_slice rfl rfl ?_
     refine TL.lssB rfl rfl rfl (fun hlt2 => ?_) (fun hlt2 => ?_)
     ·
      obtain ⟨y, hy⟩ : ∃ y, b[k]? = some y := ⟨_, List.getElem?_eq_getElem (by omega)⟩
      obtain ⟨b2, o2, rfl, hpy⟩ := facts_at hvb hy
      have hqk : q.key = q0.key := by rw [hq, wasL_key]
      have hqo : FOk q := by
        rcases wasL_mem (b.take k) q0 with h | h
        · rw [hq, h, hq0]; exact ⟨hx1.kind, hx1.bank, hx1.addr, Nat.zero_le _⟩
        · rw [hq]; exact hbo.fok _ (List.mem_of_mem_take h)
      refine TL.nil ?_; refine TQ.then_n ?_; refine TC.cond_t rfl ?_; refine TC.skip ?_; refine TQ.then_n ?_; refine TC.seq ?_; refine TC.block ?_; refine TC.seq ?_
      rcases dsm : decide (y.key = q.key) with _ | _
      ·
       have hsm := of_decide_eq_false dsm; refine TC.drawQV 5  [(0, _), (4, _), (5, _), (6, _), (7, _), (8, _), (9, _)] follows_mixed ⟨rfl, rfl, rfl, rfl, rfl, rfl, rfl, trivial⟩ ?_; refine ChainV.q (some 56) [] (fun _ _ _ _ hF => TL.move rfl rfl (TL.one hF)) ?_; refine ChainV.q (some 57) [] (fun _ _ _ _ hF => TL.move rfl rfl (TL.one hF)) ?_; refine ChainV.q (some 58) [(0, 1), (1, 0)] (fun _ _ _ _ hF => TL.indexAddr (k) rfl rfl rfl (by omega) rfl (TL.one hF)) ?_
       refine ChainV.q (some 59) [(2, 0)] (by
        intro H' X F hle; have hL := Le.trans hL hle; have hpy := hAt.mono hle hpy; intro hF; refine TL.load_immA rfl (hpy) rfl rfl ?_
        exact TL.one hF) ?_
       refine ChainV.q (some 60) [] (by
        intro H' X F hle; have hL := Le.trans hL hle; intro hF; refine TL.load_ownA 0 0 [_, _, _, _] rfl rfl rfl ⟨rfl, rfl, rfl, rfl, trivial⟩ rfl rfl ?_
        exact TL.one hF) ?_
       refine ⟨by kernel_rfl, .refl _, ?_⟩
       ·
        intro H2 hle; have hL := Le.trans hL hle; have hle1 := Le.trans hle1 hle; refine TL.toOwn (own' := _ :: _ :: _ :: _ :: own) rfl ?_; refine TL.wk (env' := [(0, _), (4, _), (5, _), (6, _), (7, _), (8, _), (9, _), (59, _), (60, _)]) ⟨rfl, rfl, rfl, rfl, rfl, rfl, rfl, rfl, rfl, trivial⟩ ?_; refine TL.call (ref_same (hbo.fok y (List.mem_of_getElem? hy)) hqo) ⟨rfl, rfl, trivial⟩ rfl ?_
        rintro _ _ H61 ⟨rfl, rfl, hle61⟩
        rw [dsm]
        have hL := Le.trans hL hle61; have hle1 := Le.trans hle1 hle61; refine TL.assign rfl rfl ?_; refine TL.nsr ?_; refine TL.move rfl rfl ?_; refine TL.nil ?_; refine TQ.then_n ?_; refine TC.cond_f rfl ?_; refine TC.skip ?_; refine TQ.in_n ?_; refine TQ.then_n ?_; refine TC.region ?_; refine TL.move rfl rfl ?_; refine TL.add rfl rfl rfl ⟨by omega, by omega⟩ ?_; refine TL.assign rfl rfl ?_; refine TL.nil ?_; refine TQ.toOwn (own' := _ :: _ :: _ :: _ :: own) rfl ?_
        refine TQ.next (b.length - (k + 1)) [(0, _), (4, _), (5, _), (6, _), (7, _), (8, _), (9, _)] (by omega) ⟨rfl, rfl, rfl, rfl, rfl, rfl, rfl, trivial⟩ ⟨k + 1, q, rfl, by omega, by rw [wasL_take hy, if_neg (fun h => hsm (h.trans hqk.symm)), hq], rfl, rfl, hle1⟩
      ·
       have hsm := of_decide_eq_true dsm; refine TC.drawQV 5  [(0, _), (4, _), (5, _), (6, _), (7, _), (8, _), (9, _)] follows_mixed ⟨rfl, rfl, rfl, rfl, rfl, rfl, rfl, trivial⟩ ?_; refine ChainV.q (some 56) [] (fun _ _ _ _ hF => TL.move rfl rfl (TL.one hF)) ?_; refine ChainV.q (some 57) [] (fun _ _ _ _ hF => TL.move rfl rfl (TL.one hF)) ?_; refine ChainV.q (some 58) [(0, 1), (1, 0)] (fun _ _ _ _ hF => TL.indexAddr (k) rfl rfl rfl (by omega) rfl (TL.one hF)) ?_
       refine ChainV.q (some 59) [(2, 0)] (by
        intro H' X F hle; have hL := Le.trans hL hle; have hpy := hAt.mono hle hpy; intro hF; refine TL.load_immA rfl (hpy) rfl rfl ?_
        exact TL.one hF) ?_
       refine ChainV.q (some 60) [] (by
        intro H' X F hle; have hL := Le.trans hL hle; intro hF; refine TL.load_ownA 0 0 [_, _, _, _] rfl rfl rfl ⟨rfl, rfl, rfl, rfl, trivial⟩ rfl rfl ?_
        exact TL.one hF) ?_
       refine ⟨by kernel_rfl, .refl _, ?_⟩
       ·
        intro H3 hle; have hL := Le.trans hL hle; have hle1 := Le.trans hle1 hle; have hpy := hAt.mono hle hpy; refine TL.toOwn (own' := _ :: _ :: _ :: _ :: own) rfl ?_; refine TL.wk (env' := [(0, _), (4, _), (5, _), (6, _), (7, _), (8, _), (9, _), (59, _), (60, _)]) ⟨rfl, rfl, rfl, rfl, rfl, rfl, rfl, rfl, rfl, trivial⟩ ?_; refine TL.call (ref_same (hbo.fok y (List.mem_of_getElem? hy)) hqo) ⟨rfl, rfl, trivial⟩ rfl ?_
        rintro _ _ H61 ⟨rfl, rfl, hle61⟩
        rw [dsm]
        have hL := Le.trans hL hle61; have hle1 := Le.trans hle1 hle61; have hpy := hAt.mono hle61 hpy; refine TL.assign rfl rfl ?_; refine TL.nsr ?_; refine TL.move rfl rfl ?_; refine TL.nil ?_; refine TQ.then_n ?_; refine TC.cond_t rfl ?_; refine TC.region ?_; refine TL.move rfl rfl ?_; refine TL.move rfl rfl ?_; refine TL.indexAddr (k) rfl rfl rfl (by omega) rfl ?_; refine TL.load_immA rfl (hpy) rfl rfl ?_; refine TL.storeA 0 0 (c' := #[_, _, _, _]) (own' := [(_, .cells #[_, _, _, _] _ _)] :: _) rfl rfl rfl rfl rfl ⟨rfl, rfl, rfl, rfl, trivial⟩ (Nat.le_refl 4) rfl rfl rfl ?_; refine TL.nil ?_; refine TQ.in_n ?_; refine TQ.then_n ?_; refine TC.region ?_; refine TL.move rfl rfl ?_; refine TL.add rfl rfl rfl ⟨by omega, by omega⟩ ?_; refine TL.assign rfl rfl ?_; refine TL.nil ?_; refine TQ.toOwn (own' := _ :: _ :: _ :: _ :: own) rfl ?_
        refine TQ.next (b.length - (k + 1)) [(0, _), (4, _), (5, _), (6, _), (7, _), (8, _), (9, _)] (by omega) ⟨rfl, rfl, rfl, rfl, rfl, rfl, rfl, trivial⟩ ⟨k + 1, y, rfl, by omega, by rw [wasL_take hy, if_pos (hsm.trans hqk)], rfl, rfl, hle1⟩
     ·
      have hwas : was b x = q := by
        rw [hq, show k = b.length by omega, List.take_length, hq0, wasL_was x hbo.good.1]
      have hqo : FOk q := hwas ▸ was_ok hbo.fok hx1
      refine TL.nil ?_; refine TQ.then_n ?_; refine TC.cond_f rfl ?_; refine TC.exit ?_; refine TQ.then_e ?_; refine TQ.then_e ?_; refine TQ.in_e ?_; refine TQ.then_n ?_; refine TC.drawQV 7  [(0, _), (4, _), (5, _), (6, _), (7, _), (8, _), (9, _)] follows_mixed ⟨rfl, rfl, rfl, rfl, rfl, rfl, rfl, trivial⟩ ?_; refine ChainV.q (some 67) [] (fun _ _ _ _ hF => TL.move rfl rfl (TL.one hF)) ?_; refine ChainV.q (some 68) [] (fun _ _ _ _ hF => TL.move rfl rfl (TL.one hF)) ?_; refine ChainV.q (some 69) [(1, 0)] (fun _ _ _ _ hF => TL.nilCheck rfl rfl (TL.one hF)) ?_; refine ChainV.q (some 70) [(2, 0)] (fun _ _ _ _ hF => TL.fieldAddr rfl rfl (TL.one hF)) ?_
      refine ChainV.q (some 71) [(3, 0)] (by
       intro H' X F hle; have hL := Le.trans hL hle; intro hF; refine TL.load_own 1 0 rfl rfl rfl rfl rfl ?_
       exact TL.one hF) ?_
      refine ChainV.q (some 72) [] (by
       intro H' X F hle; have hL := Le.trans hL hle; intro hF; refine TL.load_ownA 0 0 [_, _, _, _] rfl rfl rfl ⟨rfl, rfl, rfl, rfl, trivial⟩ rfl rfl ?_
       exact TL.one hF) ?_
      refine ChainV.r (some 73) [(4, 1), (5, 0)] ([]) (fun _ => fun r s H => rd H (.s 4 (factsD (putF (unput b (l.take i) z.facts) q))) r ∧ s = []) (by
       intro H' X F hle; have hL := Le.trans hL hle; have hfv' := rd.mono hle hfv'; intro hF; refine TL.call (ref_put hcur.fok hqo hcur.len hfv') ⟨rfl, rfl, trivial⟩ rfl ?_
       rintro v73 _ H73 ⟨hr73, rfl, hle73⟩
       have hL := Le.trans hL hle73; refine TL.nil ?_
       exact TQ.one [] hF hle73 ⟨hr73, rfl⟩) ?_
      refine ⟨by kernel_rfl, .refl _, ?_⟩
      ·
       intro H4 hle
       rintro v73 _ Hr hler ⟨hfv73, rfl⟩
       replace hfv73 := hfv73.mono hler
       have hL := Le.trans hL hle; have hle0 := Le.trans hle0 hle; refine TL.toOwn (own' := _ :: _ :: _ :: _ :: own) rfl ?_; refine TL.wk (env' := [(0, _), (4, _), (5, _), (6, _), (7, _), (8, _), (9, _), (67, _), (73, _)]) ⟨rfl, rfl, rfl, rfl, rfl, rfl, rfl, rfl, rfl, trivial⟩ ?_; refine TL.nilCheck rfl rfl ?_; refine TL.fieldAddr rfl rfl ?_; refine TL.store1 1 0 (c' := #[_, _, _, _]) (own' := _ :: [(_, .cells #[_, _, _, _] _ _)] :: _) rfl rfl rfl rfl hfv73.one (by simp) rfl rfl rfl ?_; refine TL.nil ?_; refine TQ.in_n ?_; refine TQ.then_n ?_; refine TC.region ?_; refine TL.move rfl rfl ?_; refine TL.add rfl rfl rfl ⟨by omega, by omega⟩ ?_; refine TL.assign rfl rfl ?_; refine TL.nil ?_
       refine TQ.sel 4 [1, 2, 3] rfl (fun o ho => ?_)
       simp only [K.sel, List.map_cons, List.map_nil, List.getD_cons_zero, List.getD_cons_succ, List.drop_succ_cons, List.drop_zero, List.cons_append, List.nil_append, List.set_cons_zero, List.set_cons_succ] at ho; subst ho
       refine TQ.next (l.length - (i + 1)) [(0, _), (4, _), (5, _), (6, _), (7, _)] (by omega) ⟨rfl, rfl, rfl, rfl, rfl, trivial⟩ ⟨i + 1, _, rfl, by omega, by rw [was_take hx, hwas]; exact hfv73, rfl, rfl, hle0⟩
   ·
    refine TL.nil ?_; refine TQ.then_n ?_; refine TC.cond_f rfl ?_; refine TC.exit ?_; refine TQ.then_e ?_; refine TQ.then_e ?_; refine TQ.in_e ?_; refine TQ.nsr ?_; refine TL.move rfl rfl ?_; refine TL.move rfl rfl ?_; refine TL.nilCheck rfl rfl ?_; refine TL.fieldAddr rfl rfl ?_; refine TL.load_own 0 0 rfl rfl rfl rfl rfl ?_; refine TL.move rfl rfl ?_; refine TL.slice 0 m rfl rfl ⟨_, _, rfl, rfl⟩ rfl rfl (by omega) (by omega) rfl ?_
    rw [slice_zero]
    refine TL.nilCheck rfl rfl ?_; refine TL.fieldAddr rfl rfl ?_; refine TL.store1 0 0 (c' := #[_, _, _, _]) (own' := [(_, .cells #[_, _, _, _] _ _)] :: _) rfl rfl rfl rfl rfl (by simp) rfl rfl rfl ?_; refine TL.nsr ?_; refine TL.move rfl rfl ?_; refine TL.move rfl rfl ?_; refine TL.nilCheck rfl rfl ?_; refine TL.fieldAddr rfl rfl ?_; refine TL.load_own 0 0 rfl rfl rfl rfl rfl ?_; refine TL.move rfl rfl ?_; refine TL.slice 0 m rfl rfl ⟨_, _, rfl, rfl⟩ rfl rfl (by omega) (by omega) rfl ?_
    rw [slice_zero]
    refine TL.nilCheck rfl rfl ?_; refine TL.fieldAddr rfl rfl ?_; refine TL.store1 0 0 (c' := #[_, _, _, _]) (own' := [(_, .cells #[_, _, _, _] _ _)] :: _) rfl rfl rfl rfl rfl (by simp) rfl rfl rfl ?_; refine TL.nsr ?_; refine TL.move rfl rfl ?_; refine TL.nilCheck rfl rfl ?_; refine TL.fieldAddr rfl rfl ?_; refine TL.load_own 0 0 rfl rfl rfl rfl rfl ?_; refine TL.add rfl rfl rfl ⟨by omega, by omega⟩ ?_; refine TL.nilCheck rfl rfl ?_; refine TL.fieldAddr rfl rfl ?_; refine TL.store1 0 0 (c' := #[_, _, _, _]) (own' := [(_, .cells #[_, _, _, _] _ _)] :: _) rfl rfl rfl rfl rfl (by simp) rfl rfl rfl ?_; refine TL.nsr ?_; refine TL.move rfl rfl ?_; refine TL.nilCheck rfl rfl ?_; refine TL.fieldAddr rfl rfl ?_; refine TL.load_own 0 0 rfl rfl rfl rfl rfl ?_; refine TL.call (ref_record (k := ⟨#[85]⟩) ⟨by omega, by omega⟩ (by decide) (by decide)) ⟨rfl, rfl, rfl, trivial⟩ rfl ?_
    rintro _ _ H105 ⟨rfl, rfl, hle105⟩
    have hL := Le.trans hL hle105; have hfv := rd.mono hle105 hfv; have hxb := RdL.mono hle105 hxb; have hxc := RdL.mono hle105 hxc; have hxb3 := RdL.mono hle105 hxb3; have hxc3 := RdL.mono hle105 hxc3; have hfv' := rd.mono hle105 hfv'; refine TL.assign rfl rfl ?_; refine TL.assign rfl rfl ?_; refine TL.nil ?_; refine TQ.then_n ?_; refine TC.ret ?_; refine TQ.toOwn (own' := _ :: _ :: _ :: own) rfl ?_; refine TQ.ret2 0 rfl rfl rfl ?_
    first
      | (rw [rUnd_none (by omega)]; exact ⟨_, _, _, _, _, _, _, rfl, rfl, ⟨hfv, hrb, hrc, hxb, hxc⟩, hL⟩)
      | (rw [rUnd_some hst]
         rw [show i = l.length by omega, List.take_length] at hfv'
         have e : (z.undo b l).stk = st := by show z.stk.dropLast = st; rw [hst, List.dropLast_concat]
         exact ⟨_, _, _, _, _, _, _, rfl, rfl, ⟨hfv', by rw [e, ← hm]; exact hrb3, by rw [e, ← hm]; exact hrc3, by rw [e]; exact hxb3, by rw [e]; exact hxc3⟩, hL⟩)

end Go.Proofs.YteeamfkhkbfilaaGreat.K

namespace Go.Proofs.YteeamfkhkbfilaaGreat.K
open Go Go.RowKit Go.Proofs

/-- Digits. -/
def digF : Nat → Int → ByteArray
  | 0, _ => eS
  | k + 1, n => if n < 10 then ⟨#[b8 (48 + n % 10)]⟩ else digF k (n / 10) ++ ⟨#[b8 (48 + n % 10)]⟩
theorem digF_size : ∀ (k : Nat) (n : Int), (digF k n).size ≤ k
  | 0, _ => Nat.le_refl _
  | k + 1, n => by
    unfold digF
    split
    · exact Nat.succ_le_succ (Nat.zero_le _)
    · rw [ByteArray.size_append]
      have := digF_size k (n / 10)
      show _ + 1 ≤ _
      omega
def nm8L : List ByteArray := [⟨#[]⟩, ⟨#[110, 97, 109, 101, 95, 111, 102, 95, 105, 116]⟩, ⟨#[120, 49]⟩, ⟨#[89]⟩, ⟨#[103, 111]⟩, ⟨#[102, 48]⟩, ⟨#[102, 105, 114, 115, 116]⟩, ⟨#[105, 110, 116, 101, 114, 114, 117, 112, 116, 95, 50]⟩]
def nm8 (j : Nat) : ByteArray := nm8L.getD j eS
theorem nm8_at {j : Nat} (h : j < 8) : lget (nm8L.map Value.string) (0 + j * 1) = some (.string (nm8 j)) := by
  match j, h with
  | 0, _ => rfl
  | 1, _ => rfl
  | 2, _ => rfl
  | 3, _ => rfl
  | 4, _ => rfl
  | 5, _ => rfl
  | 6, _ => rfl
  | 7, _ => rfl
theorem nm8_size (j : Nat) : (nm8 j).size ≤ 11 := by
  match j with
  | 0 => decide
  | 1 => decide
  | 2 => decide
  | 3 => decide
  | 4 => decide
  | 5 => decide
  | 6 => decide
  | 7 => decide
  | n + 8 => exact Nat.zero_le _
abbrev Quad := Int × Int × Int × Int
structure QOk (q : Quad) : Prop where
  a : I64 q.1
  b : I64 q.2.1
  c : I64 q.2.2.1
  d : I64 q.2.2.2
def quadD (q : Quad) : List D := [.c (.int .i64 q.1), .c (.int .i64 q.2.1), .c (.int .i64 q.2.2.1), .c (.int .i64 q.2.2.2)]
def quadV (q : Quad) : List Value := [.int .i64 q.1, .int .i64 q.2.1, .int .i64 q.2.2.1, .int .i64 q.2.2.2]
abbrev quadsD (l : List Quad) : List D := l.flatMap quadD
theorem quadD_len (q : Quad) : (quadD q).length = 4 := rfl
theorem quad_cells {H : Hp} {q : Quad} {cs : List Value} (h : RdL H (quadD q) cs) : cs = quadV q := by
  match cs, h with
  | [c0, c1, c2, c3], ⟨h0, h1, h2, h3, _⟩ =>
    simp only [rd] at h0 h1 h2 h3
    subst h0 h1 h2 h3
    rfl
theorem quads_at {H : Hp} {l : List Quad} {A : Option Addr} {n c : Nat} (h : rd H (.s 4 (quadsD l)) (.slice A n c)) {i : Nat} {q : Quad} (hi : l[i]? = some q) : ∃ b o, A = some ⟨b, o, none⟩ ∧ hAt H b (o + i * 4) (quadV q) := by
  obtain ⟨b, o, cells, rfl, h1, h2, _⟩ := elems_at (by omega) quadD_len h hi
  rw [quad_cells h2] at h1
  exact ⟨b, o, rfl, h1⟩
def sfx : ByteArray := ⟨#[58, 32, 117, 49, 54, 32]⟩
def mtext (q : Quad) : ByteArray := nm8 (q.2.2.2 % 8).toNat
def made (q : Quad) : Fact := ⟨1 + q.1 % 4, q.2.1 % 5 - 1, q.2.2.1 % 12 * 300, if 1 + q.1 % 4 ≠ 1 ∧ mtext q ≠ eS then mtext q ++ sfx ++ digF 3 (q.2.2.2 % 1000) else mtext q⟩
theorem made_t1 {q : Quad} (hk : 1 + q.1 % 4 ≠ 1) (hs : nm8 (q.2.2.2 % 8).toNat ≠ ⟨#[]⟩) : (made q).text = nm8 (q.2.2.2 % 8).toNat ++ sfx ++ digF 3 (q.2.2.2 % 1000) := if_pos ⟨hk, hs⟩
theorem made_t2 {q : Quad} (hk : 1 + q.1 % 4 = 1) : (made q).text = nm8 (q.2.2.2 % 8).toNat := if_neg fun h => h.1 hk
theorem made_t3 {q : Quad} (hs : nm8 (q.2.2.2 % 8).toNat = ⟨#[]⟩) : (made q).text = nm8 (q.2.2.2 % 8).toNat := if_neg fun h => h.2 hs
theorem made_ok (q : Quad) : FOk (made q) := by
  refine ⟨⟨?_, ?_⟩, ⟨?_, ?_⟩, ⟨?_, ?_⟩, ?_⟩
  · show _ ≤ 1 + q.1 % 4; omega
  · show 1 + q.1 % 4 ≤ _; omega
  · show _ ≤ q.2.1 % 5 - 1; omega
  · show q.2.1 % 5 - 1 ≤ _; omega
  · show _ ≤ q.2.2.1 % 12 * 300; omega
  · show q.2.2.1 % 12 * 300 ≤ _; omega
  · show ByteArray.size (if _ then _ else _) ≤ _
    have h1 := nm8_size (q.2.2.2 % 8).toNat
    have h2 := digF_size 3 (q.2.2.2 % 1000)
    have e : sfx.size = 6 := rfl
    unfold mtext
    split
    · rw [ByteArray.size_append, ByteArray.size_append]; omega
    · omega
def addQ (out : List Fact) (q : Quad) : List Fact := if (out.any fun y => decide (y.key = (made q).key)) = true then out else out ++ [made q]
def listA (l : List Quad) : List Fact := (l.take 12).foldl addQ []
theorem addQ_ok {out : List Fact} {q : Quad} (h : ∀ g ∈ out, FOk g) : ∀ g ∈ addQ out q, FOk g := by
  intro g hg
  unfold addQ at hg
  split at hg
  · exact h g hg
  · rcases List.mem_append.1 hg with hg | hg
    · exact h g hg
    · simp at hg; subst hg; exact made_ok q
theorem addQ_len (out : List Fact) (q : Quad) : (addQ out q).length ≤ out.length + 1 := by
  unfold addQ
  split
  · omega
  · simp
theorem foldQ_ok : ∀ (l : List Quad) {out : List Fact}, (∀ g ∈ out, FOk g) → (∀ g ∈ l.foldl addQ out, FOk g) ∧ (l.foldl addQ out).length ≤ out.length + l.length
  | [], _, h => ⟨h, Nat.le_refl _⟩
  | q :: r, out, h => by
    have h1 := foldQ_ok r (addQ_ok (q := q) h)
    have h2 := addQ_len out q
    exact ⟨h1.1, by simp only [List.foldl_cons, List.length_cons]; omega⟩
theorem listA_ok (l : List Quad) : (∀ g ∈ listA l, FOk g) ∧ (listA l).length ≤ 12 := by
  have := foldQ_ok (l.take 12) (out := []) (fun g h => nomatch h)
  exact ⟨this.1, by have h := this.2; rw [List.length_take] at h; simp only [List.length_nil] at h; unfold listA; omega⟩
theorem foldQ_take {l : List Quad} {i : Nat} {q : Quad} (h : l[i]? = some q) : (l.take (i + 1)).foldl addQ [] = addQ ((l.take i).foldl addQ []) q := by
  rw [take_succ h, List.foldl_append]; rfl
theorem listA_all {l : List Quad} {i : Nat} (h : i = l.length ∨ i = 12) (h2 : i ≤ 12) (h3 : i ≤ l.length) : (l.take i).foldl addQ [] = listA l := by
  unfold listA
  rcases h with rfl | rfl
  · rw [List.take_of_length_le (Nat.le_refl _), List.take_of_length_le h2]
  · rfl
/-! a row of facts that is read -/
theorem factsV_get : ∀ {l : List Fact} {k : Nat} {x : Fact}, l[k]? = some x → ∀ j u, x.v[j]? = some u → (factsV l)[k * 4 + j]? = some u
  | f :: r, 0, x, h, j, u, hu => by
    simp at h; subst h
    rw [show factsV (f :: r) = f.v ++ factsV r from rfl, Nat.zero_mul, Nat.zero_add, List.getElem?_append_left (List.getElem?_eq_some_iff.1 hu).1]; exact hu
  | f :: r, k + 1, x, h, j, u, hu => by
    rw [show factsV (f :: r) = f.v ++ factsV r from rfl, List.getElem?_append_right (by show 4 ≤ _; omega)]
    have := factsV_get (l := r) (k := k) (by simpa using h) j u hu
    rw [show (k + 1) * 4 + j - f.v.length = k * 4 + j from by show _ - 4 = _; omega]; exact this
theorem cAt_of {c : Array Value} : ∀ {vs : List Value} {o : Nat}, (∀ j u, vs[j]? = some u → c[o + j]? = some u) → cAt c o vs
  | [], _, _ => trivial
  | v :: r, o, h => by
    refine ⟨?_, cAt_of fun j u hj => ?_⟩
    · rw [lget_eq, Array.getElem?_toList]; exact h 0 v rfl
    · have := h (j + 1) u (by simpa using hj)
      rw [show o + 1 + j = o + (j + 1) by omega]; exact this
theorem Row.factAt {e : TypeId} {A : Option Addr} {c : Nat} {out : List Fact} {seg : Seg} (h : Row e 4 (.slice A out.length c) out.length (factsV out) seg) {k : Nat} {x : Fact} (hx : out[k]? = some x) : ∃ g cur, A = some ⟨g, 0, none⟩ ∧ seg = [(g, .cells cur e (0, 0))] ∧ cAt cur (0 + k * 4) x.v := by
  have hk := (List.getElem?_eq_some_iff.1 hx).1
  rcases h.2 with ⟨_, h, _⟩ | ⟨g, cap, cur, e1, rfl, h1, h2, h3, h4⟩
  · omega
  · injection e1 with e1 e2 e3
    subst e1 e3
    refine ⟨g, cur, rfl, rfl, cAt_of fun j u hu => ?_⟩
    have h5 := factsV_get hx j u hu
    have hj : j < 4 := (List.getElem?_eq_some_iff.1 hu).1
    rw [← h4, List.getElem?_take, if_pos (by omega), Array.getElem?_toList] at h5
    rw [Nat.zero_add]; exact h5
theorem look_at : ∀ {l : List Fact} {k : Key} {i : Nat} {x : Fact}, l[i]? = some x → x.key = k → (∀ j y, j < i → l[j]? = some y → y.key ≠ k) → look l k = some x.text
  | f :: r, k, 0, x, h, hk, _ => by simp at h; subst h; simp [look, hk]
  | f :: r, k, i + 1, x, h, hk, hn => by
    simp only [look]
    rw [if_neg (hn 0 f (by omega) rfl)]
    exact look_at (l := r) (by simpa using h) hk (fun j y hj hy => hn (j + 1) y (by omega) (by simpa using hy))
theorem any_take {out : List Fact} {k : Nat} {y : Fact} {key : Key} (h : out[k]? = some y) : ((out.take (k + 1)).any fun y => decide (y.key = key)) = (((out.take k).any fun y => decide (y.key = key)) || decide (y.key = key)) := by
  rw [take_succ h, List.any_append]; simp
end Go.Proofs.YteeamfkhkbfilaaGreat.K

namespace Go.Proofs.YteeamfkhkbfilaaGreat.K
open Go Go.RowKit Go.Proofs

theorem rst_Get {l : List Fact} (hl : LOk l) {k ba ad : Int} (hk : I64 k) (hba : I64 ba) (had : U16 ad) {w0 : World} {H : Hp} {own : List Seg} {gs : Nat} {fv nv bv cv : Value} (hA : rd H (.s 4 (factsD l)) fv) :
    Fn Tryz.prog 22 [.pointer (some ⟨gs, 0, none⟩), .int .i64 k, .agg #[.int .i64 ba, .int .u16 ad]] w0 H ([(gs, .cells #[fv, nv, bv, cv] 28 (0, 0))] :: own)
      (fun r own' H' => r = .tuple #[.string ((look l (k, ba, ad)).getD eS), .bool (look l (k, ba, ad)).isSome] ∧ own' = [(gs, .cells #[fv, nv, bv, cv] 28 (0, 0))] :: own ∧ Le H H') := by
  obtain ⟨A, c, rfl, hc1, hc2⟩ := facts_len hA
  refine Fn.enter Tryz.func22 rfl Tryz.ntmps22 rfl ?_; have hL := Le.refl H; refine TC.seq ?_; refine TC.region ?_
  refine TL.box (c := #[_, _]) rfl rfl rfl ?_; intro g5; refine TL.assign rfl rfl ?_; refine TL.assign rfl rfl ?_; refine TL.nil ?_; refine TQ.then_n ?_; refine TC.seq ?_; refine TC.seq ?_; refine TC.region ?_; refine TL.assign rfl rfl ?_; refine TL.nil ?_; refine TQ.then_n ?_; refine TC.block ?_; refine TC.loop (fun n env' own' H' => ∃ i, n = l.length - i ∧ i ≤ l.length ∧ (∀ j y, j < i → l[j]? = some y → y.key ≠ (k, ba, ad)) ∧ env' = [(0, .pointer (some ⟨gs, 0, none⟩)), (1, .int .i64 k), (5, .pointer (some ⟨g5, 0, none⟩)), (8, .int .i64 (i : Int))] ∧ own' = [(g5, .cells #[.int .i64 ba, .int .u16 ad] 58 (0, 0))] :: [(gs, .cells #[.slice A l.length c, nv, bv, cv] 28 (0, 0))] :: own ∧ Le H H') l.length [(0, _), (1, _), (5, _), (8, _)] ⟨rfl, rfl, rfl, rfl, trivial⟩ ⟨0, by omega, by omega, fun j y h => absurd h (by omega), rfl, rfl, Le.refl _⟩ ?_
  rintro n _ _ H1 ⟨i, rfl, hi1, hno, rfl, rfl, hle0⟩
  have hL := Le.trans hL hle0; have hA := rd.mono hle0 hA; refine TC.seq ?_; refine TC.seq ?_; refine TC.region ?_; refine TL.move rfl rfl ?_; refine TL.move rfl rfl ?_; refine TL.nilCheck rfl rfl ?_; refine TL.fieldAddr rfl rfl ?_; refine TL.load_own 1 0 rfl rfl rfl rfl rfl ?_; refine TL.len_slice rfl rfl ?_
  refine TL.lssB rfl rfl rfl (fun hlt => ?_) (fun hlt => ?_)
  ·
   obtain ⟨x, hx⟩ : ∃ x, l[i]? = some x := ⟨_, List.getElem?_eq_getElem (by omega)⟩
   obtain ⟨b1, o1, rfl, hpx⟩ := facts_at hA hx
   refine TL.nil ?_; refine TQ.then_n ?_; refine TC.cond_t rfl ?_; refine TC.skip ?_; refine TQ.then_n ?_; refine TC.seq ?_; refine TC.block ?_; refine TC.seq ?_
   rcases dsm : decide (x.key = (k, ba, ad)) with _ | _
   ·
    have hsm := of_decide_eq_false dsm; refine TC.drawQV 10  [(0, _), (1, _), (5, _), (8, _)] follows_mixed ⟨rfl, rfl, rfl, rfl, trivial⟩ ?_; refine ChainV.q (some 19) [] (fun _ _ _ _ hF => TL.move rfl rfl (TL.one hF)) ?_; refine ChainV.q (some 20) [(0, 0)] (fun _ _ _ _ hF => TL.nilCheck rfl rfl (TL.one hF)) ?_; refine ChainV.q (some 21) [(1, 0)] (fun _ _ _ _ hF => TL.fieldAddr rfl rfl (TL.one hF)) ?_
    refine ChainV.q (some 22) [(2, 0)] (by
     intro H' X F hle; have hL := Le.trans hL hle; intro hF; refine TL.load_own 1 0 rfl rfl rfl rfl rfl ?_
     exact TL.one hF) ?_
    refine ChainV.q (some 23) [] (fun _ _ _ _ hF => TL.move rfl rfl (TL.one hF)) ?_; refine ChainV.q (some 24) [(3, 1), (4, 0)] (fun _ _ _ _ hF => TL.indexAddr (i) rfl rfl rfl (by omega) rfl (TL.one hF)) ?_
    refine ChainV.q (some 25) [(5, 0)] (by
     intro H' X F hle; have hL := Le.trans hL hle; have hpx := hAt.mono hle hpx; intro hF; refine TL.load_immA rfl (hpx) rfl rfl ?_
     exact TL.one hF) ?_
    refine ChainV.q (some 26) [] (fun _ _ _ _ hF => TL.move rfl rfl (TL.one hF)) ?_
    refine ChainV.q (some 27) [] (by
     intro H' X F hle; have hL := Le.trans hL hle; intro hF; refine TL.load_ownA 0 0 [_, _] rfl rfl rfl ⟨rfl, rfl, trivial⟩ rfl rfl ?_
     exact TL.one hF) ?_
    refine ChainV.q (some 28) [(7, 1), (8, 0)] (by
     intro H' X F hle; have hL := Le.trans hL hle; intro hF; refine TL.struct [(0, [_]), (1, [_, _])] ⟨rfl, ⟨_, rfl, rfl⟩, rfl, ⟨_, rfl, rfl⟩, trivial⟩ rfl rfl ?_
     exact TL.one hF) ?_
    refine ⟨by kernel_rfl, .refl _, ?_⟩
    ·
     intro H1 hle; have hL := Le.trans hL hle; have hle0 := Le.trans hle0 hle; refine TL.toOwn (own' := _ :: _ :: own) rfl ?_; refine TL.wk (env' := [(0, _), (1, _), (5, _), (8, _), (25, _), (28, _)]) ⟨rfl, rfl, rfl, rfl, rfl, rfl, trivial⟩ ?_; refine TL.call (ref_same (g := ⟨k, ba, ad, eS⟩) (hl.fok x (List.mem_of_getElem? hx)) ⟨hk, hba, had, Nat.zero_le _⟩) ⟨rfl, rfl, trivial⟩ rfl ?_
     rintro _ _ H29 ⟨rfl, rfl, hle29⟩
     rw [show (Fact.key ⟨k, ba, ad, eS⟩) = (k, ba, ad) from rfl, dsm]
     have hL := Le.trans hL hle29; have hle0 := Le.trans hle0 hle29; refine TL.assign rfl rfl ?_; refine TL.nsr ?_; refine TL.move rfl rfl ?_; refine TL.nil ?_; refine TQ.then_n ?_; refine TC.cond_f rfl ?_; refine TC.skip ?_; refine TQ.in_n ?_; refine TQ.then_n ?_; refine TC.region ?_; refine TL.move rfl rfl ?_; refine TL.add rfl rfl rfl ⟨by omega, by omega⟩ ?_; refine TL.assign rfl rfl ?_; refine TL.nil ?_; refine TQ.toOwn (own' := _ :: _ :: own) rfl ?_
     refine TQ.next (l.length - (i + 1)) [(0, _), (1, _), (5, _), (8, _)] (by omega) ⟨rfl, rfl, rfl, rfl, trivial⟩ ⟨i + 1, rfl, by omega, fun j y hj hy => ?_, rfl, rfl, hle0⟩
     rcases Nat.lt_succ_iff_lt_or_eq.1 hj with hj | rfl
     · exact hno j y hj hy
     · rw [hx] at hy; cases hy; exact hsm
   ·
    have hsm := of_decide_eq_true dsm; refine TC.drawQV 10  [(0, _), (1, _), (5, _), (8, _)] follows_mixed ⟨rfl, rfl, rfl, rfl, trivial⟩ ?_; refine ChainV.q (some 19) [] (fun _ _ _ _ hF => TL.move rfl rfl (TL.one hF)) ?_; refine ChainV.q (some 20) [(0, 0)] (fun _ _ _ _ hF => TL.nilCheck rfl rfl (TL.one hF)) ?_; refine ChainV.q (some 21) [(1, 0)] (fun _ _ _ _ hF => TL.fieldAddr rfl rfl (TL.one hF)) ?_
    refine ChainV.q (some 22) [(2, 0)] (by
     intro H' X F hle; have hL := Le.trans hL hle; intro hF; refine TL.load_own 1 0 rfl rfl rfl rfl rfl ?_
     exact TL.one hF) ?_
    refine ChainV.q (some 23) [] (fun _ _ _ _ hF => TL.move rfl rfl (TL.one hF)) ?_; refine ChainV.q (some 24) [(3, 1), (4, 0)] (fun _ _ _ _ hF => TL.indexAddr (i) rfl rfl rfl (by omega) rfl (TL.one hF)) ?_
    refine ChainV.q (some 25) [(5, 0)] (by
     intro H' X F hle; have hL := Le.trans hL hle; have hpx := hAt.mono hle hpx; intro hF; refine TL.load_immA rfl (hpx) rfl rfl ?_
     exact TL.one hF) ?_
    refine ChainV.q (some 26) [] (fun _ _ _ _ hF => TL.move rfl rfl (TL.one hF)) ?_
    refine ChainV.q (some 27) [] (by
     intro H' X F hle; have hL := Le.trans hL hle; intro hF; refine TL.load_ownA 0 0 [_, _] rfl rfl rfl ⟨rfl, rfl, trivial⟩ rfl rfl ?_
     exact TL.one hF) ?_
    refine ChainV.q (some 28) [(7, 1), (8, 0)] (by
     intro H' X F hle; have hL := Le.trans hL hle; intro hF; refine TL.struct [(0, [_]), (1, [_, _])] ⟨rfl, ⟨_, rfl, rfl⟩, rfl, ⟨_, rfl, rfl⟩, trivial⟩ rfl rfl ?_
     exact TL.one hF) ?_
    refine ⟨by kernel_rfl, .refl _, ?_⟩
    ·
     intro H2 hle; have hL := Le.trans hL hle; have hpx := hAt.mono hle hpx; refine TL.toOwn (own' := _ :: _ :: own) rfl ?_; refine TL.wk (env' := [(0, _), (1, _), (5, _), (8, _), (25, _), (28, _)]) ⟨rfl, rfl, rfl, rfl, rfl, rfl, trivial⟩ ?_; refine TL.call (ref_same (g := ⟨k, ba, ad, eS⟩) (hl.fok x (List.mem_of_getElem? hx)) ⟨hk, hba, had, Nat.zero_le _⟩) ⟨rfl, rfl, trivial⟩ rfl ?_
     rintro _ _ H29 ⟨rfl, rfl, hle29⟩
     rw [show (Fact.key ⟨k, ba, ad, eS⟩) = (k, ba, ad) from rfl, dsm]
     have hL := Le.trans hL hle29; have hpx := hAt.mono hle29 hpx; refine TL.assign rfl rfl ?_; refine TL.nsr ?_; refine TL.move rfl rfl ?_; refine TL.nil ?_; refine TQ.then_n ?_; refine TC.cond_t rfl ?_; refine TC.seq ?_; refine TC.region ?_; refine TL.move rfl rfl ?_; refine TL.nilCheck rfl rfl ?_; refine TL.fieldAddr rfl rfl ?_; refine TL.load_own 1 0 rfl rfl rfl rfl rfl ?_; refine TL.move rfl rfl ?_; refine TL.indexAddr (i) rfl rfl rfl (by omega) rfl ?_; refine TL.fieldAddr rfl rfl ?_; refine TL.load_imm rfl (hpx.2.2.2.1) rfl ?_; refine TL.assign rfl rfl ?_; refine TL.assign rfl rfl ?_; refine TL.nil ?_; refine TQ.then_n ?_; refine TC.ret ?_; refine TQ.in_r ?_; refine TQ.then_r ?_; refine TQ.then_r ?_; refine TQ.in_r ?_; refine TQ.then_r ?_
     refine TQ.sel 2 [1] rfl (fun o ho => ?_)
     simp only [K.sel, List.map_cons, List.map_nil, List.getD_cons_zero, List.getD_cons_succ, List.drop_succ_cons, List.drop_zero, List.cons_append, List.nil_append, List.set_cons_zero, List.set_cons_succ] at ho; subst ho
     refine TQ.ret2 0 rfl rfl rfl ?_
     first
       | exact ⟨by rw [look_at hx hsm hno]; rfl, rfl, hL⟩
       | exact ⟨by rw [look_none (fun f hf => by obtain ⟨j, hj⟩ := List.getElem?_of_mem hf; exact hno j f (by have := (List.getElem?_eq_some_iff.1 hj).1; omega) hj)]; rfl, rfl, hL⟩
  ·
   refine TL.nil ?_; refine TQ.then_n ?_; refine TC.cond_f rfl ?_; refine TC.exit ?_; refine TQ.then_e ?_; refine TQ.then_e ?_; refine TQ.in_e ?_; refine TQ.nsr ?_; refine TL.assign rfl rfl ?_; refine TL.assign rfl rfl ?_; refine TL.nil ?_; refine TQ.then_n ?_; refine TC.ret ?_
   refine TQ.sel 2 [1] rfl (fun o ho => ?_)
   simp only [K.sel, List.map_cons, List.map_nil, List.getD_cons_zero, List.getD_cons_succ, List.drop_succ_cons, List.drop_zero, List.cons_append, List.nil_append, List.set_cons_zero, List.set_cons_succ] at ho; subst ho
   refine TQ.ret2 0 rfl rfl rfl ?_
   first
     | exact ⟨by rw [look_at hx hsm hno]; rfl, rfl, hL⟩
     | exact ⟨by rw [look_none (fun f hf => by obtain ⟨j, hj⟩ := List.getElem?_of_mem hf; exact hno j f (by have := (List.getElem?_eq_some_iff.1 hj).1; omega) hj)]; rfl, rfl, hL⟩
theorem mod_eq {n m : Int} (hm : 0 < m) : ((n.tmod m + m).tmod m) = n % m := by
  have h1 := Int.emod_nonneg n (by omega : m ≠ 0)
  have h2 := Int.emod_lt_of_pos n hm; have h3 := Int.tmod_lt_of_pos n hm
  have h4 : -m < n.tmod m := by
    have := Int.lt_tmod_of_pos n hm
    omega
  have h5 : (n.tmod m + m) % m = n % m := by
    rw [Int.add_emod_right]
    rw [Int.tmod_eq_emod]
    split
    · simp
    · rename_i hh
      have : ((m.natAbs : Int)) = m := by omega
      rw [this, Int.sub_emod_right]
      simp
  rw [Int.tmod_eq_emod_of_nonneg (by omega), h5]
theorem ref13_Mod {n m : Int} (hn : I64 n) (hm : 0 < m) (hm2 : m ≤ 1099511627776) {w0 : World} {H : Hp} {own : List Seg} :
    Fn Tryz.prog 38 [.int .i64 n, .int .i64 m] w0 H own (fun r own' H' => r = .int .i64 (n % m) ∧ own' = own ∧ Le H H') := by
  have b1 := Int.tmod_lt_of_pos n hm
  have b2 : -m < n.tmod m := by
    have := Int.lt_tmod_of_pos n hm
    omega
  refine Fn.enter Tryz.func38 rfl Tryz.ntmps38 rfl ?_; have hL := Le.refl H; refine TC.seq ?_; refine TC.region ?_; refine TL.assign rfl rfl ?_; refine TL.nsr ?_; refine TL.move rfl rfl ?_; refine TL.move rfl rfl ?_; refine TL.rem rfl rfl rfl (by omega) ?_; refine TL.move rfl rfl ?_; refine TL.add rfl rfl rfl ⟨by omega, by omega⟩ ?_; refine TL.move rfl rfl ?_; refine TL.rem rfl rfl rfl (by omega) ?_; refine TL.assign rfl rfl ?_; refine TL.nil ?_; refine TQ.then_n ?_; refine TC.ret ?_; refine TQ.ret1 0 rfl rfl ?_
  exact ⟨by rw [mod_eq hm], rfl, hL⟩
theorem ref_Mod {n m : Int} (hn : I64 n) (hm : 0 < m) (hm2 : m ≤ 1099511627776) {w0 : World} {H : Hp} {own : List Seg} :
    Fn Tryz.prog 16 [.int .i64 n, .int .i64 m] w0 H own (fun r own' H' => r = .int .i64 (n % m) ∧ own' = own ∧ Le H H') := by
  refine Fn.enter Tryz.func16 rfl Tryz.ntmps16 rfl ?_; have hL := Le.refl H; refine TC.seq ?_; refine TC.region ?_; refine TL.assign rfl rfl ?_; refine TL.nsr ?_; refine TL.move rfl rfl ?_; refine TL.move rfl rfl ?_; refine TL.call (ref13_Mod hn hm hm2) ⟨rfl, rfl, trivial⟩ rfl ?_
  rintro _ _ H7 ⟨rfl, rfl, hle7⟩
  have hL := Le.trans hL hle7; refine TL.assign rfl rfl ?_; refine TL.nil ?_; refine TQ.then_n ?_; refine TC.ret ?_; refine TQ.ret1 0 rfl rfl ?_
  exact ⟨rfl, rfl, hL⟩
theorem ref_Digits (k : Nat) (hk18 : k ≤ 18) : ∀ {n : Int} (h0 : 0 ≤ n) (hk : n < 10 ^ (k + 1)) (h63 : n ≤ 1000000000000000000) {w0 : World} {H : Hp} {own : List Seg},
    Fn Tryz.prog 46 [.int .i64 n] w0 H own (fun r own' H' => r = .string (digF (k + 1) n) ∧ own' = own ∧ Le H H') := by
  induction k with
  | zero =>
    intro n h0 hk h63 w0 H own
    rw [Int.pow_succ, Int.pow_zero] at hk
    refine Fn.enter Tryz.func46 rfl Tryz.ntmps46 rfl ?_; have hL := Le.refl H; refine TC.seq ?_; refine TC.region ?_; refine TL.assign rfl rfl ?_; refine TL.nsr ?_; refine TL.move rfl rfl ?_; refine TL.rem rfl rfl rfl (by omega) ?_
    rw [show n.tmod 10 = n % 10 from Int.tmod_eq_emod_of_nonneg h0]
    refine TL.add rfl rfl rfl ⟨by omega, by omega⟩ ?_; refine TL.convI rfl rfl ?_
    refine TL.litF (r := [_]) [(0, [_])] ⟨rfl, ⟨_, rfl, rfl⟩, trivial⟩ rfl rfl rfl rfl ?_; intro g8; refine TL.convBS 0 0 [b8 (48 + n % 10)] rfl rfl rfl rfl ⟨congrArg some (b8_val _).symm, trivial⟩ rfl ?_; refine TL.assign rfl rfl ?_; refine TL.nil ?_; refine TQ.then_n ?_; refine TC.seq ?_; refine TC.seq ?_; refine TC.region ?_; refine TL.move rfl rfl ?_
    refine TL.lssB rfl rfl rfl (fun h10 => ?_) (fun h10 => ?_)
    ·
     refine TL.nil ?_; refine TQ.then_n ?_; refine TC.cond_t rfl ?_; refine TC.seq ?_; refine TC.region ?_; refine TL.move rfl rfl ?_; refine TL.assign rfl rfl ?_; refine TL.nil ?_; refine TQ.then_n ?_; refine TC.ret ?_; refine TQ.then_r ?_; refine TQ.ret1 1 rfl rfl ?_
     first
       | exact ⟨by show _ = Value.string (if _ then _ else _); rw [if_pos h10], rfl, hL⟩
       | exact ⟨by show _ = Value.string (if _ then _ else _); rw [if_neg (by omega)], rfl, hL⟩
    ·
     exact absurd hk (by omega) -- dead
  | succ k ih =>
    intro n h0 hk h63 w0 H own
    have hds := digF_size (k + 1) (n / 10)
    have hk2 : n / 10 < 10 ^ (k + 1) := by rw [Int.pow_succ] at hk; omega
    refine Fn.enter Tryz.func46 rfl Tryz.ntmps46 rfl ?_; have hL := Le.refl H; refine TC.seq ?_; refine TC.region ?_; refine TL.assign rfl rfl ?_; refine TL.nsr ?_; refine TL.move rfl rfl ?_; refine TL.rem rfl rfl rfl (by omega) ?_
    rw [show n.tmod 10 = n % 10 from Int.tmod_eq_emod_of_nonneg h0]
    refine TL.add rfl rfl rfl ⟨by omega, by omega⟩ ?_; refine TL.convI rfl rfl ?_
    refine TL.litF (r := [_]) [(0, [_])] ⟨rfl, ⟨_, rfl, rfl⟩, trivial⟩ rfl rfl rfl rfl ?_; intro g8; refine TL.convBS 0 0 [b8 (48 + n % 10)] rfl rfl rfl rfl ⟨congrArg some (b8_val _).symm, trivial⟩ rfl ?_; refine TL.assign rfl rfl ?_; refine TL.nil ?_; refine TQ.then_n ?_; refine TC.seq ?_; refine TC.seq ?_; refine TC.region ?_; refine TL.move rfl rfl ?_
    refine TL.lssB rfl rfl rfl (fun h10 => ?_) (fun h10 => ?_)
    ·
     refine TL.nil ?_; refine TQ.then_n ?_; refine TC.cond_t rfl ?_; refine TC.seq ?_; refine TC.region ?_; refine TL.move rfl rfl ?_; refine TL.assign rfl rfl ?_; refine TL.nil ?_; refine TQ.then_n ?_; refine TC.ret ?_; refine TQ.then_r ?_; refine TQ.ret1 1 rfl rfl ?_
     first
       | exact ⟨by show _ = Value.string (if _ then _ else _); rw [if_pos h10], rfl, hL⟩
       | exact ⟨by show _ = Value.string (if _ then _ else _); rw [if_neg (by omega)], rfl, hL⟩
    ·
     refine TL.nil ?_; refine TQ.then_n ?_; refine TC.cond_f rfl ?_; refine TC.skip ?_; refine TQ.nsr ?_; refine TL.move rfl rfl ?_; refine TL.quo rfl rfl rfl (by omega) ?_
     rw [show IntKind.i64.wrap (n.tdiv 10) = n / 10 by rw [Int.tdiv_eq_ediv_of_nonneg h0, wrap_i64 ⟨by omega, by omega⟩]]
     refine TL.call (ih (by omega) (by omega) hk2 (by omega)) ⟨rfl, trivial⟩ rfl ?_
     rintro _ _ H15 ⟨rfl, rfl, hle15⟩
     have hL := Le.trans hL hle15; refine TL.move rfl rfl ?_; refine TL.addS rfl rfl rfl (by show _ + 1 ≤ _; omega) ?_
     refine TL.assign rfl rfl ?_; refine TL.nil ?_; refine TQ.then_n ?_; refine TC.ret ?_; refine TQ.ret1 1 rfl rfl ?_
     first
       | exact ⟨by show _ = Value.string (if _ then _ else _); rw [if_pos h10], rfl, hL⟩
       | exact ⟨by show _ = Value.string (if _ then _ else _); rw [if_neg (by omega)], rfl, hL⟩
theorem ref_Made {q : Quad} (hq : QOk q) {w0 : World} {H : Hp} {own : List Seg} :
    Fn Tryz.prog 21 [.agg #[.int .i64 q.1, .int .i64 q.2.1, .int .i64 q.2.2.1, .int .i64 q.2.2.2]] w0 H own (fun r own' H' => r = .agg #[.int .i64 (made q).kind, .int .i64 (made q).bank, .int .u16 (made q).addr, .string (made q).text] ∧ own' = own ∧ Le H H') := by
  have hn1 := nm8_size (q.2.2.2 % 8).toNat
  have hd1 : (digF (2 + 1) (q.2.2.2 % 1000)).size ≤ 3 := digF_size 3 (q.2.2.2 % 1000)
  refine Fn.enter Tryz.func21 rfl Tryz.ntmps21 rfl ?_; have hL := Le.refl H; refine TC.seq ?_; refine TC.region ?_
  refine TL.box (c := #[_, _, _, _]) rfl rfl rfl ?_; intro g1
  refine TL.new rfl ?_; intro g2; refine TL.nil ?_; refine TQ.then_n ?_; refine TC.seq ?_; refine TC.drawQV 16  [(0, _), (1, _), (2, _)] follows_mixed ⟨rfl, rfl, rfl, trivial⟩ ?_
  refine ChainV.q (some 4) [] (by
   intro H' X F hle; intro hF; refine TL.indexArr (0) rfl rfl rfl (by omega) rfl ?_
   exact TL.one hF) ?_
  refine ChainV.q (some 5) [(0, 0)] (by
   intro H' X F hle; have hL := Le.trans hL hle; intro hF; refine TL.load_own 1 0 rfl rfl rfl rfl rfl ?_
   exact TL.one hF) ?_
  refine ChainV.q (some 6) [(1, 0)] (by
   intro H' X F hle; have hL := Le.trans hL hle; intro hF; refine TL.call (ref_Mod hq.a (by omega) (by omega)) ⟨rfl, rfl, trivial⟩ rfl ?_
   rintro _ _ H6 ⟨rfl, rfl, hle6⟩
   have hL := Le.trans hL hle6; refine TL.nil ?_
   exact TQ.one [] hF hle6 ⟨rfl, rfl⟩) ?_
  refine ChainV.q (some 7) [(2, 0)] (fun _ _ _ _ hF => TL.add rfl rfl rfl ⟨by omega, by omega⟩ (TL.one hF)) ?_
  refine ChainV.q (some 8) [] (by
   intro H' X F hle; intro hF; refine TL.indexArr (1) rfl rfl rfl (by omega) rfl ?_
   exact TL.one hF) ?_
  refine ChainV.q (some 9) [(4, 0)] (by
   intro H' X F hle; have hL := Le.trans hL hle; intro hF; refine TL.load_own 1 0 rfl rfl rfl rfl rfl ?_
   exact TL.one hF) ?_
  refine ChainV.q (some 10) [(5, 0)] (by
   intro H' X F hle; have hL := Le.trans hL hle; intro hF; refine TL.call (ref_Mod hq.b (by omega) (by omega)) ⟨rfl, rfl, trivial⟩ rfl ?_
   rintro _ _ H10 ⟨rfl, rfl, hle10⟩
   have hL := Le.trans hL hle10; refine TL.nil ?_
   exact TQ.one [] hF hle10 ⟨rfl, rfl⟩) ?_
  refine ChainV.q (some 11) [(6, 0)] (fun _ _ _ _ hF => TL.sub rfl rfl rfl ⟨by omega, by omega⟩ (TL.one hF)) ?_
  refine ChainV.q (some 12) [] (by
   intro H' X F hle; intro hF; refine TL.indexArr (2) rfl rfl rfl (by omega) rfl ?_
   exact TL.one hF) ?_
  refine ChainV.q (some 13) [(8, 0)] (by
   intro H' X F hle; have hL := Le.trans hL hle; intro hF; refine TL.load_own 1 0 rfl rfl rfl rfl rfl ?_
   exact TL.one hF) ?_
  refine ChainV.q (some 14) [(9, 0)] (by
   intro H' X F hle; have hL := Le.trans hL hle; intro hF; refine TL.call (ref_Mod hq.c (by omega) (by omega)) ⟨rfl, rfl, trivial⟩ rfl ?_
   rintro _ _ H14 ⟨rfl, rfl, hle14⟩
   have hL := Le.trans hL hle14; refine TL.nil ?_
   exact TQ.one [] hF hle14 ⟨rfl, rfl⟩) ?_
  refine ChainV.q (some 15) [(10, 0)] (by
   intro H' X F hle; intro hF; refine TL.mul rfl rfl rfl ⟨by omega, by omega⟩ ?_
   exact TL.one hF) ?_
  refine ChainV.q (some 16) [(11, 0)] (by
   intro H' X F hle; have hL := Le.trans hL hle; intro hF; refine TL.convI rfl rfl ?_
   rw [wrap_u16, show (q.2.2.1 % 12 * 300) % 65536 = q.2.2.1 % 12 * 300 by omega]
   exact TL.one hF) ?_
  refine ChainV.q (some 17) [(7, 5), (12, 0)] (by
   intro H' X F hle; have hL := Le.trans hL hle; intro hF; refine TL.struct [(0, [_]), (1, [_])] ⟨rfl, ⟨_, rfl, rfl⟩, rfl, ⟨_, rfl, rfl⟩, trivial⟩ rfl rfl ?_
   exact TL.one hF) ?_
  refine ChainV.q (some 18) [(3, 10), (13, 0)] (by
   intro H' X F hle; have hL := Le.trans hL hle; intro hF; refine TL.struct [(0, [_]), (1, [_, _])] ⟨rfl, ⟨_, rfl, rfl⟩, rfl, ⟨_, rfl, rfl⟩, trivial⟩ rfl rfl ?_
   exact TL.one hF) ?_
  refine ChainV.r (some 3) [] ([]) (fun _ => fun r s H => ∃ g, r = .pointer (some ⟨g, 0, none⟩) ∧ s = [[(g, .cells #[.int .i64 0, .int .i64 0, .int .u16 0, .string ⟨#[]⟩] 60 (0, 0))]]) (by
   intro H' X F hle; have hL := Le.trans hL hle; intro hF
   refine TL.new rfl ?_; intro g3; refine TL.nil ?_
   exact TQ.one [_] hF (Le.refl _) ⟨_, rfl, rfl⟩) ?_
  refine ⟨by kernel_rfl, .refl _, ?_⟩
  ·
   intro H1 hle
   rintro _ _ Hr hler ⟨g3, rfl, rfl⟩
   have hL := Le.trans hL hle; refine TL.toOwn (own' := _ :: _ :: _ :: own) rfl ?_; refine TL.wk (env' := [(0, _), (1, _), (2, _), (18, _), (3, _)]) ⟨rfl, rfl, rfl, rfl, rfl, trivial⟩ ?_; refine TL.storeA 0 0 (c' := #[_, _, _, _]) (own' := [(_, .cells #[_, _, _, _] _ _)] :: _) rfl rfl rfl rfl rfl ⟨rfl, rfl, rfl, rfl, trivial⟩ (by simp [putC]) rfl rfl rfl ?_; refine TL.nsr ?_
   refine TL.litF (r := [_, _, _, _, _, _, _, _]) [(0, [_]), (1, [_]), (2, [_]), (3, [_]), (4, [_]), (5, [_]), (6, [_]), (7, [_])] ⟨rfl, ⟨_, rfl, rfl⟩, rfl, ⟨_, rfl, rfl⟩, rfl, ⟨_, rfl, rfl⟩, rfl, ⟨_, rfl, rfl⟩, rfl, ⟨_, rfl, rfl⟩, rfl, ⟨_, rfl, rfl⟩, rfl, ⟨_, rfl, rfl⟩, rfl, ⟨_, rfl, rfl⟩, trivial⟩ rfl rfl rfl rfl ?_; intro g19; refine TL.indexArr (3) rfl rfl rfl (by omega) rfl ?_; refine TL.load_own 3 0 rfl rfl rfl rfl rfl ?_; refine TL.call (ref_Mod hq.d (by omega) (by omega)) ⟨rfl, rfl, trivial⟩ rfl ?_
   rintro _ _ H22 ⟨rfl, rfl, hle22⟩
   have hL := Le.trans hL hle22; refine TL.indexAddr ((q.2.2.2 % 8).toNat) rfl rfl (by omega) (by omega) rfl ?_; refine TL.load_own 0 0 rfl rfl rfl (nm8_at (by omega)) rfl ?_; refine TL.fieldAddr rfl rfl ?_; refine TL.store1 1 0 (c' := #[_, _, _, _]) (own' := _ :: [(_, .cells #[_, _, _, _] _ _)] :: _) rfl rfl rfl rfl rfl (by simp) rfl rfl rfl ?_; refine TL.nil ?_; refine TQ.then_n ?_; refine TC.seq ?_; refine TC.seq ?_; refine TC.region ?_; refine TL.fieldAddr rfl rfl ?_; refine TL.load_own 1 0 rfl rfl rfl rfl rfl ?_
   refine TL.neqB rfl rfl rfl (fun hk => ?_) (fun hk => ?_)
   ·
    refine TL.move rfl rfl ?_; refine TL.gyes rfl rfl rfl ?_; refine TL.fieldAddr rfl rfl ?_; refine TL.gyes rfl rfl rfl ?_; refine TL.load_own 1 0 rfl rfl rfl rfl rfl ?_; refine TL.gyes rfl rfl rfl ?_
    refine TL.neqSB rfl rfl rfl (fun hs => ?_) (fun hs => ?_)
    ·
     refine TL.pickT rfl rfl rfl rfl ?_; refine TL.nil ?_; refine TQ.then_n ?_; refine TC.cond_t rfl ?_; refine TC.drawQV 7  [(0, _), (1, _), (2, _), (3, _)] follows_mixed ⟨rfl, rfl, rfl, rfl, trivial⟩ ?_; refine ChainV.q (some 34) [] (fun _ _ _ _ hF => TL.fieldAddr rfl rfl (TL.one hF)) ?_
     refine ChainV.q (some 35) [(0, 0)] (by
      intro H' X F hle; have hL := Le.trans hL hle; intro hF; refine TL.load_own 1 0 rfl rfl rfl rfl rfl ?_
      exact TL.one hF) ?_
     refine ChainV.q (some 36) [(1, 0)] (by
      intro H' X F hle; have hL := Le.trans hL hle; intro hF; refine TL.addS rfl rfl rfl (by show _ + 6 ≤ _; omega) ?_
      exact TL.one hF) ?_
     refine ChainV.q (some 37) [] (by
      intro H' X F hle; intro hF; refine TL.indexArr (3) rfl rfl rfl (by omega) rfl ?_
      exact TL.one hF) ?_
     refine ChainV.q (some 38) [(3, 0)] (by
      intro H' X F hle; have hL := Le.trans hL hle; intro hF; refine TL.load_own 3 0 rfl rfl rfl rfl rfl ?_
      exact TL.one hF) ?_
     refine ChainV.q (some 39) [(4, 0)] (by
      intro H' X F hle; have hL := Le.trans hL hle; intro hF; refine TL.call (ref_Mod hq.d (by omega) (by omega)) ⟨rfl, rfl, trivial⟩ rfl ?_
      rintro _ _ H39 ⟨rfl, rfl, hle39⟩
      have hL := Le.trans hL hle39; refine TL.nil ?_
      exact TQ.one [] hF hle39 ⟨rfl, rfl⟩) ?_
     refine ChainV.q (some 40) [(5, 0)] (by
      intro H' X F hle; have hL := Le.trans hL hle; intro hF; refine TL.call (ref_Digits 2 (n := q.2.2.2 % 1000) (by omega) (by omega) (by omega) (by omega)) ⟨rfl, trivial⟩ rfl ?_
      rintro _ _ H40 ⟨rfl, rfl, hle40⟩
      have hL := Le.trans hL hle40; refine TL.nil ?_
      exact TQ.one [] hF hle40 ⟨rfl, rfl⟩) ?_
     refine ⟨by kernel_rfl, .refl _, ?_⟩
     ·
      intro H2 hle; have hL := Le.trans hL hle; refine TL.toOwn (own' := _ :: _ :: _ :: _ :: own) rfl ?_; refine TL.wk (env' := [(0, _), (1, _), (2, _), (3, _), (36, _), (40, _)]) ⟨rfl, rfl, rfl, rfl, rfl, rfl, trivial⟩ ?_; refine TL.addS rfl rfl rfl (by rw [ByteArray.size_append]; show _ + 6 + _ ≤ _; omega) ?_
      refine TL.fieldAddr rfl rfl ?_; refine TL.store1 1 0 (c' := #[_, _, _, _]) (own' := _ :: [(_, .cells #[_, _, _, _] _ _)] :: _) rfl rfl rfl rfl rfl (by simp) rfl rfl rfl ?_; refine TL.nsr ?_; refine TL.load_ownA 1 0 [_, _, _, _] rfl rfl rfl ⟨rfl, rfl, rfl, rfl, trivial⟩ rfl rfl ?_; refine TL.storeA 2 0 (c' := #[_, _, _, _]) (own' := _ :: _ :: [(_, .cells #[_, _, _, _] _ _)] :: _) rfl rfl rfl rfl rfl ⟨rfl, rfl, rfl, rfl, trivial⟩ (by simp) rfl rfl rfl ?_; refine TL.nil ?_; refine TQ.then_n ?_; refine TC.ret ?_; refine TQ.retC 2 0 4 [_, _, _, _] rfl rfl rfl rfl ⟨rfl, rfl, rfl, rfl, trivial⟩ rfl rfl ?_
      refine ⟨?_, rfl, hL⟩
      first
        | (rw [made_t1 hk hs]; rfl)
        | (rw [made_t2 hk]; rfl)
        | (rw [made_t3 hs]; rfl)
    ·
     refine TL.pickT rfl rfl rfl rfl ?_; refine TL.nil ?_; refine TQ.then_n ?_; refine TC.cond_f rfl ?_; refine TC.skip ?_; refine TQ.nsr ?_; refine TL.load_ownA 1 0 [_, _, _, _] rfl rfl rfl ⟨rfl, rfl, rfl, rfl, trivial⟩ rfl rfl ?_; refine TL.storeA 2 0 (c' := #[_, _, _, _]) (own' := _ :: _ :: [(_, .cells #[_, _, _, _] _ _)] :: _) rfl rfl rfl rfl rfl ⟨rfl, rfl, rfl, rfl, trivial⟩ (by simp) rfl rfl rfl ?_; refine TL.nil ?_; refine TQ.then_n ?_; refine TC.ret ?_; refine TQ.retC 2 0 4 [_, _, _, _] rfl rfl rfl rfl ⟨rfl, rfl, rfl, rfl, trivial⟩ rfl rfl ?_
     refine ⟨?_, rfl, hL⟩
     first
       | (rw [made_t1 hk hs]; rfl)
       | (rw [made_t2 hk]; rfl)
       | (rw [made_t3 hs]; rfl)
   ·
    refine TL.move rfl rfl ?_; refine TL.gno rfl rfl rfl rfl ?_; refine TL.gno rfl rfl rfl rfl ?_; refine TL.gno rfl rfl rfl rfl ?_; refine TL.pickF rfl rfl rfl rfl ?_; refine TL.nil ?_; refine TQ.then_n ?_; refine TC.cond_f rfl ?_; refine TC.skip ?_; refine TQ.nsr ?_; refine TL.load_ownA 1 0 [_, _, _, _] rfl rfl rfl ⟨rfl, rfl, rfl, rfl, trivial⟩ rfl rfl ?_; refine TL.storeA 2 0 (c' := #[_, _, _, _]) (own' := _ :: _ :: [(_, .cells #[_, _, _, _] _ _)] :: _) rfl rfl rfl rfl rfl ⟨rfl, rfl, rfl, rfl, trivial⟩ (by simp) rfl rfl rfl ?_; refine TL.nil ?_; refine TQ.then_n ?_; refine TC.ret ?_; refine TQ.retC 2 0 4 [_, _, _, _] rfl rfl rfl rfl ⟨rfl, rfl, rfl, rfl, trivial⟩ rfl rfl ?_
    refine ⟨?_, rfl, hL⟩
    first
      | (rw [made_t1 hk hs]; rfl)
      | (rw [made_t2 hk]; rfl)
      | (rw [made_t3 hs]; rfl)


end Go.Proofs.YteeamfkhkbfilaaGreat.K

namespace Go.Proofs.YteeamfkhkbfilaaGreat.K
open Go Go.RowKit Go.Proofs

theorem ref_List {l : List Quad} (hq : ∀ q ∈ l, QOk q) {u : Bool} {w0 : World} {H : Hp} {own : List Seg} {v : Value} (hA : rd H (.s 4 (quadsD l)) v) :
    Fn Tryz.prog 32 [.agg #[.bool u, v]] w0 H own (fun r own' H' => rd H' (.s 4 (factsD (listA l))) r ∧ own' = own ∧ Le H H') := by
  obtain ⟨A, c, rfl, hc1, hc2⟩ := elems_len (by omega) quadD_len hA
  refine Fn.enter Tryz.func32 rfl Tryz.ntmps32 rfl ?_; have hL := Le.refl H; refine TC.seq ?_; refine TC.region ?_
  refine TL.box (c := #[_, _]) rfl rfl rfl ?_; intro g1; refine TL.assign rfl rfl ?_; refine TL.nsr ?_; refine TL.assign rfl rfl ?_; refine TL.nil ?_; refine TQ.then_n ?_; refine TC.seq ?_; refine TC.seq ?_; refine TC.nilseg ?_; refine TC.region ?_; refine TL.assign rfl rfl ?_; refine TL.nil ?_; refine TQ.then_n ?_; refine TC.block ?_; refine TC.loop (fun n env' own' H' => ∃ i v seg, n = l.length - i ∧ i ≤ l.length ∧ i ≤ 12 ∧ Row 60 4 v ((l.take i).foldl addQ []).length (factsV ((l.take i).foldl addQ [])) seg ∧ env' = [(1, .pointer (some ⟨g1, 0, none⟩)), (3, v), (4, .int .i64 (i : Int))] ∧ own' = seg :: [(g1, .cells #[.bool u, .slice A l.length c] 85 (0, 0))] :: own ∧ Le H H') l.length [(1, _), (3, _), (4, _)] ⟨rfl, rfl, rfl, trivial⟩ ⟨0, _, [], by omega, by omega, by omega, Row.nil _ 4, rfl, rfl, Le.refl _⟩ ?_
  rintro n _ _ H1 ⟨i, v, row, rfl, hi1, hi12, hrow, rfl, rfl, hle0⟩
  obtain ⟨out, hout⟩ : ∃ out, out = ((l.take i).foldl addQ []) := ⟨_, rfl⟩
  rw [← hout] at hrow
  obtain ⟨hok, hol⟩ := foldQ_ok (l.take i) (out := []) (fun g h => nomatch h)
  rw [← hout] at hok hol
  rw [List.length_take] at hol
  simp only [List.length_nil] at hol
  have hL := Le.trans hL hle0; have hA := rd.mono hle0 hA; refine TC.seq ?_; refine TC.seq ?_; refine TC.region ?_; refine TL.move rfl rfl ?_; refine TL.fieldAddr rfl rfl ?_; refine TL.load_own 1 0 rfl rfl rfl rfl rfl ?_; refine TL.len_slice rfl rfl ?_
  refine TL.lssB rfl rfl rfl (fun hlt => ?_) (fun hlt => ?_)
  ·
   obtain ⟨q, hx⟩ : ∃ q, l[i]? = some q := ⟨_, List.getElem?_eq_getElem (by omega)⟩
   have hq1 := hq q (List.mem_of_getElem? hx)
   obtain ⟨b1, o1, rfl, hpx⟩ := quads_at hA hx
   refine TL.move rfl rfl ?_; refine TL.gyes rfl rfl rfl ?_; refine TL.move rfl rfl ?_; refine TL.gyes rfl rfl rfl ?_
   refine TL.lssB rfl rfl rfl (fun hlt2 => ?_) (fun hlt2 => ?_)
   ·
    refine TL.pickT rfl rfl rfl rfl ?_; refine TL.nil ?_; refine TQ.then_n ?_; refine TC.cond_t rfl ?_; refine TC.skip ?_; refine TQ.then_n ?_; refine TC.seq ?_; refine TC.block ?_; refine TC.seq ?_; refine TC.region ?_; refine TL.fieldAddr rfl rfl ?_; refine TL.load_own 1 0 rfl rfl rfl rfl rfl ?_; refine TL.move rfl rfl ?_; refine TL.indexAddr (i) rfl rfl rfl (by omega) rfl ?_; refine TL.load_immA rfl (hpx) rfl rfl ?_; refine TL.call (ref_Made hq1) ⟨rfl, trivial⟩ rfl ?_
    rintro _ _ H25 ⟨rfl, rfl, hle25⟩
    obtain ⟨f, hf⟩ : ∃ f, f = made q := ⟨_, rfl⟩
    rw [← hf]
    have hL := Le.trans hL hle25; have hle0 := Le.trans hle0 hle25
    refine TL.new rfl ?_; intro g5; refine TL.storeA 0 0 (c' := #[_, _, _, _]) (own' := [(_, .cells #[_, _, _, _] _ _)] :: _) rfl rfl rfl rfl rfl ⟨rfl, rfl, rfl, rfl, trivial⟩ (by simp) rfl rfl rfl ?_; refine TL.nil ?_; refine TQ.then_n ?_; refine TC.seq ?_
    refine TC.sel 3 [1, 0, 2] rfl (fun o ho => ?_)
    simp only [K.sel, List.map_cons, List.map_nil, List.getD_cons_zero, List.getD_cons_succ, List.drop_succ_cons, List.drop_zero, List.cons_append, List.nil_append, List.set_cons_zero, List.set_cons_succ] at ho; subst ho
    refine TC.region ?_; refine TL.assign rfl rfl ?_; refine TL.nil ?_; refine TQ.then_n ?_; refine TC.seq ?_; refine TC.seq ?_
    obtain ⟨Ar, cr, rfl, hr1, hr2⟩ := hrow.sl
    have hfo : FOk f := hf ▸ made_ok q
    refine TC.region ?_; refine TL.assign rfl rfl ?_; refine TL.nil ?_; refine TQ.then_n ?_; refine TC.block ?_; refine TC.loop (fun n env' own' H' => ∃ k tw, n = out.length - k ∧ k ≤ out.length ∧ tw = ((out.take k).any fun y => decide (y.key = f.key)) ∧ env' = [(1, .pointer (some ⟨g1, 0, none⟩)), (3, .slice Ar out.length cr), (4, .int .i64 (i : Int)), (5, .pointer (some ⟨g5, 0, none⟩)), (6, .bool tw), (7, .int .i64 (k : Int))] ∧ own' = row :: [(g5, .cells #[.int .i64 f.kind, .int .i64 f.bank, .int .u16 f.addr, .string f.text] 60 (0, 0))] :: [(g1, .cells #[.bool u, .slice (some ⟨b1, o1, none⟩) l.length c] 85 (0, 0))] :: own ∧ Le H25 H') out.length [(1, _), (3, _), (4, _), (5, _), (6, _), (7, _)] ⟨rfl, rfl, rfl, rfl, rfl, rfl, trivial⟩ ⟨0, _, by omega, by omega, rfl, rfl, rfl, Le.refl _⟩ ?_
    rintro n _ _ H2 ⟨k, tw, rfl, hk1, htw, rfl, rfl, hle1⟩
    have hL := Le.trans hL hle1; have hle0 := Le.trans hle0 hle1; refine TC.seq ?_; refine TC.seq ?_; refine TC.region ?_; refine TL.move rfl rfl ?_; refine TL.move rfl rfl ?_; refine TL.len_slice rfl rfl ?_
    refine TL.lssB rfl rfl rfl (fun hlt3 => ?_) (fun hlt3 => ?_)
    ·
     obtain ⟨y, hy⟩ : ∃ y, out[k]? = some y := ⟨_, List.getElem?_eq_getElem (by omega)⟩
     obtain ⟨gr, curr, rfl, rfl, hcr⟩ := hrow.factAt hy
     refine TL.nil ?_; refine TQ.then_n ?_; refine TC.cond_t rfl ?_; refine TC.skip ?_; refine TQ.then_n ?_; refine TC.seq ?_; refine TC.block ?_; refine TC.seq ?_
     rcases dsm : decide (y.key = f.key) with _ | _ <;> rcases tw with _ | _
     ·
      refine TC.drawQV 5  [(1, _), (3, _), (4, _), (5, _), (6, _), (7, _)] follows_mixed ⟨rfl, rfl, rfl, rfl, rfl, rfl, trivial⟩ ?_; refine ChainV.q (some 32) [] (fun _ _ _ _ hF => TL.move rfl rfl (TL.one hF)) ?_; refine ChainV.q (some 33) [] (fun _ _ _ _ hF => TL.move rfl rfl (TL.one hF)) ?_; refine ChainV.q (some 34) [(0, 1), (1, 0)] (fun _ _ _ _ hF => TL.indexAddr (k) rfl rfl rfl (by omega) rfl (TL.one hF)) ?_
      refine ChainV.q (some 35) [(2, 0)] (by
       intro H' X F hle; have hL := Le.trans hL hle; intro hF; refine TL.load_ownA 0 0 [_, _, _, _] rfl rfl rfl hcr rfl rfl ?_
       exact TL.one hF) ?_
      refine ChainV.q (some 36) [] (by
       intro H' X F hle; have hL := Le.trans hL hle; intro hF; refine TL.load_ownA 1 0 [_, _, _, _] rfl rfl rfl ⟨rfl, rfl, rfl, rfl, trivial⟩ rfl rfl ?_
       exact TL.one hF) ?_
      refine ⟨by kernel_rfl, .refl _, ?_⟩
      ·
       intro H1 hle; have hL := Le.trans hL hle; have hle1 := Le.trans hle1 hle; refine TL.toOwn (own' := _ :: _ :: _ :: own) rfl ?_; refine TL.wk (env' := [(1, _), (3, _), (4, _), (5, _), (6, _), (7, _), (35, _), (36, _)]) ⟨rfl, rfl, rfl, rfl, rfl, rfl, rfl, rfl, trivial⟩ ?_; refine TL.call (ref_same (hok y (List.mem_of_getElem? hy)) hfo) ⟨rfl, rfl, trivial⟩ rfl ?_
       rintro _ _ H37 ⟨rfl, rfl, hle37⟩
       rw [dsm]
       have hL := Le.trans hL hle37; have hle1 := Le.trans hle1 hle37; refine TL.assign rfl rfl ?_; refine TL.nil ?_; refine TQ.then_n ?_; refine TC.region ?_; refine TL.move rfl rfl ?_; refine TL.move rfl rfl ?_; refine TL.gyes rfl rfl rfl ?_; refine TL.move rfl rfl ?_; refine TL.pickF rfl rfl rfl rfl ?_; refine TL.assign rfl rfl ?_; refine TL.nil ?_; refine TQ.in_n ?_; refine TQ.then_n ?_; refine TC.region ?_; refine TL.move rfl rfl ?_; refine TL.add rfl rfl rfl ⟨by omega, by omega⟩ ?_; refine TL.assign rfl rfl ?_; refine TL.nil ?_; refine TQ.toOwn (own' := _ :: _ :: _ :: own) rfl ?_
       refine TQ.next (out.length - (k + 1)) [(1, _), (3, _), (4, _), (5, _), (6, _), (7, _)] (by omega) ⟨rfl, rfl, rfl, rfl, rfl, rfl, trivial⟩ ⟨k + 1, _, rfl, by omega, by rw [any_take hy, ← htw, dsm]; rfl, rfl, rfl, hle1⟩
     ·
      refine TC.drawQV 5  [(1, _), (3, _), (4, _), (5, _), (6, _), (7, _)] follows_mixed ⟨rfl, rfl, rfl, rfl, rfl, rfl, trivial⟩ ?_; refine ChainV.q (some 32) [] (fun _ _ _ _ hF => TL.move rfl rfl (TL.one hF)) ?_; refine ChainV.q (some 33) [] (fun _ _ _ _ hF => TL.move rfl rfl (TL.one hF)) ?_; refine ChainV.q (some 34) [(0, 1), (1, 0)] (fun _ _ _ _ hF => TL.indexAddr (k) rfl rfl rfl (by omega) rfl (TL.one hF)) ?_
      refine ChainV.q (some 35) [(2, 0)] (by
       intro H' X F hle; have hL := Le.trans hL hle; intro hF; refine TL.load_ownA 0 0 [_, _, _, _] rfl rfl rfl hcr rfl rfl ?_
       exact TL.one hF) ?_
      refine ChainV.q (some 36) [] (by
       intro H' X F hle; have hL := Le.trans hL hle; intro hF; refine TL.load_ownA 1 0 [_, _, _, _] rfl rfl rfl ⟨rfl, rfl, rfl, rfl, trivial⟩ rfl rfl ?_
       exact TL.one hF) ?_
      refine ⟨by kernel_rfl, .refl _, ?_⟩
      ·
       intro H2 hle; have hL := Le.trans hL hle; have hle1 := Le.trans hle1 hle; refine TL.toOwn (own' := _ :: _ :: _ :: own) rfl ?_; refine TL.wk (env' := [(1, _), (3, _), (4, _), (5, _), (6, _), (7, _), (35, _), (36, _)]) ⟨rfl, rfl, rfl, rfl, rfl, rfl, rfl, rfl, trivial⟩ ?_; refine TL.call (ref_same (hok y (List.mem_of_getElem? hy)) hfo) ⟨rfl, rfl, trivial⟩ rfl ?_
       rintro _ _ H37 ⟨rfl, rfl, hle37⟩
       rw [dsm]
       have hL := Le.trans hL hle37; have hle1 := Le.trans hle1 hle37; refine TL.assign rfl rfl ?_; refine TL.nil ?_; refine TQ.then_n ?_; refine TC.region ?_; refine TL.move rfl rfl ?_; refine TL.move rfl rfl ?_; refine TL.gno rfl rfl rfl rfl ?_; refine TL.pickT rfl rfl rfl rfl ?_; refine TL.assign rfl rfl ?_; refine TL.nil ?_; refine TQ.in_n ?_; refine TQ.then_n ?_; refine TC.region ?_; refine TL.move rfl rfl ?_; refine TL.add rfl rfl rfl ⟨by omega, by omega⟩ ?_; refine TL.assign rfl rfl ?_; refine TL.nil ?_; refine TQ.toOwn (own' := _ :: _ :: _ :: own) rfl ?_
       refine TQ.next (out.length - (k + 1)) [(1, _), (3, _), (4, _), (5, _), (6, _), (7, _)] (by omega) ⟨rfl, rfl, rfl, rfl, rfl, rfl, trivial⟩ ⟨k + 1, _, rfl, by omega, by rw [any_take hy, ← htw, dsm]; rfl, rfl, rfl, hle1⟩
     ·
      refine TC.drawQV 5  [(1, _), (3, _), (4, _), (5, _), (6, _), (7, _)] follows_mixed ⟨rfl, rfl, rfl, rfl, rfl, rfl, trivial⟩ ?_; refine ChainV.q (some 32) [] (fun _ _ _ _ hF => TL.move rfl rfl (TL.one hF)) ?_; refine ChainV.q (some 33) [] (fun _ _ _ _ hF => TL.move rfl rfl (TL.one hF)) ?_; refine ChainV.q (some 34) [(0, 1), (1, 0)] (fun _ _ _ _ hF => TL.indexAddr (k) rfl rfl rfl (by omega) rfl (TL.one hF)) ?_
      refine ChainV.q (some 35) [(2, 0)] (by
       intro H' X F hle; have hL := Le.trans hL hle; intro hF; refine TL.load_ownA 0 0 [_, _, _, _] rfl rfl rfl hcr rfl rfl ?_
       exact TL.one hF) ?_
      refine ChainV.q (some 36) [] (by
       intro H' X F hle; have hL := Le.trans hL hle; intro hF; refine TL.load_ownA 1 0 [_, _, _, _] rfl rfl rfl ⟨rfl, rfl, rfl, rfl, trivial⟩ rfl rfl ?_
       exact TL.one hF) ?_
      refine ⟨by kernel_rfl, .refl _, ?_⟩
      ·
       intro H3 hle; have hL := Le.trans hL hle; have hle1 := Le.trans hle1 hle; refine TL.toOwn (own' := _ :: _ :: _ :: own) rfl ?_; refine TL.wk (env' := [(1, _), (3, _), (4, _), (5, _), (6, _), (7, _), (35, _), (36, _)]) ⟨rfl, rfl, rfl, rfl, rfl, rfl, rfl, rfl, trivial⟩ ?_; refine TL.call (ref_same (hok y (List.mem_of_getElem? hy)) hfo) ⟨rfl, rfl, trivial⟩ rfl ?_
       rintro _ _ H37 ⟨rfl, rfl, hle37⟩
       rw [dsm]
       have hL := Le.trans hL hle37; have hle1 := Le.trans hle1 hle37; refine TL.assign rfl rfl ?_; refine TL.nil ?_; refine TQ.then_n ?_; refine TC.region ?_; refine TL.move rfl rfl ?_; refine TL.move rfl rfl ?_; refine TL.gyes rfl rfl rfl ?_; refine TL.move rfl rfl ?_; refine TL.pickF rfl rfl rfl rfl ?_; refine TL.assign rfl rfl ?_; refine TL.nil ?_; refine TQ.in_n ?_; refine TQ.then_n ?_; refine TC.region ?_; refine TL.move rfl rfl ?_; refine TL.add rfl rfl rfl ⟨by omega, by omega⟩ ?_; refine TL.assign rfl rfl ?_; refine TL.nil ?_; refine TQ.toOwn (own' := _ :: _ :: _ :: own) rfl ?_
       refine TQ.next (out.length - (k + 1)) [(1, _), (3, _), (4, _), (5, _), (6, _), (7, _)] (by omega) ⟨rfl, rfl, rfl, rfl, rfl, rfl, trivial⟩ ⟨k + 1, _, rfl, by omega, by rw [any_take hy, ← htw, dsm]; rfl, rfl, rfl, hle1⟩
     ·
      refine TC.drawQV 5  [(1, _), (3, _), (4, _), (5, _), (6, _), (7, _)] follows_mixed ⟨rfl, rfl, rfl, rfl, rfl, rfl, trivial⟩ ?_; refine ChainV.q (some 32) [] (fun _ _ _ _ hF => TL.move rfl rfl (TL.one hF)) ?_; refine ChainV.q (some 33) [] (fun _ _ _ _ hF => TL.move rfl rfl (TL.one hF)) ?_; refine ChainV.q (some 34) [(0, 1), (1, 0)] (fun _ _ _ _ hF => TL.indexAddr (k) rfl rfl rfl (by omega) rfl (TL.one hF)) ?_
      refine ChainV.q (some 35) [(2, 0)] (by
       intro H' X F hle; have hL := Le.trans hL hle; intro hF; refine TL.load_ownA 0 0 [_, _, _, _] rfl rfl rfl hcr rfl rfl ?_
       exact TL.one hF) ?_
      refine ChainV.q (some 36) [] (by
       intro H' X F hle; have hL := Le.trans hL hle; intro hF; refine TL.load_ownA 1 0 [_, _, _, _] rfl rfl rfl ⟨rfl, rfl, rfl, rfl, trivial⟩ rfl rfl ?_
       exact TL.one hF) ?_
      refine ⟨by kernel_rfl, .refl _, ?_⟩
      ·
       intro H4 hle; have hL := Le.trans hL hle; have hle1 := Le.trans hle1 hle; refine TL.toOwn (own' := _ :: _ :: _ :: own) rfl ?_; refine TL.wk (env' := [(1, _), (3, _), (4, _), (5, _), (6, _), (7, _), (35, _), (36, _)]) ⟨rfl, rfl, rfl, rfl, rfl, rfl, rfl, rfl, trivial⟩ ?_; refine TL.call (ref_same (hok y (List.mem_of_getElem? hy)) hfo) ⟨rfl, rfl, trivial⟩ rfl ?_
       rintro _ _ H37 ⟨rfl, rfl, hle37⟩
       rw [dsm]
       have hL := Le.trans hL hle37; have hle1 := Le.trans hle1 hle37; refine TL.assign rfl rfl ?_; refine TL.nil ?_; refine TQ.then_n ?_; refine TC.region ?_; refine TL.move rfl rfl ?_; refine TL.move rfl rfl ?_; refine TL.gno rfl rfl rfl rfl ?_; refine TL.pickT rfl rfl rfl rfl ?_; refine TL.assign rfl rfl ?_; refine TL.nil ?_; refine TQ.in_n ?_; refine TQ.then_n ?_; refine TC.region ?_; refine TL.move rfl rfl ?_; refine TL.add rfl rfl rfl ⟨by omega, by omega⟩ ?_; refine TL.assign rfl rfl ?_; refine TL.nil ?_; refine TQ.toOwn (own' := _ :: _ :: _ :: own) rfl ?_
       refine TQ.next (out.length - (k + 1)) [(1, _), (3, _), (4, _), (5, _), (6, _), (7, _)] (by omega) ⟨rfl, rfl, rfl, rfl, rfl, rfl, trivial⟩ ⟨k + 1, _, rfl, by omega, by rw [any_take hy, ← htw, dsm]; rfl, rfl, rfl, hle1⟩
    ·
     refine TL.nil ?_; refine TQ.then_n ?_; refine TC.cond_f rfl ?_; refine TC.exit ?_; refine TQ.then_e ?_; refine TQ.then_e ?_; refine TQ.in_e ?_; refine TQ.then_n ?_; refine TC.seq ?_
     rcases tw with _ | _
     ·
      have hadd : addQ out q = out ++ [f] := by unfold addQ; rw [← hf, if_neg]; rw [show k = out.length by omega, List.take_length] at htw; rw [← htw]; simp
      refine TC.region ?_; refine TL.move rfl rfl ?_; refine TL.not rfl rfl ?_; refine TL.nil ?_; refine TQ.then_n ?_; refine TC.cond_t rfl ?_; refine TC.region ?_; refine TL.move rfl rfl ?_; refine TL.load_ownA 1 0 [_, _, _, _] rfl rfl rfl ⟨rfl, rfl, rfl, rfl, trivial⟩ rfl rfl ?_
      refine TL.litF (r := [_, _, _, _]) [(0, [_, _, _, _])] ⟨rfl, ⟨_, rfl, rfl⟩, trivial⟩ rfl rfl rfl rfl ?_; intro g46; refine TL.append 1 rfl rfl rfl hrow (Src.ofOwn 0 0 rfl rfl rfl (Ones.all (show Ones [_, _, _, _] from ⟨by rfl, by rfl, by rfl, by rfl, trivial⟩)) ⟨rfl, rfl, rfl, rfl, trivial⟩) (by omega) (by omega) rfl ?_; intro v1 seg1 hrow1
      have hrow2 : Row 60 4 v1 (out ++ [f]).length (factsV (out ++ [f])) seg1 := by rw [factsV_snoc, List.length_append]; exact hrow1
      refine TL.assign rfl rfl ?_; refine TL.nil ?_; refine TQ.in_n ?_; refine TQ.then_n ?_; refine TC.region ?_; refine TL.move rfl rfl ?_; refine TL.add rfl rfl rfl ⟨by omega, by omega⟩ ?_; refine TL.assign rfl rfl ?_; refine TL.nil ?_
      refine TQ.sel 4 [1, 3] rfl (fun o ho => ?_)
      simp only [K.sel, List.map_cons, List.map_nil, List.getD_cons_zero, List.getD_cons_succ, List.drop_succ_cons, List.drop_zero, List.cons_append, List.nil_append, List.set_cons_zero, List.set_cons_succ] at ho; subst ho
      refine TQ.next (l.length - (i + 1)) [(1, _), (3, _), (4, _)] (by omega) ⟨rfl, rfl, rfl, trivial⟩ ⟨i + 1, _, _, rfl, by omega, by omega, ?_, rfl, rfl, hle0⟩
      rw [foldQ_take hx, ← hout, hadd]
      exact hrow2
     ·
      have hadd : addQ out q = out := by unfold addQ; rw [← hf, if_pos]; rw [show k = out.length by omega, List.take_length] at htw; exact htw.symm
      refine TC.region ?_; refine TL.move rfl rfl ?_; refine TL.not rfl rfl ?_; refine TL.nil ?_; refine TQ.then_n ?_; refine TC.cond_f rfl ?_; refine TC.skip ?_; refine TQ.in_n ?_; refine TQ.then_n ?_; refine TC.region ?_; refine TL.move rfl rfl ?_; refine TL.add rfl rfl rfl ⟨by omega, by omega⟩ ?_; refine TL.assign rfl rfl ?_; refine TL.nil ?_
      refine TQ.sel 3 [0, 2] rfl (fun o ho => ?_)
      simp only [K.sel, List.map_cons, List.map_nil, List.getD_cons_zero, List.getD_cons_succ, List.drop_succ_cons, List.drop_zero, List.cons_append, List.nil_append, List.set_cons_zero, List.set_cons_succ] at ho; subst ho
      refine TQ.next (l.length - (i + 1)) [(1, _), (3, _), (4, _)] (by omega) ⟨rfl, rfl, rfl, trivial⟩ ⟨i + 1, _, _, rfl, by omega, by omega, ?_, rfl, rfl, hle0⟩
      rw [foldQ_take hx, ← hout, hadd]
      exact hrow
   ·
    refine TL.pickT rfl rfl rfl rfl ?_; refine TL.nil ?_; refine TQ.then_n ?_; refine TC.cond_f rfl ?_; refine TC.exit ?_; refine TQ.then_e ?_; refine TQ.then_e ?_; refine TQ.in_e ?_; refine TQ.nsr ?_; refine TL.move rfl rfl ?_; refine TL.assign rfl rfl ?_; refine TL.nil ?_; refine TQ.then_n ?_; refine TC.ret ?_
    refine TQ.freeze (fun H5 hle hz_row => ?_)
    have hL := Le.trans hL hle; refine TQ.ret1 1 rfl rfl ?_
    refine ⟨?_, rfl, hL⟩
    rw [hout, listA_all (by omega) (by omega) (by omega)] at hrow
    exact facts_row hrow hz_row (Le.refl _)
  ·
   refine TL.move rfl rfl ?_; refine TL.gno rfl rfl rfl rfl ?_; refine TL.gno rfl rfl rfl rfl ?_; refine TL.pickF rfl rfl rfl rfl ?_; refine TL.nil ?_; refine TQ.then_n ?_; refine TC.cond_f rfl ?_; refine TC.exit ?_; refine TQ.then_e ?_; refine TQ.then_e ?_; refine TQ.in_e ?_; refine TQ.nsr ?_; refine TL.move rfl rfl ?_; refine TL.assign rfl rfl ?_; refine TL.nil ?_; refine TQ.then_n ?_; refine TC.ret ?_
   refine TQ.freeze (fun H6 hle hz_row => ?_)
   have hL := Le.trans hL hle; refine TQ.ret1 1 rfl rfl ?_
   refine ⟨?_, rfl, hL⟩
   rw [hout, listA_all (by omega) (by omega) (by omega)] at hrow
   exact facts_row hrow hz_row (Le.refl _)

end Go.Proofs.YteeamfkhkbfilaaGreat.K
