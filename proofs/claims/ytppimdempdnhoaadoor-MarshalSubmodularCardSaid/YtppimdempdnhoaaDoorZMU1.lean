/- A part of the proof of marshalSubmodular_card (see YtppimdempdnhoaaDoorZMU6): what the functions that it reaches compute, each by its contract. -/
import Derived.Test.YtppimdempdnhoaaDoorZMU0
section
namespace Go.Proofs.YtppimdempdnhoaaDoor.C
set_option maxHeartbeats 8000000
set_option maxRecDepth 100000
open Go.RowKit Go.PrWords Go.PrLast Go.PrMore
attribute [local go_sem] max2_int min2_int max_two min_two max_three min_three max_four min_four
set_option linter.unusedVariables false
set_option linter.unusedSimpArgs false
def r1_reduced.f (k : Nat) (a0 : Bool) (l1 : List Int) (l2 : List Int) : Option (Bool × ByteArray × ByteArray) := if (l1.length : Int) = 0 then (some (false, (⟨#[]⟩ : ByteArray), (⟨#[]⟩ : ByteArray))) else ((r1_common.f k l1 l2).bind fun t232 => (if (t232.length : Int) > 1 then (none) else (if 0 < (t232.length : Int) then (if (rd t232 0) > 1 then ((r1_divide.f k l1 t232).bind fun bt253 => ((r1_divide.f k l2 t232).bind fun bt259 => ((r1_text.f k bt253.1).bind fun t265 => (if (bt259.1.length : Int) > 1 then (none) else (if 0 < (bt259.1.length : Int) then (if (rd bt259.1 0) > 1 then ((r1_text.f k bt259.1).bind fun t269 => (some (a0, t265, t269))) else (some (a0, t265, (⟨#[]⟩ : ByteArray)))) else (none)))))) else ((r1_text.f k l1).bind fun t270 => (if (l2.length : Int) > 1 then (none) else (if 0 < (l2.length : Int) then (if (rd l2 0) > 1 then ((r1_text.f k l2).bind fun t274 => (some (a0, t270, t274))) else (some (a0, t270, (⟨#[]⟩ : ByteArray)))) else (none))))) else (none))))
theorem r1_reduced.mono : ∀ a0 a1 a2 k, LeO (r1_reduced.f k a0 a1 a2) (r1_reduced.f (k + 1) a0 a1 a2) := by
 intro a0 a1 a2 k
 unfold r1_reduced.f
 repeat' first
   | (with_reducible first | exact r1_common.mono _ _ _ | exact r1_divide.mono _ _ _ | exact r1_text.mono _ _ | exact LeO.refl _ | exact LeO.none _ | refine LeO.ite ?_ ?_ | refine LeO.bind ?_ (fun _ => ?_))
theorem r1_reduced.calls (k : Nat) (a0 : Bool) (A1 : Option Addr) (c1 : Nat) (l1 : List Int) (A2 : Option Addr) (c2 : Nat) (l2 : List Int) (r1 : Bool) (r2 : ByteArray) (r3 : ByteArray) (w : World) (hr1 : Kd.C (Kd.int .u32) w A1 l1.length l1) (hc1 : l1.length ≤ c1) (hr2 : Kd.C (Kd.int .u32) w A2 l2.length l2) (hc2 : l2.length ≤ c2) (h : r1_reduced.f k a0 l1 l2 = some (r1, r2, r3)) :
  Calls Tryd.prog 78 #[.bool a0, .slice A1 l1.length c1, .slice A2 l2.length c2] w fun e w' => e = .returned (.agg #[.bool r1, .string r2, .string r3]) ∧ Below w.heap.size w w' := by
 have hu32 := Tryd.underlying32
 have HR1 := mk_ hr1
 have HC1 := mk_ hc1
 clear hr1 hc1
 have HR2 := mk_ hr2
 have HC2 := mk_ hc2
 clear hr2 hc2
 have HB := mk_ (Below.refl w.heap.size w)
 have H := h
 unfold r1_reduced.f at H
 clear h
 replace H := iS_ H
 rcases H with ⟨c4, H⟩ | ⟨c4, H⟩
 ·have ib := beq_iff_eq.mpr c4
  have jb := bne_eq_false_iff_eq.mpr c4
  clear c4
  simp only [Option.some.injEq, Prod.mk.injEq] at H
  obtain ⟨rfl, rfl, rfl⟩ := H
  go_enter Tryd.func78, Tryd.ntmps78
  go_wp2_with (first | ((with_reducible refine gD_ (N := 6) rfl ?_); refine bX_ (N := 6) (cs := zC_) (t := 32) ?_; intro ea hg w5 hbox hb; have aa := mk_ (hbox); have ja := mk_ (gZ_ hg (bZ_ (xB_ HB))); have ba := mk_ (gZ_ hg (bZ_ (xB_ HB))); replace HB := mk_ (bT_ (xB_ HB) hb); clear hb hbox hg; obtain ⟨Ib, Jb, Kb, Lb, Mb, Nb⟩ := kG3_ aa.out))
  refine bodyPost_ret (results_cell_row rfl _ _ ea 32 zC_ (0, 0) _ rfl (by refine xk_ ?_; refine kQ_ (cs := zC_) ?_ 2 _ rfl; refine kQ_ (cs := zC_) ?_ 1 _ rfl; refine kQ_ (cs := zC_) ?_ 0 _ rfl; exact aa.out) Tryd.underlying32 rfl kr_) rfl ?_
  exact ⟨rE_, xB1_ HB ba⟩
 ·have ib := beq_eq_false_iff_ne.mpr c4
  have jb := bne_iff_ne.mpr c4
  have Ob : ¬ (l1 = []) := fun h_ => c4 (by rw [h_]; rfl)
  obtain ⟨ha, A7, H⟩ := oB_ H
  (try dsimp only at H)
  replace H := iS_ H
  rcases H with ⟨c8, H⟩ | ⟨c8, H⟩
  ·exact absurd H (by simp)
  ·have Pb := decide_eq_false c8
   have Qb : decide (1 < ha.length) = false := decide_eq_false (by omega)
   clear c8
   obtain ⟨c57, H⟩ := iP_ H
   have Rb := decide_eq_true c57
   have Sb : decide (0 < ha.length) = true := decide_eq_true (by omega)
   clear c57
   replace H := iS_ H
   rcases H with ⟨c58, H⟩ | ⟨c58, H⟩
   ·have kb := decide_eq_true c58
    clear c58
    obtain ⟨⟨Ma, Ya⟩, A59, H⟩ := oB_ H
    (try dsimp only at H)
    obtain ⟨⟨ra, Za⟩, A60, H⟩ := oB_ H
    (try dsimp only at H)
    obtain ⟨ma, A61, H⟩ := oB_ H
    (try dsimp only at H)
    replace H := iS_ H
    rcases H with ⟨c62, H⟩ | ⟨c62, H⟩
    ·exact absurd H (by simp)
    ·have Tb := decide_eq_false c62
     have Ub : decide (1 < ra.length) = false := decide_eq_false (by omega)
     clear c62
     obtain ⟨c78, H⟩ := iP_ H
     have Vb := decide_eq_true c78
     have Wb : decide (0 < ra.length) = true := decide_eq_true (by omega)
     clear c78
     replace H := iS_ H
     rcases H with ⟨c79, H⟩ | ⟨c79, H⟩
     ·have mb := decide_eq_true c79
      clear c79
      obtain ⟨ab, A80, H⟩ := oB_ H
      (try dsimp only at H)
      simp only [Option.some.injEq, Prod.mk.injEq] at H
      obtain ⟨rfl, rfl, rfl⟩ := H
      go_enter Tryd.func78, Tryd.ntmps78
      go_wp2_with (first | ((with_reducible refine gD_ (N := 6) rfl ?_); refine bX_ (N := 6) (cs := zC_) (t := 32) ?_; intro ea hg w81 hbox hb; have aa := mk_ (hbox); have ja := mk_ (gZ_ hg (bZ_ (xB_ HB))); have ba := mk_ (gZ_ hg (bZ_ (xB_ HB))); replace HB := mk_ (bT_ (xB_ HB) hb); clear hb hbox hg) | ((with_reducible refine gC_ (f := 89) rfl ?_); refine gL_ (some 15) rfl rfl Tryd.func89 kr_ rfl #[.slice A1 l1.length c1, .slice A2 l2.length c2] rfl mp_ ?_; (with_reducible refine (r1_common.calls k (fun k_ => k_ < w.heap.size) _ _ l1 (fun k_ => k_ < w.heap.size) _ _ l2 ha _ ?side1 ?side2 A7.out).mono ?_); (case side1 => exact Kd.V_mk HC1.out (Kd.F_below (Kd.C_F (Kd.heap_int .u32) HR1.out) (xB1_ HB ba))); (case side2 => exact Kd.V_mk HC2.out (Kd.F_below (Kd.C_F (Kd.heap_int .u32) HR2.out) (xB1_ HB ba))); rintro e w82 ⟨Ra, rfl, ho0, hb⟩; refine ⟨_, rfl, ?_⟩; have da := mk_ (Kd.V_lower (Kd.V_mono (ok' := fun k_ => k_ ≠ ea) ho0 (fun k_ hk_ => Or.elim hk_ (fun hs_ => Or.elim hs_ (fun hs_ => fun e_ => Nat.not_le.2 hs_ (by rw [e_]; exact ja.out)) (fun hs_ => fun e_ => Nat.not_le.2 hs_ (by rw [e_]; exact ja.out))) (fun hn_ => (Kd.freshB (g := ea) (o := .cells zC_ 32 (0, 0)) (xK_ aa.out) k_ hn_)))) (bZ_ (xB1_ HB ba))); replace aa := mk_ (kB_ (xK_ aa.out) hb); replace HB := mk_ (bT_ (xB1_ HB ba) hb); obtain ⟨Xb, bb, nb⟩ := Kd.V_slice da.out; subst nb; have na : 0 ≤ (0 : Int) := (by omega); have oa : 0 < (ha.length : Int) := oD_; obtain ⟨Fa, Ga, sa⟩ := Kd.at_int (Kd.V_reads' da.out).2.2 0 na oa; cases Ga; have Sa : (0 < ha.length) = True := eq_true (by omega); (try rw [show ((0 : Int)).toNat = 0 from rfl] at sa); (try rw [Addr.add_zero'] at sa); replace na := eq_true na; replace oa := eq_true oa) | ((with_reducible refine gC_ (f := 90) rfl ?_); refine gL_ (some 28) rfl rfl Tryd.func90 kr_ rfl #[.slice A1 l1.length c1, .slice (some Fa) ha.length bb] rfl mp_ ?_; (with_reducible refine (r1_divide.calls k (fun k_ => k_ < w.heap.size) _ _ l1 _ _ ha Ma Ya _ ?side1 ?side2 ?side3 A59.out).mono ?_); (case side1 => exact Kd.V_mk HC1.out (Kd.F_below (Kd.C_F (Kd.heap_int .u32) HR1.out) (xB1_ HB ba))); (case side2 => repeat (first | exact (Kd.V_reads' da.out).2.2 | (with_reducible refine Kd.C_alloc ?_ _) | (with_reducible refine Kd.C_drewN ?_ _) | (with_reducible refine Kd.C_drew ?_))); (case side3 => exact (Kd.V_reads' da.out).2.1); rintro e w84 ⟨ob, pb, rfl, ho0, ho1, hb⟩; refine ⟨_, rfl, ?_⟩; replace da := mk_ (Kd.vB_ (xV_ da.out) hb); have ia := mk_ (Kd.V_lower (Kd.V_mono (ok' := fun k_ => k_ ≠ ea) ho0 (fun k_ hk_ => Or.elim hk_ (fun hs_ => fun e_ => Nat.not_le.2 hs_ (by rw [e_]; exact ja.out)) (fun hn_ => (Kd.freshB (g := ea) (o := .cells zC_ 32 (0, 0)) (xK_ aa.out) k_ hn_)))) (bZ_ (xB1_ HB ba))); have pa := mk_ (Kd.V_lower (Kd.V_mono (ok' := fun k_ => k_ ≠ ea) ho1 (fun k_ hk_ => Or.elim hk_ (fun hs_ => fun e_ => Nat.not_le.2 hs_ (by rw [e_]; exact ja.out)) (fun hn_ => (Kd.freshB (g := ea) (o := .cells zC_ 32 (0, 0)) (xK_ aa.out) k_ hn_)))) (bZ_ (xB1_ HB ba))); replace aa := mk_ (kB_ (xK_ aa.out) hb); replace HB := mk_ (bT_ (xB1_ HB ba) hb)) | ((with_reducible refine gC_ (f := 90) rfl ?_); refine gL_ (some 34) rfl rfl Tryd.func90 kr_ rfl #[.slice A2 l2.length c2, .slice (some Fa) ha.length bb] rfl mp_ ?_; (with_reducible refine (r1_divide.calls k (fun k_ => k_ < w.heap.size) _ _ l2 _ _ ha ra Za _ ?side1 ?side2 ?side3 A60.out).mono ?_); (case side1 => exact Kd.V_mk HC2.out (Kd.F_below (Kd.C_F (Kd.heap_int .u32) HR2.out) (xB1_ HB ba))); (case side2 => repeat (first | exact (Kd.V_reads' da.out).2.2 | (with_reducible refine Kd.C_alloc ?_ _) | (with_reducible refine Kd.C_drewN ?_ _) | (with_reducible refine Kd.C_drew ?_))); (case side3 => exact (Kd.V_reads' da.out).2.1); rintro e w85 ⟨qb, rb, rfl, ho0, ho1, hb⟩; refine ⟨_, rfl, ?_⟩; replace da := mk_ (Kd.vB_ (xV_ da.out) hb); replace ia := mk_ (Kd.vB_ (xV_ ia.out) hb); replace pa := mk_ (Kd.vB_ (xV_ pa.out) hb); have la := mk_ (Kd.V_lower (Kd.V_mono (ok' := fun k_ => k_ ≠ ea) ho0 (fun k_ hk_ => Or.elim hk_ (fun hs_ => fun e_ => Nat.not_le.2 hs_ (by rw [e_]; exact ja.out)) (fun hn_ => (Kd.freshB (g := ea) (o := .cells zC_ 32 (0, 0)) (xK_ aa.out) k_ hn_)))) (bZ_ (xB1_ HB ba))); have ta := mk_ (Kd.V_lower (Kd.V_mono (ok' := fun k_ => k_ ≠ ea) ho1 (fun k_ hk_ => Or.elim hk_ (fun hs_ => fun e_ => Nat.not_le.2 hs_ (by rw [e_]; exact ja.out)) (fun hn_ => (Kd.freshB (g := ea) (o := .cells zC_ 32 (0, 0)) (xK_ aa.out) k_ hn_)))) (bZ_ (xB1_ HB ba))); replace aa := mk_ (kB_ (xK_ aa.out) hb); replace HB := mk_ (bT_ (xB1_ HB ba) hb); obtain ⟨sb, tb, ub⟩ := Kd.V_slice ia.out; subst ub) | ((with_reducible refine gC_ (f := 68) rfl ?_); refine gL_ (some 39) rfl rfl Tryd.func68 kr_ rfl #[.slice sb Ma.length tb] rfl mp_ ?_; (with_reducible refine (r1_text.calls k _ _ Ma ma _ ?side1 ?side2 A61.out).mono ?_); (case side1 => repeat (first | exact (Kd.V_reads' ia.out).2.2 | (with_reducible refine Kd.C_alloc ?_ _) | (with_reducible refine Kd.C_drewN ?_ _) | (with_reducible refine Kd.C_drew ?_))); (case side2 => exact (Kd.V_reads' ia.out).2.1); rintro e w87 ⟨rfl, hb⟩; refine ⟨_, rfl, ?_⟩; replace da := mk_ (Kd.vB_ (xV_ da.out) hb); replace ia := mk_ (Kd.vB_ (xV_ ia.out) hb); replace pa := mk_ (Kd.vB_ (xV_ pa.out) hb); replace la := mk_ (Kd.vB_ (xV_ la.out) hb); replace ta := mk_ (Kd.vB_ (xV_ ta.out) hb); replace aa := mk_ (kB_ (xK_ aa.out) hb); replace HB := mk_ (bT_ (xB1_ HB ba) hb)) | ((with_reducible refine gD_ (N := 8) rfl ?_); refine bX_ (N := 8) (cs := zC_) (t := 32) ?_; intro ca hg w88 hbox hb; replace da := mk_ (Kd.vB_ (Kd.V_elderB (xV_ da.out) ca (Nat.le_of_eq hg.symm)) hb); replace ia := mk_ (Kd.vB_ (Kd.V_elderB (xV_ ia.out) ca (Nat.le_of_eq hg.symm)) hb); replace pa := mk_ (Kd.vB_ (Kd.V_elderB (xV_ pa.out) ca (Nat.le_of_eq hg.symm)) hb); replace la := mk_ (Kd.vB_ (Kd.V_elderB (xV_ la.out) ca (Nat.le_of_eq hg.symm)) hb); replace ta := mk_ (Kd.vB_ (Kd.V_elderB (xV_ ta.out) ca (Nat.le_of_eq hg.symm)) hb); have qa := mk_ (hbox); have vb := mk_ (gZ_ hg (bZ_ (xB1_ HB ba))); have Qa := mk_ (gZ_ hg (bZ_ (xB1_ HB ba))); replace HB := mk_ (bT_ (xB1_ HB ba) hb); have va := mk_ (gN_ hg (xK_ aa.out)); have Ta := mk_ (gM_ hg (xK_ aa.out)); replace aa := mk_ (kB_ (xK_ aa.out) hb); clear hb hbox hg; have hnb89 := Ta.out; have hnc89 := va.out; obtain ⟨Yb, Zb, ac, bc, cc, dc⟩ := kG3_ qa.out; obtain ⟨ec, cb, wb⟩ := Kd.V_slice la.out; subst wb; have Ha : 0 ≤ (0 : Int) := (by omega); have Ia : 0 < (ra.length : Int) := oD_; obtain ⟨Da, Ua, ga⟩ := Kd.at_int (Kd.V_reads' la.out).2.2 0 Ha Ia; cases Ua; have xb : (0 < ra.length) = True := eq_true (by omega); (try rw [show ((0 : Int)).toNat = 0 from rfl] at ga); (try rw [Addr.add_zero'] at ga); have xa : Da.block ≠ ca := cell_blk_ne ga qa.out (no_int3 (by intro _ _ h; cases h) (by intro _ _ h; cases h) (by intro _ _ h; cases h)); have ya : Da.block ≠ ca := cell_blk_ne ga qa.out (no_int3 (by intro _ _ h; cases h) (by intro _ _ h; cases h) (by intro _ _ h; cases h)); have za : Da.block ≠ ca := cell_blk_ne ga qa.out (no_int3 (by intro _ _ h; cases h) (by intro _ _ h; cases h) (by intro _ _ h; cases h)); replace ga := (cf_ (p := ⟨ca, 0, none⟩) (by first | (rw [ab_]; exact xa) | (show (Addr.add _ _).block ≠ _; rw [ab_]; exact xa) | exact xa) (.bool a0)).trans ga; replace ga := (cf_ (p := ⟨ca, 1, none⟩) (by first | (rw [ab_]; exact ya) | (show (Addr.add _ _).block ≠ _; rw [ab_]; exact ya) | exact ya) (.string ma)).trans ga; replace ga := (cf_ (p := ⟨ca, 2, none⟩) (by first | (rw [ab_]; exact za) | (show (Addr.add _ _).block ≠ _; rw [ab_]; exact za) | exact za) (.string (⟨#[]⟩ : ByteArray))).trans ga; clear xa ya za; replace Ha := eq_true Ha; replace Ia := eq_true Ia) | ((with_reducible refine gC_ (f := 68) rfl ?_); refine gL_ (some 51) rfl rfl Tryd.func68 kr_ rfl #[.slice (some Da) ra.length cb] rfl mp_ ?_; (with_reducible refine (r1_text.calls k _ _ ra ab _ ?side1 ?side2 A80.out).mono ?_); (case side1 => refine (Kd.V_reads' (e := 80) (base := w.heap.size) (ok := fun k_ => (k_ ≠ ea ∧ k_ ≠ ca)) (n := ra.length) (c := cb) ?_).2.2; exact (by refine xv_ ?_; exact (Kd.V_mono (Kd.V_far (p := ⟨ca, 2, none⟩) (Kd.V_far (p := ⟨ca, 1, none⟩) (Kd.V_far (p := ⟨ca, 0, none⟩) (Kd.V_mono la.out (fun k_ hk => (⟨hk, hk.2⟩ : _ ∧ k_ ≠ ca))) (fun _ hk => hk.2) (.bool a0)) (fun _ hk => hk.2) (.string ma)) (fun _ hk => hk.2) (.string (⟨#[]⟩ : ByteArray))) (fun _ h_ => h_.1)))); (case side2 => exact (Kd.V_reads' la.out).2.1); rintro e w92 ⟨rfl, hb⟩; refine ⟨_, rfl, ?_⟩; replace da := mk_ (Kd.vB_ (by refine xv_ ?_; exact (Kd.V_mono (Kd.V_far (p := ⟨ca, 2, none⟩) (Kd.V_far (p := ⟨ca, 1, none⟩) (Kd.V_far (p := ⟨ca, 0, none⟩) (Kd.V_mono da.out (fun k_ hk => (⟨hk, hk.2⟩ : _ ∧ k_ ≠ ca))) (fun _ hk => hk.2) (.bool a0)) (fun _ hk => hk.2) (.string ma)) (fun _ hk => hk.2) (.string (⟨#[]⟩ : ByteArray))) (fun _ h_ => h_.1))) hb); replace ia := mk_ (Kd.vB_ (by refine xv_ ?_; exact (Kd.V_mono (Kd.V_far (p := ⟨ca, 2, none⟩) (Kd.V_far (p := ⟨ca, 1, none⟩) (Kd.V_far (p := ⟨ca, 0, none⟩) (Kd.V_mono ia.out (fun k_ hk => (⟨hk, hk.2⟩ : _ ∧ k_ ≠ ca))) (fun _ hk => hk.2) (.bool a0)) (fun _ hk => hk.2) (.string ma)) (fun _ hk => hk.2) (.string (⟨#[]⟩ : ByteArray))) (fun _ h_ => h_.1))) hb); replace pa := mk_ (Kd.vB_ (by refine xv_ ?_; exact (Kd.V_mono (Kd.V_far (p := ⟨ca, 2, none⟩) (Kd.V_far (p := ⟨ca, 1, none⟩) (Kd.V_far (p := ⟨ca, 0, none⟩) (Kd.V_mono pa.out (fun k_ hk => (⟨hk, hk.2⟩ : _ ∧ k_ ≠ ca))) (fun _ hk => hk.2) (.bool a0)) (fun _ hk => hk.2) (.string ma)) (fun _ hk => hk.2) (.string (⟨#[]⟩ : ByteArray))) (fun _ h_ => h_.1))) hb); replace la := mk_ (Kd.vB_ (by refine xv_ ?_; exact (Kd.V_mono (Kd.V_far (p := ⟨ca, 2, none⟩) (Kd.V_far (p := ⟨ca, 1, none⟩) (Kd.V_far (p := ⟨ca, 0, none⟩) (Kd.V_mono la.out (fun k_ hk => (⟨hk, hk.2⟩ : _ ∧ k_ ≠ ca))) (fun _ hk => hk.2) (.bool a0)) (fun _ hk => hk.2) (.string ma)) (fun _ hk => hk.2) (.string (⟨#[]⟩ : ByteArray))) (fun _ h_ => h_.1))) hb); replace ta := mk_ (Kd.vB_ (by refine xv_ ?_; exact (Kd.V_mono (Kd.V_far (p := ⟨ca, 2, none⟩) (Kd.V_far (p := ⟨ca, 1, none⟩) (Kd.V_far (p := ⟨ca, 0, none⟩) (Kd.V_mono ta.out (fun k_ hk => (⟨hk, hk.2⟩ : _ ∧ k_ ≠ ca))) (fun _ hk => hk.2) (.bool a0)) (fun _ hk => hk.2) (.string ma)) (fun _ hk => hk.2) (.string (⟨#[]⟩ : ByteArray))) (fun _ h_ => h_.1))) hb); replace aa := mk_ (kB_ (g := ea) (o := .cells zC_ 32 (0, 0)) (by refine xk_ ?_; refine bf_ ?_ va.out _; refine xk_ ?_; refine bf_ ?_ va.out _; refine xk_ ?_; refine bf_ ?_ va.out _; refine xk_ ?_; exact aa.out) hb); replace qa := mk_ (kB_ (g := ca) (o := .cells #[.bool a0, .string ma, .string (⟨#[]⟩ : ByteArray)] 32 (0, 0)) (by refine xk_ ?_; refine kQ_ (cs := #[.bool a0, .string ma, .string (⟨#[]⟩ : ByteArray)]) ?_ 2 _ rfl; refine kQ_ (cs := #[.bool a0, .string (⟨#[]⟩ : ByteArray), .string (⟨#[]⟩ : ByteArray)]) ?_ 1 _ rfl; refine kQ_ (cs := zC_) ?_ 0 _ rfl; exact qa.out) hb); replace HB := mk_ (bT_ (xB2_ HB ba Qa) hb); obtain ⟨fc, gc, hc, ic, jc, kc⟩ := kG3_ qa.out; obtain ⟨lc, mc, nc, oc, pc, qc⟩ := kG3_ aa.out))
      refine bodyPost_ret (results_cell_row rfl _ _ ea 32 #[.bool a0, .string ma, .string ab] (0, 0) _ rfl (by refine xk_ ?_; refine kQ_ (cs := #[.bool a0, .string ma, .string (⟨#[]⟩ : ByteArray)]) ?_ 2 _ rfl; refine kQ_ (cs := #[.bool a0, .string (⟨#[]⟩ : ByteArray), .string (⟨#[]⟩ : ByteArray)]) ?_ 1 _ rfl; refine kQ_ (cs := zC_) ?_ 0 _ rfl; refine bf_ ?_ va.out _; refine xk_ ?_; exact aa.out) Tryd.underlying32 rfl kr_) rfl ?_
      exact ⟨rE_, xB2_ HB ba Qa⟩
     ·have mb := decide_eq_false c79
      clear c79
      simp only [Option.some.injEq, Prod.mk.injEq] at H
      obtain ⟨rfl, rfl, rfl⟩ := H
      go_enter Tryd.func78, Tryd.ntmps78
      go_wp2_with (first | ((with_reducible refine gD_ (N := 6) rfl ?_); refine bX_ (N := 6) (cs := zC_) (t := 32) ?_; intro ea hg w95 hbox hb; have aa := mk_ (hbox); have ja := mk_ (gZ_ hg (bZ_ (xB_ HB))); have ba := mk_ (gZ_ hg (bZ_ (xB_ HB))); replace HB := mk_ (bT_ (xB_ HB) hb); clear hb hbox hg) | ((with_reducible refine gC_ (f := 89) rfl ?_); refine gL_ (some 15) rfl rfl Tryd.func89 kr_ rfl #[.slice A1 l1.length c1, .slice A2 l2.length c2] rfl mp_ ?_; (with_reducible refine (r1_common.calls k (fun k_ => k_ < w.heap.size) _ _ l1 (fun k_ => k_ < w.heap.size) _ _ l2 ha _ ?side1 ?side2 A7.out).mono ?_); (case side1 => exact Kd.V_mk HC1.out (Kd.F_below (Kd.C_F (Kd.heap_int .u32) HR1.out) (xB1_ HB ba))); (case side2 => exact Kd.V_mk HC2.out (Kd.F_below (Kd.C_F (Kd.heap_int .u32) HR2.out) (xB1_ HB ba))); rintro e w96 ⟨Ra, rfl, ho0, hb⟩; refine ⟨_, rfl, ?_⟩; have da := mk_ (Kd.V_lower (Kd.V_mono (ok' := fun k_ => k_ ≠ ea) ho0 (fun k_ hk_ => Or.elim hk_ (fun hs_ => Or.elim hs_ (fun hs_ => fun e_ => Nat.not_le.2 hs_ (by rw [e_]; exact ja.out)) (fun hs_ => fun e_ => Nat.not_le.2 hs_ (by rw [e_]; exact ja.out))) (fun hn_ => (Kd.freshB (g := ea) (o := .cells zC_ 32 (0, 0)) (xK_ aa.out) k_ hn_)))) (bZ_ (xB1_ HB ba))); replace aa := mk_ (kB_ (xK_ aa.out) hb); replace HB := mk_ (bT_ (xB1_ HB ba) hb); obtain ⟨rc, db, yb⟩ := Kd.V_slice da.out; subst yb; have na : 0 ≤ (0 : Int) := (by omega); have oa : 0 < (ha.length : Int) := oD_; obtain ⟨Fa, Ga, sa⟩ := Kd.at_int (Kd.V_reads' da.out).2.2 0 na oa; cases Ga; have Sa : (0 < ha.length) = True := eq_true (by omega); (try rw [show ((0 : Int)).toNat = 0 from rfl] at sa); (try rw [Addr.add_zero'] at sa); replace na := eq_true na; replace oa := eq_true oa) | ((with_reducible refine gC_ (f := 90) rfl ?_); refine gL_ (some 28) rfl rfl Tryd.func90 kr_ rfl #[.slice A1 l1.length c1, .slice (some Fa) ha.length db] rfl mp_ ?_; (with_reducible refine (r1_divide.calls k (fun k_ => k_ < w.heap.size) _ _ l1 _ _ ha Ma Ya _ ?side1 ?side2 ?side3 A59.out).mono ?_); (case side1 => exact Kd.V_mk HC1.out (Kd.F_below (Kd.C_F (Kd.heap_int .u32) HR1.out) (xB1_ HB ba))); (case side2 => repeat (first | exact (Kd.V_reads' da.out).2.2 | (with_reducible refine Kd.C_alloc ?_ _) | (with_reducible refine Kd.C_drewN ?_ _) | (with_reducible refine Kd.C_drew ?_))); (case side3 => exact (Kd.V_reads' da.out).2.1); rintro e w98 ⟨ob, pb, rfl, ho0, ho1, hb⟩; refine ⟨_, rfl, ?_⟩; replace da := mk_ (Kd.vB_ (xV_ da.out) hb); have ia := mk_ (Kd.V_lower (Kd.V_mono (ok' := fun k_ => k_ ≠ ea) ho0 (fun k_ hk_ => Or.elim hk_ (fun hs_ => fun e_ => Nat.not_le.2 hs_ (by rw [e_]; exact ja.out)) (fun hn_ => (Kd.freshB (g := ea) (o := .cells zC_ 32 (0, 0)) (xK_ aa.out) k_ hn_)))) (bZ_ (xB1_ HB ba))); have pa := mk_ (Kd.V_lower (Kd.V_mono (ok' := fun k_ => k_ ≠ ea) ho1 (fun k_ hk_ => Or.elim hk_ (fun hs_ => fun e_ => Nat.not_le.2 hs_ (by rw [e_]; exact ja.out)) (fun hn_ => (Kd.freshB (g := ea) (o := .cells zC_ 32 (0, 0)) (xK_ aa.out) k_ hn_)))) (bZ_ (xB1_ HB ba))); replace aa := mk_ (kB_ (xK_ aa.out) hb); replace HB := mk_ (bT_ (xB1_ HB ba) hb)) | ((with_reducible refine gC_ (f := 90) rfl ?_); refine gL_ (some 34) rfl rfl Tryd.func90 kr_ rfl #[.slice A2 l2.length c2, .slice (some Fa) ha.length db] rfl mp_ ?_; (with_reducible refine (r1_divide.calls k (fun k_ => k_ < w.heap.size) _ _ l2 _ _ ha ra Za _ ?side1 ?side2 ?side3 A60.out).mono ?_); (case side1 => exact Kd.V_mk HC2.out (Kd.F_below (Kd.C_F (Kd.heap_int .u32) HR2.out) (xB1_ HB ba))); (case side2 => repeat (first | exact (Kd.V_reads' da.out).2.2 | (with_reducible refine Kd.C_alloc ?_ _) | (with_reducible refine Kd.C_drewN ?_ _) | (with_reducible refine Kd.C_drew ?_))); (case side3 => exact (Kd.V_reads' da.out).2.1); rintro e w99 ⟨qb, rb, rfl, ho0, ho1, hb⟩; refine ⟨_, rfl, ?_⟩; replace da := mk_ (Kd.vB_ (xV_ da.out) hb); replace ia := mk_ (Kd.vB_ (xV_ ia.out) hb); replace pa := mk_ (Kd.vB_ (xV_ pa.out) hb); have la := mk_ (Kd.V_lower (Kd.V_mono (ok' := fun k_ => k_ ≠ ea) ho0 (fun k_ hk_ => Or.elim hk_ (fun hs_ => fun e_ => Nat.not_le.2 hs_ (by rw [e_]; exact ja.out)) (fun hn_ => (Kd.freshB (g := ea) (o := .cells zC_ 32 (0, 0)) (xK_ aa.out) k_ hn_)))) (bZ_ (xB1_ HB ba))); have ta := mk_ (Kd.V_lower (Kd.V_mono (ok' := fun k_ => k_ ≠ ea) ho1 (fun k_ hk_ => Or.elim hk_ (fun hs_ => fun e_ => Nat.not_le.2 hs_ (by rw [e_]; exact ja.out)) (fun hn_ => (Kd.freshB (g := ea) (o := .cells zC_ 32 (0, 0)) (xK_ aa.out) k_ hn_)))) (bZ_ (xB1_ HB ba))); replace aa := mk_ (kB_ (xK_ aa.out) hb); replace HB := mk_ (bT_ (xB1_ HB ba) hb); obtain ⟨zb, Ab, Bb⟩ := Kd.V_slice ia.out; subst Bb) | ((with_reducible refine gC_ (f := 68) rfl ?_); refine gL_ (some 39) rfl rfl Tryd.func68 kr_ rfl #[.slice zb Ma.length Ab] rfl mp_ ?_; (with_reducible refine (r1_text.calls k _ _ Ma ma _ ?side1 ?side2 A61.out).mono ?_); (case side1 => repeat (first | exact (Kd.V_reads' ia.out).2.2 | (with_reducible refine Kd.C_alloc ?_ _) | (with_reducible refine Kd.C_drewN ?_ _) | (with_reducible refine Kd.C_drew ?_))); (case side2 => exact (Kd.V_reads' ia.out).2.1); rintro e sc ⟨rfl, hb⟩; refine ⟨_, rfl, ?_⟩; replace da := mk_ (Kd.vB_ (xV_ da.out) hb); replace ia := mk_ (Kd.vB_ (xV_ ia.out) hb); replace pa := mk_ (Kd.vB_ (xV_ pa.out) hb); replace la := mk_ (Kd.vB_ (xV_ la.out) hb); replace ta := mk_ (Kd.vB_ (xV_ ta.out) hb); replace aa := mk_ (kB_ (xK_ aa.out) hb); replace HB := mk_ (bT_ (xB1_ HB ba) hb)) | ((with_reducible refine gD_ (N := 8) rfl ?_); refine bX_ (N := 8) (cs := zC_) (t := 32) ?_; intro ca hg tc hbox hb; replace da := mk_ (Kd.vB_ (Kd.V_elderB (xV_ da.out) ca (Nat.le_of_eq hg.symm)) hb); replace ia := mk_ (Kd.vB_ (Kd.V_elderB (xV_ ia.out) ca (Nat.le_of_eq hg.symm)) hb); replace pa := mk_ (Kd.vB_ (Kd.V_elderB (xV_ pa.out) ca (Nat.le_of_eq hg.symm)) hb); replace la := mk_ (Kd.vB_ (Kd.V_elderB (xV_ la.out) ca (Nat.le_of_eq hg.symm)) hb); replace ta := mk_ (Kd.vB_ (Kd.V_elderB (xV_ ta.out) ca (Nat.le_of_eq hg.symm)) hb); have qa := mk_ (hbox); have vb := mk_ (gZ_ hg (bZ_ (xB1_ HB ba))); have Qa := mk_ (gZ_ hg (bZ_ (xB1_ HB ba))); replace HB := mk_ (bT_ (xB1_ HB ba) hb); have va := mk_ (gN_ hg (xK_ aa.out)); have Ta := mk_ (gM_ hg (xK_ aa.out)); replace aa := mk_ (kB_ (xK_ aa.out) hb); clear hb hbox hg; have hnb103 := Ta.out; have hnc103 := va.out; obtain ⟨uc, vc, wc, xc, yc, zc⟩ := kG3_ qa.out; obtain ⟨Ac, Bc, Cb⟩ := Kd.V_slice la.out; subst Cb; have Ha : 0 ≤ (0 : Int) := (by omega); have Ia : 0 < (ra.length : Int) := oD_; obtain ⟨Da, Ua, ga⟩ := Kd.at_int (Kd.V_reads' la.out).2.2 0 Ha Ia; cases Ua; have xb : (0 < ra.length) = True := eq_true (by omega); (try rw [show ((0 : Int)).toNat = 0 from rfl] at ga); (try rw [Addr.add_zero'] at ga); have xa : Da.block ≠ ca := cell_blk_ne ga qa.out (no_int3 (by intro _ _ h; cases h) (by intro _ _ h; cases h) (by intro _ _ h; cases h)); have ya : Da.block ≠ ca := cell_blk_ne ga qa.out (no_int3 (by intro _ _ h; cases h) (by intro _ _ h; cases h) (by intro _ _ h; cases h)); have za : Da.block ≠ ca := cell_blk_ne ga qa.out (no_int3 (by intro _ _ h; cases h) (by intro _ _ h; cases h) (by intro _ _ h; cases h)); replace ga := (cf_ (p := ⟨ca, 0, none⟩) (by first | (rw [ab_]; exact xa) | (show (Addr.add _ _).block ≠ _; rw [ab_]; exact xa) | exact xa) (.bool a0)).trans ga; replace ga := (cf_ (p := ⟨ca, 1, none⟩) (by first | (rw [ab_]; exact ya) | (show (Addr.add _ _).block ≠ _; rw [ab_]; exact ya) | exact ya) (.string ma)).trans ga; replace ga := (cf_ (p := ⟨ca, 2, none⟩) (by first | (rw [ab_]; exact za) | (show (Addr.add _ _).block ≠ _; rw [ab_]; exact za) | exact za) (.string (⟨#[]⟩ : ByteArray))).trans ga; clear xa ya za; replace Ha := eq_true Ha; replace Ia := eq_true Ia; obtain ⟨Cc, Dc, Ec, Fc, Gc, Hc⟩ := kG3_ aa.out))
      refine bodyPost_ret (results_cell_row rfl _ _ ea 32 #[.bool a0, .string ma, .string (⟨#[]⟩ : ByteArray)] (0, 0) _ rfl (by refine xk_ ?_; refine kQ_ (cs := #[.bool a0, .string ma, .string (⟨#[]⟩ : ByteArray)]) ?_ 2 _ rfl; refine kQ_ (cs := #[.bool a0, .string (⟨#[]⟩ : ByteArray), .string (⟨#[]⟩ : ByteArray)]) ?_ 1 _ rfl; refine kQ_ (cs := zC_) ?_ 0 _ rfl; refine bf_ ?_ va.out _; refine xk_ ?_; refine bf_ ?_ va.out _; refine xk_ ?_; refine bf_ ?_ va.out _; refine xk_ ?_; exact aa.out) Tryd.underlying32 rfl kr_) rfl ?_
      exact ⟨rE_, xB2_ HB ba Qa⟩
   ·have kb := decide_eq_false c58
    clear c58
    obtain ⟨ua, eb, H⟩ := oB_ H
    (try dsimp only at H)
    replace H := iS_ H
    rcases H with ⟨Va, H⟩ | ⟨Va, H⟩
    ·exact absurd H (by simp)
    ·have Ic := decide_eq_false Va
     have Jc : decide (1 < l2.length) = false := decide_eq_false (by omega)
     clear Va
     obtain ⟨fb, H⟩ := iP_ H
     have Kc := decide_eq_true fb
     have Lc : decide (0 < l2.length) = true := decide_eq_true (by omega)
     clear fb
     replace H := iS_ H
     rcases H with ⟨Oa, H⟩ | ⟨Oa, H⟩
     ·have Db := decide_eq_true Oa
      clear Oa
      obtain ⟨gb, Eb, H⟩ := oB_ H
      (try dsimp only at H)
      simp only [Option.some.injEq, Prod.mk.injEq] at H
      obtain ⟨rfl, rfl, rfl⟩ := H
      go_enter Tryd.func78, Tryd.ntmps78
      go_wp2_with (first | ((with_reducible refine gD_ (N := 6) rfl ?_); refine bX_ (N := 6) (cs := zC_) (t := 32) ?_; intro ea hg Mc hbox hb; have aa := mk_ (hbox); have ja := mk_ (gZ_ hg (bZ_ (xB_ HB))); have ba := mk_ (gZ_ hg (bZ_ (xB_ HB))); replace HB := mk_ (bT_ (xB_ HB) hb); clear hb hbox hg) | ((with_reducible refine gC_ (f := 89) rfl ?_); refine gL_ (some 15) rfl rfl Tryd.func89 kr_ rfl #[.slice A1 l1.length c1, .slice A2 l2.length c2] rfl mp_ ?_; (with_reducible refine (r1_common.calls k (fun k_ => k_ < w.heap.size) _ _ l1 (fun k_ => k_ < w.heap.size) _ _ l2 ha _ ?side1 ?side2 A7.out).mono ?_); (case side1 => exact Kd.V_mk HC1.out (Kd.F_below (Kd.C_F (Kd.heap_int .u32) HR1.out) (xB1_ HB ba))); (case side2 => exact Kd.V_mk HC2.out (Kd.F_below (Kd.C_F (Kd.heap_int .u32) HR2.out) (xB1_ HB ba))); rintro e Nc ⟨Ra, rfl, ho0, hb⟩; refine ⟨_, rfl, ?_⟩; have da := mk_ (Kd.V_lower (Kd.V_mono (ok' := fun k_ => k_ ≠ ea) ho0 (fun k_ hk_ => Or.elim hk_ (fun hs_ => Or.elim hs_ (fun hs_ => fun e_ => Nat.not_le.2 hs_ (by rw [e_]; exact ja.out)) (fun hs_ => fun e_ => Nat.not_le.2 hs_ (by rw [e_]; exact ja.out))) (fun hn_ => (Kd.freshB (g := ea) (o := .cells zC_ 32 (0, 0)) (xK_ aa.out) k_ hn_)))) (bZ_ (xB1_ HB ba))); replace aa := mk_ (kB_ (xK_ aa.out) hb); replace HB := mk_ (bT_ (xB1_ HB ba) hb); obtain ⟨Oc, Pc, Fb⟩ := Kd.V_slice da.out; subst Fb; have na : 0 ≤ (0 : Int) := (by omega); have oa : 0 < (ha.length : Int) := oD_; obtain ⟨Fa, Ga, sa⟩ := Kd.at_int (Kd.V_reads' da.out).2.2 0 na oa; cases Ga; have Sa : (0 < ha.length) = True := eq_true (by omega); (try rw [show ((0 : Int)).toNat = 0 from rfl] at sa); (try rw [Addr.add_zero'] at sa); replace na := eq_true na; replace oa := eq_true oa) | ((with_reducible refine gC_ (f := 68) rfl ?_); refine gL_ (some 39) rfl rfl Tryd.func68 kr_ rfl #[.slice A1 l1.length c1] rfl mp_ ?_; (with_reducible refine (r1_text.calls k _ _ l1 ua _ (xC_ (Kd.C_below HR1.out HB.out)) HC1.out eb.out).mono ?_); rintro e Qc ⟨rfl, hb⟩; refine ⟨_, rfl, ?_⟩; replace da := mk_ (Kd.vB_ (xV_ da.out) hb); replace aa := mk_ (kB_ (xK_ aa.out) hb); replace HB := mk_ (bT_ (xB1_ HB ba) hb)) | ((with_reducible refine gD_ (N := 8) rfl ?_); refine bX_ (N := 8) (cs := zC_) (t := 32) ?_; intro ka hg Rc hbox hb; replace da := mk_ (Kd.vB_ (Kd.V_elderB (xV_ da.out) ka (Nat.le_of_eq hg.symm)) hb); have Na := mk_ (hbox); have Ja := mk_ (gZ_ hg (bZ_ (xB1_ HB ba))); have Pa := mk_ (gZ_ hg (bZ_ (xB1_ HB ba))); replace HB := mk_ (bT_ (xB1_ HB ba) hb); have wa := mk_ (gN_ hg (xK_ aa.out)); have Wa := mk_ (gM_ hg (xK_ aa.out)); replace aa := mk_ (kB_ (xK_ aa.out) hb); clear hb hbox hg; have hnb128 := Wa.out; have hnc128 := wa.out; obtain ⟨Sc, Tc, Uc, Vc, Wc, Xc⟩ := kG3_ Na.out; have Ka : 0 ≤ (0 : Int) := (by omega); have La : 0 < (l2.length : Int) := oD_; obtain ⟨Ea, Xa, fa⟩ := Kd.at_int HR2.out 0 Ka La; cases Xa; have Gb : (0 < l2.length) = True := eq_true (by omega); (try rw [show ((0 : Int)).toNat = 0 from rfl] at fa); (try rw [Addr.add_zero'] at fa); have Aa : Ea.block ≠ ka := Nat.ne_of_lt (Nat.lt_of_lt_of_le (by have := World.block_lt_of_cell? _ _ fa; first | rwa [ab_] at this | exact this) Ja.out); have Ba : Ea.block ≠ ka := Nat.ne_of_lt (Nat.lt_of_lt_of_le (by have := World.block_lt_of_cell? _ _ fa; first | rwa [ab_] at this | exact this) Ja.out); have Ca : Ea.block ≠ ka := Nat.ne_of_lt (Nat.lt_of_lt_of_le (by have := World.block_lt_of_cell? _ _ fa; first | rwa [ab_] at this | exact this) Ja.out); (try replace fa := cT_ HB fa); replace fa := (cf_ (p := ⟨ka, 0, none⟩) (by first | (rw [ab_]; exact Aa) | (show (Addr.add _ _).block ≠ _; rw [ab_]; exact Aa) | exact Aa) (.bool a0)).trans fa; replace fa := (cf_ (p := ⟨ka, 1, none⟩) (by first | (rw [ab_]; exact Ba) | (show (Addr.add _ _).block ≠ _; rw [ab_]; exact Ba) | exact Ba) (.string ua)).trans fa; replace fa := (cf_ (p := ⟨ka, 2, none⟩) (by first | (rw [ab_]; exact Ca) | (show (Addr.add _ _).block ≠ _; rw [ab_]; exact Ca) | exact Ca) (.string (⟨#[]⟩ : ByteArray))).trans fa; clear Aa Ba Ca; replace Ka := eq_true Ka; replace La := eq_true La) | ((with_reducible refine gC_ (f := 68) rfl ?_); refine gL_ (some 51) rfl rfl Tryd.func68 kr_ rfl #[.slice (some Ea) l2.length c2] rfl mp_ ?_; (with_reducible refine (r1_text.calls k _ _ l2 gb _ ?side1 HC2.out Eb.out).mono ?_); (case side1 => exact Kd.C_below HR2.out (xB2_ HB ba Pa)); rintro e Yc ⟨rfl, hb⟩; refine ⟨_, rfl, ?_⟩; replace da := mk_ (Kd.vB_ (by refine xv_ ?_; exact (Kd.V_mono (Kd.V_far (p := ⟨ka, 2, none⟩) (Kd.V_far (p := ⟨ka, 1, none⟩) (Kd.V_far (p := ⟨ka, 0, none⟩) (Kd.V_mono da.out (fun k_ hk => (⟨hk, hk.2⟩ : _ ∧ k_ ≠ ka))) (fun _ hk => hk.2) (.bool a0)) (fun _ hk => hk.2) (.string ua)) (fun _ hk => hk.2) (.string (⟨#[]⟩ : ByteArray))) (fun _ h_ => h_.1))) hb); replace aa := mk_ (kB_ (g := ea) (o := .cells zC_ 32 (0, 0)) (by refine xk_ ?_; refine bf_ ?_ wa.out _; refine xk_ ?_; refine bf_ ?_ wa.out _; refine xk_ ?_; refine bf_ ?_ wa.out _; refine xk_ ?_; exact aa.out) hb); replace Na := mk_ (kB_ (g := ka) (o := .cells #[.bool a0, .string ua, .string (⟨#[]⟩ : ByteArray)] 32 (0, 0)) (by refine xk_ ?_; refine kQ_ (cs := #[.bool a0, .string ua, .string (⟨#[]⟩ : ByteArray)]) ?_ 2 _ rfl; refine kQ_ (cs := #[.bool a0, .string (⟨#[]⟩ : ByteArray), .string (⟨#[]⟩ : ByteArray)]) ?_ 1 _ rfl; refine kQ_ (cs := zC_) ?_ 0 _ rfl; exact Na.out) hb); replace HB := mk_ (bT_ (xB2_ HB ba Pa) hb); obtain ⟨Zc, ad, bd, cd, dd, ed⟩ := kG3_ Na.out; obtain ⟨fd, id, jd, kd, ld, md⟩ := kG3_ aa.out))
      refine bodyPost_ret (results_cell_row rfl _ _ ea 32 #[.bool a0, .string ua, .string gb] (0, 0) _ rfl (by refine xk_ ?_; refine kQ_ (cs := #[.bool a0, .string ua, .string (⟨#[]⟩ : ByteArray)]) ?_ 2 _ rfl; refine kQ_ (cs := #[.bool a0, .string (⟨#[]⟩ : ByteArray), .string (⟨#[]⟩ : ByteArray)]) ?_ 1 _ rfl; refine kQ_ (cs := zC_) ?_ 0 _ rfl; refine bf_ ?_ wa.out _; refine xk_ ?_; exact aa.out) Tryd.underlying32 rfl kr_) rfl ?_
      exact ⟨rE_, xB2_ HB ba Pa⟩
     ·have Db := decide_eq_false Oa
      clear Oa
      simp only [Option.some.injEq, Prod.mk.injEq] at H
      obtain ⟨rfl, rfl, rfl⟩ := H
      go_enter Tryd.func78, Tryd.ntmps78
      go_wp2_with (first | ((with_reducible refine gD_ (N := 6) rfl ?_); refine bX_ (N := 6) (cs := zC_) (t := 32) ?_; intro ea hg nd hbox hb; have aa := mk_ (hbox); have ja := mk_ (gZ_ hg (bZ_ (xB_ HB))); have ba := mk_ (gZ_ hg (bZ_ (xB_ HB))); replace HB := mk_ (bT_ (xB_ HB) hb); clear hb hbox hg) | ((with_reducible refine gC_ (f := 89) rfl ?_); refine gL_ (some 15) rfl rfl Tryd.func89 kr_ rfl #[.slice A1 l1.length c1, .slice A2 l2.length c2] rfl mp_ ?_; (with_reducible refine (r1_common.calls k (fun k_ => k_ < w.heap.size) _ _ l1 (fun k_ => k_ < w.heap.size) _ _ l2 ha _ ?side1 ?side2 A7.out).mono ?_); (case side1 => exact Kd.V_mk HC1.out (Kd.F_below (Kd.C_F (Kd.heap_int .u32) HR1.out) (xB1_ HB ba))); (case side2 => exact Kd.V_mk HC2.out (Kd.F_below (Kd.C_F (Kd.heap_int .u32) HR2.out) (xB1_ HB ba))); rintro e od ⟨Ra, rfl, ho0, hb⟩; refine ⟨_, rfl, ?_⟩; have da := mk_ (Kd.V_lower (Kd.V_mono (ok' := fun k_ => k_ ≠ ea) ho0 (fun k_ hk_ => Or.elim hk_ (fun hs_ => Or.elim hs_ (fun hs_ => fun e_ => Nat.not_le.2 hs_ (by rw [e_]; exact ja.out)) (fun hs_ => fun e_ => Nat.not_le.2 hs_ (by rw [e_]; exact ja.out))) (fun hn_ => (Kd.freshB (g := ea) (o := .cells zC_ 32 (0, 0)) (xK_ aa.out) k_ hn_)))) (bZ_ (xB1_ HB ba))); replace aa := mk_ (kB_ (xK_ aa.out) hb); replace HB := mk_ (bT_ (xB1_ HB ba) hb); obtain ⟨pd, qd, Hb⟩ := Kd.V_slice da.out; subst Hb; have na : 0 ≤ (0 : Int) := (by omega); have oa : 0 < (ha.length : Int) := oD_; obtain ⟨Fa, Ga, sa⟩ := Kd.at_int (Kd.V_reads' da.out).2.2 0 na oa; cases Ga; have Sa : (0 < ha.length) = True := eq_true (by omega); (try rw [show ((0 : Int)).toNat = 0 from rfl] at sa); (try rw [Addr.add_zero'] at sa); replace na := eq_true na; replace oa := eq_true oa) | ((with_reducible refine gC_ (f := 68) rfl ?_); refine gL_ (some 39) rfl rfl Tryd.func68 kr_ rfl #[.slice A1 l1.length c1] rfl mp_ ?_; (with_reducible refine (r1_text.calls k _ _ l1 ua _ (xC_ (Kd.C_below HR1.out HB.out)) HC1.out eb.out).mono ?_); rintro e sd ⟨rfl, hb⟩; refine ⟨_, rfl, ?_⟩; replace da := mk_ (Kd.vB_ (xV_ da.out) hb); replace aa := mk_ (kB_ (xK_ aa.out) hb); replace HB := mk_ (bT_ (xB1_ HB ba) hb)) | ((with_reducible refine gD_ (N := 8) rfl ?_); refine bX_ (N := 8) (cs := zC_) (t := 32) ?_; intro ka hg td hbox hb; replace da := mk_ (Kd.vB_ (Kd.V_elderB (xV_ da.out) ka (Nat.le_of_eq hg.symm)) hb); have Na := mk_ (hbox); have Ja := mk_ (gZ_ hg (bZ_ (xB1_ HB ba))); have Pa := mk_ (gZ_ hg (bZ_ (xB1_ HB ba))); replace HB := mk_ (bT_ (xB1_ HB ba) hb); have wa := mk_ (gN_ hg (xK_ aa.out)); have Wa := mk_ (gM_ hg (xK_ aa.out)); replace aa := mk_ (kB_ (xK_ aa.out) hb); clear hb hbox hg; have hnb138 := Wa.out; have hnc138 := wa.out; obtain ⟨ud, vd, wd, xd, yd, zd⟩ := kG3_ Na.out; have Ka : 0 ≤ (0 : Int) := (by omega); have La : 0 < (l2.length : Int) := oD_; obtain ⟨Ea, Xa, fa⟩ := Kd.at_int HR2.out 0 Ka La; cases Xa; have Gb : (0 < l2.length) = True := eq_true (by omega); (try rw [show ((0 : Int)).toNat = 0 from rfl] at fa); (try rw [Addr.add_zero'] at fa); have Aa : Ea.block ≠ ka := Nat.ne_of_lt (Nat.lt_of_lt_of_le (by have := World.block_lt_of_cell? _ _ fa; first | rwa [ab_] at this | exact this) Ja.out); have Ba : Ea.block ≠ ka := Nat.ne_of_lt (Nat.lt_of_lt_of_le (by have := World.block_lt_of_cell? _ _ fa; first | rwa [ab_] at this | exact this) Ja.out); have Ca : Ea.block ≠ ka := Nat.ne_of_lt (Nat.lt_of_lt_of_le (by have := World.block_lt_of_cell? _ _ fa; first | rwa [ab_] at this | exact this) Ja.out); (try replace fa := cT_ HB fa); replace fa := (cf_ (p := ⟨ka, 0, none⟩) (by first | (rw [ab_]; exact Aa) | (show (Addr.add _ _).block ≠ _; rw [ab_]; exact Aa) | exact Aa) (.bool a0)).trans fa; replace fa := (cf_ (p := ⟨ka, 1, none⟩) (by first | (rw [ab_]; exact Ba) | (show (Addr.add _ _).block ≠ _; rw [ab_]; exact Ba) | exact Ba) (.string ua)).trans fa; replace fa := (cf_ (p := ⟨ka, 2, none⟩) (by first | (rw [ab_]; exact Ca) | (show (Addr.add _ _).block ≠ _; rw [ab_]; exact Ca) | exact Ca) (.string (⟨#[]⟩ : ByteArray))).trans fa; clear Aa Ba Ca; replace Ka := eq_true Ka; replace La := eq_true La; obtain ⟨Ad, Bd, Cd, Dd, Ed, Fd⟩ := kG3_ aa.out))
      refine bodyPost_ret (results_cell_row rfl _ _ ea 32 #[.bool a0, .string ua, .string (⟨#[]⟩ : ByteArray)] (0, 0) _ rfl (by refine xk_ ?_; refine kQ_ (cs := #[.bool a0, .string ua, .string (⟨#[]⟩ : ByteArray)]) ?_ 2 _ rfl; refine kQ_ (cs := #[.bool a0, .string (⟨#[]⟩ : ByteArray), .string (⟨#[]⟩ : ByteArray)]) ?_ 1 _ rfl; refine kQ_ (cs := zC_) ?_ 0 _ rfl; refine bf_ ?_ wa.out _; refine xk_ ?_; refine bf_ ?_ wa.out _; refine xk_ ?_; refine bf_ ?_ wa.out _; refine xk_ ?_; exact aa.out) Tryd.underlying32 rfl kr_) rfl ?_
      exact ⟨rE_, xB2_ HB ba Pa⟩
def r1_Make.f (k : Nat) (a0 : Bool) (a1 : ByteArray) (a2 : ByteArray) : Option (Bool × ByteArray × ByteArray × Bool) := (r1_limbs.f k a2).bind fun t276 => (if (t276.length : Int) = 0 then (some (false, (⟨#[]⟩ : ByteArray), (⟨#[]⟩ : ByteArray), false)) else ((r1_limbs.f k a1).bind fun t279 => ((r1_reduced.f k a0 t279 t276).bind fun bt282 => (some (bt282.1, bt282.2.1, bt282.2.2, true)))))
theorem r1_Make.mono : ∀ a0 a1 a2 k, LeO (r1_Make.f k a0 a1 a2) (r1_Make.f (k + 1) a0 a1 a2) := by
 intro a0 a1 a2 k
 unfold r1_Make.f
 repeat' first
   | (with_reducible first | exact r1_limbs.mono _ _ | exact r1_reduced.mono _ _ _ _ | exact LeO.refl _ | exact LeO.none _ | refine LeO.ite ?_ ?_ | refine LeO.bind ?_ (fun _ => ?_))
theorem r1_Make.calls (k : Nat) (a0 : Bool) (a1 : ByteArray) (a2 : ByteArray) (r1 : Bool) (r2 : ByteArray) (r3 : ByteArray) (r4 : Bool) (w : World) (h : r1_Make.f k a0 a1 a2 = some (r1, r2, r3, r4)) :
  Calls Tryd.prog 67 #[.bool a0, .string a1, .string a2] w fun e w' => e = .returned (.tuple #[.agg #[.bool r1, .string r2, .string r3], .bool r4]) ∧ Below w.heap.size w w' := by
 have hu32 := Tryd.underlying32
 have HB := mk_ (Below.refl w.heap.size w)
 have H := h
 unfold r1_Make.f at H
 clear h
 obtain ⟨da, A4, H⟩ := oB_ H
 (try dsimp only at H)
 replace H := iS_ H
 rcases H with ⟨c5, H⟩ | ⟨c5, H⟩
 ·have ka := beq_iff_eq.mpr c5
  have la := bne_eq_false_iff_eq.mpr c5
  clear c5
  simp only [Option.some.injEq, Prod.mk.injEq] at H
  obtain ⟨rfl, rfl, rfl, rfl⟩ := H
  go_enter Tryd.func67, Tryd.ntmps67
  go_wp2_with (first | ((with_reducible refine gD_ (N := 6) rfl ?_); refine bX_ (N := 6) (cs := zC_) (t := 32) ?_; intro ga hg w6 hbox hb; have aa := mk_ (hbox); have ma := mk_ (gZ_ hg (bZ_ (xB_ HB))); have ba := mk_ (gZ_ hg (bZ_ (xB_ HB))); replace HB := mk_ (bT_ (xB_ HB) hb); clear hb hbox hg) | ((with_reducible refine gC_ (f := 77) rfl ?_); refine gL_ (some 10) rfl rfl Tryd.func77 kr_ rfl #[.string a2] rfl mp_ ?_; (with_reducible refine (r1_limbs.calls k a2 da _ A4.out).mono ?_); rintro e w7 ⟨na, rfl, ho0, hb⟩; refine ⟨_, rfl, ?_⟩; have ca := mk_ (Kd.rL_ ho0 (bZ_ (xB1_ HB ba))); replace aa := mk_ (kB_ (xK_ aa.out) hb); replace HB := mk_ (bT_ (xB1_ HB ba) hb); obtain ⟨Ao8, co8, eo8⟩ := Kd.rS_' ca.out; subst eo8; obtain ⟨ua, va, wa, xa, ya, za⟩ := kG3_ aa.out))
  refine bodyPost_ret (results_ct rfl _ _ ga 32 zC_ (0, 0) _ rfl (by refine xk_ ?_; refine kQ_ (cs := zC_) ?_ 2 _ rfl; refine kQ_ (cs := zC_) ?_ 1 _ rfl; refine kQ_ (cs := zC_) ?_ 0 _ rfl; exact aa.out) Tryd.underlying32 rfl kr_) rfl ?_
  exact ⟨rE_, xB1_ HB ba⟩
 ·have ka := beq_eq_false_iff_ne.mpr c5
  have la := bne_iff_ne.mpr c5
  have Aa : ¬ (da = []) := fun h_ => c5 (by rw [h_]; rfl)
  obtain ⟨ha, A10, H⟩ := oB_ H
  (try dsimp only at H)
  obtain ⟨⟨fa, ia, ja⟩, A11, H⟩ := oB_ H
  (try dsimp only at H)
  simp only [Option.some.injEq, Prod.mk.injEq] at H
  obtain ⟨rfl, rfl, rfl, rfl⟩ := H
  go_enter Tryd.func67, Tryd.ntmps67
  go_wp2_with (first | ((with_reducible refine gD_ (N := 6) rfl ?_); refine bX_ (N := 6) (cs := zC_) (t := 32) ?_; intro ga hg w12 hbox hb; have aa := mk_ (hbox); have ma := mk_ (gZ_ hg (bZ_ (xB_ HB))); have ba := mk_ (gZ_ hg (bZ_ (xB_ HB))); replace HB := mk_ (bT_ (xB_ HB) hb); clear hb hbox hg) | ((with_reducible refine gC_ (f := 77) rfl ?_); refine gL_ (some 10) rfl rfl Tryd.func77 kr_ rfl #[.string a2] rfl mp_ ?_; (with_reducible refine (r1_limbs.calls k a2 da _ A4.out).mono ?_); rintro e w13 ⟨na, rfl, ho0, hb⟩; refine ⟨_, rfl, ?_⟩; have ca := mk_ (Kd.rL_ ho0 (bZ_ (xB1_ HB ba))); replace aa := mk_ (kB_ (xK_ aa.out) hb); replace HB := mk_ (bT_ (xB1_ HB ba) hb); obtain ⟨oa, pa, qa⟩ := Kd.rS_' ca.out; subst qa) | ((with_reducible refine gC_ (f := 77) rfl ?_); refine gL_ (some 17) rfl rfl Tryd.func77 kr_ rfl #[.string a1] rfl mp_ ?_; (with_reducible refine (r1_limbs.calls k a1 ha _ A10.out).mono ?_); rintro e w15 ⟨Ba, rfl, ho0, hb⟩; refine ⟨_, rfl, ?_⟩; have ea := mk_ (Kd.rL_ (Kd.R_new' ho0 (Kd.R_lt (xR_ ca.out))) (bZ_ (xB1_ HB ba))); replace ca := mk_ (Kd.R_elder' (xR_ ca.out) (Kd.R_base ho0) hb); replace aa := mk_ (kB_ (xK_ aa.out) hb); replace HB := mk_ (bT_ (xB1_ HB ba) hb); obtain ⟨ra, sa, ta⟩ := Kd.rS_' ea.out; subst ta) | ((with_reducible refine gC_ (f := 78) rfl ?_); refine gL_ (some 19) rfl rfl Tryd.func78 kr_ rfl #[.bool a0, .slice ra ha.length sa, .slice oa da.length pa] rfl mp_ ?_; (with_reducible refine (r1_reduced.calls k a0 _ _ ha _ _ da fa ia ja _ ?side1 ?side2 ?side3 ?side4 A11.out).mono ?_); (case side1 => repeat (first | exact (Kd.rr_' ea.out).2.2 | (with_reducible refine Kd.C_alloc ?_ _) | (with_reducible refine Kd.C_drewN ?_ _) | (with_reducible refine Kd.C_drew ?_))); (case side2 => exact (Kd.rr_' ea.out).2.1); (case side3 => repeat (first | exact (Kd.rr_' ca.out).2.2 | (with_reducible refine Kd.C_alloc ?_ _) | (with_reducible refine Kd.C_drewN ?_ _) | (with_reducible refine Kd.C_drew ?_))); (case side4 => exact (Kd.rr_' ca.out).2.1); rintro e w17 ⟨rfl, hb⟩; refine ⟨_, rfl, ?_⟩; replace ca := mk_ (Kd.rB_ (xR_ ca.out) hb); replace ea := mk_ (Kd.rB_ (xR_ ea.out) hb); replace aa := mk_ (kB_ (xK_ aa.out) hb); replace HB := mk_ (bT_ (xB1_ HB ba) hb); obtain ⟨Ca, Da, Ea, Fa, Ga, Ha⟩ := kG3_ aa.out))
  refine bodyPost_ret (results_ct rfl _ _ ga 32 #[.bool fa, .string ia, .string ja] (0, 0) _ rfl (by refine xk_ ?_; refine kQ_ (cs := #[.bool fa, .string ia, .string (⟨#[]⟩ : ByteArray)]) ?_ 2 _ rfl; refine kQ_ (cs := #[.bool fa, .string (⟨#[]⟩ : ByteArray), .string (⟨#[]⟩ : ByteArray)]) ?_ 1 _ rfl; refine kQ_ (cs := zC_) ?_ 0 _ rfl; exact aa.out) Tryd.underlying32 rfl kr_) rfl ?_
  exact ⟨rE_, xB1_ HB ba⟩
def r1_size.f (a0 : Int) : Option (Int) := if a0 < 0 then (some (IntKind.u64.wrap ((IntKind.u64.wrap (wrap64 (-(wrap64 (a0 + 1))))) + 1))) else (some (IntKind.u64.wrap (a0)))
theorem r1_size.calls (a0 : Int) (r : Int) (w : World) (h : r1_size.f a0 = some r) :
  Calls Tryd.prog 53 #[.int .i64 a0] w fun e w' => e = .returned (.int .u64 r) ∧ D0_ w w' := by
 have H := h
 unfold r1_size.f at H
 clear h
 replace H := iS_ H
 rcases H with ⟨c2, H⟩ | ⟨c2, H⟩
 ·have aa := decide_eq_true c2
  clear c2
  obtain rfl := Option.some.inj H
  go_enter Tryd.func53, Tryd.ntmps53
  go_wp2
  go_ret
  exact ⟨rS_, by repeat (first | exact D0_.refl _ | apply D0_.step)⟩
 ·have aa := decide_eq_false c2
  clear c2
  obtain rfl := Option.some.inj H
  go_enter Tryd.func53, Tryd.ntmps53
  go_wp2
  go_ret
  exact ⟨rS_, by repeat (first | exact D0_.refl _ | apply D0_.step)⟩
def r1_Fraction.f (k : Nat) (a0 : Int) (a1 : Int) : Option (Bool × ByteArray × ByteArray × Bool) := (r1_size.f a0).bind fun t286 => ((r1_FromUint.f k t286).bind fun t287 => ((r1_size.f a1).bind fun t288 => ((r1_FromUint.f k t288).bind fun t289 => ((r1_Make.f k ((decide (a0 < 0)) != (decide (a1 < 0))) t287 t289).bind fun bt290 => (some (bt290.1, bt290.2.1, bt290.2.2.1, bt290.2.2.2))))))
theorem r1_Fraction.mono : ∀ a0 a1 k, LeO (r1_Fraction.f k a0 a1) (r1_Fraction.f (k + 1) a0 a1) := by
 intro a0 a1 k
 unfold r1_Fraction.f
 repeat' first
   | (with_reducible first | exact r1_FromUint.mono _ _ | exact r1_Make.mono _ _ _ _ | exact LeO.refl _ | exact LeO.none _ | refine LeO.ite ?_ ?_ | refine LeO.bind ?_ (fun _ => ?_))
theorem r1_Fraction.calls (k : Nat) (a0 : Int) (a1 : Int) (r1 : Bool) (r2 : ByteArray) (r3 : ByteArray) (r4 : Bool) (w : World) (h : r1_Fraction.f k a0 a1 = some (r1, r2, r3, r4)) :
  Calls Tryd.prog 51 #[.int .i64 a0, .int .i64 a1] w fun e w' => e = .returned (.tuple #[.agg #[.bool r1, .string r2, .string r3], .bool r4]) ∧ Below w.heap.size w w' := by
 have hu32 := Tryd.underlying32
 have HB := mk_ (Below.refl w.heap.size w)
 have H := h
 unfold r1_Fraction.f at H
 clear h
 obtain ⟨da, A3, H⟩ := oB_ H
 (try dsimp only at H)
 obtain ⟨ea, A4, H⟩ := oB_ H
 (try dsimp only at H)
 obtain ⟨fa, A5, H⟩ := oB_ H
 (try dsimp only at H)
 obtain ⟨ga, A6, H⟩ := oB_ H
 (try dsimp only at H)
 obtain ⟨⟨ca, ha, ja, ka⟩, A7, H⟩ := oB_ H
 (try dsimp only at H)
 simp only [Option.some.injEq, Prod.mk.injEq] at H
 obtain ⟨rfl, rfl, rfl, rfl⟩ := H
 go_enter Tryd.func51, Tryd.ntmps51
 go_wp2_with (first | ((with_reducible refine gD_ (N := 4) rfl ?_); refine bX_ (N := 4) (cs := zC_) (t := 32) ?_; intro ia hg w8 hbox hb; have aa := mk_ (hbox); have la := mk_ (gZ_ hg (bZ_ (xB_ HB))); have ba := mk_ (gZ_ hg (bZ_ (xB_ HB))); replace HB := mk_ (bT_ (xB_ HB) hb); clear hb hbox hg) | ((with_reducible refine gC_ (f := 53) rfl ?_); refine gL_ (some 12) rfl rfl Tryd.func53 kr_ rfl #[.int .i64 a0] rfl mp_ ?_; (with_reducible refine (r1_size.calls a0 da _ A3.out).mono ?_); rintro e w' ⟨rfl, ⟨nd, rfl⟩⟩; refine ⟨_, rfl, ?_⟩; (try (rw [drewN_self w8]; generalize hq_ : World.drewN w8 _ = w8; replace aa : A0_ (w8.heap[ia]? = some (.cells zC_ 32 (0, 0))) := ⟨by rw [← hq_]; exact (xK_ aa.out)⟩; replace HB : A0_ (Below w.heap.size w w8) := ⟨by rw [← hq_]; exact (xB1_ HB ba)⟩; clear hq_))) | ((with_reducible refine gC_ (f := 52) rfl ?_); refine gL_ (some 13) rfl rfl Tryd.func52 kr_ rfl #[.int .u64 da] rfl mp_ ?_; (with_reducible refine (r1_FromUint.calls k da ea _ A4.out).mono ?_); rintro e w9 ⟨rfl, hb⟩; refine ⟨_, rfl, ?_⟩; replace aa := mk_ (kB_ (xK_ aa.out) hb); replace HB := mk_ (bT_ (xB1_ HB ba) hb)) | ((with_reducible refine gC_ (f := 53) rfl ?_); refine gL_ (some 15) rfl rfl Tryd.func53 kr_ rfl #[.int .i64 a1] rfl mp_ ?_; (with_reducible refine (r1_size.calls a1 fa _ A5.out).mono ?_); rintro e w' ⟨rfl, ⟨nd, rfl⟩⟩; refine ⟨_, rfl, ?_⟩; (try (rw [drewN_self w9]; generalize hq_ : World.drewN w9 _ = w9; replace aa : A0_ (w9.heap[ia]? = some (.cells zC_ 32 (0, 0))) := ⟨by rw [← hq_]; exact (xK_ aa.out)⟩; replace HB : A0_ (Below w.heap.size w w9) := ⟨by rw [← hq_]; exact (xB1_ HB ba)⟩; clear hq_))) | ((with_reducible refine gC_ (f := 52) rfl ?_); refine gL_ (some 16) rfl rfl Tryd.func52 kr_ rfl #[.int .u64 fa] rfl mp_ ?_; (with_reducible refine (r1_FromUint.calls k fa ga _ A6.out).mono ?_); rintro e w10 ⟨rfl, hb⟩; refine ⟨_, rfl, ?_⟩; replace aa := mk_ (kB_ (xK_ aa.out) hb); replace HB := mk_ (bT_ (xB1_ HB ba) hb)) | ((with_reducible refine gC_ (f := 67) rfl ?_); refine gL_ (some 17) rfl rfl Tryd.func67 kr_ rfl #[.bool ((decide (a0 < 0)) != (decide (a1 < 0))), .string ea, .string ga] rfl mp_ ?_; (with_reducible refine (r1_Make.calls k ((decide (a0 < 0)) != (decide (a1 < 0))) ea ga ca ha ja ka _ A7.out).mono ?_); rintro e w11 ⟨rfl, hb⟩; refine ⟨_, rfl, ?_⟩; replace aa := mk_ (kB_ (xK_ aa.out) hb); replace HB := mk_ (bT_ (xB1_ HB ba) hb); obtain ⟨ma, na, oa, pa, qa, ra⟩ := kG3_ aa.out))
 refine bodyPost_ret (results_ct rfl _ _ ia 32 #[.bool ca, .string ha, .string ja] (0, 0) _ rfl (by refine xk_ ?_; refine kQ_ (cs := #[.bool ca, .string ha, .string (⟨#[]⟩ : ByteArray)]) ?_ 2 _ rfl; refine kQ_ (cs := #[.bool ca, .string (⟨#[]⟩ : ByteArray), .string (⟨#[]⟩ : ByteArray)]) ?_ 1 _ rfl; refine kQ_ (cs := zC_) ?_ 0 _ rfl; exact aa.out) Tryd.underlying32 rfl kr_) rfl ?_
 exact ⟨rE_, xB1_ HB ba⟩
def l0_Ratio.f (k : Nat) (a0 : Int) (a1 : Int) : Option (Bool × ByteArray × ByteArray) := (r1_Fraction.f k a0 a1).bind fun bt295 => (some (bt295.1, bt295.2.1, bt295.2.2.1))
theorem l0_Ratio.mono : ∀ a0 a1 k, LeO (l0_Ratio.f k a0 a1) (l0_Ratio.f (k + 1) a0 a1) := by
 intro a0 a1 k
 unfold l0_Ratio.f
 repeat' first
   | (with_reducible first | exact r1_Fraction.mono _ _ _ | exact LeO.refl _ | exact LeO.none _ | refine LeO.ite ?_ ?_ | refine LeO.bind ?_ (fun _ => ?_))
theorem l0_Ratio.calls (k : Nat) (a0 : Int) (a1 : Int) (r1 : Bool) (r2 : ByteArray) (r3 : ByteArray) (w : World) (h : l0_Ratio.f k a0 a1 = some (r1, r2, r3)) :
  Calls Tryd.prog 34 #[.int .i64 a0, .int .i64 a1] w fun e w' => e = .returned (.agg #[.bool r1, .string r2, .string r3]) ∧ Below w.heap.size w w' := by
 have hu32 := Tryd.underlying32
 have HB := mk_ (Below.refl w.heap.size w)
 have H := h
 unfold l0_Ratio.f at H
 clear h
 obtain ⟨⟨ca, ea, fa, ga⟩, A3, H⟩ := oB_ H
 (try dsimp only at H)
 simp only [Option.some.injEq, Prod.mk.injEq] at H
 obtain ⟨rfl, rfl, rfl⟩ := H
 go_enter Tryd.func34, Tryd.ntmps34
 go_wp2_with (first | ((with_reducible refine gD_ (N := 4) rfl ?_); refine bX_ (N := 4) (cs := zC_) (t := 32) ?_; intro ha hg w4 hbox hb; have aa := mk_ (hbox); have la := mk_ (gZ_ hg (bZ_ (xB_ HB))); have ba := mk_ (gZ_ hg (bZ_ (xB_ HB))); replace HB := mk_ (bT_ (xB_ HB) hb); clear hb hbox hg) | ((with_reducible refine gC_ (f := 51) rfl ?_); refine gL_ (some 10) rfl rfl Tryd.func51 kr_ rfl #[.int .i64 a0, .int .i64 a1] rfl mp_ ?_; (with_reducible refine (r1_Fraction.calls k a0 a1 ca ea fa ga _ A3.out).mono ?_); rintro e w5 ⟨rfl, hb⟩; refine ⟨_, rfl, ?_⟩; replace aa := mk_ (kB_ (xK_ aa.out) hb); replace HB := mk_ (bT_ (xB1_ HB ba) hb)) | ((with_reducible refine gD_ (N := 5) rfl ?_); refine bX_ (N := 5) (cs := zC_) (t := 32) ?_; intro ma hg w6 hbox hb; have ia := mk_ (hbox); have na := mk_ (gZ_ hg (bZ_ (xB1_ HB ba))); have ja := mk_ (gZ_ hg (bZ_ (xB1_ HB ba))); replace HB := mk_ (bT_ (xB1_ HB ba) hb); have da := mk_ (gN_ hg (xK_ aa.out)); have ka := mk_ (gM_ hg (xK_ aa.out)); replace aa := mk_ (kB_ (xK_ aa.out) hb); clear hb hbox hg; have hnb7 := ka.out; have hnc7 := da.out; obtain ⟨oa, pa, qa, ra, sa, ta⟩ := kG3_ ia.out; obtain ⟨ua, va, wa, xa, ya, za⟩ := kG3_ aa.out))
 refine bodyPost_ret (results_cell_row rfl _ _ ha 32 #[.bool ca, .string ea, .string fa] (0, 0) _ rfl (by refine xk_ ?_; refine kQ_ (cs := #[.bool ca, .string ea, .string (⟨#[]⟩ : ByteArray)]) ?_ 2 _ rfl; refine kQ_ (cs := #[.bool ca, .string (⟨#[]⟩ : ByteArray), .string (⟨#[]⟩ : ByteArray)]) ?_ 1 _ rfl; refine kQ_ (cs := zC_) ?_ 0 _ rfl; refine bf_ ?_ da.out _; refine xk_ ?_; refine bf_ ?_ da.out _; refine xk_ ?_; refine bf_ ?_ da.out _; refine xk_ ?_; exact aa.out) Tryd.underlying32 rfl kr_) rfl ?_
 exact ⟨rE_, xB2_ HB ba ja⟩
def r1_Int.f (k : Nat) (a0 : Int) : Option (Bool × ByteArray × ByteArray) := (r1_size.f a0).bind fun t131 => ((r1_FromUint.f k t131).bind fun t132 => (some (decide (a0 < 0), t132, (⟨#[]⟩ : ByteArray))))
theorem r1_Int.mono : ∀ a0 k, LeO (r1_Int.f k a0) (r1_Int.f (k + 1) a0) := by
 intro a0 k
 unfold r1_Int.f
 repeat' first
   | (with_reducible first | exact r1_FromUint.mono _ _ | exact LeO.refl _ | exact LeO.none _ | refine LeO.ite ?_ ?_ | refine LeO.bind ?_ (fun _ => ?_))
theorem r1_Int.calls (k : Nat) (a0 : Int) (r1 : Bool) (r2 : ByteArray) (r3 : ByteArray) (w : World) (h : r1_Int.f k a0 = some (r1, r2, r3)) :
  Calls Tryd.prog 35 #[.int .i64 a0] w fun e w' => e = .returned (.agg #[.bool r1, .string r2, .string r3]) ∧ Below w.heap.size w w' := by
 have hu32 := Tryd.underlying32
 have HB := mk_ (Below.refl w.heap.size w)
 have H := h
 unfold r1_Int.f at H
 clear h
 obtain ⟨ba, A2, H⟩ := oB_ H
 (try dsimp only at H)
 obtain ⟨ca, A3, H⟩ := oB_ H
 (try dsimp only at H)
 simp only [Option.some.injEq, Prod.mk.injEq] at H
 obtain ⟨rfl, rfl, rfl⟩ := H
 go_enter Tryd.func35, Tryd.ntmps35
 go_wp2_with (first | ((with_reducible refine gD_ (N := 2) rfl ?_); refine bX_ (N := 2) (cs := zC_) (t := 32) ?_; intro ea hg w4 hbox hb; have aa := mk_ (hbox); have fa := mk_ (gZ_ hg (bZ_ (xB_ HB))); have da := mk_ (gZ_ hg (bZ_ (xB_ HB))); replace HB := mk_ (bT_ (xB_ HB) hb); clear hb hbox hg) | ((with_reducible refine gC_ (f := 53) rfl ?_); refine gL_ (some 6) rfl rfl Tryd.func53 kr_ rfl #[.int .i64 a0] rfl mp_ ?_; (with_reducible refine (r1_size.calls a0 ba _ A2.out).mono ?_); rintro e w' ⟨rfl, ⟨nd, rfl⟩⟩; refine ⟨_, rfl, ?_⟩; (try (rw [drewN_self w4]; generalize hq_ : World.drewN w4 _ = w4; replace aa : A0_ (w4.heap[ea]? = some (.cells zC_ 32 (0, 0))) := ⟨by rw [← hq_]; exact (xK_ aa.out)⟩; replace HB : A0_ (Below w.heap.size w w4) := ⟨by rw [← hq_]; exact (xB1_ HB da)⟩; clear hq_))) | ((with_reducible refine gC_ (f := 52) rfl ?_); refine gL_ (some 7) rfl rfl Tryd.func52 kr_ rfl #[.int .u64 ba] rfl mp_ ?_; (with_reducible refine (r1_FromUint.calls k ba ca _ A3.out).mono ?_); rintro e w5 ⟨rfl, hb⟩; refine ⟨_, rfl, ?_⟩; replace aa := mk_ (kB_ (xK_ aa.out) hb); replace HB := mk_ (bT_ (xB1_ HB da) hb); obtain ⟨ga, ha, ia, ja, ka, la⟩ := kG3_ aa.out))
 refine bodyPost_ret (results_cell_row rfl _ _ ea 32 #[.bool (decide (a0 < 0)), .string ca, .string (⟨#[]⟩ : ByteArray)] (0, 0) _ rfl (by refine xk_ ?_; refine kQ_ (cs := #[.bool (decide (a0 < 0)), .string ca, .string (⟨#[]⟩ : ByteArray)]) ?_ 2 _ rfl; refine kQ_ (cs := #[.bool (decide (a0 < 0)), .string (⟨#[]⟩ : ByteArray), .string (⟨#[]⟩ : ByteArray)]) ?_ 1 _ rfl; refine kQ_ (cs := zC_) ?_ 0 _ rfl; exact aa.out) Tryd.underlying32 rfl kr_) rfl ?_
 exact ⟨rE_, xB1_ HB da⟩
def l0_Whole.f (k : Nat) (a0 : Int) : Option (Bool × ByteArray × ByteArray) := (r1_Int.f k a0).bind fun bt134 => (some (bt134.1, bt134.2.1, bt134.2.2))
theorem l0_Whole.mono : ∀ a0 k, LeO (l0_Whole.f k a0) (l0_Whole.f (k + 1) a0) := by
 intro a0 k
 unfold l0_Whole.f
 repeat' first
   | (with_reducible first | exact r1_Int.mono _ _ | exact LeO.refl _ | exact LeO.none _ | refine LeO.ite ?_ ?_ | refine LeO.bind ?_ (fun _ => ?_))
theorem l0_Whole.calls (k : Nat) (a0 : Int) (r1 : Bool) (r2 : ByteArray) (r3 : ByteArray) (w : World) (h : l0_Whole.f k a0 = some (r1, r2, r3)) :
  Calls Tryd.prog 18 #[.int .i64 a0] w fun e w' => e = .returned (.agg #[.bool r1, .string r2, .string r3]) ∧ Below w.heap.size w w' := by
 have hu32 := Tryd.underlying32
 have HB := mk_ (Below.refl w.heap.size w)
 have H := h
 unfold l0_Whole.f at H
 clear h
 obtain ⟨⟨aa, ca, da⟩, A2, H⟩ := oB_ H
 (try dsimp only at H)
 simp only [Option.some.injEq, Prod.mk.injEq] at H
 obtain ⟨rfl, rfl, rfl⟩ := H
 go_enter Tryd.func18, Tryd.ntmps18
 go_wp2_with (first | ((with_reducible refine gD_ (N := 2) rfl ?_); refine bX_ (N := 2) (cs := zC_) (t := 32) ?_; intro fa hg w3 hbox hb; have ba := mk_ (hbox); have ga := mk_ (gZ_ hg (bZ_ (xB_ HB))); have ea := mk_ (gZ_ hg (bZ_ (xB_ HB))); replace HB := mk_ (bT_ (xB_ HB) hb); clear hb hbox hg) | ((with_reducible refine gC_ (f := 35) rfl ?_); refine gL_ (some 4) rfl rfl Tryd.func35 kr_ rfl #[.int .i64 a0] rfl mp_ ?_; (with_reducible refine (r1_Int.calls k a0 aa ca da _ A2.out).mono ?_); rintro e w4 ⟨rfl, hb⟩; refine ⟨_, rfl, ?_⟩; replace ba := mk_ (kB_ (xK_ ba.out) hb); replace HB := mk_ (bT_ (xB1_ HB ea) hb); obtain ⟨ha, ia, ja, ka, la, ma⟩ := kG3_ ba.out))
 refine bodyPost_ret (results_cell_row rfl _ _ fa 32 #[.bool aa, .string ca, .string da] (0, 0) _ rfl (by refine xk_ ?_; refine kQ_ (cs := #[.bool aa, .string ca, .string (⟨#[]⟩ : ByteArray)]) ?_ 2 _ rfl; refine kQ_ (cs := #[.bool aa, .string (⟨#[]⟩ : ByteArray), .string (⟨#[]⟩ : ByteArray)]) ?_ 1 _ rfl; refine kQ_ (cs := zC_) ?_ 0 _ rfl; exact ba.out) Tryd.underlying32 rfl kr_) rfl ?_
 exact ⟨rE_, xB1_ HB ea⟩
def l0_Amount.f (k : Nat) (a0 : Int) : Option (Bool × ByteArray × ByteArray) := if (Int.tmod a0 5) = 0 then ((l0_Ratio.f k (wrap64 (Int.tmod (IntKind.u16.wrap (Int.tdiv a0 5)) 23)) (wrap64 (1 + (wrap64 (Int.tmod (IntKind.u16.wrap (Int.tdiv a0 115)) 6))))).bind fun bt301 => (some (bt301.1, bt301.2.1, bt301.2.2))) else (if (Int.tmod a0 5) = 1 then ((l0_Whole.f k (wrap64 (10 * (wrap64 (Int.tmod (IntKind.u16.wrap (Int.tdiv a0 5)) 4))))).bind fun bt304 => (some (bt304.1, bt304.2.1, bt304.2.2))) else ((l0_Whole.f k (wrap64 (Int.tmod (IntKind.u16.wrap (Int.tdiv a0 5)) 13))).bind fun bt307 => (some (bt307.1, bt307.2.1, bt307.2.2))))
theorem l0_Amount.calls (k : Nat) (a0 : Int) (r1 : Bool) (r2 : ByteArray) (r3 : ByteArray) (w : World) (h : l0_Amount.f k a0 = some (r1, r2, r3)) :
  Calls Tryd.prog 17 #[.int .u16 a0] w fun e w' => e = .returned (.agg #[.bool r1, .string r2, .string r3]) ∧ Below w.heap.size w w' := by
 have hu32 := Tryd.underlying32
 have HB := mk_ (Below.refl w.heap.size w)
 have H := h
 unfold l0_Amount.f at H
 clear h
 replace H := iS_ H
 rcases H with ⟨c2, H⟩ | ⟨c2, H⟩
 ·have na := beq_iff_eq.mpr c2
  have oa := bne_eq_false_iff_eq.mpr c2
  clear c2
  obtain ⟨⟨da, ga, ja⟩, A3, H⟩ := oB_ H
  (try dsimp only at H)
  simp only [Option.some.injEq, Prod.mk.injEq] at H
  obtain ⟨rfl, rfl, rfl⟩ := H
  go_enter Tryd.func17, Tryd.ntmps17
  go_wp2_with (first | ((with_reducible refine gD_ (N := 2) rfl ?_); refine bX_ (N := 2) (cs := zC_) (t := 32) ?_; intro ca hg w4 hbox hb; have aa := mk_ (hbox); have ka := mk_ (gZ_ hg (bZ_ (xB_ HB))); have ba := mk_ (gZ_ hg (bZ_ (xB_ HB))); replace HB := mk_ (bT_ (xB_ HB) hb); clear hb hbox hg) | ((with_reducible refine gC_ (f := 34) rfl ?_); refine gL_ (some 16) rfl rfl Tryd.func34 kr_ rfl #[.int .i64 (wrap64 (Int.tmod (IntKind.u16.wrap (Int.tdiv a0 5)) 23)), .int .i64 (wrap64 (1 + (wrap64 (Int.tmod (IntKind.u16.wrap (Int.tdiv a0 115)) 6))))] rfl mp_ ?_; (with_reducible refine (l0_Ratio.calls k (wrap64 (Int.tmod (IntKind.u16.wrap (Int.tdiv a0 5)) 23)) (wrap64 (1 + (wrap64 (Int.tmod (IntKind.u16.wrap (Int.tdiv a0 115)) 6)))) da ga ja _ A3.out).mono ?_); rintro e w5 ⟨rfl, hb⟩; refine ⟨_, rfl, ?_⟩; replace aa := mk_ (kB_ (xK_ aa.out) hb); replace HB := mk_ (bT_ (xB1_ HB ba) hb); obtain ⟨ra, sa, ta, ua, va, wa⟩ := kG3_ aa.out))
  refine bodyPost_ret (results_cell_row rfl _ _ ca 32 #[.bool da, .string ga, .string ja] (0, 0) _ rfl (by refine xk_ ?_; refine kQ_ (cs := #[.bool da, .string ga, .string (⟨#[]⟩ : ByteArray)]) ?_ 2 _ rfl; refine kQ_ (cs := #[.bool da, .string (⟨#[]⟩ : ByteArray), .string (⟨#[]⟩ : ByteArray)]) ?_ 1 _ rfl; refine kQ_ (cs := zC_) ?_ 0 _ rfl; exact aa.out) Tryd.underlying32 rfl kr_) rfl ?_
  exact ⟨rE_, xB1_ HB ba⟩
 ·have na := beq_eq_false_iff_ne.mpr c2
  have oa := bne_iff_ne.mpr c2
  replace H := iS_ H
  rcases H with ⟨c7, H⟩ | ⟨c7, H⟩
  ·have pa := beq_iff_eq.mpr c7
   have qa := bne_eq_false_iff_eq.mpr c7
   clear c7
   obtain ⟨⟨ea, ha, la⟩, A8, H⟩ := oB_ H
   (try dsimp only at H)
   simp only [Option.some.injEq, Prod.mk.injEq] at H
   obtain ⟨rfl, rfl, rfl⟩ := H
   go_enter Tryd.func17, Tryd.ntmps17
   go_wp2_with (first | ((with_reducible refine gD_ (N := 2) rfl ?_); refine bX_ (N := 2) (cs := zC_) (t := 32) ?_; intro ca hg w9 hbox hb; have aa := mk_ (hbox); have ka := mk_ (gZ_ hg (bZ_ (xB_ HB))); have ba := mk_ (gZ_ hg (bZ_ (xB_ HB))); replace HB := mk_ (bT_ (xB_ HB) hb); clear hb hbox hg) | ((with_reducible refine gC_ (f := 18) rfl ?_); refine gL_ (some 24) rfl rfl Tryd.func18 kr_ rfl #[.int .i64 (wrap64 (10 * (wrap64 (Int.tmod (IntKind.u16.wrap (Int.tdiv a0 5)) 4))))] rfl mp_ ?_; (with_reducible refine (l0_Whole.calls k (wrap64 (10 * (wrap64 (Int.tmod (IntKind.u16.wrap (Int.tdiv a0 5)) 4)))) ea ha la _ A8.out).mono ?_); rintro e w10 ⟨rfl, hb⟩; refine ⟨_, rfl, ?_⟩; replace aa := mk_ (kB_ (xK_ aa.out) hb); replace HB := mk_ (bT_ (xB1_ HB ba) hb); obtain ⟨xa, ya, za, Aa, Ba, Ca⟩ := kG3_ aa.out))
   refine bodyPost_ret (results_cell_row rfl _ _ ca 32 #[.bool ea, .string ha, .string la] (0, 0) _ rfl (by refine xk_ ?_; refine kQ_ (cs := #[.bool ea, .string ha, .string (⟨#[]⟩ : ByteArray)]) ?_ 2 _ rfl; refine kQ_ (cs := #[.bool ea, .string (⟨#[]⟩ : ByteArray), .string (⟨#[]⟩ : ByteArray)]) ?_ 1 _ rfl; refine kQ_ (cs := zC_) ?_ 0 _ rfl; exact aa.out) Tryd.underlying32 rfl kr_) rfl ?_
   exact ⟨rE_, xB1_ HB ba⟩
  ·have pa := beq_eq_false_iff_ne.mpr c7
   have qa := bne_iff_ne.mpr c7
   obtain ⟨⟨fa, ia, ma⟩, A12, H⟩ := oB_ H
   (try dsimp only at H)
   simp only [Option.some.injEq, Prod.mk.injEq] at H
   obtain ⟨rfl, rfl, rfl⟩ := H
   go_enter Tryd.func17, Tryd.ntmps17
   go_wp2_with (first | ((with_reducible refine gD_ (N := 2) rfl ?_); refine bX_ (N := 2) (cs := zC_) (t := 32) ?_; intro ca hg w13 hbox hb; have aa := mk_ (hbox); have ka := mk_ (gZ_ hg (bZ_ (xB_ HB))); have ba := mk_ (gZ_ hg (bZ_ (xB_ HB))); replace HB := mk_ (bT_ (xB_ HB) hb); clear hb hbox hg) | ((with_reducible refine gC_ (f := 18) rfl ?_); refine gL_ (some 29) rfl rfl Tryd.func18 kr_ rfl #[.int .i64 (wrap64 (Int.tmod (IntKind.u16.wrap (Int.tdiv a0 5)) 13))] rfl mp_ ?_; (with_reducible refine (l0_Whole.calls k (wrap64 (Int.tmod (IntKind.u16.wrap (Int.tdiv a0 5)) 13)) fa ia ma _ A12.out).mono ?_); rintro e w14 ⟨rfl, hb⟩; refine ⟨_, rfl, ?_⟩; replace aa := mk_ (kB_ (xK_ aa.out) hb); replace HB := mk_ (bT_ (xB1_ HB ba) hb); obtain ⟨Da, Ea, Fa, Ga, Ha, Ia⟩ := kG3_ aa.out))
   refine bodyPost_ret (results_cell_row rfl _ _ ca 32 #[.bool fa, .string ia, .string ma] (0, 0) _ rfl (by refine xk_ ?_; refine kQ_ (cs := #[.bool fa, .string ia, .string (⟨#[]⟩ : ByteArray)]) ?_ 2 _ rfl; refine kQ_ (cs := #[.bool fa, .string (⟨#[]⟩ : ByteArray), .string (⟨#[]⟩ : ByteArray)]) ?_ 1 _ rfl; refine kQ_ (cs := zC_) ?_ 0 _ rfl; exact aa.out) Tryd.underlying32 rfl kr_) rfl ?_
   exact ⟨rE_, xB1_ HB ba⟩
def l0_Amounts.l0 : Nat → List Int → Int → List (S32) → Int → Option ((List (S32)))
 | 0, _, _, _, _ => none
 | k + 1, x0, x1, x5, x6 => if x6 < (x0.length : Int) then (if x6 < x1 then (if 0 ≤ x6 then ((l0_Amount.f k (rd x0 x6)).bind fun bt311 => (if x5.length < 3518437208883 then (l0_Amounts.l0 k x0 x1 (x5 ++ [(⟨bt311.1, bt311.2.1, bt311.2.2⟩ : S32)]) (wrap64 (x6 + 1))) else (none))) else (none)) else (some x5)) else (some x5)
def l0_Amounts.f (k : Nat) (l0 : List Int) (a1 : Int) : Option ((List (S32))) := l0_Amounts.l0 k l0 a1 ([] : List (S32)) 0
theorem l0_Amounts.calls (k : Nat) (A0 : Option Addr) (c0 : Nat) (l0 : List Int) (a1 : Int) (r : List (S32)) (w : World) (hr0 : Kd.C (Kd.int .u16) w A0 l0.length l0) (hc0 : l0.length ≤ c0) (h : l0_Amounts.f k l0 a1 = some r) :
  Calls Tryd.prog 6 #[.slice A0 l0.length c0, .int .i64 a1] w fun e w' => ∃ v0_ : Value, e = .returned (v0_) ∧ Kd.R k32 32 w' w.heap.size (fun _ => True) v0_ r ∧ Below w.heap.size w w' := by
 have HR0 := mk_ hr0
 have HC0 := mk_ hc0
 clear hr0 hc0
 have HB := mk_ (Below.refl w.heap.size w)
 have H : (l0_Amounts.l0 k l0 a1 ([] : List (S32)) 0) = some r := h
 clear h
 have H' := mk_ H
 clear H
 go_enter Tryd.func6, Tryd.ntmps6
 go_wp2
 go_loopg [5, 6] k (fun kq v5 v6 w' => ∃ (ca : List (S32)) (aa : Int), v6 = .int .i64 aa ∧ A0_ (l0_Amounts.l0 kq l0 a1 ca aa = some r) ∧ A0_ (kq ≤ k) ∧ A0_ (Kd.R k32 32 w' w.heap.size (fun _ => True) v5 ca) ∧ A0_ (Below w.heap.size w w'))
 case atStart => exact ⟨(([] : List (S32))), (0), (rS_), H', ⟨Nat.le_refl _⟩, ⟨by first | exact Kd.R_nil _ _ _ _ _ | exact Kd.N_nil _ _ _ _ _ | exact Kd.V_nil _ _ _ _ _ | exact Kd.Q_nil _ _ _ _ _ | exact Kd.S_nil _ _ _ _ _⟩, ⟨xB_ HB⟩⟩
 case round =>
  clear H'
  obtain ⟨ca, aa, rfl, HA, HK1, ba, HB⟩ := hrel
  cases gk with
  | zero => exact absurd HA.out (by simp [l0_Amounts.l0])
  | succ k1 =>
   have H := HA.out
   clear HA
   simp only [l0_Amounts.l0] at H
   replace H := iS_ H
   rcases H with ⟨c3, H⟩ | ⟨c3, H⟩
   ·have ka := decide_eq_true c3
    clear c3
    replace H := iS_ H
    rcases H with ⟨c4, H⟩ | ⟨c4, H⟩
    ·have la := decide_eq_true c4
     clear c4
     obtain ⟨ra, H⟩ := iD_ H
     obtain ⟨⟨da, ea, fa⟩, A6, H⟩ := oB_ H
     (try dsimp only at H)
     obtain ⟨c7, H⟩ := iP_ H
     have ma := mk_ c7
     clear c7
     obtain ⟨na, ga⟩ : ∃ y_ : List (S32), y_ = (ca ++ [(⟨da, ea, fa⟩ : S32)]) := ⟨_, rfl⟩
     (first | rw [← ga] at H | skip); (try with_reducible replace H := (Option.bind_some _ _).symm.trans H); (try dsimp only at H)
     have oa := mk_ ga
     clear ga
     have H' := mk_ H
     clear H
     have ha : 0 ≤ (aa : Int) := oD_
     have ia : aa < (l0.length : Int) := oD_
     obtain ⟨sa, pa, ja⟩ := Kd.at_int HR0.out aa ha ia
     cases pa
     (try replace ja := cT_ HB ja)
     replace ha := eq_true ha
     replace ia := eq_true ia
     go_wp2_with (first | ((with_reducible refine gC_ (f := 17) rfl ?_); refine gL_ (some 23) rfl rfl Tryd.func17 kr_ rfl #[.int .u16 (rd l0 aa)] rfl mp_ ?_; (with_reducible refine (l0_Amount.calls k1 (rd l0 aa) da ea fa _ A6.out).mono ?_); rintro e w8 ⟨rfl, hb⟩; refine ⟨_, rfl, ?_⟩; replace ba := mk_ (Kd.rB_ (xR_ ba.out) hb); replace HB := mk_ (bT_ (xB_ HB) hb)) | ((with_reducible refine gate_builtin (b := .append) (xs := #[.tmp 18, .tmp 24]) rfl ?_); at_builtin; refine Kd.R_append k32 (w0 := w) w.heap.size rfl (.tmp 18) (.tmp 24) 24 32 (.agg #[(.bool false), (.string ⟨#[]⟩), (.string ⟨#[]⟩)]) 40 rfl Tryd.underlying24 info32 rfl (by decide) (by omega) u5 ca (⟨da, ea, fa⟩ : S32) [.bool da, .string ea, .string fa] (fun _ => True) (fun _ => False) rfl rfl ?aP (fun _ hk => hk.elim) ?aF ?aO ?aB ?aS ?aL ?_; (case aP => exact k32_mkM _ _ _ (⟨da, ea, fa⟩ : S32)); (case aB => exact (xB_ HB)); (case aF => exact (fun _ _ => trivial)); (case aO => exact (xR_ ba.out)); (case aS => exact (bZ_ (xB_ HB))); (case aL => have := ma.out; omega); intro ta w9 ho hb hg hat; rw [← oa.out] at ho; replace HB := mk_ (hb); have qa := mk_ (ho); clear ba; clear ho hb hg hat))
     (try simp only [ap_])
     go_roundg k1
     case measure => have := HK1.out; omega
     case rel => exact ⟨(na), (wrap64 (aa + 1)), (rS_), H', ⟨by have := HK1.out; omega⟩, ⟨by refine xr_ ?_; exact qa.out⟩, ⟨xB_ HB⟩⟩
    ·have la := decide_eq_false c4
     clear c4
     obtain rfl := Option.some.inj H
     go_wp2
     go_ret
     exact ⟨_, rE_, by refine xr_ ?_; exact ba.out, xB_ HB⟩
   ·have ka := decide_eq_false c3
    clear c3
    obtain rfl := Option.some.inj H
    go_wp2
    go_ret
    exact ⟨_, rE_, by refine xr_ ?_; exact ba.out, xB_ HB⟩
end Go.Proofs.YtppimdempdnhoaaDoor.C
end
section
namespace Go.Proofs.YtppimdempdnhoaaDoor.C
open Go.RowKit Go.PrWords Go.PrLast Go.PrMore
attribute [local go_sem] max2_int min2_int max_two min_two max_three min_three max_four min_four
set_option linter.unusedVariables false
set_option linter.unusedSimpArgs false
def arr6_at.f (a0 : Int) (a1 : Int) (a2 : Int) (a3 : Int) (a4 : Int) (a5 : Int) (a6 : Int) : Option (Int) := if 0 ≤ a6 ∧ a6 < 6 then some ([a0, a1, a2, a3, a4, a5].getD a6.toNat 0) else none
theorem arr6_open {a0 a1 a2 a3 a4 a5 a6 r : Int} (h : arr6_at.f a0 a1 a2 a3 a4 a5 a6 = some r) : 0 ≤ a6 ∧ a6 < 6 ∧ [a0, a1, a2, a3, a4, a5].getD a6.toNat 0 = r := by
 unfold arr6_at.f at h
 by_cases h1 : 0 ≤ a6 ∧ a6 < 6
 ·rw [if_pos h1] at h
  exact ⟨h1.1, h1.2, Option.some.inj h⟩
 ·rw [if_neg h1] at h
  cases h
end Go.Proofs.YtppimdempdnhoaaDoor.C
end
