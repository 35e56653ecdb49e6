/- A part of the proof of setoffOneSided_card (see YtnegkpnhjgimcaaDoorZSP5): what the functions that it reaches compute, each by its contract. -/
import Derived.Lib.Bytealg
import Derived.Test.YtnegkpnhjgimcaaDoorZSP0
section
namespace Go.Proofs.YtnegkpnhjgimcaaDoor
namespace C
set_option maxHeartbeats 8000000
set_option maxRecDepth 100000
open Go.RowKit Go.PrWords Go.PrLast Go.PrMore
attribute [local go_sem] max2_int min2_int max_two min_two max_three min_three max_four min_four
set_option linter.unusedVariables false
set_option linter.unusedSimpArgs false
def r1_reduced.f (k : Nat) (a0 : Bool) (l1 : List Int) (l2 : List Int) : Option (Bool × ByteArray × ByteArray) := if (l1.length : Int) = 0 then (some (false, (⟨#[]⟩ : ByteArray), (⟨#[]⟩ : ByteArray))) else ((r1_common.f k l1 l2).bind fun t695 => (if (t695.length : Int) > 1 then (none) else (if 0 < (t695.length : Int) then (if (rd t695 0) > 1 then ((r1_divide.f k l1 t695).bind fun bt716 => ((r1_divide.f k l2 t695).bind fun bt722 => ((r1_text.f k bt716.1).bind fun t728 => (if (bt722.1.length : Int) > 1 then (none) else (if 0 < (bt722.1.length : Int) then (if (rd bt722.1 0) > 1 then ((r1_text.f k bt722.1).bind fun t732 => (some (a0, t728, t732))) else (some (a0, t728, (⟨#[]⟩ : ByteArray)))) else (none)))))) else ((r1_text.f k l1).bind fun t733 => (if (l2.length : Int) > 1 then (none) else (if 0 < (l2.length : Int) then (if (rd l2 0) > 1 then ((r1_text.f k l2).bind fun t737 => (some (a0, t733, t737))) else (some (a0, t733, (⟨#[]⟩ : ByteArray)))) else (none))))) else (none))))
theorem r1_reduced.mono : ∀ a0 a1 a2 k, LeO (r1_reduced.f k a0 a1 a2) (r1_reduced.f (k + 1) a0 a1 a2) := by
 intro a0 a1 a2 k
 unfold r1_reduced.f
 repeat' first
   | (with_reducible first | exact r1_common.mono _ _ _ | exact r1_divide.mono _ _ _ | exact r1_text.mono _ _ | exact LeO.refl _ | exact LeO.none _ | refine LeO.ite ?_ ?_ | refine LeO.bind ?_ (fun _ => ?_))
theorem r1_reduced.calls (k : Nat) (a0 : Bool) (A1 : Option Addr) (c1 : Nat) (l1 : List Int) (A2 : Option Addr) (c2 : Nat) (l2 : List Int) (r1 : Bool) (r2 : ByteArray) (r3 : ByteArray) (w : World) (hr1 : Kd.C (Kd.int .u32) w A1 l1.length l1) (hc1 : l1.length ≤ c1) (hr2 : Kd.C (Kd.int .u32) w A2 l2.length l2) (hc2 : l2.length ≤ c2) (h : r1_reduced.f k a0 l1 l2 = some (r1, r2, r3)) :
  Calls Tryd.prog 113 #[.bool a0, .slice A1 l1.length c1, .slice A2 l2.length c2] w fun e w' => e = .returned (.agg #[.bool r1, .string r2, .string r3]) ∧ Below w.heap.size w w' := by
 have hu26 := Tryd.underlying26
 have HR1 := A0_.mk hr1
 have HC1 := A0_.mk hc1
 clear hr1 hc1
 have HR2 := A0_.mk hr2
 have HC2 := A0_.mk hc2
 clear hr2 hc2
 have HB := A0_.mk (Below.refl w.heap.size w)
 have H := h
 unfold r1_reduced.f at H
 clear h
 by_cases c4 : (l1.length : Int) = 0
 ·rw [if_pos c4] at H
  have pb : ((l1.length : Int) == 0) = true := beq_iff_eq.mpr c4
  have qb : ((l1.length : Int) != 0) = false := bne_eq_false_iff_eq.mpr c4
  clear c4
  simp only [Option.some.injEq, Prod.mk.injEq] at H
  obtain ⟨rfl, rfl, rfl⟩ := H
  go_enter Tryd.func113, Tryd.ntmps113
  go_wp2_with (first | ((with_reducible refine gD_ (N := 6) rfl ?_); refine bE_ ?hg (N := 6) ?hd (cs := zC_) (t := 26) ?hr ?_; (case hd => rfl); (case hg => rfl); (case hr => first | (go_simp; done) | (go_simp; rfl)); intro ba hg w5 hbox hb; have n0_ := A0_.mk (bT_ (xB_ HB) hb); have n1_ := A0_.mk (hbox); have n2_ := A0_.mk ((by rw [hg]; exact (bZ_ (xB_ HB)) : w.heap.size ≤ ba)); have n3_ := A0_.mk ((by rw [hg]; exact (bZ_ (xB_ HB)) : w.heap.size ≤ ba)); clear HB; have HB := n0_; have aa := n1_; have oa := n2_; have ea := n3_; clear n0_ n1_ n2_ n3_; clear hb hbox hg; have Ob : w5.cell? ⟨ba, 0, none⟩ = some (.bool false) := (kc_ aa.out 0).trans rfl; have Pb : w5.cell? ⟨ba, 1, none⟩ = some (.string (⟨#[]⟩ : ByteArray)) := (kc_ aa.out 1).trans rfl; have Qb : w5.cell? ⟨ba, 2, none⟩ = some (.string (⟨#[]⟩ : ByteArray)) := (kc_ aa.out 2).trans rfl; have Rb := kF_ aa.out 0; have Sb := kF_ aa.out 1; have Tb := kF_ aa.out 2))
  refine bodyPost_ret (results_cell_row rfl _ _ ba 26 zC_ (0, 0) _ rfl (by (with_reducible repeat (first | apply kN_ | apply kD_ | apply kA_)); refine kP_ (cs := zC_) ?_ 2 _ rfl; (with_reducible repeat (first | apply kN_ | apply kD_ | apply kA_)); refine kP_ (cs := zC_) ?_ 1 _ rfl; (with_reducible repeat (first | apply kN_ | apply kD_ | apply kA_)); refine kP_ (cs := zC_) ?_ 0 _ rfl; (with_reducible repeat (first | apply kN_ | apply kD_ | apply kA_)); exact aa.out) Tryd.underlying26 rfl kr_) rfl ?_
  exact ⟨rE_, xB1_ HB ea⟩
 ·rw [if_neg c4] at H
  have pb : ((l1.length : Int) == 0) = false := beq_eq_false_iff_ne.mpr c4
  have qb : ((l1.length : Int) != 0) = true := bne_iff_ne.mpr c4
  have Ub : ¬ (l1 = []) := fun h_ => c4 (by rw [h_]; rfl)
  obtain ⟨ga, A7, H⟩ := oB_ H
  (try dsimp only at H)
  by_cases c8 : (ga.length : Int) > 1
  ·rw [if_pos c8] at H
   exact absurd H (by simp)
  ·rw [if_neg c8] at H
   have Vb : decide (1 < (ga.length : Int)) = false := decide_eq_false c8
   have Wb : decide (1 < ga.length) = false := decide_eq_false (by omega)
   clear c8
   by_cases c57 : 0 < (ga.length : Int)
   rotate_left
   ·rw [if_neg c57] at H
    exact absurd H (by simp)
   rw [if_pos c57] at H
   have Xb : decide (0 < (ga.length : Int)) = true := decide_eq_true c57
   have Yb : decide (0 < ga.length) = true := decide_eq_true (by omega)
   clear c57
   by_cases c58 : (rd ga 0) > 1
   ·rw [if_pos c58] at H
    have rb : decide (1 < (rd ga 0)) = true := decide_eq_true c58
    clear c58
    obtain ⟨⟨Na, fb⟩, A59, H⟩ := oB_ H
    (try dsimp only at H)
    obtain ⟨⟨pa, gb⟩, A60, H⟩ := oB_ H
    (try dsimp only at H)
    obtain ⟨qa, A61, H⟩ := oB_ H
    (try dsimp only at H)
    by_cases c62 : (pa.length : Int) > 1
    ·rw [if_pos c62] at H
     exact absurd H (by simp)
    ·rw [if_neg c62] at H
     have Zb : decide (1 < (pa.length : Int)) = false := decide_eq_false c62
     have ac : decide (1 < pa.length) = false := decide_eq_false (by omega)
     clear c62
     by_cases c78 : 0 < (pa.length : Int)
     rotate_left
     ·rw [if_neg c78] at H
      exact absurd H (by simp)
     rw [if_pos c78] at H
     have bc : decide (0 < (pa.length : Int)) = true := decide_eq_true c78
     have cc : decide (0 < pa.length) = true := decide_eq_true (by omega)
     clear c78
     by_cases c79 : (rd pa 0) > 1
     ·rw [if_pos c79] at H
      have sb : decide (1 < (rd pa 0)) = true := decide_eq_true c79
      clear c79
      obtain ⟨ib, A80, H⟩ := oB_ H
      (try dsimp only at H)
      simp only [Option.some.injEq, Prod.mk.injEq] at H
      obtain ⟨rfl, rfl, rfl⟩ := H
      go_enter Tryd.func113, Tryd.ntmps113
      go_wp2_with (first | ((with_reducible refine gD_ (N := 6) rfl ?_); refine bE_ ?hg (N := 6) ?hd (cs := zC_) (t := 26) ?hr ?_; (case hd => rfl); (case hg => rfl); (case hr => first | (go_simp; done) | (go_simp; rfl)); intro ba hg w81 hbox hb; have n0_ := A0_.mk (bT_ (xB_ HB) hb); have n1_ := A0_.mk (hbox); have n2_ := A0_.mk ((by rw [hg]; exact (bZ_ (xB_ HB)) : w.heap.size ≤ ba)); have n3_ := A0_.mk ((by rw [hg]; exact (bZ_ (xB_ HB)) : w.heap.size ≤ ba)); clear HB; have HB := n0_; have aa := n1_; have oa := n2_; have ea := n3_; clear n0_ n1_ n2_ n3_; clear hb hbox hg) | ((with_reducible refine gC_ (f := 111) rfl ?_); refine gL_ (some 15) rfl rfl Tryd.func111 kr_ rfl #[.slice A1 l1.length c1, .slice A2 l2.length c2] rfl mp_ ?_; (with_reducible refine (r1_common.calls k (fun k_ => k_ < w.heap.size) _ _ l1 (fun k_ => k_ < w.heap.size) _ _ l2 ga _ ?side1 ?side2 A7.out).mono ?_); (case side1 => exact Kd.V_mk HC1.out (Kd.F_below (Kd.C_F (Kd.heap_int .u32) HR1.out) (xB1_ HB ea))); (case side2 => exact Kd.V_mk HC2.out (Kd.F_below (Kd.C_F (Kd.heap_int .u32) HR2.out) (xB1_ HB ea))); rintro e w82 ⟨Ya, rfl, ho0, hb⟩; refine ⟨_, rfl, ?_⟩; have n0_ := A0_.mk (Kd.V_lower (Kd.V_mono (ok' := fun k_ => k_ ≠ ba) ho0 (fun k_ hk_ => Or.elim hk_ (fun hs_ => Or.elim hs_ (fun hs_ => fun e_ => Nat.not_le.2 hs_ (by rw [e_]; exact oa.out)) (fun hs_ => fun e_ => Nat.not_le.2 hs_ (by rw [e_]; exact oa.out))) (fun hn_ => (Kd.freshB (g := ba) (o := .cells zC_ 26 (0, 0)) (xK_ aa.out) k_ hn_)))) (bZ_ (xB1_ HB ea))); have n1_ := A0_.mk (kB_ (g := ba) (o := .cells zC_ 26 (0, 0)) (xK_ aa.out) hb); have n2_ := A0_.mk (bT_ (xB1_ HB ea) hb); clear aa HB; have da := n0_; have aa := n1_; have HB := n2_; clear n0_ n1_ n2_; (try clear hb); (try clear hb2); (try clear hk); (try clear hi); (try clear ho0); obtain ⟨dc, jb, tb⟩ := Kd.V_slice da.out; subst tb; have sa : 0 ≤ (0 : Int) := (by omega); have ta : 0 < (ga.length : Int) := oD_; obtain ⟨Ga, Ha, va⟩ := Kd.at_int (Kd.V_reads' da.out).2.2 0 sa ta; cases Ha; have Za : (0 < ga.length) = True := eq_true (by omega); (try rw [show ((0 : Int)).toNat = 0 from rfl] at va); (try rw [Addr.add_zero'] at va); replace sa := eq_true sa; replace ta := eq_true ta) | ((with_reducible refine gC_ (f := 121) rfl ?_); refine gL_ (some 28) rfl rfl Tryd.func121 kr_ rfl #[.slice A1 l1.length c1, .slice (some Ga) ga.length jb] rfl mp_ ?_; (with_reducible refine (r1_divide.calls k (fun k_ => k_ < w.heap.size) _ _ l1 _ _ ga Na fb _ ?side1 ?side2 ?side3 A59.out).mono ?_); (case side1 => exact Kd.V_mk HC1.out (Kd.F_below (Kd.C_F (Kd.heap_int .u32) HR1.out) (xB1_ HB ea))); (case side2 => repeat (first | exact (Kd.V_reads' da.out).2.2 | (with_reducible refine Kd.C_alloc ?_ _) | (with_reducible refine Kd.C_drewN ?_ _) | (with_reducible refine Kd.C_drew ?_))); (case side3 => exact (Kd.V_reads' da.out).2.1); rintro e w84 ⟨ub, vb, rfl, ho0, ho1, hb⟩; refine ⟨_, rfl, ?_⟩; have n0_ := A0_.mk (Kd.vB_ (xV_ da.out) hb); have n1_ := A0_.mk (Kd.V_lower (Kd.V_mono (ok' := fun k_ => k_ ≠ ba) ho0 (fun k_ hk_ => Or.elim hk_ (fun hs_ => fun e_ => Nat.not_le.2 hs_ (by rw [e_]; exact oa.out)) (fun hn_ => (Kd.freshB (g := ba) (o := .cells zC_ 26 (0, 0)) (xK_ aa.out) k_ hn_)))) (bZ_ (xB1_ HB ea))); have n2_ := A0_.mk (Kd.V_lower (Kd.V_mono (ok' := fun k_ => k_ ≠ ba) ho1 (fun k_ hk_ => Or.elim hk_ (fun hs_ => fun e_ => Nat.not_le.2 hs_ (by rw [e_]; exact oa.out)) (fun hn_ => (Kd.freshB (g := ba) (o := .cells zC_ 26 (0, 0)) (xK_ aa.out) k_ hn_)))) (bZ_ (xB1_ HB ea))); have n3_ := A0_.mk (kB_ (g := ba) (o := .cells zC_ 26 (0, 0)) (xK_ aa.out) hb); have n4_ := A0_.mk (bT_ (xB1_ HB ea) hb); clear da aa HB; have da := n0_; have ia := n1_; have la := n2_; have aa := n3_; have HB := n4_; clear n0_ n1_ n2_ n3_ n4_; (try clear hb); (try clear hb2); (try clear hk); (try clear hi); (try clear ho0); (try clear ho1)) | ((with_reducible refine gC_ (f := 121) rfl ?_); refine gL_ (some 34) rfl rfl Tryd.func121 kr_ rfl #[.slice A2 l2.length c2, .slice (some Ga) ga.length jb] rfl mp_ ?_; (with_reducible refine (r1_divide.calls k (fun k_ => k_ < w.heap.size) _ _ l2 _ _ ga pa gb _ ?side1 ?side2 ?side3 A60.out).mono ?_); (case side1 => exact Kd.V_mk HC2.out (Kd.F_below (Kd.C_F (Kd.heap_int .u32) HR2.out) (xB1_ HB ea))); (case side2 => repeat (first | exact (Kd.V_reads' da.out).2.2 | (with_reducible refine Kd.C_alloc ?_ _) | (with_reducible refine Kd.C_drewN ?_ _) | (with_reducible refine Kd.C_drew ?_))); (case side3 => exact (Kd.V_reads' da.out).2.1); rintro e w85 ⟨wb, xb, rfl, ho0, ho1, hb⟩; refine ⟨_, rfl, ?_⟩; have n0_ := A0_.mk (Kd.vB_ (xV_ da.out) hb); have n1_ := A0_.mk (Kd.vB_ (xV_ ia.out) hb); have n2_ := A0_.mk (Kd.vB_ (xV_ la.out) hb); have n3_ := A0_.mk (Kd.V_lower (Kd.V_mono (ok' := fun k_ => k_ ≠ ba) ho0 (fun k_ hk_ => Or.elim hk_ (fun hs_ => fun e_ => Nat.not_le.2 hs_ (by rw [e_]; exact oa.out)) (fun hn_ => (Kd.freshB (g := ba) (o := .cells zC_ 26 (0, 0)) (xK_ aa.out) k_ hn_)))) (bZ_ (xB1_ HB ea))); have n4_ := A0_.mk (Kd.V_lower (Kd.V_mono (ok' := fun k_ => k_ ≠ ba) ho1 (fun k_ hk_ => Or.elim hk_ (fun hs_ => fun e_ => Nat.not_le.2 hs_ (by rw [e_]; exact oa.out)) (fun hn_ => (Kd.freshB (g := ba) (o := .cells zC_ 26 (0, 0)) (xK_ aa.out) k_ hn_)))) (bZ_ (xB1_ HB ea))); have n5_ := A0_.mk (kB_ (g := ba) (o := .cells zC_ 26 (0, 0)) (xK_ aa.out) hb); have n6_ := A0_.mk (bT_ (xB1_ HB ea) hb); clear da ia la aa HB; have da := n0_; have ia := n1_; have la := n2_; have ma := n3_; have ra := n4_; have aa := n5_; have HB := n6_; clear n0_ n1_ n2_ n3_ n4_ n5_ n6_; (try clear hb); (try clear hb2); (try clear hk); (try clear hi); (try clear ho0); (try clear ho1); obtain ⟨yb, zb, Ab⟩ := Kd.V_slice ia.out; subst Ab) | ((with_reducible refine gC_ (f := 110) rfl ?_); refine gL_ (some 39) rfl rfl Tryd.func110 kr_ rfl #[.slice yb Na.length zb] rfl mp_ ?_; (with_reducible refine (r1_text.calls k _ _ Na qa _ ?side1 ?side2 A61.out).mono ?_); (case side1 => repeat (first | exact (Kd.V_reads' ia.out).2.2 | (with_reducible refine Kd.C_alloc ?_ _) | (with_reducible refine Kd.C_drewN ?_ _) | (with_reducible refine Kd.C_drew ?_))); (case side2 => exact (Kd.V_reads' ia.out).2.1); rintro e w87 ⟨rfl, hb⟩; refine ⟨_, rfl, ?_⟩; have n0_ := A0_.mk (Kd.vB_ (xV_ da.out) hb); have n1_ := A0_.mk (Kd.vB_ (xV_ ia.out) hb); have n2_ := A0_.mk (Kd.vB_ (xV_ la.out) hb); have n3_ := A0_.mk (Kd.vB_ (xV_ ma.out) hb); have n4_ := A0_.mk (Kd.vB_ (xV_ ra.out) hb); have n5_ := A0_.mk (kB_ (g := ba) (o := .cells zC_ 26 (0, 0)) (xK_ aa.out) hb); have n6_ := A0_.mk (bT_ (xB1_ HB ea) hb); clear da ia la ma ra aa HB; have da := n0_; have ia := n1_; have la := n2_; have ma := n3_; have ra := n4_; have aa := n5_; have HB := n6_; clear n0_ n1_ n2_ n3_ n4_ n5_ n6_; (try clear hb); (try clear hb2); (try clear hk); (try clear hi)) | ((with_reducible refine gD_ (N := 8) rfl ?_); refine bE_ ?hg (N := 8) ?hd (cs := zC_) (t := 26) ?hr ?_; (case hd => rfl); (case hg => rfl); (case hr => first | (go_simp; done) | (go_simp; rfl)); intro ca hg w88 hbox hb; have n0_ := A0_.mk (Kd.vB_ (Kd.V_elderB (xV_ da.out) ca (Nat.le_of_eq hg.symm)) hb); have n1_ := A0_.mk (Kd.vB_ (Kd.V_elderB (xV_ ia.out) ca (Nat.le_of_eq hg.symm)) hb); have n2_ := A0_.mk (Kd.vB_ (Kd.V_elderB (xV_ la.out) ca (Nat.le_of_eq hg.symm)) hb); have n3_ := A0_.mk (Kd.vB_ (Kd.V_elderB (xV_ ma.out) ca (Nat.le_of_eq hg.symm)) hb); have n4_ := A0_.mk (Kd.vB_ (Kd.V_elderB (xV_ ra.out) ca (Nat.le_of_eq hg.symm)) hb); have n5_ := A0_.mk (kB_ (g := ba) (o := .cells zC_ 26 (0, 0)) (xK_ aa.out) hb); have n6_ := A0_.mk (bT_ (xB1_ HB ea) hb); have n7_ := A0_.mk (hbox); have n8_ := A0_.mk ((by rw [hg]; exact (bZ_ (xB1_ HB ea)) : w.heap.size ≤ ca)); have n9_ := A0_.mk ((by rw [hg]; exact (bZ_ (xB1_ HB ea)) : w.heap.size ≤ ca)); have Sa := A0_.mk ((by rw [hg]; exact Nat.ne_of_lt (blk_lt (g := ba) (o := .cells zC_ 26 (0, 0)) (xK_ aa.out)) : ba ≠ ca)); have Ta := A0_.mk ((by rw [hg]; exact Nat.ne_of_gt (blk_lt (g := ba) (o := .cells zC_ 26 (0, 0)) (xK_ aa.out)) : ca ≠ ba)); clear da ia la ma ra aa HB; have da := n0_; have ia := n1_; have la := n2_; have ma := n3_; have ra := n4_; have aa := n5_; have HB := n6_; have ja := n7_; have Bb := n8_; have Va := n9_; have wa := Sa; have ab := Ta; clear n0_ n1_ n2_ n3_ n4_ n5_ n6_ n7_ n8_ n9_ Sa Ta; clear hb hbox hg; have hnb89 := ab.out; have hnc89 := wa.out; have ec : w88.cell? ⟨ca, 0, none⟩ = some (.bool false) := (kc_ ja.out 0).trans rfl; have fc : w88.cell? ⟨ca, 1, none⟩ = some (.string (⟨#[]⟩ : ByteArray)) := (kc_ ja.out 1).trans rfl; have gc : w88.cell? ⟨ca, 2, none⟩ = some (.string (⟨#[]⟩ : ByteArray)) := (kc_ ja.out 2).trans rfl; have hc := kF_ ja.out 0; have ic := kF_ ja.out 1; have jc := kF_ ja.out 2; obtain ⟨kc, kb, Cb⟩ := Kd.V_slice ma.out; subst Cb; have Ia : 0 ≤ (0 : Int) := (by omega); have Ja : 0 < (pa.length : Int) := oD_; obtain ⟨Ea, bb, ka⟩ := Kd.at_int (Kd.V_reads' ma.out).2.2 0 Ia Ja; cases bb; have Db : (0 < pa.length) = True := eq_true (by omega); (try rw [show ((0 : Int)).toNat = 0 from rfl] at ka); (try rw [Addr.add_zero'] at ka); have ya : Ea.block ≠ ca := cell_blk_ne ka ja.out (no_int3 (by intro _ _ h; cases h) (by intro _ _ h; cases h) (by intro _ _ h; cases h)); have za : Ea.block ≠ ca := cell_blk_ne ka ja.out (no_int3 (by intro _ _ h; cases h) (by intro _ _ h; cases h) (by intro _ _ h; cases h)); have Aa : Ea.block ≠ ca := cell_blk_ne ka ja.out (no_int3 (by intro _ _ h; cases h) (by intro _ _ h; cases h) (by intro _ _ h; cases h)); replace ka := (cf_ (p := ⟨ca, 0, none⟩) (by first | (rw [ab_]; exact ya) | (show (Addr.add _ _).block ≠ _; rw [ab_]; exact ya) | exact ya) (.bool a0)).trans ka; replace ka := (cf_ (p := ⟨ca, 1, none⟩) (by first | (rw [ab_]; exact za) | (show (Addr.add _ _).block ≠ _; rw [ab_]; exact za) | exact za) (.string qa)).trans ka; replace ka := (cf_ (p := ⟨ca, 2, none⟩) (by first | (rw [ab_]; exact Aa) | (show (Addr.add _ _).block ≠ _; rw [ab_]; exact Aa) | exact Aa) (.string (⟨#[]⟩ : ByteArray))).trans ka; clear ya za Aa; replace Ia := eq_true Ia; replace Ja := eq_true Ja) | ((with_reducible refine gC_ (f := 110) rfl ?_); refine gL_ (some 51) rfl rfl Tryd.func110 kr_ rfl #[.slice (some Ea) pa.length kb] rfl mp_ ?_; (with_reducible refine (r1_text.calls k _ _ pa ib _ ?side1 ?side2 A80.out).mono ?_); (case side1 => refine (Kd.V_reads' (e := 89) (base := w.heap.size) (ok := fun k_ => (k_ ≠ ba ∧ k_ ≠ ca)) (n := pa.length) (c := kb) ?_).2.2; exact (by (with_reducible repeat (first | apply Kd.V_alloc | apply Kd.vN_ | apply Kd.V_drew)); exact (Kd.V_mono (Kd.V_far (p := ⟨ca, 2, none⟩) (Kd.V_far (p := ⟨ca, 1, none⟩) (Kd.V_far (p := ⟨ca, 0, none⟩) (Kd.V_mono ma.out (fun k_ hk => (⟨hk, hk.2⟩ : _ ∧ k_ ≠ ca))) (fun _ hk => hk.2) (.bool a0)) (fun _ hk => hk.2) (.string qa)) (fun _ hk => hk.2) (.string (⟨#[]⟩ : ByteArray))) (fun _ h_ => h_.1)))); (case side2 => exact (Kd.V_reads' ma.out).2.1); rintro e w92 ⟨rfl, hb⟩; refine ⟨_, rfl, ?_⟩; have n0_ := A0_.mk (Kd.vB_ (by (with_reducible repeat (first | apply Kd.V_alloc | apply Kd.vN_ | apply Kd.V_drew)); exact (Kd.V_mono (Kd.V_far (p := ⟨ca, 2, none⟩) (Kd.V_far (p := ⟨ca, 1, none⟩) (Kd.V_far (p := ⟨ca, 0, none⟩) (Kd.V_mono da.out (fun k_ hk => (⟨hk, hk.2⟩ : _ ∧ k_ ≠ ca))) (fun _ hk => hk.2) (.bool a0)) (fun _ hk => hk.2) (.string qa)) (fun _ hk => hk.2) (.string (⟨#[]⟩ : ByteArray))) (fun _ h_ => h_.1))) hb); have n1_ := A0_.mk (Kd.vB_ (by (with_reducible repeat (first | apply Kd.V_alloc | apply Kd.vN_ | apply Kd.V_drew)); exact (Kd.V_mono (Kd.V_far (p := ⟨ca, 2, none⟩) (Kd.V_far (p := ⟨ca, 1, none⟩) (Kd.V_far (p := ⟨ca, 0, none⟩) (Kd.V_mono ia.out (fun k_ hk => (⟨hk, hk.2⟩ : _ ∧ k_ ≠ ca))) (fun _ hk => hk.2) (.bool a0)) (fun _ hk => hk.2) (.string qa)) (fun _ hk => hk.2) (.string (⟨#[]⟩ : ByteArray))) (fun _ h_ => h_.1))) hb); have n2_ := A0_.mk (Kd.vB_ (by (with_reducible repeat (first | apply Kd.V_alloc | apply Kd.vN_ | apply Kd.V_drew)); exact (Kd.V_mono (Kd.V_far (p := ⟨ca, 2, none⟩) (Kd.V_far (p := ⟨ca, 1, none⟩) (Kd.V_far (p := ⟨ca, 0, none⟩) (Kd.V_mono la.out (fun k_ hk => (⟨hk, hk.2⟩ : _ ∧ k_ ≠ ca))) (fun _ hk => hk.2) (.bool a0)) (fun _ hk => hk.2) (.string qa)) (fun _ hk => hk.2) (.string (⟨#[]⟩ : ByteArray))) (fun _ h_ => h_.1))) hb); have n3_ := A0_.mk (Kd.vB_ (by (with_reducible repeat (first | apply Kd.V_alloc | apply Kd.vN_ | apply Kd.V_drew)); exact (Kd.V_mono (Kd.V_far (p := ⟨ca, 2, none⟩) (Kd.V_far (p := ⟨ca, 1, none⟩) (Kd.V_far (p := ⟨ca, 0, none⟩) (Kd.V_mono ma.out (fun k_ hk => (⟨hk, hk.2⟩ : _ ∧ k_ ≠ ca))) (fun _ hk => hk.2) (.bool a0)) (fun _ hk => hk.2) (.string qa)) (fun _ hk => hk.2) (.string (⟨#[]⟩ : ByteArray))) (fun _ h_ => h_.1))) hb); have n4_ := A0_.mk (Kd.vB_ (by (with_reducible repeat (first | apply Kd.V_alloc | apply Kd.vN_ | apply Kd.V_drew)); exact (Kd.V_mono (Kd.V_far (p := ⟨ca, 2, none⟩) (Kd.V_far (p := ⟨ca, 1, none⟩) (Kd.V_far (p := ⟨ca, 0, none⟩) (Kd.V_mono ra.out (fun k_ hk => (⟨hk, hk.2⟩ : _ ∧ k_ ≠ ca))) (fun _ hk => hk.2) (.bool a0)) (fun _ hk => hk.2) (.string qa)) (fun _ hk => hk.2) (.string (⟨#[]⟩ : ByteArray))) (fun _ h_ => h_.1))) hb); have n5_ := A0_.mk (kB_ (g := ba) (o := .cells zC_ 26 (0, 0)) (by (with_reducible repeat (first | apply kN_ | apply kD_ | apply kA_)); refine bf_ ?_ wa.out _; (with_reducible repeat (first | apply kN_ | apply kD_ | apply kA_)); refine bf_ ?_ wa.out _; (with_reducible repeat (first | apply kN_ | apply kD_ | apply kA_)); refine bf_ ?_ wa.out _; (with_reducible repeat (first | apply kN_ | apply kD_ | apply kA_)); exact aa.out) hb); have n6_ := A0_.mk (kB_ (g := ca) (o := .cells #[.bool a0, .string qa, .string (⟨#[]⟩ : ByteArray)] 26 (0, 0)) (by (with_reducible repeat (first | apply kN_ | apply kD_ | apply kA_)); refine kP_ (cs := #[.bool a0, .string qa, .string (⟨#[]⟩ : ByteArray)]) ?_ 2 _ rfl; (with_reducible repeat (first | apply kN_ | apply kD_ | apply kA_)); refine kP_ (cs := #[.bool a0, .string (⟨#[]⟩ : ByteArray), .string (⟨#[]⟩ : ByteArray)]) ?_ 1 _ rfl; (with_reducible repeat (first | apply kN_ | apply kD_ | apply kA_)); refine kP_ (cs := zC_) ?_ 0 _ rfl; (with_reducible repeat (first | apply kN_ | apply kD_ | apply kA_)); exact ja.out) hb); have n7_ := A0_.mk (bT_ (xB2_ HB ea Va) hb); clear da ia la ma ra aa ja HB; have da := n0_; have ia := n1_; have la := n2_; have ma := n3_; have ra := n4_; have aa := n5_; have ja := n6_; have HB := n7_; clear n0_ n1_ n2_ n3_ n4_ n5_ n6_ n7_; (try clear hb); (try clear hb2); (try clear hk); (try clear hi); have lc : w92.cell? ⟨ca, 0, none⟩ = some (.bool a0) := (kc_ ja.out 0).trans rfl; have mc : w92.cell? ⟨ca, 1, none⟩ = some (.string qa) := (kc_ ja.out 1).trans rfl; have nc : w92.cell? ⟨ca, 2, none⟩ = some (.string (⟨#[]⟩ : ByteArray)) := (kc_ ja.out 2).trans rfl; have oc := kF_ ja.out 0; have pc := kF_ ja.out 1; have qc := kF_ ja.out 2; have rc : w92.cell? ⟨ba, 0, none⟩ = some (.bool false) := (kc_ aa.out 0).trans rfl; have sc : w92.cell? ⟨ba, 1, none⟩ = some (.string (⟨#[]⟩ : ByteArray)) := (kc_ aa.out 1).trans rfl; have tc : w92.cell? ⟨ba, 2, none⟩ = some (.string (⟨#[]⟩ : ByteArray)) := (kc_ aa.out 2).trans rfl; have uc := kF_ aa.out 0; have vc := kF_ aa.out 1; have wc := kF_ aa.out 2))
      refine bodyPost_ret (results_cell_row rfl _ _ ba 26 #[.bool a0, .string qa, .string ib] (0, 0) _ rfl (by (with_reducible repeat (first | apply kN_ | apply kD_ | apply kA_)); refine kP_ (cs := #[.bool a0, .string qa, .string (⟨#[]⟩ : ByteArray)]) ?_ 2 _ rfl; (with_reducible repeat (first | apply kN_ | apply kD_ | apply kA_)); refine kP_ (cs := #[.bool a0, .string (⟨#[]⟩ : ByteArray), .string (⟨#[]⟩ : ByteArray)]) ?_ 1 _ rfl; (with_reducible repeat (first | apply kN_ | apply kD_ | apply kA_)); refine kP_ (cs := zC_) ?_ 0 _ rfl; (with_reducible repeat (first | apply kN_ | apply kD_ | apply kA_)); refine bf_ ?_ wa.out _; (with_reducible repeat (first | apply kN_ | apply kD_ | apply kA_)); exact aa.out) Tryd.underlying26 rfl kr_) rfl ?_
      exact ⟨rE_, xB2_ HB ea Va⟩
     ·rw [if_neg c79] at H
      have sb : decide (1 < (rd pa 0)) = false := decide_eq_false c79
      clear c79
      simp only [Option.some.injEq, Prod.mk.injEq] at H
      obtain ⟨rfl, rfl, rfl⟩ := H
      go_enter Tryd.func113, Tryd.ntmps113
      go_wp2_with (first | ((with_reducible refine gD_ (N := 6) rfl ?_); refine bE_ ?hg (N := 6) ?hd (cs := zC_) (t := 26) ?hr ?_; (case hd => rfl); (case hg => rfl); (case hr => first | (go_simp; done) | (go_simp; rfl)); intro ba hg w95 hbox hb; have n0_ := A0_.mk (bT_ (xB_ HB) hb); have n1_ := A0_.mk (hbox); have n2_ := A0_.mk ((by rw [hg]; exact (bZ_ (xB_ HB)) : w.heap.size ≤ ba)); have n3_ := A0_.mk ((by rw [hg]; exact (bZ_ (xB_ HB)) : w.heap.size ≤ ba)); clear HB; have HB := n0_; have aa := n1_; have oa := n2_; have ea := n3_; clear n0_ n1_ n2_ n3_; clear hb hbox hg) | ((with_reducible refine gC_ (f := 111) rfl ?_); refine gL_ (some 15) rfl rfl Tryd.func111 kr_ rfl #[.slice A1 l1.length c1, .slice A2 l2.length c2] rfl mp_ ?_; (with_reducible refine (r1_common.calls k (fun k_ => k_ < w.heap.size) _ _ l1 (fun k_ => k_ < w.heap.size) _ _ l2 ga _ ?side1 ?side2 A7.out).mono ?_); (case side1 => exact Kd.V_mk HC1.out (Kd.F_below (Kd.C_F (Kd.heap_int .u32) HR1.out) (xB1_ HB ea))); (case side2 => exact Kd.V_mk HC2.out (Kd.F_below (Kd.C_F (Kd.heap_int .u32) HR2.out) (xB1_ HB ea))); rintro e w96 ⟨Ya, rfl, ho0, hb⟩; refine ⟨_, rfl, ?_⟩; have n0_ := A0_.mk (Kd.V_lower (Kd.V_mono (ok' := fun k_ => k_ ≠ ba) ho0 (fun k_ hk_ => Or.elim hk_ (fun hs_ => Or.elim hs_ (fun hs_ => fun e_ => Nat.not_le.2 hs_ (by rw [e_]; exact oa.out)) (fun hs_ => fun e_ => Nat.not_le.2 hs_ (by rw [e_]; exact oa.out))) (fun hn_ => (Kd.freshB (g := ba) (o := .cells zC_ 26 (0, 0)) (xK_ aa.out) k_ hn_)))) (bZ_ (xB1_ HB ea))); have n1_ := A0_.mk (kB_ (g := ba) (o := .cells zC_ 26 (0, 0)) (xK_ aa.out) hb); have n2_ := A0_.mk (bT_ (xB1_ HB ea) hb); clear aa HB; have da := n0_; have aa := n1_; have HB := n2_; clear n0_ n1_ n2_; (try clear hb); (try clear hb2); (try clear hk); (try clear hi); (try clear ho0); obtain ⟨xc, mb, Eb⟩ := Kd.V_slice da.out; subst Eb; have sa : 0 ≤ (0 : Int) := (by omega); have ta : 0 < (ga.length : Int) := oD_; obtain ⟨Ga, Ha, va⟩ := Kd.at_int (Kd.V_reads' da.out).2.2 0 sa ta; cases Ha; have Za : (0 < ga.length) = True := eq_true (by omega); (try rw [show ((0 : Int)).toNat = 0 from rfl] at va); (try rw [Addr.add_zero'] at va); replace sa := eq_true sa; replace ta := eq_true ta) | ((with_reducible refine gC_ (f := 121) rfl ?_); refine gL_ (some 28) rfl rfl Tryd.func121 kr_ rfl #[.slice A1 l1.length c1, .slice (some Ga) ga.length mb] rfl mp_ ?_; (with_reducible refine (r1_divide.calls k (fun k_ => k_ < w.heap.size) _ _ l1 _ _ ga Na fb _ ?side1 ?side2 ?side3 A59.out).mono ?_); (case side1 => exact Kd.V_mk HC1.out (Kd.F_below (Kd.C_F (Kd.heap_int .u32) HR1.out) (xB1_ HB ea))); (case side2 => repeat (first | exact (Kd.V_reads' da.out).2.2 | (with_reducible refine Kd.C_alloc ?_ _) | (with_reducible refine Kd.C_drewN ?_ _) | (with_reducible refine Kd.C_drew ?_))); (case side3 => exact (Kd.V_reads' da.out).2.1); rintro e w98 ⟨ub, vb, rfl, ho0, ho1, hb⟩; refine ⟨_, rfl, ?_⟩; have n0_ := A0_.mk (Kd.vB_ (xV_ da.out) hb); have n1_ := A0_.mk (Kd.V_lower (Kd.V_mono (ok' := fun k_ => k_ ≠ ba) ho0 (fun k_ hk_ => Or.elim hk_ (fun hs_ => fun e_ => Nat.not_le.2 hs_ (by rw [e_]; exact oa.out)) (fun hn_ => (Kd.freshB (g := ba) (o := .cells zC_ 26 (0, 0)) (xK_ aa.out) k_ hn_)))) (bZ_ (xB1_ HB ea))); have n2_ := A0_.mk (Kd.V_lower (Kd.V_mono (ok' := fun k_ => k_ ≠ ba) ho1 (fun k_ hk_ => Or.elim hk_ (fun hs_ => fun e_ => Nat.not_le.2 hs_ (by rw [e_]; exact oa.out)) (fun hn_ => (Kd.freshB (g := ba) (o := .cells zC_ 26 (0, 0)) (xK_ aa.out) k_ hn_)))) (bZ_ (xB1_ HB ea))); have n3_ := A0_.mk (kB_ (g := ba) (o := .cells zC_ 26 (0, 0)) (xK_ aa.out) hb); have n4_ := A0_.mk (bT_ (xB1_ HB ea) hb); clear da aa HB; have da := n0_; have ia := n1_; have la := n2_; have aa := n3_; have HB := n4_; clear n0_ n1_ n2_ n3_ n4_; (try clear hb); (try clear hb2); (try clear hk); (try clear hi); (try clear ho0); (try clear ho1)) | ((with_reducible refine gC_ (f := 121) rfl ?_); refine gL_ (some 34) rfl rfl Tryd.func121 kr_ rfl #[.slice A2 l2.length c2, .slice (some Ga) ga.length mb] rfl mp_ ?_; (with_reducible refine (r1_divide.calls k (fun k_ => k_ < w.heap.size) _ _ l2 _ _ ga pa gb _ ?side1 ?side2 ?side3 A60.out).mono ?_); (case side1 => exact Kd.V_mk HC2.out (Kd.F_below (Kd.C_F (Kd.heap_int .u32) HR2.out) (xB1_ HB ea))); (case side2 => repeat (first | exact (Kd.V_reads' da.out).2.2 | (with_reducible refine Kd.C_alloc ?_ _) | (with_reducible refine Kd.C_drewN ?_ _) | (with_reducible refine Kd.C_drew ?_))); (case side3 => exact (Kd.V_reads' da.out).2.1); rintro e w99 ⟨wb, xb, rfl, ho0, ho1, hb⟩; refine ⟨_, rfl, ?_⟩; have n0_ := A0_.mk (Kd.vB_ (xV_ da.out) hb); have n1_ := A0_.mk (Kd.vB_ (xV_ ia.out) hb); have n2_ := A0_.mk (Kd.vB_ (xV_ la.out) hb); have n3_ := A0_.mk (Kd.V_lower (Kd.V_mono (ok' := fun k_ => k_ ≠ ba) ho0 (fun k_ hk_ => Or.elim hk_ (fun hs_ => fun e_ => Nat.not_le.2 hs_ (by rw [e_]; exact oa.out)) (fun hn_ => (Kd.freshB (g := ba) (o := .cells zC_ 26 (0, 0)) (xK_ aa.out) k_ hn_)))) (bZ_ (xB1_ HB ea))); have n4_ := A0_.mk (Kd.V_lower (Kd.V_mono (ok' := fun k_ => k_ ≠ ba) ho1 (fun k_ hk_ => Or.elim hk_ (fun hs_ => fun e_ => Nat.not_le.2 hs_ (by rw [e_]; exact oa.out)) (fun hn_ => (Kd.freshB (g := ba) (o := .cells zC_ 26 (0, 0)) (xK_ aa.out) k_ hn_)))) (bZ_ (xB1_ HB ea))); have n5_ := A0_.mk (kB_ (g := ba) (o := .cells zC_ 26 (0, 0)) (xK_ aa.out) hb); have n6_ := A0_.mk (bT_ (xB1_ HB ea) hb); clear da ia la aa HB; have da := n0_; have ia := n1_; have la := n2_; have ma := n3_; have ra := n4_; have aa := n5_; have HB := n6_; clear n0_ n1_ n2_ n3_ n4_ n5_ n6_; (try clear hb); (try clear hb2); (try clear hk); (try clear hi); (try clear ho0); (try clear ho1); obtain ⟨Fb, Gb, Hb⟩ := Kd.V_slice ia.out; subst Hb) | ((with_reducible refine gC_ (f := 110) rfl ?_); refine gL_ (some 39) rfl rfl Tryd.func110 kr_ rfl #[.slice Fb Na.length Gb] rfl mp_ ?_; (with_reducible refine (r1_text.calls k _ _ Na qa _ ?side1 ?side2 A61.out).mono ?_); (case side1 => repeat (first | exact (Kd.V_reads' ia.out).2.2 | (with_reducible refine Kd.C_alloc ?_ _) | (with_reducible refine Kd.C_drewN ?_ _) | (with_reducible refine Kd.C_drew ?_))); (case side2 => exact (Kd.V_reads' ia.out).2.1); rintro e yc ⟨rfl, hb⟩; refine ⟨_, rfl, ?_⟩; have n0_ := A0_.mk (Kd.vB_ (xV_ da.out) hb); have n1_ := A0_.mk (Kd.vB_ (xV_ ia.out) hb); have n2_ := A0_.mk (Kd.vB_ (xV_ la.out) hb); have n3_ := A0_.mk (Kd.vB_ (xV_ ma.out) hb); have n4_ := A0_.mk (Kd.vB_ (xV_ ra.out) hb); have n5_ := A0_.mk (kB_ (g := ba) (o := .cells zC_ 26 (0, 0)) (xK_ aa.out) hb); have n6_ := A0_.mk (bT_ (xB1_ HB ea) hb); clear da ia la ma ra aa HB; have da := n0_; have ia := n1_; have la := n2_; have ma := n3_; have ra := n4_; have aa := n5_; have HB := n6_; clear n0_ n1_ n2_ n3_ n4_ n5_ n6_; (try clear hb); (try clear hb2); (try clear hk); (try clear hi)) | ((with_reducible refine gD_ (N := 8) rfl ?_); refine bE_ ?hg (N := 8) ?hd (cs := zC_) (t := 26) ?hr ?_; (case hd => rfl); (case hg => rfl); (case hr => first | (go_simp; done) | (go_simp; rfl)); intro ca hg Oa hbox hb; have n0_ := A0_.mk (Kd.vB_ (Kd.V_elderB (xV_ da.out) ca (Nat.le_of_eq hg.symm)) hb); have n1_ := A0_.mk (Kd.vB_ (Kd.V_elderB (xV_ ia.out) ca (Nat.le_of_eq hg.symm)) hb); have n2_ := A0_.mk (Kd.vB_ (Kd.V_elderB (xV_ la.out) ca (Nat.le_of_eq hg.symm)) hb); have n3_ := A0_.mk (Kd.vB_ (Kd.V_elderB (xV_ ma.out) ca (Nat.le_of_eq hg.symm)) hb); have n4_ := A0_.mk (Kd.vB_ (Kd.V_elderB (xV_ ra.out) ca (Nat.le_of_eq hg.symm)) hb); have n5_ := A0_.mk (kB_ (g := ba) (o := .cells zC_ 26 (0, 0)) (xK_ aa.out) hb); have n6_ := A0_.mk (bT_ (xB1_ HB ea) hb); have n7_ := A0_.mk (hbox); have n8_ := A0_.mk ((by rw [hg]; exact (bZ_ (xB1_ HB ea)) : w.heap.size ≤ ca)); have n9_ := A0_.mk ((by rw [hg]; exact (bZ_ (xB1_ HB ea)) : w.heap.size ≤ ca)); have Sa := A0_.mk ((by rw [hg]; exact Nat.ne_of_lt (blk_lt (g := ba) (o := .cells zC_ 26 (0, 0)) (xK_ aa.out)) : ba ≠ ca)); have Ta := A0_.mk ((by rw [hg]; exact Nat.ne_of_gt (blk_lt (g := ba) (o := .cells zC_ 26 (0, 0)) (xK_ aa.out)) : ca ≠ ba)); clear da ia la ma ra aa HB; have da := n0_; have ia := n1_; have la := n2_; have ma := n3_; have ra := n4_; have aa := n5_; have HB := n6_; have ja := n7_; have Bb := n8_; have Va := n9_; have wa := Sa; have ab := Ta; clear n0_ n1_ n2_ n3_ n4_ n5_ n6_ n7_ n8_ n9_ Sa Ta; clear hb hbox hg; have hnb103 := ab.out; have hnc103 := wa.out; have zc : Oa.cell? ⟨ca, 0, none⟩ = some (.bool false) := (kc_ ja.out 0).trans rfl; have Ac : Oa.cell? ⟨ca, 1, none⟩ = some (.string (⟨#[]⟩ : ByteArray)) := (kc_ ja.out 1).trans rfl; have Bc : Oa.cell? ⟨ca, 2, none⟩ = some (.string (⟨#[]⟩ : ByteArray)) := (kc_ ja.out 2).trans rfl; have Cc := kF_ ja.out 0; have Dc := kF_ ja.out 1; have Ec := kF_ ja.out 2; obtain ⟨Fc, Gc, Ib⟩ := Kd.V_slice ma.out; subst Ib; have Ia : 0 ≤ (0 : Int) := (by omega); have Ja : 0 < (pa.length : Int) := oD_; obtain ⟨Ea, bb, ka⟩ := Kd.at_int (Kd.V_reads' ma.out).2.2 0 Ia Ja; cases bb; have Db : (0 < pa.length) = True := eq_true (by omega); (try rw [show ((0 : Int)).toNat = 0 from rfl] at ka); (try rw [Addr.add_zero'] at ka); have ya : Ea.block ≠ ca := cell_blk_ne ka ja.out (no_int3 (by intro _ _ h; cases h) (by intro _ _ h; cases h) (by intro _ _ h; cases h)); have za : Ea.block ≠ ca := cell_blk_ne ka ja.out (no_int3 (by intro _ _ h; cases h) (by intro _ _ h; cases h) (by intro _ _ h; cases h)); have Aa : Ea.block ≠ ca := cell_blk_ne ka ja.out (no_int3 (by intro _ _ h; cases h) (by intro _ _ h; cases h) (by intro _ _ h; cases h)); replace ka := (cf_ (p := ⟨ca, 0, none⟩) (by first | (rw [ab_]; exact ya) | (show (Addr.add _ _).block ≠ _; rw [ab_]; exact ya) | exact ya) (.bool a0)).trans ka; replace ka := (cf_ (p := ⟨ca, 1, none⟩) (by first | (rw [ab_]; exact za) | (show (Addr.add _ _).block ≠ _; rw [ab_]; exact za) | exact za) (.string qa)).trans ka; replace ka := (cf_ (p := ⟨ca, 2, none⟩) (by first | (rw [ab_]; exact Aa) | (show (Addr.add _ _).block ≠ _; rw [ab_]; exact Aa) | exact Aa) (.string (⟨#[]⟩ : ByteArray))).trans ka; clear ya za Aa; replace Ia := eq_true Ia; replace Ja := eq_true Ja; have Hc : Oa.cell? ⟨ba, 0, none⟩ = some (.bool false) := (kc_ aa.out 0).trans rfl; have Ic : Oa.cell? ⟨ba, 1, none⟩ = some (.string (⟨#[]⟩ : ByteArray)) := (kc_ aa.out 1).trans rfl; have Jc : Oa.cell? ⟨ba, 2, none⟩ = some (.string (⟨#[]⟩ : ByteArray)) := (kc_ aa.out 2).trans rfl; have Kc := kF_ aa.out 0; have Lc := kF_ aa.out 1; have Mc := kF_ aa.out 2))
      refine bodyPost_ret (results_cell_row rfl _ _ ba 26 #[.bool a0, .string qa, .string (⟨#[]⟩ : ByteArray)] (0, 0) _ rfl (by (with_reducible repeat (first | apply kN_ | apply kD_ | apply kA_)); refine kP_ (cs := #[.bool a0, .string qa, .string (⟨#[]⟩ : ByteArray)]) ?_ 2 _ rfl; (with_reducible repeat (first | apply kN_ | apply kD_ | apply kA_)); refine kP_ (cs := #[.bool a0, .string (⟨#[]⟩ : ByteArray), .string (⟨#[]⟩ : ByteArray)]) ?_ 1 _ rfl; (with_reducible repeat (first | apply kN_ | apply kD_ | apply kA_)); refine kP_ (cs := zC_) ?_ 0 _ rfl; (with_reducible repeat (first | apply kN_ | apply kD_ | apply kA_)); refine bf_ ?_ wa.out _; (with_reducible repeat (first | apply kN_ | apply kD_ | apply kA_)); refine bf_ ?_ wa.out _; (with_reducible repeat (first | apply kN_ | apply kD_ | apply kA_)); refine bf_ ?_ wa.out _; (with_reducible repeat (first | apply kN_ | apply kD_ | apply kA_)); exact aa.out) Tryd.underlying26 rfl kr_) rfl ?_
      exact ⟨rE_, xB2_ HB ea Va⟩
   ·rw [if_neg c58] at H
    have rb : decide (1 < (rd ga 0)) = false := decide_eq_false c58
    clear c58
    obtain ⟨ua, nb, H⟩ := oB_ H
    (try dsimp only at H)
    by_cases Wa : (l2.length : Int) > 1
    ·rw [if_pos Wa] at H
     exact absurd H (by simp)
    ·rw [if_neg Wa] at H
     have Nc : decide (1 < (l2.length : Int)) = false := decide_eq_false Wa
     have Oc : decide (1 < l2.length) = false := decide_eq_false (by omega)
     clear Wa
     by_cases Xa : 0 < (l2.length : Int)
     rotate_left
     ·rw [if_neg Xa] at H
      exact absurd H (by simp)
     rw [if_pos Xa] at H
     have Pc : decide (0 < (l2.length : Int)) = true := decide_eq_true Xa
     have Qc : decide (0 < l2.length) = true := decide_eq_true (by omega)
     clear Xa
     by_cases Pa : (rd l2 0) > 1
     ·rw [if_pos Pa] at H
      have Jb : decide (1 < (rd l2 0)) = true := decide_eq_true Pa
      clear Pa
      obtain ⟨ob, Kb, H⟩ := oB_ H
      (try dsimp only at H)
      simp only [Option.some.injEq, Prod.mk.injEq] at H
      obtain ⟨rfl, rfl, rfl⟩ := H
      go_enter Tryd.func113, Tryd.ntmps113
      go_wp2_with (first | ((with_reducible refine gD_ (N := 6) rfl ?_); refine bE_ ?hg (N := 6) ?hd (cs := zC_) (t := 26) ?hr ?_; (case hd => rfl); (case hg => rfl); (case hr => first | (go_simp; done) | (go_simp; rfl)); intro ba hg Rc hbox hb; have n0_ := A0_.mk (bT_ (xB_ HB) hb); have n1_ := A0_.mk (hbox); have n2_ := A0_.mk ((by rw [hg]; exact (bZ_ (xB_ HB)) : w.heap.size ≤ ba)); have n3_ := A0_.mk ((by rw [hg]; exact (bZ_ (xB_ HB)) : w.heap.size ≤ ba)); clear HB; have HB := n0_; have aa := n1_; have oa := n2_; have ea := n3_; clear n0_ n1_ n2_ n3_; clear hb hbox hg) | ((with_reducible refine gC_ (f := 111) rfl ?_); refine gL_ (some 15) rfl rfl Tryd.func111 kr_ rfl #[.slice A1 l1.length c1, .slice A2 l2.length c2] rfl mp_ ?_; (with_reducible refine (r1_common.calls k (fun k_ => k_ < w.heap.size) _ _ l1 (fun k_ => k_ < w.heap.size) _ _ l2 ga _ ?side1 ?side2 A7.out).mono ?_); (case side1 => exact Kd.V_mk HC1.out (Kd.F_below (Kd.C_F (Kd.heap_int .u32) HR1.out) (xB1_ HB ea))); (case side2 => exact Kd.V_mk HC2.out (Kd.F_below (Kd.C_F (Kd.heap_int .u32) HR2.out) (xB1_ HB ea))); rintro e Sc ⟨Ya, rfl, ho0, hb⟩; refine ⟨_, rfl, ?_⟩; have n0_ := A0_.mk (Kd.V_lower (Kd.V_mono (ok' := fun k_ => k_ ≠ ba) ho0 (fun k_ hk_ => Or.elim hk_ (fun hs_ => Or.elim hs_ (fun hs_ => fun e_ => Nat.not_le.2 hs_ (by rw [e_]; exact oa.out)) (fun hs_ => fun e_ => Nat.not_le.2 hs_ (by rw [e_]; exact oa.out))) (fun hn_ => (Kd.freshB (g := ba) (o := .cells zC_ 26 (0, 0)) (xK_ aa.out) k_ hn_)))) (bZ_ (xB1_ HB ea))); have n1_ := A0_.mk (kB_ (g := ba) (o := .cells zC_ 26 (0, 0)) (xK_ aa.out) hb); have n2_ := A0_.mk (bT_ (xB1_ HB ea) hb); clear aa HB; have da := n0_; have aa := n1_; have HB := n2_; clear n0_ n1_ n2_; (try clear hb); (try clear hb2); (try clear hk); (try clear hi); (try clear ho0); obtain ⟨Tc, Uc, Lb⟩ := Kd.V_slice da.out; subst Lb; have sa : 0 ≤ (0 : Int) := (by omega); have ta : 0 < (ga.length : Int) := oD_; obtain ⟨Ga, Ha, va⟩ := Kd.at_int (Kd.V_reads' da.out).2.2 0 sa ta; cases Ha; have Za : (0 < ga.length) = True := eq_true (by omega); (try rw [show ((0 : Int)).toNat = 0 from rfl] at va); (try rw [Addr.add_zero'] at va); replace sa := eq_true sa; replace ta := eq_true ta) | ((with_reducible refine gC_ (f := 110) rfl ?_); refine gL_ (some 39) rfl rfl Tryd.func110 kr_ rfl #[.slice A1 l1.length c1] rfl mp_ ?_; (with_reducible refine (r1_text.calls k _ _ l1 ua _ ?side1 ?side2 nb.out).mono ?_); (case side1 => repeat (first | exact (Kd.C_below HR1.out HB.out) | (with_reducible refine Kd.C_alloc ?_ _) | (with_reducible refine Kd.C_drewN ?_ _) | (with_reducible refine Kd.C_drew ?_))); (case side2 => exact HC1.out); rintro e Vc ⟨rfl, hb⟩; refine ⟨_, rfl, ?_⟩; have n0_ := A0_.mk (Kd.vB_ (xV_ da.out) hb); have n1_ := A0_.mk (kB_ (g := ba) (o := .cells zC_ 26 (0, 0)) (xK_ aa.out) hb); have n2_ := A0_.mk (bT_ (xB1_ HB ea) hb); clear da aa HB; have da := n0_; have aa := n1_; have HB := n2_; clear n0_ n1_ n2_; (try clear hb); (try clear hb2); (try clear hk); (try clear hi)) | ((with_reducible refine gD_ (N := 8) rfl ?_); refine bE_ ?hg (N := 8) ?hd (cs := zC_) (t := 26) ?hr ?_; (case hd => rfl); (case hg => rfl); (case hr => first | (go_simp; done) | (go_simp; rfl)); intro fa hg cb hbox hb; have n0_ := A0_.mk (Kd.vB_ (Kd.V_elderB (xV_ da.out) fa (Nat.le_of_eq hg.symm)) hb); have n1_ := A0_.mk (kB_ (g := ba) (o := .cells zC_ 26 (0, 0)) (xK_ aa.out) hb); have n2_ := A0_.mk (bT_ (xB1_ HB ea) hb); have n3_ := A0_.mk (hbox); have n4_ := A0_.mk ((by rw [hg]; exact (bZ_ (xB1_ HB ea)) : w.heap.size ≤ fa)); have n5_ := A0_.mk ((by rw [hg]; exact (bZ_ (xB1_ HB ea)) : w.heap.size ≤ fa)); have n6_ := A0_.mk ((by rw [hg]; exact Nat.ne_of_lt (blk_lt (g := ba) (o := .cells zC_ 26 (0, 0)) (xK_ aa.out)) : ba ≠ fa)); have n7_ := A0_.mk ((by rw [hg]; exact Nat.ne_of_gt (blk_lt (g := ba) (o := .cells zC_ 26 (0, 0)) (xK_ aa.out)) : fa ≠ ba)); clear da aa HB; have da := n0_; have aa := n1_; have HB := n2_; have na := n3_; have Ka := n4_; have Ua := n5_; have xa := n6_; have db := n7_; clear n0_ n1_ n2_ n3_ n4_ n5_ n6_ n7_; clear hb hbox hg; have hnb128 := db.out; have hnc128 := xa.out; have Wc : cb.cell? ⟨fa, 0, none⟩ = some (.bool false) := (kc_ na.out 0).trans rfl; have Xc : cb.cell? ⟨fa, 1, none⟩ = some (.string (⟨#[]⟩ : ByteArray)) := (kc_ na.out 1).trans rfl; have Yc : cb.cell? ⟨fa, 2, none⟩ = some (.string (⟨#[]⟩ : ByteArray)) := (kc_ na.out 2).trans rfl; have Zc := kF_ na.out 0; have ad := kF_ na.out 1; have bd := kF_ na.out 2; have La : 0 ≤ (0 : Int) := (by omega); have Ma : 0 < (l2.length : Int) := oD_; obtain ⟨Fa, eb, ha⟩ := Kd.at_int HR2.out 0 La Ma; cases eb; have Mb : (0 < l2.length) = True := eq_true (by omega); (try rw [show ((0 : Int)).toNat = 0 from rfl] at ha); (try rw [Addr.add_zero'] at ha); have Ba : Fa.block ≠ fa := Nat.ne_of_lt (Nat.lt_of_lt_of_le (by have := World.block_lt_of_cell? _ _ ha; first | rwa [ab_] at this | exact this) Ka.out); have Ca : Fa.block ≠ fa := Nat.ne_of_lt (Nat.lt_of_lt_of_le (by have := World.block_lt_of_cell? _ _ ha; first | rwa [ab_] at this | exact this) Ka.out); have Da : Fa.block ≠ fa := Nat.ne_of_lt (Nat.lt_of_lt_of_le (by have := World.block_lt_of_cell? _ _ ha; first | rwa [ab_] at this | exact this) Ka.out); (try replace ha := cT_ HB ha); replace ha := (cf_ (p := ⟨fa, 0, none⟩) (by first | (rw [ab_]; exact Ba) | (show (Addr.add _ _).block ≠ _; rw [ab_]; exact Ba) | exact Ba) (.bool a0)).trans ha; replace ha := (cf_ (p := ⟨fa, 1, none⟩) (by first | (rw [ab_]; exact Ca) | (show (Addr.add _ _).block ≠ _; rw [ab_]; exact Ca) | exact Ca) (.string ua)).trans ha; replace ha := (cf_ (p := ⟨fa, 2, none⟩) (by first | (rw [ab_]; exact Da) | (show (Addr.add _ _).block ≠ _; rw [ab_]; exact Da) | exact Da) (.string (⟨#[]⟩ : ByteArray))).trans ha; clear Ba Ca Da; replace La := eq_true La; replace Ma := eq_true Ma) | ((with_reducible refine gC_ (f := 110) rfl ?_); refine gL_ (some 51) rfl rfl Tryd.func110 kr_ rfl #[.slice (some Fa) l2.length c2] rfl mp_ ?_; (with_reducible refine (r1_text.calls k _ _ l2 ob _ ?side1 ?side2 Kb.out).mono ?_); (case side1 => exact Kd.C_below HR2.out (xB2_ HB ea Ua)); (case side2 => exact HC2.out); rintro e Qa ⟨rfl, hb⟩; refine ⟨_, rfl, ?_⟩; have n0_ := A0_.mk (Kd.vB_ (by (with_reducible repeat (first | apply Kd.V_alloc | apply Kd.vN_ | apply Kd.V_drew)); exact (Kd.V_mono (Kd.V_far (p := ⟨fa, 2, none⟩) (Kd.V_far (p := ⟨fa, 1, none⟩) (Kd.V_far (p := ⟨fa, 0, none⟩) (Kd.V_mono da.out (fun k_ hk => (⟨hk, hk.2⟩ : _ ∧ k_ ≠ fa))) (fun _ hk => hk.2) (.bool a0)) (fun _ hk => hk.2) (.string ua)) (fun _ hk => hk.2) (.string (⟨#[]⟩ : ByteArray))) (fun _ h_ => h_.1))) hb); have n1_ := A0_.mk (kB_ (g := ba) (o := .cells zC_ 26 (0, 0)) (by (with_reducible repeat (first | apply kN_ | apply kD_ | apply kA_)); refine bf_ ?_ xa.out _; (with_reducible repeat (first | apply kN_ | apply kD_ | apply kA_)); refine bf_ ?_ xa.out _; (with_reducible repeat (first | apply kN_ | apply kD_ | apply kA_)); refine bf_ ?_ xa.out _; (with_reducible repeat (first | apply kN_ | apply kD_ | apply kA_)); exact aa.out) hb); have n2_ := A0_.mk (kB_ (g := fa) (o := .cells #[.bool a0, .string ua, .string (⟨#[]⟩ : ByteArray)] 26 (0, 0)) (by (with_reducible repeat (first | apply kN_ | apply kD_ | apply kA_)); refine kP_ (cs := #[.bool a0, .string ua, .string (⟨#[]⟩ : ByteArray)]) ?_ 2 _ rfl; (with_reducible repeat (first | apply kN_ | apply kD_ | apply kA_)); refine kP_ (cs := #[.bool a0, .string (⟨#[]⟩ : ByteArray), .string (⟨#[]⟩ : ByteArray)]) ?_ 1 _ rfl; (with_reducible repeat (first | apply kN_ | apply kD_ | apply kA_)); refine kP_ (cs := zC_) ?_ 0 _ rfl; (with_reducible repeat (first | apply kN_ | apply kD_ | apply kA_)); exact na.out) hb); have n3_ := A0_.mk (bT_ (xB2_ HB ea Ua) hb); clear da aa na HB; have da := n0_; have aa := n1_; have na := n2_; have HB := n3_; clear n0_ n1_ n2_ n3_; (try clear hb); (try clear hb2); (try clear hk); (try clear hi); have cd : Qa.cell? ⟨fa, 0, none⟩ = some (.bool a0) := (kc_ na.out 0).trans rfl; have dd : Qa.cell? ⟨fa, 1, none⟩ = some (.string ua) := (kc_ na.out 1).trans rfl; have ed : Qa.cell? ⟨fa, 2, none⟩ = some (.string (⟨#[]⟩ : ByteArray)) := (kc_ na.out 2).trans rfl; have fd := kF_ na.out 0; have id := kF_ na.out 1; have jd := kF_ na.out 2; have kd : Qa.cell? ⟨ba, 0, none⟩ = some (.bool false) := (kc_ aa.out 0).trans rfl; have ld : Qa.cell? ⟨ba, 1, none⟩ = some (.string (⟨#[]⟩ : ByteArray)) := (kc_ aa.out 1).trans rfl; have md : Qa.cell? ⟨ba, 2, none⟩ = some (.string (⟨#[]⟩ : ByteArray)) := (kc_ aa.out 2).trans rfl; have nd := kF_ aa.out 0; have od := kF_ aa.out 1; have pd := kF_ aa.out 2))
      refine bodyPost_ret (results_cell_row rfl _ _ ba 26 #[.bool a0, .string ua, .string ob] (0, 0) _ rfl (by (with_reducible repeat (first | apply kN_ | apply kD_ | apply kA_)); refine kP_ (cs := #[.bool a0, .string ua, .string (⟨#[]⟩ : ByteArray)]) ?_ 2 _ rfl; (with_reducible repeat (first | apply kN_ | apply kD_ | apply kA_)); refine kP_ (cs := #[.bool a0, .string (⟨#[]⟩ : ByteArray), .string (⟨#[]⟩ : ByteArray)]) ?_ 1 _ rfl; (with_reducible repeat (first | apply kN_ | apply kD_ | apply kA_)); refine kP_ (cs := zC_) ?_ 0 _ rfl; (with_reducible repeat (first | apply kN_ | apply kD_ | apply kA_)); refine bf_ ?_ xa.out _; (with_reducible repeat (first | apply kN_ | apply kD_ | apply kA_)); exact aa.out) Tryd.underlying26 rfl kr_) rfl ?_
      exact ⟨rE_, xB2_ HB ea Ua⟩
     ·rw [if_neg Pa] at H
      have Jb : decide (1 < (rd l2 0)) = false := decide_eq_false Pa
      clear Pa
      simp only [Option.some.injEq, Prod.mk.injEq] at H
      obtain ⟨rfl, rfl, rfl⟩ := H
      go_enter Tryd.func113, Tryd.ntmps113
      go_wp2_with (first | ((with_reducible refine gD_ (N := 6) rfl ?_); refine bE_ ?hg (N := 6) ?hd (cs := zC_) (t := 26) ?hr ?_; (case hd => rfl); (case hg => rfl); (case hr => first | (go_simp; done) | (go_simp; rfl)); intro ba hg qd hbox hb; have n0_ := A0_.mk (bT_ (xB_ HB) hb); have n1_ := A0_.mk (hbox); have n2_ := A0_.mk ((by rw [hg]; exact (bZ_ (xB_ HB)) : w.heap.size ≤ ba)); have n3_ := A0_.mk ((by rw [hg]; exact (bZ_ (xB_ HB)) : w.heap.size ≤ ba)); clear HB; have HB := n0_; have aa := n1_; have oa := n2_; have ea := n3_; clear n0_ n1_ n2_ n3_; clear hb hbox hg) | ((with_reducible refine gC_ (f := 111) rfl ?_); refine gL_ (some 15) rfl rfl Tryd.func111 kr_ rfl #[.slice A1 l1.length c1, .slice A2 l2.length c2] rfl mp_ ?_; (with_reducible refine (r1_common.calls k (fun k_ => k_ < w.heap.size) _ _ l1 (fun k_ => k_ < w.heap.size) _ _ l2 ga _ ?side1 ?side2 A7.out).mono ?_); (case side1 => exact Kd.V_mk HC1.out (Kd.F_below (Kd.C_F (Kd.heap_int .u32) HR1.out) (xB1_ HB ea))); (case side2 => exact Kd.V_mk HC2.out (Kd.F_below (Kd.C_F (Kd.heap_int .u32) HR2.out) (xB1_ HB ea))); rintro e sd ⟨Ya, rfl, ho0, hb⟩; refine ⟨_, rfl, ?_⟩; have n0_ := A0_.mk (Kd.V_lower (Kd.V_mono (ok' := fun k_ => k_ ≠ ba) ho0 (fun k_ hk_ => Or.elim hk_ (fun hs_ => Or.elim hs_ (fun hs_ => fun e_ => Nat.not_le.2 hs_ (by rw [e_]; exact oa.out)) (fun hs_ => fun e_ => Nat.not_le.2 hs_ (by rw [e_]; exact oa.out))) (fun hn_ => (Kd.freshB (g := ba) (o := .cells zC_ 26 (0, 0)) (xK_ aa.out) k_ hn_)))) (bZ_ (xB1_ HB ea))); have n1_ := A0_.mk (kB_ (g := ba) (o := .cells zC_ 26 (0, 0)) (xK_ aa.out) hb); have n2_ := A0_.mk (bT_ (xB1_ HB ea) hb); clear aa HB; have da := n0_; have aa := n1_; have HB := n2_; clear n0_ n1_ n2_; (try clear hb); (try clear hb2); (try clear hk); (try clear hi); (try clear ho0); obtain ⟨td, ud, Nb⟩ := Kd.V_slice da.out; subst Nb; have sa : 0 ≤ (0 : Int) := (by omega); have ta : 0 < (ga.length : Int) := oD_; obtain ⟨Ga, Ha, va⟩ := Kd.at_int (Kd.V_reads' da.out).2.2 0 sa ta; cases Ha; have Za : (0 < ga.length) = True := eq_true (by omega); (try rw [show ((0 : Int)).toNat = 0 from rfl] at va); (try rw [Addr.add_zero'] at va); replace sa := eq_true sa; replace ta := eq_true ta) | ((with_reducible refine gC_ (f := 110) rfl ?_); refine gL_ (some 39) rfl rfl Tryd.func110 kr_ rfl #[.slice A1 l1.length c1] rfl mp_ ?_; (with_reducible refine (r1_text.calls k _ _ l1 ua _ ?side1 ?side2 nb.out).mono ?_); (case side1 => repeat (first | exact (Kd.C_below HR1.out HB.out) | (with_reducible refine Kd.C_alloc ?_ _) | (with_reducible refine Kd.C_drewN ?_ _) | (with_reducible refine Kd.C_drew ?_))); (case side2 => exact HC1.out); rintro e vd ⟨rfl, hb⟩; refine ⟨_, rfl, ?_⟩; have n0_ := A0_.mk (Kd.vB_ (xV_ da.out) hb); have n1_ := A0_.mk (kB_ (g := ba) (o := .cells zC_ 26 (0, 0)) (xK_ aa.out) hb); have n2_ := A0_.mk (bT_ (xB1_ HB ea) hb); clear da aa HB; have da := n0_; have aa := n1_; have HB := n2_; clear n0_ n1_ n2_; (try clear hb); (try clear hb2); (try clear hk); (try clear hi)) | ((with_reducible refine gD_ (N := 8) rfl ?_); refine bE_ ?hg (N := 8) ?hd (cs := zC_) (t := 26) ?hr ?_; (case hd => rfl); (case hg => rfl); (case hr => first | (go_simp; done) | (go_simp; rfl)); intro fa hg Ra hbox hb; have n0_ := A0_.mk (Kd.vB_ (Kd.V_elderB (xV_ da.out) fa (Nat.le_of_eq hg.symm)) hb); have n1_ := A0_.mk (kB_ (g := ba) (o := .cells zC_ 26 (0, 0)) (xK_ aa.out) hb); have n2_ := A0_.mk (bT_ (xB1_ HB ea) hb); have n3_ := A0_.mk (hbox); have n4_ := A0_.mk ((by rw [hg]; exact (bZ_ (xB1_ HB ea)) : w.heap.size ≤ fa)); have n5_ := A0_.mk ((by rw [hg]; exact (bZ_ (xB1_ HB ea)) : w.heap.size ≤ fa)); have n6_ := A0_.mk ((by rw [hg]; exact Nat.ne_of_lt (blk_lt (g := ba) (o := .cells zC_ 26 (0, 0)) (xK_ aa.out)) : ba ≠ fa)); have n7_ := A0_.mk ((by rw [hg]; exact Nat.ne_of_gt (blk_lt (g := ba) (o := .cells zC_ 26 (0, 0)) (xK_ aa.out)) : fa ≠ ba)); clear da aa HB; have da := n0_; have aa := n1_; have HB := n2_; have na := n3_; have Ka := n4_; have Ua := n5_; have xa := n6_; have db := n7_; clear n0_ n1_ n2_ n3_ n4_ n5_ n6_ n7_; clear hb hbox hg; have hnb138 := db.out; have hnc138 := xa.out; have wd : Ra.cell? ⟨fa, 0, none⟩ = some (.bool false) := (kc_ na.out 0).trans rfl; have xd : Ra.cell? ⟨fa, 1, none⟩ = some (.string (⟨#[]⟩ : ByteArray)) := (kc_ na.out 1).trans rfl; have yd : Ra.cell? ⟨fa, 2, none⟩ = some (.string (⟨#[]⟩ : ByteArray)) := (kc_ na.out 2).trans rfl; have zd := kF_ na.out 0; have Ad := kF_ na.out 1; have Bd := kF_ na.out 2; have La : 0 ≤ (0 : Int) := (by omega); have Ma : 0 < (l2.length : Int) := oD_; obtain ⟨Fa, eb, ha⟩ := Kd.at_int HR2.out 0 La Ma; cases eb; have Mb : (0 < l2.length) = True := eq_true (by omega); (try rw [show ((0 : Int)).toNat = 0 from rfl] at ha); (try rw [Addr.add_zero'] at ha); have Ba : Fa.block ≠ fa := Nat.ne_of_lt (Nat.lt_of_lt_of_le (by have := World.block_lt_of_cell? _ _ ha; first | rwa [ab_] at this | exact this) Ka.out); have Ca : Fa.block ≠ fa := Nat.ne_of_lt (Nat.lt_of_lt_of_le (by have := World.block_lt_of_cell? _ _ ha; first | rwa [ab_] at this | exact this) Ka.out); have Da : Fa.block ≠ fa := Nat.ne_of_lt (Nat.lt_of_lt_of_le (by have := World.block_lt_of_cell? _ _ ha; first | rwa [ab_] at this | exact this) Ka.out); (try replace ha := cT_ HB ha); replace ha := (cf_ (p := ⟨fa, 0, none⟩) (by first | (rw [ab_]; exact Ba) | (show (Addr.add _ _).block ≠ _; rw [ab_]; exact Ba) | exact Ba) (.bool a0)).trans ha; replace ha := (cf_ (p := ⟨fa, 1, none⟩) (by first | (rw [ab_]; exact Ca) | (show (Addr.add _ _).block ≠ _; rw [ab_]; exact Ca) | exact Ca) (.string ua)).trans ha; replace ha := (cf_ (p := ⟨fa, 2, none⟩) (by first | (rw [ab_]; exact Da) | (show (Addr.add _ _).block ≠ _; rw [ab_]; exact Da) | exact Da) (.string (⟨#[]⟩ : ByteArray))).trans ha; clear Ba Ca Da; replace La := eq_true La; replace Ma := eq_true Ma; have Cd : Ra.cell? ⟨ba, 0, none⟩ = some (.bool false) := (kc_ aa.out 0).trans rfl; have Dd : Ra.cell? ⟨ba, 1, none⟩ = some (.string (⟨#[]⟩ : ByteArray)) := (kc_ aa.out 1).trans rfl; have Ed : Ra.cell? ⟨ba, 2, none⟩ = some (.string (⟨#[]⟩ : ByteArray)) := (kc_ aa.out 2).trans rfl; have Fd := kF_ aa.out 0; have Gd := kF_ aa.out 1; have Hd := kF_ aa.out 2))
      refine bodyPost_ret (results_cell_row rfl _ _ ba 26 #[.bool a0, .string ua, .string (⟨#[]⟩ : ByteArray)] (0, 0) _ rfl (by (with_reducible repeat (first | apply kN_ | apply kD_ | apply kA_)); refine kP_ (cs := #[.bool a0, .string ua, .string (⟨#[]⟩ : ByteArray)]) ?_ 2 _ rfl; (with_reducible repeat (first | apply kN_ | apply kD_ | apply kA_)); refine kP_ (cs := #[.bool a0, .string (⟨#[]⟩ : ByteArray), .string (⟨#[]⟩ : ByteArray)]) ?_ 1 _ rfl; (with_reducible repeat (first | apply kN_ | apply kD_ | apply kA_)); refine kP_ (cs := zC_) ?_ 0 _ rfl; (with_reducible repeat (first | apply kN_ | apply kD_ | apply kA_)); refine bf_ ?_ xa.out _; (with_reducible repeat (first | apply kN_ | apply kD_ | apply kA_)); refine bf_ ?_ xa.out _; (with_reducible repeat (first | apply kN_ | apply kD_ | apply kA_)); refine bf_ ?_ xa.out _; (with_reducible repeat (first | apply kN_ | apply kD_ | apply kA_)); exact aa.out) Tryd.underlying26 rfl kr_) rfl ?_
      exact ⟨rE_, xB2_ HB ea Ua⟩
def r1_Make.f (k : Nat) (a0 : Bool) (a1 : ByteArray) (a2 : ByteArray) : Option (Bool × ByteArray × ByteArray × Bool) := (r1_limbs.f k a2).bind fun t739 => (if (t739.length : Int) = 0 then (some (false, (⟨#[]⟩ : ByteArray), (⟨#[]⟩ : ByteArray), false)) else ((r1_limbs.f k a1).bind fun t742 => ((r1_reduced.f k a0 t742 t739).bind fun bt745 => (some (bt745.1, bt745.2.1, bt745.2.2, true)))))
theorem r1_Make.mono : ∀ a0 a1 a2 k, LeO (r1_Make.f k a0 a1 a2) (r1_Make.f (k + 1) a0 a1 a2) := by
 intro a0 a1 a2 k
 unfold r1_Make.f
 repeat' first
   | (with_reducible first | exact r1_limbs.mono _ _ | exact r1_reduced.mono _ _ _ _ | exact LeO.refl _ | exact LeO.none _ | refine LeO.ite ?_ ?_ | refine LeO.bind ?_ (fun _ => ?_))
theorem r1_Make.calls (k : Nat) (a0 : Bool) (a1 : ByteArray) (a2 : ByteArray) (r1 : Bool) (r2 : ByteArray) (r3 : ByteArray) (r4 : Bool) (w : World) (h : r1_Make.f k a0 a1 a2 = some (r1, r2, r3, r4)) :
  Calls Tryd.prog 91 #[.bool a0, .string a1, .string a2] w fun e w' => e = .returned (.tuple #[.agg #[.bool r1, .string r2, .string r3], .bool r4]) ∧ Below w.heap.size w w' := by
 have hu26 := Tryd.underlying26
 have HB := A0_.mk (Below.refl w.heap.size w)
 have H := h
 unfold r1_Make.f at H
 clear h
 obtain ⟨da, A4, H⟩ := oB_ H
 (try dsimp only at H)
 by_cases c5 : (da.length : Int) = 0
 ·rw [if_pos c5] at H
  have ka : ((da.length : Int) == 0) = true := beq_iff_eq.mpr c5
  have la : ((da.length : Int) != 0) = false := bne_eq_false_iff_eq.mpr c5
  clear c5
  simp only [Option.some.injEq, Prod.mk.injEq] at H
  obtain ⟨rfl, rfl, rfl, rfl⟩ := H
  go_enter Tryd.func91, Tryd.ntmps91
  go_wp2_with (first | ((with_reducible refine gD_ (N := 6) rfl ?_); refine bE_ ?hg (N := 6) ?hd (cs := zC_) (t := 26) ?hr ?_; (case hd => rfl); (case hg => rfl); (case hr => first | (go_simp; done) | (go_simp; rfl)); intro ba hg w6 hbox hb; have n0_ := A0_.mk (bT_ (xB_ HB) hb); have n1_ := A0_.mk (hbox); have n2_ := A0_.mk ((by rw [hg]; exact (bZ_ (xB_ HB)) : w.heap.size ≤ ba)); have n3_ := A0_.mk ((by rw [hg]; exact (bZ_ (xB_ HB)) : w.heap.size ≤ ba)); clear HB; have HB := n0_; have aa := n1_; have ma := n2_; have ea := n3_; clear n0_ n1_ n2_ n3_; clear hb hbox hg) | ((with_reducible refine gC_ (f := 112) rfl ?_); refine gL_ (some 10) rfl rfl Tryd.func112 kr_ rfl #[.string a2] rfl mp_ ?_; (with_reducible refine (r1_limbs.calls k a2 da _ A4.out).mono ?_); rintro e w7 ⟨na, rfl, ho0, hb⟩; refine ⟨_, rfl, ?_⟩; have n0_ := A0_.mk (Kd.rL_ ho0 (bZ_ (xB1_ HB ea))); have n1_ := A0_.mk (kB_ (g := ba) (o := .cells zC_ 26 (0, 0)) (xK_ aa.out) hb); have n2_ := A0_.mk (bT_ (xB1_ HB ea) hb); clear aa HB; have ca := n0_; have aa := n1_; have HB := n2_; clear n0_ n1_ n2_; (try clear hb); (try clear hb2); (try clear hk); (try clear hi); (try clear ho0); obtain ⟨Ao8, co8, eo8⟩ := Kd.rS_' ca.out; subst eo8; have ua : w7.cell? ⟨ba, 0, none⟩ = some (.bool false) := (kc_ aa.out 0).trans rfl; have va : w7.cell? ⟨ba, 1, none⟩ = some (.string (⟨#[]⟩ : ByteArray)) := (kc_ aa.out 1).trans rfl; have wa : w7.cell? ⟨ba, 2, none⟩ = some (.string (⟨#[]⟩ : ByteArray)) := (kc_ aa.out 2).trans rfl; have xa := kF_ aa.out 0; have ya := kF_ aa.out 1; have za := kF_ aa.out 2))
  refine bodyPost_ret (results_ct rfl _ _ ba 26 zC_ (0, 0) _ rfl (by (with_reducible repeat (first | apply kN_ | apply kD_ | apply kA_)); refine kP_ (cs := zC_) ?_ 2 _ rfl; (with_reducible repeat (first | apply kN_ | apply kD_ | apply kA_)); refine kP_ (cs := zC_) ?_ 1 _ rfl; (with_reducible repeat (first | apply kN_ | apply kD_ | apply kA_)); refine kP_ (cs := zC_) ?_ 0 _ rfl; (with_reducible repeat (first | apply kN_ | apply kD_ | apply kA_)); exact aa.out) Tryd.underlying26 rfl kr_) rfl ?_
  exact ⟨rE_, xB1_ HB ea⟩
 ·rw [if_neg c5] at H
  have ka : ((da.length : Int) == 0) = false := beq_eq_false_iff_ne.mpr c5
  have la : ((da.length : Int) != 0) = true := bne_iff_ne.mpr c5
  have Aa : ¬ (da = []) := fun h_ => c5 (by rw [h_]; rfl)
  obtain ⟨ha, A10, H⟩ := oB_ H
  (try dsimp only at H)
  obtain ⟨⟨ga, ia, ja⟩, A11, H⟩ := oB_ H
  (try dsimp only at H)
  simp only [Option.some.injEq, Prod.mk.injEq] at H
  obtain ⟨rfl, rfl, rfl, rfl⟩ := H
  go_enter Tryd.func91, Tryd.ntmps91
  go_wp2_with (first | ((with_reducible refine gD_ (N := 6) rfl ?_); refine bE_ ?hg (N := 6) ?hd (cs := zC_) (t := 26) ?hr ?_; (case hd => rfl); (case hg => rfl); (case hr => first | (go_simp; done) | (go_simp; rfl)); intro ba hg w12 hbox hb; have n0_ := A0_.mk (bT_ (xB_ HB) hb); have n1_ := A0_.mk (hbox); have n2_ := A0_.mk ((by rw [hg]; exact (bZ_ (xB_ HB)) : w.heap.size ≤ ba)); have n3_ := A0_.mk ((by rw [hg]; exact (bZ_ (xB_ HB)) : w.heap.size ≤ ba)); clear HB; have HB := n0_; have aa := n1_; have ma := n2_; have ea := n3_; clear n0_ n1_ n2_ n3_; clear hb hbox hg) | ((with_reducible refine gC_ (f := 112) rfl ?_); refine gL_ (some 10) rfl rfl Tryd.func112 kr_ rfl #[.string a2] rfl mp_ ?_; (with_reducible refine (r1_limbs.calls k a2 da _ A4.out).mono ?_); rintro e w13 ⟨na, rfl, ho0, hb⟩; refine ⟨_, rfl, ?_⟩; have n0_ := A0_.mk (Kd.rL_ ho0 (bZ_ (xB1_ HB ea))); have n1_ := A0_.mk (kB_ (g := ba) (o := .cells zC_ 26 (0, 0)) (xK_ aa.out) hb); have n2_ := A0_.mk (bT_ (xB1_ HB ea) hb); clear aa HB; have ca := n0_; have aa := n1_; have HB := n2_; clear n0_ n1_ n2_; (try clear hb); (try clear hb2); (try clear hk); (try clear hi); (try clear ho0); obtain ⟨oa, pa, qa⟩ := Kd.rS_' ca.out; subst qa) | ((with_reducible refine gC_ (f := 112) rfl ?_); refine gL_ (some 17) rfl rfl Tryd.func112 kr_ rfl #[.string a1] rfl mp_ ?_; (with_reducible refine (r1_limbs.calls k a1 ha _ A10.out).mono ?_); rintro e w15 ⟨Ba, rfl, ho0, hb⟩; refine ⟨_, rfl, ?_⟩; have n0_ := A0_.mk (Kd.R_elder' (xR_ ca.out) (Kd.R_base ho0) hb); have n1_ := A0_.mk (Kd.rL_ (Kd.R_new' ho0 (Kd.R_lt (xR_ ca.out))) (bZ_ (xB1_ HB ea))); have n2_ := A0_.mk (kB_ (g := ba) (o := .cells zC_ 26 (0, 0)) (xK_ aa.out) hb); have n3_ := A0_.mk (bT_ (xB1_ HB ea) hb); clear ca aa HB; have ca := n0_; have fa := n1_; have aa := n2_; have HB := n3_; clear n0_ n1_ n2_ n3_; (try clear hb); (try clear hb2); (try clear hk); (try clear hi); (try clear ho0); obtain ⟨ra, sa, ta⟩ := Kd.rS_' fa.out; subst ta) | ((with_reducible refine gC_ (f := 113) rfl ?_); refine gL_ (some 19) rfl rfl Tryd.func113 kr_ rfl #[.bool a0, .slice ra ha.length sa, .slice oa da.length pa] rfl mp_ ?_; (with_reducible refine (r1_reduced.calls k a0 _ _ ha _ _ da ga ia ja _ ?side1 ?side2 ?side3 ?side4 A11.out).mono ?_); (case side1 => repeat (first | exact (Kd.rr_' fa.out).2.2 | (with_reducible refine Kd.C_alloc ?_ _) | (with_reducible refine Kd.C_drewN ?_ _) | (with_reducible refine Kd.C_drew ?_))); (case side2 => exact (Kd.rr_' fa.out).2.1); (case side3 => repeat (first | exact (Kd.rr_' ca.out).2.2 | (with_reducible refine Kd.C_alloc ?_ _) | (with_reducible refine Kd.C_drewN ?_ _) | (with_reducible refine Kd.C_drew ?_))); (case side4 => exact (Kd.rr_' ca.out).2.1); rintro e w17 ⟨rfl, hb⟩; refine ⟨_, rfl, ?_⟩; have n0_ := A0_.mk (Kd.rB_ (xR_ ca.out) hb); have n1_ := A0_.mk (Kd.rB_ (xR_ fa.out) hb); have n2_ := A0_.mk (kB_ (g := ba) (o := .cells zC_ 26 (0, 0)) (xK_ aa.out) hb); have n3_ := A0_.mk (bT_ (xB1_ HB ea) hb); clear ca fa aa HB; have ca := n0_; have fa := n1_; have aa := n2_; have HB := n3_; clear n0_ n1_ n2_ n3_; (try clear hb); (try clear hb2); (try clear hk); (try clear hi); have Ca : w17.cell? ⟨ba, 0, none⟩ = some (.bool false) := (kc_ aa.out 0).trans rfl; have Da : w17.cell? ⟨ba, 1, none⟩ = some (.string (⟨#[]⟩ : ByteArray)) := (kc_ aa.out 1).trans rfl; have Ea : w17.cell? ⟨ba, 2, none⟩ = some (.string (⟨#[]⟩ : ByteArray)) := (kc_ aa.out 2).trans rfl; have Fa := kF_ aa.out 0; have Ga := kF_ aa.out 1; have Ha := kF_ aa.out 2))
  refine bodyPost_ret (results_ct rfl _ _ ba 26 #[.bool ga, .string ia, .string ja] (0, 0) _ rfl (by (with_reducible repeat (first | apply kN_ | apply kD_ | apply kA_)); refine kP_ (cs := #[.bool ga, .string ia, .string (⟨#[]⟩ : ByteArray)]) ?_ 2 _ rfl; (with_reducible repeat (first | apply kN_ | apply kD_ | apply kA_)); refine kP_ (cs := #[.bool ga, .string (⟨#[]⟩ : ByteArray), .string (⟨#[]⟩ : ByteArray)]) ?_ 1 _ rfl; (with_reducible repeat (first | apply kN_ | apply kD_ | apply kA_)); refine kP_ (cs := zC_) ?_ 0 _ rfl; (with_reducible repeat (first | apply kN_ | apply kD_ | apply kA_)); exact aa.out) Tryd.underlying26 rfl kr_) rfl ?_
  exact ⟨rE_, xB1_ HB ea⟩
def r1_size.f (a0 : Int) : Option (Int) := if a0 < 0 then (some (IntKind.u64.wrap ((IntKind.u64.wrap (wrap64 (-(wrap64 (a0 + 1))))) + 1))) else (some (IntKind.u64.wrap (a0)))
theorem r1_size.calls (a0 : Int) (r : Int) (w : World) (h : r1_size.f a0 = some r) :
  Calls Tryd.prog 93 #[.int .i64 a0] w fun e w' => e = .returned (.int .u64 r) ∧ D0_ w w' := by
 have H := h
 unfold r1_size.f at H
 clear h
 by_cases c2 : a0 < 0
 ·rw [if_pos c2] at H
  have aa : decide (a0 < 0) = true := decide_eq_true c2
  clear c2
  obtain rfl := Option.some.inj H
  go_enter Tryd.func93, Tryd.ntmps93
  go_wp2
  go_ret
  exact ⟨rS_, by repeat (first | exact D0_.refl _ | apply D0_.step)⟩
 ·rw [if_neg c2] at H
  have aa : decide (a0 < 0) = false := decide_eq_false c2
  clear c2
  obtain rfl := Option.some.inj H
  go_enter Tryd.func93, Tryd.ntmps93
  go_wp2
  go_ret
  exact ⟨rS_, by repeat (first | exact D0_.refl _ | apply D0_.step)⟩
def r1_Fraction.f (k : Nat) (a0 : Int) (a1 : Int) : Option (Bool × ByteArray × ByteArray × Bool) := (r1_size.f a0).bind fun t753 => ((r1_FromUint.f k t753).bind fun t754 => ((r1_size.f a1).bind fun t755 => ((r1_FromUint.f k t755).bind fun t756 => ((r1_Make.f k ((decide (a0 < 0)) != (decide (a1 < 0))) t754 t756).bind fun bt757 => (some (bt757.1, bt757.2.1, bt757.2.2.1, bt757.2.2.2))))))
theorem r1_Fraction.mono : ∀ a0 a1 k, LeO (r1_Fraction.f k a0 a1) (r1_Fraction.f (k + 1) a0 a1) := by
 intro a0 a1 k
 unfold r1_Fraction.f
 repeat' first
   | (with_reducible first | exact r1_FromUint.mono _ _ | exact r1_Make.mono _ _ _ _ | exact LeO.refl _ | exact LeO.none _ | refine LeO.ite ?_ ?_ | refine LeO.bind ?_ (fun _ => ?_))
theorem r1_Fraction.calls (k : Nat) (a0 : Int) (a1 : Int) (r1 : Bool) (r2 : ByteArray) (r3 : ByteArray) (r4 : Bool) (w : World) (h : r1_Fraction.f k a0 a1 = some (r1, r2, r3, r4)) :
  Calls Tryd.prog 74 #[.int .i64 a0, .int .i64 a1] w fun e w' => e = .returned (.tuple #[.agg #[.bool r1, .string r2, .string r3], .bool r4]) ∧ Below w.heap.size w w' := by
 have hu26 := Tryd.underlying26
 have HB := A0_.mk (Below.refl w.heap.size w)
 have H := h
 unfold r1_Fraction.f at H
 clear h
 obtain ⟨ea, A3, H⟩ := oB_ H
 (try dsimp only at H)
 obtain ⟨fa, A4, H⟩ := oB_ H
 (try dsimp only at H)
 obtain ⟨ga, A5, H⟩ := oB_ H
 (try dsimp only at H)
 obtain ⟨ha, A6, H⟩ := oB_ H
 (try dsimp only at H)
 obtain ⟨⟨da, ia, ja, ka⟩, A7, H⟩ := oB_ H
 (try dsimp only at H)
 simp only [Option.some.injEq, Prod.mk.injEq] at H
 obtain ⟨rfl, rfl, rfl, rfl⟩ := H
 go_enter Tryd.func74, Tryd.ntmps74
 go_wp2_with (first | ((with_reducible refine gD_ (N := 4) rfl ?_); refine bE_ ?hg (N := 4) ?hd (cs := zC_) (t := 26) ?hr ?_; (case hd => rfl); (case hg => rfl); (case hr => first | (go_simp; done) | (go_simp; rfl)); intro ba hg w8 hbox hb; have n0_ := A0_.mk (bT_ (xB_ HB) hb); have n1_ := A0_.mk (hbox); have n2_ := A0_.mk ((by rw [hg]; exact (bZ_ (xB_ HB)) : w.heap.size ≤ ba)); have n3_ := A0_.mk ((by rw [hg]; exact (bZ_ (xB_ HB)) : w.heap.size ≤ ba)); clear HB; have HB := n0_; have aa := n1_; have la := n2_; have ca := n3_; clear n0_ n1_ n2_ n3_; clear hb hbox hg) | ((with_reducible refine gC_ (f := 93) rfl ?_); refine gL_ (some 12) rfl rfl Tryd.func93 kr_ rfl #[.int .i64 a0] rfl mp_ ?_; (with_reducible refine (r1_size.calls a0 ea _ A3.out).mono ?_); rintro e w' ⟨rfl, ⟨nd, rfl⟩⟩; refine ⟨_, rfl, ?_⟩; (try (rw [drewN_self w8]; generalize hq_ : World.drewN w8 _ = w8; have n0_ : A0_ (w8.heap[ba]? = some (.cells zC_ 26 (0, 0))) := ⟨by rw [← hq_]; exact (xK_ aa.out)⟩; have n1_ : A0_ (Below w.heap.size w w8) := ⟨by rw [← hq_]; exact (xB1_ HB ca)⟩; clear aa HB hq_; have aa := n0_; have HB := n1_; clear n0_ n1_))) | ((with_reducible refine gC_ (f := 92) rfl ?_); refine gL_ (some 13) rfl rfl Tryd.func92 kr_ rfl #[.int .u64 ea] rfl mp_ ?_; (with_reducible refine (r1_FromUint.calls k ea fa _ A4.out).mono ?_); rintro e w9 ⟨rfl, hb⟩; refine ⟨_, rfl, ?_⟩; have n0_ := A0_.mk (kB_ (g := ba) (o := .cells zC_ 26 (0, 0)) (xK_ aa.out) hb); have n1_ := A0_.mk (bT_ (xB1_ HB ca) hb); clear aa HB; have aa := n0_; have HB := n1_; clear n0_ n1_; (try clear hb); (try clear hb2); (try clear hk); (try clear hi)) | ((with_reducible refine gC_ (f := 93) rfl ?_); refine gL_ (some 15) rfl rfl Tryd.func93 kr_ rfl #[.int .i64 a1] rfl mp_ ?_; (with_reducible refine (r1_size.calls a1 ga _ A5.out).mono ?_); rintro e w' ⟨rfl, ⟨nd, rfl⟩⟩; refine ⟨_, rfl, ?_⟩; (try (rw [drewN_self w9]; generalize hq_ : World.drewN w9 _ = w9; have n0_ : A0_ (w9.heap[ba]? = some (.cells zC_ 26 (0, 0))) := ⟨by rw [← hq_]; exact (xK_ aa.out)⟩; have n1_ : A0_ (Below w.heap.size w w9) := ⟨by rw [← hq_]; exact (xB1_ HB ca)⟩; clear aa HB hq_; have aa := n0_; have HB := n1_; clear n0_ n1_))) | ((with_reducible refine gC_ (f := 92) rfl ?_); refine gL_ (some 16) rfl rfl Tryd.func92 kr_ rfl #[.int .u64 ga] rfl mp_ ?_; (with_reducible refine (r1_FromUint.calls k ga ha _ A6.out).mono ?_); rintro e w10 ⟨rfl, hb⟩; refine ⟨_, rfl, ?_⟩; have n0_ := A0_.mk (kB_ (g := ba) (o := .cells zC_ 26 (0, 0)) (xK_ aa.out) hb); have n1_ := A0_.mk (bT_ (xB1_ HB ca) hb); clear aa HB; have aa := n0_; have HB := n1_; clear n0_ n1_; (try clear hb); (try clear hb2); (try clear hk); (try clear hi)) | ((with_reducible refine gC_ (f := 91) rfl ?_); refine gL_ (some 17) rfl rfl Tryd.func91 kr_ rfl #[.bool ((decide (a0 < 0)) != (decide (a1 < 0))), .string fa, .string ha] rfl mp_ ?_; (with_reducible refine (r1_Make.calls k ((decide (a0 < 0)) != (decide (a1 < 0))) fa ha da ia ja ka _ A7.out).mono ?_); rintro e w11 ⟨rfl, hb⟩; refine ⟨_, rfl, ?_⟩; have n0_ := A0_.mk (kB_ (g := ba) (o := .cells zC_ 26 (0, 0)) (xK_ aa.out) hb); have n1_ := A0_.mk (bT_ (xB1_ HB ca) hb); clear aa HB; have aa := n0_; have HB := n1_; clear n0_ n1_; (try clear hb); (try clear hb2); (try clear hk); (try clear hi); have ma : w11.cell? ⟨ba, 0, none⟩ = some (.bool false) := (kc_ aa.out 0).trans rfl; have na : w11.cell? ⟨ba, 1, none⟩ = some (.string (⟨#[]⟩ : ByteArray)) := (kc_ aa.out 1).trans rfl; have oa : w11.cell? ⟨ba, 2, none⟩ = some (.string (⟨#[]⟩ : ByteArray)) := (kc_ aa.out 2).trans rfl; have pa := kF_ aa.out 0; have qa := kF_ aa.out 1; have ra := kF_ aa.out 2))
 refine bodyPost_ret (results_ct rfl _ _ ba 26 #[.bool da, .string ia, .string ja] (0, 0) _ rfl (by (with_reducible repeat (first | apply kN_ | apply kD_ | apply kA_)); refine kP_ (cs := #[.bool da, .string ia, .string (⟨#[]⟩ : ByteArray)]) ?_ 2 _ rfl; (with_reducible repeat (first | apply kN_ | apply kD_ | apply kA_)); refine kP_ (cs := #[.bool da, .string (⟨#[]⟩ : ByteArray), .string (⟨#[]⟩ : ByteArray)]) ?_ 1 _ rfl; (with_reducible repeat (first | apply kN_ | apply kD_ | apply kA_)); refine kP_ (cs := zC_) ?_ 0 _ rfl; (with_reducible repeat (first | apply kN_ | apply kD_ | apply kA_)); exact aa.out) Tryd.underlying26 rfl kr_) rfl ?_
 exact ⟨rE_, xB1_ HB ca⟩
def l0_Ratio.f (k : Nat) (a0 : Int) (a1 : Int) : Option (Bool × ByteArray × ByteArray) := (r1_Fraction.f k a0 a1).bind fun bt762 => (some (bt762.1, bt762.2.1, bt762.2.2.1))
theorem l0_Ratio.mono : ∀ a0 a1 k, LeO (l0_Ratio.f k a0 a1) (l0_Ratio.f (k + 1) a0 a1) := by
 intro a0 a1 k
 unfold l0_Ratio.f
 repeat' first
   | (with_reducible first | exact r1_Fraction.mono _ _ _ | exact LeO.refl _ | exact LeO.none _ | refine LeO.ite ?_ ?_ | refine LeO.bind ?_ (fun _ => ?_))
theorem l0_Ratio.calls (k : Nat) (a0 : Int) (a1 : Int) (r1 : Bool) (r2 : ByteArray) (r3 : ByteArray) (w : World) (h : l0_Ratio.f k a0 a1 = some (r1, r2, r3)) :
  Calls Tryd.prog 56 #[.int .i64 a0, .int .i64 a1] w fun e w' => e = .returned (.agg #[.bool r1, .string r2, .string r3]) ∧ Below w.heap.size w w' := by
 have hu26 := Tryd.underlying26
 have HB := A0_.mk (Below.refl w.heap.size w)
 have H := h
 unfold l0_Ratio.f at H
 clear h
 obtain ⟨⟨fa, ha, ia, ja⟩, A3, H⟩ := oB_ H
 (try dsimp only at H)
 simp only [Option.some.injEq, Prod.mk.injEq] at H
 obtain ⟨rfl, rfl, rfl⟩ := H
 go_enter Tryd.func56, Tryd.ntmps56
 go_wp2_with (first | ((with_reducible refine gD_ (N := 4) rfl ?_); refine bE_ ?hg (N := 4) ?hd (cs := zC_) (t := 26) ?hr ?_; (case hd => rfl); (case hg => rfl); (case hr => first | (go_simp; done) | (go_simp; rfl)); intro ba hg w4 hbox hb; have n0_ := A0_.mk (bT_ (xB_ HB) hb); have n1_ := A0_.mk (hbox); have n2_ := A0_.mk ((by rw [hg]; exact (bZ_ (xB_ HB)) : w.heap.size ≤ ba)); have n3_ := A0_.mk ((by rw [hg]; exact (bZ_ (xB_ HB)) : w.heap.size ≤ ba)); clear HB; have HB := n0_; have aa := n1_; have ma := n2_; have ea := n3_; clear n0_ n1_ n2_ n3_; clear hb hbox hg) | ((with_reducible refine gC_ (f := 74) rfl ?_); refine gL_ (some 10) rfl rfl Tryd.func74 kr_ rfl #[.int .i64 a0, .int .i64 a1] rfl mp_ ?_; (with_reducible refine (r1_Fraction.calls k a0 a1 fa ha ia ja _ A3.out).mono ?_); rintro e w5 ⟨rfl, hb⟩; refine ⟨_, rfl, ?_⟩; have n0_ := A0_.mk (kB_ (g := ba) (o := .cells zC_ 26 (0, 0)) (xK_ aa.out) hb); have n1_ := A0_.mk (bT_ (xB1_ HB ea) hb); clear aa HB; have aa := n0_; have HB := n1_; clear n0_ n1_; (try clear hb); (try clear hb2); (try clear hk); (try clear hi)) | ((with_reducible refine gD_ (N := 5) rfl ?_); refine bE_ ?hg (N := 5) ?hd (cs := zC_) (t := 26) ?hr ?_; (case hd => rfl); (case hg => rfl); (case hr => first | (go_simp; done) | (go_simp; rfl)); intro ca hg w6 hbox hb; have n0_ := A0_.mk (kB_ (g := ba) (o := .cells zC_ 26 (0, 0)) (xK_ aa.out) hb); have n1_ := A0_.mk (bT_ (xB1_ HB ea) hb); have n2_ := A0_.mk (hbox); have n3_ := A0_.mk ((by rw [hg]; exact (bZ_ (xB1_ HB ea)) : w.heap.size ≤ ca)); have n4_ := A0_.mk ((by rw [hg]; exact (bZ_ (xB1_ HB ea)) : w.heap.size ≤ ca)); have n5_ := A0_.mk ((by rw [hg]; exact Nat.ne_of_lt (blk_lt (g := ba) (o := .cells zC_ 26 (0, 0)) (xK_ aa.out)) : ba ≠ ca)); have n6_ := A0_.mk ((by rw [hg]; exact Nat.ne_of_gt (blk_lt (g := ba) (o := .cells zC_ 26 (0, 0)) (xK_ aa.out)) : ca ≠ ba)); clear aa HB; have aa := n0_; have HB := n1_; have da := n2_; have na := n3_; have ka := n4_; have ga := n5_; have la := n6_; clear n0_ n1_ n2_ n3_ n4_ n5_ n6_; clear hb hbox hg; have hnb7 := la.out; have hnc7 := ga.out; have oa : w6.cell? ⟨ca, 0, none⟩ = some (.bool false) := (kc_ da.out 0).trans rfl; have pa : w6.cell? ⟨ca, 1, none⟩ = some (.string (⟨#[]⟩ : ByteArray)) := (kc_ da.out 1).trans rfl; have qa : w6.cell? ⟨ca, 2, none⟩ = some (.string (⟨#[]⟩ : ByteArray)) := (kc_ da.out 2).trans rfl; have ra := kF_ da.out 0; have sa := kF_ da.out 1; have ta := kF_ da.out 2; have ua : w6.cell? ⟨ba, 0, none⟩ = some (.bool false) := (kc_ aa.out 0).trans rfl; have va : w6.cell? ⟨ba, 1, none⟩ = some (.string (⟨#[]⟩ : ByteArray)) := (kc_ aa.out 1).trans rfl; have wa : w6.cell? ⟨ba, 2, none⟩ = some (.string (⟨#[]⟩ : ByteArray)) := (kc_ aa.out 2).trans rfl; have xa := kF_ aa.out 0; have ya := kF_ aa.out 1; have za := kF_ aa.out 2))
 refine bodyPost_ret (results_cell_row rfl _ _ ba 26 #[.bool fa, .string ha, .string ia] (0, 0) _ rfl (by (with_reducible repeat (first | apply kN_ | apply kD_ | apply kA_)); refine kP_ (cs := #[.bool fa, .string ha, .string (⟨#[]⟩ : ByteArray)]) ?_ 2 _ rfl; (with_reducible repeat (first | apply kN_ | apply kD_ | apply kA_)); refine kP_ (cs := #[.bool fa, .string (⟨#[]⟩ : ByteArray), .string (⟨#[]⟩ : ByteArray)]) ?_ 1 _ rfl; (with_reducible repeat (first | apply kN_ | apply kD_ | apply kA_)); refine kP_ (cs := zC_) ?_ 0 _ rfl; (with_reducible repeat (first | apply kN_ | apply kD_ | apply kA_)); refine bf_ ?_ ga.out _; (with_reducible repeat (first | apply kN_ | apply kD_ | apply kA_)); refine bf_ ?_ ga.out _; (with_reducible repeat (first | apply kN_ | apply kD_ | apply kA_)); refine bf_ ?_ ga.out _; (with_reducible repeat (first | apply kN_ | apply kD_ | apply kA_)); exact aa.out) Tryd.underlying26 rfl kr_) rfl ?_
 exact ⟨rE_, xB2_ HB ea ka⟩
def r1_Int.f (k : Nat) (a0 : Int) : Option (Bool × ByteArray × ByteArray) := (r1_size.f a0).bind fun t768 => ((r1_FromUint.f k t768).bind fun t769 => (some (decide (a0 < 0), t769, (⟨#[]⟩ : ByteArray))))
theorem r1_Int.mono : ∀ a0 k, LeO (r1_Int.f k a0) (r1_Int.f (k + 1) a0) := by
 intro a0 k
 unfold r1_Int.f
 repeat' first
   | (with_reducible first | exact r1_FromUint.mono _ _ | exact LeO.refl _ | exact LeO.none _ | refine LeO.ite ?_ ?_ | refine LeO.bind ?_ (fun _ => ?_))
theorem r1_Int.calls (k : Nat) (a0 : Int) (r1 : Bool) (r2 : ByteArray) (r3 : ByteArray) (w : World) (h : r1_Int.f k a0 = some (r1, r2, r3)) :
  Calls Tryd.prog 75 #[.int .i64 a0] w fun e w' => e = .returned (.agg #[.bool r1, .string r2, .string r3]) ∧ Below w.heap.size w w' := by
 have hu26 := Tryd.underlying26
 have HB := A0_.mk (Below.refl w.heap.size w)
 have H := h
 unfold r1_Int.f at H
 clear h
 obtain ⟨ca, A2, H⟩ := oB_ H
 (try dsimp only at H)
 obtain ⟨da, A3, H⟩ := oB_ H
 (try dsimp only at H)
 simp only [Option.some.injEq, Prod.mk.injEq] at H
 obtain ⟨rfl, rfl, rfl⟩ := H
 go_enter Tryd.func75, Tryd.ntmps75
 go_wp2_with (first | ((with_reducible refine gD_ (N := 2) rfl ?_); refine bE_ ?hg (N := 2) ?hd (cs := zC_) (t := 26) ?hr ?_; (case hd => rfl); (case hg => rfl); (case hr => first | (go_simp; done) | (go_simp; rfl)); intro ba hg w4 hbox hb; have n0_ := A0_.mk (bT_ (xB_ HB) hb); have n1_ := A0_.mk (hbox); have n2_ := A0_.mk ((by rw [hg]; exact (bZ_ (xB_ HB)) : w.heap.size ≤ ba)); have n3_ := A0_.mk ((by rw [hg]; exact (bZ_ (xB_ HB)) : w.heap.size ≤ ba)); clear HB; have HB := n0_; have aa := n1_; have fa := n2_; have ea := n3_; clear n0_ n1_ n2_ n3_; clear hb hbox hg) | ((with_reducible refine gC_ (f := 93) rfl ?_); refine gL_ (some 6) rfl rfl Tryd.func93 kr_ rfl #[.int .i64 a0] rfl mp_ ?_; (with_reducible refine (r1_size.calls a0 ca _ A2.out).mono ?_); rintro e w' ⟨rfl, ⟨nd, rfl⟩⟩; refine ⟨_, rfl, ?_⟩; (try (rw [drewN_self w4]; generalize hq_ : World.drewN w4 _ = w4; have n0_ : A0_ (w4.heap[ba]? = some (.cells zC_ 26 (0, 0))) := ⟨by rw [← hq_]; exact (xK_ aa.out)⟩; have n1_ : A0_ (Below w.heap.size w w4) := ⟨by rw [← hq_]; exact (xB1_ HB ea)⟩; clear aa HB hq_; have aa := n0_; have HB := n1_; clear n0_ n1_))) | ((with_reducible refine gC_ (f := 92) rfl ?_); refine gL_ (some 7) rfl rfl Tryd.func92 kr_ rfl #[.int .u64 ca] rfl mp_ ?_; (with_reducible refine (r1_FromUint.calls k ca da _ A3.out).mono ?_); rintro e w5 ⟨rfl, hb⟩; refine ⟨_, rfl, ?_⟩; have n0_ := A0_.mk (kB_ (g := ba) (o := .cells zC_ 26 (0, 0)) (xK_ aa.out) hb); have n1_ := A0_.mk (bT_ (xB1_ HB ea) hb); clear aa HB; have aa := n0_; have HB := n1_; clear n0_ n1_; (try clear hb); (try clear hb2); (try clear hk); (try clear hi); have ga : w5.cell? ⟨ba, 0, none⟩ = some (.bool false) := (kc_ aa.out 0).trans rfl; have ha : w5.cell? ⟨ba, 1, none⟩ = some (.string (⟨#[]⟩ : ByteArray)) := (kc_ aa.out 1).trans rfl; have ia : w5.cell? ⟨ba, 2, none⟩ = some (.string (⟨#[]⟩ : ByteArray)) := (kc_ aa.out 2).trans rfl; have ja := kF_ aa.out 0; have ka := kF_ aa.out 1; have la := kF_ aa.out 2))
 refine bodyPost_ret (results_cell_row rfl _ _ ba 26 #[.bool (decide (a0 < 0)), .string da, .string (⟨#[]⟩ : ByteArray)] (0, 0) _ rfl (by (with_reducible repeat (first | apply kN_ | apply kD_ | apply kA_)); refine kP_ (cs := #[.bool (decide (a0 < 0)), .string da, .string (⟨#[]⟩ : ByteArray)]) ?_ 2 _ rfl; (with_reducible repeat (first | apply kN_ | apply kD_ | apply kA_)); refine kP_ (cs := #[.bool (decide (a0 < 0)), .string (⟨#[]⟩ : ByteArray), .string (⟨#[]⟩ : ByteArray)]) ?_ 1 _ rfl; (with_reducible repeat (first | apply kN_ | apply kD_ | apply kA_)); refine kP_ (cs := zC_) ?_ 0 _ rfl; (with_reducible repeat (first | apply kN_ | apply kD_ | apply kA_)); exact aa.out) Tryd.underlying26 rfl kr_) rfl ?_
 exact ⟨rE_, xB1_ HB ea⟩
def l0_Whole.f (k : Nat) (a0 : Int) : Option (Bool × ByteArray × ByteArray) := (r1_Int.f k a0).bind fun bt771 => (some (bt771.1, bt771.2.1, bt771.2.2))
theorem l0_Whole.mono : ∀ a0 k, LeO (l0_Whole.f k a0) (l0_Whole.f (k + 1) a0) := by
 intro a0 k
 unfold l0_Whole.f
 repeat' first
   | (with_reducible first | exact r1_Int.mono _ _ | exact LeO.refl _ | exact LeO.none _ | refine LeO.ite ?_ ?_ | refine LeO.bind ?_ (fun _ => ?_))
theorem l0_Whole.calls (k : Nat) (a0 : Int) (r1 : Bool) (r2 : ByteArray) (r3 : ByteArray) (w : World) (h : l0_Whole.f k a0 = some (r1, r2, r3)) :
  Calls Tryd.prog 57 #[.int .i64 a0] w fun e w' => e = .returned (.agg #[.bool r1, .string r2, .string r3]) ∧ Below w.heap.size w w' := by
 have hu26 := Tryd.underlying26
 have HB := A0_.mk (Below.refl w.heap.size w)
 have H := h
 unfold l0_Whole.f at H
 clear h
 obtain ⟨⟨ca, da, ea⟩, A2, H⟩ := oB_ H
 (try dsimp only at H)
 simp only [Option.some.injEq, Prod.mk.injEq] at H
 obtain ⟨rfl, rfl, rfl⟩ := H
 go_enter Tryd.func57, Tryd.ntmps57
 go_wp2_with (first | ((with_reducible refine gD_ (N := 2) rfl ?_); refine bE_ ?hg (N := 2) ?hd (cs := zC_) (t := 26) ?hr ?_; (case hd => rfl); (case hg => rfl); (case hr => first | (go_simp; done) | (go_simp; rfl)); intro ba hg w3 hbox hb; have n0_ := A0_.mk (bT_ (xB_ HB) hb); have n1_ := A0_.mk (hbox); have n2_ := A0_.mk ((by rw [hg]; exact (bZ_ (xB_ HB)) : w.heap.size ≤ ba)); have n3_ := A0_.mk ((by rw [hg]; exact (bZ_ (xB_ HB)) : w.heap.size ≤ ba)); clear HB; have HB := n0_; have aa := n1_; have ga := n2_; have fa := n3_; clear n0_ n1_ n2_ n3_; clear hb hbox hg) | ((with_reducible refine gC_ (f := 75) rfl ?_); refine gL_ (some 4) rfl rfl Tryd.func75 kr_ rfl #[.int .i64 a0] rfl mp_ ?_; (with_reducible refine (r1_Int.calls k a0 ca da ea _ A2.out).mono ?_); rintro e w4 ⟨rfl, hb⟩; refine ⟨_, rfl, ?_⟩; have n0_ := A0_.mk (kB_ (g := ba) (o := .cells zC_ 26 (0, 0)) (xK_ aa.out) hb); have n1_ := A0_.mk (bT_ (xB1_ HB fa) hb); clear aa HB; have aa := n0_; have HB := n1_; clear n0_ n1_; (try clear hb); (try clear hb2); (try clear hk); (try clear hi); have ha : w4.cell? ⟨ba, 0, none⟩ = some (.bool false) := (kc_ aa.out 0).trans rfl; have ia : w4.cell? ⟨ba, 1, none⟩ = some (.string (⟨#[]⟩ : ByteArray)) := (kc_ aa.out 1).trans rfl; have ja : w4.cell? ⟨ba, 2, none⟩ = some (.string (⟨#[]⟩ : ByteArray)) := (kc_ aa.out 2).trans rfl; have ka := kF_ aa.out 0; have la := kF_ aa.out 1; have ma := kF_ aa.out 2))
 refine bodyPost_ret (results_cell_row rfl _ _ ba 26 #[.bool ca, .string da, .string ea] (0, 0) _ rfl (by (with_reducible repeat (first | apply kN_ | apply kD_ | apply kA_)); refine kP_ (cs := #[.bool ca, .string da, .string (⟨#[]⟩ : ByteArray)]) ?_ 2 _ rfl; (with_reducible repeat (first | apply kN_ | apply kD_ | apply kA_)); refine kP_ (cs := #[.bool ca, .string (⟨#[]⟩ : ByteArray), .string (⟨#[]⟩ : ByteArray)]) ?_ 1 _ rfl; (with_reducible repeat (first | apply kN_ | apply kD_ | apply kA_)); refine kP_ (cs := zC_) ?_ 0 _ rfl; (with_reducible repeat (first | apply kN_ | apply kD_ | apply kA_)); exact aa.out) Tryd.underlying26 rfl kr_) rfl ?_
 exact ⟨rE_, xB1_ HB fa⟩
def l0_Amount.f (k : Nat) (a0 : Int) : Option (Bool × ByteArray × ByteArray) := if (Int.tmod a0 5) = 0 then ((l0_Ratio.f k (wrap64 (Int.tmod (IntKind.u16.wrap (Int.tdiv a0 5)) 23)) (wrap64 (1 + (wrap64 (Int.tmod (IntKind.u16.wrap (Int.tdiv a0 115)) 6))))).bind fun bt775 => (some (bt775.1, bt775.2.1, bt775.2.2))) else (if (Int.tmod a0 5) = 1 then ((l0_Whole.f k (wrap64 (10 * (wrap64 (Int.tmod (IntKind.u16.wrap (Int.tdiv a0 5)) 4))))).bind fun bt778 => (some (bt778.1, bt778.2.1, bt778.2.2))) else ((l0_Whole.f k (wrap64 (Int.tmod (IntKind.u16.wrap (Int.tdiv a0 5)) 13))).bind fun bt781 => (some (bt781.1, bt781.2.1, bt781.2.2))))
theorem l0_Amount.calls (k : Nat) (a0 : Int) (r1 : Bool) (r2 : ByteArray) (r3 : ByteArray) (w : World) (h : l0_Amount.f k a0 = some (r1, r2, r3)) :
  Calls Tryd.prog 35 #[.int .u16 a0] w fun e w' => e = .returned (.agg #[.bool r1, .string r2, .string r3]) ∧ Below w.heap.size w w' := by
 have hu26 := Tryd.underlying26
 have HB := A0_.mk (Below.refl w.heap.size w)
 have H := h
 unfold l0_Amount.f at H
 clear h
 by_cases c2 : (Int.tmod a0 5) = 0
 ·rw [if_pos c2] at H
  have na : ((Int.tmod a0 5) == 0) = true := beq_iff_eq.mpr c2
  have oa : ((Int.tmod a0 5) != 0) = false := bne_eq_false_iff_eq.mpr c2
  clear c2
  obtain ⟨⟨da, ga, ja⟩, A3, H⟩ := oB_ H
  (try dsimp only at H)
  simp only [Option.some.injEq, Prod.mk.injEq] at H
  obtain ⟨rfl, rfl, rfl⟩ := H
  go_enter Tryd.func35, Tryd.ntmps35
  go_wp2_with (first | ((with_reducible refine gD_ (N := 2) rfl ?_); refine bE_ ?hg (N := 2) ?hd (cs := zC_) (t := 26) ?hr ?_; (case hd => rfl); (case hg => rfl); (case hr => first | (go_simp; done) | (go_simp; rfl)); intro ba hg w4 hbox hb; have n0_ := A0_.mk (bT_ (xB_ HB) hb); have n1_ := A0_.mk (hbox); have n2_ := A0_.mk ((by rw [hg]; exact (bZ_ (xB_ HB)) : w.heap.size ≤ ba)); have n3_ := A0_.mk ((by rw [hg]; exact (bZ_ (xB_ HB)) : w.heap.size ≤ ba)); clear HB; have HB := n0_; have aa := n1_; have ka := n2_; have ca := n3_; clear n0_ n1_ n2_ n3_; clear hb hbox hg) | ((with_reducible refine gC_ (f := 56) rfl ?_); refine gL_ (some 16) rfl rfl Tryd.func56 kr_ rfl #[.int .i64 (wrap64 (Int.tmod (IntKind.u16.wrap (Int.tdiv a0 5)) 23)), .int .i64 (wrap64 (1 + (wrap64 (Int.tmod (IntKind.u16.wrap (Int.tdiv a0 115)) 6))))] rfl mp_ ?_; (with_reducible refine (l0_Ratio.calls k (wrap64 (Int.tmod (IntKind.u16.wrap (Int.tdiv a0 5)) 23)) (wrap64 (1 + (wrap64 (Int.tmod (IntKind.u16.wrap (Int.tdiv a0 115)) 6)))) da ga ja _ A3.out).mono ?_); rintro e w5 ⟨rfl, hb⟩; refine ⟨_, rfl, ?_⟩; have n0_ := A0_.mk (kB_ (g := ba) (o := .cells zC_ 26 (0, 0)) (xK_ aa.out) hb); have n1_ := A0_.mk (bT_ (xB1_ HB ca) hb); clear aa HB; have aa := n0_; have HB := n1_; clear n0_ n1_; (try clear hb); (try clear hb2); (try clear hk); (try clear hi); have ra : w5.cell? ⟨ba, 0, none⟩ = some (.bool false) := (kc_ aa.out 0).trans rfl; have sa : w5.cell? ⟨ba, 1, none⟩ = some (.string (⟨#[]⟩ : ByteArray)) := (kc_ aa.out 1).trans rfl; have ta : w5.cell? ⟨ba, 2, none⟩ = some (.string (⟨#[]⟩ : ByteArray)) := (kc_ aa.out 2).trans rfl; have ua := kF_ aa.out 0; have va := kF_ aa.out 1; have wa := kF_ aa.out 2))
  refine bodyPost_ret (results_cell_row rfl _ _ ba 26 #[.bool da, .string ga, .string ja] (0, 0) _ rfl (by (with_reducible repeat (first | apply kN_ | apply kD_ | apply kA_)); refine kP_ (cs := #[.bool da, .string ga, .string (⟨#[]⟩ : ByteArray)]) ?_ 2 _ rfl; (with_reducible repeat (first | apply kN_ | apply kD_ | apply kA_)); refine kP_ (cs := #[.bool da, .string (⟨#[]⟩ : ByteArray), .string (⟨#[]⟩ : ByteArray)]) ?_ 1 _ rfl; (with_reducible repeat (first | apply kN_ | apply kD_ | apply kA_)); refine kP_ (cs := zC_) ?_ 0 _ rfl; (with_reducible repeat (first | apply kN_ | apply kD_ | apply kA_)); exact aa.out) Tryd.underlying26 rfl kr_) rfl ?_
  exact ⟨rE_, xB1_ HB ca⟩
 ·rw [if_neg c2] at H
  have na : ((Int.tmod a0 5) == 0) = false := beq_eq_false_iff_ne.mpr c2
  have oa : ((Int.tmod a0 5) != 0) = true := bne_iff_ne.mpr c2
  by_cases c7 : (Int.tmod a0 5) = 1
  ·rw [if_pos c7] at H
   have pa : ((Int.tmod a0 5) == 1) = true := beq_iff_eq.mpr c7
   have qa : ((Int.tmod a0 5) != 1) = false := bne_eq_false_iff_eq.mpr c7
   clear c7
   obtain ⟨⟨ea, ha, la⟩, A8, H⟩ := oB_ H
   (try dsimp only at H)
   simp only [Option.some.injEq, Prod.mk.injEq] at H
   obtain ⟨rfl, rfl, rfl⟩ := H
   go_enter Tryd.func35, Tryd.ntmps35
   go_wp2_with (first | ((with_reducible refine gD_ (N := 2) rfl ?_); refine bE_ ?hg (N := 2) ?hd (cs := zC_) (t := 26) ?hr ?_; (case hd => rfl); (case hg => rfl); (case hr => first | (go_simp; done) | (go_simp; rfl)); intro ba hg w9 hbox hb; have n0_ := A0_.mk (bT_ (xB_ HB) hb); have n1_ := A0_.mk (hbox); have n2_ := A0_.mk ((by rw [hg]; exact (bZ_ (xB_ HB)) : w.heap.size ≤ ba)); have n3_ := A0_.mk ((by rw [hg]; exact (bZ_ (xB_ HB)) : w.heap.size ≤ ba)); clear HB; have HB := n0_; have aa := n1_; have ka := n2_; have ca := n3_; clear n0_ n1_ n2_ n3_; clear hb hbox hg) | ((with_reducible refine gC_ (f := 57) rfl ?_); refine gL_ (some 24) rfl rfl Tryd.func57 kr_ rfl #[.int .i64 (wrap64 (10 * (wrap64 (Int.tmod (IntKind.u16.wrap (Int.tdiv a0 5)) 4))))] rfl mp_ ?_; (with_reducible refine (l0_Whole.calls k (wrap64 (10 * (wrap64 (Int.tmod (IntKind.u16.wrap (Int.tdiv a0 5)) 4)))) ea ha la _ A8.out).mono ?_); rintro e w10 ⟨rfl, hb⟩; refine ⟨_, rfl, ?_⟩; have n0_ := A0_.mk (kB_ (g := ba) (o := .cells zC_ 26 (0, 0)) (xK_ aa.out) hb); have n1_ := A0_.mk (bT_ (xB1_ HB ca) hb); clear aa HB; have aa := n0_; have HB := n1_; clear n0_ n1_; (try clear hb); (try clear hb2); (try clear hk); (try clear hi); have xa : w10.cell? ⟨ba, 0, none⟩ = some (.bool false) := (kc_ aa.out 0).trans rfl; have ya : w10.cell? ⟨ba, 1, none⟩ = some (.string (⟨#[]⟩ : ByteArray)) := (kc_ aa.out 1).trans rfl; have za : w10.cell? ⟨ba, 2, none⟩ = some (.string (⟨#[]⟩ : ByteArray)) := (kc_ aa.out 2).trans rfl; have Aa := kF_ aa.out 0; have Ba := kF_ aa.out 1; have Ca := kF_ aa.out 2))
   refine bodyPost_ret (results_cell_row rfl _ _ ba 26 #[.bool ea, .string ha, .string la] (0, 0) _ rfl (by (with_reducible repeat (first | apply kN_ | apply kD_ | apply kA_)); refine kP_ (cs := #[.bool ea, .string ha, .string (⟨#[]⟩ : ByteArray)]) ?_ 2 _ rfl; (with_reducible repeat (first | apply kN_ | apply kD_ | apply kA_)); refine kP_ (cs := #[.bool ea, .string (⟨#[]⟩ : ByteArray), .string (⟨#[]⟩ : ByteArray)]) ?_ 1 _ rfl; (with_reducible repeat (first | apply kN_ | apply kD_ | apply kA_)); refine kP_ (cs := zC_) ?_ 0 _ rfl; (with_reducible repeat (first | apply kN_ | apply kD_ | apply kA_)); exact aa.out) Tryd.underlying26 rfl kr_) rfl ?_
   exact ⟨rE_, xB1_ HB ca⟩
  ·rw [if_neg c7] at H
   have pa : ((Int.tmod a0 5) == 1) = false := beq_eq_false_iff_ne.mpr c7
   have qa : ((Int.tmod a0 5) != 1) = true := bne_iff_ne.mpr c7
   obtain ⟨⟨fa, ia, ma⟩, A12, H⟩ := oB_ H
   (try dsimp only at H)
   simp only [Option.some.injEq, Prod.mk.injEq] at H
   obtain ⟨rfl, rfl, rfl⟩ := H
   go_enter Tryd.func35, Tryd.ntmps35
   go_wp2_with (first | ((with_reducible refine gD_ (N := 2) rfl ?_); refine bE_ ?hg (N := 2) ?hd (cs := zC_) (t := 26) ?hr ?_; (case hd => rfl); (case hg => rfl); (case hr => first | (go_simp; done) | (go_simp; rfl)); intro ba hg w13 hbox hb; have n0_ := A0_.mk (bT_ (xB_ HB) hb); have n1_ := A0_.mk (hbox); have n2_ := A0_.mk ((by rw [hg]; exact (bZ_ (xB_ HB)) : w.heap.size ≤ ba)); have n3_ := A0_.mk ((by rw [hg]; exact (bZ_ (xB_ HB)) : w.heap.size ≤ ba)); clear HB; have HB := n0_; have aa := n1_; have ka := n2_; have ca := n3_; clear n0_ n1_ n2_ n3_; clear hb hbox hg) | ((with_reducible refine gC_ (f := 57) rfl ?_); refine gL_ (some 29) rfl rfl Tryd.func57 kr_ rfl #[.int .i64 (wrap64 (Int.tmod (IntKind.u16.wrap (Int.tdiv a0 5)) 13))] rfl mp_ ?_; (with_reducible refine (l0_Whole.calls k (wrap64 (Int.tmod (IntKind.u16.wrap (Int.tdiv a0 5)) 13)) fa ia ma _ A12.out).mono ?_); rintro e w14 ⟨rfl, hb⟩; refine ⟨_, rfl, ?_⟩; have n0_ := A0_.mk (kB_ (g := ba) (o := .cells zC_ 26 (0, 0)) (xK_ aa.out) hb); have n1_ := A0_.mk (bT_ (xB1_ HB ca) hb); clear aa HB; have aa := n0_; have HB := n1_; clear n0_ n1_; (try clear hb); (try clear hb2); (try clear hk); (try clear hi); have Da : w14.cell? ⟨ba, 0, none⟩ = some (.bool false) := (kc_ aa.out 0).trans rfl; have Ea : w14.cell? ⟨ba, 1, none⟩ = some (.string (⟨#[]⟩ : ByteArray)) := (kc_ aa.out 1).trans rfl; have Fa : w14.cell? ⟨ba, 2, none⟩ = some (.string (⟨#[]⟩ : ByteArray)) := (kc_ aa.out 2).trans rfl; have Ga := kF_ aa.out 0; have Ha := kF_ aa.out 1; have Ia := kF_ aa.out 2))
   refine bodyPost_ret (results_cell_row rfl _ _ ba 26 #[.bool fa, .string ia, .string ma] (0, 0) _ rfl (by (with_reducible repeat (first | apply kN_ | apply kD_ | apply kA_)); refine kP_ (cs := #[.bool fa, .string ia, .string (⟨#[]⟩ : ByteArray)]) ?_ 2 _ rfl; (with_reducible repeat (first | apply kN_ | apply kD_ | apply kA_)); refine kP_ (cs := #[.bool fa, .string (⟨#[]⟩ : ByteArray), .string (⟨#[]⟩ : ByteArray)]) ?_ 1 _ rfl; (with_reducible repeat (first | apply kN_ | apply kD_ | apply kA_)); refine kP_ (cs := zC_) ?_ 0 _ rfl; (with_reducible repeat (first | apply kN_ | apply kD_ | apply kA_)); exact aa.out) Tryd.underlying26 rfl kr_) rfl ?_
   exact ⟨rE_, xB1_ HB ca⟩
mutual
def l0_Obligations.l0 : Nat → List (S46) → List (S28) → Int → Option ((List (S28)))
 | 0, _, _, _ => none
 | k + 1, x0, x3, x4 => if x4 < (x0.length : Int) then (l0_Obligations.j1 k x0 x3 x4 (decide (x4 < 16))) else (l0_Obligations.j1 k x0 x3 x4 false)
def l0_Obligations.j1 : Nat → List (S46) → List (S28) → Int → Bool → Option ((List (S28)))
 | 0, _, _, _, _ => none
 | k + 1, x0, x3, x4, x16 => if x16 = true then (if 0 ≤ x4 then (if x4 < (x0.length : Int) then (if (wrap64 (Int.tmod ((r46_ x0 x4).f1) 3)) ≥ (wrap64 (Int.tmod ((r46_ x0 x4).f0) 4)) then (l0_Obligations.j2 k x0 x3 x4 (wrap64 (Int.tmod ((r46_ x0 x4).f0) 4)) (wrap64 ((wrap64 (Int.tmod ((r46_ x0 x4).f1) 3)) + 1)) ((r46_ x0 x4).f0) ((r46_ x0 x4).f1) ((r46_ x0 x4).f2) ((r46_ x0 x4).f3) ((r46_ x0 x4).f4)) else (l0_Obligations.j2 k x0 x3 x4 (wrap64 (Int.tmod ((r46_ x0 x4).f0) 4)) (wrap64 (Int.tmod ((r46_ x0 x4).f1) 3)) ((r46_ x0 x4).f0) ((r46_ x0 x4).f1) ((r46_ x0 x4).f2) ((r46_ x0 x4).f3) ((r46_ x0 x4).f4))) else (none)) else (none)) else (some x3)
def l0_Obligations.j2 : Nat → List (S46) → List (S28) → Int → Int → Int → Int → Int → Int → Int → Int → Option ((List (S28)))
 | 0, _, _, _, _, _, _, _, _, _, _ => none
 | k + 1, x0, x3, x4, x6, x7, x786000, x786001, x786002, x786003, x786004 => (l0_Amount.f k x786002).bind fun bt786 => ((some (([0, 0, 0, wrap64 (Int.tmod (IntKind.u16.wrap (Int.tdiv x786004 8)) 50)] : List Int) : List Int)).bind fun y790 => (if 0 ≤ (Int.tmod x786004 4) then (if (Int.tmod x786004 4) < (y790.length : Int) then (if x3.length < 1759218604441 then (l0_Obligations.l0 k x0 (x3 ++ [(⟨x6, x7, (⟨bt786.1, bt786.2.1, bt786.2.2⟩ : S26), wrap64 (Int.tmod x786003 60), wrap64 ((wrap64 (Int.tmod x786003 60)) + (rd y790 (Int.tmod x786004 4))), ((Int.tmod x786004 8) == 7)⟩ : S28)]) (wrap64 (x4 + 1))) else (none)) else (none)) else (none)))
end
def l0_Obligations.f (k : Nat) (l0 : List (S46)) : Option ((List (S28))) := l0_Obligations.l0 k l0 ([] : List (S28)) 0
def l0_Obligations.T6 : Bool × List (List Nat × List Nat) := (true, [([], []), ([0], [0]), ([1], [1]), ([2], [2]), ([], []), ([4], [4]), ([5], [5]), ([6], [6]), ([3, 0, 1, 2, 3], [3]), ([7, 8, 0, 1, 2, 3, 4, 5, 6, 7, 8], [7])])
def l0_Obligations.B6 : List Nat := [0, 1, 3, 7, 0, 16, 48, 112, 15, 511]
theorem l0_Obligations.tab6 : rtab .any (opsOf Tryd.f17 6) = l0_Obligations.T6 := by kernel_rfl
theorem l0_Obligations.bits6 : waitsOk l0_Obligations.T6.2 l0_Obligations.B6 = true := by kernel_rfl
def l0_Obligations.T9 : Bool × List (List Nat × List Nat) := (true, [([], []), ([], []), ([], []), ([2], [2]), ([3], [3]), ([], []), ([5], [5]), ([6], [6]), ([7], [7]), ([], []), ([9], [9]), ([10], [10]), ([11], [11]), ([0, 1, 4, 8, 12], [0, 1, 4, 8, 12]), ([], []), ([14, 13, 4, 0, 1, 2, 3, 4, 5, 6, 7, 8, 9, 10, 11, 12, 13, 14], [13, 14])])
def l0_Obligations.B9 : List Nat := [0, 0, 0, 4, 12, 0, 32, 96, 224, 0, 512, 1536, 3584, 8191, 0, 32767]
theorem l0_Obligations.tab9 : rtab .any (opsOf Tryd.f17 9) = l0_Obligations.T9 := by kernel_rfl
theorem l0_Obligations.bits9 : waitsOk l0_Obligations.T9.2 l0_Obligations.B9 = true := by kernel_rfl
def l0_Obligations.T10 : Bool × List (List Nat × List Nat) := (true, [([], []), ([0], [0]), ([], []), ([2], [2]), ([3], [3]), ([4], [4]), ([5], [5]), ([6], [6]), ([], []), ([8], [8]), ([9], [9]), ([7, 10], [7, 10]), ([11], [11]), ([1, 12], [1, 12]), ([0, 1, 2, 3, 4, 5, 6, 7, 8, 9, 10, 11, 12, 13], []), ([14, 13, 0, 1, 2, 3, 4, 5, 6, 7, 8, 9, 10, 11, 12, 13], [13, 14])])
def l0_Obligations.B10 : List Nat := [0, 1, 0, 4, 12, 28, 60, 124, 0, 256, 768, 2044, 4092, 8191, 16383, 32767]
theorem l0_Obligations.tab10 : rtab .any (opsOf Tryd.f17 10) = l0_Obligations.T10 := by kernel_rfl
theorem l0_Obligations.bits10 : waitsOk l0_Obligations.T10.2 l0_Obligations.B10 = true := by kernel_rfl
theorem l0_Obligations.calls (k : Nat) (A0 : Option Addr) (c0 : Nat) (l0 : List (S46)) (r : List (S28)) (w : World) (hr0 : Kd.C k46 w A0 l0.length l0) (hc0 : l0.length ≤ c0) (h : l0_Obligations.f k l0 = some r) :
  Calls Tryd.prog 17 #[.slice A0 l0.length c0] w fun e w' => ∃ v0_ : Value, e = .returned (v0_) ∧ Kd.R k28 28 w' w.heap.size (fun _ => True) v0_ r ∧ Below w.heap.size w w' := by
 have hu46 := Tryd.underlying46
 have hu28 := Tryd.underlying28
 have HR0 := A0_.mk hr0
 have HC0 := A0_.mk hc0
 clear hr0 hc0
 have HB := A0_.mk (Below.refl w.heap.size w)
 have H : (l0_Obligations.l0 k l0 ([] : List (S28)) 0) = some r := h
 clear h
 have H' := A0_.mk H
 clear H
 go_enter Tryd.func17, Tryd.ntmps17
 go_wp2
 go_loopg [3, 4] k (fun kq v3 v4 w' => ∃ (la : List (S28)) (aa : Int), v4 = .int .i64 aa ∧ A0_ (l0_Obligations.l0 kq l0 la aa = some r) ∧ A0_ (kq ≤ k) ∧ A0_ (Kd.R k28 28 w' w.heap.size (fun _ => True) v3 la) ∧ A0_ (Below w.heap.size w w'))
 case atStart => exact ⟨(([] : List (S28))), (0), (rS_), H', ⟨Nat.le_refl _⟩, ⟨by first | exact Kd.R_nil _ _ _ _ _ | exact Kd.N_nil _ _ _ _ _ | exact Kd.V_nil _ _ _ _ _ | exact Kd.Q_nil _ _ _ _ _ | exact Kd.S_nil _ _ _ _ _⟩, ⟨xB_ HB⟩⟩
 case round =>
  clear H'
  try clear c1
  obtain ⟨la, aa, rfl, HA, HK1, ga, HB⟩ := hrel
  cases gk with
  | zero => exact absurd HA.out (by simp [l0_Obligations.l0])
  | succ k1 =>
   have H := HA.out
   clear HA
   simp only [l0_Obligations.l0] at H
   have HC2 := A0_.mk H
   clear H
   go_upto_region 3 with (fail)
   go_cut [16] (fun v16 wc => ∃ (kq : Nat) (xa : Bool), v16 = .bool xa ∧ A0_ (l0_Obligations.j1 kq l0 la aa xa = some r) ∧ A0_ (kq ≤ k1) ∧ A0_ (Kd.R k28 28 wc w.heap.size (fun _ => True) u3 la) ∧ A0_ (Below w.heap.size w wc))
   case first =>
    have H := HC2.out
    clear HC2
    by_cases c3 : aa < (l0.length : Int)
    ·rw [if_pos c3] at H
     have ra : decide (aa < (l0.length : Int)) = true := decide_eq_true c3
     clear c3
     (first | rw [ra] | rw [Ga] | (simp only [i6_, i3_]; rw [ra]) | skip)
     have H' := A0_.mk H
     clear H
     go_wp2
     go_meet
     case rel => exact ⟨_, (decide (aa < 16)), (rS_), H', ⟨by have := HK1.out; first | omega | exact Nat.le_refl _⟩, ⟨by (with_reducible repeat (first | apply Kd.R_alloc | apply Kd.rN_ | apply Kd.rD_)); exact ga.out⟩, ⟨xB_ HB⟩⟩
    ·rw [if_neg c3] at H
     have ra : decide (aa < (l0.length : Int)) = false := decide_eq_false c3
     clear c3
     (first | rw [ra] | rw [Ga] | (simp only [i6_, i3_]; rw [ra]) | skip)
     have H' := A0_.mk H
     clear H
     go_wp2
     go_meet
     case rel => exact ⟨_, (false), (rS_), H', ⟨by have := HK1.out; first | omega | exact Nat.le_refl _⟩, ⟨by (with_reducible repeat (first | apply Kd.R_alloc | apply Kd.rN_ | apply Kd.rD_)); exact ga.out⟩, ⟨xB_ HB⟩⟩
   case rest =>
    clear HC2
    try clear c1
    try clear p2
    try clear c3
    try clear ra
    try clear Ga
    obtain ⟨kq, xa, rfl, HA, HJ1, ga, HB⟩ := hcut
    cases kq with
    | zero => exact absurd HA.out (by simp [l0_Obligations.j1])
    | succ kj1 =>
     have H := HA.out
     clear HA
     simp only [l0_Obligations.j1] at H
     by_cases c4 : xa = true
     ·subst c4
      have H1 : (if 0 ≤ aa then (if aa < (l0.length : Int) then (if (wrap64 (Int.tmod ((r46_ l0 aa).f1) 3)) ≥ (wrap64 (Int.tmod ((r46_ l0 aa).f0) 4)) then (l0_Obligations.j2 kj1 l0 la aa (wrap64 (Int.tmod ((r46_ l0 aa).f0) 4)) (wrap64 ((wrap64 (Int.tmod ((r46_ l0 aa).f1) 3)) + 1)) ((r46_ l0 aa).f0) ((r46_ l0 aa).f1) ((r46_ l0 aa).f2) ((r46_ l0 aa).f3) ((r46_ l0 aa).f4)) else (l0_Obligations.j2 kj1 l0 la aa (wrap64 (Int.tmod ((r46_ l0 aa).f0) 4)) (wrap64 (Int.tmod ((r46_ l0 aa).f1) 3)) ((r46_ l0 aa).f0) ((r46_ l0 aa).f1) ((r46_ l0 aa).f2) ((r46_ l0 aa).f3) ((r46_ l0 aa).f4))) else (none)) else (none)) = some r := by rw [if_pos rfl] at H; exact H
      clear H
      have H := H1
      clear H1
      by_cases c5 : 0 ≤ aa
      rotate_left
      ·rw [if_neg c5] at H
       exact absurd H (by simp)
      rw [if_pos c5] at H
      have La : decide (0 ≤ aa) = true := decide_eq_true c5
      clear c5
      by_cases c6 : aa < (l0.length : Int)
      rotate_left
      ·rw [if_neg c6] at H
       exact absurd H (by simp)
      rw [if_pos c6] at H
      have Ma : decide (aa < (l0.length : Int)) = true := decide_eq_true c6
      clear c6
      have HC7 := A0_.mk H
      clear H
      have ya : 0 ≤ (aa : Int) := oD_
      have za : aa < (l0.length : Int) := oD_
      obtain ⟨ib, Na, Aa, Ba, Ca, Da, Ea⟩ := at_T46 HR0.out aa ya za
      cases Na
      (try replace Aa := cT_ HB Aa)
      (try replace Ba := cT_ HB Ba)
      (try replace Ca := cT_ HB Ca)
      (try replace Da := cT_ HB Da)
      (try replace Ea := cT_ HB Ea)
      replace ya := eq_true ya
      replace za := eq_true za
      try go_wp2_with (first | ((with_reducible refine gD_ (N := 5) rfl ?_); refine bE_ ?hg (N := 5) ?hd (cs := #[.int .u16 0, .int .u16 0, .int .u16 0, .int .u16 0, .int .u16 0]) (t := 46) ?hr ?_; (case hd => rfl); (case hg => rfl); (case hr => first | (go_simp; done) | (go_simp; rfl)); intro da hg w8 hbox hb; have n0_ := A0_.mk (Kd.rB_ (xR_ ga.out) hb); have n1_ := A0_.mk (bT_ (xB_ HB) hb); have n2_ := A0_.mk (hbox); have n3_ := A0_.mk ((by rw [hg]; exact (bZ_ (xB_ HB)) : w.heap.size ≤ da)); have n4_ := A0_.mk ((by rw [hg]; exact (bZ_ (xB_ HB)) : w.heap.size ≤ da)); clear ga HB; have ga := n0_; have HB := n1_; have ca := n2_; have jb := n3_; have na := n4_; clear n0_ n1_ n2_ n3_ n4_; clear hb hbox hg; have Oa : w8.cell? ⟨da, 0, none⟩ = some (.int .u16 0) := (kc_ ca.out 0).trans rfl; have Pa : w8.cell? ⟨da, 1, none⟩ = some (.int .u16 0) := (kc_ ca.out 1).trans rfl; have Qa : w8.cell? ⟨da, 2, none⟩ = some (.int .u16 0) := (kc_ ca.out 2).trans rfl; have Ra : w8.cell? ⟨da, 3, none⟩ = some (.int .u16 0) := (kc_ ca.out 3).trans rfl; have Sa : w8.cell? ⟨da, 4, none⟩ = some (.int .u16 0) := (kc_ ca.out 4).trans rfl; have Ta := kF_ ca.out 0; have Ua := kF_ ca.out 1; have Va := kF_ ca.out 2; have Wa := kF_ ca.out 3; have Xa := kF_ ca.out 4))
      have n0_ : A0_ (Kd.R k28 28 (((((w8.setCell ⟨da, 0, none⟩ (.int .u16 ((r46_ l0 aa).f0))).setCell ⟨da, 1, none⟩ (.int .u16 ((r46_ l0 aa).f1))).setCell ⟨da, 2, none⟩ (.int .u16 ((r46_ l0 aa).f2))).setCell ⟨da, 3, none⟩ (.int .u16 ((r46_ l0 aa).f3))).setCell ⟨da, 4, none⟩ (.int .u16 ((r46_ l0 aa).f4))) w.heap.size (fun _ => True) u3 la) := ⟨by (with_reducible repeat (first | apply Kd.R_alloc | apply Kd.rN_ | apply Kd.rD_)); exact Kd.rM_ (Kd.rF_ (p := ⟨da, 4, none⟩) (Kd.rF_ (p := ⟨da, 3, none⟩) (Kd.rF_ (p := ⟨da, 2, none⟩) (Kd.rF_ (p := ⟨da, 1, none⟩) (Kd.rF_ (p := ⟨da, 0, none⟩) (Kd.R_types ga.out ca.out (by decide)) (fun _ hk => hk.2) (.int .u16 ((r46_ l0 aa).f0))) (fun _ hk => hk.2) (.int .u16 ((r46_ l0 aa).f1))) (fun _ hk => hk.2) (.int .u16 ((r46_ l0 aa).f2))) (fun _ hk => hk.2) (.int .u16 ((r46_ l0 aa).f3))) (fun _ hk => hk.2) (.int .u16 ((r46_ l0 aa).f4))) (fun _ hk => trivial)⟩
      have n1_ : A0_ ((((((w8.setCell ⟨da, 0, none⟩ (.int .u16 ((r46_ l0 aa).f0))).setCell ⟨da, 1, none⟩ (.int .u16 ((r46_ l0 aa).f1))).setCell ⟨da, 2, none⟩ (.int .u16 ((r46_ l0 aa).f2))).setCell ⟨da, 3, none⟩ (.int .u16 ((r46_ l0 aa).f3))).setCell ⟨da, 4, none⟩ (.int .u16 ((r46_ l0 aa).f4))).heap[da]? = some (.cells #[.int .u16 ((r46_ l0 aa).f0), .int .u16 ((r46_ l0 aa).f1), .int .u16 ((r46_ l0 aa).f2), .int .u16 ((r46_ l0 aa).f3), .int .u16 ((r46_ l0 aa).f4)] 46 (0, 0))) := ⟨by (with_reducible repeat (first | apply kN_ | apply kD_ | apply kA_)); refine kP_ (cs := #[.int .u16 ((r46_ l0 aa).f0), .int .u16 ((r46_ l0 aa).f1), .int .u16 ((r46_ l0 aa).f2), .int .u16 ((r46_ l0 aa).f3), .int .u16 0]) ?_ 4 _ rfl; (with_reducible repeat (first | apply kN_ | apply kD_ | apply kA_)); refine kP_ (cs := #[.int .u16 ((r46_ l0 aa).f0), .int .u16 ((r46_ l0 aa).f1), .int .u16 ((r46_ l0 aa).f2), .int .u16 0, .int .u16 0]) ?_ 3 _ rfl; (with_reducible repeat (first | apply kN_ | apply kD_ | apply kA_)); refine kP_ (cs := #[.int .u16 ((r46_ l0 aa).f0), .int .u16 ((r46_ l0 aa).f1), .int .u16 0, .int .u16 0, .int .u16 0]) ?_ 2 _ rfl; (with_reducible repeat (first | apply kN_ | apply kD_ | apply kA_)); refine kP_ (cs := #[.int .u16 ((r46_ l0 aa).f0), .int .u16 0, .int .u16 0, .int .u16 0, .int .u16 0]) ?_ 1 _ rfl; (with_reducible repeat (first | apply kN_ | apply kD_ | apply kA_)); refine kP_ (cs := #[.int .u16 0, .int .u16 0, .int .u16 0, .int .u16 0, .int .u16 0]) ?_ 0 _ rfl; (with_reducible repeat (first | apply kN_ | apply kD_ | apply kA_)); exact ca.out⟩
      have n2_ : A0_ (Below w.heap.size w (((((w8.setCell ⟨da, 0, none⟩ (.int .u16 ((r46_ l0 aa).f0))).setCell ⟨da, 1, none⟩ (.int .u16 ((r46_ l0 aa).f1))).setCell ⟨da, 2, none⟩ (.int .u16 ((r46_ l0 aa).f2))).setCell ⟨da, 3, none⟩ (.int .u16 ((r46_ l0 aa).f3))).setCell ⟨da, 4, none⟩ (.int .u16 ((r46_ l0 aa).f4)))) := ⟨xB1_ HB na⟩
      (try clear ga)
      (try clear ca)
      (try clear HB)
      generalize (((((w8.setCell ⟨da, 0, none⟩ (.int .u16 ((r46_ l0 aa).f0))).setCell ⟨da, 1, none⟩ (.int .u16 ((r46_ l0 aa).f1))).setCell ⟨da, 2, none⟩ (.int .u16 ((r46_ l0 aa).f2))).setCell ⟨da, 3, none⟩ (.int .u16 ((r46_ l0 aa).f3))).setCell ⟨da, 4, none⟩ (.int .u16 ((r46_ l0 aa).f4))) = w10 at n0_ n1_ n2_ ⊢
      have ga := n0_
      have ca := n1_
      have HB := n2_
      clear n0_ n1_ n2_
      have n0_ := A0_.mk (Kd.rD_ ga.out)
      have n1_ := A0_.mk (kD_ ca.out)
      have n2_ := A0_.mk (b1_ HB.out)
      clear ga
      clear ca
      clear HB
      have ga := n0_
      have ca := n1_
      have HB := n2_
      clear n0_ n1_ n2_
      refine start_ (n := 10) (S := fun w' => w'.cell? ⟨da, 0, none⟩ = some (.int .u16 ((r46_ l0 aa).f0)) ∧ w'.cell? ⟨da, 1, none⟩ = some (.int .u16 ((r46_ l0 aa).f1)) ∧ w'.cell? ⟨da, 2, none⟩ = some (.int .u16 ((r46_ l0 aa).f2)) ∧ w'.cell? ⟨da, 3, none⟩ = some (.int .u16 ((r46_ l0 aa).f3)) ∧ w'.cell? ⟨da, 4, none⟩ = some (.int .u16 ((r46_ l0 aa).f4))) (ds := []) #[false, false, false, false, false, false, false, false, false, false] kr_ rfl rfl ⟨(kc_ ca.out 0).trans rfl, (kc_ ca.out 1).trans rfl, (kc_ ca.out 2).trans rfl, (kc_ ca.out 3).trans rfl, (kc_ ca.out 4).trans rfl⟩ (fun hHeld => ?_); refine with_tabW l0_Obligations.tab6 l0_Obligations.bits6 (fun HT_ HW_ => ?_)
      generalize w10.drew = w11 at ga ca HB hHeld ⊢
      refine pu_ (i := 0) (N := some 23) (v := ?_) (a' := ?_) #[true, false, false, false, false, false, false, false, false, false] rfl rfl (an_ HT_.out kr_) (fun _ _ _ h => h) (Or.inl ⟨by rfl, ?_⟩) ?_ ?_
      rotate_left
      ·intro w'
       go_simp
       with_reducible rfl
      rotate_left
      ·simp only [Act.put, s1_, s2_, s3_, i6_, i3_]
       rfl
      refine pu_ (i := 4) (N := some 27) (v := ?_) (a' := ?_) #[true, false, false, false, true, false, false, false, false, false] rfl rfl (an_ HT_.out kr_) (fun _ _ _ h => h) (Or.inl ⟨by rfl, ?_⟩) ?_ ?_
      rotate_left
      ·intro w'
       go_simp
       with_reducible rfl
      rotate_left
      ·simp only [Act.put, s1_, s2_, s3_, i6_, i3_]
       rfl
      refine take_ (i := 1) (N := some 24) (v := ?_) (a' := ?_) #[true, true, false, false, true, false, false, false, false, false] rfl rfl (tW_ HT_.out HW_.out kr_) (fun _ _ _ h => h) (Or.inl ⟨by rfl, ?_⟩) hHeld ?_ ?_
      rotate_left
      ·rintro w' ⟨s0, s1, s2, s3, s4⟩
       go_simp
       with_reducible rfl
      rotate_left
      ·simp only [Act.put, s1_, s2_, s3_, i6_, i3_]
       rfl
      refine pu_ (i := 2) (N := some 25) (v := ?_) (a' := ?_) #[true, true, true, false, true, false, false, false, false, false] rfl rfl (an_ HT_.out kr_) (fun _ _ _ h => h) (Or.inl ⟨by rfl, ?_⟩) ?_ ?_
      rotate_left
      ·intro w'
       go_simp
       with_reducible rfl
      rotate_left
      ·simp only [Act.put, s1_, s2_, s3_, i6_, i3_]
       rfl
      refine pu_ (i := 3) (N := some 26) (v := ?_) (a' := ?_) #[true, true, true, true, true, false, false, false, false, false] rfl rfl (an_ HT_.out kr_) (fun _ _ _ h => h) (Or.inl ⟨by rfl, ?_⟩) ?_ ?_
      rotate_left
      ·intro w'
       go_simp
       with_reducible rfl
      rotate_left
      ·simp only [Act.put, s1_, s2_, s3_, i6_, i3_]
       rfl
      refine pu_ (i := 8) (N := some 6) (v := ?_) (a' := ?_) #[true, true, true, true, true, false, false, false, true, false] rfl rfl (an_ HT_.out kr_) (fun _ _ _ h => h) (Or.inl ⟨by rfl, ?_⟩) ?_ ?_
      rotate_left
      ·intro w'
       go_simp
       with_reducible rfl
      rotate_left
      ·simp only [Act.put, s1_, s2_, s3_, i6_, i3_]
       rfl
      refine take_ (i := 5) (N := some 28) (v := ?_) (a' := ?_) #[true, true, true, true, true, true, false, false, true, false] rfl rfl (tW_ HT_.out HW_.out kr_) (fun _ _ _ h => h) (Or.inl ⟨by rfl, ?_⟩) hHeld ?_ ?_
      rotate_left
      ·rintro w' ⟨s0, s1, s2, s3, s4⟩
       go_simp
       with_reducible rfl
      rotate_left
      ·simp only [Act.put, s1_, s2_, s3_, i6_, i3_]
       rfl
      refine pu_ (i := 6) (N := some 29) (v := ?_) (a' := ?_) #[true, true, true, true, true, true, true, false, true, false] rfl rfl (an_ HT_.out kr_) (fun _ _ _ h => h) (Or.inl ⟨by rfl, ?_⟩) ?_ ?_
      rotate_left
      ·intro w'
       go_simp
       with_reducible rfl
      rotate_left
      ·simp only [Act.put, s1_, s2_, s3_, i6_, i3_]
       rfl
      refine pu_ (i := 7) (N := some 30) (v := ?_) (a' := ?_) #[true, true, true, true, true, true, true, true, true, false] rfl rfl (an_ HT_.out kr_) (fun _ _ _ h => h) (Or.inl ⟨by rfl, ?_⟩) ?_ ?_
      rotate_left
      ·intro w'
       go_simp
       with_reducible rfl
      rotate_left
      ·simp only [Act.put, s1_, s2_, s3_, i6_, i3_]
       rfl
      refine pu_ (i := 9) (N := some 7) (v := ?_) (a' := ?_) #[true, true, true, true, true, true, true, true, true, true] rfl rfl (an_ HT_.out kr_) (fun _ _ _ h => h) (Or.inl ⟨by rfl, ?_⟩) ?_ ?_
      rotate_left
      ·intro w'
       go_simp
       with_reducible rfl
      rotate_left
      ·simp only [Act.put, s1_, s2_, s3_, i6_, i3_]
       rfl
      refine done_ (done_of HT_.out kr_) ?_
      go_upto_if 33 with (fail)
      go_cut [7] (fun v7 wc => ∃ (kq : Nat) (ha : Int), v7 = .int .i64 ha ∧ A0_ (l0_Obligations.j2 kq l0 la aa (wrap64 (Int.tmod ((r46_ l0 aa).f0) 4)) ha ((r46_ l0 aa).f0) ((r46_ l0 aa).f1) ((r46_ l0 aa).f2) ((r46_ l0 aa).f3) ((r46_ l0 aa).f4) = some r) ∧ A0_ (kq ≤ kj1) ∧ A0_ (Kd.R k28 28 wc w.heap.size (fun _ => True) u3 la) ∧ A0_ (wc.heap[da]? = some (.cells #[.int .u16 ((r46_ l0 aa).f0), .int .u16 ((r46_ l0 aa).f1), .int .u16 ((r46_ l0 aa).f2), .int .u16 ((r46_ l0 aa).f3), .int .u16 ((r46_ l0 aa).f4)] 46 (0, 0))) ∧ A0_ (Below w.heap.size w wc))
      case first =>
       have H := HC7.out
       clear HC7
       by_cases c12 : (wrap64 (Int.tmod ((r46_ l0 aa).f1) 3)) ≥ (wrap64 (Int.tmod ((r46_ l0 aa).f0) 4))
       ·rw [if_pos c12] at H
        have sa : decide ((wrap64 (Int.tmod ((r46_ l0 aa).f0) 4)) ≤ (wrap64 (Int.tmod ((r46_ l0 aa).f1) 3))) = true := decide_eq_true c12
        clear c12
        (first | rw [sa] | rw [Ja] | (simp only [i6_, i3_]; rw [sa]) | skip)
        have H' := A0_.mk H
        clear H
        go_wp2
        go_meet
        case rel => exact ⟨_, (wrap64 ((wrap64 (Int.tmod ((r46_ l0 aa).f1) 3)) + 1)), (rS_), H', ⟨by have := HK1.out; have := HJ1.out; first | omega | exact Nat.le_refl _⟩, ⟨by (with_reducible repeat (first | apply Kd.R_alloc | apply Kd.rN_ | apply Kd.rD_)); exact ga.out⟩, ⟨by (with_reducible repeat (first | apply kN_ | apply kD_ | apply kA_)); exact ca.out⟩, ⟨xB1_ HB na⟩⟩
       ·rw [if_neg c12] at H
        have sa : decide ((wrap64 (Int.tmod ((r46_ l0 aa).f0) 4)) ≤ (wrap64 (Int.tmod ((r46_ l0 aa).f1) 3))) = false := decide_eq_false c12
        clear c12
        (first | rw [sa] | rw [Ja] | (simp only [i6_, i3_]; rw [sa]) | skip)
        have H' := A0_.mk H
        clear H
        go_wp2
        go_meet
        case rel => exact ⟨_, (wrap64 (Int.tmod ((r46_ l0 aa).f1) 3)), (rS_), H', ⟨by have := HK1.out; have := HJ1.out; first | omega | exact Nat.le_refl _⟩, ⟨by (with_reducible repeat (first | apply Kd.R_alloc | apply Kd.rN_ | apply Kd.rD_)); exact ga.out⟩, ⟨by (with_reducible repeat (first | apply kN_ | apply kD_ | apply kA_)); exact ca.out⟩, ⟨xB1_ HB na⟩⟩
      case rest =>
       clear HC7
       try clear c1
       try clear p2
       try clear c3
       try clear ra
       try clear Ga
       try clear c4
       try clear c5
       try clear La
       try clear c6
       try clear Ma
       try clear p6
       try clear p7
       try clear q7
       try clear hx7
       try clear c12
       try clear sa
       try clear Ja
       try clear Oa
       try clear Pa
       try clear Qa
       try clear Ra
       try clear Sa
       try clear Ta
       try clear Ua
       try clear Va
       try clear Wa
       try clear Xa
       try clear Aa
       try clear Ba
       try clear Ca
       try clear Da
       try clear Ea
       try clear p2
       try clear ya
       try clear za
       obtain ⟨kq, ha, rfl, HA, HJ6, ga, ca, HB⟩ := hcut
       cases kq with
       | zero => exact absurd HA.out (by simp [l0_Obligations.j2])
       | succ kj6 =>
        have H := HA.out
        clear HA
        simp only [l0_Obligations.j2] at H
        obtain ⟨⟨ia, ja, ka⟩, A13, H⟩ := oB_ H
        (try dsimp only at H)
        obtain ⟨oa, ua⟩ : ∃ y_ : List Int, y_ = (([0, 0, 0, wrap64 (Int.tmod (IntKind.u16.wrap (Int.tdiv ((r46_ l0 aa).f4) 8)) 50)] : List Int)) := ⟨_, rfl⟩
        replace H : (if 0 ≤ (Int.tmod ((r46_ l0 aa).f4) 4) then (if (Int.tmod ((r46_ l0 aa).f4) 4) < (oa.length : Int) then (if la.length < 1759218604441 then (l0_Obligations.l0 kj6 l0 (la ++ [(⟨(wrap64 (Int.tmod ((r46_ l0 aa).f0) 4)), ha, (⟨ia, ja, ka⟩ : S26), wrap64 (Int.tmod ((r46_ l0 aa).f3) 60), wrap64 ((wrap64 (Int.tmod ((r46_ l0 aa).f3) 60)) + (rd oa (Int.tmod ((r46_ l0 aa).f4) 4))), ((Int.tmod ((r46_ l0 aa).f4) 8) == 7)⟩ : S28)]) (wrap64 (aa + 1))) else (none)) else (none)) else (none)) = some r := by first | (rw [ua]; with_reducible exact H) | (have H2_ := (Option.bind_some _ _).symm.trans H; rw [ua]; with_reducible exact H2_) | (have H2_ := (Option.bind_some _ _).symm.trans H; with_reducible exact H2_) | with_reducible exact H | (rw [ua]; exact H) | exact H
        have Ha := A0_.mk ua
        clear ua
        obtain ⟨ma, Ia⟩ : ∃ j_ : Int, (Int.tmod ((r46_ l0 aa).f4) 4) = j_ := ⟨_, rfl⟩
        replace H : (if 0 ≤ (ma) then (if (ma) < (oa.length : Int) then (if la.length < 1759218604441 then (l0_Obligations.l0 kj6 l0 (la ++ [(⟨(wrap64 (Int.tmod ((r46_ l0 aa).f0) 4)), ha, (⟨ia, ja, ka⟩ : S26), wrap64 (Int.tmod ((r46_ l0 aa).f3) 60), wrap64 ((wrap64 (Int.tmod ((r46_ l0 aa).f3) 60)) + (rd oa (ma))), ((Int.tmod ((r46_ l0 aa).f4) 8) == 7)⟩ : S28)]) (wrap64 (aa + 1))) else (none)) else (none)) else (none)) = some r := by first | (rw [Ia] at H; exact H) | (simp only [Ia] at H ⊢; exact H)
        (try rw [Ia] at A13)
        by_cases c15 : 0 ≤ (ma)
        rotate_left
        ·rw [if_neg c15] at H
         exact absurd H (by simp)
        rw [if_pos c15] at H
        have kb : decide (0 ≤ (ma)) = true := decide_eq_true c15
        clear c15
        by_cases c16 : (ma) < (oa.length : Int)
        rotate_left
        ·rw [if_neg c16] at H
         exact absurd H (by simp)
        rw [if_pos c16] at H
        have mb : decide ((ma) < (oa.length : Int)) = true := decide_eq_true c16
        clear c16
        by_cases c17 : la.length < 1759218604441
        rotate_left
        ·rw [if_neg c17] at H
         exact absurd H (by simp)
        rw [if_pos c17] at H
        have Ya := A0_.mk c17
        clear c17
        obtain ⟨Ka, va⟩ : ∃ y_ : List (S28), y_ = (la ++ [(⟨(wrap64 (Int.tmod ((r46_ l0 aa).f0) 4)), ha, (⟨ia, ja, ka⟩ : S26), wrap64 (Int.tmod ((r46_ l0 aa).f3) 60), wrap64 ((wrap64 (Int.tmod ((r46_ l0 aa).f3) 60)) + (rd oa (ma))), ((Int.tmod ((r46_ l0 aa).f4) 8) == 7)⟩ : S28)]) := ⟨_, rfl⟩
        replace H : (l0_Obligations.l0 kj6 l0 Ka (wrap64 (aa + 1))) = some r := by first | (rw [va]; with_reducible exact H) | (have H2_ := (Option.bind_some _ _).symm.trans H; rw [va]; with_reducible exact H2_) | (have H2_ := (Option.bind_some _ _).symm.trans H; with_reducible exact H2_) | with_reducible exact H | (rw [va]; exact H) | exact H
        have Za := A0_.mk va
        clear va
        have H' := A0_.mk H
        clear H
        try go_wp2
        have n0_ := A0_.mk (Kd.rD_ ga.out)
        have n1_ := A0_.mk (kD_ ca.out)
        have n2_ := A0_.mk (b1_ HB.out)
        clear ga
        clear ca
        clear HB
        have ga := n0_
        have ca := n1_
        have HB := n2_
        clear n0_ n1_ n2_
        refine start_ (n := 16) (S := fun w' => w'.cell? ⟨da, 0, none⟩ = some (.int .u16 ((r46_ l0 aa).f0)) ∧ w'.cell? ⟨da, 1, none⟩ = some (.int .u16 ((r46_ l0 aa).f1)) ∧ w'.cell? ⟨da, 2, none⟩ = some (.int .u16 ((r46_ l0 aa).f2)) ∧ w'.cell? ⟨da, 3, none⟩ = some (.int .u16 ((r46_ l0 aa).f3)) ∧ w'.cell? ⟨da, 4, none⟩ = some (.int .u16 ((r46_ l0 aa).f4))) (ds := []) #[false, false, false, false, false, false, false, false, false, false, false, false, false, false, false, false] kr_ rfl rfl ⟨(kc_ ca.out 0).trans rfl, (kc_ ca.out 1).trans rfl, (kc_ ca.out 2).trans rfl, (kc_ ca.out 3).trans rfl, (kc_ ca.out 4).trans rfl⟩ (fun hHeld => ?_); refine with_tabW l0_Obligations.tab9 l0_Obligations.bits9 (fun HT_ HW_ => ?_)
        generalize wc.drew = w18 at ga ca HB hHeld ⊢
        refine pu_ (i := 0) (N := some 36) (v := ?_) (a' := ?_) #[true, false, false, false, false, false, false, false, false, false, false, false, false, false, false, false] rfl rfl (an_ HT_.out kr_) (fun _ _ _ h => h) (Or.inl ⟨by rfl, ?_⟩) ?_ ?_
        rotate_left
        ·intro w'
         go_simp
         with_reducible rfl
        rotate_left
        ·simp only [Act.put, s1_, s2_, s3_, i6_, i3_]
         rfl
        refine pu_ (i := 1) (N := some 37) (v := ?_) (a' := ?_) #[true, true, false, false, false, false, false, false, false, false, false, false, false, false, false, false] rfl rfl (an_ HT_.out kr_) (fun _ _ _ h => h) (Or.inl ⟨by rfl, ?_⟩) ?_ ?_
        rotate_left
        ·intro w'
         go_simp
         with_reducible rfl
        rotate_left
        ·simp only [Act.put, s1_, s2_, s3_, i6_, i3_]
         rfl
        refine pu_ (i := 2) (N := some 38) (v := ?_) (a' := ?_) #[true, true, true, false, false, false, false, false, false, false, false, false, false, false, false, false] rfl rfl (an_ HT_.out kr_) (fun _ _ _ h => h) (Or.inl ⟨by rfl, ?_⟩) ?_ ?_
        rotate_left
        ·intro w'
         go_simp
         with_reducible rfl
        rotate_left
        ·simp only [Act.put, s1_, s2_, s3_, i6_, i3_]
         rfl
        refine pu_ (i := 5) (N := some 41) (v := ?_) (a' := ?_) #[true, true, true, false, false, true, false, false, false, false, false, false, false, false, false, false] rfl rfl (an_ HT_.out kr_) (fun _ _ _ h => h) (Or.inl ⟨by rfl, ?_⟩) ?_ ?_
        rotate_left
        ·intro w'
         go_simp
         with_reducible rfl
        rotate_left
        ·simp only [Act.put, s1_, s2_, s3_, i6_, i3_]
         rfl
        refine pu_ (i := 9) (N := some 45) (v := ?_) (a' := ?_) #[true, true, true, false, false, true, false, false, false, true, false, false, false, false, false, false] rfl rfl (an_ HT_.out kr_) (fun _ _ _ h => h) (Or.inl ⟨by rfl, ?_⟩) ?_ ?_
        rotate_left
        ·intro w'
         go_simp
         with_reducible rfl
        rotate_left
        ·simp only [Act.put, s1_, s2_, s3_, i6_, i3_]
         rfl
        refine take_ (i := 3) (N := some 39) (v := ?_) (a' := ?_) #[true, true, true, true, false, true, false, false, false, true, false, false, false, false, false, false] rfl rfl (tW_ HT_.out HW_.out kr_) (fun _ _ _ h => h) (Or.inl ⟨by rfl, ?_⟩) hHeld ?_ ?_
        rotate_left
        ·rintro w' ⟨s0, s1, s2, s3, s4⟩
         go_simp
         with_reducible rfl
        rotate_left
        ·simp only [Act.put, s1_, s2_, s3_, i6_, i3_]
         rfl
        refine take_ (i := 6) (N := some 42) (v := ?_) (a' := ?_) #[true, true, true, true, false, true, true, false, false, true, false, false, false, false, false, false] rfl rfl (tW_ HT_.out HW_.out kr_) (fun _ _ _ h => h) (Or.inl ⟨by rfl, ?_⟩) hHeld ?_ ?_
        rotate_left
        ·rintro w' ⟨s0, s1, s2, s3, s4⟩
         go_simp
         with_reducible rfl
        rotate_left
        ·simp only [Act.put, s1_, s2_, s3_, i6_, i3_]
         rfl
        refine pu_ (i := 7) (N := some 43) (v := ?_) (a' := ?_) #[true, true, true, true, false, true, true, true, false, true, false, false, false, false, false, false] rfl rfl (an_ HT_.out kr_) (fun _ _ _ h => h) (Or.inl ⟨by rfl, ?_⟩) ?_ ?_
        rotate_left
        ·intro w'
         go_simp
         with_reducible rfl
        rotate_left
        ·simp only [Act.put, s1_, s2_, s3_, i6_, i3_]
         rfl
        refine pu_ (i := 8) (N := some 44) (v := ?_) (a' := ?_) #[true, true, true, true, false, true, true, true, true, true, false, false, false, false, false, false] rfl rfl (an_ HT_.out kr_) (fun _ _ _ h => h) (Or.inl ⟨by rfl, ?_⟩) ?_ ?_
        rotate_left
        ·intro w'
         go_simp
         with_reducible rfl
        rotate_left
        ·simp only [Act.put, s1_, s2_, s3_, i6_, i3_]
         rfl
        refine take_ (i := 10) (N := some 46) (v := ?_) (a' := ?_) #[true, true, true, true, false, true, true, true, true, true, true, false, false, false, false, false] rfl rfl (tW_ HT_.out HW_.out kr_) (fun _ _ _ h => h) (Or.inl ⟨by rfl, ?_⟩) hHeld ?_ ?_
        rotate_left
        ·rintro w' ⟨s0, s1, s2, s3, s4⟩
         go_simp
         with_reducible rfl
        rotate_left
        ·simp only [Act.put, s1_, s2_, s3_, i6_, i3_]
         rfl
        refine pu_ (i := 11) (N := some 47) (v := ?_) (a' := ?_) #[true, true, true, true, false, true, true, true, true, true, true, true, false, false, false, false] rfl rfl (an_ HT_.out kr_) (fun _ _ _ h => h) (Or.inl ⟨by rfl, ?_⟩) ?_ ?_
        rotate_left
        ·intro w'
         go_simp
         with_reducible rfl
        rotate_left
        ·simp only [Act.put, s1_, s2_, s3_, i6_, i3_]
         rfl
        refine pu_ (i := 12) (N := some 48) (v := ?_) (a' := ?_) #[true, true, true, true, false, true, true, true, true, true, true, true, true, false, false, false] rfl rfl (an_ HT_.out kr_) (fun _ _ _ h => h) (Or.inl ⟨by rfl, ?_⟩) ?_ ?_
        rotate_left
        ·intro w'
         go_simp
         with_reducible rfl
        rotate_left
        ·simp only [Act.put, s1_, s2_, s3_, i6_, i3_]
         rfl
        refine join_ (σ := Nat) 1 #[true, true, true, true, true, true, true, true, true, true, true, true, true, true, true, false] (fun s_ => [(40, .agg #[.bool ia, .string ja, .string ka]), (8, .pointer (some ⟨s_, 0, none⟩)), (49, .agg #[.int .i64 (wrap64 (Int.tmod ((r46_ l0 aa).f0) 4)), .int .i64 ha, .bool ia, .string ja, .string ka, .int .i64 (wrap64 (Int.tmod ((r46_ l0 aa).f3) 60)), .int .i64 0, .bool ((Int.tmod ((r46_ l0 aa).f4) 8) == 7)])]) (fun s_ w' => (w'.cell? ⟨da, 0, none⟩ = some (.int .u16 ((r46_ l0 aa).f0)) ∧ w'.cell? ⟨da, 1, none⟩ = some (.int .u16 ((r46_ l0 aa).f1)) ∧ w'.cell? ⟨da, 2, none⟩ = some (.int .u16 ((r46_ l0 aa).f2)) ∧ w'.cell? ⟨da, 3, none⟩ = some (.int .u16 ((r46_ l0 aa).f3)) ∧ w'.cell? ⟨da, 4, none⟩ = some (.int .u16 ((r46_ l0 aa).f4))) ∧ (Kd.R k28 28 w' w.heap.size (fun k_ => k_ ≠ s_) u3 la) ∧ (w'.heap[da]? = some (.cells #[.int .u16 ((r46_ l0 aa).f0), .int .u16 ((r46_ l0 aa).f1), .int .u16 ((r46_ l0 aa).f2), .int .u16 ((r46_ l0 aa).f3), .int .u16 ((r46_ l0 aa).f4)] 46 (0, 0))) ∧ (w'.heap[s_]? = some (.cells #[.int .i64 0, .int .i64 0, .bool false, .string (⟨#[]⟩ : ByteArray), .string (⟨#[]⟩ : ByteArray), .int .i64 0, .int .i64 0, .bool false] 28 (0, 0))) ∧ (w.heap.size ≤ s_) ∧ (w.heap.size ≤ s_) ∧ (da ≠ s_) ∧ (s_ ≠ da) ∧ (Below w.heap.size w w')) ?_ ?_
        rotate_left
        ·intro hCont
         refine two_ (i := 4) (j := 14) (Ni := some 40) (Nj := some 8) #[true, true, true, true, true, true, true, true, true, true, true, true, true, false, false, false] #[true, true, true, true, false, true, true, true, true, true, true, true, true, false, true, false] rfl rfl rfl rfl (two_of HT_.out kr_) (by decide) (by decide) (fun K hK => ?_) (fun K hK => ?_)
         ·skip
          refine goes_ Tryd.func35 kr_ rfl #[.int .u16 ((r46_ l0 aa).f2)] (by rfl) rfl rfl mp_ ?_
          with_reducible refine (l0_Amount.calls kj6 ((r46_ l0 aa).f2) ia ja ka _ A13.out).mono ?_
          rintro e w19 ⟨rfl, hb⟩
          refine ⟨_, rfl, ?_⟩
          have n0_ := A0_.mk (Kd.rB_ (xR_ ga.out) hb)
          have n1_ := A0_.mk (kB_ (g := da) (o := .cells #[.int .u16 ((r46_ l0 aa).f0), .int .u16 ((r46_ l0 aa).f1), .int .u16 ((r46_ l0 aa).f2), .int .u16 ((r46_ l0 aa).f3), .int .u16 ((r46_ l0 aa).f4)] 46 (0, 0)) (xK_ ca.out) hb)
          have n2_ := A0_.mk (bT_ (xB1_ HB na) hb)
          clear ga
          clear ca
          clear HB
          have ga := n0_
          have ca := n1_
          have HB := n2_
          clear n0_ n1_ n2_
          (try clear hb)
          (try clear hb2)
          (try clear hk)
          (try clear hi)
          refine hK.out _ _ ⟨(kc_ ca.out 0).trans rfl, (kc_ ca.out 1).trans rfl, (kc_ ca.out 2).trans rfl, (kc_ ca.out 3).trans rfl, (kc_ ca.out 4).trans rfl⟩ (fun hHeld => ?_)
          clear hK K
          refine norm_ (a' := ?_) ?_ ?_
          rotate_left
          ·show Act.put _ (some 40) _ = _
           simp only [Act.put, s1_, s2_, s3_, i6_, i3_]
           rfl
          refine pu_ (i := 13) (N := some 49) (v := ?_) (a' := ?_) #[true, true, true, true, true, true, true, true, true, true, true, true, true, true, false, false] rfl rfl (an_ HT_.out kr_) (fun _ _ _ h => h) (Or.inl ⟨by rfl, ?_⟩) ?_ ?_
          rotate_left
          ·intro w'
           go_simp
           with_reducible rfl
          rotate_left
          ·simp only [Act.put, s1_, s2_, s3_, i6_, i3_]
           rfl
          refine one_ (i := 14) (N := some 8) #[true, true, true, true, true, true, true, true, true, true, true, true, true, true, true, false] rfl rfl (one_of HT_.out kr_) (by decide) (fun K hK => ?_)
          refine box_step ?hg (N := 8) ?hd (cs := #[.int .i64 0, .int .i64 0, .bool false, .string (⟨#[]⟩ : ByteArray), .string (⟨#[]⟩ : ByteArray), .int .i64 0, .int .i64 0, .bool false]) (t := 28) ?hr ?_; (case hd => rfl); (case hg => rfl); (case hr => first | (go_simp; done) | (go_simp; rfl))
          intro ba hg w20 hbox hb
          have n0_ := A0_.mk (Kd.rB_ (Kd.R_elderB (xR_ ga.out) ba (Nat.le_of_eq hg.symm)) hb)
          have n1_ := A0_.mk (kB_ (g := da) (o := .cells #[.int .u16 ((r46_ l0 aa).f0), .int .u16 ((r46_ l0 aa).f1), .int .u16 ((r46_ l0 aa).f2), .int .u16 ((r46_ l0 aa).f3), .int .u16 ((r46_ l0 aa).f4)] 46 (0, 0)) (xK_ ca.out) hb)
          have n2_ := A0_.mk (bT_ (xB1_ HB na) hb)
          have n3_ := A0_.mk (hbox)
          have n4_ := A0_.mk ((by rw [hg]; exact (bZ_ (xB1_ HB na)) : w.heap.size ≤ ba))
          have n5_ := A0_.mk ((by rw [hg]; exact (bZ_ (xB1_ HB na)) : w.heap.size ≤ ba))
          have n6_ := A0_.mk ((by rw [hg]; exact Nat.ne_of_lt (blk_lt (g := da) (o := .cells #[.int .u16 ((r46_ l0 aa).f0), .int .u16 ((r46_ l0 aa).f1), .int .u16 ((r46_ l0 aa).f2), .int .u16 ((r46_ l0 aa).f3), .int .u16 ((r46_ l0 aa).f4)] 46 (0, 0)) (xK_ ca.out)) : da ≠ ba))
          have n7_ := A0_.mk ((by rw [hg]; exact Nat.ne_of_gt (blk_lt (g := da) (o := .cells #[.int .u16 ((r46_ l0 aa).f0), .int .u16 ((r46_ l0 aa).f1), .int .u16 ((r46_ l0 aa).f2), .int .u16 ((r46_ l0 aa).f3), .int .u16 ((r46_ l0 aa).f4)] 46 (0, 0)) (xK_ ca.out)) : ba ≠ da))
          clear ga
          clear ca
          clear HB
          have ga := n0_
          have ca := n1_
          have HB := n2_
          have ea := n3_
          have Fa := n4_
          have qa := n5_
          have fa := n6_
          have pa := n7_
          clear n0_ n1_ n2_ n3_ n4_ n5_ n6_ n7_
          clear hb hbox hg
          refine hK.out _ _ ⟨(kc_ ca.out 0).trans rfl, (kc_ ca.out 1).trans rfl, (kc_ ca.out 2).trans rfl, (kc_ ca.out 3).trans rfl, (kc_ ca.out 4).trans rfl⟩ (fun hHeld => ?_)
          clear hK K
          refine norm_ (a' := ?_) ?_ ?_
          rotate_left
          ·show Act.put _ (some 8) _ = _
           simp only [Act.put, s1_, s2_, s3_, i6_, i3_]
           rfl
          exact norm_ (by simp only [putAll, Act.put, s1_, s2_, s3_]) (hCont (ba) _ ⟨hHeld, (by (with_reducible repeat (first | apply Kd.R_alloc | apply Kd.rN_ | apply Kd.rD_)); exact Kd.rM_ ga.out (fun _ hk => hk.2)), (xK_ ca.out), (xK_ ea.out), Fa.out, qa.out, fa.out, pa.out, (xB2_ HB na qa)⟩)
         ·skip
          refine box_step ?hg (N := 8) ?hd (cs := #[.int .i64 0, .int .i64 0, .bool false, .string (⟨#[]⟩ : ByteArray), .string (⟨#[]⟩ : ByteArray), .int .i64 0, .int .i64 0, .bool false]) (t := 28) ?hr ?_; (case hd => rfl); (case hg => rfl); (case hr => first | (go_simp; done) | (go_simp; rfl))
          intro ba hg w19 hbox hb
          have n0_ := A0_.mk (Kd.rB_ (Kd.R_elderB (xR_ ga.out) ba (Nat.le_of_eq hg.symm)) hb)
          have n1_ := A0_.mk (kB_ (g := da) (o := .cells #[.int .u16 ((r46_ l0 aa).f0), .int .u16 ((r46_ l0 aa).f1), .int .u16 ((r46_ l0 aa).f2), .int .u16 ((r46_ l0 aa).f3), .int .u16 ((r46_ l0 aa).f4)] 46 (0, 0)) (xK_ ca.out) hb)
          have n2_ := A0_.mk (bT_ (xB1_ HB na) hb)
          have n3_ := A0_.mk (hbox)
          have n4_ := A0_.mk ((by rw [hg]; exact (bZ_ (xB1_ HB na)) : w.heap.size ≤ ba))
          have n5_ := A0_.mk ((by rw [hg]; exact (bZ_ (xB1_ HB na)) : w.heap.size ≤ ba))
          have n6_ := A0_.mk ((by rw [hg]; exact Nat.ne_of_lt (blk_lt (g := da) (o := .cells #[.int .u16 ((r46_ l0 aa).f0), .int .u16 ((r46_ l0 aa).f1), .int .u16 ((r46_ l0 aa).f2), .int .u16 ((r46_ l0 aa).f3), .int .u16 ((r46_ l0 aa).f4)] 46 (0, 0)) (xK_ ca.out)) : da ≠ ba))
          have n7_ := A0_.mk ((by rw [hg]; exact Nat.ne_of_gt (blk_lt (g := da) (o := .cells #[.int .u16 ((r46_ l0 aa).f0), .int .u16 ((r46_ l0 aa).f1), .int .u16 ((r46_ l0 aa).f2), .int .u16 ((r46_ l0 aa).f3), .int .u16 ((r46_ l0 aa).f4)] 46 (0, 0)) (xK_ ca.out)) : ba ≠ da))
          clear ga
          clear ca
          clear HB
          have ga := n0_
          have ca := n1_
          have HB := n2_
          have ea := n3_
          have Fa := n4_
          have qa := n5_
          have fa := n6_
          have pa := n7_
          clear n0_ n1_ n2_ n3_ n4_ n5_ n6_ n7_
          clear hb hbox hg
          refine hK.out _ _ ⟨(kc_ ca.out 0).trans rfl, (kc_ ca.out 1).trans rfl, (kc_ ca.out 2).trans rfl, (kc_ ca.out 3).trans rfl, (kc_ ca.out 4).trans rfl⟩ (fun hHeld => ?_)
          clear hK K
          refine norm_ (a' := ?_) ?_ ?_
          rotate_left
          ·show Act.put _ (some 8) _ = _
           simp only [Act.put, s1_, s2_, s3_, i6_, i3_]
           rfl
          refine one_ (i := 4) (N := some 40) #[true, true, true, true, true, true, true, true, true, true, true, true, true, false, true, false] rfl rfl (one_of HT_.out kr_) (by decide) (fun K hK => ?_)
          refine goes_ Tryd.func35 kr_ rfl #[.int .u16 ((r46_ l0 aa).f2)] (by rfl) rfl rfl mp_ ?_
          with_reducible refine (l0_Amount.calls kj6 ((r46_ l0 aa).f2) ia ja ka _ A13.out).mono ?_
          rintro e w20 ⟨rfl, hb⟩
          refine ⟨_, rfl, ?_⟩
          have n0_ := A0_.mk (Kd.rB_ (xR_ ga.out) hb)
          have n1_ := A0_.mk (kB_ (g := da) (o := .cells #[.int .u16 ((r46_ l0 aa).f0), .int .u16 ((r46_ l0 aa).f1), .int .u16 ((r46_ l0 aa).f2), .int .u16 ((r46_ l0 aa).f3), .int .u16 ((r46_ l0 aa).f4)] 46 (0, 0)) (xK_ ca.out) hb)
          have n2_ := A0_.mk (kB_ (g := ba) (o := .cells #[.int .i64 0, .int .i64 0, .bool false, .string (⟨#[]⟩ : ByteArray), .string (⟨#[]⟩ : ByteArray), .int .i64 0, .int .i64 0, .bool false] 28 (0, 0)) (xK_ ea.out) hb)
          have n3_ := A0_.mk (bT_ (xB2_ HB na qa) hb)
          clear ga
          clear ca
          clear ea
          clear HB
          have ga := n0_
          have ca := n1_
          have ea := n2_
          have HB := n3_
          clear n0_ n1_ n2_ n3_
          (try clear hb)
          (try clear hb2)
          (try clear hk)
          (try clear hi)
          refine hK.out _ _ ⟨(kc_ ca.out 0).trans rfl, (kc_ ca.out 1).trans rfl, (kc_ ca.out 2).trans rfl, (kc_ ca.out 3).trans rfl, (kc_ ca.out 4).trans rfl⟩ (fun hHeld => ?_)
          clear hK K
          refine norm_ (a' := ?_) ?_ ?_
          rotate_left
          ·show Act.put _ (some 40) _ = _
           simp only [Act.put, s1_, s2_, s3_, i6_, i3_]
           rfl
          refine pu_ (i := 13) (N := some 49) (v := ?_) (a' := ?_) #[true, true, true, true, true, true, true, true, true, true, true, true, true, true, true, false] rfl rfl (an_ HT_.out kr_) (fun _ _ _ h => h) (Or.inl ⟨by rfl, ?_⟩) ?_ ?_
          rotate_left
          ·intro w'
           go_simp
           with_reducible rfl
          rotate_left
          ·simp only [Act.put, s1_, s2_, s3_, i6_, i3_]
           rfl
          exact norm_ (by simp only [putAll, Act.put, s1_, s2_, s3_]) (hCont (ba) _ ⟨hHeld, (by (with_reducible repeat (first | apply Kd.R_alloc | apply Kd.rN_ | apply Kd.rD_)); exact Kd.rM_ ga.out (fun _ hk => hk.2)), (xK_ ca.out), (xK_ ea.out), Fa.out, qa.out, fa.out, pa.out, (xB2_ HB na qa)⟩)
        rintro ba w21 ⟨hS_, h0_, h1_, h2_, h3_, h4_, h5_, h6_, h7_⟩
        have n0_ : A0_ (Kd.R k28 28 w21 w.heap.size (fun k_ => k_ ≠ ba) u3 la) := ⟨h0_⟩
        have n1_ : A0_ (w21.heap[da]? = some (.cells #[.int .u16 ((r46_ l0 aa).f0), .int .u16 ((r46_ l0 aa).f1), .int .u16 ((r46_ l0 aa).f2), .int .u16 ((r46_ l0 aa).f3), .int .u16 ((r46_ l0 aa).f4)] 46 (0, 0))) := ⟨h1_⟩
        have n2_ : A0_ (w21.heap[ba]? = some (.cells #[.int .i64 0, .int .i64 0, .bool false, .string (⟨#[]⟩ : ByteArray), .string (⟨#[]⟩ : ByteArray), .int .i64 0, .int .i64 0, .bool false] 28 (0, 0))) := ⟨h2_⟩
        have n3_ : A0_ (w.heap.size ≤ ba) := ⟨h3_⟩
        have n4_ : A0_ (w.heap.size ≤ ba) := ⟨h4_⟩
        have n5_ : A0_ (da ≠ ba) := ⟨h5_⟩
        have n6_ : A0_ (ba ≠ da) := ⟨h6_⟩
        have n7_ : A0_ (Below w.heap.size w w21) := ⟨h7_⟩
        clear ga
        clear ca
        clear HB
        clear h0_ h1_ h2_ h3_ h4_ h5_ h6_ h7_
        have ga := n0_
        have ca := n1_
        have ea := n2_
        have Fa := n3_
        have qa := n4_
        have fa := n5_
        have pa := n6_
        have HB := n7_
        clear n0_ n1_ n2_ n3_ n4_ n5_ n6_ n7_
        have hHeld : w21.cell? ⟨da, 0, none⟩ = some (.int .u16 ((r46_ l0 aa).f0)) ∧ w21.cell? ⟨da, 1, none⟩ = some (.int .u16 ((r46_ l0 aa).f1)) ∧ w21.cell? ⟨da, 2, none⟩ = some (.int .u16 ((r46_ l0 aa).f2)) ∧ w21.cell? ⟨da, 3, none⟩ = some (.int .u16 ((r46_ l0 aa).f3)) ∧ w21.cell? ⟨da, 4, none⟩ = some (.int .u16 ((r46_ l0 aa).f4)) := hS_
        refine norm_ (a' := ?_) ?_ ?_
        rotate_left
        ·simp only [putAll, Act.put, s1_, s2_, s3_]
         rfl
        refine one_ (i := 15) (N := none) #[true, true, true, true, true, true, true, true, true, true, true, true, true, true, true, true] rfl rfl (one_of HT_.out kr_) (by decide) (fun K hK => ?_)
        have nb : w21.cell? ⟨ba, 0, none⟩ = some (.int .i64 0) := (kc_ ea.out 0).trans rfl
        have hfs22 := kF_ ea.out 0
        have hns22_0 := fa.out
        have hms22_0 := pa.out
        have ob : w21.cell? ⟨ba, 1, none⟩ = some (.int .i64 0) := (kc_ ea.out 1).trans rfl
        have hfs23 := kF_ ea.out 1
        have hns23_0 := fa.out
        have hms23_0 := pa.out
        have pb : w21.cell? ⟨ba, 2, none⟩ = some (.bool false) := (kc_ ea.out 2).trans rfl
        have hfs24 := kF_ ea.out 2
        have hns24_0 := fa.out
        have hms24_0 := pa.out
        have qb : w21.cell? ⟨ba, 3, none⟩ = some (.string (⟨#[]⟩ : ByteArray)) := (kc_ ea.out 3).trans rfl
        have hfs25 := kF_ ea.out 3
        have hns25_0 := fa.out
        have hms25_0 := pa.out
        have rb : w21.cell? ⟨ba, 4, none⟩ = some (.string (⟨#[]⟩ : ByteArray)) := (kc_ ea.out 4).trans rfl
        have hfs26 := kF_ ea.out 4
        have hns26_0 := fa.out
        have hms26_0 := pa.out
        have sb : w21.cell? ⟨ba, 5, none⟩ = some (.int .i64 0) := (kc_ ea.out 5).trans rfl
        have hfs27 := kF_ ea.out 5
        have hns27_0 := fa.out
        have hms27_0 := pa.out
        have tb : w21.cell? ⟨ba, 6, none⟩ = some (.int .i64 0) := (kc_ ea.out 6).trans rfl
        have hfs28 := kF_ ea.out 6
        have hns28_0 := fa.out
        have hms28_0 := pa.out
        have ub : w21.cell? ⟨ba, 7, none⟩ = some (.bool false) := (kc_ ea.out 7).trans rfl
        have hfs29 := kF_ ea.out 7
        have hns29_0 := fa.out
        have hms29_0 := pa.out
        refine skip_ (w1 := ?_) (by rfl) rfl ?_ ?_
        rotate_left
        ·go_simp
         rfl
        refine hK.out _ _ ⟨((cf_ (p := ⟨ba, _, none⟩) fa.out _).trans (((cf_ (p := ⟨ba, _, none⟩) fa.out _).trans (((cf_ (p := ⟨ba, _, none⟩) fa.out _).trans (((cf_ (p := ⟨ba, _, none⟩) fa.out _).trans (((cf_ (p := ⟨ba, _, none⟩) fa.out _).trans (((cf_ (p := ⟨ba, _, none⟩) fa.out _).trans (((cf_ (p := ⟨ba, _, none⟩) fa.out _).trans (((cf_ (p := ⟨ba, _, none⟩) fa.out _).trans (hHeld.1)))))))))))))))), ((cf_ (p := ⟨ba, _, none⟩) fa.out _).trans (((cf_ (p := ⟨ba, _, none⟩) fa.out _).trans (((cf_ (p := ⟨ba, _, none⟩) fa.out _).trans (((cf_ (p := ⟨ba, _, none⟩) fa.out _).trans (((cf_ (p := ⟨ba, _, none⟩) fa.out _).trans (((cf_ (p := ⟨ba, _, none⟩) fa.out _).trans (((cf_ (p := ⟨ba, _, none⟩) fa.out _).trans (((cf_ (p := ⟨ba, _, none⟩) fa.out _).trans (hHeld.2.1)))))))))))))))), ((cf_ (p := ⟨ba, _, none⟩) fa.out _).trans (((cf_ (p := ⟨ba, _, none⟩) fa.out _).trans (((cf_ (p := ⟨ba, _, none⟩) fa.out _).trans (((cf_ (p := ⟨ba, _, none⟩) fa.out _).trans (((cf_ (p := ⟨ba, _, none⟩) fa.out _).trans (((cf_ (p := ⟨ba, _, none⟩) fa.out _).trans (((cf_ (p := ⟨ba, _, none⟩) fa.out _).trans (((cf_ (p := ⟨ba, _, none⟩) fa.out _).trans (hHeld.2.2.1)))))))))))))))), ((cf_ (p := ⟨ba, _, none⟩) fa.out _).trans (((cf_ (p := ⟨ba, _, none⟩) fa.out _).trans (((cf_ (p := ⟨ba, _, none⟩) fa.out _).trans (((cf_ (p := ⟨ba, _, none⟩) fa.out _).trans (((cf_ (p := ⟨ba, _, none⟩) fa.out _).trans (((cf_ (p := ⟨ba, _, none⟩) fa.out _).trans (((cf_ (p := ⟨ba, _, none⟩) fa.out _).trans (((cf_ (p := ⟨ba, _, none⟩) fa.out _).trans (hHeld.2.2.2.1)))))))))))))))), ((cf_ (p := ⟨ba, _, none⟩) fa.out _).trans (((cf_ (p := ⟨ba, _, none⟩) fa.out _).trans (((cf_ (p := ⟨ba, _, none⟩) fa.out _).trans (((cf_ (p := ⟨ba, _, none⟩) fa.out _).trans (((cf_ (p := ⟨ba, _, none⟩) fa.out _).trans (((cf_ (p := ⟨ba, _, none⟩) fa.out _).trans (((cf_ (p := ⟨ba, _, none⟩) fa.out _).trans (((cf_ (p := ⟨ba, _, none⟩) fa.out _).trans (hHeld.2.2.2.2))))))))))))))))⟩ (fun hHeld => ?_)
        clear hK K
        refine done_ (done_of HT_.out kr_) ?_
        try go_wp2
        have pi793 : (0 ≤ ((ma) : Int)) = True := eq_true (oD_)
        have vb : ((ma) < (oa.length : Int)) = True := eq_true (oD_)
        have n0_ : A0_ (Kd.R k28 28 ((((((((w21.setCell ⟨ba, 0, none⟩ (.int .i64 (wrap64 (Int.tmod ((r46_ l0 aa).f0) 4)))).setCell ⟨ba, 1, none⟩ (.int .i64 ha)).setCell ⟨ba, 2, none⟩ (.bool ia)).setCell ⟨ba, 3, none⟩ (.string ja)).setCell ⟨ba, 4, none⟩ (.string ka)).setCell ⟨ba, 5, none⟩ (.int .i64 (wrap64 (Int.tmod ((r46_ l0 aa).f3) 60)))).setCell ⟨ba, 6, none⟩ (.int .i64 0)).setCell ⟨ba, 7, none⟩ (.bool ((Int.tmod ((r46_ l0 aa).f4) 8) == 7))) w.heap.size (fun k_ => k_ ≠ ba) u3 la) := ⟨by (with_reducible repeat (first | apply Kd.R_alloc | apply Kd.rN_ | apply Kd.rD_)); exact Kd.rM_ (Kd.rF_ (p := ⟨ba, 7, none⟩) (Kd.rF_ (p := ⟨ba, 6, none⟩) (Kd.rF_ (p := ⟨ba, 5, none⟩) (Kd.rF_ (p := ⟨ba, 4, none⟩) (Kd.rF_ (p := ⟨ba, 3, none⟩) (Kd.rF_ (p := ⟨ba, 2, none⟩) (Kd.rF_ (p := ⟨ba, 1, none⟩) (Kd.rF_ (p := ⟨ba, 0, none⟩) (Kd.rM_ ga.out (fun k_ hk => (⟨hk, hk⟩ : _ ∧ k_ ≠ ba))) (fun _ hk => hk.2) (.int .i64 (wrap64 (Int.tmod ((r46_ l0 aa).f0) 4)))) (fun _ hk => hk.2) (.int .i64 ha)) (fun _ hk => hk.2) (.bool ia)) (fun _ hk => hk.2) (.string ja)) (fun _ hk => hk.2) (.string ka)) (fun _ hk => hk.2) (.int .i64 (wrap64 (Int.tmod ((r46_ l0 aa).f3) 60)))) (fun _ hk => hk.2) (.int .i64 0)) (fun _ hk => hk.2) (.bool ((Int.tmod ((r46_ l0 aa).f4) 8) == 7))) (fun _ hk => hk.1)⟩
        have n1_ : A0_ (((((((((w21.setCell ⟨ba, 0, none⟩ (.int .i64 (wrap64 (Int.tmod ((r46_ l0 aa).f0) 4)))).setCell ⟨ba, 1, none⟩ (.int .i64 ha)).setCell ⟨ba, 2, none⟩ (.bool ia)).setCell ⟨ba, 3, none⟩ (.string ja)).setCell ⟨ba, 4, none⟩ (.string ka)).setCell ⟨ba, 5, none⟩ (.int .i64 (wrap64 (Int.tmod ((r46_ l0 aa).f3) 60)))).setCell ⟨ba, 6, none⟩ (.int .i64 0)).setCell ⟨ba, 7, none⟩ (.bool ((Int.tmod ((r46_ l0 aa).f4) 8) == 7))).heap[da]? = some (.cells #[.int .u16 ((r46_ l0 aa).f0), .int .u16 ((r46_ l0 aa).f1), .int .u16 ((r46_ l0 aa).f2), .int .u16 ((r46_ l0 aa).f3), .int .u16 ((r46_ l0 aa).f4)] 46 (0, 0))) := ⟨by (with_reducible repeat (first | apply kN_ | apply kD_ | apply kA_)); refine bf_ ?_ fa.out _; (with_reducible repeat (first | apply kN_ | apply kD_ | apply kA_)); refine bf_ ?_ fa.out _; (with_reducible repeat (first | apply kN_ | apply kD_ | apply kA_)); refine bf_ ?_ fa.out _; (with_reducible repeat (first | apply kN_ | apply kD_ | apply kA_)); refine bf_ ?_ fa.out _; (with_reducible repeat (first | apply kN_ | apply kD_ | apply kA_)); refine bf_ ?_ fa.out _; (with_reducible repeat (first | apply kN_ | apply kD_ | apply kA_)); refine bf_ ?_ fa.out _; (with_reducible repeat (first | apply kN_ | apply kD_ | apply kA_)); refine bf_ ?_ fa.out _; (with_reducible repeat (first | apply kN_ | apply kD_ | apply kA_)); refine bf_ ?_ fa.out _; (with_reducible repeat (first | apply kN_ | apply kD_ | apply kA_)); exact ca.out⟩
        have n2_ : A0_ (((((((((w21.setCell ⟨ba, 0, none⟩ (.int .i64 (wrap64 (Int.tmod ((r46_ l0 aa).f0) 4)))).setCell ⟨ba, 1, none⟩ (.int .i64 ha)).setCell ⟨ba, 2, none⟩ (.bool ia)).setCell ⟨ba, 3, none⟩ (.string ja)).setCell ⟨ba, 4, none⟩ (.string ka)).setCell ⟨ba, 5, none⟩ (.int .i64 (wrap64 (Int.tmod ((r46_ l0 aa).f3) 60)))).setCell ⟨ba, 6, none⟩ (.int .i64 0)).setCell ⟨ba, 7, none⟩ (.bool ((Int.tmod ((r46_ l0 aa).f4) 8) == 7))).heap[ba]? = some (.cells #[.int .i64 (wrap64 (Int.tmod ((r46_ l0 aa).f0) 4)), .int .i64 ha, .bool ia, .string ja, .string ka, .int .i64 (wrap64 (Int.tmod ((r46_ l0 aa).f3) 60)), .int .i64 0, .bool ((Int.tmod ((r46_ l0 aa).f4) 8) == 7)] 28 (0, 0))) := ⟨by (with_reducible repeat (first | apply kN_ | apply kD_ | apply kA_)); refine kP_ (cs := #[.int .i64 (wrap64 (Int.tmod ((r46_ l0 aa).f0) 4)), .int .i64 ha, .bool ia, .string ja, .string ka, .int .i64 (wrap64 (Int.tmod ((r46_ l0 aa).f3) 60)), .int .i64 0, .bool false]) ?_ 7 _ rfl; (with_reducible repeat (first | apply kN_ | apply kD_ | apply kA_)); refine kP_ (cs := #[.int .i64 (wrap64 (Int.tmod ((r46_ l0 aa).f0) 4)), .int .i64 ha, .bool ia, .string ja, .string ka, .int .i64 (wrap64 (Int.tmod ((r46_ l0 aa).f3) 60)), .int .i64 0, .bool false]) ?_ 6 _ rfl; (with_reducible repeat (first | apply kN_ | apply kD_ | apply kA_)); refine kP_ (cs := #[.int .i64 (wrap64 (Int.tmod ((r46_ l0 aa).f0) 4)), .int .i64 ha, .bool ia, .string ja, .string ka, .int .i64 0, .int .i64 0, .bool false]) ?_ 5 _ rfl; (with_reducible repeat (first | apply kN_ | apply kD_ | apply kA_)); refine kP_ (cs := #[.int .i64 (wrap64 (Int.tmod ((r46_ l0 aa).f0) 4)), .int .i64 ha, .bool ia, .string ja, .string (⟨#[]⟩ : ByteArray), .int .i64 0, .int .i64 0, .bool false]) ?_ 4 _ rfl; (with_reducible repeat (first | apply kN_ | apply kD_ | apply kA_)); refine kP_ (cs := #[.int .i64 (wrap64 (Int.tmod ((r46_ l0 aa).f0) 4)), .int .i64 ha, .bool ia, .string (⟨#[]⟩ : ByteArray), .string (⟨#[]⟩ : ByteArray), .int .i64 0, .int .i64 0, .bool false]) ?_ 3 _ rfl; (with_reducible repeat (first | apply kN_ | apply kD_ | apply kA_)); refine kP_ (cs := #[.int .i64 (wrap64 (Int.tmod ((r46_ l0 aa).f0) 4)), .int .i64 ha, .bool false, .string (⟨#[]⟩ : ByteArray), .string (⟨#[]⟩ : ByteArray), .int .i64 0, .int .i64 0, .bool false]) ?_ 2 _ rfl; (with_reducible repeat (first | apply kN_ | apply kD_ | apply kA_)); refine kP_ (cs := #[.int .i64 (wrap64 (Int.tmod ((r46_ l0 aa).f0) 4)), .int .i64 0, .bool false, .string (⟨#[]⟩ : ByteArray), .string (⟨#[]⟩ : ByteArray), .int .i64 0, .int .i64 0, .bool false]) ?_ 1 _ rfl; (with_reducible repeat (first | apply kN_ | apply kD_ | apply kA_)); refine kP_ (cs := #[.int .i64 0, .int .i64 0, .bool false, .string (⟨#[]⟩ : ByteArray), .string (⟨#[]⟩ : ByteArray), .int .i64 0, .int .i64 0, .bool false]) ?_ 0 _ rfl; (with_reducible repeat (first | apply kN_ | apply kD_ | apply kA_)); exact ea.out⟩
        have n3_ : A0_ (Below w.heap.size w ((((((((w21.setCell ⟨ba, 0, none⟩ (.int .i64 (wrap64 (Int.tmod ((r46_ l0 aa).f0) 4)))).setCell ⟨ba, 1, none⟩ (.int .i64 ha)).setCell ⟨ba, 2, none⟩ (.bool ia)).setCell ⟨ba, 3, none⟩ (.string ja)).setCell ⟨ba, 4, none⟩ (.string ka)).setCell ⟨ba, 5, none⟩ (.int .i64 (wrap64 (Int.tmod ((r46_ l0 aa).f3) 60)))).setCell ⟨ba, 6, none⟩ (.int .i64 0)).setCell ⟨ba, 7, none⟩ (.bool ((Int.tmod ((r46_ l0 aa).f4) 8) == 7)))) := ⟨xB2_ HB na qa⟩
        (try clear ga)
        (try clear ca)
        (try clear ea)
        (try clear HB)
        generalize ((((((((w21.setCell ⟨ba, 0, none⟩ (.int .i64 (wrap64 (Int.tmod ((r46_ l0 aa).f0) 4)))).setCell ⟨ba, 1, none⟩ (.int .i64 ha)).setCell ⟨ba, 2, none⟩ (.bool ia)).setCell ⟨ba, 3, none⟩ (.string ja)).setCell ⟨ba, 4, none⟩ (.string ka)).setCell ⟨ba, 5, none⟩ (.int .i64 (wrap64 (Int.tmod ((r46_ l0 aa).f3) 60)))).setCell ⟨ba, 6, none⟩ (.int .i64 0)).setCell ⟨ba, 7, none⟩ (.bool ((Int.tmod ((r46_ l0 aa).f4) 8) == 7))) = w30 at n0_ n1_ n2_ n3_ ⊢
        have ga := n0_
        have ca := n1_
        have ea := n2_
        have HB := n3_
        clear n0_ n1_ n2_ n3_
        have n0_ := A0_.mk (Kd.rD_ ga.out)
        have n1_ := A0_.mk (kD_ ca.out)
        have n2_ := A0_.mk (kD_ ea.out)
        have n3_ := A0_.mk (b1_ HB.out)
        clear ga
        clear ca
        clear ea
        clear HB
        have ga := n0_
        have ca := n1_
        have ea := n2_
        have HB := n3_
        clear n0_ n1_ n2_ n3_
        refine start_ (n := 16) (S := fun w' => w'.cell? ⟨ba, 0, none⟩ = some (.int .i64 (wrap64 (Int.tmod ((r46_ l0 aa).f0) 4))) ∧ w'.cell? ⟨ba, 1, none⟩ = some (.int .i64 ha) ∧ w'.cell? ⟨ba, 2, none⟩ = some (.bool ia) ∧ w'.cell? ⟨ba, 3, none⟩ = some (.string ja) ∧ w'.cell? ⟨ba, 4, none⟩ = some (.string ka) ∧ w'.cell? ⟨ba, 5, none⟩ = some (.int .i64 (wrap64 (Int.tmod ((r46_ l0 aa).f3) 60))) ∧ w'.cell? ⟨ba, 6, none⟩ = some (.int .i64 0) ∧ w'.cell? ⟨ba, 7, none⟩ = some (.bool ((Int.tmod ((r46_ l0 aa).f4) 8) == 7)) ∧ w'.cell? ⟨da, 0, none⟩ = some (.int .u16 ((r46_ l0 aa).f0)) ∧ w'.cell? ⟨da, 1, none⟩ = some (.int .u16 ((r46_ l0 aa).f1)) ∧ w'.cell? ⟨da, 2, none⟩ = some (.int .u16 ((r46_ l0 aa).f2)) ∧ w'.cell? ⟨da, 3, none⟩ = some (.int .u16 ((r46_ l0 aa).f3)) ∧ w'.cell? ⟨da, 4, none⟩ = some (.int .u16 ((r46_ l0 aa).f4))) (ds := [15]) #[false, false, false, false, false, false, false, false, false, false, false, false, false, false, false, false] kr_ rfl rfl ⟨(kc_ ea.out 0).trans rfl, (kc_ ea.out 1).trans rfl, (kc_ ea.out 2).trans rfl, (kc_ ea.out 3).trans rfl, (kc_ ea.out 4).trans rfl, (kc_ ea.out 5).trans rfl, (kc_ ea.out 6).trans rfl, (kc_ ea.out 7).trans rfl, (kc_ ca.out 0).trans rfl, (kc_ ca.out 1).trans rfl, (kc_ ca.out 2).trans rfl, (kc_ ca.out 3).trans rfl, (kc_ ca.out 4).trans rfl⟩ (fun hHeld => ?_); refine with_tabW l0_Obligations.tab10 l0_Obligations.bits10 (fun HT_ HW_ => ?_)
        generalize w30.drew = w31 at ga ca ea HB hHeld ⊢
        refine pu_ (i := 0) (N := some 50) (v := ?_) (a' := ?_) #[true, false, false, false, false, false, false, false, false, false, false, false, false, false, false, false] rfl rfl (an_ HT_.out kr_) (fun _ _ _ h => h) (Or.inl ⟨by rfl, ?_⟩) ?_ ?_
        rotate_left
        ·intro w'
         go_simp
         with_reducible rfl
        rotate_left
        ·simp only [Act.put, s1_, s2_, s3_, i6_, i3_]
         rfl
        refine pu_ (i := 2) (N := some 52) (v := ?_) (a' := ?_) #[true, false, true, false, false, false, false, false, false, false, false, false, false, false, false, false] rfl rfl (an_ HT_.out kr_) (fun _ _ _ h => h) (Or.inl ⟨by rfl, ?_⟩) ?_ ?_
        rotate_left
        ·intro w'
         go_simp
         with_reducible rfl
        rotate_left
        ·simp only [Act.put, s1_, s2_, s3_, i6_, i3_]
         rfl
        refine pu_ (i := 8) (N := some 58) (v := ?_) (a' := ?_) #[true, false, true, false, false, false, false, false, true, false, false, false, false, false, false, false] rfl rfl (an_ HT_.out kr_) (fun _ _ _ h => h) (Or.inl ⟨by rfl, ?_⟩) ?_ ?_
        rotate_left
        ·intro w'
         go_simp
         with_reducible rfl
        rotate_left
        ·simp only [Act.put, s1_, s2_, s3_, i6_, i3_]
         rfl
        refine take_ (i := 1) (N := some 51) (v := ?_) (a' := ?_) #[true, true, true, false, false, false, false, false, true, false, false, false, false, false, false, false] rfl rfl (tW_ HT_.out HW_.out kr_) (fun _ _ _ h => h) (Or.inl ⟨by rfl, ?_⟩) hHeld ?_ ?_
        rotate_left
        ·rintro w' ⟨s0, s1, s2, s3, s4, s5, s6, s7, s8, s9, s10, s11, s12⟩
         go_simp
         with_reducible rfl
        rotate_left
        ·simp only [Act.put, s1_, s2_, s3_, i6_, i3_]
         rfl
        refine take_ (i := 3) (N := some 53) (v := ?_) (a' := ?_) #[true, true, true, true, false, false, false, false, true, false, false, false, false, false, false, false] rfl rfl (tW_ HT_.out HW_.out kr_) (fun _ _ _ h => h) (Or.inl ⟨by rfl, ?_⟩) hHeld ?_ ?_
        rotate_left
        ·rintro w' ⟨s0, s1, s2, s3, s4, s5, s6, s7, s8, s9, s10, s11, s12⟩
         go_simp
         with_reducible rfl
        rotate_left
        ·simp only [Act.put, s1_, s2_, s3_, i6_, i3_]
         rfl
        refine pu_ (i := 4) (N := some 54) (v := ?_) (a' := ?_) #[true, true, true, true, true, false, false, false, true, false, false, false, false, false, false, false] rfl rfl (an_ HT_.out kr_) (fun _ _ _ h => h) (Or.inl ⟨by rfl, ?_⟩) ?_ ?_
        rotate_left
        ·intro w'
         go_simp
         with_reducible rfl
        rotate_left
        ·simp only [Act.put, s1_, s2_, s3_, i6_, i3_]
         rfl
        refine pu_ (i := 5) (N := some 55) (v := ?_) (a' := ?_) #[true, true, true, true, true, true, false, false, true, false, false, false, false, false, false, false] rfl rfl (an_ HT_.out kr_) (fun _ _ _ h => h) (Or.inl ⟨by rfl, ?_⟩) ?_ ?_
        rotate_left
        ·intro w'
         go_simp
         with_reducible rfl
        rotate_left
        ·simp only [Act.put, s1_, s2_, s3_, i6_, i3_]
         rfl
        refine pu_ (i := 6) (N := some 56) (v := ?_) (a' := ?_) #[true, true, true, true, true, true, true, false, true, false, false, false, false, false, false, false] rfl rfl (an_ HT_.out kr_) (fun _ _ _ h => h) (Or.inl ⟨by rfl, ?_⟩) ?_ ?_
        rotate_left
        ·intro w'
         go_simp
         with_reducible rfl
        rotate_left
        ·simp only [Act.put, s1_, s2_, s3_, i6_, i3_]
         rfl
        refine take_ (i := 9) (N := some 59) (v := ?_) (a' := ?_) #[true, true, true, true, true, true, true, false, true, true, false, false, false, false, false, false] rfl rfl (tW_ HT_.out HW_.out kr_) (fun _ _ _ h => h) (Or.inl ⟨by rfl, ?_⟩) hHeld ?_ ?_
        rotate_left
        ·rintro w' ⟨s0, s1, s2, s3, s4, s5, s6, s7, s8, s9, s10, s11, s12⟩
         go_simp
         with_reducible rfl
        rotate_left
        ·simp only [Act.put, s1_, s2_, s3_, i6_, i3_]
         rfl
        refine pu_ (i := 10) (N := some 60) (v := ?_) (a' := ?_) #[true, true, true, true, true, true, true, false, true, true, true, false, false, false, false, false] rfl rfl (an_ HT_.out kr_) (fun _ _ _ h => h) (Or.inl ⟨by rfl, ?_⟩) ?_ ?_
        rotate_left
        ·intro w'
         go_simp
         with_reducible rfl
        rotate_left
        ·simp only [Act.put, s1_, s2_, s3_, i6_, i3_]
         rfl
        refine one_ (i := 7) (N := some 57) #[true, true, true, true, true, true, true, true, true, true, true, false, false, false, false, false] rfl rfl (one_of HT_.out kr_) (by decide) (fun K hK => ?_)
        refine Kd.R_lit_step (Kd.int .i64) _ 3 ?hg (N := 57) ?hd (xs := ([0, 0, 0, wrap64 (Int.tmod (IntKind.u16.wrap (Int.tdiv ((r46_ l0 aa).f4) 8)) 50)] : List Int)) (inner := [.int .i64 0, .int .i64 0, .int .i64 0, .int .i64 (wrap64 (Int.tmod (IntKind.u16.wrap (Int.tdiv ((r46_ l0 aa).f4) 8)) 50))]) (ok := fun _ => True) (okp := fun _ => True) ?hr ?hp (fun _ hk => hk) trivial (Below.refl _ _) (Nat.le_refl _) (by simp) ?_; (case hd => rfl); (case hg => rfl); (case hr => first | (go_simp; done) | (go_simp; rfl)); (case hp => exact (Reps.one (show Kd.M (Kd.int .i64) _ _ _ 0 [.int .i64 0] from rfl) (Reps.one (show Kd.M (Kd.int .i64) _ _ _ 0 [.int .i64 0] from rfl) (Reps.one (show Kd.M (Kd.int .i64) _ _ _ 0 [.int .i64 0] from rfl) (Reps.one (show Kd.M (Kd.int .i64) _ _ _ (wrap64 (Int.tmod (IntKind.u16.wrap (Int.tdiv ((r46_ l0 aa).f4) 8)) 50)) [.int .i64 (wrap64 (Int.tmod (IntKind.u16.wrap (Int.tdiv ((r46_ l0 aa).f4) 8)) 50))] from rfl) (Reps.none _ _))))))
        intro wb w32 wa hb hg_ hnew_
        clear hg_ hnew_
        (first | rw [← Ha.out] at wa | (simp only [Int.reduceToNat] at wa; rw [← Ha.out] at wa))
        have n0_ := A0_.mk (Kd.rB_ (xR_ ga.out) hb)
        have n1_ := A0_.mk (Kd.rL_ wa (bZ_ (xB2_ HB na qa)))
        have n2_ := A0_.mk (kB_ (g := da) (o := .cells #[.int .u16 ((r46_ l0 aa).f0), .int .u16 ((r46_ l0 aa).f1), .int .u16 ((r46_ l0 aa).f2), .int .u16 ((r46_ l0 aa).f3), .int .u16 ((r46_ l0 aa).f4)] 46 (0, 0)) (xK_ ca.out) hb)
        have n3_ := A0_.mk (kB_ (g := ba) (o := .cells #[.int .i64 (wrap64 (Int.tmod ((r46_ l0 aa).f0) 4)), .int .i64 ha, .bool ia, .string ja, .string ka, .int .i64 (wrap64 (Int.tmod ((r46_ l0 aa).f3) 60)), .int .i64 0, .bool ((Int.tmod ((r46_ l0 aa).f4) 8) == 7)] 28 (0, 0)) (xK_ ea.out) hb)
        have n4_ := A0_.mk (bT_ (xB2_ HB na qa) hb)
        clear ga
        clear ca
        clear ea
        clear HB
        have ga := n0_
        have ta := n1_
        have ca := n2_
        have ea := n3_
        have HB := n4_
        clear n0_ n1_ n2_ n3_ n4_
        clear hb wa
        obtain ⟨xb, yb, ab⟩ := Kd.rS_' ta.out
        subst ab
        obtain ⟨ado34, fo34, _⟩ := Kd.at_int (Kd.rr_' ta.out).2.2 0 (by decide) (by rw [Ha.out]; simp)
        cases fo34
        refine hK.out _ _ ⟨(kc_ ea.out 0).trans rfl, (kc_ ea.out 1).trans rfl, (kc_ ea.out 2).trans rfl, (kc_ ea.out 3).trans rfl, (kc_ ea.out 4).trans rfl, (kc_ ea.out 5).trans rfl, (kc_ ea.out 6).trans rfl, (kc_ ea.out 7).trans rfl, (kc_ ca.out 0).trans rfl, (kc_ ca.out 1).trans rfl, (kc_ ca.out 2).trans rfl, (kc_ ca.out 3).trans rfl, (kc_ ca.out 4).trans rfl⟩ (fun hHeld => ?_)
        clear hK K
        refine norm_ (a' := ?_) ?_ ?_
        rotate_left
        ·show Act.put _ (some 57) _ = _
         simp only [Act.put, s1_, s2_, s3_, i6_, i3_]
         rfl
        refine pu_ (i := 11) (N := some 61) (v := ?_) (a' := ?_) #[true, true, true, true, true, true, true, true, true, true, true, true, false, false, false, false] rfl rfl (an_ HT_.out kr_) (fun _ _ _ h => h) (Or.inl ⟨by rfl, ?_⟩) ?_ ?_
        rotate_left
        ·intro w'
         go_simp
         with_reducible rfl
        rotate_left
        ·simp only [Act.put, s1_, s2_, s3_, i6_, i3_]
         rfl
        refine one_ (i := 12) (N := some 62) #[true, true, true, true, true, true, true, true, true, true, true, true, true, false, false, false] rfl rfl (one_of HT_.out kr_) (by decide) (fun K hK => ?_)
        (have bb : 0 ≤ ((ma) : Int) := oD_; have cb : (ma) < (oa.length : Int) := oD_; obtain ⟨db, eb, fb⟩ := Kd.at_int (Kd.rr_' ta.out).2.2 (ma) bb cb; obtain rfl : ado34 = db := (by injection eb))
        refine value_ (w1 := ?_) (v := ?_) (by rfl) rfl ?_ ?_
        rotate_left 2
        ·go_simp
         constructor
         ·rfl
         ·rfl
        clear fb
        refine hK.out _ _ ⟨(kc_ ea.out 0).trans rfl, (kc_ ea.out 1).trans rfl, (kc_ ea.out 2).trans rfl, (kc_ ea.out 3).trans rfl, (kc_ ea.out 4).trans rfl, (kc_ ea.out 5).trans rfl, (kc_ ea.out 6).trans rfl, (kc_ ea.out 7).trans rfl, (kc_ ca.out 0).trans rfl, (kc_ ca.out 1).trans rfl, (kc_ ca.out 2).trans rfl, (kc_ ca.out 3).trans rfl, (kc_ ca.out 4).trans rfl⟩ (fun hHeld => ?_)
        clear hK K
        refine norm_ (a' := ?_) ?_ ?_
        rotate_left
        ·show Act.put _ (some 62) _ = _
         simp only [Act.put, s1_, s2_, s3_, i6_, i3_]
         rfl
        refine pu_ (i := 13) (N := some 63) (v := ?_) (a' := ?_) #[true, true, true, true, true, true, true, true, true, true, true, true, true, true, false, false] rfl rfl (an_ HT_.out kr_) (fun _ _ _ h => h) (Or.inl ⟨by rfl, ?_⟩) ?_ ?_
        rotate_left
        ·intro w'
         go_simp
         with_reducible rfl
        rotate_left
        ·simp only [Act.put, s1_, s2_, s3_, i6_, i3_]
         rfl
        refine pu_ (i := 14) (N := some 64) (v := ?_) (a' := ?_) #[true, true, true, true, true, true, true, true, true, true, true, true, true, true, true, false] rfl rfl (an_ HT_.out kr_) (fun _ _ _ h => h) (Or.inl ⟨by rfl, ?_⟩) ?_ ?_
        rotate_left
        ·intro w'
         go_simp
         with_reducible rfl
        rotate_left
        ·simp only [Act.put, s1_, s2_, s3_, i6_, i3_]
         rfl
        refine last_ (i := 15) (N := none) #[true, true, true, true, true, true, true, true, true, true, true, true, true, true, true, true] rfl rfl (one_of HT_.out kr_) (by decide) (fun K hK => ?_)
        have zb : w32.cell? ⟨ba, 6, none⟩ = some (.int .i64 0) := (kc_ ea.out 6).trans rfl
        have hfs35 := kF_ ea.out 6
        have hns35_0 := fa.out
        have hms35_0 := pa.out
        refine skip_ (w1 := ?_) (by rfl) rfl ?_ ?_
        rotate_left
        ·go_simp
         rfl
        refine hK.out _ _ ?_
        clear hK K
        refine done_ (done_of HT_.out kr_) ?_
        have hnb36 := pa.out
        have hnc36 := fa.out
        have Ab : w32.cell? ⟨ba, 0, none⟩ = some (.int .i64 (wrap64 (Int.tmod ((r46_ l0 aa).f0) 4))) := (kc_ ea.out 0).trans rfl
        have Bb : w32.cell? ⟨ba, 1, none⟩ = some (.int .i64 ha) := (kc_ ea.out 1).trans rfl
        have Cb : w32.cell? ⟨ba, 2, none⟩ = some (.bool ia) := (kc_ ea.out 2).trans rfl
        have Db : w32.cell? ⟨ba, 3, none⟩ = some (.string ja) := (kc_ ea.out 3).trans rfl
        have Eb : w32.cell? ⟨ba, 4, none⟩ = some (.string ka) := (kc_ ea.out 4).trans rfl
        have Fb : w32.cell? ⟨ba, 5, none⟩ = some (.int .i64 (wrap64 (Int.tmod ((r46_ l0 aa).f3) 60))) := (kc_ ea.out 5).trans rfl
        have Gb : w32.cell? ⟨ba, 6, none⟩ = some (.int .i64 0) := (kc_ ea.out 6).trans rfl
        have Hb : w32.cell? ⟨ba, 7, none⟩ = some (.bool ((Int.tmod ((r46_ l0 aa).f4) 8) == 7)) := (kc_ ea.out 7).trans rfl
        have Ib := kF_ ea.out 0
        have Jb := kF_ ea.out 1
        have Kb := kF_ ea.out 2
        have Lb := kF_ ea.out 3
        have Mb := kF_ ea.out 4
        have Nb := kF_ ea.out 5
        have Ob := kF_ ea.out 6
        have Pb := kF_ ea.out 7
        try go_wp2_with (first | ((with_reducible refine gate_builtin (b := .append) (xs := #[.tmp 65, .tmp 67]) rfl ?_); at_builtin; refine Kd.R_append k28 (w0 := w) w.heap.size rfl (.tmp 65) (.tmp 67) 22 28 (.agg #[(.int .i64 0), (.int .i64 0), (.bool false), (.string ⟨#[]⟩), (.string ⟨#[]⟩), (.int .i64 0), (.int .i64 0), (.bool false)]) 80 rfl Tryd.underlying22 info28 rfl (by decide) (by omega) u3 la (⟨(wrap64 (Int.tmod ((r46_ l0 aa).f0) 4)), ha, (⟨ia, ja, ka⟩ : S26), wrap64 (Int.tmod ((r46_ l0 aa).f3) 60), wrap64 ((wrap64 (Int.tmod ((r46_ l0 aa).f3) 60)) + (rd oa (ma))), ((Int.tmod ((r46_ l0 aa).f4) 8) == 7)⟩ : S28) [.int .i64 (wrap64 (Int.tmod ((r46_ l0 aa).f0) 4)), .int .i64 ha, .bool ia, .string ja, .string ka, .int .i64 (wrap64 (Int.tmod ((r46_ l0 aa).f3) 60)), .int .i64 (wrap64 ((wrap64 (Int.tmod ((r46_ l0 aa).f3) 60)) + (rd oa (ma)))), .bool ((Int.tmod ((r46_ l0 aa).f4) 8) == 7)] (fun k_ => k_ ≠ ba) (fun _ => False) rfl (by first | (go_simp; done) | (go_simp; rfl)) ?aP (fun _ hk => hk.elim) ?aF ?aO ?aB ?aS ?aL ?_; (case aP => exact k28_mkM _ _ _ (⟨(wrap64 (Int.tmod ((r46_ l0 aa).f0) 4)), ha, (⟨ia, ja, ka⟩ : S26), wrap64 (Int.tmod ((r46_ l0 aa).f3) 60), wrap64 ((wrap64 (Int.tmod ((r46_ l0 aa).f3) 60)) + (rd oa (ma))), ((Int.tmod ((r46_ l0 aa).f4) 8) == 7)⟩ : S28)); (case aB => exact (xB2_ HB na qa)); (case aF => exact (fun k_ hk => Kd.freshB (g := ba) (o := .cells #[.int .i64 (wrap64 (Int.tmod ((r46_ l0 aa).f0) 4)), .int .i64 ha, .bool ia, .string ja, .string ka, .int .i64 (wrap64 (Int.tmod ((r46_ l0 aa).f3) 60)), .int .i64 (wrap64 ((wrap64 (Int.tmod ((r46_ l0 aa).f3) 60)) + (rd oa (ma)))), .bool ((Int.tmod ((r46_ l0 aa).f4) 8) == 7)] 28 (0, 0)) (by (with_reducible repeat (first | apply kN_ | apply kD_ | apply kA_)); refine kP_ (cs := #[.int .i64 (wrap64 (Int.tmod ((r46_ l0 aa).f0) 4)), .int .i64 ha, .bool ia, .string ja, .string ka, .int .i64 (wrap64 (Int.tmod ((r46_ l0 aa).f3) 60)), .int .i64 0, .bool ((Int.tmod ((r46_ l0 aa).f4) 8) == 7)]) ?_ 6 _ rfl; (with_reducible repeat (first | apply kN_ | apply kD_ | apply kA_)); exact ea.out) k_ hk)); (case aO => exact (by (with_reducible repeat (first | apply Kd.R_alloc | apply Kd.rN_ | apply Kd.rD_)); exact Kd.rM_ (Kd.rF_ (p := ⟨ba, 6, none⟩) (Kd.rM_ ga.out (fun k_ hk => (⟨hk, hk⟩ : _ ∧ k_ ≠ ba))) (fun _ hk => hk.2) (.int .i64 (wrap64 ((wrap64 (Int.tmod ((r46_ l0 aa).f3) 60)) + (rd oa (ma)))))) (fun _ hk => hk.1))); (case aS => exact (bZ_ (xB2_ HB na qa))); (case aL => have := Ya.out; omega); intro Qb w38 ho hb hg hat; rw [← Za.out] at ho; have n0_ := A0_.mk (blk_grown (g := da) (o := .cells #[.int .u16 ((r46_ l0 aa).f0), .int .u16 ((r46_ l0 aa).f1), .int .u16 ((r46_ l0 aa).f2), .int .u16 ((r46_ l0 aa).f3), .int .u16 ((r46_ l0 aa).f4)] 46 (0, 0)) (by (with_reducible repeat (first | apply kN_ | apply kD_ | apply kA_)); refine bf_ ?_ fa.out _; (with_reducible repeat (first | apply kN_ | apply kD_ | apply kA_)); exact ca.out) hg (Kd.R_ne ga.out ca.out (by decide))); have n1_ := A0_.mk (blk_grown (g := ba) (o := .cells #[.int .i64 (wrap64 (Int.tmod ((r46_ l0 aa).f0) 4)), .int .i64 ha, .bool ia, .string ja, .string ka, .int .i64 (wrap64 (Int.tmod ((r46_ l0 aa).f3) 60)), .int .i64 (wrap64 ((wrap64 (Int.tmod ((r46_ l0 aa).f3) 60)) + (rd oa (ma)))), .bool ((Int.tmod ((r46_ l0 aa).f4) 8) == 7)] 28 (0, 0)) (by (with_reducible repeat (first | apply kN_ | apply kD_ | apply kA_)); refine kP_ (cs := #[.int .i64 (wrap64 (Int.tmod ((r46_ l0 aa).f0) 4)), .int .i64 ha, .bool ia, .string ja, .string ka, .int .i64 (wrap64 (Int.tmod ((r46_ l0 aa).f3) 60)), .int .i64 0, .bool ((Int.tmod ((r46_ l0 aa).f4) 8) == 7)]) ?_ 6 _ rfl; (with_reducible repeat (first | apply kN_ | apply kD_ | apply kA_)); exact ea.out) hg (Kd.R_away ga.out (fun _ hk => hk))); have n2_ := A0_.mk (Kd.R_over' (by (with_reducible repeat (first | apply Kd.R_alloc | apply Kd.rN_ | apply Kd.rD_)); exact (Kd.rM_ (Kd.rF_ (p := ⟨ba, 6, none⟩) (Kd.R_types ta.out ea.out (by decide)) (fun _ hk => hk.2) (.int .i64 (wrap64 ((wrap64 (Int.tmod ((r46_ l0 aa).f3) 60)) + (rd oa (ma)))))) (fun _ h_ => h_.1))) (Kd.R_typed (by (with_reducible repeat (first | apply Kd.R_alloc | apply Kd.rN_ | apply Kd.rD_)); exact (Kd.rM_ (Kd.rF_ (p := ⟨ba, 6, none⟩) (Kd.rM_ ga.out (fun k_ hk => (⟨hk, hk⟩ : _ ∧ k_ ≠ ba))) (fun _ hk => hk.2) (.int .i64 (wrap64 ((wrap64 (Int.tmod ((r46_ l0 aa).f3) 60)) + (rd oa (ma)))))) (fun _ h_ => h_.1)))) (by decide) hg); have n3_ := A0_.mk (hb); have n4_ := A0_.mk (ho); clear ca ea ta HB ga; have ca := n0_; have ea := n1_; have ta := n2_; have HB := n3_; have gb := n4_; clear n0_ n1_ n2_ n3_ n4_; clear ho hb hg hat))
        (try simp only [ap_])
        go_roundg kj6
        case measure => have := HK1.out; have := HJ1.out; have := HJ6.out; omega
        case rel => exact ⟨(Ka), (wrap64 (aa + 1)), (rS_), H', ⟨by have := HK1.out; have := HJ1.out; have := HJ6.out; omega⟩, ⟨by (with_reducible repeat (first | apply Kd.R_alloc | apply Kd.rN_ | apply Kd.rD_)); exact Kd.rM_ gb.out (fun _ hk => trivial)⟩, ⟨xB2_ HB na qa⟩⟩
     ·replace c4 := Bool.eq_false_iff.mpr c4
      subst c4
      have H1 : (some la) = some r := by rw [if_neg (show ¬ (false = true) by decide)] at H; exact H
      clear H
      have H := H1
      clear H1
      obtain rfl := Option.some.inj H
      go_wp2
      go_ret
      exact ⟨_, rE_, by (with_reducible repeat (first | apply Kd.R_alloc | apply Kd.rN_ | apply Kd.rD_)); exact ga.out, xB_ HB⟩
def st_trimLeftByte.l0 : Nat → ByteArray → Int → Option (ByteArray)
 | 0, _, _ => none
 | k + 1, x0, x1 => if (x0.size : Int) > 0 then (if 0 < (x0.size : Int) then (if (bt x0 0) = x1 then (if 1 ≤ (x0.size : Int) then (st_trimLeftByte.l0 k (x0.extract 1 x0.size) x1) else (none)) else (some x0)) else (none)) else (some x0)
def st_trimLeftByte.f (k : Nat) (a0 : ByteArray) (a1 : Int) : Option (ByteArray) := st_trimLeftByte.l0 k a0 a1
theorem st_trimLeftByte.mono_l : ∀ k, (∀ y0 y1, LeO (st_trimLeftByte.l0 k y0 y1) (st_trimLeftByte.l0 (k + 1) y0 y1))
 | 0 => fun _ _ r h => by simp [st_trimLeftByte.l0] at h
 | k + 1 => by
  have ih0 := st_trimLeftByte.mono_l k
  ·intro y0 y1
   unfold st_trimLeftByte.l0
   repeat' first
   | (with_reducible first | exact ih0 _ _ | exact LeO.refl _ | exact LeO.none _ | refine LeO.ite ?_ ?_ | refine LeO.bind ?_ (fun _ => ?_))
theorem st_trimLeftByte.mono : ∀ a0 a1 k, LeO (st_trimLeftByte.f k a0 a1) (st_trimLeftByte.f (k + 1) a0 a1) := by
 intro a0 a1 k
 have ih0 := st_trimLeftByte.mono_l k
 unfold st_trimLeftByte.f
 repeat' first
   | (with_reducible first | exact ih0 _ _ | exact LeO.refl _ | exact LeO.none _ | refine LeO.ite ?_ ?_ | refine LeO.bind ?_ (fun _ => ?_))
theorem st_trimLeftByte.calls (k : Nat) (a0 : ByteArray) (a1 : Int) (r : ByteArray) (w : World) (h : st_trimLeftByte.f k a0 a1 = some r) :
  Calls Tryd.prog 96 #[.string a0, .int .u8 a1] w fun e w' => e = .returned (.string r) ∧ D0_ w w' := by
 have H : (st_trimLeftByte.l0 k a0 a1) = some r := h
 clear h
 have H' := A0_.mk H
 clear H
 go_enter Tryd.func96, Tryd.ntmps96
 go_wp2
 go_loopg [0] k (fun kq v0 w' => ∃ (aa : ByteArray), v0 = .string aa ∧ A0_ (st_trimLeftByte.l0 kq aa a1 = some r) ∧ A0_ (kq ≤ k) ∧ D0_ w w')
 case atStart => exact ⟨(a0), (rS_), H', ⟨Nat.le_refl _⟩, by repeat (first | exact D0_.refl _ | apply D0_.step)⟩
 case round =>
  clear H'
  try clear p2
  obtain ⟨aa, rfl, HA, HK1, ⟨m1, rfl⟩⟩ := hrel
  cases gk with
  | zero => exact absurd HA.out (by simp [st_trimLeftByte.l0])
  | succ k1 =>
   have H := HA.out
   clear HA
   simp only [st_trimLeftByte.l0] at H
   by_cases c3 : (aa.size : Int) > 0
   ·rw [if_pos c3] at H
    have ba : decide (0 < (aa.size : Int)) = true := decide_eq_true c3
    have ca : decide (0 < aa.size) = true := decide_eq_true (by omega)
    clear c3
    by_cases c4 : 0 < (aa.size : Int)
    rotate_left
    ·rw [if_neg c4] at H
     exact absurd H (by simp)
    rw [if_pos c4] at H
    have fa : decide (0 < (aa.size : Int)) = true := decide_eq_true c4
    have ga : decide (0 < aa.size) = true := decide_eq_true (by omega)
    clear c4
    by_cases c6 : (bt aa 0) = a1
    ·rw [if_pos c6] at H
     have da : ((bt aa 0) == a1) = true := beq_iff_eq.mpr c6
     have ea : ((bt aa 0) != a1) = false := bne_eq_false_iff_eq.mpr c6
     clear c6
     by_cases c7 : 1 ≤ (aa.size : Int)
     rotate_left
     ·rw [if_neg c7] at H
      exact absurd H (by simp)
     rw [if_pos c7] at H
     have ha := eq_true c7
     have ia : decide (1 ≤ (aa.size : Int)) = true := decide_eq_true c7
     clear c7
     have H' := A0_.mk H
     clear H
     have p5 : 0 ≤ (0 : Int) := (by omega)
     have q5 : 0 < aa.size := (by have : (0 : Int) < (aa.size : Int) := oD_; omega)
     have hx5 : ∀ h : 0 < aa.size, ((aa[0]'h).toNat : Int) = bt aa 0 := bt_at aa 0
     clear p5
     have qi5 : (0 < (aa.size : Int)) = True := eq_true (oD_)
     replace q5 := eq_true q5
     go_wp2
     (try simp only [ap_])
     go_roundg k1
     case measure => have := HK1.out; omega
     case rel => exact ⟨(aa.extract 1 aa.size), (rS_), H', ⟨by have := HK1.out; omega⟩, by repeat (first | exact D0_.refl _ | apply D0_.step)⟩
    ·rw [if_neg c6] at H
     have da : ((bt aa 0) == a1) = false := beq_eq_false_iff_ne.mpr c6
     have ea : ((bt aa 0) != a1) = true := bne_iff_ne.mpr c6
     obtain rfl := Option.some.inj H
     have p5 : 0 ≤ (0 : Int) := (by omega)
     have q5 : 0 < aa.size := (by have : (0 : Int) < (aa.size : Int) := oD_; omega)
     have hx5 : ∀ h : 0 < aa.size, ((aa[0]'h).toNat : Int) = bt aa 0 := bt_at aa 0
     clear p5
     have qi5 : (0 < (aa.size : Int)) = True := eq_true (oD_)
     replace q5 := eq_true q5
     go_wp2
     go_ret
     exact ⟨rS_, by repeat (first | exact D0_.refl _ | apply D0_.step)⟩
   ·rw [if_neg c3] at H
    have ba : decide (0 < (aa.size : Int)) = false := decide_eq_false c3
    have ca : decide (0 < aa.size) = false := decide_eq_false (by omega)
    clear c3
    obtain rfl := Option.some.inj H
    go_wp2
    go_ret
    exact ⟨rS_, by repeat (first | exact D0_.refl _ | apply D0_.step)⟩
def st_TrimLeft.f (k : Nat) (a0 : ByteArray) (a1 : ByteArray) : Option (ByteArray) := if a1.toList = [0] then (if a0.toList = [] then some a0 else st_trimLeftByte.f k a0 0) else none
theorem st_TrimLeft.mono : ∀ a0 a1 k, LeO (st_TrimLeft.f k a0 a1) (st_TrimLeft.f (k + 1) a0 a1) := by
 intro a0 a1 k
 unfold st_TrimLeft.f
 refine LeO.ite (LeO.ite (LeO.refl _) ?_) (LeO.none _)
 exact st_trimLeftByte.mono _ _ _
theorem st_TrimLeft.calls (k : Nat) (a0 : ByteArray) (a1 : ByteArray) (r : ByteArray) (w : World) (h : st_TrimLeft.f k a0 a1 = some r) :
  Calls Tryd.prog 77 #[.string a0, .string a1] w fun e w' => e = .returned (.string r) ∧ D0_ w w' := by
 unfold st_TrimLeft.f at h
 by_cases h1 : a1.toList = [0]
 ·rw [if_pos h1] at h
  obtain rfl : a1 = (⟨#[0]⟩ : ByteArray) := by
   obtain ⟨⟨l⟩⟩ := a1
   simpa using h1
  clear h1
  by_cases hs : a0.toList = []
  ·rw [if_pos hs] at h
   obtain rfl : a0 = r := by injection h
   have hs1 : a0.toList.isEmpty = true := by rw [hs]; rfl
   clear h
   go_enter Tryd.func77, Tryd.ntmps77
   go_wp2
   go_ret
   exact ⟨rfl, D0_.refl _⟩
  ·rw [if_neg hs] at h
   have H := A0_.mk h
   have hs1 : a0.toList.isEmpty = false := by cases h2 : a0.toList with | nil => exact absurd h2 hs | cons _ _ => rfl
   clear h
   go_enter Tryd.func77, Tryd.ntmps77
   go_wp2_with (go_at_call 96; refine (st_trimLeftByte.calls k a0 0 r _ H.out).mono ?_; rintro e w' ⟨rfl, ⟨nd, rfl⟩⟩)
   go_ret
   exact ⟨rfl, by repeat (first | exact D0_.refl _ | apply D0_.step)⟩
 ·rw [if_neg h1] at h
  cases h
def n_Normalize.f (k : Nat) (a0 : ByteArray) : Option (ByteArray) := (st_TrimLeft.f k a0 (⟨#[0]⟩ : ByteArray)).bind fun t110 => (some t110)
theorem n_Normalize.mono : ∀ a0 k, LeO (n_Normalize.f k a0) (n_Normalize.f (k + 1) a0) := by
 intro a0 k
 unfold n_Normalize.f
 repeat' first
   | (with_reducible first | exact st_TrimLeft.mono _ _ _ | exact LeO.refl _ | exact LeO.none _ | refine LeO.ite ?_ ?_ | refine LeO.bind ?_ (fun _ => ?_))
theorem n_Normalize.calls (k : Nat) (a0 : ByteArray) (r : ByteArray) (w : World) (h : n_Normalize.f k a0 = some r) :
  Calls Tryd.prog 61 #[.string a0] w fun e w' => e = .returned (.string r) ∧ D0_ w w' := by
 have H := h
 unfold n_Normalize.f at H
 clear h
 obtain ⟨aa, A2, H⟩ := oB_ H
 (try dsimp only at H)
 obtain rfl := Option.some.inj H
 go_enter Tryd.func61, Tryd.ntmps61
 go_wp2_with (first | ((with_reducible refine gC_ (f := 77) rfl ?_); refine gL_ (some 4) rfl rfl Tryd.func77 kr_ rfl #[.string a0, .string (⟨#[0]⟩ : ByteArray)] rfl mp_ ?_; (with_reducible refine (st_TrimLeft.calls k a0 (⟨#[0]⟩ : ByteArray) aa _ A2.out).mono ?_); rintro e w' ⟨rfl, ⟨nd, rfl⟩⟩; refine ⟨_, rfl, ?_⟩))
 go_ret
 exact ⟨rS_, by repeat (first | exact D0_.refl _ | apply D0_.step)⟩
def n_limbs_text.l0 : Nat → List Int → List Int → Int → Int → Option (ByteArray)
 | 0, _, _, _, _ => none
 | k + 1, x0, x3, x10, x11 => if x11 < x10 then (if 0 ≤ (wrap64 (Int.tdiv x11 4)) then (if (wrap64 (Int.tdiv x11 4)) < (x0.length : Int) then (if 0 ≤ (wrap64 (8 * (Int.tmod x11 4))) then (if 0 ≤ (wrap64 ((wrap64 ((x3.length : Int) - 1)) - x11)) then (if (wrap64 ((wrap64 ((x3.length : Int) - 1)) - x11)) < (x3.length : Int) then (n_limbs_text.l0 k x0 (x3.set ((wrap64 ((wrap64 ((x3.length : Int) - 1)) - x11)) : Int).toNat ((shr .u32 (rd x0 (wrap64 (Int.tdiv x11 4))) (wrap64 (8 * (Int.tmod x11 4)))) % 256)) x10 (wrap64 (x11 + 1))) else (none)) else (none)) else (none)) else (none)) else (none)) else ((n_Normalize.f k (strOfNums x3)).bind fun t131 => (some t131))
def n_limbs_text.f (k : Nat) (l0 : List Int) : Option (ByteArray) := if 0 ≤ (wrap64 ((l0.length : Int) * 4)) then (if (wrap64 ((l0.length : Int) * 4) : Int).toNat ≤ 281474976710656 then ((some (List.replicate (wrap64 ((l0.length : Int) * 4) : Int).toNat 0 : List Int)).bind fun y126 => (n_limbs_text.l0 k l0 y126 (y126.length : Int) 0)) else (none)) else (none)
theorem n_limbs_text.mono_l : ∀ k, (∀ y0 y1 y2 y3, LeO (n_limbs_text.l0 k y0 y1 y2 y3) (n_limbs_text.l0 (k + 1) y0 y1 y2 y3))
 | 0 => fun _ _ _ _ r h => by simp [n_limbs_text.l0] at h
 | k + 1 => by
  have ih0 := n_limbs_text.mono_l k
  ·intro y0 y1 y2 y3
   unfold n_limbs_text.l0
   repeat' first
   | (with_reducible first | exact ih0 _ _ _ _ | exact n_Normalize.mono _ _ | exact LeO.refl _ | exact LeO.none _ | refine LeO.ite ?_ ?_ | refine LeO.bind ?_ (fun _ => ?_))
theorem n_limbs_text.mono : ∀ a0 k, LeO (n_limbs_text.f k a0) (n_limbs_text.f (k + 1) a0) := by
 intro a0 k
 have ih0 := n_limbs_text.mono_l k
 unfold n_limbs_text.f
 repeat' first
   | (with_reducible first | exact ih0 _ _ _ _ | exact n_Normalize.mono _ _ | exact LeO.refl _ | exact LeO.none _ | refine LeO.ite ?_ ?_ | refine LeO.bind ?_ (fun _ => ?_))
theorem n_limbs_text.calls (k : Nat) (A0 : Option Addr) (c0 : Nat) (l0 : List Int) (r : ByteArray) (w : World) (hr0 : Kd.C (Kd.int .u32) w A0 l0.length l0) (hc0 : l0.length ≤ c0) (h : n_limbs_text.f k l0 = some r) :
  Calls Tryd.prog 65 #[.slice A0 l0.length c0] w fun e w' => e = .returned (.string r) ∧ Below w.heap.size w w' := by
 have HR0 := A0_.mk hr0
 have HC0 := A0_.mk hc0
 clear hr0 hc0
 have HB := A0_.mk (Below.refl w.heap.size w)
 have H := h
 unfold n_limbs_text.f at H
 clear h
 obtain ⟨ji2, ka⟩ : ∃ j_ : Int, (wrap64 ((l0.length : Int) * 4)) = j_ := ⟨_, rfl⟩
 replace H : (if 0 ≤ (ji2) then (if (ji2 : Int).toNat ≤ 281474976710656 then ((some (List.replicate (ji2 : Int).toNat 0 : List Int)).bind fun ca => (n_limbs_text.l0 k l0 ca (ca.length : Int) 0)) else (none)) else (none)) = some r := by first | (rw [ka] at H; exact H) | (simp only [ka] at H ⊢; exact H)
 have Ja : (IntKind.i64.wrap ((l0.length : Int) * 4)) = ji2 := (i6_ _).trans ka
 by_cases c3 : 0 ≤ (ji2)
 rotate_left
 ·rw [if_neg c3] at H
  exact absurd H (by simp)
 rw [if_pos c3] at H
 have Aa := eq_true c3
 have Ba : decide (0 ≤ (ji2)) = true := decide_eq_true c3
 clear c3
 by_cases c4 : (ji2 : Int).toNat ≤ 281474976710656
 rotate_left
 ·rw [if_neg c4] at H
  exact absurd H (by simp)
 rw [if_pos c4] at H
 have Ca := eq_true c4
 have Da : decide ((ji2 : Int).toNat ≤ 281474976710656) = true := decide_eq_true c4
 clear c4
 obtain ⟨ca, ia⟩ : ∃ y_ : List Int, y_ = (List.replicate (ji2 : Int).toNat 0) := ⟨_, rfl⟩
 replace H : (n_limbs_text.l0 k l0 ca (ca.length : Int) 0) = some r := by first | (rw [ia]; with_reducible exact H) | (have H2_ := (Option.bind_some _ _).symm.trans H; rw [ia]; with_reducible exact H2_) | (have H2_ := (Option.bind_some _ _).symm.trans H; with_reducible exact H2_) | with_reducible exact H | (rw [ia]; exact H) | exact H
 have va := A0_.mk ia
 clear ia
 have H' := A0_.mk H
 clear H
 go_enter Tryd.func65, Tryd.ntmps65
 go_wp2_with (first | ((with_reducible refine gD_ (N := 8) rfl ?_); refine Kd.R_make (Kd.int .u8) _ 5 rfl (N := 8) rfl 105 _ _ rfl ji2 rfl rfl Tryd.underlying105 (.int .u8 0) 1 info5 rfl (by decide) (by omega) 0 (ok := fun _ => True) (okp := fun _ => True) rfl (fun _ hk => hk) trivial (oD_) (Nat.le_trans (Nat.mul_le_mul_right _ (oD_ : ji2.toNat ≤ 281474976710656)) (by omega)) (Below.refl _ _) (Nat.le_refl _) ?_; intro Ka w5 ho6 hb hg_ hnew_; clear hg_ hnew_; (first | rw [← va.out] at ho6 | (simp only [Int.reduceToNat] at ho6; rw [← va.out] at ho6)); have n0_ := A0_.mk (Kd.rL_ ho6 (bZ_ (xB_ HB))); have n1_ := A0_.mk (bT_ (xB_ HB) hb); clear HB; have wa := n0_; have HB := n1_; clear n0_ n1_; clear hb ho6; obtain ⟨Ao7, co7, eo7⟩ := Kd.rS_' wa.out; subst eo7))
 go_loopg [11] k (fun kq v11 w' => ∃ (aa : List Int) (ba : Int), v11 = .int .i64 ba ∧ A0_ (n_limbs_text.l0 kq l0 aa (ca.length : Int) ba = some r) ∧ A0_ (kq ≤ k) ∧ A0_ (Kd.R (Kd.int .u8) 5 w' w.heap.size (fun _ => True) (.slice Ao7 ca.length co7) aa) ∧ A0_ (Below w.heap.size w w'))
 case atStart => exact ⟨(ca), (0), (rS_), H', ⟨Nat.le_refl _⟩, ⟨by (with_reducible repeat (first | apply Kd.R_alloc | apply Kd.rN_ | apply Kd.rD_)); exact wa.out⟩, ⟨xB_ HB⟩⟩
 case round =>
  clear H'
  try clear p2
  try clear c3
  try clear Aa
  try clear Ba
  try clear c4
  try clear Ca
  try clear Da
  try clear c6
  try clear p6
  obtain ⟨aa, ba, rfl, HA, HK1, ea, HB⟩ := hrel
  have ga := (Kd.rr_' ea.out).1
  rw [ga] at ea
  (try simp only [ga])
  cases gk with
  | zero => exact absurd HA.out (by simp [n_limbs_text.l0])
  | succ k1 =>
   have H := HA.out
   clear HA
   simp only [n_limbs_text.l0] at H
   by_cases c8 : ba < (ca.length : Int)
   ·rw [if_pos c8] at H
    have ma : decide (ba < (ca.length : Int)) = true := decide_eq_true c8
    (try (have c8h0 := ma; simp only [ga] at c8h0))
    clear c8
    obtain ⟨ji9, na⟩ : ∃ j_ : Int, (wrap64 (Int.tdiv ba 4)) = j_ := ⟨_, rfl⟩
    replace H : (if 0 ≤ (ji9) then (if (ji9) < (l0.length : Int) then (if 0 ≤ (wrap64 (8 * (Int.tmod ba 4))) then (if 0 ≤ (wrap64 ((wrap64 ((aa.length : Int) - 1)) - ba)) then (if (wrap64 ((wrap64 ((aa.length : Int) - 1)) - ba)) < (aa.length : Int) then (n_limbs_text.l0 k1 l0 (aa.set ((wrap64 ((wrap64 ((aa.length : Int) - 1)) - ba)) : Int).toNat ((shr .u32 (rd l0 (ji9)) (wrap64 (8 * (Int.tmod ba 4)))) % 256)) (ca.length : Int) (wrap64 (ba + 1))) else (none)) else (none)) else (none)) else (none)) else (none)) = some r := by first | (rw [na] at H; exact H) | (simp only [na] at H ⊢; exact H)
    have La : (IntKind.i64.wrap (Int.tdiv ba 4)) = ji9 := (i6_ _).trans na
    by_cases c10 : 0 ≤ (ji9)
    rotate_left
    ·rw [if_neg c10] at H
     exact absurd H (by simp)
    rw [if_pos c10] at H
    have Ma : decide (0 ≤ (ji9)) = true := decide_eq_true c10
    clear c10
    by_cases c11 : (ji9) < (l0.length : Int)
    rotate_left
    ·rw [if_neg c11] at H
     exact absurd H (by simp)
    rw [if_pos c11] at H
    have Ea : decide ((ji9) < (l0.length : Int)) = true := decide_eq_true c11
    (try (have c11h0 := Ea; simp only [ga] at c11h0))
    clear c11
    obtain ⟨fa, oa⟩ : ∃ j_ : Int, (wrap64 (8 * (Int.tmod ba 4))) = j_ := ⟨_, rfl⟩
    replace H : (if 0 ≤ (fa) then (if 0 ≤ (wrap64 ((wrap64 ((aa.length : Int) - 1)) - ba)) then (if (wrap64 ((wrap64 ((aa.length : Int) - 1)) - ba)) < (aa.length : Int) then (n_limbs_text.l0 k1 l0 (aa.set ((wrap64 ((wrap64 ((aa.length : Int) - 1)) - ba)) : Int).toNat ((shr .u32 (rd l0 (ji9)) (fa)) % 256)) (ca.length : Int) (wrap64 (ba + 1))) else (none)) else (none)) else (none)) = some r := by first | (rw [oa] at H; exact H) | (simp only [oa] at H ⊢; exact H)
    have Na : (IntKind.i64.wrap (8 * (Int.tmod ba 4))) = fa := (i6_ _).trans oa
    by_cases c13 : 0 ≤ (fa)
    rotate_left
    ·rw [if_neg c13] at H
     exact absurd H (by simp)
    rw [if_pos c13] at H
    have Oa := eq_true c13
    have Pa : decide (0 ≤ (fa)) = true := decide_eq_true c13
    clear c13
    obtain ⟨ha, la⟩ : ∃ j_ : Int, (shr .u32 (rd l0 (ji9)) (fa)) = j_ := ⟨_, rfl⟩
    replace H : (if 0 ≤ (wrap64 ((wrap64 ((aa.length : Int) - 1)) - ba)) then (if (wrap64 ((wrap64 ((aa.length : Int) - 1)) - ba)) < (aa.length : Int) then (n_limbs_text.l0 k1 l0 (aa.set ((wrap64 ((wrap64 ((aa.length : Int) - 1)) - ba)) : Int).toNat ((ha) % 256)) (ca.length : Int) (wrap64 (ba + 1))) else (none)) else (none)) = some r := by first | (rw [la] at H; exact H) | (simp only [la] at H ⊢; exact H)
    have Qa : ((rd l0 (ji9)) / 2 ^ min (fa).toNat 32) = ha := la
    have hji14z : (fa) ≤ 32 → ((rd l0 (ji9)) / 2 ^ (fa).toNat) = ha := shr_small la
    obtain ⟨da, pa⟩ : ∃ j_ : Int, (wrap64 ((wrap64 ((aa.length : Int) - 1)) - ba)) = j_ := ⟨_, rfl⟩
    replace H : (if 0 ≤ (da) then (if (da) < (aa.length : Int) then (n_limbs_text.l0 k1 l0 (aa.set ((da) : Int).toNat ((ha) % 256)) (ca.length : Int) (wrap64 (ba + 1))) else (none)) else (none)) = some r := by first | (rw [pa] at H; exact H) | (simp only [pa] at H ⊢; exact H)
    have Ra : (IntKind.i64.wrap ((wrap64 ((aa.length : Int) - 1)) - ba)) = da := (i6_ _).trans pa
    by_cases c16 : 0 ≤ (da)
    rotate_left
    ·rw [if_neg c16] at H
     exact absurd H (by simp)
    rw [if_pos c16] at H
    have Sa : decide (0 ≤ (da)) = true := decide_eq_true c16
    clear c16
    by_cases c17 : (da) < (aa.length : Int)
    rotate_left
    ·rw [if_neg c17] at H
     exact absurd H (by simp)
    rw [if_pos c17] at H
    have Fa : decide ((da) < (aa.length : Int)) = true := decide_eq_true c17
    (try (have c17h0 := Fa; simp only [ga] at c17h0))
    clear c17
    obtain ⟨qa, ja⟩ : ∃ y_ : List Int, y_ = (aa.set ((da) : Int).toNat ((ha) % 256)) := ⟨_, rfl⟩
    replace H : (n_limbs_text.l0 k1 l0 qa (ca.length : Int) (wrap64 (ba + 1))) = some r := by first | (rw [ja]; with_reducible exact H) | (have H2_ := (Option.bind_some _ _).symm.trans H; rw [ja]; with_reducible exact H2_) | (have H2_ := (Option.bind_some _ _).symm.trans H; with_reducible exact H2_) | with_reducible exact H | (rw [ja]; exact H) | exact H
    have Ga := A0_.mk ja
    clear ja
    have H' := A0_.mk H
    clear H
    have ra : 0 ≤ ((ji9) : Int) := oD_
    have sa : (ji9) < (l0.length : Int) := oD_
    obtain ⟨Ta, Ha, ta⟩ := Kd.at_int HR0.out (ji9) ra sa
    cases Ha
    (try replace ta := cT_ HB ta)
    replace ra := eq_true ra
    replace sa := eq_true sa
    have p18 : 0 ≤ ((da) : Int) := oD_
    have q18 : ((da) : Int) < ((aa.length : Int) : Int) := oD_
    obtain ⟨ua, Ua, xa, ya, gl18, cl18, za⟩ := Kd.R_form ea.out (by omega)
    (first | cases xa | (injection xa with ea_ en_ ec_; (first | subst ea_ | (injection ea_ with ea_; subst ea_)); subst ec_; clear en_))
    have GB18 := A0_.mk ya
    have GG18 := A0_.mk za
    clear ya gl18 za
    obtain ⟨Va, Wa⟩ := Kd.R_celln 0 ea.out ((da) : Int) p18 q18
    replace p18 := eq_true p18
    replace q18 := eq_true q18
    have HP19 := Kd.R_putg ea.out ((da) : Int) ((ha) % 256)
    go_wp2_with (first | ((with_reducible refine gate_store (t := 5) (p := 30) rfl ?_); refine store_event (t := 5) (p := 30) (v := ?vo_w20) (w1 := (wr.setCell ⟨ua, ((da) : Int).toNat, none⟩ (.int .u8 ((ha) % 256)))) ?hg ?ho ?hn ?hr ?_; (case ho => rfl); (case hg => rfl); (case hn => rfl); (case hr => first | (go_simp; done) | (go_simp; rfl)); intro w20 hw; have hg : wr.grownBy w20 (some ua) := (by rw [hw]; exact HP19.2); have hp_ : Kd.R (Kd.int .u8) 5 w20 w.heap.size (fun _ => True) (.slice (some ⟨ua, 0, none⟩) aa.length co7) qa := (by rw [hw, Ga.out]; exact HP19.1); clear HP19; have n0_ := A0_.mk (hp_); have n1_ := A0_.mk ((by rw [hw]; exact bS_ (HB.out) GB18.out : Below w.heap.size w w20)); clear ea HB; have ea := n0_; have HB := n1_; clear n0_ n1_; clear hg hw hp_))
    (try simp only [← ga])
    (try simp only [ap_])
    go_roundg k1
    case measure => have := HK1.out; omega
    case rel => exact ⟨(qa), (wrap64 (ba + 1)), (rS_), H', ⟨by have := HK1.out; omega⟩, ⟨by (try simp only [ga]); (with_reducible repeat (first | apply Kd.R_alloc | apply Kd.rN_ | apply Kd.rD_)); exact ea.out⟩, ⟨xB_ HB⟩⟩
   ·rw [if_neg c8] at H
    have ma : decide (ba < (ca.length : Int)) = false := decide_eq_false c8
    (try (have c8h0 := ma; simp only [ga] at c8h0))
    clear c8
    obtain ⟨Ia, A21, H⟩ := oB_ H
    (try dsimp only at H)
    obtain rfl := Option.some.inj H
    have hcv22 := own_string (P := Tryd.prog) Tryd.underlying105 Tryd.underlying5 Tryd.underlying9 (Kd.own_of_R ea.out)
    go_wp2_with (first | ((with_reducible refine gC_ (f := 61) rfl ?_); refine gL_ (some 34) rfl rfl Tryd.func61 kr_ rfl #[.string (strOfNums aa)] rfl mp_ ?_; (with_reducible refine (n_Normalize.calls k1 (strOfNums aa) Ia _ A21.out).mono ?_); rintro e w' ⟨rfl, ⟨nd, rfl⟩⟩; refine ⟨_, rfl, ?_⟩))
    go_ret
    exact ⟨by first | rfl | (simp [eN_', eS_] <;> rfl) | (simp only [← ka]; first | rfl | (simp [eN_', eS_] <;> rfl)) | (simp [*, eN_', eS_] <;> rfl), xB_ HB⟩
def n_FromUint.f (k : Nat) (a0 : Int) : Option (ByteArray) := (n_limbs_text.f k (([(a0) % 4294967296, (a0 / 4294967296) % 4294967296] : List Int))).bind fun t488 => (some t488)
theorem n_FromUint.mono : ∀ a0 k, LeO (n_FromUint.f k a0) (n_FromUint.f (k + 1) a0) := by
 intro a0 k
 unfold n_FromUint.f
 repeat' first
   | (with_reducible first | exact n_limbs_text.mono _ _ | exact LeO.refl _ | exact LeO.none _ | refine LeO.ite ?_ ?_ | refine LeO.bind ?_ (fun _ => ?_))
theorem n_FromUint.calls (k : Nat) (a0 : Int) (r : ByteArray) (w : World) (h : n_FromUint.f k a0 = some r) :
  Calls Tryd.prog 72 #[.int .u64 a0] w fun e w' => e = .returned (.string r) ∧ Below w.heap.size w w' := by
 have HB := A0_.mk (Below.refl w.heap.size w)
 have H := h
 unfold n_FromUint.f at H
 clear h
 obtain ⟨ca, ba⟩ : ∃ y_ : List Int, y_ = (([(a0) % 4294967296, (a0 / 4294967296) % 4294967296] : List Int)) := ⟨_, rfl⟩
 replace H : ((n_limbs_text.f k ca).bind fun da => (some da)) = some r := by first | (rw [ba]; with_reducible exact H) | (have H2_ := (Option.bind_some _ _).symm.trans H; rw [ba]; with_reducible exact H2_) | (have H2_ := (Option.bind_some _ _).symm.trans H; with_reducible exact H2_) | with_reducible exact H | (rw [ba]; exact H) | exact H
 have ea := A0_.mk ba
 clear ba
 obtain ⟨da, A2, H⟩ := oB_ H
 (try dsimp only at H)
 obtain rfl := Option.some.inj H
 go_enter Tryd.func72, Tryd.ntmps72
 go_wp2_with (first | ((with_reducible refine gD_ (N := 8) rfl ?_); refine Kd.R_lit (Kd.int .u32) _ 89 ?hg (N := 8) ?hd (xs := ([(a0) % 4294967296, (a0 / 4294967296) % 4294967296] : List Int)) (inner := [.int .u32 ((a0) % 4294967296), .int .u32 ((a0 / 4294967296) % 4294967296)]) (ok := fun _ => True) (okp := fun _ => True) ?hr ?hp (fun _ hk => hk) trivial (Below.refl _ _) (Nat.le_refl _) (by simp) ?_; (case hd => rfl); (case hg => rfl); (case hr => first | (go_simp; done) | (go_simp; rfl)); (case hp => exact (Reps.one (show Kd.M (Kd.int .u32) _ _ _ ((a0) % 4294967296) [.int .u32 ((a0) % 4294967296)] from rfl) (Reps.one (show Kd.M (Kd.int .u32) _ _ _ ((a0 / 4294967296) % 4294967296) [.int .u32 ((a0 / 4294967296) % 4294967296)] from rfl) (Reps.none _ _)))); intro fa w3 ho4 hb hg_ hnew_; clear hg_ hnew_; (first | rw [← ea.out] at ho4 | (simp only [Int.reduceToNat] at ho4; rw [← ea.out] at ho4)); have n0_ := A0_.mk (Kd.rL_ ho4 (bZ_ (xB_ HB))); have n1_ := A0_.mk (bT_ (xB_ HB) hb); clear HB; have aa := n0_; have HB := n1_; clear n0_ n1_; clear hb ho4; obtain ⟨Ao5, co5, eo5⟩ := Kd.rS_' aa.out; subst eo5) | ((with_reducible refine gC_ (f := 65) rfl ?_); refine gL_ (some 9) rfl rfl Tryd.func65 kr_ rfl #[.slice Ao5 ca.length co5] rfl mp_ ?_; (with_reducible refine (n_limbs_text.calls k _ _ ca da _ ?side1 ?side2 A2.out).mono ?_); (case side1 => repeat (first | exact (Kd.rr_' aa.out).2.2 | (with_reducible refine Kd.C_alloc ?_ _) | (with_reducible refine Kd.C_drewN ?_ _) | (with_reducible refine Kd.C_drew ?_))); (case side2 => exact (Kd.rr_' aa.out).2.1); rintro e w6 ⟨rfl, hb⟩; refine ⟨_, rfl, ?_⟩; have n0_ := A0_.mk (Kd.rB_ (xR_ aa.out) hb); have n1_ := A0_.mk (bT_ (xB_ HB) hb); clear aa HB; have aa := n0_; have HB := n1_; clear n0_ n1_; (try clear hb); (try clear hb2); (try clear hk); (try clear hi)))
 go_ret
 exact ⟨rE_, xB_ HB⟩
def q_magnitude.f (k : Nat) (a0 : Int) : Option (ByteArray) := if a0 < 0 then ((n_FromUint.f k (IntKind.u64.wrap (-(IntKind.u64.wrap (a0))))).bind fun t489 => (some t489)) else ((n_FromUint.f k (IntKind.u64.wrap (a0))).bind fun t490 => (some t490))
theorem q_magnitude.mono : ∀ a0 k, LeO (q_magnitude.f k a0) (q_magnitude.f (k + 1) a0) := by
 intro a0 k
 unfold q_magnitude.f
 repeat' first
   | (with_reducible first | exact n_FromUint.mono _ _ | exact LeO.refl _ | exact LeO.none _ | refine LeO.ite ?_ ?_ | refine LeO.bind ?_ (fun _ => ?_))
theorem q_magnitude.calls (k : Nat) (a0 : Int) (r : ByteArray) (w : World) (h : q_magnitude.f k a0 = some r) :
  Calls Tryd.prog 53 #[.int .i64 a0] w fun e w' => e = .returned (.string r) ∧ Below w.heap.size w w' := by
 have HB := A0_.mk (Below.refl w.heap.size w)
 have H := h
 unfold q_magnitude.f at H
 clear h
 by_cases c2 : a0 < 0
 ·rw [if_pos c2] at H
  have aa : decide (a0 < 0) = true := decide_eq_true c2
  clear c2
  obtain ⟨ba, A3, H⟩ := oB_ H
  (try dsimp only at H)
  obtain rfl := Option.some.inj H
  go_enter Tryd.func53, Tryd.ntmps53
  go_wp2_with (first | ((with_reducible refine gC_ (f := 72) rfl ?_); refine gL_ (some 8) rfl rfl Tryd.func72 kr_ rfl #[.int .u64 (IntKind.u64.wrap (-(IntKind.u64.wrap (a0))))] rfl mp_ ?_; (with_reducible refine (n_FromUint.calls k (IntKind.u64.wrap (-(IntKind.u64.wrap (a0)))) ba _ A3.out).mono ?_); rintro e w4 ⟨rfl, hb⟩; refine ⟨_, rfl, ?_⟩; have n0_ := A0_.mk (bT_ (xB_ HB) hb); clear HB; have HB := n0_; clear n0_; (try clear hb); (try clear hb2); (try clear hk); (try clear hi)))
  go_ret
  exact ⟨rE_, xB_ HB⟩
 ·rw [if_neg c2] at H
  have aa : decide (a0 < 0) = false := decide_eq_false c2
  clear c2
  obtain ⟨ca, A5, H⟩ := oB_ H
  (try dsimp only at H)
  obtain rfl := Option.some.inj H
  go_enter Tryd.func53, Tryd.ntmps53
  go_wp2_with (first | ((with_reducible refine gC_ (f := 72) rfl ?_); refine gL_ (some 11) rfl rfl Tryd.func72 kr_ rfl #[.int .u64 (IntKind.u64.wrap (a0))] rfl mp_ ?_; (with_reducible refine (n_FromUint.calls k (IntKind.u64.wrap (a0)) ca _ A5.out).mono ?_); rintro e w6 ⟨rfl, hb⟩; refine ⟨_, rfl, ?_⟩; have n0_ := A0_.mk (bT_ (xB_ HB) hb); clear HB; have HB := n0_; clear n0_; (try clear hb); (try clear hb2); (try clear hk); (try clear hi)))
  go_ret
  exact ⟨rE_, xB_ HB⟩
def n_sign.f (a0 : Int) : Option (Int) := if a0 < 0 then (some (-1)) else (if a0 > 0 then (some 1) else (some 0))
theorem n_sign.calls (a0 : Int) (r : Int) (w : World) (h : n_sign.f a0 = some r) :
  Calls Tryd.prog 62 #[.int .i64 a0] w fun e w' => e = .returned (.int .i64 r) ∧ D0_ w w' := by
 have H := h
 unfold n_sign.f at H
 clear h
 by_cases c2 : a0 < 0
 ·rw [if_pos c2] at H
  have aa : decide (a0 < 0) = true := decide_eq_true c2
  clear c2
  obtain rfl := Option.some.inj H
  go_enter Tryd.func62, Tryd.ntmps62
  go_wp2
  go_ret
  exact ⟨rS_, by repeat (first | exact D0_.refl _ | apply D0_.step)⟩
 ·rw [if_neg c2] at H
  have aa : decide (a0 < 0) = false := decide_eq_false c2
  clear c2
  by_cases c3 : a0 > 0
  ·rw [if_pos c3] at H
   have ba : decide (0 < a0) = true := decide_eq_true c3
   clear c3
   obtain rfl := Option.some.inj H
   go_enter Tryd.func62, Tryd.ntmps62
   go_wp2
   go_ret
   exact ⟨rS_, by repeat (first | exact D0_.refl _ | apply D0_.step)⟩
  ·rw [if_neg c3] at H
   have ba : decide (0 < a0) = false := decide_eq_false c3
   clear c3
   obtain rfl := Option.some.inj H
   go_enter Tryd.func62, Tryd.ntmps62
   go_wp2
   go_ret
   exact ⟨rS_, by repeat (first | exact D0_.refl _ | apply D0_.step)⟩
def n_compare.l0 : Nat → List Int → List Int → Int → Option (Int)
 | 0, _, _, _ => none
 | k + 1, x0, x1, x5 => if x5 ≥ 0 then (if 0 ≤ x5 then (if x5 < (x0.length : Int) then (if x5 < (x1.length : Int) then (if (rd x0 x5) = (rd x1 x5) then (n_compare.l0 k x0 x1 (wrap64 (x5 - 1))) else (if (rd x0 x5) < (rd x1 x5) then (some (-1)) else (some 1))) else (none)) else (none)) else (none)) else (some 0)
def n_compare.f (k : Nat) (l0 : List Int) (l1 : List Int) : Option (Int) := if (l0.length : Int) = (l1.length : Int) then (n_compare.l0 k l0 l1 (wrap64 ((l0.length : Int) - 1))) else ((n_sign.f (wrap64 ((l0.length : Int) - (l1.length : Int)))).bind fun t132 => (some t132))
theorem n_compare.mono_l : ∀ k, (∀ y0 y1 y2, LeO (n_compare.l0 k y0 y1 y2) (n_compare.l0 (k + 1) y0 y1 y2))
 | 0 => fun _ _ _ r h => by simp [n_compare.l0] at h
 | k + 1 => by
  have ih0 := n_compare.mono_l k
  ·intro y0 y1 y2
   unfold n_compare.l0
   repeat' first
   | (with_reducible first | exact ih0 _ _ _ | exact LeO.refl _ | exact LeO.none _ | refine LeO.ite ?_ ?_ | refine LeO.bind ?_ (fun _ => ?_))
theorem n_compare.mono : ∀ a0 a1 k, LeO (n_compare.f k a0 a1) (n_compare.f (k + 1) a0 a1) := by
 intro a0 a1 k
 have ih0 := n_compare.mono_l k
 unfold n_compare.f
 repeat' first
   | (with_reducible first | exact ih0 _ _ _ | exact LeO.refl _ | exact LeO.none _ | refine LeO.ite ?_ ?_ | refine LeO.bind ?_ (fun _ => ?_))
theorem n_compare.calls (k : Nat) (A0 : Option Addr) (c0 : Nat) (l0 : List Int) (A1 : Option Addr) (c1 : Nat) (l1 : List Int) (r : Int) (w : World) (hr0 : Kd.C (Kd.int .u32) w A0 l0.length l0) (hc0 : l0.length ≤ c0) (hr1 : Kd.C (Kd.int .u32) w A1 l1.length l1) (hc1 : l1.length ≤ c1) (h : n_compare.f k l0 l1 = some r) :
  Calls Tryd.prog 81 #[.slice A0 l0.length c0, .slice A1 l1.length c1] w fun e w' => e = .returned (.int .i64 r) ∧ D0_ w w' := by
 have HR0 := A0_.mk hr0
 have HC0 := A0_.mk hc0
 clear hr0 hc0
 have HR1 := A0_.mk hr1
 have HC1 := A0_.mk hc1
 clear hr1 hc1
 have H := h
 unfold n_compare.f at H
 clear h
 by_cases c3 : (l0.length : Int) = (l1.length : Int)
 ·rw [if_pos c3] at H
  have sa : ((l0.length : Int) == (l1.length : Int)) = true := beq_iff_eq.mpr c3
  have ta : ((l0.length : Int) != (l1.length : Int)) = false := bne_eq_false_iff_eq.mpr c3
  have ua : (l0.length == l1.length) = true := by first | simpa using c3 | (simp at c3 ⊢; omega)
  clear c3
  have H' := A0_.mk H
  clear H
  go_enter Tryd.func81, Tryd.ntmps81
  go_wp2
  repeat (go_quiet (fail); try go_wp2)
  go_loopg [5] k (fun kq v5 w' => ∃ (aa : Int), v5 = .int .i64 aa ∧ A0_ (n_compare.l0 kq l0 l1 aa = some r) ∧ A0_ (kq ≤ k) ∧ D0_ w w')
  case atStart => exact ⟨(wrap64 ((l0.length : Int) - 1)), (rS_), H', ⟨Nat.le_refl _⟩, by repeat (first | exact D0_.refl _ | apply D0_.step)⟩
  case round =>
   clear H'
   try clear c1
   try clear p2
   try clear c3
   try clear sa
   try clear ta
   try clear ua
   obtain ⟨aa, rfl, HA, HK1, ⟨m1, rfl⟩⟩ := hrel
   cases gk with
   | zero => exact absurd HA.out (by simp [n_compare.l0])
   | succ k1 =>
    have H := HA.out
    clear HA
    simp only [n_compare.l0] at H
    by_cases c4 : aa ≥ 0
    ·rw [if_pos c4] at H
     have xa : decide (0 ≤ aa) = true := decide_eq_true c4
     clear c4
     by_cases c5 : 0 ≤ aa
     rotate_left
     ·rw [if_neg c5] at H
      exact absurd H (by simp)
     rw [if_pos c5] at H
     have Da : decide (0 ≤ aa) = true := decide_eq_true c5
     clear c5
     by_cases c6 : aa < (l0.length : Int)
     rotate_left
     ·rw [if_neg c6] at H
      exact absurd H (by simp)
     rw [if_pos c6] at H
     have Ea : decide (aa < (l0.length : Int)) = true := decide_eq_true c6
     clear c6
     by_cases c7 : aa < (l1.length : Int)
     rotate_left
     ·rw [if_neg c7] at H
      exact absurd H (by simp)
     rw [if_pos c7] at H
     have Fa : decide (aa < (l1.length : Int)) = true := decide_eq_true c7
     clear c7
     by_cases c8 : (rd l0 aa) = (rd l1 aa)
     ·rw [if_pos c8] at H
      have ya : ((rd l0 aa) == (rd l1 aa)) = true := beq_iff_eq.mpr c8
      have za : ((rd l0 aa) != (rd l1 aa)) = false := bne_eq_false_iff_eq.mpr c8
      clear c8
      have H' := A0_.mk H
      clear H
      have ba : 0 ≤ (aa : Int) := oD_
      have ca : aa < (l0.length : Int) := oD_
      obtain ⟨la, ja, va⟩ := Kd.at_int HR0.out aa ba ca
      cases ja
      replace ba := eq_true ba
      replace ca := eq_true ca
      have da : 0 ≤ (aa : Int) := oD_
      have ea : aa < (l1.length : Int) := oD_
      obtain ⟨ma, ka, wa⟩ := Kd.at_int HR1.out aa da ea
      cases ka
      replace da := eq_true da
      replace ea := eq_true ea
      go_wp2
      repeat (go_quiet (fail); try go_wp2)
      (try simp only [ap_])
      go_roundg k1
      case measure => have := HK1.out; omega
      case rel => exact ⟨(wrap64 (aa - 1)), (rS_), H', ⟨by have := HK1.out; omega⟩, by repeat (first | exact D0_.refl _ | apply D0_.step)⟩
     ·rw [if_neg c8] at H
      have ya : ((rd l0 aa) == (rd l1 aa)) = false := beq_eq_false_iff_ne.mpr c8
      have za : ((rd l0 aa) != (rd l1 aa)) = true := bne_iff_ne.mpr c8
      by_cases c9 : (rd l0 aa) < (rd l1 aa)
      ·rw [if_pos c9] at H
       have Aa : decide ((rd l0 aa) < (rd l1 aa)) = true := decide_eq_true c9
       clear c9
       obtain rfl := Option.some.inj H
       have ba : 0 ≤ (aa : Int) := oD_
       have ca : aa < (l0.length : Int) := oD_
       obtain ⟨la, ja, va⟩ := Kd.at_int HR0.out aa ba ca
       cases ja
       replace ba := eq_true ba
       replace ca := eq_true ca
       have da : 0 ≤ (aa : Int) := oD_
       have ea : aa < (l1.length : Int) := oD_
       obtain ⟨ma, ka, wa⟩ := Kd.at_int HR1.out aa da ea
       cases ka
       replace da := eq_true da
       replace ea := eq_true ea
       have fa : 0 ≤ (aa : Int) := oD_
       have ga : aa < (l0.length : Int) := oD_
       obtain ⟨na, oa, Ba⟩ := Kd.at_int HR0.out aa fa ga
       obtain rfl : la = na := (by injection oa)
       replace fa := eq_true fa
       replace ga := eq_true ga
       have ha : 0 ≤ (aa : Int) := oD_
       have ia : aa < (l1.length : Int) := oD_
       obtain ⟨pa, qa, Ca⟩ := Kd.at_int HR1.out aa ha ia
       obtain rfl : ma = pa := (by injection qa)
       replace ha := eq_true ha
       replace ia := eq_true ia
       go_wp2
       repeat (go_quiet (fail); try go_wp2)
       go_ret
       exact ⟨rS_, by repeat (first | exact D0_.refl _ | apply D0_.step)⟩
      ·rw [if_neg c9] at H
       have Aa : decide ((rd l0 aa) < (rd l1 aa)) = false := decide_eq_false c9
       clear c9
       obtain rfl := Option.some.inj H
       have ba : 0 ≤ (aa : Int) := oD_
       have ca : aa < (l0.length : Int) := oD_
       obtain ⟨la, ja, va⟩ := Kd.at_int HR0.out aa ba ca
       cases ja
       replace ba := eq_true ba
       replace ca := eq_true ca
       have da : 0 ≤ (aa : Int) := oD_
       have ea : aa < (l1.length : Int) := oD_
       obtain ⟨ma, ka, wa⟩ := Kd.at_int HR1.out aa da ea
       cases ka
       replace da := eq_true da
       replace ea := eq_true ea
       have fa : 0 ≤ (aa : Int) := oD_
       have ga : aa < (l0.length : Int) := oD_
       obtain ⟨na, oa, Ba⟩ := Kd.at_int HR0.out aa fa ga
       obtain rfl : la = na := (by injection oa)
       replace fa := eq_true fa
       replace ga := eq_true ga
       have ha : 0 ≤ (aa : Int) := oD_
       have ia : aa < (l1.length : Int) := oD_
       obtain ⟨pa, qa, Ca⟩ := Kd.at_int HR1.out aa ha ia
       obtain rfl : ma = pa := (by injection qa)
       replace ha := eq_true ha
       replace ia := eq_true ia
       go_wp2
       repeat (go_quiet (fail); try go_wp2)
       go_ret
       exact ⟨rS_, by repeat (first | exact D0_.refl _ | apply D0_.step)⟩
    ·rw [if_neg c4] at H
     have xa : decide (0 ≤ aa) = false := decide_eq_false c4
     clear c4
     obtain rfl := Option.some.inj H
     go_wp2
     repeat (go_quiet (fail); try go_wp2)
     go_ret
     exact ⟨rS_, by repeat (first | exact D0_.refl _ | apply D0_.step)⟩
 ·rw [if_neg c3] at H
  have sa : ((l0.length : Int) == (l1.length : Int)) = false := beq_eq_false_iff_ne.mpr c3
  have ta : ((l0.length : Int) != (l1.length : Int)) = true := bne_iff_ne.mpr c3
  have ua : (l0.length == l1.length) = false := by first | simpa using c3 | (simp at c3 ⊢; omega)
  obtain ⟨ra, A10, H⟩ := oB_ H
  (try dsimp only at H)
  obtain rfl := Option.some.inj H
  go_enter Tryd.func81, Tryd.ntmps81
  go_wp2_with (first | (go_at_call 62; (with_reducible refine (n_sign.calls (wrap64 ((l0.length : Int) - (l1.length : Int))) ra _ A10.out).mono ?_); rintro e w' ⟨rfl, ⟨nd, rfl⟩⟩; (try first | exact ⟨rfl, _, World.drewN_drewN _ _ _⟩ | exact ⟨rfl, _, Eq.trans (World.drewN_drewN _ _ _) (congrArg (World.drewN _) (Nat.add_assoc _ _ _))⟩)))
  repeat (go_quiet (first | (go_at_call 62; (with_reducible refine (n_sign.calls (wrap64 ((l0.length : Int) - (l1.length : Int))) ra _ A10.out).mono ?_); rintro e w' ⟨rfl, ⟨nd, rfl⟩⟩; (try first | exact ⟨rfl, _, World.drewN_drewN _ _ _⟩ | exact ⟨rfl, _, Eq.trans (World.drewN_drewN _ _ _) (congrArg (World.drewN _) (Nat.add_assoc _ _ _))⟩))); try go_wp2_with (first | (go_at_call 62; (with_reducible refine (n_sign.calls (wrap64 ((l0.length : Int) - (l1.length : Int))) ra _ A10.out).mono ?_); rintro e w' ⟨rfl, ⟨nd, rfl⟩⟩; (try first | exact ⟨rfl, _, World.drewN_drewN _ _ _⟩ | exact ⟨rfl, _, Eq.trans (World.drewN_drewN _ _ _) (congrArg (World.drewN _) (Nat.add_assoc _ _ _))⟩))))
  go_ret
  exact ⟨rS_, by repeat (first | exact D0_.refl _ | apply D0_.step)⟩
def n_limbs_trim.l0 : Nat → List Int → Int → Option (List Int)
 | 0, _, _ => none
 | k + 1, x0, x3 => if x3 > 0 then (if 0 ≤ (wrap64 (x3 - 1)) then (if (wrap64 (x3 - 1)) < (x0.length : Int) then (if (rd x0 (wrap64 (x3 - 1))) = 0 then (n_limbs_trim.l0 k x0 (wrap64 (x3 - 1))) else (if 0 ≤ x3 then (if x3 ≤ (x0.length : Int) then (some (x0.take (x3 : Int).toNat)) else (none)) else (none))) else (none)) else (none)) else (if 0 ≤ x3 then (if x3 ≤ (x0.length : Int) then (some (x0.take (x3 : Int).toNat)) else (none)) else (none))
def n_limbs_trim.f (k : Nat) (l0 : List Int) : Option (List Int) := n_limbs_trim.l0 k l0 (l0.length : Int)
theorem n_limbs_trim.mono_l : ∀ k, (∀ y0 y1, LeO (n_limbs_trim.l0 k y0 y1) (n_limbs_trim.l0 (k + 1) y0 y1))
 | 0 => fun _ _ r h => by simp [n_limbs_trim.l0] at h
 | k + 1 => by
  have ih0 := n_limbs_trim.mono_l k
  ·intro y0 y1
   unfold n_limbs_trim.l0
   repeat' first
   | (with_reducible first | exact ih0 _ _ | exact LeO.refl _ | exact LeO.none _ | refine LeO.ite ?_ ?_ | refine LeO.bind ?_ (fun _ => ?_))
theorem n_limbs_trim.mono : ∀ a0 k, LeO (n_limbs_trim.f k a0) (n_limbs_trim.f (k + 1) a0) := by
 intro a0 k
 have ih0 := n_limbs_trim.mono_l k
 unfold n_limbs_trim.f
 repeat' first
   | (with_reducible first | exact ih0 _ _ | exact LeO.refl _ | exact LeO.none _ | refine LeO.ite ?_ ?_ | refine LeO.bind ?_ (fun _ => ?_))
theorem n_limbs_trim.calls (k : Nat) (P0_ : Nat → Prop) (u9000_ : Value) (l0 : List Int) (r : List Int) (w0 w : World) (hB : Below w0.heap.size w0 w) (ho0 : Kd.R (Kd.int .u32) 89 w w0.heap.size P0_ u9000_ l0) (h : n_limbs_trim.f k l0 = some r) :
  Calls Tryd.prog 79 #[u9000_] w fun e w' => ∃ v0_ : Value, e = .returned (v0_) ∧ Kd.R (Kd.int .u32) 89 w' w0.heap.size (fun k_ => (P0_ k_ ∨ w.heap.size ≤ k_)) v0_ r ∧ Below w0.heap.size w0 w' ∧ Kept w w' (fun k_ => P0_ k_) := by
 have HO0 := A0_.mk (show Kd.R (Kd.int .u32) 89 w w0.heap.size (fun k_ => (P0_ k_ ∨ w.heap.size ≤ k_)) u9000_ l0 from Kd.rM_ ho0 (fun k_ hk => (.inl hk)))
 have HK := A0_.mk (Kept.refl w (fun k_ => P0_ k_))
 have HW0 := A0_.mk hB.size
 have HB := A0_.mk hB
 clear hB
 have H : (n_limbs_trim.l0 k l0 (l0.length : Int)) = some r := h
 clear h
 have H' := A0_.mk H
 clear H
 obtain ⟨Ao2, co2, eo2⟩ := Kd.rS_' HO0.out
 subst eo2
 go_enter Tryd.func79, Tryd.ntmps79
 go_wp2
 go_loopg [3] k (fun kq v3 w' => ∃ (aa : Int), v3 = .int .i64 aa ∧ A0_ (n_limbs_trim.l0 kq l0 aa = some r) ∧ A0_ (kq ≤ k) ∧ A0_ (Kd.R (Kd.int .u32) 89 w' w0.heap.size (fun k_ => (P0_ k_ ∨ w.heap.size ≤ k_)) (.slice Ao2 l0.length co2) l0) ∧ A0_ (Kept w w' (fun k_ => P0_ k_)) ∧ A0_ (Below w0.heap.size w0 w'))
 case atStart => exact ⟨((l0.length : Int)), (rS_), H', ⟨Nat.le_refl _⟩, ⟨by (with_reducible repeat (first | apply Kd.R_alloc | apply Kd.rN_ | apply Kd.rD_)); exact HO0.out⟩, ⟨by repeat (first | (with_reducible first | exact HK.out | apply Kept.alloc | apply Kept.drewN | apply Kept.drew) | exact HK.out)⟩, ⟨xB_ HB⟩⟩
 case round =>
  clear H'
  try clear p2
  obtain ⟨aa, rfl, HA, HK1, ba, HK, HB⟩ := hrel
  cases gk with
  | zero => exact absurd HA.out (by simp [n_limbs_trim.l0])
  | succ k1 =>
   have H := HA.out
   clear HA
   simp only [n_limbs_trim.l0] at H
   by_cases c3 : aa > 0
   ·rw [if_pos c3] at H
    have ra : decide (0 < aa) = true := decide_eq_true c3
    clear c3
    obtain ⟨ji4, ea⟩ : ∃ j_ : Int, (wrap64 (aa - 1)) = j_ := ⟨_, rfl⟩
    replace H : (if 0 ≤ (ji4) then (if (ji4) < (l0.length : Int) then (if (rd l0 (ji4)) = 0 then (n_limbs_trim.l0 k1 l0 ji4) else (if 0 ≤ aa then (if aa ≤ (l0.length : Int) then (some (l0.take (aa : Int).toNat)) else (none)) else (none))) else (none)) else (none)) = some r := by first | (rw [ea] at H; exact H) | (simp only [ea] at H ⊢; exact H)
    have xa : (IntKind.i64.wrap (aa - 1)) = ji4 := (i6_ _).trans ea
    by_cases c5 : 0 ≤ (ji4)
    rotate_left
    ·rw [if_neg c5] at H
     exact absurd H (by simp)
    rw [if_pos c5] at H
    have ya : decide (0 ≤ (ji4)) = true := decide_eq_true c5
    clear c5
    by_cases c6 : (ji4) < (l0.length : Int)
    rotate_left
    ·rw [if_neg c6] at H
     exact absurd H (by simp)
    rw [if_pos c6] at H
    have za : decide ((ji4) < (l0.length : Int)) = true := decide_eq_true c6
    clear c6
    by_cases c7 : (rd l0 (ji4)) = 0
    ·rw [if_pos c7] at H
     have sa : ((rd l0 (ji4)) == 0) = true := beq_iff_eq.mpr c7
     have ta : ((rd l0 (ji4)) != 0) = false := bne_eq_false_iff_eq.mpr c7
     clear c7
     have H' := A0_.mk H
     clear H
     have ca : 0 ≤ ((ji4) : Int) := oD_
     have da : (ji4) < (l0.length : Int) := oD_
     obtain ⟨ka, ja, ua⟩ := Kd.at_int (Kd.rr_' ba.out).2.2 (ji4) ca da
     cases ja
     replace ca := eq_true ca
     replace da := eq_true da
     go_wp2
     (try simp only [ap_])
     go_roundg k1
     case measure => have := HK1.out; omega
     case rel => exact ⟨(ji4), (by first | rfl | (simp; done) | (simp only [← ea] <;> (first | rfl | simp)) | (simp [*]; done)), H', ⟨by have := HK1.out; omega⟩, ⟨by (with_reducible repeat (first | apply Kd.R_alloc | apply Kd.rN_ | apply Kd.rD_)); exact ba.out⟩, ⟨by repeat (first | (with_reducible first | exact HK.out | apply Kept.alloc | apply Kept.drewN | apply Kept.drew) | exact HK.out)⟩, ⟨xB_ HB⟩⟩
    ·rw [if_neg c7] at H
     have sa : ((rd l0 (ji4)) == 0) = false := beq_eq_false_iff_ne.mpr c7
     have ta : ((rd l0 (ji4)) != 0) = true := bne_iff_ne.mpr c7
     by_cases c8 : 0 ≤ aa
     rotate_left
     ·rw [if_neg c8] at H
      exact absurd H (by simp)
     rw [if_pos c8] at H
     have Aa := eq_true c8
     have Ba : decide (0 ≤ aa) = true := decide_eq_true c8
     clear c8
     by_cases c9 : aa ≤ (l0.length : Int)
     rotate_left
     ·rw [if_neg c9] at H
      exact absurd H (by simp)
     rw [if_pos c9] at H
     have Ca := eq_true c9
     have Da : decide (aa ≤ (l0.length : Int)) = true := decide_eq_true c9
     clear c9
     obtain ⟨la, fa⟩ : ∃ y_ : List Int, y_ = (l0.take (aa : Int).toNat) := ⟨_, rfl⟩
     replace H : (some la) = some r := by first | (rw [fa]; with_reducible exact H) | (have H2_ := (Option.bind_some _ _).symm.trans H; rw [fa]; with_reducible exact H2_) | (have H2_ := (Option.bind_some _ _).symm.trans H; with_reducible exact H2_) | with_reducible exact H | (rw [fa]; exact H) | exact H
     have ma := A0_.mk fa
     clear fa
     obtain rfl := Option.some.inj H
     have ca : 0 ≤ ((ji4) : Int) := oD_
     have da : (ji4) < (l0.length : Int) := oD_
     obtain ⟨ka, ja, ua⟩ := Kd.at_int (Kd.rr_' ba.out).2.2 (ji4) ca da
     cases ja
     replace ca := eq_true ca
     replace da := eq_true da
     have q10 : (aa : Int) ≤ ((l0.length : Int) : Int) := oD_
     obtain ⟨i010, hi010, _, hsz10, _⟩ := info_parts info89
     have hcut10 := cut_to (P := Tryd.prog) 87 89 .i64 Tryd.underlying87 hi010 (some ka) l0.length co2 aa (oD_) q10 (Kd.rr_' ba.out).2.1
     have ha := Kd.R_take (m := (aa : Int).toNat) ba.out (by omega)
     have na : la.length = (aa : Int).toNat := (by rw [ma.out, List.length_take]; omega)
     rw [← ma.out] at ha
     rw [← na] at ha hcut10
     clear na hi010 hsz10 ba
     have va := A0_.mk ha
     clear ha
     replace q10 := eq_true q10
     go_wp2
     go_ret
     exact ⟨_, by first | rfl | (simp [eN_', eS_] <;> rfl) | (simp only [← ea]; first | rfl | (simp [eN_', eS_] <;> rfl)) | (simp [*, eN_', eS_] <;> rfl), by (with_reducible repeat (first | apply Kd.R_alloc | apply Kd.rN_ | apply Kd.rD_)); exact va.out, xB_ HB, by repeat (first | (with_reducible first | exact HK.out | apply Kept.alloc | apply Kept.drewN | apply Kept.drew) | exact HK.out)⟩
   ·rw [if_neg c3] at H
    have ra : decide (0 < aa) = false := decide_eq_false c3
    clear c3
    by_cases c11 : 0 ≤ aa
    rotate_left
    ·rw [if_neg c11] at H
     exact absurd H (by simp)
    rw [if_pos c11] at H
    have Ea := eq_true c11
    have Fa : decide (0 ≤ aa) = true := decide_eq_true c11
    clear c11
    by_cases c12 : aa ≤ (l0.length : Int)
    rotate_left
    ·rw [if_neg c12] at H
     exact absurd H (by simp)
    rw [if_pos c12] at H
    have Ga := eq_true c12
    have Ha : decide (aa ≤ (l0.length : Int)) = true := decide_eq_true c12
    clear c12
    obtain ⟨oa, ga⟩ : ∃ y_ : List Int, y_ = (l0.take (aa : Int).toNat) := ⟨_, rfl⟩
    replace H : (some oa) = some r := by first | (rw [ga]; with_reducible exact H) | (have H2_ := (Option.bind_some _ _).symm.trans H; rw [ga]; with_reducible exact H2_) | (have H2_ := (Option.bind_some _ _).symm.trans H; with_reducible exact H2_) | with_reducible exact H | (rw [ga]; exact H) | exact H
    have pa := A0_.mk ga
    clear ga
    obtain rfl := Option.some.inj H
    have q13 : (aa : Int) ≤ ((l0.length : Int) : Int) := oD_
    obtain ⟨i013, hi013, _, hsz13, _⟩ := info_parts info89
    have hcut13 := cut_to (P := Tryd.prog) 87 89 .i64 Tryd.underlying87 hi013 Ao2 l0.length co2 aa (oD_) q13 (Kd.rr_' ba.out).2.1
    have ia := Kd.R_take (m := (aa : Int).toNat) ba.out (by omega)
    have qa : oa.length = (aa : Int).toNat := (by rw [pa.out, List.length_take]; omega)
    rw [← pa.out] at ia
    rw [← qa] at ia hcut13
    clear qa hi013 hsz13 ba
    have wa := A0_.mk ia
    clear ia
    replace q13 := eq_true q13
    go_wp2
    go_ret
    exact ⟨_, rE_, by (with_reducible repeat (first | apply Kd.R_alloc | apply Kd.rN_ | apply Kd.rD_)); exact wa.out, xB_ HB, by repeat (first | (with_reducible first | exact HK.out | apply Kept.alloc | apply Kept.drewN | apply Kept.drew) | exact HK.out)⟩
def n_divideSmall.l0 : Nat → List Int → Int → List Int → Int → Int → Option (List Int × Int)
 | 0, _, _, _, _, _ => none
 | k + 1, x0, x1, x6, x7, x8 => if x8 ≥ 0 then (if 0 ≤ x8 then (if x8 < (x0.length : Int) then (if (IntKind.u64.wrap (x1)) = 0 then (none) else (if x8 < (x6.length : Int) then (n_divideSmall.l0 k x0 x1 (x6.set (x8 : Int).toNat ((IntKind.u64.wrap (Int.tdiv (Go.bits .or .u64 (IntKind.u64.wrap (x7 * 4294967296)) (IntKind.u64.wrap (rd x0 x8))) (IntKind.u64.wrap (x1)))) % 4294967296)) (Int.tmod (Go.bits .or .u64 (IntKind.u64.wrap (x7 * 4294967296)) (IntKind.u64.wrap (rd x0 x8))) (IntKind.u64.wrap (x1))) (wrap64 (x8 - 1))) else (none))) else (none)) else (none)) else ((n_limbs_trim.f k x6).bind fun t142 => (some (t142, (x7) % 4294967296)))
def n_divideSmall.f (k : Nat) (l0 : List Int) (a1 : Int) : Option (List Int × Int) := if 0 ≤ (l0.length : Int) then (if ((l0.length : Int) : Int).toNat ≤ 70368744177664 then (n_divideSmall.l0 k l0 a1 (List.replicate ((l0.length : Int) : Int).toNat 0) 0 (wrap64 ((l0.length : Int) - 1))) else (none)) else (none)
theorem n_divideSmall.mono_l : ∀ k, (∀ y0 y1 y2 y3 y4, LeO (n_divideSmall.l0 k y0 y1 y2 y3 y4) (n_divideSmall.l0 (k + 1) y0 y1 y2 y3 y4))
 | 0 => fun _ _ _ _ _ r h => by simp [n_divideSmall.l0] at h
 | k + 1 => by
  have ih0 := n_divideSmall.mono_l k
  ·intro y0 y1 y2 y3 y4
   unfold n_divideSmall.l0
   repeat' first
   | (with_reducible first | exact ih0 _ _ _ _ _ | exact n_limbs_trim.mono _ _ | exact LeO.refl _ | exact LeO.none _ | refine LeO.ite ?_ ?_ | refine LeO.bind ?_ (fun _ => ?_))
theorem n_divideSmall.mono : ∀ a0 a1 k, LeO (n_divideSmall.f k a0 a1) (n_divideSmall.f (k + 1) a0 a1) := by
 intro a0 a1 k
 have ih0 := n_divideSmall.mono_l k
 unfold n_divideSmall.f
 repeat' first
   | (with_reducible first | exact ih0 _ _ _ _ _ | exact n_limbs_trim.mono _ _ | exact LeO.refl _ | exact LeO.none _ | refine LeO.ite ?_ ?_ | refine LeO.bind ?_ (fun _ => ?_))
theorem n_divideSmall.calls (k : Nat) (A0 : Option Addr) (c0 : Nat) (l0 : List Int) (a1 : Int) (r1 : List Int) (r2 : Int) (w : World) (hr0 : Kd.C (Kd.int .u32) w A0 l0.length l0) (hc0 : l0.length ≤ c0) (h : n_divideSmall.f k l0 a1 = some (r1, r2)) :
  Calls Tryd.prog 105 #[.slice A0 l0.length c0, .int .u32 a1] w fun e w' => ∃ v0_ : Value, e = .returned (.tuple #[v0_, .int .u32 r2]) ∧ Kd.R (Kd.int .u32) 89 w' w.heap.size (fun _ => True) v0_ r1 ∧ Below w.heap.size w w' := by
 have HR0 := A0_.mk hr0
 have HC0 := A0_.mk hc0
 clear hr0 hc0
 have HB := A0_.mk (Below.refl w.heap.size w)
 have H := h
 unfold n_divideSmall.f at H
 clear h
 by_cases c3 : 0 ≤ (l0.length : Int)
 rotate_left
 ·rw [if_neg c3] at H
  exact absurd H (by simp)
 rw [if_pos c3] at H
 have sa := eq_true c3
 have ta : decide (0 ≤ (l0.length : Int)) = true := decide_eq_true c3
 clear c3
 by_cases c4 : ((l0.length : Int) : Int).toNat ≤ 70368744177664
 rotate_left
 ·rw [if_neg c4] at H
  exact absurd H (by simp)
 rw [if_pos c4] at H
 have ua := eq_true c4
 have va : decide (((l0.length : Int) : Int).toNat ≤ 70368744177664) = true := decide_eq_true c4
 clear c4
 obtain ⟨na, ea⟩ : ∃ y_ : List Int, y_ = (List.replicate ((l0.length : Int) : Int).toNat 0) := ⟨_, rfl⟩
 replace H : (n_divideSmall.l0 k l0 a1 na 0 (wrap64 ((l0.length : Int) - 1))) = some (r1, r2) := by first | (rw [ea]; with_reducible exact H) | (have H2_ := (Option.bind_some _ _).symm.trans H; rw [ea]; with_reducible exact H2_) | (have H2_ := (Option.bind_some _ _).symm.trans H; with_reducible exact H2_) | with_reducible exact H | (rw [ea]; exact H) | exact H
 have oa := A0_.mk ea
 clear ea
 have H' := A0_.mk H
 clear H
 go_enter Tryd.func105, Tryd.ntmps105
 go_wp2_with (first | ((with_reducible refine gD_ (N := 12) rfl ?_); refine Kd.R_make (Kd.int .u32) _ 89 rfl (N := 12) rfl 87 _ _ rfl (l0.length : Int) rfl rfl Tryd.underlying87 (.int .u32 0) 4 info89 rfl (by decide) (by omega) 0 (ok := fun _ => True) (okp := fun _ => True) rfl (fun _ hk => hk) trivial (oD_) (Nat.le_trans (Nat.mul_le_mul_right _ (oD_ : (l0.length : Int).toNat ≤ 70368744177664)) (by omega)) (Below.refl _ _) (Nat.le_refl _) ?_; intro wa w5 ho6 hb hg_ hnew_; clear hg_ hnew_; (first | rw [← oa.out] at ho6 | (simp only [Int.reduceToNat] at ho6; rw [← oa.out] at ho6)); have n0_ := A0_.mk (Kd.rL_ ho6 (bZ_ (xB_ HB))); have n1_ := A0_.mk (bT_ (xB_ HB) hb); clear HB; have xa := n0_; have HB := n1_; clear n0_ n1_; clear hb ho6))
 go_loopg [7, 8] k (fun kq v7 v8 w' => ∃ (ba : List Int) (da : Int) (aa : Int), v7 = .int .u64 da ∧ v8 = .int .i64 aa ∧ A0_ (n_divideSmall.l0 kq l0 a1 ba da aa = some (r1, r2)) ∧ A0_ (kq ≤ k) ∧ A0_ (Kd.R (Kd.int .u32) 89 w' w.heap.size (fun _ => True) wa ba) ∧ A0_ (Below w.heap.size w w'))
 case atStart => exact ⟨(na), (0), (wrap64 ((l0.length : Int) - 1)), (rS_), (rS_), H', ⟨Nat.le_refl _⟩, ⟨by (with_reducible repeat (first | apply Kd.R_alloc | apply Kd.rN_ | apply Kd.rD_)); exact xa.out⟩, ⟨xB_ HB⟩⟩
 case round =>
  clear H'
  try clear c1
  try clear p2
  try clear c3
  try clear sa
  try clear ta
  try clear c4
  try clear ua
  try clear va
  try clear p6
  obtain ⟨ba, da, aa, rfl, rfl, HA, HK1, ca, HB⟩ := hrel
  cases gk with
  | zero => exact absurd HA.out (by simp [n_divideSmall.l0])
  | succ k1 =>
   have H := HA.out
   clear HA
   simp only [n_divideSmall.l0] at H
   by_cases c7 : aa ≥ 0
   ·rw [if_pos c7] at H
    have ya : decide (0 ≤ aa) = true := decide_eq_true c7
    clear c7
    by_cases c8 : 0 ≤ aa
    rotate_left
    ·rw [if_neg c8] at H
     exact absurd H (by simp)
    rw [if_pos c8] at H
    have Fa : decide (0 ≤ aa) = true := decide_eq_true c8
    clear c8
    by_cases c9 : aa < (l0.length : Int)
    rotate_left
    ·rw [if_neg c9] at H
     exact absurd H (by simp)
    rw [if_pos c9] at H
    have Ga : decide (aa < (l0.length : Int)) = true := decide_eq_true c9
    clear c9
    by_cases c10 : (IntKind.u64.wrap (a1)) = 0
    ·rw [if_pos c10] at H
     exact absurd H (by simp)
    ·rw [if_neg c10] at H
     have Ha : ((IntKind.u64.wrap (a1)) == 0) = false := beq_eq_false_iff_ne.mpr c10
     have Ia : ((IntKind.u64.wrap (a1)) != 0) = true := bne_iff_ne.mpr c10
     by_cases c11 : aa < (ba.length : Int)
     rotate_left
     ·rw [if_neg c11] at H
      exact absurd H (by simp)
     rw [if_pos c11] at H
     have Ja : decide (aa < (ba.length : Int)) = true := decide_eq_true c11
     clear c11
     obtain ⟨ga, fa⟩ : ∃ y_ : List Int, y_ = (ba.set (aa : Int).toNat ((IntKind.u64.wrap (Int.tdiv (Go.bits .or .u64 (IntKind.u64.wrap (da * 4294967296)) (IntKind.u64.wrap (rd l0 aa))) (IntKind.u64.wrap (a1)))) % 4294967296)) := ⟨_, rfl⟩
     replace H : (n_divideSmall.l0 k1 l0 a1 ga (Int.tmod (Go.bits .or .u64 (IntKind.u64.wrap (da * 4294967296)) (IntKind.u64.wrap (rd l0 aa))) (IntKind.u64.wrap (a1))) (wrap64 (aa - 1))) = some (r1, r2) := by first | (rw [fa]; with_reducible exact H) | (have H2_ := (Option.bind_some _ _).symm.trans H; rw [fa]; with_reducible exact H2_) | (have H2_ := (Option.bind_some _ _).symm.trans H; with_reducible exact H2_) | with_reducible exact H | (rw [fa]; exact H) | exact H
     have za := A0_.mk fa
     clear fa
     have H' := A0_.mk H
     clear H
     have ha : 0 ≤ (aa : Int) := oD_
     have ia : aa < (l0.length : Int) := oD_
     obtain ⟨Ka, Aa, ja⟩ := Kd.at_int HR0.out aa ha ia
     cases Aa
     (try replace ja := cT_ HB ja)
     replace ha := eq_true ha
     replace ia := eq_true ia
     have p12 : 0 ≤ (aa : Int) := oD_
     have q12 : (aa : Int) < ((ba.length : Int) : Int) := oD_
     obtain ⟨ka, Ba, pa, qa, gl12, cl12, ra⟩ := Kd.R_form ca.out (by omega)
     (first | cases pa | (injection pa with ea_ en_ ec_; (first | subst ea_ | (injection ea_ with ea_; subst ea_)); subst ec_; clear en_))
     have GB12 := A0_.mk qa
     have GG12 := A0_.mk ra
     clear qa gl12 ra
     obtain ⟨La, Ma⟩ := Kd.R_celln 0 ca.out (aa : Int) p12 q12
     replace p12 := eq_true p12
     replace q12 := eq_true q12
     have HP13 := Kd.R_putg ca.out (aa : Int) ((IntKind.u64.wrap (Int.tdiv (Go.bits .or .u64 (IntKind.u64.wrap (da * 4294967296)) (IntKind.u64.wrap (rd l0 aa))) (IntKind.u64.wrap (a1)))) % 4294967296)
     go_wp2_with (first | ((with_reducible refine gate_store (t := 89) (p := 35) rfl ?_); refine store_event (t := 89) (p := 35) (v := ?vo_w14) (w1 := (wr.setCell ⟨ka, (aa : Int).toNat, none⟩ (.int .u32 ((IntKind.u64.wrap (Int.tdiv (Go.bits .or .u64 (IntKind.u64.wrap (da * 4294967296)) (IntKind.u64.wrap (rd l0 aa))) (IntKind.u64.wrap (a1)))) % 4294967296)))) ?hg ?ho ?hn ?hr ?_; (case ho => rfl); (case hg => rfl); (case hn => rfl); (case hr => first | (go_simp; done) | (go_simp; rfl)); intro w14 hw; have hg : wr.grownBy w14 (some ka) := (by rw [hw]; exact HP13.2); have hp_ : Kd.R (Kd.int .u32) 89 w14 w.heap.size (fun _ => True) (.slice (some ⟨ka, 0, none⟩) ba.length Ba) ga := (by rw [hw, za.out]; exact HP13.1); clear HP13; have n0_ := A0_.mk (hp_); have n1_ := A0_.mk ((by rw [hw]; exact bS_ (HB.out) GB12.out : Below w.heap.size w w14)); clear ca HB; have ca := n0_; have HB := n1_; clear n0_ n1_; clear hg hw hp_))
     (try simp only [ap_])
     go_roundg k1
     case measure => have := HK1.out; omega
     case rel => exact ⟨(ga), (Int.tmod (Go.bits .or .u64 (IntKind.u64.wrap (da * 4294967296)) (IntKind.u64.wrap (rd l0 aa))) (IntKind.u64.wrap (a1))), (wrap64 (aa - 1)), (rS_), (rS_), H', ⟨by have := HK1.out; omega⟩, ⟨by (with_reducible repeat (first | apply Kd.R_alloc | apply Kd.rN_ | apply Kd.rD_)); exact ca.out⟩, ⟨xB_ HB⟩⟩
   ·rw [if_neg c7] at H
    have ya : decide (0 ≤ aa) = false := decide_eq_false c7
    clear c7
    obtain ⟨Ca, A15, H⟩ := oB_ H
    (try dsimp only at H)
    simp only [Option.some.injEq, Prod.mk.injEq] at H
    obtain ⟨rfl, rfl⟩ := H
    obtain ⟨la, ma, Da⟩ := Kd.rS_' ca.out
    subst Da
    go_wp2_with (first | ((with_reducible refine gC_ (f := 79) rfl ?_); refine gL_ (some 41) rfl rfl Tryd.func79 kr_ rfl #[.slice la ba.length ma] rfl mp_ ?_; (with_reducible refine (n_limbs_trim.calls k1 (fun k_ => some k_ = (.slice la ba.length ma : Value).ownBlock) (.slice la ba.length ma) ba Ca w _ ?side1 ?side2 A15.out).mono ?_); (case side1 => repeat (first | (with_reducible first | exact HB.out | apply bA_ | apply pB_ | apply b1_) | exact HB.out)); (case side2 => exact Kd.R_tight rfl ca.out); rintro e w17 ⟨Na, rfl, ho0, hb, hkp⟩; refine ⟨_, rfl, ?_⟩; have n0_ := A0_.mk (Kd.rM_ (ok' := fun k_ => True) ho0 (fun k_ hk_ => trivial)); have n1_ := A0_.mk (hb); clear HB ca; have Ea := n0_; have HB := n1_; clear n0_ n1_; (try clear hb); (try clear hkp); (try clear ho0)))
    go_ret2
    exact ⟨_, rE_, by (with_reducible repeat (first | apply Kd.R_alloc | apply Kd.rN_ | apply Kd.rD_)); exact Ea.out, xB_ HB⟩
def n_divide.f (k : Nat) (l0 : List Int) (l1 : List Int) : Option (List Int × List Int) := (n_compare.f k l0 l1).bind fun t187 => (if t187 < 0 then (some (([] : List Int), l0)) else (if (l1.length : Int) = 1 then (if 0 < (l1.length : Int) then ((n_divideSmall.f k l0 (rd l1 0)).bind fun bt189 => ((n_limbs_trim.f k (([bt189.2] : List Int))).bind fun t196 => (some (bt189.1, t196)))) else (none)) else (none)))
theorem n_divide.mono : ∀ a0 a1 k, LeO (n_divide.f k a0 a1) (n_divide.f (k + 1) a0 a1) := by
 intro a0 a1 k
 unfold n_divide.f
 repeat' first
   | (with_reducible first | exact n_compare.mono _ _ _ | exact n_divideSmall.mono _ _ _ | exact n_limbs_trim.mono _ _ | exact LeO.refl _ | exact LeO.none _ | refine LeO.ite ?_ ?_ | refine LeO.bind ?_ (fun _ => ?_))
theorem n_divide.calls (k : Nat) (P0_ : Nat → Prop) (u9000_ : Value) (l0 : List Int) (A1 : Option Addr) (c1 : Nat) (l1 : List Int) (r1 : List Int) (r2 : List Int) (w0 w : World) (hB : Below w0.heap.size w0 w) (ho0 : Kd.R (Kd.int .u32) 89 w w0.heap.size P0_ u9000_ l0) (hr1 : ∀ W_, Kept w W_ (fun k_ => P0_ k_) → Kd.C (Kd.int .u32) W_ A1 l1.length l1) (hc1 : l1.length ≤ c1) (h : n_divide.f k l0 l1 = some (r1, r2)) :
  Calls Tryd.prog 88 #[u9000_, .slice A1 l1.length c1] w fun e w' => ∃ v0_ v1_ : Value, e = .returned (.tuple #[v0_, v1_]) ∧ Kd.R (Kd.int .u32) 89 w' w0.heap.size (fun k_ => (P0_ k_ ∨ w.heap.size ≤ k_) ∧ some k_ ≠ (v1_ : Value).ownBlock) v0_ r1 ∧ Kd.R (Kd.int .u32) 89 w' w0.heap.size (fun k_ => (P0_ k_ ∨ w.heap.size ≤ k_) ∧ some k_ ≠ (v0_ : Value).ownBlock) v1_ r2 ∧ Below w0.heap.size w0 w' ∧ Kept w w' (fun k_ => P0_ k_) := by
 have HO0 := A0_.mk (show Kd.R (Kd.int .u32) 89 w w0.heap.size (fun k_ => (P0_ k_ ∨ w.heap.size ≤ k_)) u9000_ l0 from Kd.rM_ ho0 (fun k_ hk => (.inl hk)))
 have HR1 := A0_.mk hr1
 have HC1 := A0_.mk hc1
 clear hr1 hc1
 have HK := A0_.mk (Kept.refl w (fun k_ => P0_ k_))
 have HW0 := A0_.mk hB.size
 have HB := A0_.mk hB
 clear hB
 have H := h
 unfold n_divide.f at H
 clear h
 obtain ⟨da, A3, H⟩ := oB_ H
 (try dsimp only at H)
 by_cases c4 : da < 0
 ·rw [if_pos c4] at H
  have ta : decide (da < 0) = true := decide_eq_true c4
  clear c4
  simp only [Option.some.injEq, Prod.mk.injEq] at H
  obtain ⟨rfl, rfl⟩ := H
  obtain ⟨Ao5, co5, eo5⟩ := Kd.rS_' HO0.out
  subst eo5
  go_enter Tryd.func88, Tryd.ntmps88
  go_wp2_with (first | ((with_reducible refine gC_ (f := 81) rfl ?_); refine gL_ (some 16) rfl rfl Tryd.func81 kr_ rfl #[.slice Ao5 l0.length co5, .slice A1 l1.length c1] rfl mp_ ?_; (with_reducible refine (n_compare.calls k _ _ l0 _ _ l1 da _ ?side1 ?side2 ?side3 ?side4 A3.out).mono ?_); (case side1 => repeat (first | exact (Kd.rr_' HO0.out).2.2 | (with_reducible refine Kd.C_alloc ?_ _) | (with_reducible refine Kd.C_drewN ?_ _) | (with_reducible refine Kd.C_drew ?_))); (case side2 => exact (Kd.rr_' HO0.out).2.1); (case side3 => exact Kd.C_kept_now HR1.out (by repeat (first | (with_reducible first | exact HK.out | apply Kept.alloc | apply Kept.drewN | apply Kept.drew) | exact HK.out))); (case side4 => exact HC1.out); rintro e w' ⟨rfl, ⟨nd, rfl⟩⟩; refine ⟨_, rfl, ?_⟩))
  go_ret2
  exact ⟨_, _, rE_, by first | exact Kd.R_nil _ _ _ _ _ | exact Kd.N_nil _ _ _ _ _ | exact Kd.V_nil _ _ _ _ _ | exact Kd.Q_nil _ _ _ _ _ | exact Kd.S_nil _ _ _ _ _, by (with_reducible repeat (first | apply Kd.R_alloc | apply Kd.rN_ | apply Kd.rD_)); exact Kd.rM_ HO0.out (fun _ hk => ⟨hk, (by simp [Value.ownBlock])⟩), xB_ HB, by repeat (first | (with_reducible first | exact HK.out | apply Kept.alloc | apply Kept.drewN | apply Kept.drew) | exact HK.out)⟩
 ·rw [if_neg c4] at H
  have ta : decide (da < 0) = false := decide_eq_false c4
  clear c4
  by_cases c6 : (l1.length : Int) = 1
  rotate_left
  ·rw [if_neg c6] at H
   exact absurd H (by simp)
  rw [if_pos c6] at H
  have ya : ((l1.length : Int) == 1) = true := beq_iff_eq.mpr c6
  have za : ((l1.length : Int) != 1) = false := bne_eq_false_iff_eq.mpr c6
  clear c6
  by_cases c7 : 0 < (l1.length : Int)
  rotate_left
  ·rw [if_neg c7] at H
   exact absurd H (by simp)
  rw [if_pos c7] at H
  have Aa : decide (0 < (l1.length : Int)) = true := decide_eq_true c7
  have Ba : decide (0 < l1.length) = true := decide_eq_true (by omega)
  clear c7
  obtain ⟨⟨oa, ca⟩, A8, H⟩ := oB_ H
  (try dsimp only at H)
  obtain ⟨ea, fa⟩ : ∃ y_ : List Int, y_ = (([ca] : List Int)) := ⟨_, rfl⟩
  replace H : ((n_limbs_trim.f k ea).bind fun ja => (some (oa, ja))) = some (r1, r2) := by first | (rw [fa]; with_reducible exact H) | (have H2_ := (Option.bind_some _ _).symm.trans H; rw [fa]; with_reducible exact H2_) | (have H2_ := (Option.bind_some _ _).symm.trans H; with_reducible exact H2_) | with_reducible exact H | (rw [fa]; exact H) | exact H
  have pa := A0_.mk fa
  clear fa
  obtain ⟨ja, A9, H⟩ := oB_ H
  (try dsimp only at H)
  simp only [Option.some.injEq, Prod.mk.injEq] at H
  obtain ⟨rfl, rfl⟩ := H
  obtain ⟨ha, ia, ua⟩ := Kd.rS_' HO0.out
  subst ua
  go_enter Tryd.func88, Tryd.ntmps88
  go_wp2_with (first | ((with_reducible refine gC_ (f := 81) rfl ?_); refine gL_ (some 16) rfl rfl Tryd.func81 kr_ rfl #[.slice ha l0.length ia, .slice A1 l1.length c1] rfl mp_ ?_; (with_reducible refine (n_compare.calls k _ _ l0 _ _ l1 da _ ?side1 ?side2 ?side3 ?side4 A3.out).mono ?_); (case side1 => repeat (first | exact (Kd.rr_' HO0.out).2.2 | (with_reducible refine Kd.C_alloc ?_ _) | (with_reducible refine Kd.C_drewN ?_ _) | (with_reducible refine Kd.C_drew ?_))); (case side2 => exact (Kd.rr_' HO0.out).2.1); (case side3 => exact Kd.C_kept_now HR1.out (by repeat (first | (with_reducible first | exact HK.out | apply Kept.alloc | apply Kept.drewN | apply Kept.drew) | exact HK.out))); (case side4 => exact HC1.out); rintro e w' ⟨rfl, ⟨nd, rfl⟩⟩; refine ⟨_, rfl, ?_⟩; have ka : 0 ≤ (0 : Int) := (by omega); have la : 0 < (l1.length : Int) := oD_; obtain ⟨Ca, va, qa⟩ := Kd.at_int (Kd.C_kept_now HR1.out HK.out) 0 ka la; cases va; have Da : (0 < l1.length) = True := eq_true (by omega); (try rw [show ((0 : Int)).toNat = 0 from rfl] at qa); (try rw [Addr.add_zero'] at qa); replace ka := eq_true ka; replace la := eq_true la) | ((with_reducible refine gC_ (f := 105) rfl ?_); refine gL_ (some 27) rfl rfl Tryd.func105 kr_ rfl #[.slice ha l0.length ia, .int .u32 (rd l1 0)] rfl mp_ ?_; (with_reducible refine (n_divideSmall.calls k _ _ l0 (rd l1 0) oa ca _ ?side1 ?side2 A8.out).mono ?_); (case side1 => repeat (first | exact (Kd.rr_' HO0.out).2.2 | (with_reducible refine Kd.C_alloc ?_ _) | (with_reducible refine Kd.C_drewN ?_ _) | (with_reducible refine Kd.C_drew ?_))); (case side2 => exact (Kd.rr_' HO0.out).2.1); rintro e w11 ⟨ra, rfl, ho0, hb⟩; refine ⟨_, rfl, ?_⟩; have n0_ := A0_.mk (Kd.R_elder' (xR_ HO0.out) (Kd.R_base ho0) hb); have n1_ := A0_.mk (Kd.rL_ (Kd.R_new' (Kd.R_newM (M := fun k_ => (P0_ k_ ∨ w.heap.size ≤ k_)) ho0 (by first | exact HK.out.1 | exact (show Kept w _ (fun k_ => P0_ k_) from by repeat (first | (with_reducible first | exact HK.out | apply Kept.alloc | apply Kept.drewN | apply Kept.drew) | exact HK.out)).1) (fun k_ h_ => .inr h_)) (Kd.R_lt (xR_ HO0.out))) (bZ_ (xB_ HB))); have n2_ := A0_.mk (Kept.below (S := (fun k_ => P0_ k_)) (by repeat (first | (with_reducible first | exact HK.out | apply Kept.alloc | apply Kept.drewN | apply Kept.drew) | exact HK.out)) hb); have n3_ := A0_.mk (bT_ (xB_ HB) hb); clear HO0 HK HB; have HO0 := n0_; have aa := n1_; have HK := n2_; have HB := n3_; clear n0_ n1_ n2_ n3_; (try clear hb); (try clear hb2); (try clear hk); (try clear hi); (try clear ho0)) | ((with_reducible refine gD_ (N := 32) rfl ?_); refine Kd.R_lit (Kd.int .u32) _ 89 ?hg (N := 32) ?hd (xs := ([ca] : List Int)) (inner := [.int .u32 ca]) (ok := fun _ => True) (okp := fun _ => True) ?hr ?hp (fun _ hk => hk) trivial (Below.refl _ _) (Nat.le_refl _) (by simp) ?_; (case hd => rfl); (case hg => rfl); (case hr => first | (go_simp; done) | (go_simp; rfl)); (case hp => exact (Reps.one (show Kd.M (Kd.int .u32) _ _ _ ca [.int .u32 ca] from rfl) (Reps.none _ _))); intro Ea w12 ba hb hg_ hnew_; clear hg_ hnew_; (first | rw [← pa.out] at ba | (simp only [Int.reduceToNat] at ba; rw [← pa.out] at ba)); have n0_ := A0_.mk (Kd.R_elder' (xR_ HO0.out) (Kd.R_base ba) hb); have n1_ := A0_.mk (Kd.R_elder' (xR_ aa.out) (Kd.R_base ba) hb); have n2_ := A0_.mk (Kd.rL_ (Kd.R_new' (Kd.R_new' (Kd.R_newM (M := fun k_ => (P0_ k_ ∨ w.heap.size ≤ k_)) ba (by first | exact HK.out.1 | exact (show Kept w _ (fun k_ => P0_ k_) from by repeat (first | (with_reducible first | exact HK.out | apply Kept.alloc | apply Kept.drewN | apply Kept.drew) | exact HK.out)).1) (fun k_ h_ => .inr h_)) (Kd.R_lt (xR_ HO0.out))) (Kd.R_lt (xR_ aa.out))) (bZ_ (xB_ HB))); have n3_ := A0_.mk (Kept.below (S := (fun k_ => P0_ k_)) (by repeat (first | (with_reducible first | exact HK.out | apply Kept.alloc | apply Kept.drewN | apply Kept.drew) | exact HK.out)) hb); have n4_ := A0_.mk (bT_ (xB_ HB) hb); clear HO0 aa HK HB; have HO0 := n0_; have aa := n1_; have ga := n2_; have HK := n3_; have HB := n4_; clear n0_ n1_ n2_ n3_ n4_; clear hb ba; obtain ⟨ma, na, wa⟩ := Kd.rS_' ga.out; subst wa) | ((with_reducible refine gC_ (f := 79) rfl ?_); refine gL_ (some 33) rfl rfl Tryd.func79 kr_ rfl #[.slice ma ea.length na] rfl mp_ ?_; (with_reducible refine (n_limbs_trim.calls k (fun k_ => some k_ = (.slice ma ea.length na : Value).ownBlock) (.slice ma ea.length na) ea ja w0 _ ?side1 ?side2 A9.out).mono ?_); (case side1 => repeat (first | (with_reducible first | exact HB.out | apply bA_ | apply pB_ | apply b1_) | exact HB.out)); (case side2 => exact Kd.R_tight rfl ga.out); rintro e w15 ⟨sa, rfl, ho0, hb, hkp⟩; refine ⟨_, rfl, ?_⟩; have n0_ := A0_.mk (Kd.rM_ (ok' := fun k_ => (P0_ k_ ∨ w.heap.size ≤ k_) ∧ some k_ ≠ (ra : Value).ownBlock ∧ some k_ ≠ (sa : Value).ownBlock) (Kd.R_keptB (HO0.out) hkp (fun k_ hk_ hs_ => (hk_.2) hs_)) (fun k_ hk_ => ⟨hk_.1.1.1, hk_.1.1.2, fun e_ => Or.elim (ho0.1 k_ e_.symm) (fun hs_ => hk_.2.1 hs_) (fun hn_ => Nat.not_le.2 hk_.2.2 hn_)⟩)); have n1_ := A0_.mk (Kd.rM_ (ok' := fun k_ => (P0_ k_ ∨ w.heap.size ≤ k_) ∧ some k_ ≠ (.slice ha l0.length ia : Value).ownBlock ∧ some k_ ≠ (sa : Value).ownBlock) (Kd.R_keptB (aa.out) hkp (fun k_ hk_ hs_ => (hk_.2) hs_)) (fun k_ hk_ => ⟨hk_.1.1.1.1, hk_.1.1.2, fun e_ => Or.elim (ho0.1 k_ e_.symm) (fun hs_ => hk_.2.1 hs_) (fun hn_ => Nat.not_le.2 hk_.2.2 hn_)⟩)); have n2_ := A0_.mk (Kd.rM_ (ok' := fun k_ => (P0_ k_ ∨ w.heap.size ≤ k_) ∧ some k_ ≠ (.slice ha l0.length ia : Value).ownBlock ∧ some k_ ≠ (ra : Value).ownBlock) ho0 (fun k_ hk_ => ⟨Or.elim hk_ (fun hs_ => (ga.out.1 k_ (hs_).symm).1.1.1) (fun hn_ => (.inr (Nat.le_trans (by first | exact HK.out.1 | exact (show Kept w _ (fun k_ => P0_ k_) from by repeat (first | (with_reducible first | exact HK.out | apply Kept.alloc | apply Kept.drewN | apply Kept.drew) | exact HK.out)).1) hn_))), Or.elim hk_ (fun hs_ => fun e_ => (((HO0.out).1 k_ e_.symm).2) hs_) (fun hn_ => (Kd.fresh' (Kd.R_lt (xR_ HO0.out)) k_ hn_)), Or.elim hk_ (fun hs_ => fun e_ => (((aa.out).1 k_ e_.symm).2) hs_) (fun hn_ => (Kd.fresh' (Kd.R_lt (xR_ aa.out)) k_ hn_))⟩)); have n3_ := A0_.mk (Kept.then_ (S := (fun k_ => P0_ k_)) (by repeat (first | (with_reducible first | exact HK.out | apply Kept.alloc | apply Kept.drewN | apply Kept.drew) | exact HK.out)) hkp (fun k_ hs_ => (fun e_ => (ga.out.1 k_ e_.symm).1.1.1) hs_)); have n4_ := A0_.mk (hb); clear HO0 aa HK HB ga; have HO0 := n0_; have aa := n1_; have xa := n2_; have HK := n3_; have HB := n4_; clear n0_ n1_ n2_ n3_ n4_; (try clear hb); (try clear hkp); (try clear ho0)))
  go_ret2
  exact ⟨_, _, rE_, by (with_reducible repeat (first | apply Kd.R_alloc | apply Kd.rN_ | apply Kd.rD_)); exact Kd.rM_ aa.out (fun _ hk => ⟨hk.1, hk.2.2⟩), by (with_reducible repeat (first | apply Kd.R_alloc | apply Kd.rN_ | apply Kd.rD_)); exact Kd.rM_ xa.out (fun _ hk => ⟨hk.1, hk.2.2⟩), xB_ HB, by repeat (first | (with_reducible first | exact HK.out | apply Kept.alloc | apply Kept.drewN | apply Kept.drew) | exact HK.out)⟩
def n_parse.l0 : Nat → ByteArray → List Int → Int → Int → Option (List Int)
 | 0, _, _, _, _ => none
 | k + 1, x0, x3, x12, x13 => if x13 < x12 then (if 0 ≤ (wrap64 (Int.tdiv x13 4)) then (if (wrap64 (Int.tdiv x13 4)) < (x3.length : Int) then (if 0 ≤ (wrap64 ((wrap64 ((x0.size : Int) - 1)) - x13)) then (if (wrap64 ((wrap64 ((x0.size : Int) - 1)) - x13)) < (x0.size : Int) then (if 0 ≤ (wrap64 (8 * (Int.tmod x13 4))) then (n_parse.l0 k x0 (x3.set ((wrap64 (Int.tdiv x13 4)) : Int).toNat (Go.bits .or .u32 (rd x3 (wrap64 (Int.tdiv x13 4))) (shl .u32 ((bt x0 (wrap64 ((wrap64 ((x0.size : Int) - 1)) - x13))) % 4294967296) (wrap64 (8 * (Int.tmod x13 4)))))) x12 (wrap64 (x13 + 1))) else (none)) else (none)) else (none)) else (none)) else (none)) else ((n_limbs_trim.f k x3).bind fun t123 => (some t123))
def n_parse.f (k : Nat) (a0 : ByteArray) : Option (List Int) := if 0 ≤ (wrap64 (Int.tdiv (wrap64 ((wrap64 ((a0.size : Int) + 4)) - 1)) 4)) then (if (wrap64 (Int.tdiv (wrap64 ((wrap64 ((a0.size : Int) + 4)) - 1)) 4) : Int).toNat ≤ 70368744177664 then (n_parse.l0 k a0 (List.replicate (wrap64 (Int.tdiv (wrap64 ((wrap64 ((a0.size : Int) + 4)) - 1)) 4) : Int).toNat 0) (a0.size : Int) 0) else (none)) else (none)
theorem n_parse.mono_l : ∀ k, (∀ y0 y1 y2 y3, LeO (n_parse.l0 k y0 y1 y2 y3) (n_parse.l0 (k + 1) y0 y1 y2 y3))
 | 0 => fun _ _ _ _ r h => by simp [n_parse.l0] at h
 | k + 1 => by
  have ih0 := n_parse.mono_l k
  ·intro y0 y1 y2 y3
   unfold n_parse.l0
   repeat' first
   | (with_reducible first | exact ih0 _ _ _ _ | exact n_limbs_trim.mono _ _ | exact LeO.refl _ | exact LeO.none _ | refine LeO.ite ?_ ?_ | refine LeO.bind ?_ (fun _ => ?_))
theorem n_parse.mono : ∀ a0 k, LeO (n_parse.f k a0) (n_parse.f (k + 1) a0) := by
 intro a0 k
 have ih0 := n_parse.mono_l k
 unfold n_parse.f
 repeat' first
   | (with_reducible first | exact ih0 _ _ _ _ | exact n_limbs_trim.mono _ _ | exact LeO.refl _ | exact LeO.none _ | refine LeO.ite ?_ ?_ | refine LeO.bind ?_ (fun _ => ?_))
def n_parse.T5 : Bool × List (List Nat × List Nat) := (true, [([], []), ([], []), ([1], [1]), ([0, 2], [0, 2]), ([3], [3]), ([], []), ([], []), ([6], [6]), ([7], [7]), ([], []), ([8, 9], [8, 9]), ([5, 10], [5, 10]), ([11], [11]), ([], []), ([13], [13]), ([14], [14]), ([12, 15], [12, 15]), ([4, 16], [4, 16]), ([0, 2, 0, 1, 2, 3, 4, 5, 6, 7, 8, 9, 10, 11, 12, 13, 14, 15, 16, 17], [0, 2]), ([18, 17, 0, 1, 2, 3, 4, 5, 6, 7, 8, 9, 10, 11, 12, 13, 14, 15, 16, 17], [17, 18])])
def n_parse.B5 : List Nat := [0, 0, 2, 7, 15, 0, 0, 64, 192, 0, 960, 2016, 4064, 0, 8192, 24576, 65504, 131071, 262143, 524287]
theorem n_parse.tab5 : rtab .any (opsOf Tryd.f64 5) = n_parse.T5 := by kernel_rfl
theorem n_parse.bits5 : waitsOk n_parse.T5.2 n_parse.B5 = true := by kernel_rfl
theorem n_parse.calls (k : Nat) (a0 : ByteArray) (r : List Int) (w : World) (h : n_parse.f k a0 = some r) :
  Calls Tryd.prog 64 #[.string a0] w fun e w' => ∃ v0_ : Value, e = .returned (v0_) ∧ Kd.R (Kd.int .u32) 89 w' w.heap.size (fun _ => True) v0_ r ∧ Below w.heap.size w w' := by
 have HB := A0_.mk (Below.refl w.heap.size w)
 have H := h
 unfold n_parse.f at H
 clear h
 obtain ⟨ji2, ia⟩ : ∃ j_ : Int, (wrap64 (Int.tdiv (wrap64 ((wrap64 ((a0.size : Int) + 4)) - 1)) 4)) = j_ := ⟨_, rfl⟩
 replace H : (if 0 ≤ (ji2) then (if (ji2 : Int).toNat ≤ 70368744177664 then (n_parse.l0 k a0 (List.replicate (ji2 : Int).toNat 0) (a0.size : Int) 0) else (none)) else (none)) = some r := by first | (rw [ia] at H; exact H) | (simp only [ia] at H ⊢; exact H)
 have Ra : (IntKind.i64.wrap (Int.tdiv (wrap64 ((wrap64 ((a0.size : Int) + 4)) - 1)) 4)) = ji2 := (i6_ _).trans ia
 by_cases c3 : 0 ≤ (ji2)
 rotate_left
 ·rw [if_neg c3] at H
  exact absurd H (by simp)
 rw [if_pos c3] at H
 have Aa := eq_true c3
 have Ba : decide (0 ≤ (ji2)) = true := decide_eq_true c3
 clear c3
 by_cases c4 : (ji2 : Int).toNat ≤ 70368744177664
 rotate_left
 ·rw [if_neg c4] at H
  exact absurd H (by simp)
 rw [if_pos c4] at H
 have Ca := eq_true c4
 have Da : decide ((ji2 : Int).toNat ≤ 70368744177664) = true := decide_eq_true c4
 clear c4
 obtain ⟨ta, ga⟩ : ∃ y_ : List Int, y_ = (List.replicate (ji2 : Int).toNat 0) := ⟨_, rfl⟩
 replace H : (n_parse.l0 k a0 ta (a0.size : Int) 0) = some r := by first | (rw [ga]; with_reducible exact H) | (have H2_ := (Option.bind_some _ _).symm.trans H; rw [ga]; with_reducible exact H2_) | (have H2_ := (Option.bind_some _ _).symm.trans H; with_reducible exact H2_) | with_reducible exact H | (rw [ga]; exact H) | exact H
 have ua := A0_.mk ga
 clear ga
 have H' := A0_.mk H
 clear H
 go_enter Tryd.func64, Tryd.ntmps64
 go_wp2_with (first | ((with_reducible refine gD_ (N := 10) rfl ?_); refine Kd.R_make (Kd.int .u32) _ 89 rfl (N := 10) rfl 87 _ _ rfl ji2 rfl rfl Tryd.underlying87 (.int .u32 0) 4 info89 rfl (by decide) (by omega) 0 (ok := fun _ => True) (okp := fun _ => True) rfl (fun _ hk => hk) trivial (oD_) (Nat.le_trans (Nat.mul_le_mul_right _ (oD_ : ji2.toNat ≤ 70368744177664)) (by omega)) (Below.refl _ _) (Nat.le_refl _) ?_; intro Ea w5 ho6 hb hg_ hnew_; clear hg_ hnew_; (first | rw [← ua.out] at ho6 | (simp only [Int.reduceToNat] at ho6; rw [← ua.out] at ho6)); have n0_ := A0_.mk (Kd.rL_ ho6 (bZ_ (xB_ HB))); have n1_ := A0_.mk (bT_ (xB_ HB) hb); clear HB; have Fa := n0_; have HB := n1_; clear n0_ n1_; clear hb ho6))
 go_loopg [13] k (fun kq v13 w' => ∃ (ba : List Int) (aa : Int), v13 = .int .i64 aa ∧ A0_ (n_parse.l0 kq a0 ba (a0.size : Int) aa = some r) ∧ A0_ (kq ≤ k) ∧ A0_ (Kd.R (Kd.int .u32) 89 w' w.heap.size (fun _ => True) Ea ba) ∧ A0_ (Below w.heap.size w w'))
 case atStart => exact ⟨(ta), (0), (rS_), H', ⟨Nat.le_refl _⟩, ⟨by (with_reducible repeat (first | apply Kd.R_alloc | apply Kd.rN_ | apply Kd.rD_)); exact Fa.out⟩, ⟨xB_ HB⟩⟩
 case round =>
  clear H'
  try clear p2
  try clear c3
  try clear Aa
  try clear Ba
  try clear c4
  try clear Ca
  try clear Da
  try clear c6
  try clear p6
  obtain ⟨ba, aa, rfl, HA, HK1, da, HB⟩ := hrel
  cases gk with
  | zero => exact absurd HA.out (by simp [n_parse.l0])
  | succ k1 =>
   have H := HA.out
   clear HA
   simp only [n_parse.l0] at H
   by_cases c7 : aa < (a0.size : Int)
   ·rw [if_pos c7] at H
    have Ga : decide (aa < (a0.size : Int)) = true := decide_eq_true c7
    clear c7
    obtain ⟨ji8, ka⟩ : ∃ j_ : Int, (wrap64 (Int.tdiv aa 4)) = j_ := ⟨_, rfl⟩
    replace H : (if 0 ≤ (ji8) then (if (ji8) < (ba.length : Int) then (if 0 ≤ (wrap64 ((wrap64 ((a0.size : Int) - 1)) - aa)) then (if (wrap64 ((wrap64 ((a0.size : Int) - 1)) - aa)) < (a0.size : Int) then (if 0 ≤ (wrap64 (8 * (Int.tmod aa 4))) then (n_parse.l0 k1 a0 (ba.set ((ji8) : Int).toNat (Go.bits .or .u32 (rd ba (ji8)) (shl .u32 ((bt a0 (wrap64 ((wrap64 ((a0.size : Int) - 1)) - aa))) % 4294967296) (wrap64 (8 * (Int.tmod aa 4)))))) (a0.size : Int) (wrap64 (aa + 1))) else (none)) else (none)) else (none)) else (none)) else (none)) = some r := by first | (rw [ka] at H; exact H) | (simp only [ka] at H ⊢; exact H)
    have Sa : (IntKind.i64.wrap (Int.tdiv aa 4)) = ji8 := (i6_ _).trans ka
    by_cases c9 : 0 ≤ (ji8)
    rotate_left
    ·rw [if_neg c9] at H
     exact absurd H (by simp)
    rw [if_pos c9] at H
    have Ta : decide (0 ≤ (ji8)) = true := decide_eq_true c9
    clear c9
    by_cases c10 : (ji8) < (ba.length : Int)
    rotate_left
    ·rw [if_neg c10] at H
     exact absurd H (by simp)
    rw [if_pos c10] at H
    have Ua : decide ((ji8) < (ba.length : Int)) = true := decide_eq_true c10
    clear c10
    obtain ⟨ca, la⟩ : ∃ j_ : Int, (wrap64 ((wrap64 ((a0.size : Int) - 1)) - aa)) = j_ := ⟨_, rfl⟩
    replace H : (if 0 ≤ (ca) then (if (ca) < (a0.size : Int) then (if 0 ≤ (wrap64 (8 * (Int.tmod aa 4))) then (n_parse.l0 k1 a0 (ba.set ((ji8) : Int).toNat (Go.bits .or .u32 (rd ba (ji8)) (shl .u32 ((bt a0 (ca)) % 4294967296) (wrap64 (8 * (Int.tmod aa 4)))))) (a0.size : Int) (wrap64 (aa + 1))) else (none)) else (none)) else (none)) = some r := by first | (rw [la] at H; exact H) | (simp only [la] at H ⊢; exact H)
    have Va : (IntKind.i64.wrap ((wrap64 ((a0.size : Int) - 1)) - aa)) = ca := (i6_ _).trans la
    by_cases c12 : 0 ≤ (ca)
    rotate_left
    ·rw [if_neg c12] at H
     exact absurd H (by simp)
    rw [if_pos c12] at H
    have Wa : decide (0 ≤ (ca)) = true := decide_eq_true c12
    clear c12
    by_cases c13 : (ca) < (a0.size : Int)
    rotate_left
    ·rw [if_neg c13] at H
     exact absurd H (by simp)
    rw [if_pos c13] at H
    have Xa : decide ((ca) < (a0.size : Int)) = true := decide_eq_true c13
    clear c13
    obtain ⟨ea, ma⟩ : ∃ j_ : Int, (wrap64 (8 * (Int.tmod aa 4))) = j_ := ⟨_, rfl⟩
    replace H : (if 0 ≤ (ea) then (n_parse.l0 k1 a0 (ba.set ((ji8) : Int).toNat (Go.bits .or .u32 (rd ba (ji8)) (shl .u32 ((bt a0 (ca)) % 4294967296) (ea)))) (a0.size : Int) (wrap64 (aa + 1))) else (none)) = some r := by first | (rw [ma] at H; exact H) | (simp only [ma] at H ⊢; exact H)
    have Ya : (IntKind.i64.wrap (8 * (Int.tmod aa 4))) = ea := (i6_ _).trans ma
    by_cases c16 : 0 ≤ (ea)
    rotate_left
    ·rw [if_neg c16] at H
     exact absurd H (by simp)
    rw [if_pos c16] at H
    have Za := eq_true c16
    have ab : decide (0 ≤ (ea)) = true := decide_eq_true c16
    clear c16
    obtain ⟨fa, ja⟩ : ∃ j_ : Int, (shl .u32 ((bt a0 (ca)) % 4294967296) (ea)) = j_ := ⟨_, rfl⟩
    replace H : (n_parse.l0 k1 a0 (ba.set ((ji8) : Int).toNat (Go.bits .or .u32 (rd ba (ji8)) (fa))) (a0.size : Int) (wrap64 (aa + 1))) = some r := by first | (rw [ja] at H; exact H) | (simp only [ja] at H ⊢; exact H)
    have Ha : (IntKind.u32.wrap (((bt a0 (ca)) % 4294967296) * 2 ^ min (ea).toNat 32)) = fa := ja
    have hji17z : (ea) ≤ 32 → (IntKind.u32.wrap (((bt a0 (ca)) % 4294967296) * 2 ^ (ea).toNat)) = fa := shl_small ja
    have Ia : (((bt a0 (ca)) % 4294967296) * 2 ^ min (ea).toNat 32) % 4294967296 = fa := by rw [← Ha]; simp [IntKind.wrap, IntKind.bits, IntKind.signed]
    obtain ⟨va, ha⟩ : ∃ y_ : List Int, y_ = (ba.set ((ji8) : Int).toNat (Go.bits .or .u32 (rd ba (ji8)) (fa))) := ⟨_, rfl⟩
    replace H : (n_parse.l0 k1 a0 va (a0.size : Int) (wrap64 (aa + 1))) = some r := by first | (rw [ha]; with_reducible exact H) | (have H2_ := (Option.bind_some _ _).symm.trans H; rw [ha]; with_reducible exact H2_) | (have H2_ := (Option.bind_some _ _).symm.trans H; with_reducible exact H2_) | with_reducible exact H | (rw [ha]; exact H) | exact H
    have Ja := A0_.mk ha
    clear ha
    have H' := A0_.mk H
    clear H
    try go_wp2
    have n0_ := A0_.mk (Kd.rD_ da.out)
    have n1_ := A0_.mk (b1_ HB.out)
    clear da
    clear HB
    have da := n0_
    have HB := n1_
    clear n0_ n1_
    obtain ⟨bb, cb, wa⟩ := Kd.rS_' da.out
    (first | subst wa | (injection wa with f1_ f2_ f3_; have f4_ := f1_.symm; have f5_ := f3_.symm; clear f1_ f2_ f3_; subst f4_; subst f5_))
    have na : 0 ≤ ((ji8) : Int) := oD_
    have oa : (ji8) < (ba.length : Int) := oD_
    obtain ⟨db, Ka, pa⟩ := Kd.at_int (Kd.rr_' da.out).2.2 (ji8) na oa
    cases Ka
    replace na := eq_true na
    replace oa := eq_true oa
    have p14 : 0 ≤ ((ca) : Int) := oD_
    have q14 : (ca) < (a0.size : Int) := oD_
    have eb := bt_at a0 (ca)
    replace p14 := eq_true p14
    replace q14 := eq_true q14
    have p18 : 0 ≤ ((ji8) : Int) := oD_
    have q18 : ((ji8) : Int) < ((ba.length : Int) : Int) := oD_
    obtain ⟨La, fb, xa, ya, gl18, cl18, za⟩ := Kd.R_form da.out (by omega)
    (first | cases xa | (injection xa with ea_ en_ ec_; (first | subst ea_ | (injection ea_ with ea_; subst ea_)); subst ec_; clear en_))
    have GB18 := A0_.mk ya
    have GG18 := A0_.mk za
    clear ya gl18 za
    (first | simp only [ap_] at pa | skip)
    obtain ⟨Ma, Na⟩ := Kd.R_celln 0 da.out ((ji8) : Int) p18 q18
    replace p18 := eq_true p18
    replace q18 := eq_true q18
    have HP21 := Kd.R_putn da.out ((ji8) : Int) (Go.bits .or .u32 (rd ba (ji8)) (fa))
    rw [← Ja.out] at HP21
    have qa := A0_.mk HP21
    clear HP21
    refine start_ (n := 20) (S := fun w' => w'.cell? ⟨La, ((ji8)).toNat, none⟩ = some (.int .u32 (rd ba (ji8)))) (ds := [19]) #[false, false, false, false, false, false, false, false, false, false, false, false, false, false, false, false, false, false, false, false] kr_ rfl rfl (pa) (fun hHeld => ?_); refine with_tabW n_parse.tab5 n_parse.bits5 (fun HT_ HW_ => ?_)
    generalize wr.drew = w19 at da HB GG18 qa Na pa Ma hHeld ⊢
    refine pu_ (i := 0) (N := some 16) (v := ?_) (a' := ?_) #[true, false, false, false, false, false, false, false, false, false, false, false, false, false, false, false, false, false, false, false] rfl rfl (an_ HT_.out kr_) (fun _ _ _ h => h) (Or.inl ⟨by rfl, ?_⟩) ?_ ?_
    rotate_left
    ·intro w'
     go_simp
     with_reducible rfl
    rotate_left
    ·simp only [Act.put, s1_, s2_, s3_, i6_, i3_]
     rfl
    refine pu_ (i := 1) (N := some 17) (v := ?_) (a' := ?_) #[true, true, false, false, false, false, false, false, false, false, false, false, false, false, false, false, false, false, false, false] rfl rfl (an_ HT_.out kr_) (fun _ _ _ h => h) (Or.inl ⟨by rfl, ?_⟩) ?_ ?_
    rotate_left
    ·intro w'
     go_simp
     with_reducible rfl
    rotate_left
    ·simp only [Act.put, s1_, s2_, s3_, i6_, i3_]
     rfl
    refine pu_ (i := 2) (N := some 18) (v := ?_) (a' := ?_) #[true, true, true, false, false, false, false, false, false, false, false, false, false, false, false, false, false, false, false, false] rfl rfl (an_ HT_.out kr_) (fun _ _ _ h => h) (Or.inl ⟨by rfl, ?_⟩) ?_ ?_
    rotate_left
    ·intro w'
     go_simp
     with_reducible rfl
    rotate_left
    ·simp only [Act.put, s1_, s2_, s3_, i6_, i3_]
     rfl
    refine pu_ (i := 3) (N := some 19) (v := ?_) (a' := ?_) #[true, true, true, true, false, false, false, false, false, false, false, false, false, false, false, false, false, false, false, false] rfl rfl (an_ HT_.out kr_) (fun _ _ _ h => h) (Or.inl ⟨by rfl, ?_⟩) ?_ ?_
    rotate_left
    ·intro w'
     go_simp
     with_reducible rfl
    rotate_left
    ·simp only [Act.put, s1_, s2_, s3_, i6_, i3_]
     rfl
    refine pu_ (i := 5) (N := some 21) (v := ?_) (a' := ?_) #[true, true, true, true, false, true, false, false, false, false, false, false, false, false, false, false, false, false, false, false] rfl rfl (an_ HT_.out kr_) (fun _ _ _ h => h) (Or.inl ⟨by rfl, ?_⟩) ?_ ?_
    rotate_left
    ·intro w'
     go_simp
     with_reducible rfl
    rotate_left
    ·simp only [Act.put, s1_, s2_, s3_, i6_, i3_]
     rfl
    refine pu_ (i := 6) (N := some 22) (v := ?_) (a' := ?_) #[true, true, true, true, false, true, true, false, false, false, false, false, false, false, false, false, false, false, false, false] rfl rfl (an_ HT_.out kr_) (fun _ _ _ h => h) (Or.inl ⟨by rfl, ?_⟩) ?_ ?_
    rotate_left
    ·intro w'
     go_simp
     with_reducible rfl
    rotate_left
    ·simp only [Act.put, s1_, s2_, s3_, i6_, i3_]
     rfl
    refine pu_ (i := 7) (N := some 23) (v := ?_) (a' := ?_) #[true, true, true, true, false, true, true, true, false, false, false, false, false, false, false, false, false, false, false, false] rfl rfl (an_ HT_.out kr_) (fun _ _ _ h => h) (Or.inl ⟨by rfl, ?_⟩) ?_ ?_
    rotate_left
    ·intro w'
     go_simp
     with_reducible rfl
    rotate_left
    ·simp only [Act.put, s1_, s2_, s3_, i6_, i3_]
     rfl
    refine pu_ (i := 8) (N := some 24) (v := ?_) (a' := ?_) #[true, true, true, true, false, true, true, true, true, false, false, false, false, false, false, false, false, false, false, false] rfl rfl (an_ HT_.out kr_) (fun _ _ _ h => h) (Or.inl ⟨by rfl, ?_⟩) ?_ ?_
    rotate_left
    ·intro w'
     go_simp
     with_reducible rfl
    rotate_left
    ·simp only [Act.put, s1_, s2_, s3_, i6_, i3_]
     rfl
    refine pu_ (i := 9) (N := some 25) (v := ?_) (a' := ?_) #[true, true, true, true, false, true, true, true, true, true, false, false, false, false, false, false, false, false, false, false] rfl rfl (an_ HT_.out kr_) (fun _ _ _ h => h) (Or.inl ⟨by rfl, ?_⟩) ?_ ?_
    rotate_left
    ·intro w'
     go_simp
     with_reducible rfl
    rotate_left
    ·simp only [Act.put, s1_, s2_, s3_, i6_, i3_]
     rfl
    refine pu_ (i := 10) (N := some 26) (v := ?_) (a' := ?_) #[true, true, true, true, false, true, true, true, true, true, true, false, false, false, false, false, false, false, false, false] rfl rfl (an_ HT_.out kr_) (fun _ _ _ h => h) (Or.inl ⟨by rfl, ?_⟩) ?_ ?_
    rotate_left
    ·intro w'
     go_simp
     with_reducible rfl
    rotate_left
    ·simp only [Act.put, s1_, s2_, s3_, i6_, i3_]
     rfl
    refine pu_ (i := 13) (N := some 29) (v := ?_) (a' := ?_) #[true, true, true, true, false, true, true, true, true, true, true, false, false, true, false, false, false, false, false, false] rfl rfl (an_ HT_.out kr_) (fun _ _ _ h => h) (Or.inl ⟨by rfl, ?_⟩) ?_ ?_
    rotate_left
    ·intro w'
     go_simp
     with_reducible rfl
    rotate_left
    ·simp only [Act.put, s1_, s2_, s3_, i6_, i3_]
     rfl
    refine pu_ (i := 14) (N := some 30) (v := ?_) (a' := ?_) #[true, true, true, true, false, true, true, true, true, true, true, false, false, true, true, false, false, false, false, false] rfl rfl (an_ HT_.out kr_) (fun _ _ _ h => h) (Or.inl ⟨by rfl, ?_⟩) ?_ ?_
    rotate_left
    ·intro w'
     go_simp
     with_reducible rfl
    rotate_left
    ·simp only [Act.put, s1_, s2_, s3_, i6_, i3_]
     rfl
    refine pu_ (i := 15) (N := some 31) (v := ?_) (a' := ?_) #[true, true, true, true, false, true, true, true, true, true, true, false, false, true, true, true, false, false, false, false] rfl rfl (an_ HT_.out kr_) (fun _ _ _ h => h) (Or.inl ⟨by rfl, ?_⟩) ?_ ?_
    rotate_left
    ·intro w'
     go_simp
     with_reducible rfl
    rotate_left
    ·simp only [Act.put, s1_, s2_, s3_, i6_, i3_]
     rfl
    refine take_ (i := 4) (N := some 20) (v := ?_) (a' := ?_) #[true, true, true, true, true, true, true, true, true, true, true, false, false, true, true, true, false, false, false, false] rfl rfl (tW_ HT_.out HW_.out kr_) (fun _ _ _ h => h) (Or.inl ⟨by rfl, ?_⟩) hHeld ?_ ?_
    rotate_left
    ·intro w' s0
     go_simp
     with_reducible rfl
    rotate_left
    ·simp only [Act.put, s1_, s2_, s3_, i6_, i3_]
     rfl
    refine take_ (i := 11) (N := some 27) (v := ?_) (a' := ?_) #[true, true, true, true, true, true, true, true, true, true, true, true, false, true, true, true, false, false, false, false] rfl rfl (tW_ HT_.out HW_.out kr_) (fun _ _ _ h => h) (Or.inl ⟨by rfl, ?_⟩) hHeld ?_ ?_
    rotate_left
    ·intro w' s0
     go_simp
     with_reducible rfl
    rotate_left
    ·simp only [Act.put, s1_, s2_, s3_, i6_, i3_]
     rfl
    refine pu_ (i := 12) (N := some 28) (v := ?_) (a' := ?_) #[true, true, true, true, true, true, true, true, true, true, true, true, true, true, true, true, false, false, false, false] rfl rfl (an_ HT_.out kr_) (fun _ _ _ h => h) (Or.inl ⟨by rfl, ?_⟩) ?_ ?_
    rotate_left
    ·intro w'
     go_simp
     with_reducible rfl
    rotate_left
    ·simp only [Act.put, s1_, s2_, s3_, i6_, i3_]
     rfl
    refine pu_ (i := 16) (N := some 32) (v := ?_) (a' := ?_) #[true, true, true, true, true, true, true, true, true, true, true, true, true, true, true, true, true, false, false, false] rfl rfl (an_ HT_.out kr_) (fun _ _ _ h => h) (Or.inl ⟨by rfl, ?_⟩) ?_ ?_
    rotate_left
    ·intro w'
     go_simp
     with_reducible rfl
    rotate_left
    ·simp only [Act.put, s1_, s2_, s3_, i6_, i3_]
     rfl
    refine pu_ (i := 17) (N := some 33) (v := ?_) (a' := ?_) #[true, true, true, true, true, true, true, true, true, true, true, true, true, true, true, true, true, true, false, false] rfl rfl (an_ HT_.out kr_) (fun _ _ _ h => h) (Or.inl ⟨by rfl, ?_⟩) ?_ ?_
    rotate_left
    ·intro w'
     go_simp
     with_reducible rfl
    rotate_left
    ·simp only [Act.put, s1_, s2_, s3_, i6_, i3_]
     rfl
    refine pu_ (i := 18) (N := some 34) (v := ?_) (a' := ?_) #[true, true, true, true, true, true, true, true, true, true, true, true, true, true, true, true, true, true, true, false] rfl rfl (an_ HT_.out kr_) (fun _ _ _ h => h) (Or.inl ⟨by rfl, ?_⟩) ?_ ?_
    rotate_left
    ·intro w'
     go_simp
     with_reducible rfl
    rotate_left
    ·simp only [Act.put, s1_, s2_, s3_, i6_, i3_]
     rfl
    refine last_ (i := 19) (N := none) #[true, true, true, true, true, true, true, true, true, true, true, true, true, true, true, true, true, true, true, true] rfl rfl (one_of HT_.out kr_) (by decide) (fun K hK => ?_)
    refine skip_ (w1 := ?_) (by rfl) rfl ?_ ?_
    rotate_left
    ·go_simp
     rfl
    refine hK.out _ _ ?_
    clear hK K
    refine done_ (done_of HT_.out kr_) ?_
    try go_wp2
    (try simp only [ap_])
    go_roundg k1
    case measure => have := HK1.out; omega
    case rel => exact ⟨(va), (wrap64 (aa + 1)), (rS_), H', ⟨by have := HK1.out; omega⟩, ⟨by (with_reducible repeat (first | apply Kd.R_alloc | apply Kd.rN_ | apply Kd.rD_)); first | exact qa.out | (rw [Ia]; exact qa.out)⟩, ⟨xB1_ HB GB18⟩⟩
   ·rw [if_neg c7] at H
    have Ga : decide (aa < (a0.size : Int)) = false := decide_eq_false c7
    clear c7
    obtain ⟨Oa, A22, H⟩ := oB_ H
    (try dsimp only at H)
    obtain rfl := Option.some.inj H
    obtain ⟨ra, sa, Pa⟩ := Kd.rS_' da.out
    subst Pa
    go_wp2_with (first | ((with_reducible refine gC_ (f := 79) rfl ?_); refine gL_ (some 37) rfl rfl Tryd.func79 kr_ rfl #[.slice ra ba.length sa] rfl mp_ ?_; (with_reducible refine (n_limbs_trim.calls k1 (fun k_ => some k_ = (.slice ra ba.length sa : Value).ownBlock) (.slice ra ba.length sa) ba Oa w _ ?side1 ?side2 A22.out).mono ?_); (case side1 => repeat (first | (with_reducible first | exact HB.out | apply bA_ | apply pB_ | apply b1_) | exact HB.out)); (case side2 => exact Kd.R_tight rfl da.out); rintro e w24 ⟨gb, rfl, ho0, hb, hkp⟩; refine ⟨_, rfl, ?_⟩; have n0_ := A0_.mk (Kd.rM_ (ok' := fun k_ => True) ho0 (fun k_ hk_ => trivial)); have n1_ := A0_.mk (hb); clear HB da; have Qa := n0_; have HB := n1_; clear n0_ n1_; (try clear hb); (try clear hkp); (try clear ho0)))
    go_ret
    exact ⟨_, by first | rfl | (simp [eN_', eS_] <;> rfl) | (simp only [← ia]; first | rfl | (simp [eN_', eS_] <;> rfl)) | (simp [*, eN_', eS_] <;> rfl), by (with_reducible repeat (first | apply Kd.R_alloc | apply Kd.rN_ | apply Kd.rD_)); exact Qa.out, xB_ HB⟩
def n_Divide.f (k : Nat) (a0 : ByteArray) (a1 : ByteArray) : Option (ByteArray × ByteArray × Bool) := (n_parse.f k a1).bind fun t272 => (if (t272.length : Int) = 0 then (some ((⟨#[]⟩ : ByteArray), (⟨#[]⟩ : ByteArray), false)) else ((n_parse.f k a0).bind fun t275 => ((n_divide.f k t275 t272).bind fun bt278 => ((n_limbs_text.f k bt278.1).bind fun t284 => ((n_limbs_text.f k bt278.2).bind fun t285 => (some (t284, t285, true)))))))
theorem n_Divide.mono : ∀ a0 a1 k, LeO (n_Divide.f k a0 a1) (n_Divide.f (k + 1) a0 a1) := by
 intro a0 a1 k
 unfold n_Divide.f
 repeat' first
   | (with_reducible first | exact n_divide.mono _ _ _ | exact n_limbs_text.mono _ _ | exact n_parse.mono _ _ | exact LeO.refl _ | exact LeO.none _ | refine LeO.ite ?_ ?_ | refine LeO.bind ?_ (fun _ => ?_))
theorem n_Divide.calls (k : Nat) (a0 : ByteArray) (a1 : ByteArray) (r1 : ByteArray) (r2 : ByteArray) (r3 : Bool) (w : World) (h : n_Divide.f k a0 a1 = some (r1, r2, r3)) :
  Calls Tryd.prog 71 #[.string a0, .string a1] w fun e w' => e = .returned (.tuple #[.string r1, .string r2, .bool r3]) ∧ Below w.heap.size w w' := by
 have HB := A0_.mk (Below.refl w.heap.size w)
 have H := h
 unfold n_Divide.f at H
 clear h
 obtain ⟨ba, A3, H⟩ := oB_ H
 (try dsimp only at H)
 by_cases c4 : (ba.length : Int) = 0
 ·rw [if_pos c4] at H
  have oa : ((ba.length : Int) == 0) = true := beq_iff_eq.mpr c4
  have pa : ((ba.length : Int) != 0) = false := bne_eq_false_iff_eq.mpr c4
  clear c4
  simp only [Option.some.injEq, Prod.mk.injEq] at H
  obtain ⟨rfl, rfl, rfl⟩ := H
  go_enter Tryd.func71, Tryd.ntmps71
  go_wp2_with (first | ((with_reducible refine gC_ (f := 64) rfl ?_); refine gL_ (some 11) rfl rfl Tryd.func64 kr_ rfl #[.string a1] rfl mp_ ?_; (with_reducible refine (n_parse.calls k a1 ba _ A3.out).mono ?_); rintro e w5 ⟨qa, rfl, ho0, hb⟩; refine ⟨_, rfl, ?_⟩; have n0_ := A0_.mk (Kd.rL_ ho0 (bZ_ (xB_ HB))); have n1_ := A0_.mk (bT_ (xB_ HB) hb); clear HB; have aa := n0_; have HB := n1_; clear n0_ n1_; (try clear hb); (try clear hb2); (try clear hk); (try clear hi); (try clear ho0); obtain ⟨Ao6, co6, eo6⟩ := Kd.rS_' aa.out; subst eo6))
  go_ret3
  exact ⟨rE_, xB_ HB⟩
 ·rw [if_neg c4] at H
  have oa : ((ba.length : Int) == 0) = false := beq_eq_false_iff_ne.mpr c4
  have pa : ((ba.length : Int) != 0) = true := bne_iff_ne.mpr c4
  have Ba : ¬ (ba = []) := fun h_ => c4 (by rw [h_]; rfl)
  obtain ⟨ea, A7, H⟩ := oB_ H
  (try dsimp only at H)
  obtain ⟨⟨fa, ga⟩, A8, H⟩ := oB_ H
  (try dsimp only at H)
  obtain ⟨ra, A9, H⟩ := oB_ H
  (try dsimp only at H)
  obtain ⟨sa, A10, H⟩ := oB_ H
  (try dsimp only at H)
  simp only [Option.some.injEq, Prod.mk.injEq] at H
  obtain ⟨rfl, rfl, rfl⟩ := H
  go_enter Tryd.func71, Tryd.ntmps71
  go_wp2_with (first | ((with_reducible refine gC_ (f := 64) rfl ?_); refine gL_ (some 11) rfl rfl Tryd.func64 kr_ rfl #[.string a1] rfl mp_ ?_; (with_reducible refine (n_parse.calls k a1 ba _ A3.out).mono ?_); rintro e w11 ⟨qa, rfl, ho0, hb⟩; refine ⟨_, rfl, ?_⟩; have n0_ := A0_.mk (Kd.rL_ ho0 (bZ_ (xB_ HB))); have n1_ := A0_.mk (bT_ (xB_ HB) hb); clear HB; have aa := n0_; have HB := n1_; clear n0_ n1_; (try clear hb); (try clear hb2); (try clear hk); (try clear hi); (try clear ho0); obtain ⟨ha, ia, ta⟩ := Kd.rS_' aa.out; subst ta) | ((with_reducible refine gC_ (f := 64) rfl ?_); refine gL_ (some 17) rfl rfl Tryd.func64 kr_ rfl #[.string a0] rfl mp_ ?_; (with_reducible refine (n_parse.calls k a0 ea _ A7.out).mono ?_); rintro e w13 ⟨Ca, rfl, ho0, hb⟩; refine ⟨_, rfl, ?_⟩; have n0_ := A0_.mk (Kd.R_elder' (xR_ aa.out) (Kd.R_base ho0) hb); have n1_ := A0_.mk (Kd.rL_ (Kd.R_new' ho0 (Kd.R_lt (xR_ aa.out))) (bZ_ (xB_ HB))); have n2_ := A0_.mk (bT_ (xB_ HB) hb); clear aa HB; have aa := n0_; have ja := n1_; have HB := n2_; clear n0_ n1_ n2_; (try clear hb); (try clear hb2); (try clear hk); (try clear hi); (try clear ho0); obtain ⟨ka, la, ua⟩ := Kd.rS_' ja.out; subst ua) | ((with_reducible refine gC_ (f := 88) rfl ?_); refine gL_ (some 19) rfl rfl Tryd.func88 kr_ rfl #[.slice ka ea.length la, .slice ha ba.length ia] rfl mp_ ?_; (with_reducible refine (n_divide.calls k (fun k_ => some k_ = (.slice ka ea.length la : Value).ownBlock) (.slice ka ea.length la) ea _ _ ba fa ga w _ ?side1 ?side2 ?side3 ?side4 A8.out).mono ?_); (case side1 => repeat (first | (with_reducible first | exact HB.out | apply bA_ | apply pB_ | apply b1_) | exact HB.out)); (case side2 => exact Kd.R_tight rfl ja.out); (case side3 => exact Kd.C_kept_own (aa.out) (fun k_ hk_ hs_ => (hk_.2) hs_)); (case side4 => exact (Kd.rr_' aa.out).2.1); rintro e w15 ⟨ma, na, rfl, ho0, ho1, hb, hkp⟩; refine ⟨_, rfl, ?_⟩; have n0_ := A0_.mk (Kd.rM_ (ok' := fun k_ => some k_ ≠ (ma : Value).ownBlock ∧ some k_ ≠ (na : Value).ownBlock) (Kd.R_keptB (aa.out) hkp (fun k_ hk_ hs_ => (hk_.2) hs_)) (fun k_ hk_ => ⟨fun e_ => Or.elim (ho0.1 k_ e_.symm).1 (fun hs_ => hk_.2.1 hs_) (fun hn_ => Nat.not_le.2 hk_.2.2 hn_), fun e_ => Or.elim (ho1.1 k_ e_.symm).1 (fun hs_ => hk_.2.1 hs_) (fun hn_ => Nat.not_le.2 hk_.2.2 hn_)⟩)); have n1_ := A0_.mk (Kd.rM_ (ok' := fun k_ => some k_ ≠ (na : Value).ownBlock ∧ some k_ ≠ (.slice ha ba.length ia : Value).ownBlock) ho0 (fun k_ hk_ => ⟨hk_.2, Or.elim hk_.1 (fun hs_ => fun e_ => (((aa.out).1 k_ e_.symm).2) hs_) (fun hn_ => (Kd.fresh' (Kd.R_lt (xR_ aa.out)) k_ hn_))⟩)); have n2_ := A0_.mk (Kd.rM_ (ok' := fun k_ => some k_ ≠ (ma : Value).ownBlock ∧ some k_ ≠ (.slice ha ba.length ia : Value).ownBlock) ho1 (fun k_ hk_ => ⟨hk_.2, Or.elim hk_.1 (fun hs_ => fun e_ => (((aa.out).1 k_ e_.symm).2) hs_) (fun hn_ => (Kd.fresh' (Kd.R_lt (xR_ aa.out)) k_ hn_))⟩)); have n3_ := A0_.mk (hb); clear aa HB ja; have aa := n0_; have ca := n1_; have da := n2_; have HB := n3_; clear n0_ n1_ n2_ n3_; (try clear hb); (try clear hkp); (try clear ho0); (try clear ho1); obtain ⟨va, wa, xa⟩ := Kd.rS_' ca.out; subst xa) | ((with_reducible refine gC_ (f := 65) rfl ?_); refine gL_ (some 23) rfl rfl Tryd.func65 kr_ rfl #[.slice va fa.length wa] rfl mp_ ?_; (with_reducible refine (n_limbs_text.calls k _ _ fa ra _ ?side1 ?side2 A9.out).mono ?_); (case side1 => repeat (first | exact (Kd.rr_' ca.out).2.2 | (with_reducible refine Kd.C_alloc ?_ _) | (with_reducible refine Kd.C_drewN ?_ _) | (with_reducible refine Kd.C_drew ?_))); (case side2 => exact (Kd.rr_' ca.out).2.1); rintro e w17 ⟨rfl, hb⟩; refine ⟨_, rfl, ?_⟩; have n0_ := A0_.mk (Kd.rB_ (xR_ aa.out) hb); have n1_ := A0_.mk (Kd.rB_ (xR_ ca.out) hb); have n2_ := A0_.mk (Kd.rB_ (xR_ da.out) hb); have n3_ := A0_.mk (bT_ (xB_ HB) hb); clear aa ca da HB; have aa := n0_; have ca := n1_; have da := n2_; have HB := n3_; clear n0_ n1_ n2_ n3_; (try clear hb); (try clear hb2); (try clear hk); (try clear hi); obtain ⟨ya, za, Aa⟩ := Kd.rS_' da.out; subst Aa) | ((with_reducible refine gC_ (f := 65) rfl ?_); refine gL_ (some 25) rfl rfl Tryd.func65 kr_ rfl #[.slice ya ga.length za] rfl mp_ ?_; (with_reducible refine (n_limbs_text.calls k _ _ ga sa _ ?side1 ?side2 A10.out).mono ?_); (case side1 => repeat (first | exact (Kd.rr_' da.out).2.2 | (with_reducible refine Kd.C_alloc ?_ _) | (with_reducible refine Kd.C_drewN ?_ _) | (with_reducible refine Kd.C_drew ?_))); (case side2 => exact (Kd.rr_' da.out).2.1); rintro e w19 ⟨rfl, hb⟩; refine ⟨_, rfl, ?_⟩; have n0_ := A0_.mk (Kd.rB_ (xR_ aa.out) hb); have n1_ := A0_.mk (Kd.rB_ (xR_ ca.out) hb); have n2_ := A0_.mk (Kd.rB_ (xR_ da.out) hb); have n3_ := A0_.mk (bT_ (xB_ HB) hb); clear aa ca da HB; have aa := n0_; have ca := n1_; have da := n2_; have HB := n3_; clear n0_ n1_ n2_ n3_; (try clear hb); (try clear hb2); (try clear hk); (try clear hi)))
  go_ret3
  exact ⟨rE_, xB_ HB⟩
def n_GCD.l0 : Nat → List Int → List Int → Option (ByteArray)
 | 0, _, _ => none
 | k + 1, x5, x6 => if (x6.length : Int) > 0 then ((n_divide.f k x5 x6).bind fun bt228 => (n_GCD.l0 k x6 bt228.2)) else ((n_limbs_text.f k x5).bind fun t234 => (some t234))
def n_GCD.f (k : Nat) (a0 : ByteArray) (a1 : ByteArray) : Option (ByteArray) := (n_parse.f k a0).bind fun t222 => ((n_parse.f k a1).bind fun t225 => (n_GCD.l0 k t222 t225))
theorem n_GCD.mono_l : ∀ k, (∀ y0 y1, LeO (n_GCD.l0 k y0 y1) (n_GCD.l0 (k + 1) y0 y1))
 | 0 => fun _ _ r h => by simp [n_GCD.l0] at h
 | k + 1 => by
  have ih0 := n_GCD.mono_l k
  ·intro y0 y1
   unfold n_GCD.l0
   repeat' first
   | (with_reducible first | exact ih0 _ _ | exact n_divide.mono _ _ _ | exact n_limbs_text.mono _ _ | exact n_parse.mono _ _ | exact LeO.refl _ | exact LeO.none _ | refine LeO.ite ?_ ?_ | refine LeO.bind ?_ (fun _ => ?_))
theorem n_GCD.mono : ∀ a0 a1 k, LeO (n_GCD.f k a0 a1) (n_GCD.f (k + 1) a0 a1) := by
 intro a0 a1 k
 have ih0 := n_GCD.mono_l k
 unfold n_GCD.f
 repeat' first
   | (with_reducible first | exact ih0 _ _ | exact n_divide.mono _ _ _ | exact n_limbs_text.mono _ _ | exact n_parse.mono _ _ | exact LeO.refl _ | exact LeO.none _ | refine LeO.ite ?_ ?_ | refine LeO.bind ?_ (fun _ => ?_))
theorem n_GCD.calls (k : Nat) (a0 : ByteArray) (a1 : ByteArray) (r : ByteArray) (w : World) (h : n_GCD.f k a0 a1 = some r) :
  Calls Tryd.prog 70 #[.string a0, .string a1] w fun e w' => e = .returned (.string r) ∧ Below w.heap.size w w' := by
 have HB := A0_.mk (Below.refl w.heap.size w)
 have H := h
 unfold n_GCD.f at H
 clear h
 obtain ⟨ha, A3, H⟩ := oB_ H
 (try dsimp only at H)
 obtain ⟨ia, A4, H⟩ := oB_ H
 (try dsimp only at H)
 have H' := A0_.mk H
 clear H
 go_enter Tryd.func70, Tryd.ntmps70
 go_wp2_with (first | ((with_reducible refine gC_ (f := 64) rfl ?_); refine gL_ (some 10) rfl rfl Tryd.func64 kr_ rfl #[.string a0] rfl mp_ ?_; (with_reducible refine (n_parse.calls k a0 ha _ A3.out).mono ?_); rintro e w5 ⟨xa, rfl, ho0, hb⟩; refine ⟨_, rfl, ?_⟩; have n0_ := A0_.mk (Kd.rL_ ho0 (bZ_ (xB_ HB))); have n1_ := A0_.mk (bT_ (xB_ HB) hb); clear HB; have ea := n0_; have HB := n1_; clear n0_ n1_; (try clear hb); (try clear hb2); (try clear hk); (try clear hi); (try clear ho0)) | ((with_reducible refine gC_ (f := 64) rfl ?_); refine gL_ (some 12) rfl rfl Tryd.func64 kr_ rfl #[.string a1] rfl mp_ ?_; (with_reducible refine (n_parse.calls k a1 ia _ A4.out).mono ?_); rintro e w6 ⟨ya, rfl, ho0, hb⟩; refine ⟨_, rfl, ?_⟩; have n0_ := A0_.mk (Kd.R_elder' (xR_ ea.out) (Kd.R_base ho0) hb); have n1_ := A0_.mk (Kd.rL_ (Kd.R_new' ho0 (Kd.R_lt (xR_ ea.out))) (bZ_ (xB_ HB))); have n2_ := A0_.mk (bT_ (xB_ HB) hb); clear ea HB; have ea := n0_; have ma := n1_; have HB := n2_; clear n0_ n1_ n2_; (try clear hb); (try clear hb2); (try clear hk); (try clear hi); (try clear ho0)))
 go_loopg [5, 6] k (fun kq v5 v6 w' => ∃ (ca : List Int) (ba : List Int), A0_ (n_GCD.l0 kq ca ba = some r) ∧ A0_ (kq ≤ k) ∧ A0_ (Kd.R (Kd.int .u32) 89 w' w.heap.size (fun k_ => some k_ ≠ (v6 : Value).ownBlock) v5 ca) ∧ A0_ (Kd.R (Kd.int .u32) 89 w' w.heap.size (fun k_ => some k_ ≠ (v5 : Value).ownBlock) v6 ba) ∧ A0_ (Below w.heap.size w w'))
 case atStart => exact ⟨(ha), (ia), H', ⟨Nat.le_refl _⟩, ⟨by (with_reducible repeat (first | apply Kd.R_alloc | apply Kd.rN_ | apply Kd.rD_)); exact Kd.rM_ ea.out (fun _ hk => hk.2)⟩, ⟨by (with_reducible repeat (first | apply Kd.R_alloc | apply Kd.rN_ | apply Kd.rD_)); exact Kd.rM_ ma.out (fun _ hk => hk.2)⟩, ⟨xB_ HB⟩⟩
 case round =>
  clear H'
  try clear p2
  try clear c6
  obtain ⟨ca, ba, HA, HK1, da, aa, HB⟩ := hrel
  cases gk with
  | zero => exact absurd HA.out (by simp [n_GCD.l0])
  | succ k1 =>
   have H := HA.out
   clear HA
   simp only [n_GCD.l0] at H
   by_cases c7 : (ba.length : Int) > 0
   ·rw [if_pos c7] at H
    have na : decide (0 < (ba.length : Int)) = true := decide_eq_true c7
    have oa : decide (0 < ba.length) = true := decide_eq_true (by omega)
    clear c7
    obtain ⟨⟨pa, ja⟩, A8, H⟩ := oB_ H
    (try dsimp only at H)
    have H' := A0_.mk H
    clear H
    obtain ⟨Ao9, co9, eo9⟩ := Kd.rS_' aa.out
    subst eo9
    obtain ⟨fa, ga, qa⟩ := Kd.rS_' da.out
    subst qa
    go_wp2_with (first | ((with_reducible refine gC_ (f := 88) rfl ?_); refine gL_ (some 19) rfl rfl Tryd.func88 kr_ rfl #[.slice fa ca.length ga, .slice Ao9 ba.length co9] rfl mp_ ?_; (with_reducible refine (n_divide.calls k1 (fun k_ => some k_ = (.slice fa ca.length ga : Value).ownBlock) (.slice fa ca.length ga) ca _ _ ba pa ja w _ ?side1 ?side2 ?side3 ?side4 A8.out).mono ?_); (case side1 => repeat (first | (with_reducible first | exact HB.out | apply bA_ | apply pB_ | apply b1_) | exact HB.out)); (case side2 => exact Kd.R_tight rfl da.out); (case side3 => exact Kd.C_kept_own (aa.out) (fun k_ hk_ hs_ => (hk_) hs_)); (case side4 => exact (Kd.rr_' aa.out).2.1); rintro e w11 ⟨ka, la, rfl, ho0, ho1, hb, hkp⟩; refine ⟨_, rfl, ?_⟩; have n0_ := A0_.mk (Kd.rM_ (ok' := fun k_ => some k_ ≠ (ka : Value).ownBlock ∧ some k_ ≠ (la : Value).ownBlock) (Kd.R_keptB (aa.out) hkp (fun k_ hk_ hs_ => (hk_) hs_)) (fun k_ hk_ => ⟨fun e_ => Or.elim (ho0.1 k_ e_.symm).1 (fun hs_ => hk_.2.1 hs_) (fun hn_ => Nat.not_le.2 hk_.2.2 hn_), fun e_ => Or.elim (ho1.1 k_ e_.symm).1 (fun hs_ => hk_.2.1 hs_) (fun hn_ => Nat.not_le.2 hk_.2.2 hn_)⟩)); have n1_ := A0_.mk (Kd.rM_ (ok' := fun k_ => some k_ ≠ (la : Value).ownBlock ∧ some k_ ≠ (.slice Ao9 ba.length co9 : Value).ownBlock) ho0 (fun k_ hk_ => ⟨hk_.2, Or.elim hk_.1 (fun hs_ => fun e_ => (((aa.out).1 k_ e_.symm)) hs_) (fun hn_ => (Kd.fresh' (Kd.R_lt (xR_ aa.out)) k_ hn_))⟩)); have n2_ := A0_.mk (Kd.rM_ (ok' := fun k_ => some k_ ≠ (ka : Value).ownBlock ∧ some k_ ≠ (.slice Ao9 ba.length co9 : Value).ownBlock) ho1 (fun k_ hk_ => ⟨hk_.2, Or.elim hk_.1 (fun hs_ => fun e_ => (((aa.out).1 k_ e_.symm)) hs_) (fun hn_ => (Kd.fresh' (Kd.R_lt (xR_ aa.out)) k_ hn_))⟩)); have n3_ := A0_.mk (hb); clear aa HB da; have aa := n0_; have za := n1_; have ra := n2_; have HB := n3_; clear n0_ n1_ n2_ n3_; (try clear hb); (try clear hkp); (try clear ho0); (try clear ho1)))
    (try simp only [ap_])
    go_roundg k1
    case measure => have := HK1.out; omega
    case rel => exact ⟨(ba), (ja), H', ⟨by have := HK1.out; omega⟩, ⟨by (with_reducible repeat (first | apply Kd.R_alloc | apply Kd.rN_ | apply Kd.rD_)); exact Kd.rM_ aa.out (fun _ hk => hk.2)⟩, ⟨by (with_reducible repeat (first | apply Kd.R_alloc | apply Kd.rN_ | apply Kd.rD_)); exact Kd.rM_ ra.out (fun _ hk => hk.2)⟩, ⟨xB_ HB⟩⟩
   ·rw [if_neg c7] at H
    have na : decide (0 < (ba.length : Int)) = false := decide_eq_false c7
    have oa : decide (0 < ba.length) = false := decide_eq_false (by omega)
    clear c7
    obtain ⟨sa, A12, H⟩ := oB_ H
    (try dsimp only at H)
    obtain rfl := Option.some.inj H
    obtain ⟨Aa, Ba, ta⟩ := Kd.rS_' aa.out
    subst ta
    obtain ⟨ua, va, wa⟩ := Kd.rS_' da.out
    subst wa
    go_wp2_with (first | ((with_reducible refine gC_ (f := 65) rfl ?_); refine gL_ (some 25) rfl rfl Tryd.func65 kr_ rfl #[.slice ua ca.length va] rfl mp_ ?_; (with_reducible refine (n_limbs_text.calls k1 _ _ ca sa _ ?side1 ?side2 A12.out).mono ?_); (case side1 => repeat (first | exact (Kd.rr_' da.out).2.2 | (with_reducible refine Kd.C_alloc ?_ _) | (with_reducible refine Kd.C_drewN ?_ _) | (with_reducible refine Kd.C_drew ?_))); (case side2 => exact (Kd.rr_' da.out).2.1); rintro e w15 ⟨rfl, hb⟩; refine ⟨_, rfl, ?_⟩; have n0_ := A0_.mk (Kd.rB_ (xR_ da.out) hb); have n1_ := A0_.mk (Kd.rB_ (xR_ aa.out) hb); have n2_ := A0_.mk (bT_ (xB_ HB) hb); clear da aa HB; have da := n0_; have aa := n1_; have HB := n2_; clear n0_ n1_ n2_; (try clear hb); (try clear hb2); (try clear hk); (try clear hi)))
    go_ret
    exact ⟨rE_, xB_ HB⟩
end C
end Go.Proofs.YtnegkpnhjgimcaaDoor
end
