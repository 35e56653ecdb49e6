/- A part of the proof of setoffTwice_card (see YtnegkpnhjgimcaaDoorZST5): what the functions that it reaches compute, each by its contract. -/
import Derived.Lib.Bytealg
import Derived.Test.YtnegkpnhjgimcaaDoorZST0
section
namespace Go.Proofs.YtnegkpnhjgimcaaDoor.C
open Go.RowKit Go.Proofs.YtnegkpnhjgimcaaDoorW.PrintWords Go.Proofs.YtnegkpnhjgimcaaDoorW.PrintLast Go.Proofs.YtnegkpnhjgimcaaDoorW.PrintMore
attribute [local go_sem] max2_int min2_int max_two min_two max_three min_three max_four min_four
set_option linter.unusedVariables false
set_option linter.unusedSimpArgs false
def insolvencyref1_reduced.f (k : Nat) (a0 : Bool) (l1 : List Int) (l2 : List Int) : Option (Bool × ByteArray × ByteArray) := if (l1.length : Int) = 0 then (some (false, (⟨#[]⟩ : ByteArray), (⟨#[]⟩ : ByteArray))) else ((insolvencyref1_common.f k l1 l2).bind fun t695 => (if (t695.length : Int) > 1 then (none) else (if 0 < (t695.length : Int) then (if (rd t695 0) > 1 then ((insolvencyref1_divide.f k l1 t695).bind fun bt716 => ((insolvencyref1_divide.f k l2 t695).bind fun bt722 => ((insolvencyref1_text.f k bt716.1).bind fun t728 => (if (bt722.1.length : Int) > 1 then (none) else (if 0 < (bt722.1.length : Int) then (if (rd bt722.1 0) > 1 then ((insolvencyref1_text.f k bt722.1).bind fun t732 => (some (a0, t728, t732))) else (some (a0, t728, (⟨#[]⟩ : ByteArray)))) else (none)))))) else ((insolvencyref1_text.f k l1).bind fun t733 => (if (l2.length : Int) > 1 then (none) else (if 0 < (l2.length : Int) then (if (rd l2 0) > 1 then ((insolvencyref1_text.f k l2).bind fun t737 => (some (a0, t733, t737))) else (some (a0, t733, (⟨#[]⟩ : ByteArray)))) else (none))))) else (none))))
theorem insolvencyref1_reduced.mono : ∀ a0 a1 a2 k, LeO (insolvencyref1_reduced.f k a0 a1 a2) (insolvencyref1_reduced.f (k + 1) a0 a1 a2) := by
 intro a0 a1 a2 k
 unfold insolvencyref1_reduced.f
 repeat' first
   | (with_reducible exact insolvencyref1_common.mono _ _ _)
   | (with_reducible exact insolvencyref1_divide.mono _ _ _)
   | (with_reducible exact insolvencyref1_text.mono _ _)
   | (with_reducible exact LeO.refl _)
   | (with_reducible exact LeO.none _)
   | (with_reducible refine LeO.ite ?_ ?_)
   | (with_reducible refine LeO.bind ?_ (fun _ => ?_))
set_option maxHeartbeats 8000000 in
set_option maxRecDepth 100000 in
theorem insolvencyref1_reduced.calls (k : Nat) (a0 : Bool) (A1 : Option Addr) (c1 : Nat) (l1 : List Int) (A2 : Option Addr) (c2 : Nat) (l2 : List Int) (r1 : Bool) (r2 : ByteArray) (r3 : ByteArray) (w : World) (hr1 : Kd.C (Kd.int .u32) w A1 l1.length l1) (hc1 : l1.length ≤ c1) (hr2 : Kd.C (Kd.int .u32) w A2 l2.length l2) (hc2 : l2.length ≤ c2) (h : insolvencyref1_reduced.f k a0 l1 l2 = some (r1, r2, r3)) :
  Calls Tryd.prog 113 #[.bool a0, .slice A1 l1.length c1, .slice A2 l2.length c2] w fun e w' => e = .returned (.agg #[.bool r1, .string r2, .string r3]) ∧ Below w.heap.size w w' := by
 have hu26 := Tryd.underlying26
 have HR1 := A0_.mk hr1
 have HC1 := A0_.mk hc1
 clear hr1 hc1
 have HR2 := A0_.mk hr2
 have HC2 := A0_.mk hc2
 clear hr2 hc2
 have HB := A0_.mk (Below.refl w.heap.size w)
 have H := h
 unfold insolvencyref1_reduced.f at H
 clear h
 by_cases c4 : (l1.length : Int) = 0
 ·rw [if_pos c4] at H
  have c4b0 : ((l1.length : Int) == 0) = true := beq_iff_eq.mpr c4
  have c4b1 : ((l1.length : Int) != 0) = false := bne_eq_false_iff_eq.mpr c4
  clear c4
  simp only [Option.some.injEq, Prod.mk.injEq] at H
  obtain ⟨rfl, rfl, rfl⟩ := H
  go_enter Tryd.func113, Tryd.ntmps113
  go_wp2_with (first | ((with_reducible refine gD_ (N := 6) rfl ?_); refine bE_ ?hg (N := 6) ?hd (cs := #[.bool false, .string (⟨#[]⟩ : ByteArray), .string (⟨#[]⟩ : ByteArray)]) (t := 26) ?hr ?_; (case hd => rfl); (case hg => rfl); (case hr => first | (go_simp; done) | (go_simp; rfl)); intro gb694 hg w5 hbox hb; have n0_ := A0_.mk (bT_ (xB_ HB) hb); have n1_ := A0_.mk (hbox); have n2_ := A0_.mk ((by rw [hg]; exact (bZ_ (xB_ HB)) : w.heap.size ≤ gb694)); have n3_ := A0_.mk ((by rw [hg]; exact (bZ_ (xB_ HB)) : w.heap.size ≤ gb694)); clear HB; have HB := n0_; have BK694 := n1_; have GW694 := n2_; have GE694 := n3_; clear n0_ n1_ n2_ n3_; clear hb hbox hg; have hcz6_0 : w5.cell? ⟨gb694, 0, none⟩ = some (.bool false) := (kc_ BK694.out 0).trans rfl; have hcz6_1 : w5.cell? ⟨gb694, 1, none⟩ = some (.string (⟨#[]⟩ : ByteArray)) := (kc_ BK694.out 1).trans rfl; have hcz6_2 : w5.cell? ⟨gb694, 2, none⟩ = some (.string (⟨#[]⟩ : ByteArray)) := (kc_ BK694.out 2).trans rfl; have hfz6_0 := kF_ BK694.out 0; have hfz6_1 := kF_ BK694.out 1; have hfz6_2 := kF_ BK694.out 2))
  refine bodyPost_ret (results_cell_row rfl _ _ gb694 26 #[.bool false, .string (⟨#[]⟩ : ByteArray), .string (⟨#[]⟩ : ByteArray)] (0, 0) _ rfl (by (with_reducible repeat (first | refine kN_ ?_ _ | refine kD_ ?_ | refine kA_ ?_ _)); refine kP_ (cs := #[.bool false, .string (⟨#[]⟩ : ByteArray), .string (⟨#[]⟩ : ByteArray)]) ?_ 2 _ rfl; (with_reducible repeat (first | refine kN_ ?_ _ | refine kD_ ?_ | refine kA_ ?_ _)); refine kP_ (cs := #[.bool false, .string (⟨#[]⟩ : ByteArray), .string (⟨#[]⟩ : ByteArray)]) ?_ 1 _ rfl; (with_reducible repeat (first | refine kN_ ?_ _ | refine kD_ ?_ | refine kA_ ?_ _)); refine kP_ (cs := #[.bool false, .string (⟨#[]⟩ : ByteArray), .string (⟨#[]⟩ : ByteArray)]) ?_ 0 _ rfl; (with_reducible repeat (first | refine kN_ ?_ _ | refine kD_ ?_ | refine kA_ ?_ _)); exact BK694.out) Tryd.underlying26 rfl (by kernel_rfl)) rfl ?_
  exact ⟨rE_, xB1_ HB GE694⟩
 ·rw [if_neg c4] at H
  have c4b0 : ((l1.length : Int) == 0) = false := beq_eq_false_iff_ne.mpr c4
  have c4b1 : ((l1.length : Int) != 0) = true := bne_iff_ne.mpr c4
  have c4b2 : ¬ (l1 = []) := fun h_ => c4 (by rw [h_]; rfl)
  replace H := Option.bind_eq_some_iff.mp H
  obtain ⟨t695, A70, H⟩ := H
  (try dsimp only at H)
  have A7 := A0_.mk A70
  clear A70
  by_cases c8 : (t695.length : Int) > 1
  ·rw [if_pos c8] at H
   exact absurd H (by simp)
  ·rw [if_neg c8] at H
   have c8b0 : decide (1 < (t695.length : Int)) = false := decide_eq_false c8
   have c8b1 : decide (1 < t695.length) = false := decide_eq_false (by omega)
   clear c8
   by_cases c57 : 0 < (t695.length : Int)
   ·rw [if_pos c57] at H
    have c57b0 : decide (0 < (t695.length : Int)) = true := decide_eq_true c57
    have c57b1 : decide (0 < t695.length) = true := decide_eq_true (by omega)
    clear c57
    by_cases c58 : (rd t695 0) > 1
    ·rw [if_pos c58] at H
     have c58b0 : decide (1 < (rd t695 0)) = true := decide_eq_true c58
     clear c58
     replace H := Option.bind_eq_some_iff.mp H
     obtain ⟨⟨t716, t719⟩, A590, H⟩ := H
     (try dsimp only at H)
     have A59 := A0_.mk A590
     clear A590
     replace H := Option.bind_eq_some_iff.mp H
     obtain ⟨⟨t722, t725⟩, A600, H⟩ := H
     (try dsimp only at H)
     have A60 := A0_.mk A600
     clear A600
     replace H := Option.bind_eq_some_iff.mp H
     obtain ⟨t728, A610, H⟩ := H
     (try dsimp only at H)
     have A61 := A0_.mk A610
     clear A610
     by_cases c62 : (t722.length : Int) > 1
     ·rw [if_pos c62] at H
      exact absurd H (by simp)
     ·rw [if_neg c62] at H
      have c62b0 : decide (1 < (t722.length : Int)) = false := decide_eq_false c62
      have c62b1 : decide (1 < t722.length) = false := decide_eq_false (by omega)
      clear c62
      by_cases c78 : 0 < (t722.length : Int)
      ·rw [if_pos c78] at H
       have c78b0 : decide (0 < (t722.length : Int)) = true := decide_eq_true c78
       have c78b1 : decide (0 < t722.length) = true := decide_eq_true (by omega)
       clear c78
       by_cases c79 : (rd t722 0) > 1
       ·rw [if_pos c79] at H
        have c79b0 : decide (1 < (rd t722 0)) = true := decide_eq_true c79
        clear c79
        replace H := Option.bind_eq_some_iff.mp H
        obtain ⟨t732, A800, H⟩ := H
        (try dsimp only at H)
        have A80 := A0_.mk A800
        clear A800
        simp only [Option.some.injEq, Prod.mk.injEq] at H
        obtain ⟨rfl, rfl, rfl⟩ := H
        go_enter Tryd.func113, Tryd.ntmps113
        go_wp2_with (first | ((with_reducible refine gD_ (N := 6) rfl ?_); refine bE_ ?hg (N := 6) ?hd (cs := #[.bool false, .string (⟨#[]⟩ : ByteArray), .string (⟨#[]⟩ : ByteArray)]) (t := 26) ?hr ?_; (case hd => rfl); (case hg => rfl); (case hr => first | (go_simp; done) | (go_simp; rfl)); intro gb694 hg w81 hbox hb; have n0_ := A0_.mk (bT_ (xB_ HB) hb); have n1_ := A0_.mk (hbox); have n2_ := A0_.mk ((by rw [hg]; exact (bZ_ (xB_ HB)) : w.heap.size ≤ gb694)); have n3_ := A0_.mk ((by rw [hg]; exact (bZ_ (xB_ HB)) : w.heap.size ≤ gb694)); clear HB; have HB := n0_; have BK694 := n1_; have GW694 := n2_; have GE694 := n3_; clear n0_ n1_ n2_ n3_; clear hb hbox hg) | ((with_reducible refine gC_ (f := 111) rfl ?_); refine goesL_ (some 15) rfl rfl Tryd.func111 (by kernel_rfl) rfl #[.slice A1 l1.length c1, .slice A2 l2.length c2] rfl mp_ ?_; (with_reducible refine (insolvencyref1_common.calls k (fun k_ => k_ < w.heap.size) _ _ l1 (fun k_ => k_ < w.heap.size) _ _ l2 t695 _ ?side1 ?side2 A7.out).mono ?_); (case side1 => exact Kd.V_mk HC1.out (Kd.F_below (Kd.C_F (Kd.heap_int .u32) HR1.out) (xB1_ HB GE694))); (case side2 => exact Kd.V_mk HC2.out (Kd.F_below (Kd.C_F (Kd.heap_int .u32) HR2.out) (xB1_ HB GE694))); rintro e w82 ⟨v696, rfl, ho0, hb⟩; refine ⟨_, rfl, ?_⟩; have n0_ := A0_.mk (Kd.V_lower (Kd.V_mono (ok' := fun k_ => k_ ≠ gb694) ho0 (fun k_ hk_ => Or.elim hk_ (fun hs_ => Or.elim hs_ (fun hs_ => fun e_ => Nat.not_le.2 hs_ (by rw [e_]; exact GW694.out)) (fun hs_ => fun e_ => Nat.not_le.2 hs_ (by rw [e_]; exact GW694.out))) (fun hn_ => (Kd.freshB (g := gb694) (o := .cells #[.bool false, .string (⟨#[]⟩ : ByteArray), .string (⟨#[]⟩ : ByteArray)] 26 (0, 0)) (xK_ BK694.out) k_ hn_)))) (bZ_ (xB1_ HB GE694))); have n1_ := A0_.mk (kB_ (g := gb694) (o := .cells #[.bool false, .string (⟨#[]⟩ : ByteArray), .string (⟨#[]⟩ : ByteArray)] 26 (0, 0)) (xK_ BK694.out) hb); have n2_ := A0_.mk (bT_ (xB1_ HB GE694) hb); clear BK694 HB; have HO697 := n0_; have BK694 := n1_; have HB := n2_; clear n0_ n1_ n2_; (try clear hb); (try clear hb2); (try clear hk); (try clear hi); (try clear ho0); obtain ⟨Ao83, co83, eo83⟩ := Kd.V_slice HO697.out; subst eo83; have p715 : 0 ≤ (0 : Int) := (by omega); have q715 : 0 < (t695.length : Int) := of_decide_eq_true aS_; obtain ⟨ad715, e715, hx715_0⟩ := Kd.at_int (Kd.V_reads' HO697.out).2.2 0 p715 q715; cases e715; have qi715 : (0 < t695.length) = True := eq_true (by omega); (try rw [show ((0 : Int)).toNat = 0 from rfl] at hx715_0); (try rw [Addr.add_zero'] at hx715_0); replace p715 := eq_true p715; replace q715 := eq_true q715) | ((with_reducible refine gC_ (f := 121) rfl ?_); refine goesL_ (some 28) rfl rfl Tryd.func121 (by kernel_rfl) rfl #[.slice A1 l1.length c1, .slice (some ad715) t695.length co83] rfl mp_ ?_; (with_reducible refine (insolvencyref1_divide.calls k (fun k_ => k_ < w.heap.size) _ _ l1 _ _ t695 t716 t719 _ ?side1 ?side2 ?side3 A59.out).mono ?_); (case side1 => exact Kd.V_mk HC1.out (Kd.F_below (Kd.C_F (Kd.heap_int .u32) HR1.out) (xB1_ HB GE694))); (case side2 => repeat (first | exact (Kd.V_reads' HO697.out).2.2 | (with_reducible refine Kd.C_alloc ?_ _) | (with_reducible refine Kd.C_drewN ?_ _) | (with_reducible refine Kd.C_drew ?_))); (case side3 => exact (Kd.V_reads' HO697.out).2.1); rintro e w84 ⟨v717, v720, rfl, ho0, ho1, hb⟩; refine ⟨_, rfl, ?_⟩; have n0_ := A0_.mk (Kd.V_below (xV_ HO697.out) hb); have n1_ := A0_.mk (Kd.V_lower (Kd.V_mono (ok' := fun k_ => k_ ≠ gb694) ho0 (fun k_ hk_ => Or.elim hk_ (fun hs_ => fun e_ => Nat.not_le.2 hs_ (by rw [e_]; exact GW694.out)) (fun hn_ => (Kd.freshB (g := gb694) (o := .cells #[.bool false, .string (⟨#[]⟩ : ByteArray), .string (⟨#[]⟩ : ByteArray)] 26 (0, 0)) (xK_ BK694.out) k_ hn_)))) (bZ_ (xB1_ HB GE694))); have n2_ := A0_.mk (Kd.V_lower (Kd.V_mono (ok' := fun k_ => k_ ≠ gb694) ho1 (fun k_ hk_ => Or.elim hk_ (fun hs_ => fun e_ => Nat.not_le.2 hs_ (by rw [e_]; exact GW694.out)) (fun hn_ => (Kd.freshB (g := gb694) (o := .cells #[.bool false, .string (⟨#[]⟩ : ByteArray), .string (⟨#[]⟩ : ByteArray)] 26 (0, 0)) (xK_ BK694.out) k_ hn_)))) (bZ_ (xB1_ HB GE694))); have n3_ := A0_.mk (kB_ (g := gb694) (o := .cells #[.bool false, .string (⟨#[]⟩ : ByteArray), .string (⟨#[]⟩ : ByteArray)] 26 (0, 0)) (xK_ BK694.out) hb); have n4_ := A0_.mk (bT_ (xB1_ HB GE694) hb); clear HO697 BK694 HB; have HO697 := n0_; have HO718 := n1_; have HO721 := n2_; have BK694 := n3_; have HB := n4_; clear n0_ n1_ n2_ n3_ n4_; (try clear hb); (try clear hb2); (try clear hk); (try clear hi); (try clear ho0); (try clear ho1)) | ((with_reducible refine gC_ (f := 121) rfl ?_); refine goesL_ (some 34) rfl rfl Tryd.func121 (by kernel_rfl) rfl #[.slice A2 l2.length c2, .slice (some ad715) t695.length co83] rfl mp_ ?_; (with_reducible refine (insolvencyref1_divide.calls k (fun k_ => k_ < w.heap.size) _ _ l2 _ _ t695 t722 t725 _ ?side1 ?side2 ?side3 A60.out).mono ?_); (case side1 => exact Kd.V_mk HC2.out (Kd.F_below (Kd.C_F (Kd.heap_int .u32) HR2.out) (xB1_ HB GE694))); (case side2 => repeat (first | exact (Kd.V_reads' HO697.out).2.2 | (with_reducible refine Kd.C_alloc ?_ _) | (with_reducible refine Kd.C_drewN ?_ _) | (with_reducible refine Kd.C_drew ?_))); (case side3 => exact (Kd.V_reads' HO697.out).2.1); rintro e w85 ⟨v723, v726, rfl, ho0, ho1, hb⟩; refine ⟨_, rfl, ?_⟩; have n0_ := A0_.mk (Kd.V_below (xV_ HO697.out) hb); have n1_ := A0_.mk (Kd.V_below (xV_ HO718.out) hb); have n2_ := A0_.mk (Kd.V_below (xV_ HO721.out) hb); have n3_ := A0_.mk (Kd.V_lower (Kd.V_mono (ok' := fun k_ => k_ ≠ gb694) ho0 (fun k_ hk_ => Or.elim hk_ (fun hs_ => fun e_ => Nat.not_le.2 hs_ (by rw [e_]; exact GW694.out)) (fun hn_ => (Kd.freshB (g := gb694) (o := .cells #[.bool false, .string (⟨#[]⟩ : ByteArray), .string (⟨#[]⟩ : ByteArray)] 26 (0, 0)) (xK_ BK694.out) k_ hn_)))) (bZ_ (xB1_ HB GE694))); have n4_ := A0_.mk (Kd.V_lower (Kd.V_mono (ok' := fun k_ => k_ ≠ gb694) ho1 (fun k_ hk_ => Or.elim hk_ (fun hs_ => fun e_ => Nat.not_le.2 hs_ (by rw [e_]; exact GW694.out)) (fun hn_ => (Kd.freshB (g := gb694) (o := .cells #[.bool false, .string (⟨#[]⟩ : ByteArray), .string (⟨#[]⟩ : ByteArray)] 26 (0, 0)) (xK_ BK694.out) k_ hn_)))) (bZ_ (xB1_ HB GE694))); have n5_ := A0_.mk (kB_ (g := gb694) (o := .cells #[.bool false, .string (⟨#[]⟩ : ByteArray), .string (⟨#[]⟩ : ByteArray)] 26 (0, 0)) (xK_ BK694.out) hb); have n6_ := A0_.mk (bT_ (xB1_ HB GE694) hb); clear HO697 HO718 HO721 BK694 HB; have HO697 := n0_; have HO718 := n1_; have HO721 := n2_; have HO724 := n3_; have HO727 := n4_; have BK694 := n5_; have HB := n6_; clear n0_ n1_ n2_ n3_ n4_ n5_ n6_; (try clear hb); (try clear hb2); (try clear hk); (try clear hi); (try clear ho0); (try clear ho1); obtain ⟨Ao86, co86, eo86⟩ := Kd.V_slice HO718.out; subst eo86) | ((with_reducible refine gC_ (f := 110) rfl ?_); refine goesL_ (some 39) rfl rfl Tryd.func110 (by kernel_rfl) rfl #[.slice Ao86 t716.length co86] rfl mp_ ?_; (with_reducible refine (insolvencyref1_text.calls k _ _ t716 t728 _ ?side1 ?side2 A61.out).mono ?_); (case side1 => repeat (first | exact (Kd.V_reads' HO718.out).2.2 | (with_reducible refine Kd.C_alloc ?_ _) | (with_reducible refine Kd.C_drewN ?_ _) | (with_reducible refine Kd.C_drew ?_))); (case side2 => exact (Kd.V_reads' HO718.out).2.1); rintro e w87 ⟨rfl, hb⟩; refine ⟨_, rfl, ?_⟩; have n0_ := A0_.mk (Kd.V_below (xV_ HO697.out) hb); have n1_ := A0_.mk (Kd.V_below (xV_ HO718.out) hb); have n2_ := A0_.mk (Kd.V_below (xV_ HO721.out) hb); have n3_ := A0_.mk (Kd.V_below (xV_ HO724.out) hb); have n4_ := A0_.mk (Kd.V_below (xV_ HO727.out) hb); have n5_ := A0_.mk (kB_ (g := gb694) (o := .cells #[.bool false, .string (⟨#[]⟩ : ByteArray), .string (⟨#[]⟩ : ByteArray)] 26 (0, 0)) (xK_ BK694.out) hb); have n6_ := A0_.mk (bT_ (xB1_ HB GE694) hb); clear HO697 HO718 HO721 HO724 HO727 BK694 HB; have HO697 := n0_; have HO718 := n1_; have HO721 := n2_; have HO724 := n3_; have HO727 := n4_; have BK694 := n5_; have HB := n6_; clear n0_ n1_ n2_ n3_ n4_ n5_ n6_; (try clear hb); (try clear hb2); (try clear hk); (try clear hi)) | ((with_reducible refine gD_ (N := 8) rfl ?_); refine bE_ ?hg (N := 8) ?hd (cs := #[.bool false, .string (⟨#[]⟩ : ByteArray), .string (⟨#[]⟩ : ByteArray)]) (t := 26) ?hr ?_; (case hd => rfl); (case hg => rfl); (case hr => first | (go_simp; done) | (go_simp; rfl)); intro gb729 hg w88 hbox hb; have n0_ := A0_.mk (Kd.V_below (Kd.V_elderB (xV_ HO697.out) gb729 (Nat.le_of_eq hg.symm)) hb); have n1_ := A0_.mk (Kd.V_below (Kd.V_elderB (xV_ HO718.out) gb729 (Nat.le_of_eq hg.symm)) hb); have n2_ := A0_.mk (Kd.V_below (Kd.V_elderB (xV_ HO721.out) gb729 (Nat.le_of_eq hg.symm)) hb); have n3_ := A0_.mk (Kd.V_below (Kd.V_elderB (xV_ HO724.out) gb729 (Nat.le_of_eq hg.symm)) hb); have n4_ := A0_.mk (Kd.V_below (Kd.V_elderB (xV_ HO727.out) gb729 (Nat.le_of_eq hg.symm)) hb); have n5_ := A0_.mk (kB_ (g := gb694) (o := .cells #[.bool false, .string (⟨#[]⟩ : ByteArray), .string (⟨#[]⟩ : ByteArray)] 26 (0, 0)) (xK_ BK694.out) hb); have n6_ := A0_.mk (bT_ (xB1_ HB GE694) hb); have n7_ := A0_.mk (hbox); have n8_ := A0_.mk ((by rw [hg]; exact (bZ_ (xB1_ HB GE694)) : w.heap.size ≤ gb729)); have n9_ := A0_.mk ((by rw [hg]; exact (bZ_ (xB1_ HB GE694)) : w.heap.size ≤ gb729)); have n10_ := A0_.mk ((by rw [hg]; exact Nat.ne_of_lt (blk_lt (g := gb694) (o := .cells #[.bool false, .string (⟨#[]⟩ : ByteArray), .string (⟨#[]⟩ : ByteArray)] 26 (0, 0)) (xK_ BK694.out)) : gb694 ≠ gb729)); have n11_ := A0_.mk ((by rw [hg]; exact Nat.ne_of_gt (blk_lt (g := gb694) (o := .cells #[.bool false, .string (⟨#[]⟩ : ByteArray), .string (⟨#[]⟩ : ByteArray)] 26 (0, 0)) (xK_ BK694.out)) : gb729 ≠ gb694)); clear HO697 HO718 HO721 HO724 HO727 BK694 HB; have HO697 := n0_; have HO718 := n1_; have HO721 := n2_; have HO724 := n3_; have HO727 := n4_; have BK694 := n5_; have HB := n6_; have BK729 := n7_; have GW729 := n8_; have GE729 := n9_; have NB694_729 := n10_; have NB729_694 := n11_; clear n0_ n1_ n2_ n3_ n4_ n5_ n6_ n7_ n8_ n9_ n10_ n11_; clear hb hbox hg; have hnb89 := NB729_694.out; have hnc89 := NB694_729.out; have hcz90_0 : w88.cell? ⟨gb729, 0, none⟩ = some (.bool false) := (kc_ BK729.out 0).trans rfl; have hcz90_1 : w88.cell? ⟨gb729, 1, none⟩ = some (.string (⟨#[]⟩ : ByteArray)) := (kc_ BK729.out 1).trans rfl; have hcz90_2 : w88.cell? ⟨gb729, 2, none⟩ = some (.string (⟨#[]⟩ : ByteArray)) := (kc_ BK729.out 2).trans rfl; have hfz90_0 := kF_ BK729.out 0; have hfz90_1 := kF_ BK729.out 1; have hfz90_2 := kF_ BK729.out 2; obtain ⟨Ao91, co91, eo91⟩ := Kd.V_slice HO724.out; subst eo91; have p731 : 0 ≤ (0 : Int) := (by omega); have q731 : 0 < (t722.length : Int) := of_decide_eq_true aS_; obtain ⟨ad731, e731, hx731_0⟩ := Kd.at_int (Kd.V_reads' HO724.out).2.2 0 p731 q731; cases e731; have qi731 : (0 < t722.length) = True := eq_true (by omega); (try rw [show ((0 : Int)).toNat = 0 from rfl] at hx731_0); (try rw [Addr.add_zero'] at hx731_0); have hn731_0 : ad731.block ≠ gb729 := cell_blk_ne hx731_0 BK729.out (no_int3 (by intro _ _ h; cases h) (by intro _ _ h; cases h) (by intro _ _ h; cases h)); have hn731_1 : ad731.block ≠ gb729 := cell_blk_ne hx731_0 BK729.out (no_int3 (by intro _ _ h; cases h) (by intro _ _ h; cases h) (by intro _ _ h; cases h)); have hn731_2 : ad731.block ≠ gb729 := cell_blk_ne hx731_0 BK729.out (no_int3 (by intro _ _ h; cases h) (by intro _ _ h; cases h) (by intro _ _ h; cases h)); replace hx731_0 := (cell_far (p := ⟨gb729, 0, none⟩) (by first | (rw [add_block]; exact hn731_0) | (show (Addr.add _ _).block ≠ _; rw [add_block]; exact hn731_0) | exact hn731_0) (.bool a0)).trans hx731_0; replace hx731_0 := (cell_far (p := ⟨gb729, 1, none⟩) (by first | (rw [add_block]; exact hn731_1) | (show (Addr.add _ _).block ≠ _; rw [add_block]; exact hn731_1) | exact hn731_1) (.string t728)).trans hx731_0; replace hx731_0 := (cell_far (p := ⟨gb729, 2, none⟩) (by first | (rw [add_block]; exact hn731_2) | (show (Addr.add _ _).block ≠ _; rw [add_block]; exact hn731_2) | exact hn731_2) (.string (⟨#[]⟩ : ByteArray))).trans hx731_0; clear hn731_0 hn731_1 hn731_2; replace p731 := eq_true p731; replace q731 := eq_true q731) | ((with_reducible refine gC_ (f := 110) rfl ?_); refine goesL_ (some 51) rfl rfl Tryd.func110 (by kernel_rfl) rfl #[.slice (some ad731) t722.length co91] rfl mp_ ?_; (with_reducible refine (insolvencyref1_text.calls k _ _ t722 t732 _ ?side1 ?side2 A80.out).mono ?_); (case side1 => refine (Kd.V_reads' (e := 89) (base := w.heap.size) (ok := fun k_ => (k_ ≠ gb694 ∧ k_ ≠ gb729)) (n := t722.length) (c := co91) ?_).2.2; exact (by (with_reducible repeat (first | apply Kd.V_alloc | apply Kd.V_drewN | apply Kd.V_drew)); exact (Kd.V_mono (Kd.V_far (p := ⟨gb729, 2, none⟩) (Kd.V_far (p := ⟨gb729, 1, none⟩) (Kd.V_far (p := ⟨gb729, 0, none⟩) (Kd.V_mono HO724.out (fun k_ hk => (⟨hk, hk.2⟩ : _ ∧ k_ ≠ gb729))) (fun _ hk => hk.2) (.bool a0)) (fun _ hk => hk.2) (.string t728)) (fun _ hk => hk.2) (.string (⟨#[]⟩ : ByteArray))) (fun _ h_ => h_.1)))); (case side2 => exact (Kd.V_reads' HO724.out).2.1); rintro e w92 ⟨rfl, hb⟩; refine ⟨_, rfl, ?_⟩; have n0_ := A0_.mk (Kd.V_below (by (with_reducible repeat (first | apply Kd.V_alloc | apply Kd.V_drewN | apply Kd.V_drew)); exact (Kd.V_mono (Kd.V_far (p := ⟨gb729, 2, none⟩) (Kd.V_far (p := ⟨gb729, 1, none⟩) (Kd.V_far (p := ⟨gb729, 0, none⟩) (Kd.V_mono HO697.out (fun k_ hk => (⟨hk, hk.2⟩ : _ ∧ k_ ≠ gb729))) (fun _ hk => hk.2) (.bool a0)) (fun _ hk => hk.2) (.string t728)) (fun _ hk => hk.2) (.string (⟨#[]⟩ : ByteArray))) (fun _ h_ => h_.1))) hb); have n1_ := A0_.mk (Kd.V_below (by (with_reducible repeat (first | apply Kd.V_alloc | apply Kd.V_drewN | apply Kd.V_drew)); exact (Kd.V_mono (Kd.V_far (p := ⟨gb729, 2, none⟩) (Kd.V_far (p := ⟨gb729, 1, none⟩) (Kd.V_far (p := ⟨gb729, 0, none⟩) (Kd.V_mono HO718.out (fun k_ hk => (⟨hk, hk.2⟩ : _ ∧ k_ ≠ gb729))) (fun _ hk => hk.2) (.bool a0)) (fun _ hk => hk.2) (.string t728)) (fun _ hk => hk.2) (.string (⟨#[]⟩ : ByteArray))) (fun _ h_ => h_.1))) hb); have n2_ := A0_.mk (Kd.V_below (by (with_reducible repeat (first | apply Kd.V_alloc | apply Kd.V_drewN | apply Kd.V_drew)); exact (Kd.V_mono (Kd.V_far (p := ⟨gb729, 2, none⟩) (Kd.V_far (p := ⟨gb729, 1, none⟩) (Kd.V_far (p := ⟨gb729, 0, none⟩) (Kd.V_mono HO721.out (fun k_ hk => (⟨hk, hk.2⟩ : _ ∧ k_ ≠ gb729))) (fun _ hk => hk.2) (.bool a0)) (fun _ hk => hk.2) (.string t728)) (fun _ hk => hk.2) (.string (⟨#[]⟩ : ByteArray))) (fun _ h_ => h_.1))) hb); have n3_ := A0_.mk (Kd.V_below (by (with_reducible repeat (first | apply Kd.V_alloc | apply Kd.V_drewN | apply Kd.V_drew)); exact (Kd.V_mono (Kd.V_far (p := ⟨gb729, 2, none⟩) (Kd.V_far (p := ⟨gb729, 1, none⟩) (Kd.V_far (p := ⟨gb729, 0, none⟩) (Kd.V_mono HO724.out (fun k_ hk => (⟨hk, hk.2⟩ : _ ∧ k_ ≠ gb729))) (fun _ hk => hk.2) (.bool a0)) (fun _ hk => hk.2) (.string t728)) (fun _ hk => hk.2) (.string (⟨#[]⟩ : ByteArray))) (fun _ h_ => h_.1))) hb); have n4_ := A0_.mk (Kd.V_below (by (with_reducible repeat (first | apply Kd.V_alloc | apply Kd.V_drewN | apply Kd.V_drew)); exact (Kd.V_mono (Kd.V_far (p := ⟨gb729, 2, none⟩) (Kd.V_far (p := ⟨gb729, 1, none⟩) (Kd.V_far (p := ⟨gb729, 0, none⟩) (Kd.V_mono HO727.out (fun k_ hk => (⟨hk, hk.2⟩ : _ ∧ k_ ≠ gb729))) (fun _ hk => hk.2) (.bool a0)) (fun _ hk => hk.2) (.string t728)) (fun _ hk => hk.2) (.string (⟨#[]⟩ : ByteArray))) (fun _ h_ => h_.1))) hb); have n5_ := A0_.mk (kB_ (g := gb694) (o := .cells #[.bool false, .string (⟨#[]⟩ : ByteArray), .string (⟨#[]⟩ : ByteArray)] 26 (0, 0)) (by (with_reducible repeat (first | refine kN_ ?_ _ | refine kD_ ?_ | refine kA_ ?_ _)); refine blk_far ?_ NB694_729.out _; (with_reducible repeat (first | refine kN_ ?_ _ | refine kD_ ?_ | refine kA_ ?_ _)); refine blk_far ?_ NB694_729.out _; (with_reducible repeat (first | refine kN_ ?_ _ | refine kD_ ?_ | refine kA_ ?_ _)); refine blk_far ?_ NB694_729.out _; (with_reducible repeat (first | refine kN_ ?_ _ | refine kD_ ?_ | refine kA_ ?_ _)); exact BK694.out) hb); have n6_ := A0_.mk (kB_ (g := gb729) (o := .cells #[.bool a0, .string t728, .string (⟨#[]⟩ : ByteArray)] 26 (0, 0)) (by (with_reducible repeat (first | refine kN_ ?_ _ | refine kD_ ?_ | refine kA_ ?_ _)); refine kP_ (cs := #[.bool a0, .string t728, .string (⟨#[]⟩ : ByteArray)]) ?_ 2 _ rfl; (with_reducible repeat (first | refine kN_ ?_ _ | refine kD_ ?_ | refine kA_ ?_ _)); refine kP_ (cs := #[.bool a0, .string (⟨#[]⟩ : ByteArray), .string (⟨#[]⟩ : ByteArray)]) ?_ 1 _ rfl; (with_reducible repeat (first | refine kN_ ?_ _ | refine kD_ ?_ | refine kA_ ?_ _)); refine kP_ (cs := #[.bool false, .string (⟨#[]⟩ : ByteArray), .string (⟨#[]⟩ : ByteArray)]) ?_ 0 _ rfl; (with_reducible repeat (first | refine kN_ ?_ _ | refine kD_ ?_ | refine kA_ ?_ _)); exact BK729.out) hb); have n7_ := A0_.mk (bT_ (xB2_ HB GE694 GE729) hb); clear HO697 HO718 HO721 HO724 HO727 BK694 BK729 HB; have HO697 := n0_; have HO718 := n1_; have HO721 := n2_; have HO724 := n3_; have HO727 := n4_; have BK694 := n5_; have BK729 := n6_; have HB := n7_; clear n0_ n1_ n2_ n3_ n4_ n5_ n6_ n7_; (try clear hb); (try clear hb2); (try clear hk); (try clear hi); have hcz93_0 : w92.cell? ⟨gb729, 0, none⟩ = some (.bool a0) := (kc_ BK729.out 0).trans rfl; have hcz93_1 : w92.cell? ⟨gb729, 1, none⟩ = some (.string t728) := (kc_ BK729.out 1).trans rfl; have hcz93_2 : w92.cell? ⟨gb729, 2, none⟩ = some (.string (⟨#[]⟩ : ByteArray)) := (kc_ BK729.out 2).trans rfl; have hfz93_0 := kF_ BK729.out 0; have hfz93_1 := kF_ BK729.out 1; have hfz93_2 := kF_ BK729.out 2; have hcz94_0 : w92.cell? ⟨gb694, 0, none⟩ = some (.bool false) := (kc_ BK694.out 0).trans rfl; have hcz94_1 : w92.cell? ⟨gb694, 1, none⟩ = some (.string (⟨#[]⟩ : ByteArray)) := (kc_ BK694.out 1).trans rfl; have hcz94_2 : w92.cell? ⟨gb694, 2, none⟩ = some (.string (⟨#[]⟩ : ByteArray)) := (kc_ BK694.out 2).trans rfl; have hfz94_0 := kF_ BK694.out 0; have hfz94_1 := kF_ BK694.out 1; have hfz94_2 := kF_ BK694.out 2))
        refine bodyPost_ret (results_cell_row rfl _ _ gb694 26 #[.bool a0, .string t728, .string t732] (0, 0) _ rfl (by (with_reducible repeat (first | refine kN_ ?_ _ | refine kD_ ?_ | refine kA_ ?_ _)); refine kP_ (cs := #[.bool a0, .string t728, .string (⟨#[]⟩ : ByteArray)]) ?_ 2 _ rfl; (with_reducible repeat (first | refine kN_ ?_ _ | refine kD_ ?_ | refine kA_ ?_ _)); refine kP_ (cs := #[.bool a0, .string (⟨#[]⟩ : ByteArray), .string (⟨#[]⟩ : ByteArray)]) ?_ 1 _ rfl; (with_reducible repeat (first | refine kN_ ?_ _ | refine kD_ ?_ | refine kA_ ?_ _)); refine kP_ (cs := #[.bool false, .string (⟨#[]⟩ : ByteArray), .string (⟨#[]⟩ : ByteArray)]) ?_ 0 _ rfl; (with_reducible repeat (first | refine kN_ ?_ _ | refine kD_ ?_ | refine kA_ ?_ _)); refine blk_far ?_ NB694_729.out _; (with_reducible repeat (first | refine kN_ ?_ _ | refine kD_ ?_ | refine kA_ ?_ _)); exact BK694.out) Tryd.underlying26 rfl (by kernel_rfl)) rfl ?_
        exact ⟨rE_, xB2_ HB GE694 GE729⟩
       ·rw [if_neg c79] at H
        have c79b0 : decide (1 < (rd t722 0)) = false := decide_eq_false c79
        clear c79
        simp only [Option.some.injEq, Prod.mk.injEq] at H
        obtain ⟨rfl, rfl, rfl⟩ := H
        go_enter Tryd.func113, Tryd.ntmps113
        go_wp2_with (first | ((with_reducible refine gD_ (N := 6) rfl ?_); refine bE_ ?hg (N := 6) ?hd (cs := #[.bool false, .string (⟨#[]⟩ : ByteArray), .string (⟨#[]⟩ : ByteArray)]) (t := 26) ?hr ?_; (case hd => rfl); (case hg => rfl); (case hr => first | (go_simp; done) | (go_simp; rfl)); intro gb694 hg w95 hbox hb; have n0_ := A0_.mk (bT_ (xB_ HB) hb); have n1_ := A0_.mk (hbox); have n2_ := A0_.mk ((by rw [hg]; exact (bZ_ (xB_ HB)) : w.heap.size ≤ gb694)); have n3_ := A0_.mk ((by rw [hg]; exact (bZ_ (xB_ HB)) : w.heap.size ≤ gb694)); clear HB; have HB := n0_; have BK694 := n1_; have GW694 := n2_; have GE694 := n3_; clear n0_ n1_ n2_ n3_; clear hb hbox hg) | ((with_reducible refine gC_ (f := 111) rfl ?_); refine goesL_ (some 15) rfl rfl Tryd.func111 (by kernel_rfl) rfl #[.slice A1 l1.length c1, .slice A2 l2.length c2] rfl mp_ ?_; (with_reducible refine (insolvencyref1_common.calls k (fun k_ => k_ < w.heap.size) _ _ l1 (fun k_ => k_ < w.heap.size) _ _ l2 t695 _ ?side1 ?side2 A7.out).mono ?_); (case side1 => exact Kd.V_mk HC1.out (Kd.F_below (Kd.C_F (Kd.heap_int .u32) HR1.out) (xB1_ HB GE694))); (case side2 => exact Kd.V_mk HC2.out (Kd.F_below (Kd.C_F (Kd.heap_int .u32) HR2.out) (xB1_ HB GE694))); rintro e w96 ⟨v696, rfl, ho0, hb⟩; refine ⟨_, rfl, ?_⟩; have n0_ := A0_.mk (Kd.V_lower (Kd.V_mono (ok' := fun k_ => k_ ≠ gb694) ho0 (fun k_ hk_ => Or.elim hk_ (fun hs_ => Or.elim hs_ (fun hs_ => fun e_ => Nat.not_le.2 hs_ (by rw [e_]; exact GW694.out)) (fun hs_ => fun e_ => Nat.not_le.2 hs_ (by rw [e_]; exact GW694.out))) (fun hn_ => (Kd.freshB (g := gb694) (o := .cells #[.bool false, .string (⟨#[]⟩ : ByteArray), .string (⟨#[]⟩ : ByteArray)] 26 (0, 0)) (xK_ BK694.out) k_ hn_)))) (bZ_ (xB1_ HB GE694))); have n1_ := A0_.mk (kB_ (g := gb694) (o := .cells #[.bool false, .string (⟨#[]⟩ : ByteArray), .string (⟨#[]⟩ : ByteArray)] 26 (0, 0)) (xK_ BK694.out) hb); have n2_ := A0_.mk (bT_ (xB1_ HB GE694) hb); clear BK694 HB; have HO697 := n0_; have BK694 := n1_; have HB := n2_; clear n0_ n1_ n2_; (try clear hb); (try clear hb2); (try clear hk); (try clear hi); (try clear ho0); obtain ⟨Ao97, co97, eo97⟩ := Kd.V_slice HO697.out; subst eo97; have p715 : 0 ≤ (0 : Int) := (by omega); have q715 : 0 < (t695.length : Int) := of_decide_eq_true aS_; obtain ⟨ad715, e715, hx715_0⟩ := Kd.at_int (Kd.V_reads' HO697.out).2.2 0 p715 q715; cases e715; have qi715 : (0 < t695.length) = True := eq_true (by omega); (try rw [show ((0 : Int)).toNat = 0 from rfl] at hx715_0); (try rw [Addr.add_zero'] at hx715_0); replace p715 := eq_true p715; replace q715 := eq_true q715) | ((with_reducible refine gC_ (f := 121) rfl ?_); refine goesL_ (some 28) rfl rfl Tryd.func121 (by kernel_rfl) rfl #[.slice A1 l1.length c1, .slice (some ad715) t695.length co97] rfl mp_ ?_; (with_reducible refine (insolvencyref1_divide.calls k (fun k_ => k_ < w.heap.size) _ _ l1 _ _ t695 t716 t719 _ ?side1 ?side2 ?side3 A59.out).mono ?_); (case side1 => exact Kd.V_mk HC1.out (Kd.F_below (Kd.C_F (Kd.heap_int .u32) HR1.out) (xB1_ HB GE694))); (case side2 => repeat (first | exact (Kd.V_reads' HO697.out).2.2 | (with_reducible refine Kd.C_alloc ?_ _) | (with_reducible refine Kd.C_drewN ?_ _) | (with_reducible refine Kd.C_drew ?_))); (case side3 => exact (Kd.V_reads' HO697.out).2.1); rintro e w98 ⟨v717, v720, rfl, ho0, ho1, hb⟩; refine ⟨_, rfl, ?_⟩; have n0_ := A0_.mk (Kd.V_below (xV_ HO697.out) hb); have n1_ := A0_.mk (Kd.V_lower (Kd.V_mono (ok' := fun k_ => k_ ≠ gb694) ho0 (fun k_ hk_ => Or.elim hk_ (fun hs_ => fun e_ => Nat.not_le.2 hs_ (by rw [e_]; exact GW694.out)) (fun hn_ => (Kd.freshB (g := gb694) (o := .cells #[.bool false, .string (⟨#[]⟩ : ByteArray), .string (⟨#[]⟩ : ByteArray)] 26 (0, 0)) (xK_ BK694.out) k_ hn_)))) (bZ_ (xB1_ HB GE694))); have n2_ := A0_.mk (Kd.V_lower (Kd.V_mono (ok' := fun k_ => k_ ≠ gb694) ho1 (fun k_ hk_ => Or.elim hk_ (fun hs_ => fun e_ => Nat.not_le.2 hs_ (by rw [e_]; exact GW694.out)) (fun hn_ => (Kd.freshB (g := gb694) (o := .cells #[.bool false, .string (⟨#[]⟩ : ByteArray), .string (⟨#[]⟩ : ByteArray)] 26 (0, 0)) (xK_ BK694.out) k_ hn_)))) (bZ_ (xB1_ HB GE694))); have n3_ := A0_.mk (kB_ (g := gb694) (o := .cells #[.bool false, .string (⟨#[]⟩ : ByteArray), .string (⟨#[]⟩ : ByteArray)] 26 (0, 0)) (xK_ BK694.out) hb); have n4_ := A0_.mk (bT_ (xB1_ HB GE694) hb); clear HO697 BK694 HB; have HO697 := n0_; have HO718 := n1_; have HO721 := n2_; have BK694 := n3_; have HB := n4_; clear n0_ n1_ n2_ n3_ n4_; (try clear hb); (try clear hb2); (try clear hk); (try clear hi); (try clear ho0); (try clear ho1)) | ((with_reducible refine gC_ (f := 121) rfl ?_); refine goesL_ (some 34) rfl rfl Tryd.func121 (by kernel_rfl) rfl #[.slice A2 l2.length c2, .slice (some ad715) t695.length co97] rfl mp_ ?_; (with_reducible refine (insolvencyref1_divide.calls k (fun k_ => k_ < w.heap.size) _ _ l2 _ _ t695 t722 t725 _ ?side1 ?side2 ?side3 A60.out).mono ?_); (case side1 => exact Kd.V_mk HC2.out (Kd.F_below (Kd.C_F (Kd.heap_int .u32) HR2.out) (xB1_ HB GE694))); (case side2 => repeat (first | exact (Kd.V_reads' HO697.out).2.2 | (with_reducible refine Kd.C_alloc ?_ _) | (with_reducible refine Kd.C_drewN ?_ _) | (with_reducible refine Kd.C_drew ?_))); (case side3 => exact (Kd.V_reads' HO697.out).2.1); rintro e w99 ⟨v723, v726, rfl, ho0, ho1, hb⟩; refine ⟨_, rfl, ?_⟩; have n0_ := A0_.mk (Kd.V_below (xV_ HO697.out) hb); have n1_ := A0_.mk (Kd.V_below (xV_ HO718.out) hb); have n2_ := A0_.mk (Kd.V_below (xV_ HO721.out) hb); have n3_ := A0_.mk (Kd.V_lower (Kd.V_mono (ok' := fun k_ => k_ ≠ gb694) ho0 (fun k_ hk_ => Or.elim hk_ (fun hs_ => fun e_ => Nat.not_le.2 hs_ (by rw [e_]; exact GW694.out)) (fun hn_ => (Kd.freshB (g := gb694) (o := .cells #[.bool false, .string (⟨#[]⟩ : ByteArray), .string (⟨#[]⟩ : ByteArray)] 26 (0, 0)) (xK_ BK694.out) k_ hn_)))) (bZ_ (xB1_ HB GE694))); have n4_ := A0_.mk (Kd.V_lower (Kd.V_mono (ok' := fun k_ => k_ ≠ gb694) ho1 (fun k_ hk_ => Or.elim hk_ (fun hs_ => fun e_ => Nat.not_le.2 hs_ (by rw [e_]; exact GW694.out)) (fun hn_ => (Kd.freshB (g := gb694) (o := .cells #[.bool false, .string (⟨#[]⟩ : ByteArray), .string (⟨#[]⟩ : ByteArray)] 26 (0, 0)) (xK_ BK694.out) k_ hn_)))) (bZ_ (xB1_ HB GE694))); have n5_ := A0_.mk (kB_ (g := gb694) (o := .cells #[.bool false, .string (⟨#[]⟩ : ByteArray), .string (⟨#[]⟩ : ByteArray)] 26 (0, 0)) (xK_ BK694.out) hb); have n6_ := A0_.mk (bT_ (xB1_ HB GE694) hb); clear HO697 HO718 HO721 BK694 HB; have HO697 := n0_; have HO718 := n1_; have HO721 := n2_; have HO724 := n3_; have HO727 := n4_; have BK694 := n5_; have HB := n6_; clear n0_ n1_ n2_ n3_ n4_ n5_ n6_; (try clear hb); (try clear hb2); (try clear hk); (try clear hi); (try clear ho0); (try clear ho1); obtain ⟨Ao100, co100, eo100⟩ := Kd.V_slice HO718.out; subst eo100) | ((with_reducible refine gC_ (f := 110) rfl ?_); refine goesL_ (some 39) rfl rfl Tryd.func110 (by kernel_rfl) rfl #[.slice Ao100 t716.length co100] rfl mp_ ?_; (with_reducible refine (insolvencyref1_text.calls k _ _ t716 t728 _ ?side1 ?side2 A61.out).mono ?_); (case side1 => repeat (first | exact (Kd.V_reads' HO718.out).2.2 | (with_reducible refine Kd.C_alloc ?_ _) | (with_reducible refine Kd.C_drewN ?_ _) | (with_reducible refine Kd.C_drew ?_))); (case side2 => exact (Kd.V_reads' HO718.out).2.1); rintro e w101 ⟨rfl, hb⟩; refine ⟨_, rfl, ?_⟩; have n0_ := A0_.mk (Kd.V_below (xV_ HO697.out) hb); have n1_ := A0_.mk (Kd.V_below (xV_ HO718.out) hb); have n2_ := A0_.mk (Kd.V_below (xV_ HO721.out) hb); have n3_ := A0_.mk (Kd.V_below (xV_ HO724.out) hb); have n4_ := A0_.mk (Kd.V_below (xV_ HO727.out) hb); have n5_ := A0_.mk (kB_ (g := gb694) (o := .cells #[.bool false, .string (⟨#[]⟩ : ByteArray), .string (⟨#[]⟩ : ByteArray)] 26 (0, 0)) (xK_ BK694.out) hb); have n6_ := A0_.mk (bT_ (xB1_ HB GE694) hb); clear HO697 HO718 HO721 HO724 HO727 BK694 HB; have HO697 := n0_; have HO718 := n1_; have HO721 := n2_; have HO724 := n3_; have HO727 := n4_; have BK694 := n5_; have HB := n6_; clear n0_ n1_ n2_ n3_ n4_ n5_ n6_; (try clear hb); (try clear hb2); (try clear hk); (try clear hi)) | ((with_reducible refine gD_ (N := 8) rfl ?_); refine bE_ ?hg (N := 8) ?hd (cs := #[.bool false, .string (⟨#[]⟩ : ByteArray), .string (⟨#[]⟩ : ByteArray)]) (t := 26) ?hr ?_; (case hd => rfl); (case hg => rfl); (case hr => first | (go_simp; done) | (go_simp; rfl)); intro gb729 hg w102 hbox hb; have n0_ := A0_.mk (Kd.V_below (Kd.V_elderB (xV_ HO697.out) gb729 (Nat.le_of_eq hg.symm)) hb); have n1_ := A0_.mk (Kd.V_below (Kd.V_elderB (xV_ HO718.out) gb729 (Nat.le_of_eq hg.symm)) hb); have n2_ := A0_.mk (Kd.V_below (Kd.V_elderB (xV_ HO721.out) gb729 (Nat.le_of_eq hg.symm)) hb); have n3_ := A0_.mk (Kd.V_below (Kd.V_elderB (xV_ HO724.out) gb729 (Nat.le_of_eq hg.symm)) hb); have n4_ := A0_.mk (Kd.V_below (Kd.V_elderB (xV_ HO727.out) gb729 (Nat.le_of_eq hg.symm)) hb); have n5_ := A0_.mk (kB_ (g := gb694) (o := .cells #[.bool false, .string (⟨#[]⟩ : ByteArray), .string (⟨#[]⟩ : ByteArray)] 26 (0, 0)) (xK_ BK694.out) hb); have n6_ := A0_.mk (bT_ (xB1_ HB GE694) hb); have n7_ := A0_.mk (hbox); have n8_ := A0_.mk ((by rw [hg]; exact (bZ_ (xB1_ HB GE694)) : w.heap.size ≤ gb729)); have n9_ := A0_.mk ((by rw [hg]; exact (bZ_ (xB1_ HB GE694)) : w.heap.size ≤ gb729)); have n10_ := A0_.mk ((by rw [hg]; exact Nat.ne_of_lt (blk_lt (g := gb694) (o := .cells #[.bool false, .string (⟨#[]⟩ : ByteArray), .string (⟨#[]⟩ : ByteArray)] 26 (0, 0)) (xK_ BK694.out)) : gb694 ≠ gb729)); have n11_ := A0_.mk ((by rw [hg]; exact Nat.ne_of_gt (blk_lt (g := gb694) (o := .cells #[.bool false, .string (⟨#[]⟩ : ByteArray), .string (⟨#[]⟩ : ByteArray)] 26 (0, 0)) (xK_ BK694.out)) : gb729 ≠ gb694)); clear HO697 HO718 HO721 HO724 HO727 BK694 HB; have HO697 := n0_; have HO718 := n1_; have HO721 := n2_; have HO724 := n3_; have HO727 := n4_; have BK694 := n5_; have HB := n6_; have BK729 := n7_; have GW729 := n8_; have GE729 := n9_; have NB694_729 := n10_; have NB729_694 := n11_; clear n0_ n1_ n2_ n3_ n4_ n5_ n6_ n7_ n8_ n9_ n10_ n11_; clear hb hbox hg; have hnb103 := NB729_694.out; have hnc103 := NB694_729.out; have hcz104_0 : w102.cell? ⟨gb729, 0, none⟩ = some (.bool false) := (kc_ BK729.out 0).trans rfl; have hcz104_1 : w102.cell? ⟨gb729, 1, none⟩ = some (.string (⟨#[]⟩ : ByteArray)) := (kc_ BK729.out 1).trans rfl; have hcz104_2 : w102.cell? ⟨gb729, 2, none⟩ = some (.string (⟨#[]⟩ : ByteArray)) := (kc_ BK729.out 2).trans rfl; have hfz104_0 := kF_ BK729.out 0; have hfz104_1 := kF_ BK729.out 1; have hfz104_2 := kF_ BK729.out 2; obtain ⟨Ao105, co105, eo105⟩ := Kd.V_slice HO724.out; subst eo105; have p731 : 0 ≤ (0 : Int) := (by omega); have q731 : 0 < (t722.length : Int) := of_decide_eq_true aS_; obtain ⟨ad731, e731, hx731_0⟩ := Kd.at_int (Kd.V_reads' HO724.out).2.2 0 p731 q731; cases e731; have qi731 : (0 < t722.length) = True := eq_true (by omega); (try rw [show ((0 : Int)).toNat = 0 from rfl] at hx731_0); (try rw [Addr.add_zero'] at hx731_0); have hn731_0 : ad731.block ≠ gb729 := cell_blk_ne hx731_0 BK729.out (no_int3 (by intro _ _ h; cases h) (by intro _ _ h; cases h) (by intro _ _ h; cases h)); have hn731_1 : ad731.block ≠ gb729 := cell_blk_ne hx731_0 BK729.out (no_int3 (by intro _ _ h; cases h) (by intro _ _ h; cases h) (by intro _ _ h; cases h)); have hn731_2 : ad731.block ≠ gb729 := cell_blk_ne hx731_0 BK729.out (no_int3 (by intro _ _ h; cases h) (by intro _ _ h; cases h) (by intro _ _ h; cases h)); replace hx731_0 := (cell_far (p := ⟨gb729, 0, none⟩) (by first | (rw [add_block]; exact hn731_0) | (show (Addr.add _ _).block ≠ _; rw [add_block]; exact hn731_0) | exact hn731_0) (.bool a0)).trans hx731_0; replace hx731_0 := (cell_far (p := ⟨gb729, 1, none⟩) (by first | (rw [add_block]; exact hn731_1) | (show (Addr.add _ _).block ≠ _; rw [add_block]; exact hn731_1) | exact hn731_1) (.string t728)).trans hx731_0; replace hx731_0 := (cell_far (p := ⟨gb729, 2, none⟩) (by first | (rw [add_block]; exact hn731_2) | (show (Addr.add _ _).block ≠ _; rw [add_block]; exact hn731_2) | exact hn731_2) (.string (⟨#[]⟩ : ByteArray))).trans hx731_0; clear hn731_0 hn731_1 hn731_2; replace p731 := eq_true p731; replace q731 := eq_true q731; have hcz106_0 : w102.cell? ⟨gb694, 0, none⟩ = some (.bool false) := (kc_ BK694.out 0).trans rfl; have hcz106_1 : w102.cell? ⟨gb694, 1, none⟩ = some (.string (⟨#[]⟩ : ByteArray)) := (kc_ BK694.out 1).trans rfl; have hcz106_2 : w102.cell? ⟨gb694, 2, none⟩ = some (.string (⟨#[]⟩ : ByteArray)) := (kc_ BK694.out 2).trans rfl; have hfz106_0 := kF_ BK694.out 0; have hfz106_1 := kF_ BK694.out 1; have hfz106_2 := kF_ BK694.out 2))
        refine bodyPost_ret (results_cell_row rfl _ _ gb694 26 #[.bool a0, .string t728, .string (⟨#[]⟩ : ByteArray)] (0, 0) _ rfl (by (with_reducible repeat (first | refine kN_ ?_ _ | refine kD_ ?_ | refine kA_ ?_ _)); refine kP_ (cs := #[.bool a0, .string t728, .string (⟨#[]⟩ : ByteArray)]) ?_ 2 _ rfl; (with_reducible repeat (first | refine kN_ ?_ _ | refine kD_ ?_ | refine kA_ ?_ _)); refine kP_ (cs := #[.bool a0, .string (⟨#[]⟩ : ByteArray), .string (⟨#[]⟩ : ByteArray)]) ?_ 1 _ rfl; (with_reducible repeat (first | refine kN_ ?_ _ | refine kD_ ?_ | refine kA_ ?_ _)); refine kP_ (cs := #[.bool false, .string (⟨#[]⟩ : ByteArray), .string (⟨#[]⟩ : ByteArray)]) ?_ 0 _ rfl; (with_reducible repeat (first | refine kN_ ?_ _ | refine kD_ ?_ | refine kA_ ?_ _)); refine blk_far ?_ NB694_729.out _; (with_reducible repeat (first | refine kN_ ?_ _ | refine kD_ ?_ | refine kA_ ?_ _)); refine blk_far ?_ NB694_729.out _; (with_reducible repeat (first | refine kN_ ?_ _ | refine kD_ ?_ | refine kA_ ?_ _)); refine blk_far ?_ NB694_729.out _; (with_reducible repeat (first | refine kN_ ?_ _ | refine kD_ ?_ | refine kA_ ?_ _)); exact BK694.out) Tryd.underlying26 rfl (by kernel_rfl)) rfl ?_
        exact ⟨rE_, xB2_ HB GE694 GE729⟩
      ·rw [if_neg c78] at H
       exact absurd H (by simp)
    ·rw [if_neg c58] at H
     have c58b0 : decide (1 < (rd t695 0)) = false := decide_eq_false c58
     clear c58
     replace H := Option.bind_eq_some_iff.mp H
     obtain ⟨t733, A1070, H⟩ := H
     (try dsimp only at H)
     have A107 := A0_.mk A1070
     clear A1070
     by_cases c108 : (l2.length : Int) > 1
     ·rw [if_pos c108] at H
      exact absurd H (by simp)
     ·rw [if_neg c108] at H
      have c108b0 : decide (1 < (l2.length : Int)) = false := decide_eq_false c108
      have c108b1 : decide (1 < l2.length) = false := decide_eq_false (by omega)
      clear c108
      by_cases c120 : 0 < (l2.length : Int)
      ·rw [if_pos c120] at H
       have c120b0 : decide (0 < (l2.length : Int)) = true := decide_eq_true c120
       have c120b1 : decide (0 < l2.length) = true := decide_eq_true (by omega)
       clear c120
       by_cases c121 : (rd l2 0) > 1
       ·rw [if_pos c121] at H
        have c121b0 : decide (1 < (rd l2 0)) = true := decide_eq_true c121
        clear c121
        replace H := Option.bind_eq_some_iff.mp H
        obtain ⟨t737, A1220, H⟩ := H
        (try dsimp only at H)
        have A122 := A0_.mk A1220
        clear A1220
        simp only [Option.some.injEq, Prod.mk.injEq] at H
        obtain ⟨rfl, rfl, rfl⟩ := H
        go_enter Tryd.func113, Tryd.ntmps113
        go_wp2_with (first | ((with_reducible refine gD_ (N := 6) rfl ?_); refine bE_ ?hg (N := 6) ?hd (cs := #[.bool false, .string (⟨#[]⟩ : ByteArray), .string (⟨#[]⟩ : ByteArray)]) (t := 26) ?hr ?_; (case hd => rfl); (case hg => rfl); (case hr => first | (go_simp; done) | (go_simp; rfl)); intro gb694 hg w123 hbox hb; have n0_ := A0_.mk (bT_ (xB_ HB) hb); have n1_ := A0_.mk (hbox); have n2_ := A0_.mk ((by rw [hg]; exact (bZ_ (xB_ HB)) : w.heap.size ≤ gb694)); have n3_ := A0_.mk ((by rw [hg]; exact (bZ_ (xB_ HB)) : w.heap.size ≤ gb694)); clear HB; have HB := n0_; have BK694 := n1_; have GW694 := n2_; have GE694 := n3_; clear n0_ n1_ n2_ n3_; clear hb hbox hg) | ((with_reducible refine gC_ (f := 111) rfl ?_); refine goesL_ (some 15) rfl rfl Tryd.func111 (by kernel_rfl) rfl #[.slice A1 l1.length c1, .slice A2 l2.length c2] rfl mp_ ?_; (with_reducible refine (insolvencyref1_common.calls k (fun k_ => k_ < w.heap.size) _ _ l1 (fun k_ => k_ < w.heap.size) _ _ l2 t695 _ ?side1 ?side2 A7.out).mono ?_); (case side1 => exact Kd.V_mk HC1.out (Kd.F_below (Kd.C_F (Kd.heap_int .u32) HR1.out) (xB1_ HB GE694))); (case side2 => exact Kd.V_mk HC2.out (Kd.F_below (Kd.C_F (Kd.heap_int .u32) HR2.out) (xB1_ HB GE694))); rintro e w124 ⟨v696, rfl, ho0, hb⟩; refine ⟨_, rfl, ?_⟩; have n0_ := A0_.mk (Kd.V_lower (Kd.V_mono (ok' := fun k_ => k_ ≠ gb694) ho0 (fun k_ hk_ => Or.elim hk_ (fun hs_ => Or.elim hs_ (fun hs_ => fun e_ => Nat.not_le.2 hs_ (by rw [e_]; exact GW694.out)) (fun hs_ => fun e_ => Nat.not_le.2 hs_ (by rw [e_]; exact GW694.out))) (fun hn_ => (Kd.freshB (g := gb694) (o := .cells #[.bool false, .string (⟨#[]⟩ : ByteArray), .string (⟨#[]⟩ : ByteArray)] 26 (0, 0)) (xK_ BK694.out) k_ hn_)))) (bZ_ (xB1_ HB GE694))); have n1_ := A0_.mk (kB_ (g := gb694) (o := .cells #[.bool false, .string (⟨#[]⟩ : ByteArray), .string (⟨#[]⟩ : ByteArray)] 26 (0, 0)) (xK_ BK694.out) hb); have n2_ := A0_.mk (bT_ (xB1_ HB GE694) hb); clear BK694 HB; have HO697 := n0_; have BK694 := n1_; have HB := n2_; clear n0_ n1_ n2_; (try clear hb); (try clear hb2); (try clear hk); (try clear hi); (try clear ho0); obtain ⟨Ao125, co125, eo125⟩ := Kd.V_slice HO697.out; subst eo125; have p715 : 0 ≤ (0 : Int) := (by omega); have q715 : 0 < (t695.length : Int) := of_decide_eq_true aS_; obtain ⟨ad715, e715, hx715_0⟩ := Kd.at_int (Kd.V_reads' HO697.out).2.2 0 p715 q715; cases e715; have qi715 : (0 < t695.length) = True := eq_true (by omega); (try rw [show ((0 : Int)).toNat = 0 from rfl] at hx715_0); (try rw [Addr.add_zero'] at hx715_0); replace p715 := eq_true p715; replace q715 := eq_true q715) | ((with_reducible refine gC_ (f := 110) rfl ?_); refine goesL_ (some 39) rfl rfl Tryd.func110 (by kernel_rfl) rfl #[.slice A1 l1.length c1] rfl mp_ ?_; (with_reducible refine (insolvencyref1_text.calls k _ _ l1 t733 _ ?side1 ?side2 A107.out).mono ?_); (case side1 => repeat (first | exact (Kd.C_below HR1.out HB.out) | (with_reducible refine Kd.C_alloc ?_ _) | (with_reducible refine Kd.C_drewN ?_ _) | (with_reducible refine Kd.C_drew ?_))); (case side2 => exact HC1.out); rintro e w126 ⟨rfl, hb⟩; refine ⟨_, rfl, ?_⟩; have n0_ := A0_.mk (Kd.V_below (xV_ HO697.out) hb); have n1_ := A0_.mk (kB_ (g := gb694) (o := .cells #[.bool false, .string (⟨#[]⟩ : ByteArray), .string (⟨#[]⟩ : ByteArray)] 26 (0, 0)) (xK_ BK694.out) hb); have n2_ := A0_.mk (bT_ (xB1_ HB GE694) hb); clear HO697 BK694 HB; have HO697 := n0_; have BK694 := n1_; have HB := n2_; clear n0_ n1_ n2_; (try clear hb); (try clear hb2); (try clear hk); (try clear hi)) | ((with_reducible refine gD_ (N := 8) rfl ?_); refine bE_ ?hg (N := 8) ?hd (cs := #[.bool false, .string (⟨#[]⟩ : ByteArray), .string (⟨#[]⟩ : ByteArray)]) (t := 26) ?hr ?_; (case hd => rfl); (case hg => rfl); (case hr => first | (go_simp; done) | (go_simp; rfl)); intro gb734 hg w127 hbox hb; have n0_ := A0_.mk (Kd.V_below (Kd.V_elderB (xV_ HO697.out) gb734 (Nat.le_of_eq hg.symm)) hb); have n1_ := A0_.mk (kB_ (g := gb694) (o := .cells #[.bool false, .string (⟨#[]⟩ : ByteArray), .string (⟨#[]⟩ : ByteArray)] 26 (0, 0)) (xK_ BK694.out) hb); have n2_ := A0_.mk (bT_ (xB1_ HB GE694) hb); have n3_ := A0_.mk (hbox); have n4_ := A0_.mk ((by rw [hg]; exact (bZ_ (xB1_ HB GE694)) : w.heap.size ≤ gb734)); have n5_ := A0_.mk ((by rw [hg]; exact (bZ_ (xB1_ HB GE694)) : w.heap.size ≤ gb734)); have n6_ := A0_.mk ((by rw [hg]; exact Nat.ne_of_lt (blk_lt (g := gb694) (o := .cells #[.bool false, .string (⟨#[]⟩ : ByteArray), .string (⟨#[]⟩ : ByteArray)] 26 (0, 0)) (xK_ BK694.out)) : gb694 ≠ gb734)); have n7_ := A0_.mk ((by rw [hg]; exact Nat.ne_of_gt (blk_lt (g := gb694) (o := .cells #[.bool false, .string (⟨#[]⟩ : ByteArray), .string (⟨#[]⟩ : ByteArray)] 26 (0, 0)) (xK_ BK694.out)) : gb734 ≠ gb694)); clear HO697 BK694 HB; have HO697 := n0_; have BK694 := n1_; have HB := n2_; have BK734 := n3_; have GW734 := n4_; have GE734 := n5_; have NB694_734 := n6_; have NB734_694 := n7_; clear n0_ n1_ n2_ n3_ n4_ n5_ n6_ n7_; clear hb hbox hg; have hnb128 := NB734_694.out; have hnc128 := NB694_734.out; have hcz129_0 : w127.cell? ⟨gb734, 0, none⟩ = some (.bool false) := (kc_ BK734.out 0).trans rfl; have hcz129_1 : w127.cell? ⟨gb734, 1, none⟩ = some (.string (⟨#[]⟩ : ByteArray)) := (kc_ BK734.out 1).trans rfl; have hcz129_2 : w127.cell? ⟨gb734, 2, none⟩ = some (.string (⟨#[]⟩ : ByteArray)) := (kc_ BK734.out 2).trans rfl; have hfz129_0 := kF_ BK734.out 0; have hfz129_1 := kF_ BK734.out 1; have hfz129_2 := kF_ BK734.out 2; have p736 : 0 ≤ (0 : Int) := (by omega); have q736 : 0 < (l2.length : Int) := of_decide_eq_true aS_; obtain ⟨ad736, e736, hx736_0⟩ := Kd.at_int HR2.out 0 p736 q736; cases e736; have qi736 : (0 < l2.length) = True := eq_true (by omega); (try rw [show ((0 : Int)).toNat = 0 from rfl] at hx736_0); (try rw [Addr.add_zero'] at hx736_0); have hn736_0 : ad736.block ≠ gb734 := Nat.ne_of_lt (Nat.lt_of_lt_of_le (by have := World.block_lt_of_cell? _ _ hx736_0; first | rwa [add_block] at this | exact this) GW734.out); have hn736_1 : ad736.block ≠ gb734 := Nat.ne_of_lt (Nat.lt_of_lt_of_le (by have := World.block_lt_of_cell? _ _ hx736_0; first | rwa [add_block] at this | exact this) GW734.out); have hn736_2 : ad736.block ≠ gb734 := Nat.ne_of_lt (Nat.lt_of_lt_of_le (by have := World.block_lt_of_cell? _ _ hx736_0; first | rwa [add_block] at this | exact this) GW734.out); (try replace hx736_0 := (HB.out.cell (World.block_lt_of_cell? w _ hx736_0)).trans hx736_0); replace hx736_0 := (cell_far (p := ⟨gb734, 0, none⟩) (by first | (rw [add_block]; exact hn736_0) | (show (Addr.add _ _).block ≠ _; rw [add_block]; exact hn736_0) | exact hn736_0) (.bool a0)).trans hx736_0; replace hx736_0 := (cell_far (p := ⟨gb734, 1, none⟩) (by first | (rw [add_block]; exact hn736_1) | (show (Addr.add _ _).block ≠ _; rw [add_block]; exact hn736_1) | exact hn736_1) (.string t733)).trans hx736_0; replace hx736_0 := (cell_far (p := ⟨gb734, 2, none⟩) (by first | (rw [add_block]; exact hn736_2) | (show (Addr.add _ _).block ≠ _; rw [add_block]; exact hn736_2) | exact hn736_2) (.string (⟨#[]⟩ : ByteArray))).trans hx736_0; clear hn736_0 hn736_1 hn736_2; replace p736 := eq_true p736; replace q736 := eq_true q736) | ((with_reducible refine gC_ (f := 110) rfl ?_); refine goesL_ (some 51) rfl rfl Tryd.func110 (by kernel_rfl) rfl #[.slice (some ad736) l2.length c2] rfl mp_ ?_; (with_reducible refine (insolvencyref1_text.calls k _ _ l2 t737 _ ?side1 ?side2 A122.out).mono ?_); (case side1 => exact Kd.C_below HR2.out (xB2_ HB GE694 GE734)); (case side2 => exact HC2.out); rintro e w130 ⟨rfl, hb⟩; refine ⟨_, rfl, ?_⟩; have n0_ := A0_.mk (Kd.V_below (by (with_reducible repeat (first | apply Kd.V_alloc | apply Kd.V_drewN | apply Kd.V_drew)); exact (Kd.V_mono (Kd.V_far (p := ⟨gb734, 2, none⟩) (Kd.V_far (p := ⟨gb734, 1, none⟩) (Kd.V_far (p := ⟨gb734, 0, none⟩) (Kd.V_mono HO697.out (fun k_ hk => (⟨hk, hk.2⟩ : _ ∧ k_ ≠ gb734))) (fun _ hk => hk.2) (.bool a0)) (fun _ hk => hk.2) (.string t733)) (fun _ hk => hk.2) (.string (⟨#[]⟩ : ByteArray))) (fun _ h_ => h_.1))) hb); have n1_ := A0_.mk (kB_ (g := gb694) (o := .cells #[.bool false, .string (⟨#[]⟩ : ByteArray), .string (⟨#[]⟩ : ByteArray)] 26 (0, 0)) (by (with_reducible repeat (first | refine kN_ ?_ _ | refine kD_ ?_ | refine kA_ ?_ _)); refine blk_far ?_ NB694_734.out _; (with_reducible repeat (first | refine kN_ ?_ _ | refine kD_ ?_ | refine kA_ ?_ _)); refine blk_far ?_ NB694_734.out _; (with_reducible repeat (first | refine kN_ ?_ _ | refine kD_ ?_ | refine kA_ ?_ _)); refine blk_far ?_ NB694_734.out _; (with_reducible repeat (first | refine kN_ ?_ _ | refine kD_ ?_ | refine kA_ ?_ _)); exact BK694.out) hb); have n2_ := A0_.mk (kB_ (g := gb734) (o := .cells #[.bool a0, .string t733, .string (⟨#[]⟩ : ByteArray)] 26 (0, 0)) (by (with_reducible repeat (first | refine kN_ ?_ _ | refine kD_ ?_ | refine kA_ ?_ _)); refine kP_ (cs := #[.bool a0, .string t733, .string (⟨#[]⟩ : ByteArray)]) ?_ 2 _ rfl; (with_reducible repeat (first | refine kN_ ?_ _ | refine kD_ ?_ | refine kA_ ?_ _)); refine kP_ (cs := #[.bool a0, .string (⟨#[]⟩ : ByteArray), .string (⟨#[]⟩ : ByteArray)]) ?_ 1 _ rfl; (with_reducible repeat (first | refine kN_ ?_ _ | refine kD_ ?_ | refine kA_ ?_ _)); refine kP_ (cs := #[.bool false, .string (⟨#[]⟩ : ByteArray), .string (⟨#[]⟩ : ByteArray)]) ?_ 0 _ rfl; (with_reducible repeat (first | refine kN_ ?_ _ | refine kD_ ?_ | refine kA_ ?_ _)); exact BK734.out) hb); have n3_ := A0_.mk (bT_ (xB2_ HB GE694 GE734) hb); clear HO697 BK694 BK734 HB; have HO697 := n0_; have BK694 := n1_; have BK734 := n2_; have HB := n3_; clear n0_ n1_ n2_ n3_; (try clear hb); (try clear hb2); (try clear hk); (try clear hi); have hcz131_0 : w130.cell? ⟨gb734, 0, none⟩ = some (.bool a0) := (kc_ BK734.out 0).trans rfl; have hcz131_1 : w130.cell? ⟨gb734, 1, none⟩ = some (.string t733) := (kc_ BK734.out 1).trans rfl; have hcz131_2 : w130.cell? ⟨gb734, 2, none⟩ = some (.string (⟨#[]⟩ : ByteArray)) := (kc_ BK734.out 2).trans rfl; have hfz131_0 := kF_ BK734.out 0; have hfz131_1 := kF_ BK734.out 1; have hfz131_2 := kF_ BK734.out 2; have hcz132_0 : w130.cell? ⟨gb694, 0, none⟩ = some (.bool false) := (kc_ BK694.out 0).trans rfl; have hcz132_1 : w130.cell? ⟨gb694, 1, none⟩ = some (.string (⟨#[]⟩ : ByteArray)) := (kc_ BK694.out 1).trans rfl; have hcz132_2 : w130.cell? ⟨gb694, 2, none⟩ = some (.string (⟨#[]⟩ : ByteArray)) := (kc_ BK694.out 2).trans rfl; have hfz132_0 := kF_ BK694.out 0; have hfz132_1 := kF_ BK694.out 1; have hfz132_2 := kF_ BK694.out 2))
        refine bodyPost_ret (results_cell_row rfl _ _ gb694 26 #[.bool a0, .string t733, .string t737] (0, 0) _ rfl (by (with_reducible repeat (first | refine kN_ ?_ _ | refine kD_ ?_ | refine kA_ ?_ _)); refine kP_ (cs := #[.bool a0, .string t733, .string (⟨#[]⟩ : ByteArray)]) ?_ 2 _ rfl; (with_reducible repeat (first | refine kN_ ?_ _ | refine kD_ ?_ | refine kA_ ?_ _)); refine kP_ (cs := #[.bool a0, .string (⟨#[]⟩ : ByteArray), .string (⟨#[]⟩ : ByteArray)]) ?_ 1 _ rfl; (with_reducible repeat (first | refine kN_ ?_ _ | refine kD_ ?_ | refine kA_ ?_ _)); refine kP_ (cs := #[.bool false, .string (⟨#[]⟩ : ByteArray), .string (⟨#[]⟩ : ByteArray)]) ?_ 0 _ rfl; (with_reducible repeat (first | refine kN_ ?_ _ | refine kD_ ?_ | refine kA_ ?_ _)); refine blk_far ?_ NB694_734.out _; (with_reducible repeat (first | refine kN_ ?_ _ | refine kD_ ?_ | refine kA_ ?_ _)); exact BK694.out) Tryd.underlying26 rfl (by kernel_rfl)) rfl ?_
        exact ⟨rE_, xB2_ HB GE694 GE734⟩
       ·rw [if_neg c121] at H
        have c121b0 : decide (1 < (rd l2 0)) = false := decide_eq_false c121
        clear c121
        simp only [Option.some.injEq, Prod.mk.injEq] at H
        obtain ⟨rfl, rfl, rfl⟩ := H
        go_enter Tryd.func113, Tryd.ntmps113
        go_wp2_with (first | ((with_reducible refine gD_ (N := 6) rfl ?_); refine bE_ ?hg (N := 6) ?hd (cs := #[.bool false, .string (⟨#[]⟩ : ByteArray), .string (⟨#[]⟩ : ByteArray)]) (t := 26) ?hr ?_; (case hd => rfl); (case hg => rfl); (case hr => first | (go_simp; done) | (go_simp; rfl)); intro gb694 hg w133 hbox hb; have n0_ := A0_.mk (bT_ (xB_ HB) hb); have n1_ := A0_.mk (hbox); have n2_ := A0_.mk ((by rw [hg]; exact (bZ_ (xB_ HB)) : w.heap.size ≤ gb694)); have n3_ := A0_.mk ((by rw [hg]; exact (bZ_ (xB_ HB)) : w.heap.size ≤ gb694)); clear HB; have HB := n0_; have BK694 := n1_; have GW694 := n2_; have GE694 := n3_; clear n0_ n1_ n2_ n3_; clear hb hbox hg) | ((with_reducible refine gC_ (f := 111) rfl ?_); refine goesL_ (some 15) rfl rfl Tryd.func111 (by kernel_rfl) rfl #[.slice A1 l1.length c1, .slice A2 l2.length c2] rfl mp_ ?_; (with_reducible refine (insolvencyref1_common.calls k (fun k_ => k_ < w.heap.size) _ _ l1 (fun k_ => k_ < w.heap.size) _ _ l2 t695 _ ?side1 ?side2 A7.out).mono ?_); (case side1 => exact Kd.V_mk HC1.out (Kd.F_below (Kd.C_F (Kd.heap_int .u32) HR1.out) (xB1_ HB GE694))); (case side2 => exact Kd.V_mk HC2.out (Kd.F_below (Kd.C_F (Kd.heap_int .u32) HR2.out) (xB1_ HB GE694))); rintro e w134 ⟨v696, rfl, ho0, hb⟩; refine ⟨_, rfl, ?_⟩; have n0_ := A0_.mk (Kd.V_lower (Kd.V_mono (ok' := fun k_ => k_ ≠ gb694) ho0 (fun k_ hk_ => Or.elim hk_ (fun hs_ => Or.elim hs_ (fun hs_ => fun e_ => Nat.not_le.2 hs_ (by rw [e_]; exact GW694.out)) (fun hs_ => fun e_ => Nat.not_le.2 hs_ (by rw [e_]; exact GW694.out))) (fun hn_ => (Kd.freshB (g := gb694) (o := .cells #[.bool false, .string (⟨#[]⟩ : ByteArray), .string (⟨#[]⟩ : ByteArray)] 26 (0, 0)) (xK_ BK694.out) k_ hn_)))) (bZ_ (xB1_ HB GE694))); have n1_ := A0_.mk (kB_ (g := gb694) (o := .cells #[.bool false, .string (⟨#[]⟩ : ByteArray), .string (⟨#[]⟩ : ByteArray)] 26 (0, 0)) (xK_ BK694.out) hb); have n2_ := A0_.mk (bT_ (xB1_ HB GE694) hb); clear BK694 HB; have HO697 := n0_; have BK694 := n1_; have HB := n2_; clear n0_ n1_ n2_; (try clear hb); (try clear hb2); (try clear hk); (try clear hi); (try clear ho0); obtain ⟨Ao135, co135, eo135⟩ := Kd.V_slice HO697.out; subst eo135; have p715 : 0 ≤ (0 : Int) := (by omega); have q715 : 0 < (t695.length : Int) := of_decide_eq_true aS_; obtain ⟨ad715, e715, hx715_0⟩ := Kd.at_int (Kd.V_reads' HO697.out).2.2 0 p715 q715; cases e715; have qi715 : (0 < t695.length) = True := eq_true (by omega); (try rw [show ((0 : Int)).toNat = 0 from rfl] at hx715_0); (try rw [Addr.add_zero'] at hx715_0); replace p715 := eq_true p715; replace q715 := eq_true q715) | ((with_reducible refine gC_ (f := 110) rfl ?_); refine goesL_ (some 39) rfl rfl Tryd.func110 (by kernel_rfl) rfl #[.slice A1 l1.length c1] rfl mp_ ?_; (with_reducible refine (insolvencyref1_text.calls k _ _ l1 t733 _ ?side1 ?side2 A107.out).mono ?_); (case side1 => repeat (first | exact (Kd.C_below HR1.out HB.out) | (with_reducible refine Kd.C_alloc ?_ _) | (with_reducible refine Kd.C_drewN ?_ _) | (with_reducible refine Kd.C_drew ?_))); (case side2 => exact HC1.out); rintro e w136 ⟨rfl, hb⟩; refine ⟨_, rfl, ?_⟩; have n0_ := A0_.mk (Kd.V_below (xV_ HO697.out) hb); have n1_ := A0_.mk (kB_ (g := gb694) (o := .cells #[.bool false, .string (⟨#[]⟩ : ByteArray), .string (⟨#[]⟩ : ByteArray)] 26 (0, 0)) (xK_ BK694.out) hb); have n2_ := A0_.mk (bT_ (xB1_ HB GE694) hb); clear HO697 BK694 HB; have HO697 := n0_; have BK694 := n1_; have HB := n2_; clear n0_ n1_ n2_; (try clear hb); (try clear hb2); (try clear hk); (try clear hi)) | ((with_reducible refine gD_ (N := 8) rfl ?_); refine bE_ ?hg (N := 8) ?hd (cs := #[.bool false, .string (⟨#[]⟩ : ByteArray), .string (⟨#[]⟩ : ByteArray)]) (t := 26) ?hr ?_; (case hd => rfl); (case hg => rfl); (case hr => first | (go_simp; done) | (go_simp; rfl)); intro gb734 hg w137 hbox hb; have n0_ := A0_.mk (Kd.V_below (Kd.V_elderB (xV_ HO697.out) gb734 (Nat.le_of_eq hg.symm)) hb); have n1_ := A0_.mk (kB_ (g := gb694) (o := .cells #[.bool false, .string (⟨#[]⟩ : ByteArray), .string (⟨#[]⟩ : ByteArray)] 26 (0, 0)) (xK_ BK694.out) hb); have n2_ := A0_.mk (bT_ (xB1_ HB GE694) hb); have n3_ := A0_.mk (hbox); have n4_ := A0_.mk ((by rw [hg]; exact (bZ_ (xB1_ HB GE694)) : w.heap.size ≤ gb734)); have n5_ := A0_.mk ((by rw [hg]; exact (bZ_ (xB1_ HB GE694)) : w.heap.size ≤ gb734)); have n6_ := A0_.mk ((by rw [hg]; exact Nat.ne_of_lt (blk_lt (g := gb694) (o := .cells #[.bool false, .string (⟨#[]⟩ : ByteArray), .string (⟨#[]⟩ : ByteArray)] 26 (0, 0)) (xK_ BK694.out)) : gb694 ≠ gb734)); have n7_ := A0_.mk ((by rw [hg]; exact Nat.ne_of_gt (blk_lt (g := gb694) (o := .cells #[.bool false, .string (⟨#[]⟩ : ByteArray), .string (⟨#[]⟩ : ByteArray)] 26 (0, 0)) (xK_ BK694.out)) : gb734 ≠ gb694)); clear HO697 BK694 HB; have HO697 := n0_; have BK694 := n1_; have HB := n2_; have BK734 := n3_; have GW734 := n4_; have GE734 := n5_; have NB694_734 := n6_; have NB734_694 := n7_; clear n0_ n1_ n2_ n3_ n4_ n5_ n6_ n7_; clear hb hbox hg; have hnb138 := NB734_694.out; have hnc138 := NB694_734.out; have hcz139_0 : w137.cell? ⟨gb734, 0, none⟩ = some (.bool false) := (kc_ BK734.out 0).trans rfl; have hcz139_1 : w137.cell? ⟨gb734, 1, none⟩ = some (.string (⟨#[]⟩ : ByteArray)) := (kc_ BK734.out 1).trans rfl; have hcz139_2 : w137.cell? ⟨gb734, 2, none⟩ = some (.string (⟨#[]⟩ : ByteArray)) := (kc_ BK734.out 2).trans rfl; have hfz139_0 := kF_ BK734.out 0; have hfz139_1 := kF_ BK734.out 1; have hfz139_2 := kF_ BK734.out 2; have p736 : 0 ≤ (0 : Int) := (by omega); have q736 : 0 < (l2.length : Int) := of_decide_eq_true aS_; obtain ⟨ad736, e736, hx736_0⟩ := Kd.at_int HR2.out 0 p736 q736; cases e736; have qi736 : (0 < l2.length) = True := eq_true (by omega); (try rw [show ((0 : Int)).toNat = 0 from rfl] at hx736_0); (try rw [Addr.add_zero'] at hx736_0); have hn736_0 : ad736.block ≠ gb734 := Nat.ne_of_lt (Nat.lt_of_lt_of_le (by have := World.block_lt_of_cell? _ _ hx736_0; first | rwa [add_block] at this | exact this) GW734.out); have hn736_1 : ad736.block ≠ gb734 := Nat.ne_of_lt (Nat.lt_of_lt_of_le (by have := World.block_lt_of_cell? _ _ hx736_0; first | rwa [add_block] at this | exact this) GW734.out); have hn736_2 : ad736.block ≠ gb734 := Nat.ne_of_lt (Nat.lt_of_lt_of_le (by have := World.block_lt_of_cell? _ _ hx736_0; first | rwa [add_block] at this | exact this) GW734.out); (try replace hx736_0 := (HB.out.cell (World.block_lt_of_cell? w _ hx736_0)).trans hx736_0); replace hx736_0 := (cell_far (p := ⟨gb734, 0, none⟩) (by first | (rw [add_block]; exact hn736_0) | (show (Addr.add _ _).block ≠ _; rw [add_block]; exact hn736_0) | exact hn736_0) (.bool a0)).trans hx736_0; replace hx736_0 := (cell_far (p := ⟨gb734, 1, none⟩) (by first | (rw [add_block]; exact hn736_1) | (show (Addr.add _ _).block ≠ _; rw [add_block]; exact hn736_1) | exact hn736_1) (.string t733)).trans hx736_0; replace hx736_0 := (cell_far (p := ⟨gb734, 2, none⟩) (by first | (rw [add_block]; exact hn736_2) | (show (Addr.add _ _).block ≠ _; rw [add_block]; exact hn736_2) | exact hn736_2) (.string (⟨#[]⟩ : ByteArray))).trans hx736_0; clear hn736_0 hn736_1 hn736_2; replace p736 := eq_true p736; replace q736 := eq_true q736; have hcz140_0 : w137.cell? ⟨gb694, 0, none⟩ = some (.bool false) := (kc_ BK694.out 0).trans rfl; have hcz140_1 : w137.cell? ⟨gb694, 1, none⟩ = some (.string (⟨#[]⟩ : ByteArray)) := (kc_ BK694.out 1).trans rfl; have hcz140_2 : w137.cell? ⟨gb694, 2, none⟩ = some (.string (⟨#[]⟩ : ByteArray)) := (kc_ BK694.out 2).trans rfl; have hfz140_0 := kF_ BK694.out 0; have hfz140_1 := kF_ BK694.out 1; have hfz140_2 := kF_ BK694.out 2))
        refine bodyPost_ret (results_cell_row rfl _ _ gb694 26 #[.bool a0, .string t733, .string (⟨#[]⟩ : ByteArray)] (0, 0) _ rfl (by (with_reducible repeat (first | refine kN_ ?_ _ | refine kD_ ?_ | refine kA_ ?_ _)); refine kP_ (cs := #[.bool a0, .string t733, .string (⟨#[]⟩ : ByteArray)]) ?_ 2 _ rfl; (with_reducible repeat (first | refine kN_ ?_ _ | refine kD_ ?_ | refine kA_ ?_ _)); refine kP_ (cs := #[.bool a0, .string (⟨#[]⟩ : ByteArray), .string (⟨#[]⟩ : ByteArray)]) ?_ 1 _ rfl; (with_reducible repeat (first | refine kN_ ?_ _ | refine kD_ ?_ | refine kA_ ?_ _)); refine kP_ (cs := #[.bool false, .string (⟨#[]⟩ : ByteArray), .string (⟨#[]⟩ : ByteArray)]) ?_ 0 _ rfl; (with_reducible repeat (first | refine kN_ ?_ _ | refine kD_ ?_ | refine kA_ ?_ _)); refine blk_far ?_ NB694_734.out _; (with_reducible repeat (first | refine kN_ ?_ _ | refine kD_ ?_ | refine kA_ ?_ _)); refine blk_far ?_ NB694_734.out _; (with_reducible repeat (first | refine kN_ ?_ _ | refine kD_ ?_ | refine kA_ ?_ _)); refine blk_far ?_ NB694_734.out _; (with_reducible repeat (first | refine kN_ ?_ _ | refine kD_ ?_ | refine kA_ ?_ _)); exact BK694.out) Tryd.underlying26 rfl (by kernel_rfl)) rfl ?_
        exact ⟨rE_, xB2_ HB GE694 GE734⟩
      ·rw [if_neg c120] at H
       exact absurd H (by simp)
   ·rw [if_neg c57] at H
    exact absurd H (by simp)
def insolvencyref1_Make.f (k : Nat) (a0 : Bool) (a1 : ByteArray) (a2 : ByteArray) : Option (Bool × ByteArray × ByteArray × Bool) := (insolvencyref1_limbs.f k a2).bind fun t739 => (if (t739.length : Int) = 0 then (some (false, (⟨#[]⟩ : ByteArray), (⟨#[]⟩ : ByteArray), false)) else ((insolvencyref1_limbs.f k a1).bind fun t742 => ((insolvencyref1_reduced.f k a0 t742 t739).bind fun bt745 => (some (bt745.1, bt745.2.1, bt745.2.2, true)))))
theorem insolvencyref1_Make.mono : ∀ a0 a1 a2 k, LeO (insolvencyref1_Make.f k a0 a1 a2) (insolvencyref1_Make.f (k + 1) a0 a1 a2) := by
 intro a0 a1 a2 k
 unfold insolvencyref1_Make.f
 repeat' first
   | (with_reducible exact insolvencyref1_limbs.mono _ _)
   | (with_reducible exact insolvencyref1_reduced.mono _ _ _ _)
   | (with_reducible exact LeO.refl _)
   | (with_reducible exact LeO.none _)
   | (with_reducible refine LeO.ite ?_ ?_)
   | (with_reducible refine LeO.bind ?_ (fun _ => ?_))
set_option maxHeartbeats 8000000 in
set_option maxRecDepth 100000 in
theorem insolvencyref1_Make.calls (k : Nat) (a0 : Bool) (a1 : ByteArray) (a2 : ByteArray) (r1 : Bool) (r2 : ByteArray) (r3 : ByteArray) (r4 : Bool) (w : World) (h : insolvencyref1_Make.f k a0 a1 a2 = some (r1, r2, r3, r4)) :
  Calls Tryd.prog 91 #[.bool a0, .string a1, .string a2] w fun e w' => e = .returned (.tuple #[.agg #[.bool r1, .string r2, .string r3], .bool r4]) ∧ Below w.heap.size w w' := by
 have hu26 := Tryd.underlying26
 have HB := A0_.mk (Below.refl w.heap.size w)
 have H := h
 unfold insolvencyref1_Make.f at H
 clear h
 replace H := Option.bind_eq_some_iff.mp H
 obtain ⟨t739, A40, H⟩ := H
 (try dsimp only at H)
 have A4 := A0_.mk A40
 clear A40
 by_cases c5 : (t739.length : Int) = 0
 ·rw [if_pos c5] at H
  have c5b0 : ((t739.length : Int) == 0) = true := beq_iff_eq.mpr c5
  have c5b1 : ((t739.length : Int) != 0) = false := bne_eq_false_iff_eq.mpr c5
  clear c5
  simp only [Option.some.injEq, Prod.mk.injEq] at H
  obtain ⟨rfl, rfl, rfl, rfl⟩ := H
  go_enter Tryd.func91, Tryd.ntmps91
  go_wp2_with (first | ((with_reducible refine gD_ (N := 6) rfl ?_); refine bE_ ?hg (N := 6) ?hd (cs := #[.bool false, .string (⟨#[]⟩ : ByteArray), .string (⟨#[]⟩ : ByteArray)]) (t := 26) ?hr ?_; (case hd => rfl); (case hg => rfl); (case hr => first | (go_simp; done) | (go_simp; rfl)); intro gb738 hg w6 hbox hb; have n0_ := A0_.mk (bT_ (xB_ HB) hb); have n1_ := A0_.mk (hbox); have n2_ := A0_.mk ((by rw [hg]; exact (bZ_ (xB_ HB)) : w.heap.size ≤ gb738)); have n3_ := A0_.mk ((by rw [hg]; exact (bZ_ (xB_ HB)) : w.heap.size ≤ gb738)); clear HB; have HB := n0_; have BK738 := n1_; have GW738 := n2_; have GE738 := n3_; clear n0_ n1_ n2_ n3_; clear hb hbox hg) | ((with_reducible refine gC_ (f := 112) rfl ?_); refine goesL_ (some 10) rfl rfl Tryd.func112 (by kernel_rfl) rfl #[.string a2] rfl mp_ ?_; (with_reducible refine (insolvencyref1_limbs.calls k a2 t739 _ A4.out).mono ?_); rintro e w7 ⟨v740, rfl, ho0, hb⟩; refine ⟨_, rfl, ?_⟩; have n0_ := A0_.mk (Kd.R_lower ho0 (bZ_ (xB1_ HB GE738))); have n1_ := A0_.mk (kB_ (g := gb738) (o := .cells #[.bool false, .string (⟨#[]⟩ : ByteArray), .string (⟨#[]⟩ : ByteArray)] 26 (0, 0)) (xK_ BK738.out) hb); have n2_ := A0_.mk (bT_ (xB1_ HB GE738) hb); clear BK738 HB; have HO741 := n0_; have BK738 := n1_; have HB := n2_; clear n0_ n1_ n2_; (try clear hb); (try clear hb2); (try clear hk); (try clear hi); (try clear ho0); obtain ⟨Ao8, co8, eo8⟩ := Kd.R_slice HO741.out; subst eo8; have hcz9_0 : w7.cell? ⟨gb738, 0, none⟩ = some (.bool false) := (kc_ BK738.out 0).trans rfl; have hcz9_1 : w7.cell? ⟨gb738, 1, none⟩ = some (.string (⟨#[]⟩ : ByteArray)) := (kc_ BK738.out 1).trans rfl; have hcz9_2 : w7.cell? ⟨gb738, 2, none⟩ = some (.string (⟨#[]⟩ : ByteArray)) := (kc_ BK738.out 2).trans rfl; have hfz9_0 := kF_ BK738.out 0; have hfz9_1 := kF_ BK738.out 1; have hfz9_2 := kF_ BK738.out 2))
  refine bodyPost_ret (results_ct rfl _ _ gb738 26 #[.bool false, .string (⟨#[]⟩ : ByteArray), .string (⟨#[]⟩ : ByteArray)] (0, 0) _ rfl (by (with_reducible repeat (first | refine kN_ ?_ _ | refine kD_ ?_ | refine kA_ ?_ _)); refine kP_ (cs := #[.bool false, .string (⟨#[]⟩ : ByteArray), .string (⟨#[]⟩ : ByteArray)]) ?_ 2 _ rfl; (with_reducible repeat (first | refine kN_ ?_ _ | refine kD_ ?_ | refine kA_ ?_ _)); refine kP_ (cs := #[.bool false, .string (⟨#[]⟩ : ByteArray), .string (⟨#[]⟩ : ByteArray)]) ?_ 1 _ rfl; (with_reducible repeat (first | refine kN_ ?_ _ | refine kD_ ?_ | refine kA_ ?_ _)); refine kP_ (cs := #[.bool false, .string (⟨#[]⟩ : ByteArray), .string (⟨#[]⟩ : ByteArray)]) ?_ 0 _ rfl; (with_reducible repeat (first | refine kN_ ?_ _ | refine kD_ ?_ | refine kA_ ?_ _)); exact BK738.out) Tryd.underlying26 rfl (by kernel_rfl)) rfl ?_
  exact ⟨rE_, xB1_ HB GE738⟩
 ·rw [if_neg c5] at H
  have c5b0 : ((t739.length : Int) == 0) = false := beq_eq_false_iff_ne.mpr c5
  have c5b1 : ((t739.length : Int) != 0) = true := bne_iff_ne.mpr c5
  have c5b2 : ¬ (t739 = []) := fun h_ => c5 (by rw [h_]; rfl)
  replace H := Option.bind_eq_some_iff.mp H
  obtain ⟨t742, A100, H⟩ := H
  (try dsimp only at H)
  have A10 := A0_.mk A100
  clear A100
  replace H := Option.bind_eq_some_iff.mp H
  obtain ⟨⟨t745, t746, t747⟩, A110, H⟩ := H
  (try dsimp only at H)
  have A11 := A0_.mk A110
  clear A110
  simp only [Option.some.injEq, Prod.mk.injEq] at H
  obtain ⟨rfl, rfl, rfl, rfl⟩ := H
  go_enter Tryd.func91, Tryd.ntmps91
  go_wp2_with (first | ((with_reducible refine gD_ (N := 6) rfl ?_); refine bE_ ?hg (N := 6) ?hd (cs := #[.bool false, .string (⟨#[]⟩ : ByteArray), .string (⟨#[]⟩ : ByteArray)]) (t := 26) ?hr ?_; (case hd => rfl); (case hg => rfl); (case hr => first | (go_simp; done) | (go_simp; rfl)); intro gb738 hg w12 hbox hb; have n0_ := A0_.mk (bT_ (xB_ HB) hb); have n1_ := A0_.mk (hbox); have n2_ := A0_.mk ((by rw [hg]; exact (bZ_ (xB_ HB)) : w.heap.size ≤ gb738)); have n3_ := A0_.mk ((by rw [hg]; exact (bZ_ (xB_ HB)) : w.heap.size ≤ gb738)); clear HB; have HB := n0_; have BK738 := n1_; have GW738 := n2_; have GE738 := n3_; clear n0_ n1_ n2_ n3_; clear hb hbox hg) | ((with_reducible refine gC_ (f := 112) rfl ?_); refine goesL_ (some 10) rfl rfl Tryd.func112 (by kernel_rfl) rfl #[.string a2] rfl mp_ ?_; (with_reducible refine (insolvencyref1_limbs.calls k a2 t739 _ A4.out).mono ?_); rintro e w13 ⟨v740, rfl, ho0, hb⟩; refine ⟨_, rfl, ?_⟩; have n0_ := A0_.mk (Kd.R_lower ho0 (bZ_ (xB1_ HB GE738))); have n1_ := A0_.mk (kB_ (g := gb738) (o := .cells #[.bool false, .string (⟨#[]⟩ : ByteArray), .string (⟨#[]⟩ : ByteArray)] 26 (0, 0)) (xK_ BK738.out) hb); have n2_ := A0_.mk (bT_ (xB1_ HB GE738) hb); clear BK738 HB; have HO741 := n0_; have BK738 := n1_; have HB := n2_; clear n0_ n1_ n2_; (try clear hb); (try clear hb2); (try clear hk); (try clear hi); (try clear ho0); obtain ⟨Ao14, co14, eo14⟩ := Kd.R_slice HO741.out; subst eo14) | ((with_reducible refine gC_ (f := 112) rfl ?_); refine goesL_ (some 17) rfl rfl Tryd.func112 (by kernel_rfl) rfl #[.string a1] rfl mp_ ?_; (with_reducible refine (insolvencyref1_limbs.calls k a1 t742 _ A10.out).mono ?_); rintro e w15 ⟨v743, rfl, ho0, hb⟩; refine ⟨_, rfl, ?_⟩; have n0_ := A0_.mk (Kd.R_elder' (xR_ HO741.out) (Kd.R_base ho0) hb); have n1_ := A0_.mk (Kd.R_lower (Kd.R_new' ho0 (Kd.R_lt (xR_ HO741.out))) (bZ_ (xB1_ HB GE738))); have n2_ := A0_.mk (kB_ (g := gb738) (o := .cells #[.bool false, .string (⟨#[]⟩ : ByteArray), .string (⟨#[]⟩ : ByteArray)] 26 (0, 0)) (xK_ BK738.out) hb); have n3_ := A0_.mk (bT_ (xB1_ HB GE738) hb); clear HO741 BK738 HB; have HO741 := n0_; have HO744 := n1_; have BK738 := n2_; have HB := n3_; clear n0_ n1_ n2_ n3_; (try clear hb); (try clear hb2); (try clear hk); (try clear hi); (try clear ho0); obtain ⟨Ao16, co16, eo16⟩ := Kd.R_slice HO744.out; subst eo16) | ((with_reducible refine gC_ (f := 113) rfl ?_); refine goesL_ (some 19) rfl rfl Tryd.func113 (by kernel_rfl) rfl #[.bool a0, .slice Ao16 t742.length co16, .slice Ao14 t739.length co14] rfl mp_ ?_; (with_reducible refine (insolvencyref1_reduced.calls k a0 _ _ t742 _ _ t739 t745 t746 t747 _ ?side1 ?side2 ?side3 ?side4 A11.out).mono ?_); (case side1 => repeat (first | exact (Kd.R_reads' HO744.out).2.2 | (with_reducible refine Kd.C_alloc ?_ _) | (with_reducible refine Kd.C_drewN ?_ _) | (with_reducible refine Kd.C_drew ?_))); (case side2 => exact (Kd.R_reads' HO744.out).2.1); (case side3 => repeat (first | exact (Kd.R_reads' HO741.out).2.2 | (with_reducible refine Kd.C_alloc ?_ _) | (with_reducible refine Kd.C_drewN ?_ _) | (with_reducible refine Kd.C_drew ?_))); (case side4 => exact (Kd.R_reads' HO741.out).2.1); rintro e w17 ⟨rfl, hb⟩; refine ⟨_, rfl, ?_⟩; have n0_ := A0_.mk (Kd.R_below (xR_ HO741.out) hb); have n1_ := A0_.mk (Kd.R_below (xR_ HO744.out) hb); have n2_ := A0_.mk (kB_ (g := gb738) (o := .cells #[.bool false, .string (⟨#[]⟩ : ByteArray), .string (⟨#[]⟩ : ByteArray)] 26 (0, 0)) (xK_ BK738.out) hb); have n3_ := A0_.mk (bT_ (xB1_ HB GE738) hb); clear HO741 HO744 BK738 HB; have HO741 := n0_; have HO744 := n1_; have BK738 := n2_; have HB := n3_; clear n0_ n1_ n2_ n3_; (try clear hb); (try clear hb2); (try clear hk); (try clear hi); have hcz18_0 : w17.cell? ⟨gb738, 0, none⟩ = some (.bool false) := (kc_ BK738.out 0).trans rfl; have hcz18_1 : w17.cell? ⟨gb738, 1, none⟩ = some (.string (⟨#[]⟩ : ByteArray)) := (kc_ BK738.out 1).trans rfl; have hcz18_2 : w17.cell? ⟨gb738, 2, none⟩ = some (.string (⟨#[]⟩ : ByteArray)) := (kc_ BK738.out 2).trans rfl; have hfz18_0 := kF_ BK738.out 0; have hfz18_1 := kF_ BK738.out 1; have hfz18_2 := kF_ BK738.out 2))
  refine bodyPost_ret (results_ct rfl _ _ gb738 26 #[.bool t745, .string t746, .string t747] (0, 0) _ rfl (by (with_reducible repeat (first | refine kN_ ?_ _ | refine kD_ ?_ | refine kA_ ?_ _)); refine kP_ (cs := #[.bool t745, .string t746, .string (⟨#[]⟩ : ByteArray)]) ?_ 2 _ rfl; (with_reducible repeat (first | refine kN_ ?_ _ | refine kD_ ?_ | refine kA_ ?_ _)); refine kP_ (cs := #[.bool t745, .string (⟨#[]⟩ : ByteArray), .string (⟨#[]⟩ : ByteArray)]) ?_ 1 _ rfl; (with_reducible repeat (first | refine kN_ ?_ _ | refine kD_ ?_ | refine kA_ ?_ _)); refine kP_ (cs := #[.bool false, .string (⟨#[]⟩ : ByteArray), .string (⟨#[]⟩ : ByteArray)]) ?_ 0 _ rfl; (with_reducible repeat (first | refine kN_ ?_ _ | refine kD_ ?_ | refine kA_ ?_ _)); exact BK738.out) Tryd.underlying26 rfl (by kernel_rfl)) rfl ?_
  exact ⟨rE_, xB1_ HB GE738⟩
def insolvencyref1_size.f (a0 : Int) : Option (Int) := if a0 < 0 then (some (IntKind.u64.wrap ((IntKind.u64.wrap (wrap64 (-(wrap64 (a0 + 1))))) + 1))) else (some (IntKind.u64.wrap (a0)))
set_option maxHeartbeats 8000000 in
set_option maxRecDepth 100000 in
theorem insolvencyref1_size.calls (a0 : Int) (r : Int) (w : World) (h : insolvencyref1_size.f a0 = some r) :
  Calls Tryd.prog 93 #[.int .i64 a0] w fun e w' => e = .returned (.int .u64 r) ∧ Drawn0 w w' := by
 have H := h
 unfold insolvencyref1_size.f at H
 clear h
 by_cases c2 : a0 < 0
 ·rw [if_pos c2] at H
  have c2b0 : decide (a0 < 0) = true := decide_eq_true c2
  clear c2
  obtain rfl := Option.some.inj H
  go_enter Tryd.func93, Tryd.ntmps93
  go_wp2
  go_ret
  exact ⟨by first | rfl | (simp; done) | (simp [*]; done), by repeat (first | exact Drawn0.refl _ | apply Drawn0.step)⟩
 ·rw [if_neg c2] at H
  have c2b0 : decide (a0 < 0) = false := decide_eq_false c2
  clear c2
  obtain rfl := Option.some.inj H
  go_enter Tryd.func93, Tryd.ntmps93
  go_wp2
  go_ret
  exact ⟨by first | rfl | (simp; done) | (simp [*]; done), by repeat (first | exact Drawn0.refl _ | apply Drawn0.step)⟩
def insolvencyref1_Fraction.f (k : Nat) (a0 : Int) (a1 : Int) : Option (Bool × ByteArray × ByteArray × Bool) := (insolvencyref1_size.f a0).bind fun t753 => ((insolvencyref1_FromUint.f k t753).bind fun t754 => ((insolvencyref1_size.f a1).bind fun t755 => ((insolvencyref1_FromUint.f k t755).bind fun t756 => ((insolvencyref1_Make.f k ((decide (a0 < 0)) != (decide (a1 < 0))) t754 t756).bind fun bt757 => (some (bt757.1, bt757.2.1, bt757.2.2.1, bt757.2.2.2))))))
theorem insolvencyref1_Fraction.mono : ∀ a0 a1 k, LeO (insolvencyref1_Fraction.f k a0 a1) (insolvencyref1_Fraction.f (k + 1) a0 a1) := by
 intro a0 a1 k
 unfold insolvencyref1_Fraction.f
 repeat' first
   | (with_reducible exact insolvencyref1_FromUint.mono _ _)
   | (with_reducible exact insolvencyref1_Make.mono _ _ _ _)
   | (with_reducible exact LeO.refl _)
   | (with_reducible exact LeO.none _)
   | (with_reducible refine LeO.ite ?_ ?_)
   | (with_reducible refine LeO.bind ?_ (fun _ => ?_))
set_option maxHeartbeats 8000000 in
set_option maxRecDepth 100000 in
theorem insolvencyref1_Fraction.calls (k : Nat) (a0 : Int) (a1 : Int) (r1 : Bool) (r2 : ByteArray) (r3 : ByteArray) (r4 : Bool) (w : World) (h : insolvencyref1_Fraction.f k a0 a1 = some (r1, r2, r3, r4)) :
  Calls Tryd.prog 74 #[.int .i64 a0, .int .i64 a1] w fun e w' => e = .returned (.tuple #[.agg #[.bool r1, .string r2, .string r3], .bool r4]) ∧ Below w.heap.size w w' := by
 have hu26 := Tryd.underlying26
 have HB := A0_.mk (Below.refl w.heap.size w)
 have H := h
 unfold insolvencyref1_Fraction.f at H
 clear h
 replace H := Option.bind_eq_some_iff.mp H
 obtain ⟨t753, A30, H⟩ := H
 (try dsimp only at H)
 have A3 := A0_.mk A30
 clear A30
 replace H := Option.bind_eq_some_iff.mp H
 obtain ⟨t754, A40, H⟩ := H
 (try dsimp only at H)
 have A4 := A0_.mk A40
 clear A40
 replace H := Option.bind_eq_some_iff.mp H
 obtain ⟨t755, A50, H⟩ := H
 (try dsimp only at H)
 have A5 := A0_.mk A50
 clear A50
 replace H := Option.bind_eq_some_iff.mp H
 obtain ⟨t756, A60, H⟩ := H
 (try dsimp only at H)
 have A6 := A0_.mk A60
 clear A60
 replace H := Option.bind_eq_some_iff.mp H
 obtain ⟨⟨t757, t758, t759, t760⟩, A70, H⟩ := H
 (try dsimp only at H)
 have A7 := A0_.mk A70
 clear A70
 simp only [Option.some.injEq, Prod.mk.injEq] at H
 obtain ⟨rfl, rfl, rfl, rfl⟩ := H
 go_enter Tryd.func74, Tryd.ntmps74
 go_wp2_with (first | ((with_reducible refine gD_ (N := 4) rfl ?_); refine bE_ ?hg (N := 4) ?hd (cs := #[.bool false, .string (⟨#[]⟩ : ByteArray), .string (⟨#[]⟩ : ByteArray)]) (t := 26) ?hr ?_; (case hd => rfl); (case hg => rfl); (case hr => first | (go_simp; done) | (go_simp; rfl)); intro gb752 hg w8 hbox hb; have n0_ := A0_.mk (bT_ (xB_ HB) hb); have n1_ := A0_.mk (hbox); have n2_ := A0_.mk ((by rw [hg]; exact (bZ_ (xB_ HB)) : w.heap.size ≤ gb752)); have n3_ := A0_.mk ((by rw [hg]; exact (bZ_ (xB_ HB)) : w.heap.size ≤ gb752)); clear HB; have HB := n0_; have BK752 := n1_; have GW752 := n2_; have GE752 := n3_; clear n0_ n1_ n2_ n3_; clear hb hbox hg) | ((with_reducible refine gC_ (f := 93) rfl ?_); refine goesL_ (some 12) rfl rfl Tryd.func93 (by kernel_rfl) rfl #[.int .i64 a0] rfl mp_ ?_; (with_reducible refine (insolvencyref1_size.calls a0 t753 _ A3.out).mono ?_); rintro e w' ⟨rfl, ⟨nd, rfl⟩⟩; refine ⟨_, rfl, ?_⟩; (try (rw [drewN_self w8]; generalize hq_ : World.drewN w8 _ = w8; have n0_ : A0_ (w8.heap[gb752]? = some (.cells #[.bool false, .string (⟨#[]⟩ : ByteArray), .string (⟨#[]⟩ : ByteArray)] 26 (0, 0))) := ⟨by rw [← hq_]; exact (xK_ BK752.out)⟩; have n1_ : A0_ (Below w.heap.size w w8) := ⟨by rw [← hq_]; exact (xB1_ HB GE752)⟩; clear BK752 HB hq_; have BK752 := n0_; have HB := n1_; clear n0_ n1_))) | ((with_reducible refine gC_ (f := 92) rfl ?_); refine goesL_ (some 13) rfl rfl Tryd.func92 (by kernel_rfl) rfl #[.int .u64 t753] rfl mp_ ?_; (with_reducible refine (insolvencyref1_FromUint.calls k t753 t754 _ A4.out).mono ?_); rintro e w9 ⟨rfl, hb⟩; refine ⟨_, rfl, ?_⟩; have n0_ := A0_.mk (kB_ (g := gb752) (o := .cells #[.bool false, .string (⟨#[]⟩ : ByteArray), .string (⟨#[]⟩ : ByteArray)] 26 (0, 0)) (xK_ BK752.out) hb); have n1_ := A0_.mk (bT_ (xB1_ HB GE752) hb); clear BK752 HB; have BK752 := n0_; have HB := n1_; clear n0_ n1_; (try clear hb); (try clear hb2); (try clear hk); (try clear hi)) | ((with_reducible refine gC_ (f := 93) rfl ?_); refine goesL_ (some 15) rfl rfl Tryd.func93 (by kernel_rfl) rfl #[.int .i64 a1] rfl mp_ ?_; (with_reducible refine (insolvencyref1_size.calls a1 t755 _ A5.out).mono ?_); rintro e w' ⟨rfl, ⟨nd, rfl⟩⟩; refine ⟨_, rfl, ?_⟩; (try (rw [drewN_self w9]; generalize hq_ : World.drewN w9 _ = w9; have n0_ : A0_ (w9.heap[gb752]? = some (.cells #[.bool false, .string (⟨#[]⟩ : ByteArray), .string (⟨#[]⟩ : ByteArray)] 26 (0, 0))) := ⟨by rw [← hq_]; exact (xK_ BK752.out)⟩; have n1_ : A0_ (Below w.heap.size w w9) := ⟨by rw [← hq_]; exact (xB1_ HB GE752)⟩; clear BK752 HB hq_; have BK752 := n0_; have HB := n1_; clear n0_ n1_))) | ((with_reducible refine gC_ (f := 92) rfl ?_); refine goesL_ (some 16) rfl rfl Tryd.func92 (by kernel_rfl) rfl #[.int .u64 t755] rfl mp_ ?_; (with_reducible refine (insolvencyref1_FromUint.calls k t755 t756 _ A6.out).mono ?_); rintro e w10 ⟨rfl, hb⟩; refine ⟨_, rfl, ?_⟩; have n0_ := A0_.mk (kB_ (g := gb752) (o := .cells #[.bool false, .string (⟨#[]⟩ : ByteArray), .string (⟨#[]⟩ : ByteArray)] 26 (0, 0)) (xK_ BK752.out) hb); have n1_ := A0_.mk (bT_ (xB1_ HB GE752) hb); clear BK752 HB; have BK752 := n0_; have HB := n1_; clear n0_ n1_; (try clear hb); (try clear hb2); (try clear hk); (try clear hi)) | ((with_reducible refine gC_ (f := 91) rfl ?_); refine goesL_ (some 17) rfl rfl Tryd.func91 (by kernel_rfl) rfl #[.bool ((decide (a0 < 0)) != (decide (a1 < 0))), .string t754, .string t756] rfl mp_ ?_; (with_reducible refine (insolvencyref1_Make.calls k ((decide (a0 < 0)) != (decide (a1 < 0))) t754 t756 t757 t758 t759 t760 _ A7.out).mono ?_); rintro e w11 ⟨rfl, hb⟩; refine ⟨_, rfl, ?_⟩; have n0_ := A0_.mk (kB_ (g := gb752) (o := .cells #[.bool false, .string (⟨#[]⟩ : ByteArray), .string (⟨#[]⟩ : ByteArray)] 26 (0, 0)) (xK_ BK752.out) hb); have n1_ := A0_.mk (bT_ (xB1_ HB GE752) hb); clear BK752 HB; have BK752 := n0_; have HB := n1_; clear n0_ n1_; (try clear hb); (try clear hb2); (try clear hk); (try clear hi); have hcz12_0 : w11.cell? ⟨gb752, 0, none⟩ = some (.bool false) := (kc_ BK752.out 0).trans rfl; have hcz12_1 : w11.cell? ⟨gb752, 1, none⟩ = some (.string (⟨#[]⟩ : ByteArray)) := (kc_ BK752.out 1).trans rfl; have hcz12_2 : w11.cell? ⟨gb752, 2, none⟩ = some (.string (⟨#[]⟩ : ByteArray)) := (kc_ BK752.out 2).trans rfl; have hfz12_0 := kF_ BK752.out 0; have hfz12_1 := kF_ BK752.out 1; have hfz12_2 := kF_ BK752.out 2))
 refine bodyPost_ret (results_ct rfl _ _ gb752 26 #[.bool t757, .string t758, .string t759] (0, 0) _ rfl (by (with_reducible repeat (first | refine kN_ ?_ _ | refine kD_ ?_ | refine kA_ ?_ _)); refine kP_ (cs := #[.bool t757, .string t758, .string (⟨#[]⟩ : ByteArray)]) ?_ 2 _ rfl; (with_reducible repeat (first | refine kN_ ?_ _ | refine kD_ ?_ | refine kA_ ?_ _)); refine kP_ (cs := #[.bool t757, .string (⟨#[]⟩ : ByteArray), .string (⟨#[]⟩ : ByteArray)]) ?_ 1 _ rfl; (with_reducible repeat (first | refine kN_ ?_ _ | refine kD_ ?_ | refine kA_ ?_ _)); refine kP_ (cs := #[.bool false, .string (⟨#[]⟩ : ByteArray), .string (⟨#[]⟩ : ByteArray)]) ?_ 0 _ rfl; (with_reducible repeat (first | refine kN_ ?_ _ | refine kD_ ?_ | refine kA_ ?_ _)); exact BK752.out) Tryd.underlying26 rfl (by kernel_rfl)) rfl ?_
 exact ⟨rE_, xB1_ HB GE752⟩
def insolvencylaw0_Ratio.f (k : Nat) (a0 : Int) (a1 : Int) : Option (Bool × ByteArray × ByteArray) := (insolvencyref1_Fraction.f k a0 a1).bind fun bt762 => (some (bt762.1, bt762.2.1, bt762.2.2.1))
theorem insolvencylaw0_Ratio.mono : ∀ a0 a1 k, LeO (insolvencylaw0_Ratio.f k a0 a1) (insolvencylaw0_Ratio.f (k + 1) a0 a1) := by
 intro a0 a1 k
 unfold insolvencylaw0_Ratio.f
 repeat' first
   | (with_reducible exact insolvencyref1_Fraction.mono _ _ _)
   | (with_reducible exact LeO.refl _)
   | (with_reducible exact LeO.none _)
   | (with_reducible refine LeO.ite ?_ ?_)
   | (with_reducible refine LeO.bind ?_ (fun _ => ?_))
set_option maxHeartbeats 8000000 in
set_option maxRecDepth 100000 in
theorem insolvencylaw0_Ratio.calls (k : Nat) (a0 : Int) (a1 : Int) (r1 : Bool) (r2 : ByteArray) (r3 : ByteArray) (w : World) (h : insolvencylaw0_Ratio.f k a0 a1 = some (r1, r2, r3)) :
  Calls Tryd.prog 56 #[.int .i64 a0, .int .i64 a1] w fun e w' => e = .returned (.agg #[.bool r1, .string r2, .string r3]) ∧ Below w.heap.size w w' := by
 have hu26 := Tryd.underlying26
 have HB := A0_.mk (Below.refl w.heap.size w)
 have H := h
 unfold insolvencylaw0_Ratio.f at H
 clear h
 replace H := Option.bind_eq_some_iff.mp H
 obtain ⟨⟨t762, t763, t764, t765⟩, A30, H⟩ := H
 (try dsimp only at H)
 have A3 := A0_.mk A30
 clear A30
 simp only [Option.some.injEq, Prod.mk.injEq] at H
 obtain ⟨rfl, rfl, rfl⟩ := H
 go_enter Tryd.func56, Tryd.ntmps56
 go_wp2_with (first | ((with_reducible refine gD_ (N := 4) rfl ?_); refine bE_ ?hg (N := 4) ?hd (cs := #[.bool false, .string (⟨#[]⟩ : ByteArray), .string (⟨#[]⟩ : ByteArray)]) (t := 26) ?hr ?_; (case hd => rfl); (case hg => rfl); (case hr => first | (go_simp; done) | (go_simp; rfl)); intro gb761 hg w4 hbox hb; have n0_ := A0_.mk (bT_ (xB_ HB) hb); have n1_ := A0_.mk (hbox); have n2_ := A0_.mk ((by rw [hg]; exact (bZ_ (xB_ HB)) : w.heap.size ≤ gb761)); have n3_ := A0_.mk ((by rw [hg]; exact (bZ_ (xB_ HB)) : w.heap.size ≤ gb761)); clear HB; have HB := n0_; have BK761 := n1_; have GW761 := n2_; have GE761 := n3_; clear n0_ n1_ n2_ n3_; clear hb hbox hg) | ((with_reducible refine gC_ (f := 74) rfl ?_); refine goesL_ (some 10) rfl rfl Tryd.func74 (by kernel_rfl) rfl #[.int .i64 a0, .int .i64 a1] rfl mp_ ?_; (with_reducible refine (insolvencyref1_Fraction.calls k a0 a1 t762 t763 t764 t765 _ A3.out).mono ?_); rintro e w5 ⟨rfl, hb⟩; refine ⟨_, rfl, ?_⟩; have n0_ := A0_.mk (kB_ (g := gb761) (o := .cells #[.bool false, .string (⟨#[]⟩ : ByteArray), .string (⟨#[]⟩ : ByteArray)] 26 (0, 0)) (xK_ BK761.out) hb); have n1_ := A0_.mk (bT_ (xB1_ HB GE761) hb); clear BK761 HB; have BK761 := n0_; have HB := n1_; clear n0_ n1_; (try clear hb); (try clear hb2); (try clear hk); (try clear hi)) | ((with_reducible refine gD_ (N := 5) rfl ?_); refine bE_ ?hg (N := 5) ?hd (cs := #[.bool false, .string (⟨#[]⟩ : ByteArray), .string (⟨#[]⟩ : ByteArray)]) (t := 26) ?hr ?_; (case hd => rfl); (case hg => rfl); (case hr => first | (go_simp; done) | (go_simp; rfl)); intro gb766 hg w6 hbox hb; have n0_ := A0_.mk (kB_ (g := gb761) (o := .cells #[.bool false, .string (⟨#[]⟩ : ByteArray), .string (⟨#[]⟩ : ByteArray)] 26 (0, 0)) (xK_ BK761.out) hb); have n1_ := A0_.mk (bT_ (xB1_ HB GE761) hb); have n2_ := A0_.mk (hbox); have n3_ := A0_.mk ((by rw [hg]; exact (bZ_ (xB1_ HB GE761)) : w.heap.size ≤ gb766)); have n4_ := A0_.mk ((by rw [hg]; exact (bZ_ (xB1_ HB GE761)) : w.heap.size ≤ gb766)); have n5_ := A0_.mk ((by rw [hg]; exact Nat.ne_of_lt (blk_lt (g := gb761) (o := .cells #[.bool false, .string (⟨#[]⟩ : ByteArray), .string (⟨#[]⟩ : ByteArray)] 26 (0, 0)) (xK_ BK761.out)) : gb761 ≠ gb766)); have n6_ := A0_.mk ((by rw [hg]; exact Nat.ne_of_gt (blk_lt (g := gb761) (o := .cells #[.bool false, .string (⟨#[]⟩ : ByteArray), .string (⟨#[]⟩ : ByteArray)] 26 (0, 0)) (xK_ BK761.out)) : gb766 ≠ gb761)); clear BK761 HB; have BK761 := n0_; have HB := n1_; have BK766 := n2_; have GW766 := n3_; have GE766 := n4_; have NB761_766 := n5_; have NB766_761 := n6_; clear n0_ n1_ n2_ n3_ n4_ n5_ n6_; clear hb hbox hg; have hnb7 := NB766_761.out; have hnc7 := NB761_766.out; have hcz8_0 : w6.cell? ⟨gb766, 0, none⟩ = some (.bool false) := (kc_ BK766.out 0).trans rfl; have hcz8_1 : w6.cell? ⟨gb766, 1, none⟩ = some (.string (⟨#[]⟩ : ByteArray)) := (kc_ BK766.out 1).trans rfl; have hcz8_2 : w6.cell? ⟨gb766, 2, none⟩ = some (.string (⟨#[]⟩ : ByteArray)) := (kc_ BK766.out 2).trans rfl; have hfz8_0 := kF_ BK766.out 0; have hfz8_1 := kF_ BK766.out 1; have hfz8_2 := kF_ BK766.out 2; have hcz9_0 : w6.cell? ⟨gb761, 0, none⟩ = some (.bool false) := (kc_ BK761.out 0).trans rfl; have hcz9_1 : w6.cell? ⟨gb761, 1, none⟩ = some (.string (⟨#[]⟩ : ByteArray)) := (kc_ BK761.out 1).trans rfl; have hcz9_2 : w6.cell? ⟨gb761, 2, none⟩ = some (.string (⟨#[]⟩ : ByteArray)) := (kc_ BK761.out 2).trans rfl; have hfz9_0 := kF_ BK761.out 0; have hfz9_1 := kF_ BK761.out 1; have hfz9_2 := kF_ BK761.out 2))
 refine bodyPost_ret (results_cell_row rfl _ _ gb761 26 #[.bool t762, .string t763, .string t764] (0, 0) _ rfl (by (with_reducible repeat (first | refine kN_ ?_ _ | refine kD_ ?_ | refine kA_ ?_ _)); refine kP_ (cs := #[.bool t762, .string t763, .string (⟨#[]⟩ : ByteArray)]) ?_ 2 _ rfl; (with_reducible repeat (first | refine kN_ ?_ _ | refine kD_ ?_ | refine kA_ ?_ _)); refine kP_ (cs := #[.bool t762, .string (⟨#[]⟩ : ByteArray), .string (⟨#[]⟩ : ByteArray)]) ?_ 1 _ rfl; (with_reducible repeat (first | refine kN_ ?_ _ | refine kD_ ?_ | refine kA_ ?_ _)); refine kP_ (cs := #[.bool false, .string (⟨#[]⟩ : ByteArray), .string (⟨#[]⟩ : ByteArray)]) ?_ 0 _ rfl; (with_reducible repeat (first | refine kN_ ?_ _ | refine kD_ ?_ | refine kA_ ?_ _)); refine blk_far ?_ NB761_766.out _; (with_reducible repeat (first | refine kN_ ?_ _ | refine kD_ ?_ | refine kA_ ?_ _)); refine blk_far ?_ NB761_766.out _; (with_reducible repeat (first | refine kN_ ?_ _ | refine kD_ ?_ | refine kA_ ?_ _)); refine blk_far ?_ NB761_766.out _; (with_reducible repeat (first | refine kN_ ?_ _ | refine kD_ ?_ | refine kA_ ?_ _)); exact BK761.out) Tryd.underlying26 rfl (by kernel_rfl)) rfl ?_
 exact ⟨rE_, xB2_ HB GE761 GE766⟩
def insolvencyref1_Int.f (k : Nat) (a0 : Int) : Option (Bool × ByteArray × ByteArray) := (insolvencyref1_size.f a0).bind fun t768 => ((insolvencyref1_FromUint.f k t768).bind fun t769 => (some (decide (a0 < 0), t769, (⟨#[]⟩ : ByteArray))))
theorem insolvencyref1_Int.mono : ∀ a0 k, LeO (insolvencyref1_Int.f k a0) (insolvencyref1_Int.f (k + 1) a0) := by
 intro a0 k
 unfold insolvencyref1_Int.f
 repeat' first
   | (with_reducible exact insolvencyref1_FromUint.mono _ _)
   | (with_reducible exact LeO.refl _)
   | (with_reducible exact LeO.none _)
   | (with_reducible refine LeO.ite ?_ ?_)
   | (with_reducible refine LeO.bind ?_ (fun _ => ?_))
set_option maxHeartbeats 8000000 in
set_option maxRecDepth 100000 in
theorem insolvencyref1_Int.calls (k : Nat) (a0 : Int) (r1 : Bool) (r2 : ByteArray) (r3 : ByteArray) (w : World) (h : insolvencyref1_Int.f k a0 = some (r1, r2, r3)) :
  Calls Tryd.prog 75 #[.int .i64 a0] w fun e w' => e = .returned (.agg #[.bool r1, .string r2, .string r3]) ∧ Below w.heap.size w w' := by
 have hu26 := Tryd.underlying26
 have HB := A0_.mk (Below.refl w.heap.size w)
 have H := h
 unfold insolvencyref1_Int.f at H
 clear h
 replace H := Option.bind_eq_some_iff.mp H
 obtain ⟨t768, A20, H⟩ := H
 (try dsimp only at H)
 have A2 := A0_.mk A20
 clear A20
 replace H := Option.bind_eq_some_iff.mp H
 obtain ⟨t769, A30, H⟩ := H
 (try dsimp only at H)
 have A3 := A0_.mk A30
 clear A30
 simp only [Option.some.injEq, Prod.mk.injEq] at H
 obtain ⟨rfl, rfl, rfl⟩ := H
 go_enter Tryd.func75, Tryd.ntmps75
 go_wp2_with (first | ((with_reducible refine gD_ (N := 2) rfl ?_); refine bE_ ?hg (N := 2) ?hd (cs := #[.bool false, .string (⟨#[]⟩ : ByteArray), .string (⟨#[]⟩ : ByteArray)]) (t := 26) ?hr ?_; (case hd => rfl); (case hg => rfl); (case hr => first | (go_simp; done) | (go_simp; rfl)); intro gb767 hg w4 hbox hb; have n0_ := A0_.mk (bT_ (xB_ HB) hb); have n1_ := A0_.mk (hbox); have n2_ := A0_.mk ((by rw [hg]; exact (bZ_ (xB_ HB)) : w.heap.size ≤ gb767)); have n3_ := A0_.mk ((by rw [hg]; exact (bZ_ (xB_ HB)) : w.heap.size ≤ gb767)); clear HB; have HB := n0_; have BK767 := n1_; have GW767 := n2_; have GE767 := n3_; clear n0_ n1_ n2_ n3_; clear hb hbox hg) | ((with_reducible refine gC_ (f := 93) rfl ?_); refine goesL_ (some 6) rfl rfl Tryd.func93 (by kernel_rfl) rfl #[.int .i64 a0] rfl mp_ ?_; (with_reducible refine (insolvencyref1_size.calls a0 t768 _ A2.out).mono ?_); rintro e w' ⟨rfl, ⟨nd, rfl⟩⟩; refine ⟨_, rfl, ?_⟩; (try (rw [drewN_self w4]; generalize hq_ : World.drewN w4 _ = w4; have n0_ : A0_ (w4.heap[gb767]? = some (.cells #[.bool false, .string (⟨#[]⟩ : ByteArray), .string (⟨#[]⟩ : ByteArray)] 26 (0, 0))) := ⟨by rw [← hq_]; exact (xK_ BK767.out)⟩; have n1_ : A0_ (Below w.heap.size w w4) := ⟨by rw [← hq_]; exact (xB1_ HB GE767)⟩; clear BK767 HB hq_; have BK767 := n0_; have HB := n1_; clear n0_ n1_))) | ((with_reducible refine gC_ (f := 92) rfl ?_); refine goesL_ (some 7) rfl rfl Tryd.func92 (by kernel_rfl) rfl #[.int .u64 t768] rfl mp_ ?_; (with_reducible refine (insolvencyref1_FromUint.calls k t768 t769 _ A3.out).mono ?_); rintro e w5 ⟨rfl, hb⟩; refine ⟨_, rfl, ?_⟩; have n0_ := A0_.mk (kB_ (g := gb767) (o := .cells #[.bool false, .string (⟨#[]⟩ : ByteArray), .string (⟨#[]⟩ : ByteArray)] 26 (0, 0)) (xK_ BK767.out) hb); have n1_ := A0_.mk (bT_ (xB1_ HB GE767) hb); clear BK767 HB; have BK767 := n0_; have HB := n1_; clear n0_ n1_; (try clear hb); (try clear hb2); (try clear hk); (try clear hi); have hcz6_0 : w5.cell? ⟨gb767, 0, none⟩ = some (.bool false) := (kc_ BK767.out 0).trans rfl; have hcz6_1 : w5.cell? ⟨gb767, 1, none⟩ = some (.string (⟨#[]⟩ : ByteArray)) := (kc_ BK767.out 1).trans rfl; have hcz6_2 : w5.cell? ⟨gb767, 2, none⟩ = some (.string (⟨#[]⟩ : ByteArray)) := (kc_ BK767.out 2).trans rfl; have hfz6_0 := kF_ BK767.out 0; have hfz6_1 := kF_ BK767.out 1; have hfz6_2 := kF_ BK767.out 2))
 refine bodyPost_ret (results_cell_row rfl _ _ gb767 26 #[.bool (decide (a0 < 0)), .string t769, .string (⟨#[]⟩ : ByteArray)] (0, 0) _ rfl (by (with_reducible repeat (first | refine kN_ ?_ _ | refine kD_ ?_ | refine kA_ ?_ _)); refine kP_ (cs := #[.bool (decide (a0 < 0)), .string t769, .string (⟨#[]⟩ : ByteArray)]) ?_ 2 _ rfl; (with_reducible repeat (first | refine kN_ ?_ _ | refine kD_ ?_ | refine kA_ ?_ _)); refine kP_ (cs := #[.bool (decide (a0 < 0)), .string (⟨#[]⟩ : ByteArray), .string (⟨#[]⟩ : ByteArray)]) ?_ 1 _ rfl; (with_reducible repeat (first | refine kN_ ?_ _ | refine kD_ ?_ | refine kA_ ?_ _)); refine kP_ (cs := #[.bool false, .string (⟨#[]⟩ : ByteArray), .string (⟨#[]⟩ : ByteArray)]) ?_ 0 _ rfl; (with_reducible repeat (first | refine kN_ ?_ _ | refine kD_ ?_ | refine kA_ ?_ _)); exact BK767.out) Tryd.underlying26 rfl (by kernel_rfl)) rfl ?_
 exact ⟨rE_, xB1_ HB GE767⟩
def insolvencylaw0_Whole.f (k : Nat) (a0 : Int) : Option (Bool × ByteArray × ByteArray) := (insolvencyref1_Int.f k a0).bind fun bt771 => (some (bt771.1, bt771.2.1, bt771.2.2))
theorem insolvencylaw0_Whole.mono : ∀ a0 k, LeO (insolvencylaw0_Whole.f k a0) (insolvencylaw0_Whole.f (k + 1) a0) := by
 intro a0 k
 unfold insolvencylaw0_Whole.f
 repeat' first
   | (with_reducible exact insolvencyref1_Int.mono _ _)
   | (with_reducible exact LeO.refl _)
   | (with_reducible exact LeO.none _)
   | (with_reducible refine LeO.ite ?_ ?_)
   | (with_reducible refine LeO.bind ?_ (fun _ => ?_))
set_option maxHeartbeats 8000000 in
set_option maxRecDepth 100000 in
theorem insolvencylaw0_Whole.calls (k : Nat) (a0 : Int) (r1 : Bool) (r2 : ByteArray) (r3 : ByteArray) (w : World) (h : insolvencylaw0_Whole.f k a0 = some (r1, r2, r3)) :
  Calls Tryd.prog 57 #[.int .i64 a0] w fun e w' => e = .returned (.agg #[.bool r1, .string r2, .string r3]) ∧ Below w.heap.size w w' := by
 have hu26 := Tryd.underlying26
 have HB := A0_.mk (Below.refl w.heap.size w)
 have H := h
 unfold insolvencylaw0_Whole.f at H
 clear h
 replace H := Option.bind_eq_some_iff.mp H
 obtain ⟨⟨t771, t772, t773⟩, A20, H⟩ := H
 (try dsimp only at H)
 have A2 := A0_.mk A20
 clear A20
 simp only [Option.some.injEq, Prod.mk.injEq] at H
 obtain ⟨rfl, rfl, rfl⟩ := H
 go_enter Tryd.func57, Tryd.ntmps57
 go_wp2_with (first | ((with_reducible refine gD_ (N := 2) rfl ?_); refine bE_ ?hg (N := 2) ?hd (cs := #[.bool false, .string (⟨#[]⟩ : ByteArray), .string (⟨#[]⟩ : ByteArray)]) (t := 26) ?hr ?_; (case hd => rfl); (case hg => rfl); (case hr => first | (go_simp; done) | (go_simp; rfl)); intro gb770 hg w3 hbox hb; have n0_ := A0_.mk (bT_ (xB_ HB) hb); have n1_ := A0_.mk (hbox); have n2_ := A0_.mk ((by rw [hg]; exact (bZ_ (xB_ HB)) : w.heap.size ≤ gb770)); have n3_ := A0_.mk ((by rw [hg]; exact (bZ_ (xB_ HB)) : w.heap.size ≤ gb770)); clear HB; have HB := n0_; have BK770 := n1_; have GW770 := n2_; have GE770 := n3_; clear n0_ n1_ n2_ n3_; clear hb hbox hg) | ((with_reducible refine gC_ (f := 75) rfl ?_); refine goesL_ (some 4) rfl rfl Tryd.func75 (by kernel_rfl) rfl #[.int .i64 a0] rfl mp_ ?_; (with_reducible refine (insolvencyref1_Int.calls k a0 t771 t772 t773 _ A2.out).mono ?_); rintro e w4 ⟨rfl, hb⟩; refine ⟨_, rfl, ?_⟩; have n0_ := A0_.mk (kB_ (g := gb770) (o := .cells #[.bool false, .string (⟨#[]⟩ : ByteArray), .string (⟨#[]⟩ : ByteArray)] 26 (0, 0)) (xK_ BK770.out) hb); have n1_ := A0_.mk (bT_ (xB1_ HB GE770) hb); clear BK770 HB; have BK770 := n0_; have HB := n1_; clear n0_ n1_; (try clear hb); (try clear hb2); (try clear hk); (try clear hi); have hcz5_0 : w4.cell? ⟨gb770, 0, none⟩ = some (.bool false) := (kc_ BK770.out 0).trans rfl; have hcz5_1 : w4.cell? ⟨gb770, 1, none⟩ = some (.string (⟨#[]⟩ : ByteArray)) := (kc_ BK770.out 1).trans rfl; have hcz5_2 : w4.cell? ⟨gb770, 2, none⟩ = some (.string (⟨#[]⟩ : ByteArray)) := (kc_ BK770.out 2).trans rfl; have hfz5_0 := kF_ BK770.out 0; have hfz5_1 := kF_ BK770.out 1; have hfz5_2 := kF_ BK770.out 2))
 refine bodyPost_ret (results_cell_row rfl _ _ gb770 26 #[.bool t771, .string t772, .string t773] (0, 0) _ rfl (by (with_reducible repeat (first | refine kN_ ?_ _ | refine kD_ ?_ | refine kA_ ?_ _)); refine kP_ (cs := #[.bool t771, .string t772, .string (⟨#[]⟩ : ByteArray)]) ?_ 2 _ rfl; (with_reducible repeat (first | refine kN_ ?_ _ | refine kD_ ?_ | refine kA_ ?_ _)); refine kP_ (cs := #[.bool t771, .string (⟨#[]⟩ : ByteArray), .string (⟨#[]⟩ : ByteArray)]) ?_ 1 _ rfl; (with_reducible repeat (first | refine kN_ ?_ _ | refine kD_ ?_ | refine kA_ ?_ _)); refine kP_ (cs := #[.bool false, .string (⟨#[]⟩ : ByteArray), .string (⟨#[]⟩ : ByteArray)]) ?_ 0 _ rfl; (with_reducible repeat (first | refine kN_ ?_ _ | refine kD_ ?_ | refine kA_ ?_ _)); exact BK770.out) Tryd.underlying26 rfl (by kernel_rfl)) rfl ?_
 exact ⟨rE_, xB1_ HB GE770⟩
def insolvencylaw0_Amount.f (k : Nat) (a0 : Int) : Option (Bool × ByteArray × ByteArray) := if (Int.tmod a0 5) = 0 then ((insolvencylaw0_Ratio.f k (wrap64 (Int.tmod (IntKind.u16.wrap (Int.tdiv a0 5)) 23)) (wrap64 (1 + (wrap64 (Int.tmod (IntKind.u16.wrap (Int.tdiv a0 115)) 6))))).bind fun bt775 => (some (bt775.1, bt775.2.1, bt775.2.2))) else (if (Int.tmod a0 5) = 1 then ((insolvencylaw0_Whole.f k (wrap64 (10 * (wrap64 (Int.tmod (IntKind.u16.wrap (Int.tdiv a0 5)) 4))))).bind fun bt778 => (some (bt778.1, bt778.2.1, bt778.2.2))) else ((insolvencylaw0_Whole.f k (wrap64 (Int.tmod (IntKind.u16.wrap (Int.tdiv a0 5)) 13))).bind fun bt781 => (some (bt781.1, bt781.2.1, bt781.2.2))))
set_option maxHeartbeats 8000000 in
set_option maxRecDepth 100000 in
theorem insolvencylaw0_Amount.calls (k : Nat) (a0 : Int) (r1 : Bool) (r2 : ByteArray) (r3 : ByteArray) (w : World) (h : insolvencylaw0_Amount.f k a0 = some (r1, r2, r3)) :
  Calls Tryd.prog 35 #[.int .u16 a0] w fun e w' => e = .returned (.agg #[.bool r1, .string r2, .string r3]) ∧ Below w.heap.size w w' := by
 have hu26 := Tryd.underlying26
 have HB := A0_.mk (Below.refl w.heap.size w)
 have H := h
 unfold insolvencylaw0_Amount.f at H
 clear h
 by_cases c2 : (Int.tmod a0 5) = 0
 ·rw [if_pos c2] at H
  have c2b0 : ((Int.tmod a0 5) == 0) = true := beq_iff_eq.mpr c2
  have c2b1 : ((Int.tmod a0 5) != 0) = false := bne_eq_false_iff_eq.mpr c2
  clear c2
  replace H := Option.bind_eq_some_iff.mp H
  obtain ⟨⟨t775, t776, t777⟩, A30, H⟩ := H
  (try dsimp only at H)
  have A3 := A0_.mk A30
  clear A30
  simp only [Option.some.injEq, Prod.mk.injEq] at H
  obtain ⟨rfl, rfl, rfl⟩ := H
  go_enter Tryd.func35, Tryd.ntmps35
  go_wp2_with (first | ((with_reducible refine gD_ (N := 2) rfl ?_); refine bE_ ?hg (N := 2) ?hd (cs := #[.bool false, .string (⟨#[]⟩ : ByteArray), .string (⟨#[]⟩ : ByteArray)]) (t := 26) ?hr ?_; (case hd => rfl); (case hg => rfl); (case hr => first | (go_simp; done) | (go_simp; rfl)); intro gb774 hg w4 hbox hb; have n0_ := A0_.mk (bT_ (xB_ HB) hb); have n1_ := A0_.mk (hbox); have n2_ := A0_.mk ((by rw [hg]; exact (bZ_ (xB_ HB)) : w.heap.size ≤ gb774)); have n3_ := A0_.mk ((by rw [hg]; exact (bZ_ (xB_ HB)) : w.heap.size ≤ gb774)); clear HB; have HB := n0_; have BK774 := n1_; have GW774 := n2_; have GE774 := n3_; clear n0_ n1_ n2_ n3_; clear hb hbox hg) | ((with_reducible refine gC_ (f := 56) rfl ?_); refine goesL_ (some 16) rfl rfl Tryd.func56 (by kernel_rfl) rfl #[.int .i64 (wrap64 (Int.tmod (IntKind.u16.wrap (Int.tdiv a0 5)) 23)), .int .i64 (wrap64 (1 + (wrap64 (Int.tmod (IntKind.u16.wrap (Int.tdiv a0 115)) 6))))] rfl mp_ ?_; (with_reducible refine (insolvencylaw0_Ratio.calls k (wrap64 (Int.tmod (IntKind.u16.wrap (Int.tdiv a0 5)) 23)) (wrap64 (1 + (wrap64 (Int.tmod (IntKind.u16.wrap (Int.tdiv a0 115)) 6)))) t775 t776 t777 _ A3.out).mono ?_); rintro e w5 ⟨rfl, hb⟩; refine ⟨_, rfl, ?_⟩; have n0_ := A0_.mk (kB_ (g := gb774) (o := .cells #[.bool false, .string (⟨#[]⟩ : ByteArray), .string (⟨#[]⟩ : ByteArray)] 26 (0, 0)) (xK_ BK774.out) hb); have n1_ := A0_.mk (bT_ (xB1_ HB GE774) hb); clear BK774 HB; have BK774 := n0_; have HB := n1_; clear n0_ n1_; (try clear hb); (try clear hb2); (try clear hk); (try clear hi); have hcz6_0 : w5.cell? ⟨gb774, 0, none⟩ = some (.bool false) := (kc_ BK774.out 0).trans rfl; have hcz6_1 : w5.cell? ⟨gb774, 1, none⟩ = some (.string (⟨#[]⟩ : ByteArray)) := (kc_ BK774.out 1).trans rfl; have hcz6_2 : w5.cell? ⟨gb774, 2, none⟩ = some (.string (⟨#[]⟩ : ByteArray)) := (kc_ BK774.out 2).trans rfl; have hfz6_0 := kF_ BK774.out 0; have hfz6_1 := kF_ BK774.out 1; have hfz6_2 := kF_ BK774.out 2))
  refine bodyPost_ret (results_cell_row rfl _ _ gb774 26 #[.bool t775, .string t776, .string t777] (0, 0) _ rfl (by (with_reducible repeat (first | refine kN_ ?_ _ | refine kD_ ?_ | refine kA_ ?_ _)); refine kP_ (cs := #[.bool t775, .string t776, .string (⟨#[]⟩ : ByteArray)]) ?_ 2 _ rfl; (with_reducible repeat (first | refine kN_ ?_ _ | refine kD_ ?_ | refine kA_ ?_ _)); refine kP_ (cs := #[.bool t775, .string (⟨#[]⟩ : ByteArray), .string (⟨#[]⟩ : ByteArray)]) ?_ 1 _ rfl; (with_reducible repeat (first | refine kN_ ?_ _ | refine kD_ ?_ | refine kA_ ?_ _)); refine kP_ (cs := #[.bool false, .string (⟨#[]⟩ : ByteArray), .string (⟨#[]⟩ : ByteArray)]) ?_ 0 _ rfl; (with_reducible repeat (first | refine kN_ ?_ _ | refine kD_ ?_ | refine kA_ ?_ _)); exact BK774.out) Tryd.underlying26 rfl (by kernel_rfl)) rfl ?_
  exact ⟨rE_, xB1_ HB GE774⟩
 ·rw [if_neg c2] at H
  have c2b0 : ((Int.tmod a0 5) == 0) = false := beq_eq_false_iff_ne.mpr c2
  have c2b1 : ((Int.tmod a0 5) != 0) = true := bne_iff_ne.mpr c2
  by_cases c7 : (Int.tmod a0 5) = 1
  ·rw [if_pos c7] at H
   have c7b0 : ((Int.tmod a0 5) == 1) = true := beq_iff_eq.mpr c7
   have c7b1 : ((Int.tmod a0 5) != 1) = false := bne_eq_false_iff_eq.mpr c7
   clear c7
   replace H := Option.bind_eq_some_iff.mp H
   obtain ⟨⟨t778, t779, t780⟩, A80, H⟩ := H
   (try dsimp only at H)
   have A8 := A0_.mk A80
   clear A80
   simp only [Option.some.injEq, Prod.mk.injEq] at H
   obtain ⟨rfl, rfl, rfl⟩ := H
   go_enter Tryd.func35, Tryd.ntmps35
   go_wp2_with (first | ((with_reducible refine gD_ (N := 2) rfl ?_); refine bE_ ?hg (N := 2) ?hd (cs := #[.bool false, .string (⟨#[]⟩ : ByteArray), .string (⟨#[]⟩ : ByteArray)]) (t := 26) ?hr ?_; (case hd => rfl); (case hg => rfl); (case hr => first | (go_simp; done) | (go_simp; rfl)); intro gb774 hg w9 hbox hb; have n0_ := A0_.mk (bT_ (xB_ HB) hb); have n1_ := A0_.mk (hbox); have n2_ := A0_.mk ((by rw [hg]; exact (bZ_ (xB_ HB)) : w.heap.size ≤ gb774)); have n3_ := A0_.mk ((by rw [hg]; exact (bZ_ (xB_ HB)) : w.heap.size ≤ gb774)); clear HB; have HB := n0_; have BK774 := n1_; have GW774 := n2_; have GE774 := n3_; clear n0_ n1_ n2_ n3_; clear hb hbox hg) | ((with_reducible refine gC_ (f := 57) rfl ?_); refine goesL_ (some 24) rfl rfl Tryd.func57 (by kernel_rfl) rfl #[.int .i64 (wrap64 (10 * (wrap64 (Int.tmod (IntKind.u16.wrap (Int.tdiv a0 5)) 4))))] rfl mp_ ?_; (with_reducible refine (insolvencylaw0_Whole.calls k (wrap64 (10 * (wrap64 (Int.tmod (IntKind.u16.wrap (Int.tdiv a0 5)) 4)))) t778 t779 t780 _ A8.out).mono ?_); rintro e w10 ⟨rfl, hb⟩; refine ⟨_, rfl, ?_⟩; have n0_ := A0_.mk (kB_ (g := gb774) (o := .cells #[.bool false, .string (⟨#[]⟩ : ByteArray), .string (⟨#[]⟩ : ByteArray)] 26 (0, 0)) (xK_ BK774.out) hb); have n1_ := A0_.mk (bT_ (xB1_ HB GE774) hb); clear BK774 HB; have BK774 := n0_; have HB := n1_; clear n0_ n1_; (try clear hb); (try clear hb2); (try clear hk); (try clear hi); have hcz11_0 : w10.cell? ⟨gb774, 0, none⟩ = some (.bool false) := (kc_ BK774.out 0).trans rfl; have hcz11_1 : w10.cell? ⟨gb774, 1, none⟩ = some (.string (⟨#[]⟩ : ByteArray)) := (kc_ BK774.out 1).trans rfl; have hcz11_2 : w10.cell? ⟨gb774, 2, none⟩ = some (.string (⟨#[]⟩ : ByteArray)) := (kc_ BK774.out 2).trans rfl; have hfz11_0 := kF_ BK774.out 0; have hfz11_1 := kF_ BK774.out 1; have hfz11_2 := kF_ BK774.out 2))
   refine bodyPost_ret (results_cell_row rfl _ _ gb774 26 #[.bool t778, .string t779, .string t780] (0, 0) _ rfl (by (with_reducible repeat (first | refine kN_ ?_ _ | refine kD_ ?_ | refine kA_ ?_ _)); refine kP_ (cs := #[.bool t778, .string t779, .string (⟨#[]⟩ : ByteArray)]) ?_ 2 _ rfl; (with_reducible repeat (first | refine kN_ ?_ _ | refine kD_ ?_ | refine kA_ ?_ _)); refine kP_ (cs := #[.bool t778, .string (⟨#[]⟩ : ByteArray), .string (⟨#[]⟩ : ByteArray)]) ?_ 1 _ rfl; (with_reducible repeat (first | refine kN_ ?_ _ | refine kD_ ?_ | refine kA_ ?_ _)); refine kP_ (cs := #[.bool false, .string (⟨#[]⟩ : ByteArray), .string (⟨#[]⟩ : ByteArray)]) ?_ 0 _ rfl; (with_reducible repeat (first | refine kN_ ?_ _ | refine kD_ ?_ | refine kA_ ?_ _)); exact BK774.out) Tryd.underlying26 rfl (by kernel_rfl)) rfl ?_
   exact ⟨rE_, xB1_ HB GE774⟩
  ·rw [if_neg c7] at H
   have c7b0 : ((Int.tmod a0 5) == 1) = false := beq_eq_false_iff_ne.mpr c7
   have c7b1 : ((Int.tmod a0 5) != 1) = true := bne_iff_ne.mpr c7
   replace H := Option.bind_eq_some_iff.mp H
   obtain ⟨⟨t781, t782, t783⟩, A120, H⟩ := H
   (try dsimp only at H)
   have A12 := A0_.mk A120
   clear A120
   simp only [Option.some.injEq, Prod.mk.injEq] at H
   obtain ⟨rfl, rfl, rfl⟩ := H
   go_enter Tryd.func35, Tryd.ntmps35
   go_wp2_with (first | ((with_reducible refine gD_ (N := 2) rfl ?_); refine bE_ ?hg (N := 2) ?hd (cs := #[.bool false, .string (⟨#[]⟩ : ByteArray), .string (⟨#[]⟩ : ByteArray)]) (t := 26) ?hr ?_; (case hd => rfl); (case hg => rfl); (case hr => first | (go_simp; done) | (go_simp; rfl)); intro gb774 hg w13 hbox hb; have n0_ := A0_.mk (bT_ (xB_ HB) hb); have n1_ := A0_.mk (hbox); have n2_ := A0_.mk ((by rw [hg]; exact (bZ_ (xB_ HB)) : w.heap.size ≤ gb774)); have n3_ := A0_.mk ((by rw [hg]; exact (bZ_ (xB_ HB)) : w.heap.size ≤ gb774)); clear HB; have HB := n0_; have BK774 := n1_; have GW774 := n2_; have GE774 := n3_; clear n0_ n1_ n2_ n3_; clear hb hbox hg) | ((with_reducible refine gC_ (f := 57) rfl ?_); refine goesL_ (some 29) rfl rfl Tryd.func57 (by kernel_rfl) rfl #[.int .i64 (wrap64 (Int.tmod (IntKind.u16.wrap (Int.tdiv a0 5)) 13))] rfl mp_ ?_; (with_reducible refine (insolvencylaw0_Whole.calls k (wrap64 (Int.tmod (IntKind.u16.wrap (Int.tdiv a0 5)) 13)) t781 t782 t783 _ A12.out).mono ?_); rintro e w14 ⟨rfl, hb⟩; refine ⟨_, rfl, ?_⟩; have n0_ := A0_.mk (kB_ (g := gb774) (o := .cells #[.bool false, .string (⟨#[]⟩ : ByteArray), .string (⟨#[]⟩ : ByteArray)] 26 (0, 0)) (xK_ BK774.out) hb); have n1_ := A0_.mk (bT_ (xB1_ HB GE774) hb); clear BK774 HB; have BK774 := n0_; have HB := n1_; clear n0_ n1_; (try clear hb); (try clear hb2); (try clear hk); (try clear hi); have hcz15_0 : w14.cell? ⟨gb774, 0, none⟩ = some (.bool false) := (kc_ BK774.out 0).trans rfl; have hcz15_1 : w14.cell? ⟨gb774, 1, none⟩ = some (.string (⟨#[]⟩ : ByteArray)) := (kc_ BK774.out 1).trans rfl; have hcz15_2 : w14.cell? ⟨gb774, 2, none⟩ = some (.string (⟨#[]⟩ : ByteArray)) := (kc_ BK774.out 2).trans rfl; have hfz15_0 := kF_ BK774.out 0; have hfz15_1 := kF_ BK774.out 1; have hfz15_2 := kF_ BK774.out 2))
   refine bodyPost_ret (results_cell_row rfl _ _ gb774 26 #[.bool t781, .string t782, .string t783] (0, 0) _ rfl (by (with_reducible repeat (first | refine kN_ ?_ _ | refine kD_ ?_ | refine kA_ ?_ _)); refine kP_ (cs := #[.bool t781, .string t782, .string (⟨#[]⟩ : ByteArray)]) ?_ 2 _ rfl; (with_reducible repeat (first | refine kN_ ?_ _ | refine kD_ ?_ | refine kA_ ?_ _)); refine kP_ (cs := #[.bool t781, .string (⟨#[]⟩ : ByteArray), .string (⟨#[]⟩ : ByteArray)]) ?_ 1 _ rfl; (with_reducible repeat (first | refine kN_ ?_ _ | refine kD_ ?_ | refine kA_ ?_ _)); refine kP_ (cs := #[.bool false, .string (⟨#[]⟩ : ByteArray), .string (⟨#[]⟩ : ByteArray)]) ?_ 0 _ rfl; (with_reducible repeat (first | refine kN_ ?_ _ | refine kD_ ?_ | refine kA_ ?_ _)); exact BK774.out) Tryd.underlying26 rfl (by kernel_rfl)) rfl ?_
   exact ⟨rE_, xB1_ HB GE774⟩
mutual
def insolvencylaw0_Obligations.l0 : Nat → List (S46) → List (S28) → Int → Option ((List (S28)))
 | 0, _, _, _ => none
 | k + 1, x0, x3, x4 => if x4 < (x0.length : Int) then (insolvencylaw0_Obligations.j1 k x0 x3 x4 (decide (x4 < 16))) else (insolvencylaw0_Obligations.j1 k x0 x3 x4 false)
def insolvencylaw0_Obligations.j1 : Nat → List (S46) → List (S28) → Int → Bool → Option ((List (S28)))
 | 0, _, _, _, _ => none
 | k + 1, x0, x3, x4, x16 => if x16 = true then (if 0 ≤ x4 then (if x4 < (x0.length : Int) then (if (wrap64 (Int.tmod ((rd_T46 x0 x4).f1) 3)) ≥ (wrap64 (Int.tmod ((rd_T46 x0 x4).f0) 4)) then (insolvencylaw0_Obligations.j2 k x0 x3 x4 (wrap64 (Int.tmod ((rd_T46 x0 x4).f0) 4)) (wrap64 ((wrap64 (Int.tmod ((rd_T46 x0 x4).f1) 3)) + 1)) ((rd_T46 x0 x4).f0) ((rd_T46 x0 x4).f1) ((rd_T46 x0 x4).f2) ((rd_T46 x0 x4).f3) ((rd_T46 x0 x4).f4)) else (insolvencylaw0_Obligations.j2 k x0 x3 x4 (wrap64 (Int.tmod ((rd_T46 x0 x4).f0) 4)) (wrap64 (Int.tmod ((rd_T46 x0 x4).f1) 3)) ((rd_T46 x0 x4).f0) ((rd_T46 x0 x4).f1) ((rd_T46 x0 x4).f2) ((rd_T46 x0 x4).f3) ((rd_T46 x0 x4).f4))) else (none)) else (none)) else (some x3)
def insolvencylaw0_Obligations.j2 : Nat → List (S46) → List (S28) → Int → Int → Int → Int → Int → Int → Int → Int → Option ((List (S28)))
 | 0, _, _, _, _, _, _, _, _, _, _ => none
 | k + 1, x0, x3, x4, x6, x7, x786000, x786001, x786002, x786003, x786004 => (insolvencylaw0_Amount.f k x786002).bind fun bt786 => ((some (([0, 0, 0, wrap64 (Int.tmod (IntKind.u16.wrap (Int.tdiv x786004 8)) 50)] : List Int) : List Int)).bind fun y790 => (if 0 ≤ (Int.tmod x786004 4) then (if (Int.tmod x786004 4) < (y790.length : Int) then (if x3.length < 1759218604441 then (insolvencylaw0_Obligations.l0 k x0 (x3 ++ [(⟨x6, x7, (⟨bt786.1, bt786.2.1, bt786.2.2⟩ : S26), wrap64 (Int.tmod x786003 60), wrap64 ((wrap64 (Int.tmod x786003 60)) + (rd y790 (Int.tmod x786004 4))), ((Int.tmod x786004 8) == 7)⟩ : S28)]) (wrap64 (x4 + 1))) else (none)) else (none)) else (none)))
end
def insolvencylaw0_Obligations.f (k : Nat) (l0 : List (S46)) : Option ((List (S28))) := insolvencylaw0_Obligations.l0 k l0 ([] : List (S28)) 0
def insolvencylaw0_Obligations.T6 : Bool × List (List Nat × List Nat) := (true, [([], []), ([0], [0]), ([1], [1]), ([2], [2]), ([], []), ([4], [4]), ([5], [5]), ([6], [6]), ([3, 0, 1, 2, 3], [3]), ([7, 8, 0, 1, 2, 3, 4, 5, 6, 7, 8], [7])])
def insolvencylaw0_Obligations.B6 : List Nat := [0, 1, 3, 7, 0, 16, 48, 112, 15, 511]
theorem insolvencylaw0_Obligations.tab6 : rtab .any (opsOf Tryd.f17 6) = insolvencylaw0_Obligations.T6 := by kernel_rfl
theorem insolvencylaw0_Obligations.bits6 : waitsOk insolvencylaw0_Obligations.T6.2 insolvencylaw0_Obligations.B6 = true := by kernel_rfl
def insolvencylaw0_Obligations.T9 : Bool × List (List Nat × List Nat) := (true, [([], []), ([], []), ([], []), ([2], [2]), ([3], [3]), ([], []), ([5], [5]), ([6], [6]), ([7], [7]), ([], []), ([9], [9]), ([10], [10]), ([11], [11]), ([0, 1, 4, 8, 12], [0, 1, 4, 8, 12]), ([], []), ([14, 13, 4, 0, 1, 2, 3, 4, 5, 6, 7, 8, 9, 10, 11, 12, 13, 14], [13, 14])])
def insolvencylaw0_Obligations.B9 : List Nat := [0, 0, 0, 4, 12, 0, 32, 96, 224, 0, 512, 1536, 3584, 8191, 0, 32767]
theorem insolvencylaw0_Obligations.tab9 : rtab .any (opsOf Tryd.f17 9) = insolvencylaw0_Obligations.T9 := by kernel_rfl
theorem insolvencylaw0_Obligations.bits9 : waitsOk insolvencylaw0_Obligations.T9.2 insolvencylaw0_Obligations.B9 = true := by kernel_rfl
def insolvencylaw0_Obligations.T10 : Bool × List (List Nat × List Nat) := (true, [([], []), ([0], [0]), ([], []), ([2], [2]), ([3], [3]), ([4], [4]), ([5], [5]), ([6], [6]), ([], []), ([8], [8]), ([9], [9]), ([7, 10], [7, 10]), ([11], [11]), ([1, 12], [1, 12]), ([0, 1, 2, 3, 4, 5, 6, 7, 8, 9, 10, 11, 12, 13], []), ([14, 13, 0, 1, 2, 3, 4, 5, 6, 7, 8, 9, 10, 11, 12, 13], [13, 14])])
def insolvencylaw0_Obligations.B10 : List Nat := [0, 1, 0, 4, 12, 28, 60, 124, 0, 256, 768, 2044, 4092, 8191, 16383, 32767]
theorem insolvencylaw0_Obligations.tab10 : rtab .any (opsOf Tryd.f17 10) = insolvencylaw0_Obligations.T10 := by kernel_rfl
theorem insolvencylaw0_Obligations.bits10 : waitsOk insolvencylaw0_Obligations.T10.2 insolvencylaw0_Obligations.B10 = true := by kernel_rfl
set_option maxHeartbeats 8000000 in
set_option maxRecDepth 100000 in
theorem insolvencylaw0_Obligations.calls (k : Nat) (A0 : Option Addr) (c0 : Nat) (l0 : List (S46)) (r : List (S28)) (w : World) (hr0 : Kd.C k46 w A0 l0.length l0) (hc0 : l0.length ≤ c0) (h : insolvencylaw0_Obligations.f k l0 = some r) :
  Calls Tryd.prog 17 #[.slice A0 l0.length c0] w fun e w' => ∃ v0_ : Value, e = .returned (v0_) ∧ Kd.R k28 28 w' w.heap.size (fun _ => True) v0_ r ∧ Below w.heap.size w w' := by
 have hu46 := Tryd.underlying46
 have hu28 := Tryd.underlying28
 have HR0 := A0_.mk hr0
 have HC0 := A0_.mk hc0
 clear hr0 hc0
 have HB := A0_.mk (Below.refl w.heap.size w)
 have H : (insolvencylaw0_Obligations.l0 k l0 ([] : List (S28)) 0) = some r := h
 clear h
 have H' := A0_.mk H
 clear H
 go_enter Tryd.func17, Tryd.ntmps17
 go_wp2
 go_loopg [3, 4] k (fun kq v3 v4 w' => ∃ (x3_1 : List (S28)) (x4_1 : Int), v4 = .int .i64 x4_1 ∧ A0_ (insolvencylaw0_Obligations.l0 kq l0 x3_1 x4_1 = some r) ∧ A0_ (kq ≤ k) ∧ A0_ (Kd.R k28 28 w' w.heap.size (fun _ => True) v3 x3_1) ∧ A0_ (Below w.heap.size w w'))
 case atStart => exact ⟨(([] : List (S28))), (0), (by first | rfl | (simp; done) | (simp [*]; done)), H', ⟨Nat.le_refl _⟩, ⟨by first | exact Kd.R_nil _ _ _ _ _ | exact Kd.N_nil _ _ _ _ _ | exact Kd.V_nil _ _ _ _ _ | exact Kd.Q_nil _ _ _ _ _ | exact Kd.S_nil _ _ _ _ _⟩, ⟨xB_ HB⟩⟩
 case round =>
  clear H'
  try clear c1
  obtain ⟨x3_1, x4_1, rfl, HA, HK1, HO_3, HB⟩ := hrel
  cases gk with
  | zero => exact absurd HA.out (by simp [insolvencylaw0_Obligations.l0])
  | succ k1 =>
   have H := HA.out
   clear HA
   simp only [insolvencylaw0_Obligations.l0] at H
   have HC2 := A0_.mk H
   clear H
   go_upto_region 3 with (fail)
   go_cut [16] (fun v16 wc => ∃ (kq : Nat) (x16_1 : Bool), v16 = .bool x16_1 ∧ A0_ (insolvencylaw0_Obligations.j1 kq l0 x3_1 x4_1 x16_1 = some r) ∧ A0_ (kq ≤ k1) ∧ A0_ (Kd.R k28 28 wc w.heap.size (fun _ => True) u3 x3_1) ∧ A0_ (Below w.heap.size w wc))
   case first =>
    have H := HC2.out
    clear HC2
    by_cases c3 : x4_1 < (l0.length : Int)
    ·rw [if_pos c3] at H
     have c3b0 : decide (x4_1 < (l0.length : Int)) = true := decide_eq_true c3
     clear c3
     (first | rw [c3b0] | rw [c3b1] | (simp only [i64_w, i32_w]; rw [c3b0]) | skip)
     have H' := A0_.mk H
     clear H
     go_wp2
     go_meet
     case rel => exact ⟨_, (decide (x4_1 < 16)), (by first | rfl | (simp; done) | (simp [*]; done)), H', ⟨by have := HK1.out; first | omega | exact Nat.le_refl _⟩, ⟨by (with_reducible repeat (first | apply Kd.R_alloc | apply Kd.R_drewN | apply Kd.R_drew)); exact HO_3.out⟩, ⟨xB_ HB⟩⟩
    ·rw [if_neg c3] at H
     have c3b0 : decide (x4_1 < (l0.length : Int)) = false := decide_eq_false c3
     clear c3
     (first | rw [c3b0] | rw [c3b1] | (simp only [i64_w, i32_w]; rw [c3b0]) | skip)
     have H' := A0_.mk H
     clear H
     go_wp2
     go_meet
     case rel => exact ⟨_, (false), (by first | rfl | (simp; done) | (simp [*]; done)), H', ⟨by have := HK1.out; first | omega | exact Nat.le_refl _⟩, ⟨by (with_reducible repeat (first | apply Kd.R_alloc | apply Kd.R_drewN | apply Kd.R_drew)); exact HO_3.out⟩, ⟨xB_ HB⟩⟩
   case rest =>
    clear HC2
    try clear c1
    try clear p2
    try clear c3
    try clear c3b0
    try clear c3b1
    obtain ⟨kq, x16_1, rfl, HA, HJ1, HO_3, HB⟩ := hcut
    cases kq with
    | zero => exact absurd HA.out (by simp [insolvencylaw0_Obligations.j1])
    | succ kj1 =>
     have H := HA.out
     clear HA
     simp only [insolvencylaw0_Obligations.j1] at H
     by_cases c4 : x16_1 = true
     ·subst c4
      have H1 : (if 0 ≤ x4_1 then (if x4_1 < (l0.length : Int) then (if (wrap64 (Int.tmod ((rd_T46 l0 x4_1).f1) 3)) ≥ (wrap64 (Int.tmod ((rd_T46 l0 x4_1).f0) 4)) then (insolvencylaw0_Obligations.j2 kj1 l0 x3_1 x4_1 (wrap64 (Int.tmod ((rd_T46 l0 x4_1).f0) 4)) (wrap64 ((wrap64 (Int.tmod ((rd_T46 l0 x4_1).f1) 3)) + 1)) ((rd_T46 l0 x4_1).f0) ((rd_T46 l0 x4_1).f1) ((rd_T46 l0 x4_1).f2) ((rd_T46 l0 x4_1).f3) ((rd_T46 l0 x4_1).f4)) else (insolvencylaw0_Obligations.j2 kj1 l0 x3_1 x4_1 (wrap64 (Int.tmod ((rd_T46 l0 x4_1).f0) 4)) (wrap64 (Int.tmod ((rd_T46 l0 x4_1).f1) 3)) ((rd_T46 l0 x4_1).f0) ((rd_T46 l0 x4_1).f1) ((rd_T46 l0 x4_1).f2) ((rd_T46 l0 x4_1).f3) ((rd_T46 l0 x4_1).f4))) else (none)) else (none)) = some r := by rw [if_pos rfl] at H; exact H
      clear H
      have H := H1
      clear H1
      by_cases c5 : 0 ≤ x4_1
      ·rw [if_pos c5] at H
       have c5b0 : decide (0 ≤ x4_1) = true := decide_eq_true c5
       clear c5
       by_cases c6 : x4_1 < (l0.length : Int)
       ·rw [if_pos c6] at H
        have c6b0 : decide (x4_1 < (l0.length : Int)) = true := decide_eq_true c6
        clear c6
        have HC7 := A0_.mk H
        clear H
        have p784 : 0 ≤ (x4_1 : Int) := of_decide_eq_true aS_
        have q784 : x4_1 < (l0.length : Int) := of_decide_eq_true aS_
        obtain ⟨ad784, e784, hx784_0, hx784_1, hx784_2, hx784_3, hx784_4⟩ := at_T46 HR0.out x4_1 p784 q784
        cases e784
        (try replace hx784_0 := (HB.out.cell (World.block_lt_of_cell? w _ hx784_0)).trans hx784_0)
        (try replace hx784_1 := (HB.out.cell (World.block_lt_of_cell? w _ hx784_1)).trans hx784_1)
        (try replace hx784_2 := (HB.out.cell (World.block_lt_of_cell? w _ hx784_2)).trans hx784_2)
        (try replace hx784_3 := (HB.out.cell (World.block_lt_of_cell? w _ hx784_3)).trans hx784_3)
        (try replace hx784_4 := (HB.out.cell (World.block_lt_of_cell? w _ hx784_4)).trans hx784_4)
        replace p784 := eq_true p784
        replace q784 := eq_true q784
        try go_wp2_with (first | ((with_reducible refine gD_ (N := 5) rfl ?_); refine bE_ ?hg (N := 5) ?hd (cs := #[.int .u16 0, .int .u16 0, .int .u16 0, .int .u16 0, .int .u16 0]) (t := 46) ?hr ?_; (case hd => rfl); (case hg => rfl); (case hr => first | (go_simp; done) | (go_simp; rfl)); intro gb785 hg w8 hbox hb; have n0_ := A0_.mk (Kd.R_below (xR_ HO_3.out) hb); have n1_ := A0_.mk (bT_ (xB_ HB) hb); have n2_ := A0_.mk (hbox); have n3_ := A0_.mk ((by rw [hg]; exact (bZ_ (xB_ HB)) : w.heap.size ≤ gb785)); have n4_ := A0_.mk ((by rw [hg]; exact (bZ_ (xB_ HB)) : w.heap.size ≤ gb785)); clear HO_3 HB; have HO_3 := n0_; have HB := n1_; have BK785 := n2_; have GW785 := n3_; have GE785 := n4_; clear n0_ n1_ n2_ n3_ n4_; clear hb hbox hg; have hcz9_0 : w8.cell? ⟨gb785, 0, none⟩ = some (.int .u16 0) := (kc_ BK785.out 0).trans rfl; have hcz9_1 : w8.cell? ⟨gb785, 1, none⟩ = some (.int .u16 0) := (kc_ BK785.out 1).trans rfl; have hcz9_2 : w8.cell? ⟨gb785, 2, none⟩ = some (.int .u16 0) := (kc_ BK785.out 2).trans rfl; have hcz9_3 : w8.cell? ⟨gb785, 3, none⟩ = some (.int .u16 0) := (kc_ BK785.out 3).trans rfl; have hcz9_4 : w8.cell? ⟨gb785, 4, none⟩ = some (.int .u16 0) := (kc_ BK785.out 4).trans rfl; have hfz9_0 := kF_ BK785.out 0; have hfz9_1 := kF_ BK785.out 1; have hfz9_2 := kF_ BK785.out 2; have hfz9_3 := kF_ BK785.out 3; have hfz9_4 := kF_ BK785.out 4))
        have n0_ : A0_ (Kd.R k28 28 (((((w8.setCell ⟨gb785, 0, none⟩ (.int .u16 ((rd_T46 l0 x4_1).f0))).setCell ⟨gb785, 1, none⟩ (.int .u16 ((rd_T46 l0 x4_1).f1))).setCell ⟨gb785, 2, none⟩ (.int .u16 ((rd_T46 l0 x4_1).f2))).setCell ⟨gb785, 3, none⟩ (.int .u16 ((rd_T46 l0 x4_1).f3))).setCell ⟨gb785, 4, none⟩ (.int .u16 ((rd_T46 l0 x4_1).f4))) w.heap.size (fun _ => True) u3 x3_1) := ⟨by (with_reducible repeat (first | apply Kd.R_alloc | apply Kd.R_drewN | apply Kd.R_drew)); exact Kd.R_mono (Kd.R_far (p := ⟨gb785, 4, none⟩) (Kd.R_far (p := ⟨gb785, 3, none⟩) (Kd.R_far (p := ⟨gb785, 2, none⟩) (Kd.R_far (p := ⟨gb785, 1, none⟩) (Kd.R_far (p := ⟨gb785, 0, none⟩) (Kd.R_types HO_3.out BK785.out (by decide)) (fun _ hk => hk.2) (.int .u16 ((rd_T46 l0 x4_1).f0))) (fun _ hk => hk.2) (.int .u16 ((rd_T46 l0 x4_1).f1))) (fun _ hk => hk.2) (.int .u16 ((rd_T46 l0 x4_1).f2))) (fun _ hk => hk.2) (.int .u16 ((rd_T46 l0 x4_1).f3))) (fun _ hk => hk.2) (.int .u16 ((rd_T46 l0 x4_1).f4))) (fun _ hk => trivial)⟩
        have n1_ : A0_ ((((((w8.setCell ⟨gb785, 0, none⟩ (.int .u16 ((rd_T46 l0 x4_1).f0))).setCell ⟨gb785, 1, none⟩ (.int .u16 ((rd_T46 l0 x4_1).f1))).setCell ⟨gb785, 2, none⟩ (.int .u16 ((rd_T46 l0 x4_1).f2))).setCell ⟨gb785, 3, none⟩ (.int .u16 ((rd_T46 l0 x4_1).f3))).setCell ⟨gb785, 4, none⟩ (.int .u16 ((rd_T46 l0 x4_1).f4))).heap[gb785]? = some (.cells #[.int .u16 ((rd_T46 l0 x4_1).f0), .int .u16 ((rd_T46 l0 x4_1).f1), .int .u16 ((rd_T46 l0 x4_1).f2), .int .u16 ((rd_T46 l0 x4_1).f3), .int .u16 ((rd_T46 l0 x4_1).f4)] 46 (0, 0))) := ⟨by (with_reducible repeat (first | refine kN_ ?_ _ | refine kD_ ?_ | refine kA_ ?_ _)); refine kP_ (cs := #[.int .u16 ((rd_T46 l0 x4_1).f0), .int .u16 ((rd_T46 l0 x4_1).f1), .int .u16 ((rd_T46 l0 x4_1).f2), .int .u16 ((rd_T46 l0 x4_1).f3), .int .u16 0]) ?_ 4 _ rfl; (with_reducible repeat (first | refine kN_ ?_ _ | refine kD_ ?_ | refine kA_ ?_ _)); refine kP_ (cs := #[.int .u16 ((rd_T46 l0 x4_1).f0), .int .u16 ((rd_T46 l0 x4_1).f1), .int .u16 ((rd_T46 l0 x4_1).f2), .int .u16 0, .int .u16 0]) ?_ 3 _ rfl; (with_reducible repeat (first | refine kN_ ?_ _ | refine kD_ ?_ | refine kA_ ?_ _)); refine kP_ (cs := #[.int .u16 ((rd_T46 l0 x4_1).f0), .int .u16 ((rd_T46 l0 x4_1).f1), .int .u16 0, .int .u16 0, .int .u16 0]) ?_ 2 _ rfl; (with_reducible repeat (first | refine kN_ ?_ _ | refine kD_ ?_ | refine kA_ ?_ _)); refine kP_ (cs := #[.int .u16 ((rd_T46 l0 x4_1).f0), .int .u16 0, .int .u16 0, .int .u16 0, .int .u16 0]) ?_ 1 _ rfl; (with_reducible repeat (first | refine kN_ ?_ _ | refine kD_ ?_ | refine kA_ ?_ _)); refine kP_ (cs := #[.int .u16 0, .int .u16 0, .int .u16 0, .int .u16 0, .int .u16 0]) ?_ 0 _ rfl; (with_reducible repeat (first | refine kN_ ?_ _ | refine kD_ ?_ | refine kA_ ?_ _)); exact BK785.out⟩
        have n2_ : A0_ (Below w.heap.size w (((((w8.setCell ⟨gb785, 0, none⟩ (.int .u16 ((rd_T46 l0 x4_1).f0))).setCell ⟨gb785, 1, none⟩ (.int .u16 ((rd_T46 l0 x4_1).f1))).setCell ⟨gb785, 2, none⟩ (.int .u16 ((rd_T46 l0 x4_1).f2))).setCell ⟨gb785, 3, none⟩ (.int .u16 ((rd_T46 l0 x4_1).f3))).setCell ⟨gb785, 4, none⟩ (.int .u16 ((rd_T46 l0 x4_1).f4)))) := ⟨xB1_ HB GE785⟩
        (try clear HO_3)
        (try clear BK785)
        (try clear HB)
        generalize (((((w8.setCell ⟨gb785, 0, none⟩ (.int .u16 ((rd_T46 l0 x4_1).f0))).setCell ⟨gb785, 1, none⟩ (.int .u16 ((rd_T46 l0 x4_1).f1))).setCell ⟨gb785, 2, none⟩ (.int .u16 ((rd_T46 l0 x4_1).f2))).setCell ⟨gb785, 3, none⟩ (.int .u16 ((rd_T46 l0 x4_1).f3))).setCell ⟨gb785, 4, none⟩ (.int .u16 ((rd_T46 l0 x4_1).f4))) = w10 at n0_ n1_ n2_ ⊢
        have HO_3 := n0_
        have BK785 := n1_
        have HB := n2_
        clear n0_ n1_ n2_
        have n0_ := A0_.mk (Kd.R_drew HO_3.out)
        have n1_ := A0_.mk (kD_ BK785.out)
        have n2_ := A0_.mk (b1_ HB.out)
        clear HO_3
        clear BK785
        clear HB
        have HO_3 := n0_
        have BK785 := n1_
        have HB := n2_
        clear n0_ n1_ n2_
        refine start_ (n := 10) (S := fun w' => w'.cell? ⟨gb785, 0, none⟩ = some (.int .u16 ((rd_T46 l0 x4_1).f0)) ∧ w'.cell? ⟨gb785, 1, none⟩ = some (.int .u16 ((rd_T46 l0 x4_1).f1)) ∧ w'.cell? ⟨gb785, 2, none⟩ = some (.int .u16 ((rd_T46 l0 x4_1).f2)) ∧ w'.cell? ⟨gb785, 3, none⟩ = some (.int .u16 ((rd_T46 l0 x4_1).f3)) ∧ w'.cell? ⟨gb785, 4, none⟩ = some (.int .u16 ((rd_T46 l0 x4_1).f4))) (ds := []) #[false, false, false, false, false, false, false, false, false, false] (by kernel_rfl) rfl rfl ⟨(kc_ BK785.out 0).trans rfl, (kc_ BK785.out 1).trans rfl, (kc_ BK785.out 2).trans rfl, (kc_ BK785.out 3).trans rfl, (kc_ BK785.out 4).trans rfl⟩ (fun hHeld => ?_); refine with_tabW insolvencylaw0_Obligations.tab6 insolvencylaw0_Obligations.bits6 (fun HT_ HW_ => ?_)
        generalize w10.drew = w11 at HO_3 BK785 HB hHeld ⊢
        refine pure_ (i := 0) (N := some 23) (v := ?_) (a' := ?_) #[true, false, false, false, false, false, false, false, false, false] rfl rfl (any_of HT_.out (by kernel_rfl)) (fun _ _ _ h => h) (Or.inl ⟨by rfl, ?_⟩) ?_ ?_
        rotate_left
        ·intro w'
         go_simp
         with_reducible rfl
        rotate_left
        ·simp only [Act.put, s1_, s2_, s3_, i64_w, i32_w]
         rfl
        refine pure_ (i := 4) (N := some 27) (v := ?_) (a' := ?_) #[true, false, false, false, true, false, false, false, false, false] rfl rfl (any_of HT_.out (by kernel_rfl)) (fun _ _ _ h => h) (Or.inl ⟨by rfl, ?_⟩) ?_ ?_
        rotate_left
        ·intro w'
         go_simp
         with_reducible rfl
        rotate_left
        ·simp only [Act.put, s1_, s2_, s3_, i64_w, i32_w]
         rfl
        refine take_ (i := 1) (N := some 24) (v := ?_) (a' := ?_) #[true, true, false, false, true, false, false, false, false, false] rfl rfl (take_ofW HT_.out HW_.out (by kernel_rfl)) (fun _ _ _ h => h) (Or.inl ⟨by rfl, ?_⟩) hHeld ?_ ?_
        rotate_left
        ·rintro w' ⟨s0, s1, s2, s3, s4⟩
         go_simp
         with_reducible rfl
        rotate_left
        ·simp only [Act.put, s1_, s2_, s3_, i64_w, i32_w]
         rfl
        refine pure_ (i := 2) (N := some 25) (v := ?_) (a' := ?_) #[true, true, true, false, true, false, false, false, false, false] rfl rfl (any_of HT_.out (by kernel_rfl)) (fun _ _ _ h => h) (Or.inl ⟨by rfl, ?_⟩) ?_ ?_
        rotate_left
        ·intro w'
         go_simp
         with_reducible rfl
        rotate_left
        ·simp only [Act.put, s1_, s2_, s3_, i64_w, i32_w]
         rfl
        refine pure_ (i := 3) (N := some 26) (v := ?_) (a' := ?_) #[true, true, true, true, true, false, false, false, false, false] rfl rfl (any_of HT_.out (by kernel_rfl)) (fun _ _ _ h => h) (Or.inl ⟨by rfl, ?_⟩) ?_ ?_
        rotate_left
        ·intro w'
         go_simp
         with_reducible rfl
        rotate_left
        ·simp only [Act.put, s1_, s2_, s3_, i64_w, i32_w]
         rfl
        refine pure_ (i := 8) (N := some 6) (v := ?_) (a' := ?_) #[true, true, true, true, true, false, false, false, true, false] rfl rfl (any_of HT_.out (by kernel_rfl)) (fun _ _ _ h => h) (Or.inl ⟨by rfl, ?_⟩) ?_ ?_
        rotate_left
        ·intro w'
         go_simp
         with_reducible rfl
        rotate_left
        ·simp only [Act.put, s1_, s2_, s3_, i64_w, i32_w]
         rfl
        refine take_ (i := 5) (N := some 28) (v := ?_) (a' := ?_) #[true, true, true, true, true, true, false, false, true, false] rfl rfl (take_ofW HT_.out HW_.out (by kernel_rfl)) (fun _ _ _ h => h) (Or.inl ⟨by rfl, ?_⟩) hHeld ?_ ?_
        rotate_left
        ·rintro w' ⟨s0, s1, s2, s3, s4⟩
         go_simp
         with_reducible rfl
        rotate_left
        ·simp only [Act.put, s1_, s2_, s3_, i64_w, i32_w]
         rfl
        refine pure_ (i := 6) (N := some 29) (v := ?_) (a' := ?_) #[true, true, true, true, true, true, true, false, true, false] rfl rfl (any_of HT_.out (by kernel_rfl)) (fun _ _ _ h => h) (Or.inl ⟨by rfl, ?_⟩) ?_ ?_
        rotate_left
        ·intro w'
         go_simp
         with_reducible rfl
        rotate_left
        ·simp only [Act.put, s1_, s2_, s3_, i64_w, i32_w]
         rfl
        refine pure_ (i := 7) (N := some 30) (v := ?_) (a' := ?_) #[true, true, true, true, true, true, true, true, true, false] rfl rfl (any_of HT_.out (by kernel_rfl)) (fun _ _ _ h => h) (Or.inl ⟨by rfl, ?_⟩) ?_ ?_
        rotate_left
        ·intro w'
         go_simp
         with_reducible rfl
        rotate_left
        ·simp only [Act.put, s1_, s2_, s3_, i64_w, i32_w]
         rfl
        refine pure_ (i := 9) (N := some 7) (v := ?_) (a' := ?_) #[true, true, true, true, true, true, true, true, true, true] rfl rfl (any_of HT_.out (by kernel_rfl)) (fun _ _ _ h => h) (Or.inl ⟨by rfl, ?_⟩) ?_ ?_
        rotate_left
        ·intro w'
         go_simp
         with_reducible rfl
        rotate_left
        ·simp only [Act.put, s1_, s2_, s3_, i64_w, i32_w]
         rfl
        refine done_ (done_of HT_.out (by kernel_rfl)) ?_
        go_upto_if 33 with (fail)
        go_cut [7] (fun v7 wc => ∃ (kq : Nat) (x7_6 : Int), v7 = .int .i64 x7_6 ∧ A0_ (insolvencylaw0_Obligations.j2 kq l0 x3_1 x4_1 (wrap64 (Int.tmod ((rd_T46 l0 x4_1).f0) 4)) x7_6 ((rd_T46 l0 x4_1).f0) ((rd_T46 l0 x4_1).f1) ((rd_T46 l0 x4_1).f2) ((rd_T46 l0 x4_1).f3) ((rd_T46 l0 x4_1).f4) = some r) ∧ A0_ (kq ≤ kj1) ∧ A0_ (Kd.R k28 28 wc w.heap.size (fun _ => True) u3 x3_1) ∧ A0_ (wc.heap[gb785]? = some (.cells #[.int .u16 ((rd_T46 l0 x4_1).f0), .int .u16 ((rd_T46 l0 x4_1).f1), .int .u16 ((rd_T46 l0 x4_1).f2), .int .u16 ((rd_T46 l0 x4_1).f3), .int .u16 ((rd_T46 l0 x4_1).f4)] 46 (0, 0))) ∧ A0_ (Below w.heap.size w wc))
        case first =>
         have H := HC7.out
         clear HC7
         by_cases c12 : (wrap64 (Int.tmod ((rd_T46 l0 x4_1).f1) 3)) ≥ (wrap64 (Int.tmod ((rd_T46 l0 x4_1).f0) 4))
         ·rw [if_pos c12] at H
          have c12b0 : decide ((wrap64 (Int.tmod ((rd_T46 l0 x4_1).f0) 4)) ≤ (wrap64 (Int.tmod ((rd_T46 l0 x4_1).f1) 3))) = true := decide_eq_true c12
          clear c12
          (first | rw [c12b0] | rw [c12b1] | (simp only [i64_w, i32_w]; rw [c12b0]) | skip)
          have H' := A0_.mk H
          clear H
          go_wp2
          go_meet
          case rel => exact ⟨_, (wrap64 ((wrap64 (Int.tmod ((rd_T46 l0 x4_1).f1) 3)) + 1)), (by first | rfl | (simp; done) | (simp [*]; done)), H', ⟨by have := HK1.out; have := HJ1.out; first | omega | exact Nat.le_refl _⟩, ⟨by (with_reducible repeat (first | apply Kd.R_alloc | apply Kd.R_drewN | apply Kd.R_drew)); exact HO_3.out⟩, ⟨by (with_reducible repeat (first | refine kN_ ?_ _ | refine kD_ ?_ | refine kA_ ?_ _)); exact BK785.out⟩, ⟨xB1_ HB GE785⟩⟩
         ·rw [if_neg c12] at H
          have c12b0 : decide ((wrap64 (Int.tmod ((rd_T46 l0 x4_1).f0) 4)) ≤ (wrap64 (Int.tmod ((rd_T46 l0 x4_1).f1) 3))) = false := decide_eq_false c12
          clear c12
          (first | rw [c12b0] | rw [c12b1] | (simp only [i64_w, i32_w]; rw [c12b0]) | skip)
          have H' := A0_.mk H
          clear H
          go_wp2
          go_meet
          case rel => exact ⟨_, (wrap64 (Int.tmod ((rd_T46 l0 x4_1).f1) 3)), (by first | rfl | (simp; done) | (simp [*]; done)), H', ⟨by have := HK1.out; have := HJ1.out; first | omega | exact Nat.le_refl _⟩, ⟨by (with_reducible repeat (first | apply Kd.R_alloc | apply Kd.R_drewN | apply Kd.R_drew)); exact HO_3.out⟩, ⟨by (with_reducible repeat (first | refine kN_ ?_ _ | refine kD_ ?_ | refine kA_ ?_ _)); exact BK785.out⟩, ⟨xB1_ HB GE785⟩⟩
        case rest =>
         clear HC7
         try clear c1
         try clear p2
         try clear c3
         try clear c3b0
         try clear c3b1
         try clear c4
         try clear c5
         try clear c5b0
         try clear c6
         try clear c6b0
         try clear p6
         try clear p7
         try clear q7
         try clear hx7
         try clear c12
         try clear c12b0
         try clear c12b1
         try clear hcz9_0
         try clear hcz9_1
         try clear hcz9_2
         try clear hcz9_3
         try clear hcz9_4
         try clear hfz9_0
         try clear hfz9_1
         try clear hfz9_2
         try clear hfz9_3
         try clear hfz9_4
         try clear hx784_0
         try clear hx784_1
         try clear hx784_2
         try clear hx784_3
         try clear hx784_4
         try clear p2
         try clear p784
         try clear q784
         obtain ⟨kq, x7_6, rfl, HA, HJ6, HO_3, BK785, HB⟩ := hcut
         cases kq with
         | zero => exact absurd HA.out (by simp [insolvencylaw0_Obligations.j2])
         | succ kj6 =>
          have H := HA.out
          clear HA
          simp only [insolvencylaw0_Obligations.j2] at H
          replace H := Option.bind_eq_some_iff.mp H
          obtain ⟨⟨t786, t787, t788⟩, A130, H⟩ := H
          (try dsimp only at H)
          have A13 := A0_.mk A130
          clear A130
          obtain ⟨y790, hy790⟩ : ∃ y_ : List Int, y_ = (([0, 0, 0, wrap64 (Int.tmod (IntKind.u16.wrap (Int.tdiv ((rd_T46 l0 x4_1).f4) 8)) 50)] : List Int)) := ⟨_, rfl⟩
          replace H : (if 0 ≤ (Int.tmod ((rd_T46 l0 x4_1).f4) 4) then (if (Int.tmod ((rd_T46 l0 x4_1).f4) 4) < (y790.length : Int) then (if x3_1.length < 1759218604441 then (insolvencylaw0_Obligations.l0 kj6 l0 (x3_1 ++ [(⟨(wrap64 (Int.tmod ((rd_T46 l0 x4_1).f0) 4)), x7_6, (⟨t786, t787, t788⟩ : S26), wrap64 (Int.tmod ((rd_T46 l0 x4_1).f3) 60), wrap64 ((wrap64 (Int.tmod ((rd_T46 l0 x4_1).f3) 60)) + (rd y790 (Int.tmod ((rd_T46 l0 x4_1).f4) 4))), ((Int.tmod ((rd_T46 l0 x4_1).f4) 8) == 7)⟩ : S28)]) (wrap64 (x4_1 + 1))) else (none)) else (none)) else (none)) = some r := by first | (rw [hy790]; with_reducible exact H) | (have H2_ := (Option.bind_some _ _).symm.trans H; rw [hy790]; with_reducible exact H2_) | (have H2_ := (Option.bind_some _ _).symm.trans H; with_reducible exact H2_) | with_reducible exact H | (rw [hy790]; exact H) | exact H
          have Ny790 := A0_.mk hy790
          clear hy790
          obtain ⟨ji14, hji14⟩ : ∃ j_ : Int, (Int.tmod ((rd_T46 l0 x4_1).f4) 4) = j_ := ⟨_, rfl⟩
          replace H : (if 0 ≤ (ji14) then (if (ji14) < (y790.length : Int) then (if x3_1.length < 1759218604441 then (insolvencylaw0_Obligations.l0 kj6 l0 (x3_1 ++ [(⟨(wrap64 (Int.tmod ((rd_T46 l0 x4_1).f0) 4)), x7_6, (⟨t786, t787, t788⟩ : S26), wrap64 (Int.tmod ((rd_T46 l0 x4_1).f3) 60), wrap64 ((wrap64 (Int.tmod ((rd_T46 l0 x4_1).f3) 60)) + (rd y790 (ji14))), ((Int.tmod ((rd_T46 l0 x4_1).f4) 8) == 7)⟩ : S28)]) (wrap64 (x4_1 + 1))) else (none)) else (none)) else (none)) = some r := by first | (rw [hji14] at H; exact H) | (simp only [hji14] at H ⊢; exact H)
          (try rw [hji14] at A13)
          by_cases c15 : 0 ≤ (ji14)
          ·rw [if_pos c15] at H
           have c15b0 : decide (0 ≤ (ji14)) = true := decide_eq_true c15
           clear c15
           by_cases c16 : (ji14) < (y790.length : Int)
           ·rw [if_pos c16] at H
            have c16b0 : decide ((ji14) < (y790.length : Int)) = true := decide_eq_true c16
            clear c16
            by_cases c17 : x3_1.length < 1759218604441
            ·rw [if_pos c17] at H
             have LMc17 := A0_.mk c17
             clear c17
             obtain ⟨y794, hy794⟩ : ∃ y_ : List (S28), y_ = (x3_1 ++ [(⟨(wrap64 (Int.tmod ((rd_T46 l0 x4_1).f0) 4)), x7_6, (⟨t786, t787, t788⟩ : S26), wrap64 (Int.tmod ((rd_T46 l0 x4_1).f3) 60), wrap64 ((wrap64 (Int.tmod ((rd_T46 l0 x4_1).f3) 60)) + (rd y790 (ji14))), ((Int.tmod ((rd_T46 l0 x4_1).f4) 8) == 7)⟩ : S28)]) := ⟨_, rfl⟩
             replace H : (insolvencylaw0_Obligations.l0 kj6 l0 y794 (wrap64 (x4_1 + 1))) = some r := by first | (rw [hy794]; with_reducible exact H) | (have H2_ := (Option.bind_some _ _).symm.trans H; rw [hy794]; with_reducible exact H2_) | (have H2_ := (Option.bind_some _ _).symm.trans H; with_reducible exact H2_) | with_reducible exact H | (rw [hy794]; exact H) | exact H
             have Ny794 := A0_.mk hy794
             clear hy794
             have H' := A0_.mk H
             clear H
             try go_wp2
             have n0_ := A0_.mk (Kd.R_drew HO_3.out)
             have n1_ := A0_.mk (kD_ BK785.out)
             have n2_ := A0_.mk (b1_ HB.out)
             clear HO_3
             clear BK785
             clear HB
             have HO_3 := n0_
             have BK785 := n1_
             have HB := n2_
             clear n0_ n1_ n2_
             refine start_ (n := 16) (S := fun w' => w'.cell? ⟨gb785, 0, none⟩ = some (.int .u16 ((rd_T46 l0 x4_1).f0)) ∧ w'.cell? ⟨gb785, 1, none⟩ = some (.int .u16 ((rd_T46 l0 x4_1).f1)) ∧ w'.cell? ⟨gb785, 2, none⟩ = some (.int .u16 ((rd_T46 l0 x4_1).f2)) ∧ w'.cell? ⟨gb785, 3, none⟩ = some (.int .u16 ((rd_T46 l0 x4_1).f3)) ∧ w'.cell? ⟨gb785, 4, none⟩ = some (.int .u16 ((rd_T46 l0 x4_1).f4))) (ds := []) #[false, false, false, false, false, false, false, false, false, false, false, false, false, false, false, false] (by kernel_rfl) rfl rfl ⟨(kc_ BK785.out 0).trans rfl, (kc_ BK785.out 1).trans rfl, (kc_ BK785.out 2).trans rfl, (kc_ BK785.out 3).trans rfl, (kc_ BK785.out 4).trans rfl⟩ (fun hHeld => ?_); refine with_tabW insolvencylaw0_Obligations.tab9 insolvencylaw0_Obligations.bits9 (fun HT_ HW_ => ?_)
             generalize wc.drew = w18 at HO_3 BK785 HB hHeld ⊢
             refine pure_ (i := 0) (N := some 36) (v := ?_) (a' := ?_) #[true, false, false, false, false, false, false, false, false, false, false, false, false, false, false, false] rfl rfl (any_of HT_.out (by kernel_rfl)) (fun _ _ _ h => h) (Or.inl ⟨by rfl, ?_⟩) ?_ ?_
             rotate_left
             ·intro w'
              go_simp
              with_reducible rfl
             rotate_left
             ·simp only [Act.put, s1_, s2_, s3_, i64_w, i32_w]
              rfl
             refine pure_ (i := 1) (N := some 37) (v := ?_) (a' := ?_) #[true, true, false, false, false, false, false, false, false, false, false, false, false, false, false, false] rfl rfl (any_of HT_.out (by kernel_rfl)) (fun _ _ _ h => h) (Or.inl ⟨by rfl, ?_⟩) ?_ ?_
             rotate_left
             ·intro w'
              go_simp
              with_reducible rfl
             rotate_left
             ·simp only [Act.put, s1_, s2_, s3_, i64_w, i32_w]
              rfl
             refine pure_ (i := 2) (N := some 38) (v := ?_) (a' := ?_) #[true, true, true, false, false, false, false, false, false, false, false, false, false, false, false, false] rfl rfl (any_of HT_.out (by kernel_rfl)) (fun _ _ _ h => h) (Or.inl ⟨by rfl, ?_⟩) ?_ ?_
             rotate_left
             ·intro w'
              go_simp
              with_reducible rfl
             rotate_left
             ·simp only [Act.put, s1_, s2_, s3_, i64_w, i32_w]
              rfl
             refine pure_ (i := 5) (N := some 41) (v := ?_) (a' := ?_) #[true, true, true, false, false, true, false, false, false, false, false, false, false, false, false, false] rfl rfl (any_of HT_.out (by kernel_rfl)) (fun _ _ _ h => h) (Or.inl ⟨by rfl, ?_⟩) ?_ ?_
             rotate_left
             ·intro w'
              go_simp
              with_reducible rfl
             rotate_left
             ·simp only [Act.put, s1_, s2_, s3_, i64_w, i32_w]
              rfl
             refine pure_ (i := 9) (N := some 45) (v := ?_) (a' := ?_) #[true, true, true, false, false, true, false, false, false, true, false, false, false, false, false, false] rfl rfl (any_of HT_.out (by kernel_rfl)) (fun _ _ _ h => h) (Or.inl ⟨by rfl, ?_⟩) ?_ ?_
             rotate_left
             ·intro w'
              go_simp
              with_reducible rfl
             rotate_left
             ·simp only [Act.put, s1_, s2_, s3_, i64_w, i32_w]
              rfl
             refine take_ (i := 3) (N := some 39) (v := ?_) (a' := ?_) #[true, true, true, true, false, true, false, false, false, true, false, false, false, false, false, false] rfl rfl (take_ofW HT_.out HW_.out (by kernel_rfl)) (fun _ _ _ h => h) (Or.inl ⟨by rfl, ?_⟩) hHeld ?_ ?_
             rotate_left
             ·rintro w' ⟨s0, s1, s2, s3, s4⟩
              go_simp
              with_reducible rfl
             rotate_left
             ·simp only [Act.put, s1_, s2_, s3_, i64_w, i32_w]
              rfl
             refine take_ (i := 6) (N := some 42) (v := ?_) (a' := ?_) #[true, true, true, true, false, true, true, false, false, true, false, false, false, false, false, false] rfl rfl (take_ofW HT_.out HW_.out (by kernel_rfl)) (fun _ _ _ h => h) (Or.inl ⟨by rfl, ?_⟩) hHeld ?_ ?_
             rotate_left
             ·rintro w' ⟨s0, s1, s2, s3, s4⟩
              go_simp
              with_reducible rfl
             rotate_left
             ·simp only [Act.put, s1_, s2_, s3_, i64_w, i32_w]
              rfl
             refine pure_ (i := 7) (N := some 43) (v := ?_) (a' := ?_) #[true, true, true, true, false, true, true, true, false, true, false, false, false, false, false, false] rfl rfl (any_of HT_.out (by kernel_rfl)) (fun _ _ _ h => h) (Or.inl ⟨by rfl, ?_⟩) ?_ ?_
             rotate_left
             ·intro w'
              go_simp
              with_reducible rfl
             rotate_left
             ·simp only [Act.put, s1_, s2_, s3_, i64_w, i32_w]
              rfl
             refine pure_ (i := 8) (N := some 44) (v := ?_) (a' := ?_) #[true, true, true, true, false, true, true, true, true, true, false, false, false, false, false, false] rfl rfl (any_of HT_.out (by kernel_rfl)) (fun _ _ _ h => h) (Or.inl ⟨by rfl, ?_⟩) ?_ ?_
             rotate_left
             ·intro w'
              go_simp
              with_reducible rfl
             rotate_left
             ·simp only [Act.put, s1_, s2_, s3_, i64_w, i32_w]
              rfl
             refine take_ (i := 10) (N := some 46) (v := ?_) (a' := ?_) #[true, true, true, true, false, true, true, true, true, true, true, false, false, false, false, false] rfl rfl (take_ofW HT_.out HW_.out (by kernel_rfl)) (fun _ _ _ h => h) (Or.inl ⟨by rfl, ?_⟩) hHeld ?_ ?_
             rotate_left
             ·rintro w' ⟨s0, s1, s2, s3, s4⟩
              go_simp
              with_reducible rfl
             rotate_left
             ·simp only [Act.put, s1_, s2_, s3_, i64_w, i32_w]
              rfl
             refine pure_ (i := 11) (N := some 47) (v := ?_) (a' := ?_) #[true, true, true, true, false, true, true, true, true, true, true, true, false, false, false, false] rfl rfl (any_of HT_.out (by kernel_rfl)) (fun _ _ _ h => h) (Or.inl ⟨by rfl, ?_⟩) ?_ ?_
             rotate_left
             ·intro w'
              go_simp
              with_reducible rfl
             rotate_left
             ·simp only [Act.put, s1_, s2_, s3_, i64_w, i32_w]
              rfl
             refine pure_ (i := 12) (N := some 48) (v := ?_) (a' := ?_) #[true, true, true, true, false, true, true, true, true, true, true, true, true, false, false, false] rfl rfl (any_of HT_.out (by kernel_rfl)) (fun _ _ _ h => h) (Or.inl ⟨by rfl, ?_⟩) ?_ ?_
             rotate_left
             ·intro w'
              go_simp
              with_reducible rfl
             rotate_left
             ·simp only [Act.put, s1_, s2_, s3_, i64_w, i32_w]
              rfl
             refine join_ (σ := Nat) 1 #[true, true, true, true, true, true, true, true, true, true, true, true, true, true, true, false] (fun s_ => [(40, .agg #[.bool t786, .string t787, .string t788]), (8, .pointer (some ⟨s_, 0, none⟩)), (49, .agg #[.int .i64 (wrap64 (Int.tmod ((rd_T46 l0 x4_1).f0) 4)), .int .i64 x7_6, .bool t786, .string t787, .string t788, .int .i64 (wrap64 (Int.tmod ((rd_T46 l0 x4_1).f3) 60)), .int .i64 0, .bool ((Int.tmod ((rd_T46 l0 x4_1).f4) 8) == 7)])]) (fun s_ w' => (w'.cell? ⟨gb785, 0, none⟩ = some (.int .u16 ((rd_T46 l0 x4_1).f0)) ∧ w'.cell? ⟨gb785, 1, none⟩ = some (.int .u16 ((rd_T46 l0 x4_1).f1)) ∧ w'.cell? ⟨gb785, 2, none⟩ = some (.int .u16 ((rd_T46 l0 x4_1).f2)) ∧ w'.cell? ⟨gb785, 3, none⟩ = some (.int .u16 ((rd_T46 l0 x4_1).f3)) ∧ w'.cell? ⟨gb785, 4, none⟩ = some (.int .u16 ((rd_T46 l0 x4_1).f4))) ∧ (Kd.R k28 28 w' w.heap.size (fun k_ => k_ ≠ s_) u3 x3_1) ∧ (w'.heap[gb785]? = some (.cells #[.int .u16 ((rd_T46 l0 x4_1).f0), .int .u16 ((rd_T46 l0 x4_1).f1), .int .u16 ((rd_T46 l0 x4_1).f2), .int .u16 ((rd_T46 l0 x4_1).f3), .int .u16 ((rd_T46 l0 x4_1).f4)] 46 (0, 0))) ∧ (w'.heap[s_]? = some (.cells #[.int .i64 0, .int .i64 0, .bool false, .string (⟨#[]⟩ : ByteArray), .string (⟨#[]⟩ : ByteArray), .int .i64 0, .int .i64 0, .bool false] 28 (0, 0))) ∧ (w.heap.size ≤ s_) ∧ (w.heap.size ≤ s_) ∧ (gb785 ≠ s_) ∧ (s_ ≠ gb785) ∧ (Below w.heap.size w w')) ?_ ?_
             rotate_left
             ·intro hCont
              refine two_ (i := 4) (j := 14) (Ni := some 40) (Nj := some 8) #[true, true, true, true, true, true, true, true, true, true, true, true, true, false, false, false] #[true, true, true, true, false, true, true, true, true, true, true, true, true, false, true, false] rfl rfl rfl rfl (two_of HT_.out (by kernel_rfl)) (by decide) (by decide) (fun K hK => ?_) (fun K hK => ?_)
              ·skip
               refine goes_ Tryd.func35 (by kernel_rfl) rfl #[.int .u16 ((rd_T46 l0 x4_1).f2)] (by rfl) rfl rfl mp_ ?_
               with_reducible refine (insolvencylaw0_Amount.calls kj6 ((rd_T46 l0 x4_1).f2) t786 t787 t788 _ A13.out).mono ?_
               rintro e w19 ⟨rfl, hb⟩
               refine ⟨_, rfl, ?_⟩
               have n0_ := A0_.mk (Kd.R_below (xR_ HO_3.out) hb)
               have n1_ := A0_.mk (kB_ (g := gb785) (o := .cells #[.int .u16 ((rd_T46 l0 x4_1).f0), .int .u16 ((rd_T46 l0 x4_1).f1), .int .u16 ((rd_T46 l0 x4_1).f2), .int .u16 ((rd_T46 l0 x4_1).f3), .int .u16 ((rd_T46 l0 x4_1).f4)] 46 (0, 0)) (xK_ BK785.out) hb)
               have n2_ := A0_.mk (bT_ (xB1_ HB GE785) hb)
               clear HO_3
               clear BK785
               clear HB
               have HO_3 := n0_
               have BK785 := n1_
               have HB := n2_
               clear n0_ n1_ n2_
               (try clear hb)
               (try clear hb2)
               (try clear hk)
               (try clear hi)
               refine hK.out _ _ ⟨(kc_ BK785.out 0).trans rfl, (kc_ BK785.out 1).trans rfl, (kc_ BK785.out 2).trans rfl, (kc_ BK785.out 3).trans rfl, (kc_ BK785.out 4).trans rfl⟩ (fun hHeld => ?_)
               clear hK K
               refine norm_ (a' := ?_) ?_ ?_
               rotate_left
               ·show Act.put _ (some 40) _ = _
                simp only [Act.put, s1_, s2_, s3_, i64_w, i32_w]
                rfl
               refine pure_ (i := 13) (N := some 49) (v := ?_) (a' := ?_) #[true, true, true, true, true, true, true, true, true, true, true, true, true, true, false, false] rfl rfl (any_of HT_.out (by kernel_rfl)) (fun _ _ _ h => h) (Or.inl ⟨by rfl, ?_⟩) ?_ ?_
               rotate_left
               ·intro w'
                go_simp
                with_reducible rfl
               rotate_left
               ·simp only [Act.put, s1_, s2_, s3_, i64_w, i32_w]
                rfl
               refine one_ (i := 14) (N := some 8) #[true, true, true, true, true, true, true, true, true, true, true, true, true, true, true, false] rfl rfl (one_of HT_.out (by kernel_rfl)) (by decide) (fun K hK => ?_)
               refine box_step ?hg (N := 8) ?hd (cs := #[.int .i64 0, .int .i64 0, .bool false, .string (⟨#[]⟩ : ByteArray), .string (⟨#[]⟩ : ByteArray), .int .i64 0, .int .i64 0, .bool false]) (t := 28) ?hr ?_; (case hd => rfl); (case hg => rfl); (case hr => first | (go_simp; done) | (go_simp; rfl))
               intro gb789 hg w20 hbox hb
               have n0_ := A0_.mk (Kd.R_below (Kd.R_elderB (xR_ HO_3.out) gb789 (Nat.le_of_eq hg.symm)) hb)
               have n1_ := A0_.mk (kB_ (g := gb785) (o := .cells #[.int .u16 ((rd_T46 l0 x4_1).f0), .int .u16 ((rd_T46 l0 x4_1).f1), .int .u16 ((rd_T46 l0 x4_1).f2), .int .u16 ((rd_T46 l0 x4_1).f3), .int .u16 ((rd_T46 l0 x4_1).f4)] 46 (0, 0)) (xK_ BK785.out) hb)
               have n2_ := A0_.mk (bT_ (xB1_ HB GE785) hb)
               have n3_ := A0_.mk (hbox)
               have n4_ := A0_.mk ((by rw [hg]; exact (bZ_ (xB1_ HB GE785)) : w.heap.size ≤ gb789))
               have n5_ := A0_.mk ((by rw [hg]; exact (bZ_ (xB1_ HB GE785)) : w.heap.size ≤ gb789))
               have n6_ := A0_.mk ((by rw [hg]; exact Nat.ne_of_lt (blk_lt (g := gb785) (o := .cells #[.int .u16 ((rd_T46 l0 x4_1).f0), .int .u16 ((rd_T46 l0 x4_1).f1), .int .u16 ((rd_T46 l0 x4_1).f2), .int .u16 ((rd_T46 l0 x4_1).f3), .int .u16 ((rd_T46 l0 x4_1).f4)] 46 (0, 0)) (xK_ BK785.out)) : gb785 ≠ gb789))
               have n7_ := A0_.mk ((by rw [hg]; exact Nat.ne_of_gt (blk_lt (g := gb785) (o := .cells #[.int .u16 ((rd_T46 l0 x4_1).f0), .int .u16 ((rd_T46 l0 x4_1).f1), .int .u16 ((rd_T46 l0 x4_1).f2), .int .u16 ((rd_T46 l0 x4_1).f3), .int .u16 ((rd_T46 l0 x4_1).f4)] 46 (0, 0)) (xK_ BK785.out)) : gb789 ≠ gb785))
               clear HO_3
               clear BK785
               clear HB
               have HO_3 := n0_
               have BK785 := n1_
               have HB := n2_
               have BK789 := n3_
               have GW789 := n4_
               have GE789 := n5_
               have NB785_789 := n6_
               have NB789_785 := n7_
               clear n0_ n1_ n2_ n3_ n4_ n5_ n6_ n7_
               clear hb hbox hg
               refine hK.out _ _ ⟨(kc_ BK785.out 0).trans rfl, (kc_ BK785.out 1).trans rfl, (kc_ BK785.out 2).trans rfl, (kc_ BK785.out 3).trans rfl, (kc_ BK785.out 4).trans rfl⟩ (fun hHeld => ?_)
               clear hK K
               refine norm_ (a' := ?_) ?_ ?_
               rotate_left
               ·show Act.put _ (some 8) _ = _
                simp only [Act.put, s1_, s2_, s3_, i64_w, i32_w]
                rfl
               exact norm_ (by simp only [putAll, Act.put, s1_, s2_, s3_]) (hCont (gb789) _ ⟨hHeld, (by (with_reducible repeat (first | apply Kd.R_alloc | apply Kd.R_drewN | apply Kd.R_drew)); exact Kd.R_mono HO_3.out (fun _ hk => hk.2)), (xK_ BK785.out), (xK_ BK789.out), GW789.out, GE789.out, NB785_789.out, NB789_785.out, (xB2_ HB GE785 GE789)⟩)
              ·skip
               refine box_step ?hg (N := 8) ?hd (cs := #[.int .i64 0, .int .i64 0, .bool false, .string (⟨#[]⟩ : ByteArray), .string (⟨#[]⟩ : ByteArray), .int .i64 0, .int .i64 0, .bool false]) (t := 28) ?hr ?_; (case hd => rfl); (case hg => rfl); (case hr => first | (go_simp; done) | (go_simp; rfl))
               intro gb789 hg w19 hbox hb
               have n0_ := A0_.mk (Kd.R_below (Kd.R_elderB (xR_ HO_3.out) gb789 (Nat.le_of_eq hg.symm)) hb)
               have n1_ := A0_.mk (kB_ (g := gb785) (o := .cells #[.int .u16 ((rd_T46 l0 x4_1).f0), .int .u16 ((rd_T46 l0 x4_1).f1), .int .u16 ((rd_T46 l0 x4_1).f2), .int .u16 ((rd_T46 l0 x4_1).f3), .int .u16 ((rd_T46 l0 x4_1).f4)] 46 (0, 0)) (xK_ BK785.out) hb)
               have n2_ := A0_.mk (bT_ (xB1_ HB GE785) hb)
               have n3_ := A0_.mk (hbox)
               have n4_ := A0_.mk ((by rw [hg]; exact (bZ_ (xB1_ HB GE785)) : w.heap.size ≤ gb789))
               have n5_ := A0_.mk ((by rw [hg]; exact (bZ_ (xB1_ HB GE785)) : w.heap.size ≤ gb789))
               have n6_ := A0_.mk ((by rw [hg]; exact Nat.ne_of_lt (blk_lt (g := gb785) (o := .cells #[.int .u16 ((rd_T46 l0 x4_1).f0), .int .u16 ((rd_T46 l0 x4_1).f1), .int .u16 ((rd_T46 l0 x4_1).f2), .int .u16 ((rd_T46 l0 x4_1).f3), .int .u16 ((rd_T46 l0 x4_1).f4)] 46 (0, 0)) (xK_ BK785.out)) : gb785 ≠ gb789))
               have n7_ := A0_.mk ((by rw [hg]; exact Nat.ne_of_gt (blk_lt (g := gb785) (o := .cells #[.int .u16 ((rd_T46 l0 x4_1).f0), .int .u16 ((rd_T46 l0 x4_1).f1), .int .u16 ((rd_T46 l0 x4_1).f2), .int .u16 ((rd_T46 l0 x4_1).f3), .int .u16 ((rd_T46 l0 x4_1).f4)] 46 (0, 0)) (xK_ BK785.out)) : gb789 ≠ gb785))
               clear HO_3
               clear BK785
               clear HB
               have HO_3 := n0_
               have BK785 := n1_
               have HB := n2_
               have BK789 := n3_
               have GW789 := n4_
               have GE789 := n5_
               have NB785_789 := n6_
               have NB789_785 := n7_
               clear n0_ n1_ n2_ n3_ n4_ n5_ n6_ n7_
               clear hb hbox hg
               refine hK.out _ _ ⟨(kc_ BK785.out 0).trans rfl, (kc_ BK785.out 1).trans rfl, (kc_ BK785.out 2).trans rfl, (kc_ BK785.out 3).trans rfl, (kc_ BK785.out 4).trans rfl⟩ (fun hHeld => ?_)
               clear hK K
               refine norm_ (a' := ?_) ?_ ?_
               rotate_left
               ·show Act.put _ (some 8) _ = _
                simp only [Act.put, s1_, s2_, s3_, i64_w, i32_w]
                rfl
               refine one_ (i := 4) (N := some 40) #[true, true, true, true, true, true, true, true, true, true, true, true, true, false, true, false] rfl rfl (one_of HT_.out (by kernel_rfl)) (by decide) (fun K hK => ?_)
               refine goes_ Tryd.func35 (by kernel_rfl) rfl #[.int .u16 ((rd_T46 l0 x4_1).f2)] (by rfl) rfl rfl mp_ ?_
               with_reducible refine (insolvencylaw0_Amount.calls kj6 ((rd_T46 l0 x4_1).f2) t786 t787 t788 _ A13.out).mono ?_
               rintro e w20 ⟨rfl, hb⟩
               refine ⟨_, rfl, ?_⟩
               have n0_ := A0_.mk (Kd.R_below (xR_ HO_3.out) hb)
               have n1_ := A0_.mk (kB_ (g := gb785) (o := .cells #[.int .u16 ((rd_T46 l0 x4_1).f0), .int .u16 ((rd_T46 l0 x4_1).f1), .int .u16 ((rd_T46 l0 x4_1).f2), .int .u16 ((rd_T46 l0 x4_1).f3), .int .u16 ((rd_T46 l0 x4_1).f4)] 46 (0, 0)) (xK_ BK785.out) hb)
               have n2_ := A0_.mk (kB_ (g := gb789) (o := .cells #[.int .i64 0, .int .i64 0, .bool false, .string (⟨#[]⟩ : ByteArray), .string (⟨#[]⟩ : ByteArray), .int .i64 0, .int .i64 0, .bool false] 28 (0, 0)) (xK_ BK789.out) hb)
               have n3_ := A0_.mk (bT_ (xB2_ HB GE785 GE789) hb)
               clear HO_3
               clear BK785
               clear BK789
               clear HB
               have HO_3 := n0_
               have BK785 := n1_
               have BK789 := n2_
               have HB := n3_
               clear n0_ n1_ n2_ n3_
               (try clear hb)
               (try clear hb2)
               (try clear hk)
               (try clear hi)
               refine hK.out _ _ ⟨(kc_ BK785.out 0).trans rfl, (kc_ BK785.out 1).trans rfl, (kc_ BK785.out 2).trans rfl, (kc_ BK785.out 3).trans rfl, (kc_ BK785.out 4).trans rfl⟩ (fun hHeld => ?_)
               clear hK K
               refine norm_ (a' := ?_) ?_ ?_
               rotate_left
               ·show Act.put _ (some 40) _ = _
                simp only [Act.put, s1_, s2_, s3_, i64_w, i32_w]
                rfl
               refine pure_ (i := 13) (N := some 49) (v := ?_) (a' := ?_) #[true, true, true, true, true, true, true, true, true, true, true, true, true, true, true, false] rfl rfl (any_of HT_.out (by kernel_rfl)) (fun _ _ _ h => h) (Or.inl ⟨by rfl, ?_⟩) ?_ ?_
               rotate_left
               ·intro w'
                go_simp
                with_reducible rfl
               rotate_left
               ·simp only [Act.put, s1_, s2_, s3_, i64_w, i32_w]
                rfl
               exact norm_ (by simp only [putAll, Act.put, s1_, s2_, s3_]) (hCont (gb789) _ ⟨hHeld, (by (with_reducible repeat (first | apply Kd.R_alloc | apply Kd.R_drewN | apply Kd.R_drew)); exact Kd.R_mono HO_3.out (fun _ hk => hk.2)), (xK_ BK785.out), (xK_ BK789.out), GW789.out, GE789.out, NB785_789.out, NB789_785.out, (xB2_ HB GE785 GE789)⟩)
             rintro gb789 w21 ⟨hS_, h0_, h1_, h2_, h3_, h4_, h5_, h6_, h7_⟩
             have n0_ : A0_ (Kd.R k28 28 w21 w.heap.size (fun k_ => k_ ≠ gb789) u3 x3_1) := ⟨h0_⟩
             have n1_ : A0_ (w21.heap[gb785]? = some (.cells #[.int .u16 ((rd_T46 l0 x4_1).f0), .int .u16 ((rd_T46 l0 x4_1).f1), .int .u16 ((rd_T46 l0 x4_1).f2), .int .u16 ((rd_T46 l0 x4_1).f3), .int .u16 ((rd_T46 l0 x4_1).f4)] 46 (0, 0))) := ⟨h1_⟩
             have n2_ : A0_ (w21.heap[gb789]? = some (.cells #[.int .i64 0, .int .i64 0, .bool false, .string (⟨#[]⟩ : ByteArray), .string (⟨#[]⟩ : ByteArray), .int .i64 0, .int .i64 0, .bool false] 28 (0, 0))) := ⟨h2_⟩
             have n3_ : A0_ (w.heap.size ≤ gb789) := ⟨h3_⟩
             have n4_ : A0_ (w.heap.size ≤ gb789) := ⟨h4_⟩
             have n5_ : A0_ (gb785 ≠ gb789) := ⟨h5_⟩
             have n6_ : A0_ (gb789 ≠ gb785) := ⟨h6_⟩
             have n7_ : A0_ (Below w.heap.size w w21) := ⟨h7_⟩
             clear HO_3
             clear BK785
             clear HB
             clear h0_ h1_ h2_ h3_ h4_ h5_ h6_ h7_
             have HO_3 := n0_
             have BK785 := n1_
             have BK789 := n2_
             have GW789 := n3_
             have GE789 := n4_
             have NB785_789 := n5_
             have NB789_785 := n6_
             have HB := n7_
             clear n0_ n1_ n2_ n3_ n4_ n5_ n6_ n7_
             have hHeld : w21.cell? ⟨gb785, 0, none⟩ = some (.int .u16 ((rd_T46 l0 x4_1).f0)) ∧ w21.cell? ⟨gb785, 1, none⟩ = some (.int .u16 ((rd_T46 l0 x4_1).f1)) ∧ w21.cell? ⟨gb785, 2, none⟩ = some (.int .u16 ((rd_T46 l0 x4_1).f2)) ∧ w21.cell? ⟨gb785, 3, none⟩ = some (.int .u16 ((rd_T46 l0 x4_1).f3)) ∧ w21.cell? ⟨gb785, 4, none⟩ = some (.int .u16 ((rd_T46 l0 x4_1).f4)) := hS_
             refine norm_ (a' := ?_) ?_ ?_
             rotate_left
             ·simp only [putAll, Act.put, s1_, s2_, s3_]
              rfl
             refine one_ (i := 15) (N := none) #[true, true, true, true, true, true, true, true, true, true, true, true, true, true, true, true] rfl rfl (one_of HT_.out (by kernel_rfl)) (by decide) (fun K hK => ?_)
             have hs22 : w21.cell? ⟨gb789, 0, none⟩ = some (.int .i64 0) := (kc_ BK789.out 0).trans rfl
             have hfs22 := kF_ BK789.out 0
             have hns22_0 := NB785_789.out
             have hms22_0 := NB789_785.out
             have hs23 : w21.cell? ⟨gb789, 1, none⟩ = some (.int .i64 0) := (kc_ BK789.out 1).trans rfl
             have hfs23 := kF_ BK789.out 1
             have hns23_0 := NB785_789.out
             have hms23_0 := NB789_785.out
             have hs24 : w21.cell? ⟨gb789, 2, none⟩ = some (.bool false) := (kc_ BK789.out 2).trans rfl
             have hfs24 := kF_ BK789.out 2
             have hns24_0 := NB785_789.out
             have hms24_0 := NB789_785.out
             have hs25 : w21.cell? ⟨gb789, 3, none⟩ = some (.string (⟨#[]⟩ : ByteArray)) := (kc_ BK789.out 3).trans rfl
             have hfs25 := kF_ BK789.out 3
             have hns25_0 := NB785_789.out
             have hms25_0 := NB789_785.out
             have hs26 : w21.cell? ⟨gb789, 4, none⟩ = some (.string (⟨#[]⟩ : ByteArray)) := (kc_ BK789.out 4).trans rfl
             have hfs26 := kF_ BK789.out 4
             have hns26_0 := NB785_789.out
             have hms26_0 := NB789_785.out
             have hs27 : w21.cell? ⟨gb789, 5, none⟩ = some (.int .i64 0) := (kc_ BK789.out 5).trans rfl
             have hfs27 := kF_ BK789.out 5
             have hns27_0 := NB785_789.out
             have hms27_0 := NB789_785.out
             have hs28 : w21.cell? ⟨gb789, 6, none⟩ = some (.int .i64 0) := (kc_ BK789.out 6).trans rfl
             have hfs28 := kF_ BK789.out 6
             have hns28_0 := NB785_789.out
             have hms28_0 := NB789_785.out
             have hs29 : w21.cell? ⟨gb789, 7, none⟩ = some (.bool false) := (kc_ BK789.out 7).trans rfl
             have hfs29 := kF_ BK789.out 7
             have hns29_0 := NB785_789.out
             have hms29_0 := NB789_785.out
             refine skip_ (w1 := ?_) (by rfl) rfl ?_ ?_
             rotate_left
             ·go_simp
              rfl
             refine hK.out _ _ ⟨((cell_far (p := ⟨gb789, _, none⟩) NB785_789.out _).trans (((cell_far (p := ⟨gb789, _, none⟩) NB785_789.out _).trans (((cell_far (p := ⟨gb789, _, none⟩) NB785_789.out _).trans (((cell_far (p := ⟨gb789, _, none⟩) NB785_789.out _).trans (((cell_far (p := ⟨gb789, _, none⟩) NB785_789.out _).trans (((cell_far (p := ⟨gb789, _, none⟩) NB785_789.out _).trans (((cell_far (p := ⟨gb789, _, none⟩) NB785_789.out _).trans (((cell_far (p := ⟨gb789, _, none⟩) NB785_789.out _).trans (hHeld.1)))))))))))))))), ((cell_far (p := ⟨gb789, _, none⟩) NB785_789.out _).trans (((cell_far (p := ⟨gb789, _, none⟩) NB785_789.out _).trans (((cell_far (p := ⟨gb789, _, none⟩) NB785_789.out _).trans (((cell_far (p := ⟨gb789, _, none⟩) NB785_789.out _).trans (((cell_far (p := ⟨gb789, _, none⟩) NB785_789.out _).trans (((cell_far (p := ⟨gb789, _, none⟩) NB785_789.out _).trans (((cell_far (p := ⟨gb789, _, none⟩) NB785_789.out _).trans (((cell_far (p := ⟨gb789, _, none⟩) NB785_789.out _).trans (hHeld.2.1)))))))))))))))), ((cell_far (p := ⟨gb789, _, none⟩) NB785_789.out _).trans (((cell_far (p := ⟨gb789, _, none⟩) NB785_789.out _).trans (((cell_far (p := ⟨gb789, _, none⟩) NB785_789.out _).trans (((cell_far (p := ⟨gb789, _, none⟩) NB785_789.out _).trans (((cell_far (p := ⟨gb789, _, none⟩) NB785_789.out _).trans (((cell_far (p := ⟨gb789, _, none⟩) NB785_789.out _).trans (((cell_far (p := ⟨gb789, _, none⟩) NB785_789.out _).trans (((cell_far (p := ⟨gb789, _, none⟩) NB785_789.out _).trans (hHeld.2.2.1)))))))))))))))), ((cell_far (p := ⟨gb789, _, none⟩) NB785_789.out _).trans (((cell_far (p := ⟨gb789, _, none⟩) NB785_789.out _).trans (((cell_far (p := ⟨gb789, _, none⟩) NB785_789.out _).trans (((cell_far (p := ⟨gb789, _, none⟩) NB785_789.out _).trans (((cell_far (p := ⟨gb789, _, none⟩) NB785_789.out _).trans (((cell_far (p := ⟨gb789, _, none⟩) NB785_789.out _).trans (((cell_far (p := ⟨gb789, _, none⟩) NB785_789.out _).trans (((cell_far (p := ⟨gb789, _, none⟩) NB785_789.out _).trans (hHeld.2.2.2.1)))))))))))))))), ((cell_far (p := ⟨gb789, _, none⟩) NB785_789.out _).trans (((cell_far (p := ⟨gb789, _, none⟩) NB785_789.out _).trans (((cell_far (p := ⟨gb789, _, none⟩) NB785_789.out _).trans (((cell_far (p := ⟨gb789, _, none⟩) NB785_789.out _).trans (((cell_far (p := ⟨gb789, _, none⟩) NB785_789.out _).trans (((cell_far (p := ⟨gb789, _, none⟩) NB785_789.out _).trans (((cell_far (p := ⟨gb789, _, none⟩) NB785_789.out _).trans (((cell_far (p := ⟨gb789, _, none⟩) NB785_789.out _).trans (hHeld.2.2.2.2))))))))))))))))⟩ (fun hHeld => ?_)
             clear hK K
             refine done_ (done_of HT_.out (by kernel_rfl)) ?_
             try go_wp2
             have pi793 : (0 ≤ ((ji14) : Int)) = True := eq_true (of_decide_eq_true aS_)
             have qi793 : ((ji14) < (y790.length : Int)) = True := eq_true (of_decide_eq_true aS_)
             have n0_ : A0_ (Kd.R k28 28 ((((((((w21.setCell ⟨gb789, 0, none⟩ (.int .i64 (wrap64 (Int.tmod ((rd_T46 l0 x4_1).f0) 4)))).setCell ⟨gb789, 1, none⟩ (.int .i64 x7_6)).setCell ⟨gb789, 2, none⟩ (.bool t786)).setCell ⟨gb789, 3, none⟩ (.string t787)).setCell ⟨gb789, 4, none⟩ (.string t788)).setCell ⟨gb789, 5, none⟩ (.int .i64 (wrap64 (Int.tmod ((rd_T46 l0 x4_1).f3) 60)))).setCell ⟨gb789, 6, none⟩ (.int .i64 0)).setCell ⟨gb789, 7, none⟩ (.bool ((Int.tmod ((rd_T46 l0 x4_1).f4) 8) == 7))) w.heap.size (fun k_ => k_ ≠ gb789) u3 x3_1) := ⟨by (with_reducible repeat (first | apply Kd.R_alloc | apply Kd.R_drewN | apply Kd.R_drew)); exact Kd.R_mono (Kd.R_far (p := ⟨gb789, 7, none⟩) (Kd.R_far (p := ⟨gb789, 6, none⟩) (Kd.R_far (p := ⟨gb789, 5, none⟩) (Kd.R_far (p := ⟨gb789, 4, none⟩) (Kd.R_far (p := ⟨gb789, 3, none⟩) (Kd.R_far (p := ⟨gb789, 2, none⟩) (Kd.R_far (p := ⟨gb789, 1, none⟩) (Kd.R_far (p := ⟨gb789, 0, none⟩) (Kd.R_mono HO_3.out (fun k_ hk => (⟨hk, hk⟩ : _ ∧ k_ ≠ gb789))) (fun _ hk => hk.2) (.int .i64 (wrap64 (Int.tmod ((rd_T46 l0 x4_1).f0) 4)))) (fun _ hk => hk.2) (.int .i64 x7_6)) (fun _ hk => hk.2) (.bool t786)) (fun _ hk => hk.2) (.string t787)) (fun _ hk => hk.2) (.string t788)) (fun _ hk => hk.2) (.int .i64 (wrap64 (Int.tmod ((rd_T46 l0 x4_1).f3) 60)))) (fun _ hk => hk.2) (.int .i64 0)) (fun _ hk => hk.2) (.bool ((Int.tmod ((rd_T46 l0 x4_1).f4) 8) == 7))) (fun _ hk => hk.1)⟩
             have n1_ : A0_ (((((((((w21.setCell ⟨gb789, 0, none⟩ (.int .i64 (wrap64 (Int.tmod ((rd_T46 l0 x4_1).f0) 4)))).setCell ⟨gb789, 1, none⟩ (.int .i64 x7_6)).setCell ⟨gb789, 2, none⟩ (.bool t786)).setCell ⟨gb789, 3, none⟩ (.string t787)).setCell ⟨gb789, 4, none⟩ (.string t788)).setCell ⟨gb789, 5, none⟩ (.int .i64 (wrap64 (Int.tmod ((rd_T46 l0 x4_1).f3) 60)))).setCell ⟨gb789, 6, none⟩ (.int .i64 0)).setCell ⟨gb789, 7, none⟩ (.bool ((Int.tmod ((rd_T46 l0 x4_1).f4) 8) == 7))).heap[gb785]? = some (.cells #[.int .u16 ((rd_T46 l0 x4_1).f0), .int .u16 ((rd_T46 l0 x4_1).f1), .int .u16 ((rd_T46 l0 x4_1).f2), .int .u16 ((rd_T46 l0 x4_1).f3), .int .u16 ((rd_T46 l0 x4_1).f4)] 46 (0, 0))) := ⟨by (with_reducible repeat (first | refine kN_ ?_ _ | refine kD_ ?_ | refine kA_ ?_ _)); refine blk_far ?_ NB785_789.out _; (with_reducible repeat (first | refine kN_ ?_ _ | refine kD_ ?_ | refine kA_ ?_ _)); refine blk_far ?_ NB785_789.out _; (with_reducible repeat (first | refine kN_ ?_ _ | refine kD_ ?_ | refine kA_ ?_ _)); refine blk_far ?_ NB785_789.out _; (with_reducible repeat (first | refine kN_ ?_ _ | refine kD_ ?_ | refine kA_ ?_ _)); refine blk_far ?_ NB785_789.out _; (with_reducible repeat (first | refine kN_ ?_ _ | refine kD_ ?_ | refine kA_ ?_ _)); refine blk_far ?_ NB785_789.out _; (with_reducible repeat (first | refine kN_ ?_ _ | refine kD_ ?_ | refine kA_ ?_ _)); refine blk_far ?_ NB785_789.out _; (with_reducible repeat (first | refine kN_ ?_ _ | refine kD_ ?_ | refine kA_ ?_ _)); refine blk_far ?_ NB785_789.out _; (with_reducible repeat (first | refine kN_ ?_ _ | refine kD_ ?_ | refine kA_ ?_ _)); refine blk_far ?_ NB785_789.out _; (with_reducible repeat (first | refine kN_ ?_ _ | refine kD_ ?_ | refine kA_ ?_ _)); exact BK785.out⟩
             have n2_ : A0_ (((((((((w21.setCell ⟨gb789, 0, none⟩ (.int .i64 (wrap64 (Int.tmod ((rd_T46 l0 x4_1).f0) 4)))).setCell ⟨gb789, 1, none⟩ (.int .i64 x7_6)).setCell ⟨gb789, 2, none⟩ (.bool t786)).setCell ⟨gb789, 3, none⟩ (.string t787)).setCell ⟨gb789, 4, none⟩ (.string t788)).setCell ⟨gb789, 5, none⟩ (.int .i64 (wrap64 (Int.tmod ((rd_T46 l0 x4_1).f3) 60)))).setCell ⟨gb789, 6, none⟩ (.int .i64 0)).setCell ⟨gb789, 7, none⟩ (.bool ((Int.tmod ((rd_T46 l0 x4_1).f4) 8) == 7))).heap[gb789]? = some (.cells #[.int .i64 (wrap64 (Int.tmod ((rd_T46 l0 x4_1).f0) 4)), .int .i64 x7_6, .bool t786, .string t787, .string t788, .int .i64 (wrap64 (Int.tmod ((rd_T46 l0 x4_1).f3) 60)), .int .i64 0, .bool ((Int.tmod ((rd_T46 l0 x4_1).f4) 8) == 7)] 28 (0, 0))) := ⟨by (with_reducible repeat (first | refine kN_ ?_ _ | refine kD_ ?_ | refine kA_ ?_ _)); refine kP_ (cs := #[.int .i64 (wrap64 (Int.tmod ((rd_T46 l0 x4_1).f0) 4)), .int .i64 x7_6, .bool t786, .string t787, .string t788, .int .i64 (wrap64 (Int.tmod ((rd_T46 l0 x4_1).f3) 60)), .int .i64 0, .bool false]) ?_ 7 _ rfl; (with_reducible repeat (first | refine kN_ ?_ _ | refine kD_ ?_ | refine kA_ ?_ _)); refine kP_ (cs := #[.int .i64 (wrap64 (Int.tmod ((rd_T46 l0 x4_1).f0) 4)), .int .i64 x7_6, .bool t786, .string t787, .string t788, .int .i64 (wrap64 (Int.tmod ((rd_T46 l0 x4_1).f3) 60)), .int .i64 0, .bool false]) ?_ 6 _ rfl; (with_reducible repeat (first | refine kN_ ?_ _ | refine kD_ ?_ | refine kA_ ?_ _)); refine kP_ (cs := #[.int .i64 (wrap64 (Int.tmod ((rd_T46 l0 x4_1).f0) 4)), .int .i64 x7_6, .bool t786, .string t787, .string t788, .int .i64 0, .int .i64 0, .bool false]) ?_ 5 _ rfl; (with_reducible repeat (first | refine kN_ ?_ _ | refine kD_ ?_ | refine kA_ ?_ _)); refine kP_ (cs := #[.int .i64 (wrap64 (Int.tmod ((rd_T46 l0 x4_1).f0) 4)), .int .i64 x7_6, .bool t786, .string t787, .string (⟨#[]⟩ : ByteArray), .int .i64 0, .int .i64 0, .bool false]) ?_ 4 _ rfl; (with_reducible repeat (first | refine kN_ ?_ _ | refine kD_ ?_ | refine kA_ ?_ _)); refine kP_ (cs := #[.int .i64 (wrap64 (Int.tmod ((rd_T46 l0 x4_1).f0) 4)), .int .i64 x7_6, .bool t786, .string (⟨#[]⟩ : ByteArray), .string (⟨#[]⟩ : ByteArray), .int .i64 0, .int .i64 0, .bool false]) ?_ 3 _ rfl; (with_reducible repeat (first | refine kN_ ?_ _ | refine kD_ ?_ | refine kA_ ?_ _)); refine kP_ (cs := #[.int .i64 (wrap64 (Int.tmod ((rd_T46 l0 x4_1).f0) 4)), .int .i64 x7_6, .bool false, .string (⟨#[]⟩ : ByteArray), .string (⟨#[]⟩ : ByteArray), .int .i64 0, .int .i64 0, .bool false]) ?_ 2 _ rfl; (with_reducible repeat (first | refine kN_ ?_ _ | refine kD_ ?_ | refine kA_ ?_ _)); refine kP_ (cs := #[.int .i64 (wrap64 (Int.tmod ((rd_T46 l0 x4_1).f0) 4)), .int .i64 0, .bool false, .string (⟨#[]⟩ : ByteArray), .string (⟨#[]⟩ : ByteArray), .int .i64 0, .int .i64 0, .bool false]) ?_ 1 _ rfl; (with_reducible repeat (first | refine kN_ ?_ _ | refine kD_ ?_ | refine kA_ ?_ _)); refine kP_ (cs := #[.int .i64 0, .int .i64 0, .bool false, .string (⟨#[]⟩ : ByteArray), .string (⟨#[]⟩ : ByteArray), .int .i64 0, .int .i64 0, .bool false]) ?_ 0 _ rfl; (with_reducible repeat (first | refine kN_ ?_ _ | refine kD_ ?_ | refine kA_ ?_ _)); exact BK789.out⟩
             have n3_ : A0_ (Below w.heap.size w ((((((((w21.setCell ⟨gb789, 0, none⟩ (.int .i64 (wrap64 (Int.tmod ((rd_T46 l0 x4_1).f0) 4)))).setCell ⟨gb789, 1, none⟩ (.int .i64 x7_6)).setCell ⟨gb789, 2, none⟩ (.bool t786)).setCell ⟨gb789, 3, none⟩ (.string t787)).setCell ⟨gb789, 4, none⟩ (.string t788)).setCell ⟨gb789, 5, none⟩ (.int .i64 (wrap64 (Int.tmod ((rd_T46 l0 x4_1).f3) 60)))).setCell ⟨gb789, 6, none⟩ (.int .i64 0)).setCell ⟨gb789, 7, none⟩ (.bool ((Int.tmod ((rd_T46 l0 x4_1).f4) 8) == 7)))) := ⟨xB2_ HB GE785 GE789⟩
             (try clear HO_3)
             (try clear BK785)
             (try clear BK789)
             (try clear HB)
             generalize ((((((((w21.setCell ⟨gb789, 0, none⟩ (.int .i64 (wrap64 (Int.tmod ((rd_T46 l0 x4_1).f0) 4)))).setCell ⟨gb789, 1, none⟩ (.int .i64 x7_6)).setCell ⟨gb789, 2, none⟩ (.bool t786)).setCell ⟨gb789, 3, none⟩ (.string t787)).setCell ⟨gb789, 4, none⟩ (.string t788)).setCell ⟨gb789, 5, none⟩ (.int .i64 (wrap64 (Int.tmod ((rd_T46 l0 x4_1).f3) 60)))).setCell ⟨gb789, 6, none⟩ (.int .i64 0)).setCell ⟨gb789, 7, none⟩ (.bool ((Int.tmod ((rd_T46 l0 x4_1).f4) 8) == 7))) = w30 at n0_ n1_ n2_ n3_ ⊢
             have HO_3 := n0_
             have BK785 := n1_
             have BK789 := n2_
             have HB := n3_
             clear n0_ n1_ n2_ n3_
             have n0_ := A0_.mk (Kd.R_drew HO_3.out)
             have n1_ := A0_.mk (kD_ BK785.out)
             have n2_ := A0_.mk (kD_ BK789.out)
             have n3_ := A0_.mk (b1_ HB.out)
             clear HO_3
             clear BK785
             clear BK789
             clear HB
             have HO_3 := n0_
             have BK785 := n1_
             have BK789 := n2_
             have HB := n3_
             clear n0_ n1_ n2_ n3_
             refine start_ (n := 16) (S := fun w' => w'.cell? ⟨gb789, 0, none⟩ = some (.int .i64 (wrap64 (Int.tmod ((rd_T46 l0 x4_1).f0) 4))) ∧ w'.cell? ⟨gb789, 1, none⟩ = some (.int .i64 x7_6) ∧ w'.cell? ⟨gb789, 2, none⟩ = some (.bool t786) ∧ w'.cell? ⟨gb789, 3, none⟩ = some (.string t787) ∧ w'.cell? ⟨gb789, 4, none⟩ = some (.string t788) ∧ w'.cell? ⟨gb789, 5, none⟩ = some (.int .i64 (wrap64 (Int.tmod ((rd_T46 l0 x4_1).f3) 60))) ∧ w'.cell? ⟨gb789, 6, none⟩ = some (.int .i64 0) ∧ w'.cell? ⟨gb789, 7, none⟩ = some (.bool ((Int.tmod ((rd_T46 l0 x4_1).f4) 8) == 7)) ∧ w'.cell? ⟨gb785, 0, none⟩ = some (.int .u16 ((rd_T46 l0 x4_1).f0)) ∧ w'.cell? ⟨gb785, 1, none⟩ = some (.int .u16 ((rd_T46 l0 x4_1).f1)) ∧ w'.cell? ⟨gb785, 2, none⟩ = some (.int .u16 ((rd_T46 l0 x4_1).f2)) ∧ w'.cell? ⟨gb785, 3, none⟩ = some (.int .u16 ((rd_T46 l0 x4_1).f3)) ∧ w'.cell? ⟨gb785, 4, none⟩ = some (.int .u16 ((rd_T46 l0 x4_1).f4))) (ds := [15]) #[false, false, false, false, false, false, false, false, false, false, false, false, false, false, false, false] (by kernel_rfl) rfl rfl ⟨(kc_ BK789.out 0).trans rfl, (kc_ BK789.out 1).trans rfl, (kc_ BK789.out 2).trans rfl, (kc_ BK789.out 3).trans rfl, (kc_ BK789.out 4).trans rfl, (kc_ BK789.out 5).trans rfl, (kc_ BK789.out 6).trans rfl, (kc_ BK789.out 7).trans rfl, (kc_ BK785.out 0).trans rfl, (kc_ BK785.out 1).trans rfl, (kc_ BK785.out 2).trans rfl, (kc_ BK785.out 3).trans rfl, (kc_ BK785.out 4).trans rfl⟩ (fun hHeld => ?_); refine with_tabW insolvencylaw0_Obligations.tab10 insolvencylaw0_Obligations.bits10 (fun HT_ HW_ => ?_)
             generalize w30.drew = w31 at HO_3 BK785 BK789 HB hHeld ⊢
             refine pure_ (i := 0) (N := some 50) (v := ?_) (a' := ?_) #[true, false, false, false, false, false, false, false, false, false, false, false, false, false, false, false] rfl rfl (any_of HT_.out (by kernel_rfl)) (fun _ _ _ h => h) (Or.inl ⟨by rfl, ?_⟩) ?_ ?_
             rotate_left
             ·intro w'
              go_simp
              with_reducible rfl
             rotate_left
             ·simp only [Act.put, s1_, s2_, s3_, i64_w, i32_w]
              rfl
             refine pure_ (i := 2) (N := some 52) (v := ?_) (a' := ?_) #[true, false, true, false, false, false, false, false, false, false, false, false, false, false, false, false] rfl rfl (any_of HT_.out (by kernel_rfl)) (fun _ _ _ h => h) (Or.inl ⟨by rfl, ?_⟩) ?_ ?_
             rotate_left
             ·intro w'
              go_simp
              with_reducible rfl
             rotate_left
             ·simp only [Act.put, s1_, s2_, s3_, i64_w, i32_w]
              rfl
             refine pure_ (i := 8) (N := some 58) (v := ?_) (a' := ?_) #[true, false, true, false, false, false, false, false, true, false, false, false, false, false, false, false] rfl rfl (any_of HT_.out (by kernel_rfl)) (fun _ _ _ h => h) (Or.inl ⟨by rfl, ?_⟩) ?_ ?_
             rotate_left
             ·intro w'
              go_simp
              with_reducible rfl
             rotate_left
             ·simp only [Act.put, s1_, s2_, s3_, i64_w, i32_w]
              rfl
             refine take_ (i := 1) (N := some 51) (v := ?_) (a' := ?_) #[true, true, true, false, false, false, false, false, true, false, false, false, false, false, false, false] rfl rfl (take_ofW HT_.out HW_.out (by kernel_rfl)) (fun _ _ _ h => h) (Or.inl ⟨by rfl, ?_⟩) hHeld ?_ ?_
             rotate_left
             ·rintro w' ⟨s0, s1, s2, s3, s4, s5, s6, s7, s8, s9, s10, s11, s12⟩
              go_simp
              with_reducible rfl
             rotate_left
             ·simp only [Act.put, s1_, s2_, s3_, i64_w, i32_w]
              rfl
             refine take_ (i := 3) (N := some 53) (v := ?_) (a' := ?_) #[true, true, true, true, false, false, false, false, true, false, false, false, false, false, false, false] rfl rfl (take_ofW HT_.out HW_.out (by kernel_rfl)) (fun _ _ _ h => h) (Or.inl ⟨by rfl, ?_⟩) hHeld ?_ ?_
             rotate_left
             ·rintro w' ⟨s0, s1, s2, s3, s4, s5, s6, s7, s8, s9, s10, s11, s12⟩
              go_simp
              with_reducible rfl
             rotate_left
             ·simp only [Act.put, s1_, s2_, s3_, i64_w, i32_w]
              rfl
             refine pure_ (i := 4) (N := some 54) (v := ?_) (a' := ?_) #[true, true, true, true, true, false, false, false, true, false, false, false, false, false, false, false] rfl rfl (any_of HT_.out (by kernel_rfl)) (fun _ _ _ h => h) (Or.inl ⟨by rfl, ?_⟩) ?_ ?_
             rotate_left
             ·intro w'
              go_simp
              with_reducible rfl
             rotate_left
             ·simp only [Act.put, s1_, s2_, s3_, i64_w, i32_w]
              rfl
             refine pure_ (i := 5) (N := some 55) (v := ?_) (a' := ?_) #[true, true, true, true, true, true, false, false, true, false, false, false, false, false, false, false] rfl rfl (any_of HT_.out (by kernel_rfl)) (fun _ _ _ h => h) (Or.inl ⟨by rfl, ?_⟩) ?_ ?_
             rotate_left
             ·intro w'
              go_simp
              with_reducible rfl
             rotate_left
             ·simp only [Act.put, s1_, s2_, s3_, i64_w, i32_w]
              rfl
             refine pure_ (i := 6) (N := some 56) (v := ?_) (a' := ?_) #[true, true, true, true, true, true, true, false, true, false, false, false, false, false, false, false] rfl rfl (any_of HT_.out (by kernel_rfl)) (fun _ _ _ h => h) (Or.inl ⟨by rfl, ?_⟩) ?_ ?_
             rotate_left
             ·intro w'
              go_simp
              with_reducible rfl
             rotate_left
             ·simp only [Act.put, s1_, s2_, s3_, i64_w, i32_w]
              rfl
             refine take_ (i := 9) (N := some 59) (v := ?_) (a' := ?_) #[true, true, true, true, true, true, true, false, true, true, false, false, false, false, false, false] rfl rfl (take_ofW HT_.out HW_.out (by kernel_rfl)) (fun _ _ _ h => h) (Or.inl ⟨by rfl, ?_⟩) hHeld ?_ ?_
             rotate_left
             ·rintro w' ⟨s0, s1, s2, s3, s4, s5, s6, s7, s8, s9, s10, s11, s12⟩
              go_simp
              with_reducible rfl
             rotate_left
             ·simp only [Act.put, s1_, s2_, s3_, i64_w, i32_w]
              rfl
             refine pure_ (i := 10) (N := some 60) (v := ?_) (a' := ?_) #[true, true, true, true, true, true, true, false, true, true, true, false, false, false, false, false] rfl rfl (any_of HT_.out (by kernel_rfl)) (fun _ _ _ h => h) (Or.inl ⟨by rfl, ?_⟩) ?_ ?_
             rotate_left
             ·intro w'
              go_simp
              with_reducible rfl
             rotate_left
             ·simp only [Act.put, s1_, s2_, s3_, i64_w, i32_w]
              rfl
             refine one_ (i := 7) (N := some 57) #[true, true, true, true, true, true, true, true, true, true, true, false, false, false, false, false] rfl rfl (one_of HT_.out (by kernel_rfl)) (by decide) (fun K hK => ?_)
             refine Kd.R_lit_step (Kd.int .i64) _ 3 ?hg (N := 57) ?hd (xs := ([0, 0, 0, wrap64 (Int.tmod (IntKind.u16.wrap (Int.tdiv ((rd_T46 l0 x4_1).f4) 8)) 50)] : List Int)) (inner := [.int .i64 0, .int .i64 0, .int .i64 0, .int .i64 (wrap64 (Int.tmod (IntKind.u16.wrap (Int.tdiv ((rd_T46 l0 x4_1).f4) 8)) 50))]) (ok := fun _ => True) (okp := fun _ => True) ?hr ?hp (fun _ hk => hk) trivial (Below.refl _ _) (Nat.le_refl _) (by simp) ?_; (case hd => rfl); (case hg => rfl); (case hr => first | (go_simp; done) | (go_simp; rfl)); (case hp => exact (Reps.one (show Kd.M (Kd.int .i64) _ _ _ 0 [.int .i64 0] from rfl) (Reps.one (show Kd.M (Kd.int .i64) _ _ _ 0 [.int .i64 0] from rfl) (Reps.one (show Kd.M (Kd.int .i64) _ _ _ 0 [.int .i64 0] from rfl) (Reps.one (show Kd.M (Kd.int .i64) _ _ _ (wrap64 (Int.tmod (IntKind.u16.wrap (Int.tdiv ((rd_T46 l0 x4_1).f4) 8)) 50)) [.int .i64 (wrap64 (Int.tmod (IntKind.u16.wrap (Int.tdiv ((rd_T46 l0 x4_1).f4) 8)) 50))] from rfl) (Reps.none _ _))))))
             intro v791 w32 ho33 hb hg_ hnew_
             clear hg_ hnew_
             (first | rw [← Ny790.out] at ho33 | (simp only [Int.reduceToNat] at ho33; rw [← Ny790.out] at ho33))
             have n0_ := A0_.mk (Kd.R_below (xR_ HO_3.out) hb)
             have n1_ := A0_.mk (Kd.R_lower ho33 (bZ_ (xB2_ HB GE785 GE789)))
             have n2_ := A0_.mk (kB_ (g := gb785) (o := .cells #[.int .u16 ((rd_T46 l0 x4_1).f0), .int .u16 ((rd_T46 l0 x4_1).f1), .int .u16 ((rd_T46 l0 x4_1).f2), .int .u16 ((rd_T46 l0 x4_1).f3), .int .u16 ((rd_T46 l0 x4_1).f4)] 46 (0, 0)) (xK_ BK785.out) hb)
             have n3_ := A0_.mk (kB_ (g := gb789) (o := .cells #[.int .i64 (wrap64 (Int.tmod ((rd_T46 l0 x4_1).f0) 4)), .int .i64 x7_6, .bool t786, .string t787, .string t788, .int .i64 (wrap64 (Int.tmod ((rd_T46 l0 x4_1).f3) 60)), .int .i64 0, .bool ((Int.tmod ((rd_T46 l0 x4_1).f4) 8) == 7)] 28 (0, 0)) (xK_ BK789.out) hb)
             have n4_ := A0_.mk (bT_ (xB2_ HB GE785 GE789) hb)
             clear HO_3
             clear BK785
             clear BK789
             clear HB
             have HO_3 := n0_
             have HO792 := n1_
             have BK785 := n2_
             have BK789 := n3_
             have HB := n4_
             clear n0_ n1_ n2_ n3_ n4_
             clear hb ho33
             obtain ⟨Ao34, co34, eo34⟩ := Kd.R_slice HO792.out
             subst eo34
             obtain ⟨ado34, fo34, _⟩ := Kd.at_int (Kd.R_reads' HO792.out).2.2 0 (by decide) (by rw [Ny790.out]; simp)
             cases fo34
             refine hK.out _ _ ⟨(kc_ BK789.out 0).trans rfl, (kc_ BK789.out 1).trans rfl, (kc_ BK789.out 2).trans rfl, (kc_ BK789.out 3).trans rfl, (kc_ BK789.out 4).trans rfl, (kc_ BK789.out 5).trans rfl, (kc_ BK789.out 6).trans rfl, (kc_ BK789.out 7).trans rfl, (kc_ BK785.out 0).trans rfl, (kc_ BK785.out 1).trans rfl, (kc_ BK785.out 2).trans rfl, (kc_ BK785.out 3).trans rfl, (kc_ BK785.out 4).trans rfl⟩ (fun hHeld => ?_)
             clear hK K
             refine norm_ (a' := ?_) ?_ ?_
             rotate_left
             ·show Act.put _ (some 57) _ = _
              simp only [Act.put, s1_, s2_, s3_, i64_w, i32_w]
              rfl
             refine pure_ (i := 11) (N := some 61) (v := ?_) (a' := ?_) #[true, true, true, true, true, true, true, true, true, true, true, true, false, false, false, false] rfl rfl (any_of HT_.out (by kernel_rfl)) (fun _ _ _ h => h) (Or.inl ⟨by rfl, ?_⟩) ?_ ?_
             rotate_left
             ·intro w'
              go_simp
              with_reducible rfl
             rotate_left
             ·simp only [Act.put, s1_, s2_, s3_, i64_w, i32_w]
              rfl
             refine one_ (i := 12) (N := some 62) #[true, true, true, true, true, true, true, true, true, true, true, true, true, false, false, false] rfl rfl (one_of HT_.out (by kernel_rfl)) (by decide) (fun K hK => ?_)
             (have p793 : 0 ≤ ((ji14) : Int) := of_decide_eq_true aS_; have q793 : (ji14) < (y790.length : Int) := of_decide_eq_true aS_; obtain ⟨ad793, e793, hx793_0⟩ := Kd.at_int (Kd.R_reads' HO792.out).2.2 (ji14) p793 q793; obtain rfl : ado34 = ad793 := (by injection e793))
             refine value_ (w1 := ?_) (v := ?_) (by rfl) rfl ?_ ?_
             rotate_left 2
             ·go_simp
              constructor
              ·rfl
              ·rfl
             clear hx793_0
             refine hK.out _ _ ⟨(kc_ BK789.out 0).trans rfl, (kc_ BK789.out 1).trans rfl, (kc_ BK789.out 2).trans rfl, (kc_ BK789.out 3).trans rfl, (kc_ BK789.out 4).trans rfl, (kc_ BK789.out 5).trans rfl, (kc_ BK789.out 6).trans rfl, (kc_ BK789.out 7).trans rfl, (kc_ BK785.out 0).trans rfl, (kc_ BK785.out 1).trans rfl, (kc_ BK785.out 2).trans rfl, (kc_ BK785.out 3).trans rfl, (kc_ BK785.out 4).trans rfl⟩ (fun hHeld => ?_)
             clear hK K
             refine norm_ (a' := ?_) ?_ ?_
             rotate_left
             ·show Act.put _ (some 62) _ = _
              simp only [Act.put, s1_, s2_, s3_, i64_w, i32_w]
              rfl
             refine pure_ (i := 13) (N := some 63) (v := ?_) (a' := ?_) #[true, true, true, true, true, true, true, true, true, true, true, true, true, true, false, false] rfl rfl (any_of HT_.out (by kernel_rfl)) (fun _ _ _ h => h) (Or.inl ⟨by rfl, ?_⟩) ?_ ?_
             rotate_left
             ·intro w'
              go_simp
              with_reducible rfl
             rotate_left
             ·simp only [Act.put, s1_, s2_, s3_, i64_w, i32_w]
              rfl
             refine pure_ (i := 14) (N := some 64) (v := ?_) (a' := ?_) #[true, true, true, true, true, true, true, true, true, true, true, true, true, true, true, false] rfl rfl (any_of HT_.out (by kernel_rfl)) (fun _ _ _ h => h) (Or.inl ⟨by rfl, ?_⟩) ?_ ?_
             rotate_left
             ·intro w'
              go_simp
              with_reducible rfl
             rotate_left
             ·simp only [Act.put, s1_, s2_, s3_, i64_w, i32_w]
              rfl
             refine last_ (i := 15) (N := none) #[true, true, true, true, true, true, true, true, true, true, true, true, true, true, true, true] rfl rfl (one_of HT_.out (by kernel_rfl)) (by decide) (fun K hK => ?_)
             have hs35 : w32.cell? ⟨gb789, 6, none⟩ = some (.int .i64 0) := (kc_ BK789.out 6).trans rfl
             have hfs35 := kF_ BK789.out 6
             have hns35_0 := NB785_789.out
             have hms35_0 := NB789_785.out
             refine skip_ (w1 := ?_) (by rfl) rfl ?_ ?_
             rotate_left
             ·go_simp
              rfl
             refine hK.out _ _ ?_
             clear hK K
             refine done_ (done_of HT_.out (by kernel_rfl)) ?_
             have hnb36 := NB789_785.out
             have hnc36 := NB785_789.out
             have hcz37_0 : w32.cell? ⟨gb789, 0, none⟩ = some (.int .i64 (wrap64 (Int.tmod ((rd_T46 l0 x4_1).f0) 4))) := (kc_ BK789.out 0).trans rfl
             have hcz37_1 : w32.cell? ⟨gb789, 1, none⟩ = some (.int .i64 x7_6) := (kc_ BK789.out 1).trans rfl
             have hcz37_2 : w32.cell? ⟨gb789, 2, none⟩ = some (.bool t786) := (kc_ BK789.out 2).trans rfl
             have hcz37_3 : w32.cell? ⟨gb789, 3, none⟩ = some (.string t787) := (kc_ BK789.out 3).trans rfl
             have hcz37_4 : w32.cell? ⟨gb789, 4, none⟩ = some (.string t788) := (kc_ BK789.out 4).trans rfl
             have hcz37_5 : w32.cell? ⟨gb789, 5, none⟩ = some (.int .i64 (wrap64 (Int.tmod ((rd_T46 l0 x4_1).f3) 60))) := (kc_ BK789.out 5).trans rfl
             have hcz37_6 : w32.cell? ⟨gb789, 6, none⟩ = some (.int .i64 0) := (kc_ BK789.out 6).trans rfl
             have hcz37_7 : w32.cell? ⟨gb789, 7, none⟩ = some (.bool ((Int.tmod ((rd_T46 l0 x4_1).f4) 8) == 7)) := (kc_ BK789.out 7).trans rfl
             have hfz37_0 := kF_ BK789.out 0
             have hfz37_1 := kF_ BK789.out 1
             have hfz37_2 := kF_ BK789.out 2
             have hfz37_3 := kF_ BK789.out 3
             have hfz37_4 := kF_ BK789.out 4
             have hfz37_5 := kF_ BK789.out 5
             have hfz37_6 := kF_ BK789.out 6
             have hfz37_7 := kF_ BK789.out 7
             try go_wp2_with (first | ((with_reducible refine gate_builtin (b := .append) (xs := #[.tmp 65, .tmp 67]) rfl ?_); at_builtin; refine Kd.R_append k28 (w0 := w) w.heap.size rfl (.tmp 65) (.tmp 67) 22 28 (.agg #[(.int .i64 0), (.int .i64 0), (.bool false), (.string ⟨#[]⟩), (.string ⟨#[]⟩), (.int .i64 0), (.int .i64 0), (.bool false)]) 80 rfl Tryd.underlying22 info28 rfl (by decide) (by omega) u3 x3_1 (⟨(wrap64 (Int.tmod ((rd_T46 l0 x4_1).f0) 4)), x7_6, (⟨t786, t787, t788⟩ : S26), wrap64 (Int.tmod ((rd_T46 l0 x4_1).f3) 60), wrap64 ((wrap64 (Int.tmod ((rd_T46 l0 x4_1).f3) 60)) + (rd y790 (ji14))), ((Int.tmod ((rd_T46 l0 x4_1).f4) 8) == 7)⟩ : S28) [.int .i64 (wrap64 (Int.tmod ((rd_T46 l0 x4_1).f0) 4)), .int .i64 x7_6, .bool t786, .string t787, .string t788, .int .i64 (wrap64 (Int.tmod ((rd_T46 l0 x4_1).f3) 60)), .int .i64 (wrap64 ((wrap64 (Int.tmod ((rd_T46 l0 x4_1).f3) 60)) + (rd y790 (ji14)))), .bool ((Int.tmod ((rd_T46 l0 x4_1).f4) 8) == 7)] (fun k_ => k_ ≠ gb789) (fun _ => False) rfl (by first | (go_simp; done) | (go_simp; rfl)) ?aP (fun _ hk => hk.elim) ?aF ?aO ?aB ?aS ?aL ?_; (case aP => exact k28_mkM _ _ _ (⟨(wrap64 (Int.tmod ((rd_T46 l0 x4_1).f0) 4)), x7_6, (⟨t786, t787, t788⟩ : S26), wrap64 (Int.tmod ((rd_T46 l0 x4_1).f3) 60), wrap64 ((wrap64 (Int.tmod ((rd_T46 l0 x4_1).f3) 60)) + (rd y790 (ji14))), ((Int.tmod ((rd_T46 l0 x4_1).f4) 8) == 7)⟩ : S28)); (case aB => exact (xB2_ HB GE785 GE789)); (case aF => exact (fun k_ hk => Kd.freshB (g := gb789) (o := .cells #[.int .i64 (wrap64 (Int.tmod ((rd_T46 l0 x4_1).f0) 4)), .int .i64 x7_6, .bool t786, .string t787, .string t788, .int .i64 (wrap64 (Int.tmod ((rd_T46 l0 x4_1).f3) 60)), .int .i64 (wrap64 ((wrap64 (Int.tmod ((rd_T46 l0 x4_1).f3) 60)) + (rd y790 (ji14)))), .bool ((Int.tmod ((rd_T46 l0 x4_1).f4) 8) == 7)] 28 (0, 0)) (by (with_reducible repeat (first | refine kN_ ?_ _ | refine kD_ ?_ | refine kA_ ?_ _)); refine kP_ (cs := #[.int .i64 (wrap64 (Int.tmod ((rd_T46 l0 x4_1).f0) 4)), .int .i64 x7_6, .bool t786, .string t787, .string t788, .int .i64 (wrap64 (Int.tmod ((rd_T46 l0 x4_1).f3) 60)), .int .i64 0, .bool ((Int.tmod ((rd_T46 l0 x4_1).f4) 8) == 7)]) ?_ 6 _ rfl; (with_reducible repeat (first | refine kN_ ?_ _ | refine kD_ ?_ | refine kA_ ?_ _)); exact BK789.out) k_ hk)); (case aO => exact (by (with_reducible repeat (first | apply Kd.R_alloc | apply Kd.R_drewN | apply Kd.R_drew)); exact Kd.R_mono (Kd.R_far (p := ⟨gb789, 6, none⟩) (Kd.R_mono HO_3.out (fun k_ hk => (⟨hk, hk⟩ : _ ∧ k_ ≠ gb789))) (fun _ hk => hk.2) (.int .i64 (wrap64 ((wrap64 (Int.tmod ((rd_T46 l0 x4_1).f3) 60)) + (rd y790 (ji14)))))) (fun _ hk => hk.1))); (case aS => exact (bZ_ (xB2_ HB GE785 GE789))); (case aL => have := LMc17.out; omega); intro v795 w38 ho hb hg hat; rw [← Ny794.out] at ho; have n0_ := A0_.mk (blk_grown (g := gb785) (o := .cells #[.int .u16 ((rd_T46 l0 x4_1).f0), .int .u16 ((rd_T46 l0 x4_1).f1), .int .u16 ((rd_T46 l0 x4_1).f2), .int .u16 ((rd_T46 l0 x4_1).f3), .int .u16 ((rd_T46 l0 x4_1).f4)] 46 (0, 0)) (by (with_reducible repeat (first | refine kN_ ?_ _ | refine kD_ ?_ | refine kA_ ?_ _)); refine blk_far ?_ NB785_789.out _; (with_reducible repeat (first | refine kN_ ?_ _ | refine kD_ ?_ | refine kA_ ?_ _)); exact BK785.out) hg (Kd.R_ne HO_3.out BK785.out (by decide))); have n1_ := A0_.mk (blk_grown (g := gb789) (o := .cells #[.int .i64 (wrap64 (Int.tmod ((rd_T46 l0 x4_1).f0) 4)), .int .i64 x7_6, .bool t786, .string t787, .string t788, .int .i64 (wrap64 (Int.tmod ((rd_T46 l0 x4_1).f3) 60)), .int .i64 (wrap64 ((wrap64 (Int.tmod ((rd_T46 l0 x4_1).f3) 60)) + (rd y790 (ji14)))), .bool ((Int.tmod ((rd_T46 l0 x4_1).f4) 8) == 7)] 28 (0, 0)) (by (with_reducible repeat (first | refine kN_ ?_ _ | refine kD_ ?_ | refine kA_ ?_ _)); refine kP_ (cs := #[.int .i64 (wrap64 (Int.tmod ((rd_T46 l0 x4_1).f0) 4)), .int .i64 x7_6, .bool t786, .string t787, .string t788, .int .i64 (wrap64 (Int.tmod ((rd_T46 l0 x4_1).f3) 60)), .int .i64 0, .bool ((Int.tmod ((rd_T46 l0 x4_1).f4) 8) == 7)]) ?_ 6 _ rfl; (with_reducible repeat (first | refine kN_ ?_ _ | refine kD_ ?_ | refine kA_ ?_ _)); exact BK789.out) hg (Kd.R_away HO_3.out (fun _ hk => hk))); have n2_ := A0_.mk (Kd.R_over' (by (with_reducible repeat (first | apply Kd.R_alloc | apply Kd.R_drewN | apply Kd.R_drew)); exact (Kd.R_mono (Kd.R_far (p := ⟨gb789, 6, none⟩) (Kd.R_types HO792.out BK789.out (by decide)) (fun _ hk => hk.2) (.int .i64 (wrap64 ((wrap64 (Int.tmod ((rd_T46 l0 x4_1).f3) 60)) + (rd y790 (ji14)))))) (fun _ h_ => h_.1))) (Kd.R_typed (by (with_reducible repeat (first | apply Kd.R_alloc | apply Kd.R_drewN | apply Kd.R_drew)); exact (Kd.R_mono (Kd.R_far (p := ⟨gb789, 6, none⟩) (Kd.R_mono HO_3.out (fun k_ hk => (⟨hk, hk⟩ : _ ∧ k_ ≠ gb789))) (fun _ hk => hk.2) (.int .i64 (wrap64 ((wrap64 (Int.tmod ((rd_T46 l0 x4_1).f3) 60)) + (rd y790 (ji14)))))) (fun _ h_ => h_.1)))) (by decide) hg); have n3_ := A0_.mk (hb); have n4_ := A0_.mk (ho); clear BK785 BK789 HO792 HB HO_3; have BK785 := n0_; have BK789 := n1_; have HO792 := n2_; have HB := n3_; have HO796 := n4_; clear n0_ n1_ n2_ n3_ n4_; clear ho hb hg hat))
             (try simp only [add_plain])
             go_roundg kj6
             case measure => have := HK1.out; have := HJ1.out; have := HJ6.out; omega
             case rel => exact ⟨(y794), (wrap64 (x4_1 + 1)), (by first | rfl | (simp; done) | (simp [*]; done)), H', ⟨by have := HK1.out; have := HJ1.out; have := HJ6.out; omega⟩, ⟨by (with_reducible repeat (first | apply Kd.R_alloc | apply Kd.R_drewN | apply Kd.R_drew)); exact Kd.R_mono HO796.out (fun _ hk => trivial)⟩, ⟨xB2_ HB GE785 GE789⟩⟩
            ·rw [if_neg c17] at H
             exact absurd H (by simp)
           ·rw [if_neg c16] at H
            exact absurd H (by simp)
          ·rw [if_neg c15] at H
           exact absurd H (by simp)
       ·rw [if_neg c6] at H
        exact absurd H (by simp)
      ·rw [if_neg c5] at H
       exact absurd H (by simp)
     ·replace c4 := Bool.eq_false_iff.mpr c4
      subst c4
      have H1 : (some x3_1) = some r := by rw [if_neg (show ¬ (false = true) by decide)] at H; exact H
      clear H
      have H := H1
      clear H1
      obtain rfl := Option.some.inj H
      go_wp2
      go_ret
      exact ⟨_, rE_, by (with_reducible repeat (first | apply Kd.R_alloc | apply Kd.R_drewN | apply Kd.R_drew)); exact HO_3.out, xB_ HB⟩
def strings_trimLeftByte.l0 : Nat → ByteArray → Int → Option (ByteArray)
 | 0, _, _ => none
 | k + 1, x0, x1 => if (x0.size : Int) > 0 then (if 0 < (x0.size : Int) then (if (bt x0 0) = x1 then (if 1 ≤ (x0.size : Int) then (strings_trimLeftByte.l0 k (x0.extract 1 x0.size) x1) else (none)) else (some x0)) else (none)) else (some x0)
def strings_trimLeftByte.f (k : Nat) (a0 : ByteArray) (a1 : Int) : Option (ByteArray) := strings_trimLeftByte.l0 k a0 a1
theorem strings_trimLeftByte.mono_l : ∀ k, (∀ y0 y1, LeO (strings_trimLeftByte.l0 k y0 y1) (strings_trimLeftByte.l0 (k + 1) y0 y1))
 | 0 => fun _ _ r h => by simp [strings_trimLeftByte.l0] at h
 | k + 1 => by
  have ih0 := strings_trimLeftByte.mono_l k
  ·intro y0 y1
   unfold strings_trimLeftByte.l0
   repeat' first
   | (with_reducible exact ih0 _ _)
   | (with_reducible exact LeO.refl _)
   | (with_reducible exact LeO.none _)
   | (with_reducible refine LeO.ite ?_ ?_)
   | (with_reducible refine LeO.bind ?_ (fun _ => ?_))
theorem strings_trimLeftByte.mono : ∀ a0 a1 k, LeO (strings_trimLeftByte.f k a0 a1) (strings_trimLeftByte.f (k + 1) a0 a1) := by
 intro a0 a1 k
 have ih0 := strings_trimLeftByte.mono_l k
 unfold strings_trimLeftByte.f
 repeat' first
   | (with_reducible exact ih0 _ _)
   | (with_reducible exact LeO.refl _)
   | (with_reducible exact LeO.none _)
   | (with_reducible refine LeO.ite ?_ ?_)
   | (with_reducible refine LeO.bind ?_ (fun _ => ?_))
set_option maxHeartbeats 8000000 in
set_option maxRecDepth 100000 in
theorem strings_trimLeftByte.calls (k : Nat) (a0 : ByteArray) (a1 : Int) (r : ByteArray) (w : World) (h : strings_trimLeftByte.f k a0 a1 = some r) :
  Calls Tryd.prog 96 #[.string a0, .int .u8 a1] w fun e w' => e = .returned (.string r) ∧ Drawn0 w w' := by
 have H : (strings_trimLeftByte.l0 k a0 a1) = some r := h
 clear h
 have H' := A0_.mk H
 clear H
 go_enter Tryd.func96, Tryd.ntmps96
 go_wp2
 go_loopg [0] k (fun kq v0 w' => ∃ (x0_1 : ByteArray), v0 = .string x0_1 ∧ A0_ (strings_trimLeftByte.l0 kq x0_1 a1 = some r) ∧ A0_ (kq ≤ k) ∧ Drawn0 w w')
 case atStart => exact ⟨(a0), (by first | rfl | (simp; done) | (simp [*]; done)), H', ⟨Nat.le_refl _⟩, by repeat (first | exact Drawn0.refl _ | apply Drawn0.step)⟩
 case round =>
  clear H'
  try clear p2
  obtain ⟨x0_1, rfl, HA, HK1, ⟨m1, rfl⟩⟩ := hrel
  cases gk with
  | zero => exact absurd HA.out (by simp [strings_trimLeftByte.l0])
  | succ k1 =>
   have H := HA.out
   clear HA
   simp only [strings_trimLeftByte.l0] at H
   by_cases c3 : (x0_1.size : Int) > 0
   ·rw [if_pos c3] at H
    have c3b0 : decide (0 < (x0_1.size : Int)) = true := decide_eq_true c3
    have c3b1 : decide (0 < x0_1.size) = true := decide_eq_true (by omega)
    clear c3
    by_cases c4 : 0 < (x0_1.size : Int)
    ·rw [if_pos c4] at H
     have c4b0 : decide (0 < (x0_1.size : Int)) = true := decide_eq_true c4
     have c4b1 : decide (0 < x0_1.size) = true := decide_eq_true (by omega)
     clear c4
     by_cases c6 : (bt x0_1 0) = a1
     ·rw [if_pos c6] at H
      have c6b0 : ((bt x0_1 0) == a1) = true := beq_iff_eq.mpr c6
      have c6b1 : ((bt x0_1 0) != a1) = false := bne_eq_false_iff_eq.mpr c6
      clear c6
      by_cases c7 : 1 ≤ (x0_1.size : Int)
      ·rw [if_pos c7] at H
       have c7b0 := eq_true c7
       have c7b1 : decide (1 ≤ (x0_1.size : Int)) = true := decide_eq_true c7
       clear c7
       have H' := A0_.mk H
       clear H
       have p5 : 0 ≤ (0 : Int) := (by omega)
       have q5 : 0 < x0_1.size := (by have : (0 : Int) < (x0_1.size : Int) := of_decide_eq_true aS_; omega)
       have hx5 : ∀ h : 0 < x0_1.size, ((x0_1[0]'h).toNat : Int) = bt x0_1 0 := bt_at x0_1 0
       clear p5
       have qi5 : (0 < (x0_1.size : Int)) = True := eq_true (of_decide_eq_true aS_)
       replace q5 := eq_true q5
       go_wp2
       (try simp only [add_plain])
       go_roundg k1
       case measure => have := HK1.out; omega
       case rel => exact ⟨(x0_1.extract 1 x0_1.size), (by first | rfl | (simp; done) | (simp [*]; done)), H', ⟨by have := HK1.out; omega⟩, by repeat (first | exact Drawn0.refl _ | apply Drawn0.step)⟩
      ·rw [if_neg c7] at H
       exact absurd H (by simp)
     ·rw [if_neg c6] at H
      have c6b0 : ((bt x0_1 0) == a1) = false := beq_eq_false_iff_ne.mpr c6
      have c6b1 : ((bt x0_1 0) != a1) = true := bne_iff_ne.mpr c6
      obtain rfl := Option.some.inj H
      have p5 : 0 ≤ (0 : Int) := (by omega)
      have q5 : 0 < x0_1.size := (by have : (0 : Int) < (x0_1.size : Int) := of_decide_eq_true aS_; omega)
      have hx5 : ∀ h : 0 < x0_1.size, ((x0_1[0]'h).toNat : Int) = bt x0_1 0 := bt_at x0_1 0
      clear p5
      have qi5 : (0 < (x0_1.size : Int)) = True := eq_true (of_decide_eq_true aS_)
      replace q5 := eq_true q5
      go_wp2
      go_ret
      exact ⟨by first | rfl | (simp; done) | (simp [*]; done), by repeat (first | exact Drawn0.refl _ | apply Drawn0.step)⟩
    ·rw [if_neg c4] at H
     exact absurd H (by simp)
   ·rw [if_neg c3] at H
    have c3b0 : decide (0 < (x0_1.size : Int)) = false := decide_eq_false c3
    have c3b1 : decide (0 < x0_1.size) = false := decide_eq_false (by omega)
    clear c3
    obtain rfl := Option.some.inj H
    go_wp2
    go_ret
    exact ⟨by first | rfl | (simp; done) | (simp [*]; done), by repeat (first | exact Drawn0.refl _ | apply Drawn0.step)⟩
def strings_TrimLeft.f (k : Nat) (a0 : ByteArray) (a1 : ByteArray) : Option (ByteArray) := if a1.toList = [0] then (if a0.toList = [] then some a0 else strings_trimLeftByte.f k a0 0) else none
theorem strings_TrimLeft.mono : ∀ a0 a1 k, LeO (strings_TrimLeft.f k a0 a1) (strings_TrimLeft.f (k + 1) a0 a1) := by
 intro a0 a1 k
 unfold strings_TrimLeft.f
 refine LeO.ite (LeO.ite (LeO.refl _) ?_) (LeO.none _)
 exact strings_trimLeftByte.mono _ _ _
set_option maxHeartbeats 8000000 in
set_option maxRecDepth 100000 in
theorem strings_TrimLeft.calls (k : Nat) (a0 : ByteArray) (a1 : ByteArray) (r : ByteArray) (w : World) (h : strings_TrimLeft.f k a0 a1 = some r) :
  Calls Tryd.prog 77 #[.string a0, .string a1] w fun e w' => e = .returned (.string r) ∧ Drawn0 w w' := by
 unfold strings_TrimLeft.f at h
 by_cases h1 : a1.toList = [0]
 ·rw [if_pos h1] at h
  obtain rfl : a1 = (⟨#[0]⟩ : ByteArray) := by
   obtain ⟨⟨l⟩⟩ := a1
   simpa using h1
  clear h1
  by_cases hs : a0.toList = []
  ·rw [if_pos hs] at h
   obtain rfl : a0 = r := by injection h
   have hs1 : a0.toList.isEmpty = true := by rw [hs]; rfl
   clear h
   go_enter Tryd.func77, Tryd.ntmps77
   go_wp2
   go_ret
   exact ⟨rfl, Drawn0.refl _⟩
  ·rw [if_neg hs] at h
   have H := A0_.mk h
   have hs1 : a0.toList.isEmpty = false := by cases h2 : a0.toList with | nil => exact absurd h2 hs | cons _ _ => rfl
   clear h
   go_enter Tryd.func77, Tryd.ntmps77
   go_wp2_with (go_at_call 96; refine (strings_trimLeftByte.calls k a0 0 r _ H.out).mono ?_; rintro e w' ⟨rfl, ⟨nd, rfl⟩⟩)
   go_ret
   exact ⟨rfl, by repeat (first | exact Drawn0.refl _ | apply Drawn0.step)⟩
 ·rw [if_neg h1] at h
  cases h
def natural_Normalize.f (k : Nat) (a0 : ByteArray) : Option (ByteArray) := (strings_TrimLeft.f k a0 (⟨#[0]⟩ : ByteArray)).bind fun t110 => (some t110)
theorem natural_Normalize.mono : ∀ a0 k, LeO (natural_Normalize.f k a0) (natural_Normalize.f (k + 1) a0) := by
 intro a0 k
 unfold natural_Normalize.f
 repeat' first
   | (with_reducible exact strings_TrimLeft.mono _ _ _)
   | (with_reducible exact LeO.refl _)
   | (with_reducible exact LeO.none _)
   | (with_reducible refine LeO.ite ?_ ?_)
   | (with_reducible refine LeO.bind ?_ (fun _ => ?_))
set_option maxHeartbeats 8000000 in
set_option maxRecDepth 100000 in
theorem natural_Normalize.calls (k : Nat) (a0 : ByteArray) (r : ByteArray) (w : World) (h : natural_Normalize.f k a0 = some r) :
  Calls Tryd.prog 61 #[.string a0] w fun e w' => e = .returned (.string r) ∧ Drawn0 w w' := by
 have H := h
 unfold natural_Normalize.f at H
 clear h
 replace H := Option.bind_eq_some_iff.mp H
 obtain ⟨t110, A20, H⟩ := H
 (try dsimp only at H)
 have A2 := A0_.mk A20
 clear A20
 obtain rfl := Option.some.inj H
 go_enter Tryd.func61, Tryd.ntmps61
 go_wp2_with (first | ((with_reducible refine gC_ (f := 77) rfl ?_); refine goesL_ (some 4) rfl rfl Tryd.func77 (by kernel_rfl) rfl #[.string a0, .string (⟨#[0]⟩ : ByteArray)] rfl mp_ ?_; (with_reducible refine (strings_TrimLeft.calls k a0 (⟨#[0]⟩ : ByteArray) t110 _ A2.out).mono ?_); rintro e w' ⟨rfl, ⟨nd, rfl⟩⟩; refine ⟨_, rfl, ?_⟩))
 go_ret
 exact ⟨by first | rfl | (simp; done) | (simp [*]; done), by repeat (first | exact Drawn0.refl _ | apply Drawn0.step)⟩
def natural_limbs_text.l0 : Nat → List Int → List Int → Int → Int → Option (ByteArray)
 | 0, _, _, _, _ => none
 | k + 1, x0, x3, x10, x11 => if x11 < x10 then (if 0 ≤ (wrap64 (Int.tdiv x11 4)) then (if (wrap64 (Int.tdiv x11 4)) < (x0.length : Int) then (if 0 ≤ (wrap64 (8 * (Int.tmod x11 4))) then (if 0 ≤ (wrap64 ((wrap64 ((x3.length : Int) - 1)) - x11)) then (if (wrap64 ((wrap64 ((x3.length : Int) - 1)) - x11)) < (x3.length : Int) then (natural_limbs_text.l0 k x0 (x3.set ((wrap64 ((wrap64 ((x3.length : Int) - 1)) - x11)) : Int).toNat ((shr .u32 (rd x0 (wrap64 (Int.tdiv x11 4))) (wrap64 (8 * (Int.tmod x11 4)))) % 256)) x10 (wrap64 (x11 + 1))) else (none)) else (none)) else (none)) else (none)) else (none)) else ((natural_Normalize.f k (strOfNums x3)).bind fun t131 => (some t131))
def natural_limbs_text.f (k : Nat) (l0 : List Int) : Option (ByteArray) := if 0 ≤ (wrap64 ((l0.length : Int) * 4)) then (if (wrap64 ((l0.length : Int) * 4) : Int).toNat ≤ 281474976710656 then ((some (List.replicate (wrap64 ((l0.length : Int) * 4) : Int).toNat 0 : List Int)).bind fun y126 => (natural_limbs_text.l0 k l0 y126 (y126.length : Int) 0)) else (none)) else (none)
theorem natural_limbs_text.mono_l : ∀ k, (∀ y0 y1 y2 y3, LeO (natural_limbs_text.l0 k y0 y1 y2 y3) (natural_limbs_text.l0 (k + 1) y0 y1 y2 y3))
 | 0 => fun _ _ _ _ r h => by simp [natural_limbs_text.l0] at h
 | k + 1 => by
  have ih0 := natural_limbs_text.mono_l k
  ·intro y0 y1 y2 y3
   unfold natural_limbs_text.l0
   repeat' first
   | (with_reducible exact ih0 _ _ _ _)
   | (with_reducible exact natural_Normalize.mono _ _)
   | (with_reducible exact LeO.refl _)
   | (with_reducible exact LeO.none _)
   | (with_reducible refine LeO.ite ?_ ?_)
   | (with_reducible refine LeO.bind ?_ (fun _ => ?_))
theorem natural_limbs_text.mono : ∀ a0 k, LeO (natural_limbs_text.f k a0) (natural_limbs_text.f (k + 1) a0) := by
 intro a0 k
 have ih0 := natural_limbs_text.mono_l k
 unfold natural_limbs_text.f
 repeat' first
   | (with_reducible exact ih0 _ _ _ _)
   | (with_reducible exact natural_Normalize.mono _ _)
   | (with_reducible exact LeO.refl _)
   | (with_reducible exact LeO.none _)
   | (with_reducible refine LeO.ite ?_ ?_)
   | (with_reducible refine LeO.bind ?_ (fun _ => ?_))
set_option maxHeartbeats 8000000 in
set_option maxRecDepth 100000 in
theorem natural_limbs_text.calls (k : Nat) (A0 : Option Addr) (c0 : Nat) (l0 : List Int) (r : ByteArray) (w : World) (hr0 : Kd.C (Kd.int .u32) w A0 l0.length l0) (hc0 : l0.length ≤ c0) (h : natural_limbs_text.f k l0 = some r) :
  Calls Tryd.prog 65 #[.slice A0 l0.length c0] w fun e w' => e = .returned (.string r) ∧ Below w.heap.size w w' := by
 have HR0 := A0_.mk hr0
 have HC0 := A0_.mk hc0
 clear hr0 hc0
 have HB := A0_.mk (Below.refl w.heap.size w)
 have H := h
 unfold natural_limbs_text.f at H
 clear h
 obtain ⟨ji2, hji2⟩ : ∃ j_ : Int, (wrap64 ((l0.length : Int) * 4)) = j_ := ⟨_, rfl⟩
 replace H : (if 0 ≤ (ji2) then (if (ji2 : Int).toNat ≤ 281474976710656 then ((some (List.replicate (ji2 : Int).toNat 0 : List Int)).bind fun y126 => (natural_limbs_text.l0 k l0 y126 (y126.length : Int) 0)) else (none)) else (none)) = some r := by first | (rw [hji2] at H; exact H) | (simp only [hji2] at H ⊢; exact H)
 have hji2w : (IntKind.i64.wrap ((l0.length : Int) * 4)) = ji2 := (i64_w _).trans hji2
 by_cases c3 : 0 ≤ (ji2)
 ·rw [if_pos c3] at H
  have c3b0 := eq_true c3
  have c3b1 : decide (0 ≤ (ji2)) = true := decide_eq_true c3
  clear c3
  by_cases c4 : (ji2 : Int).toNat ≤ 281474976710656
  ·rw [if_pos c4] at H
   have c4b0 := eq_true c4
   have c4b1 : decide ((ji2 : Int).toNat ≤ 281474976710656) = true := decide_eq_true c4
   clear c4
   obtain ⟨y126, hy126⟩ : ∃ y_ : List Int, y_ = (List.replicate (ji2 : Int).toNat 0) := ⟨_, rfl⟩
   replace H : (natural_limbs_text.l0 k l0 y126 (y126.length : Int) 0) = some r := by first | (rw [hy126]; with_reducible exact H) | (have H2_ := (Option.bind_some _ _).symm.trans H; rw [hy126]; with_reducible exact H2_) | (have H2_ := (Option.bind_some _ _).symm.trans H; with_reducible exact H2_) | with_reducible exact H | (rw [hy126]; exact H) | exact H
   have Ny126 := A0_.mk hy126
   clear hy126
   have H' := A0_.mk H
   clear H
   go_enter Tryd.func65, Tryd.ntmps65
   go_wp2_with (first | ((with_reducible refine gD_ (N := 8) rfl ?_); refine Kd.R_make (Kd.int .u8) _ 5 rfl (N := 8) rfl 105 _ _ rfl ji2 rfl rfl Tryd.underlying105 (.int .u8 0) 1 info5 rfl (by decide) (by omega) 0 (ok := fun _ => True) (okp := fun _ => True) rfl (fun _ hk => hk) trivial (of_decide_eq_true aS_) (Nat.le_trans (Nat.mul_le_mul_right _ (of_decide_eq_true aS_ : ji2.toNat ≤ 281474976710656)) (by omega)) (Below.refl _ _) (Nat.le_refl _) ?_; intro v127 w5 ho6 hb hg_ hnew_; clear hg_ hnew_; (first | rw [← Ny126.out] at ho6 | (simp only [Int.reduceToNat] at ho6; rw [← Ny126.out] at ho6)); have n0_ := A0_.mk (Kd.R_lower ho6 (bZ_ (xB_ HB))); have n1_ := A0_.mk (bT_ (xB_ HB) hb); clear HB; have HO128 := n0_; have HB := n1_; clear n0_ n1_; clear hb ho6; obtain ⟨Ao7, co7, eo7⟩ := Kd.R_slice HO128.out; subst eo7))
   go_loopg [11] k (fun kq v11 w' => ∃ (x3_1 : List Int) (x11_1 : Int), v11 = .int .i64 x11_1 ∧ A0_ (natural_limbs_text.l0 kq l0 x3_1 (y126.length : Int) x11_1 = some r) ∧ A0_ (kq ≤ k) ∧ A0_ (Kd.R (Kd.int .u8) 5 w' w.heap.size (fun _ => True) (.slice Ao7 y126.length co7) x3_1) ∧ A0_ (Below w.heap.size w w'))
   case atStart => exact ⟨(y126), (0), (by first | rfl | (simp; done) | (simp [*]; done)), H', ⟨Nat.le_refl _⟩, ⟨by (with_reducible repeat (first | apply Kd.R_alloc | apply Kd.R_drewN | apply Kd.R_drew)); exact HO128.out⟩, ⟨xB_ HB⟩⟩
   case round =>
    clear H'
    try clear p2
    try clear c3
    try clear c3b0
    try clear c3b1
    try clear c4
    try clear c4b0
    try clear c4b1
    try clear c6
    try clear p6
    obtain ⟨x3_1, x11_1, rfl, HA, HK1, HO_3, HB⟩ := hrel
    have hl3_1 := (Kd.R_reads' HO_3.out).1
    rw [hl3_1] at HO_3
    (try simp only [hl3_1])
    cases gk with
    | zero => exact absurd HA.out (by simp [natural_limbs_text.l0])
    | succ k1 =>
     have H := HA.out
     clear HA
     simp only [natural_limbs_text.l0] at H
     by_cases c8 : x11_1 < (y126.length : Int)
     ·rw [if_pos c8] at H
      have c8b0 : decide (x11_1 < (y126.length : Int)) = true := decide_eq_true c8
      (try (have c8h0 := c8b0; simp only [hl3_1] at c8h0))
      clear c8
      obtain ⟨ji9, hji9⟩ : ∃ j_ : Int, (wrap64 (Int.tdiv x11_1 4)) = j_ := ⟨_, rfl⟩
      replace H : (if 0 ≤ (ji9) then (if (ji9) < (l0.length : Int) then (if 0 ≤ (wrap64 (8 * (Int.tmod x11_1 4))) then (if 0 ≤ (wrap64 ((wrap64 ((x3_1.length : Int) - 1)) - x11_1)) then (if (wrap64 ((wrap64 ((x3_1.length : Int) - 1)) - x11_1)) < (x3_1.length : Int) then (natural_limbs_text.l0 k1 l0 (x3_1.set ((wrap64 ((wrap64 ((x3_1.length : Int) - 1)) - x11_1)) : Int).toNat ((shr .u32 (rd l0 (ji9)) (wrap64 (8 * (Int.tmod x11_1 4)))) % 256)) (y126.length : Int) (wrap64 (x11_1 + 1))) else (none)) else (none)) else (none)) else (none)) else (none)) = some r := by first | (rw [hji9] at H; exact H) | (simp only [hji9] at H ⊢; exact H)
      have hji9w : (IntKind.i64.wrap (Int.tdiv x11_1 4)) = ji9 := (i64_w _).trans hji9
      by_cases c10 : 0 ≤ (ji9)
      ·rw [if_pos c10] at H
       have c10b0 : decide (0 ≤ (ji9)) = true := decide_eq_true c10
       clear c10
       by_cases c11 : (ji9) < (l0.length : Int)
       ·rw [if_pos c11] at H
        have c11b0 : decide ((ji9) < (l0.length : Int)) = true := decide_eq_true c11
        (try (have c11h0 := c11b0; simp only [hl3_1] at c11h0))
        clear c11
        obtain ⟨ji12, hji12⟩ : ∃ j_ : Int, (wrap64 (8 * (Int.tmod x11_1 4))) = j_ := ⟨_, rfl⟩
        replace H : (if 0 ≤ (ji12) then (if 0 ≤ (wrap64 ((wrap64 ((x3_1.length : Int) - 1)) - x11_1)) then (if (wrap64 ((wrap64 ((x3_1.length : Int) - 1)) - x11_1)) < (x3_1.length : Int) then (natural_limbs_text.l0 k1 l0 (x3_1.set ((wrap64 ((wrap64 ((x3_1.length : Int) - 1)) - x11_1)) : Int).toNat ((shr .u32 (rd l0 (ji9)) (ji12)) % 256)) (y126.length : Int) (wrap64 (x11_1 + 1))) else (none)) else (none)) else (none)) = some r := by first | (rw [hji12] at H; exact H) | (simp only [hji12] at H ⊢; exact H)
        have hji12w : (IntKind.i64.wrap (8 * (Int.tmod x11_1 4))) = ji12 := (i64_w _).trans hji12
        by_cases c13 : 0 ≤ (ji12)
        ·rw [if_pos c13] at H
         have c13b0 := eq_true c13
         have c13b1 : decide (0 ≤ (ji12)) = true := decide_eq_true c13
         clear c13
         obtain ⟨ji14, hji14⟩ : ∃ j_ : Int, (shr .u32 (rd l0 (ji9)) (ji12)) = j_ := ⟨_, rfl⟩
         replace H : (if 0 ≤ (wrap64 ((wrap64 ((x3_1.length : Int) - 1)) - x11_1)) then (if (wrap64 ((wrap64 ((x3_1.length : Int) - 1)) - x11_1)) < (x3_1.length : Int) then (natural_limbs_text.l0 k1 l0 (x3_1.set ((wrap64 ((wrap64 ((x3_1.length : Int) - 1)) - x11_1)) : Int).toNat ((ji14) % 256)) (y126.length : Int) (wrap64 (x11_1 + 1))) else (none)) else (none)) = some r := by first | (rw [hji14] at H; exact H) | (simp only [hji14] at H ⊢; exact H)
         have hji14_ : ((rd l0 (ji9)) / 2 ^ min (ji12).toNat 32) = ji14 := hji14
         have hji14z : (ji12) ≤ 32 → ((rd l0 (ji9)) / 2 ^ (ji12).toNat) = ji14 := shr_small hji14
         obtain ⟨ji15, hji15⟩ : ∃ j_ : Int, (wrap64 ((wrap64 ((x3_1.length : Int) - 1)) - x11_1)) = j_ := ⟨_, rfl⟩
         replace H : (if 0 ≤ (ji15) then (if (ji15) < (x3_1.length : Int) then (natural_limbs_text.l0 k1 l0 (x3_1.set ((ji15) : Int).toNat ((ji14) % 256)) (y126.length : Int) (wrap64 (x11_1 + 1))) else (none)) else (none)) = some r := by first | (rw [hji15] at H; exact H) | (simp only [hji15] at H ⊢; exact H)
         have hji15w : (IntKind.i64.wrap ((wrap64 ((x3_1.length : Int) - 1)) - x11_1)) = ji15 := (i64_w _).trans hji15
         by_cases c16 : 0 ≤ (ji15)
         ·rw [if_pos c16] at H
          have c16b0 : decide (0 ≤ (ji15)) = true := decide_eq_true c16
          clear c16
          by_cases c17 : (ji15) < (x3_1.length : Int)
          ·rw [if_pos c17] at H
           have c17b0 : decide ((ji15) < (x3_1.length : Int)) = true := decide_eq_true c17
           (try (have c17h0 := c17b0; simp only [hl3_1] at c17h0))
           clear c17
           obtain ⟨y130, hy130⟩ : ∃ y_ : List Int, y_ = (x3_1.set ((ji15) : Int).toNat ((ji14) % 256)) := ⟨_, rfl⟩
           replace H : (natural_limbs_text.l0 k1 l0 y130 (y126.length : Int) (wrap64 (x11_1 + 1))) = some r := by first | (rw [hy130]; with_reducible exact H) | (have H2_ := (Option.bind_some _ _).symm.trans H; rw [hy130]; with_reducible exact H2_) | (have H2_ := (Option.bind_some _ _).symm.trans H; with_reducible exact H2_) | with_reducible exact H | (rw [hy130]; exact H) | exact H
           have Ny130 := A0_.mk hy130
           clear hy130
           have H' := A0_.mk H
           clear H
           have p129 : 0 ≤ ((ji9) : Int) := of_decide_eq_true aS_
           have q129 : (ji9) < (l0.length : Int) := of_decide_eq_true aS_
           obtain ⟨ad129, e129, hx129_0⟩ := Kd.at_int HR0.out (ji9) p129 q129
           cases e129
           (try replace hx129_0 := (HB.out.cell (World.block_lt_of_cell? w _ hx129_0)).trans hx129_0)
           replace p129 := eq_true p129
           replace q129 := eq_true q129
           have p18 : 0 ≤ ((ji15) : Int) := of_decide_eq_true aS_
           have q18 : ((ji15) : Int) < ((x3_1.length : Int) : Int) := of_decide_eq_true aS_
           obtain ⟨go18, co18, eo18, gb18, gl18, cl18, HG18⟩ := Kd.R_form HO_3.out (by omega)
           (first | cases eo18 | (injection eo18 with ea_ en_ ec_; (first | subst ea_ | (injection ea_ with ea_; subst ea_)); subst ec_; clear en_))
           have GB18 := A0_.mk gb18
           have GG18 := A0_.mk HG18
           clear gb18 gl18 HG18
           obtain ⟨hx18_0, hf18_0⟩ := Kd.R_celln 0 HO_3.out ((ji15) : Int) p18 q18
           replace p18 := eq_true p18
           replace q18 := eq_true q18
           have HP19 := Kd.R_putg HO_3.out ((ji15) : Int) ((ji14) % 256)
           go_wp2_with (first | ((with_reducible refine gate_store (t := 5) (p := 30) rfl ?_); refine store_event (t := 5) (p := 30) (v := ?vo_w20) (w1 := (wr.setCell ⟨go18, ((ji15) : Int).toNat, none⟩ (.int .u8 ((ji14) % 256)))) ?hg ?ho ?hn ?hr ?_; (case ho => rfl); (case hg => rfl); (case hn => rfl); (case hr => first | (go_simp; done) | (go_simp; rfl)); intro w20 hw; have hg : wr.grownBy w20 (some go18) := (by rw [hw]; exact HP19.2); have hp_ : Kd.R (Kd.int .u8) 5 w20 w.heap.size (fun _ => True) (.slice (some ⟨go18, 0, none⟩) x3_1.length co7) y130 := (by rw [hw, Ny130.out]; exact HP19.1); clear HP19; have n0_ := A0_.mk (hp_); have n1_ := A0_.mk ((by rw [hw]; exact bS_ (HB.out) GB18.out : Below w.heap.size w w20)); clear HO_3 HB; have HO_3 := n0_; have HB := n1_; clear n0_ n1_; clear hg hw hp_))
           (try simp only [← hl3_1])
           (try simp only [add_plain])
           go_roundg k1
           case measure => have := HK1.out; omega
           case rel => exact ⟨(y130), (wrap64 (x11_1 + 1)), (by first | rfl | (simp; done) | (simp [*]; done)), H', ⟨by have := HK1.out; omega⟩, ⟨by (try simp only [hl3_1]); (with_reducible repeat (first | apply Kd.R_alloc | apply Kd.R_drewN | apply Kd.R_drew)); exact HO_3.out⟩, ⟨xB_ HB⟩⟩
          ·rw [if_neg c17] at H
           exact absurd H (by simp)
         ·rw [if_neg c16] at H
          exact absurd H (by simp)
        ·rw [if_neg c13] at H
         exact absurd H (by simp)
       ·rw [if_neg c11] at H
        exact absurd H (by simp)
      ·rw [if_neg c10] at H
       exact absurd H (by simp)
     ·rw [if_neg c8] at H
      have c8b0 : decide (x11_1 < (y126.length : Int)) = false := decide_eq_false c8
      (try (have c8h0 := c8b0; simp only [hl3_1] at c8h0))
      clear c8
      replace H := Option.bind_eq_some_iff.mp H
      obtain ⟨t131, A210, H⟩ := H
      (try dsimp only at H)
      have A21 := A0_.mk A210
      clear A210
      obtain rfl := Option.some.inj H
      have hcv22 := own_string (P := Tryd.prog) Tryd.underlying105 Tryd.underlying5 Tryd.underlying9 (Kd.own_of_R HO_3.out)
      go_wp2_with (first | ((with_reducible refine gC_ (f := 61) rfl ?_); refine goesL_ (some 34) rfl rfl Tryd.func61 (by kernel_rfl) rfl #[.string (strOfNums x3_1)] rfl mp_ ?_; (with_reducible refine (natural_Normalize.calls k1 (strOfNums x3_1) t131 _ A21.out).mono ?_); rintro e w' ⟨rfl, ⟨nd, rfl⟩⟩; refine ⟨_, rfl, ?_⟩))
      go_ret
      exact ⟨by first | rfl | (simp [errW_none, errW_some] <;> rfl) | (simp only [← hji2]; first | rfl | (simp [errW_none, errW_some] <;> rfl)) | (simp [*, errW_none, errW_some] <;> rfl), xB_ HB⟩
  ·rw [if_neg c4] at H
   exact absurd H (by simp)
 ·rw [if_neg c3] at H
  exact absurd H (by simp)
def natural_FromUint.f (k : Nat) (a0 : Int) : Option (ByteArray) := (natural_limbs_text.f k (([(a0) % 4294967296, (a0 / 4294967296) % 4294967296] : List Int))).bind fun t488 => (some t488)
theorem natural_FromUint.mono : ∀ a0 k, LeO (natural_FromUint.f k a0) (natural_FromUint.f (k + 1) a0) := by
 intro a0 k
 unfold natural_FromUint.f
 repeat' first
   | (with_reducible exact natural_limbs_text.mono _ _)
   | (with_reducible exact LeO.refl _)
   | (with_reducible exact LeO.none _)
   | (with_reducible refine LeO.ite ?_ ?_)
   | (with_reducible refine LeO.bind ?_ (fun _ => ?_))
set_option maxHeartbeats 8000000 in
set_option maxRecDepth 100000 in
theorem natural_FromUint.calls (k : Nat) (a0 : Int) (r : ByteArray) (w : World) (h : natural_FromUint.f k a0 = some r) :
  Calls Tryd.prog 72 #[.int .u64 a0] w fun e w' => e = .returned (.string r) ∧ Below w.heap.size w w' := by
 have HB := A0_.mk (Below.refl w.heap.size w)
 have H := h
 unfold natural_FromUint.f at H
 clear h
 obtain ⟨y485, hy485⟩ : ∃ y_ : List Int, y_ = (([(a0) % 4294967296, (a0 / 4294967296) % 4294967296] : List Int)) := ⟨_, rfl⟩
 replace H : ((natural_limbs_text.f k y485).bind fun t488 => (some t488)) = some r := by first | (rw [hy485]; with_reducible exact H) | (have H2_ := (Option.bind_some _ _).symm.trans H; rw [hy485]; with_reducible exact H2_) | (have H2_ := (Option.bind_some _ _).symm.trans H; with_reducible exact H2_) | with_reducible exact H | (rw [hy485]; exact H) | exact H
 have Ny485 := A0_.mk hy485
 clear hy485
 replace H := Option.bind_eq_some_iff.mp H
 obtain ⟨t488, A20, H⟩ := H
 (try dsimp only at H)
 have A2 := A0_.mk A20
 clear A20
 obtain rfl := Option.some.inj H
 go_enter Tryd.func72, Tryd.ntmps72
 go_wp2_with (first | ((with_reducible refine gD_ (N := 8) rfl ?_); refine Kd.R_lit (Kd.int .u32) _ 89 ?hg (N := 8) ?hd (xs := ([(a0) % 4294967296, (a0 / 4294967296) % 4294967296] : List Int)) (inner := [.int .u32 ((a0) % 4294967296), .int .u32 ((a0 / 4294967296) % 4294967296)]) (ok := fun _ => True) (okp := fun _ => True) ?hr ?hp (fun _ hk => hk) trivial (Below.refl _ _) (Nat.le_refl _) (by simp) ?_; (case hd => rfl); (case hg => rfl); (case hr => first | (go_simp; done) | (go_simp; rfl)); (case hp => exact (Reps.one (show Kd.M (Kd.int .u32) _ _ _ ((a0) % 4294967296) [.int .u32 ((a0) % 4294967296)] from rfl) (Reps.one (show Kd.M (Kd.int .u32) _ _ _ ((a0 / 4294967296) % 4294967296) [.int .u32 ((a0 / 4294967296) % 4294967296)] from rfl) (Reps.none _ _)))); intro v486 w3 ho4 hb hg_ hnew_; clear hg_ hnew_; (first | rw [← Ny485.out] at ho4 | (simp only [Int.reduceToNat] at ho4; rw [← Ny485.out] at ho4)); have n0_ := A0_.mk (Kd.R_lower ho4 (bZ_ (xB_ HB))); have n1_ := A0_.mk (bT_ (xB_ HB) hb); clear HB; have HO487 := n0_; have HB := n1_; clear n0_ n1_; clear hb ho4; obtain ⟨Ao5, co5, eo5⟩ := Kd.R_slice HO487.out; subst eo5) | ((with_reducible refine gC_ (f := 65) rfl ?_); refine goesL_ (some 9) rfl rfl Tryd.func65 (by kernel_rfl) rfl #[.slice Ao5 y485.length co5] rfl mp_ ?_; (with_reducible refine (natural_limbs_text.calls k _ _ y485 t488 _ ?side1 ?side2 A2.out).mono ?_); (case side1 => repeat (first | exact (Kd.R_reads' HO487.out).2.2 | (with_reducible refine Kd.C_alloc ?_ _) | (with_reducible refine Kd.C_drewN ?_ _) | (with_reducible refine Kd.C_drew ?_))); (case side2 => exact (Kd.R_reads' HO487.out).2.1); rintro e w6 ⟨rfl, hb⟩; refine ⟨_, rfl, ?_⟩; have n0_ := A0_.mk (Kd.R_below (xR_ HO487.out) hb); have n1_ := A0_.mk (bT_ (xB_ HB) hb); clear HO487 HB; have HO487 := n0_; have HB := n1_; clear n0_ n1_; (try clear hb); (try clear hb2); (try clear hk); (try clear hi)))
 go_ret
 exact ⟨rE_, xB_ HB⟩
def rational_magnitude.f (k : Nat) (a0 : Int) : Option (ByteArray) := if a0 < 0 then ((natural_FromUint.f k (IntKind.u64.wrap (-(IntKind.u64.wrap (a0))))).bind fun t489 => (some t489)) else ((natural_FromUint.f k (IntKind.u64.wrap (a0))).bind fun t490 => (some t490))
theorem rational_magnitude.mono : ∀ a0 k, LeO (rational_magnitude.f k a0) (rational_magnitude.f (k + 1) a0) := by
 intro a0 k
 unfold rational_magnitude.f
 repeat' first
   | (with_reducible exact natural_FromUint.mono _ _)
   | (with_reducible exact LeO.refl _)
   | (with_reducible exact LeO.none _)
   | (with_reducible refine LeO.ite ?_ ?_)
   | (with_reducible refine LeO.bind ?_ (fun _ => ?_))
set_option maxHeartbeats 8000000 in
set_option maxRecDepth 100000 in
theorem rational_magnitude.calls (k : Nat) (a0 : Int) (r : ByteArray) (w : World) (h : rational_magnitude.f k a0 = some r) :
  Calls Tryd.prog 53 #[.int .i64 a0] w fun e w' => e = .returned (.string r) ∧ Below w.heap.size w w' := by
 have HB := A0_.mk (Below.refl w.heap.size w)
 have H := h
 unfold rational_magnitude.f at H
 clear h
 by_cases c2 : a0 < 0
 ·rw [if_pos c2] at H
  have c2b0 : decide (a0 < 0) = true := decide_eq_true c2
  clear c2
  replace H := Option.bind_eq_some_iff.mp H
  obtain ⟨t489, A30, H⟩ := H
  (try dsimp only at H)
  have A3 := A0_.mk A30
  clear A30
  obtain rfl := Option.some.inj H
  go_enter Tryd.func53, Tryd.ntmps53
  go_wp2_with (first | ((with_reducible refine gC_ (f := 72) rfl ?_); refine goesL_ (some 8) rfl rfl Tryd.func72 (by kernel_rfl) rfl #[.int .u64 (IntKind.u64.wrap (-(IntKind.u64.wrap (a0))))] rfl mp_ ?_; (with_reducible refine (natural_FromUint.calls k (IntKind.u64.wrap (-(IntKind.u64.wrap (a0)))) t489 _ A3.out).mono ?_); rintro e w4 ⟨rfl, hb⟩; refine ⟨_, rfl, ?_⟩; have n0_ := A0_.mk (bT_ (xB_ HB) hb); clear HB; have HB := n0_; clear n0_; (try clear hb); (try clear hb2); (try clear hk); (try clear hi)))
  go_ret
  exact ⟨rE_, xB_ HB⟩
 ·rw [if_neg c2] at H
  have c2b0 : decide (a0 < 0) = false := decide_eq_false c2
  clear c2
  replace H := Option.bind_eq_some_iff.mp H
  obtain ⟨t490, A50, H⟩ := H
  (try dsimp only at H)
  have A5 := A0_.mk A50
  clear A50
  obtain rfl := Option.some.inj H
  go_enter Tryd.func53, Tryd.ntmps53
  go_wp2_with (first | ((with_reducible refine gC_ (f := 72) rfl ?_); refine goesL_ (some 11) rfl rfl Tryd.func72 (by kernel_rfl) rfl #[.int .u64 (IntKind.u64.wrap (a0))] rfl mp_ ?_; (with_reducible refine (natural_FromUint.calls k (IntKind.u64.wrap (a0)) t490 _ A5.out).mono ?_); rintro e w6 ⟨rfl, hb⟩; refine ⟨_, rfl, ?_⟩; have n0_ := A0_.mk (bT_ (xB_ HB) hb); clear HB; have HB := n0_; clear n0_; (try clear hb); (try clear hb2); (try clear hk); (try clear hi)))
  go_ret
  exact ⟨rE_, xB_ HB⟩
def natural_sign.f (a0 : Int) : Option (Int) := if a0 < 0 then (some (-1)) else (if a0 > 0 then (some 1) else (some 0))
set_option maxHeartbeats 8000000 in
set_option maxRecDepth 100000 in
theorem natural_sign.calls (a0 : Int) (r : Int) (w : World) (h : natural_sign.f a0 = some r) :
  Calls Tryd.prog 62 #[.int .i64 a0] w fun e w' => e = .returned (.int .i64 r) ∧ Drawn0 w w' := by
 have H := h
 unfold natural_sign.f at H
 clear h
 by_cases c2 : a0 < 0
 ·rw [if_pos c2] at H
  have c2b0 : decide (a0 < 0) = true := decide_eq_true c2
  clear c2
  obtain rfl := Option.some.inj H
  go_enter Tryd.func62, Tryd.ntmps62
  go_wp2
  go_ret
  exact ⟨by first | rfl | (simp; done) | (simp [*]; done), by repeat (first | exact Drawn0.refl _ | apply Drawn0.step)⟩
 ·rw [if_neg c2] at H
  have c2b0 : decide (a0 < 0) = false := decide_eq_false c2
  clear c2
  by_cases c3 : a0 > 0
  ·rw [if_pos c3] at H
   have c3b0 : decide (0 < a0) = true := decide_eq_true c3
   clear c3
   obtain rfl := Option.some.inj H
   go_enter Tryd.func62, Tryd.ntmps62
   go_wp2
   go_ret
   exact ⟨by first | rfl | (simp; done) | (simp [*]; done), by repeat (first | exact Drawn0.refl _ | apply Drawn0.step)⟩
  ·rw [if_neg c3] at H
   have c3b0 : decide (0 < a0) = false := decide_eq_false c3
   clear c3
   obtain rfl := Option.some.inj H
   go_enter Tryd.func62, Tryd.ntmps62
   go_wp2
   go_ret
   exact ⟨by first | rfl | (simp; done) | (simp [*]; done), by repeat (first | exact Drawn0.refl _ | apply Drawn0.step)⟩
def natural_compare.l0 : Nat → List Int → List Int → Int → Option (Int)
 | 0, _, _, _ => none
 | k + 1, x0, x1, x5 => if x5 ≥ 0 then (if 0 ≤ x5 then (if x5 < (x0.length : Int) then (if x5 < (x1.length : Int) then (if (rd x0 x5) = (rd x1 x5) then (natural_compare.l0 k x0 x1 (wrap64 (x5 - 1))) else (if (rd x0 x5) < (rd x1 x5) then (some (-1)) else (some 1))) else (none)) else (none)) else (none)) else (some 0)
def natural_compare.f (k : Nat) (l0 : List Int) (l1 : List Int) : Option (Int) := if (l0.length : Int) = (l1.length : Int) then (natural_compare.l0 k l0 l1 (wrap64 ((l0.length : Int) - 1))) else ((natural_sign.f (wrap64 ((l0.length : Int) - (l1.length : Int)))).bind fun t132 => (some t132))
theorem natural_compare.mono_l : ∀ k, (∀ y0 y1 y2, LeO (natural_compare.l0 k y0 y1 y2) (natural_compare.l0 (k + 1) y0 y1 y2))
 | 0 => fun _ _ _ r h => by simp [natural_compare.l0] at h
 | k + 1 => by
  have ih0 := natural_compare.mono_l k
  ·intro y0 y1 y2
   unfold natural_compare.l0
   repeat' first
   | (with_reducible exact ih0 _ _ _)
   | (with_reducible exact LeO.refl _)
   | (with_reducible exact LeO.none _)
   | (with_reducible refine LeO.ite ?_ ?_)
   | (with_reducible refine LeO.bind ?_ (fun _ => ?_))
theorem natural_compare.mono : ∀ a0 a1 k, LeO (natural_compare.f k a0 a1) (natural_compare.f (k + 1) a0 a1) := by
 intro a0 a1 k
 have ih0 := natural_compare.mono_l k
 unfold natural_compare.f
 repeat' first
   | (with_reducible exact ih0 _ _ _)
   | (with_reducible exact LeO.refl _)
   | (with_reducible exact LeO.none _)
   | (with_reducible refine LeO.ite ?_ ?_)
   | (with_reducible refine LeO.bind ?_ (fun _ => ?_))
set_option maxHeartbeats 8000000 in
set_option maxRecDepth 100000 in
theorem natural_compare.calls (k : Nat) (A0 : Option Addr) (c0 : Nat) (l0 : List Int) (A1 : Option Addr) (c1 : Nat) (l1 : List Int) (r : Int) (w : World) (hr0 : Kd.C (Kd.int .u32) w A0 l0.length l0) (hc0 : l0.length ≤ c0) (hr1 : Kd.C (Kd.int .u32) w A1 l1.length l1) (hc1 : l1.length ≤ c1) (h : natural_compare.f k l0 l1 = some r) :
  Calls Tryd.prog 81 #[.slice A0 l0.length c0, .slice A1 l1.length c1] w fun e w' => e = .returned (.int .i64 r) ∧ Drawn0 w w' := by
 have HR0 := A0_.mk hr0
 have HC0 := A0_.mk hc0
 clear hr0 hc0
 have HR1 := A0_.mk hr1
 have HC1 := A0_.mk hc1
 clear hr1 hc1
 have H := h
 unfold natural_compare.f at H
 clear h
 by_cases c3 : (l0.length : Int) = (l1.length : Int)
 ·rw [if_pos c3] at H
  have c3b0 : ((l0.length : Int) == (l1.length : Int)) = true := beq_iff_eq.mpr c3
  have c3b1 : ((l0.length : Int) != (l1.length : Int)) = false := bne_eq_false_iff_eq.mpr c3
  have c3b2 : (l0.length == l1.length) = true := by first | simpa using c3 | (simp at c3 ⊢; omega)
  clear c3
  have H' := A0_.mk H
  clear H
  go_enter Tryd.func81, Tryd.ntmps81
  go_wp2
  repeat (go_quiet (fail); try go_wp2)
  go_loopg [5] k (fun kq v5 w' => ∃ (x5_1 : Int), v5 = .int .i64 x5_1 ∧ A0_ (natural_compare.l0 kq l0 l1 x5_1 = some r) ∧ A0_ (kq ≤ k) ∧ Drawn0 w w')
  case atStart => exact ⟨(wrap64 ((l0.length : Int) - 1)), (by first | rfl | (simp; done) | (simp [*]; done)), H', ⟨Nat.le_refl _⟩, by repeat (first | exact Drawn0.refl _ | apply Drawn0.step)⟩
  case round =>
   clear H'
   try clear c1
   try clear p2
   try clear c3
   try clear c3b0
   try clear c3b1
   try clear c3b2
   obtain ⟨x5_1, rfl, HA, HK1, ⟨m1, rfl⟩⟩ := hrel
   cases gk with
   | zero => exact absurd HA.out (by simp [natural_compare.l0])
   | succ k1 =>
    have H := HA.out
    clear HA
    simp only [natural_compare.l0] at H
    by_cases c4 : x5_1 ≥ 0
    ·rw [if_pos c4] at H
     have c4b0 : decide (0 ≤ x5_1) = true := decide_eq_true c4
     clear c4
     by_cases c5 : 0 ≤ x5_1
     ·rw [if_pos c5] at H
      have c5b0 : decide (0 ≤ x5_1) = true := decide_eq_true c5
      clear c5
      by_cases c6 : x5_1 < (l0.length : Int)
      ·rw [if_pos c6] at H
       have c6b0 : decide (x5_1 < (l0.length : Int)) = true := decide_eq_true c6
       clear c6
       by_cases c7 : x5_1 < (l1.length : Int)
       ·rw [if_pos c7] at H
        have c7b0 : decide (x5_1 < (l1.length : Int)) = true := decide_eq_true c7
        clear c7
        by_cases c8 : (rd l0 x5_1) = (rd l1 x5_1)
        ·rw [if_pos c8] at H
         have c8b0 : ((rd l0 x5_1) == (rd l1 x5_1)) = true := beq_iff_eq.mpr c8
         have c8b1 : ((rd l0 x5_1) != (rd l1 x5_1)) = false := bne_eq_false_iff_eq.mpr c8
         clear c8
         have H' := A0_.mk H
         clear H
         have p133 : 0 ≤ (x5_1 : Int) := of_decide_eq_true aS_
         have q133 : x5_1 < (l0.length : Int) := of_decide_eq_true aS_
         obtain ⟨ad133, e133, hx133_0⟩ := Kd.at_int HR0.out x5_1 p133 q133
         cases e133
         replace p133 := eq_true p133
         replace q133 := eq_true q133
         have p134 : 0 ≤ (x5_1 : Int) := of_decide_eq_true aS_
         have q134 : x5_1 < (l1.length : Int) := of_decide_eq_true aS_
         obtain ⟨ad134, e134, hx134_0⟩ := Kd.at_int HR1.out x5_1 p134 q134
         cases e134
         replace p134 := eq_true p134
         replace q134 := eq_true q134
         go_wp2
         repeat (go_quiet (fail); try go_wp2)
         (try simp only [add_plain])
         go_roundg k1
         case measure => have := HK1.out; omega
         case rel => exact ⟨(wrap64 (x5_1 - 1)), (by first | rfl | (simp; done) | (simp [*]; done)), H', ⟨by have := HK1.out; omega⟩, by repeat (first | exact Drawn0.refl _ | apply Drawn0.step)⟩
        ·rw [if_neg c8] at H
         have c8b0 : ((rd l0 x5_1) == (rd l1 x5_1)) = false := beq_eq_false_iff_ne.mpr c8
         have c8b1 : ((rd l0 x5_1) != (rd l1 x5_1)) = true := bne_iff_ne.mpr c8
         by_cases c9 : (rd l0 x5_1) < (rd l1 x5_1)
         ·rw [if_pos c9] at H
          have c9b0 : decide ((rd l0 x5_1) < (rd l1 x5_1)) = true := decide_eq_true c9
          clear c9
          obtain rfl := Option.some.inj H
          have p133 : 0 ≤ (x5_1 : Int) := of_decide_eq_true aS_
          have q133 : x5_1 < (l0.length : Int) := of_decide_eq_true aS_
          obtain ⟨ad133, e133, hx133_0⟩ := Kd.at_int HR0.out x5_1 p133 q133
          cases e133
          replace p133 := eq_true p133
          replace q133 := eq_true q133
          have p134 : 0 ≤ (x5_1 : Int) := of_decide_eq_true aS_
          have q134 : x5_1 < (l1.length : Int) := of_decide_eq_true aS_
          obtain ⟨ad134, e134, hx134_0⟩ := Kd.at_int HR1.out x5_1 p134 q134
          cases e134
          replace p134 := eq_true p134
          replace q134 := eq_true q134
          have p135 : 0 ≤ (x5_1 : Int) := of_decide_eq_true aS_
          have q135 : x5_1 < (l0.length : Int) := of_decide_eq_true aS_
          obtain ⟨ad135, e135, hx135_0⟩ := Kd.at_int HR0.out x5_1 p135 q135
          obtain rfl : ad133 = ad135 := (by injection e135)
          replace p135 := eq_true p135
          replace q135 := eq_true q135
          have p136 : 0 ≤ (x5_1 : Int) := of_decide_eq_true aS_
          have q136 : x5_1 < (l1.length : Int) := of_decide_eq_true aS_
          obtain ⟨ad136, e136, hx136_0⟩ := Kd.at_int HR1.out x5_1 p136 q136
          obtain rfl : ad134 = ad136 := (by injection e136)
          replace p136 := eq_true p136
          replace q136 := eq_true q136
          go_wp2
          repeat (go_quiet (fail); try go_wp2)
          go_ret
          exact ⟨by first | rfl | (simp; done) | (simp [*]; done), by repeat (first | exact Drawn0.refl _ | apply Drawn0.step)⟩
         ·rw [if_neg c9] at H
          have c9b0 : decide ((rd l0 x5_1) < (rd l1 x5_1)) = false := decide_eq_false c9
          clear c9
          obtain rfl := Option.some.inj H
          have p133 : 0 ≤ (x5_1 : Int) := of_decide_eq_true aS_
          have q133 : x5_1 < (l0.length : Int) := of_decide_eq_true aS_
          obtain ⟨ad133, e133, hx133_0⟩ := Kd.at_int HR0.out x5_1 p133 q133
          cases e133
          replace p133 := eq_true p133
          replace q133 := eq_true q133
          have p134 : 0 ≤ (x5_1 : Int) := of_decide_eq_true aS_
          have q134 : x5_1 < (l1.length : Int) := of_decide_eq_true aS_
          obtain ⟨ad134, e134, hx134_0⟩ := Kd.at_int HR1.out x5_1 p134 q134
          cases e134
          replace p134 := eq_true p134
          replace q134 := eq_true q134
          have p135 : 0 ≤ (x5_1 : Int) := of_decide_eq_true aS_
          have q135 : x5_1 < (l0.length : Int) := of_decide_eq_true aS_
          obtain ⟨ad135, e135, hx135_0⟩ := Kd.at_int HR0.out x5_1 p135 q135
          obtain rfl : ad133 = ad135 := (by injection e135)
          replace p135 := eq_true p135
          replace q135 := eq_true q135
          have p136 : 0 ≤ (x5_1 : Int) := of_decide_eq_true aS_
          have q136 : x5_1 < (l1.length : Int) := of_decide_eq_true aS_
          obtain ⟨ad136, e136, hx136_0⟩ := Kd.at_int HR1.out x5_1 p136 q136
          obtain rfl : ad134 = ad136 := (by injection e136)
          replace p136 := eq_true p136
          replace q136 := eq_true q136
          go_wp2
          repeat (go_quiet (fail); try go_wp2)
          go_ret
          exact ⟨by first | rfl | (simp; done) | (simp [*]; done), by repeat (first | exact Drawn0.refl _ | apply Drawn0.step)⟩
       ·rw [if_neg c7] at H
        exact absurd H (by simp)
      ·rw [if_neg c6] at H
       exact absurd H (by simp)
     ·rw [if_neg c5] at H
      exact absurd H (by simp)
    ·rw [if_neg c4] at H
     have c4b0 : decide (0 ≤ x5_1) = false := decide_eq_false c4
     clear c4
     obtain rfl := Option.some.inj H
     go_wp2
     repeat (go_quiet (fail); try go_wp2)
     go_ret
     exact ⟨by first | rfl | (simp; done) | (simp [*]; done), by repeat (first | exact Drawn0.refl _ | apply Drawn0.step)⟩
 ·rw [if_neg c3] at H
  have c3b0 : ((l0.length : Int) == (l1.length : Int)) = false := beq_eq_false_iff_ne.mpr c3
  have c3b1 : ((l0.length : Int) != (l1.length : Int)) = true := bne_iff_ne.mpr c3
  have c3b2 : (l0.length == l1.length) = false := by first | simpa using c3 | (simp at c3 ⊢; omega)
  replace H := Option.bind_eq_some_iff.mp H
  obtain ⟨t132, A100, H⟩ := H
  (try dsimp only at H)
  have A10 := A0_.mk A100
  clear A100
  obtain rfl := Option.some.inj H
  go_enter Tryd.func81, Tryd.ntmps81
  go_wp2_with (first | (go_at_call 62; (with_reducible refine (natural_sign.calls (wrap64 ((l0.length : Int) - (l1.length : Int))) t132 _ A10.out).mono ?_); rintro e w' ⟨rfl, ⟨nd, rfl⟩⟩; (try first | exact ⟨rfl, _, World.drewN_drewN _ _ _⟩ | exact ⟨rfl, _, Eq.trans (World.drewN_drewN _ _ _) (congrArg (World.drewN _) (Nat.add_assoc _ _ _))⟩)))
  repeat (go_quiet (first | (go_at_call 62; (with_reducible refine (natural_sign.calls (wrap64 ((l0.length : Int) - (l1.length : Int))) t132 _ A10.out).mono ?_); rintro e w' ⟨rfl, ⟨nd, rfl⟩⟩; (try first | exact ⟨rfl, _, World.drewN_drewN _ _ _⟩ | exact ⟨rfl, _, Eq.trans (World.drewN_drewN _ _ _) (congrArg (World.drewN _) (Nat.add_assoc _ _ _))⟩))); try go_wp2_with (first | (go_at_call 62; (with_reducible refine (natural_sign.calls (wrap64 ((l0.length : Int) - (l1.length : Int))) t132 _ A10.out).mono ?_); rintro e w' ⟨rfl, ⟨nd, rfl⟩⟩; (try first | exact ⟨rfl, _, World.drewN_drewN _ _ _⟩ | exact ⟨rfl, _, Eq.trans (World.drewN_drewN _ _ _) (congrArg (World.drewN _) (Nat.add_assoc _ _ _))⟩))))
  go_ret
  exact ⟨by first | rfl | (simp; done) | (simp [*]; done), by repeat (first | exact Drawn0.refl _ | apply Drawn0.step)⟩
def natural_limbs_trim.l0 : Nat → List Int → Int → Option (List Int)
 | 0, _, _ => none
 | k + 1, x0, x3 => if x3 > 0 then (if 0 ≤ (wrap64 (x3 - 1)) then (if (wrap64 (x3 - 1)) < (x0.length : Int) then (if (rd x0 (wrap64 (x3 - 1))) = 0 then (natural_limbs_trim.l0 k x0 (wrap64 (x3 - 1))) else (if 0 ≤ x3 then (if x3 ≤ (x0.length : Int) then (some (x0.take (x3 : Int).toNat)) else (none)) else (none))) else (none)) else (none)) else (if 0 ≤ x3 then (if x3 ≤ (x0.length : Int) then (some (x0.take (x3 : Int).toNat)) else (none)) else (none))
def natural_limbs_trim.f (k : Nat) (l0 : List Int) : Option (List Int) := natural_limbs_trim.l0 k l0 (l0.length : Int)
theorem natural_limbs_trim.mono_l : ∀ k, (∀ y0 y1, LeO (natural_limbs_trim.l0 k y0 y1) (natural_limbs_trim.l0 (k + 1) y0 y1))
 | 0 => fun _ _ r h => by simp [natural_limbs_trim.l0] at h
 | k + 1 => by
  have ih0 := natural_limbs_trim.mono_l k
  ·intro y0 y1
   unfold natural_limbs_trim.l0
   repeat' first
   | (with_reducible exact ih0 _ _)
   | (with_reducible exact LeO.refl _)
   | (with_reducible exact LeO.none _)
   | (with_reducible refine LeO.ite ?_ ?_)
   | (with_reducible refine LeO.bind ?_ (fun _ => ?_))
theorem natural_limbs_trim.mono : ∀ a0 k, LeO (natural_limbs_trim.f k a0) (natural_limbs_trim.f (k + 1) a0) := by
 intro a0 k
 have ih0 := natural_limbs_trim.mono_l k
 unfold natural_limbs_trim.f
 repeat' first
   | (with_reducible exact ih0 _ _)
   | (with_reducible exact LeO.refl _)
   | (with_reducible exact LeO.none _)
   | (with_reducible refine LeO.ite ?_ ?_)
   | (with_reducible refine LeO.bind ?_ (fun _ => ?_))
set_option maxHeartbeats 8000000 in
set_option maxRecDepth 100000 in
theorem natural_limbs_trim.calls (k : Nat) (P0_ : Nat → Prop) (u9000_ : Value) (l0 : List Int) (r : List Int) (w0 w : World) (hB : Below w0.heap.size w0 w) (ho0 : Kd.R (Kd.int .u32) 89 w w0.heap.size P0_ u9000_ l0) (h : natural_limbs_trim.f k l0 = some r) :
  Calls Tryd.prog 79 #[u9000_] w fun e w' => ∃ v0_ : Value, e = .returned (v0_) ∧ Kd.R (Kd.int .u32) 89 w' w0.heap.size (fun k_ => (P0_ k_ ∨ w.heap.size ≤ k_)) v0_ r ∧ Below w0.heap.size w0 w' ∧ Kept w w' (fun k_ => P0_ k_) := by
 have HO0 := A0_.mk (show Kd.R (Kd.int .u32) 89 w w0.heap.size (fun k_ => (P0_ k_ ∨ w.heap.size ≤ k_)) u9000_ l0 from Kd.R_mono ho0 (fun k_ hk => (.inl hk)))
 have HK := A0_.mk (Kept.refl w (fun k_ => P0_ k_))
 have HW0 := A0_.mk hB.size
 have HB := A0_.mk hB
 clear hB
 have H : (natural_limbs_trim.l0 k l0 (l0.length : Int)) = some r := h
 clear h
 have H' := A0_.mk H
 clear H
 obtain ⟨Ao2, co2, eo2⟩ := Kd.R_slice HO0.out
 subst eo2
 go_enter Tryd.func79, Tryd.ntmps79
 go_wp2
 go_loopg [3] k (fun kq v3 w' => ∃ (x3_1 : Int), v3 = .int .i64 x3_1 ∧ A0_ (natural_limbs_trim.l0 kq l0 x3_1 = some r) ∧ A0_ (kq ≤ k) ∧ A0_ (Kd.R (Kd.int .u32) 89 w' w0.heap.size (fun k_ => (P0_ k_ ∨ w.heap.size ≤ k_)) (.slice Ao2 l0.length co2) l0) ∧ A0_ (Kept w w' (fun k_ => P0_ k_)) ∧ A0_ (Below w0.heap.size w0 w'))
 case atStart => exact ⟨((l0.length : Int)), (by first | rfl | (simp; done) | (simp [*]; done)), H', ⟨Nat.le_refl _⟩, ⟨by (with_reducible repeat (first | apply Kd.R_alloc | apply Kd.R_drewN | apply Kd.R_drew)); exact HO0.out⟩, ⟨by repeat (first | (with_reducible first | exact HK.out | apply Kept.alloc | apply Kept.drewN | apply Kept.drew) | exact HK.out)⟩, ⟨xB_ HB⟩⟩
 case round =>
  clear H'
  try clear p2
  obtain ⟨x3_1, rfl, HA, HK1, HO_0, HK, HB⟩ := hrel
  cases gk with
  | zero => exact absurd HA.out (by simp [natural_limbs_trim.l0])
  | succ k1 =>
   have H := HA.out
   clear HA
   simp only [natural_limbs_trim.l0] at H
   by_cases c3 : x3_1 > 0
   ·rw [if_pos c3] at H
    have c3b0 : decide (0 < x3_1) = true := decide_eq_true c3
    clear c3
    obtain ⟨ji4, hji4⟩ : ∃ j_ : Int, (wrap64 (x3_1 - 1)) = j_ := ⟨_, rfl⟩
    replace H : (if 0 ≤ (ji4) then (if (ji4) < (l0.length : Int) then (if (rd l0 (ji4)) = 0 then (natural_limbs_trim.l0 k1 l0 ji4) else (if 0 ≤ x3_1 then (if x3_1 ≤ (l0.length : Int) then (some (l0.take (x3_1 : Int).toNat)) else (none)) else (none))) else (none)) else (none)) = some r := by first | (rw [hji4] at H; exact H) | (simp only [hji4] at H ⊢; exact H)
    have hji4w : (IntKind.i64.wrap (x3_1 - 1)) = ji4 := (i64_w _).trans hji4
    by_cases c5 : 0 ≤ (ji4)
    ·rw [if_pos c5] at H
     have c5b0 : decide (0 ≤ (ji4)) = true := decide_eq_true c5
     clear c5
     by_cases c6 : (ji4) < (l0.length : Int)
     ·rw [if_pos c6] at H
      have c6b0 : decide ((ji4) < (l0.length : Int)) = true := decide_eq_true c6
      clear c6
      by_cases c7 : (rd l0 (ji4)) = 0
      ·rw [if_pos c7] at H
       have c7b0 : ((rd l0 (ji4)) == 0) = true := beq_iff_eq.mpr c7
       have c7b1 : ((rd l0 (ji4)) != 0) = false := bne_eq_false_iff_eq.mpr c7
       clear c7
       have H' := A0_.mk H
       clear H
       have p111 : 0 ≤ ((ji4) : Int) := of_decide_eq_true aS_
       have q111 : (ji4) < (l0.length : Int) := of_decide_eq_true aS_
       obtain ⟨ad111, e111, hx111_0⟩ := Kd.at_int (Kd.R_reads' HO_0.out).2.2 (ji4) p111 q111
       cases e111
       replace p111 := eq_true p111
       replace q111 := eq_true q111
       go_wp2
       (try simp only [add_plain])
       go_roundg k1
       case measure => have := HK1.out; omega
       case rel => exact ⟨(ji4), (by first | rfl | (simp; done) | (simp only [← hji4] <;> (first | rfl | simp)) | (simp [*]; done)), H', ⟨by have := HK1.out; omega⟩, ⟨by (with_reducible repeat (first | apply Kd.R_alloc | apply Kd.R_drewN | apply Kd.R_drew)); exact HO_0.out⟩, ⟨by repeat (first | (with_reducible first | exact HK.out | apply Kept.alloc | apply Kept.drewN | apply Kept.drew) | exact HK.out)⟩, ⟨xB_ HB⟩⟩
      ·rw [if_neg c7] at H
       have c7b0 : ((rd l0 (ji4)) == 0) = false := beq_eq_false_iff_ne.mpr c7
       have c7b1 : ((rd l0 (ji4)) != 0) = true := bne_iff_ne.mpr c7
       by_cases c8 : 0 ≤ x3_1
       ·rw [if_pos c8] at H
        have c8b0 := eq_true c8
        have c8b1 : decide (0 ≤ x3_1) = true := decide_eq_true c8
        clear c8
        by_cases c9 : x3_1 ≤ (l0.length : Int)
        ·rw [if_pos c9] at H
         have c9b0 := eq_true c9
         have c9b1 : decide (x3_1 ≤ (l0.length : Int)) = true := decide_eq_true c9
         clear c9
         obtain ⟨y112, hy112⟩ : ∃ y_ : List Int, y_ = (l0.take (x3_1 : Int).toNat) := ⟨_, rfl⟩
         replace H : (some y112) = some r := by first | (rw [hy112]; with_reducible exact H) | (have H2_ := (Option.bind_some _ _).symm.trans H; rw [hy112]; with_reducible exact H2_) | (have H2_ := (Option.bind_some _ _).symm.trans H; with_reducible exact H2_) | with_reducible exact H | (rw [hy112]; exact H) | exact H
         have Ny112 := A0_.mk hy112
         clear hy112
         obtain rfl := Option.some.inj H
         have p111 : 0 ≤ ((ji4) : Int) := of_decide_eq_true aS_
         have q111 : (ji4) < (l0.length : Int) := of_decide_eq_true aS_
         obtain ⟨ad111, e111, hx111_0⟩ := Kd.at_int (Kd.R_reads' HO_0.out).2.2 (ji4) p111 q111
         cases e111
         replace p111 := eq_true p111
         replace q111 := eq_true q111
         have q10 : (x3_1 : Int) ≤ ((l0.length : Int) : Int) := of_decide_eq_true aS_
         obtain ⟨i010, hi010, _, hsz10, _⟩ := info_parts info89
         have hcut10 := cut_to (P := Tryd.prog) 87 89 .i64 Tryd.underlying87 hi010 (some ad111) l0.length co2 x3_1 (of_decide_eq_true aS_) q10 (Kd.R_reads' HO_0.out).2.1
         have hr10 := Kd.R_take (m := (x3_1 : Int).toNat) HO_0.out (by omega)
         have hy10 : y112.length = (x3_1 : Int).toNat := (by rw [Ny112.out, List.length_take]; omega)
         rw [← Ny112.out] at hr10
         rw [← hy10] at hr10 hcut10
         clear hy10 hi010 hsz10 HO_0
         have HO114 := A0_.mk hr10
         clear hr10
         replace q10 := eq_true q10
         go_wp2
         go_ret
         exact ⟨_, by first | rfl | (simp [errW_none, errW_some] <;> rfl) | (simp only [← hji4]; first | rfl | (simp [errW_none, errW_some] <;> rfl)) | (simp [*, errW_none, errW_some] <;> rfl), by (with_reducible repeat (first | apply Kd.R_alloc | apply Kd.R_drewN | apply Kd.R_drew)); exact HO114.out, xB_ HB, by repeat (first | (with_reducible first | exact HK.out | apply Kept.alloc | apply Kept.drewN | apply Kept.drew) | exact HK.out)⟩
        ·rw [if_neg c9] at H
         exact absurd H (by simp)
       ·rw [if_neg c8] at H
        exact absurd H (by simp)
     ·rw [if_neg c6] at H
      exact absurd H (by simp)
    ·rw [if_neg c5] at H
     exact absurd H (by simp)
   ·rw [if_neg c3] at H
    have c3b0 : decide (0 < x3_1) = false := decide_eq_false c3
    clear c3
    by_cases c11 : 0 ≤ x3_1
    ·rw [if_pos c11] at H
     have c11b0 := eq_true c11
     have c11b1 : decide (0 ≤ x3_1) = true := decide_eq_true c11
     clear c11
     by_cases c12 : x3_1 ≤ (l0.length : Int)
     ·rw [if_pos c12] at H
      have c12b0 := eq_true c12
      have c12b1 : decide (x3_1 ≤ (l0.length : Int)) = true := decide_eq_true c12
      clear c12
      obtain ⟨y115, hy115⟩ : ∃ y_ : List Int, y_ = (l0.take (x3_1 : Int).toNat) := ⟨_, rfl⟩
      replace H : (some y115) = some r := by first | (rw [hy115]; with_reducible exact H) | (have H2_ := (Option.bind_some _ _).symm.trans H; rw [hy115]; with_reducible exact H2_) | (have H2_ := (Option.bind_some _ _).symm.trans H; with_reducible exact H2_) | with_reducible exact H | (rw [hy115]; exact H) | exact H
      have Ny115 := A0_.mk hy115
      clear hy115
      obtain rfl := Option.some.inj H
      have q13 : (x3_1 : Int) ≤ ((l0.length : Int) : Int) := of_decide_eq_true aS_
      obtain ⟨i013, hi013, _, hsz13, _⟩ := info_parts info89
      have hcut13 := cut_to (P := Tryd.prog) 87 89 .i64 Tryd.underlying87 hi013 Ao2 l0.length co2 x3_1 (of_decide_eq_true aS_) q13 (Kd.R_reads' HO_0.out).2.1
      have hr13 := Kd.R_take (m := (x3_1 : Int).toNat) HO_0.out (by omega)
      have hy13 : y115.length = (x3_1 : Int).toNat := (by rw [Ny115.out, List.length_take]; omega)
      rw [← Ny115.out] at hr13
      rw [← hy13] at hr13 hcut13
      clear hy13 hi013 hsz13 HO_0
      have HO117 := A0_.mk hr13
      clear hr13
      replace q13 := eq_true q13
      go_wp2
      go_ret
      exact ⟨_, rE_, by (with_reducible repeat (first | apply Kd.R_alloc | apply Kd.R_drewN | apply Kd.R_drew)); exact HO117.out, xB_ HB, by repeat (first | (with_reducible first | exact HK.out | apply Kept.alloc | apply Kept.drewN | apply Kept.drew) | exact HK.out)⟩
     ·rw [if_neg c12] at H
      exact absurd H (by simp)
    ·rw [if_neg c11] at H
     exact absurd H (by simp)
def natural_divideSmall.l0 : Nat → List Int → Int → List Int → Int → Int → Option (List Int × Int)
 | 0, _, _, _, _, _ => none
 | k + 1, x0, x1, x6, x7, x8 => if x8 ≥ 0 then (if 0 ≤ x8 then (if x8 < (x0.length : Int) then (if (IntKind.u64.wrap (x1)) = 0 then (none) else (if x8 < (x6.length : Int) then (natural_divideSmall.l0 k x0 x1 (x6.set (x8 : Int).toNat ((IntKind.u64.wrap (Int.tdiv (Go.bits .or .u64 (IntKind.u64.wrap (x7 * 4294967296)) (IntKind.u64.wrap (rd x0 x8))) (IntKind.u64.wrap (x1)))) % 4294967296)) (Int.tmod (Go.bits .or .u64 (IntKind.u64.wrap (x7 * 4294967296)) (IntKind.u64.wrap (rd x0 x8))) (IntKind.u64.wrap (x1))) (wrap64 (x8 - 1))) else (none))) else (none)) else (none)) else ((natural_limbs_trim.f k x6).bind fun t142 => (some (t142, (x7) % 4294967296)))
def natural_divideSmall.f (k : Nat) (l0 : List Int) (a1 : Int) : Option (List Int × Int) := if 0 ≤ (l0.length : Int) then (if ((l0.length : Int) : Int).toNat ≤ 70368744177664 then (natural_divideSmall.l0 k l0 a1 (List.replicate ((l0.length : Int) : Int).toNat 0) 0 (wrap64 ((l0.length : Int) - 1))) else (none)) else (none)
theorem natural_divideSmall.mono_l : ∀ k, (∀ y0 y1 y2 y3 y4, LeO (natural_divideSmall.l0 k y0 y1 y2 y3 y4) (natural_divideSmall.l0 (k + 1) y0 y1 y2 y3 y4))
 | 0 => fun _ _ _ _ _ r h => by simp [natural_divideSmall.l0] at h
 | k + 1 => by
  have ih0 := natural_divideSmall.mono_l k
  ·intro y0 y1 y2 y3 y4
   unfold natural_divideSmall.l0
   repeat' first
   | (with_reducible exact ih0 _ _ _ _ _)
   | (with_reducible exact natural_limbs_trim.mono _ _)
   | (with_reducible exact LeO.refl _)
   | (with_reducible exact LeO.none _)
   | (with_reducible refine LeO.ite ?_ ?_)
   | (with_reducible refine LeO.bind ?_ (fun _ => ?_))
theorem natural_divideSmall.mono : ∀ a0 a1 k, LeO (natural_divideSmall.f k a0 a1) (natural_divideSmall.f (k + 1) a0 a1) := by
 intro a0 a1 k
 have ih0 := natural_divideSmall.mono_l k
 unfold natural_divideSmall.f
 repeat' first
   | (with_reducible exact ih0 _ _ _ _ _)
   | (with_reducible exact natural_limbs_trim.mono _ _)
   | (with_reducible exact LeO.refl _)
   | (with_reducible exact LeO.none _)
   | (with_reducible refine LeO.ite ?_ ?_)
   | (with_reducible refine LeO.bind ?_ (fun _ => ?_))
set_option maxHeartbeats 8000000 in
set_option maxRecDepth 100000 in
theorem natural_divideSmall.calls (k : Nat) (A0 : Option Addr) (c0 : Nat) (l0 : List Int) (a1 : Int) (r1 : List Int) (r2 : Int) (w : World) (hr0 : Kd.C (Kd.int .u32) w A0 l0.length l0) (hc0 : l0.length ≤ c0) (h : natural_divideSmall.f k l0 a1 = some (r1, r2)) :
  Calls Tryd.prog 105 #[.slice A0 l0.length c0, .int .u32 a1] w fun e w' => ∃ v0_ : Value, e = .returned (.tuple #[v0_, .int .u32 r2]) ∧ Kd.R (Kd.int .u32) 89 w' w.heap.size (fun _ => True) v0_ r1 ∧ Below w.heap.size w w' := by
 have HR0 := A0_.mk hr0
 have HC0 := A0_.mk hc0
 clear hr0 hc0
 have HB := A0_.mk (Below.refl w.heap.size w)
 have H := h
 unfold natural_divideSmall.f at H
 clear h
 by_cases c3 : 0 ≤ (l0.length : Int)
 ·rw [if_pos c3] at H
  have c3b0 := eq_true c3
  have c3b1 : decide (0 ≤ (l0.length : Int)) = true := decide_eq_true c3
  clear c3
  by_cases c4 : ((l0.length : Int) : Int).toNat ≤ 70368744177664
  ·rw [if_pos c4] at H
   have c4b0 := eq_true c4
   have c4b1 : decide (((l0.length : Int) : Int).toNat ≤ 70368744177664) = true := decide_eq_true c4
   clear c4
   obtain ⟨y137, hy137⟩ : ∃ y_ : List Int, y_ = (List.replicate ((l0.length : Int) : Int).toNat 0) := ⟨_, rfl⟩
   replace H : (natural_divideSmall.l0 k l0 a1 y137 0 (wrap64 ((l0.length : Int) - 1))) = some (r1, r2) := by first | (rw [hy137]; with_reducible exact H) | (have H2_ := (Option.bind_some _ _).symm.trans H; rw [hy137]; with_reducible exact H2_) | (have H2_ := (Option.bind_some _ _).symm.trans H; with_reducible exact H2_) | with_reducible exact H | (rw [hy137]; exact H) | exact H
   have Ny137 := A0_.mk hy137
   clear hy137
   have H' := A0_.mk H
   clear H
   go_enter Tryd.func105, Tryd.ntmps105
   go_wp2_with (first | ((with_reducible refine gD_ (N := 12) rfl ?_); refine Kd.R_make (Kd.int .u32) _ 89 rfl (N := 12) rfl 87 _ _ rfl (l0.length : Int) rfl rfl Tryd.underlying87 (.int .u32 0) 4 info89 rfl (by decide) (by omega) 0 (ok := fun _ => True) (okp := fun _ => True) rfl (fun _ hk => hk) trivial (of_decide_eq_true aS_) (Nat.le_trans (Nat.mul_le_mul_right _ (of_decide_eq_true aS_ : (l0.length : Int).toNat ≤ 70368744177664)) (by omega)) (Below.refl _ _) (Nat.le_refl _) ?_; intro v138 w5 ho6 hb hg_ hnew_; clear hg_ hnew_; (first | rw [← Ny137.out] at ho6 | (simp only [Int.reduceToNat] at ho6; rw [← Ny137.out] at ho6)); have n0_ := A0_.mk (Kd.R_lower ho6 (bZ_ (xB_ HB))); have n1_ := A0_.mk (bT_ (xB_ HB) hb); clear HB; have HO139 := n0_; have HB := n1_; clear n0_ n1_; clear hb ho6))
   go_loopg [7, 8] k (fun kq v7 v8 w' => ∃ (x6_1 : List Int) (x7_1 : Int) (x8_1 : Int), v7 = .int .u64 x7_1 ∧ v8 = .int .i64 x8_1 ∧ A0_ (natural_divideSmall.l0 kq l0 a1 x6_1 x7_1 x8_1 = some (r1, r2)) ∧ A0_ (kq ≤ k) ∧ A0_ (Kd.R (Kd.int .u32) 89 w' w.heap.size (fun _ => True) v138 x6_1) ∧ A0_ (Below w.heap.size w w'))
   case atStart => exact ⟨(y137), (0), (wrap64 ((l0.length : Int) - 1)), (by first | rfl | (simp; done) | (simp [*]; done)), (by first | rfl | (simp; done) | (simp [*]; done)), H', ⟨Nat.le_refl _⟩, ⟨by (with_reducible repeat (first | apply Kd.R_alloc | apply Kd.R_drewN | apply Kd.R_drew)); exact HO139.out⟩, ⟨xB_ HB⟩⟩
   case round =>
    clear H'
    try clear c1
    try clear p2
    try clear c3
    try clear c3b0
    try clear c3b1
    try clear c4
    try clear c4b0
    try clear c4b1
    try clear p6
    obtain ⟨x6_1, x7_1, x8_1, rfl, rfl, HA, HK1, HO_6, HB⟩ := hrel
    cases gk with
    | zero => exact absurd HA.out (by simp [natural_divideSmall.l0])
    | succ k1 =>
     have H := HA.out
     clear HA
     simp only [natural_divideSmall.l0] at H
     by_cases c7 : x8_1 ≥ 0
     ·rw [if_pos c7] at H
      have c7b0 : decide (0 ≤ x8_1) = true := decide_eq_true c7
      clear c7
      by_cases c8 : 0 ≤ x8_1
      ·rw [if_pos c8] at H
       have c8b0 : decide (0 ≤ x8_1) = true := decide_eq_true c8
       clear c8
       by_cases c9 : x8_1 < (l0.length : Int)
       ·rw [if_pos c9] at H
        have c9b0 : decide (x8_1 < (l0.length : Int)) = true := decide_eq_true c9
        clear c9
        by_cases c10 : (IntKind.u64.wrap (a1)) = 0
        ·rw [if_pos c10] at H
         exact absurd H (by simp)
        ·rw [if_neg c10] at H
         have c10b0 : ((IntKind.u64.wrap (a1)) == 0) = false := beq_eq_false_iff_ne.mpr c10
         have c10b1 : ((IntKind.u64.wrap (a1)) != 0) = true := bne_iff_ne.mpr c10
         by_cases c11 : x8_1 < (x6_1.length : Int)
         ·rw [if_pos c11] at H
          have c11b0 : decide (x8_1 < (x6_1.length : Int)) = true := decide_eq_true c11
          clear c11
          obtain ⟨y141, hy141⟩ : ∃ y_ : List Int, y_ = (x6_1.set (x8_1 : Int).toNat ((IntKind.u64.wrap (Int.tdiv (Go.bits .or .u64 (IntKind.u64.wrap (x7_1 * 4294967296)) (IntKind.u64.wrap (rd l0 x8_1))) (IntKind.u64.wrap (a1)))) % 4294967296)) := ⟨_, rfl⟩
          replace H : (natural_divideSmall.l0 k1 l0 a1 y141 (Int.tmod (Go.bits .or .u64 (IntKind.u64.wrap (x7_1 * 4294967296)) (IntKind.u64.wrap (rd l0 x8_1))) (IntKind.u64.wrap (a1))) (wrap64 (x8_1 - 1))) = some (r1, r2) := by first | (rw [hy141]; with_reducible exact H) | (have H2_ := (Option.bind_some _ _).symm.trans H; rw [hy141]; with_reducible exact H2_) | (have H2_ := (Option.bind_some _ _).symm.trans H; with_reducible exact H2_) | with_reducible exact H | (rw [hy141]; exact H) | exact H
          have Ny141 := A0_.mk hy141
          clear hy141
          have H' := A0_.mk H
          clear H
          have p140 : 0 ≤ (x8_1 : Int) := of_decide_eq_true aS_
          have q140 : x8_1 < (l0.length : Int) := of_decide_eq_true aS_
          obtain ⟨ad140, e140, hx140_0⟩ := Kd.at_int HR0.out x8_1 p140 q140
          cases e140
          (try replace hx140_0 := (HB.out.cell (World.block_lt_of_cell? w _ hx140_0)).trans hx140_0)
          replace p140 := eq_true p140
          replace q140 := eq_true q140
          have p12 : 0 ≤ (x8_1 : Int) := of_decide_eq_true aS_
          have q12 : (x8_1 : Int) < ((x6_1.length : Int) : Int) := of_decide_eq_true aS_
          obtain ⟨go12, co12, eo12, gb12, gl12, cl12, HG12⟩ := Kd.R_form HO_6.out (by omega)
          (first | cases eo12 | (injection eo12 with ea_ en_ ec_; (first | subst ea_ | (injection ea_ with ea_; subst ea_)); subst ec_; clear en_))
          have GB12 := A0_.mk gb12
          have GG12 := A0_.mk HG12
          clear gb12 gl12 HG12
          obtain ⟨hx12_0, hf12_0⟩ := Kd.R_celln 0 HO_6.out (x8_1 : Int) p12 q12
          replace p12 := eq_true p12
          replace q12 := eq_true q12
          have HP13 := Kd.R_putg HO_6.out (x8_1 : Int) ((IntKind.u64.wrap (Int.tdiv (Go.bits .or .u64 (IntKind.u64.wrap (x7_1 * 4294967296)) (IntKind.u64.wrap (rd l0 x8_1))) (IntKind.u64.wrap (a1)))) % 4294967296)
          go_wp2_with (first | ((with_reducible refine gate_store (t := 89) (p := 35) rfl ?_); refine store_event (t := 89) (p := 35) (v := ?vo_w14) (w1 := (wr.setCell ⟨go12, (x8_1 : Int).toNat, none⟩ (.int .u32 ((IntKind.u64.wrap (Int.tdiv (Go.bits .or .u64 (IntKind.u64.wrap (x7_1 * 4294967296)) (IntKind.u64.wrap (rd l0 x8_1))) (IntKind.u64.wrap (a1)))) % 4294967296)))) ?hg ?ho ?hn ?hr ?_; (case ho => rfl); (case hg => rfl); (case hn => rfl); (case hr => first | (go_simp; done) | (go_simp; rfl)); intro w14 hw; have hg : wr.grownBy w14 (some go12) := (by rw [hw]; exact HP13.2); have hp_ : Kd.R (Kd.int .u32) 89 w14 w.heap.size (fun _ => True) (.slice (some ⟨go12, 0, none⟩) x6_1.length co12) y141 := (by rw [hw, Ny141.out]; exact HP13.1); clear HP13; have n0_ := A0_.mk (hp_); have n1_ := A0_.mk ((by rw [hw]; exact bS_ (HB.out) GB12.out : Below w.heap.size w w14)); clear HO_6 HB; have HO_6 := n0_; have HB := n1_; clear n0_ n1_; clear hg hw hp_))
          (try simp only [add_plain])
          go_roundg k1
          case measure => have := HK1.out; omega
          case rel => exact ⟨(y141), (Int.tmod (Go.bits .or .u64 (IntKind.u64.wrap (x7_1 * 4294967296)) (IntKind.u64.wrap (rd l0 x8_1))) (IntKind.u64.wrap (a1))), (wrap64 (x8_1 - 1)), (by first | rfl | (simp; done) | (simp [*]; done)), (by first | rfl | (simp; done) | (simp [*]; done)), H', ⟨by have := HK1.out; omega⟩, ⟨by (with_reducible repeat (first | apply Kd.R_alloc | apply Kd.R_drewN | apply Kd.R_drew)); exact HO_6.out⟩, ⟨xB_ HB⟩⟩
         ·rw [if_neg c11] at H
          exact absurd H (by simp)
       ·rw [if_neg c9] at H
        exact absurd H (by simp)
      ·rw [if_neg c8] at H
       exact absurd H (by simp)
     ·rw [if_neg c7] at H
      have c7b0 : decide (0 ≤ x8_1) = false := decide_eq_false c7
      clear c7
      replace H := Option.bind_eq_some_iff.mp H
      obtain ⟨t142, A150, H⟩ := H
      (try dsimp only at H)
      have A15 := A0_.mk A150
      clear A150
      simp only [Option.some.injEq, Prod.mk.injEq] at H
      obtain ⟨rfl, rfl⟩ := H
      obtain ⟨Ao16, co16, eo16⟩ := Kd.R_slice HO_6.out
      subst eo16
      go_wp2_with (first | ((with_reducible refine gC_ (f := 79) rfl ?_); refine goesL_ (some 41) rfl rfl Tryd.func79 (by kernel_rfl) rfl #[.slice Ao16 x6_1.length co16] rfl mp_ ?_; (with_reducible refine (natural_limbs_trim.calls k1 (fun k_ => some k_ = (.slice Ao16 x6_1.length co16 : Value).ownBlock) (.slice Ao16 x6_1.length co16) x6_1 t142 w _ ?side1 ?side2 A15.out).mono ?_); (case side1 => repeat (first | (with_reducible first | exact HB.out | apply bA_ | apply pB_ | apply b1_) | exact HB.out)); (case side2 => exact Kd.R_tight rfl HO_6.out); rintro e w17 ⟨v143, rfl, ho0, hb, hkp⟩; refine ⟨_, rfl, ?_⟩; have n0_ := A0_.mk (Kd.R_mono (ok' := fun k_ => True) ho0 (fun k_ hk_ => trivial)); have n1_ := A0_.mk (hb); clear HB HO_6; have HO144 := n0_; have HB := n1_; clear n0_ n1_; (try clear hb); (try clear hkp); (try clear ho0)))
      go_ret2
      exact ⟨_, rE_, by (with_reducible repeat (first | apply Kd.R_alloc | apply Kd.R_drewN | apply Kd.R_drew)); exact HO144.out, xB_ HB⟩
  ·rw [if_neg c4] at H
   exact absurd H (by simp)
 ·rw [if_neg c3] at H
  exact absurd H (by simp)
def natural_divide.f (k : Nat) (l0 : List Int) (l1 : List Int) : Option (List Int × List Int) := (natural_compare.f k l0 l1).bind fun t187 => (if t187 < 0 then (some (([] : List Int), l0)) else (if (l1.length : Int) = 1 then (if 0 < (l1.length : Int) then ((natural_divideSmall.f k l0 (rd l1 0)).bind fun bt189 => ((natural_limbs_trim.f k (([bt189.2] : List Int))).bind fun t196 => (some (bt189.1, t196)))) else (none)) else (none)))
theorem natural_divide.mono : ∀ a0 a1 k, LeO (natural_divide.f k a0 a1) (natural_divide.f (k + 1) a0 a1) := by
 intro a0 a1 k
 unfold natural_divide.f
 repeat' first
   | (with_reducible exact natural_compare.mono _ _ _)
   | (with_reducible exact natural_divideSmall.mono _ _ _)
   | (with_reducible exact natural_limbs_trim.mono _ _)
   | (with_reducible exact LeO.refl _)
   | (with_reducible exact LeO.none _)
   | (with_reducible refine LeO.ite ?_ ?_)
   | (with_reducible refine LeO.bind ?_ (fun _ => ?_))
set_option maxHeartbeats 8000000 in
set_option maxRecDepth 100000 in
theorem natural_divide.calls (k : Nat) (P0_ : Nat → Prop) (u9000_ : Value) (l0 : List Int) (A1 : Option Addr) (c1 : Nat) (l1 : List Int) (r1 : List Int) (r2 : List Int) (w0 w : World) (hB : Below w0.heap.size w0 w) (ho0 : Kd.R (Kd.int .u32) 89 w w0.heap.size P0_ u9000_ l0) (hr1 : ∀ W_, Kept w W_ (fun k_ => P0_ k_) → Kd.C (Kd.int .u32) W_ A1 l1.length l1) (hc1 : l1.length ≤ c1) (h : natural_divide.f k l0 l1 = some (r1, r2)) :
  Calls Tryd.prog 88 #[u9000_, .slice A1 l1.length c1] w fun e w' => ∃ v0_ v1_ : Value, e = .returned (.tuple #[v0_, v1_]) ∧ Kd.R (Kd.int .u32) 89 w' w0.heap.size (fun k_ => (P0_ k_ ∨ w.heap.size ≤ k_) ∧ some k_ ≠ (v1_ : Value).ownBlock) v0_ r1 ∧ Kd.R (Kd.int .u32) 89 w' w0.heap.size (fun k_ => (P0_ k_ ∨ w.heap.size ≤ k_) ∧ some k_ ≠ (v0_ : Value).ownBlock) v1_ r2 ∧ Below w0.heap.size w0 w' ∧ Kept w w' (fun k_ => P0_ k_) := by
 have HO0 := A0_.mk (show Kd.R (Kd.int .u32) 89 w w0.heap.size (fun k_ => (P0_ k_ ∨ w.heap.size ≤ k_)) u9000_ l0 from Kd.R_mono ho0 (fun k_ hk => (.inl hk)))
 have HR1 := A0_.mk hr1
 have HC1 := A0_.mk hc1
 clear hr1 hc1
 have HK := A0_.mk (Kept.refl w (fun k_ => P0_ k_))
 have HW0 := A0_.mk hB.size
 have HB := A0_.mk hB
 clear hB
 have H := h
 unfold natural_divide.f at H
 clear h
 replace H := Option.bind_eq_some_iff.mp H
 obtain ⟨t187, A30, H⟩ := H
 (try dsimp only at H)
 have A3 := A0_.mk A30
 clear A30
 by_cases c4 : t187 < 0
 ·rw [if_pos c4] at H
  have c4b0 : decide (t187 < 0) = true := decide_eq_true c4
  clear c4
  simp only [Option.some.injEq, Prod.mk.injEq] at H
  obtain ⟨rfl, rfl⟩ := H
  obtain ⟨Ao5, co5, eo5⟩ := Kd.R_slice HO0.out
  subst eo5
  go_enter Tryd.func88, Tryd.ntmps88
  go_wp2_with (first | ((with_reducible refine gC_ (f := 81) rfl ?_); refine goesL_ (some 16) rfl rfl Tryd.func81 (by kernel_rfl) rfl #[.slice Ao5 l0.length co5, .slice A1 l1.length c1] rfl mp_ ?_; (with_reducible refine (natural_compare.calls k _ _ l0 _ _ l1 t187 _ ?side1 ?side2 ?side3 ?side4 A3.out).mono ?_); (case side1 => repeat (first | exact (Kd.R_reads' HO0.out).2.2 | (with_reducible refine Kd.C_alloc ?_ _) | (with_reducible refine Kd.C_drewN ?_ _) | (with_reducible refine Kd.C_drew ?_))); (case side2 => exact (Kd.R_reads' HO0.out).2.1); (case side3 => exact Kd.C_kept_now HR1.out (by repeat (first | (with_reducible first | exact HK.out | apply Kept.alloc | apply Kept.drewN | apply Kept.drew) | exact HK.out))); (case side4 => exact HC1.out); rintro e w' ⟨rfl, ⟨nd, rfl⟩⟩; refine ⟨_, rfl, ?_⟩))
  go_ret2
  exact ⟨_, _, rE_, by first | exact Kd.R_nil _ _ _ _ _ | exact Kd.N_nil _ _ _ _ _ | exact Kd.V_nil _ _ _ _ _ | exact Kd.Q_nil _ _ _ _ _ | exact Kd.S_nil _ _ _ _ _, by (with_reducible repeat (first | apply Kd.R_alloc | apply Kd.R_drewN | apply Kd.R_drew)); exact Kd.R_mono HO0.out (fun _ hk => ⟨hk, (by simp [Value.ownBlock])⟩), xB_ HB, by repeat (first | (with_reducible first | exact HK.out | apply Kept.alloc | apply Kept.drewN | apply Kept.drew) | exact HK.out)⟩
 ·rw [if_neg c4] at H
  have c4b0 : decide (t187 < 0) = false := decide_eq_false c4
  clear c4
  by_cases c6 : (l1.length : Int) = 1
  ·rw [if_pos c6] at H
   have c6b0 : ((l1.length : Int) == 1) = true := beq_iff_eq.mpr c6
   have c6b1 : ((l1.length : Int) != 1) = false := bne_eq_false_iff_eq.mpr c6
   clear c6
   by_cases c7 : 0 < (l1.length : Int)
   ·rw [if_pos c7] at H
    have c7b0 : decide (0 < (l1.length : Int)) = true := decide_eq_true c7
    have c7b1 : decide (0 < l1.length) = true := decide_eq_true (by omega)
    clear c7
    replace H := Option.bind_eq_some_iff.mp H
    obtain ⟨⟨t189, t190⟩, A80, H⟩ := H
    (try dsimp only at H)
    have A8 := A0_.mk A80
    clear A80
    obtain ⟨y193, hy193⟩ : ∃ y_ : List Int, y_ = (([t190] : List Int)) := ⟨_, rfl⟩
    replace H : ((natural_limbs_trim.f k y193).bind fun t196 => (some (t189, t196))) = some (r1, r2) := by first | (rw [hy193]; with_reducible exact H) | (have H2_ := (Option.bind_some _ _).symm.trans H; rw [hy193]; with_reducible exact H2_) | (have H2_ := (Option.bind_some _ _).symm.trans H; with_reducible exact H2_) | with_reducible exact H | (rw [hy193]; exact H) | exact H
    have Ny193 := A0_.mk hy193
    clear hy193
    replace H := Option.bind_eq_some_iff.mp H
    obtain ⟨t196, A90, H⟩ := H
    (try dsimp only at H)
    have A9 := A0_.mk A90
    clear A90
    simp only [Option.some.injEq, Prod.mk.injEq] at H
    obtain ⟨rfl, rfl⟩ := H
    obtain ⟨Ao10, co10, eo10⟩ := Kd.R_slice HO0.out
    subst eo10
    go_enter Tryd.func88, Tryd.ntmps88
    go_wp2_with (first | ((with_reducible refine gC_ (f := 81) rfl ?_); refine goesL_ (some 16) rfl rfl Tryd.func81 (by kernel_rfl) rfl #[.slice Ao10 l0.length co10, .slice A1 l1.length c1] rfl mp_ ?_; (with_reducible refine (natural_compare.calls k _ _ l0 _ _ l1 t187 _ ?side1 ?side2 ?side3 ?side4 A3.out).mono ?_); (case side1 => repeat (first | exact (Kd.R_reads' HO0.out).2.2 | (with_reducible refine Kd.C_alloc ?_ _) | (with_reducible refine Kd.C_drewN ?_ _) | (with_reducible refine Kd.C_drew ?_))); (case side2 => exact (Kd.R_reads' HO0.out).2.1); (case side3 => exact Kd.C_kept_now HR1.out (by repeat (first | (with_reducible first | exact HK.out | apply Kept.alloc | apply Kept.drewN | apply Kept.drew) | exact HK.out))); (case side4 => exact HC1.out); rintro e w' ⟨rfl, ⟨nd, rfl⟩⟩; refine ⟨_, rfl, ?_⟩; have p188 : 0 ≤ (0 : Int) := (by omega); have q188 : 0 < (l1.length : Int) := of_decide_eq_true aS_; obtain ⟨ad188, e188, hx188_0⟩ := Kd.at_int (Kd.C_kept_now HR1.out HK.out) 0 p188 q188; cases e188; have qi188 : (0 < l1.length) = True := eq_true (by omega); (try rw [show ((0 : Int)).toNat = 0 from rfl] at hx188_0); (try rw [Addr.add_zero'] at hx188_0); replace p188 := eq_true p188; replace q188 := eq_true q188) | ((with_reducible refine gC_ (f := 105) rfl ?_); refine goesL_ (some 27) rfl rfl Tryd.func105 (by kernel_rfl) rfl #[.slice Ao10 l0.length co10, .int .u32 (rd l1 0)] rfl mp_ ?_; (with_reducible refine (natural_divideSmall.calls k _ _ l0 (rd l1 0) t189 t190 _ ?side1 ?side2 A8.out).mono ?_); (case side1 => repeat (first | exact (Kd.R_reads' HO0.out).2.2 | (with_reducible refine Kd.C_alloc ?_ _) | (with_reducible refine Kd.C_drewN ?_ _) | (with_reducible refine Kd.C_drew ?_))); (case side2 => exact (Kd.R_reads' HO0.out).2.1); rintro e w11 ⟨v191, rfl, ho0, hb⟩; refine ⟨_, rfl, ?_⟩; have n0_ := A0_.mk (Kd.R_elder' (xR_ HO0.out) (Kd.R_base ho0) hb); have n1_ := A0_.mk (Kd.R_lower (Kd.R_new' (Kd.R_newM (M := fun k_ => (P0_ k_ ∨ w.heap.size ≤ k_)) ho0 (by first | exact HK.out.1 | exact (show Kept w _ (fun k_ => P0_ k_) from by repeat (first | (with_reducible first | exact HK.out | apply Kept.alloc | apply Kept.drewN | apply Kept.drew) | exact HK.out)).1) (fun k_ h_ => .inr h_)) (Kd.R_lt (xR_ HO0.out))) (bZ_ (xB_ HB))); have n2_ := A0_.mk (Kept.below (S := (fun k_ => P0_ k_)) (by repeat (first | (with_reducible first | exact HK.out | apply Kept.alloc | apply Kept.drewN | apply Kept.drew) | exact HK.out)) hb); have n3_ := A0_.mk (bT_ (xB_ HB) hb); clear HO0 HK HB; have HO0 := n0_; have HO192 := n1_; have HK := n2_; have HB := n3_; clear n0_ n1_ n2_ n3_; (try clear hb); (try clear hb2); (try clear hk); (try clear hi); (try clear ho0)) | ((with_reducible refine gD_ (N := 32) rfl ?_); refine Kd.R_lit (Kd.int .u32) _ 89 ?hg (N := 32) ?hd (xs := ([t190] : List Int)) (inner := [.int .u32 t190]) (ok := fun _ => True) (okp := fun _ => True) ?hr ?hp (fun _ hk => hk) trivial (Below.refl _ _) (Nat.le_refl _) (by simp) ?_; (case hd => rfl); (case hg => rfl); (case hr => first | (go_simp; done) | (go_simp; rfl)); (case hp => exact (Reps.one (show Kd.M (Kd.int .u32) _ _ _ t190 [.int .u32 t190] from rfl) (Reps.none _ _))); intro v194 w12 ho13 hb hg_ hnew_; clear hg_ hnew_; (first | rw [← Ny193.out] at ho13 | (simp only [Int.reduceToNat] at ho13; rw [← Ny193.out] at ho13)); have n0_ := A0_.mk (Kd.R_elder' (xR_ HO0.out) (Kd.R_base ho13) hb); have n1_ := A0_.mk (Kd.R_elder' (xR_ HO192.out) (Kd.R_base ho13) hb); have n2_ := A0_.mk (Kd.R_lower (Kd.R_new' (Kd.R_new' (Kd.R_newM (M := fun k_ => (P0_ k_ ∨ w.heap.size ≤ k_)) ho13 (by first | exact HK.out.1 | exact (show Kept w _ (fun k_ => P0_ k_) from by repeat (first | (with_reducible first | exact HK.out | apply Kept.alloc | apply Kept.drewN | apply Kept.drew) | exact HK.out)).1) (fun k_ h_ => .inr h_)) (Kd.R_lt (xR_ HO0.out))) (Kd.R_lt (xR_ HO192.out))) (bZ_ (xB_ HB))); have n3_ := A0_.mk (Kept.below (S := (fun k_ => P0_ k_)) (by repeat (first | (with_reducible first | exact HK.out | apply Kept.alloc | apply Kept.drewN | apply Kept.drew) | exact HK.out)) hb); have n4_ := A0_.mk (bT_ (xB_ HB) hb); clear HO0 HO192 HK HB; have HO0 := n0_; have HO192 := n1_; have HO195 := n2_; have HK := n3_; have HB := n4_; clear n0_ n1_ n2_ n3_ n4_; clear hb ho13; obtain ⟨Ao14, co14, eo14⟩ := Kd.R_slice HO195.out; subst eo14) | ((with_reducible refine gC_ (f := 79) rfl ?_); refine goesL_ (some 33) rfl rfl Tryd.func79 (by kernel_rfl) rfl #[.slice Ao14 y193.length co14] rfl mp_ ?_; (with_reducible refine (natural_limbs_trim.calls k (fun k_ => some k_ = (.slice Ao14 y193.length co14 : Value).ownBlock) (.slice Ao14 y193.length co14) y193 t196 w0 _ ?side1 ?side2 A9.out).mono ?_); (case side1 => repeat (first | (with_reducible first | exact HB.out | apply bA_ | apply pB_ | apply b1_) | exact HB.out)); (case side2 => exact Kd.R_tight rfl HO195.out); rintro e w15 ⟨v197, rfl, ho0, hb, hkp⟩; refine ⟨_, rfl, ?_⟩; have n0_ := A0_.mk (Kd.R_mono (ok' := fun k_ => (P0_ k_ ∨ w.heap.size ≤ k_) ∧ some k_ ≠ (v191 : Value).ownBlock ∧ some k_ ≠ (v197 : Value).ownBlock) (Kd.R_keptB (HO0.out) hkp (fun k_ hk_ hs_ => (hk_.2) hs_)) (fun k_ hk_ => ⟨hk_.1.1.1, hk_.1.1.2, fun e_ => Or.elim (ho0.1 k_ e_.symm) (fun hs_ => hk_.2.1 hs_) (fun hn_ => Nat.not_le.2 hk_.2.2 hn_)⟩)); have n1_ := A0_.mk (Kd.R_mono (ok' := fun k_ => (P0_ k_ ∨ w.heap.size ≤ k_) ∧ some k_ ≠ (.slice Ao10 l0.length co10 : Value).ownBlock ∧ some k_ ≠ (v197 : Value).ownBlock) (Kd.R_keptB (HO192.out) hkp (fun k_ hk_ hs_ => (hk_.2) hs_)) (fun k_ hk_ => ⟨hk_.1.1.1.1, hk_.1.1.2, fun e_ => Or.elim (ho0.1 k_ e_.symm) (fun hs_ => hk_.2.1 hs_) (fun hn_ => Nat.not_le.2 hk_.2.2 hn_)⟩)); have n2_ := A0_.mk (Kd.R_mono (ok' := fun k_ => (P0_ k_ ∨ w.heap.size ≤ k_) ∧ some k_ ≠ (.slice Ao10 l0.length co10 : Value).ownBlock ∧ some k_ ≠ (v191 : Value).ownBlock) ho0 (fun k_ hk_ => ⟨Or.elim hk_ (fun hs_ => (HO195.out.1 k_ (hs_).symm).1.1.1) (fun hn_ => (.inr (Nat.le_trans (by first | exact HK.out.1 | exact (show Kept w _ (fun k_ => P0_ k_) from by repeat (first | (with_reducible first | exact HK.out | apply Kept.alloc | apply Kept.drewN | apply Kept.drew) | exact HK.out)).1) hn_))), Or.elim hk_ (fun hs_ => fun e_ => (((HO0.out).1 k_ e_.symm).2) hs_) (fun hn_ => (Kd.fresh' (Kd.R_lt (xR_ HO0.out)) k_ hn_)), Or.elim hk_ (fun hs_ => fun e_ => (((HO192.out).1 k_ e_.symm).2) hs_) (fun hn_ => (Kd.fresh' (Kd.R_lt (xR_ HO192.out)) k_ hn_))⟩)); have n3_ := A0_.mk (Kept.then_ (S := (fun k_ => P0_ k_)) (by repeat (first | (with_reducible first | exact HK.out | apply Kept.alloc | apply Kept.drewN | apply Kept.drew) | exact HK.out)) hkp (fun k_ hs_ => (fun e_ => (HO195.out.1 k_ e_.symm).1.1.1) hs_)); have n4_ := A0_.mk (hb); clear HO0 HO192 HK HB HO195; have HO0 := n0_; have HO192 := n1_; have HO198 := n2_; have HK := n3_; have HB := n4_; clear n0_ n1_ n2_ n3_ n4_; (try clear hb); (try clear hkp); (try clear ho0)))
    go_ret2
    exact ⟨_, _, rE_, by (with_reducible repeat (first | apply Kd.R_alloc | apply Kd.R_drewN | apply Kd.R_drew)); exact Kd.R_mono HO192.out (fun _ hk => ⟨hk.1, hk.2.2⟩), by (with_reducible repeat (first | apply Kd.R_alloc | apply Kd.R_drewN | apply Kd.R_drew)); exact Kd.R_mono HO198.out (fun _ hk => ⟨hk.1, hk.2.2⟩), xB_ HB, by repeat (first | (with_reducible first | exact HK.out | apply Kept.alloc | apply Kept.drewN | apply Kept.drew) | exact HK.out)⟩
   ·rw [if_neg c7] at H
    exact absurd H (by simp)
  ·rw [if_neg c6] at H
   exact absurd H (by simp)
end Go.Proofs.YtnegkpnhjgimcaaDoor.C
end
