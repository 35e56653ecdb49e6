/- The law SetoffWindow returns true for every input: a shorter suspect period never makes an obligation ineligible. The tied card, with no condition beyond the card's own. -/
import Derived.OpenShut
import Derived.Deep.Slices
import Derived.ChangeArms
import Derived.SevenTiedAt
import Derived.Test.YtnegkpnhjgimcaaDoorZSW4
section
namespace Go.Proofs.YtnegkpnhjgimcaaDoor.C
open Go.RowKit Go.Proofs.YtnegkpnhjgimcaaDoorW.PrintWords Go.Proofs.YtnegkpnhjgimcaaDoorW.PrintLast Go.Proofs.YtnegkpnhjgimcaaDoorW.PrintMore
attribute [local go_sem] max2_int min2_int max_two min_two max_three min_three max_four min_four
set_option linter.unusedVariables false
set_option linter.unusedSimpArgs false
def insolvencylaw14_SetoffWindow.f (k : Nat) (a0_0 : Int) (a0_1 : Int) (a0_2 : Int) (a0_3 : Int) (a0_4 : Int) (a1 : Int) (a2 : Int) (a3 : Int) : Option (Bool) := (insolvencylaw0_Obligations.f k (([(⟨a0_0, a0_1, a0_2, a0_3, a0_4⟩ : S46)] : List (S46)))).bind fun t876 => (if 0 < (t876.length : Int) then ((setoff_Eligible.f ((rd_T28 t876 0).f0) ((rd_T28 t876 0).f1) ((rd_T28 t876 0).f2.f0) ((rd_T28 t876 0).f2.f1) ((rd_T28 t876 0).f2.f2) ((rd_T28 t876 0).f3) ((rd_T28 t876 0).f4) ((rd_T28 t876 0).f5) (wrap64 (a1)) (wrap64 (a2))).bind fun t881 => (if (wrap64 ((wrap64 (a2)) + 1)) = 0 then (none) else ((setoff_Eligible.f ((rd_T28 t876 0).f0) ((rd_T28 t876 0).f1) ((rd_T28 t876 0).f2.f0) ((rd_T28 t876 0).f2.f1) ((rd_T28 t876 0).f2.f2) ((rd_T28 t876 0).f3) ((rd_T28 t876 0).f4) ((rd_T28 t876 0).f5) (wrap64 (a1)) (wrap64 ((wrap64 (a2)) - (Int.tmod (wrap64 (a3)) (wrap64 ((wrap64 (a2)) + 1)))))).bind fun t882 => ((insolvencylaw14_awake.f k).bind fun t883 => (if t883 = true then (if t881 = true then (some t882) else (some true)) else (none)))))) else (none))
def insolvencylaw14_SetoffWindow.T3 : Bool × List (List Nat × List Nat) := (true, [([], []), ([], []), ([1], [1]), ([], []), ([3], [3]), ([], []), ([5], [5]), ([], []), ([7], [7]), ([8], [8]), ([6, 9], [6, 9]), ([4, 10], [4, 10]), ([0, 2, 11], [0, 2, 11]), ([12, 12, 0, 1, 2, 3, 4, 5, 6, 7, 8, 9, 10, 11, 12], [12])])
def insolvencylaw14_SetoffWindow.B3 : List Nat := [0, 0, 2, 0, 8, 0, 32, 0, 128, 384, 992, 2040, 4095, 8191]
theorem insolvencylaw14_SetoffWindow.tab3 : rtab .any (opsOf Tryd.f8 3) = insolvencylaw14_SetoffWindow.T3 := by kernel_rfl
theorem insolvencylaw14_SetoffWindow.bits3 : waitsOk insolvencylaw14_SetoffWindow.T3.2 insolvencylaw14_SetoffWindow.B3 = true := by kernel_rfl
set_option maxHeartbeats 8000000 in
set_option maxRecDepth 100000 in
theorem insolvencylaw14_SetoffWindow.calls (k : Nat) (a0_0 : Int) (a0_1 : Int) (a0_2 : Int) (a0_3 : Int) (a0_4 : Int) (a1 : Int) (a2 : Int) (a3 : Int) (r : Bool) (w : World) (h : insolvencylaw14_SetoffWindow.f k a0_0 a0_1 a0_2 a0_3 a0_4 a1 a2 a3 = some r) :
  Calls Tryd.prog 8 #[.agg #[.int .u16 a0_0, .int .u16 a0_1, .int .u16 a0_2, .int .u16 a0_3, .int .u16 a0_4], .int .u8 a1, .int .u8 a2, .int .u8 a3] w fun e w' => e = .returned (.bool r) ∧ Below w.heap.size w w' := by
 have hu46 := Tryd.underlying46
 have hu28 := Tryd.underlying28
 have HB := A0_.mk (Below.refl w.heap.size w)
 have H : ((insolvencylaw0_Obligations.f k (([(⟨a0_0, a0_1, a0_2, a0_3, a0_4⟩ : S46)] : List (S46)))).bind fun t876 => (if 0 < (t876.length : Int) then ((setoff_Eligible.f ((rd_T28 t876 0).f0) ((rd_T28 t876 0).f1) ((rd_T28 t876 0).f2.f0) ((rd_T28 t876 0).f2.f1) ((rd_T28 t876 0).f2.f2) ((rd_T28 t876 0).f3) ((rd_T28 t876 0).f4) ((rd_T28 t876 0).f5) (wrap64 (a1)) (wrap64 (a2))).bind fun t881 => (if (wrap64 ((wrap64 (a2)) + 1)) = 0 then (none) else ((setoff_Eligible.f ((rd_T28 t876 0).f0) ((rd_T28 t876 0).f1) ((rd_T28 t876 0).f2.f0) ((rd_T28 t876 0).f2.f1) ((rd_T28 t876 0).f2.f2) ((rd_T28 t876 0).f3) ((rd_T28 t876 0).f4) ((rd_T28 t876 0).f5) (wrap64 (a1)) (wrap64 ((wrap64 (a2)) - (Int.tmod (wrap64 (a3)) (wrap64 ((wrap64 (a2)) + 1)))))).bind fun t882 => ((insolvencylaw14_awake.f k).bind fun t883 => (if t883 = true then (if t881 = true then (some t882) else (some true)) else (none)))))) else (none))) = some r := h
 clear h
 obtain ⟨y873, hy873⟩ : ∃ y_ : List (S46), y_ = (([(⟨a0_0, a0_1, a0_2, a0_3, a0_4⟩ : S46)] : List (S46))) := ⟨_, rfl⟩
 replace H : ((insolvencylaw0_Obligations.f k y873).bind fun t876 => (if 0 < (t876.length : Int) then ((setoff_Eligible.f ((rd_T28 t876 0).f0) ((rd_T28 t876 0).f1) ((rd_T28 t876 0).f2.f0) ((rd_T28 t876 0).f2.f1) ((rd_T28 t876 0).f2.f2) ((rd_T28 t876 0).f3) ((rd_T28 t876 0).f4) ((rd_T28 t876 0).f5) (wrap64 (a1)) (wrap64 (a2))).bind fun t881 => (if (wrap64 ((wrap64 (a2)) + 1)) = 0 then (none) else ((setoff_Eligible.f ((rd_T28 t876 0).f0) ((rd_T28 t876 0).f1) ((rd_T28 t876 0).f2.f0) ((rd_T28 t876 0).f2.f1) ((rd_T28 t876 0).f2.f2) ((rd_T28 t876 0).f3) ((rd_T28 t876 0).f4) ((rd_T28 t876 0).f5) (wrap64 (a1)) (wrap64 ((wrap64 (a2)) - (Int.tmod (wrap64 (a3)) (wrap64 ((wrap64 (a2)) + 1)))))).bind fun t882 => ((insolvencylaw14_awake.f k).bind fun t883 => (if t883 = true then (if t881 = true then (some t882) else (some true)) else (none)))))) else (none))) = some r := by first | (rw [hy873]; with_reducible exact H) | (have H2_ := (Option.bind_some _ _).symm.trans H; rw [hy873]; with_reducible exact H2_) | (have H2_ := (Option.bind_some _ _).symm.trans H; with_reducible exact H2_) | with_reducible exact H | (rw [hy873]; exact H) | exact H
 have Ny873 := A0_.mk hy873
 clear hy873
 replace H := Option.bind_eq_some_iff.mp H
 obtain ⟨t876, A50, H⟩ := H
 replace H : (if 0 < (t876.length : Int) then ((setoff_Eligible.f ((rd_T28 t876 0).f0) ((rd_T28 t876 0).f1) ((rd_T28 t876 0).f2.f0) ((rd_T28 t876 0).f2.f1) ((rd_T28 t876 0).f2.f2) ((rd_T28 t876 0).f3) ((rd_T28 t876 0).f4) ((rd_T28 t876 0).f5) (wrap64 (a1)) (wrap64 (a2))).bind fun t881 => (if (wrap64 ((wrap64 (a2)) + 1)) = 0 then (none) else ((setoff_Eligible.f ((rd_T28 t876 0).f0) ((rd_T28 t876 0).f1) ((rd_T28 t876 0).f2.f0) ((rd_T28 t876 0).f2.f1) ((rd_T28 t876 0).f2.f2) ((rd_T28 t876 0).f3) ((rd_T28 t876 0).f4) ((rd_T28 t876 0).f5) (wrap64 (a1)) (wrap64 ((wrap64 (a2)) - (Int.tmod (wrap64 (a3)) (wrap64 ((wrap64 (a2)) + 1)))))).bind fun t882 => ((insolvencylaw14_awake.f k).bind fun t883 => (if t883 = true then (if t881 = true then (some t882) else (some true)) else (none)))))) else (none)) = some r := H
 have A5 := A0_.mk A50
 clear A50
 by_cases c6 : 0 < (t876.length : Int)
 ·rw [if_pos c6] at H
  have c6b0 : decide (0 < (t876.length : Int)) = true := decide_eq_true c6
  have c6b1 : decide (0 < t876.length) = true := decide_eq_true (by omega)
  clear c6
  replace H := Option.bind_eq_some_iff.mp H
  obtain ⟨t881, A70, H⟩ := H
  replace H : (if (wrap64 ((wrap64 (a2)) + 1)) = 0 then (none) else ((setoff_Eligible.f ((rd_T28 t876 0).f0) ((rd_T28 t876 0).f1) ((rd_T28 t876 0).f2.f0) ((rd_T28 t876 0).f2.f1) ((rd_T28 t876 0).f2.f2) ((rd_T28 t876 0).f3) ((rd_T28 t876 0).f4) ((rd_T28 t876 0).f5) (wrap64 (a1)) (wrap64 ((wrap64 (a2)) - (Int.tmod (wrap64 (a3)) (wrap64 ((wrap64 (a2)) + 1)))))).bind fun t882 => ((insolvencylaw14_awake.f k).bind fun t883 => (if t883 = true then (if t881 = true then (some t882) else (some true)) else (none))))) = some r := H
  have A7 := A0_.mk A70
  clear A70
  by_cases c8 : (wrap64 ((wrap64 (a2)) + 1)) = 0
  ·rw [if_pos c8] at H
   exact absurd H (by simp)
  ·rw [if_neg c8] at H
   have c8b0 : ((wrap64 ((wrap64 (a2)) + 1)) == 0) = false := beq_eq_false_iff_ne.mpr c8
   have c8b1 : ((wrap64 ((wrap64 (a2)) + 1)) != 0) = true := bne_iff_ne.mpr c8
   replace H := Option.bind_eq_some_iff.mp H
   obtain ⟨t882, A90, H⟩ := H
   replace H : ((insolvencylaw14_awake.f k).bind fun t883 => (if t883 = true then (if t881 = true then (some t882) else (some true)) else (none))) = some r := H
   have A9 := A0_.mk A90
   clear A90
   replace H := Option.bind_eq_some_iff.mp H
   obtain ⟨t883, A100, H⟩ := H
   replace H : (if t883 = true then (if t881 = true then (some t882) else (some true)) else (none)) = some r := H
   have A10 := A0_.mk A100
   clear A100
   by_cases c11 : t883 = true
   ·subst c11
    have H1 : (if t881 = true then (some t882) else (some true)) = some r := by rw [if_pos rfl] at H; exact H
    clear H
    have H := H1
    clear H1
    by_cases c12 : t881 = true
    ·subst c12
     have H1 : (some t882) = some r := by rw [if_pos rfl] at H; exact H
     clear H
     have H := H1
     clear H1
     obtain rfl := Option.some.inj H
     go_enter Tryd.func8, Tryd.ntmps8
     try go_wp2_with (first | ((with_reducible refine gD_ (N := 4) rfl ?_); refine bE_ ?hg (N := 4) ?hd (cs := #[.int .u16 a0_0, .int .u16 a0_1, .int .u16 a0_2, .int .u16 a0_3, .int .u16 a0_4]) (t := 46) ?hr ?_; (case hd => rfl); (case hg => rfl); (case hr => first | (go_simp; done) | (go_simp; rfl)); intro gb872 hg w13 hbox hb; have n0_ := A0_.mk (bT_ (xB_ HB) hb); have n1_ := A0_.mk (hbox); have n2_ := A0_.mk ((by rw [hg]; exact (bZ_ (xB_ HB)) : w.heap.size ≤ gb872)); have n3_ := A0_.mk ((by rw [hg]; exact (bZ_ (xB_ HB)) : w.heap.size ≤ gb872)); clear HB; have HB := n0_; have BK872 := n1_; have GW872 := n2_; have GE872 := n3_; clear n0_ n1_ n2_ n3_; clear hb hbox hg; have hcz14_0 : w13.cell? ⟨gb872, 0, none⟩ = some (.int .u16 a0_0) := (kc_ BK872.out 0).trans rfl; have hcz14_1 : w13.cell? ⟨gb872, 1, none⟩ = some (.int .u16 a0_1) := (kc_ BK872.out 1).trans rfl; have hcz14_2 : w13.cell? ⟨gb872, 2, none⟩ = some (.int .u16 a0_2) := (kc_ BK872.out 2).trans rfl; have hcz14_3 : w13.cell? ⟨gb872, 3, none⟩ = some (.int .u16 a0_3) := (kc_ BK872.out 3).trans rfl; have hcz14_4 : w13.cell? ⟨gb872, 4, none⟩ = some (.int .u16 a0_4) := (kc_ BK872.out 4).trans rfl; have hfz14_0 := kF_ BK872.out 0; have hfz14_1 := kF_ BK872.out 1; have hfz14_2 := kF_ BK872.out 2; have hfz14_3 := kF_ BK872.out 3; have hfz14_4 := kF_ BK872.out 4) | ((with_reducible refine gD_ (N := 13) rfl ?_); refine Kd.R_lit k46 _ 46 ?hg (N := 13) ?hd (xs := ([(⟨a0_0, a0_1, a0_2, a0_3, a0_4⟩ : S46)] : List (S46))) (inner := [.int .u16 a0_0, .int .u16 a0_1, .int .u16 a0_2, .int .u16 a0_3, .int .u16 a0_4]) (ok := fun _ => True) (okp := fun _ => True) ?hr ?hp (fun _ hk => hk) trivial (Below.refl _ _) (Nat.le_refl _) (by simp) ?_; (case hd => rfl); (case hg => rfl); (case hr => first | (go_simp; done) | (go_simp; rfl)); (case hp => exact (Reps.c5 (show Kd.M k46 _ _ _ (⟨a0_0, a0_1, a0_2, a0_3, a0_4⟩ : S46) [.int .u16 a0_0, .int .u16 a0_1, .int .u16 a0_2, .int .u16 a0_3, .int .u16 a0_4] from (k46_mkM _ _ _ (⟨a0_0, a0_1, a0_2, a0_3, a0_4⟩ : S46) )) (Reps.none _ _))); intro v874 w15 ho16 hb hg_ hnew_; clear hg_ hnew_; (first | rw [← Ny873.out] at ho16 | (simp only [Int.reduceToNat] at ho16; rw [← Ny873.out] at ho16)); have n0_ := A0_.mk (Kd.R_lower (Kd.R_newB ho16 (g := gb872) (o := .cells #[.int .u16 a0_0, .int .u16 a0_1, .int .u16 a0_2, .int .u16 a0_3, .int .u16 a0_4] 46 (0, 0)) (xK_ BK872.out)) (bZ_ (by repeat (first | (with_reducible first | exact HB.out | apply bA_ | apply pB_ | apply b1_ | refine bS_ ?_ GE872.out) | exact HB.out)))); have n1_ := A0_.mk (kB_ (g := gb872) (o := .cells #[.int .u16 a0_0, .int .u16 a0_1, .int .u16 a0_2, .int .u16 a0_3, .int .u16 a0_4] 46 (0, 0)) (xK_ BK872.out) hb); have n2_ := A0_.mk (bT_ (by repeat (first | (with_reducible first | exact HB.out | apply bA_ | apply pB_ | apply b1_ | refine bS_ ?_ GE872.out) | exact HB.out)) hb); clear BK872; clear HB; have HO875 := n0_; have BK872 := n1_; have HB := n2_; clear n0_ n1_ n2_; clear hb ho16; obtain ⟨Ao17, co17, eo17⟩ := Kd.R_slice HO875.out; subst eo17) | ((with_reducible refine gC_ (f := 17) rfl ?_); refine goesL_ (some 14) rfl rfl Tryd.func17 (by kernel_rfl) rfl #[.slice Ao17 y873.length co17] rfl mp_ ?_; (with_reducible refine (insolvencylaw0_Obligations.calls k _ _ y873 t876 _ ?side1 ?side2 A5.out).mono ?_); (case side1 => repeat (first | exact (Kd.R_reads' HO875.out).2.2 | (with_reducible refine Kd.C_alloc ?_ _) | (with_reducible refine Kd.C_drewN ?_ _) | (with_reducible refine Kd.C_drew ?_))); (case side2 => exact (Kd.R_reads' HO875.out).2.1); rintro e w18 ⟨v877, rfl, ho0, hb⟩; refine ⟨_, rfl, ?_⟩; have n0_ := A0_.mk (Kd.R_below (xR_ HO875.out) hb); have n1_ := A0_.mk (Kd.R_lower ho0 (bZ_ (by repeat (first | (with_reducible first | exact HB.out | apply bA_ | apply pB_ | apply b1_ | refine bS_ ?_ GE872.out) | exact HB.out)))); have n2_ := A0_.mk (kB_ (g := gb872) (o := .cells #[.int .u16 a0_0, .int .u16 a0_1, .int .u16 a0_2, .int .u16 a0_3, .int .u16 a0_4] 46 (0, 0)) (xK_ BK872.out) hb); have n3_ := A0_.mk (bT_ (by repeat (first | (with_reducible first | exact HB.out | apply bA_ | apply pB_ | apply b1_ | refine bS_ ?_ GE872.out) | exact HB.out)) hb); clear HO875; clear BK872; clear HB; have HO875 := n0_; have HO878 := n1_; have BK872 := n2_; have HB := n3_; clear n0_ n1_ n2_ n3_; (try clear hb); (try clear hb2); (try clear hk); (try clear hi); (try clear ho0); obtain ⟨Ao19, co19, eo19⟩ := Kd.R_slice HO878.out; subst eo19; have p879 : 0 ≤ (0 : Int) := (by omega); have q879 : 0 < (t876.length : Int) := of_decide_eq_true aS_; obtain ⟨ad879, e879, hx879_0, hx879_1, hx879_2, hx879_3, hx879_4, hx879_5, hx879_6, hx879_7⟩ := at_T28 (Kd.R_reads' HO878.out).2.2 0 p879 q879; cases e879; have qi879 : (0 < t876.length) = True := eq_true (by omega); (try rw [show ((0 : Int)).toNat = 0 from rfl] at hx879_0); (try rw [show 0 * 8 = 0 from rfl] at hx879_0); (try rw [Addr.add_zero'] at hx879_0); (try rw [show ((0 : Int)).toNat = 0 from rfl] at hx879_1); (try rw [show 0 * 8 = 0 from rfl] at hx879_1); (try rw [Addr.add_zero'] at hx879_1); (try rw [show ((0 : Int)).toNat = 0 from rfl] at hx879_2); (try rw [show 0 * 8 = 0 from rfl] at hx879_2); (try rw [Addr.add_zero'] at hx879_2); (try rw [show ((0 : Int)).toNat = 0 from rfl] at hx879_3); (try rw [show 0 * 8 = 0 from rfl] at hx879_3); (try rw [Addr.add_zero'] at hx879_3); (try rw [show ((0 : Int)).toNat = 0 from rfl] at hx879_4); (try rw [show 0 * 8 = 0 from rfl] at hx879_4); (try rw [Addr.add_zero'] at hx879_4); (try rw [show ((0 : Int)).toNat = 0 from rfl] at hx879_5); (try rw [show 0 * 8 = 0 from rfl] at hx879_5); (try rw [Addr.add_zero'] at hx879_5); (try rw [show ((0 : Int)).toNat = 0 from rfl] at hx879_6); (try rw [show 0 * 8 = 0 from rfl] at hx879_6); (try rw [Addr.add_zero'] at hx879_6); (try rw [show ((0 : Int)).toNat = 0 from rfl] at hx879_7); (try rw [show 0 * 8 = 0 from rfl] at hx879_7); (try rw [Addr.add_zero'] at hx879_7); replace p879 := eq_true p879; replace q879 := eq_true q879) | ((with_reducible refine gD_ (N := 9) rfl ?_); refine bE_ ?hg (N := 9) ?hd (cs := #[.int .i64 0, .int .i64 0, .bool false, .string (⟨#[]⟩ : ByteArray), .string (⟨#[]⟩ : ByteArray), .int .i64 0, .int .i64 0, .bool false]) (t := 28) ?hr ?_; (case hd => rfl); (case hg => rfl); (case hr => first | (go_simp; done) | (go_simp; rfl)); intro gb880 hg w20 hbox hb; have n0_ := A0_.mk (Kd.R_below (xR_ HO875.out) hb); have n1_ := A0_.mk (Kd.R_below (Kd.R_elderB (xR_ HO878.out) gb880 (Nat.le_of_eq hg.symm)) hb); have n2_ := A0_.mk (kB_ (g := gb872) (o := .cells #[.int .u16 a0_0, .int .u16 a0_1, .int .u16 a0_2, .int .u16 a0_3, .int .u16 a0_4] 46 (0, 0)) (xK_ BK872.out) hb); have n3_ := A0_.mk (bT_ (by repeat (first | (with_reducible first | exact HB.out | apply bA_ | apply pB_ | apply b1_ | refine bS_ ?_ GE872.out) | exact HB.out)) hb); have n4_ := A0_.mk (hbox); have n5_ := A0_.mk ((by rw [hg]; exact (bZ_ (by repeat (first | (with_reducible first | exact HB.out | apply bA_ | apply pB_ | apply b1_ | refine bS_ ?_ GE872.out) | exact HB.out))) : w.heap.size ≤ gb880)); have n6_ := A0_.mk ((by rw [hg]; exact (bZ_ (by repeat (first | (with_reducible first | exact HB.out | apply bA_ | apply pB_ | apply b1_ | refine bS_ ?_ GE872.out) | exact HB.out))) : w.heap.size ≤ gb880)); have n7_ := A0_.mk ((by rw [hg]; exact Nat.ne_of_lt (blk_lt (g := gb872) (o := .cells #[.int .u16 a0_0, .int .u16 a0_1, .int .u16 a0_2, .int .u16 a0_3, .int .u16 a0_4] 46 (0, 0)) (xK_ BK872.out)) : gb872 ≠ gb880)); have n8_ := A0_.mk ((by rw [hg]; exact Nat.ne_of_gt (blk_lt (g := gb872) (o := .cells #[.int .u16 a0_0, .int .u16 a0_1, .int .u16 a0_2, .int .u16 a0_3, .int .u16 a0_4] 46 (0, 0)) (xK_ BK872.out)) : gb880 ≠ gb872)); clear HO875; clear HO878; clear BK872; clear HB; have HO875 := n0_; have HO878 := n1_; have BK872 := n2_; have HB := n3_; have BK880 := n4_; have GW880 := n5_; have GE880 := n6_; have NB872_880 := n7_; have NB880_872 := n8_; clear n0_ n1_ n2_ n3_ n4_ n5_ n6_ n7_ n8_; clear hb hbox hg; have hnb21 := NB880_872.out; have hnc21 := NB872_880.out; have hcz22_0 : w20.cell? ⟨gb880, 0, none⟩ = some (.int .i64 0) := (kc_ BK880.out 0).trans rfl; have hcz22_1 : w20.cell? ⟨gb880, 1, none⟩ = some (.int .i64 0) := (kc_ BK880.out 1).trans rfl; have hcz22_2 : w20.cell? ⟨gb880, 2, none⟩ = some (.bool false) := (kc_ BK880.out 2).trans rfl; have hcz22_3 : w20.cell? ⟨gb880, 3, none⟩ = some (.string (⟨#[]⟩ : ByteArray)) := (kc_ BK880.out 3).trans rfl; have hcz22_4 : w20.cell? ⟨gb880, 4, none⟩ = some (.string (⟨#[]⟩ : ByteArray)) := (kc_ BK880.out 4).trans rfl; have hcz22_5 : w20.cell? ⟨gb880, 5, none⟩ = some (.int .i64 0) := (kc_ BK880.out 5).trans rfl; have hcz22_6 : w20.cell? ⟨gb880, 6, none⟩ = some (.int .i64 0) := (kc_ BK880.out 6).trans rfl; have hcz22_7 : w20.cell? ⟨gb880, 7, none⟩ = some (.bool false) := (kc_ BK880.out 7).trans rfl; have hfz22_0 := kF_ BK880.out 0; have hfz22_1 := kF_ BK880.out 1; have hfz22_2 := kF_ BK880.out 2; have hfz22_3 := kF_ BK880.out 3; have hfz22_4 := kF_ BK880.out 4; have hfz22_5 := kF_ BK880.out 5; have hfz22_6 := kF_ BK880.out 6; have hfz22_7 := kF_ BK880.out 7) | ((with_reducible refine gC_ (f := 13) rfl ?_); refine goesL_ (some 22) rfl rfl Tryd.func13 (by kernel_rfl) rfl #[.agg #[.int .i64 ((rd_T28 t876 0).f0), .int .i64 ((rd_T28 t876 0).f1), .bool ((rd_T28 t876 0).f2.f0), .string ((rd_T28 t876 0).f2.f1), .string ((rd_T28 t876 0).f2.f2), .int .i64 ((rd_T28 t876 0).f3), .int .i64 ((rd_T28 t876 0).f4), .bool ((rd_T28 t876 0).f5)], .int .i64 (wrap64 (a1)), .int .i64 (wrap64 (a2))] rfl mp_ ?_; (with_reducible refine (setoff_Eligible.calls ((rd_T28 t876 0).f0) ((rd_T28 t876 0).f1) ((rd_T28 t876 0).f2.f0) ((rd_T28 t876 0).f2.f1) ((rd_T28 t876 0).f2.f2) ((rd_T28 t876 0).f3) ((rd_T28 t876 0).f4) ((rd_T28 t876 0).f5) (wrap64 (a1)) (wrap64 (a2)) true _ A7.out).mono ?_); rintro e w23 ⟨rfl, hb⟩; refine ⟨_, rfl, ?_⟩; have n0_ := A0_.mk (Kd.R_below (by (with_reducible repeat (first | apply Kd.R_alloc | apply Kd.R_drewN | apply Kd.R_drew)); exact (Kd.R_mono (Kd.R_far (p := ⟨gb880, 7, none⟩) (Kd.R_far (p := ⟨gb880, 6, none⟩) (Kd.R_far (p := ⟨gb880, 5, none⟩) (Kd.R_far (p := ⟨gb880, 4, none⟩) (Kd.R_far (p := ⟨gb880, 3, none⟩) (Kd.R_far (p := ⟨gb880, 2, none⟩) (Kd.R_far (p := ⟨gb880, 1, none⟩) (Kd.R_far (p := ⟨gb880, 0, none⟩) (Kd.R_types HO875.out BK880.out (by decide)) (fun _ hk => hk.2) (.int .i64 ((rd_T28 t876 0).f0))) (fun _ hk => hk.2) (.int .i64 ((rd_T28 t876 0).f1))) (fun _ hk => hk.2) (.bool ((rd_T28 t876 0).f2.f0))) (fun _ hk => hk.2) (.string ((rd_T28 t876 0).f2.f1))) (fun _ hk => hk.2) (.string ((rd_T28 t876 0).f2.f2))) (fun _ hk => hk.2) (.int .i64 ((rd_T28 t876 0).f3))) (fun _ hk => hk.2) (.int .i64 ((rd_T28 t876 0).f4))) (fun _ hk => hk.2) (.bool ((rd_T28 t876 0).f5))) (fun _ h_ => h_.1))) hb); have n1_ := A0_.mk (Kd.R_below (by (with_reducible repeat (first | apply Kd.R_alloc | apply Kd.R_drewN | apply Kd.R_drew)); exact (Kd.R_mono (Kd.R_far (p := ⟨gb880, 7, none⟩) (Kd.R_far (p := ⟨gb880, 6, none⟩) (Kd.R_far (p := ⟨gb880, 5, none⟩) (Kd.R_far (p := ⟨gb880, 4, none⟩) (Kd.R_far (p := ⟨gb880, 3, none⟩) (Kd.R_far (p := ⟨gb880, 2, none⟩) (Kd.R_far (p := ⟨gb880, 1, none⟩) (Kd.R_far (p := ⟨gb880, 0, none⟩) (Kd.R_mono HO878.out (fun k_ hk => (⟨hk, hk.2⟩ : _ ∧ k_ ≠ gb880))) (fun _ hk => hk.2) (.int .i64 ((rd_T28 t876 0).f0))) (fun _ hk => hk.2) (.int .i64 ((rd_T28 t876 0).f1))) (fun _ hk => hk.2) (.bool ((rd_T28 t876 0).f2.f0))) (fun _ hk => hk.2) (.string ((rd_T28 t876 0).f2.f1))) (fun _ hk => hk.2) (.string ((rd_T28 t876 0).f2.f2))) (fun _ hk => hk.2) (.int .i64 ((rd_T28 t876 0).f3))) (fun _ hk => hk.2) (.int .i64 ((rd_T28 t876 0).f4))) (fun _ hk => hk.2) (.bool ((rd_T28 t876 0).f5))) (fun _ h_ => h_.1))) hb); have n2_ := A0_.mk (kB_ (g := gb872) (o := .cells #[.int .u16 a0_0, .int .u16 a0_1, .int .u16 a0_2, .int .u16 a0_3, .int .u16 a0_4] 46 (0, 0)) (by (with_reducible repeat (first | refine kN_ ?_ _ | refine kD_ ?_ | refine kA_ ?_ _)); refine blk_far ?_ NB872_880.out _; (with_reducible repeat (first | refine kN_ ?_ _ | refine kD_ ?_ | refine kA_ ?_ _)); refine blk_far ?_ NB872_880.out _; (with_reducible repeat (first | refine kN_ ?_ _ | refine kD_ ?_ | refine kA_ ?_ _)); refine blk_far ?_ NB872_880.out _; (with_reducible repeat (first | refine kN_ ?_ _ | refine kD_ ?_ | refine kA_ ?_ _)); refine blk_far ?_ NB872_880.out _; (with_reducible repeat (first | refine kN_ ?_ _ | refine kD_ ?_ | refine kA_ ?_ _)); refine blk_far ?_ NB872_880.out _; (with_reducible repeat (first | refine kN_ ?_ _ | refine kD_ ?_ | refine kA_ ?_ _)); refine blk_far ?_ NB872_880.out _; (with_reducible repeat (first | refine kN_ ?_ _ | refine kD_ ?_ | refine kA_ ?_ _)); refine blk_far ?_ NB872_880.out _; (with_reducible repeat (first | refine kN_ ?_ _ | refine kD_ ?_ | refine kA_ ?_ _)); refine blk_far ?_ NB872_880.out _; (with_reducible repeat (first | refine kN_ ?_ _ | refine kD_ ?_ | refine kA_ ?_ _)); exact BK872.out) hb); have n3_ := A0_.mk (kB_ (g := gb880) (o := .cells #[.int .i64 ((rd_T28 t876 0).f0), .int .i64 ((rd_T28 t876 0).f1), .bool ((rd_T28 t876 0).f2.f0), .string ((rd_T28 t876 0).f2.f1), .string ((rd_T28 t876 0).f2.f2), .int .i64 ((rd_T28 t876 0).f3), .int .i64 ((rd_T28 t876 0).f4), .bool ((rd_T28 t876 0).f5)] 28 (0, 0)) (by (with_reducible repeat (first | refine kN_ ?_ _ | refine kD_ ?_ | refine kA_ ?_ _)); refine kP_ (cs := #[.int .i64 ((rd_T28 t876 0).f0), .int .i64 ((rd_T28 t876 0).f1), .bool ((rd_T28 t876 0).f2.f0), .string ((rd_T28 t876 0).f2.f1), .string ((rd_T28 t876 0).f2.f2), .int .i64 ((rd_T28 t876 0).f3), .int .i64 ((rd_T28 t876 0).f4), .bool false]) ?_ 7 _ rfl; (with_reducible repeat (first | refine kN_ ?_ _ | refine kD_ ?_ | refine kA_ ?_ _)); refine kP_ (cs := #[.int .i64 ((rd_T28 t876 0).f0), .int .i64 ((rd_T28 t876 0).f1), .bool ((rd_T28 t876 0).f2.f0), .string ((rd_T28 t876 0).f2.f1), .string ((rd_T28 t876 0).f2.f2), .int .i64 ((rd_T28 t876 0).f3), .int .i64 0, .bool false]) ?_ 6 _ rfl; (with_reducible repeat (first | refine kN_ ?_ _ | refine kD_ ?_ | refine kA_ ?_ _)); refine kP_ (cs := #[.int .i64 ((rd_T28 t876 0).f0), .int .i64 ((rd_T28 t876 0).f1), .bool ((rd_T28 t876 0).f2.f0), .string ((rd_T28 t876 0).f2.f1), .string ((rd_T28 t876 0).f2.f2), .int .i64 0, .int .i64 0, .bool false]) ?_ 5 _ rfl; (with_reducible repeat (first | refine kN_ ?_ _ | refine kD_ ?_ | refine kA_ ?_ _)); refine kP_ (cs := #[.int .i64 ((rd_T28 t876 0).f0), .int .i64 ((rd_T28 t876 0).f1), .bool ((rd_T28 t876 0).f2.f0), .string ((rd_T28 t876 0).f2.f1), .string (⟨#[]⟩ : ByteArray), .int .i64 0, .int .i64 0, .bool false]) ?_ 4 _ rfl; (with_reducible repeat (first | refine kN_ ?_ _ | refine kD_ ?_ | refine kA_ ?_ _)); refine kP_ (cs := #[.int .i64 ((rd_T28 t876 0).f0), .int .i64 ((rd_T28 t876 0).f1), .bool ((rd_T28 t876 0).f2.f0), .string (⟨#[]⟩ : ByteArray), .string (⟨#[]⟩ : ByteArray), .int .i64 0, .int .i64 0, .bool false]) ?_ 3 _ rfl; (with_reducible repeat (first | refine kN_ ?_ _ | refine kD_ ?_ | refine kA_ ?_ _)); refine kP_ (cs := #[.int .i64 ((rd_T28 t876 0).f0), .int .i64 ((rd_T28 t876 0).f1), .bool false, .string (⟨#[]⟩ : ByteArray), .string (⟨#[]⟩ : ByteArray), .int .i64 0, .int .i64 0, .bool false]) ?_ 2 _ rfl; (with_reducible repeat (first | refine kN_ ?_ _ | refine kD_ ?_ | refine kA_ ?_ _)); refine kP_ (cs := #[.int .i64 ((rd_T28 t876 0).f0), .int .i64 0, .bool false, .string (⟨#[]⟩ : ByteArray), .string (⟨#[]⟩ : ByteArray), .int .i64 0, .int .i64 0, .bool false]) ?_ 1 _ rfl; (with_reducible repeat (first | refine kN_ ?_ _ | refine kD_ ?_ | refine kA_ ?_ _)); refine kP_ (cs := #[.int .i64 0, .int .i64 0, .bool false, .string (⟨#[]⟩ : ByteArray), .string (⟨#[]⟩ : ByteArray), .int .i64 0, .int .i64 0, .bool false]) ?_ 0 _ rfl; (with_reducible repeat (first | refine kN_ ?_ _ | refine kD_ ?_ | refine kA_ ?_ _)); exact BK880.out) hb); have n4_ := A0_.mk (bT_ (by repeat (first | (with_reducible first | exact HB.out | apply bA_ | apply pB_ | apply b1_ | refine bS_ ?_ GE872.out | refine bS_ ?_ GE880.out) | exact HB.out)) hb); clear HO875; clear HO878; clear BK872; clear BK880; clear HB; have HO875 := n0_; have HO878 := n1_; have BK872 := n2_; have BK880 := n3_; have HB := n4_; clear n0_ n1_ n2_ n3_ n4_; (try clear hb); (try clear hb2); (try clear hk); (try clear hi)))
     have n0_ := A0_.mk (Kd.R_drew HO875.out)
     have n1_ := A0_.mk (Kd.R_drew HO878.out)
     have n2_ := A0_.mk (kD_ BK872.out)
     have n3_ := A0_.mk (kD_ BK880.out)
     have n4_ := A0_.mk (b1_ HB.out)
     clear HO875
     clear HO878
     clear BK872
     clear BK880
     clear HB
     have HO875 := n0_
     have HO878 := n1_
     have BK872 := n2_
     have BK880 := n3_
     have HB := n4_
     clear n0_ n1_ n2_ n3_ n4_
     refine start_ (n := 14) (S := fun w' => w'.cell? ⟨gb880, 0, none⟩ = some (.int .i64 ((rd_T28 t876 0).f0)) ∧ w'.cell? ⟨gb880, 1, none⟩ = some (.int .i64 ((rd_T28 t876 0).f1)) ∧ w'.cell? ⟨gb880, 2, none⟩ = some (.bool ((rd_T28 t876 0).f2.f0)) ∧ w'.cell? ⟨gb880, 3, none⟩ = some (.string ((rd_T28 t876 0).f2.f1)) ∧ w'.cell? ⟨gb880, 4, none⟩ = some (.string ((rd_T28 t876 0).f2.f2)) ∧ w'.cell? ⟨gb880, 5, none⟩ = some (.int .i64 ((rd_T28 t876 0).f3)) ∧ w'.cell? ⟨gb880, 6, none⟩ = some (.int .i64 ((rd_T28 t876 0).f4)) ∧ w'.cell? ⟨gb880, 7, none⟩ = some (.bool ((rd_T28 t876 0).f5))) (ds := []) #[false, false, false, false, false, false, false, false, false, false, false, false, false, false] (by kernel_rfl) rfl rfl ⟨(kc_ BK880.out 0).trans rfl, (kc_ BK880.out 1).trans rfl, (kc_ BK880.out 2).trans rfl, (kc_ BK880.out 3).trans rfl, (kc_ BK880.out 4).trans rfl, (kc_ BK880.out 5).trans rfl, (kc_ BK880.out 6).trans rfl, (kc_ BK880.out 7).trans rfl⟩ (fun hHeld => ?_); refine with_tabW insolvencylaw14_SetoffWindow.tab3 insolvencylaw14_SetoffWindow.bits3 (fun HT_ HW_ => ?_)
     generalize w23.drew = w24 at HO875 HO878 BK872 BK880 HB hHeld ⊢
     refine pure_ (i := 1) (N := some 24) (v := ?_) (a' := ?_) #[false, true, false, false, false, false, false, false, false, false, false, false, false, false] rfl rfl (any_of HT_.out (by kernel_rfl)) (fun _ _ _ h => h) (Or.inl ⟨by rfl, ?_⟩) ?_ ?_
     rotate_left
     ·intro w'
      go_simp
      with_reducible rfl
     rotate_left
     ·simp only [Act.put, s1_, s2_, s3_, i64_w, i32_w]
      rfl
     refine pure_ (i := 2) (N := some 25) (v := ?_) (a' := ?_) #[false, true, true, false, false, false, false, false, false, false, false, false, false, false] rfl rfl (any_of HT_.out (by kernel_rfl)) (fun _ _ _ h => h) (Or.inl ⟨by rfl, ?_⟩) ?_ ?_
     rotate_left
     ·intro w'
      go_simp
      with_reducible rfl
     rotate_left
     ·simp only [Act.put, s1_, s2_, s3_, i64_w, i32_w]
      rfl
     refine pure_ (i := 3) (N := some 26) (v := ?_) (a' := ?_) #[false, true, true, true, false, false, false, false, false, false, false, false, false, false] rfl rfl (any_of HT_.out (by kernel_rfl)) (fun _ _ _ h => h) (Or.inl ⟨by rfl, ?_⟩) ?_ ?_
     rotate_left
     ·intro w'
      go_simp
      with_reducible rfl
     rotate_left
     ·simp only [Act.put, s1_, s2_, s3_, i64_w, i32_w]
      rfl
     refine pure_ (i := 4) (N := some 27) (v := ?_) (a' := ?_) #[false, true, true, true, true, false, false, false, false, false, false, false, false, false] rfl rfl (any_of HT_.out (by kernel_rfl)) (fun _ _ _ h => h) (Or.inl ⟨by rfl, ?_⟩) ?_ ?_
     rotate_left
     ·intro w'
      go_simp
      with_reducible rfl
     rotate_left
     ·simp only [Act.put, s1_, s2_, s3_, i64_w, i32_w]
      rfl
     refine pure_ (i := 5) (N := some 28) (v := ?_) (a' := ?_) #[false, true, true, true, true, true, false, false, false, false, false, false, false, false] rfl rfl (any_of HT_.out (by kernel_rfl)) (fun _ _ _ h => h) (Or.inl ⟨by rfl, ?_⟩) ?_ ?_
     rotate_left
     ·intro w'
      go_simp
      with_reducible rfl
     rotate_left
     ·simp only [Act.put, s1_, s2_, s3_, i64_w, i32_w]
      rfl
     refine pure_ (i := 6) (N := some 29) (v := ?_) (a' := ?_) #[false, true, true, true, true, true, true, false, false, false, false, false, false, false] rfl rfl (any_of HT_.out (by kernel_rfl)) (fun _ _ _ h => h) (Or.inl ⟨by rfl, ?_⟩) ?_ ?_
     rotate_left
     ·intro w'
      go_simp
      with_reducible rfl
     rotate_left
     ·simp only [Act.put, s1_, s2_, s3_, i64_w, i32_w]
      rfl
     refine pure_ (i := 7) (N := some 30) (v := ?_) (a' := ?_) #[false, true, true, true, true, true, true, true, false, false, false, false, false, false] rfl rfl (any_of HT_.out (by kernel_rfl)) (fun _ _ _ h => h) (Or.inl ⟨by rfl, ?_⟩) ?_ ?_
     rotate_left
     ·intro w'
      go_simp
      with_reducible rfl
     rotate_left
     ·simp only [Act.put, s1_, s2_, s3_, i64_w, i32_w]
      rfl
     refine pure_ (i := 8) (N := some 31) (v := ?_) (a' := ?_) #[false, true, true, true, true, true, true, true, true, false, false, false, false, false] rfl rfl (any_of HT_.out (by kernel_rfl)) (fun _ _ _ h => h) (Or.inl ⟨by rfl, ?_⟩) ?_ ?_
     rotate_left
     ·intro w'
      go_simp
      with_reducible rfl
     rotate_left
     ·simp only [Act.put, s1_, s2_, s3_, i64_w, i32_w]
      rfl
     refine pure_ (i := 9) (N := some 32) (v := ?_) (a' := ?_) #[false, true, true, true, true, true, true, true, true, true, false, false, false, false] rfl rfl (any_of HT_.out (by kernel_rfl)) (fun _ _ _ h => h) (Or.inl ⟨by rfl, ?_⟩) ?_ ?_
     rotate_left
     ·intro w'
      go_simp
      with_reducible rfl
     rotate_left
     ·simp only [Act.put, s1_, s2_, s3_, i64_w, i32_w]
      rfl
     refine pure_ (i := 10) (N := some 33) (v := ?_) (a' := ?_) #[false, true, true, true, true, true, true, true, true, true, true, false, false, false] rfl rfl (any_of HT_.out (by kernel_rfl)) (fun _ _ _ h => h) (Or.inl ⟨by rfl, ?_⟩) ?_ ?_
     rotate_left
     ·intro w'
      go_simp
      with_reducible rfl
     rotate_left
     ·simp only [Act.put, s1_, s2_, s3_, i64_w, i32_w]
      rfl
     refine pure_ (i := 11) (N := some 34) (v := ?_) (a' := ?_) #[false, true, true, true, true, true, true, true, true, true, true, true, false, false] rfl rfl (any_of HT_.out (by kernel_rfl)) (fun _ _ _ h => h) (Or.inl ⟨by rfl, ?_⟩) ?_ ?_
     rotate_left
     ·intro w'
      go_simp
      with_reducible rfl
     rotate_left
     ·simp only [Act.put, s1_, s2_, s3_, i64_w, i32_w]
      rfl
     refine take_ (i := 0) (N := some 23) (v := ?_) (a' := ?_) #[true, true, true, true, true, true, true, true, true, true, true, true, false, false] rfl rfl (take_ofW HT_.out HW_.out (by kernel_rfl)) (fun _ _ _ h => h) (Or.inl ⟨by rfl, ?_⟩) hHeld ?_ ?_
     rotate_left
     ·rintro w' ⟨s0, s1, s2, s3, s4, s5, s6, s7⟩
      go_simp
      with_reducible rfl
     rotate_left
     ·simp only [Act.put, s1_, s2_, s3_, i64_w, i32_w]
      rfl
     refine one_ (i := 12) (N := some 35) #[true, true, true, true, true, true, true, true, true, true, true, true, true, false] rfl rfl (one_of HT_.out (by kernel_rfl)) (by decide) (fun K hK => ?_)
     refine goes_ Tryd.func13 (by kernel_rfl) rfl #[.agg #[.int .i64 ((rd_T28 t876 0).f0), .int .i64 ((rd_T28 t876 0).f1), .bool ((rd_T28 t876 0).f2.f0), .string ((rd_T28 t876 0).f2.f1), .string ((rd_T28 t876 0).f2.f2), .int .i64 ((rd_T28 t876 0).f3), .int .i64 ((rd_T28 t876 0).f4), .bool ((rd_T28 t876 0).f5)], .int .i64 (wrap64 (a1)), .int .i64 (wrap64 ((wrap64 (a2)) - (Int.tmod (wrap64 (a3)) (wrap64 ((wrap64 (a2)) + 1)))))] (by rfl) rfl rfl mp_ ?_
     with_reducible refine (setoff_Eligible.calls ((rd_T28 t876 0).f0) ((rd_T28 t876 0).f1) ((rd_T28 t876 0).f2.f0) ((rd_T28 t876 0).f2.f1) ((rd_T28 t876 0).f2.f2) ((rd_T28 t876 0).f3) ((rd_T28 t876 0).f4) ((rd_T28 t876 0).f5) (wrap64 (a1)) (wrap64 ((wrap64 (a2)) - (Int.tmod (wrap64 (a3)) (wrap64 ((wrap64 (a2)) + 1))))) t882 _ A9.out).mono ?_
     rintro e w25 ⟨rfl, hb⟩
     refine ⟨_, rfl, ?_⟩
     have n0_ := A0_.mk (Kd.R_below (xR_ HO875.out) hb)
     have n1_ := A0_.mk (Kd.R_below (xR_ HO878.out) hb)
     have n2_ := A0_.mk (kB_ (g := gb872) (o := .cells #[.int .u16 a0_0, .int .u16 a0_1, .int .u16 a0_2, .int .u16 a0_3, .int .u16 a0_4] 46 (0, 0)) (xK_ BK872.out) hb)
     have n3_ := A0_.mk (kB_ (g := gb880) (o := .cells #[.int .i64 ((rd_T28 t876 0).f0), .int .i64 ((rd_T28 t876 0).f1), .bool ((rd_T28 t876 0).f2.f0), .string ((rd_T28 t876 0).f2.f1), .string ((rd_T28 t876 0).f2.f2), .int .i64 ((rd_T28 t876 0).f3), .int .i64 ((rd_T28 t876 0).f4), .bool ((rd_T28 t876 0).f5)] 28 (0, 0)) (xK_ BK880.out) hb)
     have n4_ := A0_.mk (bT_ (by repeat (first | (with_reducible first | exact HB.out | apply bA_ | apply pB_ | apply b1_ | refine bS_ ?_ GE872.out | refine bS_ ?_ GE880.out) | exact HB.out)) hb)
     clear HO875
     clear HO878
     clear BK872
     clear BK880
     clear HB
     have HO875 := n0_
     have HO878 := n1_
     have BK872 := n2_
     have BK880 := n3_
     have HB := n4_
     clear n0_ n1_ n2_ n3_ n4_
     (try clear hb)
     (try clear hb2)
     (try clear hk)
     (try clear hi)
     refine hK.out _ _ ⟨(kc_ BK880.out 0).trans rfl, (kc_ BK880.out 1).trans rfl, (kc_ BK880.out 2).trans rfl, (kc_ BK880.out 3).trans rfl, (kc_ BK880.out 4).trans rfl, (kc_ BK880.out 5).trans rfl, (kc_ BK880.out 6).trans rfl, (kc_ BK880.out 7).trans rfl⟩ (fun hHeld => ?_)
     clear hK K
     refine norm_ (a' := ?_) ?_ ?_
     rotate_left
     ·show Act.put _ (some 35) _ = _
      simp only [Act.put, s1_, s2_, s3_, i64_w, i32_w]
      rfl
     refine pure_ (i := 13) (N := some 11) (v := ?_) (a' := ?_) #[true, true, true, true, true, true, true, true, true, true, true, true, true, true] rfl rfl (any_of HT_.out (by kernel_rfl)) (fun _ _ _ h => h) (Or.inl ⟨by rfl, ?_⟩) ?_ ?_
     rotate_left
     ·intro w'
      go_simp
      with_reducible rfl
     rotate_left
     ·simp only [Act.put, s1_, s2_, s3_, i64_w, i32_w]
      rfl
     refine done_ (done_of HT_.out (by kernel_rfl)) ?_
     try go_wp2_with (first | ((with_reducible refine gC_ (f := 12) rfl ?_); refine goesL_ (some 36) rfl rfl Tryd.func12 (by kernel_rfl) rfl #[] rfl mp_ ?_; (with_reducible refine (insolvencylaw14_awake.calls k  true _ A10.out).mono ?_); rintro e w26 ⟨rfl, hb⟩; refine ⟨_, rfl, ?_⟩; have n0_ := A0_.mk (Kd.R_below (xR_ HO875.out) hb); have n1_ := A0_.mk (Kd.R_below (xR_ HO878.out) hb); have n2_ := A0_.mk (kB_ (g := gb872) (o := .cells #[.int .u16 a0_0, .int .u16 a0_1, .int .u16 a0_2, .int .u16 a0_3, .int .u16 a0_4] 46 (0, 0)) (xK_ BK872.out) hb); have n3_ := A0_.mk (kB_ (g := gb880) (o := .cells #[.int .i64 ((rd_T28 t876 0).f0), .int .i64 ((rd_T28 t876 0).f1), .bool ((rd_T28 t876 0).f2.f0), .string ((rd_T28 t876 0).f2.f1), .string ((rd_T28 t876 0).f2.f2), .int .i64 ((rd_T28 t876 0).f3), .int .i64 ((rd_T28 t876 0).f4), .bool ((rd_T28 t876 0).f5)] 28 (0, 0)) (xK_ BK880.out) hb); have n4_ := A0_.mk (bT_ (by repeat (first | (with_reducible first | exact HB.out | apply bA_ | apply pB_ | apply b1_ | refine bS_ ?_ GE872.out | refine bS_ ?_ GE880.out) | exact HB.out)) hb); clear HO875; clear HO878; clear BK872; clear BK880; clear HB; have HO875 := n0_; have HO878 := n1_; have BK872 := n2_; have BK880 := n3_; have HB := n4_; clear n0_ n1_ n2_ n3_ n4_; (try clear hb); (try clear hb2); (try clear hk); (try clear hi)))
     go_ret
     exact ⟨by first | rfl | (simp [errW_none, errW_some] <;> rfl) | (simp [*, errW_none, errW_some] <;> rfl), by repeat (first | (with_reducible first | exact HB.out | apply bA_ | apply pB_ | apply b1_ | refine bS_ ?_ GE872.out | refine bS_ ?_ GE880.out) | exact HB.out)⟩
    ·replace c12 := Bool.eq_false_iff.mpr c12
     subst c12
     have H1 : (some true) = some r := by rw [if_neg (show ¬ (false = true) by decide)] at H; exact H
     clear H
     have H := H1
     clear H1
     obtain rfl := Option.some.inj H
     go_enter Tryd.func8, Tryd.ntmps8
     try go_wp2_with (first | ((with_reducible refine gD_ (N := 4) rfl ?_); refine bE_ ?hg (N := 4) ?hd (cs := #[.int .u16 a0_0, .int .u16 a0_1, .int .u16 a0_2, .int .u16 a0_3, .int .u16 a0_4]) (t := 46) ?hr ?_; (case hd => rfl); (case hg => rfl); (case hr => first | (go_simp; done) | (go_simp; rfl)); intro gb872 hg w27 hbox hb; have n0_ := A0_.mk (bT_ (xB_ HB) hb); have n1_ := A0_.mk (hbox); have n2_ := A0_.mk ((by rw [hg]; exact (bZ_ (xB_ HB)) : w.heap.size ≤ gb872)); have n3_ := A0_.mk ((by rw [hg]; exact (bZ_ (xB_ HB)) : w.heap.size ≤ gb872)); clear HB; have HB := n0_; have BK872 := n1_; have GW872 := n2_; have GE872 := n3_; clear n0_ n1_ n2_ n3_; clear hb hbox hg; have hcz28_0 : w27.cell? ⟨gb872, 0, none⟩ = some (.int .u16 a0_0) := (kc_ BK872.out 0).trans rfl; have hcz28_1 : w27.cell? ⟨gb872, 1, none⟩ = some (.int .u16 a0_1) := (kc_ BK872.out 1).trans rfl; have hcz28_2 : w27.cell? ⟨gb872, 2, none⟩ = some (.int .u16 a0_2) := (kc_ BK872.out 2).trans rfl; have hcz28_3 : w27.cell? ⟨gb872, 3, none⟩ = some (.int .u16 a0_3) := (kc_ BK872.out 3).trans rfl; have hcz28_4 : w27.cell? ⟨gb872, 4, none⟩ = some (.int .u16 a0_4) := (kc_ BK872.out 4).trans rfl; have hfz28_0 := kF_ BK872.out 0; have hfz28_1 := kF_ BK872.out 1; have hfz28_2 := kF_ BK872.out 2; have hfz28_3 := kF_ BK872.out 3; have hfz28_4 := kF_ BK872.out 4) | ((with_reducible refine gD_ (N := 13) rfl ?_); refine Kd.R_lit k46 _ 46 ?hg (N := 13) ?hd (xs := ([(⟨a0_0, a0_1, a0_2, a0_3, a0_4⟩ : S46)] : List (S46))) (inner := [.int .u16 a0_0, .int .u16 a0_1, .int .u16 a0_2, .int .u16 a0_3, .int .u16 a0_4]) (ok := fun _ => True) (okp := fun _ => True) ?hr ?hp (fun _ hk => hk) trivial (Below.refl _ _) (Nat.le_refl _) (by simp) ?_; (case hd => rfl); (case hg => rfl); (case hr => first | (go_simp; done) | (go_simp; rfl)); (case hp => exact (Reps.c5 (show Kd.M k46 _ _ _ (⟨a0_0, a0_1, a0_2, a0_3, a0_4⟩ : S46) [.int .u16 a0_0, .int .u16 a0_1, .int .u16 a0_2, .int .u16 a0_3, .int .u16 a0_4] from (k46_mkM _ _ _ (⟨a0_0, a0_1, a0_2, a0_3, a0_4⟩ : S46) )) (Reps.none _ _))); intro v874 w29 ho30 hb hg_ hnew_; clear hg_ hnew_; (first | rw [← Ny873.out] at ho30 | (simp only [Int.reduceToNat] at ho30; rw [← Ny873.out] at ho30)); have n0_ := A0_.mk (Kd.R_lower (Kd.R_newB ho30 (g := gb872) (o := .cells #[.int .u16 a0_0, .int .u16 a0_1, .int .u16 a0_2, .int .u16 a0_3, .int .u16 a0_4] 46 (0, 0)) (xK_ BK872.out)) (bZ_ (by repeat (first | (with_reducible first | exact HB.out | apply bA_ | apply pB_ | apply b1_ | refine bS_ ?_ GE872.out) | exact HB.out)))); have n1_ := A0_.mk (kB_ (g := gb872) (o := .cells #[.int .u16 a0_0, .int .u16 a0_1, .int .u16 a0_2, .int .u16 a0_3, .int .u16 a0_4] 46 (0, 0)) (xK_ BK872.out) hb); have n2_ := A0_.mk (bT_ (by repeat (first | (with_reducible first | exact HB.out | apply bA_ | apply pB_ | apply b1_ | refine bS_ ?_ GE872.out) | exact HB.out)) hb); clear BK872; clear HB; have HO875 := n0_; have BK872 := n1_; have HB := n2_; clear n0_ n1_ n2_; clear hb ho30; obtain ⟨Ao31, co31, eo31⟩ := Kd.R_slice HO875.out; subst eo31) | ((with_reducible refine gC_ (f := 17) rfl ?_); refine goesL_ (some 14) rfl rfl Tryd.func17 (by kernel_rfl) rfl #[.slice Ao31 y873.length co31] rfl mp_ ?_; (with_reducible refine (insolvencylaw0_Obligations.calls k _ _ y873 t876 _ ?side1 ?side2 A5.out).mono ?_); (case side1 => repeat (first | exact (Kd.R_reads' HO875.out).2.2 | (with_reducible refine Kd.C_alloc ?_ _) | (with_reducible refine Kd.C_drewN ?_ _) | (with_reducible refine Kd.C_drew ?_))); (case side2 => exact (Kd.R_reads' HO875.out).2.1); rintro e w32 ⟨v877, rfl, ho0, hb⟩; refine ⟨_, rfl, ?_⟩; have n0_ := A0_.mk (Kd.R_below (xR_ HO875.out) hb); have n1_ := A0_.mk (Kd.R_lower ho0 (bZ_ (by repeat (first | (with_reducible first | exact HB.out | apply bA_ | apply pB_ | apply b1_ | refine bS_ ?_ GE872.out) | exact HB.out)))); have n2_ := A0_.mk (kB_ (g := gb872) (o := .cells #[.int .u16 a0_0, .int .u16 a0_1, .int .u16 a0_2, .int .u16 a0_3, .int .u16 a0_4] 46 (0, 0)) (xK_ BK872.out) hb); have n3_ := A0_.mk (bT_ (by repeat (first | (with_reducible first | exact HB.out | apply bA_ | apply pB_ | apply b1_ | refine bS_ ?_ GE872.out) | exact HB.out)) hb); clear HO875; clear BK872; clear HB; have HO875 := n0_; have HO878 := n1_; have BK872 := n2_; have HB := n3_; clear n0_ n1_ n2_ n3_; (try clear hb); (try clear hb2); (try clear hk); (try clear hi); (try clear ho0); obtain ⟨Ao33, co33, eo33⟩ := Kd.R_slice HO878.out; subst eo33; have p879 : 0 ≤ (0 : Int) := (by omega); have q879 : 0 < (t876.length : Int) := of_decide_eq_true aS_; obtain ⟨ad879, e879, hx879_0, hx879_1, hx879_2, hx879_3, hx879_4, hx879_5, hx879_6, hx879_7⟩ := at_T28 (Kd.R_reads' HO878.out).2.2 0 p879 q879; cases e879; have qi879 : (0 < t876.length) = True := eq_true (by omega); (try rw [show ((0 : Int)).toNat = 0 from rfl] at hx879_0); (try rw [show 0 * 8 = 0 from rfl] at hx879_0); (try rw [Addr.add_zero'] at hx879_0); (try rw [show ((0 : Int)).toNat = 0 from rfl] at hx879_1); (try rw [show 0 * 8 = 0 from rfl] at hx879_1); (try rw [Addr.add_zero'] at hx879_1); (try rw [show ((0 : Int)).toNat = 0 from rfl] at hx879_2); (try rw [show 0 * 8 = 0 from rfl] at hx879_2); (try rw [Addr.add_zero'] at hx879_2); (try rw [show ((0 : Int)).toNat = 0 from rfl] at hx879_3); (try rw [show 0 * 8 = 0 from rfl] at hx879_3); (try rw [Addr.add_zero'] at hx879_3); (try rw [show ((0 : Int)).toNat = 0 from rfl] at hx879_4); (try rw [show 0 * 8 = 0 from rfl] at hx879_4); (try rw [Addr.add_zero'] at hx879_4); (try rw [show ((0 : Int)).toNat = 0 from rfl] at hx879_5); (try rw [show 0 * 8 = 0 from rfl] at hx879_5); (try rw [Addr.add_zero'] at hx879_5); (try rw [show ((0 : Int)).toNat = 0 from rfl] at hx879_6); (try rw [show 0 * 8 = 0 from rfl] at hx879_6); (try rw [Addr.add_zero'] at hx879_6); (try rw [show ((0 : Int)).toNat = 0 from rfl] at hx879_7); (try rw [show 0 * 8 = 0 from rfl] at hx879_7); (try rw [Addr.add_zero'] at hx879_7); replace p879 := eq_true p879; replace q879 := eq_true q879) | ((with_reducible refine gD_ (N := 9) rfl ?_); refine bE_ ?hg (N := 9) ?hd (cs := #[.int .i64 0, .int .i64 0, .bool false, .string (⟨#[]⟩ : ByteArray), .string (⟨#[]⟩ : ByteArray), .int .i64 0, .int .i64 0, .bool false]) (t := 28) ?hr ?_; (case hd => rfl); (case hg => rfl); (case hr => first | (go_simp; done) | (go_simp; rfl)); intro gb880 hg w34 hbox hb; have n0_ := A0_.mk (Kd.R_below (xR_ HO875.out) hb); have n1_ := A0_.mk (Kd.R_below (Kd.R_elderB (xR_ HO878.out) gb880 (Nat.le_of_eq hg.symm)) hb); have n2_ := A0_.mk (kB_ (g := gb872) (o := .cells #[.int .u16 a0_0, .int .u16 a0_1, .int .u16 a0_2, .int .u16 a0_3, .int .u16 a0_4] 46 (0, 0)) (xK_ BK872.out) hb); have n3_ := A0_.mk (bT_ (by repeat (first | (with_reducible first | exact HB.out | apply bA_ | apply pB_ | apply b1_ | refine bS_ ?_ GE872.out) | exact HB.out)) hb); have n4_ := A0_.mk (hbox); have n5_ := A0_.mk ((by rw [hg]; exact (bZ_ (by repeat (first | (with_reducible first | exact HB.out | apply bA_ | apply pB_ | apply b1_ | refine bS_ ?_ GE872.out) | exact HB.out))) : w.heap.size ≤ gb880)); have n6_ := A0_.mk ((by rw [hg]; exact (bZ_ (by repeat (first | (with_reducible first | exact HB.out | apply bA_ | apply pB_ | apply b1_ | refine bS_ ?_ GE872.out) | exact HB.out))) : w.heap.size ≤ gb880)); have n7_ := A0_.mk ((by rw [hg]; exact Nat.ne_of_lt (blk_lt (g := gb872) (o := .cells #[.int .u16 a0_0, .int .u16 a0_1, .int .u16 a0_2, .int .u16 a0_3, .int .u16 a0_4] 46 (0, 0)) (xK_ BK872.out)) : gb872 ≠ gb880)); have n8_ := A0_.mk ((by rw [hg]; exact Nat.ne_of_gt (blk_lt (g := gb872) (o := .cells #[.int .u16 a0_0, .int .u16 a0_1, .int .u16 a0_2, .int .u16 a0_3, .int .u16 a0_4] 46 (0, 0)) (xK_ BK872.out)) : gb880 ≠ gb872)); clear HO875; clear HO878; clear BK872; clear HB; have HO875 := n0_; have HO878 := n1_; have BK872 := n2_; have HB := n3_; have BK880 := n4_; have GW880 := n5_; have GE880 := n6_; have NB872_880 := n7_; have NB880_872 := n8_; clear n0_ n1_ n2_ n3_ n4_ n5_ n6_ n7_ n8_; clear hb hbox hg; have hnb35 := NB880_872.out; have hnc35 := NB872_880.out; have hcz36_0 : w34.cell? ⟨gb880, 0, none⟩ = some (.int .i64 0) := (kc_ BK880.out 0).trans rfl; have hcz36_1 : w34.cell? ⟨gb880, 1, none⟩ = some (.int .i64 0) := (kc_ BK880.out 1).trans rfl; have hcz36_2 : w34.cell? ⟨gb880, 2, none⟩ = some (.bool false) := (kc_ BK880.out 2).trans rfl; have hcz36_3 : w34.cell? ⟨gb880, 3, none⟩ = some (.string (⟨#[]⟩ : ByteArray)) := (kc_ BK880.out 3).trans rfl; have hcz36_4 : w34.cell? ⟨gb880, 4, none⟩ = some (.string (⟨#[]⟩ : ByteArray)) := (kc_ BK880.out 4).trans rfl; have hcz36_5 : w34.cell? ⟨gb880, 5, none⟩ = some (.int .i64 0) := (kc_ BK880.out 5).trans rfl; have hcz36_6 : w34.cell? ⟨gb880, 6, none⟩ = some (.int .i64 0) := (kc_ BK880.out 6).trans rfl; have hcz36_7 : w34.cell? ⟨gb880, 7, none⟩ = some (.bool false) := (kc_ BK880.out 7).trans rfl; have hfz36_0 := kF_ BK880.out 0; have hfz36_1 := kF_ BK880.out 1; have hfz36_2 := kF_ BK880.out 2; have hfz36_3 := kF_ BK880.out 3; have hfz36_4 := kF_ BK880.out 4; have hfz36_5 := kF_ BK880.out 5; have hfz36_6 := kF_ BK880.out 6; have hfz36_7 := kF_ BK880.out 7) | ((with_reducible refine gC_ (f := 13) rfl ?_); refine goesL_ (some 22) rfl rfl Tryd.func13 (by kernel_rfl) rfl #[.agg #[.int .i64 ((rd_T28 t876 0).f0), .int .i64 ((rd_T28 t876 0).f1), .bool ((rd_T28 t876 0).f2.f0), .string ((rd_T28 t876 0).f2.f1), .string ((rd_T28 t876 0).f2.f2), .int .i64 ((rd_T28 t876 0).f3), .int .i64 ((rd_T28 t876 0).f4), .bool ((rd_T28 t876 0).f5)], .int .i64 (wrap64 (a1)), .int .i64 (wrap64 (a2))] rfl mp_ ?_; (with_reducible refine (setoff_Eligible.calls ((rd_T28 t876 0).f0) ((rd_T28 t876 0).f1) ((rd_T28 t876 0).f2.f0) ((rd_T28 t876 0).f2.f1) ((rd_T28 t876 0).f2.f2) ((rd_T28 t876 0).f3) ((rd_T28 t876 0).f4) ((rd_T28 t876 0).f5) (wrap64 (a1)) (wrap64 (a2)) false _ A7.out).mono ?_); rintro e w37 ⟨rfl, hb⟩; refine ⟨_, rfl, ?_⟩; have n0_ := A0_.mk (Kd.R_below (by (with_reducible repeat (first | apply Kd.R_alloc | apply Kd.R_drewN | apply Kd.R_drew)); exact (Kd.R_mono (Kd.R_far (p := ⟨gb880, 7, none⟩) (Kd.R_far (p := ⟨gb880, 6, none⟩) (Kd.R_far (p := ⟨gb880, 5, none⟩) (Kd.R_far (p := ⟨gb880, 4, none⟩) (Kd.R_far (p := ⟨gb880, 3, none⟩) (Kd.R_far (p := ⟨gb880, 2, none⟩) (Kd.R_far (p := ⟨gb880, 1, none⟩) (Kd.R_far (p := ⟨gb880, 0, none⟩) (Kd.R_types HO875.out BK880.out (by decide)) (fun _ hk => hk.2) (.int .i64 ((rd_T28 t876 0).f0))) (fun _ hk => hk.2) (.int .i64 ((rd_T28 t876 0).f1))) (fun _ hk => hk.2) (.bool ((rd_T28 t876 0).f2.f0))) (fun _ hk => hk.2) (.string ((rd_T28 t876 0).f2.f1))) (fun _ hk => hk.2) (.string ((rd_T28 t876 0).f2.f2))) (fun _ hk => hk.2) (.int .i64 ((rd_T28 t876 0).f3))) (fun _ hk => hk.2) (.int .i64 ((rd_T28 t876 0).f4))) (fun _ hk => hk.2) (.bool ((rd_T28 t876 0).f5))) (fun _ h_ => h_.1))) hb); have n1_ := A0_.mk (Kd.R_below (by (with_reducible repeat (first | apply Kd.R_alloc | apply Kd.R_drewN | apply Kd.R_drew)); exact (Kd.R_mono (Kd.R_far (p := ⟨gb880, 7, none⟩) (Kd.R_far (p := ⟨gb880, 6, none⟩) (Kd.R_far (p := ⟨gb880, 5, none⟩) (Kd.R_far (p := ⟨gb880, 4, none⟩) (Kd.R_far (p := ⟨gb880, 3, none⟩) (Kd.R_far (p := ⟨gb880, 2, none⟩) (Kd.R_far (p := ⟨gb880, 1, none⟩) (Kd.R_far (p := ⟨gb880, 0, none⟩) (Kd.R_mono HO878.out (fun k_ hk => (⟨hk, hk.2⟩ : _ ∧ k_ ≠ gb880))) (fun _ hk => hk.2) (.int .i64 ((rd_T28 t876 0).f0))) (fun _ hk => hk.2) (.int .i64 ((rd_T28 t876 0).f1))) (fun _ hk => hk.2) (.bool ((rd_T28 t876 0).f2.f0))) (fun _ hk => hk.2) (.string ((rd_T28 t876 0).f2.f1))) (fun _ hk => hk.2) (.string ((rd_T28 t876 0).f2.f2))) (fun _ hk => hk.2) (.int .i64 ((rd_T28 t876 0).f3))) (fun _ hk => hk.2) (.int .i64 ((rd_T28 t876 0).f4))) (fun _ hk => hk.2) (.bool ((rd_T28 t876 0).f5))) (fun _ h_ => h_.1))) hb); have n2_ := A0_.mk (kB_ (g := gb872) (o := .cells #[.int .u16 a0_0, .int .u16 a0_1, .int .u16 a0_2, .int .u16 a0_3, .int .u16 a0_4] 46 (0, 0)) (by (with_reducible repeat (first | refine kN_ ?_ _ | refine kD_ ?_ | refine kA_ ?_ _)); refine blk_far ?_ NB872_880.out _; (with_reducible repeat (first | refine kN_ ?_ _ | refine kD_ ?_ | refine kA_ ?_ _)); refine blk_far ?_ NB872_880.out _; (with_reducible repeat (first | refine kN_ ?_ _ | refine kD_ ?_ | refine kA_ ?_ _)); refine blk_far ?_ NB872_880.out _; (with_reducible repeat (first | refine kN_ ?_ _ | refine kD_ ?_ | refine kA_ ?_ _)); refine blk_far ?_ NB872_880.out _; (with_reducible repeat (first | refine kN_ ?_ _ | refine kD_ ?_ | refine kA_ ?_ _)); refine blk_far ?_ NB872_880.out _; (with_reducible repeat (first | refine kN_ ?_ _ | refine kD_ ?_ | refine kA_ ?_ _)); refine blk_far ?_ NB872_880.out _; (with_reducible repeat (first | refine kN_ ?_ _ | refine kD_ ?_ | refine kA_ ?_ _)); refine blk_far ?_ NB872_880.out _; (with_reducible repeat (first | refine kN_ ?_ _ | refine kD_ ?_ | refine kA_ ?_ _)); refine blk_far ?_ NB872_880.out _; (with_reducible repeat (first | refine kN_ ?_ _ | refine kD_ ?_ | refine kA_ ?_ _)); exact BK872.out) hb); have n3_ := A0_.mk (kB_ (g := gb880) (o := .cells #[.int .i64 ((rd_T28 t876 0).f0), .int .i64 ((rd_T28 t876 0).f1), .bool ((rd_T28 t876 0).f2.f0), .string ((rd_T28 t876 0).f2.f1), .string ((rd_T28 t876 0).f2.f2), .int .i64 ((rd_T28 t876 0).f3), .int .i64 ((rd_T28 t876 0).f4), .bool ((rd_T28 t876 0).f5)] 28 (0, 0)) (by (with_reducible repeat (first | refine kN_ ?_ _ | refine kD_ ?_ | refine kA_ ?_ _)); refine kP_ (cs := #[.int .i64 ((rd_T28 t876 0).f0), .int .i64 ((rd_T28 t876 0).f1), .bool ((rd_T28 t876 0).f2.f0), .string ((rd_T28 t876 0).f2.f1), .string ((rd_T28 t876 0).f2.f2), .int .i64 ((rd_T28 t876 0).f3), .int .i64 ((rd_T28 t876 0).f4), .bool false]) ?_ 7 _ rfl; (with_reducible repeat (first | refine kN_ ?_ _ | refine kD_ ?_ | refine kA_ ?_ _)); refine kP_ (cs := #[.int .i64 ((rd_T28 t876 0).f0), .int .i64 ((rd_T28 t876 0).f1), .bool ((rd_T28 t876 0).f2.f0), .string ((rd_T28 t876 0).f2.f1), .string ((rd_T28 t876 0).f2.f2), .int .i64 ((rd_T28 t876 0).f3), .int .i64 0, .bool false]) ?_ 6 _ rfl; (with_reducible repeat (first | refine kN_ ?_ _ | refine kD_ ?_ | refine kA_ ?_ _)); refine kP_ (cs := #[.int .i64 ((rd_T28 t876 0).f0), .int .i64 ((rd_T28 t876 0).f1), .bool ((rd_T28 t876 0).f2.f0), .string ((rd_T28 t876 0).f2.f1), .string ((rd_T28 t876 0).f2.f2), .int .i64 0, .int .i64 0, .bool false]) ?_ 5 _ rfl; (with_reducible repeat (first | refine kN_ ?_ _ | refine kD_ ?_ | refine kA_ ?_ _)); refine kP_ (cs := #[.int .i64 ((rd_T28 t876 0).f0), .int .i64 ((rd_T28 t876 0).f1), .bool ((rd_T28 t876 0).f2.f0), .string ((rd_T28 t876 0).f2.f1), .string (⟨#[]⟩ : ByteArray), .int .i64 0, .int .i64 0, .bool false]) ?_ 4 _ rfl; (with_reducible repeat (first | refine kN_ ?_ _ | refine kD_ ?_ | refine kA_ ?_ _)); refine kP_ (cs := #[.int .i64 ((rd_T28 t876 0).f0), .int .i64 ((rd_T28 t876 0).f1), .bool ((rd_T28 t876 0).f2.f0), .string (⟨#[]⟩ : ByteArray), .string (⟨#[]⟩ : ByteArray), .int .i64 0, .int .i64 0, .bool false]) ?_ 3 _ rfl; (with_reducible repeat (first | refine kN_ ?_ _ | refine kD_ ?_ | refine kA_ ?_ _)); refine kP_ (cs := #[.int .i64 ((rd_T28 t876 0).f0), .int .i64 ((rd_T28 t876 0).f1), .bool false, .string (⟨#[]⟩ : ByteArray), .string (⟨#[]⟩ : ByteArray), .int .i64 0, .int .i64 0, .bool false]) ?_ 2 _ rfl; (with_reducible repeat (first | refine kN_ ?_ _ | refine kD_ ?_ | refine kA_ ?_ _)); refine kP_ (cs := #[.int .i64 ((rd_T28 t876 0).f0), .int .i64 0, .bool false, .string (⟨#[]⟩ : ByteArray), .string (⟨#[]⟩ : ByteArray), .int .i64 0, .int .i64 0, .bool false]) ?_ 1 _ rfl; (with_reducible repeat (first | refine kN_ ?_ _ | refine kD_ ?_ | refine kA_ ?_ _)); refine kP_ (cs := #[.int .i64 0, .int .i64 0, .bool false, .string (⟨#[]⟩ : ByteArray), .string (⟨#[]⟩ : ByteArray), .int .i64 0, .int .i64 0, .bool false]) ?_ 0 _ rfl; (with_reducible repeat (first | refine kN_ ?_ _ | refine kD_ ?_ | refine kA_ ?_ _)); exact BK880.out) hb); have n4_ := A0_.mk (bT_ (by repeat (first | (with_reducible first | exact HB.out | apply bA_ | apply pB_ | apply b1_ | refine bS_ ?_ GE872.out | refine bS_ ?_ GE880.out) | exact HB.out)) hb); clear HO875; clear HO878; clear BK872; clear BK880; clear HB; have HO875 := n0_; have HO878 := n1_; have BK872 := n2_; have BK880 := n3_; have HB := n4_; clear n0_ n1_ n2_ n3_ n4_; (try clear hb); (try clear hb2); (try clear hk); (try clear hi)))
     have n0_ := A0_.mk (Kd.R_drew HO875.out)
     have n1_ := A0_.mk (Kd.R_drew HO878.out)
     have n2_ := A0_.mk (kD_ BK872.out)
     have n3_ := A0_.mk (kD_ BK880.out)
     have n4_ := A0_.mk (b1_ HB.out)
     clear HO875
     clear HO878
     clear BK872
     clear BK880
     clear HB
     have HO875 := n0_
     have HO878 := n1_
     have BK872 := n2_
     have BK880 := n3_
     have HB := n4_
     clear n0_ n1_ n2_ n3_ n4_
     refine start_ (n := 14) (S := fun w' => w'.cell? ⟨gb880, 0, none⟩ = some (.int .i64 ((rd_T28 t876 0).f0)) ∧ w'.cell? ⟨gb880, 1, none⟩ = some (.int .i64 ((rd_T28 t876 0).f1)) ∧ w'.cell? ⟨gb880, 2, none⟩ = some (.bool ((rd_T28 t876 0).f2.f0)) ∧ w'.cell? ⟨gb880, 3, none⟩ = some (.string ((rd_T28 t876 0).f2.f1)) ∧ w'.cell? ⟨gb880, 4, none⟩ = some (.string ((rd_T28 t876 0).f2.f2)) ∧ w'.cell? ⟨gb880, 5, none⟩ = some (.int .i64 ((rd_T28 t876 0).f3)) ∧ w'.cell? ⟨gb880, 6, none⟩ = some (.int .i64 ((rd_T28 t876 0).f4)) ∧ w'.cell? ⟨gb880, 7, none⟩ = some (.bool ((rd_T28 t876 0).f5))) (ds := []) #[false, false, false, false, false, false, false, false, false, false, false, false, false, false] (by kernel_rfl) rfl rfl ⟨(kc_ BK880.out 0).trans rfl, (kc_ BK880.out 1).trans rfl, (kc_ BK880.out 2).trans rfl, (kc_ BK880.out 3).trans rfl, (kc_ BK880.out 4).trans rfl, (kc_ BK880.out 5).trans rfl, (kc_ BK880.out 6).trans rfl, (kc_ BK880.out 7).trans rfl⟩ (fun hHeld => ?_); refine with_tabW insolvencylaw14_SetoffWindow.tab3 insolvencylaw14_SetoffWindow.bits3 (fun HT_ HW_ => ?_)
     generalize w37.drew = w38 at HO875 HO878 BK872 BK880 HB hHeld ⊢
     refine pure_ (i := 1) (N := some 24) (v := ?_) (a' := ?_) #[false, true, false, false, false, false, false, false, false, false, false, false, false, false] rfl rfl (any_of HT_.out (by kernel_rfl)) (fun _ _ _ h => h) (Or.inl ⟨by rfl, ?_⟩) ?_ ?_
     rotate_left
     ·intro w'
      go_simp
      with_reducible rfl
     rotate_left
     ·simp only [Act.put, s1_, s2_, s3_, i64_w, i32_w]
      rfl
     refine pure_ (i := 2) (N := some 25) (v := ?_) (a' := ?_) #[false, true, true, false, false, false, false, false, false, false, false, false, false, false] rfl rfl (any_of HT_.out (by kernel_rfl)) (fun _ _ _ h => h) (Or.inl ⟨by rfl, ?_⟩) ?_ ?_
     rotate_left
     ·intro w'
      go_simp
      with_reducible rfl
     rotate_left
     ·simp only [Act.put, s1_, s2_, s3_, i64_w, i32_w]
      rfl
     refine pure_ (i := 3) (N := some 26) (v := ?_) (a' := ?_) #[false, true, true, true, false, false, false, false, false, false, false, false, false, false] rfl rfl (any_of HT_.out (by kernel_rfl)) (fun _ _ _ h => h) (Or.inl ⟨by rfl, ?_⟩) ?_ ?_
     rotate_left
     ·intro w'
      go_simp
      with_reducible rfl
     rotate_left
     ·simp only [Act.put, s1_, s2_, s3_, i64_w, i32_w]
      rfl
     refine pure_ (i := 4) (N := some 27) (v := ?_) (a' := ?_) #[false, true, true, true, true, false, false, false, false, false, false, false, false, false] rfl rfl (any_of HT_.out (by kernel_rfl)) (fun _ _ _ h => h) (Or.inl ⟨by rfl, ?_⟩) ?_ ?_
     rotate_left
     ·intro w'
      go_simp
      with_reducible rfl
     rotate_left
     ·simp only [Act.put, s1_, s2_, s3_, i64_w, i32_w]
      rfl
     refine pure_ (i := 5) (N := some 28) (v := ?_) (a' := ?_) #[false, true, true, true, true, true, false, false, false, false, false, false, false, false] rfl rfl (any_of HT_.out (by kernel_rfl)) (fun _ _ _ h => h) (Or.inl ⟨by rfl, ?_⟩) ?_ ?_
     rotate_left
     ·intro w'
      go_simp
      with_reducible rfl
     rotate_left
     ·simp only [Act.put, s1_, s2_, s3_, i64_w, i32_w]
      rfl
     refine pure_ (i := 6) (N := some 29) (v := ?_) (a' := ?_) #[false, true, true, true, true, true, true, false, false, false, false, false, false, false] rfl rfl (any_of HT_.out (by kernel_rfl)) (fun _ _ _ h => h) (Or.inl ⟨by rfl, ?_⟩) ?_ ?_
     rotate_left
     ·intro w'
      go_simp
      with_reducible rfl
     rotate_left
     ·simp only [Act.put, s1_, s2_, s3_, i64_w, i32_w]
      rfl
     refine pure_ (i := 7) (N := some 30) (v := ?_) (a' := ?_) #[false, true, true, true, true, true, true, true, false, false, false, false, false, false] rfl rfl (any_of HT_.out (by kernel_rfl)) (fun _ _ _ h => h) (Or.inl ⟨by rfl, ?_⟩) ?_ ?_
     rotate_left
     ·intro w'
      go_simp
      with_reducible rfl
     rotate_left
     ·simp only [Act.put, s1_, s2_, s3_, i64_w, i32_w]
      rfl
     refine pure_ (i := 8) (N := some 31) (v := ?_) (a' := ?_) #[false, true, true, true, true, true, true, true, true, false, false, false, false, false] rfl rfl (any_of HT_.out (by kernel_rfl)) (fun _ _ _ h => h) (Or.inl ⟨by rfl, ?_⟩) ?_ ?_
     rotate_left
     ·intro w'
      go_simp
      with_reducible rfl
     rotate_left
     ·simp only [Act.put, s1_, s2_, s3_, i64_w, i32_w]
      rfl
     refine pure_ (i := 9) (N := some 32) (v := ?_) (a' := ?_) #[false, true, true, true, true, true, true, true, true, true, false, false, false, false] rfl rfl (any_of HT_.out (by kernel_rfl)) (fun _ _ _ h => h) (Or.inl ⟨by rfl, ?_⟩) ?_ ?_
     rotate_left
     ·intro w'
      go_simp
      with_reducible rfl
     rotate_left
     ·simp only [Act.put, s1_, s2_, s3_, i64_w, i32_w]
      rfl
     refine pure_ (i := 10) (N := some 33) (v := ?_) (a' := ?_) #[false, true, true, true, true, true, true, true, true, true, true, false, false, false] rfl rfl (any_of HT_.out (by kernel_rfl)) (fun _ _ _ h => h) (Or.inl ⟨by rfl, ?_⟩) ?_ ?_
     rotate_left
     ·intro w'
      go_simp
      with_reducible rfl
     rotate_left
     ·simp only [Act.put, s1_, s2_, s3_, i64_w, i32_w]
      rfl
     refine pure_ (i := 11) (N := some 34) (v := ?_) (a' := ?_) #[false, true, true, true, true, true, true, true, true, true, true, true, false, false] rfl rfl (any_of HT_.out (by kernel_rfl)) (fun _ _ _ h => h) (Or.inl ⟨by rfl, ?_⟩) ?_ ?_
     rotate_left
     ·intro w'
      go_simp
      with_reducible rfl
     rotate_left
     ·simp only [Act.put, s1_, s2_, s3_, i64_w, i32_w]
      rfl
     refine take_ (i := 0) (N := some 23) (v := ?_) (a' := ?_) #[true, true, true, true, true, true, true, true, true, true, true, true, false, false] rfl rfl (take_ofW HT_.out HW_.out (by kernel_rfl)) (fun _ _ _ h => h) (Or.inl ⟨by rfl, ?_⟩) hHeld ?_ ?_
     rotate_left
     ·rintro w' ⟨s0, s1, s2, s3, s4, s5, s6, s7⟩
      go_simp
      with_reducible rfl
     rotate_left
     ·simp only [Act.put, s1_, s2_, s3_, i64_w, i32_w]
      rfl
     refine one_ (i := 12) (N := some 35) #[true, true, true, true, true, true, true, true, true, true, true, true, true, false] rfl rfl (one_of HT_.out (by kernel_rfl)) (by decide) (fun K hK => ?_)
     refine goes_ Tryd.func13 (by kernel_rfl) rfl #[.agg #[.int .i64 ((rd_T28 t876 0).f0), .int .i64 ((rd_T28 t876 0).f1), .bool ((rd_T28 t876 0).f2.f0), .string ((rd_T28 t876 0).f2.f1), .string ((rd_T28 t876 0).f2.f2), .int .i64 ((rd_T28 t876 0).f3), .int .i64 ((rd_T28 t876 0).f4), .bool ((rd_T28 t876 0).f5)], .int .i64 (wrap64 (a1)), .int .i64 (wrap64 ((wrap64 (a2)) - (Int.tmod (wrap64 (a3)) (wrap64 ((wrap64 (a2)) + 1)))))] (by rfl) rfl rfl mp_ ?_
     with_reducible refine (setoff_Eligible.calls ((rd_T28 t876 0).f0) ((rd_T28 t876 0).f1) ((rd_T28 t876 0).f2.f0) ((rd_T28 t876 0).f2.f1) ((rd_T28 t876 0).f2.f2) ((rd_T28 t876 0).f3) ((rd_T28 t876 0).f4) ((rd_T28 t876 0).f5) (wrap64 (a1)) (wrap64 ((wrap64 (a2)) - (Int.tmod (wrap64 (a3)) (wrap64 ((wrap64 (a2)) + 1))))) t882 _ A9.out).mono ?_
     rintro e w39 ⟨rfl, hb⟩
     refine ⟨_, rfl, ?_⟩
     have n0_ := A0_.mk (Kd.R_below (xR_ HO875.out) hb)
     have n1_ := A0_.mk (Kd.R_below (xR_ HO878.out) hb)
     have n2_ := A0_.mk (kB_ (g := gb872) (o := .cells #[.int .u16 a0_0, .int .u16 a0_1, .int .u16 a0_2, .int .u16 a0_3, .int .u16 a0_4] 46 (0, 0)) (xK_ BK872.out) hb)
     have n3_ := A0_.mk (kB_ (g := gb880) (o := .cells #[.int .i64 ((rd_T28 t876 0).f0), .int .i64 ((rd_T28 t876 0).f1), .bool ((rd_T28 t876 0).f2.f0), .string ((rd_T28 t876 0).f2.f1), .string ((rd_T28 t876 0).f2.f2), .int .i64 ((rd_T28 t876 0).f3), .int .i64 ((rd_T28 t876 0).f4), .bool ((rd_T28 t876 0).f5)] 28 (0, 0)) (xK_ BK880.out) hb)
     have n4_ := A0_.mk (bT_ (by repeat (first | (with_reducible first | exact HB.out | apply bA_ | apply pB_ | apply b1_ | refine bS_ ?_ GE872.out | refine bS_ ?_ GE880.out) | exact HB.out)) hb)
     clear HO875
     clear HO878
     clear BK872
     clear BK880
     clear HB
     have HO875 := n0_
     have HO878 := n1_
     have BK872 := n2_
     have BK880 := n3_
     have HB := n4_
     clear n0_ n1_ n2_ n3_ n4_
     (try clear hb)
     (try clear hb2)
     (try clear hk)
     (try clear hi)
     refine hK.out _ _ ⟨(kc_ BK880.out 0).trans rfl, (kc_ BK880.out 1).trans rfl, (kc_ BK880.out 2).trans rfl, (kc_ BK880.out 3).trans rfl, (kc_ BK880.out 4).trans rfl, (kc_ BK880.out 5).trans rfl, (kc_ BK880.out 6).trans rfl, (kc_ BK880.out 7).trans rfl⟩ (fun hHeld => ?_)
     clear hK K
     refine norm_ (a' := ?_) ?_ ?_
     rotate_left
     ·show Act.put _ (some 35) _ = _
      simp only [Act.put, s1_, s2_, s3_, i64_w, i32_w]
      rfl
     refine pure_ (i := 13) (N := some 11) (v := ?_) (a' := ?_) #[true, true, true, true, true, true, true, true, true, true, true, true, true, true] rfl rfl (any_of HT_.out (by kernel_rfl)) (fun _ _ _ h => h) (Or.inl ⟨by rfl, ?_⟩) ?_ ?_
     rotate_left
     ·intro w'
      go_simp
      with_reducible rfl
     rotate_left
     ·simp only [Act.put, s1_, s2_, s3_, i64_w, i32_w]
      rfl
     refine done_ (done_of HT_.out (by kernel_rfl)) ?_
     try go_wp2_with (first | ((with_reducible refine gC_ (f := 12) rfl ?_); refine goesL_ (some 36) rfl rfl Tryd.func12 (by kernel_rfl) rfl #[] rfl mp_ ?_; (with_reducible refine (insolvencylaw14_awake.calls k  true _ A10.out).mono ?_); rintro e w40 ⟨rfl, hb⟩; refine ⟨_, rfl, ?_⟩; have n0_ := A0_.mk (Kd.R_below (xR_ HO875.out) hb); have n1_ := A0_.mk (Kd.R_below (xR_ HO878.out) hb); have n2_ := A0_.mk (kB_ (g := gb872) (o := .cells #[.int .u16 a0_0, .int .u16 a0_1, .int .u16 a0_2, .int .u16 a0_3, .int .u16 a0_4] 46 (0, 0)) (xK_ BK872.out) hb); have n3_ := A0_.mk (kB_ (g := gb880) (o := .cells #[.int .i64 ((rd_T28 t876 0).f0), .int .i64 ((rd_T28 t876 0).f1), .bool ((rd_T28 t876 0).f2.f0), .string ((rd_T28 t876 0).f2.f1), .string ((rd_T28 t876 0).f2.f2), .int .i64 ((rd_T28 t876 0).f3), .int .i64 ((rd_T28 t876 0).f4), .bool ((rd_T28 t876 0).f5)] 28 (0, 0)) (xK_ BK880.out) hb); have n4_ := A0_.mk (bT_ (by repeat (first | (with_reducible first | exact HB.out | apply bA_ | apply pB_ | apply b1_ | refine bS_ ?_ GE872.out | refine bS_ ?_ GE880.out) | exact HB.out)) hb); clear HO875; clear HO878; clear BK872; clear BK880; clear HB; have HO875 := n0_; have HO878 := n1_; have BK872 := n2_; have BK880 := n3_; have HB := n4_; clear n0_ n1_ n2_ n3_ n4_; (try clear hb); (try clear hb2); (try clear hk); (try clear hi)))
     go_ret
     exact ⟨by first | rfl | (simp [errW_none, errW_some] <;> rfl) | (simp [*, errW_none, errW_some] <;> rfl), by repeat (first | (with_reducible first | exact HB.out | apply bA_ | apply pB_ | apply b1_ | refine bS_ ?_ GE872.out | refine bS_ ?_ GE880.out) | exact HB.out)⟩
   ·replace c11 := Bool.eq_false_iff.mpr c11
    subst c11
    have H1 : (none) = some r := by rw [if_neg (show ¬ (false = true) by decide)] at H; exact H
    exact absurd H1 (by simp)
 ·rw [if_neg c6] at H
  exact absurd H (by simp)
end Go.Proofs.YtnegkpnhjgimcaaDoor.C
end
section
set_option linter.unusedVariables false
set_option linter.unusedSimpArgs false
namespace Go.Proofs.YtnegkpnhjgimcaaDoor.C
open Go.RowKit Go.Proofs.YtnegkpnhjgimcaaDoorW.PrintWords Go.Proofs.YtnegkpnhjgimcaaDoorW.PrintLast Go.Proofs.YtnegkpnhjgimcaaDoorW.PrintMore
set_option maxRecDepth 100000 in
theorem awake_ev : Ev (fun k => insolvencylaw14_awake.f k) true := Ev.of insolvencylaw14_awake.mono (k := 60) (by decide +kernel)
theorem ow64 {x : Int} (h0 : -9223372036854775808 ≤ x) (h1 : x < 9223372036854775808) : wrap64 x = x := by
  unfold wrap64; omega
theorem u16w {x : Int} (h0 : 0 ≤ x) (h1 : x < 65536) : IntKind.u16.wrap x = x := by
  simp [IntKind.wrap, IntKind.bits, IntKind.signed]; omega
set_option maxRecDepth 100000 in
theorem ratio_tab : ∀ a : Fin 23, ∀ b : Fin 6, (insolvencylaw0_Ratio.f 60 ((a : Nat) : Int) (1 + ((b : Nat) : Int))).isSome = true := by decide +kernel
set_option maxRecDepth 100000 in
theorem whole_tab : ∀ a : Fin 31, (insolvencylaw0_Whole.f 60 ((a : Nat) : Int)).isSome = true := by decide +kernel
def amtB (x : Int) : Bool × ByteArray × ByteArray :=
  if x % 5 = 0 then (insolvencylaw0_Ratio.f 60 (x / 5 % 23) (1 + x / 115 % 6)).getD (false, ⟨#[]⟩, ⟨#[]⟩)
  else if x % 5 = 1 then (insolvencylaw0_Whole.f 60 (10 * (x / 5 % 4))).getD (false, ⟨#[]⟩, ⟨#[]⟩)
  else (insolvencylaw0_Whole.f 60 (x / 5 % 13)).getD (false, ⟨#[]⟩, ⟨#[]⟩)
theorem ratio_ev {a b : Int} (ha : 0 ≤ a ∧ a < 23) (hb : 0 ≤ b ∧ b < 6) : Ev (fun k => insolvencylaw0_Ratio.f k a (1 + b)) ((insolvencylaw0_Ratio.f 60 a (1 + b)).getD (false, ⟨#[]⟩, ⟨#[]⟩)) := by
  have h := ratio_tab ⟨a.toNat, by omega⟩ ⟨b.toNat, by omega⟩
  simp only [Int.toNat_of_nonneg ha.1, Int.toNat_of_nonneg hb.1] at h
  obtain ⟨v, hv⟩ := Option.isSome_iff_exists.1 h
  rw [hv]
  exact Ev.of (insolvencylaw0_Ratio.mono _ _) hv
theorem whole_ev {a : Int} (ha : 0 ≤ a ∧ a < 31) : Ev (fun k => insolvencylaw0_Whole.f k a) ((insolvencylaw0_Whole.f 60 a).getD (false, ⟨#[]⟩, ⟨#[]⟩)) := by
  have h := whole_tab ⟨a.toNat, by omega⟩
  simp only [Int.toNat_of_nonneg ha.1] at h
  obtain ⟨v, hv⟩ := Option.isSome_iff_exists.1 h
  rw [hv]
  exact Ev.of (insolvencylaw0_Whole.mono _) hv
theorem amount_ev (x : Int) (h0 : 0 ≤ x) (h1 : x < 65536) : Ev (fun k => insolvencylaw0_Amount.f k x) (amtB x) := by
  have e5 : Int.tmod x 5 = x % 5 := Int.tmod_eq_emod_of_nonneg h0
  have d5 : Int.tdiv x 5 = x / 5 := Int.tdiv_eq_ediv_of_nonneg h0
  have d115 : Int.tdiv x 115 = x / 115 := Int.tdiv_eq_ediv_of_nonneg h0
  have w5 : IntKind.u16.wrap (x / 5) = x / 5 := u16w (by omega) (by omega)
  have w115 : IntKind.u16.wrap (x / 115) = x / 115 := u16w (by omega) (by omega)
  have m23 : Int.tmod (x / 5) 23 = x / 5 % 23 := Int.tmod_eq_emod_of_nonneg (by omega)
  have m6 : Int.tmod (x / 115) 6 = x / 115 % 6 := Int.tmod_eq_emod_of_nonneg (by omega)
  have m4 : Int.tmod (x / 5) 4 = x / 5 % 4 := Int.tmod_eq_emod_of_nonneg (by omega)
  have m13 : Int.tmod (x / 5) 13 = x / 5 % 13 := Int.tmod_eq_emod_of_nonneg (by omega)
  unfold insolvencylaw0_Amount.f amtB
  simp only [e5, d5, d115, w5, w115, m23, m6, m4, m13]
  by_cases c0 : x % 5 = 0
  · simp only [if_pos c0]
    rw [ow64 (x := x / 5 % 23) (by omega) (by omega), ow64 (x := x / 115 % 6) (by omega) (by omega), ow64 (x := 1 + x / 115 % 6) (by omega) (by omega)]
    exact Ev.bind (ratio_ev (by omega) (by omega)) (Ev.now _)
  · simp only [if_neg c0]
    by_cases c1 : x % 5 = 1
    · simp only [if_pos c1]
      rw [ow64 (x := x / 5 % 4) (by omega) (by omega), ow64 (x := 10 * (x / 5 % 4)) (by omega) (by omega)]
      exact Ev.bind (whole_ev (by omega)) (Ev.now _)
    · simp only [if_neg c1]
      rw [ow64 (x := x / 5 % 13) (by omega) (by omega)]
      exact Ev.bind (whole_ev (by omega)) (Ev.now _)
def okx (x : S46) : Prop := (0 ≤ x.f0 ∧ x.f0 < 65536) ∧ (0 ≤ x.f1 ∧ x.f1 < 65536) ∧ (0 ≤ x.f2 ∧ x.f2 < 65536) ∧ (0 ≤ x.f3 ∧ x.f3 < 65536) ∧ (0 ≤ x.f4 ∧ x.f4 < 65536)
def obl (x : S46) : S28 := ⟨x.f0 % 4, if x.f1 % 3 ≥ x.f0 % 4 then x.f1 % 3 + 1 else x.f1 % 3, ⟨(amtB x.f2).1, (amtB x.f2).2.1, (amtB x.f2).2.2⟩, x.f3 % 60, x.f3 % 60 + (if x.f4 % 4 = 3 then x.f4 / 8 % 50 else 0), x.f4 % 8 == 7⟩
theorem obligations_loop (L : List S46) (hL : ∀ x ∈ L, okx x) : ∀ (r i : Nat), i + r = min L.length 16 → Ev (fun k => insolvencylaw0_Obligations.l0 k L ((L.take i).map obl) (i : Int)) ((L.take 16).map obl) := by
  intro r
  induction r with
  | zero =>
    intro i hi
    have hlast : Ev (fun k => insolvencylaw0_Obligations.j1 k L ((L.take i).map obl) (i : Int) false) ((L.take 16).map obl) := by
      refine Ev.step (f := fun _ => some ((L.take i).map obl)) (fun k => ?_) ?_
      · simp only [insolvencylaw0_Obligations.j1]
        rw [if_neg (by decide)]
      · have : L.take i = L.take 16 := by
          rcases Nat.le_total L.length 16 with h | h
          · rw [List.take_of_length_le h, List.take_of_length_le (by omega)]
          · rw [show i = 16 by omega]
        rw [this]; exact Ev.now _
    by_cases h1 : i < L.length
    · refine Ev.step (f := fun k => insolvencylaw0_Obligations.j1 k L ((L.take i).map obl) (i : Int) false) (fun k => ?_) hlast
      simp only [insolvencylaw0_Obligations.l0]
      rw [if_pos (by omega), decide_eq_false (by omega)]
    · refine Ev.step (f := fun k => insolvencylaw0_Obligations.j1 k L ((L.take i).map obl) (i : Int) false) (fun k => ?_) hlast
      simp only [insolvencylaw0_Obligations.l0]
      rw [if_neg (by omega)]
  | succ r ih =>
    intro i hi
    have hiL : i < L.length := by omega
    have hi1 := ih (i + 1) (by omega)
    obtain ⟨x, hx⟩ : ∃ x, L[i] = x := ⟨_, rfl⟩
    have hok : okx x := hL x (hx ▸ List.getElem_mem hiL)
    obtain ⟨o0, o1, o2, o3, o4⟩ := hok
    have hrd : rd_T46 L (i : Int) = x := by
      unfold rd_T46
      rw [Int.toNat_natCast, List.getD_eq_getElem?_getD, List.getElem?_eq_getElem hiL, hx]; rfl
    rw [List.take_add_one, List.getElem?_eq_getElem hiL, hx, List.map_append] at hi1
    have a1 : wrap64 ((i : Int) + 1) = ((i + 1 : Nat) : Int) := by rw [ow64 (by omega) (by omega)]; rfl
    have e0 : wrap64 (Int.tmod x.f0 4) = x.f0 % 4 := by rw [Int.tmod_eq_emod_of_nonneg o0.1, ow64 (by omega) (by omega)]
    have e1 : wrap64 (Int.tmod x.f1 3) = x.f1 % 3 := by rw [Int.tmod_eq_emod_of_nonneg o1.1, ow64 (by omega) (by omega)]
    have e1' : wrap64 (x.f1 % 3 + 1) = x.f1 % 3 + 1 := ow64 (by omega) (by omega)
    have e3 : wrap64 (Int.tmod x.f3 60) = x.f3 % 60 := by rw [Int.tmod_eq_emod_of_nonneg o3.1, ow64 (by omega) (by omega)]
    have e4 : Int.tmod x.f4 4 = x.f4 % 4 := Int.tmod_eq_emod_of_nonneg o4.1
    have e8 : Int.tmod x.f4 8 = x.f4 % 8 := Int.tmod_eq_emod_of_nonneg o4.1
    have d8 : Int.tdiv x.f4 8 = x.f4 / 8 := Int.tdiv_eq_ediv_of_nonneg o4.1
    have w8 : IntKind.u16.wrap (x.f4 / 8) = x.f4 / 8 := u16w (by omega) (by omega)
    have e50 : wrap64 (Int.tmod (x.f4 / 8) 50) = x.f4 / 8 % 50 := by rw [Int.tmod_eq_emod_of_nonneg (by omega), ow64 (by omega) (by omega)]
    have er : ∀ z : Int, rd [0, 0, 0, z] (x.f4 % 4) = if x.f4 % 4 = 3 then z else 0 := by
      intro z
      have : x.f4 % 4 = 0 ∨ x.f4 % 4 = 1 ∨ x.f4 % 4 = 2 ∨ x.f4 % 4 = 3 := by omega
      rcases this with h | h | h | h <;> rw [h] <;> rfl
    have es : wrap64 (x.f3 % 60 + (if x.f4 % 4 = 3 then x.f4 / 8 % 50 else 0)) = x.f3 % 60 + (if x.f4 % 4 = 3 then x.f4 / 8 % 50 else 0) := by split <;> rw [ow64 (by omega) (by omega)]
    have hp0 : (0 : Int) ≤ (i : Int) := by omega
    have hp1 : (i : Int) < (L.length : Int) := by omega
    have hp2 : (0 : Int) ≤ x.f4 % 4 := by omega
    have hp3 : ∀ z : Int, x.f4 % 4 < (([0, 0, 0, z] : List Int).length : Int) := fun z => by simp only [List.length_cons, List.length_nil]; omega
    have hp4 : ((L.take i).map obl).length < 1759218604441 := by rw [List.length_map, List.length_take]; omega
    have hj2 : ∀ c : Int, obl x = ⟨x.f0 % 4, c, ⟨(amtB x.f2).1, (amtB x.f2).2.1, (amtB x.f2).2.2⟩, x.f3 % 60, x.f3 % 60 + (if x.f4 % 4 = 3 then x.f4 / 8 % 50 else 0), x.f4 % 8 == 7⟩ → Ev (fun k => insolvencylaw0_Obligations.j2 k L ((L.take i).map obl) (i : Int) (x.f0 % 4) c x.f0 x.f1 x.f2 x.f3 x.f4) ((L.take 16).map obl) := by
      intro c ho
      refine Ev.step (f := fun k => (insolvencylaw0_Amount.f k x.f2).bind fun b => insolvencylaw0_Obligations.l0 k L ((L.take i).map obl ++ [⟨x.f0 % 4, c, ⟨b.1, b.2.1, b.2.2⟩, x.f3 % 60, x.f3 % 60 + (if x.f4 % 4 = 3 then x.f4 / 8 % 50 else 0), x.f4 % 8 == 7⟩]) ((i + 1 : Nat) : Int)) (fun k => ?_) (Ev.bind (amount_ev x.f2 o2.1 o2.2) ?_)
      · simp only [insolvencylaw0_Obligations.j2, e3, e4, e8, d8, w8, e50, er, es, a1, if_pos hp2, if_pos (hp3 _), if_pos hp4, Option.bind_some]
      · rw [← ho]; exact hi1
    have hj : Ev (fun k => insolvencylaw0_Obligations.j1 k L ((L.take i).map obl) (i : Int) true) ((L.take 16).map obl) := by
      by_cases hc : x.f1 % 3 ≥ x.f0 % 4
      · refine Ev.step (f := fun k => insolvencylaw0_Obligations.j2 k L ((L.take i).map obl) (i : Int) (x.f0 % 4) (x.f1 % 3 + 1) x.f0 x.f1 x.f2 x.f3 x.f4) (fun k => ?_) (hj2 _ (by unfold obl; rw [if_pos hc]))
        simp only [insolvencylaw0_Obligations.j1, hrd, e0, e1, e1', if_pos hp0, if_pos hp1, if_pos hc, if_true]
      · refine Ev.step (f := fun k => insolvencylaw0_Obligations.j2 k L ((L.take i).map obl) (i : Int) (x.f0 % 4) (x.f1 % 3) x.f0 x.f1 x.f2 x.f3 x.f4) (fun k => ?_) (hj2 _ (by unfold obl; rw [if_neg hc]))
        simp only [insolvencylaw0_Obligations.j1, hrd, e0, e1, e1', if_pos hp0, if_pos hp1, if_neg hc, if_true]
    refine Ev.step (f := fun k => insolvencylaw0_Obligations.j1 k L ((L.take i).map obl) (i : Int) true) (fun k => ?_) hj
    simp only [insolvencylaw0_Obligations.l0]
    rw [if_pos hp1, decide_eq_true (by omega)]
theorem obligations_ev (L : List S46) (hL : ∀ x ∈ L, okx x) : Ev (fun k => insolvencylaw0_Obligations.f k L) ((L.take 16).map obl) := by
  unfold insolvencylaw0_Obligations.f
  exact obligations_loop L hL (min L.length 16) 0 (by omega)
end Go.Proofs.YtnegkpnhjgimcaaDoor.C
namespace Go.Proofs.YtnegkpnhjgimcaaDoor.C
open Go.RowKit Go.Proofs.YtnegkpnhjgimcaaDoorW.PrintWords Go.Proofs.YtnegkpnhjgimcaaDoorW.PrintLast Go.Proofs.YtnegkpnhjgimcaaDoorW.PrintMore
def day (a : Int) : Bool := decide (0 ≤ a ∧ a ≤ 1048576)
theorem isDay_eq (a : Int) : setoff_isDay.f a = some (day a) := by
  unfold setoff_isDay.f day
  by_cases h : a ≥ 0
  · rw [if_pos h]
    congr 1
    by_cases h1 : a ≤ 1048576
    · rw [decide_eq_true h1, decide_eq_true ⟨h, h1⟩]
    · rw [decide_eq_false h1, decide_eq_false (fun e => h1 e.2)]
  · rw [if_neg h, decide_eq_false (fun e => h e.1)]
def elig (o : S28) (c s : Int) : Bool := day c && (day s && (!o.f5 && (decide (o.f3 ≤ c) && (decide (o.f4 = o.f3) || decide (o.f4 < wrap64 (c - s))))))
theorem Eligible_eq (o : S28) (c s : Int) : setoff_Eligible.f o.f0 o.f1 o.f2.f0 o.f2.f1 o.f2.f2 o.f3 o.f4 o.f5 c s = some (elig o c s) := by
  unfold setoff_Eligible.f elig
  rw [isDay_eq, isDay_eq]
  cases h1 : day c
  · rfl
  · cases h2 : day s
    · rfl
    · cases h3 : o.f5
      · by_cases h4 : o.f3 ≤ c
        · by_cases h5 : o.f4 = o.f3
          · simp [h4, h5]
          · simp [h4, h5]
        · simp [h4]
      · rfl
end Go.Proofs.YtnegkpnhjgimcaaDoor.C
namespace Go.Proofs.YtnegkpnhjgimcaaDoor.Pure
open Go.RowKit Go.Proofs.YtnegkpnhjgimcaaDoor.C Go.Proofs.YtnegkpnhjgimcaaDoorW.PrintWords Go.Proofs.YtnegkpnhjgimcaaDoorW.PrintLast
theorem elig_window (o : S28) (c s s' : Int) (hc : 0 ≤ c ∧ c ≤ 255) (hs : 0 ≤ s ∧ s ≤ 255) (h0 : 0 ≤ s') (h1 : s' ≤ s) (h : elig o c s = true) : elig o c s' = true := by
  unfold elig at h ⊢
  simp only [Bool.and_eq_true, Bool.or_eq_true, decide_eq_true_eq, day] at h ⊢
  obtain ⟨a, b, d, e, f⟩ := h
  refine ⟨a, by omega, d, e, ?_⟩
  rcases f with f | f
  · exact .inl f
  · rw [ow64 (by omega) (by omega)] at f
    rw [ow64 (by omega) (by omega)]
    exact .inr (by omega)
theorem SetoffWindow (y : S46) (a1 a2 a3 : Int) (hy : okx y) (b1 : 0 ≤ a1 ∧ a1 ≤ 255) (b2 : 0 ≤ a2 ∧ a2 ≤ 255) (b3 : 0 ≤ a3 ∧ a3 ≤ 255) :
    ∃ k, insolvencylaw14_SetoffWindow.f k y.f0 y.f1 y.f2 y.f3 y.f4 a1 a2 a3 = some true := by
  refine Ev.rounds ?_
  obtain ⟨o, ho⟩ : ∃ o, obl y = o := ⟨_, rfl⟩
  have hob := obligations_ev [y] (fun x hx => by
    simp only [List.mem_singleton] at hx
    subst hx
    exact hy)
  have hl : ([y].take 16).map obl = [o] := by rw [← ho]; rfl
  rw [hl] at hob
  unfold insolvencylaw14_SetoffWindow.f
  refine Ev.bind hob ?_
  have hr : rd_T28 [o] 0 = o := rfl
  have w1 : wrap64 a1 = a1 := ow64 (by omega) (by omega)
  have w2 : wrap64 a2 = a2 := ow64 (by omega) (by omega)
  have w3 : wrap64 a3 = a3 := ow64 (by omega) (by omega)
  have w21 : wrap64 (a2 + 1) = a2 + 1 := ow64 (by omega) (by omega)
  have m3 : Int.tmod a3 (a2 + 1) = a3 % (a2 + 1) := Int.tmod_eq_emod_of_nonneg b3.1
  have g0 : 0 ≤ a3 % (a2 + 1) := Int.emod_nonneg _ (by omega)
  have g1 : a3 % (a2 + 1) < a2 + 1 := Int.emod_lt_of_pos _ (by omega)
  have w4 : wrap64 (a2 - a3 % (a2 + 1)) = a2 - a3 % (a2 + 1) := ow64 (by omega) (by omega)
  have hn : ¬ (a2 + 1 = 0) := by omega
  simp only [hr, w1, w2, w3, w21, m3, w4, if_neg hn, Eligible_eq, Option.bind_some, if_pos (show (0 : Int) < (([o] : List S28).length : Int) from by simp)]
  refine Ev.bind awake_ev ?_
  simp only [if_true]
  cases he : elig o a1 a2
  · exact Ev.now _
  · rw [elig_window o a1 a2 (a2 - a3 % (a2 + 1)) b1 b2 (by omega) (by omega) he]
    exact Ev.now _
end Go.Proofs.YtnegkpnhjgimcaaDoor.Pure
namespace Go.Proofs.YtnegkpnhjgimcaaDoor.C
open Go.ChangeShapes Go.WideShapes Go.ChangeAt Go.RowKit Go.Deep Go.Proofs.YtnegkpnhjgimcaaDoorW.PrintWords
theorem cells_u16 : Tryd.prog.cellsOf 45 = 1 := by kernel_rfl
theorem cells_arr : Tryd.prog.cellsOf 46 = 5 := by kernel_rfl
theorem list5 {α : Type} (l : List α) (h : l.length = 5) : ∃ a b c d e, l = [a, b, c, d, e] := by
  match l, h with
  | [a, b, c, d, e], _ => exact ⟨a, b, c, d, e, rfl⟩
section
variable {H : Type} {enc : TypeId × Value → H} {P : Program} {w : World} {base : Nat} {spare : Nat → Bool} {held : Bool}
theorem trod_array5 {t e : TypeId} {fuel : Nat} {c0 c1 c2 c3 c4 : Value} {x : DataW H × List MemPlace} (ht : P.underlying t = some (.array 5 e)) (hce : P.cellsOf e = 1)
    (h : DataW.trod enc P w base spare held fuel t [c0, c1, c2, c3, c4] = some x) :
    ∃ y0 y1 y2 y3 y4 n, x = (.agg [y0.1, y1.1, y2.1, y3.1, y4.1], y0.2 ++ (y1.2 ++ (y2.2 ++ (y3.2 ++ y4.2)))) ∧ DataW.trod enc P w base spare held n e [c0] = some y0 ∧ DataW.trod enc P w base spare held n e [c1] = some y1 ∧ DataW.trod enc P w base spare held n e [c2] = some y2 ∧ DataW.trod enc P w base spare held n e [c3] = some y3 ∧ DataW.trod enc P w base spare held n e [c4] = some y4 := by
  cases fuel with
  | zero => simp [DataW.trod] at h
  | succ n =>
    unfold DataW.trod at h
    rw [ht] at h
    have r5 : List.range 5 = [0, 1, 2, 3, 4] := rfl
    simp [r5, hce] at h
    obtain ⟨_, h⟩ := h
    cases h0 : DataW.trod enc P w base spare held n e [c0] with
    | none => simp [h0] at h
    | some y0 =>
      cases h1 : DataW.trod enc P w base spare held n e [c1] with
      | none => simp [h0, h1] at h
      | some y1 =>
        cases h2 : DataW.trod enc P w base spare held n e [c2] with
        | none => simp [h0, h1, h2] at h
        | some y2 =>
          cases h3 : DataW.trod enc P w base spare held n e [c3] with
          | none => simp [h0, h1, h2, h3] at h
          | some y3 =>
            cases h4 : DataW.trod enc P w base spare held n e [c4] with
            | none => simp [h0, h1, h2, h3, h4] at h
            | some y4 =>
              simp [h0, h1, h2, h3, h4] at h
              exact ⟨y0, y1, y2, y3, y4, n, h.symm, h0, h1, h2, h3, h4⟩
end
section
variable {H : Type} {enc : TypeId × Value → H} {w : World} {base : Nat} {spare : Nat → Bool} {held : Bool}
theorem open_arr_cells {fuel : Nat} {cs : List Value} {x : DataW H × List MemPlace} (hl : cs.length = 5) (h : DataW.trod enc Tryd.prog w base spare held fuel 46 cs = some x) :
    ∃ y : S46, okx y ∧ cs = [.int .u16 y.f0, .int .u16 y.f1, .int .u16 y.f2, .int .u16 y.f3, .int .u16 y.f4] ∧ x = (.agg [.lit (.int .u16 y.f0), .lit (.int .u16 y.f1), .lit (.int .u16 y.f2), .lit (.int .u16 y.f3), .lit (.int .u16 y.f4)], []) := by
  obtain ⟨c0, c1, c2, c3, c4, rfl⟩ := list5 cs hl
  obtain ⟨y0, y1, y2, y3, y4, m, hx, hy0, hy1, hy2, hy3, hy4⟩ := trod_array5 Tryd.underlying46 cells_u16 h
  obtain ⟨x0, e0, rfl, w0⟩ := DataW.trod_int Tryd.underlying45 hy0
  obtain ⟨x1, e1, rfl, w1⟩ := DataW.trod_int Tryd.underlying45 hy1
  obtain ⟨x2, e2, rfl, w2⟩ := DataW.trod_int Tryd.underlying45 hy2
  obtain ⟨x3, e3, rfl, w3⟩ := DataW.trod_int Tryd.underlying45 hy3
  obtain ⟨x4, e4, rfl, w4⟩ := DataW.trod_int Tryd.underlying45 hy4
  simp at e0 e1 e2 e3 e4
  subst e0 e1 e2 e3 e4
  have b0 := bounds_u16 w0
  have b1 := bounds_u16 w1
  have b2 := bounds_u16 w2
  have b3 := bounds_u16 w3
  have b4 := bounds_u16 w4
  refine ⟨⟨x0, x1, x2, x3, x4⟩, ⟨⟨b0.1, ?_⟩, ⟨b1.1, ?_⟩, ⟨b2.1, ?_⟩, ⟨b3.1, ?_⟩, ⟨b4.1, ?_⟩⟩, rfl, by rw [hx]; rfl⟩
  all_goals (dsimp only; omega)
set_option maxRecDepth 100000 in
theorem open_arr {r : Reach} {b0 : Nat} {v : Value} {d : DataW H} {p : List MemPlace} (hv : Value.okWide Tryd.prog w r b0 46 v) (h : DataW.Trod enc Tryd.prog w base spare held 46 v d p) :
    ∃ y : S46, okx y ∧ v = .agg #[.int .u16 y.f0, .int .u16 y.f1, .int .u16 y.f2, .int .u16 y.f3, .int .u16 y.f4] ∧ d = .agg [.lit (.int .u16 y.f0), .lit (.int .u16 y.f1), .lit (.int .u16 y.f2), .lit (.int .u16 y.f3), .lit (.int .u16 y.f4)] ∧ p = [] := by
  obtain ⟨cs, rfl, hsz, _⟩ : ∃ cs, v = .agg cs ∧ cs.size = Tryd.prog.cellsOf 46 ∧ Row.okWide Tryd.prog w r b0 46 cs := by
    simpa [Value.okWide, Tryd.underlying46] using hv
  rw [cells_arr] at hsz
  obtain ⟨fuel, hf⟩ := h
  obtain ⟨y, hy, hc, hx⟩ := open_arr_cells (cs := cs.toList) (by simpa using hsz) hf
  simp only [Prod.mk.injEq] at hx
  refine ⟨y, hy, ?_, hx.1, hx.2⟩
  congr 1
  exact Array.ext' hc
theorem wf_u16 {n : Int} (h0 : 0 ≤ n) (h1 : n < 65536) : (Lit.int .u16 n).wf = true := by
  simp [Lit.wf, IntKind.min, IntKind.max, IntKind.signed, IntKind.bits]
  omega
theorem shut_arr (W : World) (b : Nat) (sp : Nat → Bool) (hd : Bool) (y : S46) (hy : okx y) : DataW.Trod enc Tryd.prog W b sp hd 46 (.agg #[.int .u16 y.f0, .int .u16 y.f1, .int .u16 y.f2, .int .u16 y.f3, .int .u16 y.f4]) (.agg [.lit (.int .u16 y.f0), .lit (.int .u16 y.f1), .lit (.int .u16 y.f2), .lit (.int .u16 y.f3), .lit (.int .u16 y.f4)]) [] := by
  obtain ⟨o0, o1, o2, o3, o4⟩ := hy
  exact ⟨2, by simp [DataW.trod, Value.cells, Tryd.underlying46, Tryd.underlying45, cells_arr, cells_u16, wf_u16 o0.1 o0.2, wf_u16 o1.1 o1.2, wf_u16 o2.1 o2.2, wf_u16 o3.1 o3.2, wf_u16 o4.1 o4.2, show List.range 5 = [0, 1, 2, 3, 4] from rfl]⟩
end
instance : Inhabited S46 := ⟨⟨0, 0, 0, 0, 0⟩⟩
end Go.Proofs.YtnegkpnhjgimcaaDoor.C
end
section
namespace Go.Proofs.YtnegkpnhjgimcaaDoor.setoffWindow
open Go.ChangeShapes Go.WideShapes Go.ChangeAt Go.RowKit
set_option linter.unusedVariables false
set_option maxRecDepth 100000 in
theorem contract (H : Type) (enc : TypeId × Value → H) (W : World) (base : Nat) (args : Array Value) (ds gs : List (DataW H)) (before : List MemPlace)
    (hval : ∀ (j : Nat) t v, Tryd.f8.params[j]? = some t → args[j]? = some v → Value.okWide Tryd.prog W .any base t v)
    (hW : DataW.Whole enc Tryd.prog Tryd.f8.params.toList Rows.setoffWindowSpec.vars false W args.toList ds gs before) :
    Calls Tryd.prog 8 args W fun e W' => ∃ v, e = .returned v ∧ Rows.setoffWindowSpec.post enc Tryd.prog Tryd.f8 false true false false W args v W' := by
  have hW' := hW
  obtain ⟨p, q, hA0, hV, rfl, hfz, hnd⟩ := hW
  have hA : DataW.TrodAll enc Tryd.prog W 0 (fun _ => true) true Tryd.f8.params.toList args.toList ds p := hA0
  rw [Tryd.params8] at hA hval
  obtain ⟨v0, vs0, d0, ds0, p0, q0, hargs, rfl, rfl, h0, r0⟩ := trodAll_cons hA
  obtain ⟨v1, vs1, d1, ds1, p1, q1, rfl, rfl, rfl, h1, r1⟩ := trodAll_cons r0
  obtain ⟨v2, vs2, d2, ds2, p2, q2, rfl, rfl, rfl, h2, r2⟩ := trodAll_cons r1
  obtain ⟨v3, vs3, d3, ds3, p3, q3, rfl, rfl, rfl, h3, r3⟩ := trodAll_cons r2
  obtain ⟨rfl, rfl, rfl⟩ := trodAll_nil r3
  obtain rfl : args = #[v0, v1, v2, v3] := by cases args; simp_all
  obtain ⟨rfl, rfl⟩ := trodVars_none hV
  obtain ⟨y0, o0, rfl, rfl, rfl⟩ := C.open_arr (hval 0 46 v0 rfl rfl) h0
  obtain ⟨a1, rfl, rfl, rfl, w1⟩ := open_int Tryd.underlying5 (hval 1 5 v1 rfl rfl) h1
  obtain ⟨a2, rfl, rfl, rfl, w2⟩ := open_int Tryd.underlying5 (hval 2 5 v2 rfl rfl) h2
  obtain ⟨a3, rfl, rfl, rfl, w3⟩ := open_int Tryd.underlying5 (hval 3 5 v3 rfl rfl) h3
  clear hA0
  obtain ⟨k_, hk_⟩ := Pure.SetoffWindow y0 a1 a2 a3 o0 (bounds_u8 w1) (bounds_u8 w2) (bounds_u8 w3)
  refine (C.insolvencylaw14_SetoffWindow.calls k_ y0.f0 y0.f1 y0.f2 y0.f3 y0.f4 a1 a2 a3 true W  hk_).mono fun e W' ⟨he, bel⟩ => ?_
  subst he
  exact ⟨_, rfl, _, _, _, [], _, [], hW', trodAll_mk1 (shut_bool Tryd.underlying4 _), (trodAll_cons_mk (C.shut_arr _ _ _ _ y0 o0) (trodAll_cons_mk (shut_int Tryd.underlying5 w1) (trodAll_cons_mk (shut_int Tryd.underlying5 w2) (trodAll_cons_mk (shut_int Tryd.underlying5 w3) trodAll_mk0)))), rfl, bel.frame _, fun h => by cases h⟩
theorem reads (os : Os) {H : Type} (enc : TypeId × Value → H) : ∃ places, DataW.whole enc Tryd.prog ((laidWorld os).forCall (fun _ _ => 0) ⟨#[], #[.agg #[.int .u16 0, .int .u16 0, .int .u16 0, .int .u16 0, .int .u16 0], .int .u8 0, .int .u8 0, .int .u8 0], []⟩).memory Tryd.f8.params.toList Rows.setoffWindowSpec.vars false (#[.agg #[.int .u16 0, .int .u16 0, .int .u16 0, .int .u16 0, .int .u16 0], .int .u8 0, .int .u8 0, .int .u8 0] : Array Value).toList 8 = some ([.agg [.lit (.int .u16 0), .lit (.int .u16 0), .lit (.int .u16 0), .lit (.int .u16 0), .lit (.int .u16 0)], .lit (.int .u8 0), .lit (.int .u8 0), .lit (.int .u8 0)], [], places) :=
  ⟨[], by kernel_rfl⟩
set_option maxRecDepth 100000 in
theorem lifted (os : Os) (started : os.Started) (H : Type) (enc : TypeId × Value → H) (F : Stop.Interp) :
    ReturnsInHanded {} Tryd.checked os 8 .any ((OpenSpec.ofChange Rows.setoffWindowSpec).preRow enc Tryd.prog Tryd.f8 Rows.setoffWindowRow.domain false Rows.setoffWindowRow.laid) (((OpenSpec.ofChange Rows.setoffWindowSpec).at F).post enc Tryd.prog Tryd.f8 false true false false) := by
  obtain ⟨places, hx⟩ := reads os enc
  refine returnsInHanded_of_row (C := Tryd.checked) (s := OpenSpec.ofChange Rows.setoffWindowSpec) own started (by kernel_rfl) Tryd.func8
    (witness_row_at (enc := enc) (C := Tryd.checked) false (laidWorld os) #[.agg #[.int .u16 0, .int .u16 0, .int .u16 0, .int .u16 0, .int .u16 0], .int .u8 0, .int .u8 0, .int .u8 0] rfl (by kernel_rfl) (by kernel_rfl) (by kernel_rfl)
      (OpenSpec.preRow_of_cond 8 hx (by kernel_rfl) (fun k hk => by cases hk) (by kernel_rfl) (laid_met os _))) ?_
  intro W base args ds gs before hval hW _ _ _ _ _ _
  exact contract H enc W base args ds gs before hval hW
theorem said : Rows.SetoffWindowSaid :=
  OpenClaim.holds_of_cond 8 Tryd.f8 rfl rfl rfl rfl rfl rfl rfl ⟨rfl, rfl, rfl, rfl, rfl⟩ rfl rfl rfl rfl rfl (by kernel_rfl) Tryd.func8 (by kernel_rfl)
    (of_decide_eq_true (by kernel_rfl)) (by unfold Func.isWrapper; first | (rw [if_pos (by decide +kernel)]; kernel_rfl) | (rw [if_neg (by decide +kernel)]; exact ⟨rfl, rfl⟩))
    (fun os started H enc _ F => by rw [OpenClaim.pre_eq_preRow]; exact lifted os started H enc F)
theorem plain (f : FuncId) (fn : Func) (hf : Tryd.pinned.checked.prog.funcNamed "insolvency/insolvencylaw14.SetoffWindow" = some f) (hfn : Tryd.pinned.checked.prog.funcs[f]? = some fn) :
    false = Tryd.pinned.checked.prog.looks [] ∧ ∀ (j : Nat) t, fn.params[j]? = some t → Tryd.pinned.checked.prog.wantsStandIn t = false := by
  obtain rfl : f = 8 := Option.some.inj ((show Tryd.prog.funcNamed "insolvency/insolvencylaw14.SetoffWindow" = some 8 by kernel_rfl).symm.trans hf) |>.symm
  obtain rfl : fn = Tryd.f8 := (Option.some.inj (Tryd.func8.symm.trans hfn)).symm
  refine ⟨by kernel_rfl, fun j t ht => ?_⟩
  rw [Tryd.params8] at ht
  have hm := Array.mem_of_getElem? ht
  simp at hm
  rcases hm with rfl | rfl
  · exact (show Tryd.prog.wantsStandIn 46 = false by kernel_rfl)
  · exact (show Tryd.prog.wantsStandIn 5 = false by kernel_rfl)
end Go.Proofs.YtnegkpnhjgimcaaDoor.setoffWindow
namespace Go.Proofs.YtnegkpnhjgimcaaDoor
theorem setoffWindow_card : Rows.SetoffWindowCardSaid :=
  Claim7.holds_tied_plain_at .later [] _ _ _ _ setoffWindow.said (fun _ h => by cases h) (by kernel_rfl) (fun _ h => by cases h) setoffWindow_row_tie rfl ⟨rfl, rfl⟩ (by kernel_rfl) rfl setoffWindow.plain (by kernel_rfl)
#print axioms setoffWindow_card
end Go.Proofs.YtnegkpnhjgimcaaDoor
end
