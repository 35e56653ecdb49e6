/- A part of the proof of setoffTwice_card (see YtnegkpnhjgimcaaDoorZST5): what the functions that it reaches compute, each by its contract. -/
import Derived.Test.YtnegkpnhjgimcaaDoorZST3
section
namespace Go.Proofs.YtnegkpnhjgimcaaDoor.C
open Go.RowKit Go.Proofs.YtnegkpnhjgimcaaDoorW.PrintWords Go.Proofs.YtnegkpnhjgimcaaDoorW.PrintLast Go.Proofs.YtnegkpnhjgimcaaDoorW.PrintMore
attribute [local go_sem] max2_int min2_int max_two min_two max_three min_three max_four min_four
set_option linter.unusedVariables false
set_option linter.unusedSimpArgs false
def setoff_eligible.l0 : Nat → Int → Int → Int → Int → List Int → List (S28) → Int → Int → Option (List Int)
 | 0, _, _, _, _, _, _, _, _ => none
 | k + 1, x1, x2, x3, x4, x11, x14, x15, x16 => if x16 < x15 then (if 0 ≤ x16 then (if x16 < (x14.length : Int) then (if ((rd_T28 x14 x16).f0) = x3 then (if ((rd_T28 x14 x16).f1) = x4 then ((setoff_Eligible.f ((rd_T28 x14 x16).f0) ((rd_T28 x14 x16).f1) ((rd_T28 x14 x16).f2.f0) ((rd_T28 x14 x16).f2.f1) ((rd_T28 x14 x16).f2.f2) ((rd_T28 x14 x16).f3) ((rd_T28 x14 x16).f4) ((rd_T28 x14 x16).f5) x1 x2).bind fun t390 => (if t390 = true then (if x11.length < 17592186044416 then (setoff_eligible.l0 k x1 x2 x3 x4 (x11 ++ [x16]) x14 x15 (wrap64 (x16 + 1))) else (none)) else (setoff_eligible.l0 k x1 x2 x3 x4 x11 x14 x15 (wrap64 (x16 + 1))))) else (setoff_eligible.l0 k x1 x2 x3 x4 x11 x14 x15 (wrap64 (x16 + 1)))) else (setoff_eligible.l0 k x1 x2 x3 x4 x11 x14 x15 (wrap64 (x16 + 1)))) else (none)) else (none)) else (some x11)
def setoff_eligible.f (k : Nat) (l0 : List (S28)) (a1 : Int) (a2 : Int) (a3 : Int) (a4 : Int) : Option (List Int) := (setoff_eligible.l0 k a1 a2 a3 a4 ([] : List Int) l0 (l0.length : Int) 0).bind fun out => if out.length ≤ 19 ∧ out.all (fun x => decide (0 ≤ x ∧ x < (l0.length : Int))) = true then some (isort (fun x y => decide (eligible_cmp l0 x y < 0)) out) else none
theorem setoff_eligible.mono_l : ∀ k, (∀ y0 y1 y2 y3 y4 y5 y6 y7, LeO (setoff_eligible.l0 k y0 y1 y2 y3 y4 y5 y6 y7) (setoff_eligible.l0 (k + 1) y0 y1 y2 y3 y4 y5 y6 y7))
 | 0 => fun _ _ _ _ _ _ _ _ r h => by simp [setoff_eligible.l0] at h
 | k + 1 => by
  have ih0 := setoff_eligible.mono_l k
  ·intro y0 y1 y2 y3 y4 y5 y6 y7
   unfold setoff_eligible.l0
   repeat' first
   | (with_reducible exact ih0 _ _ _ _ _ _ _ _)
   | (with_reducible exact LeO.refl _)
   | (with_reducible exact LeO.none _)
   | (with_reducible refine LeO.ite ?_ ?_)
   | (with_reducible refine LeO.bind ?_ (fun _ => ?_))
theorem setoff_eligible.mono : ∀ a0 a1 a2 a3 a4 k, LeO (setoff_eligible.f k a0 a1 a2 a3 a4) (setoff_eligible.f (k + 1) a0 a1 a2 a3 a4) := by
 intro a0 a1 a2 a3 a4 k
 have ih0 := setoff_eligible.mono_l k
 unfold setoff_eligible.f
 repeat' first
   | (with_reducible exact ih0 _ _ _ _ _ _ _ _)
   | (with_reducible exact LeO.refl _)
   | (with_reducible exact LeO.none _)
   | (with_reducible refine LeO.ite ?_ ?_)
   | (with_reducible refine LeO.bind ?_ (fun _ => ?_))
set_option maxHeartbeats 8000000 in
set_option maxRecDepth 100000 in
theorem setoff_eligible.calls (k : Nat) (A0 : Option Addr) (c0 : Nat) (l0 : List (S28)) (a1 : Int) (a2 : Int) (a3 : Int) (a4 : Int) (r : List Int) (w : World) (hr0 : Kd.C k28 w A0 l0.length l0) (hc0 : l0.length ≤ c0) (h : setoff_eligible.f k l0 a1 a2 a3 a4 = some r) :
  Calls Tryd.prog 38 #[.slice A0 l0.length c0, .int .i64 a1, .int .i64 a2, .int .i64 a3, .int .i64 a4] w fun e w' => ∃ v0_ : Value, e = .returned (v0_) ∧ Kd.R (Kd.int .i64) 3 w' w.heap.size (fun _ => True) v0_ r ∧ Below w.heap.size w w' := by
 have hu28 := Tryd.underlying28
 have HR0 := A0_.mk hr0
 have HC0 := A0_.mk hc0
 clear hr0 hc0
 have HB := A0_.mk (Below.refl w.heap.size w)
 obtain ⟨ro, H, hs_⟩ := Option.bind_eq_some_iff.mp (show ((setoff_eligible.l0 k a1 a2 a3 a4 ([] : List Int) l0 (l0.length : Int) 0).bind fun out => if out.length ≤ 19 ∧ out.all (fun x => decide (0 ≤ x ∧ x < (l0.length : Int))) = true then some (isort (fun x y => decide (eligible_cmp l0 x y < 0)) out) else none) = some r from h)
 clear h
 have HS := A0_.mk hs_
 clear hs_
 have H' := A0_.mk H
 clear H
 go_enter Tryd.func38, Tryd.ntmps38
 go_wp2
 obtain ⟨W1, hW1⟩ : ∃ W_, w.alloc (.cells #[.slice A0 l0.length c0] 22) = W_ := ⟨_, rfl⟩
 have hbx : W1.cell? ⟨w.heap.size, 0, none⟩ = some (.slice A0 l0.length c0) := by rw [← hW1]; exact World.cell?_alloc_at _ _ _ _ rfl
 have hB1 : Below w.heap.size w W1 := by rw [← hW1]; exact bA_ (Below.refl _ _) _
 have hsz1 : W1.heap.size = w.heap.size + 1 := by rw [← hW1]; exact Array.size_push _
 rw [hW1]
 clear hW1
 replace HR0 := A0_.mk (Kd.C_below HR0.out hB1)
 replace HB := A0_.mk (Below.refl W1.heap.size W1)
 have HBX := A0_.mk hbx
 have HB1 := A0_.mk hB1
 have HSZ := A0_.mk hsz1
 clear hbx hB1 hsz1
 go_loopg [11, 16] k (fun kq v11 v16 w' => ∃ (x11_1 : List Int) (x16_1 : Int), v16 = .int .i64 x16_1 ∧ A0_ (setoff_eligible.l0 kq a1 a2 a3 a4 x11_1 l0 (l0.length : Int) x16_1 = some ro) ∧ A0_ (kq ≤ k) ∧ A0_ (Kd.R (Kd.int .i64) 3 w' W1.heap.size (fun _ => True) v11 x11_1) ∧ A0_ (Below W1.heap.size W1 w'))
 case atStart => exact ⟨(([] : List Int)), (0), (by first | rfl | (simp; done) | (simp [*]; done)), H', ⟨Nat.le_refl _⟩, ⟨by first | exact Kd.R_nil _ _ _ _ _ | exact Kd.N_nil _ _ _ _ _ | exact Kd.V_nil _ _ _ _ _ | exact Kd.Q_nil _ _ _ _ _ | exact Kd.S_nil _ _ _ _ _⟩, ⟨xB_ HB⟩⟩
 case round =>
  clear H'
  try clear p2
  try clear c3
  obtain ⟨x11_1, x16_1, rfl, HA, HK1, HO_11, HB⟩ := hrel
  cases gk with
  | zero => exact absurd HA.out (by simp [setoff_eligible.l0])
  | succ k1 =>
   have H := HA.out
   clear HA
   simp only [setoff_eligible.l0] at H
   by_cases c6 : x16_1 < (l0.length : Int)
   ·rw [if_pos c6] at H
    have c6b0 : decide (x16_1 < (l0.length : Int)) = true := decide_eq_true c6
    clear c6
    by_cases c7 : 0 ≤ x16_1
    ·rw [if_pos c7] at H
     have c7b0 : decide (0 ≤ x16_1) = true := decide_eq_true c7
     clear c7
     by_cases c8 : x16_1 < (l0.length : Int)
     ·rw [if_pos c8] at H
      have c8b0 : decide (x16_1 < (l0.length : Int)) = true := decide_eq_true c8
      clear c8
      by_cases c9 : ((rd_T28 l0 x16_1).f0) = a3
      ·rw [if_pos c9] at H
       have c9b0 : (((rd_T28 l0 x16_1).f0) == a3) = true := beq_iff_eq.mpr c9
       have c9b1 : (((rd_T28 l0 x16_1).f0) != a3) = false := bne_eq_false_iff_eq.mpr c9
       clear c9
       by_cases c10 : ((rd_T28 l0 x16_1).f1) = a4
       ·rw [if_pos c10] at H
        have c10b0 : (((rd_T28 l0 x16_1).f1) == a4) = true := beq_iff_eq.mpr c10
        have c10b1 : (((rd_T28 l0 x16_1).f1) != a4) = false := bne_eq_false_iff_eq.mpr c10
        clear c10
        replace H := Option.bind_eq_some_iff.mp H
        obtain ⟨t390, A110, H⟩ := H
        (try dsimp only at H)
        have A11 := A0_.mk A110
        clear A110
        by_cases c12 : t390 = true
        ·subst c12
         have H1 : (if x11_1.length < 17592186044416 then (setoff_eligible.l0 k1 a1 a2 a3 a4 (x11_1 ++ [x16_1]) l0 (l0.length : Int) (wrap64 (x16_1 + 1))) else (none)) = some ro := by rw [if_pos rfl] at H; exact H
         clear H
         have H := H1
         clear H1
         by_cases c13 : x11_1.length < 17592186044416
         ·rw [if_pos c13] at H
          have LMc13 := A0_.mk c13
          clear c13
          obtain ⟨y391, hy391⟩ : ∃ y_ : List Int, y_ = (x11_1 ++ [x16_1]) := ⟨_, rfl⟩
          replace H : (setoff_eligible.l0 k1 a1 a2 a3 a4 y391 l0 (l0.length : Int) (wrap64 (x16_1 + 1))) = some ro := by first | (rw [hy391]; with_reducible exact H) | (have H2_ := (Option.bind_some _ _).symm.trans H; rw [hy391]; with_reducible exact H2_) | (have H2_ := (Option.bind_some _ _).symm.trans H; with_reducible exact H2_) | with_reducible exact H | (rw [hy391]; exact H) | exact H
          have Ny391 := A0_.mk hy391
          clear hy391
          have H' := A0_.mk H
          clear H
          have p388 : 0 ≤ (x16_1 : Int) := of_decide_eq_true aS_
          have q388 : x16_1 < (l0.length : Int) := of_decide_eq_true aS_
          obtain ⟨ad388, e388, hx388_0, hx388_1, hx388_2, hx388_3, hx388_4, hx388_5, hx388_6, hx388_7⟩ := at_T28 HR0.out x16_1 p388 q388
          cases e388
          (try replace hx388_0 := (HB.out.cell (World.block_lt_of_cell? W1 _ hx388_0)).trans hx388_0)
          (try replace hx388_1 := (HB.out.cell (World.block_lt_of_cell? W1 _ hx388_1)).trans hx388_1)
          (try replace hx388_2 := (HB.out.cell (World.block_lt_of_cell? W1 _ hx388_2)).trans hx388_2)
          (try replace hx388_3 := (HB.out.cell (World.block_lt_of_cell? W1 _ hx388_3)).trans hx388_3)
          (try replace hx388_4 := (HB.out.cell (World.block_lt_of_cell? W1 _ hx388_4)).trans hx388_4)
          (try replace hx388_5 := (HB.out.cell (World.block_lt_of_cell? W1 _ hx388_5)).trans hx388_5)
          (try replace hx388_6 := (HB.out.cell (World.block_lt_of_cell? W1 _ hx388_6)).trans hx388_6)
          (try replace hx388_7 := (HB.out.cell (World.block_lt_of_cell? W1 _ hx388_7)).trans hx388_7)
          replace p388 := eq_true p388
          replace q388 := eq_true q388
          go_wp2_with (first | ((with_reducible refine gD_ (N := 13) rfl ?_); refine bE_ ?hg (N := 13) ?hd (cs := #[.int .i64 0, .int .i64 0, .bool false, .string (⟨#[]⟩ : ByteArray), .string (⟨#[]⟩ : ByteArray), .int .i64 0, .int .i64 0, .bool false]) (t := 28) ?hr ?_; (case hd => rfl); (case hg => rfl); (case hr => first | (go_simp; done) | (go_simp; rfl)); intro gb389 hg w14 hbox hb; have n0_ := A0_.mk (Kd.R_below (xR_ HO_11.out) hb); have n1_ := A0_.mk (bT_ (xB_ HB) hb); have n2_ := A0_.mk (hbox); have n3_ := A0_.mk ((by rw [hg]; exact (bZ_ (xB_ HB)) : W1.heap.size ≤ gb389)); have n4_ := A0_.mk ((by rw [hg]; exact (bZ_ (xB_ HB)) : W1.heap.size ≤ gb389)); clear HO_11 HB; have HO_11 := n0_; have HB := n1_; have BK389 := n2_; have GW389 := n3_; have GE389 := n4_; clear n0_ n1_ n2_ n3_ n4_; clear hb hbox hg; have hcz15_0 : w14.cell? ⟨gb389, 0, none⟩ = some (.int .i64 0) := (kc_ BK389.out 0).trans rfl; have hcz15_1 : w14.cell? ⟨gb389, 1, none⟩ = some (.int .i64 0) := (kc_ BK389.out 1).trans rfl; have hcz15_2 : w14.cell? ⟨gb389, 2, none⟩ = some (.bool false) := (kc_ BK389.out 2).trans rfl; have hcz15_3 : w14.cell? ⟨gb389, 3, none⟩ = some (.string (⟨#[]⟩ : ByteArray)) := (kc_ BK389.out 3).trans rfl; have hcz15_4 : w14.cell? ⟨gb389, 4, none⟩ = some (.string (⟨#[]⟩ : ByteArray)) := (kc_ BK389.out 4).trans rfl; have hcz15_5 : w14.cell? ⟨gb389, 5, none⟩ = some (.int .i64 0) := (kc_ BK389.out 5).trans rfl; have hcz15_6 : w14.cell? ⟨gb389, 6, none⟩ = some (.int .i64 0) := (kc_ BK389.out 6).trans rfl; have hcz15_7 : w14.cell? ⟨gb389, 7, none⟩ = some (.bool false) := (kc_ BK389.out 7).trans rfl; have hfz15_0 := kF_ BK389.out 0; have hfz15_1 := kF_ BK389.out 1; have hfz15_2 := kF_ BK389.out 2; have hfz15_3 := kF_ BK389.out 3; have hfz15_4 := kF_ BK389.out 4; have hfz15_5 := kF_ BK389.out 5; have hfz15_6 := kF_ BK389.out 6; have hfz15_7 := kF_ BK389.out 7) | (go_at_call 13; (with_reducible refine (setoff_Eligible.calls ((rd_T28 l0 x16_1).f0) ((rd_T28 l0 x16_1).f1) ((rd_T28 l0 x16_1).f2.f0) ((rd_T28 l0 x16_1).f2.f1) ((rd_T28 l0 x16_1).f2.f2) ((rd_T28 l0 x16_1).f3) ((rd_T28 l0 x16_1).f4) ((rd_T28 l0 x16_1).f5) a1 a2 true _ A11.out).mono ?_); rintro e w16 ⟨rfl, hb⟩; have n0_ := A0_.mk (Kd.R_below (by (with_reducible repeat (first | apply Kd.R_alloc | apply Kd.R_drewN | apply Kd.R_drew)); exact (Kd.R_mono (Kd.R_far (p := ⟨gb389, 7, none⟩) (Kd.R_far (p := ⟨gb389, 6, none⟩) (Kd.R_far (p := ⟨gb389, 5, none⟩) (Kd.R_far (p := ⟨gb389, 4, none⟩) (Kd.R_far (p := ⟨gb389, 3, none⟩) (Kd.R_far (p := ⟨gb389, 2, none⟩) (Kd.R_far (p := ⟨gb389, 1, none⟩) (Kd.R_far (p := ⟨gb389, 0, none⟩) (Kd.R_types HO_11.out BK389.out (by decide)) (fun _ hk => hk.2) (.int .i64 ((rd_T28 l0 x16_1).f0))) (fun _ hk => hk.2) (.int .i64 ((rd_T28 l0 x16_1).f1))) (fun _ hk => hk.2) (.bool ((rd_T28 l0 x16_1).f2.f0))) (fun _ hk => hk.2) (.string ((rd_T28 l0 x16_1).f2.f1))) (fun _ hk => hk.2) (.string ((rd_T28 l0 x16_1).f2.f2))) (fun _ hk => hk.2) (.int .i64 ((rd_T28 l0 x16_1).f3))) (fun _ hk => hk.2) (.int .i64 ((rd_T28 l0 x16_1).f4))) (fun _ hk => hk.2) (.bool ((rd_T28 l0 x16_1).f5))) (fun _ h_ => h_.1))) hb); have n1_ := A0_.mk (kB_ (g := gb389) (o := .cells #[.int .i64 ((rd_T28 l0 x16_1).f0), .int .i64 ((rd_T28 l0 x16_1).f1), .bool ((rd_T28 l0 x16_1).f2.f0), .string ((rd_T28 l0 x16_1).f2.f1), .string ((rd_T28 l0 x16_1).f2.f2), .int .i64 ((rd_T28 l0 x16_1).f3), .int .i64 ((rd_T28 l0 x16_1).f4), .bool ((rd_T28 l0 x16_1).f5)] 28 (0, 0)) (by (with_reducible repeat (first | refine kN_ ?_ _ | refine kD_ ?_ | refine kA_ ?_ _)); refine kP_ (cs := #[.int .i64 ((rd_T28 l0 x16_1).f0), .int .i64 ((rd_T28 l0 x16_1).f1), .bool ((rd_T28 l0 x16_1).f2.f0), .string ((rd_T28 l0 x16_1).f2.f1), .string ((rd_T28 l0 x16_1).f2.f2), .int .i64 ((rd_T28 l0 x16_1).f3), .int .i64 ((rd_T28 l0 x16_1).f4), .bool false]) ?_ 7 _ rfl; (with_reducible repeat (first | refine kN_ ?_ _ | refine kD_ ?_ | refine kA_ ?_ _)); refine kP_ (cs := #[.int .i64 ((rd_T28 l0 x16_1).f0), .int .i64 ((rd_T28 l0 x16_1).f1), .bool ((rd_T28 l0 x16_1).f2.f0), .string ((rd_T28 l0 x16_1).f2.f1), .string ((rd_T28 l0 x16_1).f2.f2), .int .i64 ((rd_T28 l0 x16_1).f3), .int .i64 0, .bool false]) ?_ 6 _ rfl; (with_reducible repeat (first | refine kN_ ?_ _ | refine kD_ ?_ | refine kA_ ?_ _)); refine kP_ (cs := #[.int .i64 ((rd_T28 l0 x16_1).f0), .int .i64 ((rd_T28 l0 x16_1).f1), .bool ((rd_T28 l0 x16_1).f2.f0), .string ((rd_T28 l0 x16_1).f2.f1), .string ((rd_T28 l0 x16_1).f2.f2), .int .i64 0, .int .i64 0, .bool false]) ?_ 5 _ rfl; (with_reducible repeat (first | refine kN_ ?_ _ | refine kD_ ?_ | refine kA_ ?_ _)); refine kP_ (cs := #[.int .i64 ((rd_T28 l0 x16_1).f0), .int .i64 ((rd_T28 l0 x16_1).f1), .bool ((rd_T28 l0 x16_1).f2.f0), .string ((rd_T28 l0 x16_1).f2.f1), .string (⟨#[]⟩ : ByteArray), .int .i64 0, .int .i64 0, .bool false]) ?_ 4 _ rfl; (with_reducible repeat (first | refine kN_ ?_ _ | refine kD_ ?_ | refine kA_ ?_ _)); refine kP_ (cs := #[.int .i64 ((rd_T28 l0 x16_1).f0), .int .i64 ((rd_T28 l0 x16_1).f1), .bool ((rd_T28 l0 x16_1).f2.f0), .string (⟨#[]⟩ : ByteArray), .string (⟨#[]⟩ : ByteArray), .int .i64 0, .int .i64 0, .bool false]) ?_ 3 _ rfl; (with_reducible repeat (first | refine kN_ ?_ _ | refine kD_ ?_ | refine kA_ ?_ _)); refine kP_ (cs := #[.int .i64 ((rd_T28 l0 x16_1).f0), .int .i64 ((rd_T28 l0 x16_1).f1), .bool false, .string (⟨#[]⟩ : ByteArray), .string (⟨#[]⟩ : ByteArray), .int .i64 0, .int .i64 0, .bool false]) ?_ 2 _ rfl; (with_reducible repeat (first | refine kN_ ?_ _ | refine kD_ ?_ | refine kA_ ?_ _)); refine kP_ (cs := #[.int .i64 ((rd_T28 l0 x16_1).f0), .int .i64 0, .bool false, .string (⟨#[]⟩ : ByteArray), .string (⟨#[]⟩ : ByteArray), .int .i64 0, .int .i64 0, .bool false]) ?_ 1 _ rfl; (with_reducible repeat (first | refine kN_ ?_ _ | refine kD_ ?_ | refine kA_ ?_ _)); refine kP_ (cs := #[.int .i64 0, .int .i64 0, .bool false, .string (⟨#[]⟩ : ByteArray), .string (⟨#[]⟩ : ByteArray), .int .i64 0, .int .i64 0, .bool false]) ?_ 0 _ rfl; (with_reducible repeat (first | refine kN_ ?_ _ | refine kD_ ?_ | refine kA_ ?_ _)); exact BK389.out) hb); have n2_ := A0_.mk (bT_ (xB1_ HB GE389) hb); clear HO_11 BK389 HB; have HO_11 := n0_; have BK389 := n1_; have HB := n2_; clear n0_ n1_ n2_; (try clear hb); (try clear hb2); (try clear hk); (try clear hi)) | ((with_reducible refine gate_builtin (b := .append) (xs := #[.tmp 37, .tmp 39]) rfl ?_); at_builtin; refine Kd.R_append (Kd.int .i64) (w0 := W1) W1.heap.size rfl (.tmp 37) (.tmp 39) 63 3 (.int .i64 0) 8 rfl Tryd.underlying63 info3 rfl (by decide) (by omega) u11 x11_1 x16_1 [.int .i64 x16_1] (fun _ => True) (fun _ => False) rfl rfl ?aP (fun _ hk => hk.elim) ?aF ?aO ?aB ?aS ?aL ?_; (case aP => exact rfl); (case aB => exact (xB1_ HB GE389)); (case aF => exact (fun _ _ => trivial)); (case aO => exact (xR_ HO_11.out)); (case aS => exact (bZ_ (xB1_ HB GE389))); (case aL => have := LMc13.out; omega); intro v392 w17 ho hb hg hat; rw [← Ny391.out] at ho; have n0_ := A0_.mk (blk_grown (g := gb389) (o := .cells #[.int .i64 ((rd_T28 l0 x16_1).f0), .int .i64 ((rd_T28 l0 x16_1).f1), .bool ((rd_T28 l0 x16_1).f2.f0), .string ((rd_T28 l0 x16_1).f2.f1), .string ((rd_T28 l0 x16_1).f2.f2), .int .i64 ((rd_T28 l0 x16_1).f3), .int .i64 ((rd_T28 l0 x16_1).f4), .bool ((rd_T28 l0 x16_1).f5)] 28 (0, 0)) (xK_ BK389.out) hg (Kd.R_ne HO_11.out BK389.out (by decide))); have n1_ := A0_.mk (hb); have n2_ := A0_.mk (ho); clear BK389 HB HO_11; have BK389 := n0_; have HB := n1_; have HO393 := n2_; clear n0_ n1_ n2_; clear ho hb hg hat))
          (try simp only [add_plain])
          go_roundg k1
          case measure => have := HK1.out; omega
          case rel => exact ⟨(y391), (wrap64 (x16_1 + 1)), (by first | rfl | (simp; done) | (simp [*]; done)), H', ⟨by have := HK1.out; omega⟩, ⟨by (with_reducible repeat (first | apply Kd.R_alloc | apply Kd.R_drewN | apply Kd.R_drew)); exact HO393.out⟩, ⟨xB1_ HB GE389⟩⟩
         ·rw [if_neg c13] at H
          exact absurd H (by simp)
        ·replace c12 := Bool.eq_false_iff.mpr c12
         subst c12
         have H1 : (setoff_eligible.l0 k1 a1 a2 a3 a4 x11_1 l0 (l0.length : Int) (wrap64 (x16_1 + 1))) = some ro := by rw [if_neg (show ¬ (false = true) by decide)] at H; exact H
         clear H
         have H := H1
         clear H1
         have H' := A0_.mk H
         clear H
         have p388 : 0 ≤ (x16_1 : Int) := of_decide_eq_true aS_
         have q388 : x16_1 < (l0.length : Int) := of_decide_eq_true aS_
         obtain ⟨ad388, e388, hx388_0, hx388_1, hx388_2, hx388_3, hx388_4, hx388_5, hx388_6, hx388_7⟩ := at_T28 HR0.out x16_1 p388 q388
         cases e388
         (try replace hx388_0 := (HB.out.cell (World.block_lt_of_cell? W1 _ hx388_0)).trans hx388_0)
         (try replace hx388_1 := (HB.out.cell (World.block_lt_of_cell? W1 _ hx388_1)).trans hx388_1)
         (try replace hx388_2 := (HB.out.cell (World.block_lt_of_cell? W1 _ hx388_2)).trans hx388_2)
         (try replace hx388_3 := (HB.out.cell (World.block_lt_of_cell? W1 _ hx388_3)).trans hx388_3)
         (try replace hx388_4 := (HB.out.cell (World.block_lt_of_cell? W1 _ hx388_4)).trans hx388_4)
         (try replace hx388_5 := (HB.out.cell (World.block_lt_of_cell? W1 _ hx388_5)).trans hx388_5)
         (try replace hx388_6 := (HB.out.cell (World.block_lt_of_cell? W1 _ hx388_6)).trans hx388_6)
         (try replace hx388_7 := (HB.out.cell (World.block_lt_of_cell? W1 _ hx388_7)).trans hx388_7)
         replace p388 := eq_true p388
         replace q388 := eq_true q388
         go_wp2_with (first | ((with_reducible refine gD_ (N := 13) rfl ?_); refine bE_ ?hg (N := 13) ?hd (cs := #[.int .i64 0, .int .i64 0, .bool false, .string (⟨#[]⟩ : ByteArray), .string (⟨#[]⟩ : ByteArray), .int .i64 0, .int .i64 0, .bool false]) (t := 28) ?hr ?_; (case hd => rfl); (case hg => rfl); (case hr => first | (go_simp; done) | (go_simp; rfl)); intro gb389 hg w18 hbox hb; have n0_ := A0_.mk (Kd.R_below (xR_ HO_11.out) hb); have n1_ := A0_.mk (bT_ (xB_ HB) hb); have n2_ := A0_.mk (hbox); have n3_ := A0_.mk ((by rw [hg]; exact (bZ_ (xB_ HB)) : W1.heap.size ≤ gb389)); have n4_ := A0_.mk ((by rw [hg]; exact (bZ_ (xB_ HB)) : W1.heap.size ≤ gb389)); clear HO_11 HB; have HO_11 := n0_; have HB := n1_; have BK389 := n2_; have GW389 := n3_; have GE389 := n4_; clear n0_ n1_ n2_ n3_ n4_; clear hb hbox hg; have hcz19_0 : w18.cell? ⟨gb389, 0, none⟩ = some (.int .i64 0) := (kc_ BK389.out 0).trans rfl; have hcz19_1 : w18.cell? ⟨gb389, 1, none⟩ = some (.int .i64 0) := (kc_ BK389.out 1).trans rfl; have hcz19_2 : w18.cell? ⟨gb389, 2, none⟩ = some (.bool false) := (kc_ BK389.out 2).trans rfl; have hcz19_3 : w18.cell? ⟨gb389, 3, none⟩ = some (.string (⟨#[]⟩ : ByteArray)) := (kc_ BK389.out 3).trans rfl; have hcz19_4 : w18.cell? ⟨gb389, 4, none⟩ = some (.string (⟨#[]⟩ : ByteArray)) := (kc_ BK389.out 4).trans rfl; have hcz19_5 : w18.cell? ⟨gb389, 5, none⟩ = some (.int .i64 0) := (kc_ BK389.out 5).trans rfl; have hcz19_6 : w18.cell? ⟨gb389, 6, none⟩ = some (.int .i64 0) := (kc_ BK389.out 6).trans rfl; have hcz19_7 : w18.cell? ⟨gb389, 7, none⟩ = some (.bool false) := (kc_ BK389.out 7).trans rfl; have hfz19_0 := kF_ BK389.out 0; have hfz19_1 := kF_ BK389.out 1; have hfz19_2 := kF_ BK389.out 2; have hfz19_3 := kF_ BK389.out 3; have hfz19_4 := kF_ BK389.out 4; have hfz19_5 := kF_ BK389.out 5; have hfz19_6 := kF_ BK389.out 6; have hfz19_7 := kF_ BK389.out 7) | (go_at_call 13; (with_reducible refine (setoff_Eligible.calls ((rd_T28 l0 x16_1).f0) ((rd_T28 l0 x16_1).f1) ((rd_T28 l0 x16_1).f2.f0) ((rd_T28 l0 x16_1).f2.f1) ((rd_T28 l0 x16_1).f2.f2) ((rd_T28 l0 x16_1).f3) ((rd_T28 l0 x16_1).f4) ((rd_T28 l0 x16_1).f5) a1 a2 false _ A11.out).mono ?_); rintro e w20 ⟨rfl, hb⟩; have n0_ := A0_.mk (Kd.R_below (by (with_reducible repeat (first | apply Kd.R_alloc | apply Kd.R_drewN | apply Kd.R_drew)); exact (Kd.R_mono (Kd.R_far (p := ⟨gb389, 7, none⟩) (Kd.R_far (p := ⟨gb389, 6, none⟩) (Kd.R_far (p := ⟨gb389, 5, none⟩) (Kd.R_far (p := ⟨gb389, 4, none⟩) (Kd.R_far (p := ⟨gb389, 3, none⟩) (Kd.R_far (p := ⟨gb389, 2, none⟩) (Kd.R_far (p := ⟨gb389, 1, none⟩) (Kd.R_far (p := ⟨gb389, 0, none⟩) (Kd.R_types HO_11.out BK389.out (by decide)) (fun _ hk => hk.2) (.int .i64 ((rd_T28 l0 x16_1).f0))) (fun _ hk => hk.2) (.int .i64 ((rd_T28 l0 x16_1).f1))) (fun _ hk => hk.2) (.bool ((rd_T28 l0 x16_1).f2.f0))) (fun _ hk => hk.2) (.string ((rd_T28 l0 x16_1).f2.f1))) (fun _ hk => hk.2) (.string ((rd_T28 l0 x16_1).f2.f2))) (fun _ hk => hk.2) (.int .i64 ((rd_T28 l0 x16_1).f3))) (fun _ hk => hk.2) (.int .i64 ((rd_T28 l0 x16_1).f4))) (fun _ hk => hk.2) (.bool ((rd_T28 l0 x16_1).f5))) (fun _ h_ => h_.1))) hb); have n1_ := A0_.mk (kB_ (g := gb389) (o := .cells #[.int .i64 ((rd_T28 l0 x16_1).f0), .int .i64 ((rd_T28 l0 x16_1).f1), .bool ((rd_T28 l0 x16_1).f2.f0), .string ((rd_T28 l0 x16_1).f2.f1), .string ((rd_T28 l0 x16_1).f2.f2), .int .i64 ((rd_T28 l0 x16_1).f3), .int .i64 ((rd_T28 l0 x16_1).f4), .bool ((rd_T28 l0 x16_1).f5)] 28 (0, 0)) (by (with_reducible repeat (first | refine kN_ ?_ _ | refine kD_ ?_ | refine kA_ ?_ _)); refine kP_ (cs := #[.int .i64 ((rd_T28 l0 x16_1).f0), .int .i64 ((rd_T28 l0 x16_1).f1), .bool ((rd_T28 l0 x16_1).f2.f0), .string ((rd_T28 l0 x16_1).f2.f1), .string ((rd_T28 l0 x16_1).f2.f2), .int .i64 ((rd_T28 l0 x16_1).f3), .int .i64 ((rd_T28 l0 x16_1).f4), .bool false]) ?_ 7 _ rfl; (with_reducible repeat (first | refine kN_ ?_ _ | refine kD_ ?_ | refine kA_ ?_ _)); refine kP_ (cs := #[.int .i64 ((rd_T28 l0 x16_1).f0), .int .i64 ((rd_T28 l0 x16_1).f1), .bool ((rd_T28 l0 x16_1).f2.f0), .string ((rd_T28 l0 x16_1).f2.f1), .string ((rd_T28 l0 x16_1).f2.f2), .int .i64 ((rd_T28 l0 x16_1).f3), .int .i64 0, .bool false]) ?_ 6 _ rfl; (with_reducible repeat (first | refine kN_ ?_ _ | refine kD_ ?_ | refine kA_ ?_ _)); refine kP_ (cs := #[.int .i64 ((rd_T28 l0 x16_1).f0), .int .i64 ((rd_T28 l0 x16_1).f1), .bool ((rd_T28 l0 x16_1).f2.f0), .string ((rd_T28 l0 x16_1).f2.f1), .string ((rd_T28 l0 x16_1).f2.f2), .int .i64 0, .int .i64 0, .bool false]) ?_ 5 _ rfl; (with_reducible repeat (first | refine kN_ ?_ _ | refine kD_ ?_ | refine kA_ ?_ _)); refine kP_ (cs := #[.int .i64 ((rd_T28 l0 x16_1).f0), .int .i64 ((rd_T28 l0 x16_1).f1), .bool ((rd_T28 l0 x16_1).f2.f0), .string ((rd_T28 l0 x16_1).f2.f1), .string (⟨#[]⟩ : ByteArray), .int .i64 0, .int .i64 0, .bool false]) ?_ 4 _ rfl; (with_reducible repeat (first | refine kN_ ?_ _ | refine kD_ ?_ | refine kA_ ?_ _)); refine kP_ (cs := #[.int .i64 ((rd_T28 l0 x16_1).f0), .int .i64 ((rd_T28 l0 x16_1).f1), .bool ((rd_T28 l0 x16_1).f2.f0), .string (⟨#[]⟩ : ByteArray), .string (⟨#[]⟩ : ByteArray), .int .i64 0, .int .i64 0, .bool false]) ?_ 3 _ rfl; (with_reducible repeat (first | refine kN_ ?_ _ | refine kD_ ?_ | refine kA_ ?_ _)); refine kP_ (cs := #[.int .i64 ((rd_T28 l0 x16_1).f0), .int .i64 ((rd_T28 l0 x16_1).f1), .bool false, .string (⟨#[]⟩ : ByteArray), .string (⟨#[]⟩ : ByteArray), .int .i64 0, .int .i64 0, .bool false]) ?_ 2 _ rfl; (with_reducible repeat (first | refine kN_ ?_ _ | refine kD_ ?_ | refine kA_ ?_ _)); refine kP_ (cs := #[.int .i64 ((rd_T28 l0 x16_1).f0), .int .i64 0, .bool false, .string (⟨#[]⟩ : ByteArray), .string (⟨#[]⟩ : ByteArray), .int .i64 0, .int .i64 0, .bool false]) ?_ 1 _ rfl; (with_reducible repeat (first | refine kN_ ?_ _ | refine kD_ ?_ | refine kA_ ?_ _)); refine kP_ (cs := #[.int .i64 0, .int .i64 0, .bool false, .string (⟨#[]⟩ : ByteArray), .string (⟨#[]⟩ : ByteArray), .int .i64 0, .int .i64 0, .bool false]) ?_ 0 _ rfl; (with_reducible repeat (first | refine kN_ ?_ _ | refine kD_ ?_ | refine kA_ ?_ _)); exact BK389.out) hb); have n2_ := A0_.mk (bT_ (xB1_ HB GE389) hb); clear HO_11 BK389 HB; have HO_11 := n0_; have BK389 := n1_; have HB := n2_; clear n0_ n1_ n2_; (try clear hb); (try clear hb2); (try clear hk); (try clear hi)))
         (try simp only [add_plain])
         go_roundg k1
         case measure => have := HK1.out; omega
         case rel => exact ⟨(x11_1), (wrap64 (x16_1 + 1)), (by first | rfl | (simp; done) | (simp [*]; done)), H', ⟨by have := HK1.out; omega⟩, ⟨by (with_reducible repeat (first | apply Kd.R_alloc | apply Kd.R_drewN | apply Kd.R_drew)); exact HO_11.out⟩, ⟨xB1_ HB GE389⟩⟩
       ·rw [if_neg c10] at H
        have c10b0 : (((rd_T28 l0 x16_1).f1) == a4) = false := beq_eq_false_iff_ne.mpr c10
        have c10b1 : (((rd_T28 l0 x16_1).f1) != a4) = true := bne_iff_ne.mpr c10
        have H' := A0_.mk H
        clear H
        have p388 : 0 ≤ (x16_1 : Int) := of_decide_eq_true aS_
        have q388 : x16_1 < (l0.length : Int) := of_decide_eq_true aS_
        obtain ⟨ad388, e388, hx388_0, hx388_1, hx388_2, hx388_3, hx388_4, hx388_5, hx388_6, hx388_7⟩ := at_T28 HR0.out x16_1 p388 q388
        cases e388
        (try replace hx388_0 := (HB.out.cell (World.block_lt_of_cell? W1 _ hx388_0)).trans hx388_0)
        (try replace hx388_1 := (HB.out.cell (World.block_lt_of_cell? W1 _ hx388_1)).trans hx388_1)
        (try replace hx388_2 := (HB.out.cell (World.block_lt_of_cell? W1 _ hx388_2)).trans hx388_2)
        (try replace hx388_3 := (HB.out.cell (World.block_lt_of_cell? W1 _ hx388_3)).trans hx388_3)
        (try replace hx388_4 := (HB.out.cell (World.block_lt_of_cell? W1 _ hx388_4)).trans hx388_4)
        (try replace hx388_5 := (HB.out.cell (World.block_lt_of_cell? W1 _ hx388_5)).trans hx388_5)
        (try replace hx388_6 := (HB.out.cell (World.block_lt_of_cell? W1 _ hx388_6)).trans hx388_6)
        (try replace hx388_7 := (HB.out.cell (World.block_lt_of_cell? W1 _ hx388_7)).trans hx388_7)
        replace p388 := eq_true p388
        replace q388 := eq_true q388
        go_wp2_with (first | ((with_reducible refine gD_ (N := 13) rfl ?_); refine bE_ ?hg (N := 13) ?hd (cs := #[.int .i64 0, .int .i64 0, .bool false, .string (⟨#[]⟩ : ByteArray), .string (⟨#[]⟩ : ByteArray), .int .i64 0, .int .i64 0, .bool false]) (t := 28) ?hr ?_; (case hd => rfl); (case hg => rfl); (case hr => first | (go_simp; done) | (go_simp; rfl)); intro gb389 hg w21 hbox hb; have n0_ := A0_.mk (Kd.R_below (xR_ HO_11.out) hb); have n1_ := A0_.mk (bT_ (xB_ HB) hb); have n2_ := A0_.mk (hbox); have n3_ := A0_.mk ((by rw [hg]; exact (bZ_ (xB_ HB)) : W1.heap.size ≤ gb389)); have n4_ := A0_.mk ((by rw [hg]; exact (bZ_ (xB_ HB)) : W1.heap.size ≤ gb389)); clear HO_11 HB; have HO_11 := n0_; have HB := n1_; have BK389 := n2_; have GW389 := n3_; have GE389 := n4_; clear n0_ n1_ n2_ n3_ n4_; clear hb hbox hg; have hcz22_0 : w21.cell? ⟨gb389, 0, none⟩ = some (.int .i64 0) := (kc_ BK389.out 0).trans rfl; have hcz22_1 : w21.cell? ⟨gb389, 1, none⟩ = some (.int .i64 0) := (kc_ BK389.out 1).trans rfl; have hcz22_2 : w21.cell? ⟨gb389, 2, none⟩ = some (.bool false) := (kc_ BK389.out 2).trans rfl; have hcz22_3 : w21.cell? ⟨gb389, 3, none⟩ = some (.string (⟨#[]⟩ : ByteArray)) := (kc_ BK389.out 3).trans rfl; have hcz22_4 : w21.cell? ⟨gb389, 4, none⟩ = some (.string (⟨#[]⟩ : ByteArray)) := (kc_ BK389.out 4).trans rfl; have hcz22_5 : w21.cell? ⟨gb389, 5, none⟩ = some (.int .i64 0) := (kc_ BK389.out 5).trans rfl; have hcz22_6 : w21.cell? ⟨gb389, 6, none⟩ = some (.int .i64 0) := (kc_ BK389.out 6).trans rfl; have hcz22_7 : w21.cell? ⟨gb389, 7, none⟩ = some (.bool false) := (kc_ BK389.out 7).trans rfl; have hfz22_0 := kF_ BK389.out 0; have hfz22_1 := kF_ BK389.out 1; have hfz22_2 := kF_ BK389.out 2; have hfz22_3 := kF_ BK389.out 3; have hfz22_4 := kF_ BK389.out 4; have hfz22_5 := kF_ BK389.out 5; have hfz22_6 := kF_ BK389.out 6; have hfz22_7 := kF_ BK389.out 7))
        (try simp only [add_plain])
        go_roundg k1
        case measure => have := HK1.out; omega
        case rel => exact ⟨(x11_1), (wrap64 (x16_1 + 1)), (by first | rfl | (simp; done) | (simp [*]; done)), H', ⟨by have := HK1.out; omega⟩, ⟨by (with_reducible repeat (first | apply Kd.R_alloc | apply Kd.R_drewN | apply Kd.R_drew)); exact Kd.R_mono (Kd.R_far (p := ⟨gb389, 7, none⟩) (Kd.R_far (p := ⟨gb389, 6, none⟩) (Kd.R_far (p := ⟨gb389, 5, none⟩) (Kd.R_far (p := ⟨gb389, 4, none⟩) (Kd.R_far (p := ⟨gb389, 3, none⟩) (Kd.R_far (p := ⟨gb389, 2, none⟩) (Kd.R_far (p := ⟨gb389, 1, none⟩) (Kd.R_far (p := ⟨gb389, 0, none⟩) (Kd.R_types HO_11.out BK389.out (by decide)) (fun _ hk => hk.2) (.int .i64 ((rd_T28 l0 x16_1).f0))) (fun _ hk => hk.2) (.int .i64 ((rd_T28 l0 x16_1).f1))) (fun _ hk => hk.2) (.bool ((rd_T28 l0 x16_1).f2.f0))) (fun _ hk => hk.2) (.string ((rd_T28 l0 x16_1).f2.f1))) (fun _ hk => hk.2) (.string ((rd_T28 l0 x16_1).f2.f2))) (fun _ hk => hk.2) (.int .i64 ((rd_T28 l0 x16_1).f3))) (fun _ hk => hk.2) (.int .i64 ((rd_T28 l0 x16_1).f4))) (fun _ hk => hk.2) (.bool ((rd_T28 l0 x16_1).f5))) (fun _ hk => trivial)⟩, ⟨xB1_ HB GE389⟩⟩
      ·rw [if_neg c9] at H
       have c9b0 : (((rd_T28 l0 x16_1).f0) == a3) = false := beq_eq_false_iff_ne.mpr c9
       have c9b1 : (((rd_T28 l0 x16_1).f0) != a3) = true := bne_iff_ne.mpr c9
       have H' := A0_.mk H
       clear H
       have p388 : 0 ≤ (x16_1 : Int) := of_decide_eq_true aS_
       have q388 : x16_1 < (l0.length : Int) := of_decide_eq_true aS_
       obtain ⟨ad388, e388, hx388_0, hx388_1, hx388_2, hx388_3, hx388_4, hx388_5, hx388_6, hx388_7⟩ := at_T28 HR0.out x16_1 p388 q388
       cases e388
       (try replace hx388_0 := (HB.out.cell (World.block_lt_of_cell? W1 _ hx388_0)).trans hx388_0)
       (try replace hx388_1 := (HB.out.cell (World.block_lt_of_cell? W1 _ hx388_1)).trans hx388_1)
       (try replace hx388_2 := (HB.out.cell (World.block_lt_of_cell? W1 _ hx388_2)).trans hx388_2)
       (try replace hx388_3 := (HB.out.cell (World.block_lt_of_cell? W1 _ hx388_3)).trans hx388_3)
       (try replace hx388_4 := (HB.out.cell (World.block_lt_of_cell? W1 _ hx388_4)).trans hx388_4)
       (try replace hx388_5 := (HB.out.cell (World.block_lt_of_cell? W1 _ hx388_5)).trans hx388_5)
       (try replace hx388_6 := (HB.out.cell (World.block_lt_of_cell? W1 _ hx388_6)).trans hx388_6)
       (try replace hx388_7 := (HB.out.cell (World.block_lt_of_cell? W1 _ hx388_7)).trans hx388_7)
       replace p388 := eq_true p388
       replace q388 := eq_true q388
       go_wp2_with (first | ((with_reducible refine gD_ (N := 13) rfl ?_); refine bE_ ?hg (N := 13) ?hd (cs := #[.int .i64 0, .int .i64 0, .bool false, .string (⟨#[]⟩ : ByteArray), .string (⟨#[]⟩ : ByteArray), .int .i64 0, .int .i64 0, .bool false]) (t := 28) ?hr ?_; (case hd => rfl); (case hg => rfl); (case hr => first | (go_simp; done) | (go_simp; rfl)); intro gb389 hg w23 hbox hb; have n0_ := A0_.mk (Kd.R_below (xR_ HO_11.out) hb); have n1_ := A0_.mk (bT_ (xB_ HB) hb); have n2_ := A0_.mk (hbox); have n3_ := A0_.mk ((by rw [hg]; exact (bZ_ (xB_ HB)) : W1.heap.size ≤ gb389)); have n4_ := A0_.mk ((by rw [hg]; exact (bZ_ (xB_ HB)) : W1.heap.size ≤ gb389)); clear HO_11 HB; have HO_11 := n0_; have HB := n1_; have BK389 := n2_; have GW389 := n3_; have GE389 := n4_; clear n0_ n1_ n2_ n3_ n4_; clear hb hbox hg; have hcz24_0 : w23.cell? ⟨gb389, 0, none⟩ = some (.int .i64 0) := (kc_ BK389.out 0).trans rfl; have hcz24_1 : w23.cell? ⟨gb389, 1, none⟩ = some (.int .i64 0) := (kc_ BK389.out 1).trans rfl; have hcz24_2 : w23.cell? ⟨gb389, 2, none⟩ = some (.bool false) := (kc_ BK389.out 2).trans rfl; have hcz24_3 : w23.cell? ⟨gb389, 3, none⟩ = some (.string (⟨#[]⟩ : ByteArray)) := (kc_ BK389.out 3).trans rfl; have hcz24_4 : w23.cell? ⟨gb389, 4, none⟩ = some (.string (⟨#[]⟩ : ByteArray)) := (kc_ BK389.out 4).trans rfl; have hcz24_5 : w23.cell? ⟨gb389, 5, none⟩ = some (.int .i64 0) := (kc_ BK389.out 5).trans rfl; have hcz24_6 : w23.cell? ⟨gb389, 6, none⟩ = some (.int .i64 0) := (kc_ BK389.out 6).trans rfl; have hcz24_7 : w23.cell? ⟨gb389, 7, none⟩ = some (.bool false) := (kc_ BK389.out 7).trans rfl; have hfz24_0 := kF_ BK389.out 0; have hfz24_1 := kF_ BK389.out 1; have hfz24_2 := kF_ BK389.out 2; have hfz24_3 := kF_ BK389.out 3; have hfz24_4 := kF_ BK389.out 4; have hfz24_5 := kF_ BK389.out 5; have hfz24_6 := kF_ BK389.out 6; have hfz24_7 := kF_ BK389.out 7))
       (try simp only [add_plain])
       go_roundg k1
       case measure => have := HK1.out; omega
       case rel => exact ⟨(x11_1), (wrap64 (x16_1 + 1)), (by first | rfl | (simp; done) | (simp [*]; done)), H', ⟨by have := HK1.out; omega⟩, ⟨by (with_reducible repeat (first | apply Kd.R_alloc | apply Kd.R_drewN | apply Kd.R_drew)); exact Kd.R_mono (Kd.R_far (p := ⟨gb389, 7, none⟩) (Kd.R_far (p := ⟨gb389, 6, none⟩) (Kd.R_far (p := ⟨gb389, 5, none⟩) (Kd.R_far (p := ⟨gb389, 4, none⟩) (Kd.R_far (p := ⟨gb389, 3, none⟩) (Kd.R_far (p := ⟨gb389, 2, none⟩) (Kd.R_far (p := ⟨gb389, 1, none⟩) (Kd.R_far (p := ⟨gb389, 0, none⟩) (Kd.R_types HO_11.out BK389.out (by decide)) (fun _ hk => hk.2) (.int .i64 ((rd_T28 l0 x16_1).f0))) (fun _ hk => hk.2) (.int .i64 ((rd_T28 l0 x16_1).f1))) (fun _ hk => hk.2) (.bool ((rd_T28 l0 x16_1).f2.f0))) (fun _ hk => hk.2) (.string ((rd_T28 l0 x16_1).f2.f1))) (fun _ hk => hk.2) (.string ((rd_T28 l0 x16_1).f2.f2))) (fun _ hk => hk.2) (.int .i64 ((rd_T28 l0 x16_1).f3))) (fun _ hk => hk.2) (.int .i64 ((rd_T28 l0 x16_1).f4))) (fun _ hk => hk.2) (.bool ((rd_T28 l0 x16_1).f5))) (fun _ hk => trivial)⟩, ⟨xB1_ HB GE389⟩⟩
     ·rw [if_neg c8] at H
      exact absurd H (by simp)
    ·rw [if_neg c7] at H
     exact absurd H (by simp)
   ·rw [if_neg c6] at H
    have c6b0 : decide (x16_1 < (l0.length : Int)) = false := decide_eq_false c6
    clear c6
    obtain rfl := Option.some.inj H
    have hs_ := HS.out
    by_cases hc_ : x11_1.length ≤ 19 ∧ x11_1.all (fun x => decide (0 ≤ x ∧ x < (l0.length : Int))) = true
    ·rw [if_pos hc_] at hs_
     obtain rfl := Option.some.inj hs_
     obtain ⟨hlen_, hin0_⟩ := hc_
     have hin_ : ∀ x ∈ x11_1, 0 ≤ x ∧ x < (l0.length : Int) := fun x hx => of_decide_eq_true (List.all_eq_true.mp hin0_ x hx)
     clear hs_ hin0_
     obtain ⟨Ao_, co_, eo_⟩ := Kd.R_slice HO_11.out
     subst eo_
     have hbxlt_ := World.block_lt_of_cell? W1 _ HBX.out
     have hcmp_ : CmpOk 59 #[.pointer (some ⟨w.heap.size, 0, none⟩)] (eligible_cmp l0) x11_1 W1.heap.size wr := fun x hx y hy W hW => eligible_cmp_calls A0 c0 w.heap.size l0 x y W (Kd.C_below HR0.out (HB.out.trans hW)) (((HB.out.trans hW).cell hbxlt_).trans HBX.out) (hin_ x hx) (hin_ y hy)
     have HSS := A0_.mk (sortStable_calls 59 _ _ eligible_enters HO_11.out hlen_ HB.out.size hcmp_)
     clear hcmp_ hin_ hlen_ hbxlt_
     have hmf : ∀ (fn : Fn) (first cap : Array Value) (w : World), (Instr.makeFunc fn first cap).run Tryd.prog w = .ok (.func fn first cap) w := fun _ _ _ _ => rfl
     go_wp2_with (go_at_call 58; refine HSS.out.mono ?_; rintro e w2 ⟨rfl, hrs, hbs⟩)
     go_ret
     exact ⟨_, rfl, Kd.R_lower hrs (by have := HSZ.out; omega), HB1.out.trans ((HB.out.trans hbs).mono (by have := HSZ.out; omega))⟩
    ·rw [if_neg hc_] at hs_
     exact absurd hs_ (by simp)
theorem bne_nil_isEmpty (l : List UInt8) : (l != ([] : List UInt8)) = !l.isEmpty := by cases l <;> rfl
def rational_negate.f (a0_0 : Bool) (a0_1 : ByteArray) (a0_2 : ByteArray) : Option (Bool × ByteArray × ByteArray) := if a0_0 = true then (some (false, a0_1, a0_2)) else (some ((a0_1.toList != ([] : List UInt8)), a0_1, a0_2))
set_option maxHeartbeats 8000000 in
set_option maxRecDepth 100000 in
theorem rational_negate.calls (a0_0 : Bool) (a0_1 : ByteArray) (a0_2 : ByteArray) (r1 : Bool) (r2 : ByteArray) (r3 : ByteArray) (w : World) (h : rational_negate.f a0_0 a0_1 a0_2 = some (r1, r2, r3)) :
  Calls Tryd.prog 48 #[.agg #[.bool a0_0, .string a0_1, .string a0_2]] w fun e w' => e = .returned (.agg #[.bool r1, .string r2, .string r3]) ∧ Below w.heap.size w w' := by
 have hu26 := Tryd.underlying26
 have HB := A0_.mk (Below.refl w.heap.size w)
 have H := h
 unfold rational_negate.f at H
 clear h
 by_cases c2 : a0_0 = true
 ·subst c2
  have H1 : (some (false, a0_1, a0_2)) = some (r1, r2, r3) := by rw [if_pos rfl] at H; exact H
  clear H
  have H := H1
  clear H1
  simp only [Option.some.injEq, Prod.mk.injEq] at H
  obtain ⟨rfl, rfl, rfl⟩ := H
  go_enter Tryd.func48, Tryd.ntmps48
  go_wp2_with (first | ((with_reducible refine gD_ (N := 1) rfl ?_); refine bE_ ?hg (N := 1) ?hd (cs := #[.bool true, .string a0_1, .string a0_2]) (t := 26) ?hr ?_; (case hd => rfl); (case hg => rfl); (case hr => first | (go_simp; done) | (go_simp; rfl)); intro gb431 hg w3 hbox hb; have n0_ := A0_.mk (bT_ (xB_ HB) hb); have n1_ := A0_.mk (hbox); have n2_ := A0_.mk ((by rw [hg]; exact (bZ_ (xB_ HB)) : w.heap.size ≤ gb431)); have n3_ := A0_.mk ((by rw [hg]; exact (bZ_ (xB_ HB)) : w.heap.size ≤ gb431)); clear HB; have HB := n0_; have BK431 := n1_; have GW431 := n2_; have GE431 := n3_; clear n0_ n1_ n2_ n3_; clear hb hbox hg) | ((with_reducible refine gD_ (N := 2) rfl ?_); refine bE_ ?hg (N := 2) ?hd (cs := #[.bool false, .string (⟨#[]⟩ : ByteArray), .string (⟨#[]⟩ : ByteArray)]) (t := 26) ?hr ?_; (case hd => rfl); (case hg => rfl); (case hr => first | (go_simp; done) | (go_simp; rfl)); intro gb432 hg w4 hbox hb; have n0_ := A0_.mk (kB_ (g := gb431) (o := .cells #[.bool true, .string a0_1, .string a0_2] 26 (0, 0)) (xK_ BK431.out) hb); have n1_ := A0_.mk (bT_ (xB1_ HB GE431) hb); have n2_ := A0_.mk (hbox); have n3_ := A0_.mk ((by rw [hg]; exact (bZ_ (xB1_ HB GE431)) : w.heap.size ≤ gb432)); have n4_ := A0_.mk ((by rw [hg]; exact (bZ_ (xB1_ HB GE431)) : w.heap.size ≤ gb432)); have n5_ := A0_.mk ((by rw [hg]; exact Nat.ne_of_lt (blk_lt (g := gb431) (o := .cells #[.bool true, .string a0_1, .string a0_2] 26 (0, 0)) (xK_ BK431.out)) : gb431 ≠ gb432)); have n6_ := A0_.mk ((by rw [hg]; exact Nat.ne_of_gt (blk_lt (g := gb431) (o := .cells #[.bool true, .string a0_1, .string a0_2] 26 (0, 0)) (xK_ BK431.out)) : gb432 ≠ gb431)); clear BK431 HB; have BK431 := n0_; have HB := n1_; have BK432 := n2_; have GW432 := n3_; have GE432 := n4_; have NB431_432 := n5_; have NB432_431 := n6_; clear n0_ n1_ n2_ n3_ n4_ n5_ n6_; clear hb hbox hg; have hnb5 := NB431_432.out; have hnc5 := NB432_431.out; have hcz6_0 : w4.cell? ⟨gb431, 0, none⟩ = some (.bool true) := (kc_ BK431.out 0).trans rfl; have hcz6_1 : w4.cell? ⟨gb431, 1, none⟩ = some (.string a0_1) := (kc_ BK431.out 1).trans rfl; have hcz6_2 : w4.cell? ⟨gb431, 2, none⟩ = some (.string a0_2) := (kc_ BK431.out 2).trans rfl; have hfz6_0 := kF_ BK431.out 0; have hfz6_1 := kF_ BK431.out 1; have hfz6_2 := kF_ BK431.out 2; have hcz7_0 : w4.cell? ⟨gb432, 0, none⟩ = some (.bool false) := (kc_ BK432.out 0).trans rfl; have hcz7_1 : w4.cell? ⟨gb432, 1, none⟩ = some (.string (⟨#[]⟩ : ByteArray)) := (kc_ BK432.out 1).trans rfl; have hcz7_2 : w4.cell? ⟨gb432, 2, none⟩ = some (.string (⟨#[]⟩ : ByteArray)) := (kc_ BK432.out 2).trans rfl; have hfz7_0 := kF_ BK432.out 0; have hfz7_1 := kF_ BK432.out 1; have hfz7_2 := kF_ BK432.out 2))
  refine bodyPost_ret (results_cell_row rfl _ _ gb432 26 #[.bool false, .string a0_1, .string a0_2] (0, 0) _ rfl (by (with_reducible repeat (first | refine kN_ ?_ _ | refine kD_ ?_ | refine kA_ ?_ _)); refine kP_ (cs := #[.bool false, .string a0_1, .string (⟨#[]⟩ : ByteArray)]) ?_ 2 _ rfl; (with_reducible repeat (first | refine kN_ ?_ _ | refine kD_ ?_ | refine kA_ ?_ _)); refine kP_ (cs := #[.bool false, .string (⟨#[]⟩ : ByteArray), .string (⟨#[]⟩ : ByteArray)]) ?_ 1 _ rfl; (with_reducible repeat (first | refine kN_ ?_ _ | refine kD_ ?_ | refine kA_ ?_ _)); refine kP_ (cs := #[.bool false, .string (⟨#[]⟩ : ByteArray), .string (⟨#[]⟩ : ByteArray)]) ?_ 0 _ rfl; (with_reducible repeat (first | refine kN_ ?_ _ | refine kD_ ?_ | refine kA_ ?_ _)); refine blk_far ?_ NB432_431.out _; (with_reducible repeat (first | refine kN_ ?_ _ | refine kD_ ?_ | refine kA_ ?_ _)); exact BK432.out) Tryd.underlying26 rfl (by kernel_rfl)) rfl ?_
  exact ⟨rE_, xB2_ HB GE431 GE432⟩
 ·replace c2 := Bool.eq_false_iff.mpr c2
  subst c2
  have H1 : (some ((a0_1.toList != ([] : List UInt8)), a0_1, a0_2)) = some (r1, r2, r3) := by rw [if_neg (show ¬ (false = true) by decide)] at H; exact H
  clear H
  have H := H1
  clear H1
  simp only [Option.some.injEq, Prod.mk.injEq] at H
  obtain ⟨rfl, rfl, rfl⟩ := H
  go_enter Tryd.func48, Tryd.ntmps48
  go_wp2_with (first | ((with_reducible refine gD_ (N := 1) rfl ?_); refine bE_ ?hg (N := 1) ?hd (cs := #[.bool false, .string a0_1, .string a0_2]) (t := 26) ?hr ?_; (case hd => rfl); (case hg => rfl); (case hr => first | (go_simp; done) | (go_simp; rfl)); intro gb431 hg w8 hbox hb; have n0_ := A0_.mk (bT_ (xB_ HB) hb); have n1_ := A0_.mk (hbox); have n2_ := A0_.mk ((by rw [hg]; exact (bZ_ (xB_ HB)) : w.heap.size ≤ gb431)); have n3_ := A0_.mk ((by rw [hg]; exact (bZ_ (xB_ HB)) : w.heap.size ≤ gb431)); clear HB; have HB := n0_; have BK431 := n1_; have GW431 := n2_; have GE431 := n3_; clear n0_ n1_ n2_ n3_; clear hb hbox hg) | ((with_reducible refine gD_ (N := 2) rfl ?_); refine bE_ ?hg (N := 2) ?hd (cs := #[.bool false, .string (⟨#[]⟩ : ByteArray), .string (⟨#[]⟩ : ByteArray)]) (t := 26) ?hr ?_; (case hd => rfl); (case hg => rfl); (case hr => first | (go_simp; done) | (go_simp; rfl)); intro gb432 hg w9 hbox hb; have n0_ := A0_.mk (kB_ (g := gb431) (o := .cells #[.bool false, .string a0_1, .string a0_2] 26 (0, 0)) (xK_ BK431.out) hb); have n1_ := A0_.mk (bT_ (xB1_ HB GE431) hb); have n2_ := A0_.mk (hbox); have n3_ := A0_.mk ((by rw [hg]; exact (bZ_ (xB1_ HB GE431)) : w.heap.size ≤ gb432)); have n4_ := A0_.mk ((by rw [hg]; exact (bZ_ (xB1_ HB GE431)) : w.heap.size ≤ gb432)); have n5_ := A0_.mk ((by rw [hg]; exact Nat.ne_of_lt (blk_lt (g := gb431) (o := .cells #[.bool false, .string a0_1, .string a0_2] 26 (0, 0)) (xK_ BK431.out)) : gb431 ≠ gb432)); have n6_ := A0_.mk ((by rw [hg]; exact Nat.ne_of_gt (blk_lt (g := gb431) (o := .cells #[.bool false, .string a0_1, .string a0_2] 26 (0, 0)) (xK_ BK431.out)) : gb432 ≠ gb431)); clear BK431 HB; have BK431 := n0_; have HB := n1_; have BK432 := n2_; have GW432 := n3_; have GE432 := n4_; have NB431_432 := n5_; have NB432_431 := n6_; clear n0_ n1_ n2_ n3_ n4_ n5_ n6_; clear hb hbox hg; have hnb10 := NB431_432.out; have hnc10 := NB432_431.out; have hcz11_0 : w9.cell? ⟨gb431, 0, none⟩ = some (.bool false) := (kc_ BK431.out 0).trans rfl; have hcz11_1 : w9.cell? ⟨gb431, 1, none⟩ = some (.string a0_1) := (kc_ BK431.out 1).trans rfl; have hcz11_2 : w9.cell? ⟨gb431, 2, none⟩ = some (.string a0_2) := (kc_ BK431.out 2).trans rfl; have hfz11_0 := kF_ BK431.out 0; have hfz11_1 := kF_ BK431.out 1; have hfz11_2 := kF_ BK431.out 2; have hcz12_0 : w9.cell? ⟨gb432, 0, none⟩ = some (.bool false) := (kc_ BK432.out 0).trans rfl; have hcz12_1 : w9.cell? ⟨gb432, 1, none⟩ = some (.string (⟨#[]⟩ : ByteArray)) := (kc_ BK432.out 1).trans rfl; have hcz12_2 : w9.cell? ⟨gb432, 2, none⟩ = some (.string (⟨#[]⟩ : ByteArray)) := (kc_ BK432.out 2).trans rfl; have hfz12_0 := kF_ BK432.out 0; have hfz12_1 := kF_ BK432.out 1; have hfz12_2 := kF_ BK432.out 2))
  simp only [bne_nil_isEmpty]
  refine bodyPost_ret (results_cell_row rfl _ _ gb432 26 #[.bool (!a0_1.toList.isEmpty), .string a0_1, .string a0_2] (0, 0) _ rfl (by (with_reducible repeat (first | refine kN_ ?_ _ | refine kD_ ?_ | refine kA_ ?_ _)); refine kP_ (cs := #[.bool (!a0_1.toList.isEmpty), .string a0_1, .string (⟨#[]⟩ : ByteArray)]) ?_ 2 _ rfl; (with_reducible repeat (first | refine kN_ ?_ _ | refine kD_ ?_ | refine kA_ ?_ _)); refine kP_ (cs := #[.bool (!a0_1.toList.isEmpty), .string (⟨#[]⟩ : ByteArray), .string (⟨#[]⟩ : ByteArray)]) ?_ 1 _ rfl; (with_reducible repeat (first | refine kN_ ?_ _ | refine kD_ ?_ | refine kA_ ?_ _)); refine kP_ (cs := #[.bool false, .string (⟨#[]⟩ : ByteArray), .string (⟨#[]⟩ : ByteArray)]) ?_ 0 _ rfl; (with_reducible repeat (first | refine kN_ ?_ _ | refine kD_ ?_ | refine kA_ ?_ _)); refine blk_far ?_ NB432_431.out _; (with_reducible repeat (first | refine kN_ ?_ _ | refine kD_ ?_ | refine kA_ ?_ _)); exact BK432.out) Tryd.underlying26 rfl (by kernel_rfl)) rfl ?_
  exact ⟨rE_, xB2_ HB GE431 GE432⟩
def rational_Subtract.f (k : Nat) (a0_0 : Bool) (a0_1 : ByteArray) (a0_2 : ByteArray) (a1_0 : Bool) (a1_1 : ByteArray) (a1_2 : ByteArray) : Option (Bool × ByteArray × ByteArray) := (rational_clean.f k a0_0 a0_1 a0_2).bind fun bt436 => ((rational_clean.f k a1_0 a1_1 a1_2).bind fun bt439 => ((rational_negate.f bt439.1 bt439.2.1 bt439.2.2).bind fun bt442 => ((rational_add.f k bt436.1 bt436.2.1 bt436.2.2 bt442.1 bt442.2.1 bt442.2.2).bind fun bt445 => (some (bt445.1, bt445.2.1, bt445.2.2)))))
theorem rational_Subtract.mono : ∀ a0 a1 a2 a3 a4 a5 k, LeO (rational_Subtract.f k a0 a1 a2 a3 a4 a5) (rational_Subtract.f (k + 1) a0 a1 a2 a3 a4 a5) := by
 intro a0 a1 a2 a3 a4 a5 k
 unfold rational_Subtract.f
 repeat' first
   | (with_reducible exact rational_add.mono _ _ _ _ _ _ _)
   | (with_reducible exact rational_clean.mono _ _ _ _)
   | (with_reducible exact LeO.refl _)
   | (with_reducible exact LeO.none _)
   | (with_reducible refine LeO.ite ?_ ?_)
   | (with_reducible refine LeO.bind ?_ (fun _ => ?_))
set_option maxHeartbeats 8000000 in
set_option maxRecDepth 100000 in
theorem rational_Subtract.calls (k : Nat) (a0_0 : Bool) (a0_1 : ByteArray) (a0_2 : ByteArray) (a1_0 : Bool) (a1_1 : ByteArray) (a1_2 : ByteArray) (r1 : Bool) (r2 : ByteArray) (r3 : ByteArray) (w : World) (h : rational_Subtract.f k a0_0 a0_1 a0_2 a1_0 a1_1 a1_2 = some (r1, r2, r3)) :
  Calls Tryd.prog 25 #[.agg #[.bool a0_0, .string a0_1, .string a0_2], .agg #[.bool a1_0, .string a1_1, .string a1_2]] w fun e w' => e = .returned (.agg #[.bool r1, .string r2, .string r3]) ∧ Below w.heap.size w w' := by
 have hu26 := Tryd.underlying26
 have HB := A0_.mk (Below.refl w.heap.size w)
 have H := h
 unfold rational_Subtract.f at H
 clear h
 replace H := Option.bind_eq_some_iff.mp H
 obtain ⟨⟨t436, t437, t438⟩, A30, H⟩ := H
 (try dsimp only at H)
 have A3 := A0_.mk A30
 clear A30
 replace H := Option.bind_eq_some_iff.mp H
 obtain ⟨⟨t439, t440, t441⟩, A40, H⟩ := H
 (try dsimp only at H)
 have A4 := A0_.mk A40
 clear A40
 replace H := Option.bind_eq_some_iff.mp H
 obtain ⟨⟨t442, t443, t444⟩, A50, H⟩ := H
 (try dsimp only at H)
 have A5 := A0_.mk A50
 clear A50
 replace H := Option.bind_eq_some_iff.mp H
 obtain ⟨⟨t445, t446, t447⟩, A60, H⟩ := H
 (try dsimp only at H)
 have A6 := A0_.mk A60
 clear A60
 simp only [Option.some.injEq, Prod.mk.injEq] at H
 obtain ⟨rfl, rfl, rfl⟩ := H
 go_enter Tryd.func25, Tryd.ntmps25
 try go_wp2_with (first | ((with_reducible refine gD_ (N := 2) rfl ?_); refine bE_ ?hg (N := 2) ?hd (cs := #[.bool a0_0, .string a0_1, .string a0_2]) (t := 26) ?hr ?_; (case hd => rfl); (case hg => rfl); (case hr => first | (go_simp; done) | (go_simp; rfl)); intro gb433 hg w7 hbox hb; have n0_ := A0_.mk (bT_ (xB_ HB) hb); have n1_ := A0_.mk (hbox); have n2_ := A0_.mk ((by rw [hg]; exact (bZ_ (xB_ HB)) : w.heap.size ≤ gb433)); have n3_ := A0_.mk ((by rw [hg]; exact (bZ_ (xB_ HB)) : w.heap.size ≤ gb433)); clear HB; have HB := n0_; have BK433 := n1_; have GW433 := n2_; have GE433 := n3_; clear n0_ n1_ n2_ n3_; clear hb hbox hg) | ((with_reducible refine gD_ (N := 3) rfl ?_); refine bE_ ?hg (N := 3) ?hd (cs := #[.bool a1_0, .string a1_1, .string a1_2]) (t := 26) ?hr ?_; (case hd => rfl); (case hg => rfl); (case hr => first | (go_simp; done) | (go_simp; rfl)); intro gb434 hg w8 hbox hb; have n0_ := A0_.mk (kB_ (g := gb433) (o := .cells #[.bool a0_0, .string a0_1, .string a0_2] 26 (0, 0)) (xK_ BK433.out) hb); have n1_ := A0_.mk (bT_ (xB1_ HB GE433) hb); have n2_ := A0_.mk (hbox); have n3_ := A0_.mk ((by rw [hg]; exact (bZ_ (xB1_ HB GE433)) : w.heap.size ≤ gb434)); have n4_ := A0_.mk ((by rw [hg]; exact (bZ_ (xB1_ HB GE433)) : w.heap.size ≤ gb434)); have n5_ := A0_.mk ((by rw [hg]; exact Nat.ne_of_lt (blk_lt (g := gb433) (o := .cells #[.bool a0_0, .string a0_1, .string a0_2] 26 (0, 0)) (xK_ BK433.out)) : gb433 ≠ gb434)); have n6_ := A0_.mk ((by rw [hg]; exact Nat.ne_of_gt (blk_lt (g := gb433) (o := .cells #[.bool a0_0, .string a0_1, .string a0_2] 26 (0, 0)) (xK_ BK433.out)) : gb434 ≠ gb433)); clear BK433 HB; have BK433 := n0_; have HB := n1_; have BK434 := n2_; have GW434 := n3_; have GE434 := n4_; have NB433_434 := n5_; have NB434_433 := n6_; clear n0_ n1_ n2_ n3_ n4_ n5_ n6_; clear hb hbox hg) | ((with_reducible refine gD_ (N := 4) rfl ?_); refine bE_ ?hg (N := 4) ?hd (cs := #[.bool false, .string (⟨#[]⟩ : ByteArray), .string (⟨#[]⟩ : ByteArray)]) (t := 26) ?hr ?_; (case hd => rfl); (case hg => rfl); (case hr => first | (go_simp; done) | (go_simp; rfl)); intro gb435 hg w9 hbox hb; have n0_ := A0_.mk (kB_ (g := gb433) (o := .cells #[.bool a0_0, .string a0_1, .string a0_2] 26 (0, 0)) (xK_ BK433.out) hb); have n1_ := A0_.mk (kB_ (g := gb434) (o := .cells #[.bool a1_0, .string a1_1, .string a1_2] 26 (0, 0)) (xK_ BK434.out) hb); have n2_ := A0_.mk (bT_ (xB2_ HB GE433 GE434) hb); have n3_ := A0_.mk (hbox); have n4_ := A0_.mk ((by rw [hg]; exact (bZ_ (xB2_ HB GE433 GE434)) : w.heap.size ≤ gb435)); have n5_ := A0_.mk ((by rw [hg]; exact (bZ_ (xB2_ HB GE433 GE434)) : w.heap.size ≤ gb435)); have n6_ := A0_.mk ((by rw [hg]; exact Nat.ne_of_lt (blk_lt (g := gb433) (o := .cells #[.bool a0_0, .string a0_1, .string a0_2] 26 (0, 0)) (xK_ BK433.out)) : gb433 ≠ gb435)); have n7_ := A0_.mk ((by rw [hg]; exact Nat.ne_of_gt (blk_lt (g := gb433) (o := .cells #[.bool a0_0, .string a0_1, .string a0_2] 26 (0, 0)) (xK_ BK433.out)) : gb435 ≠ gb433)); have n8_ := A0_.mk ((by rw [hg]; exact Nat.ne_of_lt (blk_lt (g := gb434) (o := .cells #[.bool a1_0, .string a1_1, .string a1_2] 26 (0, 0)) (xK_ BK434.out)) : gb434 ≠ gb435)); have n9_ := A0_.mk ((by rw [hg]; exact Nat.ne_of_gt (blk_lt (g := gb434) (o := .cells #[.bool a1_0, .string a1_1, .string a1_2] 26 (0, 0)) (xK_ BK434.out)) : gb435 ≠ gb434)); clear BK433 BK434 HB; have BK433 := n0_; have BK434 := n1_; have HB := n2_; have BK435 := n3_; have GW435 := n4_; have GE435 := n5_; have NB433_435 := n6_; have NB435_433 := n7_; have NB434_435 := n8_; have NB435_434 := n9_; clear n0_ n1_ n2_ n3_ n4_ n5_ n6_ n7_ n8_ n9_; clear hb hbox hg))
 have n0_ := A0_.mk (kD_ BK433.out)
 have n1_ := A0_.mk (kD_ BK434.out)
 have n2_ := A0_.mk (kD_ BK435.out)
 have n3_ := A0_.mk (b1_ HB.out)
 clear BK433
 clear BK434
 clear BK435
 clear HB
 have BK433 := n0_
 have BK434 := n1_
 have BK435 := n2_
 have HB := n3_
 clear n0_ n1_ n2_ n3_
 refine start_ (n := 7) (S := fun w' => w'.cell? ⟨gb433, 0, none⟩ = some (.bool a0_0) ∧ w'.cell? ⟨gb433, 1, none⟩ = some (.string a0_1) ∧ w'.cell? ⟨gb433, 2, none⟩ = some (.string a0_2) ∧ w'.cell? ⟨gb434, 0, none⟩ = some (.bool a1_0) ∧ w'.cell? ⟨gb434, 1, none⟩ = some (.string a1_1) ∧ w'.cell? ⟨gb434, 2, none⟩ = some (.string a1_2)) (ds := []) #[false, false, false, false, false, false, false] (by kernel_rfl) rfl rfl ⟨(kc_ BK433.out 0).trans rfl, (kc_ BK433.out 1).trans rfl, (kc_ BK433.out 2).trans rfl, (kc_ BK434.out 0).trans rfl, (kc_ BK434.out 1).trans rfl, (kc_ BK434.out 2).trans rfl⟩ (fun hHeld => ?_)
 generalize w9.drew = w10 at BK433 BK434 BK435 HB hHeld ⊢
 refine take_ (i := 0) (N := some 5) (v := ?_) (a' := ?_) #[true, false, false, false, false, false, false] rfl rfl (by kernel_rfl) (fun _ _ _ h => h) (Or.inl ⟨by rfl, ?_⟩) hHeld ?_ ?_
 rotate_left
 ·rintro w' ⟨s0, s1, s2, s3, s4, s5⟩
  go_simp
  with_reducible rfl
 rotate_left
 ·simp only [Act.put, s1_, s2_, s3_, i64_w, i32_w]
  rfl
 refine take_ (i := 2) (N := some 7) (v := ?_) (a' := ?_) #[true, false, true, false, false, false, false] rfl rfl (by kernel_rfl) (fun _ _ _ h => h) (Or.inl ⟨by rfl, ?_⟩) hHeld ?_ ?_
 rotate_left
 ·rintro w' ⟨s0, s1, s2, s3, s4, s5⟩
  go_simp
  with_reducible rfl
 rotate_left
 ·simp only [Act.put, s1_, s2_, s3_, i64_w, i32_w]
  rfl
 refine one_ (i := 1) (N := some 6) #[true, true, true, false, false, false, false] rfl rfl (by kernel_rfl) (by decide) (fun K hK => ?_)
 refine goes_ Tryd.func43 (by kernel_rfl) rfl #[.agg #[.bool a0_0, .string a0_1, .string a0_2]] (by rfl) rfl rfl mp_ ?_
 with_reducible refine (rational_clean.calls k a0_0 a0_1 a0_2 t436 t437 t438 _ A3.out).mono ?_
 rintro e w11 ⟨rfl, hb⟩
 refine ⟨_, rfl, ?_⟩
 have n0_ := A0_.mk (kB_ (g := gb433) (o := .cells #[.bool a0_0, .string a0_1, .string a0_2] 26 (0, 0)) (xK_ BK433.out) hb)
 have n1_ := A0_.mk (kB_ (g := gb434) (o := .cells #[.bool a1_0, .string a1_1, .string a1_2] 26 (0, 0)) (xK_ BK434.out) hb)
 have n2_ := A0_.mk (kB_ (g := gb435) (o := .cells #[.bool false, .string (⟨#[]⟩ : ByteArray), .string (⟨#[]⟩ : ByteArray)] 26 (0, 0)) (xK_ BK435.out) hb)
 have n3_ := A0_.mk (bT_ (xB3_ HB GE433 GE434 GE435) hb)
 clear BK433
 clear BK434
 clear BK435
 clear HB
 have BK433 := n0_
 have BK434 := n1_
 have BK435 := n2_
 have HB := n3_
 clear n0_ n1_ n2_ n3_
 (try clear hb)
 (try clear hb2)
 (try clear hk)
 (try clear hi)
 refine hK.out _ _ ⟨(kc_ BK433.out 0).trans rfl, (kc_ BK433.out 1).trans rfl, (kc_ BK433.out 2).trans rfl, (kc_ BK434.out 0).trans rfl, (kc_ BK434.out 1).trans rfl, (kc_ BK434.out 2).trans rfl⟩ (fun hHeld => ?_)
 clear hK K
 refine norm_ (a' := ?_) ?_ ?_
 rotate_left
 ·show Act.put _ (some 6) _ = _
  simp only [Act.put, s1_, s2_, s3_, i64_w, i32_w]
  rfl
 refine one_ (i := 3) (N := some 8) #[true, true, true, true, false, false, false] rfl rfl (by kernel_rfl) (by decide) (fun K hK => ?_)
 refine goes_ Tryd.func43 (by kernel_rfl) rfl #[.agg #[.bool a1_0, .string a1_1, .string a1_2]] (by rfl) rfl rfl mp_ ?_
 with_reducible refine (rational_clean.calls k a1_0 a1_1 a1_2 t439 t440 t441 _ A4.out).mono ?_
 rintro e w12 ⟨rfl, hb⟩
 refine ⟨_, rfl, ?_⟩
 have n0_ := A0_.mk (kB_ (g := gb433) (o := .cells #[.bool a0_0, .string a0_1, .string a0_2] 26 (0, 0)) (xK_ BK433.out) hb)
 have n1_ := A0_.mk (kB_ (g := gb434) (o := .cells #[.bool a1_0, .string a1_1, .string a1_2] 26 (0, 0)) (xK_ BK434.out) hb)
 have n2_ := A0_.mk (kB_ (g := gb435) (o := .cells #[.bool false, .string (⟨#[]⟩ : ByteArray), .string (⟨#[]⟩ : ByteArray)] 26 (0, 0)) (xK_ BK435.out) hb)
 have n3_ := A0_.mk (bT_ (xB3_ HB GE433 GE434 GE435) hb)
 clear BK433
 clear BK434
 clear BK435
 clear HB
 have BK433 := n0_
 have BK434 := n1_
 have BK435 := n2_
 have HB := n3_
 clear n0_ n1_ n2_ n3_
 (try clear hb)
 (try clear hb2)
 (try clear hk)
 (try clear hi)
 refine hK.out _ _ ⟨(kc_ BK433.out 0).trans rfl, (kc_ BK433.out 1).trans rfl, (kc_ BK433.out 2).trans rfl, (kc_ BK434.out 0).trans rfl, (kc_ BK434.out 1).trans rfl, (kc_ BK434.out 2).trans rfl⟩ (fun hHeld => ?_)
 clear hK K
 refine norm_ (a' := ?_) ?_ ?_
 rotate_left
 ·show Act.put _ (some 8) _ = _
  simp only [Act.put, s1_, s2_, s3_, i64_w, i32_w]
  rfl
 refine one_ (i := 4) (N := some 9) #[true, true, true, true, true, false, false] rfl rfl (by kernel_rfl) (by decide) (fun K hK => ?_)
 refine goes_ Tryd.func48 (by kernel_rfl) rfl #[.agg #[.bool t439, .string t440, .string t441]] (by rfl) rfl rfl mp_ ?_
 with_reducible refine (rational_negate.calls t439 t440 t441 t442 t443 t444 _ A5.out).mono ?_
 rintro e w13 ⟨rfl, hb⟩
 refine ⟨_, rfl, ?_⟩
 have n0_ := A0_.mk (kB_ (g := gb433) (o := .cells #[.bool a0_0, .string a0_1, .string a0_2] 26 (0, 0)) (xK_ BK433.out) hb)
 have n1_ := A0_.mk (kB_ (g := gb434) (o := .cells #[.bool a1_0, .string a1_1, .string a1_2] 26 (0, 0)) (xK_ BK434.out) hb)
 have n2_ := A0_.mk (kB_ (g := gb435) (o := .cells #[.bool false, .string (⟨#[]⟩ : ByteArray), .string (⟨#[]⟩ : ByteArray)] 26 (0, 0)) (xK_ BK435.out) hb)
 have n3_ := A0_.mk (bT_ (xB3_ HB GE433 GE434 GE435) hb)
 clear BK433
 clear BK434
 clear BK435
 clear HB
 have BK433 := n0_
 have BK434 := n1_
 have BK435 := n2_
 have HB := n3_
 clear n0_ n1_ n2_ n3_
 (try clear hb)
 (try clear hb2)
 (try clear hk)
 (try clear hi)
 refine hK.out _ _ ⟨(kc_ BK433.out 0).trans rfl, (kc_ BK433.out 1).trans rfl, (kc_ BK433.out 2).trans rfl, (kc_ BK434.out 0).trans rfl, (kc_ BK434.out 1).trans rfl, (kc_ BK434.out 2).trans rfl⟩ (fun hHeld => ?_)
 clear hK K
 refine norm_ (a' := ?_) ?_ ?_
 rotate_left
 ·show Act.put _ (some 9) _ = _
  simp only [Act.put, s1_, s2_, s3_, i64_w, i32_w]
  rfl
 refine one_ (i := 5) (N := some 10) #[true, true, true, true, true, true, false] rfl rfl (by kernel_rfl) (by decide) (fun K hK => ?_)
 refine goes_ Tryd.func47 (by kernel_rfl) rfl #[.agg #[.bool t436, .string t437, .string t438], .agg #[.bool t442, .string t443, .string t444]] (by rfl) rfl rfl mp_ ?_
 with_reducible refine (rational_add.calls k t436 t437 t438 t442 t443 t444 t445 t446 t447 _ A6.out).mono ?_
 rintro e w14 ⟨rfl, hb⟩
 refine ⟨_, rfl, ?_⟩
 have n0_ := A0_.mk (kB_ (g := gb433) (o := .cells #[.bool a0_0, .string a0_1, .string a0_2] 26 (0, 0)) (xK_ BK433.out) hb)
 have n1_ := A0_.mk (kB_ (g := gb434) (o := .cells #[.bool a1_0, .string a1_1, .string a1_2] 26 (0, 0)) (xK_ BK434.out) hb)
 have n2_ := A0_.mk (kB_ (g := gb435) (o := .cells #[.bool false, .string (⟨#[]⟩ : ByteArray), .string (⟨#[]⟩ : ByteArray)] 26 (0, 0)) (xK_ BK435.out) hb)
 have n3_ := A0_.mk (bT_ (xB3_ HB GE433 GE434 GE435) hb)
 clear BK433
 clear BK434
 clear BK435
 clear HB
 have BK433 := n0_
 have BK434 := n1_
 have BK435 := n2_
 have HB := n3_
 clear n0_ n1_ n2_ n3_
 (try clear hb)
 (try clear hb2)
 (try clear hk)
 (try clear hi)
 refine hK.out _ _ ⟨(kc_ BK433.out 0).trans rfl, (kc_ BK433.out 1).trans rfl, (kc_ BK433.out 2).trans rfl, (kc_ BK434.out 0).trans rfl, (kc_ BK434.out 1).trans rfl, (kc_ BK434.out 2).trans rfl⟩ (fun hHeld => ?_)
 clear hK K
 refine norm_ (a' := ?_) ?_ ?_
 rotate_left
 ·show Act.put _ (some 10) _ = _
  simp only [Act.put, s1_, s2_, s3_, i64_w, i32_w]
  rfl
 refine one_ (i := 6) (N := none) #[true, true, true, true, true, true, true] rfl rfl (by kernel_rfl) (by decide) (fun K hK => ?_)
 have hs15 : w14.cell? ⟨gb435, 0, none⟩ = some (.bool false) := (kc_ BK435.out 0).trans rfl
 have hfs15 := kF_ BK435.out 0
 have hns15_0 := NB433_435.out
 have hns15_1 := NB434_435.out
 have hms15_0 := NB435_433.out
 have hms15_1 := NB435_434.out
 have hs16 : w14.cell? ⟨gb435, 1, none⟩ = some (.string (⟨#[]⟩ : ByteArray)) := (kc_ BK435.out 1).trans rfl
 have hfs16 := kF_ BK435.out 1
 have hns16_0 := NB433_435.out
 have hns16_1 := NB434_435.out
 have hms16_0 := NB435_433.out
 have hms16_1 := NB435_434.out
 have hs17 : w14.cell? ⟨gb435, 2, none⟩ = some (.string (⟨#[]⟩ : ByteArray)) := (kc_ BK435.out 2).trans rfl
 have hfs17 := kF_ BK435.out 2
 have hns17_0 := NB433_435.out
 have hns17_1 := NB434_435.out
 have hms17_0 := NB435_433.out
 have hms17_1 := NB435_434.out
 refine skip_ (w1 := ?_) (by rfl) rfl ?_ ?_
 rotate_left
 ·go_simp
  rfl
 refine hK.out _ _ ⟨((cell_far (p := ⟨gb435, _, none⟩) NB433_435.out _).trans (((cell_far (p := ⟨gb435, _, none⟩) NB433_435.out _).trans (((cell_far (p := ⟨gb435, _, none⟩) NB433_435.out _).trans (hHeld.1)))))), ((cell_far (p := ⟨gb435, _, none⟩) NB433_435.out _).trans (((cell_far (p := ⟨gb435, _, none⟩) NB433_435.out _).trans (((cell_far (p := ⟨gb435, _, none⟩) NB433_435.out _).trans (hHeld.2.1)))))), ((cell_far (p := ⟨gb435, _, none⟩) NB433_435.out _).trans (((cell_far (p := ⟨gb435, _, none⟩) NB433_435.out _).trans (((cell_far (p := ⟨gb435, _, none⟩) NB433_435.out _).trans (hHeld.2.2.1)))))), ((cell_far (p := ⟨gb435, _, none⟩) NB434_435.out _).trans (((cell_far (p := ⟨gb435, _, none⟩) NB434_435.out _).trans (((cell_far (p := ⟨gb435, _, none⟩) NB434_435.out _).trans (hHeld.2.2.2.1)))))), ((cell_far (p := ⟨gb435, _, none⟩) NB434_435.out _).trans (((cell_far (p := ⟨gb435, _, none⟩) NB434_435.out _).trans (((cell_far (p := ⟨gb435, _, none⟩) NB434_435.out _).trans (hHeld.2.2.2.2.1)))))), ((cell_far (p := ⟨gb435, _, none⟩) NB434_435.out _).trans (((cell_far (p := ⟨gb435, _, none⟩) NB434_435.out _).trans (((cell_far (p := ⟨gb435, _, none⟩) NB434_435.out _).trans (hHeld.2.2.2.2.2))))))⟩ (fun hHeld => ?_)
 clear hK K
 refine done_ (by kernel_rfl) ?_
 try go_wp2
 refine bodyPost_ret (results_cell_row rfl _ _ gb435 26 #[.bool t445, .string t446, .string t447] (0, 0) _ rfl (by (with_reducible repeat (first | refine kN_ ?_ _ | refine kD_ ?_ | refine kA_ ?_ _)); refine kP_ (cs := #[.bool t445, .string t446, .string (⟨#[]⟩ : ByteArray)]) ?_ 2 _ rfl; (with_reducible repeat (first | refine kN_ ?_ _ | refine kD_ ?_ | refine kA_ ?_ _)); refine kP_ (cs := #[.bool t445, .string (⟨#[]⟩ : ByteArray), .string (⟨#[]⟩ : ByteArray)]) ?_ 1 _ rfl; (with_reducible repeat (first | refine kN_ ?_ _ | refine kD_ ?_ | refine kA_ ?_ _)); refine kP_ (cs := #[.bool false, .string (⟨#[]⟩ : ByteArray), .string (⟨#[]⟩ : ByteArray)]) ?_ 0 _ rfl; (with_reducible repeat (first | refine kN_ ?_ _ | refine kD_ ?_ | refine kA_ ?_ _)); exact BK435.out) Tryd.underlying26 rfl (by kernel_rfl)) rfl ?_
 exact ⟨rE_, xB3_ HB GE433 GE434 GE435⟩
def setoff_reduce.l0 : Nat → List (S26) → List Int → Int → Int → Bool → ByteArray → ByteArray → Option ((List (S26)))
 | 0, _, _, _, _, _, _, _ => none
 | k + 1, x0, x9, x10, x11, x449000, x449001, x449002 => if x11 < x10 then (if 0 ≤ x11 then (if x11 < (x9.length : Int) then (if 0 ≤ (rd x9 x11) then (if (rd x9 x11) < (x0.length : Int) then ((rational_Min.f k ((rd_T26 x0 (rd x9 x11)).f0) ((rd_T26 x0 (rd x9 x11)).f1) ((rd_T26 x0 (rd x9 x11)).f2) x449000 x449001 x449002).bind fun bt451 => ((rational_Subtract.f k ((rd_T26 x0 (rd x9 x11)).f0) ((rd_T26 x0 (rd x9 x11)).f1) ((rd_T26 x0 (rd x9 x11)).f2) bt451.1 bt451.2.1 bt451.2.2).bind fun bt456 => ((rational_Subtract.f k x449000 x449001 x449002 bt451.1 bt451.2.1 bt451.2.2).bind fun bt460 => (setoff_reduce.l0 k (x0.set ((rd x9 x11) : Int).toNat (⟨bt456.1, bt456.2.1, bt456.2.2⟩ : S26)) x9 x10 (wrap64 (x11 + 1)) bt460.1 bt460.2.1 bt460.2.2)))) else (none)) else (none)) else (none)) else (none)) else (some x0)
def setoff_reduce.f (k : Nat) (l0 : List (S26)) (l1 : List Int) (a2_0 : Bool) (a2_1 : ByteArray) (a2_2 : ByteArray) : Option ((List (S26))) := setoff_reduce.l0 k l0 l1 (l1.length : Int) 0 a2_0 a2_1 a2_2
theorem setoff_reduce.mono_l : ∀ k, (∀ y0 y1 y2 y3 y4 y5 y6, LeO (setoff_reduce.l0 k y0 y1 y2 y3 y4 y5 y6) (setoff_reduce.l0 (k + 1) y0 y1 y2 y3 y4 y5 y6))
 | 0 => fun _ _ _ _ _ _ _ r h => by simp [setoff_reduce.l0] at h
 | k + 1 => by
  have ih0 := setoff_reduce.mono_l k
  ·intro y0 y1 y2 y3 y4 y5 y6
   unfold setoff_reduce.l0
   repeat' first
   | (with_reducible exact ih0 _ _ _ _ _ _ _)
   | (with_reducible exact rational_Min.mono _ _ _ _ _ _ _)
   | (with_reducible exact rational_Subtract.mono _ _ _ _ _ _ _)
   | (with_reducible exact LeO.refl _)
   | (with_reducible exact LeO.none _)
   | (with_reducible refine LeO.ite ?_ ?_)
   | (with_reducible refine LeO.bind ?_ (fun _ => ?_))
theorem setoff_reduce.mono : ∀ a0 a1 a2 a3 a4 k, LeO (setoff_reduce.f k a0 a1 a2 a3 a4) (setoff_reduce.f (k + 1) a0 a1 a2 a3 a4) := by
 intro a0 a1 a2 a3 a4 k
 have ih0 := setoff_reduce.mono_l k
 unfold setoff_reduce.f
 repeat' first
   | (with_reducible exact ih0 _ _ _ _ _ _ _)
   | (with_reducible exact rational_Min.mono _ _ _ _ _ _ _)
   | (with_reducible exact rational_Subtract.mono _ _ _ _ _ _ _)
   | (with_reducible exact LeO.refl _)
   | (with_reducible exact LeO.none _)
   | (with_reducible refine LeO.ite ?_ ?_)
   | (with_reducible refine LeO.bind ?_ (fun _ => ?_))
def setoff_reduce.T4 : Bool × List (List Nat × List Nat) := (true, [([], []), ([], []), ([0, 1], [0, 1]), ([2], [2]), ([], []), ([3, 4], [3, 4]), ([], []), ([6, 5, 5, 0, 1, 2, 3, 4, 5, 6], [5, 6])])
def setoff_reduce.B4 : List Nat := [0, 0, 3, 7, 0, 31, 0, 127]
theorem setoff_reduce.tab4 : rtab .any (opsOf Tryd.f41 4) = setoff_reduce.T4 := by kernel_rfl
theorem setoff_reduce.bits4 : waitsOk setoff_reduce.T4.2 setoff_reduce.B4 = true := by kernel_rfl
def setoff_reduce.T5 : Bool × List (List Nat × List Nat) := (true, [([], []), ([], []), ([], []), ([], []), ([2, 3], [2, 3]), ([4], [4]), ([], []), ([5, 6], [5, 6]), ([0, 1, 0, 1, 2, 3, 4, 5, 6, 7], [0, 1]), ([8, 7, 7, 0, 1, 2, 3, 4, 5, 6, 7], [7, 8])])
def setoff_reduce.B5 : List Nat := [0, 0, 0, 0, 12, 28, 0, 124, 255, 511]
theorem setoff_reduce.tab5 : rtab .any (opsOf Tryd.f41 5) = setoff_reduce.T5 := by kernel_rfl
theorem setoff_reduce.bits5 : waitsOk setoff_reduce.T5.2 setoff_reduce.B5 = true := by kernel_rfl
set_option maxHeartbeats 8000000 in
set_option maxRecDepth 100000 in
theorem setoff_reduce.calls (k : Nat) (P0_ : Nat → Prop) (u9000_ : Value) (l0 : List (S26)) (A1 : Option Addr) (c1 : Nat) (l1 : List Int) (a2_0 : Bool) (a2_1 : ByteArray) (a2_2 : ByteArray) (r : List (S26)) (w0 w : World) (hB : Below w0.heap.size w0 w) (ho0 : Kd.R k26 26 w w0.heap.size P0_ u9000_ l0) (hr1 : ∀ W_, Kept w W_ (fun k_ => P0_ k_) → Kd.C (Kd.int .i64) W_ A1 l1.length l1) (hc1 : l1.length ≤ c1) (h : setoff_reduce.f k l0 l1 a2_0 a2_1 a2_2 = some r) :
  Calls Tryd.prog 41 #[u9000_, .slice A1 l1.length c1, .agg #[.bool a2_0, .string a2_1, .string a2_2]] w fun e w' => e = .returned (.tuple #[]) ∧ Kd.R k26 26 w' w0.heap.size (fun k_ => (P0_ k_ ∨ w.heap.size ≤ k_)) u9000_ r ∧ Below w0.heap.size w0 w' ∧ Kept w w' (fun k_ => P0_ k_) := by
 have hu26 := Tryd.underlying26
 have HO0 := A0_.mk (show Kd.R k26 26 w w0.heap.size (fun k_ => (P0_ k_ ∨ w.heap.size ≤ k_)) u9000_ l0 from Kd.R_mono ho0 (fun k_ hk => (.inl hk)))
 have HR1 := A0_.mk hr1
 have HC1 := A0_.mk hc1
 clear hr1 hc1
 have HK := A0_.mk (Kept.refl w (fun k_ => P0_ k_))
 have HW0 := A0_.mk hB.size
 have HB := A0_.mk hB
 clear hB
 have H : (setoff_reduce.l0 k l0 l1 (l1.length : Int) 0 a2_0 a2_1 a2_2) = some r := h
 clear h
 have H' := A0_.mk H
 clear H
 go_enter Tryd.func41, Tryd.ntmps41
 go_wp2_with (first | ((with_reducible refine gD_ (N := 5) rfl ?_); refine bE_ ?hg (N := 5) ?hd (cs := #[.bool a2_0, .string a2_1, .string a2_2]) (t := 26) ?hr ?_; (case hd => rfl); (case hg => rfl); (case hr => first | (go_simp; done) | (go_simp; rfl)); intro gb448 hg w4 hbox hb; have n0_ := A0_.mk (Kd.R_below (Kd.R_elderB (xR_ HO0.out) gb448 (Nat.le_of_eq hg.symm)) hb); have n1_ := A0_.mk (Kept.below (S := (fun k_ => P0_ k_)) (by repeat (first | (with_reducible first | exact HK.out | apply Kept.alloc | apply Kept.drewN | apply Kept.drew) | exact HK.out)) hb); have n2_ := A0_.mk (bT_ (xB_ HB) hb); have n3_ := A0_.mk (hbox); have n4_ := A0_.mk ((by rw [hg]; exact (by first | exact HK.out.1 | exact (show Kept w _ (fun k_ => P0_ k_) from by repeat (first | (with_reducible first | exact HK.out | apply Kept.alloc | apply Kept.drewN | apply Kept.drew) | exact HK.out)).1) : w.heap.size ≤ gb448)); have n5_ := A0_.mk ((by rw [hg]; exact (bZ_ (xB_ HB)) : w0.heap.size ≤ gb448)); clear HO0 HK HB; have HO0 := n0_; have HK := n1_; have HB := n2_; have BK448 := n3_; have GW448 := n4_; have GE448 := n5_; clear n0_ n1_ n2_ n3_ n4_ n5_; clear hb hbox hg))
 go_loopg [11] k (fun kq v11 w' => ∃ (x0_1 : List (S26)) (x11_1 : Int) (x449000_1 : Bool) (x449001_1 : ByteArray) (x449002_1 : ByteArray), v11 = .int .i64 x11_1 ∧ A0_ (setoff_reduce.l0 kq x0_1 l1 (l1.length : Int) x11_1 x449000_1 x449001_1 x449002_1 = some r) ∧ A0_ (kq ≤ k) ∧ A0_ (Kd.R k26 26 w' w0.heap.size (fun k_ => (P0_ k_ ∨ w.heap.size ≤ k_) ∧ k_ ≠ gb448) u9000_ x0_1) ∧ A0_ (w'.heap[gb448]? = some (.cells #[.bool x449000_1, .string x449001_1, .string x449002_1] 26 (0, 0))) ∧ A0_ (Kept w w' (fun k_ => P0_ k_)) ∧ A0_ (Below w0.heap.size w0 w'))
 case atStart => exact ⟨(l0), (0), (a2_0), (a2_1), (a2_2), (by first | rfl | (simp; done) | (simp [*]; done)), H', ⟨Nat.le_refl _⟩, ⟨by (with_reducible repeat (first | apply Kd.R_alloc | apply Kd.R_drewN | apply Kd.R_drew)); exact HO0.out⟩, ⟨by (with_reducible repeat (first | refine kN_ ?_ _ | refine kD_ ?_ | refine kA_ ?_ _)); exact BK448.out⟩, ⟨by repeat (first | (with_reducible first | exact HK.out | apply Kept.alloc | apply Kept.drewN | apply Kept.drew | refine Kept.setCell ?_ (.inr GW448.out) _) | exact HK.out)⟩, ⟨xB1_ HB GE448⟩⟩
 case round =>
  clear H'
  try clear c1
  try clear p2
  try clear c4
  obtain ⟨x0_1, x11_1, x449000_1, x449001_1, x449002_1, rfl, HA, HK1, HO_0, BK448, HK, HB⟩ := hrel
  cases gk with
  | zero => exact absurd HA.out (by simp [setoff_reduce.l0])
  | succ k1 =>
   have H := HA.out
   clear HA
   simp only [setoff_reduce.l0] at H
   by_cases c5 : x11_1 < (l1.length : Int)
   ·rw [if_pos c5] at H
    have c5b0 : decide (x11_1 < (l1.length : Int)) = true := decide_eq_true c5
    clear c5
    by_cases c6 : 0 ≤ x11_1
    ·rw [if_pos c6] at H
     have c6b0 : decide (0 ≤ x11_1) = true := decide_eq_true c6
     clear c6
     by_cases c7 : x11_1 < (l1.length : Int)
     ·rw [if_pos c7] at H
      have c7b0 : decide (x11_1 < (l1.length : Int)) = true := decide_eq_true c7
      clear c7
      by_cases c8 : 0 ≤ (rd l1 x11_1)
      ·rw [if_pos c8] at H
       have c8b0 : decide (0 ≤ (rd l1 x11_1)) = true := decide_eq_true c8
       clear c8
       by_cases c9 : (rd l1 x11_1) < (x0_1.length : Int)
       ·rw [if_pos c9] at H
        have c9b0 : decide ((rd l1 x11_1) < (x0_1.length : Int)) = true := decide_eq_true c9
        clear c9
        replace H := Option.bind_eq_some_iff.mp H
        obtain ⟨⟨t451, t452, t453⟩, A100, H⟩ := H
        (try dsimp only at H)
        have A10 := A0_.mk A100
        clear A100
        replace H := Option.bind_eq_some_iff.mp H
        obtain ⟨⟨t456, t457, t458⟩, A110, H⟩ := H
        (try dsimp only at H)
        have A11 := A0_.mk A110
        clear A110
        obtain ⟨y459, hy459⟩ : ∃ y_ : List (S26), y_ = (x0_1.set ((rd l1 x11_1) : Int).toNat (⟨t456, t457, t458⟩ : S26)) := ⟨_, rfl⟩
        replace H : ((rational_Subtract.f k1 x449000_1 x449001_1 x449002_1 t451 t452 t453).bind fun bt460 => (setoff_reduce.l0 k1 y459 l1 (l1.length : Int) (wrap64 (x11_1 + 1)) bt460.1 bt460.2.1 bt460.2.2)) = some r := by first | (rw [hy459]; with_reducible exact H) | (have H2_ := (Option.bind_some _ _).symm.trans H; rw [hy459]; with_reducible exact H2_) | (have H2_ := (Option.bind_some _ _).symm.trans H; with_reducible exact H2_) | with_reducible exact H | (rw [hy459]; exact H) | exact H
        have Ny459 := A0_.mk hy459
        clear hy459
        replace H := Option.bind_eq_some_iff.mp H
        obtain ⟨⟨t460, t461, t462⟩, A130, H⟩ := H
        (try dsimp only at H)
        have A13 := A0_.mk A130
        clear A130
        have H' := A0_.mk H
        clear H
        have p449 : 0 ≤ (x11_1 : Int) := of_decide_eq_true aS_
        have q449 : x11_1 < (l1.length : Int) := of_decide_eq_true aS_
        obtain ⟨ad449, e449, hx449_0⟩ := Kd.at_int (Kd.C_kept_now HR1.out HK.out) x11_1 p449 q449
        cases e449
        replace p449 := eq_true p449
        replace q449 := eq_true q449
        try go_wp2
        have n0_ := A0_.mk (Kd.R_drew HO_0.out)
        have n1_ := A0_.mk (kD_ BK448.out)
        have n2_ := A0_.mk (Kept.drew HK.out)
        have n3_ := A0_.mk (b1_ HB.out)
        clear HO_0
        clear BK448
        clear HK
        clear HB
        have HO_0 := n0_
        have BK448 := n1_
        have HK := n2_
        have HB := n3_
        clear n0_ n1_ n2_ n3_
        obtain ⟨Ao15, co15, eo15⟩ := Kd.R_slice HO_0.out
        (first | subst eo15 | (injection eo15 with f1_ f2_ f3_; have f4_ := f1_.symm; have f5_ := f3_.symm; clear f1_ f2_ f3_; subst f4_; subst f5_))
        have p450 : 0 ≤ ((rd l1 x11_1) : Int) := of_decide_eq_true aS_
        have q450 : (rd l1 x11_1) < (x0_1.length : Int) := of_decide_eq_true aS_
        obtain ⟨ad450, e450, hx450_0, hx450_1, hx450_2⟩ := at_T26 (Kd.R_reads' HO_0.out).2.2 (rd l1 x11_1) p450 q450
        cases e450
        replace p450 := eq_true p450
        replace q450 := eq_true q450
        refine start_ (n := 8) (S := fun w' => w'.cell? ⟨gb448, 0, none⟩ = some (.bool x449000_1) ∧ w'.cell? ⟨gb448, 1, none⟩ = some (.string x449001_1) ∧ w'.cell? ⟨gb448, 2, none⟩ = some (.string x449002_1) ∧ w'.cell? (ad450.add (((rd l1 x11_1)).toNat * 3)) = some (.bool ((rd_T26 x0_1 (rd l1 x11_1)).f0)) ∧ w'.cell? ⟨(ad450.add (((rd l1 x11_1)).toNat * 3)).block, (ad450.add (((rd l1 x11_1)).toNat * 3)).off + 1, none⟩ = some (.string ((rd_T26 x0_1 (rd l1 x11_1)).f1)) ∧ w'.cell? ⟨(ad450.add (((rd l1 x11_1)).toNat * 3)).block, (ad450.add (((rd l1 x11_1)).toNat * 3)).off + 2, none⟩ = some (.string ((rd_T26 x0_1 (rd l1 x11_1)).f2))) (ds := []) #[false, false, false, false, false, false, false, false] (by kernel_rfl) rfl rfl ⟨(kc_ BK448.out 0).trans rfl, (kc_ BK448.out 1).trans rfl, (kc_ BK448.out 2).trans rfl, hx450_0, hx450_1, hx450_2⟩ (fun hHeld => ?_); refine with_tabW setoff_reduce.tab4 setoff_reduce.bits4 (fun HT_ HW_ => ?_)
        generalize wr.drew = w14 at HO_0 BK448 HK HB hx450_0 hx450_1 hx450_2 hHeld ⊢
        refine pure_ (i := 0) (N := some 15) (v := ?_) (a' := ?_) #[true, false, false, false, false, false, false, false] rfl rfl (any_of HT_.out (by kernel_rfl)) (fun _ _ _ h => h) (Or.inl ⟨by rfl, ?_⟩) ?_ ?_
        rotate_left
        ·intro w'
         go_simp
         with_reducible rfl
        rotate_left
        ·simp only [Act.put, s1_, s2_, s3_, i64_w, i32_w]
         rfl
        refine pure_ (i := 1) (N := some 16) (v := ?_) (a' := ?_) #[true, true, false, false, false, false, false, false] rfl rfl (any_of HT_.out (by kernel_rfl)) (fun _ _ _ h => h) (Or.inl ⟨by rfl, ?_⟩) ?_ ?_
        rotate_left
        ·intro w'
         go_simp
         with_reducible rfl
        rotate_left
        ·simp only [Act.put, s1_, s2_, s3_, i64_w, i32_w]
         rfl
        refine pure_ (i := 2) (N := some 17) (v := ?_) (a' := ?_) #[true, true, true, false, false, false, false, false] rfl rfl (any_of HT_.out (by kernel_rfl)) (fun _ _ _ h => h) (Or.inl ⟨by rfl, ?_⟩) ?_ ?_
        rotate_left
        ·intro w'
         go_simp
         with_reducible rfl
        rotate_left
        ·simp only [Act.put, s1_, s2_, s3_, i64_w, i32_w]
         rfl
        refine take_ (i := 3) (N := some 18) (v := ?_) (a' := ?_) #[true, true, true, true, false, false, false, false] rfl rfl (take_ofW HT_.out HW_.out (by kernel_rfl)) (fun _ _ _ h => h) (Or.inl ⟨by rfl, ?_⟩) hHeld ?_ ?_
        rotate_left
        ·rintro w' ⟨s0, s1, s2, s3, s4, s5⟩
         go_simp
         with_reducible rfl
        rotate_left
        ·simp only [Act.put, s1_, s2_, s3_, i64_w, i32_w]
         rfl
        refine take_ (i := 4) (N := some 19) (v := ?_) (a' := ?_) #[true, true, true, true, true, false, false, false] rfl rfl (take_ofW HT_.out HW_.out (by kernel_rfl)) (fun _ _ _ h => h) (Or.inl ⟨by rfl, ?_⟩) hHeld ?_ ?_
        rotate_left
        ·rintro w' ⟨s0, s1, s2, s3, s4, s5⟩
         go_simp
         with_reducible rfl
        rotate_left
        ·simp only [Act.put, s1_, s2_, s3_, i64_w, i32_w]
         rfl
        refine join_ (σ := Nat) 1 #[true, true, true, true, true, true, true, false] (fun s_ => [(20, .agg #[.bool t451, .string t452, .string t453]), (8, .pointer (some ⟨s_, 0, none⟩))]) (fun s_ w' => (w'.cell? ⟨gb448, 0, none⟩ = some (.bool x449000_1) ∧ w'.cell? ⟨gb448, 1, none⟩ = some (.string x449001_1) ∧ w'.cell? ⟨gb448, 2, none⟩ = some (.string x449002_1) ∧ w'.cell? (ad450.add (((rd l1 x11_1)).toNat * 3)) = some (.bool ((rd_T26 x0_1 (rd l1 x11_1)).f0)) ∧ w'.cell? ⟨(ad450.add (((rd l1 x11_1)).toNat * 3)).block, (ad450.add (((rd l1 x11_1)).toNat * 3)).off + 1, none⟩ = some (.string ((rd_T26 x0_1 (rd l1 x11_1)).f1)) ∧ w'.cell? ⟨(ad450.add (((rd l1 x11_1)).toNat * 3)).block, (ad450.add (((rd l1 x11_1)).toNat * 3)).off + 2, none⟩ = some (.string ((rd_T26 x0_1 (rd l1 x11_1)).f2))) ∧ (Kd.R k26 26 w' w0.heap.size (fun k_ => (P0_ k_ ∨ w.heap.size ≤ k_) ∧ k_ ≠ gb448 ∧ k_ ≠ s_) (.slice (some ad450) x0_1.length co15) x0_1) ∧ (w'.heap[gb448]? = some (.cells #[.bool x449000_1, .string x449001_1, .string x449002_1] 26 (0, 0))) ∧ (w'.heap[s_]? = some (.cells #[.bool false, .string (⟨#[]⟩ : ByteArray), .string (⟨#[]⟩ : ByteArray)] 26 (0, 0))) ∧ (w.heap.size ≤ s_) ∧ (w0.heap.size ≤ s_) ∧ (gb448 ≠ s_) ∧ (s_ ≠ gb448) ∧ (Kept w w' (fun k_ => P0_ k_)) ∧ (Below w0.heap.size w0 w')) ?_ ?_
        rotate_left
        ·intro hCont
         refine two_ (i := 5) (j := 6) (Ni := some 20) (Nj := some 8) #[true, true, true, true, true, true, false, false] #[true, true, true, true, true, false, true, false] rfl rfl rfl rfl (two_of HT_.out (by kernel_rfl)) (by decide) (by decide) (fun K hK => ?_) (fun K hK => ?_)
         ·skip
          refine goes_ Tryd.func39 (by kernel_rfl) rfl #[.agg #[.bool ((rd_T26 x0_1 (rd l1 x11_1)).f0), .string ((rd_T26 x0_1 (rd l1 x11_1)).f1), .string ((rd_T26 x0_1 (rd l1 x11_1)).f2)], .agg #[.bool x449000_1, .string x449001_1, .string x449002_1]] (by rfl) rfl rfl mp_ ?_
          with_reducible refine (rational_Min.calls k1 ((rd_T26 x0_1 (rd l1 x11_1)).f0) ((rd_T26 x0_1 (rd l1 x11_1)).f1) ((rd_T26 x0_1 (rd l1 x11_1)).f2) x449000_1 x449001_1 x449002_1 t451 t452 t453 _ A10.out).mono ?_
          rintro e w16 ⟨rfl, hb⟩
          have HS3_ := (hb.cell (World.block_lt_of_cell? _ _ (hHeld.2.2.2.1))).trans (hHeld.2.2.2.1)
          have HS4_ := (hb.cell (World.block_lt_of_cell? _ _ (hHeld.2.2.2.2.1))).trans (hHeld.2.2.2.2.1)
          have HS5_ := (hb.cell (World.block_lt_of_cell? _ _ (hHeld.2.2.2.2.2))).trans (hHeld.2.2.2.2.2)
          refine ⟨_, rfl, ?_⟩
          have n0_ := A0_.mk (Kd.R_below (xR_ HO_0.out) hb)
          have n1_ := A0_.mk (kB_ (g := gb448) (o := .cells #[.bool x449000_1, .string x449001_1, .string x449002_1] 26 (0, 0)) (xK_ BK448.out) hb)
          have n2_ := A0_.mk (Kept.below (S := (fun k_ => P0_ k_)) (by repeat (first | (with_reducible first | exact HK.out | apply Kept.alloc | apply Kept.drewN | apply Kept.drew | refine Kept.setCell ?_ (.inr GW448.out) _) | exact HK.out)) hb)
          have n3_ := A0_.mk (bT_ (xB1_ HB GE448) hb)
          clear HO_0
          clear BK448
          clear HK
          clear HB
          have HO_0 := n0_
          have BK448 := n1_
          have HK := n2_
          have HB := n3_
          clear n0_ n1_ n2_ n3_
          (try clear hb)
          (try clear hb2)
          (try clear hk)
          (try clear hi)
          refine hK.out _ _ ⟨(kc_ BK448.out 0).trans rfl, (kc_ BK448.out 1).trans rfl, (kc_ BK448.out 2).trans rfl, HS3_, HS4_, HS5_⟩ (fun hHeld => ?_)
          clear hK K
          refine norm_ (a' := ?_) ?_ ?_
          rotate_left
          ·show Act.put _ (some 20) _ = _
           simp only [Act.put, s1_, s2_, s3_, i64_w, i32_w]
           rfl
          refine one_ (i := 6) (N := some 8) #[true, true, true, true, true, true, true, false] rfl rfl (one_of HT_.out (by kernel_rfl)) (by decide) (fun K hK => ?_)
          refine box_step ?hg (N := 8) ?hd (cs := #[.bool false, .string (⟨#[]⟩ : ByteArray), .string (⟨#[]⟩ : ByteArray)]) (t := 26) ?hr ?_; (case hd => rfl); (case hg => rfl); (case hr => first | (go_simp; done) | (go_simp; rfl))
          intro gb454 hg w17 hbox hb
          have HS3_ := (hb.cell (World.block_lt_of_cell? _ _ (hHeld.2.2.2.1))).trans (hHeld.2.2.2.1)
          have HS4_ := (hb.cell (World.block_lt_of_cell? _ _ (hHeld.2.2.2.2.1))).trans (hHeld.2.2.2.2.1)
          have HS5_ := (hb.cell (World.block_lt_of_cell? _ _ (hHeld.2.2.2.2.2))).trans (hHeld.2.2.2.2.2)
          have n0_ := A0_.mk (Kd.R_below (Kd.R_elderB (xR_ HO_0.out) gb454 (Nat.le_of_eq hg.symm)) hb)
          have n1_ := A0_.mk (kB_ (g := gb448) (o := .cells #[.bool x449000_1, .string x449001_1, .string x449002_1] 26 (0, 0)) (xK_ BK448.out) hb)
          have n2_ := A0_.mk (Kept.below (S := (fun k_ => P0_ k_)) (by repeat (first | (with_reducible first | exact HK.out | apply Kept.alloc | apply Kept.drewN | apply Kept.drew | refine Kept.setCell ?_ (.inr GW448.out) _) | exact HK.out)) hb)
          have n3_ := A0_.mk (bT_ (xB1_ HB GE448) hb)
          have n4_ := A0_.mk (hbox)
          have n5_ := A0_.mk ((by rw [hg]; exact (by first | exact HK.out.1 | exact (show Kept w _ (fun k_ => P0_ k_) from by repeat (first | (with_reducible first | exact HK.out | apply Kept.alloc | apply Kept.drewN | apply Kept.drew | refine Kept.setCell ?_ (.inr GW448.out) _) | exact HK.out)).1) : w.heap.size ≤ gb454))
          have n6_ := A0_.mk ((by rw [hg]; exact (bZ_ (xB1_ HB GE448)) : w0.heap.size ≤ gb454))
          have n7_ := A0_.mk ((by rw [hg]; exact Nat.ne_of_lt (blk_lt (g := gb448) (o := .cells #[.bool x449000_1, .string x449001_1, .string x449002_1] 26 (0, 0)) (xK_ BK448.out)) : gb448 ≠ gb454))
          have n8_ := A0_.mk ((by rw [hg]; exact Nat.ne_of_gt (blk_lt (g := gb448) (o := .cells #[.bool x449000_1, .string x449001_1, .string x449002_1] 26 (0, 0)) (xK_ BK448.out)) : gb454 ≠ gb448))
          clear HO_0
          clear BK448
          clear HK
          clear HB
          have HO_0 := n0_
          have BK448 := n1_
          have HK := n2_
          have HB := n3_
          have BK454 := n4_
          have GW454 := n5_
          have GE454 := n6_
          have NB448_454 := n7_
          have NB454_448 := n8_
          clear n0_ n1_ n2_ n3_ n4_ n5_ n6_ n7_ n8_
          clear hb hbox hg
          refine hK.out _ _ ⟨(kc_ BK448.out 0).trans rfl, (kc_ BK448.out 1).trans rfl, (kc_ BK448.out 2).trans rfl, HS3_, HS4_, HS5_⟩ (fun hHeld => ?_)
          clear hK K
          refine norm_ (a' := ?_) ?_ ?_
          rotate_left
          ·show Act.put _ (some 8) _ = _
           simp only [Act.put, s1_, s2_, s3_, i64_w, i32_w]
           rfl
          exact norm_ (by simp only [putAll, Act.put, s1_, s2_, s3_]) (hCont (gb454) _ ⟨hHeld, (by (with_reducible repeat (first | apply Kd.R_alloc | apply Kd.R_drewN | apply Kd.R_drew)); exact Kd.R_mono HO_0.out (fun _ hk => ⟨hk.1.1, ⟨hk.1.2, hk.2⟩⟩)), (xK_ BK448.out), (xK_ BK454.out), GW454.out, GE454.out, NB448_454.out, NB454_448.out, (by repeat (first | (with_reducible first | exact HK.out | apply Kept.alloc | apply Kept.drewN | apply Kept.drew | refine Kept.setCell ?_ (.inr GW448.out) _ | refine Kept.setCell ?_ (.inr GW454.out) _) | exact HK.out)), (xB2_ HB GE448 GE454)⟩)
         ·skip
          refine box_step ?hg (N := 8) ?hd (cs := #[.bool false, .string (⟨#[]⟩ : ByteArray), .string (⟨#[]⟩ : ByteArray)]) (t := 26) ?hr ?_; (case hd => rfl); (case hg => rfl); (case hr => first | (go_simp; done) | (go_simp; rfl))
          intro gb454 hg w16 hbox hb
          have HS3_ := (hb.cell (World.block_lt_of_cell? _ _ (hHeld.2.2.2.1))).trans (hHeld.2.2.2.1)
          have HS4_ := (hb.cell (World.block_lt_of_cell? _ _ (hHeld.2.2.2.2.1))).trans (hHeld.2.2.2.2.1)
          have HS5_ := (hb.cell (World.block_lt_of_cell? _ _ (hHeld.2.2.2.2.2))).trans (hHeld.2.2.2.2.2)
          have n0_ := A0_.mk (Kd.R_below (Kd.R_elderB (xR_ HO_0.out) gb454 (Nat.le_of_eq hg.symm)) hb)
          have n1_ := A0_.mk (kB_ (g := gb448) (o := .cells #[.bool x449000_1, .string x449001_1, .string x449002_1] 26 (0, 0)) (xK_ BK448.out) hb)
          have n2_ := A0_.mk (Kept.below (S := (fun k_ => P0_ k_)) (by repeat (first | (with_reducible first | exact HK.out | apply Kept.alloc | apply Kept.drewN | apply Kept.drew | refine Kept.setCell ?_ (.inr GW448.out) _) | exact HK.out)) hb)
          have n3_ := A0_.mk (bT_ (xB1_ HB GE448) hb)
          have n4_ := A0_.mk (hbox)
          have n5_ := A0_.mk ((by rw [hg]; exact (by first | exact HK.out.1 | exact (show Kept w _ (fun k_ => P0_ k_) from by repeat (first | (with_reducible first | exact HK.out | apply Kept.alloc | apply Kept.drewN | apply Kept.drew | refine Kept.setCell ?_ (.inr GW448.out) _) | exact HK.out)).1) : w.heap.size ≤ gb454))
          have n6_ := A0_.mk ((by rw [hg]; exact (bZ_ (xB1_ HB GE448)) : w0.heap.size ≤ gb454))
          have n7_ := A0_.mk ((by rw [hg]; exact Nat.ne_of_lt (blk_lt (g := gb448) (o := .cells #[.bool x449000_1, .string x449001_1, .string x449002_1] 26 (0, 0)) (xK_ BK448.out)) : gb448 ≠ gb454))
          have n8_ := A0_.mk ((by rw [hg]; exact Nat.ne_of_gt (blk_lt (g := gb448) (o := .cells #[.bool x449000_1, .string x449001_1, .string x449002_1] 26 (0, 0)) (xK_ BK448.out)) : gb454 ≠ gb448))
          clear HO_0
          clear BK448
          clear HK
          clear HB
          have HO_0 := n0_
          have BK448 := n1_
          have HK := n2_
          have HB := n3_
          have BK454 := n4_
          have GW454 := n5_
          have GE454 := n6_
          have NB448_454 := n7_
          have NB454_448 := n8_
          clear n0_ n1_ n2_ n3_ n4_ n5_ n6_ n7_ n8_
          clear hb hbox hg
          refine hK.out _ _ ⟨(kc_ BK448.out 0).trans rfl, (kc_ BK448.out 1).trans rfl, (kc_ BK448.out 2).trans rfl, HS3_, HS4_, HS5_⟩ (fun hHeld => ?_)
          clear hK K
          refine norm_ (a' := ?_) ?_ ?_
          rotate_left
          ·show Act.put _ (some 8) _ = _
           simp only [Act.put, s1_, s2_, s3_, i64_w, i32_w]
           rfl
          refine one_ (i := 5) (N := some 20) #[true, true, true, true, true, true, true, false] rfl rfl (one_of HT_.out (by kernel_rfl)) (by decide) (fun K hK => ?_)
          refine goes_ Tryd.func39 (by kernel_rfl) rfl #[.agg #[.bool ((rd_T26 x0_1 (rd l1 x11_1)).f0), .string ((rd_T26 x0_1 (rd l1 x11_1)).f1), .string ((rd_T26 x0_1 (rd l1 x11_1)).f2)], .agg #[.bool x449000_1, .string x449001_1, .string x449002_1]] (by rfl) rfl rfl mp_ ?_
          with_reducible refine (rational_Min.calls k1 ((rd_T26 x0_1 (rd l1 x11_1)).f0) ((rd_T26 x0_1 (rd l1 x11_1)).f1) ((rd_T26 x0_1 (rd l1 x11_1)).f2) x449000_1 x449001_1 x449002_1 t451 t452 t453 _ A10.out).mono ?_
          rintro e w17 ⟨rfl, hb⟩
          have HS3_ := (hb.cell (World.block_lt_of_cell? _ _ (hHeld.2.2.2.1))).trans (hHeld.2.2.2.1)
          have HS4_ := (hb.cell (World.block_lt_of_cell? _ _ (hHeld.2.2.2.2.1))).trans (hHeld.2.2.2.2.1)
          have HS5_ := (hb.cell (World.block_lt_of_cell? _ _ (hHeld.2.2.2.2.2))).trans (hHeld.2.2.2.2.2)
          refine ⟨_, rfl, ?_⟩
          have n0_ := A0_.mk (Kd.R_below (xR_ HO_0.out) hb)
          have n1_ := A0_.mk (kB_ (g := gb448) (o := .cells #[.bool x449000_1, .string x449001_1, .string x449002_1] 26 (0, 0)) (xK_ BK448.out) hb)
          have n2_ := A0_.mk (kB_ (g := gb454) (o := .cells #[.bool false, .string (⟨#[]⟩ : ByteArray), .string (⟨#[]⟩ : ByteArray)] 26 (0, 0)) (xK_ BK454.out) hb)
          have n3_ := A0_.mk (Kept.below (S := (fun k_ => P0_ k_)) (by repeat (first | (with_reducible first | exact HK.out | apply Kept.alloc | apply Kept.drewN | apply Kept.drew | refine Kept.setCell ?_ (.inr GW448.out) _ | refine Kept.setCell ?_ (.inr GW454.out) _) | exact HK.out)) hb)
          have n4_ := A0_.mk (bT_ (xB2_ HB GE448 GE454) hb)
          clear HO_0
          clear BK448
          clear BK454
          clear HK
          clear HB
          have HO_0 := n0_
          have BK448 := n1_
          have BK454 := n2_
          have HK := n3_
          have HB := n4_
          clear n0_ n1_ n2_ n3_ n4_
          (try clear hb)
          (try clear hb2)
          (try clear hk)
          (try clear hi)
          refine hK.out _ _ ⟨(kc_ BK448.out 0).trans rfl, (kc_ BK448.out 1).trans rfl, (kc_ BK448.out 2).trans rfl, HS3_, HS4_, HS5_⟩ (fun hHeld => ?_)
          clear hK K
          refine norm_ (a' := ?_) ?_ ?_
          rotate_left
          ·show Act.put _ (some 20) _ = _
           simp only [Act.put, s1_, s2_, s3_, i64_w, i32_w]
           rfl
          exact norm_ (by simp only [putAll, Act.put, s1_, s2_, s3_]) (hCont (gb454) _ ⟨hHeld, (by (with_reducible repeat (first | apply Kd.R_alloc | apply Kd.R_drewN | apply Kd.R_drew)); exact Kd.R_mono HO_0.out (fun _ hk => ⟨hk.1.1, ⟨hk.1.2, hk.2⟩⟩)), (xK_ BK448.out), (xK_ BK454.out), GW454.out, GE454.out, NB448_454.out, NB454_448.out, (by repeat (first | (with_reducible first | exact HK.out | apply Kept.alloc | apply Kept.drewN | apply Kept.drew | refine Kept.setCell ?_ (.inr GW448.out) _ | refine Kept.setCell ?_ (.inr GW454.out) _) | exact HK.out)), (xB2_ HB GE448 GE454)⟩)
        rintro gb454 w18 ⟨hS_, h0_, h1_, h2_, h3_, h4_, h5_, h6_, h7_, h8_⟩
        have n0_ : A0_ (Kd.R k26 26 w18 w0.heap.size (fun k_ => (P0_ k_ ∨ w.heap.size ≤ k_) ∧ k_ ≠ gb448 ∧ k_ ≠ gb454) (.slice (some ad450) x0_1.length co15) x0_1) := ⟨h0_⟩
        have n1_ : A0_ (w18.heap[gb448]? = some (.cells #[.bool x449000_1, .string x449001_1, .string x449002_1] 26 (0, 0))) := ⟨h1_⟩
        have n2_ : A0_ (w18.heap[gb454]? = some (.cells #[.bool false, .string (⟨#[]⟩ : ByteArray), .string (⟨#[]⟩ : ByteArray)] 26 (0, 0))) := ⟨h2_⟩
        have n3_ : A0_ (w.heap.size ≤ gb454) := ⟨h3_⟩
        have n4_ : A0_ (w0.heap.size ≤ gb454) := ⟨h4_⟩
        have n5_ : A0_ (gb448 ≠ gb454) := ⟨h5_⟩
        have n6_ : A0_ (gb454 ≠ gb448) := ⟨h6_⟩
        have n7_ : A0_ (Kept w w18 (fun k_ => P0_ k_)) := ⟨h7_⟩
        have n8_ : A0_ (Below w0.heap.size w0 w18) := ⟨h8_⟩
        clear HO_0
        clear BK448
        clear HK
        clear HB
        clear h0_ h1_ h2_ h3_ h4_ h5_ h6_ h7_ h8_
        have HO_0 := n0_
        have BK448 := n1_
        have BK454 := n2_
        have GW454 := n3_
        have GE454 := n4_
        have NB448_454 := n5_
        have NB454_448 := n6_
        have HK := n7_
        have HB := n8_
        clear n0_ n1_ n2_ n3_ n4_ n5_ n6_ n7_ n8_
        have hHeld : w18.cell? ⟨gb448, 0, none⟩ = some (.bool x449000_1) ∧ w18.cell? ⟨gb448, 1, none⟩ = some (.string x449001_1) ∧ w18.cell? ⟨gb448, 2, none⟩ = some (.string x449002_1) ∧ w18.cell? (ad450.add (((rd l1 x11_1)).toNat * 3)) = some (.bool ((rd_T26 x0_1 (rd l1 x11_1)).f0)) ∧ w18.cell? ⟨(ad450.add (((rd l1 x11_1)).toNat * 3)).block, (ad450.add (((rd l1 x11_1)).toNat * 3)).off + 1, none⟩ = some (.string ((rd_T26 x0_1 (rd l1 x11_1)).f1)) ∧ w18.cell? ⟨(ad450.add (((rd l1 x11_1)).toNat * 3)).block, (ad450.add (((rd l1 x11_1)).toNat * 3)).off + 2, none⟩ = some (.string ((rd_T26 x0_1 (rd l1 x11_1)).f2)) := hS_
        refine norm_ (a' := ?_) ?_ ?_
        rotate_left
        ·simp only [putAll, Act.put, s1_, s2_, s3_]
         rfl
        refine one_ (i := 7) (N := none) #[true, true, true, true, true, true, true, true] rfl rfl (one_of HT_.out (by kernel_rfl)) (by decide) (fun K hK => ?_)
        have hs19 : w18.cell? ⟨gb454, 0, none⟩ = some (.bool false) := (kc_ BK454.out 0).trans rfl
        have hfs19 := kF_ BK454.out 0
        have hns19_0 := NB448_454.out
        have hms19_0 := NB454_448.out
        have hs20 : w18.cell? ⟨gb454, 1, none⟩ = some (.string (⟨#[]⟩ : ByteArray)) := (kc_ BK454.out 1).trans rfl
        have hfs20 := kF_ BK454.out 1
        have hns20_0 := NB448_454.out
        have hms20_0 := NB454_448.out
        have hs21 : w18.cell? ⟨gb454, 2, none⟩ = some (.string (⟨#[]⟩ : ByteArray)) := (kc_ BK454.out 2).trans rfl
        have hfs21 := kF_ BK454.out 2
        have hns21_0 := NB448_454.out
        have hms21_0 := NB454_448.out
        refine skip_ (w1 := ?_) (by rfl) rfl ?_ ?_
        rotate_left
        ·go_simp
         rfl
        refine hK.out _ _ ⟨((cell_far (p := ⟨gb454, _, none⟩) NB448_454.out _).trans (((cell_far (p := ⟨gb454, _, none⟩) NB448_454.out _).trans (((cell_far (p := ⟨gb454, _, none⟩) NB448_454.out _).trans (hHeld.1)))))), ((cell_far (p := ⟨gb454, _, none⟩) NB448_454.out _).trans (((cell_far (p := ⟨gb454, _, none⟩) NB448_454.out _).trans (((cell_far (p := ⟨gb454, _, none⟩) NB448_454.out _).trans (hHeld.2.1)))))), ((cell_far (p := ⟨gb454, _, none⟩) NB448_454.out _).trans (((cell_far (p := ⟨gb454, _, none⟩) NB448_454.out _).trans (((cell_far (p := ⟨gb454, _, none⟩) NB448_454.out _).trans (hHeld.2.2.1)))))), ((cell_far (p := ⟨gb454, _, none⟩) (by first | exact Kd.own_blk (Kd.R_away HO_0.out (fun _ hk => hk.2.2)) | (rw [add_block]; exact Kd.own_blk (Kd.R_away HO_0.out (fun _ hk => hk.2.2))) | (show (Addr.add _ _).block ≠ _; rw [add_block]; exact Kd.own_blk (Kd.R_away HO_0.out (fun _ hk => hk.2.2))) | (dsimp only; exact Kd.own_blk (Kd.R_away HO_0.out (fun _ hk => hk.2.2)))) _).trans (((cell_far (p := ⟨gb454, _, none⟩) (by first | exact Kd.own_blk (Kd.R_away HO_0.out (fun _ hk => hk.2.2)) | (rw [add_block]; exact Kd.own_blk (Kd.R_away HO_0.out (fun _ hk => hk.2.2))) | (show (Addr.add _ _).block ≠ _; rw [add_block]; exact Kd.own_blk (Kd.R_away HO_0.out (fun _ hk => hk.2.2))) | (dsimp only; exact Kd.own_blk (Kd.R_away HO_0.out (fun _ hk => hk.2.2)))) _).trans (((cell_far (p := ⟨gb454, _, none⟩) (by first | exact Kd.own_blk (Kd.R_away HO_0.out (fun _ hk => hk.2.2)) | (rw [add_block]; exact Kd.own_blk (Kd.R_away HO_0.out (fun _ hk => hk.2.2))) | (show (Addr.add _ _).block ≠ _; rw [add_block]; exact Kd.own_blk (Kd.R_away HO_0.out (fun _ hk => hk.2.2))) | (dsimp only; exact Kd.own_blk (Kd.R_away HO_0.out (fun _ hk => hk.2.2)))) _).trans (hHeld.2.2.2.1)))))), ((cell_far (p := ⟨gb454, _, none⟩) (by first | exact Kd.own_blk (Kd.R_away HO_0.out (fun _ hk => hk.2.2)) | (rw [add_block]; exact Kd.own_blk (Kd.R_away HO_0.out (fun _ hk => hk.2.2))) | (show (Addr.add _ _).block ≠ _; rw [add_block]; exact Kd.own_blk (Kd.R_away HO_0.out (fun _ hk => hk.2.2))) | (dsimp only; exact Kd.own_blk (Kd.R_away HO_0.out (fun _ hk => hk.2.2)))) _).trans (((cell_far (p := ⟨gb454, _, none⟩) (by first | exact Kd.own_blk (Kd.R_away HO_0.out (fun _ hk => hk.2.2)) | (rw [add_block]; exact Kd.own_blk (Kd.R_away HO_0.out (fun _ hk => hk.2.2))) | (show (Addr.add _ _).block ≠ _; rw [add_block]; exact Kd.own_blk (Kd.R_away HO_0.out (fun _ hk => hk.2.2))) | (dsimp only; exact Kd.own_blk (Kd.R_away HO_0.out (fun _ hk => hk.2.2)))) _).trans (((cell_far (p := ⟨gb454, _, none⟩) (by first | exact Kd.own_blk (Kd.R_away HO_0.out (fun _ hk => hk.2.2)) | (rw [add_block]; exact Kd.own_blk (Kd.R_away HO_0.out (fun _ hk => hk.2.2))) | (show (Addr.add _ _).block ≠ _; rw [add_block]; exact Kd.own_blk (Kd.R_away HO_0.out (fun _ hk => hk.2.2))) | (dsimp only; exact Kd.own_blk (Kd.R_away HO_0.out (fun _ hk => hk.2.2)))) _).trans (hHeld.2.2.2.2.1)))))), ((cell_far (p := ⟨gb454, _, none⟩) (by first | exact Kd.own_blk (Kd.R_away HO_0.out (fun _ hk => hk.2.2)) | (rw [add_block]; exact Kd.own_blk (Kd.R_away HO_0.out (fun _ hk => hk.2.2))) | (show (Addr.add _ _).block ≠ _; rw [add_block]; exact Kd.own_blk (Kd.R_away HO_0.out (fun _ hk => hk.2.2))) | (dsimp only; exact Kd.own_blk (Kd.R_away HO_0.out (fun _ hk => hk.2.2)))) _).trans (((cell_far (p := ⟨gb454, _, none⟩) (by first | exact Kd.own_blk (Kd.R_away HO_0.out (fun _ hk => hk.2.2)) | (rw [add_block]; exact Kd.own_blk (Kd.R_away HO_0.out (fun _ hk => hk.2.2))) | (show (Addr.add _ _).block ≠ _; rw [add_block]; exact Kd.own_blk (Kd.R_away HO_0.out (fun _ hk => hk.2.2))) | (dsimp only; exact Kd.own_blk (Kd.R_away HO_0.out (fun _ hk => hk.2.2)))) _).trans (((cell_far (p := ⟨gb454, _, none⟩) (by first | exact Kd.own_blk (Kd.R_away HO_0.out (fun _ hk => hk.2.2)) | (rw [add_block]; exact Kd.own_blk (Kd.R_away HO_0.out (fun _ hk => hk.2.2))) | (show (Addr.add _ _).block ≠ _; rw [add_block]; exact Kd.own_blk (Kd.R_away HO_0.out (fun _ hk => hk.2.2))) | (dsimp only; exact Kd.own_blk (Kd.R_away HO_0.out (fun _ hk => hk.2.2)))) _).trans (hHeld.2.2.2.2.2))))))⟩ (fun hHeld => ?_)
        clear hK K
        refine done_ (done_of HT_.out (by kernel_rfl)) ?_
        try go_wp2
        have n0_ : A0_ (Kd.R k26 26 (((w18.setCell ⟨gb454, 0, none⟩ (.bool t451)).setCell ⟨gb454, 1, none⟩ (.string t452)).setCell ⟨gb454, 2, none⟩ (.string t453)) w0.heap.size (fun k_ => (P0_ k_ ∨ w.heap.size ≤ k_) ∧ k_ ≠ gb448 ∧ k_ ≠ gb454) (.slice (some ad450) x0_1.length co15) x0_1) := ⟨by (with_reducible repeat (first | apply Kd.R_alloc | apply Kd.R_drewN | apply Kd.R_drew)); exact Kd.R_mono (Kd.R_far (p := ⟨gb454, 2, none⟩) (Kd.R_far (p := ⟨gb454, 1, none⟩) (Kd.R_far (p := ⟨gb454, 0, none⟩) (Kd.R_mono HO_0.out (fun k_ hk => (⟨hk, hk.2.2⟩ : _ ∧ k_ ≠ gb454))) (fun _ hk => hk.2) (.bool t451)) (fun _ hk => hk.2) (.string t452)) (fun _ hk => hk.2) (.string t453)) (fun _ hk => ⟨hk.1.1, ⟨hk.1.2.1, hk.1.2.2⟩⟩)⟩
        have n1_ : A0_ ((((w18.setCell ⟨gb454, 0, none⟩ (.bool t451)).setCell ⟨gb454, 1, none⟩ (.string t452)).setCell ⟨gb454, 2, none⟩ (.string t453)).heap[gb448]? = some (.cells #[.bool x449000_1, .string x449001_1, .string x449002_1] 26 (0, 0))) := ⟨by (with_reducible repeat (first | refine kN_ ?_ _ | refine kD_ ?_ | refine kA_ ?_ _)); refine blk_far ?_ NB448_454.out _; (with_reducible repeat (first | refine kN_ ?_ _ | refine kD_ ?_ | refine kA_ ?_ _)); refine blk_far ?_ NB448_454.out _; (with_reducible repeat (first | refine kN_ ?_ _ | refine kD_ ?_ | refine kA_ ?_ _)); refine blk_far ?_ NB448_454.out _; (with_reducible repeat (first | refine kN_ ?_ _ | refine kD_ ?_ | refine kA_ ?_ _)); exact BK448.out⟩
        have n2_ : A0_ ((((w18.setCell ⟨gb454, 0, none⟩ (.bool t451)).setCell ⟨gb454, 1, none⟩ (.string t452)).setCell ⟨gb454, 2, none⟩ (.string t453)).heap[gb454]? = some (.cells #[.bool t451, .string t452, .string t453] 26 (0, 0))) := ⟨by (with_reducible repeat (first | refine kN_ ?_ _ | refine kD_ ?_ | refine kA_ ?_ _)); refine kP_ (cs := #[.bool t451, .string t452, .string (⟨#[]⟩ : ByteArray)]) ?_ 2 _ rfl; (with_reducible repeat (first | refine kN_ ?_ _ | refine kD_ ?_ | refine kA_ ?_ _)); refine kP_ (cs := #[.bool t451, .string (⟨#[]⟩ : ByteArray), .string (⟨#[]⟩ : ByteArray)]) ?_ 1 _ rfl; (with_reducible repeat (first | refine kN_ ?_ _ | refine kD_ ?_ | refine kA_ ?_ _)); refine kP_ (cs := #[.bool false, .string (⟨#[]⟩ : ByteArray), .string (⟨#[]⟩ : ByteArray)]) ?_ 0 _ rfl; (with_reducible repeat (first | refine kN_ ?_ _ | refine kD_ ?_ | refine kA_ ?_ _)); exact BK454.out⟩
        have n3_ : A0_ (Kept w (((w18.setCell ⟨gb454, 0, none⟩ (.bool t451)).setCell ⟨gb454, 1, none⟩ (.string t452)).setCell ⟨gb454, 2, none⟩ (.string t453)) (fun k_ => P0_ k_)) := ⟨by repeat (first | (with_reducible first | exact HK.out | apply Kept.alloc | apply Kept.drewN | apply Kept.drew | refine Kept.setCell ?_ (.inr GW448.out) _ | refine Kept.setCell ?_ (.inr GW454.out) _) | exact HK.out)⟩
        have n4_ : A0_ (Below w0.heap.size w0 (((w18.setCell ⟨gb454, 0, none⟩ (.bool t451)).setCell ⟨gb454, 1, none⟩ (.string t452)).setCell ⟨gb454, 2, none⟩ (.string t453))) := ⟨xB2_ HB GE448 GE454⟩
        (try clear HO_0)
        (try clear BK448)
        (try clear BK454)
        (try clear HK)
        (try clear HB)
        generalize (((w18.setCell ⟨gb454, 0, none⟩ (.bool t451)).setCell ⟨gb454, 1, none⟩ (.string t452)).setCell ⟨gb454, 2, none⟩ (.string t453)) = w22 at n0_ n1_ n2_ n3_ n4_ ⊢
        have HO_0 := n0_
        have BK448 := n1_
        have BK454 := n2_
        have HK := n3_
        have HB := n4_
        clear n0_ n1_ n2_ n3_ n4_
        have n0_ := A0_.mk (Kd.R_drew HO_0.out)
        have n1_ := A0_.mk (kD_ BK448.out)
        have n2_ := A0_.mk (kD_ BK454.out)
        have n3_ := A0_.mk (Kept.drew HK.out)
        have n4_ := A0_.mk (b1_ HB.out)
        clear HO_0
        clear BK448
        clear BK454
        clear HK
        clear HB
        have HO_0 := n0_
        have BK448 := n1_
        have BK454 := n2_
        have HK := n3_
        have HB := n4_
        clear n0_ n1_ n2_ n3_ n4_
        have p455 : 0 ≤ ((rd l1 x11_1) : Int) := of_decide_eq_true aS_
        have q455 : (rd l1 x11_1) < (x0_1.length : Int) := of_decide_eq_true aS_
        obtain ⟨ad455, e455, hx455_0, hx455_1, hx455_2⟩ := at_T26 (Kd.R_reads' HO_0.out).2.2 (rd l1 x11_1) p455 q455
        obtain rfl : ad450 = ad455 := (by injection e455)
        replace p455 := eq_true p455
        replace q455 := eq_true q455
        refine start_ (n := 10) (S := fun w' => w'.cell? ⟨gb454, 0, none⟩ = some (.bool t451) ∧ w'.cell? ⟨gb454, 1, none⟩ = some (.string t452) ∧ w'.cell? ⟨gb454, 2, none⟩ = some (.string t453) ∧ w'.cell? (ad450.add (((rd l1 x11_1)).toNat * 3)) = some (.bool ((rd_T26 x0_1 (rd l1 x11_1)).f0)) ∧ w'.cell? ⟨(ad450.add (((rd l1 x11_1)).toNat * 3)).block, (ad450.add (((rd l1 x11_1)).toNat * 3)).off + 1, none⟩ = some (.string ((rd_T26 x0_1 (rd l1 x11_1)).f1)) ∧ w'.cell? ⟨(ad450.add (((rd l1 x11_1)).toNat * 3)).block, (ad450.add (((rd l1 x11_1)).toNat * 3)).off + 2, none⟩ = some (.string ((rd_T26 x0_1 (rd l1 x11_1)).f2))) (ds := [9]) #[false, false, false, false, false, false, false, false, false, false] (by kernel_rfl) rfl rfl ⟨(kc_ BK454.out 0).trans rfl, (kc_ BK454.out 1).trans rfl, (kc_ BK454.out 2).trans rfl, hx455_0, hx455_1, hx455_2⟩ (fun hHeld => ?_); refine with_tabW setoff_reduce.tab5 setoff_reduce.bits5 (fun HT_ HW_ => ?_)
        generalize w22.drew = w23 at HO_0 BK448 BK454 HK HB hx455_0 hx455_1 hx455_2 hHeld ⊢
        refine pure_ (i := 0) (N := some 21) (v := ?_) (a' := ?_) #[true, false, false, false, false, false, false, false, false, false] rfl rfl (any_of HT_.out (by kernel_rfl)) (fun _ _ _ h => h) (Or.inl ⟨by rfl, ?_⟩) ?_ ?_
        rotate_left
        ·intro w'
         go_simp
         with_reducible rfl
        rotate_left
        ·simp only [Act.put, s1_, s2_, s3_, i64_w, i32_w]
         rfl
        refine pure_ (i := 1) (N := some 22) (v := ?_) (a' := ?_) #[true, true, false, false, false, false, false, false, false, false] rfl rfl (any_of HT_.out (by kernel_rfl)) (fun _ _ _ h => h) (Or.inl ⟨by rfl, ?_⟩) ?_ ?_
        rotate_left
        ·intro w'
         go_simp
         with_reducible rfl
        rotate_left
        ·simp only [Act.put, s1_, s2_, s3_, i64_w, i32_w]
         rfl
        refine pure_ (i := 2) (N := some 23) (v := ?_) (a' := ?_) #[true, true, true, false, false, false, false, false, false, false] rfl rfl (any_of HT_.out (by kernel_rfl)) (fun _ _ _ h => h) (Or.inl ⟨by rfl, ?_⟩) ?_ ?_
        rotate_left
        ·intro w'
         go_simp
         with_reducible rfl
        rotate_left
        ·simp only [Act.put, s1_, s2_, s3_, i64_w, i32_w]
         rfl
        refine pure_ (i := 3) (N := some 24) (v := ?_) (a' := ?_) #[true, true, true, true, false, false, false, false, false, false] rfl rfl (any_of HT_.out (by kernel_rfl)) (fun _ _ _ h => h) (Or.inl ⟨by rfl, ?_⟩) ?_ ?_
        rotate_left
        ·intro w'
         go_simp
         with_reducible rfl
        rotate_left
        ·simp only [Act.put, s1_, s2_, s3_, i64_w, i32_w]
         rfl
        refine pure_ (i := 4) (N := some 25) (v := ?_) (a' := ?_) #[true, true, true, true, true, false, false, false, false, false] rfl rfl (any_of HT_.out (by kernel_rfl)) (fun _ _ _ h => h) (Or.inl ⟨by rfl, ?_⟩) ?_ ?_
        rotate_left
        ·intro w'
         go_simp
         with_reducible rfl
        rotate_left
        ·simp only [Act.put, s1_, s2_, s3_, i64_w, i32_w]
         rfl
        refine take_ (i := 5) (N := some 26) (v := ?_) (a' := ?_) #[true, true, true, true, true, true, false, false, false, false] rfl rfl (take_ofW HT_.out HW_.out (by kernel_rfl)) (fun _ _ _ h => h) (Or.inl ⟨by rfl, ?_⟩) hHeld ?_ ?_
        rotate_left
        ·rintro w' ⟨s0, s1, s2, s3, s4, s5⟩
         go_simp
         with_reducible rfl
        rotate_left
        ·simp only [Act.put, s1_, s2_, s3_, i64_w, i32_w]
         rfl
        refine take_ (i := 6) (N := some 27) (v := ?_) (a' := ?_) #[true, true, true, true, true, true, true, false, false, false] rfl rfl (take_ofW HT_.out HW_.out (by kernel_rfl)) (fun _ _ _ h => h) (Or.inl ⟨by rfl, ?_⟩) hHeld ?_ ?_
        rotate_left
        ·rintro w' ⟨s0, s1, s2, s3, s4, s5⟩
         go_simp
         with_reducible rfl
        rotate_left
        ·simp only [Act.put, s1_, s2_, s3_, i64_w, i32_w]
         rfl
        refine one_ (i := 7) (N := some 28) #[true, true, true, true, true, true, true, true, false, false] rfl rfl (one_of HT_.out (by kernel_rfl)) (by decide) (fun K hK => ?_)
        refine goes_ Tryd.func25 (by kernel_rfl) rfl #[.agg #[.bool ((rd_T26 x0_1 (rd l1 x11_1)).f0), .string ((rd_T26 x0_1 (rd l1 x11_1)).f1), .string ((rd_T26 x0_1 (rd l1 x11_1)).f2)], .agg #[.bool t451, .string t452, .string t453]] (by rfl) rfl rfl mp_ ?_
        with_reducible refine (rational_Subtract.calls k1 ((rd_T26 x0_1 (rd l1 x11_1)).f0) ((rd_T26 x0_1 (rd l1 x11_1)).f1) ((rd_T26 x0_1 (rd l1 x11_1)).f2) t451 t452 t453 t456 t457 t458 _ A11.out).mono ?_
        rintro e w24 ⟨rfl, hb⟩
        have HS3_ := (hb.cell (World.block_lt_of_cell? _ _ (hHeld.2.2.2.1))).trans (hHeld.2.2.2.1)
        have HS4_ := (hb.cell (World.block_lt_of_cell? _ _ (hHeld.2.2.2.2.1))).trans (hHeld.2.2.2.2.1)
        have HS5_ := (hb.cell (World.block_lt_of_cell? _ _ (hHeld.2.2.2.2.2))).trans (hHeld.2.2.2.2.2)
        refine ⟨_, rfl, ?_⟩
        have n0_ := A0_.mk (Kd.R_below (xR_ HO_0.out) hb)
        have n1_ := A0_.mk (kB_ (g := gb448) (o := .cells #[.bool x449000_1, .string x449001_1, .string x449002_1] 26 (0, 0)) (xK_ BK448.out) hb)
        have n2_ := A0_.mk (kB_ (g := gb454) (o := .cells #[.bool t451, .string t452, .string t453] 26 (0, 0)) (xK_ BK454.out) hb)
        have n3_ := A0_.mk (Kept.below (S := (fun k_ => P0_ k_)) (by repeat (first | (with_reducible first | exact HK.out | apply Kept.alloc | apply Kept.drewN | apply Kept.drew | refine Kept.setCell ?_ (.inr GW448.out) _ | refine Kept.setCell ?_ (.inr GW454.out) _) | exact HK.out)) hb)
        have n4_ := A0_.mk (bT_ (xB2_ HB GE448 GE454) hb)
        clear HO_0
        clear BK448
        clear BK454
        clear HK
        clear HB
        have HO_0 := n0_
        have BK448 := n1_
        have BK454 := n2_
        have HK := n3_
        have HB := n4_
        clear n0_ n1_ n2_ n3_ n4_
        (try clear hb)
        (try clear hb2)
        (try clear hk)
        (try clear hi)
        have p12 : 0 ≤ ((rd l1 x11_1) : Int) := of_decide_eq_true aS_
        have q12 : ((rd l1 x11_1) : Int) < ((x0_1.length : Int) : Int) := of_decide_eq_true aS_
        obtain ⟨go12, co12, eo12, gb12, gl12, cl12, HG12⟩ := Kd.R_form HO_0.out (by omega)
        (first | cases eo12 | (injection eo12 with ea_ en_ ec_; (first | subst ea_ | (injection ea_ with ea_; subst ea_)); subst ec_; clear en_))
        have GB12 := A0_.mk gb12
        have GG12 := A0_.mk HG12
        clear gb12 gl12 HG12
        have HMgo12 := A0_.mk (show (P0_ go12 ∨ w.heap.size ≤ go12) from (HO_0.out.1 _ rfl).1)
        (first | simp only [add_plain] at hx450_0 | skip)
        (first | simp only [add_plain] at hx450_1 | skip)
        (first | simp only [add_plain] at hx450_2 | skip)
        (first | simp only [add_plain] at hx455_0 | skip)
        (first | simp only [add_plain] at hx455_1 | skip)
        (first | simp only [add_plain] at hx455_2 | skip)
        obtain ⟨ce12, hcl12, hM12, hcc12, hfr12⟩ := Kd.R_elem HO_0.out z26 ((rd l1 x11_1) : Int) p12 q12
        obtain rfl := k26_openM hM12
        have hx12_0 : World.cell? _ ⟨go12, ((rd l1 x11_1) : Int).toNat * 3, none⟩ = some (.bool ((rd_T26 x0_1 (rd l1 x11_1)).f0)) := hcc12 0 _ rfl
        have hx12_1 : World.cell? _ ⟨go12, ((rd l1 x11_1) : Int).toNat * 3 + 1, none⟩ = some (.string ((rd_T26 x0_1 (rd l1 x11_1)).f1)) := hcc12 1 _ rfl
        have hx12_2 : World.cell? _ ⟨go12, ((rd l1 x11_1) : Int).toNat * 3 + 2, none⟩ = some (.string ((rd_T26 x0_1 (rd l1 x11_1)).f2)) := hcc12 2 _ rfl
        have hf12_0 : World.frozen? _ ⟨go12, ((rd l1 x11_1) : Int).toNat * 3, none⟩ = false := hfr12 0
        have hf12_1 : World.frozen? _ ⟨go12, ((rd l1 x11_1) : Int).toNat * 3 + 1, none⟩ = false := hfr12 1
        have hf12_2 : World.frozen? _ ⟨go12, ((rd l1 x11_1) : Int).toNat * 3 + 2, none⟩ = false := hfr12 2
        clear hcl12 hcc12 hfr12 hM12
        replace p12 := eq_true p12
        replace q12 := eq_true q12
        obtain ⟨ce25, hcl25, hM25, hcc25, hfr25⟩ := Kd.R_elem HO_0.out z26 ((rd l1 x11_1) : Int) (of_decide_eq_true aS_) (by have h_ : ((rd l1 x11_1) : Int) < ((x0_1.length : Int) : Int) := of_decide_eq_true aS_; first | exact h_ | (have e_ := (Kd.R_reads' HO_0.out).1; omega) | simpa using h_)
        obtain rfl := k26_openM hM25
        have HP25 := (Kd.R_seg HO_0.out ((rd l1 x11_1) : Int) (of_decide_eq_true aS_) (by have h_ : ((rd l1 x11_1) : Int) < ((x0_1.length : Int) : Int) := of_decide_eq_true aS_; first | exact h_ | (have e_ := (Kd.R_reads' HO_0.out).1; omega) | simpa using h_) (seg := [.bool t456, .string t457, .string t458]) (j := 0) hcl25 hcc25 (show 3 ≤ 3 from by decide) (x' := (⟨t456, t457, t458⟩ : S26)) (k26_mkM _ _ _ (⟨t456, t457, t458⟩ : S26) ) (fun _ hk => hk)).1
        rw [← Ny459.out] at HP25
        have HQ25 := A0_.mk HP25
        clear hcl25 hcc25 hfr25 hM25 HP25
        refine hK.out _ _ ⟨(kc_ BK454.out 0).trans rfl, (kc_ BK454.out 1).trans rfl, (kc_ BK454.out 2).trans rfl, HS3_, HS4_, HS5_⟩ (fun hHeld => ?_)
        clear hK K
        refine norm_ (a' := ?_) ?_ ?_
        rotate_left
        ·show Act.put _ (some 28) _ = _
         simp only [Act.put, s1_, s2_, s3_, i64_w, i32_w]
         rfl
        refine pure_ (i := 8) (N := some 29) (v := ?_) (a' := ?_) #[true, true, true, true, true, true, true, true, true, false] rfl rfl (any_of HT_.out (by kernel_rfl)) (fun _ _ _ h => h) (Or.inl ⟨by rfl, ?_⟩) ?_ ?_
        rotate_left
        ·intro w'
         go_simp
         with_reducible rfl
        rotate_left
        ·simp only [Act.put, s1_, s2_, s3_, i64_w, i32_w]
         rfl
        refine last_ (i := 9) (N := none) #[true, true, true, true, true, true, true, true, true, true] rfl rfl (one_of HT_.out (by kernel_rfl)) (by decide) (fun K hK => ?_)
        refine skip_ (w1 := ?_) (by rfl) rfl ?_ ?_
        rotate_left
        ·go_simp
         rfl
        refine hK.out _ _ ?_
        clear hK K
        refine done_ (done_of HT_.out (by kernel_rfl)) ?_
        have n0_ : A0_ (Kd.R k26 26 (((w24.setCell ⟨go12, ((rd l1 x11_1) : Int).toNat * 3, none⟩ (.bool t456)).setCell ⟨go12, ((rd l1 x11_1) : Int).toNat * 3 + 1, none⟩ (.string t457)).setCell ⟨go12, ((rd l1 x11_1) : Int).toNat * 3 + 2, none⟩ (.string t458)) w0.heap.size (fun k_ => (P0_ k_ ∨ w.heap.size ≤ k_) ∧ k_ ≠ gb448 ∧ k_ ≠ gb454) (.slice (some ⟨go12, 0, none⟩) x0_1.length co15) y459) := ⟨by (with_reducible repeat (first | apply Kd.R_alloc | apply Kd.R_drewN | apply Kd.R_drew)); exact HQ25.out⟩
        have n1_ : A0_ ((((w24.setCell ⟨go12, ((rd l1 x11_1) : Int).toNat * 3, none⟩ (.bool t456)).setCell ⟨go12, ((rd l1 x11_1) : Int).toNat * 3 + 1, none⟩ (.string t457)).setCell ⟨go12, ((rd l1 x11_1) : Int).toNat * 3 + 2, none⟩ (.string t458)).heap[gb448]? = some (.cells #[.bool x449000_1, .string x449001_1, .string x449002_1] 26 (0, 0))) := ⟨by (with_reducible repeat (first | refine kN_ ?_ _ | refine kD_ ?_ | refine kA_ ?_ _)); refine blk_far ?_ (by have h_ := Kd.R_away HO_0.out (fun _ hk => hk.2.1); intro e_; exact h_ (by rw [e_]; rfl)) _; (with_reducible repeat (first | refine kN_ ?_ _ | refine kD_ ?_ | refine kA_ ?_ _)); refine blk_far ?_ (by have h_ := Kd.R_away HO_0.out (fun _ hk => hk.2.1); intro e_; exact h_ (by rw [e_]; rfl)) _; (with_reducible repeat (first | refine kN_ ?_ _ | refine kD_ ?_ | refine kA_ ?_ _)); refine blk_far ?_ (by have h_ := Kd.R_away HO_0.out (fun _ hk => hk.2.1); intro e_; exact h_ (by rw [e_]; rfl)) _; (with_reducible repeat (first | refine kN_ ?_ _ | refine kD_ ?_ | refine kA_ ?_ _)); exact BK448.out⟩
        have n2_ : A0_ ((((w24.setCell ⟨go12, ((rd l1 x11_1) : Int).toNat * 3, none⟩ (.bool t456)).setCell ⟨go12, ((rd l1 x11_1) : Int).toNat * 3 + 1, none⟩ (.string t457)).setCell ⟨go12, ((rd l1 x11_1) : Int).toNat * 3 + 2, none⟩ (.string t458)).heap[gb454]? = some (.cells #[.bool t451, .string t452, .string t453] 26 (0, 0))) := ⟨by (with_reducible repeat (first | refine kN_ ?_ _ | refine kD_ ?_ | refine kA_ ?_ _)); refine blk_far ?_ (by have h_ := Kd.R_away HO_0.out (fun _ hk => hk.2.2); intro e_; exact h_ (by rw [e_]; rfl)) _; (with_reducible repeat (first | refine kN_ ?_ _ | refine kD_ ?_ | refine kA_ ?_ _)); refine blk_far ?_ (by have h_ := Kd.R_away HO_0.out (fun _ hk => hk.2.2); intro e_; exact h_ (by rw [e_]; rfl)) _; (with_reducible repeat (first | refine kN_ ?_ _ | refine kD_ ?_ | refine kA_ ?_ _)); refine blk_far ?_ (by have h_ := Kd.R_away HO_0.out (fun _ hk => hk.2.2); intro e_; exact h_ (by rw [e_]; rfl)) _; (with_reducible repeat (first | refine kN_ ?_ _ | refine kD_ ?_ | refine kA_ ?_ _)); exact BK454.out⟩
        have n3_ : A0_ (Kept w (((w24.setCell ⟨go12, ((rd l1 x11_1) : Int).toNat * 3, none⟩ (.bool t456)).setCell ⟨go12, ((rd l1 x11_1) : Int).toNat * 3 + 1, none⟩ (.string t457)).setCell ⟨go12, ((rd l1 x11_1) : Int).toNat * 3 + 2, none⟩ (.string t458)) (fun k_ => P0_ k_)) := ⟨by repeat (first | (with_reducible first | exact HK.out | apply Kept.alloc | apply Kept.drewN | apply Kept.drew | refine Kept.setCell ?_ HMgo12.out _ | refine Kept.setCell ?_ HMgo12.out _ | refine Kept.setCell ?_ HMgo12.out _ | refine Kept.setCell ?_ (.inr GW448.out) _ | refine Kept.setCell ?_ (.inr GW454.out) _) | exact HK.out)⟩
        have n4_ : A0_ (Below w0.heap.size w0 (((w24.setCell ⟨go12, ((rd l1 x11_1) : Int).toNat * 3, none⟩ (.bool t456)).setCell ⟨go12, ((rd l1 x11_1) : Int).toNat * 3 + 1, none⟩ (.string t457)).setCell ⟨go12, ((rd l1 x11_1) : Int).toNat * 3 + 2, none⟩ (.string t458))) := ⟨xB5_ HB GB12 GB12 GB12 GE448 GE454⟩
        (try clear HO_0)
        (try clear BK448)
        (try clear BK454)
        (try clear HK)
        (try clear HB)
        generalize (((w24.setCell ⟨go12, ((rd l1 x11_1) : Int).toNat * 3, none⟩ (.bool t456)).setCell ⟨go12, ((rd l1 x11_1) : Int).toNat * 3 + 1, none⟩ (.string t457)).setCell ⟨go12, ((rd l1 x11_1) : Int).toNat * 3 + 2, none⟩ (.string t458)) = w26 at n0_ n1_ n2_ n3_ n4_ ⊢
        have HO_0 := n0_
        have BK448 := n1_
        have BK454 := n2_
        have HK := n3_
        have HB := n4_
        clear n0_ n1_ n2_ n3_ n4_
        have hnb27 := NB448_454.out
        have hnc27 := NB454_448.out
        have hcz28_0 : w26.cell? ⟨gb448, 0, none⟩ = some (.bool x449000_1) := (kc_ BK448.out 0).trans rfl
        have hcz28_1 : w26.cell? ⟨gb448, 1, none⟩ = some (.string x449001_1) := (kc_ BK448.out 1).trans rfl
        have hcz28_2 : w26.cell? ⟨gb448, 2, none⟩ = some (.string x449002_1) := (kc_ BK448.out 2).trans rfl
        have hfz28_0 := kF_ BK448.out 0
        have hfz28_1 := kF_ BK448.out 1
        have hfz28_2 := kF_ BK448.out 2
        have hcz29_0 : w26.cell? ⟨gb454, 0, none⟩ = some (.bool t451) := (kc_ BK454.out 0).trans rfl
        have hcz29_1 : w26.cell? ⟨gb454, 1, none⟩ = some (.string t452) := (kc_ BK454.out 1).trans rfl
        have hcz29_2 : w26.cell? ⟨gb454, 2, none⟩ = some (.string t453) := (kc_ BK454.out 2).trans rfl
        have hfz29_0 := kF_ BK454.out 0
        have hfz29_1 := kF_ BK454.out 1
        have hfz29_2 := kF_ BK454.out 2
        try go_wp2_with (first | ((with_reducible refine gC_ (f := 25) rfl ?_); refine goesL_ (some 32) rfl rfl Tryd.func25 (by kernel_rfl) rfl #[.agg #[.bool x449000_1, .string x449001_1, .string x449002_1], .agg #[.bool t451, .string t452, .string t453]] rfl mp_ ?_; (with_reducible refine (rational_Subtract.calls k1 x449000_1 x449001_1 x449002_1 t451 t452 t453 t460 t461 t462 _ A13.out).mono ?_); rintro e w30 ⟨rfl, hb⟩; refine ⟨_, rfl, ?_⟩; have n0_ := A0_.mk (Kd.R_below (xR_ HO_0.out) hb); have n1_ := A0_.mk (kB_ (g := gb448) (o := .cells #[.bool x449000_1, .string x449001_1, .string x449002_1] 26 (0, 0)) (xK_ BK448.out) hb); have n2_ := A0_.mk (kB_ (g := gb454) (o := .cells #[.bool t451, .string t452, .string t453] 26 (0, 0)) (xK_ BK454.out) hb); have n3_ := A0_.mk (Kept.below (S := (fun k_ => P0_ k_)) (by repeat (first | (with_reducible first | exact HK.out | apply Kept.alloc | apply Kept.drewN | apply Kept.drew | refine Kept.setCell ?_ (.inr GW448.out) _ | refine Kept.setCell ?_ (.inr GW454.out) _) | exact HK.out)) hb); have n4_ := A0_.mk (bT_ (xB2_ HB GE448 GE454) hb); clear HO_0 BK448 BK454 HK HB; have HO_0 := n0_; have BK448 := n1_; have BK454 := n2_; have HK := n3_; have HB := n4_; clear n0_ n1_ n2_ n3_ n4_; (try clear hb); (try clear hb2); (try clear hk); (try clear hi); have hcz31_0 : w30.cell? ⟨gb448, 0, none⟩ = some (.bool x449000_1) := (kc_ BK448.out 0).trans rfl; have hcz31_1 : w30.cell? ⟨gb448, 1, none⟩ = some (.string x449001_1) := (kc_ BK448.out 1).trans rfl; have hcz31_2 : w30.cell? ⟨gb448, 2, none⟩ = some (.string x449002_1) := (kc_ BK448.out 2).trans rfl; have hfz31_0 := kF_ BK448.out 0; have hfz31_1 := kF_ BK448.out 1; have hfz31_2 := kF_ BK448.out 2))
        (try simp only [add_plain])
        go_roundg k1
        case measure => have := HK1.out; omega
        case rel => exact ⟨(y459), (wrap64 (x11_1 + 1)), (t460), (t461), (t462), (by first | rfl | (simp; done) | (simp [*]; done)), H', ⟨by have := HK1.out; omega⟩, ⟨by (with_reducible repeat (first | apply Kd.R_alloc | apply Kd.R_drewN | apply Kd.R_drew)); exact Kd.R_mono (Kd.R_far (p := ⟨gb448, 2, none⟩) (Kd.R_far (p := ⟨gb448, 1, none⟩) (Kd.R_far (p := ⟨gb448, 0, none⟩) (Kd.R_mono HO_0.out (fun k_ hk => (⟨hk, hk.2.1⟩ : _ ∧ k_ ≠ gb448))) (fun _ hk => hk.2) (.bool t460)) (fun _ hk => hk.2) (.string t461)) (fun _ hk => hk.2) (.string t462)) (fun _ hk => ⟨hk.1.1, hk.1.2.1⟩)⟩, ⟨by (with_reducible repeat (first | refine kN_ ?_ _ | refine kD_ ?_ | refine kA_ ?_ _)); refine kP_ (cs := #[.bool t460, .string t461, .string x449002_1]) ?_ 2 _ rfl; (with_reducible repeat (first | refine kN_ ?_ _ | refine kD_ ?_ | refine kA_ ?_ _)); refine kP_ (cs := #[.bool t460, .string x449001_1, .string x449002_1]) ?_ 1 _ rfl; (with_reducible repeat (first | refine kN_ ?_ _ | refine kD_ ?_ | refine kA_ ?_ _)); refine kP_ (cs := #[.bool x449000_1, .string x449001_1, .string x449002_1]) ?_ 0 _ rfl; (with_reducible repeat (first | refine kN_ ?_ _ | refine kD_ ?_ | refine kA_ ?_ _)); exact BK448.out⟩, ⟨by repeat (first | (with_reducible first | exact HK.out | apply Kept.alloc | apply Kept.drewN | apply Kept.drew | refine Kept.setCell ?_ (.inr GW448.out) _ | refine Kept.setCell ?_ (.inr GW454.out) _) | exact HK.out)⟩, ⟨xB2_ HB GE448 GE454⟩⟩
       ·rw [if_neg c9] at H
        exact absurd H (by simp)
      ·rw [if_neg c8] at H
       exact absurd H (by simp)
     ·rw [if_neg c7] at H
      exact absurd H (by simp)
    ·rw [if_neg c6] at H
     exact absurd H (by simp)
   ·rw [if_neg c5] at H
    have c5b0 : decide (x11_1 < (l1.length : Int)) = false := decide_eq_false c5
    clear c5
    obtain rfl := Option.some.inj H
    go_wp2
    first | go_end0 | ((try simp only [Exit.inBlock, Exit.then]); refine bodyPost_ret (results_none rfl _ _ _) rfl ?_)
    exact ⟨rE_, by (with_reducible repeat (first | apply Kd.R_alloc | apply Kd.R_drewN | apply Kd.R_drew)); exact Kd.R_mono HO_0.out (fun _ hk => hk.1), xB1_ HB GE448, by repeat (first | (with_reducible first | exact HK.out | apply Kept.alloc | apply Kept.drewN | apply Kept.drew | refine Kept.setCell ?_ (.inr GW448.out) _) | exact HK.out)⟩
def setoff_total.l0 : Nat → List (S26) → List Int → Int → Int → Bool → ByteArray → ByteArray → Option (Bool × ByteArray × ByteArray)
 | 0, _, _, _, _, _, _, _ => none
 | k + 1, x0, x9, x10, x11, x426000, x426001, x426002 => if x11 < x10 then (if 0 ≤ x11 then (if x11 < (x9.length : Int) then (if 0 ≤ (rd x9 x11) then (if (rd x9 x11) < (x0.length : Int) then ((rational_Add.f k x426000 x426001 x426002 ((rd_T26 x0 (rd x9 x11)).f0) ((rd_T26 x0 (rd x9 x11)).f1) ((rd_T26 x0 (rd x9 x11)).f2)).bind fun bt428 => (setoff_total.l0 k x0 x9 x10 (wrap64 (x11 + 1)) bt428.1 bt428.2.1 bt428.2.2)) else (none)) else (none)) else (none)) else (none)) else (some (x426000, x426001, x426002))
def setoff_total.f (k : Nat) (l0 : List (S26)) (l1 : List Int) : Option (Bool × ByteArray × ByteArray) := setoff_total.l0 k l0 l1 (l1.length : Int) 0 false (⟨#[]⟩ : ByteArray) (⟨#[]⟩ : ByteArray)
theorem setoff_total.mono_l : ∀ k, (∀ y0 y1 y2 y3 y4 y5 y6, LeO (setoff_total.l0 k y0 y1 y2 y3 y4 y5 y6) (setoff_total.l0 (k + 1) y0 y1 y2 y3 y4 y5 y6))
 | 0 => fun _ _ _ _ _ _ _ r h => by simp [setoff_total.l0] at h
 | k + 1 => by
  have ih0 := setoff_total.mono_l k
  ·intro y0 y1 y2 y3 y4 y5 y6
   unfold setoff_total.l0
   repeat' first
   | (with_reducible exact ih0 _ _ _ _ _ _ _)
   | (with_reducible exact rational_Add.mono _ _ _ _ _ _ _)
   | (with_reducible exact LeO.refl _)
   | (with_reducible exact LeO.none _)
   | (with_reducible refine LeO.ite ?_ ?_)
   | (with_reducible refine LeO.bind ?_ (fun _ => ?_))
theorem setoff_total.mono : ∀ a0 a1 k, LeO (setoff_total.f k a0 a1) (setoff_total.f (k + 1) a0 a1) := by
 intro a0 a1 k
 have ih0 := setoff_total.mono_l k
 unfold setoff_total.f
 repeat' first
   | (with_reducible exact ih0 _ _ _ _ _ _ _)
   | (with_reducible exact rational_Add.mono _ _ _ _ _ _ _)
   | (with_reducible exact LeO.refl _)
   | (with_reducible exact LeO.none _)
   | (with_reducible refine LeO.ite ?_ ?_)
   | (with_reducible refine LeO.bind ?_ (fun _ => ?_))
set_option maxHeartbeats 8000000 in
set_option maxRecDepth 100000 in
theorem setoff_total.calls (k : Nat) (A0 : Option Addr) (c0 : Nat) (l0 : List (S26)) (A1 : Option Addr) (c1 : Nat) (l1 : List Int) (r1 : Bool) (r2 : ByteArray) (r3 : ByteArray) (w : World) (hr0 : Kd.C k26 w A0 l0.length l0) (hc0 : l0.length ≤ c0) (hr1 : Kd.C (Kd.int .i64) w A1 l1.length l1) (hc1 : l1.length ≤ c1) (h : setoff_total.f k l0 l1 = some (r1, r2, r3)) :
  Calls Tryd.prog 40 #[.slice A0 l0.length c0, .slice A1 l1.length c1] w fun e w' => e = .returned (.agg #[.bool r1, .string r2, .string r3]) ∧ Below w.heap.size w w' := by
 have hu26 := Tryd.underlying26
 have HR0 := A0_.mk hr0
 have HC0 := A0_.mk hc0
 clear hr0 hc0
 have HR1 := A0_.mk hr1
 have HC1 := A0_.mk hc1
 clear hr1 hc1
 have HB := A0_.mk (Below.refl w.heap.size w)
 have H := h
 unfold setoff_total.f at H
 clear h
 have H' := A0_.mk H
 clear H
 go_enter Tryd.func40, Tryd.ntmps40
 go_wp2_with (first | ((with_reducible refine gD_ (N := 4) rfl ?_); refine bE_ ?hg (N := 4) ?hd (cs := #[.bool false, .string (⟨#[]⟩ : ByteArray), .string (⟨#[]⟩ : ByteArray)]) (t := 26) ?hr ?_; (case hd => rfl); (case hg => rfl); (case hr => first | (go_simp; done) | (go_simp; rfl)); intro gb424 hg w3 hbox hb; have n0_ := A0_.mk (bT_ (xB_ HB) hb); have n1_ := A0_.mk (hbox); have n2_ := A0_.mk ((by rw [hg]; exact (bZ_ (xB_ HB)) : w.heap.size ≤ gb424)); have n3_ := A0_.mk ((by rw [hg]; exact (bZ_ (xB_ HB)) : w.heap.size ≤ gb424)); clear HB; have HB := n0_; have BK424 := n1_; have GW424 := n2_; have GE424 := n3_; clear n0_ n1_ n2_ n3_; clear hb hbox hg) | ((with_reducible refine gD_ (N := 5) rfl ?_); refine bE_ ?hg (N := 5) ?hd (cs := #[.bool false, .string (⟨#[]⟩ : ByteArray), .string (⟨#[]⟩ : ByteArray)]) (t := 26) ?hr ?_; (case hd => rfl); (case hg => rfl); (case hr => first | (go_simp; done) | (go_simp; rfl)); intro gb425 hg w4 hbox hb; have n0_ := A0_.mk (kB_ (g := gb424) (o := .cells #[.bool false, .string (⟨#[]⟩ : ByteArray), .string (⟨#[]⟩ : ByteArray)] 26 (0, 0)) (xK_ BK424.out) hb); have n1_ := A0_.mk (bT_ (xB1_ HB GE424) hb); have n2_ := A0_.mk (hbox); have n3_ := A0_.mk ((by rw [hg]; exact (bZ_ (xB1_ HB GE424)) : w.heap.size ≤ gb425)); have n4_ := A0_.mk ((by rw [hg]; exact (bZ_ (xB1_ HB GE424)) : w.heap.size ≤ gb425)); have n5_ := A0_.mk ((by rw [hg]; exact Nat.ne_of_lt (blk_lt (g := gb424) (o := .cells #[.bool false, .string (⟨#[]⟩ : ByteArray), .string (⟨#[]⟩ : ByteArray)] 26 (0, 0)) (xK_ BK424.out)) : gb424 ≠ gb425)); have n6_ := A0_.mk ((by rw [hg]; exact Nat.ne_of_gt (blk_lt (g := gb424) (o := .cells #[.bool false, .string (⟨#[]⟩ : ByteArray), .string (⟨#[]⟩ : ByteArray)] 26 (0, 0)) (xK_ BK424.out)) : gb425 ≠ gb424)); clear BK424 HB; have BK424 := n0_; have HB := n1_; have BK425 := n2_; have GW425 := n3_; have GE425 := n4_; have NB424_425 := n5_; have NB425_424 := n6_; clear n0_ n1_ n2_ n3_ n4_ n5_ n6_; clear hb hbox hg; have hnb5 := NB425_424.out; have hnc5 := NB424_425.out; have hcz6_0 : w4.cell? ⟨gb425, 0, none⟩ = some (.bool false) := (kc_ BK425.out 0).trans rfl; have hcz6_1 : w4.cell? ⟨gb425, 1, none⟩ = some (.string (⟨#[]⟩ : ByteArray)) := (kc_ BK425.out 1).trans rfl; have hcz6_2 : w4.cell? ⟨gb425, 2, none⟩ = some (.string (⟨#[]⟩ : ByteArray)) := (kc_ BK425.out 2).trans rfl; have hfz6_0 := kF_ BK425.out 0; have hfz6_1 := kF_ BK425.out 1; have hfz6_2 := kF_ BK425.out 2))
 go_loopg [11] k (fun kq v11 w' => ∃ (x11_1 : Int) (x426000_1 : Bool) (x426001_1 : ByteArray) (x426002_1 : ByteArray), v11 = .int .i64 x11_1 ∧ A0_ (setoff_total.l0 kq l0 l1 (l1.length : Int) x11_1 x426000_1 x426001_1 x426002_1 = some (r1, r2, r3)) ∧ A0_ (kq ≤ k) ∧ A0_ (w'.heap[gb424]? = some (.cells #[.bool false, .string (⟨#[]⟩ : ByteArray), .string (⟨#[]⟩ : ByteArray)] 26 (0, 0))) ∧ A0_ (w'.heap[gb425]? = some (.cells #[.bool x426000_1, .string x426001_1, .string x426002_1] 26 (0, 0))) ∧ A0_ (Below w.heap.size w w'))
 case atStart => exact ⟨(0), (false), ((⟨#[]⟩ : ByteArray)), ((⟨#[]⟩ : ByteArray)), (by first | rfl | (simp; done) | (simp [*]; done)), H', ⟨Nat.le_refl _⟩, ⟨by (with_reducible repeat (first | refine kN_ ?_ _ | refine kD_ ?_ | refine kA_ ?_ _)); refine blk_far ?_ NB424_425.out _; (with_reducible repeat (first | refine kN_ ?_ _ | refine kD_ ?_ | refine kA_ ?_ _)); refine blk_far ?_ NB424_425.out _; (with_reducible repeat (first | refine kN_ ?_ _ | refine kD_ ?_ | refine kA_ ?_ _)); refine blk_far ?_ NB424_425.out _; (with_reducible repeat (first | refine kN_ ?_ _ | refine kD_ ?_ | refine kA_ ?_ _)); exact BK424.out⟩, ⟨by (with_reducible repeat (first | refine kN_ ?_ _ | refine kD_ ?_ | refine kA_ ?_ _)); refine kP_ (cs := #[.bool false, .string (⟨#[]⟩ : ByteArray), .string (⟨#[]⟩ : ByteArray)]) ?_ 2 _ rfl; (with_reducible repeat (first | refine kN_ ?_ _ | refine kD_ ?_ | refine kA_ ?_ _)); refine kP_ (cs := #[.bool false, .string (⟨#[]⟩ : ByteArray), .string (⟨#[]⟩ : ByteArray)]) ?_ 1 _ rfl; (with_reducible repeat (first | refine kN_ ?_ _ | refine kD_ ?_ | refine kA_ ?_ _)); refine kP_ (cs := #[.bool false, .string (⟨#[]⟩ : ByteArray), .string (⟨#[]⟩ : ByteArray)]) ?_ 0 _ rfl; (with_reducible repeat (first | refine kN_ ?_ _ | refine kD_ ?_ | refine kA_ ?_ _)); exact BK425.out⟩, ⟨xB2_ HB GE424 GE425⟩⟩
 case round =>
  clear H'
  try clear c1
  try clear p2
  try clear c4
  try clear c5
  try clear hcz6_0
  try clear hcz6_1
  try clear hcz6_2
  try clear hfz6_0
  try clear hfz6_1
  try clear hfz6_2
  obtain ⟨x11_1, x426000_1, x426001_1, x426002_1, rfl, HA, HK1, BK424, BK425, HB⟩ := hrel
  cases gk with
  | zero => exact absurd HA.out (by simp [setoff_total.l0])
  | succ k1 =>
   have H := HA.out
   clear HA
   simp only [setoff_total.l0] at H
   by_cases c7 : x11_1 < (l1.length : Int)
   ·rw [if_pos c7] at H
    have c7b0 : decide (x11_1 < (l1.length : Int)) = true := decide_eq_true c7
    clear c7
    by_cases c8 : 0 ≤ x11_1
    ·rw [if_pos c8] at H
     have c8b0 : decide (0 ≤ x11_1) = true := decide_eq_true c8
     clear c8
     by_cases c9 : x11_1 < (l1.length : Int)
     ·rw [if_pos c9] at H
      have c9b0 : decide (x11_1 < (l1.length : Int)) = true := decide_eq_true c9
      clear c9
      by_cases c10 : 0 ≤ (rd l1 x11_1)
      ·rw [if_pos c10] at H
       have c10b0 : decide (0 ≤ (rd l1 x11_1)) = true := decide_eq_true c10
       clear c10
       by_cases c11 : (rd l1 x11_1) < (l0.length : Int)
       ·rw [if_pos c11] at H
        have c11b0 : decide ((rd l1 x11_1) < (l0.length : Int)) = true := decide_eq_true c11
        clear c11
        replace H := Option.bind_eq_some_iff.mp H
        obtain ⟨⟨t428, t429, t430⟩, A120, H⟩ := H
        (try dsimp only at H)
        have A12 := A0_.mk A120
        clear A120
        have H' := A0_.mk H
        clear H
        have p426 : 0 ≤ (x11_1 : Int) := of_decide_eq_true aS_
        have q426 : x11_1 < (l1.length : Int) := of_decide_eq_true aS_
        obtain ⟨ad426, e426, hx426_0⟩ := Kd.at_int HR1.out x11_1 p426 q426
        cases e426
        (try replace hx426_0 := (HB.out.cell (World.block_lt_of_cell? w _ hx426_0)).trans hx426_0)
        replace p426 := eq_true p426
        replace q426 := eq_true q426
        try go_wp2
        have n0_ := A0_.mk (kD_ BK424.out)
        have n1_ := A0_.mk (kD_ BK425.out)
        have n2_ := A0_.mk (b1_ HB.out)
        clear BK424
        clear BK425
        clear HB
        have BK424 := n0_
        have BK425 := n1_
        have HB := n2_
        clear n0_ n1_ n2_
        have p427 : 0 ≤ ((rd l1 x11_1) : Int) := of_decide_eq_true aS_
        have q427 : (rd l1 x11_1) < (l0.length : Int) := of_decide_eq_true aS_
        obtain ⟨ad427, e427, hx427_0, hx427_1, hx427_2⟩ := at_T26 HR0.out (rd l1 x11_1) p427 q427
        have hw427_2 := hx427_2
        have hw427_1 := hx427_1
        have hw427_0 := hx427_0
        cases e427
        (try replace hx427_0 := (HB.out.cell (World.block_lt_of_cell? w _ hx427_0)).trans hx427_0)
        (try replace hx427_1 := (HB.out.cell (World.block_lt_of_cell? w _ hx427_1)).trans hx427_1)
        (try replace hx427_2 := (HB.out.cell (World.block_lt_of_cell? w _ hx427_2)).trans hx427_2)
        replace p427 := eq_true p427
        replace q427 := eq_true q427
        refine start_ (n := 7) (S := fun w' => w'.cell? ⟨gb425, 0, none⟩ = some (.bool x426000_1) ∧ w'.cell? ⟨gb425, 1, none⟩ = some (.string x426001_1) ∧ w'.cell? ⟨gb425, 2, none⟩ = some (.string x426002_1) ∧ w'.cell? (ad427.add (((rd l1 x11_1)).toNat * 3)) = some (.bool ((rd_T26 l0 (rd l1 x11_1)).f0)) ∧ w'.cell? ⟨(ad427.add (((rd l1 x11_1)).toNat * 3)).block, (ad427.add (((rd l1 x11_1)).toNat * 3)).off + 1, none⟩ = some (.string ((rd_T26 l0 (rd l1 x11_1)).f1)) ∧ w'.cell? ⟨(ad427.add (((rd l1 x11_1)).toNat * 3)).block, (ad427.add (((rd l1 x11_1)).toNat * 3)).off + 2, none⟩ = some (.string ((rd_T26 l0 (rd l1 x11_1)).f2))) (ds := [6]) #[false, false, false, false, false, false, false] (by kernel_rfl) rfl rfl ⟨(kc_ BK425.out 0).trans rfl, (kc_ BK425.out 1).trans rfl, (kc_ BK425.out 2).trans rfl, ((HB.out.cell (World.block_lt_of_cell? w _ hw427_0)).trans hw427_0), ((HB.out.cell (World.block_lt_of_cell? w _ hw427_1)).trans hw427_1), ((HB.out.cell (World.block_lt_of_cell? w _ hw427_2)).trans hw427_2)⟩ (fun hHeld => ?_)
        generalize wr.drew = w13 at BK424 BK425 HB hx427_0 hx427_1 hx427_2 hHeld ⊢
        refine pure_ (i := 1) (N := some 16) (v := ?_) (a' := ?_) #[false, true, false, false, false, false, false] rfl rfl (by kernel_rfl) (fun _ _ _ h => h) (Or.inl ⟨by rfl, ?_⟩) ?_ ?_
        rotate_left
        ·intro w'
         go_simp
         with_reducible rfl
        rotate_left
        ·simp only [Act.put, s1_, s2_, s3_, i64_w, i32_w]
         rfl
        refine pure_ (i := 2) (N := some 17) (v := ?_) (a' := ?_) #[false, true, true, false, false, false, false] rfl rfl (by kernel_rfl) (fun _ _ _ h => h) (Or.inl ⟨by rfl, ?_⟩) ?_ ?_
        rotate_left
        ·intro w'
         go_simp
         with_reducible rfl
        rotate_left
        ·simp only [Act.put, s1_, s2_, s3_, i64_w, i32_w]
         rfl
        refine pure_ (i := 3) (N := some 18) (v := ?_) (a' := ?_) #[false, true, true, true, false, false, false] rfl rfl (by kernel_rfl) (fun _ _ _ h => h) (Or.inl ⟨by rfl, ?_⟩) ?_ ?_
        rotate_left
        ·intro w'
         go_simp
         with_reducible rfl
        rotate_left
        ·simp only [Act.put, s1_, s2_, s3_, i64_w, i32_w]
         rfl
        refine take_ (i := 0) (N := some 15) (v := ?_) (a' := ?_) #[true, true, true, true, false, false, false] rfl rfl (by kernel_rfl) (fun _ _ _ h => h) (Or.inl ⟨by rfl, ?_⟩) hHeld ?_ ?_
        rotate_left
        ·rintro w' ⟨s0, s1, s2, s3, s4, s5⟩
         go_simp
         with_reducible rfl
        rotate_left
        ·simp only [Act.put, s1_, s2_, s3_, i64_w, i32_w]
         rfl
        refine take_ (i := 4) (N := some 19) (v := ?_) (a' := ?_) #[true, true, true, true, true, false, false] rfl rfl (by kernel_rfl) (fun _ _ _ h => h) (Or.inl ⟨by rfl, ?_⟩) hHeld ?_ ?_
        rotate_left
        ·rintro w' ⟨s0, s1, s2, s3, s4, s5⟩
         go_simp
         with_reducible rfl
        rotate_left
        ·simp only [Act.put, s1_, s2_, s3_, i64_w, i32_w]
         rfl
        refine one_ (i := 5) (N := some 20) #[true, true, true, true, true, true, false] rfl rfl (by kernel_rfl) (by decide) (fun K hK => ?_)
        refine goes_ Tryd.func24 (by kernel_rfl) rfl #[.agg #[.bool x426000_1, .string x426001_1, .string x426002_1], .agg #[.bool ((rd_T26 l0 (rd l1 x11_1)).f0), .string ((rd_T26 l0 (rd l1 x11_1)).f1), .string ((rd_T26 l0 (rd l1 x11_1)).f2)]] (by rfl) rfl rfl mp_ ?_
        with_reducible refine (rational_Add.calls k1 x426000_1 x426001_1 x426002_1 ((rd_T26 l0 (rd l1 x11_1)).f0) ((rd_T26 l0 (rd l1 x11_1)).f1) ((rd_T26 l0 (rd l1 x11_1)).f2) t428 t429 t430 _ A12.out).mono ?_
        rintro e w14 ⟨rfl, hb⟩
        refine ⟨_, rfl, ?_⟩
        have n0_ := A0_.mk (kB_ (g := gb424) (o := .cells #[.bool false, .string (⟨#[]⟩ : ByteArray), .string (⟨#[]⟩ : ByteArray)] 26 (0, 0)) (xK_ BK424.out) hb)
        have n1_ := A0_.mk (kB_ (g := gb425) (o := .cells #[.bool x426000_1, .string x426001_1, .string x426002_1] 26 (0, 0)) (xK_ BK425.out) hb)
        have n2_ := A0_.mk (bT_ (xB2_ HB GE424 GE425) hb)
        clear BK424
        clear BK425
        clear HB
        have BK424 := n0_
        have BK425 := n1_
        have HB := n2_
        clear n0_ n1_ n2_
        (try clear hb)
        (try clear hb2)
        (try clear hk)
        (try clear hi)
        refine hK.out _ _ ⟨(kc_ BK425.out 0).trans rfl, (kc_ BK425.out 1).trans rfl, (kc_ BK425.out 2).trans rfl, ((HB.out.cell (World.block_lt_of_cell? w _ hw427_0)).trans hw427_0), ((HB.out.cell (World.block_lt_of_cell? w _ hw427_1)).trans hw427_1), ((HB.out.cell (World.block_lt_of_cell? w _ hw427_2)).trans hw427_2)⟩ (fun hHeld => ?_)
        clear hK K
        refine norm_ (a' := ?_) ?_ ?_
        rotate_left
        ·show Act.put _ (some 20) _ = _
         simp only [Act.put, s1_, s2_, s3_, i64_w, i32_w]
         rfl
        refine last_ (i := 6) (N := none) #[true, true, true, true, true, true, true] rfl rfl (by kernel_rfl) (by decide) (fun K hK => ?_)
        have hs15 : w14.cell? ⟨gb425, 0, none⟩ = some (.bool x426000_1) := (kc_ BK425.out 0).trans rfl
        have hfs15 := kF_ BK425.out 0
        have hns15_0 := NB424_425.out
        have hms15_0 := NB425_424.out
        have hs16 : w14.cell? ⟨gb425, 1, none⟩ = some (.string x426001_1) := (kc_ BK425.out 1).trans rfl
        have hfs16 := kF_ BK425.out 1
        have hns16_0 := NB424_425.out
        have hms16_0 := NB425_424.out
        have hs17 : w14.cell? ⟨gb425, 2, none⟩ = some (.string x426002_1) := (kc_ BK425.out 2).trans rfl
        have hfs17 := kF_ BK425.out 2
        have hns17_0 := NB424_425.out
        have hms17_0 := NB425_424.out
        refine skip_ (w1 := ?_) (by rfl) rfl ?_ ?_
        rotate_left
        ·go_simp
         rfl
        refine hK.out _ _ ?_
        clear hK K
        refine done_ (by kernel_rfl) ?_
        try go_wp2
        (try simp only [add_plain])
        go_roundg k1
        case measure => have := HK1.out; omega
        case rel => exact ⟨(wrap64 (x11_1 + 1)), (t428), (t429), (t430), (by first | rfl | (simp; done) | (simp [*]; done)), H', ⟨by have := HK1.out; omega⟩, ⟨by (with_reducible repeat (first | refine kN_ ?_ _ | refine kD_ ?_ | refine kA_ ?_ _)); refine blk_far ?_ NB424_425.out _; (with_reducible repeat (first | refine kN_ ?_ _ | refine kD_ ?_ | refine kA_ ?_ _)); refine blk_far ?_ NB424_425.out _; (with_reducible repeat (first | refine kN_ ?_ _ | refine kD_ ?_ | refine kA_ ?_ _)); refine blk_far ?_ NB424_425.out _; (with_reducible repeat (first | refine kN_ ?_ _ | refine kD_ ?_ | refine kA_ ?_ _)); exact BK424.out⟩, ⟨by (with_reducible repeat (first | refine kN_ ?_ _ | refine kD_ ?_ | refine kA_ ?_ _)); refine kP_ (cs := #[.bool t428, .string t429, .string x426002_1]) ?_ 2 _ rfl; (with_reducible repeat (first | refine kN_ ?_ _ | refine kD_ ?_ | refine kA_ ?_ _)); refine kP_ (cs := #[.bool t428, .string x426001_1, .string x426002_1]) ?_ 1 _ rfl; (with_reducible repeat (first | refine kN_ ?_ _ | refine kD_ ?_ | refine kA_ ?_ _)); refine kP_ (cs := #[.bool x426000_1, .string x426001_1, .string x426002_1]) ?_ 0 _ rfl; (with_reducible repeat (first | refine kN_ ?_ _ | refine kD_ ?_ | refine kA_ ?_ _)); exact BK425.out⟩, ⟨xB2_ HB GE424 GE425⟩⟩
       ·rw [if_neg c11] at H
        exact absurd H (by simp)
      ·rw [if_neg c10] at H
       exact absurd H (by simp)
     ·rw [if_neg c9] at H
      exact absurd H (by simp)
    ·rw [if_neg c8] at H
     exact absurd H (by simp)
   ·rw [if_neg c7] at H
    have c7b0 : decide (x11_1 < (l1.length : Int)) = false := decide_eq_false c7
    clear c7
    simp only [Option.some.injEq, Prod.mk.injEq] at H
    obtain ⟨rfl, rfl, rfl⟩ := H
    have hnb18 := NB425_424.out
    have hnc18 := NB424_425.out
    have hcz19_0 : wr.cell? ⟨gb425, 0, none⟩ = some (.bool x426000_1) := (kc_ BK425.out 0).trans rfl
    have hcz19_1 : wr.cell? ⟨gb425, 1, none⟩ = some (.string x426001_1) := (kc_ BK425.out 1).trans rfl
    have hcz19_2 : wr.cell? ⟨gb425, 2, none⟩ = some (.string x426002_1) := (kc_ BK425.out 2).trans rfl
    have hfz19_0 := kF_ BK425.out 0
    have hfz19_1 := kF_ BK425.out 1
    have hfz19_2 := kF_ BK425.out 2
    have hcz20_0 : wr.cell? ⟨gb424, 0, none⟩ = some (.bool false) := (kc_ BK424.out 0).trans rfl
    have hcz20_1 : wr.cell? ⟨gb424, 1, none⟩ = some (.string (⟨#[]⟩ : ByteArray)) := (kc_ BK424.out 1).trans rfl
    have hcz20_2 : wr.cell? ⟨gb424, 2, none⟩ = some (.string (⟨#[]⟩ : ByteArray)) := (kc_ BK424.out 2).trans rfl
    have hfz20_0 := kF_ BK424.out 0
    have hfz20_1 := kF_ BK424.out 1
    have hfz20_2 := kF_ BK424.out 2
    go_wp2
    refine bodyPost_ret (results_cell_row rfl _ _ gb424 26 #[.bool x426000_1, .string x426001_1, .string x426002_1] (0, 0) _ rfl (by (with_reducible repeat (first | refine kN_ ?_ _ | refine kD_ ?_ | refine kA_ ?_ _)); refine kP_ (cs := #[.bool x426000_1, .string x426001_1, .string (⟨#[]⟩ : ByteArray)]) ?_ 2 _ rfl; (with_reducible repeat (first | refine kN_ ?_ _ | refine kD_ ?_ | refine kA_ ?_ _)); refine kP_ (cs := #[.bool x426000_1, .string (⟨#[]⟩ : ByteArray), .string (⟨#[]⟩ : ByteArray)]) ?_ 1 _ rfl; (with_reducible repeat (first | refine kN_ ?_ _ | refine kD_ ?_ | refine kA_ ?_ _)); refine kP_ (cs := #[.bool false, .string (⟨#[]⟩ : ByteArray), .string (⟨#[]⟩ : ByteArray)]) ?_ 0 _ rfl; (with_reducible repeat (first | refine kN_ ?_ _ | refine kD_ ?_ | refine kA_ ?_ _)); exact BK424.out) Tryd.underlying26 rfl (by kernel_rfl)) rfl ?_
    exact ⟨rE_, xB2_ HB GE424 GE425⟩
mutual
def setoff_Apply.l0 : Nat → List (S28) → Int → Int → List (S26) → Int → Int → Option ((List (S26)) × Int)
 | 0, _, _, _, _, _, _ => none
 | k + 1, x1, x2, x3, x11, x27, x28 => if x28 < x27 then (setoff_Apply.l1 k x1 x2 x3 x11 x28 x27 x28 x28 0) else (some (x11, 0))
def setoff_Apply.l1 : Nat → List (S28) → Int → Int → List (S26) → Int → Int → Int → Int → Int → Option ((List (S26)) × Int)
 | 0, _, _, _, _, _, _, _, _, _ => none
 | k + 1, x1, x2, x3, x11, x12, x27, x28, x31, x32 => if x32 < x31 then ((setoff_eligible.f k x1 x2 x3 x12 x32).bind fun t467 => ((setoff_eligible.f k x1 x2 x3 x32 x12).bind fun t470 => ((setoff_total.f k x11 t467).bind fun bt473 => ((setoff_total.f k x11 t470).bind fun bt476 => ((rational_Min.f k bt473.1 bt473.2.1 bt473.2.2 bt476.1 bt476.2.1 bt476.2.2).bind fun bt479 => ((setoff_reduce.f k x11 t467 bt479.1 bt479.2.1 bt479.2.2).bind fun t483 => ((setoff_reduce.f k t483 t470 bt479.1 bt479.2.1 bt479.2.2).bind fun t484 => (setoff_Apply.l1 k x1 x2 x3 t484 x12 x27 x28 x31 (wrap64 (x32 + 1)))))))))) else (setoff_Apply.l0 k x1 x2 x3 x11 x27 (wrap64 (x28 + 1)))
end
def setoff_Apply.f (k : Nat) (a0 : Int) (l1 : List (S28)) (a2 : Int) (a3 : Int) : Option ((List (S26)) × Int) := (setoff_check.f k a0 l1 a2 a3).bind fun t463 => (if t463 = 0 then ((setoff_amounts.f k l1).bind fun t464 => (setoff_Apply.l0 k l1 a2 a3 t464 a0 0)) else (none))
theorem setoff_Apply.mono_l : ∀ k, (∀ y0 y1 y2 y3 y4 y5, LeO (setoff_Apply.l0 k y0 y1 y2 y3 y4 y5) (setoff_Apply.l0 (k + 1) y0 y1 y2 y3 y4 y5)) ∧ (∀ y0 y1 y2 y3 y4 y5 y6 y7 y8, LeO (setoff_Apply.l1 k y0 y1 y2 y3 y4 y5 y6 y7 y8) (setoff_Apply.l1 (k + 1) y0 y1 y2 y3 y4 y5 y6 y7 y8))
 | 0 => ⟨fun _ _ _ _ _ _ r h => by simp [setoff_Apply.l0] at h, fun _ _ _ _ _ _ _ _ _ r h => by simp [setoff_Apply.l1] at h⟩
 | k + 1 => by
  obtain ⟨ih0, ih1⟩ := setoff_Apply.mono_l k
  refine ⟨?_, ?_⟩
  ·intro y0 y1 y2 y3 y4 y5
   unfold setoff_Apply.l0
   repeat' first
   | (with_reducible exact ih0 _ _ _ _ _ _)
   | (with_reducible exact ih1 _ _ _ _ _ _ _ _ _)
   | (with_reducible exact rational_Min.mono _ _ _ _ _ _ _)
   | (with_reducible exact setoff_amounts.mono _ _)
   | (with_reducible exact setoff_check.mono _ _ _ _ _)
   | (with_reducible exact setoff_eligible.mono _ _ _ _ _ _)
   | (with_reducible exact setoff_reduce.mono _ _ _ _ _ _)
   | (with_reducible exact setoff_total.mono _ _ _)
   | (with_reducible exact LeO.refl _)
   | (with_reducible exact LeO.none _)
   | (with_reducible refine LeO.ite ?_ ?_)
   | (with_reducible refine LeO.bind ?_ (fun _ => ?_))
  ·intro y0 y1 y2 y3 y4 y5 y6 y7 y8
   unfold setoff_Apply.l1
   repeat' first
   | (with_reducible exact ih0 _ _ _ _ _ _)
   | (with_reducible exact ih1 _ _ _ _ _ _ _ _ _)
   | (with_reducible exact rational_Min.mono _ _ _ _ _ _ _)
   | (with_reducible exact setoff_amounts.mono _ _)
   | (with_reducible exact setoff_check.mono _ _ _ _ _)
   | (with_reducible exact setoff_eligible.mono _ _ _ _ _ _)
   | (with_reducible exact setoff_reduce.mono _ _ _ _ _ _)
   | (with_reducible exact setoff_total.mono _ _ _)
   | (with_reducible exact LeO.refl _)
   | (with_reducible exact LeO.none _)
   | (with_reducible refine LeO.ite ?_ ?_)
   | (with_reducible refine LeO.bind ?_ (fun _ => ?_))
theorem setoff_Apply.mono : ∀ a0 a1 a2 a3 k, LeO (setoff_Apply.f k a0 a1 a2 a3) (setoff_Apply.f (k + 1) a0 a1 a2 a3) := by
 intro a0 a1 a2 a3 k
 obtain ⟨ih0, ih1⟩ := setoff_Apply.mono_l k
 unfold setoff_Apply.f
 repeat' first
   | (with_reducible exact ih0 _ _ _ _ _ _)
   | (with_reducible exact ih1 _ _ _ _ _ _ _ _ _)
   | (with_reducible exact rational_Min.mono _ _ _ _ _ _ _)
   | (with_reducible exact setoff_amounts.mono _ _)
   | (with_reducible exact setoff_check.mono _ _ _ _ _)
   | (with_reducible exact setoff_eligible.mono _ _ _ _ _ _)
   | (with_reducible exact setoff_reduce.mono _ _ _ _ _ _)
   | (with_reducible exact setoff_total.mono _ _ _)
   | (with_reducible exact LeO.refl _)
   | (with_reducible exact LeO.none _)
   | (with_reducible refine LeO.ite ?_ ?_)
   | (with_reducible refine LeO.bind ?_ (fun _ => ?_))
set_option maxHeartbeats 8000000 in
set_option maxRecDepth 100000 in
theorem setoff_Apply.calls (k : Nat) (a0 : Int) (A1 : Option Addr) (c1 : Nat) (l1 : List (S28)) (a2 : Int) (a3 : Int) (r1 : List (S26)) (r2 : Int) (w : World) (hr1 : Kd.C k28 w A1 l1.length l1) (hc1 : l1.length ≤ c1) (h : setoff_Apply.f k a0 l1 a2 a3 = some (r1, r2)) :
  Calls Tryd.prog 18 #[.int .i64 a0, .slice A1 l1.length c1, .int .i64 a2, .int .i64 a3] w fun e w' => ∃ v0_ : Value, e = .returned (.tuple #[v0_, .int .i64 r2]) ∧ Kd.R k26 26 w' w.heap.size (fun _ => True) v0_ r1 ∧ Below w.heap.size w w' := by
 have hu26 := Tryd.underlying26
 have HR1 := A0_.mk hr1
 have HC1 := A0_.mk hc1
 clear hr1 hc1
 have HB := A0_.mk (Below.refl w.heap.size w)
 have H := h
 unfold setoff_Apply.f at H
 clear h
 replace H := Option.bind_eq_some_iff.mp H
 obtain ⟨t463, A50, H⟩ := H
 (try dsimp only at H)
 have A5 := A0_.mk A50
 clear A50
 by_cases c6 : t463 = 0
 ·rw [if_pos c6] at H
  have c6b0 : (t463 == 0) = true := beq_iff_eq.mpr c6
  have c6b1 : (t463 != 0) = false := bne_eq_false_iff_eq.mpr c6
  clear c6
  replace H := Option.bind_eq_some_iff.mp H
  obtain ⟨t464, A70, H⟩ := H
  (try dsimp only at H)
  have A7 := A0_.mk A70
  clear A70
  have H' := A0_.mk H
  clear H
  go_enter Tryd.func18, Tryd.ntmps18
  go_wp2_with (first | ((with_reducible refine gC_ (f := 36) rfl ?_); refine goesL_ (some 21) rfl rfl Tryd.func36 (by kernel_rfl) rfl #[.int .i64 a0, .slice A1 l1.length c1, .int .i64 a2, .int .i64 a3] rfl mp_ ?_; (with_reducible refine (setoff_check.calls k a0 _ _ l1 a2 a3 t463 _ ?side1 ?side2 A5.out).mono ?_); (case side1 => repeat (first | exact HR1.out | (with_reducible refine Kd.C_alloc ?_ _) | (with_reducible refine Kd.C_drewN ?_ _) | (with_reducible refine Kd.C_drew ?_))); (case side2 => exact HC1.out); rintro e w8 ⟨rfl, hb⟩; refine ⟨_, rfl, ?_⟩; have n0_ := A0_.mk (bT_ (xB_ HB) hb); clear HB; have HB := n0_; clear n0_; (try clear hb); (try clear hb2); (try clear hk); (try clear hi)) | ((with_reducible refine gC_ (f := 37) rfl ?_); refine goesL_ (some 26) rfl rfl Tryd.func37 (by kernel_rfl) rfl #[.slice A1 l1.length c1] rfl mp_ ?_; (with_reducible refine (setoff_amounts.calls k _ _ l1 t464 _ ?side1 ?side2 A7.out).mono ?_); (case side1 => repeat (first | exact (Kd.C_below HR1.out HB.out) | (with_reducible refine Kd.C_alloc ?_ _) | (with_reducible refine Kd.C_drewN ?_ _) | (with_reducible refine Kd.C_drew ?_))); (case side2 => exact HC1.out); rintro e w9 ⟨v465, rfl, ho0, hb⟩; refine ⟨_, rfl, ?_⟩; have n0_ := A0_.mk (Kd.R_lower ho0 (bZ_ (xB_ HB))); have n1_ := A0_.mk (bT_ (xB_ HB) hb); clear HB; have HO466 := n0_; have HB := n1_; clear n0_ n1_; (try clear hb); (try clear hb2); (try clear hk); (try clear hi); (try clear ho0)))
  go_loopg [28] k (fun kq v28 w' => ∃ (x11_1 : List (S26)) (x28_1 : Int), v28 = .int .i64 x28_1 ∧ A0_ (setoff_Apply.l0 kq l1 a2 a3 x11_1 a0 x28_1 = some (r1, r2)) ∧ A0_ (kq ≤ k) ∧ A0_ (Kd.R k26 26 w' w.heap.size (fun _ => True) v465 x11_1) ∧ A0_ (Below w.heap.size w w'))
  case atStart => exact ⟨(t464), (0), (by first | rfl | (simp; done) | (simp [*]; done)), H', ⟨Nat.le_refl _⟩, ⟨by (with_reducible repeat (first | apply Kd.R_alloc | apply Kd.R_drewN | apply Kd.R_drew)); exact HO466.out⟩, ⟨xB_ HB⟩⟩
  case round =>
   clear H'
   try clear c1
   try clear p2
   try clear c3
   try clear c6
   try clear c6b0
   try clear c6b1
   obtain ⟨x11_1, x28_1, rfl, HA, HK1, HO_11, HB⟩ := hrel
   cases gk with
   | zero => exact absurd HA.out (by simp [setoff_Apply.l0])
   | succ k1 =>
    have H := HA.out
    clear HA
    simp only [setoff_Apply.l0] at H
    by_cases c10 : x28_1 < a0
    ·rw [if_pos c10] at H
     have c10b0 : decide (x28_1 < a0) = true := decide_eq_true c10
     clear c10
     have H' := A0_.mk H
     clear H
     go_wp2
     go_loopg [32] k1 (fun kq v32 w' => ∃ (x11_2 : List (S26)) (x32_2 : Int), v32 = .int .i64 x32_2 ∧ A0_ (setoff_Apply.l1 kq l1 a2 a3 x11_2 x28_1 a0 x28_1 x28_1 x32_2 = some (r1, r2)) ∧ A0_ (kq ≤ k1) ∧ A0_ (Kd.R k26 26 w' w.heap.size (fun _ => True) v465 x11_2) ∧ A0_ (Below w.heap.size w w'))
     case atStart => exact ⟨(x11_1), (0), (by first | rfl | (simp; done) | (simp [*]; done)), H', ⟨Nat.le_refl _⟩, ⟨by (with_reducible repeat (first | apply Kd.R_alloc | apply Kd.R_drewN | apply Kd.R_drew)); exact HO_11.out⟩, ⟨xB_ HB⟩⟩
     case round =>
      clear H'
      try clear c1
      try clear p2
      try clear c3
      try clear c6
      try clear c6b0
      try clear c6b1
      try clear c10
      try clear c10b0
      try clear p2
      obtain ⟨x11_2, x32_2, rfl, HA, HK2, HO_11, HB⟩ := hrel
      cases gk with
      | zero => exact absurd HA.out (by simp [setoff_Apply.l1])
      | succ k2 =>
       have H := HA.out
       clear HA
       simp only [setoff_Apply.l1] at H
       by_cases c11 : x32_2 < x28_1
       ·rw [if_pos c11] at H
        have c11b0 : decide (x32_2 < x28_1) = true := decide_eq_true c11
        clear c11
        replace H := Option.bind_eq_some_iff.mp H
        obtain ⟨t467, A120, H⟩ := H
        (try dsimp only at H)
        have A12 := A0_.mk A120
        clear A120
        replace H := Option.bind_eq_some_iff.mp H
        obtain ⟨t470, A130, H⟩ := H
        (try dsimp only at H)
        have A13 := A0_.mk A130
        clear A130
        replace H := Option.bind_eq_some_iff.mp H
        obtain ⟨⟨t473, t474, t475⟩, A140, H⟩ := H
        (try dsimp only at H)
        have A14 := A0_.mk A140
        clear A140
        replace H := Option.bind_eq_some_iff.mp H
        obtain ⟨⟨t476, t477, t478⟩, A150, H⟩ := H
        (try dsimp only at H)
        have A15 := A0_.mk A150
        clear A150
        replace H := Option.bind_eq_some_iff.mp H
        obtain ⟨⟨t479, t480, t481⟩, A160, H⟩ := H
        (try dsimp only at H)
        have A16 := A0_.mk A160
        clear A160
        replace H := Option.bind_eq_some_iff.mp H
        obtain ⟨t483, A170, H⟩ := H
        (try dsimp only at H)
        have A17 := A0_.mk A170
        clear A170
        replace H := Option.bind_eq_some_iff.mp H
        obtain ⟨t484, A180, H⟩ := H
        (try dsimp only at H)
        have A18 := A0_.mk A180
        clear A180
        have H' := A0_.mk H
        clear H
        go_wp2_with (first | ((with_reducible refine gC_ (f := 38) rfl ?_); refine goesL_ (some 40) rfl rfl Tryd.func38 (by kernel_rfl) rfl #[.slice A1 l1.length c1, .int .i64 a2, .int .i64 a3, .int .i64 x28_1, .int .i64 x32_2] rfl mp_ ?_; (with_reducible refine (setoff_eligible.calls k2 _ _ l1 a2 a3 x28_1 x32_2 t467 _ ?side1 ?side2 A12.out).mono ?_); (case side1 => repeat (first | exact (Kd.C_below HR1.out HB.out) | (with_reducible refine Kd.C_alloc ?_ _) | (with_reducible refine Kd.C_drewN ?_ _) | (with_reducible refine Kd.C_drew ?_))); (case side2 => exact HC1.out); rintro e w19 ⟨v468, rfl, ho0, hb⟩; refine ⟨_, rfl, ?_⟩; have n0_ := A0_.mk (Kd.R_below (xR_ HO_11.out) hb); have n1_ := A0_.mk (Kd.R_lower ho0 (bZ_ (xB_ HB))); have n2_ := A0_.mk (bT_ (xB_ HB) hb); clear HO_11 HB; have HO_11 := n0_; have HO469 := n1_; have HB := n2_; clear n0_ n1_ n2_; (try clear hb); (try clear hb2); (try clear hk); (try clear hi); (try clear ho0)) | ((with_reducible refine gC_ (f := 38) rfl ?_); refine goesL_ (some 46) rfl rfl Tryd.func38 (by kernel_rfl) rfl #[.slice A1 l1.length c1, .int .i64 a2, .int .i64 a3, .int .i64 x32_2, .int .i64 x28_1] rfl mp_ ?_; (with_reducible refine (setoff_eligible.calls k2 _ _ l1 a2 a3 x32_2 x28_1 t470 _ ?side1 ?side2 A13.out).mono ?_); (case side1 => repeat (first | exact (Kd.C_below HR1.out HB.out) | (with_reducible refine Kd.C_alloc ?_ _) | (with_reducible refine Kd.C_drewN ?_ _) | (with_reducible refine Kd.C_drew ?_))); (case side2 => exact HC1.out); rintro e w20 ⟨v471, rfl, ho0, hb⟩; refine ⟨_, rfl, ?_⟩; have n0_ := A0_.mk (Kd.R_below (xR_ HO_11.out) hb); have n1_ := A0_.mk (Kd.R_elder' (xR_ HO469.out) (Kd.R_base ho0) hb); have n2_ := A0_.mk (Kd.R_lower (Kd.R_new' ho0 (Kd.R_lt (xR_ HO469.out))) (bZ_ (xB_ HB))); have n3_ := A0_.mk (bT_ (xB_ HB) hb); clear HO_11 HO469 HB; have HO_11 := n0_; have HO469 := n1_; have HO472 := n2_; have HB := n3_; clear n0_ n1_ n2_ n3_; (try clear hb); (try clear hb2); (try clear hk); (try clear hi); (try clear ho0); obtain ⟨Ao21, co21, eo21⟩ := Kd.R_slice HO_11.out; subst eo21; obtain ⟨Ao22, co22, eo22⟩ := Kd.R_slice HO469.out; subst eo22) | ((with_reducible refine gC_ (f := 40) rfl ?_); refine goesL_ (some 49) rfl rfl Tryd.func40 (by kernel_rfl) rfl #[.slice Ao21 x11_2.length co21, .slice Ao22 t467.length co22] rfl mp_ ?_; (with_reducible refine (setoff_total.calls k2 _ _ x11_2 _ _ t467 t473 t474 t475 _ ?side1 ?side2 ?side3 ?side4 A14.out).mono ?_); (case side1 => repeat (first | exact (Kd.R_reads' HO_11.out).2.2 | (with_reducible refine Kd.C_alloc ?_ _) | (with_reducible refine Kd.C_drewN ?_ _) | (with_reducible refine Kd.C_drew ?_))); (case side2 => exact (Kd.R_reads' HO_11.out).2.1); (case side3 => repeat (first | exact (Kd.R_reads' HO469.out).2.2 | (with_reducible refine Kd.C_alloc ?_ _) | (with_reducible refine Kd.C_drewN ?_ _) | (with_reducible refine Kd.C_drew ?_))); (case side4 => exact (Kd.R_reads' HO469.out).2.1); rintro e w23 ⟨rfl, hb⟩; refine ⟨_, rfl, ?_⟩; have n0_ := A0_.mk (Kd.R_below (xR_ HO_11.out) hb); have n1_ := A0_.mk (Kd.R_below (xR_ HO469.out) hb); have n2_ := A0_.mk (Kd.R_below (xR_ HO472.out) hb); have n3_ := A0_.mk (bT_ (xB_ HB) hb); clear HO_11 HO469 HO472 HB; have HO_11 := n0_; have HO469 := n1_; have HO472 := n2_; have HB := n3_; clear n0_ n1_ n2_ n3_; (try clear hb); (try clear hb2); (try clear hk); (try clear hi); obtain ⟨Ao24, co24, eo24⟩ := Kd.R_slice HO472.out; subst eo24) | ((with_reducible refine gC_ (f := 40) rfl ?_); refine goesL_ (some 52) rfl rfl Tryd.func40 (by kernel_rfl) rfl #[.slice Ao21 x11_2.length co21, .slice Ao24 t470.length co24] rfl mp_ ?_; (with_reducible refine (setoff_total.calls k2 _ _ x11_2 _ _ t470 t476 t477 t478 _ ?side1 ?side2 ?side3 ?side4 A15.out).mono ?_); (case side1 => repeat (first | exact (Kd.R_reads' HO_11.out).2.2 | (with_reducible refine Kd.C_alloc ?_ _) | (with_reducible refine Kd.C_drewN ?_ _) | (with_reducible refine Kd.C_drew ?_))); (case side2 => exact (Kd.R_reads' HO_11.out).2.1); (case side3 => repeat (first | exact (Kd.R_reads' HO472.out).2.2 | (with_reducible refine Kd.C_alloc ?_ _) | (with_reducible refine Kd.C_drewN ?_ _) | (with_reducible refine Kd.C_drew ?_))); (case side4 => exact (Kd.R_reads' HO472.out).2.1); rintro e w25 ⟨rfl, hb⟩; refine ⟨_, rfl, ?_⟩; have n0_ := A0_.mk (Kd.R_below (xR_ HO_11.out) hb); have n1_ := A0_.mk (Kd.R_below (xR_ HO469.out) hb); have n2_ := A0_.mk (Kd.R_below (xR_ HO472.out) hb); have n3_ := A0_.mk (bT_ (xB_ HB) hb); clear HO_11 HO469 HO472 HB; have HO_11 := n0_; have HO469 := n1_; have HO472 := n2_; have HB := n3_; clear n0_ n1_ n2_ n3_; (try clear hb); (try clear hb2); (try clear hk); (try clear hi)) | ((with_reducible refine gC_ (f := 39) rfl ?_); refine goesL_ (some 53) rfl rfl Tryd.func39 (by kernel_rfl) rfl #[.agg #[.bool t473, .string t474, .string t475], .agg #[.bool t476, .string t477, .string t478]] rfl mp_ ?_; (with_reducible refine (rational_Min.calls k2 t473 t474 t475 t476 t477 t478 t479 t480 t481 _ A16.out).mono ?_); rintro e w26 ⟨rfl, hb⟩; refine ⟨_, rfl, ?_⟩; have n0_ := A0_.mk (Kd.R_below (xR_ HO_11.out) hb); have n1_ := A0_.mk (Kd.R_below (xR_ HO469.out) hb); have n2_ := A0_.mk (Kd.R_below (xR_ HO472.out) hb); have n3_ := A0_.mk (bT_ (xB_ HB) hb); clear HO_11 HO469 HO472 HB; have HO_11 := n0_; have HO469 := n1_; have HO472 := n2_; have HB := n3_; clear n0_ n1_ n2_ n3_; (try clear hb); (try clear hb2); (try clear hk); (try clear hi)) | ((with_reducible refine gD_ (N := 16) rfl ?_); refine bE_ ?hg (N := 16) ?hd (cs := #[.bool false, .string (⟨#[]⟩ : ByteArray), .string (⟨#[]⟩ : ByteArray)]) (t := 26) ?hr ?_; (case hd => rfl); (case hg => rfl); (case hr => first | (go_simp; done) | (go_simp; rfl)); intro gb482 hg w27 hbox hb; have n0_ := A0_.mk (Kd.R_below (Kd.R_elderB (xR_ HO_11.out) gb482 (Nat.le_of_eq hg.symm)) hb); have n1_ := A0_.mk (Kd.R_below (xR_ HO469.out) hb); have n2_ := A0_.mk (Kd.R_below (xR_ HO472.out) hb); have n3_ := A0_.mk (bT_ (xB_ HB) hb); have n4_ := A0_.mk (hbox); have n5_ := A0_.mk ((by rw [hg]; exact (bZ_ (xB_ HB)) : w.heap.size ≤ gb482)); have n6_ := A0_.mk ((by rw [hg]; exact (bZ_ (xB_ HB)) : w.heap.size ≤ gb482)); clear HO_11 HO469 HO472 HB; have HO_11 := n0_; have HO469 := n1_; have HO472 := n2_; have HB := n3_; have BK482 := n4_; have GW482 := n5_; have GE482 := n6_; clear n0_ n1_ n2_ n3_ n4_ n5_ n6_; clear hb hbox hg; have hcz28_0 : w27.cell? ⟨gb482, 0, none⟩ = some (.bool false) := (kc_ BK482.out 0).trans rfl; have hcz28_1 : w27.cell? ⟨gb482, 1, none⟩ = some (.string (⟨#[]⟩ : ByteArray)) := (kc_ BK482.out 1).trans rfl; have hcz28_2 : w27.cell? ⟨gb482, 2, none⟩ = some (.string (⟨#[]⟩ : ByteArray)) := (kc_ BK482.out 2).trans rfl; have hfz28_0 := kF_ BK482.out 0; have hfz28_1 := kF_ BK482.out 1; have hfz28_2 := kF_ BK482.out 2) | ((with_reducible refine gate_store (t := 26) (p := 16) rfl ?_); refine store_event (t := 26) (p := 16) (v := ?vo_w29) (w1 := (((w27.setCell ⟨gb482, 0, none⟩ (.bool t479)).setCell ⟨gb482, 1, none⟩ (.string t480)).setCell ⟨gb482, 2, none⟩ (.string t481))) ?hg ?ho ?hn ?hr ?_; (case ho => rfl); (case hg => rfl); (case hn => rfl); (case hr => first | (go_simp; done) | (go_simp; rfl)); intro w29 hw; have n0_ : A0_ (Kd.R k26 26 w29 w.heap.size (fun k_ => k_ ≠ gb482) (.slice Ao21 x11_2.length co21) x11_2) := ⟨(by rw [hw]; exact (by (with_reducible repeat (first | apply Kd.R_alloc | apply Kd.R_drewN | apply Kd.R_drew)); exact Kd.R_mono (Kd.R_far (p := ⟨gb482, 2, none⟩) (Kd.R_far (p := ⟨gb482, 1, none⟩) (Kd.R_far (p := ⟨gb482, 0, none⟩) (Kd.R_mono HO_11.out (fun k_ hk => (⟨hk, hk.2⟩ : _ ∧ k_ ≠ gb482))) (fun _ hk => hk.2) (.bool t479)) (fun _ hk => hk.2) (.string t480)) (fun _ hk => hk.2) (.string t481)) (fun _ hk => hk.1.2)))⟩; have n1_ : A0_ (Kd.R (Kd.int .i64) 3 w29 w.heap.size (fun k_ => some k_ ≠ (.slice Ao24 t470.length co24 : Value).ownBlock) (.slice Ao22 t467.length co22) t467) := ⟨(by rw [hw]; exact (by (with_reducible repeat (first | apply Kd.R_alloc | apply Kd.R_drewN | apply Kd.R_drew)); exact Kd.R_mono (Kd.R_far (p := ⟨gb482, 2, none⟩) (Kd.R_far (p := ⟨gb482, 1, none⟩) (Kd.R_far (p := ⟨gb482, 0, none⟩) (Kd.R_types HO469.out BK482.out (by decide)) (fun _ hk => hk.2) (.bool t479)) (fun _ hk => hk.2) (.string t480)) (fun _ hk => hk.2) (.string t481)) (fun _ hk => hk.1.2)))⟩; have n2_ : A0_ (Kd.R (Kd.int .i64) 3 w29 w.heap.size (fun k_ => some k_ ≠ (.slice Ao22 t467.length co22 : Value).ownBlock) (.slice Ao24 t470.length co24) t470) := ⟨(by rw [hw]; exact (by (with_reducible repeat (first | apply Kd.R_alloc | apply Kd.R_drewN | apply Kd.R_drew)); exact Kd.R_mono (Kd.R_far (p := ⟨gb482, 2, none⟩) (Kd.R_far (p := ⟨gb482, 1, none⟩) (Kd.R_far (p := ⟨gb482, 0, none⟩) (Kd.R_types HO472.out BK482.out (by decide)) (fun _ hk => hk.2) (.bool t479)) (fun _ hk => hk.2) (.string t480)) (fun _ hk => hk.2) (.string t481)) (fun _ hk => hk.1.2)))⟩; have n3_ : A0_ (w29.heap[gb482]? = some (.cells #[.bool t479, .string t480, .string t481] 26 (0, 0))) := ⟨(by rw [hw]; exact (by (with_reducible repeat (first | refine kN_ ?_ _ | refine kD_ ?_ | refine kA_ ?_ _)); refine kP_ (cs := #[.bool t479, .string t480, .string (⟨#[]⟩ : ByteArray)]) ?_ 2 _ rfl; (with_reducible repeat (first | refine kN_ ?_ _ | refine kD_ ?_ | refine kA_ ?_ _)); refine kP_ (cs := #[.bool t479, .string (⟨#[]⟩ : ByteArray), .string (⟨#[]⟩ : ByteArray)]) ?_ 1 _ rfl; (with_reducible repeat (first | refine kN_ ?_ _ | refine kD_ ?_ | refine kA_ ?_ _)); refine kP_ (cs := #[.bool false, .string (⟨#[]⟩ : ByteArray), .string (⟨#[]⟩ : ByteArray)]) ?_ 0 _ rfl; (with_reducible repeat (first | refine kN_ ?_ _ | refine kD_ ?_ | refine kA_ ?_ _)); exact BK482.out))⟩; have n4_ : A0_ (Below w.heap.size w w29) := ⟨(by rw [hw]; exact (xB1_ HB GE482))⟩; clear hw HO_11 HO469 HO472 BK482 HB; have HO_11 := n0_; have HO469 := n1_; have HO472 := n2_; have BK482 := n3_; have HB := n4_; clear n0_ n1_ n2_ n3_ n4_; have hcz30_0 : w29.cell? ⟨gb482, 0, none⟩ = some (.bool t479) := (kc_ BK482.out 0).trans rfl; have hcz30_1 : w29.cell? ⟨gb482, 1, none⟩ = some (.string t480) := (kc_ BK482.out 1).trans rfl; have hcz30_2 : w29.cell? ⟨gb482, 2, none⟩ = some (.string t481) := (kc_ BK482.out 2).trans rfl; have hfz30_0 := kF_ BK482.out 0; have hfz30_1 := kF_ BK482.out 1; have hfz30_2 := kF_ BK482.out 2) | ((with_reducible refine gC_ (f := 41) rfl ?_); refine goesL_ (some 57) rfl rfl Tryd.func41 (by kernel_rfl) rfl #[.slice Ao21 x11_2.length co21, .slice Ao22 t467.length co22, .agg #[.bool t479, .string t480, .string t481]] rfl mp_ ?_; (with_reducible refine (setoff_reduce.calls k2 (fun k_ => some k_ = (.slice Ao21 x11_2.length co21 : Value).ownBlock) (.slice Ao21 x11_2.length co21) x11_2 _ _ t467 t479 t480 t481 t483 w _ ?side1 ?side2 ?side3 ?side4 A17.out).mono ?_); (case side1 => repeat (first | (with_reducible first | exact HB.out | apply bA_ | apply pB_ | apply b1_ | refine bS_ ?_ GE482.out) | exact HB.out)); (case side2 => exact Kd.R_tight rfl HO_11.out); (case side3 => exact Kd.C_kept_own ((Kd.R_apart' HO469.out (Kd.R_typed HO_11.out) (by decide))) (fun k_ hk_ hs_ => (hk_.2) hs_)); (case side4 => exact (Kd.R_reads' HO469.out).2.1); rintro e w31 ⟨rfl, hy0, hb, hkp⟩; refine ⟨_, rfl, ?_⟩; have n0_ := A0_.mk (Kd.R_reok rfl hy0 (fun k_ e_ => HO_11.out.1 k_ e_)); have n1_ := A0_.mk (Kd.R_mono (ok' := fun k_ => some k_ ≠ (.slice Ao24 t470.length co24 : Value).ownBlock) (Kd.R_keptB ((Kd.R_apart' HO469.out (Kd.R_typed HO_11.out) (by decide))) hkp (fun k_ hk_ hs_ => (hk_.2) hs_)) (fun k_ hk_ => hk_.1.1)); have n2_ := A0_.mk (Kd.R_mono (ok' := fun k_ => some k_ ≠ (.slice Ao22 t467.length co22 : Value).ownBlock) (Kd.R_keptB ((Kd.R_apart' HO472.out (Kd.R_typed HO_11.out) (by decide))) hkp (fun k_ hk_ hs_ => (hk_.2) hs_)) (fun k_ hk_ => hk_.1.1)); have n3_ := A0_.mk (blk_kept (xK_ BK482.out) hkp (fun hs_ => (fun e_ => (Kd.R_away HO_11.out (fun _ hk => hk)) e_) hs_)); have n4_ := A0_.mk (hb); clear HO_11 HO469 HO472 BK482 HB; have HO_11 := n0_; have HO469 := n1_; have HO472 := n2_; have BK482 := n3_; have HB := n4_; clear n0_ n1_ n2_ n3_ n4_; (try clear hb); (try clear hkp); (try clear hy0); have hcz32_0 : w31.cell? ⟨gb482, 0, none⟩ = some (.bool t479) := (kc_ BK482.out 0).trans rfl; have hcz32_1 : w31.cell? ⟨gb482, 1, none⟩ = some (.string t480) := (kc_ BK482.out 1).trans rfl; have hcz32_2 : w31.cell? ⟨gb482, 2, none⟩ = some (.string t481) := (kc_ BK482.out 2).trans rfl; have hfz32_0 := kF_ BK482.out 0; have hfz32_1 := kF_ BK482.out 1; have hfz32_2 := kF_ BK482.out 2) | ((with_reducible refine gC_ (f := 41) rfl ?_); refine goesL_ (some 61) rfl rfl Tryd.func41 (by kernel_rfl) rfl #[.slice Ao21 x11_2.length co21, .slice Ao24 t470.length co24, .agg #[.bool t479, .string t480, .string t481]] rfl mp_ ?_; (with_reducible refine (setoff_reduce.calls k2 (fun k_ => some k_ = (.slice Ao21 x11_2.length co21 : Value).ownBlock) (.slice Ao21 x11_2.length co21) t483 _ _ t470 t479 t480 t481 t484 w _ ?side1 ?side2 ?side3 ?side4 A18.out).mono ?_); (case side1 => repeat (first | (with_reducible first | exact HB.out | apply bA_ | apply pB_ | apply b1_ | refine bS_ ?_ GE482.out) | exact HB.out)); (case side2 => exact Kd.R_tight rfl HO_11.out); (case side3 => exact Kd.C_kept_own ((Kd.R_apart' HO472.out (Kd.R_typed HO_11.out) (by decide))) (fun k_ hk_ hs_ => (hk_.2) hs_)); (case side4 => exact (Kd.R_reads' HO472.out).2.1); rintro e w33 ⟨rfl, hy0, hb, hkp⟩; refine ⟨_, rfl, ?_⟩; have n0_ := A0_.mk (Kd.R_reok rfl hy0 (fun k_ e_ => HO_11.out.1 k_ e_)); have n1_ := A0_.mk (Kd.R_mono (ok' := fun k_ => some k_ ≠ (.slice Ao24 t470.length co24 : Value).ownBlock) (Kd.R_keptB ((Kd.R_apart' HO469.out (Kd.R_typed HO_11.out) (by decide))) hkp (fun k_ hk_ hs_ => (hk_.2) hs_)) (fun k_ hk_ => hk_.1.1)); have n2_ := A0_.mk (Kd.R_mono (ok' := fun k_ => some k_ ≠ (.slice Ao22 t467.length co22 : Value).ownBlock) (Kd.R_keptB ((Kd.R_apart' HO472.out (Kd.R_typed HO_11.out) (by decide))) hkp (fun k_ hk_ hs_ => (hk_.2) hs_)) (fun k_ hk_ => hk_.1.1)); have n3_ := A0_.mk (blk_kept (xK_ BK482.out) hkp (fun hs_ => (fun e_ => (Kd.R_away HO_11.out (fun _ hk => hk)) e_) hs_)); have n4_ := A0_.mk (hb); clear HO_11 HO469 HO472 BK482 HB; have HO_11 := n0_; have HO469 := n1_; have HO472 := n2_; have BK482 := n3_; have HB := n4_; clear n0_ n1_ n2_ n3_ n4_; (try clear hb); (try clear hkp); (try clear hy0)))
        (try simp only [add_plain])
        go_roundg k2
        case measure => have := HK1.out; have := HK2.out; omega
        case rel => exact ⟨(t484), (wrap64 (x32_2 + 1)), (by first | rfl | (simp; done) | (simp [*]; done)), H', ⟨by have := HK1.out; have := HK2.out; omega⟩, ⟨by (with_reducible repeat (first | apply Kd.R_alloc | apply Kd.R_drewN | apply Kd.R_drew)); exact Kd.R_mono HO_11.out (fun _ hk => trivial)⟩, ⟨xB1_ HB GE482⟩⟩
       ·rw [if_neg c11] at H
        have c11b0 : decide (x32_2 < x28_1) = false := decide_eq_false c11
        clear c11
        have H' := A0_.mk H
        clear H
        go_wp2
        (try simp only [add_plain])
        go_roundg k2
        case measure => have := HK1.out; have := HK2.out; omega
        case rel => exact ⟨(x11_2), (wrap64 (x28_1 + 1)), (by first | rfl | (simp; done) | (simp [*]; done)), H', ⟨by have := HK1.out; have := HK2.out; omega⟩, ⟨by (with_reducible repeat (first | apply Kd.R_alloc | apply Kd.R_drewN | apply Kd.R_drew)); exact HO_11.out⟩, ⟨xB_ HB⟩⟩
    ·rw [if_neg c10] at H
     have c10b0 : decide (x28_1 < a0) = false := decide_eq_false c10
     clear c10
     simp only [Option.some.injEq, Prod.mk.injEq] at H
     obtain ⟨rfl, rfl⟩ := H
     go_wp2
     go_ret2
     exact ⟨_, rE_, by (with_reducible repeat (first | apply Kd.R_alloc | apply Kd.R_drewN | apply Kd.R_drew)); exact HO_11.out, xB_ HB⟩
 ·rw [if_neg c6] at H
  have c6b0 : (t463 == 0) = false := beq_eq_false_iff_ne.mpr c6
  have c6b1 : (t463 != 0) = true := bne_iff_ne.mpr c6
  exact absurd H (by simp)
theorem eqA26 (d : Nat) (w : World) (x0 y0 : Bool) (x1 y1 : ByteArray) (x2 y2 : ByteArray) :
    (Op.equalIn (d + 2) 26 (.agg #[.bool x0, .string x1, .string x2]) (.agg #[.bool y0, .string y1, .string y2])).run Tryd.prog w = .ok (x0 == y0 && (x1.toList == y1.toList && (x2.toList == y2.toList))) w := by
  refine eqA_of Tryd.underlying26 (by kernel_rfl) ?_
  refine eqf_cons (by rfl) (by go_simp; rfl) (by go_simp; rfl) (by go_simp) ?_
  refine eqf_cons (by rfl) (by go_simp; rfl) (by go_simp; rfl) (by go_simp) ?_
  exact eqf_last (by rfl) (by go_simp; rfl) (by go_simp; rfl) (by go_simp)
end Go.Proofs.YtnegkpnhjgimcaaDoor.C
end
section
namespace Go.Proofs.YtnegkpnhjgimcaaDoor.C
open Go.RowKit Go.Proofs.YtnegkpnhjgimcaaDoorW.PrintWords Go.Proofs.YtnegkpnhjgimcaaDoorW.PrintLast Go.Proofs.YtnegkpnhjgimcaaDoorW.PrintMore
attribute [local go_sem] max2_int min2_int max_two min_two max_three min_three max_four min_four
set_option linter.unusedVariables false
set_option linter.unusedSimpArgs false
attribute [local go_sem high] eqA26
def insolvencylaw14_awake.f (k : Nat)  : Option (Bool) := (rational_Int.f k 30).bind fun bt496 => ((rational_Int.f k 20).bind fun bt499 => ((rational_Int.f k 25).bind fun bt502 => ((setoff_Apply.f k 2 (([(⟨0, 1, (⟨bt496.1, bt496.2.1, bt496.2.2⟩ : S26), 5, 5, false⟩ : S28), (⟨0, 1, (⟨bt499.1, bt499.2.1, bt499.2.2⟩ : S26), 3, 3, false⟩ : S28), (⟨1, 0, (⟨bt502.1, bt502.2.1, bt502.2.2⟩ : S26), 9, 9, false⟩ : S28)] : List (S28))) 100 10).bind fun bt508 => ((setoff_Eligible.f 0 0 false (⟨#[]⟩ : ByteArray) (⟨#[]⟩ : ByteArray) 50 95 false 100 10).bind fun t512 => (if bt508.2 = 0 then (if (bt508.1.length : Int) = 3 then (if 0 < (bt508.1.length : Int) then ((rational_Int.f k 25).bind fun bt514 => (if (((rd_T26 bt508.1 0).f0) == bt514.1 && ((((rd_T26 bt508.1 0).f1).toList) == bt514.2.1.toList && ((((rd_T26 bt508.1 0).f2).toList) == bt514.2.2.toList))) = true then (if 1 < (bt508.1.length : Int) then ((rational_Int.f k 0).bind fun bt518 => (if (((rd_T26 bt508.1 1).f0) == bt518.1 && ((((rd_T26 bt508.1 1).f1).toList) == bt518.2.1.toList && ((((rd_T26 bt508.1 1).f2).toList) == bt518.2.2.toList))) = true then (if 2 < (bt508.1.length : Int) then ((rational_Int.f k 0).bind fun bt522 => (if (((rd_T26 bt508.1 2).f0) == bt522.1 && ((((rd_T26 bt508.1 2).f1).toList) == bt522.2.1.toList && ((((rd_T26 bt508.1 2).f2).toList) == bt522.2.2.toList))) = true then (some (!t512)) else (none))) else (none)) else (none))) else (none)) else (none))) else (none)) else (none)) else (none))))))
theorem insolvencylaw14_awake.mono : ∀ k, LeO (insolvencylaw14_awake.f k ) (insolvencylaw14_awake.f (k + 1) ) := by
 intro  k
 unfold insolvencylaw14_awake.f
 repeat' first
   | (with_reducible exact rational_Int.mono _ _)
   | (with_reducible exact setoff_Apply.mono _ _ _ _ _)
   | (with_reducible exact LeO.refl _)
   | (with_reducible exact LeO.none _)
   | (with_reducible refine LeO.ite ?_ ?_)
   | (with_reducible refine LeO.bind ?_ (fun _ => ?_))
def insolvencylaw14_awake.T4 : Bool × List (List Nat × List Nat) := (true, [([], []), ([0], [0]), ([1], [1]), ([2], [2]), ([3, 2], [2, 3]), ([4, 2], [2, 4]), ([2, 5], [2, 5]), ([6, 2], [6]), ([7], [7]), ([8, 7], [7, 8]), ([9, 7], [7, 9]), ([7, 7], [7]), ([10, 11, 7], [7, 10, 11]), ([7, 12], [7, 12]), ([13, 11], [13]), ([14], [14]), ([15, 14], [14, 15]), ([16, 14], [14, 16]), ([14, 14], [14]), ([17, 18, 14], [14, 17, 18]), ([14, 19], [14, 19]), ([20, 18], [20]), ([21], [21]), ([22, 21], [21, 22]), ([23, 21], [21, 23]), ([21, 21], [21]), ([24, 25, 21], [21, 24, 25]), ([21, 26], [21, 26]), ([27, 25], [27]), ([28], [28]), ([29, 28], [28, 29]), ([28, 30], [28, 30]), ([31, 28, 0, 1, 2, 3, 4, 5, 6, 7, 8, 9, 10, 11, 12, 13, 14, 15, 16, 17, 18, 19, 20, 21, 22, 23, 24, 25, 26, 27, 28, 29, 30, 31], [31])])
def insolvencylaw14_awake.B4 : List Nat := [0, 1, 3, 7, 15, 31, 63, 127, 255, 511, 1023, 255, 4095, 8191, 16383, 32767, 65535, 131071, 32767, 524287, 1048575, 2097151, 4194303, 8388607, 16777215, 4194303, 67108863, 134217727, 268435455, 536870911, 1073741823, 2147483647, 4294967295]
theorem insolvencylaw14_awake.tab4 : rtab .any (opsOf Tryd.f12 4) = insolvencylaw14_awake.T4 := by kernel_rfl
theorem insolvencylaw14_awake.bits4 : waitsOk insolvencylaw14_awake.T4.2 insolvencylaw14_awake.B4 = true := by kernel_rfl
set_option maxHeartbeats 8000000 in
set_option maxRecDepth 100000 in
theorem insolvencylaw14_awake.calls (k : Nat)  (r : Bool) (w : World) (h : insolvencylaw14_awake.f k  = some r) :
  Calls Tryd.prog 12 #[] w fun e w' => e = .returned (.bool r) ∧ Below w.heap.size w w' := by
 have hu28 := Tryd.underlying28
 have hu26 := Tryd.underlying26
 have HB := A0_.mk (Below.refl w.heap.size w)
 have H := h
 unfold insolvencylaw14_awake.f at H
 clear h
 replace H := Option.bind_eq_some_iff.mp H
 obtain ⟨⟨t496, t497, t498⟩, A10, H⟩ := H
 (try dsimp only at H)
 have A1 := A0_.mk A10
 clear A10
 replace H := Option.bind_eq_some_iff.mp H
 obtain ⟨⟨t499, t500, t501⟩, A20, H⟩ := H
 (try dsimp only at H)
 have A2 := A0_.mk A20
 clear A20
 replace H := Option.bind_eq_some_iff.mp H
 obtain ⟨⟨t502, t503, t504⟩, A30, H⟩ := H
 (try dsimp only at H)
 have A3 := A0_.mk A30
 clear A30
 obtain ⟨y505, hy505⟩ : ∃ y_ : List (S28), y_ = (([(⟨0, 1, (⟨t496, t497, t498⟩ : S26), 5, 5, false⟩ : S28), (⟨0, 1, (⟨t499, t500, t501⟩ : S26), 3, 3, false⟩ : S28), (⟨1, 0, (⟨t502, t503, t504⟩ : S26), 9, 9, false⟩ : S28)] : List (S28))) := ⟨_, rfl⟩
 replace H : ((setoff_Apply.f k 2 y505 100 10).bind fun bt508 => ((setoff_Eligible.f 0 0 false (⟨#[]⟩ : ByteArray) (⟨#[]⟩ : ByteArray) 50 95 false 100 10).bind fun t512 => (if bt508.2 = 0 then (if (bt508.1.length : Int) = 3 then (if 0 < (bt508.1.length : Int) then ((rational_Int.f k 25).bind fun bt514 => (if (((rd_T26 bt508.1 0).f0) == bt514.1 && ((((rd_T26 bt508.1 0).f1).toList) == bt514.2.1.toList && ((((rd_T26 bt508.1 0).f2).toList) == bt514.2.2.toList))) = true then (if 1 < (bt508.1.length : Int) then ((rational_Int.f k 0).bind fun bt518 => (if (((rd_T26 bt508.1 1).f0) == bt518.1 && ((((rd_T26 bt508.1 1).f1).toList) == bt518.2.1.toList && ((((rd_T26 bt508.1 1).f2).toList) == bt518.2.2.toList))) = true then (if 2 < (bt508.1.length : Int) then ((rational_Int.f k 0).bind fun bt522 => (if (((rd_T26 bt508.1 2).f0) == bt522.1 && ((((rd_T26 bt508.1 2).f1).toList) == bt522.2.1.toList && ((((rd_T26 bt508.1 2).f2).toList) == bt522.2.2.toList))) = true then (some (!t512)) else (none))) else (none)) else (none))) else (none)) else (none))) else (none)) else (none)) else (none)))) = some r := by first | (rw [hy505]; with_reducible exact H) | (have H2_ := (Option.bind_some _ _).symm.trans H; rw [hy505]; with_reducible exact H2_) | (have H2_ := (Option.bind_some _ _).symm.trans H; with_reducible exact H2_) | with_reducible exact H | (rw [hy505]; exact H) | exact H
 have Ny505 := A0_.mk hy505
 clear hy505
 replace H := Option.bind_eq_some_iff.mp H
 obtain ⟨⟨t508, t509⟩, A40, H⟩ := H
 (try dsimp only at H)
 have A4 := A0_.mk A40
 clear A40
 replace H := Option.bind_eq_some_iff.mp H
 obtain ⟨t512, A50, H⟩ := H
 (try dsimp only at H)
 have A5 := A0_.mk A50
 clear A50
 by_cases c6 : t509 = 0
 ·rw [if_pos c6] at H
  have c6b0 : (t509 == 0) = true := beq_iff_eq.mpr c6
  have c6b1 : (t509 != 0) = false := bne_eq_false_iff_eq.mpr c6
  clear c6
  by_cases c7 : (t508.length : Int) = 3
  ·rw [if_pos c7] at H
   have c7b0 : ((t508.length : Int) == 3) = true := beq_iff_eq.mpr c7
   have c7b1 : ((t508.length : Int) != 3) = false := bne_eq_false_iff_eq.mpr c7
   clear c7
   by_cases c8 : 0 < (t508.length : Int)
   ·rw [if_pos c8] at H
    have c8b0 : decide (0 < (t508.length : Int)) = true := decide_eq_true c8
    have c8b1 : decide (0 < t508.length) = true := decide_eq_true (by omega)
    clear c8
    replace H := Option.bind_eq_some_iff.mp H
    obtain ⟨⟨t514, t515, t516⟩, A90, H⟩ := H
    (try dsimp only at H)
    have A9 := A0_.mk A90
    clear A90
    by_cases c10 : (((rd_T26 t508 0).f0) == t514 && ((((rd_T26 t508 0).f1).toList) == t515.toList && ((((rd_T26 t508 0).f2).toList) == t516.toList))) = true
    ·rw [if_pos c10] at H
     have c10b0 : (((rd_T26 t508 0).f0) == t514 && ((((rd_T26 t508 0).f1).toList) == t515.toList && ((((rd_T26 t508 0).f2).toList) == t516.toList))) = true := c10
     (try (have c10b1 : decide (((rd_T26 t508 0).f0) = t514 && ((((rd_T26 t508 0).f1).toList) == t515.toList && ((((rd_T26 t508 0).f2).toList) == t516.toList))) = true := by simpa using c10))
     (try (have c10b2 : (((rd_T26 t508 0).f0) == t514 && ((((rd_T26 t508 0).f1).toList) == t515.toList && ((((rd_T26 t508 0).f2).toList) == t516.toList))) = true := by simpa using c10))
     clear c10
     by_cases c11 : 1 < (t508.length : Int)
     ·rw [if_pos c11] at H
      have c11b0 : decide (1 < (t508.length : Int)) = true := decide_eq_true c11
      have c11b1 : decide (1 < t508.length) = true := decide_eq_true (by omega)
      clear c11
      replace H := Option.bind_eq_some_iff.mp H
      obtain ⟨⟨t518, t519, t520⟩, A120, H⟩ := H
      (try dsimp only at H)
      have A12 := A0_.mk A120
      clear A120
      by_cases c13 : (((rd_T26 t508 1).f0) == t518 && ((((rd_T26 t508 1).f1).toList) == t519.toList && ((((rd_T26 t508 1).f2).toList) == t520.toList))) = true
      ·rw [if_pos c13] at H
       have c13b0 : (((rd_T26 t508 1).f0) == t518 && ((((rd_T26 t508 1).f1).toList) == t519.toList && ((((rd_T26 t508 1).f2).toList) == t520.toList))) = true := c13
       (try (have c13b1 : decide (((rd_T26 t508 1).f0) = t518 && ((((rd_T26 t508 1).f1).toList) == t519.toList && ((((rd_T26 t508 1).f2).toList) == t520.toList))) = true := by simpa using c13))
       (try (have c13b2 : (((rd_T26 t508 1).f0) == t518 && ((((rd_T26 t508 1).f1).toList) == t519.toList && ((((rd_T26 t508 1).f2).toList) == t520.toList))) = true := by simpa using c13))
       clear c13
       by_cases c14 : 2 < (t508.length : Int)
       ·rw [if_pos c14] at H
        have c14b0 : decide (2 < (t508.length : Int)) = true := decide_eq_true c14
        have c14b1 : decide (2 < t508.length) = true := decide_eq_true (by omega)
        clear c14
        replace H := Option.bind_eq_some_iff.mp H
        obtain ⟨⟨t522, t523, t524⟩, A150, H⟩ := H
        (try dsimp only at H)
        have A15 := A0_.mk A150
        clear A150
        by_cases c16 : (((rd_T26 t508 2).f0) == t522 && ((((rd_T26 t508 2).f1).toList) == t523.toList && ((((rd_T26 t508 2).f2).toList) == t524.toList))) = true
        ·rw [if_pos c16] at H
         have c16b0 : (((rd_T26 t508 2).f0) == t522 && ((((rd_T26 t508 2).f1).toList) == t523.toList && ((((rd_T26 t508 2).f2).toList) == t524.toList))) = true := c16
         (try (have c16b1 : decide (((rd_T26 t508 2).f0) = t522 && ((((rd_T26 t508 2).f1).toList) == t523.toList && ((((rd_T26 t508 2).f2).toList) == t524.toList))) = true := by simpa using c16))
         (try (have c16b2 : (((rd_T26 t508 2).f0) == t522 && ((((rd_T26 t508 2).f1).toList) == t523.toList && ((((rd_T26 t508 2).f2).toList) == t524.toList))) = true := by simpa using c16))
         clear c16
         obtain rfl := Option.some.inj H
         go_enter Tryd.func12, Tryd.ntmps12
         try go_wp2_with (first | ((with_reducible refine gC_ (f := 29) rfl ?_); refine goesL_ (some 5) rfl rfl Tryd.func29 (by kernel_rfl) rfl #[.int .i64 30] rfl mp_ ?_; (with_reducible refine (rational_Int.calls k 30 t496 t497 t498 _ A1.out).mono ?_); rintro e w17 ⟨rfl, hb⟩; refine ⟨_, rfl, ?_⟩; have n0_ := A0_.mk (bT_ (xB_ HB) hb); clear HB; have HB := n0_; clear n0_; (try clear hb); (try clear hb2); (try clear hk); (try clear hi)) | ((with_reducible refine gC_ (f := 29) rfl ?_); refine goesL_ (some 7) rfl rfl Tryd.func29 (by kernel_rfl) rfl #[.int .i64 20] rfl mp_ ?_; (with_reducible refine (rational_Int.calls k 20 t499 t500 t501 _ A2.out).mono ?_); rintro e w18 ⟨rfl, hb⟩; refine ⟨_, rfl, ?_⟩; have n0_ := A0_.mk (bT_ (xB_ HB) hb); clear HB; have HB := n0_; clear n0_; (try clear hb); (try clear hb2); (try clear hk); (try clear hi)) | ((with_reducible refine gC_ (f := 29) rfl ?_); refine goesL_ (some 9) rfl rfl Tryd.func29 (by kernel_rfl) rfl #[.int .i64 25] rfl mp_ ?_; (with_reducible refine (rational_Int.calls k 25 t502 t503 t504 _ A3.out).mono ?_); rintro e w19 ⟨rfl, hb⟩; refine ⟨_, rfl, ?_⟩; have n0_ := A0_.mk (bT_ (xB_ HB) hb); clear HB; have HB := n0_; clear n0_; (try clear hb); (try clear hb2); (try clear hk); (try clear hi)) | ((with_reducible refine gD_ (N := 11) rfl ?_); (try (refine gate_guard (by rfl) ?_; dsimp only)); refine Kd.R_lit k28 _ 28 ?hg (N := 11) ?hd (xs := ([(⟨0, 1, (⟨t496, t497, t498⟩ : S26), 5, 5, false⟩ : S28), (⟨0, 1, (⟨t499, t500, t501⟩ : S26), 3, 3, false⟩ : S28), (⟨1, 0, (⟨t502, t503, t504⟩ : S26), 9, 9, false⟩ : S28)] : List (S28))) (inner := [.int .i64 0, .int .i64 1, .bool t496, .string t497, .string t498, .int .i64 5, .int .i64 5, .bool false, .int .i64 0, .int .i64 1, .bool t499, .string t500, .string t501, .int .i64 3, .int .i64 3, .bool false, .int .i64 1, .int .i64 0, .bool t502, .string t503, .string t504, .int .i64 9, .int .i64 9, .bool false]) (ok := fun _ => True) (okp := fun _ => True) ?hr ?hp (fun _ hk => hk) trivial (Below.refl _ _) (Nat.le_refl _) (by simp) ?_; (case hd => rfl); (case hg => rfl); (case hr => first | (go_simp; done) | (go_simp; rfl)); (case hp => exact (Reps.c8 (show Kd.M k28 _ _ _ (⟨0, 1, (⟨t496, t497, t498⟩ : S26), 5, 5, false⟩ : S28) [.int .i64 0, .int .i64 1, .bool t496, .string t497, .string t498, .int .i64 5, .int .i64 5, .bool false] from (k28_mkM _ _ _ (⟨0, 1, (⟨t496, t497, t498⟩ : S26), 5, 5, false⟩ : S28) )) (Reps.c8 (show Kd.M k28 _ _ _ (⟨0, 1, (⟨t499, t500, t501⟩ : S26), 3, 3, false⟩ : S28) [.int .i64 0, .int .i64 1, .bool t499, .string t500, .string t501, .int .i64 3, .int .i64 3, .bool false] from (k28_mkM _ _ _ (⟨0, 1, (⟨t499, t500, t501⟩ : S26), 3, 3, false⟩ : S28) )) (Reps.c8 (show Kd.M k28 _ _ _ (⟨1, 0, (⟨t502, t503, t504⟩ : S26), 9, 9, false⟩ : S28) [.int .i64 1, .int .i64 0, .bool t502, .string t503, .string t504, .int .i64 9, .int .i64 9, .bool false] from (k28_mkM _ _ _ (⟨1, 0, (⟨t502, t503, t504⟩ : S26), 9, 9, false⟩ : S28) )) (Reps.none _ _))))); intro v506 w20 ho21 hb hg_ hnew_; clear hg_ hnew_; (first | rw [← Ny505.out] at ho21 | (simp only [Int.reduceToNat] at ho21; rw [← Ny505.out] at ho21)); have n0_ := A0_.mk (Kd.R_lower ho21 (bZ_ (xB_ HB))); have n1_ := A0_.mk (bT_ (xB_ HB) hb); clear HB; have HO507 := n0_; have HB := n1_; clear n0_ n1_; clear hb ho21; obtain ⟨Ao22, co22, eo22⟩ := Kd.R_slice HO507.out; subst eo22) | ((with_reducible refine gC_ (f := 18) rfl ?_); refine goesL_ (some 14) rfl rfl Tryd.func18 (by kernel_rfl) rfl #[.int .i64 2, .slice Ao22 y505.length co22, .int .i64 100, .int .i64 10] rfl mp_ ?_; (with_reducible refine (setoff_Apply.calls k 2 _ _ y505 100 10 t508 t509 _ ?side1 ?side2 A4.out).mono ?_); (case side1 => repeat (first | exact (Kd.R_reads' HO507.out).2.2 | (with_reducible refine Kd.C_alloc ?_ _) | (with_reducible refine Kd.C_drewN ?_ _) | (with_reducible refine Kd.C_drew ?_))); (case side2 => exact (Kd.R_reads' HO507.out).2.1); rintro e w23 ⟨v510, rfl, ho0, hb⟩; refine ⟨_, rfl, ?_⟩; have n0_ := A0_.mk (Kd.R_below (xR_ HO507.out) hb); have n1_ := A0_.mk (Kd.R_lower ho0 (bZ_ (xB_ HB))); have n2_ := A0_.mk (bT_ (xB_ HB) hb); clear HO507 HB; have HO507 := n0_; have HO511 := n1_; have HB := n2_; clear n0_ n1_ n2_; (try clear hb); (try clear hb2); (try clear hk); (try clear hi); (try clear ho0)) | ((with_reducible refine gC_ (f := 13) rfl ?_); refine goesL_ (some 18) rfl rfl Tryd.func13 (by kernel_rfl) rfl #[.agg #[.int .i64 0, .int .i64 0, .bool false, .string (⟨#[]⟩ : ByteArray), .string (⟨#[]⟩ : ByteArray), .int .i64 50, .int .i64 95, .bool false], .int .i64 100, .int .i64 10] rfl mp_ ?_; (with_reducible refine (setoff_Eligible.calls 0 0 false (⟨#[]⟩ : ByteArray) (⟨#[]⟩ : ByteArray) 50 95 false 100 10 t512 _ A5.out).mono ?_); rintro e w24 ⟨rfl, hb⟩; refine ⟨_, rfl, ?_⟩; have n0_ := A0_.mk (Kd.R_below (xR_ HO507.out) hb); have n1_ := A0_.mk (Kd.R_below (xR_ HO511.out) hb); have n2_ := A0_.mk (bT_ (xB_ HB) hb); clear HO507 HO511 HB; have HO507 := n0_; have HO511 := n1_; have HB := n2_; clear n0_ n1_ n2_; (try clear hb); (try clear hb2); (try clear hk); (try clear hi)))
         have n0_ := A0_.mk (Kd.R_drew HO507.out)
         have n1_ := A0_.mk (Kd.R_drew HO511.out)
         have n2_ := A0_.mk (b1_ HB.out)
         clear HO507
         clear HO511
         clear HB
         have HO507 := n0_
         have HO511 := n1_
         have HB := n2_
         clear n0_ n1_ n2_
         obtain ⟨Ao26, co26, eo26⟩ := Kd.R_slice HO511.out
         (first | subst eo26 | (injection eo26 with f1_ f2_ f3_; have f4_ := f1_.symm; have f5_ := f3_.symm; clear f1_ f2_ f3_; subst f4_; subst f5_))
         have p513 : 0 ≤ (0 : Int) := (by omega)
         have q513 : 0 < (t508.length : Int) := of_decide_eq_true aS_
         obtain ⟨ad513, e513, hx513_0, hx513_1, hx513_2⟩ := at_T26 (Kd.R_reads' HO511.out).2.2 0 p513 q513
         cases e513
         have qi513 : (0 < t508.length) = True := eq_true (by omega)
         (try rw [show ((0 : Int)).toNat = 0 from rfl] at hx513_0)
         (try rw [show 0 * 3 = 0 from rfl] at hx513_0)
         (try rw [Addr.add_zero'] at hx513_0)
         (try rw [show ((0 : Int)).toNat = 0 from rfl] at hx513_1)
         (try rw [show 0 * 3 = 0 from rfl] at hx513_1)
         (try rw [Addr.add_zero'] at hx513_1)
         (try rw [show ((0 : Int)).toNat = 0 from rfl] at hx513_2)
         (try rw [show 0 * 3 = 0 from rfl] at hx513_2)
         (try rw [Addr.add_zero'] at hx513_2)
         replace p513 := eq_true p513
         replace q513 := eq_true q513
         have p517 : 0 ≤ (1 : Int) := (by omega)
         have q517 : 1 < (t508.length : Int) := of_decide_eq_true aS_
         obtain ⟨ad517, e517, hx517_0, hx517_1, hx517_2⟩ := at_T26 (Kd.R_reads' HO511.out).2.2 1 p517 q517
         obtain rfl : ad513 = ad517 := (by injection e517)
         (try simp only [show (1 : Int).toNat = 1 from rfl, Nat.reduceMul, Nat.reduceEqDiff, Go.Addr.add, ↓reduceIte] at hx517_0)
         (try simp only [show (1 : Int).toNat = 1 from rfl, Nat.reduceMul, Nat.reduceEqDiff, Go.Addr.add, ↓reduceIte] at hx517_1)
         (try simp only [show (1 : Int).toNat = 1 from rfl, Nat.reduceMul, Nat.reduceEqDiff, Go.Addr.add, ↓reduceIte] at hx517_2)
         have qi517 : (1 < t508.length) = True := eq_true (by omega)
         (try rw [show ((1 : Int)).toNat = 1 from rfl] at hx517_0)
         (try rw [show 1 * 3 = 3 from rfl] at hx517_0)
         (try rw [show ((1 : Int)).toNat = 1 from rfl] at hx517_1)
         (try rw [show 1 * 3 = 3 from rfl] at hx517_1)
         (try rw [show ((1 : Int)).toNat = 1 from rfl] at hx517_2)
         (try rw [show 1 * 3 = 3 from rfl] at hx517_2)
         replace p517 := eq_true p517
         replace q517 := eq_true q517
         have p521 : 0 ≤ (2 : Int) := (by omega)
         have q521 : 2 < (t508.length : Int) := of_decide_eq_true aS_
         obtain ⟨ad521, e521, hx521_0, hx521_1, hx521_2⟩ := at_T26 (Kd.R_reads' HO511.out).2.2 2 p521 q521
         obtain rfl : ad513 = ad521 := (by injection e521)
         (try simp only [show (2 : Int).toNat = 2 from rfl, Nat.reduceMul, Nat.reduceEqDiff, Go.Addr.add, ↓reduceIte] at hx521_0)
         (try simp only [show (2 : Int).toNat = 2 from rfl, Nat.reduceMul, Nat.reduceEqDiff, Go.Addr.add, ↓reduceIte] at hx521_1)
         (try simp only [show (2 : Int).toNat = 2 from rfl, Nat.reduceMul, Nat.reduceEqDiff, Go.Addr.add, ↓reduceIte] at hx521_2)
         have qi521 : (2 < t508.length) = True := eq_true (by omega)
         (try rw [show ((2 : Int)).toNat = 2 from rfl] at hx521_0)
         (try rw [show 2 * 3 = 6 from rfl] at hx521_0)
         (try rw [show ((2 : Int)).toNat = 2 from rfl] at hx521_1)
         (try rw [show 2 * 3 = 6 from rfl] at hx521_1)
         (try rw [show ((2 : Int)).toNat = 2 from rfl] at hx521_2)
         (try rw [show 2 * 3 = 6 from rfl] at hx521_2)
         replace p521 := eq_true p521
         replace q521 := eq_true q521
         refine start_ (n := 33) (S := fun w' => w'.cell? ad513 = some (.bool ((rd_T26 t508 0).f0)) ∧ w'.cell? ⟨ad513.block, ad513.off + 1, none⟩ = some (.string ((rd_T26 t508 0).f1)) ∧ w'.cell? ⟨ad513.block, ad513.off + 2, none⟩ = some (.string ((rd_T26 t508 0).f2)) ∧ w'.cell? ⟨ad513.block, ad513.off + 3, none⟩ = some (.bool ((rd_T26 t508 1).f0)) ∧ w'.cell? ⟨ad513.block, ad513.off + 3 + 1, none⟩ = some (.string ((rd_T26 t508 1).f1)) ∧ w'.cell? ⟨ad513.block, ad513.off + 3 + 2, none⟩ = some (.string ((rd_T26 t508 1).f2)) ∧ w'.cell? ⟨ad513.block, ad513.off + 6, none⟩ = some (.bool ((rd_T26 t508 2).f0)) ∧ w'.cell? ⟨ad513.block, ad513.off + 6 + 1, none⟩ = some (.string ((rd_T26 t508 2).f1)) ∧ w'.cell? ⟨ad513.block, ad513.off + 6 + 2, none⟩ = some (.string ((rd_T26 t508 2).f2))) (ds := []) #[false, false, false, false, false, false, false, false, false, false, false, false, false, false, false, false, false, false, false, false, false, false, false, false, false, false, false, false, false, false, false, false, false] (by kernel_rfl) rfl rfl ⟨hx513_0, hx513_1, hx513_2, hx517_0, hx517_1, hx517_2, hx521_0, hx521_1, hx521_2⟩ (fun hHeld => ?_); refine with_tabW insolvencylaw14_awake.tab4 insolvencylaw14_awake.bits4 (fun HT_ HW_ => ?_)
         generalize w24.drew = w25 at HO507 HO511 HB hx513_0 hx513_1 hx513_2 hx517_0 hx517_1 hx517_2 hx521_0 hx521_1 hx521_2 hHeld ⊢
         refine pure_ (i := 0) (N := some 19) (v := ?_) (a' := ?_) #[true, false, false, false, false, false, false, false, false, false, false, false, false, false, false, false, false, false, false, false, false, false, false, false, false, false, false, false, false, false, false, false, false] rfl rfl (any_of HT_.out (by kernel_rfl)) (fun _ _ _ h => h) (Or.inl ⟨by rfl, ?_⟩) ?_ ?_
         rotate_left
         ·intro w'
          go_simp
          with_reducible rfl
         rotate_left
         ·simp only [Act.put, s1_, s2_, s3_, i64_w, i32_w]
          rfl
         refine pure_ (i := 1) (N := some 20) (v := ?_) (a' := ?_) #[true, true, false, false, false, false, false, false, false, false, false, false, false, false, false, false, false, false, false, false, false, false, false, false, false, false, false, false, false, false, false, false, false] rfl rfl (any_of HT_.out (by kernel_rfl)) (fun _ _ _ h => h) (Or.inl ⟨by rfl, ?_⟩) ?_ ?_
         rotate_left
         ·intro w'
          go_simp
          with_reducible rfl
         rotate_left
         ·simp only [Act.put, s1_, s2_, s3_, i64_w, i32_w]
          rfl
         refine pure_ (i := 2) (N := some 21) (v := ?_) (a' := ?_) #[true, true, true, false, false, false, false, false, false, false, false, false, false, false, false, false, false, false, false, false, false, false, false, false, false, false, false, false, false, false, false, false, false] rfl rfl (any_of HT_.out (by kernel_rfl)) (fun _ _ _ h => h) (Or.inl ⟨by rfl, ?_⟩) ?_ ?_
         rotate_left
         ·intro w'
          go_simp
          with_reducible rfl
         rotate_left
         ·simp only [Act.put, s1_, s2_, s3_, i64_w, i32_w]
          rfl
         refine pure_ (i := 3) (N := some 22) (v := ?_) (a' := ?_) #[true, true, true, true, false, false, false, false, false, false, false, false, false, false, false, false, false, false, false, false, false, false, false, false, false, false, false, false, false, false, false, false, false] rfl rfl (any_of HT_.out (by kernel_rfl)) (fun _ _ _ h => h) (Or.inl ⟨by rfl, ?_⟩) ?_ ?_
         rotate_left
         ·intro w'
          go_simp
          with_reducible rfl
         rotate_left
         ·simp only [Act.put, s1_, s2_, s3_, i64_w, i32_w]
          rfl
         refine pure_ (i := 4) (N := some 23) (v := ?_) (a' := ?_) #[true, true, true, true, true, false, false, false, false, false, false, false, false, false, false, false, false, false, false, false, false, false, false, false, false, false, false, false, false, false, false, false, false] rfl rfl (any_of HT_.out (by kernel_rfl)) (fun _ _ _ h => h) (Or.inl ⟨by rfl, ?_⟩) ?_ ?_
         rotate_left
         ·intro w'
          go_simp
          with_reducible rfl
         rotate_left
         ·simp only [Act.put, s1_, s2_, s3_, i64_w, i32_w]
          rfl
         refine pure_ (i := 5) (N := some 24) (v := ?_) (a' := ?_) #[true, true, true, true, true, true, false, false, false, false, false, false, false, false, false, false, false, false, false, false, false, false, false, false, false, false, false, false, false, false, false, false, false] rfl rfl (any_of HT_.out (by kernel_rfl)) (fun _ _ _ h => h) (Or.inl ⟨by rfl, ?_⟩) ?_ ?_
         rotate_left
         ·intro w'
          go_simp
          with_reducible rfl
         rotate_left
         ·simp only [Act.put, s1_, s2_, s3_, i64_w, i32_w]
          rfl
         refine pure_ (i := 6) (N := some 25) (v := ?_) (a' := ?_) #[true, true, true, true, true, true, true, false, false, false, false, false, false, false, false, false, false, false, false, false, false, false, false, false, false, false, false, false, false, false, false, false, false] rfl rfl (any_of HT_.out (by kernel_rfl)) (fun _ _ _ h => h) (Or.inl ⟨by rfl, ?_⟩) ?_ ?_
         rotate_left
         ·intro w'
          go_simp
          with_reducible rfl
         rotate_left
         ·simp only [Act.put, s1_, s2_, s3_, i64_w, i32_w]
          rfl
         refine pure_ (i := 7) (N := some 26) (v := ?_) (a' := ?_) #[true, true, true, true, true, true, true, true, false, false, false, false, false, false, false, false, false, false, false, false, false, false, false, false, false, false, false, false, false, false, false, false, false] rfl rfl (any_of HT_.out (by kernel_rfl)) (fun _ _ _ h => h) (Or.inl ⟨by rfl, ?_⟩) ?_ ?_
         rotate_left
         ·intro w'
          go_simp
          with_reducible rfl
         rotate_left
         ·simp only [Act.put, s1_, s2_, s3_, i64_w, i32_w]
          rfl
         refine pure_ (i := 8) (N := some 27) (v := ?_) (a' := ?_) #[true, true, true, true, true, true, true, true, true, false, false, false, false, false, false, false, false, false, false, false, false, false, false, false, false, false, false, false, false, false, false, false, false] rfl rfl (any_of HT_.out (by kernel_rfl)) (fun _ _ _ h => h) (Or.inl ⟨by rfl, ?_⟩) ?_ ?_
         rotate_left
         ·intro w'
          go_simp
          with_reducible rfl
         rotate_left
         ·simp only [Act.put, s1_, s2_, s3_, i64_w, i32_w]
          rfl
         refine pure_ (i := 9) (N := some 28) (v := ?_) (a' := ?_) #[true, true, true, true, true, true, true, true, true, true, false, false, false, false, false, false, false, false, false, false, false, false, false, false, false, false, false, false, false, false, false, false, false] rfl rfl (any_of HT_.out (by kernel_rfl)) (fun _ _ _ h => h) (Or.inl ⟨by rfl, ?_⟩) ?_ ?_
         rotate_left
         ·intro w'
          go_simp
          with_reducible rfl
         rotate_left
         ·simp only [Act.put, s1_, s2_, s3_, i64_w, i32_w]
          rfl
         refine take_ (i := 10) (N := some 29) (v := ?_) (a' := ?_) #[true, true, true, true, true, true, true, true, true, true, true, false, false, false, false, false, false, false, false, false, false, false, false, false, false, false, false, false, false, false, false, false, false] rfl rfl (take_ofW HT_.out HW_.out (by kernel_rfl)) (fun _ _ _ h => h) (Or.inl ⟨by rfl, ?_⟩) hHeld ?_ ?_
         rotate_left
         ·rintro w' ⟨s0, s1, s2, s3, s4, s5, s6, s7, s8⟩
          go_simp
          with_reducible rfl
         rotate_left
         ·simp only [Act.put, s1_, s2_, s3_, i64_w, i32_w]
          rfl
         refine one_ (i := 11) (N := some 30) #[true, true, true, true, true, true, true, true, true, true, true, true, false, false, false, false, false, false, false, false, false, false, false, false, false, false, false, false, false, false, false, false, false] rfl rfl (one_of HT_.out (by kernel_rfl)) (by decide) (fun K hK => ?_)
         refine goes_ Tryd.func29 (by kernel_rfl) rfl #[.int .i64 25] (by rfl) rfl rfl mp_ ?_
         with_reducible refine (rational_Int.calls k 25 t514 t515 t516 _ A9.out).mono ?_
         rintro e w27 ⟨rfl, hb⟩
         have HS0_ := (hb.cell (World.block_lt_of_cell? _ _ (hHeld.1))).trans (hHeld.1)
         have HS1_ := (hb.cell (World.block_lt_of_cell? _ _ (hHeld.2.1))).trans (hHeld.2.1)
         have HS2_ := (hb.cell (World.block_lt_of_cell? _ _ (hHeld.2.2.1))).trans (hHeld.2.2.1)
         have HS3_ := (hb.cell (World.block_lt_of_cell? _ _ (hHeld.2.2.2.1))).trans (hHeld.2.2.2.1)
         have HS4_ := (hb.cell (World.block_lt_of_cell? _ _ (hHeld.2.2.2.2.1))).trans (hHeld.2.2.2.2.1)
         have HS5_ := (hb.cell (World.block_lt_of_cell? _ _ (hHeld.2.2.2.2.2.1))).trans (hHeld.2.2.2.2.2.1)
         have HS6_ := (hb.cell (World.block_lt_of_cell? _ _ (hHeld.2.2.2.2.2.2.1))).trans (hHeld.2.2.2.2.2.2.1)
         have HS7_ := (hb.cell (World.block_lt_of_cell? _ _ (hHeld.2.2.2.2.2.2.2.1))).trans (hHeld.2.2.2.2.2.2.2.1)
         have HS8_ := (hb.cell (World.block_lt_of_cell? _ _ (hHeld.2.2.2.2.2.2.2.2))).trans (hHeld.2.2.2.2.2.2.2.2)
         refine ⟨_, rfl, ?_⟩
         have n0_ := A0_.mk (Kd.R_below (xR_ HO507.out) hb)
         have n1_ := A0_.mk (Kd.R_below (xR_ HO511.out) hb)
         have n2_ := A0_.mk (bT_ (xB_ HB) hb)
         clear HO507
         clear HO511
         clear HB
         have HO507 := n0_
         have HO511 := n1_
         have HB := n2_
         clear n0_ n1_ n2_
         (try clear hb)
         (try clear hb2)
         (try clear hk)
         (try clear hi)
         refine hK.out _ _ ⟨HS0_, HS1_, HS2_, HS3_, HS4_, HS5_, HS6_, HS7_, HS8_⟩ (fun hHeld => ?_)
         clear hK K
         refine norm_ (a' := ?_) ?_ ?_
         rotate_left
         ·show Act.put _ (some 30) _ = _
          simp only [Act.put, s1_, s2_, s3_, i64_w, i32_w]
          rfl
         refine pure_ (i := 12) (N := some 31) (v := ?_) (a' := ?_) #[true, true, true, true, true, true, true, true, true, true, true, true, true, false, false, false, false, false, false, false, false, false, false, false, false, false, false, false, false, false, false, false, false] rfl rfl (any_of HT_.out (by kernel_rfl)) (fun _ _ _ h => h) (Or.inl ⟨by rfl, ?_⟩) ?_ ?_
         rotate_left
         ·intro w'
          go_simp
          with_reducible rfl
         rotate_left
         ·simp only [Act.put, s1_, s2_, s3_, i64_w, i32_w]
          rfl
         refine pure_ (i := 13) (N := some 32) (v := ?_) (a' := ?_) #[true, true, true, true, true, true, true, true, true, true, true, true, true, true, false, false, false, false, false, false, false, false, false, false, false, false, false, false, false, false, false, false, false] rfl rfl (any_of HT_.out (by kernel_rfl)) (fun _ _ _ h => h) (Or.inl ⟨by rfl, ?_⟩) ?_ ?_
         rotate_left
         ·intro w'
          go_simp
          with_reducible rfl
         rotate_left
         ·simp only [Act.put, s1_, s2_, s3_, i64_w, i32_w]
          rfl
         refine pure_ (i := 14) (N := some 33) (v := ?_) (a' := ?_) #[true, true, true, true, true, true, true, true, true, true, true, true, true, true, true, false, false, false, false, false, false, false, false, false, false, false, false, false, false, false, false, false, false] rfl rfl (any_of HT_.out (by kernel_rfl)) (fun _ _ _ h => h) (Or.inl ⟨by rfl, ?_⟩) ?_ ?_
         rotate_left
         ·intro w'
          go_simp
          with_reducible rfl
         rotate_left
         ·simp only [Act.put, s1_, s2_, s3_, i64_w, i32_w]
          rfl
         refine pure_ (i := 15) (N := some 34) (v := ?_) (a' := ?_) #[true, true, true, true, true, true, true, true, true, true, true, true, true, true, true, true, false, false, false, false, false, false, false, false, false, false, false, false, false, false, false, false, false] rfl rfl (any_of HT_.out (by kernel_rfl)) (fun _ _ _ h => h) (Or.inl ⟨by rfl, ?_⟩) ?_ ?_
         rotate_left
         ·intro w'
          go_simp
          with_reducible rfl
         rotate_left
         ·simp only [Act.put, s1_, s2_, s3_, i64_w, i32_w]
          rfl
         refine pure_ (i := 16) (N := some 35) (v := ?_) (a' := ?_) #[true, true, true, true, true, true, true, true, true, true, true, true, true, true, true, true, true, false, false, false, false, false, false, false, false, false, false, false, false, false, false, false, false] rfl rfl (any_of HT_.out (by kernel_rfl)) (fun _ _ _ h => h) (Or.inl ⟨by rfl, ?_⟩) ?_ ?_
         rotate_left
         ·intro w'
          go_simp
          with_reducible rfl
         rotate_left
         ·simp only [Act.put, s1_, s2_, s3_, i64_w, i32_w]
          rfl
         refine take_ (i := 17) (N := some 36) (v := ?_) (a' := ?_) #[true, true, true, true, true, true, true, true, true, true, true, true, true, true, true, true, true, true, false, false, false, false, false, false, false, false, false, false, false, false, false, false, false] rfl rfl (take_ofW HT_.out HW_.out (by kernel_rfl)) (fun _ _ _ h => h) (Or.inl ⟨by rfl, ?_⟩) hHeld ?_ ?_
         rotate_left
         ·rintro w' ⟨s0, s1, s2, s3, s4, s5, s6, s7, s8⟩
          go_simp
          with_reducible rfl
         rotate_left
         ·simp only [Act.put, s1_, s2_, s3_, i64_w, i32_w]
          rfl
         refine one_ (i := 18) (N := some 37) #[true, true, true, true, true, true, true, true, true, true, true, true, true, true, true, true, true, true, true, false, false, false, false, false, false, false, false, false, false, false, false, false, false] rfl rfl (one_of HT_.out (by kernel_rfl)) (by decide) (fun K hK => ?_)
         refine goes_ Tryd.func29 (by kernel_rfl) rfl #[.int .i64 0] (by rfl) rfl rfl mp_ ?_
         with_reducible refine (rational_Int.calls k 0 t518 t519 t520 _ A12.out).mono ?_
         rintro e w28 ⟨rfl, hb⟩
         have HS0_ := (hb.cell (World.block_lt_of_cell? _ _ (hHeld.1))).trans (hHeld.1)
         have HS1_ := (hb.cell (World.block_lt_of_cell? _ _ (hHeld.2.1))).trans (hHeld.2.1)
         have HS2_ := (hb.cell (World.block_lt_of_cell? _ _ (hHeld.2.2.1))).trans (hHeld.2.2.1)
         have HS3_ := (hb.cell (World.block_lt_of_cell? _ _ (hHeld.2.2.2.1))).trans (hHeld.2.2.2.1)
         have HS4_ := (hb.cell (World.block_lt_of_cell? _ _ (hHeld.2.2.2.2.1))).trans (hHeld.2.2.2.2.1)
         have HS5_ := (hb.cell (World.block_lt_of_cell? _ _ (hHeld.2.2.2.2.2.1))).trans (hHeld.2.2.2.2.2.1)
         have HS6_ := (hb.cell (World.block_lt_of_cell? _ _ (hHeld.2.2.2.2.2.2.1))).trans (hHeld.2.2.2.2.2.2.1)
         have HS7_ := (hb.cell (World.block_lt_of_cell? _ _ (hHeld.2.2.2.2.2.2.2.1))).trans (hHeld.2.2.2.2.2.2.2.1)
         have HS8_ := (hb.cell (World.block_lt_of_cell? _ _ (hHeld.2.2.2.2.2.2.2.2))).trans (hHeld.2.2.2.2.2.2.2.2)
         refine ⟨_, rfl, ?_⟩
         have n0_ := A0_.mk (Kd.R_below (xR_ HO507.out) hb)
         have n1_ := A0_.mk (Kd.R_below (xR_ HO511.out) hb)
         have n2_ := A0_.mk (bT_ (xB_ HB) hb)
         clear HO507
         clear HO511
         clear HB
         have HO507 := n0_
         have HO511 := n1_
         have HB := n2_
         clear n0_ n1_ n2_
         (try clear hb)
         (try clear hb2)
         (try clear hk)
         (try clear hi)
         refine hK.out _ _ ⟨HS0_, HS1_, HS2_, HS3_, HS4_, HS5_, HS6_, HS7_, HS8_⟩ (fun hHeld => ?_)
         clear hK K
         refine norm_ (a' := ?_) ?_ ?_
         rotate_left
         ·show Act.put _ (some 37) _ = _
          simp only [Act.put, s1_, s2_, s3_, i64_w, i32_w]
          rfl
         refine pure_ (i := 19) (N := some 38) (v := ?_) (a' := ?_) #[true, true, true, true, true, true, true, true, true, true, true, true, true, true, true, true, true, true, true, true, false, false, false, false, false, false, false, false, false, false, false, false, false] rfl rfl (any_of HT_.out (by kernel_rfl)) (fun _ _ _ h => h) (Or.inl ⟨by rfl, ?_⟩) ?_ ?_
         rotate_left
         ·intro w'
          go_simp
          with_reducible rfl
         rotate_left
         ·simp only [Act.put, s1_, s2_, s3_, i64_w, i32_w]
          rfl
         refine pure_ (i := 20) (N := some 39) (v := ?_) (a' := ?_) #[true, true, true, true, true, true, true, true, true, true, true, true, true, true, true, true, true, true, true, true, true, false, false, false, false, false, false, false, false, false, false, false, false] rfl rfl (any_of HT_.out (by kernel_rfl)) (fun _ _ _ h => h) (Or.inl ⟨by rfl, ?_⟩) ?_ ?_
         rotate_left
         ·intro w'
          go_simp
          with_reducible rfl
         rotate_left
         ·simp only [Act.put, s1_, s2_, s3_, i64_w, i32_w]
          rfl
         refine pure_ (i := 21) (N := some 40) (v := ?_) (a' := ?_) #[true, true, true, true, true, true, true, true, true, true, true, true, true, true, true, true, true, true, true, true, true, true, false, false, false, false, false, false, false, false, false, false, false] rfl rfl (any_of HT_.out (by kernel_rfl)) (fun _ _ _ h => h) (Or.inl ⟨by rfl, ?_⟩) ?_ ?_
         rotate_left
         ·intro w'
          go_simp
          with_reducible rfl
         rotate_left
         ·simp only [Act.put, s1_, s2_, s3_, i64_w, i32_w]
          rfl
         refine pure_ (i := 22) (N := some 41) (v := ?_) (a' := ?_) #[true, true, true, true, true, true, true, true, true, true, true, true, true, true, true, true, true, true, true, true, true, true, true, false, false, false, false, false, false, false, false, false, false] rfl rfl (any_of HT_.out (by kernel_rfl)) (fun _ _ _ h => h) (Or.inl ⟨by rfl, ?_⟩) ?_ ?_
         rotate_left
         ·intro w'
          go_simp
          with_reducible rfl
         rotate_left
         ·simp only [Act.put, s1_, s2_, s3_, i64_w, i32_w]
          rfl
         refine pure_ (i := 23) (N := some 42) (v := ?_) (a' := ?_) #[true, true, true, true, true, true, true, true, true, true, true, true, true, true, true, true, true, true, true, true, true, true, true, true, false, false, false, false, false, false, false, false, false] rfl rfl (any_of HT_.out (by kernel_rfl)) (fun _ _ _ h => h) (Or.inl ⟨by rfl, ?_⟩) ?_ ?_
         rotate_left
         ·intro w'
          go_simp
          with_reducible rfl
         rotate_left
         ·simp only [Act.put, s1_, s2_, s3_, i64_w, i32_w]
          rfl
         refine take_ (i := 24) (N := some 43) (v := ?_) (a' := ?_) #[true, true, true, true, true, true, true, true, true, true, true, true, true, true, true, true, true, true, true, true, true, true, true, true, true, false, false, false, false, false, false, false, false] rfl rfl (take_ofW HT_.out HW_.out (by kernel_rfl)) (fun _ _ _ h => h) (Or.inl ⟨by rfl, ?_⟩) hHeld ?_ ?_
         rotate_left
         ·rintro w' ⟨s0, s1, s2, s3, s4, s5, s6, s7, s8⟩
          go_simp
          with_reducible rfl
         rotate_left
         ·simp only [Act.put, s1_, s2_, s3_, i64_w, i32_w]
          rfl
         refine one_ (i := 25) (N := some 44) #[true, true, true, true, true, true, true, true, true, true, true, true, true, true, true, true, true, true, true, true, true, true, true, true, true, true, false, false, false, false, false, false, false] rfl rfl (one_of HT_.out (by kernel_rfl)) (by decide) (fun K hK => ?_)
         refine goes_ Tryd.func29 (by kernel_rfl) rfl #[.int .i64 0] (by rfl) rfl rfl mp_ ?_
         with_reducible refine (rational_Int.calls k 0 t522 t523 t524 _ A15.out).mono ?_
         rintro e w29 ⟨rfl, hb⟩
         have HS0_ := (hb.cell (World.block_lt_of_cell? _ _ (hHeld.1))).trans (hHeld.1)
         have HS1_ := (hb.cell (World.block_lt_of_cell? _ _ (hHeld.2.1))).trans (hHeld.2.1)
         have HS2_ := (hb.cell (World.block_lt_of_cell? _ _ (hHeld.2.2.1))).trans (hHeld.2.2.1)
         have HS3_ := (hb.cell (World.block_lt_of_cell? _ _ (hHeld.2.2.2.1))).trans (hHeld.2.2.2.1)
         have HS4_ := (hb.cell (World.block_lt_of_cell? _ _ (hHeld.2.2.2.2.1))).trans (hHeld.2.2.2.2.1)
         have HS5_ := (hb.cell (World.block_lt_of_cell? _ _ (hHeld.2.2.2.2.2.1))).trans (hHeld.2.2.2.2.2.1)
         have HS6_ := (hb.cell (World.block_lt_of_cell? _ _ (hHeld.2.2.2.2.2.2.1))).trans (hHeld.2.2.2.2.2.2.1)
         have HS7_ := (hb.cell (World.block_lt_of_cell? _ _ (hHeld.2.2.2.2.2.2.2.1))).trans (hHeld.2.2.2.2.2.2.2.1)
         have HS8_ := (hb.cell (World.block_lt_of_cell? _ _ (hHeld.2.2.2.2.2.2.2.2))).trans (hHeld.2.2.2.2.2.2.2.2)
         refine ⟨_, rfl, ?_⟩
         have n0_ := A0_.mk (Kd.R_below (xR_ HO507.out) hb)
         have n1_ := A0_.mk (Kd.R_below (xR_ HO511.out) hb)
         have n2_ := A0_.mk (bT_ (xB_ HB) hb)
         clear HO507
         clear HO511
         clear HB
         have HO507 := n0_
         have HO511 := n1_
         have HB := n2_
         clear n0_ n1_ n2_
         (try clear hb)
         (try clear hb2)
         (try clear hk)
         (try clear hi)
         refine hK.out _ _ ⟨HS0_, HS1_, HS2_, HS3_, HS4_, HS5_, HS6_, HS7_, HS8_⟩ (fun hHeld => ?_)
         clear hK K
         refine norm_ (a' := ?_) ?_ ?_
         rotate_left
         ·show Act.put _ (some 44) _ = _
          simp only [Act.put, s1_, s2_, s3_, i64_w, i32_w]
          rfl
         refine pure_ (i := 26) (N := some 45) (v := ?_) (a' := ?_) #[true, true, true, true, true, true, true, true, true, true, true, true, true, true, true, true, true, true, true, true, true, true, true, true, true, true, true, false, false, false, false, false, false] rfl rfl (any_of HT_.out (by kernel_rfl)) (fun _ _ _ h => h) (Or.inl ⟨by rfl, ?_⟩) ?_ ?_
         rotate_left
         ·intro w'
          go_simp
          with_reducible rfl
         rotate_left
         ·simp only [Act.put, s1_, s2_, s3_, i64_w, i32_w]
          rfl
         refine pure_ (i := 27) (N := some 46) (v := ?_) (a' := ?_) #[true, true, true, true, true, true, true, true, true, true, true, true, true, true, true, true, true, true, true, true, true, true, true, true, true, true, true, true, false, false, false, false, false] rfl rfl (any_of HT_.out (by kernel_rfl)) (fun _ _ _ h => h) (Or.inl ⟨by rfl, ?_⟩) ?_ ?_
         rotate_left
         ·intro w'
          go_simp
          with_reducible rfl
         rotate_left
         ·simp only [Act.put, s1_, s2_, s3_, i64_w, i32_w]
          rfl
         refine pure_ (i := 28) (N := some 47) (v := ?_) (a' := ?_) #[true, true, true, true, true, true, true, true, true, true, true, true, true, true, true, true, true, true, true, true, true, true, true, true, true, true, true, true, true, false, false, false, false] rfl rfl (any_of HT_.out (by kernel_rfl)) (fun _ _ _ h => h) (Or.inl ⟨by rfl, ?_⟩) ?_ ?_
         rotate_left
         ·intro w'
          go_simp
          with_reducible rfl
         rotate_left
         ·simp only [Act.put, s1_, s2_, s3_, i64_w, i32_w]
          rfl
         refine pure_ (i := 29) (N := some 48) (v := ?_) (a' := ?_) #[true, true, true, true, true, true, true, true, true, true, true, true, true, true, true, true, true, true, true, true, true, true, true, true, true, true, true, true, true, true, false, false, false] rfl rfl (any_of HT_.out (by kernel_rfl)) (fun _ _ _ h => h) (Or.inl ⟨by rfl, ?_⟩) ?_ ?_
         rotate_left
         ·intro w'
          go_simp
          with_reducible rfl
         rotate_left
         ·simp only [Act.put, s1_, s2_, s3_, i64_w, i32_w]
          rfl
         refine pure_ (i := 30) (N := some 49) (v := ?_) (a' := ?_) #[true, true, true, true, true, true, true, true, true, true, true, true, true, true, true, true, true, true, true, true, true, true, true, true, true, true, true, true, true, true, true, false, false] rfl rfl (any_of HT_.out (by kernel_rfl)) (fun _ _ _ h => h) (Or.inl ⟨by rfl, ?_⟩) ?_ ?_
         rotate_left
         ·intro w'
          go_simp
          with_reducible rfl
         rotate_left
         ·simp only [Act.put, s1_, s2_, s3_, i64_w, i32_w]
          rfl
         refine pure_ (i := 31) (N := some 50) (v := ?_) (a' := ?_) #[true, true, true, true, true, true, true, true, true, true, true, true, true, true, true, true, true, true, true, true, true, true, true, true, true, true, true, true, true, true, true, true, false] rfl rfl (any_of HT_.out (by kernel_rfl)) (fun _ _ _ h => h) (Or.inl ⟨by rfl, ?_⟩) ?_ ?_
         rotate_left
         ·intro w'
          go_simp
          with_reducible rfl
         rotate_left
         ·simp only [Act.put, s1_, s2_, s3_, i64_w, i32_w]
          rfl
         refine pure_ (i := 32) (N := some 0) (v := ?_) (a' := ?_) #[true, true, true, true, true, true, true, true, true, true, true, true, true, true, true, true, true, true, true, true, true, true, true, true, true, true, true, true, true, true, true, true, true] rfl rfl (any_of HT_.out (by kernel_rfl)) (fun _ _ _ h => h) (Or.inl ⟨by rfl, ?_⟩) ?_ ?_
         rotate_left
         ·intro w'
          go_simp
          with_reducible rfl
         rotate_left
         ·simp only [Act.put, s1_, s2_, s3_, i64_w, i32_w]
          rfl
         refine done_ (done_of HT_.out (by kernel_rfl)) ?_
         try go_wp2
         go_ret
         exact ⟨rE_, xB_ HB⟩
        ·rw [if_neg c16] at H
         exact absurd H (by simp)
       ·rw [if_neg c14] at H
        exact absurd H (by simp)
      ·rw [if_neg c13] at H
       exact absurd H (by simp)
     ·rw [if_neg c11] at H
      exact absurd H (by simp)
    ·rw [if_neg c10] at H
     exact absurd H (by simp)
   ·rw [if_neg c8] at H
    exact absurd H (by simp)
  ·rw [if_neg c7] at H
   exact absurd H (by simp)
 ·rw [if_neg c6] at H
  exact absurd H (by simp)
def insolvencyref1_SameRats.l0 : Nat → List (S26) → List (S26) → Int → Option (Bool)
 | 0, _, _, _ => none
 | k + 1, x0, x1, x5 => if x5 < (x0.length : Int) then (if 0 ≤ x5 then (if x5 < (x1.length : Int) then (if (!(((rd_T26 x0 x5).f0) == ((rd_T26 x1 x5).f0)) || (!((((rd_T26 x0 x5).f1).toList) == (((rd_T26 x1 x5).f1).toList)) || (!((((rd_T26 x0 x5).f2).toList) == (((rd_T26 x1 x5).f2).toList))))) = true then (some false) else (insolvencyref1_SameRats.l0 k x0 x1 (wrap64 (x5 + 1)))) else (none)) else (none)) else (some true)
def insolvencyref1_SameRats.f (k : Nat) (l0 : List (S26)) (l1 : List (S26)) : Option (Bool) := if (l0.length : Int) = (l1.length : Int) then (insolvencyref1_SameRats.l0 k l0 l1 0) else (some false)
set_option maxHeartbeats 8000000 in
set_option maxRecDepth 100000 in
theorem insolvencyref1_SameRats.calls (k : Nat) (A0 : Option Addr) (c0 : Nat) (l0 : List (S26)) (A1 : Option Addr) (c1 : Nat) (l1 : List (S26)) (r : Bool) (w : World) (hr0 : Kd.C k26 w A0 l0.length l0) (hc0 : l0.length ≤ c0) (hr1 : Kd.C k26 w A1 l1.length l1) (hc1 : l1.length ≤ c1) (h : insolvencyref1_SameRats.f k l0 l1 = some r) :
  Calls Tryd.prog 22 #[.slice A0 l0.length c0, .slice A1 l1.length c1] w fun e w' => e = .returned (.bool r) ∧ Drawn0 w w' := by
 have hu26 := Tryd.underlying26
 have HR0 := A0_.mk hr0
 have HC0 := A0_.mk hc0
 clear hr0 hc0
 have HR1 := A0_.mk hr1
 have HC1 := A0_.mk hc1
 clear hr1 hc1
 have H := h
 unfold insolvencyref1_SameRats.f at H
 clear h
 by_cases c3 : (l0.length : Int) = (l1.length : Int)
 ·rw [if_pos c3] at H
  have c3b0 : ((l0.length : Int) == (l1.length : Int)) = true := beq_iff_eq.mpr c3
  have c3b1 : ((l0.length : Int) != (l1.length : Int)) = false := bne_eq_false_iff_eq.mpr c3
  have c3b2 : (l0.length == l1.length) = true := by first | simpa using c3 | (simp at c3 ⊢; omega)
  clear c3
  have H' := A0_.mk H
  clear H
  go_enter Tryd.func22, Tryd.ntmps22
  go_wp2
  repeat (go_quiet (fail); try go_wp2)
  go_loopg [5] k (fun kq v5 w' => ∃ (x5_1 : Int), v5 = .int .i64 x5_1 ∧ A0_ (insolvencyref1_SameRats.l0 kq l0 l1 x5_1 = some r) ∧ A0_ (kq ≤ k) ∧ Drawn0 w w')
  case atStart => exact ⟨(0), (by first | rfl | (simp; done) | (simp [*]; done)), H', ⟨Nat.le_refl _⟩, by repeat (first | exact Drawn0.refl _ | apply Drawn0.step)⟩
  case round =>
   clear H'
   try clear c1
   try clear c2
   try clear p2
   try clear c3
   try clear c3b0
   try clear c3b1
   try clear c3b2
   obtain ⟨x5_1, rfl, HA, HK1, ⟨m1, rfl⟩⟩ := hrel
   cases gk with
   | zero => exact absurd HA.out (by simp [insolvencyref1_SameRats.l0])
   | succ k1 =>
    have H := HA.out
    clear HA
    simp only [insolvencyref1_SameRats.l0] at H
    by_cases c4 : x5_1 < (l0.length : Int)
    ·rw [if_pos c4] at H
     have c4b0 : decide (x5_1 < (l0.length : Int)) = true := decide_eq_true c4
     clear c4
     by_cases c5 : 0 ≤ x5_1
     ·rw [if_pos c5] at H
      have c5b0 : decide (0 ≤ x5_1) = true := decide_eq_true c5
      clear c5
      by_cases c6 : x5_1 < (l1.length : Int)
      ·rw [if_pos c6] at H
       have c6b0 : decide (x5_1 < (l1.length : Int)) = true := decide_eq_true c6
       clear c6
       by_cases c7 : (!(((rd_T26 l0 x5_1).f0) == ((rd_T26 l1 x5_1).f0)) || (!((((rd_T26 l0 x5_1).f1).toList) == (((rd_T26 l1 x5_1).f1).toList)) || (!((((rd_T26 l0 x5_1).f2).toList) == (((rd_T26 l1 x5_1).f2).toList))))) = true
       ·rw [if_pos c7] at H
        have c7b0 : (!(((rd_T26 l0 x5_1).f0) == ((rd_T26 l1 x5_1).f0)) || (!((((rd_T26 l0 x5_1).f1).toList) == (((rd_T26 l1 x5_1).f1).toList)) || (!((((rd_T26 l0 x5_1).f2).toList) == (((rd_T26 l1 x5_1).f2).toList))))) = true := c7
        clear c7
        obtain rfl := Option.some.inj H
        have p838 : 0 ≤ (x5_1 : Int) := of_decide_eq_true aS_
        have q838 : x5_1 < (l0.length : Int) := of_decide_eq_true aS_
        obtain ⟨ad838, e838, hx838_0, hx838_1, hx838_2⟩ := at_T26 HR0.out x5_1 p838 q838
        cases e838
        replace p838 := eq_true p838
        replace q838 := eq_true q838
        have p839 : 0 ≤ (x5_1 : Int) := of_decide_eq_true aS_
        have q839 : x5_1 < (l1.length : Int) := of_decide_eq_true aS_
        obtain ⟨ad839, e839, hx839_0, hx839_1, hx839_2⟩ := at_T26 HR1.out x5_1 p839 q839
        cases e839
        replace p839 := eq_true p839
        replace q839 := eq_true q839
        go_wp2
        repeat (go_quiet (fail); try go_wp2)
        go_ret
        exact ⟨by first | rfl | (simp; done) | (simp [*]; done), by repeat (first | exact Drawn0.refl _ | apply Drawn0.step)⟩
       ·rw [if_neg c7] at H
        have c7b0 : (!(((rd_T26 l0 x5_1).f0) == ((rd_T26 l1 x5_1).f0)) || (!((((rd_T26 l0 x5_1).f1).toList) == (((rd_T26 l1 x5_1).f1).toList)) || (!((((rd_T26 l0 x5_1).f2).toList) == (((rd_T26 l1 x5_1).f2).toList))))) = false := by simpa using c7
        clear c7
        have H' := A0_.mk H
        clear H
        have p838 : 0 ≤ (x5_1 : Int) := of_decide_eq_true aS_
        have q838 : x5_1 < (l0.length : Int) := of_decide_eq_true aS_
        obtain ⟨ad838, e838, hx838_0, hx838_1, hx838_2⟩ := at_T26 HR0.out x5_1 p838 q838
        cases e838
        replace p838 := eq_true p838
        replace q838 := eq_true q838
        have p839 : 0 ≤ (x5_1 : Int) := of_decide_eq_true aS_
        have q839 : x5_1 < (l1.length : Int) := of_decide_eq_true aS_
        obtain ⟨ad839, e839, hx839_0, hx839_1, hx839_2⟩ := at_T26 HR1.out x5_1 p839 q839
        cases e839
        replace p839 := eq_true p839
        replace q839 := eq_true q839
        go_wp2
        repeat (go_quiet (fail); try go_wp2)
        (try simp only [add_plain])
        go_roundg k1
        case measure => have := HK1.out; omega
        case rel => exact ⟨(wrap64 (x5_1 + 1)), (by first | rfl | (simp; done) | (simp [*]; done)), H', ⟨by have := HK1.out; omega⟩, by repeat (first | exact Drawn0.refl _ | apply Drawn0.step)⟩
      ·rw [if_neg c6] at H
       exact absurd H (by simp)
     ·rw [if_neg c5] at H
      exact absurd H (by simp)
    ·rw [if_neg c4] at H
     have c4b0 : decide (x5_1 < (l0.length : Int)) = false := decide_eq_false c4
     clear c4
     obtain rfl := Option.some.inj H
     go_wp2
     repeat (go_quiet (fail); try go_wp2)
     go_ret
     exact ⟨by first | rfl | (simp; done) | (simp [*]; done), by repeat (first | exact Drawn0.refl _ | apply Drawn0.step)⟩
 ·rw [if_neg c3] at H
  have c3b0 : ((l0.length : Int) == (l1.length : Int)) = false := beq_eq_false_iff_ne.mpr c3
  have c3b1 : ((l0.length : Int) != (l1.length : Int)) = true := bne_iff_ne.mpr c3
  have c3b2 : (l0.length == l1.length) = false := by first | simpa using c3 | (simp at c3 ⊢; omega)
  obtain rfl := Option.some.inj H
  go_enter Tryd.func22, Tryd.ntmps22
  go_wp2
  repeat (go_quiet (fail); try go_wp2)
  go_ret
  exact ⟨by first | rfl | (simp; done) | (simp [*]; done), by repeat (first | exact Drawn0.refl _ | apply Drawn0.step)⟩
end Go.Proofs.YtnegkpnhjgimcaaDoor.C
end
section
namespace Go.Proofs.YtnegkpnhjgimcaaDoor.C
open Go.RowKit Go.Proofs.YtnegkpnhjgimcaaDoorW.PrintWords Go.Proofs.YtnegkpnhjgimcaaDoorW.PrintLast Go.Proofs.YtnegkpnhjgimcaaDoorW.PrintMore
attribute [local go_sem] max2_int min2_int max_two min_two max_three min_three max_four min_four
set_option linter.unusedVariables false
set_option linter.unusedSimpArgs false
mutual
def insolvencylaw14_SetoffTwice.j0 : Nat → Int → Int → List (S28) → List (S26) → Bool → Option (Bool)
 | 0, _, _, _, _, _ => none
 | k + 1, x1, x2, x7, x8, x33 => if x33 = true then (none) else (insolvencylaw14_SetoffTwice.l0 k x1 x2 x7 x8 (x7.length : Int) 0)
def insolvencylaw14_SetoffTwice.l0 : Nat → Int → Int → List (S28) → List (S26) → Int → Int → Option (Bool)
 | 0, _, _, _, _, _, _ => none
 | k + 1, x1, x2, x7, x8, x35, x36 => if x36 < x35 then (if 0 ≤ x36 then (if x36 < (x8.length : Int) then (if x36 < (x7.length : Int) then (insolvencylaw14_SetoffTwice.l0 k x1 x2 (x7.set (x36 : Int).toNat (⟨(rd_T28 x7 x36).f0, (rd_T28 x7 x36).f1, (⟨(rd_T26 x8 x36).f0, (rd_T26 x8 x36).f1, (rd_T26 x8 x36).f2⟩ : S26), (rd_T28 x7 x36).f3, (rd_T28 x7 x36).f4, (rd_T28 x7 x36).f5⟩ : S28)) x8 x35 (wrap64 (x36 + 1))) else (none)) else (none)) else (none)) else ((setoff_Apply.f k 4 x7 (wrap64 (x1)) (wrap64 (Int.tmod x2 40))).bind fun bt849 => ((insolvencylaw14_awake.f k).bind fun t853 => (if t853 = true then (if bt849.2 = 0 then ((insolvencyref1_SameRats.f k x8 bt849.1).bind fun t854 => (some t854)) else (none)) else (none))))
end
def insolvencylaw14_SetoffTwice.f (k : Nat) (l0 : List (S46)) (a1 : Int) (a2 : Int) : Option (Bool) := (insolvencylaw0_Obligations.f k l0).bind fun t840 => ((setoff_Apply.f k 4 t840 (wrap64 (a1)) (wrap64 (Int.tmod a2 40))).bind fun bt843 => (if bt843.2 = 0 then (insolvencylaw14_SetoffTwice.j0 k a1 a2 t840 bt843.1 ((bt843.1.length : Int) != (t840.length : Int))) else (insolvencylaw14_SetoffTwice.j0 k a1 a2 t840 bt843.1 true)))
set_option maxHeartbeats 8000000 in
set_option maxRecDepth 100000 in
theorem insolvencylaw14_SetoffTwice.calls (k : Nat) (A0 : Option Addr) (c0 : Nat) (l0 : List (S46)) (a1 : Int) (a2 : Int) (r : Bool) (w : World) (hr0 : Kd.C k46 w A0 l0.length l0) (hc0 : l0.length ≤ c0) (h : insolvencylaw14_SetoffTwice.f k l0 a1 a2 = some r) :
  Calls Tryd.prog 6 #[.slice A0 l0.length c0, .int .u8 a1, .int .u8 a2] w fun e w' => e = .returned (.bool r) ∧ Below w.heap.size w w' := by
 have hu26 := Tryd.underlying26
 have HR0 := A0_.mk hr0
 have HC0 := A0_.mk hc0
 clear hr0 hc0
 have HB := A0_.mk (Below.refl w.heap.size w)
 have H := h
 unfold insolvencylaw14_SetoffTwice.f at H
 clear h
 replace H := Option.bind_eq_some_iff.mp H
 obtain ⟨t840, A40, H⟩ := H
 (try dsimp only at H)
 have A4 := A0_.mk A40
 clear A40
 replace H := Option.bind_eq_some_iff.mp H
 obtain ⟨⟨t843, t844⟩, A50, H⟩ := H
 (try dsimp only at H)
 have A5 := A0_.mk A50
 clear A50
 have HC6 := A0_.mk H
 clear H
 go_enter Tryd.func6, Tryd.ntmps6
 go_upto_region 3 with (first | ((with_reducible refine gC_ (f := 17) rfl ?_); refine goesL_ (some 14) rfl rfl Tryd.func17 (by kernel_rfl) rfl #[.slice A0 l0.length c0] rfl mp_ ?_; (with_reducible refine (insolvencylaw0_Obligations.calls k _ _ l0 t840 _ ?side1 ?side2 A4.out).mono ?_); (case side1 => repeat (first | exact HR0.out | (with_reducible refine Kd.C_alloc ?_ _) | (with_reducible refine Kd.C_drewN ?_ _) | (with_reducible refine Kd.C_drew ?_))); (case side2 => exact HC0.out); rintro e w7 ⟨v841, rfl, ho0, hb⟩; refine ⟨_, rfl, ?_⟩; have n0_ := A0_.mk (Kd.R_lower ho0 (bZ_ (xB_ HB))); have n1_ := A0_.mk (bT_ (xB_ HB) hb); clear HB; have HO842 := n0_; have HB := n1_; clear n0_ n1_; (try clear hb); (try clear hb2); (try clear hk); (try clear hi); (try clear ho0); obtain ⟨Ao8, co8, eo8⟩ := Kd.R_slice HO842.out; subst eo8) | ((with_reducible refine gC_ (f := 18) rfl ?_); refine goesL_ (some 22) rfl rfl Tryd.func18 (by kernel_rfl) rfl #[.int .i64 4, .slice Ao8 t840.length co8, .int .i64 (wrap64 (a1)), .int .i64 (wrap64 (Int.tmod a2 40))] rfl mp_ ?_; (with_reducible refine (setoff_Apply.calls k 4 _ _ t840 (wrap64 (a1)) (wrap64 (Int.tmod a2 40)) t843 t844 _ ?side1 ?side2 A5.out).mono ?_); (case side1 => repeat (first | exact (Kd.R_reads' HO842.out).2.2 | (with_reducible refine Kd.C_alloc ?_ _) | (with_reducible refine Kd.C_drewN ?_ _) | (with_reducible refine Kd.C_drew ?_))); (case side2 => exact (Kd.R_reads' HO842.out).2.1); rintro e w9 ⟨v845, rfl, ho0, hb⟩; refine ⟨_, rfl, ?_⟩; have n0_ := A0_.mk (Kd.R_below (xR_ HO842.out) hb); have n1_ := A0_.mk (Kd.R_lower ho0 (bZ_ (xB_ HB))); have n2_ := A0_.mk (bT_ (xB_ HB) hb); clear HO842 HB; have HO842 := n0_; have HO846 := n1_; have HB := n2_; clear n0_ n1_ n2_; (try clear hb); (try clear hb2); (try clear hk); (try clear hi); (try clear ho0)))
 (try simp only [Act.put, s1_, s2_, s3_])
 go_cut [33] (fun v33 wc => ∃ (kq : Nat) (x33_5 : Bool), v33 = .bool x33_5 ∧ A0_ (insolvencylaw14_SetoffTwice.j0 kq a1 a2 t840 t843 x33_5 = some r) ∧ A0_ (kq ≤ k) ∧ A0_ (Kd.R k28 28 wc w.heap.size (fun _ => True) (.slice Ao8 t840.length co8) t840) ∧ A0_ (Kd.R k26 26 wc w.heap.size (fun _ => True) v845 t843) ∧ A0_ (Below w.heap.size w wc))
 case first =>
  have H := HC6.out
  clear HC6
  by_cases c10 : t844 = 0
  ·rw [if_pos c10] at H
   have c10b0 : (t844 == 0) = true := beq_iff_eq.mpr c10
   have c10b1 : (t844 != 0) = false := bne_eq_false_iff_eq.mpr c10
   clear c10
   (first | rw [c10b0] | rw [c10b1] | (simp only [i64_w, i32_w]; rw [c10b0]) | skip)
   have H' := A0_.mk H
   clear H
   obtain ⟨Ao11, co11, eo11⟩ := Kd.R_slice HO846.out
   subst eo11
   go_wp2
   go_meet
   case rel => exact ⟨_, (((t843.length : Int) != (t840.length : Int))), (by first | rfl | (simp; done) | (simp [*]; done)), H', ⟨by first | omega | exact Nat.le_refl _⟩, ⟨by (with_reducible repeat (first | apply Kd.R_alloc | apply Kd.R_drewN | apply Kd.R_drew)); exact HO842.out⟩, ⟨by (with_reducible repeat (first | apply Kd.R_alloc | apply Kd.R_drewN | apply Kd.R_drew)); exact HO846.out⟩, ⟨xB_ HB⟩⟩
  ·rw [if_neg c10] at H
   have c10b0 : (t844 == 0) = false := beq_eq_false_iff_ne.mpr c10
   have c10b1 : (t844 != 0) = true := bne_iff_ne.mpr c10
   (first | rw [c10b0] | rw [c10b1] | (simp only [i64_w, i32_w]; rw [c10b0]) | skip)
   have H' := A0_.mk H
   clear H
   go_wp2
   go_meet
   case rel => exact ⟨_, (true), (by first | rfl | (simp; done) | (simp [*]; done)), H', ⟨by first | omega | exact Nat.le_refl _⟩, ⟨by (with_reducible repeat (first | apply Kd.R_alloc | apply Kd.R_drewN | apply Kd.R_drew)); exact HO842.out⟩, ⟨by (with_reducible repeat (first | apply Kd.R_alloc | apply Kd.R_drewN | apply Kd.R_drew)); exact HO846.out⟩, ⟨xB_ HB⟩⟩
 case rest =>
  clear HC6
  try clear c1
  try clear p2
  try clear c6
  try clear p6
  try clear c10
  try clear c10b0
  try clear c10b1
  obtain ⟨kq, x33_5, rfl, HA, HJ5, HO_7, HO_8, HB⟩ := hcut
  cases kq with
  | zero => exact absurd HA.out (by simp [insolvencylaw14_SetoffTwice.j0])
  | succ kj5 =>
   have H := HA.out
   clear HA
   simp only [insolvencylaw14_SetoffTwice.j0] at H
   by_cases c12 : x33_5 = true
   ·subst c12
    have H1 : (none) = some r := by rw [if_pos rfl] at H; exact H
    exact absurd H1 (by simp)
   ·replace c12 := Bool.eq_false_iff.mpr c12
    subst c12
    have H1 : (insolvencylaw14_SetoffTwice.l0 kj5 a1 a2 t840 t843 (t840.length : Int) 0) = some r := by rw [if_neg (show ¬ (false = true) by decide)] at H; exact H
    clear H
    have H := H1
    clear H1
    have H' := A0_.mk H
    clear H
    go_wp2
    go_loopg [36] kj5 (fun kq v36 w' => ∃ (x7_2 : List (S28)) (x36_2 : Int), v36 = .int .i64 x36_2 ∧ A0_ (insolvencylaw14_SetoffTwice.l0 kq a1 a2 x7_2 t843 (t840.length : Int) x36_2 = some r) ∧ A0_ (kq ≤ kj5) ∧ A0_ (Kd.R k28 28 w' w.heap.size (fun _ => True) (.slice Ao8 t840.length co8) x7_2) ∧ A0_ (Kd.R k26 26 w' w.heap.size (fun _ => True) v845 t843) ∧ A0_ (Below w.heap.size w w'))
    case atStart => exact ⟨(t840), (0), (by first | rfl | (simp; done) | (simp [*]; done)), H', ⟨Nat.le_refl _⟩, ⟨by (with_reducible repeat (first | apply Kd.R_alloc | apply Kd.R_drewN | apply Kd.R_drew)); exact HO_7.out⟩, ⟨by (with_reducible repeat (first | apply Kd.R_alloc | apply Kd.R_drewN | apply Kd.R_drew)); exact HO_8.out⟩, ⟨xB_ HB⟩⟩
    case round =>
     clear H'
     try clear c1
     try clear p2
     try clear c6
     try clear p6
     try clear c10
     try clear c10b0
     try clear c10b1
     try clear c12
     try clear p2
     try clear p6
     obtain ⟨x7_2, x36_2, rfl, HA, HK2, HO_7, HO_8, HB⟩ := hrel
     have hl7_2 := (Kd.R_reads' HO_7.out).1
     rw [hl7_2] at HO_7
     (try simp only [hl7_2])
     (try simp only [hl7_2] at HO_8)
     cases gk with
     | zero => exact absurd HA.out (by simp [insolvencylaw14_SetoffTwice.l0])
     | succ k2 =>
      have H := HA.out
      clear HA
      simp only [insolvencylaw14_SetoffTwice.l0] at H
      by_cases c13 : x36_2 < (t840.length : Int)
      ·rw [if_pos c13] at H
       have c13b0 : decide (x36_2 < (t840.length : Int)) = true := decide_eq_true c13
       (try (have c13h0 := c13b0; simp only [hl7_2] at c13h0))
       clear c13
       by_cases c14 : 0 ≤ x36_2
       ·rw [if_pos c14] at H
        have c14b0 : decide (0 ≤ x36_2) = true := decide_eq_true c14
        clear c14
        by_cases c15 : x36_2 < (t843.length : Int)
        ·rw [if_pos c15] at H
         have c15b0 : decide (x36_2 < (t843.length : Int)) = true := decide_eq_true c15
         (try (have c15h0 := c15b0; simp only [hl7_2] at c15h0))
         clear c15
         by_cases c16 : x36_2 < (x7_2.length : Int)
         ·rw [if_pos c16] at H
          have c16b0 : decide (x36_2 < (x7_2.length : Int)) = true := decide_eq_true c16
          (try (have c16h0 := c16b0; simp only [hl7_2] at c16h0))
          clear c16
          obtain ⟨y848, hy848⟩ : ∃ y_ : List (S28), y_ = (x7_2.set (x36_2 : Int).toNat (⟨(rd_T28 x7_2 x36_2).f0, (rd_T28 x7_2 x36_2).f1, (⟨(rd_T26 t843 x36_2).f0, (rd_T26 t843 x36_2).f1, (rd_T26 t843 x36_2).f2⟩ : S26), (rd_T28 x7_2 x36_2).f3, (rd_T28 x7_2 x36_2).f4, (rd_T28 x7_2 x36_2).f5⟩ : S28)) := ⟨_, rfl⟩
          replace H : (insolvencylaw14_SetoffTwice.l0 k2 a1 a2 y848 t843 (t840.length : Int) (wrap64 (x36_2 + 1))) = some r := by first | (rw [hy848]; with_reducible exact H) | (have H2_ := (Option.bind_some _ _).symm.trans H; rw [hy848]; with_reducible exact H2_) | (have H2_ := (Option.bind_some _ _).symm.trans H; with_reducible exact H2_) | with_reducible exact H | (rw [hy848]; exact H) | exact H
          have Ny848 := A0_.mk hy848
          clear hy848
          have H' := A0_.mk H
          clear H
          obtain ⟨Ao18, co18, eo18⟩ := Kd.R_slice HO_8.out
          subst eo18
          have p847 : 0 ≤ (x36_2 : Int) := of_decide_eq_true aS_
          have q847 : x36_2 < (t843.length : Int) := of_decide_eq_true aS_
          obtain ⟨ad847, e847, hx847_0, hx847_1, hx847_2⟩ := at_T26 (Kd.R_reads' HO_8.out).2.2 x36_2 p847 q847
          cases e847
          replace p847 := eq_true p847
          replace q847 := eq_true q847
          have p17 : 0 ≤ (x36_2 : Int) := of_decide_eq_true aS_
          have q17 : (x36_2 : Int) < ((x7_2.length : Int) : Int) := of_decide_eq_true aS_
          obtain ⟨go17, co17, eo17, gb17, gl17, cl17, HG17⟩ := Kd.R_form HO_7.out (by omega)
          (first | cases eo17 | (injection eo17 with ea_ en_ ec_; (first | subst ea_ | (injection ea_ with ea_; subst ea_)); subst ec_; clear en_))
          have GB17 := A0_.mk gb17
          have GG17 := A0_.mk HG17
          clear gb17 gl17 HG17
          obtain ⟨ce17, hcl17, hM17, hcc17, hfr17⟩ := Kd.R_elem HO_7.out z28 (x36_2 : Int) p17 q17
          obtain rfl := k28_openM hM17
          have hx17_0 : wr.cell? ⟨go17, (x36_2 : Int).toNat * 8, none⟩ = some (.int .i64 ((rd_T28 x7_2 x36_2).f0)) := hcc17 0 _ rfl
          have hx17_1 : wr.cell? ⟨go17, (x36_2 : Int).toNat * 8 + 1, none⟩ = some (.int .i64 ((rd_T28 x7_2 x36_2).f1)) := hcc17 1 _ rfl
          have hx17_2 : wr.cell? ⟨go17, (x36_2 : Int).toNat * 8 + 2, none⟩ = some (.bool ((rd_T28 x7_2 x36_2).f2.f0)) := hcc17 2 _ rfl
          have hx17_3 : wr.cell? ⟨go17, (x36_2 : Int).toNat * 8 + 3, none⟩ = some (.string ((rd_T28 x7_2 x36_2).f2.f1)) := hcc17 3 _ rfl
          have hx17_4 : wr.cell? ⟨go17, (x36_2 : Int).toNat * 8 + 4, none⟩ = some (.string ((rd_T28 x7_2 x36_2).f2.f2)) := hcc17 4 _ rfl
          have hx17_5 : wr.cell? ⟨go17, (x36_2 : Int).toNat * 8 + 5, none⟩ = some (.int .i64 ((rd_T28 x7_2 x36_2).f3)) := hcc17 5 _ rfl
          have hx17_6 : wr.cell? ⟨go17, (x36_2 : Int).toNat * 8 + 6, none⟩ = some (.int .i64 ((rd_T28 x7_2 x36_2).f4)) := hcc17 6 _ rfl
          have hx17_7 : wr.cell? ⟨go17, (x36_2 : Int).toNat * 8 + 7, none⟩ = some (.bool ((rd_T28 x7_2 x36_2).f5)) := hcc17 7 _ rfl
          have hf17_0 : wr.frozen? ⟨go17, (x36_2 : Int).toNat * 8, none⟩ = false := hfr17 0
          have hf17_1 : wr.frozen? ⟨go17, (x36_2 : Int).toNat * 8 + 1, none⟩ = false := hfr17 1
          have hf17_2 : wr.frozen? ⟨go17, (x36_2 : Int).toNat * 8 + 2, none⟩ = false := hfr17 2
          have hf17_3 : wr.frozen? ⟨go17, (x36_2 : Int).toNat * 8 + 3, none⟩ = false := hfr17 3
          have hf17_4 : wr.frozen? ⟨go17, (x36_2 : Int).toNat * 8 + 4, none⟩ = false := hfr17 4
          have hf17_5 : wr.frozen? ⟨go17, (x36_2 : Int).toNat * 8 + 5, none⟩ = false := hfr17 5
          have hf17_6 : wr.frozen? ⟨go17, (x36_2 : Int).toNat * 8 + 6, none⟩ = false := hfr17 6
          have hf17_7 : wr.frozen? ⟨go17, (x36_2 : Int).toNat * 8 + 7, none⟩ = false := hfr17 7
          clear hcl17 hcc17 hfr17 hM17
          replace p17 := eq_true p17
          replace q17 := eq_true q17
          have HX19 := A0_.mk (show Kd.R k28 28 wr w.heap.size (fun _ => True) (.slice (some ⟨go17, 0, none⟩) x7_2.length co8) x7_2 from (xR_ HO_7.out))
          obtain ⟨ce19, hcl19, hM19, hcc19, hfr19⟩ := Kd.R_elem HX19.out z28 (x36_2 : Int) (of_decide_eq_true aS_) (by have h_ : (x36_2 : Int) < ((x7_2.length : Int) : Int) := of_decide_eq_true aS_; first | exact h_ | (have e_ := (Kd.R_reads' HO_7.out).1; omega) | simpa using h_)
          obtain rfl := k28_openM hM19
          have HP19 := Kd.R_seg HX19.out (x36_2 : Int) (of_decide_eq_true aS_) (by have h_ : (x36_2 : Int) < ((x7_2.length : Int) : Int) := of_decide_eq_true aS_; first | exact h_ | (have e_ := (Kd.R_reads' HO_7.out).1; omega) | simpa using h_) (seg := [.bool ((rd_T26 t843 x36_2).f0), .string ((rd_T26 t843 x36_2).f1), .string ((rd_T26 t843 x36_2).f2)]) (j := 2) hcl19 hcc19 (show 5 ≤ 8 from by decide) (x' := (⟨(rd_T28 x7_2 x36_2).f0, (rd_T28 x7_2 x36_2).f1, (⟨(rd_T26 t843 x36_2).f0, (rd_T26 t843 x36_2).f1, (rd_T26 t843 x36_2).f2⟩ : S26), (rd_T28 x7_2 x36_2).f3, (rd_T28 x7_2 x36_2).f4, (rd_T28 x7_2 x36_2).f5⟩ : S28)) (k28_mkM _ _ _ (⟨(rd_T28 x7_2 x36_2).f0, (rd_T28 x7_2 x36_2).f1, (⟨(rd_T26 t843 x36_2).f0, (rd_T26 t843 x36_2).f1, (rd_T26 t843 x36_2).f2⟩ : S26), (rd_T28 x7_2 x36_2).f3, (rd_T28 x7_2 x36_2).f4, (rd_T28 x7_2 x36_2).f5⟩ : S28) ) (fun _ hk => hk)
          have hx19_2 := hcc19 2 _ rfl
          (try simp only [show (k28).sz = 8 from rfl, Nat.mul_one, Nat.add_zero] at hx19_2)
          have hf19_2 := hfr19 2
          (try simp only [show (k28).sz = 8 from rfl, Nat.mul_one, Nat.add_zero] at hf19_2)
          have hx19_3 := hcc19 3 _ rfl
          (try simp only [show (k28).sz = 8 from rfl, Nat.mul_one, Nat.add_zero] at hx19_3)
          have hf19_3 := hfr19 3
          (try simp only [show (k28).sz = 8 from rfl, Nat.mul_one, Nat.add_zero] at hf19_3)
          have hx19_4 := hcc19 4 _ rfl
          (try simp only [show (k28).sz = 8 from rfl, Nat.mul_one, Nat.add_zero] at hx19_4)
          have hf19_4 := hfr19 4
          (try simp only [show (k28).sz = 8 from rfl, Nat.mul_one, Nat.add_zero] at hf19_4)
          clear hcl19 hcc19 hfr19 hM19
          go_wp2_with (first | ((with_reducible refine gate_store (t := 26) (p := 46) rfl ?_); refine store_event (t := 26) (p := 46) (v := ?vo_w20) (w1 := (((wr.setCell ⟨go17, (x36_2 : Int).toNat * 8 + 2, none⟩ (.bool ((rd_T26 t843 x36_2).f0))).setCell ⟨go17, (x36_2 : Int).toNat * 8 + 3, none⟩ (.string ((rd_T26 t843 x36_2).f1))).setCell ⟨go17, (x36_2 : Int).toNat * 8 + 4, none⟩ (.string ((rd_T26 t843 x36_2).f2)))) ?hg ?ho ?hn ?hr ?_; (case ho => rfl); (case hg => rfl); (case hn => rfl); (case hr => first | (go_simp; done) | (go_simp; rfl)); intro w20 hw; have hg : wr.grownBy w20 (some go17) := (by rw [hw]; exact HP19.2); have hp_ : Kd.R k28 28 w20 w.heap.size (fun _ => True) (.slice (some ⟨go17, 0, none⟩) x7_2.length co8) y848 := (by rw [hw, Ny848.out]; exact HP19.1); clear HP19; have n0_ := A0_.mk (hp_); have n1_ := A0_.mk (Kd.R_over' (v := (.slice (some ⟨go17, 0, none⟩) x7_2.length co8)) (xR_ HO_8.out) (Kd.R_typed HO_7.out) (by decide) hg); have n2_ := A0_.mk ((by rw [hw]; exact bS_ (bS_ (bS_ (HB.out) GB17.out) GB17.out) GB17.out : Below w.heap.size w w20)); clear HO_7 HO_8 HB; have HO_7 := n0_; have HO_8 := n1_; have HB := n2_; clear n0_ n1_ n2_; clear hg hw hp_))
          (try simp only [← hl7_2])
          (try simp only [add_plain])
          go_roundg k2
          case measure => have := HJ5.out; have := HK2.out; omega
          case rel => exact ⟨(y848), (wrap64 (x36_2 + 1)), (by first | rfl | (simp; done) | (simp [*]; done)), H', ⟨by have := HJ5.out; have := HK2.out; omega⟩, ⟨by (try simp only [hl7_2]); (with_reducible repeat (first | apply Kd.R_alloc | apply Kd.R_drewN | apply Kd.R_drew)); exact HO_7.out⟩, ⟨by (try simp only [hl7_2]); (with_reducible repeat (first | apply Kd.R_alloc | apply Kd.R_drewN | apply Kd.R_drew)); exact HO_8.out⟩, ⟨xB_ HB⟩⟩
         ·rw [if_neg c16] at H
          exact absurd H (by simp)
        ·rw [if_neg c15] at H
         exact absurd H (by simp)
       ·rw [if_neg c14] at H
        exact absurd H (by simp)
      ·rw [if_neg c13] at H
       have c13b0 : decide (x36_2 < (t840.length : Int)) = false := decide_eq_false c13
       (try (have c13h0 := c13b0; simp only [hl7_2] at c13h0))
       clear c13
       replace H := Option.bind_eq_some_iff.mp H
       obtain ⟨⟨t849, t850⟩, A210, H⟩ := H
       (try dsimp only at H)
       have A21 := A0_.mk A210
       clear A210
       replace H := Option.bind_eq_some_iff.mp H
       obtain ⟨t853, A220, H⟩ := H
       (try dsimp only at H)
       have A22 := A0_.mk A220
       clear A220
       by_cases c23 : t853 = true
       ·subst c23
        have H1 : (if t850 = 0 then ((insolvencyref1_SameRats.f k2 t843 t849).bind fun t854 => (some t854)) else (none)) = some r := by rw [if_pos rfl] at H; exact H
        clear H
        have H := H1
        clear H1
        by_cases c24 : t850 = 0
        ·rw [if_pos c24] at H
         have c24b0 : (t850 == 0) = true := beq_iff_eq.mpr c24
         have c24b1 : (t850 != 0) = false := bne_eq_false_iff_eq.mpr c24
         clear c24
         replace H := Option.bind_eq_some_iff.mp H
         obtain ⟨t854, A250, H⟩ := H
         (try dsimp only at H)
         have A25 := A0_.mk A250
         clear A250
         obtain rfl := Option.some.inj H
         go_wp2_with (first | ((with_reducible refine gC_ (f := 18) rfl ?_); refine goesL_ (some 55) rfl rfl Tryd.func18 (by kernel_rfl) rfl #[.int .i64 4, .slice Ao8 x7_2.length co8, .int .i64 (wrap64 (a1)), .int .i64 (wrap64 (Int.tmod a2 40))] rfl mp_ ?_; (with_reducible refine (setoff_Apply.calls k2 4 _ _ x7_2 (wrap64 (a1)) (wrap64 (Int.tmod a2 40)) t849 t850 _ ?side1 ?side2 A21.out).mono ?_); (case side1 => repeat (first | exact (Kd.R_reads' HO_7.out).2.2 | (with_reducible refine Kd.C_alloc ?_ _) | (with_reducible refine Kd.C_drewN ?_ _) | (with_reducible refine Kd.C_drew ?_))); (case side2 => exact (Kd.R_reads' HO_7.out).2.1); rintro e w26 ⟨v851, rfl, ho0, hb⟩; refine ⟨_, rfl, ?_⟩; have n0_ := A0_.mk (Kd.R_below (xR_ HO_7.out) hb); have n1_ := A0_.mk (Kd.R_elder' (xR_ HO_8.out) (Kd.R_base ho0) hb); have n2_ := A0_.mk (Kd.R_lower (Kd.R_new' ho0 (Kd.R_lt (xR_ HO_8.out))) (bZ_ (xB_ HB))); have n3_ := A0_.mk (bT_ (xB_ HB) hb); clear HO_7 HO_8 HB; have HO_7 := n0_; have HO_8 := n1_; have HO852 := n2_; have HB := n3_; clear n0_ n1_ n2_ n3_; (try clear hb); (try clear hb2); (try clear hk); (try clear hi); (try clear ho0)) | ((with_reducible refine gC_ (f := 12) rfl ?_); refine goesL_ (some 58) rfl rfl Tryd.func12 (by kernel_rfl) rfl #[] rfl mp_ ?_; (with_reducible refine (insolvencylaw14_awake.calls k2  true _ A22.out).mono ?_); rintro e w27 ⟨rfl, hb⟩; refine ⟨_, rfl, ?_⟩; have n0_ := A0_.mk (Kd.R_below (xR_ HO_7.out) hb); have n1_ := A0_.mk (Kd.R_below (xR_ HO_8.out) hb); have n2_ := A0_.mk (Kd.R_below (xR_ HO852.out) hb); have n3_ := A0_.mk (bT_ (xB_ HB) hb); clear HO_7 HO_8 HO852 HB; have HO_7 := n0_; have HO_8 := n1_; have HO852 := n2_; have HB := n3_; clear n0_ n1_ n2_ n3_; (try clear hb); (try clear hb2); (try clear hk); (try clear hi); obtain ⟨Ao28, co28, eo28⟩ := Kd.R_slice HO_8.out; subst eo28; obtain ⟨Ao29, co29, eo29⟩ := Kd.R_slice HO852.out; subst eo29) | (go_at_call 22; (with_reducible refine (insolvencyref1_SameRats.calls k2 _ _ t843 _ _ t849 t854 _ ?side1 ?side2 ?side3 ?side4 A25.out).mono ?_); (case side1 => repeat (first | exact (Kd.R_reads' HO_8.out).2.2 | (with_reducible refine Kd.C_alloc ?_ _) | (with_reducible refine Kd.C_drewN ?_ _) | (with_reducible refine Kd.C_drew ?_))); (case side2 => exact (Kd.R_reads' HO_8.out).2.1); (case side3 => repeat (first | exact (Kd.R_reads' HO852.out).2.2 | (with_reducible refine Kd.C_alloc ?_ _) | (with_reducible refine Kd.C_drewN ?_ _) | (with_reducible refine Kd.C_drew ?_))); (case side4 => exact (Kd.R_reads' HO852.out).2.1); rintro e w' ⟨rfl, ⟨nd, rfl⟩⟩))
         go_ret
         exact ⟨rE_, xB_ HB⟩
        ·rw [if_neg c24] at H
         have c24b0 : (t850 == 0) = false := beq_eq_false_iff_ne.mpr c24
         have c24b1 : (t850 != 0) = true := bne_iff_ne.mpr c24
         exact absurd H (by simp)
       ·replace c23 := Bool.eq_false_iff.mpr c23
        subst c23
        have H1 : (none) = some r := by rw [if_neg (show ¬ (false = true) by decide)] at H; exact H
        exact absurd H1 (by simp)
end Go.Proofs.YtnegkpnhjgimcaaDoor.C
end
