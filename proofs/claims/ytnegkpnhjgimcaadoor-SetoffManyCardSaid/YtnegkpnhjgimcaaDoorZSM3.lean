/- A part of the proof of setoffMany_card (see YtnegkpnhjgimcaaDoorZSM6): what the functions that it reaches compute, each by its contract. -/
import Derived.Test.YtnegkpnhjgimcaaDoorZSM2
section
namespace Go.Proofs.YtnegkpnhjgimcaaDoor.B
open Go.RowKit Go.Proofs.YtnegkpnhjgimcaaDoorW.PrintWords Go.Proofs.YtnegkpnhjgimcaaDoorW.PrintLast Go.Proofs.YtnegkpnhjgimcaaDoorW.PrintMore
attribute [local go_sem] max2_int min2_int max_two min_two max_three min_three max_four min_four
set_option linter.unusedVariables false
set_option linter.unusedSimpArgs false
def rational_Compare.f (k : Nat) (a0_0 : Bool) (a0_1 : ByteArray) (a0_2 : ByteArray) (a1_0 : Bool) (a1_1 : ByteArray) (a1_2 : ByteArray) : Option (Int) := (rational_clean.f k a0_0 a0_1 a0_2).bind fun bt401 => ((rational_clean.f k a1_0 a1_1 a1_2).bind fun bt404 => ((rational_signOf.f bt401.1 bt401.2.1 bt401.2.2).bind fun t407 => ((rational_signOf.f bt404.1 bt404.2.1 bt404.2.2).bind fun t408 => (if t407 = t408 then ((rational_den.f bt404.1 bt404.2.1 bt404.2.2).bind fun t409 => ((natural_Multiply.f k bt401.2.1 t409).bind fun t410 => ((rational_den.f bt401.1 bt401.2.1 bt401.2.2).bind fun t411 => ((natural_Multiply.f k bt404.2.1 t411).bind fun t412 => ((natural_Compare.f k t410 t412).bind fun t413 => (if bt401.1 = true then (some (wrap64 (-t413))) else (some t413))))))) else (if t407 < t408 then (some (-1)) else (some 1))))))
theorem rational_Compare.mono : ∀ a0 a1 a2 a3 a4 a5 k, LeO (rational_Compare.f k a0 a1 a2 a3 a4 a5) (rational_Compare.f (k + 1) a0 a1 a2 a3 a4 a5) := by
 intro a0 a1 a2 a3 a4 a5 k
 unfold rational_Compare.f
 repeat' first
   | (with_reducible exact natural_Compare.mono _ _ _)
   | (with_reducible exact natural_Multiply.mono _ _ _)
   | (with_reducible exact rational_clean.mono _ _ _ _)
   | (with_reducible exact LeO.refl _)
   | (with_reducible exact LeO.none _)
   | (with_reducible refine LeO.ite ?_ ?_)
   | (with_reducible refine LeO.bind ?_ (fun _ => ?_))
   | exact natural_Compare.mono _ _ _
   | exact natural_Multiply.mono _ _ _
   | exact rational_clean.mono _ _ _ _
   | exact LeO.none _
   | refine LeO.ite ?_ ?_
   | refine LeO.bind ?_ (fun _ => ?_)
def rational_Compare.T7 : Bool × List (List Nat × List Nat) := (true, [([], []), ([0], [0]), ([], []), ([2], [2]), ([1, 3, 3], [1, 3]), ([], []), ([5], [5]), ([], []), ([7, 4], [7]), ([6, 8, 8], [6, 8]), ([4, 9, 9], [4, 9]), ([10, 10, 0, 1, 2, 3, 4, 5, 6, 7, 8, 9, 10], [10])])
def rational_Compare.B7 : List Nat := [0, 1, 0, 4, 15, 0, 32, 0, 159, 511, 1023, 2047]
theorem rational_Compare.tab7 : rtab .any (opsOf Tryd.f20 7) = rational_Compare.T7 := by kernel_rfl
theorem rational_Compare.bits7 : waitsOk rational_Compare.T7.2 rational_Compare.B7 = true := by kernel_rfl
set_option maxHeartbeats 8000000 in
set_option maxRecDepth 100000 in
theorem rational_Compare.calls (k : Nat) (a0_0 : Bool) (a0_1 : ByteArray) (a0_2 : ByteArray) (a1_0 : Bool) (a1_1 : ByteArray) (a1_2 : ByteArray) (r : Int) (w : World) (h : rational_Compare.f k a0_0 a0_1 a0_2 a1_0 a1_1 a1_2 = some r) :
  Calls Tryd.prog 20 #[.agg #[.bool a0_0, .string a0_1, .string a0_2], .agg #[.bool a1_0, .string a1_1, .string a1_2]] w fun e w' => e = .returned (.int .i64 r) ∧ Below w.heap.size w w' := by
 have hu26 := Tryd.underlying26
 have HB := A0_.mk (Below.refl w.heap.size w)
 have H : ((rational_clean.f k a0_0 a0_1 a0_2).bind fun bt401 => ((rational_clean.f k a1_0 a1_1 a1_2).bind fun bt404 => ((rational_signOf.f bt401.1 bt401.2.1 bt401.2.2).bind fun t407 => ((rational_signOf.f bt404.1 bt404.2.1 bt404.2.2).bind fun t408 => (if t407 = t408 then ((rational_den.f bt404.1 bt404.2.1 bt404.2.2).bind fun t409 => ((natural_Multiply.f k bt401.2.1 t409).bind fun t410 => ((rational_den.f bt401.1 bt401.2.1 bt401.2.2).bind fun t411 => ((natural_Multiply.f k bt404.2.1 t411).bind fun t412 => ((natural_Compare.f k t410 t412).bind fun t413 => (if bt401.1 = true then (some (wrap64 (-t413))) else (some t413))))))) else (if t407 < t408 then (some (-1)) else (some 1))))))) = some r := h
 clear h
 replace H := Option.bind_eq_some_iff.mp H
 obtain ⟨⟨t401, t402, t403⟩, A30, H⟩ := H
 replace H : ((rational_clean.f k a1_0 a1_1 a1_2).bind fun bt404 => ((rational_signOf.f t401 t402 t403).bind fun t407 => ((rational_signOf.f bt404.1 bt404.2.1 bt404.2.2).bind fun t408 => (if t407 = t408 then ((rational_den.f bt404.1 bt404.2.1 bt404.2.2).bind fun t409 => ((natural_Multiply.f k t402 t409).bind fun t410 => ((rational_den.f t401 t402 t403).bind fun t411 => ((natural_Multiply.f k bt404.2.1 t411).bind fun t412 => ((natural_Compare.f k t410 t412).bind fun t413 => (if t401 = true then (some (wrap64 (-t413))) else (some t413))))))) else (if t407 < t408 then (some (-1)) else (some 1)))))) = some r := H
 have A3 := A0_.mk A30
 clear A30
 replace H := Option.bind_eq_some_iff.mp H
 obtain ⟨⟨t404, t405, t406⟩, A40, H⟩ := H
 replace H : ((rational_signOf.f t401 t402 t403).bind fun t407 => ((rational_signOf.f t404 t405 t406).bind fun t408 => (if t407 = t408 then ((rational_den.f t404 t405 t406).bind fun t409 => ((natural_Multiply.f k t402 t409).bind fun t410 => ((rational_den.f t401 t402 t403).bind fun t411 => ((natural_Multiply.f k t405 t411).bind fun t412 => ((natural_Compare.f k t410 t412).bind fun t413 => (if t401 = true then (some (wrap64 (-t413))) else (some t413))))))) else (if t407 < t408 then (some (-1)) else (some 1))))) = some r := H
 have A4 := A0_.mk A40
 clear A40
 replace H := Option.bind_eq_some_iff.mp H
 obtain ⟨t407, A50, H⟩ := H
 replace H : ((rational_signOf.f t404 t405 t406).bind fun t408 => (if t407 = t408 then ((rational_den.f t404 t405 t406).bind fun t409 => ((natural_Multiply.f k t402 t409).bind fun t410 => ((rational_den.f t401 t402 t403).bind fun t411 => ((natural_Multiply.f k t405 t411).bind fun t412 => ((natural_Compare.f k t410 t412).bind fun t413 => (if t401 = true then (some (wrap64 (-t413))) else (some t413))))))) else (if t407 < t408 then (some (-1)) else (some 1)))) = some r := H
 have A5 := A0_.mk A50
 clear A50
 replace H := Option.bind_eq_some_iff.mp H
 obtain ⟨t408, A60, H⟩ := H
 replace H : (if t407 = t408 then ((rational_den.f t404 t405 t406).bind fun t409 => ((natural_Multiply.f k t402 t409).bind fun t410 => ((rational_den.f t401 t402 t403).bind fun t411 => ((natural_Multiply.f k t405 t411).bind fun t412 => ((natural_Compare.f k t410 t412).bind fun t413 => (if t401 = true then (some (wrap64 (-t413))) else (some t413))))))) else (if t407 < t408 then (some (-1)) else (some 1))) = some r := H
 have A6 := A0_.mk A60
 clear A60
 by_cases c7 : t407 = t408
 ·rw [if_pos c7] at H
  have c7b0 : (t407 == t408) = true := beq_iff_eq.mpr c7
  have c7b1 : (t407 != t408) = false := bne_eq_false_iff_eq.mpr c7
  clear c7
  replace H := Option.bind_eq_some_iff.mp H
  obtain ⟨t409, A80, H⟩ := H
  replace H : ((natural_Multiply.f k t402 t409).bind fun t410 => ((rational_den.f t401 t402 t403).bind fun t411 => ((natural_Multiply.f k t405 t411).bind fun t412 => ((natural_Compare.f k t410 t412).bind fun t413 => (if t401 = true then (some (wrap64 (-t413))) else (some t413)))))) = some r := H
  have A8 := A0_.mk A80
  clear A80
  replace H := Option.bind_eq_some_iff.mp H
  obtain ⟨t410, A90, H⟩ := H
  replace H : ((rational_den.f t401 t402 t403).bind fun t411 => ((natural_Multiply.f k t405 t411).bind fun t412 => ((natural_Compare.f k t410 t412).bind fun t413 => (if t401 = true then (some (wrap64 (-t413))) else (some t413))))) = some r := H
  have A9 := A0_.mk A90
  clear A90
  replace H := Option.bind_eq_some_iff.mp H
  obtain ⟨t411, A100, H⟩ := H
  replace H : ((natural_Multiply.f k t405 t411).bind fun t412 => ((natural_Compare.f k t410 t412).bind fun t413 => (if t401 = true then (some (wrap64 (-t413))) else (some t413)))) = some r := H
  have A10 := A0_.mk A100
  clear A100
  replace H := Option.bind_eq_some_iff.mp H
  obtain ⟨t412, A110, H⟩ := H
  replace H : ((natural_Compare.f k t410 t412).bind fun t413 => (if t401 = true then (some (wrap64 (-t413))) else (some t413))) = some r := H
  have A11 := A0_.mk A110
  clear A110
  replace H := Option.bind_eq_some_iff.mp H
  obtain ⟨t413, A120, H⟩ := H
  replace H : (if t401 = true then (some (wrap64 (-t413))) else (some t413)) = some r := H
  have A12 := A0_.mk A120
  clear A120
  by_cases c13 : t401 = true
  ·subst c13
   have H1 : (some (wrap64 (-t413))) = some r := by rw [if_pos rfl] at H; exact H
   clear H
   have H := H1
   clear H1
   obtain rfl := Option.some.inj H
   go_enter Tryd.func20, Tryd.ntmps20
   try go_wp2_with (first | ((with_reducible refine gD_ (N := 2) rfl ?_); refine bE_ ?hg (N := 2) ?hd (cs := #[.bool a0_0, .string a0_1, .string a0_2]) (t := 26) ?hr ?_; (case hd => rfl); (case hg => rfl); (case hr => first | (go_simp; done) | (go_simp; rfl)); intro gb399 hg w14 hbox hb; have n0_ := A0_.mk (bT_ (by repeat (first | (with_reducible first | exact HB.out | apply bA_ | apply pB_ | apply b1_) | exact HB.out)) hb); have n1_ := A0_.mk (hbox); have n2_ := A0_.mk ((by rw [hg]; exact (bZ_ (by repeat (first | (with_reducible first | exact HB.out | apply bA_ | apply pB_ | apply b1_) | exact HB.out))) : w.heap.size ≤ gb399)); have n3_ := A0_.mk ((by rw [hg]; exact (bZ_ (by repeat (first | (with_reducible first | exact HB.out | apply bA_ | apply pB_ | apply b1_) | exact HB.out))) : w.heap.size ≤ gb399)); clear HB; have HB := n0_; have BK399 := n1_; have GW399 := n2_; have GE399 := n3_; clear n0_ n1_ n2_ n3_; clear hb hbox hg) | ((with_reducible refine gD_ (N := 3) rfl ?_); refine bE_ ?hg (N := 3) ?hd (cs := #[.bool a1_0, .string a1_1, .string a1_2]) (t := 26) ?hr ?_; (case hd => rfl); (case hg => rfl); (case hr => first | (go_simp; done) | (go_simp; rfl)); intro gb400 hg w15 hbox hb; have n0_ := A0_.mk (kB_ (g := gb399) (o := .cells #[.bool a0_0, .string a0_1, .string a0_2] 26 (0, 0)) (by (with_reducible repeat (first | refine kN_ ?_ _ | refine kD_ ?_ | refine kA_ ?_ _)); exact BK399.out) hb); have n1_ := A0_.mk (bT_ (by repeat (first | (with_reducible first | exact HB.out | apply bA_ | apply pB_ | apply b1_ | refine bS_ ?_ GE399.out) | exact HB.out)) hb); have n2_ := A0_.mk (hbox); have n3_ := A0_.mk ((by rw [hg]; exact (bZ_ (by repeat (first | (with_reducible first | exact HB.out | apply bA_ | apply pB_ | apply b1_ | refine bS_ ?_ GE399.out) | exact HB.out))) : w.heap.size ≤ gb400)); have n4_ := A0_.mk ((by rw [hg]; exact (bZ_ (by repeat (first | (with_reducible first | exact HB.out | apply bA_ | apply pB_ | apply b1_ | refine bS_ ?_ GE399.out) | exact HB.out))) : w.heap.size ≤ gb400)); have n5_ := A0_.mk ((by rw [hg]; exact Nat.ne_of_lt (blk_lt (g := gb399) (o := .cells #[.bool a0_0, .string a0_1, .string a0_2] 26 (0, 0)) (by (with_reducible repeat (first | refine kN_ ?_ _ | refine kD_ ?_ | refine kA_ ?_ _)); exact BK399.out)) : gb399 ≠ gb400)); have n6_ := A0_.mk ((by rw [hg]; exact Nat.ne_of_gt (blk_lt (g := gb399) (o := .cells #[.bool a0_0, .string a0_1, .string a0_2] 26 (0, 0)) (by (with_reducible repeat (first | refine kN_ ?_ _ | refine kD_ ?_ | refine kA_ ?_ _)); exact BK399.out)) : gb400 ≠ gb399)); clear BK399; clear HB; have BK399 := n0_; have HB := n1_; have BK400 := n2_; have GW400 := n3_; have GE400 := n4_; have NB399_400 := n5_; have NB400_399 := n6_; clear n0_ n1_ n2_ n3_ n4_ n5_ n6_; clear hb hbox hg))
   have n0_ := A0_.mk (kD_ BK399.out)
   have n1_ := A0_.mk (kD_ BK400.out)
   have n2_ := A0_.mk (b1_ HB.out)
   clear BK399
   clear BK400
   clear HB
   have BK399 := n0_
   have BK400 := n1_
   have HB := n2_
   clear n0_ n1_ n2_
   refine start_ (n := 6) (S := fun w' => w'.cell? ⟨gb399, 0, none⟩ = some (.bool a0_0) ∧ w'.cell? ⟨gb399, 1, none⟩ = some (.string a0_1) ∧ w'.cell? ⟨gb399, 2, none⟩ = some (.string a0_2) ∧ w'.cell? ⟨gb400, 0, none⟩ = some (.bool a1_0) ∧ w'.cell? ⟨gb400, 1, none⟩ = some (.string a1_1) ∧ w'.cell? ⟨gb400, 2, none⟩ = some (.string a1_2)) (ds := [4, 5]) #[false, false, false, false, false, false] (by kernel_rfl) rfl rfl ⟨(kc_ BK399.out 0).trans rfl, (kc_ BK399.out 1).trans rfl, (kc_ BK399.out 2).trans rfl, (kc_ BK400.out 0).trans rfl, (kc_ BK400.out 1).trans rfl, (kc_ BK400.out 2).trans rfl⟩ (fun hHeld => ?_)
   generalize w15.drew = w16 at BK399 BK400 HB hHeld ⊢
   refine take_ (i := 0) (N := some 8) (v := ?_) (a' := ?_) #[true, false, false, false, false, false] rfl rfl (by kernel_rfl) (fun _ _ _ h => h) (Or.inl ⟨by rfl, ?_⟩) hHeld ?_ ?_
   rotate_left
   ·rintro w' ⟨s0, s1, s2, s3, s4, s5⟩
    go_simp
    with_reducible rfl
   rotate_left
   ·simp only [Act.put, List.setIfInBounds_toArray, List.set_cons_zero, List.set_cons_succ, i64_w, i32_w]
    rfl
   refine take_ (i := 2) (N := some 10) (v := ?_) (a' := ?_) #[true, false, true, false, false, false] rfl rfl (by kernel_rfl) (fun _ _ _ h => h) (Or.inl ⟨by rfl, ?_⟩) hHeld ?_ ?_
   rotate_left
   ·rintro w' ⟨s0, s1, s2, s3, s4, s5⟩
    go_simp
    with_reducible rfl
   rotate_left
   ·simp only [Act.put, List.setIfInBounds_toArray, List.set_cons_zero, List.set_cons_succ, i64_w, i32_w]
    rfl
   refine one_ (i := 1) (N := some 9) #[true, true, true, false, false, false] rfl rfl (by kernel_rfl) (by decide) (fun K hK => ?_)
   refine goes_ Tryd.func43 (by kernel_rfl) rfl #[.agg #[.bool a0_0, .string a0_1, .string a0_2]] (by rfl) rfl rfl (by (try simp only [List.map_toArray, List.map_cons, List.map_nil]); first | done | rfl | (simp only [List.length_drop, List.length_take]; rfl)) ?_
   with_reducible refine (rational_clean.calls k a0_0 a0_1 a0_2 true t402 t403 _ A3.out).mono ?_
   rintro e w17 ⟨rfl, hb⟩
   refine ⟨_, rfl, ?_⟩
   have n0_ := A0_.mk (kB_ (g := gb399) (o := .cells #[.bool a0_0, .string a0_1, .string a0_2] 26 (0, 0)) (by (with_reducible repeat (first | refine kN_ ?_ _ | refine kD_ ?_ | refine kA_ ?_ _)); exact BK399.out) hb)
   have n1_ := A0_.mk (kB_ (g := gb400) (o := .cells #[.bool a1_0, .string a1_1, .string a1_2] 26 (0, 0)) (by (with_reducible repeat (first | refine kN_ ?_ _ | refine kD_ ?_ | refine kA_ ?_ _)); exact BK400.out) hb)
   have n2_ := A0_.mk (bT_ (by repeat (first | (with_reducible first | exact HB.out | apply bA_ | apply pB_ | apply b1_ | refine bS_ ?_ GE399.out | refine bS_ ?_ GE400.out) | exact HB.out)) hb)
   clear BK399
   clear BK400
   clear HB
   have BK399 := n0_
   have BK400 := n1_
   have HB := n2_
   clear n0_ n1_ n2_
   (try clear hb)
   (try clear hb2)
   (try clear hk)
   (try clear hi)
   refine hK.out _ _ ⟨(kc_ BK399.out 0).trans rfl, (kc_ BK399.out 1).trans rfl, (kc_ BK399.out 2).trans rfl, (kc_ BK400.out 0).trans rfl, (kc_ BK400.out 1).trans rfl, (kc_ BK400.out 2).trans rfl⟩ (fun hHeld => ?_)
   clear hK K
   refine norm_ (a' := ?_) ?_ ?_
   rotate_left
   ·show Act.put _ (some 9) _ = _
    simp only [Act.put, List.setIfInBounds_toArray, List.set_cons_zero, List.set_cons_succ, i64_w, i32_w]
    rfl
   refine one_ (i := 3) (N := some 11) #[true, true, true, true, false, false] rfl rfl (by kernel_rfl) (by decide) (fun K hK => ?_)
   refine goes_ Tryd.func43 (by kernel_rfl) rfl #[.agg #[.bool a1_0, .string a1_1, .string a1_2]] (by rfl) rfl rfl (by (try simp only [List.map_toArray, List.map_cons, List.map_nil]); first | done | rfl | (simp only [List.length_drop, List.length_take]; rfl)) ?_
   with_reducible refine (rational_clean.calls k a1_0 a1_1 a1_2 t404 t405 t406 _ A4.out).mono ?_
   rintro e w18 ⟨rfl, hb⟩
   refine ⟨_, rfl, ?_⟩
   have n0_ := A0_.mk (kB_ (g := gb399) (o := .cells #[.bool a0_0, .string a0_1, .string a0_2] 26 (0, 0)) (by (with_reducible repeat (first | refine kN_ ?_ _ | refine kD_ ?_ | refine kA_ ?_ _)); exact BK399.out) hb)
   have n1_ := A0_.mk (kB_ (g := gb400) (o := .cells #[.bool a1_0, .string a1_1, .string a1_2] 26 (0, 0)) (by (with_reducible repeat (first | refine kN_ ?_ _ | refine kD_ ?_ | refine kA_ ?_ _)); exact BK400.out) hb)
   have n2_ := A0_.mk (bT_ (by repeat (first | (with_reducible first | exact HB.out | apply bA_ | apply pB_ | apply b1_ | refine bS_ ?_ GE399.out | refine bS_ ?_ GE400.out) | exact HB.out)) hb)
   clear BK399
   clear BK400
   clear HB
   have BK399 := n0_
   have BK400 := n1_
   have HB := n2_
   clear n0_ n1_ n2_
   (try clear hb)
   (try clear hb2)
   (try clear hk)
   (try clear hi)
   refine hK.out _ _ ⟨(kc_ BK399.out 0).trans rfl, (kc_ BK399.out 1).trans rfl, (kc_ BK399.out 2).trans rfl, (kc_ BK400.out 0).trans rfl, (kc_ BK400.out 1).trans rfl, (kc_ BK400.out 2).trans rfl⟩ (fun hHeld => ?_)
   clear hK K
   refine norm_ (a' := ?_) ?_ ?_
   rotate_left
   ·show Act.put _ (some 11) _ = _
    simp only [Act.put, List.setIfInBounds_toArray, List.set_cons_zero, List.set_cons_succ, i64_w, i32_w]
    rfl
   refine last_ (i := 4) (N := none) #[true, true, true, true, true, false] rfl rfl (by kernel_rfl) (by decide) (fun K hK => ?_)
   have hs19 : w18.cell? ⟨gb399, 0, none⟩ = some (.bool a0_0) := (kc_ BK399.out 0).trans rfl
   have hfs19 := kF_ BK399.out 0
   have hns19_1 := NB400_399.out
   have hms19_1 := NB399_400.out
   have hs20 : w18.cell? ⟨gb399, 1, none⟩ = some (.string a0_1) := (kc_ BK399.out 1).trans rfl
   have hfs20 := kF_ BK399.out 1
   have hns20_1 := NB400_399.out
   have hms20_1 := NB399_400.out
   have hs21 : w18.cell? ⟨gb399, 2, none⟩ = some (.string a0_2) := (kc_ BK399.out 2).trans rfl
   have hfs21 := kF_ BK399.out 2
   have hns21_1 := NB400_399.out
   have hms21_1 := NB399_400.out
   refine skip_ (w1 := ?_) (by rfl) rfl ?_ ?_
   rotate_left
   ·go_simp
    rfl
   refine hK.out _ _ ?_
   clear hK K
   refine last_ (i := 5) (N := none) #[true, true, true, true, true, true] rfl rfl (by kernel_rfl) (by decide) (fun K hK => ?_)
   have hs22 : w18.cell? ⟨gb400, 0, none⟩ = some (.bool a1_0) := (kc_ BK400.out 0).trans rfl
   have hfs22 := kF_ BK400.out 0
   have hns22_0 := NB399_400.out
   have hms22_0 := NB400_399.out
   have hs23 : w18.cell? ⟨gb400, 1, none⟩ = some (.string a1_1) := (kc_ BK400.out 1).trans rfl
   have hfs23 := kF_ BK400.out 1
   have hns23_0 := NB399_400.out
   have hms23_0 := NB400_399.out
   have hs24 : w18.cell? ⟨gb400, 2, none⟩ = some (.string a1_2) := (kc_ BK400.out 2).trans rfl
   have hfs24 := kF_ BK400.out 2
   have hns24_0 := NB399_400.out
   have hms24_0 := NB400_399.out
   refine skip_ (w1 := ?_) (by rfl) rfl ?_ ?_
   rotate_left
   ·go_simp
    rfl
   refine hK.out _ _ ?_
   clear hK K
   refine done_ (by kernel_rfl) ?_
   try go_wp2
   have n0_ : A0_ (((((((w18.setCell ⟨gb399, 0, none⟩ (.bool true)).setCell ⟨gb399, 1, none⟩ (.string t402)).setCell ⟨gb399, 2, none⟩ (.string t403)).setCell ⟨gb400, 0, none⟩ (.bool t404)).setCell ⟨gb400, 1, none⟩ (.string t405)).setCell ⟨gb400, 2, none⟩ (.string t406)).heap[gb399]? = some (.cells #[.bool true, .string t402, .string t403] 26 (0, 0))) := ⟨by (with_reducible repeat (first | refine kN_ ?_ _ | refine kD_ ?_ | refine kA_ ?_ _)); refine blk_far ?_ NB399_400.out _; (with_reducible repeat (first | refine kN_ ?_ _ | refine kD_ ?_ | refine kA_ ?_ _)); refine blk_far ?_ NB399_400.out _; (with_reducible repeat (first | refine kN_ ?_ _ | refine kD_ ?_ | refine kA_ ?_ _)); refine blk_far ?_ NB399_400.out _; (with_reducible repeat (first | refine kN_ ?_ _ | refine kD_ ?_ | refine kA_ ?_ _)); refine kP_ (cs := #[.bool true, .string t402, .string a0_2]) ?_ 2 _ rfl; (with_reducible repeat (first | refine kN_ ?_ _ | refine kD_ ?_ | refine kA_ ?_ _)); refine kP_ (cs := #[.bool true, .string a0_1, .string a0_2]) ?_ 1 _ rfl; (with_reducible repeat (first | refine kN_ ?_ _ | refine kD_ ?_ | refine kA_ ?_ _)); refine kP_ (cs := #[.bool a0_0, .string a0_1, .string a0_2]) ?_ 0 _ rfl; (with_reducible repeat (first | refine kN_ ?_ _ | refine kD_ ?_ | refine kA_ ?_ _)); exact BK399.out⟩
   have n1_ : A0_ (((((((w18.setCell ⟨gb399, 0, none⟩ (.bool true)).setCell ⟨gb399, 1, none⟩ (.string t402)).setCell ⟨gb399, 2, none⟩ (.string t403)).setCell ⟨gb400, 0, none⟩ (.bool t404)).setCell ⟨gb400, 1, none⟩ (.string t405)).setCell ⟨gb400, 2, none⟩ (.string t406)).heap[gb400]? = some (.cells #[.bool t404, .string t405, .string t406] 26 (0, 0))) := ⟨by (with_reducible repeat (first | refine kN_ ?_ _ | refine kD_ ?_ | refine kA_ ?_ _)); refine kP_ (cs := #[.bool t404, .string t405, .string a1_2]) ?_ 2 _ rfl; (with_reducible repeat (first | refine kN_ ?_ _ | refine kD_ ?_ | refine kA_ ?_ _)); refine kP_ (cs := #[.bool t404, .string a1_1, .string a1_2]) ?_ 1 _ rfl; (with_reducible repeat (first | refine kN_ ?_ _ | refine kD_ ?_ | refine kA_ ?_ _)); refine kP_ (cs := #[.bool a1_0, .string a1_1, .string a1_2]) ?_ 0 _ rfl; (with_reducible repeat (first | refine kN_ ?_ _ | refine kD_ ?_ | refine kA_ ?_ _)); refine blk_far ?_ NB400_399.out _; (with_reducible repeat (first | refine kN_ ?_ _ | refine kD_ ?_ | refine kA_ ?_ _)); refine blk_far ?_ NB400_399.out _; (with_reducible repeat (first | refine kN_ ?_ _ | refine kD_ ?_ | refine kA_ ?_ _)); refine blk_far ?_ NB400_399.out _; (with_reducible repeat (first | refine kN_ ?_ _ | refine kD_ ?_ | refine kA_ ?_ _)); exact BK400.out⟩
   have n2_ : A0_ (Below w.heap.size w ((((((w18.setCell ⟨gb399, 0, none⟩ (.bool true)).setCell ⟨gb399, 1, none⟩ (.string t402)).setCell ⟨gb399, 2, none⟩ (.string t403)).setCell ⟨gb400, 0, none⟩ (.bool t404)).setCell ⟨gb400, 1, none⟩ (.string t405)).setCell ⟨gb400, 2, none⟩ (.string t406))) := ⟨by repeat (first | (with_reducible first | exact HB.out | apply bA_ | apply pB_ | apply b1_ | refine bS_ ?_ GE399.out | refine bS_ ?_ GE400.out) | exact HB.out)⟩
   (try clear BK399)
   (try clear BK400)
   (try clear HB)
   generalize ((((((w18.setCell ⟨gb399, 0, none⟩ (.bool true)).setCell ⟨gb399, 1, none⟩ (.string t402)).setCell ⟨gb399, 2, none⟩ (.string t403)).setCell ⟨gb400, 0, none⟩ (.bool t404)).setCell ⟨gb400, 1, none⟩ (.string t405)).setCell ⟨gb400, 2, none⟩ (.string t406)) = w25 at n0_ n1_ n2_ ⊢
   have BK399 := n0_
   have BK400 := n1_
   have HB := n2_
   clear n0_ n1_ n2_
   have n0_ := A0_.mk (kD_ BK399.out)
   have n1_ := A0_.mk (kD_ BK400.out)
   have n2_ := A0_.mk (b1_ HB.out)
   clear BK399
   clear BK400
   clear HB
   have BK399 := n0_
   have BK400 := n1_
   have HB := n2_
   clear n0_ n1_ n2_
   refine start_ (n := 6) (S := fun w' => w'.cell? ⟨gb399, 0, none⟩ = some (.bool true) ∧ w'.cell? ⟨gb399, 1, none⟩ = some (.string t402) ∧ w'.cell? ⟨gb399, 2, none⟩ = some (.string t403) ∧ w'.cell? ⟨gb400, 0, none⟩ = some (.bool t404) ∧ w'.cell? ⟨gb400, 1, none⟩ = some (.string t405) ∧ w'.cell? ⟨gb400, 2, none⟩ = some (.string t406)) (ds := []) #[false, false, false, false, false, false] (by kernel_rfl) rfl rfl ⟨(kc_ BK399.out 0).trans rfl, (kc_ BK399.out 1).trans rfl, (kc_ BK399.out 2).trans rfl, (kc_ BK400.out 0).trans rfl, (kc_ BK400.out 1).trans rfl, (kc_ BK400.out 2).trans rfl⟩ (fun hHeld => ?_)
   generalize w25.drew = w26 at BK399 BK400 HB hHeld ⊢
   refine take_ (i := 0) (N := some 12) (v := ?_) (a' := ?_) #[true, false, false, false, false, false] rfl rfl (by kernel_rfl) (fun _ _ _ h => h) (Or.inl ⟨by rfl, ?_⟩) hHeld ?_ ?_
   rotate_left
   ·rintro w' ⟨s0, s1, s2, s3, s4, s5⟩
    go_simp
    with_reducible rfl
   rotate_left
   ·simp only [Act.put, List.setIfInBounds_toArray, List.set_cons_zero, List.set_cons_succ, i64_w, i32_w]
    rfl
   refine take_ (i := 2) (N := some 14) (v := ?_) (a' := ?_) #[true, false, true, false, false, false] rfl rfl (by kernel_rfl) (fun _ _ _ h => h) (Or.inl ⟨by rfl, ?_⟩) hHeld ?_ ?_
   rotate_left
   ·rintro w' ⟨s0, s1, s2, s3, s4, s5⟩
    go_simp
    with_reducible rfl
   rotate_left
   ·simp only [Act.put, List.setIfInBounds_toArray, List.set_cons_zero, List.set_cons_succ, i64_w, i32_w]
    rfl
   refine one_ (i := 1) (N := some 13) #[true, true, true, false, false, false] rfl rfl (by kernel_rfl) (by decide) (fun K hK => ?_)
   refine goes_ Tryd.func42 (by kernel_rfl) rfl #[.agg #[.bool true, .string t402, .string t403]] (by rfl) rfl rfl (by (try simp only [List.map_toArray, List.map_cons, List.map_nil]); first | done | rfl | (simp only [List.length_drop, List.length_take]; rfl)) ?_
   with_reducible refine (rational_signOf.calls true t402 t403 t407 _ A5.out).mono ?_
   rintro e w27 ⟨rfl, hb⟩
   refine ⟨_, rfl, ?_⟩
   have n0_ := A0_.mk (kB_ (g := gb399) (o := .cells #[.bool true, .string t402, .string t403] 26 (0, 0)) (by (with_reducible repeat (first | refine kN_ ?_ _ | refine kD_ ?_ | refine kA_ ?_ _)); exact BK399.out) hb)
   have n1_ := A0_.mk (kB_ (g := gb400) (o := .cells #[.bool t404, .string t405, .string t406] 26 (0, 0)) (by (with_reducible repeat (first | refine kN_ ?_ _ | refine kD_ ?_ | refine kA_ ?_ _)); exact BK400.out) hb)
   have n2_ := A0_.mk (bT_ (by repeat (first | (with_reducible first | exact HB.out | apply bA_ | apply pB_ | apply b1_ | refine bS_ ?_ GE399.out | refine bS_ ?_ GE400.out) | exact HB.out)) hb)
   clear BK399
   clear BK400
   clear HB
   have BK399 := n0_
   have BK400 := n1_
   have HB := n2_
   clear n0_ n1_ n2_
   (try clear hb)
   (try clear hb2)
   (try clear hk)
   (try clear hi)
   refine hK.out _ _ ⟨(kc_ BK399.out 0).trans rfl, (kc_ BK399.out 1).trans rfl, (kc_ BK399.out 2).trans rfl, (kc_ BK400.out 0).trans rfl, (kc_ BK400.out 1).trans rfl, (kc_ BK400.out 2).trans rfl⟩ (fun hHeld => ?_)
   clear hK K
   refine norm_ (a' := ?_) ?_ ?_
   rotate_left
   ·show Act.put _ (some 13) _ = _
    simp only [Act.put, List.setIfInBounds_toArray, List.set_cons_zero, List.set_cons_succ, i64_w, i32_w]
    rfl
   refine one_ (i := 3) (N := some 15) #[true, true, true, true, false, false] rfl rfl (by kernel_rfl) (by decide) (fun K hK => ?_)
   refine goes_ Tryd.func42 (by kernel_rfl) rfl #[.agg #[.bool t404, .string t405, .string t406]] (by rfl) rfl rfl (by (try simp only [List.map_toArray, List.map_cons, List.map_nil]); first | done | rfl | (simp only [List.length_drop, List.length_take]; rfl)) ?_
   with_reducible refine (rational_signOf.calls t404 t405 t406 t408 _ A6.out).mono ?_
   rintro e w28 ⟨rfl, hb⟩
   refine ⟨_, rfl, ?_⟩
   have n0_ := A0_.mk (kB_ (g := gb399) (o := .cells #[.bool true, .string t402, .string t403] 26 (0, 0)) (by (with_reducible repeat (first | refine kN_ ?_ _ | refine kD_ ?_ | refine kA_ ?_ _)); exact BK399.out) hb)
   have n1_ := A0_.mk (kB_ (g := gb400) (o := .cells #[.bool t404, .string t405, .string t406] 26 (0, 0)) (by (with_reducible repeat (first | refine kN_ ?_ _ | refine kD_ ?_ | refine kA_ ?_ _)); exact BK400.out) hb)
   have n2_ := A0_.mk (bT_ (by repeat (first | (with_reducible first | exact HB.out | apply bA_ | apply pB_ | apply b1_ | refine bS_ ?_ GE399.out | refine bS_ ?_ GE400.out) | exact HB.out)) hb)
   clear BK399
   clear BK400
   clear HB
   have BK399 := n0_
   have BK400 := n1_
   have HB := n2_
   clear n0_ n1_ n2_
   (try clear hb)
   (try clear hb2)
   (try clear hk)
   (try clear hi)
   refine hK.out _ _ ⟨(kc_ BK399.out 0).trans rfl, (kc_ BK399.out 1).trans rfl, (kc_ BK399.out 2).trans rfl, (kc_ BK400.out 0).trans rfl, (kc_ BK400.out 1).trans rfl, (kc_ BK400.out 2).trans rfl⟩ (fun hHeld => ?_)
   clear hK K
   refine norm_ (a' := ?_) ?_ ?_
   rotate_left
   ·show Act.put _ (some 15) _ = _
    simp only [Act.put, List.setIfInBounds_toArray, List.set_cons_zero, List.set_cons_succ, i64_w, i32_w]
    rfl
   refine pure_ (i := 4) (N := some 5) (v := ?_) (a' := ?_) #[true, true, true, true, true, false] rfl rfl (by kernel_rfl) (fun _ _ _ h => h) (Or.inl ⟨by rfl, ?_⟩) ?_ ?_
   rotate_left
   ·intro w'
    go_simp
    with_reducible rfl
   rotate_left
   ·simp only [Act.put, List.setIfInBounds_toArray, List.set_cons_zero, List.set_cons_succ, i64_w, i32_w]
    rfl
   refine pure_ (i := 5) (N := some 6) (v := ?_) (a' := ?_) #[true, true, true, true, true, true] rfl rfl (by kernel_rfl) (fun _ _ _ h => h) (Or.inl ⟨by rfl, ?_⟩) ?_ ?_
   rotate_left
   ·intro w'
    go_simp
    with_reducible rfl
   rotate_left
   ·simp only [Act.put, List.setIfInBounds_toArray, List.set_cons_zero, List.set_cons_succ, i64_w, i32_w]
    rfl
   refine done_ (by kernel_rfl) ?_
   try go_wp2
   have n0_ := A0_.mk (kD_ BK399.out)
   have n1_ := A0_.mk (kD_ BK400.out)
   have n2_ := A0_.mk (b1_ HB.out)
   clear BK399
   clear BK400
   clear HB
   have BK399 := n0_
   have BK400 := n1_
   have HB := n2_
   clear n0_ n1_ n2_
   refine start_ (n := 12) (S := fun w' => w'.cell? ⟨gb399, 0, none⟩ = some (.bool true) ∧ w'.cell? ⟨gb399, 1, none⟩ = some (.string t402) ∧ w'.cell? ⟨gb399, 2, none⟩ = some (.string t403) ∧ w'.cell? ⟨gb400, 0, none⟩ = some (.bool t404) ∧ w'.cell? ⟨gb400, 1, none⟩ = some (.string t405) ∧ w'.cell? ⟨gb400, 2, none⟩ = some (.string t406)) (ds := []) #[false, false, false, false, false, false, false, false, false, false, false, false] (by kernel_rfl) rfl rfl ⟨(kc_ BK399.out 0).trans rfl, (kc_ BK399.out 1).trans rfl, (kc_ BK399.out 2).trans rfl, (kc_ BK400.out 0).trans rfl, (kc_ BK400.out 1).trans rfl, (kc_ BK400.out 2).trans rfl⟩ (fun hHeld => ?_); refine with_tabW rational_Compare.tab7 rational_Compare.bits7 (fun HT_ HW_ => ?_)
   generalize w28.drew = w29 at BK399 BK400 HB hHeld ⊢
   refine pure_ (i := 0) (N := some 22) (v := ?_) (a' := ?_) #[true, false, false, false, false, false, false, false, false, false, false, false] rfl rfl (any_of HT_.out (by kernel_rfl)) (fun _ _ _ h => h) (Or.inl ⟨by rfl, ?_⟩) ?_ ?_
   rotate_left
   ·intro w'
    go_simp
    with_reducible rfl
   rotate_left
   ·simp only [Act.put, List.setIfInBounds_toArray, List.set_cons_zero, List.set_cons_succ, i64_w, i32_w]
    rfl
   refine pure_ (i := 5) (N := some 27) (v := ?_) (a' := ?_) #[true, false, false, false, false, true, false, false, false, false, false, false] rfl rfl (any_of HT_.out (by kernel_rfl)) (fun _ _ _ h => h) (Or.inl ⟨by rfl, ?_⟩) ?_ ?_
   rotate_left
   ·intro w'
    go_simp
    with_reducible rfl
   rotate_left
   ·simp only [Act.put, List.setIfInBounds_toArray, List.set_cons_zero, List.set_cons_succ, i64_w, i32_w]
    rfl
   refine take_ (i := 1) (N := some 23) (v := ?_) (a' := ?_) #[true, true, false, false, false, true, false, false, false, false, false, false] rfl rfl (take_ofW HT_.out HW_.out (by kernel_rfl)) (fun _ _ _ h => h) (Or.inl ⟨by rfl, ?_⟩) hHeld ?_ ?_
   rotate_left
   ·rintro w' ⟨s0, s1, s2, s3, s4, s5⟩
    go_simp
    with_reducible rfl
   rotate_left
   ·simp only [Act.put, List.setIfInBounds_toArray, List.set_cons_zero, List.set_cons_succ, i64_w, i32_w]
    rfl
   refine take_ (i := 2) (N := some 24) (v := ?_) (a' := ?_) #[true, true, true, false, false, true, false, false, false, false, false, false] rfl rfl (take_ofW HT_.out HW_.out (by kernel_rfl)) (fun _ _ _ h => h) (Or.inl ⟨by rfl, ?_⟩) hHeld ?_ ?_
   rotate_left
   ·rintro w' ⟨s0, s1, s2, s3, s4, s5⟩
    go_simp
    with_reducible rfl
   rotate_left
   ·simp only [Act.put, List.setIfInBounds_toArray, List.set_cons_zero, List.set_cons_succ, i64_w, i32_w]
    rfl
   refine take_ (i := 6) (N := some 28) (v := ?_) (a' := ?_) #[true, true, true, false, false, true, true, false, false, false, false, false] rfl rfl (take_ofW HT_.out HW_.out (by kernel_rfl)) (fun _ _ _ h => h) (Or.inl ⟨by rfl, ?_⟩) hHeld ?_ ?_
   rotate_left
   ·rintro w' ⟨s0, s1, s2, s3, s4, s5⟩
    go_simp
    with_reducible rfl
   rotate_left
   ·simp only [Act.put, List.setIfInBounds_toArray, List.set_cons_zero, List.set_cons_succ, i64_w, i32_w]
    rfl
   refine take_ (i := 7) (N := some 29) (v := ?_) (a' := ?_) #[true, true, true, false, false, true, true, true, false, false, false, false] rfl rfl (take_ofW HT_.out HW_.out (by kernel_rfl)) (fun _ _ _ h => h) (Or.inl ⟨by rfl, ?_⟩) hHeld ?_ ?_
   rotate_left
   ·rintro w' ⟨s0, s1, s2, s3, s4, s5⟩
    go_simp
    with_reducible rfl
   rotate_left
   ·simp only [Act.put, List.setIfInBounds_toArray, List.set_cons_zero, List.set_cons_succ, i64_w, i32_w]
    rfl
   refine one_ (i := 3) (N := some 25) #[true, true, true, true, false, true, true, true, false, false, false, false] rfl rfl (one_of HT_.out (by kernel_rfl)) (by decide) (fun K hK => ?_)
   refine goes_ Tryd.func46 (by kernel_rfl) rfl #[.agg #[.bool t404, .string t405, .string t406]] (by rfl) rfl rfl (by (try simp only [List.map_toArray, List.map_cons, List.map_nil]); first | done | rfl | (simp only [List.length_drop, List.length_take]; rfl)) ?_
   with_reducible refine (rational_den.calls t404 t405 t406 t409 _ A8.out).mono ?_
   rintro e w30 ⟨rfl, hb⟩
   refine ⟨_, rfl, ?_⟩
   have n0_ := A0_.mk (kB_ (g := gb399) (o := .cells #[.bool true, .string t402, .string t403] 26 (0, 0)) (by (with_reducible repeat (first | refine kN_ ?_ _ | refine kD_ ?_ | refine kA_ ?_ _)); exact BK399.out) hb)
   have n1_ := A0_.mk (kB_ (g := gb400) (o := .cells #[.bool t404, .string t405, .string t406] 26 (0, 0)) (by (with_reducible repeat (first | refine kN_ ?_ _ | refine kD_ ?_ | refine kA_ ?_ _)); exact BK400.out) hb)
   have n2_ := A0_.mk (bT_ (by repeat (first | (with_reducible first | exact HB.out | apply bA_ | apply pB_ | apply b1_ | refine bS_ ?_ GE399.out | refine bS_ ?_ GE400.out) | exact HB.out)) hb)
   clear BK399
   clear BK400
   clear HB
   have BK399 := n0_
   have BK400 := n1_
   have HB := n2_
   clear n0_ n1_ n2_
   (try clear hb)
   (try clear hb2)
   (try clear hk)
   (try clear hi)
   refine hK.out _ _ ⟨(kc_ BK399.out 0).trans rfl, (kc_ BK399.out 1).trans rfl, (kc_ BK399.out 2).trans rfl, (kc_ BK400.out 0).trans rfl, (kc_ BK400.out 1).trans rfl, (kc_ BK400.out 2).trans rfl⟩ (fun hHeld => ?_)
   clear hK K
   refine norm_ (a' := ?_) ?_ ?_
   rotate_left
   ·show Act.put _ (some 25) _ = _
    simp only [Act.put, List.setIfInBounds_toArray, List.set_cons_zero, List.set_cons_succ, i64_w, i32_w]
    rfl
   refine one_ (i := 4) (N := some 26) #[true, true, true, true, true, true, true, true, false, false, false, false] rfl rfl (one_of HT_.out (by kernel_rfl)) (by decide) (fun K hK => ?_)
   refine goes_ Tryd.func45 (by kernel_rfl) rfl #[.string t402, .string t409] (by rfl) rfl rfl (by (try simp only [List.map_toArray, List.map_cons, List.map_nil]); first | done | rfl | (simp only [List.length_drop, List.length_take]; rfl)) ?_
   with_reducible refine (natural_Multiply.calls k t402 t409 t410 _ A9.out).mono ?_
   rintro e w31 ⟨rfl, hb⟩
   refine ⟨_, rfl, ?_⟩
   have n0_ := A0_.mk (kB_ (g := gb399) (o := .cells #[.bool true, .string t402, .string t403] 26 (0, 0)) (by (with_reducible repeat (first | refine kN_ ?_ _ | refine kD_ ?_ | refine kA_ ?_ _)); exact BK399.out) hb)
   have n1_ := A0_.mk (kB_ (g := gb400) (o := .cells #[.bool t404, .string t405, .string t406] 26 (0, 0)) (by (with_reducible repeat (first | refine kN_ ?_ _ | refine kD_ ?_ | refine kA_ ?_ _)); exact BK400.out) hb)
   have n2_ := A0_.mk (bT_ (by repeat (first | (with_reducible first | exact HB.out | apply bA_ | apply pB_ | apply b1_ | refine bS_ ?_ GE399.out | refine bS_ ?_ GE400.out) | exact HB.out)) hb)
   clear BK399
   clear BK400
   clear HB
   have BK399 := n0_
   have BK400 := n1_
   have HB := n2_
   clear n0_ n1_ n2_
   (try clear hb)
   (try clear hb2)
   (try clear hk)
   (try clear hi)
   refine hK.out _ _ ⟨(kc_ BK399.out 0).trans rfl, (kc_ BK399.out 1).trans rfl, (kc_ BK399.out 2).trans rfl, (kc_ BK400.out 0).trans rfl, (kc_ BK400.out 1).trans rfl, (kc_ BK400.out 2).trans rfl⟩ (fun hHeld => ?_)
   clear hK K
   refine norm_ (a' := ?_) ?_ ?_
   rotate_left
   ·show Act.put _ (some 26) _ = _
    simp only [Act.put, List.setIfInBounds_toArray, List.set_cons_zero, List.set_cons_succ, i64_w, i32_w]
    rfl
   refine one_ (i := 8) (N := some 30) #[true, true, true, true, true, true, true, true, true, false, false, false] rfl rfl (one_of HT_.out (by kernel_rfl)) (by decide) (fun K hK => ?_)
   refine goes_ Tryd.func46 (by kernel_rfl) rfl #[.agg #[.bool true, .string t402, .string t403]] (by rfl) rfl rfl (by (try simp only [List.map_toArray, List.map_cons, List.map_nil]); first | done | rfl | (simp only [List.length_drop, List.length_take]; rfl)) ?_
   with_reducible refine (rational_den.calls true t402 t403 t411 _ A10.out).mono ?_
   rintro e w32 ⟨rfl, hb⟩
   refine ⟨_, rfl, ?_⟩
   have n0_ := A0_.mk (kB_ (g := gb399) (o := .cells #[.bool true, .string t402, .string t403] 26 (0, 0)) (by (with_reducible repeat (first | refine kN_ ?_ _ | refine kD_ ?_ | refine kA_ ?_ _)); exact BK399.out) hb)
   have n1_ := A0_.mk (kB_ (g := gb400) (o := .cells #[.bool t404, .string t405, .string t406] 26 (0, 0)) (by (with_reducible repeat (first | refine kN_ ?_ _ | refine kD_ ?_ | refine kA_ ?_ _)); exact BK400.out) hb)
   have n2_ := A0_.mk (bT_ (by repeat (first | (with_reducible first | exact HB.out | apply bA_ | apply pB_ | apply b1_ | refine bS_ ?_ GE399.out | refine bS_ ?_ GE400.out) | exact HB.out)) hb)
   clear BK399
   clear BK400
   clear HB
   have BK399 := n0_
   have BK400 := n1_
   have HB := n2_
   clear n0_ n1_ n2_
   (try clear hb)
   (try clear hb2)
   (try clear hk)
   (try clear hi)
   refine hK.out _ _ ⟨(kc_ BK399.out 0).trans rfl, (kc_ BK399.out 1).trans rfl, (kc_ BK399.out 2).trans rfl, (kc_ BK400.out 0).trans rfl, (kc_ BK400.out 1).trans rfl, (kc_ BK400.out 2).trans rfl⟩ (fun hHeld => ?_)
   clear hK K
   refine norm_ (a' := ?_) ?_ ?_
   rotate_left
   ·show Act.put _ (some 30) _ = _
    simp only [Act.put, List.setIfInBounds_toArray, List.set_cons_zero, List.set_cons_succ, i64_w, i32_w]
    rfl
   refine one_ (i := 9) (N := some 31) #[true, true, true, true, true, true, true, true, true, true, false, false] rfl rfl (one_of HT_.out (by kernel_rfl)) (by decide) (fun K hK => ?_)
   refine goes_ Tryd.func45 (by kernel_rfl) rfl #[.string t405, .string t411] (by rfl) rfl rfl (by (try simp only [List.map_toArray, List.map_cons, List.map_nil]); first | done | rfl | (simp only [List.length_drop, List.length_take]; rfl)) ?_
   with_reducible refine (natural_Multiply.calls k t405 t411 t412 _ A11.out).mono ?_
   rintro e w33 ⟨rfl, hb⟩
   refine ⟨_, rfl, ?_⟩
   have n0_ := A0_.mk (kB_ (g := gb399) (o := .cells #[.bool true, .string t402, .string t403] 26 (0, 0)) (by (with_reducible repeat (first | refine kN_ ?_ _ | refine kD_ ?_ | refine kA_ ?_ _)); exact BK399.out) hb)
   have n1_ := A0_.mk (kB_ (g := gb400) (o := .cells #[.bool t404, .string t405, .string t406] 26 (0, 0)) (by (with_reducible repeat (first | refine kN_ ?_ _ | refine kD_ ?_ | refine kA_ ?_ _)); exact BK400.out) hb)
   have n2_ := A0_.mk (bT_ (by repeat (first | (with_reducible first | exact HB.out | apply bA_ | apply pB_ | apply b1_ | refine bS_ ?_ GE399.out | refine bS_ ?_ GE400.out) | exact HB.out)) hb)
   clear BK399
   clear BK400
   clear HB
   have BK399 := n0_
   have BK400 := n1_
   have HB := n2_
   clear n0_ n1_ n2_
   (try clear hb)
   (try clear hb2)
   (try clear hk)
   (try clear hi)
   refine hK.out _ _ ⟨(kc_ BK399.out 0).trans rfl, (kc_ BK399.out 1).trans rfl, (kc_ BK399.out 2).trans rfl, (kc_ BK400.out 0).trans rfl, (kc_ BK400.out 1).trans rfl, (kc_ BK400.out 2).trans rfl⟩ (fun hHeld => ?_)
   clear hK K
   refine norm_ (a' := ?_) ?_ ?_
   rotate_left
   ·show Act.put _ (some 31) _ = _
    simp only [Act.put, List.setIfInBounds_toArray, List.set_cons_zero, List.set_cons_succ, i64_w, i32_w]
    rfl
   refine one_ (i := 10) (N := some 32) #[true, true, true, true, true, true, true, true, true, true, true, false] rfl rfl (one_of HT_.out (by kernel_rfl)) (by decide) (fun K hK => ?_)
   refine goes_ Tryd.func44 (by kernel_rfl) rfl #[.string t410, .string t412] (by rfl) rfl rfl (by (try simp only [List.map_toArray, List.map_cons, List.map_nil]); first | done | rfl | (simp only [List.length_drop, List.length_take]; rfl)) ?_
   with_reducible refine (natural_Compare.calls k t410 t412 t413 _ A12.out).mono ?_
   rintro e w' ⟨rfl, ⟨nd, rfl⟩⟩
   refine ⟨_, rfl, ?_⟩
   refine hK.out _ _ ⟨(kc_ BK399.out 0).trans rfl, (kc_ BK399.out 1).trans rfl, (kc_ BK399.out 2).trans rfl, (kc_ BK400.out 0).trans rfl, (kc_ BK400.out 1).trans rfl, (kc_ BK400.out 2).trans rfl⟩ (fun hHeld => ?_)
   clear hK K
   refine norm_ (a' := ?_) ?_ ?_
   rotate_left
   ·show Act.put _ (some 32) _ = _
    simp only [Act.put, List.setIfInBounds_toArray, List.set_cons_zero, List.set_cons_succ, i64_w, i32_w]
    rfl
   refine pure_ (i := 11) (N := some 7) (v := ?_) (a' := ?_) #[true, true, true, true, true, true, true, true, true, true, true, true] rfl rfl (any_of HT_.out (by kernel_rfl)) (fun _ _ _ h => h) (Or.inl ⟨by rfl, ?_⟩) ?_ ?_
   rotate_left
   ·intro w'
    go_simp
    with_reducible rfl
   rotate_left
   ·simp only [Act.put, List.setIfInBounds_toArray, List.set_cons_zero, List.set_cons_succ, i64_w, i32_w]
    rfl
   refine done_ (done_of HT_.out (by kernel_rfl)) ?_
   have hnb34 := NB399_400.out
   have hnc34 := NB400_399.out
   have hcz35_0 : w33.cell? ⟨gb399, 0, none⟩ = some (.bool true) := (kc_ BK399.out 0).trans rfl
   have hcz35_1 : w33.cell? ⟨gb399, 1, none⟩ = some (.string t402) := (kc_ BK399.out 1).trans rfl
   have hcz35_2 : w33.cell? ⟨gb399, 2, none⟩ = some (.string t403) := (kc_ BK399.out 2).trans rfl
   have hfz35_0 := kF_ BK399.out 0
   have hfz35_1 := kF_ BK399.out 1
   have hfz35_2 := kF_ BK399.out 2
   try go_wp2
   go_ret
   exact ⟨by first | rfl | (simp [errW_none, errW_some] <;> rfl) | (simp [*, errW_none, errW_some] <;> rfl), by repeat (first | (with_reducible first | exact HB.out | apply bA_ | apply pB_ | apply b1_ | refine bS_ ?_ GE399.out | refine bS_ ?_ GE400.out) | exact HB.out)⟩
  ·replace c13 := Bool.eq_false_iff.mpr c13
   subst c13
   have H1 : (some t413) = some r := by rw [if_neg (show ¬ (false = true) by decide)] at H; exact H
   clear H
   have H := H1
   clear H1
   obtain rfl := Option.some.inj H
   go_enter Tryd.func20, Tryd.ntmps20
   try go_wp2_with (first | ((with_reducible refine gD_ (N := 2) rfl ?_); refine bE_ ?hg (N := 2) ?hd (cs := #[.bool a0_0, .string a0_1, .string a0_2]) (t := 26) ?hr ?_; (case hd => rfl); (case hg => rfl); (case hr => first | (go_simp; done) | (go_simp; rfl)); intro gb399 hg w36 hbox hb; have n0_ := A0_.mk (bT_ (by repeat (first | (with_reducible first | exact HB.out | apply bA_ | apply pB_ | apply b1_) | exact HB.out)) hb); have n1_ := A0_.mk (hbox); have n2_ := A0_.mk ((by rw [hg]; exact (bZ_ (by repeat (first | (with_reducible first | exact HB.out | apply bA_ | apply pB_ | apply b1_) | exact HB.out))) : w.heap.size ≤ gb399)); have n3_ := A0_.mk ((by rw [hg]; exact (bZ_ (by repeat (first | (with_reducible first | exact HB.out | apply bA_ | apply pB_ | apply b1_) | exact HB.out))) : w.heap.size ≤ gb399)); clear HB; have HB := n0_; have BK399 := n1_; have GW399 := n2_; have GE399 := n3_; clear n0_ n1_ n2_ n3_; clear hb hbox hg) | ((with_reducible refine gD_ (N := 3) rfl ?_); refine bE_ ?hg (N := 3) ?hd (cs := #[.bool a1_0, .string a1_1, .string a1_2]) (t := 26) ?hr ?_; (case hd => rfl); (case hg => rfl); (case hr => first | (go_simp; done) | (go_simp; rfl)); intro gb400 hg w37 hbox hb; have n0_ := A0_.mk (kB_ (g := gb399) (o := .cells #[.bool a0_0, .string a0_1, .string a0_2] 26 (0, 0)) (by (with_reducible repeat (first | refine kN_ ?_ _ | refine kD_ ?_ | refine kA_ ?_ _)); exact BK399.out) hb); have n1_ := A0_.mk (bT_ (by repeat (first | (with_reducible first | exact HB.out | apply bA_ | apply pB_ | apply b1_ | refine bS_ ?_ GE399.out) | exact HB.out)) hb); have n2_ := A0_.mk (hbox); have n3_ := A0_.mk ((by rw [hg]; exact (bZ_ (by repeat (first | (with_reducible first | exact HB.out | apply bA_ | apply pB_ | apply b1_ | refine bS_ ?_ GE399.out) | exact HB.out))) : w.heap.size ≤ gb400)); have n4_ := A0_.mk ((by rw [hg]; exact (bZ_ (by repeat (first | (with_reducible first | exact HB.out | apply bA_ | apply pB_ | apply b1_ | refine bS_ ?_ GE399.out) | exact HB.out))) : w.heap.size ≤ gb400)); have n5_ := A0_.mk ((by rw [hg]; exact Nat.ne_of_lt (blk_lt (g := gb399) (o := .cells #[.bool a0_0, .string a0_1, .string a0_2] 26 (0, 0)) (by (with_reducible repeat (first | refine kN_ ?_ _ | refine kD_ ?_ | refine kA_ ?_ _)); exact BK399.out)) : gb399 ≠ gb400)); have n6_ := A0_.mk ((by rw [hg]; exact Nat.ne_of_gt (blk_lt (g := gb399) (o := .cells #[.bool a0_0, .string a0_1, .string a0_2] 26 (0, 0)) (by (with_reducible repeat (first | refine kN_ ?_ _ | refine kD_ ?_ | refine kA_ ?_ _)); exact BK399.out)) : gb400 ≠ gb399)); clear BK399; clear HB; have BK399 := n0_; have HB := n1_; have BK400 := n2_; have GW400 := n3_; have GE400 := n4_; have NB399_400 := n5_; have NB400_399 := n6_; clear n0_ n1_ n2_ n3_ n4_ n5_ n6_; clear hb hbox hg))
   have n0_ := A0_.mk (kD_ BK399.out)
   have n1_ := A0_.mk (kD_ BK400.out)
   have n2_ := A0_.mk (b1_ HB.out)
   clear BK399
   clear BK400
   clear HB
   have BK399 := n0_
   have BK400 := n1_
   have HB := n2_
   clear n0_ n1_ n2_
   refine start_ (n := 6) (S := fun w' => w'.cell? ⟨gb399, 0, none⟩ = some (.bool a0_0) ∧ w'.cell? ⟨gb399, 1, none⟩ = some (.string a0_1) ∧ w'.cell? ⟨gb399, 2, none⟩ = some (.string a0_2) ∧ w'.cell? ⟨gb400, 0, none⟩ = some (.bool a1_0) ∧ w'.cell? ⟨gb400, 1, none⟩ = some (.string a1_1) ∧ w'.cell? ⟨gb400, 2, none⟩ = some (.string a1_2)) (ds := [4, 5]) #[false, false, false, false, false, false] (by kernel_rfl) rfl rfl ⟨(kc_ BK399.out 0).trans rfl, (kc_ BK399.out 1).trans rfl, (kc_ BK399.out 2).trans rfl, (kc_ BK400.out 0).trans rfl, (kc_ BK400.out 1).trans rfl, (kc_ BK400.out 2).trans rfl⟩ (fun hHeld => ?_)
   generalize w37.drew = w38 at BK399 BK400 HB hHeld ⊢
   refine take_ (i := 0) (N := some 8) (v := ?_) (a' := ?_) #[true, false, false, false, false, false] rfl rfl (by kernel_rfl) (fun _ _ _ h => h) (Or.inl ⟨by rfl, ?_⟩) hHeld ?_ ?_
   rotate_left
   ·rintro w' ⟨s0, s1, s2, s3, s4, s5⟩
    go_simp
    with_reducible rfl
   rotate_left
   ·simp only [Act.put, List.setIfInBounds_toArray, List.set_cons_zero, List.set_cons_succ, i64_w, i32_w]
    rfl
   refine take_ (i := 2) (N := some 10) (v := ?_) (a' := ?_) #[true, false, true, false, false, false] rfl rfl (by kernel_rfl) (fun _ _ _ h => h) (Or.inl ⟨by rfl, ?_⟩) hHeld ?_ ?_
   rotate_left
   ·rintro w' ⟨s0, s1, s2, s3, s4, s5⟩
    go_simp
    with_reducible rfl
   rotate_left
   ·simp only [Act.put, List.setIfInBounds_toArray, List.set_cons_zero, List.set_cons_succ, i64_w, i32_w]
    rfl
   refine one_ (i := 1) (N := some 9) #[true, true, true, false, false, false] rfl rfl (by kernel_rfl) (by decide) (fun K hK => ?_)
   refine goes_ Tryd.func43 (by kernel_rfl) rfl #[.agg #[.bool a0_0, .string a0_1, .string a0_2]] (by rfl) rfl rfl (by (try simp only [List.map_toArray, List.map_cons, List.map_nil]); first | done | rfl | (simp only [List.length_drop, List.length_take]; rfl)) ?_
   with_reducible refine (rational_clean.calls k a0_0 a0_1 a0_2 false t402 t403 _ A3.out).mono ?_
   rintro e w39 ⟨rfl, hb⟩
   refine ⟨_, rfl, ?_⟩
   have n0_ := A0_.mk (kB_ (g := gb399) (o := .cells #[.bool a0_0, .string a0_1, .string a0_2] 26 (0, 0)) (by (with_reducible repeat (first | refine kN_ ?_ _ | refine kD_ ?_ | refine kA_ ?_ _)); exact BK399.out) hb)
   have n1_ := A0_.mk (kB_ (g := gb400) (o := .cells #[.bool a1_0, .string a1_1, .string a1_2] 26 (0, 0)) (by (with_reducible repeat (first | refine kN_ ?_ _ | refine kD_ ?_ | refine kA_ ?_ _)); exact BK400.out) hb)
   have n2_ := A0_.mk (bT_ (by repeat (first | (with_reducible first | exact HB.out | apply bA_ | apply pB_ | apply b1_ | refine bS_ ?_ GE399.out | refine bS_ ?_ GE400.out) | exact HB.out)) hb)
   clear BK399
   clear BK400
   clear HB
   have BK399 := n0_
   have BK400 := n1_
   have HB := n2_
   clear n0_ n1_ n2_
   (try clear hb)
   (try clear hb2)
   (try clear hk)
   (try clear hi)
   refine hK.out _ _ ⟨(kc_ BK399.out 0).trans rfl, (kc_ BK399.out 1).trans rfl, (kc_ BK399.out 2).trans rfl, (kc_ BK400.out 0).trans rfl, (kc_ BK400.out 1).trans rfl, (kc_ BK400.out 2).trans rfl⟩ (fun hHeld => ?_)
   clear hK K
   refine norm_ (a' := ?_) ?_ ?_
   rotate_left
   ·show Act.put _ (some 9) _ = _
    simp only [Act.put, List.setIfInBounds_toArray, List.set_cons_zero, List.set_cons_succ, i64_w, i32_w]
    rfl
   refine one_ (i := 3) (N := some 11) #[true, true, true, true, false, false] rfl rfl (by kernel_rfl) (by decide) (fun K hK => ?_)
   refine goes_ Tryd.func43 (by kernel_rfl) rfl #[.agg #[.bool a1_0, .string a1_1, .string a1_2]] (by rfl) rfl rfl (by (try simp only [List.map_toArray, List.map_cons, List.map_nil]); first | done | rfl | (simp only [List.length_drop, List.length_take]; rfl)) ?_
   with_reducible refine (rational_clean.calls k a1_0 a1_1 a1_2 t404 t405 t406 _ A4.out).mono ?_
   rintro e w40 ⟨rfl, hb⟩
   refine ⟨_, rfl, ?_⟩
   have n0_ := A0_.mk (kB_ (g := gb399) (o := .cells #[.bool a0_0, .string a0_1, .string a0_2] 26 (0, 0)) (by (with_reducible repeat (first | refine kN_ ?_ _ | refine kD_ ?_ | refine kA_ ?_ _)); exact BK399.out) hb)
   have n1_ := A0_.mk (kB_ (g := gb400) (o := .cells #[.bool a1_0, .string a1_1, .string a1_2] 26 (0, 0)) (by (with_reducible repeat (first | refine kN_ ?_ _ | refine kD_ ?_ | refine kA_ ?_ _)); exact BK400.out) hb)
   have n2_ := A0_.mk (bT_ (by repeat (first | (with_reducible first | exact HB.out | apply bA_ | apply pB_ | apply b1_ | refine bS_ ?_ GE399.out | refine bS_ ?_ GE400.out) | exact HB.out)) hb)
   clear BK399
   clear BK400
   clear HB
   have BK399 := n0_
   have BK400 := n1_
   have HB := n2_
   clear n0_ n1_ n2_
   (try clear hb)
   (try clear hb2)
   (try clear hk)
   (try clear hi)
   refine hK.out _ _ ⟨(kc_ BK399.out 0).trans rfl, (kc_ BK399.out 1).trans rfl, (kc_ BK399.out 2).trans rfl, (kc_ BK400.out 0).trans rfl, (kc_ BK400.out 1).trans rfl, (kc_ BK400.out 2).trans rfl⟩ (fun hHeld => ?_)
   clear hK K
   refine norm_ (a' := ?_) ?_ ?_
   rotate_left
   ·show Act.put _ (some 11) _ = _
    simp only [Act.put, List.setIfInBounds_toArray, List.set_cons_zero, List.set_cons_succ, i64_w, i32_w]
    rfl
   refine last_ (i := 4) (N := none) #[true, true, true, true, true, false] rfl rfl (by kernel_rfl) (by decide) (fun K hK => ?_)
   have hs41 : w40.cell? ⟨gb399, 0, none⟩ = some (.bool a0_0) := (kc_ BK399.out 0).trans rfl
   have hfs41 := kF_ BK399.out 0
   have hns41_1 := NB400_399.out
   have hms41_1 := NB399_400.out
   have hs42 : w40.cell? ⟨gb399, 1, none⟩ = some (.string a0_1) := (kc_ BK399.out 1).trans rfl
   have hfs42 := kF_ BK399.out 1
   have hns42_1 := NB400_399.out
   have hms42_1 := NB399_400.out
   have hs43 : w40.cell? ⟨gb399, 2, none⟩ = some (.string a0_2) := (kc_ BK399.out 2).trans rfl
   have hfs43 := kF_ BK399.out 2
   have hns43_1 := NB400_399.out
   have hms43_1 := NB399_400.out
   refine skip_ (w1 := ?_) (by rfl) rfl ?_ ?_
   rotate_left
   ·go_simp
    rfl
   refine hK.out _ _ ?_
   clear hK K
   refine last_ (i := 5) (N := none) #[true, true, true, true, true, true] rfl rfl (by kernel_rfl) (by decide) (fun K hK => ?_)
   have hs44 : w40.cell? ⟨gb400, 0, none⟩ = some (.bool a1_0) := (kc_ BK400.out 0).trans rfl
   have hfs44 := kF_ BK400.out 0
   have hns44_0 := NB399_400.out
   have hms44_0 := NB400_399.out
   have hs45 : w40.cell? ⟨gb400, 1, none⟩ = some (.string a1_1) := (kc_ BK400.out 1).trans rfl
   have hfs45 := kF_ BK400.out 1
   have hns45_0 := NB399_400.out
   have hms45_0 := NB400_399.out
   have hs46 : w40.cell? ⟨gb400, 2, none⟩ = some (.string a1_2) := (kc_ BK400.out 2).trans rfl
   have hfs46 := kF_ BK400.out 2
   have hns46_0 := NB399_400.out
   have hms46_0 := NB400_399.out
   refine skip_ (w1 := ?_) (by rfl) rfl ?_ ?_
   rotate_left
   ·go_simp
    rfl
   refine hK.out _ _ ?_
   clear hK K
   refine done_ (by kernel_rfl) ?_
   try go_wp2
   have n0_ : A0_ (((((((w40.setCell ⟨gb399, 0, none⟩ (.bool false)).setCell ⟨gb399, 1, none⟩ (.string t402)).setCell ⟨gb399, 2, none⟩ (.string t403)).setCell ⟨gb400, 0, none⟩ (.bool t404)).setCell ⟨gb400, 1, none⟩ (.string t405)).setCell ⟨gb400, 2, none⟩ (.string t406)).heap[gb399]? = some (.cells #[.bool false, .string t402, .string t403] 26 (0, 0))) := ⟨by (with_reducible repeat (first | refine kN_ ?_ _ | refine kD_ ?_ | refine kA_ ?_ _)); refine blk_far ?_ NB399_400.out _; (with_reducible repeat (first | refine kN_ ?_ _ | refine kD_ ?_ | refine kA_ ?_ _)); refine blk_far ?_ NB399_400.out _; (with_reducible repeat (first | refine kN_ ?_ _ | refine kD_ ?_ | refine kA_ ?_ _)); refine blk_far ?_ NB399_400.out _; (with_reducible repeat (first | refine kN_ ?_ _ | refine kD_ ?_ | refine kA_ ?_ _)); refine kP_ (cs := #[.bool false, .string t402, .string a0_2]) ?_ 2 _ rfl; (with_reducible repeat (first | refine kN_ ?_ _ | refine kD_ ?_ | refine kA_ ?_ _)); refine kP_ (cs := #[.bool false, .string a0_1, .string a0_2]) ?_ 1 _ rfl; (with_reducible repeat (first | refine kN_ ?_ _ | refine kD_ ?_ | refine kA_ ?_ _)); refine kP_ (cs := #[.bool a0_0, .string a0_1, .string a0_2]) ?_ 0 _ rfl; (with_reducible repeat (first | refine kN_ ?_ _ | refine kD_ ?_ | refine kA_ ?_ _)); exact BK399.out⟩
   have n1_ : A0_ (((((((w40.setCell ⟨gb399, 0, none⟩ (.bool false)).setCell ⟨gb399, 1, none⟩ (.string t402)).setCell ⟨gb399, 2, none⟩ (.string t403)).setCell ⟨gb400, 0, none⟩ (.bool t404)).setCell ⟨gb400, 1, none⟩ (.string t405)).setCell ⟨gb400, 2, none⟩ (.string t406)).heap[gb400]? = some (.cells #[.bool t404, .string t405, .string t406] 26 (0, 0))) := ⟨by (with_reducible repeat (first | refine kN_ ?_ _ | refine kD_ ?_ | refine kA_ ?_ _)); refine kP_ (cs := #[.bool t404, .string t405, .string a1_2]) ?_ 2 _ rfl; (with_reducible repeat (first | refine kN_ ?_ _ | refine kD_ ?_ | refine kA_ ?_ _)); refine kP_ (cs := #[.bool t404, .string a1_1, .string a1_2]) ?_ 1 _ rfl; (with_reducible repeat (first | refine kN_ ?_ _ | refine kD_ ?_ | refine kA_ ?_ _)); refine kP_ (cs := #[.bool a1_0, .string a1_1, .string a1_2]) ?_ 0 _ rfl; (with_reducible repeat (first | refine kN_ ?_ _ | refine kD_ ?_ | refine kA_ ?_ _)); refine blk_far ?_ NB400_399.out _; (with_reducible repeat (first | refine kN_ ?_ _ | refine kD_ ?_ | refine kA_ ?_ _)); refine blk_far ?_ NB400_399.out _; (with_reducible repeat (first | refine kN_ ?_ _ | refine kD_ ?_ | refine kA_ ?_ _)); refine blk_far ?_ NB400_399.out _; (with_reducible repeat (first | refine kN_ ?_ _ | refine kD_ ?_ | refine kA_ ?_ _)); exact BK400.out⟩
   have n2_ : A0_ (Below w.heap.size w ((((((w40.setCell ⟨gb399, 0, none⟩ (.bool false)).setCell ⟨gb399, 1, none⟩ (.string t402)).setCell ⟨gb399, 2, none⟩ (.string t403)).setCell ⟨gb400, 0, none⟩ (.bool t404)).setCell ⟨gb400, 1, none⟩ (.string t405)).setCell ⟨gb400, 2, none⟩ (.string t406))) := ⟨by repeat (first | (with_reducible first | exact HB.out | apply bA_ | apply pB_ | apply b1_ | refine bS_ ?_ GE399.out | refine bS_ ?_ GE400.out) | exact HB.out)⟩
   (try clear BK399)
   (try clear BK400)
   (try clear HB)
   generalize ((((((w40.setCell ⟨gb399, 0, none⟩ (.bool false)).setCell ⟨gb399, 1, none⟩ (.string t402)).setCell ⟨gb399, 2, none⟩ (.string t403)).setCell ⟨gb400, 0, none⟩ (.bool t404)).setCell ⟨gb400, 1, none⟩ (.string t405)).setCell ⟨gb400, 2, none⟩ (.string t406)) = w47 at n0_ n1_ n2_ ⊢
   have BK399 := n0_
   have BK400 := n1_
   have HB := n2_
   clear n0_ n1_ n2_
   have n0_ := A0_.mk (kD_ BK399.out)
   have n1_ := A0_.mk (kD_ BK400.out)
   have n2_ := A0_.mk (b1_ HB.out)
   clear BK399
   clear BK400
   clear HB
   have BK399 := n0_
   have BK400 := n1_
   have HB := n2_
   clear n0_ n1_ n2_
   refine start_ (n := 6) (S := fun w' => w'.cell? ⟨gb399, 0, none⟩ = some (.bool false) ∧ w'.cell? ⟨gb399, 1, none⟩ = some (.string t402) ∧ w'.cell? ⟨gb399, 2, none⟩ = some (.string t403) ∧ w'.cell? ⟨gb400, 0, none⟩ = some (.bool t404) ∧ w'.cell? ⟨gb400, 1, none⟩ = some (.string t405) ∧ w'.cell? ⟨gb400, 2, none⟩ = some (.string t406)) (ds := []) #[false, false, false, false, false, false] (by kernel_rfl) rfl rfl ⟨(kc_ BK399.out 0).trans rfl, (kc_ BK399.out 1).trans rfl, (kc_ BK399.out 2).trans rfl, (kc_ BK400.out 0).trans rfl, (kc_ BK400.out 1).trans rfl, (kc_ BK400.out 2).trans rfl⟩ (fun hHeld => ?_)
   generalize w47.drew = w48 at BK399 BK400 HB hHeld ⊢
   refine take_ (i := 0) (N := some 12) (v := ?_) (a' := ?_) #[true, false, false, false, false, false] rfl rfl (by kernel_rfl) (fun _ _ _ h => h) (Or.inl ⟨by rfl, ?_⟩) hHeld ?_ ?_
   rotate_left
   ·rintro w' ⟨s0, s1, s2, s3, s4, s5⟩
    go_simp
    with_reducible rfl
   rotate_left
   ·simp only [Act.put, List.setIfInBounds_toArray, List.set_cons_zero, List.set_cons_succ, i64_w, i32_w]
    rfl
   refine take_ (i := 2) (N := some 14) (v := ?_) (a' := ?_) #[true, false, true, false, false, false] rfl rfl (by kernel_rfl) (fun _ _ _ h => h) (Or.inl ⟨by rfl, ?_⟩) hHeld ?_ ?_
   rotate_left
   ·rintro w' ⟨s0, s1, s2, s3, s4, s5⟩
    go_simp
    with_reducible rfl
   rotate_left
   ·simp only [Act.put, List.setIfInBounds_toArray, List.set_cons_zero, List.set_cons_succ, i64_w, i32_w]
    rfl
   refine one_ (i := 1) (N := some 13) #[true, true, true, false, false, false] rfl rfl (by kernel_rfl) (by decide) (fun K hK => ?_)
   refine goes_ Tryd.func42 (by kernel_rfl) rfl #[.agg #[.bool false, .string t402, .string t403]] (by rfl) rfl rfl (by (try simp only [List.map_toArray, List.map_cons, List.map_nil]); first | done | rfl | (simp only [List.length_drop, List.length_take]; rfl)) ?_
   with_reducible refine (rational_signOf.calls false t402 t403 t407 _ A5.out).mono ?_
   rintro e w49 ⟨rfl, hb⟩
   refine ⟨_, rfl, ?_⟩
   have n0_ := A0_.mk (kB_ (g := gb399) (o := .cells #[.bool false, .string t402, .string t403] 26 (0, 0)) (by (with_reducible repeat (first | refine kN_ ?_ _ | refine kD_ ?_ | refine kA_ ?_ _)); exact BK399.out) hb)
   have n1_ := A0_.mk (kB_ (g := gb400) (o := .cells #[.bool t404, .string t405, .string t406] 26 (0, 0)) (by (with_reducible repeat (first | refine kN_ ?_ _ | refine kD_ ?_ | refine kA_ ?_ _)); exact BK400.out) hb)
   have n2_ := A0_.mk (bT_ (by repeat (first | (with_reducible first | exact HB.out | apply bA_ | apply pB_ | apply b1_ | refine bS_ ?_ GE399.out | refine bS_ ?_ GE400.out) | exact HB.out)) hb)
   clear BK399
   clear BK400
   clear HB
   have BK399 := n0_
   have BK400 := n1_
   have HB := n2_
   clear n0_ n1_ n2_
   (try clear hb)
   (try clear hb2)
   (try clear hk)
   (try clear hi)
   refine hK.out _ _ ⟨(kc_ BK399.out 0).trans rfl, (kc_ BK399.out 1).trans rfl, (kc_ BK399.out 2).trans rfl, (kc_ BK400.out 0).trans rfl, (kc_ BK400.out 1).trans rfl, (kc_ BK400.out 2).trans rfl⟩ (fun hHeld => ?_)
   clear hK K
   refine norm_ (a' := ?_) ?_ ?_
   rotate_left
   ·show Act.put _ (some 13) _ = _
    simp only [Act.put, List.setIfInBounds_toArray, List.set_cons_zero, List.set_cons_succ, i64_w, i32_w]
    rfl
   refine one_ (i := 3) (N := some 15) #[true, true, true, true, false, false] rfl rfl (by kernel_rfl) (by decide) (fun K hK => ?_)
   refine goes_ Tryd.func42 (by kernel_rfl) rfl #[.agg #[.bool t404, .string t405, .string t406]] (by rfl) rfl rfl (by (try simp only [List.map_toArray, List.map_cons, List.map_nil]); first | done | rfl | (simp only [List.length_drop, List.length_take]; rfl)) ?_
   with_reducible refine (rational_signOf.calls t404 t405 t406 t408 _ A6.out).mono ?_
   rintro e w50 ⟨rfl, hb⟩
   refine ⟨_, rfl, ?_⟩
   have n0_ := A0_.mk (kB_ (g := gb399) (o := .cells #[.bool false, .string t402, .string t403] 26 (0, 0)) (by (with_reducible repeat (first | refine kN_ ?_ _ | refine kD_ ?_ | refine kA_ ?_ _)); exact BK399.out) hb)
   have n1_ := A0_.mk (kB_ (g := gb400) (o := .cells #[.bool t404, .string t405, .string t406] 26 (0, 0)) (by (with_reducible repeat (first | refine kN_ ?_ _ | refine kD_ ?_ | refine kA_ ?_ _)); exact BK400.out) hb)
   have n2_ := A0_.mk (bT_ (by repeat (first | (with_reducible first | exact HB.out | apply bA_ | apply pB_ | apply b1_ | refine bS_ ?_ GE399.out | refine bS_ ?_ GE400.out) | exact HB.out)) hb)
   clear BK399
   clear BK400
   clear HB
   have BK399 := n0_
   have BK400 := n1_
   have HB := n2_
   clear n0_ n1_ n2_
   (try clear hb)
   (try clear hb2)
   (try clear hk)
   (try clear hi)
   refine hK.out _ _ ⟨(kc_ BK399.out 0).trans rfl, (kc_ BK399.out 1).trans rfl, (kc_ BK399.out 2).trans rfl, (kc_ BK400.out 0).trans rfl, (kc_ BK400.out 1).trans rfl, (kc_ BK400.out 2).trans rfl⟩ (fun hHeld => ?_)
   clear hK K
   refine norm_ (a' := ?_) ?_ ?_
   rotate_left
   ·show Act.put _ (some 15) _ = _
    simp only [Act.put, List.setIfInBounds_toArray, List.set_cons_zero, List.set_cons_succ, i64_w, i32_w]
    rfl
   refine pure_ (i := 4) (N := some 5) (v := ?_) (a' := ?_) #[true, true, true, true, true, false] rfl rfl (by kernel_rfl) (fun _ _ _ h => h) (Or.inl ⟨by rfl, ?_⟩) ?_ ?_
   rotate_left
   ·intro w'
    go_simp
    with_reducible rfl
   rotate_left
   ·simp only [Act.put, List.setIfInBounds_toArray, List.set_cons_zero, List.set_cons_succ, i64_w, i32_w]
    rfl
   refine pure_ (i := 5) (N := some 6) (v := ?_) (a' := ?_) #[true, true, true, true, true, true] rfl rfl (by kernel_rfl) (fun _ _ _ h => h) (Or.inl ⟨by rfl, ?_⟩) ?_ ?_
   rotate_left
   ·intro w'
    go_simp
    with_reducible rfl
   rotate_left
   ·simp only [Act.put, List.setIfInBounds_toArray, List.set_cons_zero, List.set_cons_succ, i64_w, i32_w]
    rfl
   refine done_ (by kernel_rfl) ?_
   try go_wp2
   have n0_ := A0_.mk (kD_ BK399.out)
   have n1_ := A0_.mk (kD_ BK400.out)
   have n2_ := A0_.mk (b1_ HB.out)
   clear BK399
   clear BK400
   clear HB
   have BK399 := n0_
   have BK400 := n1_
   have HB := n2_
   clear n0_ n1_ n2_
   refine start_ (n := 12) (S := fun w' => w'.cell? ⟨gb399, 0, none⟩ = some (.bool false) ∧ w'.cell? ⟨gb399, 1, none⟩ = some (.string t402) ∧ w'.cell? ⟨gb399, 2, none⟩ = some (.string t403) ∧ w'.cell? ⟨gb400, 0, none⟩ = some (.bool t404) ∧ w'.cell? ⟨gb400, 1, none⟩ = some (.string t405) ∧ w'.cell? ⟨gb400, 2, none⟩ = some (.string t406)) (ds := []) #[false, false, false, false, false, false, false, false, false, false, false, false] (by kernel_rfl) rfl rfl ⟨(kc_ BK399.out 0).trans rfl, (kc_ BK399.out 1).trans rfl, (kc_ BK399.out 2).trans rfl, (kc_ BK400.out 0).trans rfl, (kc_ BK400.out 1).trans rfl, (kc_ BK400.out 2).trans rfl⟩ (fun hHeld => ?_); refine with_tabW rational_Compare.tab7 rational_Compare.bits7 (fun HT_ HW_ => ?_)
   generalize w50.drew = w51 at BK399 BK400 HB hHeld ⊢
   refine pure_ (i := 0) (N := some 22) (v := ?_) (a' := ?_) #[true, false, false, false, false, false, false, false, false, false, false, false] rfl rfl (any_of HT_.out (by kernel_rfl)) (fun _ _ _ h => h) (Or.inl ⟨by rfl, ?_⟩) ?_ ?_
   rotate_left
   ·intro w'
    go_simp
    with_reducible rfl
   rotate_left
   ·simp only [Act.put, List.setIfInBounds_toArray, List.set_cons_zero, List.set_cons_succ, i64_w, i32_w]
    rfl
   refine pure_ (i := 5) (N := some 27) (v := ?_) (a' := ?_) #[true, false, false, false, false, true, false, false, false, false, false, false] rfl rfl (any_of HT_.out (by kernel_rfl)) (fun _ _ _ h => h) (Or.inl ⟨by rfl, ?_⟩) ?_ ?_
   rotate_left
   ·intro w'
    go_simp
    with_reducible rfl
   rotate_left
   ·simp only [Act.put, List.setIfInBounds_toArray, List.set_cons_zero, List.set_cons_succ, i64_w, i32_w]
    rfl
   refine take_ (i := 1) (N := some 23) (v := ?_) (a' := ?_) #[true, true, false, false, false, true, false, false, false, false, false, false] rfl rfl (take_ofW HT_.out HW_.out (by kernel_rfl)) (fun _ _ _ h => h) (Or.inl ⟨by rfl, ?_⟩) hHeld ?_ ?_
   rotate_left
   ·rintro w' ⟨s0, s1, s2, s3, s4, s5⟩
    go_simp
    with_reducible rfl
   rotate_left
   ·simp only [Act.put, List.setIfInBounds_toArray, List.set_cons_zero, List.set_cons_succ, i64_w, i32_w]
    rfl
   refine take_ (i := 2) (N := some 24) (v := ?_) (a' := ?_) #[true, true, true, false, false, true, false, false, false, false, false, false] rfl rfl (take_ofW HT_.out HW_.out (by kernel_rfl)) (fun _ _ _ h => h) (Or.inl ⟨by rfl, ?_⟩) hHeld ?_ ?_
   rotate_left
   ·rintro w' ⟨s0, s1, s2, s3, s4, s5⟩
    go_simp
    with_reducible rfl
   rotate_left
   ·simp only [Act.put, List.setIfInBounds_toArray, List.set_cons_zero, List.set_cons_succ, i64_w, i32_w]
    rfl
   refine take_ (i := 6) (N := some 28) (v := ?_) (a' := ?_) #[true, true, true, false, false, true, true, false, false, false, false, false] rfl rfl (take_ofW HT_.out HW_.out (by kernel_rfl)) (fun _ _ _ h => h) (Or.inl ⟨by rfl, ?_⟩) hHeld ?_ ?_
   rotate_left
   ·rintro w' ⟨s0, s1, s2, s3, s4, s5⟩
    go_simp
    with_reducible rfl
   rotate_left
   ·simp only [Act.put, List.setIfInBounds_toArray, List.set_cons_zero, List.set_cons_succ, i64_w, i32_w]
    rfl
   refine take_ (i := 7) (N := some 29) (v := ?_) (a' := ?_) #[true, true, true, false, false, true, true, true, false, false, false, false] rfl rfl (take_ofW HT_.out HW_.out (by kernel_rfl)) (fun _ _ _ h => h) (Or.inl ⟨by rfl, ?_⟩) hHeld ?_ ?_
   rotate_left
   ·rintro w' ⟨s0, s1, s2, s3, s4, s5⟩
    go_simp
    with_reducible rfl
   rotate_left
   ·simp only [Act.put, List.setIfInBounds_toArray, List.set_cons_zero, List.set_cons_succ, i64_w, i32_w]
    rfl
   refine one_ (i := 3) (N := some 25) #[true, true, true, true, false, true, true, true, false, false, false, false] rfl rfl (one_of HT_.out (by kernel_rfl)) (by decide) (fun K hK => ?_)
   refine goes_ Tryd.func46 (by kernel_rfl) rfl #[.agg #[.bool t404, .string t405, .string t406]] (by rfl) rfl rfl (by (try simp only [List.map_toArray, List.map_cons, List.map_nil]); first | done | rfl | (simp only [List.length_drop, List.length_take]; rfl)) ?_
   with_reducible refine (rational_den.calls t404 t405 t406 t409 _ A8.out).mono ?_
   rintro e w52 ⟨rfl, hb⟩
   refine ⟨_, rfl, ?_⟩
   have n0_ := A0_.mk (kB_ (g := gb399) (o := .cells #[.bool false, .string t402, .string t403] 26 (0, 0)) (by (with_reducible repeat (first | refine kN_ ?_ _ | refine kD_ ?_ | refine kA_ ?_ _)); exact BK399.out) hb)
   have n1_ := A0_.mk (kB_ (g := gb400) (o := .cells #[.bool t404, .string t405, .string t406] 26 (0, 0)) (by (with_reducible repeat (first | refine kN_ ?_ _ | refine kD_ ?_ | refine kA_ ?_ _)); exact BK400.out) hb)
   have n2_ := A0_.mk (bT_ (by repeat (first | (with_reducible first | exact HB.out | apply bA_ | apply pB_ | apply b1_ | refine bS_ ?_ GE399.out | refine bS_ ?_ GE400.out) | exact HB.out)) hb)
   clear BK399
   clear BK400
   clear HB
   have BK399 := n0_
   have BK400 := n1_
   have HB := n2_
   clear n0_ n1_ n2_
   (try clear hb)
   (try clear hb2)
   (try clear hk)
   (try clear hi)
   refine hK.out _ _ ⟨(kc_ BK399.out 0).trans rfl, (kc_ BK399.out 1).trans rfl, (kc_ BK399.out 2).trans rfl, (kc_ BK400.out 0).trans rfl, (kc_ BK400.out 1).trans rfl, (kc_ BK400.out 2).trans rfl⟩ (fun hHeld => ?_)
   clear hK K
   refine norm_ (a' := ?_) ?_ ?_
   rotate_left
   ·show Act.put _ (some 25) _ = _
    simp only [Act.put, List.setIfInBounds_toArray, List.set_cons_zero, List.set_cons_succ, i64_w, i32_w]
    rfl
   refine one_ (i := 4) (N := some 26) #[true, true, true, true, true, true, true, true, false, false, false, false] rfl rfl (one_of HT_.out (by kernel_rfl)) (by decide) (fun K hK => ?_)
   refine goes_ Tryd.func45 (by kernel_rfl) rfl #[.string t402, .string t409] (by rfl) rfl rfl (by (try simp only [List.map_toArray, List.map_cons, List.map_nil]); first | done | rfl | (simp only [List.length_drop, List.length_take]; rfl)) ?_
   with_reducible refine (natural_Multiply.calls k t402 t409 t410 _ A9.out).mono ?_
   rintro e w53 ⟨rfl, hb⟩
   refine ⟨_, rfl, ?_⟩
   have n0_ := A0_.mk (kB_ (g := gb399) (o := .cells #[.bool false, .string t402, .string t403] 26 (0, 0)) (by (with_reducible repeat (first | refine kN_ ?_ _ | refine kD_ ?_ | refine kA_ ?_ _)); exact BK399.out) hb)
   have n1_ := A0_.mk (kB_ (g := gb400) (o := .cells #[.bool t404, .string t405, .string t406] 26 (0, 0)) (by (with_reducible repeat (first | refine kN_ ?_ _ | refine kD_ ?_ | refine kA_ ?_ _)); exact BK400.out) hb)
   have n2_ := A0_.mk (bT_ (by repeat (first | (with_reducible first | exact HB.out | apply bA_ | apply pB_ | apply b1_ | refine bS_ ?_ GE399.out | refine bS_ ?_ GE400.out) | exact HB.out)) hb)
   clear BK399
   clear BK400
   clear HB
   have BK399 := n0_
   have BK400 := n1_
   have HB := n2_
   clear n0_ n1_ n2_
   (try clear hb)
   (try clear hb2)
   (try clear hk)
   (try clear hi)
   refine hK.out _ _ ⟨(kc_ BK399.out 0).trans rfl, (kc_ BK399.out 1).trans rfl, (kc_ BK399.out 2).trans rfl, (kc_ BK400.out 0).trans rfl, (kc_ BK400.out 1).trans rfl, (kc_ BK400.out 2).trans rfl⟩ (fun hHeld => ?_)
   clear hK K
   refine norm_ (a' := ?_) ?_ ?_
   rotate_left
   ·show Act.put _ (some 26) _ = _
    simp only [Act.put, List.setIfInBounds_toArray, List.set_cons_zero, List.set_cons_succ, i64_w, i32_w]
    rfl
   refine one_ (i := 8) (N := some 30) #[true, true, true, true, true, true, true, true, true, false, false, false] rfl rfl (one_of HT_.out (by kernel_rfl)) (by decide) (fun K hK => ?_)
   refine goes_ Tryd.func46 (by kernel_rfl) rfl #[.agg #[.bool false, .string t402, .string t403]] (by rfl) rfl rfl (by (try simp only [List.map_toArray, List.map_cons, List.map_nil]); first | done | rfl | (simp only [List.length_drop, List.length_take]; rfl)) ?_
   with_reducible refine (rational_den.calls false t402 t403 t411 _ A10.out).mono ?_
   rintro e w54 ⟨rfl, hb⟩
   refine ⟨_, rfl, ?_⟩
   have n0_ := A0_.mk (kB_ (g := gb399) (o := .cells #[.bool false, .string t402, .string t403] 26 (0, 0)) (by (with_reducible repeat (first | refine kN_ ?_ _ | refine kD_ ?_ | refine kA_ ?_ _)); exact BK399.out) hb)
   have n1_ := A0_.mk (kB_ (g := gb400) (o := .cells #[.bool t404, .string t405, .string t406] 26 (0, 0)) (by (with_reducible repeat (first | refine kN_ ?_ _ | refine kD_ ?_ | refine kA_ ?_ _)); exact BK400.out) hb)
   have n2_ := A0_.mk (bT_ (by repeat (first | (with_reducible first | exact HB.out | apply bA_ | apply pB_ | apply b1_ | refine bS_ ?_ GE399.out | refine bS_ ?_ GE400.out) | exact HB.out)) hb)
   clear BK399
   clear BK400
   clear HB
   have BK399 := n0_
   have BK400 := n1_
   have HB := n2_
   clear n0_ n1_ n2_
   (try clear hb)
   (try clear hb2)
   (try clear hk)
   (try clear hi)
   refine hK.out _ _ ⟨(kc_ BK399.out 0).trans rfl, (kc_ BK399.out 1).trans rfl, (kc_ BK399.out 2).trans rfl, (kc_ BK400.out 0).trans rfl, (kc_ BK400.out 1).trans rfl, (kc_ BK400.out 2).trans rfl⟩ (fun hHeld => ?_)
   clear hK K
   refine norm_ (a' := ?_) ?_ ?_
   rotate_left
   ·show Act.put _ (some 30) _ = _
    simp only [Act.put, List.setIfInBounds_toArray, List.set_cons_zero, List.set_cons_succ, i64_w, i32_w]
    rfl
   refine one_ (i := 9) (N := some 31) #[true, true, true, true, true, true, true, true, true, true, false, false] rfl rfl (one_of HT_.out (by kernel_rfl)) (by decide) (fun K hK => ?_)
   refine goes_ Tryd.func45 (by kernel_rfl) rfl #[.string t405, .string t411] (by rfl) rfl rfl (by (try simp only [List.map_toArray, List.map_cons, List.map_nil]); first | done | rfl | (simp only [List.length_drop, List.length_take]; rfl)) ?_
   with_reducible refine (natural_Multiply.calls k t405 t411 t412 _ A11.out).mono ?_
   rintro e w55 ⟨rfl, hb⟩
   refine ⟨_, rfl, ?_⟩
   have n0_ := A0_.mk (kB_ (g := gb399) (o := .cells #[.bool false, .string t402, .string t403] 26 (0, 0)) (by (with_reducible repeat (first | refine kN_ ?_ _ | refine kD_ ?_ | refine kA_ ?_ _)); exact BK399.out) hb)
   have n1_ := A0_.mk (kB_ (g := gb400) (o := .cells #[.bool t404, .string t405, .string t406] 26 (0, 0)) (by (with_reducible repeat (first | refine kN_ ?_ _ | refine kD_ ?_ | refine kA_ ?_ _)); exact BK400.out) hb)
   have n2_ := A0_.mk (bT_ (by repeat (first | (with_reducible first | exact HB.out | apply bA_ | apply pB_ | apply b1_ | refine bS_ ?_ GE399.out | refine bS_ ?_ GE400.out) | exact HB.out)) hb)
   clear BK399
   clear BK400
   clear HB
   have BK399 := n0_
   have BK400 := n1_
   have HB := n2_
   clear n0_ n1_ n2_
   (try clear hb)
   (try clear hb2)
   (try clear hk)
   (try clear hi)
   refine hK.out _ _ ⟨(kc_ BK399.out 0).trans rfl, (kc_ BK399.out 1).trans rfl, (kc_ BK399.out 2).trans rfl, (kc_ BK400.out 0).trans rfl, (kc_ BK400.out 1).trans rfl, (kc_ BK400.out 2).trans rfl⟩ (fun hHeld => ?_)
   clear hK K
   refine norm_ (a' := ?_) ?_ ?_
   rotate_left
   ·show Act.put _ (some 31) _ = _
    simp only [Act.put, List.setIfInBounds_toArray, List.set_cons_zero, List.set_cons_succ, i64_w, i32_w]
    rfl
   refine one_ (i := 10) (N := some 32) #[true, true, true, true, true, true, true, true, true, true, true, false] rfl rfl (one_of HT_.out (by kernel_rfl)) (by decide) (fun K hK => ?_)
   refine goes_ Tryd.func44 (by kernel_rfl) rfl #[.string t410, .string t412] (by rfl) rfl rfl (by (try simp only [List.map_toArray, List.map_cons, List.map_nil]); first | done | rfl | (simp only [List.length_drop, List.length_take]; rfl)) ?_
   with_reducible refine (natural_Compare.calls k t410 t412 t413 _ A12.out).mono ?_
   rintro e w' ⟨rfl, ⟨nd, rfl⟩⟩
   refine ⟨_, rfl, ?_⟩
   refine hK.out _ _ ⟨(kc_ BK399.out 0).trans rfl, (kc_ BK399.out 1).trans rfl, (kc_ BK399.out 2).trans rfl, (kc_ BK400.out 0).trans rfl, (kc_ BK400.out 1).trans rfl, (kc_ BK400.out 2).trans rfl⟩ (fun hHeld => ?_)
   clear hK K
   refine norm_ (a' := ?_) ?_ ?_
   rotate_left
   ·show Act.put _ (some 32) _ = _
    simp only [Act.put, List.setIfInBounds_toArray, List.set_cons_zero, List.set_cons_succ, i64_w, i32_w]
    rfl
   refine pure_ (i := 11) (N := some 7) (v := ?_) (a' := ?_) #[true, true, true, true, true, true, true, true, true, true, true, true] rfl rfl (any_of HT_.out (by kernel_rfl)) (fun _ _ _ h => h) (Or.inl ⟨by rfl, ?_⟩) ?_ ?_
   rotate_left
   ·intro w'
    go_simp
    with_reducible rfl
   rotate_left
   ·simp only [Act.put, List.setIfInBounds_toArray, List.set_cons_zero, List.set_cons_succ, i64_w, i32_w]
    rfl
   refine done_ (done_of HT_.out (by kernel_rfl)) ?_
   have hnb56 := NB399_400.out
   have hnc56 := NB400_399.out
   have hcz57_0 : w55.cell? ⟨gb399, 0, none⟩ = some (.bool false) := (kc_ BK399.out 0).trans rfl
   have hcz57_1 : w55.cell? ⟨gb399, 1, none⟩ = some (.string t402) := (kc_ BK399.out 1).trans rfl
   have hcz57_2 : w55.cell? ⟨gb399, 2, none⟩ = some (.string t403) := (kc_ BK399.out 2).trans rfl
   have hfz57_0 := kF_ BK399.out 0
   have hfz57_1 := kF_ BK399.out 1
   have hfz57_2 := kF_ BK399.out 2
   try go_wp2
   go_ret
   exact ⟨by first | rfl | (simp [errW_none, errW_some] <;> rfl) | (simp [*, errW_none, errW_some] <;> rfl), by repeat (first | (with_reducible first | exact HB.out | apply bA_ | apply pB_ | apply b1_ | refine bS_ ?_ GE399.out | refine bS_ ?_ GE400.out) | exact HB.out)⟩
 ·rw [if_neg c7] at H
  have c7b0 : (t407 == t408) = false := beq_eq_false_iff_ne.mpr c7
  have c7b1 : (t407 != t408) = true := bne_iff_ne.mpr c7
  by_cases c58 : t407 < t408
  ·rw [if_pos c58] at H
   have c58b0 : decide (t407 < t408) = true := decide_eq_true c58
   clear c58
   obtain rfl := Option.some.inj H
   go_enter Tryd.func20, Tryd.ntmps20
   try go_wp2_with (first | ((with_reducible refine gD_ (N := 2) rfl ?_); refine bE_ ?hg (N := 2) ?hd (cs := #[.bool a0_0, .string a0_1, .string a0_2]) (t := 26) ?hr ?_; (case hd => rfl); (case hg => rfl); (case hr => first | (go_simp; done) | (go_simp; rfl)); intro gb399 hg w59 hbox hb; have n0_ := A0_.mk (bT_ (by repeat (first | (with_reducible first | exact HB.out | apply bA_ | apply pB_ | apply b1_) | exact HB.out)) hb); have n1_ := A0_.mk (hbox); have n2_ := A0_.mk ((by rw [hg]; exact (bZ_ (by repeat (first | (with_reducible first | exact HB.out | apply bA_ | apply pB_ | apply b1_) | exact HB.out))) : w.heap.size ≤ gb399)); have n3_ := A0_.mk ((by rw [hg]; exact (bZ_ (by repeat (first | (with_reducible first | exact HB.out | apply bA_ | apply pB_ | apply b1_) | exact HB.out))) : w.heap.size ≤ gb399)); clear HB; have HB := n0_; have BK399 := n1_; have GW399 := n2_; have GE399 := n3_; clear n0_ n1_ n2_ n3_; clear hb hbox hg) | ((with_reducible refine gD_ (N := 3) rfl ?_); refine bE_ ?hg (N := 3) ?hd (cs := #[.bool a1_0, .string a1_1, .string a1_2]) (t := 26) ?hr ?_; (case hd => rfl); (case hg => rfl); (case hr => first | (go_simp; done) | (go_simp; rfl)); intro gb400 hg w60 hbox hb; have n0_ := A0_.mk (kB_ (g := gb399) (o := .cells #[.bool a0_0, .string a0_1, .string a0_2] 26 (0, 0)) (by (with_reducible repeat (first | refine kN_ ?_ _ | refine kD_ ?_ | refine kA_ ?_ _)); exact BK399.out) hb); have n1_ := A0_.mk (bT_ (by repeat (first | (with_reducible first | exact HB.out | apply bA_ | apply pB_ | apply b1_ | refine bS_ ?_ GE399.out) | exact HB.out)) hb); have n2_ := A0_.mk (hbox); have n3_ := A0_.mk ((by rw [hg]; exact (bZ_ (by repeat (first | (with_reducible first | exact HB.out | apply bA_ | apply pB_ | apply b1_ | refine bS_ ?_ GE399.out) | exact HB.out))) : w.heap.size ≤ gb400)); have n4_ := A0_.mk ((by rw [hg]; exact (bZ_ (by repeat (first | (with_reducible first | exact HB.out | apply bA_ | apply pB_ | apply b1_ | refine bS_ ?_ GE399.out) | exact HB.out))) : w.heap.size ≤ gb400)); have n5_ := A0_.mk ((by rw [hg]; exact Nat.ne_of_lt (blk_lt (g := gb399) (o := .cells #[.bool a0_0, .string a0_1, .string a0_2] 26 (0, 0)) (by (with_reducible repeat (first | refine kN_ ?_ _ | refine kD_ ?_ | refine kA_ ?_ _)); exact BK399.out)) : gb399 ≠ gb400)); have n6_ := A0_.mk ((by rw [hg]; exact Nat.ne_of_gt (blk_lt (g := gb399) (o := .cells #[.bool a0_0, .string a0_1, .string a0_2] 26 (0, 0)) (by (with_reducible repeat (first | refine kN_ ?_ _ | refine kD_ ?_ | refine kA_ ?_ _)); exact BK399.out)) : gb400 ≠ gb399)); clear BK399; clear HB; have BK399 := n0_; have HB := n1_; have BK400 := n2_; have GW400 := n3_; have GE400 := n4_; have NB399_400 := n5_; have NB400_399 := n6_; clear n0_ n1_ n2_ n3_ n4_ n5_ n6_; clear hb hbox hg))
   have n0_ := A0_.mk (kD_ BK399.out)
   have n1_ := A0_.mk (kD_ BK400.out)
   have n2_ := A0_.mk (b1_ HB.out)
   clear BK399
   clear BK400
   clear HB
   have BK399 := n0_
   have BK400 := n1_
   have HB := n2_
   clear n0_ n1_ n2_
   refine start_ (n := 6) (S := fun w' => w'.cell? ⟨gb399, 0, none⟩ = some (.bool a0_0) ∧ w'.cell? ⟨gb399, 1, none⟩ = some (.string a0_1) ∧ w'.cell? ⟨gb399, 2, none⟩ = some (.string a0_2) ∧ w'.cell? ⟨gb400, 0, none⟩ = some (.bool a1_0) ∧ w'.cell? ⟨gb400, 1, none⟩ = some (.string a1_1) ∧ w'.cell? ⟨gb400, 2, none⟩ = some (.string a1_2)) (ds := [4, 5]) #[false, false, false, false, false, false] (by kernel_rfl) rfl rfl ⟨(kc_ BK399.out 0).trans rfl, (kc_ BK399.out 1).trans rfl, (kc_ BK399.out 2).trans rfl, (kc_ BK400.out 0).trans rfl, (kc_ BK400.out 1).trans rfl, (kc_ BK400.out 2).trans rfl⟩ (fun hHeld => ?_)
   generalize w60.drew = w61 at BK399 BK400 HB hHeld ⊢
   refine take_ (i := 0) (N := some 8) (v := ?_) (a' := ?_) #[true, false, false, false, false, false] rfl rfl (by kernel_rfl) (fun _ _ _ h => h) (Or.inl ⟨by rfl, ?_⟩) hHeld ?_ ?_
   rotate_left
   ·rintro w' ⟨s0, s1, s2, s3, s4, s5⟩
    go_simp
    with_reducible rfl
   rotate_left
   ·simp only [Act.put, List.setIfInBounds_toArray, List.set_cons_zero, List.set_cons_succ, i64_w, i32_w]
    rfl
   refine take_ (i := 2) (N := some 10) (v := ?_) (a' := ?_) #[true, false, true, false, false, false] rfl rfl (by kernel_rfl) (fun _ _ _ h => h) (Or.inl ⟨by rfl, ?_⟩) hHeld ?_ ?_
   rotate_left
   ·rintro w' ⟨s0, s1, s2, s3, s4, s5⟩
    go_simp
    with_reducible rfl
   rotate_left
   ·simp only [Act.put, List.setIfInBounds_toArray, List.set_cons_zero, List.set_cons_succ, i64_w, i32_w]
    rfl
   refine one_ (i := 1) (N := some 9) #[true, true, true, false, false, false] rfl rfl (by kernel_rfl) (by decide) (fun K hK => ?_)
   refine goes_ Tryd.func43 (by kernel_rfl) rfl #[.agg #[.bool a0_0, .string a0_1, .string a0_2]] (by rfl) rfl rfl (by (try simp only [List.map_toArray, List.map_cons, List.map_nil]); first | done | rfl | (simp only [List.length_drop, List.length_take]; rfl)) ?_
   with_reducible refine (rational_clean.calls k a0_0 a0_1 a0_2 t401 t402 t403 _ A3.out).mono ?_
   rintro e w62 ⟨rfl, hb⟩
   refine ⟨_, rfl, ?_⟩
   have n0_ := A0_.mk (kB_ (g := gb399) (o := .cells #[.bool a0_0, .string a0_1, .string a0_2] 26 (0, 0)) (by (with_reducible repeat (first | refine kN_ ?_ _ | refine kD_ ?_ | refine kA_ ?_ _)); exact BK399.out) hb)
   have n1_ := A0_.mk (kB_ (g := gb400) (o := .cells #[.bool a1_0, .string a1_1, .string a1_2] 26 (0, 0)) (by (with_reducible repeat (first | refine kN_ ?_ _ | refine kD_ ?_ | refine kA_ ?_ _)); exact BK400.out) hb)
   have n2_ := A0_.mk (bT_ (by repeat (first | (with_reducible first | exact HB.out | apply bA_ | apply pB_ | apply b1_ | refine bS_ ?_ GE399.out | refine bS_ ?_ GE400.out) | exact HB.out)) hb)
   clear BK399
   clear BK400
   clear HB
   have BK399 := n0_
   have BK400 := n1_
   have HB := n2_
   clear n0_ n1_ n2_
   (try clear hb)
   (try clear hb2)
   (try clear hk)
   (try clear hi)
   refine hK.out _ _ ⟨(kc_ BK399.out 0).trans rfl, (kc_ BK399.out 1).trans rfl, (kc_ BK399.out 2).trans rfl, (kc_ BK400.out 0).trans rfl, (kc_ BK400.out 1).trans rfl, (kc_ BK400.out 2).trans rfl⟩ (fun hHeld => ?_)
   clear hK K
   refine norm_ (a' := ?_) ?_ ?_
   rotate_left
   ·show Act.put _ (some 9) _ = _
    simp only [Act.put, List.setIfInBounds_toArray, List.set_cons_zero, List.set_cons_succ, i64_w, i32_w]
    rfl
   refine one_ (i := 3) (N := some 11) #[true, true, true, true, false, false] rfl rfl (by kernel_rfl) (by decide) (fun K hK => ?_)
   refine goes_ Tryd.func43 (by kernel_rfl) rfl #[.agg #[.bool a1_0, .string a1_1, .string a1_2]] (by rfl) rfl rfl (by (try simp only [List.map_toArray, List.map_cons, List.map_nil]); first | done | rfl | (simp only [List.length_drop, List.length_take]; rfl)) ?_
   with_reducible refine (rational_clean.calls k a1_0 a1_1 a1_2 t404 t405 t406 _ A4.out).mono ?_
   rintro e w63 ⟨rfl, hb⟩
   refine ⟨_, rfl, ?_⟩
   have n0_ := A0_.mk (kB_ (g := gb399) (o := .cells #[.bool a0_0, .string a0_1, .string a0_2] 26 (0, 0)) (by (with_reducible repeat (first | refine kN_ ?_ _ | refine kD_ ?_ | refine kA_ ?_ _)); exact BK399.out) hb)
   have n1_ := A0_.mk (kB_ (g := gb400) (o := .cells #[.bool a1_0, .string a1_1, .string a1_2] 26 (0, 0)) (by (with_reducible repeat (first | refine kN_ ?_ _ | refine kD_ ?_ | refine kA_ ?_ _)); exact BK400.out) hb)
   have n2_ := A0_.mk (bT_ (by repeat (first | (with_reducible first | exact HB.out | apply bA_ | apply pB_ | apply b1_ | refine bS_ ?_ GE399.out | refine bS_ ?_ GE400.out) | exact HB.out)) hb)
   clear BK399
   clear BK400
   clear HB
   have BK399 := n0_
   have BK400 := n1_
   have HB := n2_
   clear n0_ n1_ n2_
   (try clear hb)
   (try clear hb2)
   (try clear hk)
   (try clear hi)
   refine hK.out _ _ ⟨(kc_ BK399.out 0).trans rfl, (kc_ BK399.out 1).trans rfl, (kc_ BK399.out 2).trans rfl, (kc_ BK400.out 0).trans rfl, (kc_ BK400.out 1).trans rfl, (kc_ BK400.out 2).trans rfl⟩ (fun hHeld => ?_)
   clear hK K
   refine norm_ (a' := ?_) ?_ ?_
   rotate_left
   ·show Act.put _ (some 11) _ = _
    simp only [Act.put, List.setIfInBounds_toArray, List.set_cons_zero, List.set_cons_succ, i64_w, i32_w]
    rfl
   refine last_ (i := 4) (N := none) #[true, true, true, true, true, false] rfl rfl (by kernel_rfl) (by decide) (fun K hK => ?_)
   have hs64 : w63.cell? ⟨gb399, 0, none⟩ = some (.bool a0_0) := (kc_ BK399.out 0).trans rfl
   have hfs64 := kF_ BK399.out 0
   have hns64_1 := NB400_399.out
   have hms64_1 := NB399_400.out
   have hs65 : w63.cell? ⟨gb399, 1, none⟩ = some (.string a0_1) := (kc_ BK399.out 1).trans rfl
   have hfs65 := kF_ BK399.out 1
   have hns65_1 := NB400_399.out
   have hms65_1 := NB399_400.out
   have hs66 : w63.cell? ⟨gb399, 2, none⟩ = some (.string a0_2) := (kc_ BK399.out 2).trans rfl
   have hfs66 := kF_ BK399.out 2
   have hns66_1 := NB400_399.out
   have hms66_1 := NB399_400.out
   refine skip_ (w1 := ?_) (by rfl) rfl ?_ ?_
   rotate_left
   ·go_simp
    rfl
   refine hK.out _ _ ?_
   clear hK K
   refine last_ (i := 5) (N := none) #[true, true, true, true, true, true] rfl rfl (by kernel_rfl) (by decide) (fun K hK => ?_)
   have hs67 : w63.cell? ⟨gb400, 0, none⟩ = some (.bool a1_0) := (kc_ BK400.out 0).trans rfl
   have hfs67 := kF_ BK400.out 0
   have hns67_0 := NB399_400.out
   have hms67_0 := NB400_399.out
   have hs68 : w63.cell? ⟨gb400, 1, none⟩ = some (.string a1_1) := (kc_ BK400.out 1).trans rfl
   have hfs68 := kF_ BK400.out 1
   have hns68_0 := NB399_400.out
   have hms68_0 := NB400_399.out
   have hs69 : w63.cell? ⟨gb400, 2, none⟩ = some (.string a1_2) := (kc_ BK400.out 2).trans rfl
   have hfs69 := kF_ BK400.out 2
   have hns69_0 := NB399_400.out
   have hms69_0 := NB400_399.out
   refine skip_ (w1 := ?_) (by rfl) rfl ?_ ?_
   rotate_left
   ·go_simp
    rfl
   refine hK.out _ _ ?_
   clear hK K
   refine done_ (by kernel_rfl) ?_
   try go_wp2
   have n0_ : A0_ (((((((w63.setCell ⟨gb399, 0, none⟩ (.bool t401)).setCell ⟨gb399, 1, none⟩ (.string t402)).setCell ⟨gb399, 2, none⟩ (.string t403)).setCell ⟨gb400, 0, none⟩ (.bool t404)).setCell ⟨gb400, 1, none⟩ (.string t405)).setCell ⟨gb400, 2, none⟩ (.string t406)).heap[gb399]? = some (.cells #[.bool t401, .string t402, .string t403] 26 (0, 0))) := ⟨by (with_reducible repeat (first | refine kN_ ?_ _ | refine kD_ ?_ | refine kA_ ?_ _)); refine blk_far ?_ NB399_400.out _; (with_reducible repeat (first | refine kN_ ?_ _ | refine kD_ ?_ | refine kA_ ?_ _)); refine blk_far ?_ NB399_400.out _; (with_reducible repeat (first | refine kN_ ?_ _ | refine kD_ ?_ | refine kA_ ?_ _)); refine blk_far ?_ NB399_400.out _; (with_reducible repeat (first | refine kN_ ?_ _ | refine kD_ ?_ | refine kA_ ?_ _)); refine kP_ (cs := #[.bool t401, .string t402, .string a0_2]) ?_ 2 _ rfl; (with_reducible repeat (first | refine kN_ ?_ _ | refine kD_ ?_ | refine kA_ ?_ _)); refine kP_ (cs := #[.bool t401, .string a0_1, .string a0_2]) ?_ 1 _ rfl; (with_reducible repeat (first | refine kN_ ?_ _ | refine kD_ ?_ | refine kA_ ?_ _)); refine kP_ (cs := #[.bool a0_0, .string a0_1, .string a0_2]) ?_ 0 _ rfl; (with_reducible repeat (first | refine kN_ ?_ _ | refine kD_ ?_ | refine kA_ ?_ _)); exact BK399.out⟩
   have n1_ : A0_ (((((((w63.setCell ⟨gb399, 0, none⟩ (.bool t401)).setCell ⟨gb399, 1, none⟩ (.string t402)).setCell ⟨gb399, 2, none⟩ (.string t403)).setCell ⟨gb400, 0, none⟩ (.bool t404)).setCell ⟨gb400, 1, none⟩ (.string t405)).setCell ⟨gb400, 2, none⟩ (.string t406)).heap[gb400]? = some (.cells #[.bool t404, .string t405, .string t406] 26 (0, 0))) := ⟨by (with_reducible repeat (first | refine kN_ ?_ _ | refine kD_ ?_ | refine kA_ ?_ _)); refine kP_ (cs := #[.bool t404, .string t405, .string a1_2]) ?_ 2 _ rfl; (with_reducible repeat (first | refine kN_ ?_ _ | refine kD_ ?_ | refine kA_ ?_ _)); refine kP_ (cs := #[.bool t404, .string a1_1, .string a1_2]) ?_ 1 _ rfl; (with_reducible repeat (first | refine kN_ ?_ _ | refine kD_ ?_ | refine kA_ ?_ _)); refine kP_ (cs := #[.bool a1_0, .string a1_1, .string a1_2]) ?_ 0 _ rfl; (with_reducible repeat (first | refine kN_ ?_ _ | refine kD_ ?_ | refine kA_ ?_ _)); refine blk_far ?_ NB400_399.out _; (with_reducible repeat (first | refine kN_ ?_ _ | refine kD_ ?_ | refine kA_ ?_ _)); refine blk_far ?_ NB400_399.out _; (with_reducible repeat (first | refine kN_ ?_ _ | refine kD_ ?_ | refine kA_ ?_ _)); refine blk_far ?_ NB400_399.out _; (with_reducible repeat (first | refine kN_ ?_ _ | refine kD_ ?_ | refine kA_ ?_ _)); exact BK400.out⟩
   have n2_ : A0_ (Below w.heap.size w ((((((w63.setCell ⟨gb399, 0, none⟩ (.bool t401)).setCell ⟨gb399, 1, none⟩ (.string t402)).setCell ⟨gb399, 2, none⟩ (.string t403)).setCell ⟨gb400, 0, none⟩ (.bool t404)).setCell ⟨gb400, 1, none⟩ (.string t405)).setCell ⟨gb400, 2, none⟩ (.string t406))) := ⟨by repeat (first | (with_reducible first | exact HB.out | apply bA_ | apply pB_ | apply b1_ | refine bS_ ?_ GE399.out | refine bS_ ?_ GE400.out) | exact HB.out)⟩
   (try clear BK399)
   (try clear BK400)
   (try clear HB)
   generalize ((((((w63.setCell ⟨gb399, 0, none⟩ (.bool t401)).setCell ⟨gb399, 1, none⟩ (.string t402)).setCell ⟨gb399, 2, none⟩ (.string t403)).setCell ⟨gb400, 0, none⟩ (.bool t404)).setCell ⟨gb400, 1, none⟩ (.string t405)).setCell ⟨gb400, 2, none⟩ (.string t406)) = w70 at n0_ n1_ n2_ ⊢
   have BK399 := n0_
   have BK400 := n1_
   have HB := n2_
   clear n0_ n1_ n2_
   have n0_ := A0_.mk (kD_ BK399.out)
   have n1_ := A0_.mk (kD_ BK400.out)
   have n2_ := A0_.mk (b1_ HB.out)
   clear BK399
   clear BK400
   clear HB
   have BK399 := n0_
   have BK400 := n1_
   have HB := n2_
   clear n0_ n1_ n2_
   refine start_ (n := 6) (S := fun w' => w'.cell? ⟨gb399, 0, none⟩ = some (.bool t401) ∧ w'.cell? ⟨gb399, 1, none⟩ = some (.string t402) ∧ w'.cell? ⟨gb399, 2, none⟩ = some (.string t403) ∧ w'.cell? ⟨gb400, 0, none⟩ = some (.bool t404) ∧ w'.cell? ⟨gb400, 1, none⟩ = some (.string t405) ∧ w'.cell? ⟨gb400, 2, none⟩ = some (.string t406)) (ds := []) #[false, false, false, false, false, false] (by kernel_rfl) rfl rfl ⟨(kc_ BK399.out 0).trans rfl, (kc_ BK399.out 1).trans rfl, (kc_ BK399.out 2).trans rfl, (kc_ BK400.out 0).trans rfl, (kc_ BK400.out 1).trans rfl, (kc_ BK400.out 2).trans rfl⟩ (fun hHeld => ?_)
   generalize w70.drew = w71 at BK399 BK400 HB hHeld ⊢
   refine take_ (i := 0) (N := some 12) (v := ?_) (a' := ?_) #[true, false, false, false, false, false] rfl rfl (by kernel_rfl) (fun _ _ _ h => h) (Or.inl ⟨by rfl, ?_⟩) hHeld ?_ ?_
   rotate_left
   ·rintro w' ⟨s0, s1, s2, s3, s4, s5⟩
    go_simp
    with_reducible rfl
   rotate_left
   ·simp only [Act.put, List.setIfInBounds_toArray, List.set_cons_zero, List.set_cons_succ, i64_w, i32_w]
    rfl
   refine take_ (i := 2) (N := some 14) (v := ?_) (a' := ?_) #[true, false, true, false, false, false] rfl rfl (by kernel_rfl) (fun _ _ _ h => h) (Or.inl ⟨by rfl, ?_⟩) hHeld ?_ ?_
   rotate_left
   ·rintro w' ⟨s0, s1, s2, s3, s4, s5⟩
    go_simp
    with_reducible rfl
   rotate_left
   ·simp only [Act.put, List.setIfInBounds_toArray, List.set_cons_zero, List.set_cons_succ, i64_w, i32_w]
    rfl
   refine one_ (i := 1) (N := some 13) #[true, true, true, false, false, false] rfl rfl (by kernel_rfl) (by decide) (fun K hK => ?_)
   refine goes_ Tryd.func42 (by kernel_rfl) rfl #[.agg #[.bool t401, .string t402, .string t403]] (by rfl) rfl rfl (by (try simp only [List.map_toArray, List.map_cons, List.map_nil]); first | done | rfl | (simp only [List.length_drop, List.length_take]; rfl)) ?_
   with_reducible refine (rational_signOf.calls t401 t402 t403 t407 _ A5.out).mono ?_
   rintro e w72 ⟨rfl, hb⟩
   refine ⟨_, rfl, ?_⟩
   have n0_ := A0_.mk (kB_ (g := gb399) (o := .cells #[.bool t401, .string t402, .string t403] 26 (0, 0)) (by (with_reducible repeat (first | refine kN_ ?_ _ | refine kD_ ?_ | refine kA_ ?_ _)); exact BK399.out) hb)
   have n1_ := A0_.mk (kB_ (g := gb400) (o := .cells #[.bool t404, .string t405, .string t406] 26 (0, 0)) (by (with_reducible repeat (first | refine kN_ ?_ _ | refine kD_ ?_ | refine kA_ ?_ _)); exact BK400.out) hb)
   have n2_ := A0_.mk (bT_ (by repeat (first | (with_reducible first | exact HB.out | apply bA_ | apply pB_ | apply b1_ | refine bS_ ?_ GE399.out | refine bS_ ?_ GE400.out) | exact HB.out)) hb)
   clear BK399
   clear BK400
   clear HB
   have BK399 := n0_
   have BK400 := n1_
   have HB := n2_
   clear n0_ n1_ n2_
   (try clear hb)
   (try clear hb2)
   (try clear hk)
   (try clear hi)
   refine hK.out _ _ ⟨(kc_ BK399.out 0).trans rfl, (kc_ BK399.out 1).trans rfl, (kc_ BK399.out 2).trans rfl, (kc_ BK400.out 0).trans rfl, (kc_ BK400.out 1).trans rfl, (kc_ BK400.out 2).trans rfl⟩ (fun hHeld => ?_)
   clear hK K
   refine norm_ (a' := ?_) ?_ ?_
   rotate_left
   ·show Act.put _ (some 13) _ = _
    simp only [Act.put, List.setIfInBounds_toArray, List.set_cons_zero, List.set_cons_succ, i64_w, i32_w]
    rfl
   refine one_ (i := 3) (N := some 15) #[true, true, true, true, false, false] rfl rfl (by kernel_rfl) (by decide) (fun K hK => ?_)
   refine goes_ Tryd.func42 (by kernel_rfl) rfl #[.agg #[.bool t404, .string t405, .string t406]] (by rfl) rfl rfl (by (try simp only [List.map_toArray, List.map_cons, List.map_nil]); first | done | rfl | (simp only [List.length_drop, List.length_take]; rfl)) ?_
   with_reducible refine (rational_signOf.calls t404 t405 t406 t408 _ A6.out).mono ?_
   rintro e w73 ⟨rfl, hb⟩
   refine ⟨_, rfl, ?_⟩
   have n0_ := A0_.mk (kB_ (g := gb399) (o := .cells #[.bool t401, .string t402, .string t403] 26 (0, 0)) (by (with_reducible repeat (first | refine kN_ ?_ _ | refine kD_ ?_ | refine kA_ ?_ _)); exact BK399.out) hb)
   have n1_ := A0_.mk (kB_ (g := gb400) (o := .cells #[.bool t404, .string t405, .string t406] 26 (0, 0)) (by (with_reducible repeat (first | refine kN_ ?_ _ | refine kD_ ?_ | refine kA_ ?_ _)); exact BK400.out) hb)
   have n2_ := A0_.mk (bT_ (by repeat (first | (with_reducible first | exact HB.out | apply bA_ | apply pB_ | apply b1_ | refine bS_ ?_ GE399.out | refine bS_ ?_ GE400.out) | exact HB.out)) hb)
   clear BK399
   clear BK400
   clear HB
   have BK399 := n0_
   have BK400 := n1_
   have HB := n2_
   clear n0_ n1_ n2_
   (try clear hb)
   (try clear hb2)
   (try clear hk)
   (try clear hi)
   refine hK.out _ _ ⟨(kc_ BK399.out 0).trans rfl, (kc_ BK399.out 1).trans rfl, (kc_ BK399.out 2).trans rfl, (kc_ BK400.out 0).trans rfl, (kc_ BK400.out 1).trans rfl, (kc_ BK400.out 2).trans rfl⟩ (fun hHeld => ?_)
   clear hK K
   refine norm_ (a' := ?_) ?_ ?_
   rotate_left
   ·show Act.put _ (some 15) _ = _
    simp only [Act.put, List.setIfInBounds_toArray, List.set_cons_zero, List.set_cons_succ, i64_w, i32_w]
    rfl
   refine pure_ (i := 4) (N := some 5) (v := ?_) (a' := ?_) #[true, true, true, true, true, false] rfl rfl (by kernel_rfl) (fun _ _ _ h => h) (Or.inl ⟨by rfl, ?_⟩) ?_ ?_
   rotate_left
   ·intro w'
    go_simp
    with_reducible rfl
   rotate_left
   ·simp only [Act.put, List.setIfInBounds_toArray, List.set_cons_zero, List.set_cons_succ, i64_w, i32_w]
    rfl
   refine pure_ (i := 5) (N := some 6) (v := ?_) (a' := ?_) #[true, true, true, true, true, true] rfl rfl (by kernel_rfl) (fun _ _ _ h => h) (Or.inl ⟨by rfl, ?_⟩) ?_ ?_
   rotate_left
   ·intro w'
    go_simp
    with_reducible rfl
   rotate_left
   ·simp only [Act.put, List.setIfInBounds_toArray, List.set_cons_zero, List.set_cons_succ, i64_w, i32_w]
    rfl
   refine done_ (by kernel_rfl) ?_
   try go_wp2
   go_ret
   exact ⟨by first | rfl | (simp [errW_none, errW_some] <;> rfl) | (simp [*, errW_none, errW_some] <;> rfl), by repeat (first | (with_reducible first | exact HB.out | apply bA_ | apply pB_ | apply b1_ | refine bS_ ?_ GE399.out | refine bS_ ?_ GE400.out) | exact HB.out)⟩
  ·rw [if_neg c58] at H
   have c58b0 : decide (t407 < t408) = false := decide_eq_false c58
   clear c58
   obtain rfl := Option.some.inj H
   go_enter Tryd.func20, Tryd.ntmps20
   try go_wp2_with (first | ((with_reducible refine gD_ (N := 2) rfl ?_); refine bE_ ?hg (N := 2) ?hd (cs := #[.bool a0_0, .string a0_1, .string a0_2]) (t := 26) ?hr ?_; (case hd => rfl); (case hg => rfl); (case hr => first | (go_simp; done) | (go_simp; rfl)); intro gb399 hg w74 hbox hb; have n0_ := A0_.mk (bT_ (by repeat (first | (with_reducible first | exact HB.out | apply bA_ | apply pB_ | apply b1_) | exact HB.out)) hb); have n1_ := A0_.mk (hbox); have n2_ := A0_.mk ((by rw [hg]; exact (bZ_ (by repeat (first | (with_reducible first | exact HB.out | apply bA_ | apply pB_ | apply b1_) | exact HB.out))) : w.heap.size ≤ gb399)); have n3_ := A0_.mk ((by rw [hg]; exact (bZ_ (by repeat (first | (with_reducible first | exact HB.out | apply bA_ | apply pB_ | apply b1_) | exact HB.out))) : w.heap.size ≤ gb399)); clear HB; have HB := n0_; have BK399 := n1_; have GW399 := n2_; have GE399 := n3_; clear n0_ n1_ n2_ n3_; clear hb hbox hg) | ((with_reducible refine gD_ (N := 3) rfl ?_); refine bE_ ?hg (N := 3) ?hd (cs := #[.bool a1_0, .string a1_1, .string a1_2]) (t := 26) ?hr ?_; (case hd => rfl); (case hg => rfl); (case hr => first | (go_simp; done) | (go_simp; rfl)); intro gb400 hg w75 hbox hb; have n0_ := A0_.mk (kB_ (g := gb399) (o := .cells #[.bool a0_0, .string a0_1, .string a0_2] 26 (0, 0)) (by (with_reducible repeat (first | refine kN_ ?_ _ | refine kD_ ?_ | refine kA_ ?_ _)); exact BK399.out) hb); have n1_ := A0_.mk (bT_ (by repeat (first | (with_reducible first | exact HB.out | apply bA_ | apply pB_ | apply b1_ | refine bS_ ?_ GE399.out) | exact HB.out)) hb); have n2_ := A0_.mk (hbox); have n3_ := A0_.mk ((by rw [hg]; exact (bZ_ (by repeat (first | (with_reducible first | exact HB.out | apply bA_ | apply pB_ | apply b1_ | refine bS_ ?_ GE399.out) | exact HB.out))) : w.heap.size ≤ gb400)); have n4_ := A0_.mk ((by rw [hg]; exact (bZ_ (by repeat (first | (with_reducible first | exact HB.out | apply bA_ | apply pB_ | apply b1_ | refine bS_ ?_ GE399.out) | exact HB.out))) : w.heap.size ≤ gb400)); have n5_ := A0_.mk ((by rw [hg]; exact Nat.ne_of_lt (blk_lt (g := gb399) (o := .cells #[.bool a0_0, .string a0_1, .string a0_2] 26 (0, 0)) (by (with_reducible repeat (first | refine kN_ ?_ _ | refine kD_ ?_ | refine kA_ ?_ _)); exact BK399.out)) : gb399 ≠ gb400)); have n6_ := A0_.mk ((by rw [hg]; exact Nat.ne_of_gt (blk_lt (g := gb399) (o := .cells #[.bool a0_0, .string a0_1, .string a0_2] 26 (0, 0)) (by (with_reducible repeat (first | refine kN_ ?_ _ | refine kD_ ?_ | refine kA_ ?_ _)); exact BK399.out)) : gb400 ≠ gb399)); clear BK399; clear HB; have BK399 := n0_; have HB := n1_; have BK400 := n2_; have GW400 := n3_; have GE400 := n4_; have NB399_400 := n5_; have NB400_399 := n6_; clear n0_ n1_ n2_ n3_ n4_ n5_ n6_; clear hb hbox hg))
   have n0_ := A0_.mk (kD_ BK399.out)
   have n1_ := A0_.mk (kD_ BK400.out)
   have n2_ := A0_.mk (b1_ HB.out)
   clear BK399
   clear BK400
   clear HB
   have BK399 := n0_
   have BK400 := n1_
   have HB := n2_
   clear n0_ n1_ n2_
   refine start_ (n := 6) (S := fun w' => w'.cell? ⟨gb399, 0, none⟩ = some (.bool a0_0) ∧ w'.cell? ⟨gb399, 1, none⟩ = some (.string a0_1) ∧ w'.cell? ⟨gb399, 2, none⟩ = some (.string a0_2) ∧ w'.cell? ⟨gb400, 0, none⟩ = some (.bool a1_0) ∧ w'.cell? ⟨gb400, 1, none⟩ = some (.string a1_1) ∧ w'.cell? ⟨gb400, 2, none⟩ = some (.string a1_2)) (ds := [4, 5]) #[false, false, false, false, false, false] (by kernel_rfl) rfl rfl ⟨(kc_ BK399.out 0).trans rfl, (kc_ BK399.out 1).trans rfl, (kc_ BK399.out 2).trans rfl, (kc_ BK400.out 0).trans rfl, (kc_ BK400.out 1).trans rfl, (kc_ BK400.out 2).trans rfl⟩ (fun hHeld => ?_)
   generalize w75.drew = w76 at BK399 BK400 HB hHeld ⊢
   refine take_ (i := 0) (N := some 8) (v := ?_) (a' := ?_) #[true, false, false, false, false, false] rfl rfl (by kernel_rfl) (fun _ _ _ h => h) (Or.inl ⟨by rfl, ?_⟩) hHeld ?_ ?_
   rotate_left
   ·rintro w' ⟨s0, s1, s2, s3, s4, s5⟩
    go_simp
    with_reducible rfl
   rotate_left
   ·simp only [Act.put, List.setIfInBounds_toArray, List.set_cons_zero, List.set_cons_succ, i64_w, i32_w]
    rfl
   refine take_ (i := 2) (N := some 10) (v := ?_) (a' := ?_) #[true, false, true, false, false, false] rfl rfl (by kernel_rfl) (fun _ _ _ h => h) (Or.inl ⟨by rfl, ?_⟩) hHeld ?_ ?_
   rotate_left
   ·rintro w' ⟨s0, s1, s2, s3, s4, s5⟩
    go_simp
    with_reducible rfl
   rotate_left
   ·simp only [Act.put, List.setIfInBounds_toArray, List.set_cons_zero, List.set_cons_succ, i64_w, i32_w]
    rfl
   refine one_ (i := 1) (N := some 9) #[true, true, true, false, false, false] rfl rfl (by kernel_rfl) (by decide) (fun K hK => ?_)
   refine goes_ Tryd.func43 (by kernel_rfl) rfl #[.agg #[.bool a0_0, .string a0_1, .string a0_2]] (by rfl) rfl rfl (by (try simp only [List.map_toArray, List.map_cons, List.map_nil]); first | done | rfl | (simp only [List.length_drop, List.length_take]; rfl)) ?_
   with_reducible refine (rational_clean.calls k a0_0 a0_1 a0_2 t401 t402 t403 _ A3.out).mono ?_
   rintro e w77 ⟨rfl, hb⟩
   refine ⟨_, rfl, ?_⟩
   have n0_ := A0_.mk (kB_ (g := gb399) (o := .cells #[.bool a0_0, .string a0_1, .string a0_2] 26 (0, 0)) (by (with_reducible repeat (first | refine kN_ ?_ _ | refine kD_ ?_ | refine kA_ ?_ _)); exact BK399.out) hb)
   have n1_ := A0_.mk (kB_ (g := gb400) (o := .cells #[.bool a1_0, .string a1_1, .string a1_2] 26 (0, 0)) (by (with_reducible repeat (first | refine kN_ ?_ _ | refine kD_ ?_ | refine kA_ ?_ _)); exact BK400.out) hb)
   have n2_ := A0_.mk (bT_ (by repeat (first | (with_reducible first | exact HB.out | apply bA_ | apply pB_ | apply b1_ | refine bS_ ?_ GE399.out | refine bS_ ?_ GE400.out) | exact HB.out)) hb)
   clear BK399
   clear BK400
   clear HB
   have BK399 := n0_
   have BK400 := n1_
   have HB := n2_
   clear n0_ n1_ n2_
   (try clear hb)
   (try clear hb2)
   (try clear hk)
   (try clear hi)
   refine hK.out _ _ ⟨(kc_ BK399.out 0).trans rfl, (kc_ BK399.out 1).trans rfl, (kc_ BK399.out 2).trans rfl, (kc_ BK400.out 0).trans rfl, (kc_ BK400.out 1).trans rfl, (kc_ BK400.out 2).trans rfl⟩ (fun hHeld => ?_)
   clear hK K
   refine norm_ (a' := ?_) ?_ ?_
   rotate_left
   ·show Act.put _ (some 9) _ = _
    simp only [Act.put, List.setIfInBounds_toArray, List.set_cons_zero, List.set_cons_succ, i64_w, i32_w]
    rfl
   refine one_ (i := 3) (N := some 11) #[true, true, true, true, false, false] rfl rfl (by kernel_rfl) (by decide) (fun K hK => ?_)
   refine goes_ Tryd.func43 (by kernel_rfl) rfl #[.agg #[.bool a1_0, .string a1_1, .string a1_2]] (by rfl) rfl rfl (by (try simp only [List.map_toArray, List.map_cons, List.map_nil]); first | done | rfl | (simp only [List.length_drop, List.length_take]; rfl)) ?_
   with_reducible refine (rational_clean.calls k a1_0 a1_1 a1_2 t404 t405 t406 _ A4.out).mono ?_
   rintro e w78 ⟨rfl, hb⟩
   refine ⟨_, rfl, ?_⟩
   have n0_ := A0_.mk (kB_ (g := gb399) (o := .cells #[.bool a0_0, .string a0_1, .string a0_2] 26 (0, 0)) (by (with_reducible repeat (first | refine kN_ ?_ _ | refine kD_ ?_ | refine kA_ ?_ _)); exact BK399.out) hb)
   have n1_ := A0_.mk (kB_ (g := gb400) (o := .cells #[.bool a1_0, .string a1_1, .string a1_2] 26 (0, 0)) (by (with_reducible repeat (first | refine kN_ ?_ _ | refine kD_ ?_ | refine kA_ ?_ _)); exact BK400.out) hb)
   have n2_ := A0_.mk (bT_ (by repeat (first | (with_reducible first | exact HB.out | apply bA_ | apply pB_ | apply b1_ | refine bS_ ?_ GE399.out | refine bS_ ?_ GE400.out) | exact HB.out)) hb)
   clear BK399
   clear BK400
   clear HB
   have BK399 := n0_
   have BK400 := n1_
   have HB := n2_
   clear n0_ n1_ n2_
   (try clear hb)
   (try clear hb2)
   (try clear hk)
   (try clear hi)
   refine hK.out _ _ ⟨(kc_ BK399.out 0).trans rfl, (kc_ BK399.out 1).trans rfl, (kc_ BK399.out 2).trans rfl, (kc_ BK400.out 0).trans rfl, (kc_ BK400.out 1).trans rfl, (kc_ BK400.out 2).trans rfl⟩ (fun hHeld => ?_)
   clear hK K
   refine norm_ (a' := ?_) ?_ ?_
   rotate_left
   ·show Act.put _ (some 11) _ = _
    simp only [Act.put, List.setIfInBounds_toArray, List.set_cons_zero, List.set_cons_succ, i64_w, i32_w]
    rfl
   refine last_ (i := 4) (N := none) #[true, true, true, true, true, false] rfl rfl (by kernel_rfl) (by decide) (fun K hK => ?_)
   have hs79 : w78.cell? ⟨gb399, 0, none⟩ = some (.bool a0_0) := (kc_ BK399.out 0).trans rfl
   have hfs79 := kF_ BK399.out 0
   have hns79_1 := NB400_399.out
   have hms79_1 := NB399_400.out
   have hs80 : w78.cell? ⟨gb399, 1, none⟩ = some (.string a0_1) := (kc_ BK399.out 1).trans rfl
   have hfs80 := kF_ BK399.out 1
   have hns80_1 := NB400_399.out
   have hms80_1 := NB399_400.out
   have hs81 : w78.cell? ⟨gb399, 2, none⟩ = some (.string a0_2) := (kc_ BK399.out 2).trans rfl
   have hfs81 := kF_ BK399.out 2
   have hns81_1 := NB400_399.out
   have hms81_1 := NB399_400.out
   refine skip_ (w1 := ?_) (by rfl) rfl ?_ ?_
   rotate_left
   ·go_simp
    rfl
   refine hK.out _ _ ?_
   clear hK K
   refine last_ (i := 5) (N := none) #[true, true, true, true, true, true] rfl rfl (by kernel_rfl) (by decide) (fun K hK => ?_)
   have hs82 : w78.cell? ⟨gb400, 0, none⟩ = some (.bool a1_0) := (kc_ BK400.out 0).trans rfl
   have hfs82 := kF_ BK400.out 0
   have hns82_0 := NB399_400.out
   have hms82_0 := NB400_399.out
   have hs83 : w78.cell? ⟨gb400, 1, none⟩ = some (.string a1_1) := (kc_ BK400.out 1).trans rfl
   have hfs83 := kF_ BK400.out 1
   have hns83_0 := NB399_400.out
   have hms83_0 := NB400_399.out
   have hs84 : w78.cell? ⟨gb400, 2, none⟩ = some (.string a1_2) := (kc_ BK400.out 2).trans rfl
   have hfs84 := kF_ BK400.out 2
   have hns84_0 := NB399_400.out
   have hms84_0 := NB400_399.out
   refine skip_ (w1 := ?_) (by rfl) rfl ?_ ?_
   rotate_left
   ·go_simp
    rfl
   refine hK.out _ _ ?_
   clear hK K
   refine done_ (by kernel_rfl) ?_
   try go_wp2
   have n0_ : A0_ (((((((w78.setCell ⟨gb399, 0, none⟩ (.bool t401)).setCell ⟨gb399, 1, none⟩ (.string t402)).setCell ⟨gb399, 2, none⟩ (.string t403)).setCell ⟨gb400, 0, none⟩ (.bool t404)).setCell ⟨gb400, 1, none⟩ (.string t405)).setCell ⟨gb400, 2, none⟩ (.string t406)).heap[gb399]? = some (.cells #[.bool t401, .string t402, .string t403] 26 (0, 0))) := ⟨by (with_reducible repeat (first | refine kN_ ?_ _ | refine kD_ ?_ | refine kA_ ?_ _)); refine blk_far ?_ NB399_400.out _; (with_reducible repeat (first | refine kN_ ?_ _ | refine kD_ ?_ | refine kA_ ?_ _)); refine blk_far ?_ NB399_400.out _; (with_reducible repeat (first | refine kN_ ?_ _ | refine kD_ ?_ | refine kA_ ?_ _)); refine blk_far ?_ NB399_400.out _; (with_reducible repeat (first | refine kN_ ?_ _ | refine kD_ ?_ | refine kA_ ?_ _)); refine kP_ (cs := #[.bool t401, .string t402, .string a0_2]) ?_ 2 _ rfl; (with_reducible repeat (first | refine kN_ ?_ _ | refine kD_ ?_ | refine kA_ ?_ _)); refine kP_ (cs := #[.bool t401, .string a0_1, .string a0_2]) ?_ 1 _ rfl; (with_reducible repeat (first | refine kN_ ?_ _ | refine kD_ ?_ | refine kA_ ?_ _)); refine kP_ (cs := #[.bool a0_0, .string a0_1, .string a0_2]) ?_ 0 _ rfl; (with_reducible repeat (first | refine kN_ ?_ _ | refine kD_ ?_ | refine kA_ ?_ _)); exact BK399.out⟩
   have n1_ : A0_ (((((((w78.setCell ⟨gb399, 0, none⟩ (.bool t401)).setCell ⟨gb399, 1, none⟩ (.string t402)).setCell ⟨gb399, 2, none⟩ (.string t403)).setCell ⟨gb400, 0, none⟩ (.bool t404)).setCell ⟨gb400, 1, none⟩ (.string t405)).setCell ⟨gb400, 2, none⟩ (.string t406)).heap[gb400]? = some (.cells #[.bool t404, .string t405, .string t406] 26 (0, 0))) := ⟨by (with_reducible repeat (first | refine kN_ ?_ _ | refine kD_ ?_ | refine kA_ ?_ _)); refine kP_ (cs := #[.bool t404, .string t405, .string a1_2]) ?_ 2 _ rfl; (with_reducible repeat (first | refine kN_ ?_ _ | refine kD_ ?_ | refine kA_ ?_ _)); refine kP_ (cs := #[.bool t404, .string a1_1, .string a1_2]) ?_ 1 _ rfl; (with_reducible repeat (first | refine kN_ ?_ _ | refine kD_ ?_ | refine kA_ ?_ _)); refine kP_ (cs := #[.bool a1_0, .string a1_1, .string a1_2]) ?_ 0 _ rfl; (with_reducible repeat (first | refine kN_ ?_ _ | refine kD_ ?_ | refine kA_ ?_ _)); refine blk_far ?_ NB400_399.out _; (with_reducible repeat (first | refine kN_ ?_ _ | refine kD_ ?_ | refine kA_ ?_ _)); refine blk_far ?_ NB400_399.out _; (with_reducible repeat (first | refine kN_ ?_ _ | refine kD_ ?_ | refine kA_ ?_ _)); refine blk_far ?_ NB400_399.out _; (with_reducible repeat (first | refine kN_ ?_ _ | refine kD_ ?_ | refine kA_ ?_ _)); exact BK400.out⟩
   have n2_ : A0_ (Below w.heap.size w ((((((w78.setCell ⟨gb399, 0, none⟩ (.bool t401)).setCell ⟨gb399, 1, none⟩ (.string t402)).setCell ⟨gb399, 2, none⟩ (.string t403)).setCell ⟨gb400, 0, none⟩ (.bool t404)).setCell ⟨gb400, 1, none⟩ (.string t405)).setCell ⟨gb400, 2, none⟩ (.string t406))) := ⟨by repeat (first | (with_reducible first | exact HB.out | apply bA_ | apply pB_ | apply b1_ | refine bS_ ?_ GE399.out | refine bS_ ?_ GE400.out) | exact HB.out)⟩
   (try clear BK399)
   (try clear BK400)
   (try clear HB)
   generalize ((((((w78.setCell ⟨gb399, 0, none⟩ (.bool t401)).setCell ⟨gb399, 1, none⟩ (.string t402)).setCell ⟨gb399, 2, none⟩ (.string t403)).setCell ⟨gb400, 0, none⟩ (.bool t404)).setCell ⟨gb400, 1, none⟩ (.string t405)).setCell ⟨gb400, 2, none⟩ (.string t406)) = w85 at n0_ n1_ n2_ ⊢
   have BK399 := n0_
   have BK400 := n1_
   have HB := n2_
   clear n0_ n1_ n2_
   have n0_ := A0_.mk (kD_ BK399.out)
   have n1_ := A0_.mk (kD_ BK400.out)
   have n2_ := A0_.mk (b1_ HB.out)
   clear BK399
   clear BK400
   clear HB
   have BK399 := n0_
   have BK400 := n1_
   have HB := n2_
   clear n0_ n1_ n2_
   refine start_ (n := 6) (S := fun w' => w'.cell? ⟨gb399, 0, none⟩ = some (.bool t401) ∧ w'.cell? ⟨gb399, 1, none⟩ = some (.string t402) ∧ w'.cell? ⟨gb399, 2, none⟩ = some (.string t403) ∧ w'.cell? ⟨gb400, 0, none⟩ = some (.bool t404) ∧ w'.cell? ⟨gb400, 1, none⟩ = some (.string t405) ∧ w'.cell? ⟨gb400, 2, none⟩ = some (.string t406)) (ds := []) #[false, false, false, false, false, false] (by kernel_rfl) rfl rfl ⟨(kc_ BK399.out 0).trans rfl, (kc_ BK399.out 1).trans rfl, (kc_ BK399.out 2).trans rfl, (kc_ BK400.out 0).trans rfl, (kc_ BK400.out 1).trans rfl, (kc_ BK400.out 2).trans rfl⟩ (fun hHeld => ?_)
   generalize w85.drew = w86 at BK399 BK400 HB hHeld ⊢
   refine take_ (i := 0) (N := some 12) (v := ?_) (a' := ?_) #[true, false, false, false, false, false] rfl rfl (by kernel_rfl) (fun _ _ _ h => h) (Or.inl ⟨by rfl, ?_⟩) hHeld ?_ ?_
   rotate_left
   ·rintro w' ⟨s0, s1, s2, s3, s4, s5⟩
    go_simp
    with_reducible rfl
   rotate_left
   ·simp only [Act.put, List.setIfInBounds_toArray, List.set_cons_zero, List.set_cons_succ, i64_w, i32_w]
    rfl
   refine take_ (i := 2) (N := some 14) (v := ?_) (a' := ?_) #[true, false, true, false, false, false] rfl rfl (by kernel_rfl) (fun _ _ _ h => h) (Or.inl ⟨by rfl, ?_⟩) hHeld ?_ ?_
   rotate_left
   ·rintro w' ⟨s0, s1, s2, s3, s4, s5⟩
    go_simp
    with_reducible rfl
   rotate_left
   ·simp only [Act.put, List.setIfInBounds_toArray, List.set_cons_zero, List.set_cons_succ, i64_w, i32_w]
    rfl
   refine one_ (i := 1) (N := some 13) #[true, true, true, false, false, false] rfl rfl (by kernel_rfl) (by decide) (fun K hK => ?_)
   refine goes_ Tryd.func42 (by kernel_rfl) rfl #[.agg #[.bool t401, .string t402, .string t403]] (by rfl) rfl rfl (by (try simp only [List.map_toArray, List.map_cons, List.map_nil]); first | done | rfl | (simp only [List.length_drop, List.length_take]; rfl)) ?_
   with_reducible refine (rational_signOf.calls t401 t402 t403 t407 _ A5.out).mono ?_
   rintro e w87 ⟨rfl, hb⟩
   refine ⟨_, rfl, ?_⟩
   have n0_ := A0_.mk (kB_ (g := gb399) (o := .cells #[.bool t401, .string t402, .string t403] 26 (0, 0)) (by (with_reducible repeat (first | refine kN_ ?_ _ | refine kD_ ?_ | refine kA_ ?_ _)); exact BK399.out) hb)
   have n1_ := A0_.mk (kB_ (g := gb400) (o := .cells #[.bool t404, .string t405, .string t406] 26 (0, 0)) (by (with_reducible repeat (first | refine kN_ ?_ _ | refine kD_ ?_ | refine kA_ ?_ _)); exact BK400.out) hb)
   have n2_ := A0_.mk (bT_ (by repeat (first | (with_reducible first | exact HB.out | apply bA_ | apply pB_ | apply b1_ | refine bS_ ?_ GE399.out | refine bS_ ?_ GE400.out) | exact HB.out)) hb)
   clear BK399
   clear BK400
   clear HB
   have BK399 := n0_
   have BK400 := n1_
   have HB := n2_
   clear n0_ n1_ n2_
   (try clear hb)
   (try clear hb2)
   (try clear hk)
   (try clear hi)
   refine hK.out _ _ ⟨(kc_ BK399.out 0).trans rfl, (kc_ BK399.out 1).trans rfl, (kc_ BK399.out 2).trans rfl, (kc_ BK400.out 0).trans rfl, (kc_ BK400.out 1).trans rfl, (kc_ BK400.out 2).trans rfl⟩ (fun hHeld => ?_)
   clear hK K
   refine norm_ (a' := ?_) ?_ ?_
   rotate_left
   ·show Act.put _ (some 13) _ = _
    simp only [Act.put, List.setIfInBounds_toArray, List.set_cons_zero, List.set_cons_succ, i64_w, i32_w]
    rfl
   refine one_ (i := 3) (N := some 15) #[true, true, true, true, false, false] rfl rfl (by kernel_rfl) (by decide) (fun K hK => ?_)
   refine goes_ Tryd.func42 (by kernel_rfl) rfl #[.agg #[.bool t404, .string t405, .string t406]] (by rfl) rfl rfl (by (try simp only [List.map_toArray, List.map_cons, List.map_nil]); first | done | rfl | (simp only [List.length_drop, List.length_take]; rfl)) ?_
   with_reducible refine (rational_signOf.calls t404 t405 t406 t408 _ A6.out).mono ?_
   rintro e w88 ⟨rfl, hb⟩
   refine ⟨_, rfl, ?_⟩
   have n0_ := A0_.mk (kB_ (g := gb399) (o := .cells #[.bool t401, .string t402, .string t403] 26 (0, 0)) (by (with_reducible repeat (first | refine kN_ ?_ _ | refine kD_ ?_ | refine kA_ ?_ _)); exact BK399.out) hb)
   have n1_ := A0_.mk (kB_ (g := gb400) (o := .cells #[.bool t404, .string t405, .string t406] 26 (0, 0)) (by (with_reducible repeat (first | refine kN_ ?_ _ | refine kD_ ?_ | refine kA_ ?_ _)); exact BK400.out) hb)
   have n2_ := A0_.mk (bT_ (by repeat (first | (with_reducible first | exact HB.out | apply bA_ | apply pB_ | apply b1_ | refine bS_ ?_ GE399.out | refine bS_ ?_ GE400.out) | exact HB.out)) hb)
   clear BK399
   clear BK400
   clear HB
   have BK399 := n0_
   have BK400 := n1_
   have HB := n2_
   clear n0_ n1_ n2_
   (try clear hb)
   (try clear hb2)
   (try clear hk)
   (try clear hi)
   refine hK.out _ _ ⟨(kc_ BK399.out 0).trans rfl, (kc_ BK399.out 1).trans rfl, (kc_ BK399.out 2).trans rfl, (kc_ BK400.out 0).trans rfl, (kc_ BK400.out 1).trans rfl, (kc_ BK400.out 2).trans rfl⟩ (fun hHeld => ?_)
   clear hK K
   refine norm_ (a' := ?_) ?_ ?_
   rotate_left
   ·show Act.put _ (some 15) _ = _
    simp only [Act.put, List.setIfInBounds_toArray, List.set_cons_zero, List.set_cons_succ, i64_w, i32_w]
    rfl
   refine pure_ (i := 4) (N := some 5) (v := ?_) (a' := ?_) #[true, true, true, true, true, false] rfl rfl (by kernel_rfl) (fun _ _ _ h => h) (Or.inl ⟨by rfl, ?_⟩) ?_ ?_
   rotate_left
   ·intro w'
    go_simp
    with_reducible rfl
   rotate_left
   ·simp only [Act.put, List.setIfInBounds_toArray, List.set_cons_zero, List.set_cons_succ, i64_w, i32_w]
    rfl
   refine pure_ (i := 5) (N := some 6) (v := ?_) (a' := ?_) #[true, true, true, true, true, true] rfl rfl (by kernel_rfl) (fun _ _ _ h => h) (Or.inl ⟨by rfl, ?_⟩) ?_ ?_
   rotate_left
   ·intro w'
    go_simp
    with_reducible rfl
   rotate_left
   ·simp only [Act.put, List.setIfInBounds_toArray, List.set_cons_zero, List.set_cons_succ, i64_w, i32_w]
    rfl
   refine done_ (by kernel_rfl) ?_
   try go_wp2
   go_ret
   exact ⟨by first | rfl | (simp [errW_none, errW_some] <;> rfl) | (simp [*, errW_none, errW_some] <;> rfl), by repeat (first | (with_reducible first | exact HB.out | apply bA_ | apply pB_ | apply b1_ | refine bS_ ?_ GE399.out | refine bS_ ?_ GE400.out) | exact HB.out)⟩
def rational_Min.f (k : Nat) (a0_0 : Bool) (a0_1 : ByteArray) (a0_2 : ByteArray) (a1_0 : Bool) (a1_1 : ByteArray) (a1_2 : ByteArray) : Option (Bool × ByteArray × ByteArray) := (rational_Compare.f k a0_0 a0_1 a0_2 a1_0 a1_1 a1_2).bind fun t417 => (if t417 ≤ 0 then ((rational_clean.f k a0_0 a0_1 a0_2).bind fun bt418 => (some (bt418.1, bt418.2.1, bt418.2.2))) else ((rational_clean.f k a1_0 a1_1 a1_2).bind fun bt421 => (some (bt421.1, bt421.2.1, bt421.2.2))))
theorem rational_Min.mono : ∀ a0 a1 a2 a3 a4 a5 k, LeO (rational_Min.f k a0 a1 a2 a3 a4 a5) (rational_Min.f (k + 1) a0 a1 a2 a3 a4 a5) := by
 intro a0 a1 a2 a3 a4 a5 k
 unfold rational_Min.f
 repeat' first
   | (with_reducible exact rational_Compare.mono _ _ _ _ _ _ _)
   | (with_reducible exact rational_clean.mono _ _ _ _)
   | (with_reducible exact LeO.refl _)
   | (with_reducible exact LeO.none _)
   | (with_reducible refine LeO.ite ?_ ?_)
   | (with_reducible refine LeO.bind ?_ (fun _ => ?_))
   | exact rational_Compare.mono _ _ _ _ _ _ _
   | exact rational_clean.mono _ _ _ _
   | exact LeO.none _
   | refine LeO.ite ?_ ?_
   | refine LeO.bind ?_ (fun _ => ?_)
set_option maxHeartbeats 8000000 in
set_option maxRecDepth 100000 in
theorem rational_Min.calls (k : Nat) (a0_0 : Bool) (a0_1 : ByteArray) (a0_2 : ByteArray) (a1_0 : Bool) (a1_1 : ByteArray) (a1_2 : ByteArray) (r1 : Bool) (r2 : ByteArray) (r3 : ByteArray) (w : World) (h : rational_Min.f k a0_0 a0_1 a0_2 a1_0 a1_1 a1_2 = some (r1, r2, r3)) :
  Calls Tryd.prog 39 #[.agg #[.bool a0_0, .string a0_1, .string a0_2], .agg #[.bool a1_0, .string a1_1, .string a1_2]] w fun e w' => e = .returned (.agg #[.bool r1, .string r2, .string r3]) ∧ Below w.heap.size w w' := by
 have hu26 := Tryd.underlying26
 have HB := A0_.mk (Below.refl w.heap.size w)
 have H : ((rational_Compare.f k a0_0 a0_1 a0_2 a1_0 a1_1 a1_2).bind fun t417 => (if t417 ≤ 0 then ((rational_clean.f k a0_0 a0_1 a0_2).bind fun bt418 => (some (bt418.1, bt418.2.1, bt418.2.2))) else ((rational_clean.f k a1_0 a1_1 a1_2).bind fun bt421 => (some (bt421.1, bt421.2.1, bt421.2.2))))) = some (r1, r2, r3) := h
 clear h
 replace H := Option.bind_eq_some_iff.mp H
 obtain ⟨t417, A30, H⟩ := H
 replace H : (if t417 ≤ 0 then ((rational_clean.f k a0_0 a0_1 a0_2).bind fun bt418 => (some (bt418.1, bt418.2.1, bt418.2.2))) else ((rational_clean.f k a1_0 a1_1 a1_2).bind fun bt421 => (some (bt421.1, bt421.2.1, bt421.2.2)))) = some (r1, r2, r3) := H
 have A3 := A0_.mk A30
 clear A30
 by_cases c4 : t417 ≤ 0
 ·rw [if_pos c4] at H
  have c4b0 : decide (t417 ≤ 0) = true := decide_eq_true c4
  clear c4
  replace H := Option.bind_eq_some_iff.mp H
  obtain ⟨⟨t418, t419, t420⟩, A50, H⟩ := H
  replace H : (some (t418, t419, t420)) = some (r1, r2, r3) := H
  have A5 := A0_.mk A50
  clear A50
  simp only [Option.some.injEq, Prod.mk.injEq] at H
  obtain ⟨rfl, rfl, rfl⟩ := H
  go_enter Tryd.func39, Tryd.ntmps39
  go_wp2_with (first | ((with_reducible refine gD_ (N := 2) rfl ?_); refine bE_ ?hg (N := 2) ?hd (cs := #[.bool a0_0, .string a0_1, .string a0_2]) (t := 26) ?hr ?_; (case hd => rfl); (case hg => rfl); (case hr => first | (go_simp; done) | (go_simp; rfl)); intro gb414 hg w6 hbox hb; have n0_ := A0_.mk (bT_ (by repeat (first | (with_reducible first | exact HB.out | apply bA_ | apply pB_ | apply b1_) | exact HB.out)) hb); have n1_ := A0_.mk (hbox); have n2_ := A0_.mk ((by rw [hg]; exact (bZ_ (by repeat (first | (with_reducible first | exact HB.out | apply bA_ | apply pB_ | apply b1_) | exact HB.out))) : w.heap.size ≤ gb414)); have n3_ := A0_.mk ((by rw [hg]; exact (bZ_ (by repeat (first | (with_reducible first | exact HB.out | apply bA_ | apply pB_ | apply b1_) | exact HB.out))) : w.heap.size ≤ gb414)); clear HB; have HB := n0_; have BK414 := n1_; have GW414 := n2_; have GE414 := n3_; clear n0_ n1_ n2_ n3_; clear hb hbox hg) | ((with_reducible refine gD_ (N := 3) rfl ?_); refine bE_ ?hg (N := 3) ?hd (cs := #[.bool a1_0, .string a1_1, .string a1_2]) (t := 26) ?hr ?_; (case hd => rfl); (case hg => rfl); (case hr => first | (go_simp; done) | (go_simp; rfl)); intro gb415 hg w7 hbox hb; have n0_ := A0_.mk (kB_ (g := gb414) (o := .cells #[.bool a0_0, .string a0_1, .string a0_2] 26 (0, 0)) (by (with_reducible repeat (first | refine kN_ ?_ _ | refine kD_ ?_ | refine kA_ ?_ _)); exact BK414.out) hb); have n1_ := A0_.mk (bT_ (by repeat (first | (with_reducible first | exact HB.out | apply bA_ | apply pB_ | apply b1_ | refine bS_ ?_ GE414.out) | exact HB.out)) hb); have n2_ := A0_.mk (hbox); have n3_ := A0_.mk ((by rw [hg]; exact (bZ_ (by repeat (first | (with_reducible first | exact HB.out | apply bA_ | apply pB_ | apply b1_ | refine bS_ ?_ GE414.out) | exact HB.out))) : w.heap.size ≤ gb415)); have n4_ := A0_.mk ((by rw [hg]; exact (bZ_ (by repeat (first | (with_reducible first | exact HB.out | apply bA_ | apply pB_ | apply b1_ | refine bS_ ?_ GE414.out) | exact HB.out))) : w.heap.size ≤ gb415)); have n5_ := A0_.mk ((by rw [hg]; exact Nat.ne_of_lt (blk_lt (g := gb414) (o := .cells #[.bool a0_0, .string a0_1, .string a0_2] 26 (0, 0)) (by (with_reducible repeat (first | refine kN_ ?_ _ | refine kD_ ?_ | refine kA_ ?_ _)); exact BK414.out)) : gb414 ≠ gb415)); have n6_ := A0_.mk ((by rw [hg]; exact Nat.ne_of_gt (blk_lt (g := gb414) (o := .cells #[.bool a0_0, .string a0_1, .string a0_2] 26 (0, 0)) (by (with_reducible repeat (first | refine kN_ ?_ _ | refine kD_ ?_ | refine kA_ ?_ _)); exact BK414.out)) : gb415 ≠ gb414)); clear BK414; clear HB; have BK414 := n0_; have HB := n1_; have BK415 := n2_; have GW415 := n3_; have GE415 := n4_; have NB414_415 := n5_; have NB415_414 := n6_; clear n0_ n1_ n2_ n3_ n4_ n5_ n6_; clear hb hbox hg) | ((with_reducible refine gD_ (N := 4) rfl ?_); refine bE_ ?hg (N := 4) ?hd (cs := #[.bool false, .string (⟨#[]⟩ : ByteArray), .string (⟨#[]⟩ : ByteArray)]) (t := 26) ?hr ?_; (case hd => rfl); (case hg => rfl); (case hr => first | (go_simp; done) | (go_simp; rfl)); intro gb416 hg w8 hbox hb; have n0_ := A0_.mk (kB_ (g := gb414) (o := .cells #[.bool a0_0, .string a0_1, .string a0_2] 26 (0, 0)) (by (with_reducible repeat (first | refine kN_ ?_ _ | refine kD_ ?_ | refine kA_ ?_ _)); exact BK414.out) hb); have n1_ := A0_.mk (kB_ (g := gb415) (o := .cells #[.bool a1_0, .string a1_1, .string a1_2] 26 (0, 0)) (by (with_reducible repeat (first | refine kN_ ?_ _ | refine kD_ ?_ | refine kA_ ?_ _)); exact BK415.out) hb); have n2_ := A0_.mk (bT_ (by repeat (first | (with_reducible first | exact HB.out | apply bA_ | apply pB_ | apply b1_ | refine bS_ ?_ GE414.out | refine bS_ ?_ GE415.out) | exact HB.out)) hb); have n3_ := A0_.mk (hbox); have n4_ := A0_.mk ((by rw [hg]; exact (bZ_ (by repeat (first | (with_reducible first | exact HB.out | apply bA_ | apply pB_ | apply b1_ | refine bS_ ?_ GE414.out | refine bS_ ?_ GE415.out) | exact HB.out))) : w.heap.size ≤ gb416)); have n5_ := A0_.mk ((by rw [hg]; exact (bZ_ (by repeat (first | (with_reducible first | exact HB.out | apply bA_ | apply pB_ | apply b1_ | refine bS_ ?_ GE414.out | refine bS_ ?_ GE415.out) | exact HB.out))) : w.heap.size ≤ gb416)); have n6_ := A0_.mk ((by rw [hg]; exact Nat.ne_of_lt (blk_lt (g := gb414) (o := .cells #[.bool a0_0, .string a0_1, .string a0_2] 26 (0, 0)) (by (with_reducible repeat (first | refine kN_ ?_ _ | refine kD_ ?_ | refine kA_ ?_ _)); exact BK414.out)) : gb414 ≠ gb416)); have n7_ := A0_.mk ((by rw [hg]; exact Nat.ne_of_gt (blk_lt (g := gb414) (o := .cells #[.bool a0_0, .string a0_1, .string a0_2] 26 (0, 0)) (by (with_reducible repeat (first | refine kN_ ?_ _ | refine kD_ ?_ | refine kA_ ?_ _)); exact BK414.out)) : gb416 ≠ gb414)); have n8_ := A0_.mk ((by rw [hg]; exact Nat.ne_of_lt (blk_lt (g := gb415) (o := .cells #[.bool a1_0, .string a1_1, .string a1_2] 26 (0, 0)) (by (with_reducible repeat (first | refine kN_ ?_ _ | refine kD_ ?_ | refine kA_ ?_ _)); exact BK415.out)) : gb415 ≠ gb416)); have n9_ := A0_.mk ((by rw [hg]; exact Nat.ne_of_gt (blk_lt (g := gb415) (o := .cells #[.bool a1_0, .string a1_1, .string a1_2] 26 (0, 0)) (by (with_reducible repeat (first | refine kN_ ?_ _ | refine kD_ ?_ | refine kA_ ?_ _)); exact BK415.out)) : gb416 ≠ gb415)); clear BK414; clear BK415; clear HB; have BK414 := n0_; have BK415 := n1_; have HB := n2_; have BK416 := n3_; have GW416 := n4_; have GE416 := n5_; have NB414_416 := n6_; have NB416_414 := n7_; have NB415_416 := n8_; have NB416_415 := n9_; clear n0_ n1_ n2_ n3_ n4_ n5_ n6_ n7_ n8_ n9_; clear hb hbox hg; have hnb9 := NB414_415.out; have hnc9 := NB415_414.out; have hnb10 := NB414_416.out; have hnc10 := NB416_414.out; have hcz11_0 : w8.cell? ⟨gb414, 0, none⟩ = some (.bool a0_0) := (kc_ BK414.out 0).trans rfl; have hcz11_1 : w8.cell? ⟨gb414, 1, none⟩ = some (.string a0_1) := (kc_ BK414.out 1).trans rfl; have hcz11_2 : w8.cell? ⟨gb414, 2, none⟩ = some (.string a0_2) := (kc_ BK414.out 2).trans rfl; have hfz11_0 := kF_ BK414.out 0; have hfz11_1 := kF_ BK414.out 1; have hfz11_2 := kF_ BK414.out 2; have hnb12 := NB415_416.out; have hnc12 := NB416_415.out; have hcz13_0 : w8.cell? ⟨gb415, 0, none⟩ = some (.bool a1_0) := (kc_ BK415.out 0).trans rfl; have hcz13_1 : w8.cell? ⟨gb415, 1, none⟩ = some (.string a1_1) := (kc_ BK415.out 1).trans rfl; have hcz13_2 : w8.cell? ⟨gb415, 2, none⟩ = some (.string a1_2) := (kc_ BK415.out 2).trans rfl; have hfz13_0 := kF_ BK415.out 0; have hfz13_1 := kF_ BK415.out 1; have hfz13_2 := kF_ BK415.out 2) | ((with_reducible refine gC_ (f := 20) rfl ?_); refine goesL_ (some 7) rfl rfl Tryd.func20 (by kernel_rfl) rfl #[.agg #[.bool a0_0, .string a0_1, .string a0_2], .agg #[.bool a1_0, .string a1_1, .string a1_2]] rfl (by (try simp only [List.map_toArray, List.map_cons, List.map_nil]); first | done | rfl | (simp only [List.length_drop, List.length_take]; rfl)) ?_; (with_reducible refine (rational_Compare.calls k a0_0 a0_1 a0_2 a1_0 a1_1 a1_2 t417 _ A3.out).mono ?_); rintro e w14 ⟨rfl, hb⟩; refine ⟨_, rfl, ?_⟩; have n0_ := A0_.mk (kB_ (g := gb414) (o := .cells #[.bool a0_0, .string a0_1, .string a0_2] 26 (0, 0)) (by (with_reducible repeat (first | refine kN_ ?_ _ | refine kD_ ?_ | refine kA_ ?_ _)); exact BK414.out) hb); have n1_ := A0_.mk (kB_ (g := gb415) (o := .cells #[.bool a1_0, .string a1_1, .string a1_2] 26 (0, 0)) (by (with_reducible repeat (first | refine kN_ ?_ _ | refine kD_ ?_ | refine kA_ ?_ _)); exact BK415.out) hb); have n2_ := A0_.mk (kB_ (g := gb416) (o := .cells #[.bool false, .string (⟨#[]⟩ : ByteArray), .string (⟨#[]⟩ : ByteArray)] 26 (0, 0)) (by (with_reducible repeat (first | refine kN_ ?_ _ | refine kD_ ?_ | refine kA_ ?_ _)); exact BK416.out) hb); have n3_ := A0_.mk (bT_ (by repeat (first | (with_reducible first | exact HB.out | apply bA_ | apply pB_ | apply b1_ | refine bS_ ?_ GE414.out | refine bS_ ?_ GE415.out | refine bS_ ?_ GE416.out) | exact HB.out)) hb); clear BK414; clear BK415; clear BK416; clear HB; have BK414 := n0_; have BK415 := n1_; have BK416 := n2_; have HB := n3_; clear n0_ n1_ n2_ n3_; (try clear hb); (try clear hb2); (try clear hk); (try clear hi); have hcz15_0 : w14.cell? ⟨gb414, 0, none⟩ = some (.bool a0_0) := (kc_ BK414.out 0).trans rfl; have hcz15_1 : w14.cell? ⟨gb414, 1, none⟩ = some (.string a0_1) := (kc_ BK414.out 1).trans rfl; have hcz15_2 : w14.cell? ⟨gb414, 2, none⟩ = some (.string a0_2) := (kc_ BK414.out 2).trans rfl; have hfz15_0 := kF_ BK414.out 0; have hfz15_1 := kF_ BK414.out 1; have hfz15_2 := kF_ BK414.out 2) | ((with_reducible refine gC_ (f := 43) rfl ?_); refine goesL_ (some 10) rfl rfl Tryd.func43 (by kernel_rfl) rfl #[.agg #[.bool a0_0, .string a0_1, .string a0_2]] rfl (by (try simp only [List.map_toArray, List.map_cons, List.map_nil]); first | done | rfl | (simp only [List.length_drop, List.length_take]; rfl)) ?_; (with_reducible refine (rational_clean.calls k a0_0 a0_1 a0_2 t418 t419 t420 _ A5.out).mono ?_); rintro e w16 ⟨rfl, hb⟩; refine ⟨_, rfl, ?_⟩; have n0_ := A0_.mk (kB_ (g := gb414) (o := .cells #[.bool a0_0, .string a0_1, .string a0_2] 26 (0, 0)) (by (with_reducible repeat (first | refine kN_ ?_ _ | refine kD_ ?_ | refine kA_ ?_ _)); exact BK414.out) hb); have n1_ := A0_.mk (kB_ (g := gb415) (o := .cells #[.bool a1_0, .string a1_1, .string a1_2] 26 (0, 0)) (by (with_reducible repeat (first | refine kN_ ?_ _ | refine kD_ ?_ | refine kA_ ?_ _)); exact BK415.out) hb); have n2_ := A0_.mk (kB_ (g := gb416) (o := .cells #[.bool false, .string (⟨#[]⟩ : ByteArray), .string (⟨#[]⟩ : ByteArray)] 26 (0, 0)) (by (with_reducible repeat (first | refine kN_ ?_ _ | refine kD_ ?_ | refine kA_ ?_ _)); exact BK416.out) hb); have n3_ := A0_.mk (bT_ (by repeat (first | (with_reducible first | exact HB.out | apply bA_ | apply pB_ | apply b1_ | refine bS_ ?_ GE414.out | refine bS_ ?_ GE415.out | refine bS_ ?_ GE416.out) | exact HB.out)) hb); clear BK414; clear BK415; clear BK416; clear HB; have BK414 := n0_; have BK415 := n1_; have BK416 := n2_; have HB := n3_; clear n0_ n1_ n2_ n3_; (try clear hb); (try clear hb2); (try clear hk); (try clear hi); have hcz17_0 : w16.cell? ⟨gb416, 0, none⟩ = some (.bool false) := (kc_ BK416.out 0).trans rfl; have hcz17_1 : w16.cell? ⟨gb416, 1, none⟩ = some (.string (⟨#[]⟩ : ByteArray)) := (kc_ BK416.out 1).trans rfl; have hcz17_2 : w16.cell? ⟨gb416, 2, none⟩ = some (.string (⟨#[]⟩ : ByteArray)) := (kc_ BK416.out 2).trans rfl; have hfz17_0 := kF_ BK416.out 0; have hfz17_1 := kF_ BK416.out 1; have hfz17_2 := kF_ BK416.out 2))
  refine bodyPost_ret (results_cell_row rfl _ _ gb416 26 #[.bool t418, .string t419, .string t420] (0, 0) _ rfl (by (with_reducible repeat (first | refine kN_ ?_ _ | refine kD_ ?_ | refine kA_ ?_ _)); refine kP_ (cs := #[.bool t418, .string t419, .string (⟨#[]⟩ : ByteArray)]) ?_ 2 _ rfl; (with_reducible repeat (first | refine kN_ ?_ _ | refine kD_ ?_ | refine kA_ ?_ _)); refine kP_ (cs := #[.bool t418, .string (⟨#[]⟩ : ByteArray), .string (⟨#[]⟩ : ByteArray)]) ?_ 1 _ rfl; (with_reducible repeat (first | refine kN_ ?_ _ | refine kD_ ?_ | refine kA_ ?_ _)); refine kP_ (cs := #[.bool false, .string (⟨#[]⟩ : ByteArray), .string (⟨#[]⟩ : ByteArray)]) ?_ 0 _ rfl; (with_reducible repeat (first | refine kN_ ?_ _ | refine kD_ ?_ | refine kA_ ?_ _)); exact BK416.out) Tryd.underlying26 rfl (by kernel_rfl)) rfl ?_
  exact ⟨by first | rfl | (simp [errW_none, errW_some] <;> rfl) | (simp [*, errW_none, errW_some] <;> rfl), by repeat (first | (with_reducible first | exact HB.out | apply bA_ | apply pB_ | apply b1_ | refine bS_ ?_ GE414.out | refine bS_ ?_ GE415.out | refine bS_ ?_ GE416.out) | exact HB.out)⟩
 ·rw [if_neg c4] at H
  have c4b0 : decide (t417 ≤ 0) = false := decide_eq_false c4
  clear c4
  replace H := Option.bind_eq_some_iff.mp H
  obtain ⟨⟨t421, t422, t423⟩, A180, H⟩ := H
  replace H : (some (t421, t422, t423)) = some (r1, r2, r3) := H
  have A18 := A0_.mk A180
  clear A180
  simp only [Option.some.injEq, Prod.mk.injEq] at H
  obtain ⟨rfl, rfl, rfl⟩ := H
  go_enter Tryd.func39, Tryd.ntmps39
  go_wp2_with (first | ((with_reducible refine gD_ (N := 2) rfl ?_); refine bE_ ?hg (N := 2) ?hd (cs := #[.bool a0_0, .string a0_1, .string a0_2]) (t := 26) ?hr ?_; (case hd => rfl); (case hg => rfl); (case hr => first | (go_simp; done) | (go_simp; rfl)); intro gb414 hg w19 hbox hb; have n0_ := A0_.mk (bT_ (by repeat (first | (with_reducible first | exact HB.out | apply bA_ | apply pB_ | apply b1_) | exact HB.out)) hb); have n1_ := A0_.mk (hbox); have n2_ := A0_.mk ((by rw [hg]; exact (bZ_ (by repeat (first | (with_reducible first | exact HB.out | apply bA_ | apply pB_ | apply b1_) | exact HB.out))) : w.heap.size ≤ gb414)); have n3_ := A0_.mk ((by rw [hg]; exact (bZ_ (by repeat (first | (with_reducible first | exact HB.out | apply bA_ | apply pB_ | apply b1_) | exact HB.out))) : w.heap.size ≤ gb414)); clear HB; have HB := n0_; have BK414 := n1_; have GW414 := n2_; have GE414 := n3_; clear n0_ n1_ n2_ n3_; clear hb hbox hg) | ((with_reducible refine gD_ (N := 3) rfl ?_); refine bE_ ?hg (N := 3) ?hd (cs := #[.bool a1_0, .string a1_1, .string a1_2]) (t := 26) ?hr ?_; (case hd => rfl); (case hg => rfl); (case hr => first | (go_simp; done) | (go_simp; rfl)); intro gb415 hg w20 hbox hb; have n0_ := A0_.mk (kB_ (g := gb414) (o := .cells #[.bool a0_0, .string a0_1, .string a0_2] 26 (0, 0)) (by (with_reducible repeat (first | refine kN_ ?_ _ | refine kD_ ?_ | refine kA_ ?_ _)); exact BK414.out) hb); have n1_ := A0_.mk (bT_ (by repeat (first | (with_reducible first | exact HB.out | apply bA_ | apply pB_ | apply b1_ | refine bS_ ?_ GE414.out) | exact HB.out)) hb); have n2_ := A0_.mk (hbox); have n3_ := A0_.mk ((by rw [hg]; exact (bZ_ (by repeat (first | (with_reducible first | exact HB.out | apply bA_ | apply pB_ | apply b1_ | refine bS_ ?_ GE414.out) | exact HB.out))) : w.heap.size ≤ gb415)); have n4_ := A0_.mk ((by rw [hg]; exact (bZ_ (by repeat (first | (with_reducible first | exact HB.out | apply bA_ | apply pB_ | apply b1_ | refine bS_ ?_ GE414.out) | exact HB.out))) : w.heap.size ≤ gb415)); have n5_ := A0_.mk ((by rw [hg]; exact Nat.ne_of_lt (blk_lt (g := gb414) (o := .cells #[.bool a0_0, .string a0_1, .string a0_2] 26 (0, 0)) (by (with_reducible repeat (first | refine kN_ ?_ _ | refine kD_ ?_ | refine kA_ ?_ _)); exact BK414.out)) : gb414 ≠ gb415)); have n6_ := A0_.mk ((by rw [hg]; exact Nat.ne_of_gt (blk_lt (g := gb414) (o := .cells #[.bool a0_0, .string a0_1, .string a0_2] 26 (0, 0)) (by (with_reducible repeat (first | refine kN_ ?_ _ | refine kD_ ?_ | refine kA_ ?_ _)); exact BK414.out)) : gb415 ≠ gb414)); clear BK414; clear HB; have BK414 := n0_; have HB := n1_; have BK415 := n2_; have GW415 := n3_; have GE415 := n4_; have NB414_415 := n5_; have NB415_414 := n6_; clear n0_ n1_ n2_ n3_ n4_ n5_ n6_; clear hb hbox hg) | ((with_reducible refine gD_ (N := 4) rfl ?_); refine bE_ ?hg (N := 4) ?hd (cs := #[.bool false, .string (⟨#[]⟩ : ByteArray), .string (⟨#[]⟩ : ByteArray)]) (t := 26) ?hr ?_; (case hd => rfl); (case hg => rfl); (case hr => first | (go_simp; done) | (go_simp; rfl)); intro gb416 hg w21 hbox hb; have n0_ := A0_.mk (kB_ (g := gb414) (o := .cells #[.bool a0_0, .string a0_1, .string a0_2] 26 (0, 0)) (by (with_reducible repeat (first | refine kN_ ?_ _ | refine kD_ ?_ | refine kA_ ?_ _)); exact BK414.out) hb); have n1_ := A0_.mk (kB_ (g := gb415) (o := .cells #[.bool a1_0, .string a1_1, .string a1_2] 26 (0, 0)) (by (with_reducible repeat (first | refine kN_ ?_ _ | refine kD_ ?_ | refine kA_ ?_ _)); exact BK415.out) hb); have n2_ := A0_.mk (bT_ (by repeat (first | (with_reducible first | exact HB.out | apply bA_ | apply pB_ | apply b1_ | refine bS_ ?_ GE414.out | refine bS_ ?_ GE415.out) | exact HB.out)) hb); have n3_ := A0_.mk (hbox); have n4_ := A0_.mk ((by rw [hg]; exact (bZ_ (by repeat (first | (with_reducible first | exact HB.out | apply bA_ | apply pB_ | apply b1_ | refine bS_ ?_ GE414.out | refine bS_ ?_ GE415.out) | exact HB.out))) : w.heap.size ≤ gb416)); have n5_ := A0_.mk ((by rw [hg]; exact (bZ_ (by repeat (first | (with_reducible first | exact HB.out | apply bA_ | apply pB_ | apply b1_ | refine bS_ ?_ GE414.out | refine bS_ ?_ GE415.out) | exact HB.out))) : w.heap.size ≤ gb416)); have n6_ := A0_.mk ((by rw [hg]; exact Nat.ne_of_lt (blk_lt (g := gb414) (o := .cells #[.bool a0_0, .string a0_1, .string a0_2] 26 (0, 0)) (by (with_reducible repeat (first | refine kN_ ?_ _ | refine kD_ ?_ | refine kA_ ?_ _)); exact BK414.out)) : gb414 ≠ gb416)); have n7_ := A0_.mk ((by rw [hg]; exact Nat.ne_of_gt (blk_lt (g := gb414) (o := .cells #[.bool a0_0, .string a0_1, .string a0_2] 26 (0, 0)) (by (with_reducible repeat (first | refine kN_ ?_ _ | refine kD_ ?_ | refine kA_ ?_ _)); exact BK414.out)) : gb416 ≠ gb414)); have n8_ := A0_.mk ((by rw [hg]; exact Nat.ne_of_lt (blk_lt (g := gb415) (o := .cells #[.bool a1_0, .string a1_1, .string a1_2] 26 (0, 0)) (by (with_reducible repeat (first | refine kN_ ?_ _ | refine kD_ ?_ | refine kA_ ?_ _)); exact BK415.out)) : gb415 ≠ gb416)); have n9_ := A0_.mk ((by rw [hg]; exact Nat.ne_of_gt (blk_lt (g := gb415) (o := .cells #[.bool a1_0, .string a1_1, .string a1_2] 26 (0, 0)) (by (with_reducible repeat (first | refine kN_ ?_ _ | refine kD_ ?_ | refine kA_ ?_ _)); exact BK415.out)) : gb416 ≠ gb415)); clear BK414; clear BK415; clear HB; have BK414 := n0_; have BK415 := n1_; have HB := n2_; have BK416 := n3_; have GW416 := n4_; have GE416 := n5_; have NB414_416 := n6_; have NB416_414 := n7_; have NB415_416 := n8_; have NB416_415 := n9_; clear n0_ n1_ n2_ n3_ n4_ n5_ n6_ n7_ n8_ n9_; clear hb hbox hg; have hnb22 := NB414_415.out; have hnc22 := NB415_414.out; have hnb23 := NB414_416.out; have hnc23 := NB416_414.out; have hcz24_0 : w21.cell? ⟨gb414, 0, none⟩ = some (.bool a0_0) := (kc_ BK414.out 0).trans rfl; have hcz24_1 : w21.cell? ⟨gb414, 1, none⟩ = some (.string a0_1) := (kc_ BK414.out 1).trans rfl; have hcz24_2 : w21.cell? ⟨gb414, 2, none⟩ = some (.string a0_2) := (kc_ BK414.out 2).trans rfl; have hfz24_0 := kF_ BK414.out 0; have hfz24_1 := kF_ BK414.out 1; have hfz24_2 := kF_ BK414.out 2; have hnb25 := NB415_416.out; have hnc25 := NB416_415.out; have hcz26_0 : w21.cell? ⟨gb415, 0, none⟩ = some (.bool a1_0) := (kc_ BK415.out 0).trans rfl; have hcz26_1 : w21.cell? ⟨gb415, 1, none⟩ = some (.string a1_1) := (kc_ BK415.out 1).trans rfl; have hcz26_2 : w21.cell? ⟨gb415, 2, none⟩ = some (.string a1_2) := (kc_ BK415.out 2).trans rfl; have hfz26_0 := kF_ BK415.out 0; have hfz26_1 := kF_ BK415.out 1; have hfz26_2 := kF_ BK415.out 2) | ((with_reducible refine gC_ (f := 20) rfl ?_); refine goesL_ (some 7) rfl rfl Tryd.func20 (by kernel_rfl) rfl #[.agg #[.bool a0_0, .string a0_1, .string a0_2], .agg #[.bool a1_0, .string a1_1, .string a1_2]] rfl (by (try simp only [List.map_toArray, List.map_cons, List.map_nil]); first | done | rfl | (simp only [List.length_drop, List.length_take]; rfl)) ?_; (with_reducible refine (rational_Compare.calls k a0_0 a0_1 a0_2 a1_0 a1_1 a1_2 t417 _ A3.out).mono ?_); rintro e w27 ⟨rfl, hb⟩; refine ⟨_, rfl, ?_⟩; have n0_ := A0_.mk (kB_ (g := gb414) (o := .cells #[.bool a0_0, .string a0_1, .string a0_2] 26 (0, 0)) (by (with_reducible repeat (first | refine kN_ ?_ _ | refine kD_ ?_ | refine kA_ ?_ _)); exact BK414.out) hb); have n1_ := A0_.mk (kB_ (g := gb415) (o := .cells #[.bool a1_0, .string a1_1, .string a1_2] 26 (0, 0)) (by (with_reducible repeat (first | refine kN_ ?_ _ | refine kD_ ?_ | refine kA_ ?_ _)); exact BK415.out) hb); have n2_ := A0_.mk (kB_ (g := gb416) (o := .cells #[.bool false, .string (⟨#[]⟩ : ByteArray), .string (⟨#[]⟩ : ByteArray)] 26 (0, 0)) (by (with_reducible repeat (first | refine kN_ ?_ _ | refine kD_ ?_ | refine kA_ ?_ _)); exact BK416.out) hb); have n3_ := A0_.mk (bT_ (by repeat (first | (with_reducible first | exact HB.out | apply bA_ | apply pB_ | apply b1_ | refine bS_ ?_ GE414.out | refine bS_ ?_ GE415.out | refine bS_ ?_ GE416.out) | exact HB.out)) hb); clear BK414; clear BK415; clear BK416; clear HB; have BK414 := n0_; have BK415 := n1_; have BK416 := n2_; have HB := n3_; clear n0_ n1_ n2_ n3_; (try clear hb); (try clear hb2); (try clear hk); (try clear hi); have hcz28_0 : w27.cell? ⟨gb415, 0, none⟩ = some (.bool a1_0) := (kc_ BK415.out 0).trans rfl; have hcz28_1 : w27.cell? ⟨gb415, 1, none⟩ = some (.string a1_1) := (kc_ BK415.out 1).trans rfl; have hcz28_2 : w27.cell? ⟨gb415, 2, none⟩ = some (.string a1_2) := (kc_ BK415.out 2).trans rfl; have hfz28_0 := kF_ BK415.out 0; have hfz28_1 := kF_ BK415.out 1; have hfz28_2 := kF_ BK415.out 2) | ((with_reducible refine gC_ (f := 43) rfl ?_); refine goesL_ (some 12) rfl rfl Tryd.func43 (by kernel_rfl) rfl #[.agg #[.bool a1_0, .string a1_1, .string a1_2]] rfl (by (try simp only [List.map_toArray, List.map_cons, List.map_nil]); first | done | rfl | (simp only [List.length_drop, List.length_take]; rfl)) ?_; (with_reducible refine (rational_clean.calls k a1_0 a1_1 a1_2 t421 t422 t423 _ A18.out).mono ?_); rintro e w29 ⟨rfl, hb⟩; refine ⟨_, rfl, ?_⟩; have n0_ := A0_.mk (kB_ (g := gb414) (o := .cells #[.bool a0_0, .string a0_1, .string a0_2] 26 (0, 0)) (by (with_reducible repeat (first | refine kN_ ?_ _ | refine kD_ ?_ | refine kA_ ?_ _)); exact BK414.out) hb); have n1_ := A0_.mk (kB_ (g := gb415) (o := .cells #[.bool a1_0, .string a1_1, .string a1_2] 26 (0, 0)) (by (with_reducible repeat (first | refine kN_ ?_ _ | refine kD_ ?_ | refine kA_ ?_ _)); exact BK415.out) hb); have n2_ := A0_.mk (kB_ (g := gb416) (o := .cells #[.bool false, .string (⟨#[]⟩ : ByteArray), .string (⟨#[]⟩ : ByteArray)] 26 (0, 0)) (by (with_reducible repeat (first | refine kN_ ?_ _ | refine kD_ ?_ | refine kA_ ?_ _)); exact BK416.out) hb); have n3_ := A0_.mk (bT_ (by repeat (first | (with_reducible first | exact HB.out | apply bA_ | apply pB_ | apply b1_ | refine bS_ ?_ GE414.out | refine bS_ ?_ GE415.out | refine bS_ ?_ GE416.out) | exact HB.out)) hb); clear BK414; clear BK415; clear BK416; clear HB; have BK414 := n0_; have BK415 := n1_; have BK416 := n2_; have HB := n3_; clear n0_ n1_ n2_ n3_; (try clear hb); (try clear hb2); (try clear hk); (try clear hi); have hcz30_0 : w29.cell? ⟨gb416, 0, none⟩ = some (.bool false) := (kc_ BK416.out 0).trans rfl; have hcz30_1 : w29.cell? ⟨gb416, 1, none⟩ = some (.string (⟨#[]⟩ : ByteArray)) := (kc_ BK416.out 1).trans rfl; have hcz30_2 : w29.cell? ⟨gb416, 2, none⟩ = some (.string (⟨#[]⟩ : ByteArray)) := (kc_ BK416.out 2).trans rfl; have hfz30_0 := kF_ BK416.out 0; have hfz30_1 := kF_ BK416.out 1; have hfz30_2 := kF_ BK416.out 2))
  refine bodyPost_ret (results_cell_row rfl _ _ gb416 26 #[.bool t421, .string t422, .string t423] (0, 0) _ rfl (by (with_reducible repeat (first | refine kN_ ?_ _ | refine kD_ ?_ | refine kA_ ?_ _)); refine kP_ (cs := #[.bool t421, .string t422, .string (⟨#[]⟩ : ByteArray)]) ?_ 2 _ rfl; (with_reducible repeat (first | refine kN_ ?_ _ | refine kD_ ?_ | refine kA_ ?_ _)); refine kP_ (cs := #[.bool t421, .string (⟨#[]⟩ : ByteArray), .string (⟨#[]⟩ : ByteArray)]) ?_ 1 _ rfl; (with_reducible repeat (first | refine kN_ ?_ _ | refine kD_ ?_ | refine kA_ ?_ _)); refine kP_ (cs := #[.bool false, .string (⟨#[]⟩ : ByteArray), .string (⟨#[]⟩ : ByteArray)]) ?_ 0 _ rfl; (with_reducible repeat (first | refine kN_ ?_ _ | refine kD_ ?_ | refine kA_ ?_ _)); exact BK416.out) Tryd.underlying26 rfl (by kernel_rfl)) rfl ?_
  exact ⟨by first | rfl | (simp [errW_none, errW_some] <;> rfl) | (simp [*, errW_none, errW_some] <;> rfl), by repeat (first | (with_reducible first | exact HB.out | apply bA_ | apply pB_ | apply b1_ | refine bS_ ?_ GE414.out | refine bS_ ?_ GE415.out | refine bS_ ?_ GE416.out) | exact HB.out)⟩
mutual
def natural_Add.j0 : Nat → List Int → List Int → Option (ByteArray)
 | 0, _, _ => none
 | k + 1, x5, x6 => if 0 ≤ (wrap64 ((x5.length : Int) + 1)) then (if (wrap64 ((x5.length : Int) + 1) : Int).toNat ≤ 70368744177664 then (natural_Add.l0 k x5 x6 (List.replicate (wrap64 ((x5.length : Int) + 1) : Int).toNat 0) 0 (x5.length : Int) 0) else (none)) else (none)
def natural_Add.l0 : Nat → List Int → List Int → List Int → Int → Int → Int → Option (ByteArray)
 | 0, _, _, _, _, _, _ => none
 | k + 1, x5, x6, x7, x8, x27, x28 => if x28 < x27 then (if x28 < (x6.length : Int) then (if 0 ≤ x28 then (if x28 < (x5.length : Int) then ((bits_Add32.f (rd x5 x28) (rd x6 x28) x8).bind fun bt307 => (if x28 < (x7.length : Int) then (natural_Add.l0 k x5 x6 (x7.set (x28 : Int).toNat bt307.1) bt307.2 x27 (wrap64 (x28 + 1))) else (none))) else (none)) else (none)) else (if 0 ≤ x28 then (if x28 < (x5.length : Int) then ((bits_Add32.f (rd x5 x28) 0 x8).bind fun bt311 => (if x28 < (x7.length : Int) then (natural_Add.l0 k x5 x6 (x7.set (x28 : Int).toNat bt311.1) bt311.2 x27 (wrap64 (x28 + 1))) else (none))) else (none)) else (none))) else (if 0 ≤ (x5.length : Int) then (if (x5.length : Int) < (x7.length : Int) then ((natural_limbs_text.f k (x7.set ((x5.length : Int) : Int).toNat x8)).bind fun t315 => (some t315)) else (none)) else (none))
end
def natural_Add.f (k : Nat) (a0 : ByteArray) (a1 : ByteArray) : Option (ByteArray) := (natural_parse.f k a0).bind fun t296 => ((natural_parse.f k a1).bind fun t299 => (if (t296.length : Int) < (t299.length : Int) then (natural_Add.j0 k t299 t296) else (natural_Add.j0 k t296 t299)))
theorem natural_Add.mono_l : ∀ k, (∀ y0 y1, LeO (natural_Add.j0 k y0 y1) (natural_Add.j0 (k + 1) y0 y1)) ∧ (∀ y0 y1 y2 y3 y4 y5, LeO (natural_Add.l0 k y0 y1 y2 y3 y4 y5) (natural_Add.l0 (k + 1) y0 y1 y2 y3 y4 y5))
 | 0 => ⟨fun _ _ r h => by simp [natural_Add.j0] at h, fun _ _ _ _ _ _ r h => by simp [natural_Add.l0] at h⟩
 | k + 1 => by
  obtain ⟨ih0, ih1⟩ := natural_Add.mono_l k
  refine ⟨?_, ?_⟩
  ·intro y0 y1
   unfold natural_Add.j0
   repeat' first
   | (with_reducible exact ih0 _ _)
   | (with_reducible exact ih1 _ _ _ _ _ _)
   | (with_reducible exact natural_limbs_text.mono _ _)
   | (with_reducible exact natural_parse.mono _ _)
   | (with_reducible exact LeO.refl _)
   | (with_reducible exact LeO.none _)
   | (with_reducible refine LeO.ite ?_ ?_)
   | (with_reducible refine LeO.bind ?_ (fun _ => ?_))
   | exact ih0 _ _
   | exact ih1 _ _ _ _ _ _
   | exact natural_limbs_text.mono _ _
   | exact natural_parse.mono _ _
   | exact LeO.none _
   | refine LeO.ite ?_ ?_
   | refine LeO.bind ?_ (fun _ => ?_)
  ·intro y0 y1 y2 y3 y4 y5
   unfold natural_Add.l0
   repeat' first
   | (with_reducible exact ih0 _ _)
   | (with_reducible exact ih1 _ _ _ _ _ _)
   | (with_reducible exact natural_limbs_text.mono _ _)
   | (with_reducible exact natural_parse.mono _ _)
   | (with_reducible exact LeO.refl _)
   | (with_reducible exact LeO.none _)
   | (with_reducible refine LeO.ite ?_ ?_)
   | (with_reducible refine LeO.bind ?_ (fun _ => ?_))
   | exact ih0 _ _
   | exact ih1 _ _ _ _ _ _
   | exact natural_limbs_text.mono _ _
   | exact natural_parse.mono _ _
   | exact LeO.none _
   | refine LeO.ite ?_ ?_
   | refine LeO.bind ?_ (fun _ => ?_)
theorem natural_Add.mono : ∀ a0 a1 k, LeO (natural_Add.f k a0 a1) (natural_Add.f (k + 1) a0 a1) := by
 intro a0 a1 k
 obtain ⟨ih0, ih1⟩ := natural_Add.mono_l k
 unfold natural_Add.f
 repeat' first
   | (with_reducible exact ih0 _ _)
   | (with_reducible exact ih1 _ _ _ _ _ _)
   | (with_reducible exact natural_limbs_text.mono _ _)
   | (with_reducible exact natural_parse.mono _ _)
   | (with_reducible exact LeO.refl _)
   | (with_reducible exact LeO.none _)
   | (with_reducible refine LeO.ite ?_ ?_)
   | (with_reducible refine LeO.bind ?_ (fun _ => ?_))
   | exact ih0 _ _
   | exact ih1 _ _ _ _ _ _
   | exact natural_limbs_text.mono _ _
   | exact natural_parse.mono _ _
   | exact LeO.none _
   | refine LeO.ite ?_ ?_
   | refine LeO.bind ?_ (fun _ => ?_)
set_option maxHeartbeats 8000000 in
set_option maxRecDepth 100000 in
theorem natural_Add.calls (k : Nat) (a0 : ByteArray) (a1 : ByteArray) (r : ByteArray) (w : World) (h : natural_Add.f k a0 a1 = some r) :
  Calls Tryd.prog 66 #[.string a0, .string a1] w fun e w' => e = .returned (.string r) ∧ Below w.heap.size w w' := by
 have HB := A0_.mk (Below.refl w.heap.size w)
 have H : ((natural_parse.f k a0).bind fun t296 => ((natural_parse.f k a1).bind fun t299 => (if (t296.length : Int) < (t299.length : Int) then (natural_Add.j0 k t299 t296) else (natural_Add.j0 k t296 t299)))) = some r := h
 clear h
 replace H := Option.bind_eq_some_iff.mp H
 obtain ⟨t296, A30, H⟩ := H
 replace H : ((natural_parse.f k a1).bind fun t299 => (if (t296.length : Int) < (t299.length : Int) then (natural_Add.j0 k t299 t296) else (natural_Add.j0 k t296 t299))) = some r := H
 have A3 := A0_.mk A30
 clear A30
 replace H := Option.bind_eq_some_iff.mp H
 obtain ⟨t299, A40, H⟩ := H
 replace H : (if (t296.length : Int) < (t299.length : Int) then (natural_Add.j0 k t299 t296) else (natural_Add.j0 k t296 t299)) = some r := H
 have A4 := A0_.mk A40
 clear A40
 have HC5 := A0_.mk H
 clear H
 go_enter Tryd.func66, Tryd.ntmps66
 go_upto_if 19 with (first | ((with_reducible refine gC_ (f := 64) rfl ?_); refine goesL_ (some 12) rfl rfl Tryd.func64 (by kernel_rfl) rfl #[.string a0] rfl (by (try simp only [List.map_toArray, List.map_cons, List.map_nil]); first | done | rfl | (simp only [List.length_drop, List.length_take]; rfl)) ?_; (with_reducible refine (natural_parse.calls k a0 t296 _ A3.out).mono ?_); rintro e w6 ⟨v297, rfl, ho0, hb⟩; refine ⟨_, rfl, ?_⟩; have n0_ := A0_.mk (Kd.R_lower ho0 (bZ_ (by repeat (first | (with_reducible first | exact HB.out | apply bA_ | apply pB_ | apply b1_) | exact HB.out)))); have n1_ := A0_.mk (bT_ (by repeat (first | (with_reducible first | exact HB.out | apply bA_ | apply pB_ | apply b1_) | exact HB.out)) hb); clear HB; have HO298 := n0_; have HB := n1_; clear n0_ n1_; (try clear hb); (try clear hb2); (try clear hk); (try clear hi); (try clear ho0)) | ((with_reducible refine gC_ (f := 64) rfl ?_); refine goesL_ (some 14) rfl rfl Tryd.func64 (by kernel_rfl) rfl #[.string a1] rfl (by (try simp only [List.map_toArray, List.map_cons, List.map_nil]); first | done | rfl | (simp only [List.length_drop, List.length_take]; rfl)) ?_; (with_reducible refine (natural_parse.calls k a1 t299 _ A4.out).mono ?_); rintro e w7 ⟨v300, rfl, ho0, hb⟩; refine ⟨_, rfl, ?_⟩; have n0_ := A0_.mk (Kd.R_elder' (by (with_reducible repeat (first | apply Kd.R_alloc | apply Kd.R_drewN | apply Kd.R_drew)); exact HO298.out) (Kd.R_base ho0) hb); have n1_ := A0_.mk (Kd.R_lower (Kd.R_new' ho0 (Kd.R_lt (by (with_reducible repeat (first | apply Kd.R_alloc | apply Kd.R_drewN | apply Kd.R_drew)); exact HO298.out))) (bZ_ (by repeat (first | (with_reducible first | exact HB.out | apply bA_ | apply pB_ | apply b1_) | exact HB.out)))); have n2_ := A0_.mk (bT_ (by repeat (first | (with_reducible first | exact HB.out | apply bA_ | apply pB_ | apply b1_) | exact HB.out)) hb); clear HO298; clear HB; have HO298 := n0_; have HO301 := n1_; have HB := n2_; clear n0_ n1_ n2_; (try clear hb); (try clear hb2); (try clear hk); (try clear hi); (try clear ho0); obtain ⟨Ao8, co8, eo8⟩ := Kd.R_slice HO298.out; subst eo8; obtain ⟨Ao9, co9, eo9⟩ := Kd.R_slice HO301.out; subst eo9))
 (try simp only [Act.put, List.setIfInBounds_toArray, List.set_cons_zero, List.set_cons_succ])
 go_cut [5, 6] (fun v5 v6 wc => ∃ (kq : Nat) (x5_4 : List Int) (x6_4 : List Int), A0_ (natural_Add.j0 kq x5_4 x6_4 = some r) ∧ A0_ (kq ≤ k) ∧ A0_ (Kd.R (Kd.int .u32) 89 wc w.heap.size (fun k_ => some k_ ≠ (v6 : Value).ownBlock) v5 x5_4) ∧ A0_ (Kd.R (Kd.int .u32) 89 wc w.heap.size (fun k_ => some k_ ≠ (v5 : Value).ownBlock) v6 x6_4) ∧ A0_ (Below w.heap.size w wc))
 case first =>
  have H := HC5.out
  clear HC5
  by_cases c10 : (t296.length : Int) < (t299.length : Int)
  ·rw [if_pos c10] at H
   have c10b0 : decide ((t296.length : Int) < (t299.length : Int)) = true := decide_eq_true c10
   have c10b1 : decide (t296.length < t299.length) = true := decide_eq_true (Int.ofNat_lt.mp c10)
   clear c10
   (first | rw [c10b0] | rw [c10b1] | (simp only [i64_w, i32_w]; rw [c10b0]) | skip)
   have H' := A0_.mk H
   clear H
   go_wp2
   go_meet
   case rel => exact ⟨_, (t299), (t296), H', ⟨by first | omega | exact Nat.le_refl _⟩, ⟨by (with_reducible repeat (first | apply Kd.R_alloc | apply Kd.R_drewN | apply Kd.R_drew)); exact Kd.R_mono HO301.out (fun _ hk => hk.2)⟩, ⟨by (with_reducible repeat (first | apply Kd.R_alloc | apply Kd.R_drewN | apply Kd.R_drew)); exact Kd.R_mono HO298.out (fun _ hk => hk.2)⟩, ⟨by repeat (first | (with_reducible first | exact HB.out | apply bA_ | apply pB_ | apply b1_) | exact HB.out)⟩⟩
  ·rw [if_neg c10] at H
   have c10b0 : decide ((t296.length : Int) < (t299.length : Int)) = false := decide_eq_false c10
   have c10b1 : decide (t296.length < t299.length) = false := decide_eq_false (fun h => c10 (Int.ofNat_lt.mpr h))
   clear c10
   (first | rw [c10b0] | rw [c10b1] | (simp only [i64_w, i32_w]; rw [c10b0]) | skip)
   have H' := A0_.mk H
   clear H
   go_wp2
   go_meet
   case rel => exact ⟨_, (t296), (t299), H', ⟨by first | omega | exact Nat.le_refl _⟩, ⟨by (with_reducible repeat (first | apply Kd.R_alloc | apply Kd.R_drewN | apply Kd.R_drew)); exact Kd.R_mono HO298.out (fun _ hk => hk.2)⟩, ⟨by (with_reducible repeat (first | apply Kd.R_alloc | apply Kd.R_drewN | apply Kd.R_drew)); exact Kd.R_mono HO301.out (fun _ hk => hk.2)⟩, ⟨by repeat (first | (with_reducible first | exact HB.out | apply bA_ | apply pB_ | apply b1_) | exact HB.out)⟩⟩
 case rest =>
  clear HC5
  try clear c1
  try clear p2
  try clear c6
  try clear c10
  try clear c10b0
  try clear c10b1
  obtain ⟨kq, x5_4, x6_4, HA, HJ4, HO_5, HO_6, HB⟩ := hcut
  cases kq with
  | zero => exact absurd HA.out (by simp [natural_Add.j0])
  | succ kj4 =>
   have H := HA.out
   clear HA
   simp only [natural_Add.j0] at H
   obtain ⟨ji11, hji11⟩ : ∃ j_ : Int, (wrap64 ((x5_4.length : Int) + 1)) = j_ := ⟨_, rfl⟩
   replace H : (if 0 ≤ (ji11) then (if (ji11 : Int).toNat ≤ 70368744177664 then (natural_Add.l0 kj4 x5_4 x6_4 (List.replicate (ji11 : Int).toNat 0) 0 (x5_4.length : Int) 0) else (none)) else (none)) = some r := by first | (rw [hji11] at H; exact H) | (simp only [hji11] at H ⊢; exact H)
   have hji11w : (IntKind.i64.wrap ((x5_4.length : Int) + 1)) = ji11 := (i64_w _).trans hji11
   by_cases c12 : 0 ≤ (ji11)
   ·rw [if_pos c12] at H
    have c12b0 := eq_true c12
    have c12b1 : decide (0 ≤ (ji11)) = true := decide_eq_true c12
    clear c12
    by_cases c13 : (ji11 : Int).toNat ≤ 70368744177664
    ·rw [if_pos c13] at H
     have c13b0 := eq_true c13
     have c13b1 : decide ((ji11 : Int).toNat ≤ 70368744177664) = true := decide_eq_true c13
     clear c13
     obtain ⟨y302, hy302⟩ : ∃ y_ : List Int, y_ = (List.replicate (ji11 : Int).toNat 0) := ⟨_, rfl⟩
     replace H : (natural_Add.l0 kj4 x5_4 x6_4 y302 0 (x5_4.length : Int) 0) = some r := by first | (rw [hy302]; with_reducible exact H) | (have H2_ := (Option.bind_some _ _).symm.trans H; rw [hy302]; with_reducible exact H2_) | (have H2_ := (Option.bind_some _ _).symm.trans H; with_reducible exact H2_) | with_reducible exact H | (rw [hy302]; exact H) | exact H
     have Ny302 := A0_.mk hy302
     clear hy302
     have H' := A0_.mk H
     clear H
     obtain ⟨Ao14, co14, eo14⟩ := Kd.R_slice HO_5.out
     subst eo14
     go_wp2_with (first | ((with_reducible refine gD_ (N := 25) rfl ?_); refine Kd.R_make (Kd.int .u32) _ 89 rfl (N := 25) rfl 87 _ _ rfl ji11 rfl rfl Tryd.underlying87 (.int .u32 0) 4 info89 rfl (by decide) (by omega) 0 (ok := fun _ => True) (okp := fun _ => True) rfl (fun _ hk => hk) trivial (of_decide_eq_true (by first | (with_reducible assumption) | assumption)) (Nat.le_trans (Nat.mul_le_mul_right _ (of_decide_eq_true (by first | (with_reducible assumption) | assumption) : ji11.toNat ≤ 70368744177664)) (by omega)) (Below.refl _ _) (Nat.le_refl _) ?_; intro v303 w15 ho16 hb hg_ hnew_; clear hg_ hnew_; (first | rw [← Ny302.out] at ho16 | (simp only [Int.reduceToNat] at ho16; rw [← Ny302.out] at ho16)); have n0_ := A0_.mk (Kd.R_elder' (by (with_reducible repeat (first | apply Kd.R_alloc | apply Kd.R_drewN | apply Kd.R_drew)); exact HO_5.out) (Kd.R_base ho16) hb); have n1_ := A0_.mk (Kd.R_elder' (by (with_reducible repeat (first | apply Kd.R_alloc | apply Kd.R_drewN | apply Kd.R_drew)); exact HO_6.out) (Kd.R_base ho16) hb); have n2_ := A0_.mk (Kd.R_lower (Kd.R_new' (Kd.R_new' ho16 (Kd.R_lt (by (with_reducible repeat (first | apply Kd.R_alloc | apply Kd.R_drewN | apply Kd.R_drew)); exact HO_5.out))) (Kd.R_lt (by (with_reducible repeat (first | apply Kd.R_alloc | apply Kd.R_drewN | apply Kd.R_drew)); exact HO_6.out))) (bZ_ (by repeat (first | (with_reducible first | exact HB.out | apply bA_ | apply pB_ | apply b1_) | exact HB.out)))); have n3_ := A0_.mk (bT_ (by repeat (first | (with_reducible first | exact HB.out | apply bA_ | apply pB_ | apply b1_) | exact HB.out)) hb); clear HO_5; clear HO_6; clear HB; have HO_5 := n0_; have HO_6 := n1_; have HO304 := n2_; have HB := n3_; clear n0_ n1_ n2_ n3_; clear hb ho16))
     go_loopg [8, 28] kj4 (fun kq v8 v28 w' => ∃ (x7_2 : List Int) (x8_2 : Int) (x28_2 : Int), v8 = .int .u32 x8_2 ∧ v28 = .int .i64 x28_2 ∧ A0_ (natural_Add.l0 kq x5_4 x6_4 x7_2 x8_2 (x5_4.length : Int) x28_2 = some r) ∧ A0_ (kq ≤ kj4) ∧ A0_ (Kd.R (Kd.int .u32) 89 w' w.heap.size (fun k_ => some k_ ≠ (u6 : Value).ownBlock ∧ some k_ ≠ (v303 : Value).ownBlock) (.slice Ao14 x5_4.length co14) x5_4) ∧ A0_ (Kd.R (Kd.int .u32) 89 w' w.heap.size (fun k_ => some k_ ≠ ((.slice Ao14 x5_4.length co14) : Value).ownBlock ∧ some k_ ≠ (v303 : Value).ownBlock) u6 x6_4) ∧ A0_ (Kd.R (Kd.int .u32) 89 w' w.heap.size (fun k_ => some k_ ≠ ((.slice Ao14 x5_4.length co14) : Value).ownBlock ∧ some k_ ≠ (u6 : Value).ownBlock) v303 x7_2) ∧ A0_ (Below w.heap.size w w'))
     case atStart => exact ⟨(y302), (0), (0), (by first | rfl | (simp; done) | (simp [*]; done)), (by first | rfl | (simp; done) | (simp [*]; done)), H', ⟨Nat.le_refl _⟩, ⟨by (with_reducible repeat (first | apply Kd.R_alloc | apply Kd.R_drewN | apply Kd.R_drew)); exact HO_5.out⟩, ⟨by (with_reducible repeat (first | apply Kd.R_alloc | apply Kd.R_drewN | apply Kd.R_drew)); exact HO_6.out⟩, ⟨by (with_reducible repeat (first | apply Kd.R_alloc | apply Kd.R_drewN | apply Kd.R_drew)); exact Kd.R_mono HO304.out (fun _ hk => ⟨hk.1.2, hk.2⟩)⟩, ⟨by repeat (first | (with_reducible first | exact HB.out | apply bA_ | apply pB_ | apply b1_) | exact HB.out)⟩⟩
     case round =>
      clear H'
      try clear c1
      try clear p2
      try clear c6
      try clear p6
      try clear c10
      try clear c10b0
      try clear c10b1
      try clear c12
      try clear c12b0
      try clear c12b1
      try clear c13
      try clear c13b0
      try clear c13b1
      try clear p2
      obtain ⟨x7_2, x8_2, x28_2, rfl, rfl, HA, HK2, HO_5, HO_6, HO_7, HB⟩ := hrel
      cases gk with
      | zero => exact absurd HA.out (by simp [natural_Add.l0])
      | succ k2 =>
       have H := HA.out
       clear HA
       simp only [natural_Add.l0] at H
       by_cases c17 : x28_2 < (x5_4.length : Int)
       ·rw [if_pos c17] at H
        have c17b0 : decide (x28_2 < (x5_4.length : Int)) = true := decide_eq_true c17
        clear c17
        by_cases c18 : x28_2 < (x6_4.length : Int)
        ·rw [if_pos c18] at H
         have c18b0 : decide (x28_2 < (x6_4.length : Int)) = true := decide_eq_true c18
         clear c18
         by_cases c19 : 0 ≤ x28_2
         ·rw [if_pos c19] at H
          have c19b0 : decide (0 ≤ x28_2) = true := decide_eq_true c19
          clear c19
          by_cases c20 : x28_2 < (x5_4.length : Int)
          ·rw [if_pos c20] at H
           have c20b0 : decide (x28_2 < (x5_4.length : Int)) = true := decide_eq_true c20
           clear c20
           replace H := Option.bind_eq_some_iff.mp H
           obtain ⟨⟨t307, t308⟩, A210, H⟩ := H
           replace H : (if x28_2 < (x7_2.length : Int) then (natural_Add.l0 k2 x5_4 x6_4 (x7_2.set (x28_2 : Int).toNat t307) t308 (x5_4.length : Int) (wrap64 (x28_2 + 1))) else (none)) = some r := H
           have A21 := A0_.mk A210
           clear A210
           by_cases c22 : x28_2 < (x7_2.length : Int)
           ·rw [if_pos c22] at H
            have c22b0 : decide (x28_2 < (x7_2.length : Int)) = true := decide_eq_true c22
            clear c22
            obtain ⟨y309, hy309⟩ : ∃ y_ : List Int, y_ = (x7_2.set (x28_2 : Int).toNat t307) := ⟨_, rfl⟩
            replace H : (natural_Add.l0 k2 x5_4 x6_4 y309 t308 (x5_4.length : Int) (wrap64 (x28_2 + 1))) = some r := by first | (rw [hy309]; with_reducible exact H) | (have H2_ := (Option.bind_some _ _).symm.trans H; rw [hy309]; with_reducible exact H2_) | (have H2_ := (Option.bind_some _ _).symm.trans H; with_reducible exact H2_) | with_reducible exact H | (rw [hy309]; exact H) | exact H
            have Ny309 := A0_.mk hy309
            clear hy309
            have H' := A0_.mk H
            clear H
            obtain ⟨Ao24, co24, eo24⟩ := Kd.R_slice HO_6.out
            subst eo24
            have p305 : 0 ≤ (x28_2 : Int) := of_decide_eq_true (by first | (with_reducible assumption) | assumption)
            have q305 : x28_2 < (x6_4.length : Int) := of_decide_eq_true (by first | (with_reducible assumption) | assumption)
            obtain ⟨ad305, e305, hx305_0⟩ := Kd.at_int (Kd.R_reads' HO_6.out).2.2 x28_2 p305 q305
            cases e305
            replace p305 := eq_true p305
            replace q305 := eq_true q305
            have p306 : 0 ≤ (x28_2 : Int) := of_decide_eq_true (by first | (with_reducible assumption) | assumption)
            have q306 : x28_2 < (x5_4.length : Int) := of_decide_eq_true (by first | (with_reducible assumption) | assumption)
            obtain ⟨ad306, e306, hx306_0⟩ := Kd.at_int (Kd.R_reads' HO_5.out).2.2 x28_2 p306 q306
            cases e306
            replace p306 := eq_true p306
            replace q306 := eq_true q306
            go_wp2_with (first | ((with_reducible refine gC_ (f := 80) rfl ?_); refine goesL_ (some 48) rfl rfl Tryd.func80 (by kernel_rfl) rfl #[.int .u32 (rd x5_4 x28_2), .int .u32 (rd x6_4 x28_2), .int .u32 x8_2] rfl (by (try simp only [List.map_toArray, List.map_cons, List.map_nil]); first | done | rfl | (simp only [List.length_drop, List.length_take]; rfl)) ?_; (with_reducible refine (bits_Add32.calls (rd x5_4 x28_2) (rd x6_4 x28_2) x8_2 t307 t308 _ A21.out).mono ?_); rintro e w' ⟨rfl, ⟨nd, rfl⟩⟩; refine ⟨_, rfl, ?_⟩; (try (rw [drewN_self wr]; generalize hq_ : World.drewN wr _ = wr; have n0_ : A0_ (Kd.R (Kd.int .u32) 89 wr w.heap.size (fun k_ => some k_ ≠ (.slice (some ad305) x6_4.length co24 : Value).ownBlock ∧ some k_ ≠ (v303 : Value).ownBlock) (.slice (some ad306) x5_4.length co14) x5_4) := ⟨by rw [← hq_]; exact (by (with_reducible repeat (first | apply Kd.R_alloc | apply Kd.R_drewN | apply Kd.R_drew)); exact HO_5.out)⟩; have n1_ : A0_ (Kd.R (Kd.int .u32) 89 wr w.heap.size (fun k_ => some k_ ≠ (.slice (some ad306) x5_4.length co14 : Value).ownBlock ∧ some k_ ≠ (v303 : Value).ownBlock) (.slice (some ad305) x6_4.length co24) x6_4) := ⟨by rw [← hq_]; exact (by (with_reducible repeat (first | apply Kd.R_alloc | apply Kd.R_drewN | apply Kd.R_drew)); exact HO_6.out)⟩; have n2_ : A0_ (Kd.R (Kd.int .u32) 89 wr w.heap.size (fun k_ => some k_ ≠ (.slice (some ad306) x5_4.length co14 : Value).ownBlock ∧ some k_ ≠ (.slice (some ad305) x6_4.length co24 : Value).ownBlock) v303 x7_2) := ⟨by rw [← hq_]; exact (by (with_reducible repeat (first | apply Kd.R_alloc | apply Kd.R_drewN | apply Kd.R_drew)); exact HO_7.out)⟩; have n3_ : A0_ (Below w.heap.size w wr) := ⟨by rw [← hq_]; exact (by repeat (first | (with_reducible first | exact HB.out | apply bA_ | apply pB_ | apply b1_) | exact HB.out))⟩; clear HO_5 HO_6 HO_7 HB hq_; have HO_5 := n0_; have HO_6 := n1_; have HO_7 := n2_; have HB := n3_; clear n0_ n1_ n2_ n3_)); have p23 : 0 ≤ (x28_2 : Int) := of_decide_eq_true (by first | (with_reducible assumption) | assumption); have q23 : (x28_2 : Int) < ((x7_2.length : Int) : Int) := of_decide_eq_true (by first | (with_reducible assumption) | assumption); obtain ⟨go23, co23, eo23, gb23, gl23, cl23, HG23⟩ := Kd.R_form HO_7.out (by omega); (first | cases eo23 | (injection eo23 with ea_ en_ ec_; (first | subst ea_ | (injection ea_ with ea_; subst ea_)); subst ec_; clear en_)); have GB23 := A0_.mk gb23; have GG23 := A0_.mk HG23; clear gb23 gl23 HG23; obtain ⟨hx23_0, hf23_0⟩ := Kd.R_celln 0 HO_7.out (x28_2 : Int) p23 q23; replace p23 := eq_true p23; replace q23 := eq_true q23; obtain ⟨hy25_, hz25_⟩ := Kd.R_celln 0 HO_7.out (x28_2 : Int) (of_decide_eq_true (by first | (with_reducible assumption) | assumption)) (of_decide_eq_true (by first | (with_reducible assumption) | assumption)); have HP25 := Kd.R_putg HO_7.out (x28_2 : Int) t307) | ((with_reducible refine gate_store (t := 89) (p := 51) rfl ?_); refine store_event (t := 89) (p := 51) (v := ?vo_w26) (w1 := (wr.setCell ⟨go23, (x28_2 : Int).toNat, none⟩ (.int .u32 t307))) ?hg ?ho ?hn ?hr ?_; (case ho => rfl); (case hg => rfl); (case hn => rfl); (case hr => first | (go_simp; done) | (go_simp; rfl)); intro w26 hw; have hg : wr.grownBy w26 (some go23) := (by rw [hw]; exact HP25.2); have hp_ : Kd.R (Kd.int .u32) 89 w26 w.heap.size (fun k_ => some k_ ≠ (.slice (some ad306) x5_4.length co14 : Value).ownBlock ∧ some k_ ≠ (.slice (some ad305) x6_4.length co24 : Value).ownBlock) (.slice (some ⟨go23, 0, none⟩) x7_2.length co23) y309 := (by rw [hw, Ny309.out]; exact HP25.1); clear HP25; have n0_ := A0_.mk (Kd.R_after (v := (.slice (some ⟨go23, 0, none⟩) x7_2.length co23)) (v1 := (.slice (some ⟨go23, 0, none⟩) x7_2.length co23)) (ok := (fun k_ => some k_ ≠ (.slice (some ad305) x6_4.length co24 : Value).ownBlock)) (by (with_reducible repeat (first | apply Kd.R_alloc | apply Kd.R_drewN | apply Kd.R_drew)); exact HO_5.out) hg (.inl rfl)); have n1_ := A0_.mk (Kd.R_after (v := (.slice (some ⟨go23, 0, none⟩) x7_2.length co23)) (v1 := (.slice (some ⟨go23, 0, none⟩) x7_2.length co23)) (ok := (fun k_ => some k_ ≠ (.slice (some ad306) x5_4.length co14 : Value).ownBlock)) (by (with_reducible repeat (first | apply Kd.R_alloc | apply Kd.R_drewN | apply Kd.R_drew)); exact HO_6.out) hg (.inl rfl)); have n2_ := A0_.mk (hp_); have n3_ := A0_.mk ((by rw [hw]; exact bS_ (HB.out) GB23.out : Below w.heap.size w w26)); clear HO_5; clear HO_6; clear HO_7; clear HB; have HO_5 := n0_; have HO_6 := n1_; have HO_7 := n2_; have HB := n3_; clear n0_ n1_ n2_ n3_; clear hg hw hp_))
            (try simp only [add_plain])
            go_roundg k2
            case measure => have := HJ4.out; have := HK2.out; omega
            case rel => exact ⟨(y309), (t308), (wrap64 (x28_2 + 1)), (by first | rfl | (simp; done) | (simp [*]; done)), (by first | rfl | (simp; done) | (simp [*]; done)), H', ⟨by have := HJ4.out; have := HK2.out; omega⟩, ⟨by (with_reducible repeat (first | apply Kd.R_alloc | apply Kd.R_drewN | apply Kd.R_drew)); exact HO_5.out⟩, ⟨by (with_reducible repeat (first | apply Kd.R_alloc | apply Kd.R_drewN | apply Kd.R_drew)); exact HO_6.out⟩, ⟨by (with_reducible repeat (first | apply Kd.R_alloc | apply Kd.R_drewN | apply Kd.R_drew)); exact HO_7.out⟩, ⟨by repeat (first | (with_reducible first | exact HB.out | apply bA_ | apply pB_ | apply b1_) | exact HB.out)⟩⟩
           ·rw [if_neg c22] at H
            exact absurd H (by simp)
          ·rw [if_neg c20] at H
           exact absurd H (by simp)
         ·rw [if_neg c19] at H
          exact absurd H (by simp)
        ·rw [if_neg c18] at H
         have c18b0 : decide (x28_2 < (x6_4.length : Int)) = false := decide_eq_false c18
         clear c18
         by_cases c27 : 0 ≤ x28_2
         ·rw [if_pos c27] at H
          have c27b0 : decide (0 ≤ x28_2) = true := decide_eq_true c27
          clear c27
          by_cases c28 : x28_2 < (x5_4.length : Int)
          ·rw [if_pos c28] at H
           have c28b0 : decide (x28_2 < (x5_4.length : Int)) = true := decide_eq_true c28
           clear c28
           replace H := Option.bind_eq_some_iff.mp H
           obtain ⟨⟨t311, t312⟩, A290, H⟩ := H
           replace H : (if x28_2 < (x7_2.length : Int) then (natural_Add.l0 k2 x5_4 x6_4 (x7_2.set (x28_2 : Int).toNat t311) t312 (x5_4.length : Int) (wrap64 (x28_2 + 1))) else (none)) = some r := H
           have A29 := A0_.mk A290
           clear A290
           by_cases c30 : x28_2 < (x7_2.length : Int)
           ·rw [if_pos c30] at H
            have c30b0 : decide (x28_2 < (x7_2.length : Int)) = true := decide_eq_true c30
            clear c30
            obtain ⟨y313, hy313⟩ : ∃ y_ : List Int, y_ = (x7_2.set (x28_2 : Int).toNat t311) := ⟨_, rfl⟩
            replace H : (natural_Add.l0 k2 x5_4 x6_4 y313 t312 (x5_4.length : Int) (wrap64 (x28_2 + 1))) = some r := by first | (rw [hy313]; with_reducible exact H) | (have H2_ := (Option.bind_some _ _).symm.trans H; rw [hy313]; with_reducible exact H2_) | (have H2_ := (Option.bind_some _ _).symm.trans H; with_reducible exact H2_) | with_reducible exact H | (rw [hy313]; exact H) | exact H
            have Ny313 := A0_.mk hy313
            clear hy313
            have H' := A0_.mk H
            clear H
            obtain ⟨Ao32, co32, eo32⟩ := Kd.R_slice HO_6.out
            subst eo32
            have p310 : 0 ≤ (x28_2 : Int) := of_decide_eq_true (by first | (with_reducible assumption) | assumption)
            have q310 : x28_2 < (x5_4.length : Int) := of_decide_eq_true (by first | (with_reducible assumption) | assumption)
            obtain ⟨ad310, e310, hx310_0⟩ := Kd.at_int (Kd.R_reads' HO_5.out).2.2 x28_2 p310 q310
            cases e310
            replace p310 := eq_true p310
            replace q310 := eq_true q310
            go_wp2_with (first | ((with_reducible refine gC_ (f := 80) rfl ?_); refine goesL_ (some 48) rfl rfl Tryd.func80 (by kernel_rfl) rfl #[.int .u32 (rd x5_4 x28_2), .int .u32 0, .int .u32 x8_2] rfl (by (try simp only [List.map_toArray, List.map_cons, List.map_nil]); first | done | rfl | (simp only [List.length_drop, List.length_take]; rfl)) ?_; (with_reducible refine (bits_Add32.calls (rd x5_4 x28_2) 0 x8_2 t311 t312 _ A29.out).mono ?_); rintro e w' ⟨rfl, ⟨nd, rfl⟩⟩; refine ⟨_, rfl, ?_⟩; (try (rw [drewN_self wr]; generalize hq_ : World.drewN wr _ = wr; have n0_ : A0_ (Kd.R (Kd.int .u32) 89 wr w.heap.size (fun k_ => some k_ ≠ (.slice Ao32 x6_4.length co32 : Value).ownBlock ∧ some k_ ≠ (v303 : Value).ownBlock) (.slice (some ad310) x5_4.length co14) x5_4) := ⟨by rw [← hq_]; exact (by (with_reducible repeat (first | apply Kd.R_alloc | apply Kd.R_drewN | apply Kd.R_drew)); exact HO_5.out)⟩; have n1_ : A0_ (Kd.R (Kd.int .u32) 89 wr w.heap.size (fun k_ => some k_ ≠ (.slice (some ad310) x5_4.length co14 : Value).ownBlock ∧ some k_ ≠ (v303 : Value).ownBlock) (.slice Ao32 x6_4.length co32) x6_4) := ⟨by rw [← hq_]; exact (by (with_reducible repeat (first | apply Kd.R_alloc | apply Kd.R_drewN | apply Kd.R_drew)); exact HO_6.out)⟩; have n2_ : A0_ (Kd.R (Kd.int .u32) 89 wr w.heap.size (fun k_ => some k_ ≠ (.slice (some ad310) x5_4.length co14 : Value).ownBlock ∧ some k_ ≠ (.slice Ao32 x6_4.length co32 : Value).ownBlock) v303 x7_2) := ⟨by rw [← hq_]; exact (by (with_reducible repeat (first | apply Kd.R_alloc | apply Kd.R_drewN | apply Kd.R_drew)); exact HO_7.out)⟩; have n3_ : A0_ (Below w.heap.size w wr) := ⟨by rw [← hq_]; exact (by repeat (first | (with_reducible first | exact HB.out | apply bA_ | apply pB_ | apply b1_) | exact HB.out))⟩; clear HO_5 HO_6 HO_7 HB hq_; have HO_5 := n0_; have HO_6 := n1_; have HO_7 := n2_; have HB := n3_; clear n0_ n1_ n2_ n3_)); have p31 : 0 ≤ (x28_2 : Int) := of_decide_eq_true (by first | (with_reducible assumption) | assumption); have q31 : (x28_2 : Int) < ((x7_2.length : Int) : Int) := of_decide_eq_true (by first | (with_reducible assumption) | assumption); obtain ⟨go31, co31, eo31, gb31, gl31, cl31, HG31⟩ := Kd.R_form HO_7.out (by omega); (first | cases eo31 | (injection eo31 with ea_ en_ ec_; (first | subst ea_ | (injection ea_ with ea_; subst ea_)); subst ec_; clear en_)); have GB31 := A0_.mk gb31; have GG31 := A0_.mk HG31; clear gb31 gl31 HG31; obtain ⟨hx31_0, hf31_0⟩ := Kd.R_celln 0 HO_7.out (x28_2 : Int) p31 q31; replace p31 := eq_true p31; replace q31 := eq_true q31; obtain ⟨hy33_, hz33_⟩ := Kd.R_celln 0 HO_7.out (x28_2 : Int) (of_decide_eq_true (by first | (with_reducible assumption) | assumption)) (of_decide_eq_true (by first | (with_reducible assumption) | assumption)); have HP33 := Kd.R_putg HO_7.out (x28_2 : Int) t311) | ((with_reducible refine gate_store (t := 89) (p := 51) rfl ?_); refine store_event (t := 89) (p := 51) (v := ?vo_w34) (w1 := (wr.setCell ⟨go31, (x28_2 : Int).toNat, none⟩ (.int .u32 t311))) ?hg ?ho ?hn ?hr ?_; (case ho => rfl); (case hg => rfl); (case hn => rfl); (case hr => first | (go_simp; done) | (go_simp; rfl)); intro w34 hw; have hg : wr.grownBy w34 (some go31) := (by rw [hw]; exact HP33.2); have hp_ : Kd.R (Kd.int .u32) 89 w34 w.heap.size (fun k_ => some k_ ≠ (.slice (some ad310) x5_4.length co14 : Value).ownBlock ∧ some k_ ≠ (.slice Ao32 x6_4.length co32 : Value).ownBlock) (.slice (some ⟨go31, 0, none⟩) x7_2.length co31) y313 := (by rw [hw, Ny313.out]; exact HP33.1); clear HP33; have n0_ := A0_.mk (Kd.R_after (v := (.slice (some ⟨go31, 0, none⟩) x7_2.length co31)) (v1 := (.slice (some ⟨go31, 0, none⟩) x7_2.length co31)) (ok := (fun k_ => some k_ ≠ (.slice Ao32 x6_4.length co32 : Value).ownBlock)) (by (with_reducible repeat (first | apply Kd.R_alloc | apply Kd.R_drewN | apply Kd.R_drew)); exact HO_5.out) hg (.inl rfl)); have n1_ := A0_.mk (Kd.R_after (v := (.slice (some ⟨go31, 0, none⟩) x7_2.length co31)) (v1 := (.slice (some ⟨go31, 0, none⟩) x7_2.length co31)) (ok := (fun k_ => some k_ ≠ (.slice (some ad310) x5_4.length co14 : Value).ownBlock)) (by (with_reducible repeat (first | apply Kd.R_alloc | apply Kd.R_drewN | apply Kd.R_drew)); exact HO_6.out) hg (.inl rfl)); have n2_ := A0_.mk (hp_); have n3_ := A0_.mk ((by rw [hw]; exact bS_ (HB.out) GB31.out : Below w.heap.size w w34)); clear HO_5; clear HO_6; clear HO_7; clear HB; have HO_5 := n0_; have HO_6 := n1_; have HO_7 := n2_; have HB := n3_; clear n0_ n1_ n2_ n3_; clear hg hw hp_))
            (try simp only [add_plain])
            go_roundg k2
            case measure => have := HJ4.out; have := HK2.out; omega
            case rel => exact ⟨(y313), (t312), (wrap64 (x28_2 + 1)), (by first | rfl | (simp; done) | (simp [*]; done)), (by first | rfl | (simp; done) | (simp [*]; done)), H', ⟨by have := HJ4.out; have := HK2.out; omega⟩, ⟨by (with_reducible repeat (first | apply Kd.R_alloc | apply Kd.R_drewN | apply Kd.R_drew)); exact HO_5.out⟩, ⟨by (with_reducible repeat (first | apply Kd.R_alloc | apply Kd.R_drewN | apply Kd.R_drew)); exact HO_6.out⟩, ⟨by (with_reducible repeat (first | apply Kd.R_alloc | apply Kd.R_drewN | apply Kd.R_drew)); exact HO_7.out⟩, ⟨by repeat (first | (with_reducible first | exact HB.out | apply bA_ | apply pB_ | apply b1_) | exact HB.out)⟩⟩
           ·rw [if_neg c30] at H
            exact absurd H (by simp)
          ·rw [if_neg c28] at H
           exact absurd H (by simp)
         ·rw [if_neg c27] at H
          exact absurd H (by simp)
       ·rw [if_neg c17] at H
        have c17b0 : decide (x28_2 < (x5_4.length : Int)) = false := decide_eq_false c17
        clear c17
        by_cases c35 : 0 ≤ (x5_4.length : Int)
        ·rw [if_pos c35] at H
         have c35b0 : decide (0 ≤ (x5_4.length : Int)) = true := decide_eq_true c35
         have c35b1 : decide (0 ≤ x5_4.length) = true := decide_eq_true (by omega)
         clear c35
         by_cases c36 : (x5_4.length : Int) < (x7_2.length : Int)
         ·rw [if_pos c36] at H
          have c36b0 : decide ((x5_4.length : Int) < (x7_2.length : Int)) = true := decide_eq_true c36
          have c36b1 : decide (x5_4.length < x7_2.length) = true := decide_eq_true (Int.ofNat_lt.mp c36)
          clear c36
          obtain ⟨y314, hy314⟩ : ∃ y_ : List Int, y_ = (x7_2.set ((x5_4.length : Int) : Int).toNat x8_2) := ⟨_, rfl⟩
          replace H : ((natural_limbs_text.f k2 y314).bind fun t315 => (some t315)) = some r := by first | (rw [hy314]; with_reducible exact H) | (have H2_ := (Option.bind_some _ _).symm.trans H; rw [hy314]; with_reducible exact H2_) | (have H2_ := (Option.bind_some _ _).symm.trans H; with_reducible exact H2_) | with_reducible exact H | (rw [hy314]; exact H) | exact H
          have Ny314 := A0_.mk hy314
          clear hy314
          replace H := Option.bind_eq_some_iff.mp H
          obtain ⟨t315, A380, H⟩ := H
          replace H : (some t315) = some r := H
          have A38 := A0_.mk A380
          clear A380
          obtain rfl := Option.some.inj H
          have p37 : 0 ≤ ((x5_4.length : Int) : Int) := of_decide_eq_true (by first | (with_reducible assumption) | assumption)
          have q37 : ((x5_4.length : Int) : Int) < ((x7_2.length : Int) : Int) := of_decide_eq_true (by first | (with_reducible assumption) | assumption)
          obtain ⟨go37, co37, eo37, gb37, gl37, cl37, HG37⟩ := Kd.R_form HO_7.out (by omega)
          (first | cases eo37 | (injection eo37 with ea_ en_ ec_; (first | subst ea_ | (injection ea_ with ea_; subst ea_)); subst ec_; clear en_))
          have GB37 := A0_.mk gb37
          have GG37 := A0_.mk HG37
          clear gb37 gl37 HG37
          obtain ⟨hx37_0, hf37_0⟩ := Kd.R_celln 0 HO_7.out ((x5_4.length : Int) : Int) p37 q37
          (try simp only [Int.toNat_natCast] at hx37_0 hf37_0)
          replace p37 := eq_true p37
          replace q37 := eq_true q37
          have HP39 := Kd.R_putg HO_7.out ((x5_4.length : Int) : Int) x8_2
          go_wp2_with (first | ((with_reducible refine gate_store (t := 89) (p := 57) rfl ?_); refine store_event (t := 89) (p := 57) (v := ?vo_w40) (w1 := (wr.setCell ⟨go37, ((x5_4.length : Int) : Int).toNat, none⟩ (.int .u32 x8_2))) ?hg ?ho ?hn ?hr ?_; (case ho => rfl); (case hg => rfl); (case hn => rfl); (case hr => first | (go_simp; done) | (go_simp; rfl)); intro w40 hw; have hg : wr.grownBy w40 (some go37) := (by rw [hw]; exact HP39.2); have hp_ : Kd.R (Kd.int .u32) 89 w40 w.heap.size (fun k_ => some k_ ≠ (.slice Ao14 x5_4.length co14 : Value).ownBlock ∧ some k_ ≠ (u6 : Value).ownBlock) (.slice (some ⟨go37, 0, none⟩) x7_2.length co37) y314 := (by rw [hw, Ny314.out]; exact HP39.1); clear HP39; have n0_ := A0_.mk (Kd.R_after (v := (.slice (some ⟨go37, 0, none⟩) x7_2.length co37)) (v1 := (.slice (some ⟨go37, 0, none⟩) x7_2.length co37)) (ok := (fun k_ => some k_ ≠ (u6 : Value).ownBlock)) (by (with_reducible repeat (first | apply Kd.R_alloc | apply Kd.R_drewN | apply Kd.R_drew)); exact HO_5.out) hg (.inl rfl)); have n1_ := A0_.mk (Kd.R_after (v := (.slice (some ⟨go37, 0, none⟩) x7_2.length co37)) (v1 := (.slice (some ⟨go37, 0, none⟩) x7_2.length co37)) (ok := (fun k_ => some k_ ≠ (.slice Ao14 x5_4.length co14 : Value).ownBlock)) (by (with_reducible repeat (first | apply Kd.R_alloc | apply Kd.R_drewN | apply Kd.R_drew)); exact HO_6.out) hg (.inl rfl)); have n2_ := A0_.mk (hp_); have n3_ := A0_.mk ((by rw [hw]; exact bS_ (HB.out) GB37.out : Below w.heap.size w w40)); clear HO_5; clear HO_6; clear HO_7; clear HB; have HO_5 := n0_; have HO_6 := n1_; have HO_7 := n2_; have HB := n3_; clear n0_ n1_ n2_ n3_; clear hg hw hp_) | ((with_reducible refine gC_ (f := 65) rfl ?_); refine goesL_ (some 59) rfl rfl Tryd.func65 (by kernel_rfl) rfl #[.slice (some ⟨go37, 0, none⟩) y314.length co37] rfl (by (try simp only [List.map_toArray, List.map_cons, List.map_nil]); first | done | (rw [show y314.length = x7_2.length from (Kd.R_reads' HO_7.out).1.symm] <;> rfl) | rfl | (simp only [List.length_drop, List.length_take]; rfl)) ?_; (with_reducible refine (natural_limbs_text.calls k2 _ _ y314 t315 _ ?side1 ?side2 A38.out).mono ?_); (case side1 => repeat (first | exact (Kd.R_reads' HO_7.out).2.2 | (with_reducible refine Kd.C_alloc ?_ _) | (with_reducible refine Kd.C_drewN ?_ _) | (with_reducible refine Kd.C_drew ?_))); (case side2 => rw [show y314.length = x7_2.length from (Kd.R_reads' HO_7.out).1.symm]; exact (Kd.R_reads' HO_7.out).2.1); rintro e w41 ⟨rfl, hb⟩; refine ⟨_, rfl, ?_⟩; have n0_ := A0_.mk (Kd.R_below (by (with_reducible repeat (first | apply Kd.R_alloc | apply Kd.R_drewN | apply Kd.R_drew)); exact HO_5.out) hb); have n1_ := A0_.mk (Kd.R_below (by (with_reducible repeat (first | apply Kd.R_alloc | apply Kd.R_drewN | apply Kd.R_drew)); exact HO_6.out) hb); have n2_ := A0_.mk (Kd.R_below (by (with_reducible repeat (first | apply Kd.R_alloc | apply Kd.R_drewN | apply Kd.R_drew)); exact HO_7.out) hb); have n3_ := A0_.mk (bT_ (by repeat (first | (with_reducible first | exact HB.out | apply bA_ | apply pB_ | apply b1_) | exact HB.out)) hb); clear HO_5; clear HO_6; clear HO_7; clear HB; have HO_5 := n0_; have HO_6 := n1_; have HO_7 := n2_; have HB := n3_; clear n0_ n1_ n2_ n3_; (try clear hb); (try clear hb2); (try clear hk); (try clear hi)))
          go_ret
          exact ⟨by first | rfl | (simp [errW_none, errW_some] <;> rfl) | (simp only [← hji11]; first | rfl | (simp [errW_none, errW_some] <;> rfl)) | (simp [*, errW_none, errW_some] <;> rfl), by repeat (first | (with_reducible first | exact HB.out | apply bA_ | apply pB_ | apply b1_) | exact HB.out)⟩
         ·rw [if_neg c36] at H
          exact absurd H (by simp)
        ·rw [if_neg c35] at H
         exact absurd H (by simp)
    ·rw [if_neg c13] at H
     exact absurd H (by simp)
   ·rw [if_neg c12] at H
    exact absurd H (by simp)
def natural_subtract.l0 : Nat → List Int → List Int → List Int → Int → Int → Int → Option (List Int)
 | 0, _, _, _, _, _, _ => none
 | k + 1, x0, x1, x5, x6, x13, x14 => if x14 < x13 then (if x14 < (x1.length : Int) then (if 0 ≤ x14 then (if x14 < (x0.length : Int) then ((bits_Sub32.f (rd x0 x14) (rd x1 x14) x6).bind fun bt321 => (if x14 < (x5.length : Int) then (natural_subtract.l0 k x0 x1 (x5.set (x14 : Int).toNat bt321.1) bt321.2 x13 (wrap64 (x14 + 1))) else (none))) else (none)) else (none)) else (if 0 ≤ x14 then (if x14 < (x0.length : Int) then ((bits_Sub32.f (rd x0 x14) 0 x6).bind fun bt325 => (if x14 < (x5.length : Int) then (natural_subtract.l0 k x0 x1 (x5.set (x14 : Int).toNat bt325.1) bt325.2 x13 (wrap64 (x14 + 1))) else (none))) else (none)) else (none))) else ((natural_limbs_trim.f k x5).bind fun t328 => (some t328))
def natural_subtract.f (k : Nat) (l0 : List Int) (l1 : List Int) : Option (List Int) := if 0 ≤ (l0.length : Int) then (if ((l0.length : Int) : Int).toNat ≤ 70368744177664 then (natural_subtract.l0 k l0 l1 (List.replicate ((l0.length : Int) : Int).toNat 0) 0 (l0.length : Int) 0) else (none)) else (none)
theorem natural_subtract.mono_l : ∀ k, (∀ y0 y1 y2 y3 y4 y5, LeO (natural_subtract.l0 k y0 y1 y2 y3 y4 y5) (natural_subtract.l0 (k + 1) y0 y1 y2 y3 y4 y5))
 | 0 => fun _ _ _ _ _ _ r h => by simp [natural_subtract.l0] at h
 | k + 1 => by
  have ih0 := natural_subtract.mono_l k
  ·intro y0 y1 y2 y3 y4 y5
   unfold natural_subtract.l0
   repeat' first
   | (with_reducible exact ih0 _ _ _ _ _ _)
   | (with_reducible exact natural_limbs_trim.mono _ _)
   | (with_reducible exact LeO.refl _)
   | (with_reducible exact LeO.none _)
   | (with_reducible refine LeO.ite ?_ ?_)
   | (with_reducible refine LeO.bind ?_ (fun _ => ?_))
   | exact ih0 _ _ _ _ _ _
   | exact natural_limbs_trim.mono _ _
   | exact LeO.none _
   | refine LeO.ite ?_ ?_
   | refine LeO.bind ?_ (fun _ => ?_)
theorem natural_subtract.mono : ∀ a0 a1 k, LeO (natural_subtract.f k a0 a1) (natural_subtract.f (k + 1) a0 a1) := by
 intro a0 a1 k
 have ih0 := natural_subtract.mono_l k
 unfold natural_subtract.f
 repeat' first
   | (with_reducible exact ih0 _ _ _ _ _ _)
   | (with_reducible exact natural_limbs_trim.mono _ _)
   | (with_reducible exact LeO.refl _)
   | (with_reducible exact LeO.none _)
   | (with_reducible refine LeO.ite ?_ ?_)
   | (with_reducible refine LeO.bind ?_ (fun _ => ?_))
   | exact ih0 _ _ _ _ _ _
   | exact natural_limbs_trim.mono _ _
   | exact LeO.none _
   | refine LeO.ite ?_ ?_
   | refine LeO.bind ?_ (fun _ => ?_)
set_option maxHeartbeats 8000000 in
set_option maxRecDepth 100000 in
theorem natural_subtract.calls (k : Nat) (A0 : Option Addr) (c0 : Nat) (l0 : List Int) (A1 : Option Addr) (c1 : Nat) (l1 : List Int) (r : List Int) (w : World) (hr0 : Kd.C (Kd.int .u32) w A0 l0.length l0) (hc0 : l0.length ≤ c0) (hr1 : Kd.C (Kd.int .u32) w A1 l1.length l1) (hc1 : l1.length ≤ c1) (h : natural_subtract.f k l0 l1 = some r) :
  Calls Tryd.prog 82 #[.slice A0 l0.length c0, .slice A1 l1.length c1] w fun e w' => ∃ v0_ : Value, e = .returned (v0_) ∧ Kd.R (Kd.int .u32) 89 w' w.heap.size (fun _ => True) v0_ r ∧ Below w.heap.size w w' := by
 have HR0 := A0_.mk hr0
 have HC0 := A0_.mk hc0
 clear hr0 hc0
 have HR1 := A0_.mk hr1
 have HC1 := A0_.mk hc1
 clear hr1 hc1
 have HB := A0_.mk (Below.refl w.heap.size w)
 have H : (if 0 ≤ (l0.length : Int) then (if ((l0.length : Int) : Int).toNat ≤ 70368744177664 then (natural_subtract.l0 k l0 l1 (List.replicate ((l0.length : Int) : Int).toNat 0) 0 (l0.length : Int) 0) else (none)) else (none)) = some r := h
 clear h
 by_cases c3 : 0 ≤ (l0.length : Int)
 ·rw [if_pos c3] at H
  have c3b0 := eq_true c3
  have c3b1 : decide (0 ≤ (l0.length : Int)) = true := decide_eq_true c3
  clear c3
  by_cases c4 : ((l0.length : Int) : Int).toNat ≤ 70368744177664
  ·rw [if_pos c4] at H
   have c4b0 := eq_true c4
   have c4b1 : decide (((l0.length : Int) : Int).toNat ≤ 70368744177664) = true := decide_eq_true c4
   clear c4
   obtain ⟨y316, hy316⟩ : ∃ y_ : List Int, y_ = (List.replicate ((l0.length : Int) : Int).toNat 0) := ⟨_, rfl⟩
   replace H : (natural_subtract.l0 k l0 l1 y316 0 (l0.length : Int) 0) = some r := by first | (rw [hy316]; with_reducible exact H) | (have H2_ := (Option.bind_some _ _).symm.trans H; rw [hy316]; with_reducible exact H2_) | (have H2_ := (Option.bind_some _ _).symm.trans H; with_reducible exact H2_) | with_reducible exact H | (rw [hy316]; exact H) | exact H
   have Ny316 := A0_.mk hy316
   clear hy316
   have H' := A0_.mk H
   clear H
   go_enter Tryd.func82, Tryd.ntmps82
   go_wp2_with (first | ((with_reducible refine gD_ (N := 11) rfl ?_); refine Kd.R_make (Kd.int .u32) _ 89 rfl (N := 11) rfl 87 _ _ rfl (l0.length : Int) rfl rfl Tryd.underlying87 (.int .u32 0) 4 info89 rfl (by decide) (by omega) 0 (ok := fun _ => True) (okp := fun _ => True) rfl (fun _ hk => hk) trivial (of_decide_eq_true (by first | (with_reducible assumption) | assumption)) (Nat.le_trans (Nat.mul_le_mul_right _ (of_decide_eq_true (by first | (with_reducible assumption) | assumption) : (l0.length : Int).toNat ≤ 70368744177664)) (by omega)) (Below.refl _ _) (Nat.le_refl _) ?_; intro v317 w5 ho6 hb hg_ hnew_; clear hg_ hnew_; (first | rw [← Ny316.out] at ho6 | (simp only [Int.reduceToNat] at ho6; rw [← Ny316.out] at ho6)); have n0_ := A0_.mk (Kd.R_lower ho6 (bZ_ (by repeat (first | (with_reducible first | exact HB.out | apply bA_ | apply pB_ | apply b1_) | exact HB.out)))); have n1_ := A0_.mk (bT_ (by repeat (first | (with_reducible first | exact HB.out | apply bA_ | apply pB_ | apply b1_) | exact HB.out)) hb); clear HB; have HO318 := n0_; have HB := n1_; clear n0_ n1_; clear hb ho6))
   go_loopg [6, 14] k (fun kq v6 v14 w' => ∃ (x5_1 : List Int) (x6_1 : Int) (x14_1 : Int), v6 = .int .u32 x6_1 ∧ v14 = .int .i64 x14_1 ∧ A0_ (natural_subtract.l0 kq l0 l1 x5_1 x6_1 (l0.length : Int) x14_1 = some r) ∧ A0_ (kq ≤ k) ∧ A0_ (Kd.R (Kd.int .u32) 89 w' w.heap.size (fun _ => True) v317 x5_1) ∧ A0_ (Below w.heap.size w w'))
   case atStart => exact ⟨(y316), (0), (0), (by first | rfl | (simp; done) | (simp [*]; done)), (by first | rfl | (simp; done) | (simp [*]; done)), H', ⟨Nat.le_refl _⟩, ⟨by (with_reducible repeat (first | apply Kd.R_alloc | apply Kd.R_drewN | apply Kd.R_drew)); exact HO318.out⟩, ⟨by repeat (first | (with_reducible first | exact HB.out | apply bA_ | apply pB_ | apply b1_) | exact HB.out)⟩⟩
   case round =>
    clear H'
    try clear c1
    try clear p2
    try clear c3
    try clear c3b0
    try clear c3b1
    try clear c4
    try clear c4b0
    try clear c4b1
    obtain ⟨x5_1, x6_1, x14_1, rfl, rfl, HA, HK1, HO_5, HB⟩ := hrel
    cases gk with
    | zero => exact absurd HA.out (by simp [natural_subtract.l0])
    | succ k1 =>
     have H := HA.out
     clear HA
     simp only [natural_subtract.l0] at H
     by_cases c7 : x14_1 < (l0.length : Int)
     ·rw [if_pos c7] at H
      have c7b0 : decide (x14_1 < (l0.length : Int)) = true := decide_eq_true c7
      clear c7
      by_cases c8 : x14_1 < (l1.length : Int)
      ·rw [if_pos c8] at H
       have c8b0 : decide (x14_1 < (l1.length : Int)) = true := decide_eq_true c8
       clear c8
       by_cases c9 : 0 ≤ x14_1
       ·rw [if_pos c9] at H
        have c9b0 : decide (0 ≤ x14_1) = true := decide_eq_true c9
        clear c9
        by_cases c10 : x14_1 < (l0.length : Int)
        ·rw [if_pos c10] at H
         have c10b0 : decide (x14_1 < (l0.length : Int)) = true := decide_eq_true c10
         clear c10
         replace H := Option.bind_eq_some_iff.mp H
         obtain ⟨⟨t321, t322⟩, A110, H⟩ := H
         replace H : (if x14_1 < (x5_1.length : Int) then (natural_subtract.l0 k1 l0 l1 (x5_1.set (x14_1 : Int).toNat t321) t322 (l0.length : Int) (wrap64 (x14_1 + 1))) else (none)) = some r := H
         have A11 := A0_.mk A110
         clear A110
         by_cases c12 : x14_1 < (x5_1.length : Int)
         ·rw [if_pos c12] at H
          have c12b0 : decide (x14_1 < (x5_1.length : Int)) = true := decide_eq_true c12
          clear c12
          obtain ⟨y323, hy323⟩ : ∃ y_ : List Int, y_ = (x5_1.set (x14_1 : Int).toNat t321) := ⟨_, rfl⟩
          replace H : (natural_subtract.l0 k1 l0 l1 y323 t322 (l0.length : Int) (wrap64 (x14_1 + 1))) = some r := by first | (rw [hy323]; with_reducible exact H) | (have H2_ := (Option.bind_some _ _).symm.trans H; rw [hy323]; with_reducible exact H2_) | (have H2_ := (Option.bind_some _ _).symm.trans H; with_reducible exact H2_) | with_reducible exact H | (rw [hy323]; exact H) | exact H
          have Ny323 := A0_.mk hy323
          clear hy323
          have H' := A0_.mk H
          clear H
          have p319 : 0 ≤ (x14_1 : Int) := of_decide_eq_true (by first | (with_reducible assumption) | assumption)
          have q319 : x14_1 < (l1.length : Int) := of_decide_eq_true (by first | (with_reducible assumption) | assumption)
          obtain ⟨ad319, e319, hx319_0⟩ := Kd.at_int HR1.out x14_1 p319 q319
          cases e319
          (try replace hx319_0 := (HB.out.cell (World.block_lt_of_cell? w _ hx319_0)).trans hx319_0)
          replace p319 := eq_true p319
          replace q319 := eq_true q319
          have p320 : 0 ≤ (x14_1 : Int) := of_decide_eq_true (by first | (with_reducible assumption) | assumption)
          have q320 : x14_1 < (l0.length : Int) := of_decide_eq_true (by first | (with_reducible assumption) | assumption)
          obtain ⟨ad320, e320, hx320_0⟩ := Kd.at_int HR0.out x14_1 p320 q320
          cases e320
          (try replace hx320_0 := (HB.out.cell (World.block_lt_of_cell? w _ hx320_0)).trans hx320_0)
          replace p320 := eq_true p320
          replace q320 := eq_true q320
          go_wp2_with (first | ((with_reducible refine gC_ (f := 101) rfl ?_); refine goesL_ (some 34) rfl rfl Tryd.func101 (by kernel_rfl) rfl #[.int .u32 (rd l0 x14_1), .int .u32 (rd l1 x14_1), .int .u32 x6_1] rfl (by (try simp only [List.map_toArray, List.map_cons, List.map_nil]); first | done | rfl | (simp only [List.length_drop, List.length_take]; rfl)) ?_; (with_reducible refine (bits_Sub32.calls (rd l0 x14_1) (rd l1 x14_1) x6_1 t321 t322 _ A11.out).mono ?_); rintro e w' ⟨rfl, ⟨nd, rfl⟩⟩; refine ⟨_, rfl, ?_⟩; (try (rw [drewN_self wr]; generalize hq_ : World.drewN wr _ = wr; have n0_ : A0_ (Kd.R (Kd.int .u32) 89 wr w.heap.size (fun _ => True) v317 x5_1) := ⟨by rw [← hq_]; exact (by (with_reducible repeat (first | apply Kd.R_alloc | apply Kd.R_drewN | apply Kd.R_drew)); exact HO_5.out)⟩; have n1_ : A0_ (Below w.heap.size w wr) := ⟨by rw [← hq_]; exact (by repeat (first | (with_reducible first | exact HB.out | apply bA_ | apply pB_ | apply b1_) | exact HB.out))⟩; clear HO_5 HB hq_; have HO_5 := n0_; have HB := n1_; clear n0_ n1_)); have p13 : 0 ≤ (x14_1 : Int) := of_decide_eq_true (by first | (with_reducible assumption) | assumption); have q13 : (x14_1 : Int) < ((x5_1.length : Int) : Int) := of_decide_eq_true (by first | (with_reducible assumption) | assumption); obtain ⟨go13, co13, eo13, gb13, gl13, cl13, HG13⟩ := Kd.R_form HO_5.out (by omega); (first | cases eo13 | (injection eo13 with ea_ en_ ec_; (first | subst ea_ | (injection ea_ with ea_; subst ea_)); subst ec_; clear en_)); have GB13 := A0_.mk gb13; have GG13 := A0_.mk HG13; clear gb13 gl13 HG13; obtain ⟨hx13_0, hf13_0⟩ := Kd.R_celln 0 HO_5.out (x14_1 : Int) p13 q13; replace p13 := eq_true p13; replace q13 := eq_true q13; obtain ⟨hy14_, hz14_⟩ := Kd.R_celln 0 HO_5.out (x14_1 : Int) (of_decide_eq_true (by first | (with_reducible assumption) | assumption)) (of_decide_eq_true (by first | (with_reducible assumption) | assumption)); have HP14 := Kd.R_putg HO_5.out (x14_1 : Int) t321) | ((with_reducible refine gate_store (t := 89) (p := 37) rfl ?_); refine store_event (t := 89) (p := 37) (v := ?vo_w15) (w1 := (wr.setCell ⟨go13, (x14_1 : Int).toNat, none⟩ (.int .u32 t321))) ?hg ?ho ?hn ?hr ?_; (case ho => rfl); (case hg => rfl); (case hn => rfl); (case hr => first | (go_simp; done) | (go_simp; rfl)); intro w15 hw; have hg : wr.grownBy w15 (some go13) := (by rw [hw]; exact HP14.2); have hp_ : Kd.R (Kd.int .u32) 89 w15 w.heap.size (fun _ => True) (.slice (some ⟨go13, 0, none⟩) x5_1.length co13) y323 := (by rw [hw, Ny323.out]; exact HP14.1); clear HP14; have n0_ := A0_.mk (hp_); have n1_ := A0_.mk ((by rw [hw]; exact bS_ (HB.out) GB13.out : Below w.heap.size w w15)); clear HO_5; clear HB; have HO_5 := n0_; have HB := n1_; clear n0_ n1_; clear hg hw hp_))
          (try simp only [add_plain])
          go_roundg k1
          case measure => have := HK1.out; omega
          case rel => exact ⟨(y323), (t322), (wrap64 (x14_1 + 1)), (by first | rfl | (simp; done) | (simp [*]; done)), (by first | rfl | (simp; done) | (simp [*]; done)), H', ⟨by have := HK1.out; omega⟩, ⟨by (with_reducible repeat (first | apply Kd.R_alloc | apply Kd.R_drewN | apply Kd.R_drew)); exact HO_5.out⟩, ⟨by repeat (first | (with_reducible first | exact HB.out | apply bA_ | apply pB_ | apply b1_) | exact HB.out)⟩⟩
         ·rw [if_neg c12] at H
          exact absurd H (by simp)
        ·rw [if_neg c10] at H
         exact absurd H (by simp)
       ·rw [if_neg c9] at H
        exact absurd H (by simp)
      ·rw [if_neg c8] at H
       have c8b0 : decide (x14_1 < (l1.length : Int)) = false := decide_eq_false c8
       clear c8
       by_cases c16 : 0 ≤ x14_1
       ·rw [if_pos c16] at H
        have c16b0 : decide (0 ≤ x14_1) = true := decide_eq_true c16
        clear c16
        by_cases c17 : x14_1 < (l0.length : Int)
        ·rw [if_pos c17] at H
         have c17b0 : decide (x14_1 < (l0.length : Int)) = true := decide_eq_true c17
         clear c17
         replace H := Option.bind_eq_some_iff.mp H
         obtain ⟨⟨t325, t326⟩, A180, H⟩ := H
         replace H : (if x14_1 < (x5_1.length : Int) then (natural_subtract.l0 k1 l0 l1 (x5_1.set (x14_1 : Int).toNat t325) t326 (l0.length : Int) (wrap64 (x14_1 + 1))) else (none)) = some r := H
         have A18 := A0_.mk A180
         clear A180
         by_cases c19 : x14_1 < (x5_1.length : Int)
         ·rw [if_pos c19] at H
          have c19b0 : decide (x14_1 < (x5_1.length : Int)) = true := decide_eq_true c19
          clear c19
          obtain ⟨y327, hy327⟩ : ∃ y_ : List Int, y_ = (x5_1.set (x14_1 : Int).toNat t325) := ⟨_, rfl⟩
          replace H : (natural_subtract.l0 k1 l0 l1 y327 t326 (l0.length : Int) (wrap64 (x14_1 + 1))) = some r := by first | (rw [hy327]; with_reducible exact H) | (have H2_ := (Option.bind_some _ _).symm.trans H; rw [hy327]; with_reducible exact H2_) | (have H2_ := (Option.bind_some _ _).symm.trans H; with_reducible exact H2_) | with_reducible exact H | (rw [hy327]; exact H) | exact H
          have Ny327 := A0_.mk hy327
          clear hy327
          have H' := A0_.mk H
          clear H
          have p324 : 0 ≤ (x14_1 : Int) := of_decide_eq_true (by first | (with_reducible assumption) | assumption)
          have q324 : x14_1 < (l0.length : Int) := of_decide_eq_true (by first | (with_reducible assumption) | assumption)
          obtain ⟨ad324, e324, hx324_0⟩ := Kd.at_int HR0.out x14_1 p324 q324
          cases e324
          (try replace hx324_0 := (HB.out.cell (World.block_lt_of_cell? w _ hx324_0)).trans hx324_0)
          replace p324 := eq_true p324
          replace q324 := eq_true q324
          go_wp2_with (first | ((with_reducible refine gC_ (f := 101) rfl ?_); refine goesL_ (some 34) rfl rfl Tryd.func101 (by kernel_rfl) rfl #[.int .u32 (rd l0 x14_1), .int .u32 0, .int .u32 x6_1] rfl (by (try simp only [List.map_toArray, List.map_cons, List.map_nil]); first | done | rfl | (simp only [List.length_drop, List.length_take]; rfl)) ?_; (with_reducible refine (bits_Sub32.calls (rd l0 x14_1) 0 x6_1 t325 t326 _ A18.out).mono ?_); rintro e w' ⟨rfl, ⟨nd, rfl⟩⟩; refine ⟨_, rfl, ?_⟩; (try (rw [drewN_self wr]; generalize hq_ : World.drewN wr _ = wr; have n0_ : A0_ (Kd.R (Kd.int .u32) 89 wr w.heap.size (fun _ => True) v317 x5_1) := ⟨by rw [← hq_]; exact (by (with_reducible repeat (first | apply Kd.R_alloc | apply Kd.R_drewN | apply Kd.R_drew)); exact HO_5.out)⟩; have n1_ : A0_ (Below w.heap.size w wr) := ⟨by rw [← hq_]; exact (by repeat (first | (with_reducible first | exact HB.out | apply bA_ | apply pB_ | apply b1_) | exact HB.out))⟩; clear HO_5 HB hq_; have HO_5 := n0_; have HB := n1_; clear n0_ n1_)); have p20 : 0 ≤ (x14_1 : Int) := of_decide_eq_true (by first | (with_reducible assumption) | assumption); have q20 : (x14_1 : Int) < ((x5_1.length : Int) : Int) := of_decide_eq_true (by first | (with_reducible assumption) | assumption); obtain ⟨go20, co20, eo20, gb20, gl20, cl20, HG20⟩ := Kd.R_form HO_5.out (by omega); (first | cases eo20 | (injection eo20 with ea_ en_ ec_; (first | subst ea_ | (injection ea_ with ea_; subst ea_)); subst ec_; clear en_)); have GB20 := A0_.mk gb20; have GG20 := A0_.mk HG20; clear gb20 gl20 HG20; obtain ⟨hx20_0, hf20_0⟩ := Kd.R_celln 0 HO_5.out (x14_1 : Int) p20 q20; replace p20 := eq_true p20; replace q20 := eq_true q20; obtain ⟨hy21_, hz21_⟩ := Kd.R_celln 0 HO_5.out (x14_1 : Int) (of_decide_eq_true (by first | (with_reducible assumption) | assumption)) (of_decide_eq_true (by first | (with_reducible assumption) | assumption)); have HP21 := Kd.R_putg HO_5.out (x14_1 : Int) t325) | ((with_reducible refine gate_store (t := 89) (p := 37) rfl ?_); refine store_event (t := 89) (p := 37) (v := ?vo_w22) (w1 := (wr.setCell ⟨go20, (x14_1 : Int).toNat, none⟩ (.int .u32 t325))) ?hg ?ho ?hn ?hr ?_; (case ho => rfl); (case hg => rfl); (case hn => rfl); (case hr => first | (go_simp; done) | (go_simp; rfl)); intro w22 hw; have hg : wr.grownBy w22 (some go20) := (by rw [hw]; exact HP21.2); have hp_ : Kd.R (Kd.int .u32) 89 w22 w.heap.size (fun _ => True) (.slice (some ⟨go20, 0, none⟩) x5_1.length co20) y327 := (by rw [hw, Ny327.out]; exact HP21.1); clear HP21; have n0_ := A0_.mk (hp_); have n1_ := A0_.mk ((by rw [hw]; exact bS_ (HB.out) GB20.out : Below w.heap.size w w22)); clear HO_5; clear HB; have HO_5 := n0_; have HB := n1_; clear n0_ n1_; clear hg hw hp_))
          (try simp only [add_plain])
          go_roundg k1
          case measure => have := HK1.out; omega
          case rel => exact ⟨(y327), (t326), (wrap64 (x14_1 + 1)), (by first | rfl | (simp; done) | (simp [*]; done)), (by first | rfl | (simp; done) | (simp [*]; done)), H', ⟨by have := HK1.out; omega⟩, ⟨by (with_reducible repeat (first | apply Kd.R_alloc | apply Kd.R_drewN | apply Kd.R_drew)); exact HO_5.out⟩, ⟨by repeat (first | (with_reducible first | exact HB.out | apply bA_ | apply pB_ | apply b1_) | exact HB.out)⟩⟩
         ·rw [if_neg c19] at H
          exact absurd H (by simp)
        ·rw [if_neg c17] at H
         exact absurd H (by simp)
       ·rw [if_neg c16] at H
        exact absurd H (by simp)
     ·rw [if_neg c7] at H
      have c7b0 : decide (x14_1 < (l0.length : Int)) = false := decide_eq_false c7
      clear c7
      replace H := Option.bind_eq_some_iff.mp H
      obtain ⟨t328, A230, H⟩ := H
      replace H : (some t328) = some r := H
      have A23 := A0_.mk A230
      clear A230
      obtain rfl := Option.some.inj H
      obtain ⟨Ao24, co24, eo24⟩ := Kd.R_slice HO_5.out
      subst eo24
      go_wp2_with (first | ((with_reducible refine gC_ (f := 79) rfl ?_); refine goesL_ (some 40) rfl rfl Tryd.func79 (by kernel_rfl) rfl #[.slice Ao24 x5_1.length co24] rfl (by (try simp only [List.map_toArray, List.map_cons, List.map_nil]); first | done | rfl | (simp only [List.length_drop, List.length_take]; rfl)) ?_; (with_reducible refine (natural_limbs_trim.calls k1 (fun k_ => some k_ = (.slice Ao24 x5_1.length co24 : Value).ownBlock) (.slice Ao24 x5_1.length co24) x5_1 t328 w _ ?side1 ?side2 A23.out).mono ?_); (case side1 => repeat (first | (with_reducible first | exact HB.out | apply bA_ | apply pB_ | apply b1_) | exact HB.out)); (case side2 => exact Kd.R_tight rfl HO_5.out); rintro e w25 ⟨v329, rfl, ho0, hb, hkp⟩; refine ⟨_, rfl, ?_⟩; have n0_ := A0_.mk (Kd.R_mono (ok' := fun k_ => True) ho0 (fun k_ hk_ => trivial)); have n1_ := A0_.mk (hb); clear HB; clear HO_5; have HO330 := n0_; have HB := n1_; clear n0_ n1_; (try clear hb); (try clear hkp); (try clear ho0)))
      go_ret
      exact ⟨_, by first | rfl | (simp [errW_none, errW_some] <;> rfl) | (simp [*, errW_none, errW_some] <;> rfl), by (with_reducible repeat (first | apply Kd.R_alloc | apply Kd.R_drewN | apply Kd.R_drew)); exact HO330.out, by repeat (first | (with_reducible first | exact HB.out | apply bA_ | apply pB_ | apply b1_) | exact HB.out)⟩
  ·rw [if_neg c4] at H
   exact absurd H (by simp)
 ·rw [if_neg c3] at H
  exact absurd H (by simp)
def natural_Subtract.f (k : Nat) (a0 : ByteArray) (a1 : ByteArray) : Option (ByteArray × Bool) := (natural_parse.f k a0).bind fun t331 => ((natural_parse.f k a1).bind fun t334 => ((natural_compare.f k t331 t334).bind fun t337 => (if t337 < 0 then (some ((⟨#[]⟩ : ByteArray), false)) else ((natural_subtract.f k t331 t334).bind fun t338 => ((natural_limbs_text.f k t338).bind fun t341 => (some (t341, true)))))))
theorem natural_Subtract.mono : ∀ a0 a1 k, LeO (natural_Subtract.f k a0 a1) (natural_Subtract.f (k + 1) a0 a1) := by
 intro a0 a1 k
 unfold natural_Subtract.f
 repeat' first
   | (with_reducible exact natural_compare.mono _ _ _)
   | (with_reducible exact natural_limbs_text.mono _ _)
   | (with_reducible exact natural_parse.mono _ _)
   | (with_reducible exact natural_subtract.mono _ _ _)
   | (with_reducible exact LeO.refl _)
   | (with_reducible exact LeO.none _)
   | (with_reducible refine LeO.ite ?_ ?_)
   | (with_reducible refine LeO.bind ?_ (fun _ => ?_))
   | exact natural_compare.mono _ _ _
   | exact natural_limbs_text.mono _ _
   | exact natural_parse.mono _ _
   | exact natural_subtract.mono _ _ _
   | exact LeO.none _
   | refine LeO.ite ?_ ?_
   | refine LeO.bind ?_ (fun _ => ?_)
set_option maxHeartbeats 8000000 in
set_option maxRecDepth 100000 in
theorem natural_Subtract.calls (k : Nat) (a0 : ByteArray) (a1 : ByteArray) (r1 : ByteArray) (r2 : Bool) (w : World) (h : natural_Subtract.f k a0 a1 = some (r1, r2)) :
  Calls Tryd.prog 67 #[.string a0, .string a1] w fun e w' => e = .returned (.tuple #[.string r1, .bool r2]) ∧ Below w.heap.size w w' := by
 have HB := A0_.mk (Below.refl w.heap.size w)
 have H : ((natural_parse.f k a0).bind fun t331 => ((natural_parse.f k a1).bind fun t334 => ((natural_compare.f k t331 t334).bind fun t337 => (if t337 < 0 then (some ((⟨#[]⟩ : ByteArray), false)) else ((natural_subtract.f k t331 t334).bind fun t338 => ((natural_limbs_text.f k t338).bind fun t341 => (some (t341, true)))))))) = some (r1, r2) := h
 clear h
 replace H := Option.bind_eq_some_iff.mp H
 obtain ⟨t331, A30, H⟩ := H
 replace H : ((natural_parse.f k a1).bind fun t334 => ((natural_compare.f k t331 t334).bind fun t337 => (if t337 < 0 then (some ((⟨#[]⟩ : ByteArray), false)) else ((natural_subtract.f k t331 t334).bind fun t338 => ((natural_limbs_text.f k t338).bind fun t341 => (some (t341, true))))))) = some (r1, r2) := H
 have A3 := A0_.mk A30
 clear A30
 replace H := Option.bind_eq_some_iff.mp H
 obtain ⟨t334, A40, H⟩ := H
 replace H : ((natural_compare.f k t331 t334).bind fun t337 => (if t337 < 0 then (some ((⟨#[]⟩ : ByteArray), false)) else ((natural_subtract.f k t331 t334).bind fun t338 => ((natural_limbs_text.f k t338).bind fun t341 => (some (t341, true)))))) = some (r1, r2) := H
 have A4 := A0_.mk A40
 clear A40
 replace H := Option.bind_eq_some_iff.mp H
 obtain ⟨t337, A50, H⟩ := H
 replace H : (if t337 < 0 then (some ((⟨#[]⟩ : ByteArray), false)) else ((natural_subtract.f k t331 t334).bind fun t338 => ((natural_limbs_text.f k t338).bind fun t341 => (some (t341, true))))) = some (r1, r2) := H
 have A5 := A0_.mk A50
 clear A50
 by_cases c6 : t337 < 0
 ·rw [if_pos c6] at H
  have c6b0 : decide (t337 < 0) = true := decide_eq_true c6
  clear c6
  simp only [Option.some.injEq, Prod.mk.injEq] at H
  obtain ⟨rfl, rfl⟩ := H
  go_enter Tryd.func67, Tryd.ntmps67
  go_wp2_with (first | ((with_reducible refine gC_ (f := 64) rfl ?_); refine goesL_ (some 9) rfl rfl Tryd.func64 (by kernel_rfl) rfl #[.string a0] rfl (by (try simp only [List.map_toArray, List.map_cons, List.map_nil]); first | done | rfl | (simp only [List.length_drop, List.length_take]; rfl)) ?_; (with_reducible refine (natural_parse.calls k a0 t331 _ A3.out).mono ?_); rintro e w7 ⟨v332, rfl, ho0, hb⟩; refine ⟨_, rfl, ?_⟩; have n0_ := A0_.mk (Kd.R_lower ho0 (bZ_ (by repeat (first | (with_reducible first | exact HB.out | apply bA_ | apply pB_ | apply b1_) | exact HB.out)))); have n1_ := A0_.mk (bT_ (by repeat (first | (with_reducible first | exact HB.out | apply bA_ | apply pB_ | apply b1_) | exact HB.out)) hb); clear HB; have HO333 := n0_; have HB := n1_; clear n0_ n1_; (try clear hb); (try clear hb2); (try clear hk); (try clear hi); (try clear ho0)) | ((with_reducible refine gC_ (f := 64) rfl ?_); refine goesL_ (some 11) rfl rfl Tryd.func64 (by kernel_rfl) rfl #[.string a1] rfl (by (try simp only [List.map_toArray, List.map_cons, List.map_nil]); first | done | rfl | (simp only [List.length_drop, List.length_take]; rfl)) ?_; (with_reducible refine (natural_parse.calls k a1 t334 _ A4.out).mono ?_); rintro e w8 ⟨v335, rfl, ho0, hb⟩; refine ⟨_, rfl, ?_⟩; have n0_ := A0_.mk (Kd.R_elder' (by (with_reducible repeat (first | apply Kd.R_alloc | apply Kd.R_drewN | apply Kd.R_drew)); exact HO333.out) (Kd.R_base ho0) hb); have n1_ := A0_.mk (Kd.R_lower (Kd.R_new' ho0 (Kd.R_lt (by (with_reducible repeat (first | apply Kd.R_alloc | apply Kd.R_drewN | apply Kd.R_drew)); exact HO333.out))) (bZ_ (by repeat (first | (with_reducible first | exact HB.out | apply bA_ | apply pB_ | apply b1_) | exact HB.out)))); have n2_ := A0_.mk (bT_ (by repeat (first | (with_reducible first | exact HB.out | apply bA_ | apply pB_ | apply b1_) | exact HB.out)) hb); clear HO333; clear HB; have HO333 := n0_; have HO336 := n1_; have HB := n2_; clear n0_ n1_ n2_; (try clear hb); (try clear hb2); (try clear hk); (try clear hi); (try clear ho0); obtain ⟨Ao9, co9, eo9⟩ := Kd.R_slice HO333.out; subst eo9; obtain ⟨Ao10, co10, eo10⟩ := Kd.R_slice HO336.out; subst eo10) | ((with_reducible refine gC_ (f := 81) rfl ?_); refine goesL_ (some 14) rfl rfl Tryd.func81 (by kernel_rfl) rfl #[.slice Ao9 t331.length co9, .slice Ao10 t334.length co10] rfl (by (try simp only [List.map_toArray, List.map_cons, List.map_nil]); first | done | rfl | (simp only [List.length_drop, List.length_take]; rfl)) ?_; (with_reducible refine (natural_compare.calls k _ _ t331 _ _ t334 t337 _ ?side1 ?side2 ?side3 ?side4 A5.out).mono ?_); (case side1 => repeat (first | exact (Kd.R_reads' HO333.out).2.2 | (with_reducible refine Kd.C_alloc ?_ _) | (with_reducible refine Kd.C_drewN ?_ _) | (with_reducible refine Kd.C_drew ?_))); (case side2 => exact (Kd.R_reads' HO333.out).2.1); (case side3 => repeat (first | exact (Kd.R_reads' HO336.out).2.2 | (with_reducible refine Kd.C_alloc ?_ _) | (with_reducible refine Kd.C_drewN ?_ _) | (with_reducible refine Kd.C_drew ?_))); (case side4 => exact (Kd.R_reads' HO336.out).2.1); rintro e w' ⟨rfl, ⟨nd, rfl⟩⟩; refine ⟨_, rfl, ?_⟩))
  go_ret2
  exact ⟨by first | rfl | (simp [errW_none, errW_some] <;> rfl) | (simp [*, errW_none, errW_some] <;> rfl), by repeat (first | (with_reducible first | exact HB.out | apply bA_ | apply pB_ | apply b1_) | exact HB.out)⟩
 ·rw [if_neg c6] at H
  have c6b0 : decide (t337 < 0) = false := decide_eq_false c6
  clear c6
  replace H := Option.bind_eq_some_iff.mp H
  obtain ⟨t338, A110, H⟩ := H
  replace H : ((natural_limbs_text.f k t338).bind fun t341 => (some (t341, true))) = some (r1, r2) := H
  have A11 := A0_.mk A110
  clear A110
  replace H := Option.bind_eq_some_iff.mp H
  obtain ⟨t341, A120, H⟩ := H
  replace H : (some (t341, true)) = some (r1, r2) := H
  have A12 := A0_.mk A120
  clear A120
  simp only [Option.some.injEq, Prod.mk.injEq] at H
  obtain ⟨rfl, rfl⟩ := H
  go_enter Tryd.func67, Tryd.ntmps67
  go_wp2_with (first | ((with_reducible refine gC_ (f := 64) rfl ?_); refine goesL_ (some 9) rfl rfl Tryd.func64 (by kernel_rfl) rfl #[.string a0] rfl (by (try simp only [List.map_toArray, List.map_cons, List.map_nil]); first | done | rfl | (simp only [List.length_drop, List.length_take]; rfl)) ?_; (with_reducible refine (natural_parse.calls k a0 t331 _ A3.out).mono ?_); rintro e w13 ⟨v332, rfl, ho0, hb⟩; refine ⟨_, rfl, ?_⟩; have n0_ := A0_.mk (Kd.R_lower ho0 (bZ_ (by repeat (first | (with_reducible first | exact HB.out | apply bA_ | apply pB_ | apply b1_) | exact HB.out)))); have n1_ := A0_.mk (bT_ (by repeat (first | (with_reducible first | exact HB.out | apply bA_ | apply pB_ | apply b1_) | exact HB.out)) hb); clear HB; have HO333 := n0_; have HB := n1_; clear n0_ n1_; (try clear hb); (try clear hb2); (try clear hk); (try clear hi); (try clear ho0)) | ((with_reducible refine gC_ (f := 64) rfl ?_); refine goesL_ (some 11) rfl rfl Tryd.func64 (by kernel_rfl) rfl #[.string a1] rfl (by (try simp only [List.map_toArray, List.map_cons, List.map_nil]); first | done | rfl | (simp only [List.length_drop, List.length_take]; rfl)) ?_; (with_reducible refine (natural_parse.calls k a1 t334 _ A4.out).mono ?_); rintro e w14 ⟨v335, rfl, ho0, hb⟩; refine ⟨_, rfl, ?_⟩; have n0_ := A0_.mk (Kd.R_elder' (by (with_reducible repeat (first | apply Kd.R_alloc | apply Kd.R_drewN | apply Kd.R_drew)); exact HO333.out) (Kd.R_base ho0) hb); have n1_ := A0_.mk (Kd.R_lower (Kd.R_new' ho0 (Kd.R_lt (by (with_reducible repeat (first | apply Kd.R_alloc | apply Kd.R_drewN | apply Kd.R_drew)); exact HO333.out))) (bZ_ (by repeat (first | (with_reducible first | exact HB.out | apply bA_ | apply pB_ | apply b1_) | exact HB.out)))); have n2_ := A0_.mk (bT_ (by repeat (first | (with_reducible first | exact HB.out | apply bA_ | apply pB_ | apply b1_) | exact HB.out)) hb); clear HO333; clear HB; have HO333 := n0_; have HO336 := n1_; have HB := n2_; clear n0_ n1_ n2_; (try clear hb); (try clear hb2); (try clear hk); (try clear hi); (try clear ho0); obtain ⟨Ao15, co15, eo15⟩ := Kd.R_slice HO333.out; subst eo15; obtain ⟨Ao16, co16, eo16⟩ := Kd.R_slice HO336.out; subst eo16) | ((with_reducible refine gC_ (f := 81) rfl ?_); refine goesL_ (some 14) rfl rfl Tryd.func81 (by kernel_rfl) rfl #[.slice Ao15 t331.length co15, .slice Ao16 t334.length co16] rfl (by (try simp only [List.map_toArray, List.map_cons, List.map_nil]); first | done | rfl | (simp only [List.length_drop, List.length_take]; rfl)) ?_; (with_reducible refine (natural_compare.calls k _ _ t331 _ _ t334 t337 _ ?side1 ?side2 ?side3 ?side4 A5.out).mono ?_); (case side1 => repeat (first | exact (Kd.R_reads' HO333.out).2.2 | (with_reducible refine Kd.C_alloc ?_ _) | (with_reducible refine Kd.C_drewN ?_ _) | (with_reducible refine Kd.C_drew ?_))); (case side2 => exact (Kd.R_reads' HO333.out).2.1); (case side3 => repeat (first | exact (Kd.R_reads' HO336.out).2.2 | (with_reducible refine Kd.C_alloc ?_ _) | (with_reducible refine Kd.C_drewN ?_ _) | (with_reducible refine Kd.C_drew ?_))); (case side4 => exact (Kd.R_reads' HO336.out).2.1); rintro e w' ⟨rfl, ⟨nd, rfl⟩⟩; refine ⟨_, rfl, ?_⟩) | ((with_reducible refine gC_ (f := 82) rfl ?_); refine goesL_ (some 18) rfl rfl Tryd.func82 (by kernel_rfl) rfl #[.slice Ao15 t331.length co15, .slice Ao16 t334.length co16] rfl (by (try simp only [List.map_toArray, List.map_cons, List.map_nil]); first | done | rfl | (simp only [List.length_drop, List.length_take]; rfl)) ?_; (with_reducible refine (natural_subtract.calls k _ _ t331 _ _ t334 t338 _ ?side1 ?side2 ?side3 ?side4 A11.out).mono ?_); (case side1 => repeat (first | exact (Kd.R_reads' HO333.out).2.2 | (with_reducible refine Kd.C_alloc ?_ _) | (with_reducible refine Kd.C_drewN ?_ _) | (with_reducible refine Kd.C_drew ?_))); (case side2 => exact (Kd.R_reads' HO333.out).2.1); (case side3 => repeat (first | exact (Kd.R_reads' HO336.out).2.2 | (with_reducible refine Kd.C_alloc ?_ _) | (with_reducible refine Kd.C_drewN ?_ _) | (with_reducible refine Kd.C_drew ?_))); (case side4 => exact (Kd.R_reads' HO336.out).2.1); rintro e w17 ⟨v339, rfl, ho0, hb⟩; refine ⟨_, rfl, ?_⟩; have n0_ := A0_.mk (Kd.R_elder' (by (with_reducible repeat (first | apply Kd.R_alloc | apply Kd.R_drewN | apply Kd.R_drew)); exact HO333.out) (Kd.R_base ho0) hb); have n1_ := A0_.mk (Kd.R_elder' (by (with_reducible repeat (first | apply Kd.R_alloc | apply Kd.R_drewN | apply Kd.R_drew)); exact HO336.out) (Kd.R_base ho0) hb); have n2_ := A0_.mk (Kd.R_lower (Kd.R_new' (Kd.R_new' ho0 (Kd.R_lt (by (with_reducible repeat (first | apply Kd.R_alloc | apply Kd.R_drewN | apply Kd.R_drew)); exact HO333.out))) (Kd.R_lt (by (with_reducible repeat (first | apply Kd.R_alloc | apply Kd.R_drewN | apply Kd.R_drew)); exact HO336.out))) (bZ_ (by repeat (first | (with_reducible first | exact HB.out | apply bA_ | apply pB_ | apply b1_) | exact HB.out)))); have n3_ := A0_.mk (bT_ (by repeat (first | (with_reducible first | exact HB.out | apply bA_ | apply pB_ | apply b1_) | exact HB.out)) hb); clear HO333; clear HO336; clear HB; have HO333 := n0_; have HO336 := n1_; have HO340 := n2_; have HB := n3_; clear n0_ n1_ n2_ n3_; (try clear hb); (try clear hb2); (try clear hk); (try clear hi); (try clear ho0); obtain ⟨Ao18, co18, eo18⟩ := Kd.R_slice HO340.out; subst eo18) | ((with_reducible refine gC_ (f := 65) rfl ?_); refine goesL_ (some 19) rfl rfl Tryd.func65 (by kernel_rfl) rfl #[.slice Ao18 t338.length co18] rfl (by (try simp only [List.map_toArray, List.map_cons, List.map_nil]); first | done | rfl | (simp only [List.length_drop, List.length_take]; rfl)) ?_; (with_reducible refine (natural_limbs_text.calls k _ _ t338 t341 _ ?side1 ?side2 A12.out).mono ?_); (case side1 => repeat (first | exact (Kd.R_reads' HO340.out).2.2 | (with_reducible refine Kd.C_alloc ?_ _) | (with_reducible refine Kd.C_drewN ?_ _) | (with_reducible refine Kd.C_drew ?_))); (case side2 => exact (Kd.R_reads' HO340.out).2.1); rintro e w19 ⟨rfl, hb⟩; refine ⟨_, rfl, ?_⟩; have n0_ := A0_.mk (Kd.R_below (by (with_reducible repeat (first | apply Kd.R_alloc | apply Kd.R_drewN | apply Kd.R_drew)); exact HO333.out) hb); have n1_ := A0_.mk (Kd.R_below (by (with_reducible repeat (first | apply Kd.R_alloc | apply Kd.R_drewN | apply Kd.R_drew)); exact HO336.out) hb); have n2_ := A0_.mk (Kd.R_below (by (with_reducible repeat (first | apply Kd.R_alloc | apply Kd.R_drewN | apply Kd.R_drew)); exact HO340.out) hb); have n3_ := A0_.mk (bT_ (by repeat (first | (with_reducible first | exact HB.out | apply bA_ | apply pB_ | apply b1_) | exact HB.out)) hb); clear HO333; clear HO336; clear HO340; clear HB; have HO333 := n0_; have HO336 := n1_; have HO340 := n2_; have HB := n3_; clear n0_ n1_ n2_ n3_; (try clear hb); (try clear hb2); (try clear hk); (try clear hi)))
  go_ret2
  exact ⟨by first | rfl | (simp [errW_none, errW_some] <;> rfl) | (simp [*, errW_none, errW_some] <;> rfl), by repeat (first | (with_reducible first | exact HB.out | apply bA_ | apply pB_ | apply b1_) | exact HB.out)⟩
end Go.Proofs.YtnegkpnhjgimcaaDoor.B
end
