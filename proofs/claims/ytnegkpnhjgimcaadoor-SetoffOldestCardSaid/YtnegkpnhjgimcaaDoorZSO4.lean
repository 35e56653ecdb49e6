/- A part of the proof of setoffOldest_card (see YtnegkpnhjgimcaaDoorZSO5): what the functions that it reaches compute, each by its contract. -/
import Derived.Test.YtnegkpnhjgimcaaDoorZSO3
section
namespace Go.Proofs.YtnegkpnhjgimcaaDoor.C
set_option maxHeartbeats 8000000
set_option maxRecDepth 100000
open Go.RowKit Go.PrWords Go.PrLast Go.PrMore
attribute [local go_sem] max2_int min2_int max_two min_two max_three min_three max_four min_four
set_option linter.unusedVariables false
set_option linter.unusedSimpArgs false
attribute [local go_sem high] eqA26
def l14_awake.f (k : Nat)  : Option (Bool) := (q_Int.f k 30).bind fun bt496 => ((q_Int.f k 20).bind fun bt499 => ((q_Int.f k 25).bind fun bt502 => ((so_Apply.f k 2 (([(⟨0, 1, (⟨bt496.1, bt496.2.1, bt496.2.2⟩ : S26), 5, 5, false⟩ : S28), (⟨0, 1, (⟨bt499.1, bt499.2.1, bt499.2.2⟩ : S26), 3, 3, false⟩ : S28), (⟨1, 0, (⟨bt502.1, bt502.2.1, bt502.2.2⟩ : S26), 9, 9, false⟩ : S28)] : List (S28))) 100 10).bind fun bt508 => ((so_Eligible.f 0 0 false (⟨#[]⟩ : ByteArray) (⟨#[]⟩ : ByteArray) 50 95 false 100 10).bind fun t512 => (if bt508.2 = 0 then (if (bt508.1.length : Int) = 3 then (if 0 < (bt508.1.length : Int) then ((q_Int.f k 25).bind fun bt514 => (if (((r26_ bt508.1 0).f0) == bt514.1 && ((((r26_ bt508.1 0).f1).toList) == bt514.2.1.toList && ((((r26_ bt508.1 0).f2).toList) == bt514.2.2.toList))) = true then (if 1 < (bt508.1.length : Int) then ((q_Int.f k 0).bind fun bt518 => (if (((r26_ bt508.1 1).f0) == bt518.1 && ((((r26_ bt508.1 1).f1).toList) == bt518.2.1.toList && ((((r26_ bt508.1 1).f2).toList) == bt518.2.2.toList))) = true then (if 2 < (bt508.1.length : Int) then ((q_Int.f k 0).bind fun bt522 => (if (((r26_ bt508.1 2).f0) == bt522.1 && ((((r26_ bt508.1 2).f1).toList) == bt522.2.1.toList && ((((r26_ bt508.1 2).f2).toList) == bt522.2.2.toList))) = true then (some (!t512)) else (none))) else (none)) else (none))) else (none)) else (none))) else (none)) else (none)) else (none))))))
theorem l14_awake.mono : ∀ k, LeO (l14_awake.f k ) (l14_awake.f (k + 1) ) := by
 intro  k
 unfold l14_awake.f
 repeat' first
   | (with_reducible first | exact q_Int.mono _ _ | exact so_Apply.mono _ _ _ _ _ | exact LeO.refl _ | exact LeO.none _ | refine LeO.ite ?_ ?_ | refine LeO.bind ?_ (fun _ => ?_))
def l14_awake.T4 : Bool × List (List Nat × List Nat) := (true, [([], []), ([0], [0]), ([1], [1]), ([2], [2]), ([3, 2], [2, 3]), ([4, 2], [2, 4]), ([2, 5], [2, 5]), ([6, 2], [6]), ([7], [7]), ([8, 7], [7, 8]), ([9, 7], [7, 9]), ([7, 7], [7]), ([10, 11, 7], [7, 10, 11]), ([7, 12], [7, 12]), ([13, 11], [13]), ([14], [14]), ([15, 14], [14, 15]), ([16, 14], [14, 16]), ([14, 14], [14]), ([17, 18, 14], [14, 17, 18]), ([14, 19], [14, 19]), ([20, 18], [20]), ([21], [21]), ([22, 21], [21, 22]), ([23, 21], [21, 23]), ([21, 21], [21]), ([24, 25, 21], [21, 24, 25]), ([21, 26], [21, 26]), ([27, 25], [27]), ([28], [28]), ([29, 28], [28, 29]), ([28, 30], [28, 30]), ([31, 28, 0, 1, 2, 3, 4, 5, 6, 7, 8, 9, 10, 11, 12, 13, 14, 15, 16, 17, 18, 19, 20, 21, 22, 23, 24, 25, 26, 27, 28, 29, 30, 31], [31])])
def l14_awake.B4 : List Nat := [0, 1, 3, 7, 15, 31, 63, 127, 255, 511, 1023, 255, 4095, 8191, 16383, 32767, 65535, 131071, 32767, 524287, 1048575, 2097151, 4194303, 8388607, 16777215, 4194303, 67108863, 134217727, 268435455, 536870911, 1073741823, 2147483647, 4294967295]
theorem l14_awake.tab4 : rtab .any (opsOf Tryd.f12 4) = l14_awake.T4 := by kernel_rfl
theorem l14_awake.bits4 : waitsOk l14_awake.T4.2 l14_awake.B4 = true := by kernel_rfl
theorem l14_awake.calls (k : Nat)  (r : Bool) (w : World) (h : l14_awake.f k  = some r) :
  Calls Tryd.prog 12 #[] w fun e w' => e = .returned (.bool r) ∧ Below w.heap.size w w' := by
 have hu28 := Tryd.underlying28
 have hu26 := Tryd.underlying26
 have HB := A0_.mk (Below.refl w.heap.size w)
 have H := h
 unfold l14_awake.f at H
 clear h
 obtain ⟨⟨fa, ga, ha⟩, A1, H⟩ := oB_ H
 (try dsimp only at H)
 obtain ⟨⟨ia, ja, ka⟩, A2, H⟩ := oB_ H
 (try dsimp only at H)
 obtain ⟨⟨la, ma, na⟩, A3, H⟩ := oB_ H
 (try dsimp only at H)
 obtain ⟨Ja, oa⟩ : ∃ y_ : List (S28), y_ = (([(⟨0, 1, (⟨fa, ga, ha⟩ : S26), 5, 5, false⟩ : S28), (⟨0, 1, (⟨ia, ja, ka⟩ : S26), 3, 3, false⟩ : S28), (⟨1, 0, (⟨la, ma, na⟩ : S26), 9, 9, false⟩ : S28)] : List (S28))) := ⟨_, rfl⟩
 replace H : ((so_Apply.f k 2 Ja 100 10).bind fun ea => ((so_Eligible.f 0 0 false (⟨#[]⟩ : ByteArray) (⟨#[]⟩ : ByteArray) 50 95 false 100 10).bind fun Ka => (if ea.2 = 0 then (if (ea.1.length : Int) = 3 then (if 0 < (ea.1.length : Int) then ((q_Int.f k 25).bind fun La => (if (((r26_ ea.1 0).f0) == La.1 && ((((r26_ ea.1 0).f1).toList) == La.2.1.toList && ((((r26_ ea.1 0).f2).toList) == La.2.2.toList))) = true then (if 1 < (ea.1.length : Int) then ((q_Int.f k 0).bind fun Ma => (if (((r26_ ea.1 1).f0) == Ma.1 && ((((r26_ ea.1 1).f1).toList) == Ma.2.1.toList && ((((r26_ ea.1 1).f2).toList) == Ma.2.2.toList))) = true then (if 2 < (ea.1.length : Int) then ((q_Int.f k 0).bind fun Na => (if (((r26_ ea.1 2).f0) == Na.1 && ((((r26_ ea.1 2).f1).toList) == Na.2.1.toList && ((((r26_ ea.1 2).f2).toList) == Na.2.2.toList))) = true then (some (!Ka)) else (none))) else (none)) else (none))) else (none)) else (none))) else (none)) else (none)) else (none)))) = some r := by first | (rw [oa]; with_reducible exact H) | (have H2_ := (Option.bind_some _ _).symm.trans H; rw [oa]; with_reducible exact H2_) | (have H2_ := (Option.bind_some _ _).symm.trans H; with_reducible exact H2_) | with_reducible exact H | (rw [oa]; exact H) | exact H
 have Ua := A0_.mk oa
 clear oa
 obtain ⟨⟨aa, Ia⟩, A4, H⟩ := oB_ H
 (try dsimp only at H)
 obtain ⟨Ka, A5, H⟩ := oB_ H
 (try dsimp only at H)
 by_cases c6 : Ia = 0
 rotate_left
 ·rw [if_neg c6] at H
  exact absurd H (by simp)
 rw [if_pos c6] at H
 have eb : (Ia == 0) = true := beq_iff_eq.mpr c6
 have fb : (Ia != 0) = false := bne_eq_false_iff_eq.mpr c6
 clear c6
 by_cases c7 : (aa.length : Int) = 3
 rotate_left
 ·rw [if_neg c7] at H
  exact absurd H (by simp)
 rw [if_pos c7] at H
 have gb : ((aa.length : Int) == 3) = true := beq_iff_eq.mpr c7
 have ib : ((aa.length : Int) != 3) = false := bne_eq_false_iff_eq.mpr c7
 clear c7
 by_cases c8 : 0 < (aa.length : Int)
 rotate_left
 ·rw [if_neg c8] at H
  exact absurd H (by simp)
 rw [if_pos c8] at H
 have jb : decide (0 < (aa.length : Int)) = true := decide_eq_true c8
 have kb : decide (0 < aa.length) = true := decide_eq_true (by omega)
 clear c8
 obtain ⟨⟨pa, qa, ra⟩, A9, H⟩ := oB_ H
 (try dsimp only at H)
 by_cases c10 : (((r26_ aa 0).f0) == pa && ((((r26_ aa 0).f1).toList) == qa.toList && ((((r26_ aa 0).f2).toList) == ra.toList))) = true
 rotate_left
 ·rw [if_neg c10] at H
  exact absurd H (by simp)
 rw [if_pos c10] at H
 have mb : (((r26_ aa 0).f0) == pa && ((((r26_ aa 0).f1).toList) == qa.toList && ((((r26_ aa 0).f2).toList) == ra.toList))) = true := c10
 (try (have nb : decide (((r26_ aa 0).f0) = pa && ((((r26_ aa 0).f1).toList) == qa.toList && ((((r26_ aa 0).f2).toList) == ra.toList))) = true := by simpa using c10))
 (try (have ob : (((r26_ aa 0).f0) == pa && ((((r26_ aa 0).f1).toList) == qa.toList && ((((r26_ aa 0).f2).toList) == ra.toList))) = true := by simpa using c10))
 clear c10
 by_cases c11 : 1 < (aa.length : Int)
 rotate_left
 ·rw [if_neg c11] at H
  exact absurd H (by simp)
 rw [if_pos c11] at H
 have pb : decide (1 < (aa.length : Int)) = true := decide_eq_true c11
 have qb : decide (1 < aa.length) = true := decide_eq_true (by omega)
 clear c11
 obtain ⟨⟨sa, ta, ua⟩, A12, H⟩ := oB_ H
 (try dsimp only at H)
 by_cases c13 : (((r26_ aa 1).f0) == sa && ((((r26_ aa 1).f1).toList) == ta.toList && ((((r26_ aa 1).f2).toList) == ua.toList))) = true
 rotate_left
 ·rw [if_neg c13] at H
  exact absurd H (by simp)
 rw [if_pos c13] at H
 have rb : (((r26_ aa 1).f0) == sa && ((((r26_ aa 1).f1).toList) == ta.toList && ((((r26_ aa 1).f2).toList) == ua.toList))) = true := c13
 (try (have sb : decide (((r26_ aa 1).f0) = sa && ((((r26_ aa 1).f1).toList) == ta.toList && ((((r26_ aa 1).f2).toList) == ua.toList))) = true := by simpa using c13))
 (try (have tb : (((r26_ aa 1).f0) == sa && ((((r26_ aa 1).f1).toList) == ta.toList && ((((r26_ aa 1).f2).toList) == ua.toList))) = true := by simpa using c13))
 clear c13
 by_cases c14 : 2 < (aa.length : Int)
 rotate_left
 ·rw [if_neg c14] at H
  exact absurd H (by simp)
 rw [if_pos c14] at H
 have ub : decide (2 < (aa.length : Int)) = true := decide_eq_true c14
 have vb : decide (2 < aa.length) = true := decide_eq_true (by omega)
 clear c14
 obtain ⟨⟨va, wa, xa⟩, A15, H⟩ := oB_ H
 (try dsimp only at H)
 by_cases c16 : (((r26_ aa 2).f0) == va && ((((r26_ aa 2).f1).toList) == wa.toList && ((((r26_ aa 2).f2).toList) == xa.toList))) = true
 rotate_left
 ·rw [if_neg c16] at H
  exact absurd H (by simp)
 rw [if_pos c16] at H
 have wb : (((r26_ aa 2).f0) == va && ((((r26_ aa 2).f1).toList) == wa.toList && ((((r26_ aa 2).f2).toList) == xa.toList))) = true := c16
 (try (have xb : decide (((r26_ aa 2).f0) = va && ((((r26_ aa 2).f1).toList) == wa.toList && ((((r26_ aa 2).f2).toList) == xa.toList))) = true := by simpa using c16))
 (try (have yb : (((r26_ aa 2).f0) == va && ((((r26_ aa 2).f1).toList) == wa.toList && ((((r26_ aa 2).f2).toList) == xa.toList))) = true := by simpa using c16))
 clear c16
 obtain rfl := Option.some.inj H
 go_enter Tryd.func12, Tryd.ntmps12
 try go_wp2_with (first | ((with_reducible refine gC_ (f := 29) rfl ?_); refine gL_ (some 5) rfl rfl Tryd.func29 kr_ rfl #[.int .i64 30] rfl mp_ ?_; (with_reducible refine (q_Int.calls k 30 fa ga ha _ A1.out).mono ?_); rintro e w17 ⟨rfl, hb⟩; refine ⟨_, rfl, ?_⟩; have n0_ := A0_.mk (bT_ (xB_ HB) hb); clear HB; have HB := n0_; clear n0_; (try clear hb); (try clear hb2); (try clear hk); (try clear hi)) | ((with_reducible refine gC_ (f := 29) rfl ?_); refine gL_ (some 7) rfl rfl Tryd.func29 kr_ rfl #[.int .i64 20] rfl mp_ ?_; (with_reducible refine (q_Int.calls k 20 ia ja ka _ A2.out).mono ?_); rintro e w18 ⟨rfl, hb⟩; refine ⟨_, rfl, ?_⟩; have n0_ := A0_.mk (bT_ (xB_ HB) hb); clear HB; have HB := n0_; clear n0_; (try clear hb); (try clear hb2); (try clear hk); (try clear hi)) | ((with_reducible refine gC_ (f := 29) rfl ?_); refine gL_ (some 9) rfl rfl Tryd.func29 kr_ rfl #[.int .i64 25] rfl mp_ ?_; (with_reducible refine (q_Int.calls k 25 la ma na _ A3.out).mono ?_); rintro e w19 ⟨rfl, hb⟩; refine ⟨_, rfl, ?_⟩; have n0_ := A0_.mk (bT_ (xB_ HB) hb); clear HB; have HB := n0_; clear n0_; (try clear hb); (try clear hb2); (try clear hk); (try clear hi)) | ((with_reducible refine gD_ (N := 11) rfl ?_); (try (refine gate_guard (by rfl) ?_; dsimp only)); refine Kd.R_lit k28 _ 28 ?hg (N := 11) ?hd (xs := ([(⟨0, 1, (⟨fa, ga, ha⟩ : S26), 5, 5, false⟩ : S28), (⟨0, 1, (⟨ia, ja, ka⟩ : S26), 3, 3, false⟩ : S28), (⟨1, 0, (⟨la, ma, na⟩ : S26), 9, 9, false⟩ : S28)] : List (S28))) (inner := [.int .i64 0, .int .i64 1, .bool fa, .string ga, .string ha, .int .i64 5, .int .i64 5, .bool false, .int .i64 0, .int .i64 1, .bool ia, .string ja, .string ka, .int .i64 3, .int .i64 3, .bool false, .int .i64 1, .int .i64 0, .bool la, .string ma, .string na, .int .i64 9, .int .i64 9, .bool false]) (ok := fun _ => True) (okp := fun _ => True) ?hr ?hp (fun _ hk => hk) trivial (Below.refl _ _) (Nat.le_refl _) (by simp) ?_; (case hd => rfl); (case hg => rfl); (case hr => first | (go_simp; done) | (go_simp; rfl)); (case hp => exact (Reps.c8 (show Kd.M k28 _ _ _ (⟨0, 1, (⟨fa, ga, ha⟩ : S26), 5, 5, false⟩ : S28) [.int .i64 0, .int .i64 1, .bool fa, .string ga, .string ha, .int .i64 5, .int .i64 5, .bool false] from (k28_mkM _ _ _ (⟨0, 1, (⟨fa, ga, ha⟩ : S26), 5, 5, false⟩ : S28) )) (Reps.c8 (show Kd.M k28 _ _ _ (⟨0, 1, (⟨ia, ja, ka⟩ : S26), 3, 3, false⟩ : S28) [.int .i64 0, .int .i64 1, .bool ia, .string ja, .string ka, .int .i64 3, .int .i64 3, .bool false] from (k28_mkM _ _ _ (⟨0, 1, (⟨ia, ja, ka⟩ : S26), 3, 3, false⟩ : S28) )) (Reps.c8 (show Kd.M k28 _ _ _ (⟨1, 0, (⟨la, ma, na⟩ : S26), 9, 9, false⟩ : S28) [.int .i64 1, .int .i64 0, .bool la, .string ma, .string na, .int .i64 9, .int .i64 9, .bool false] from (k28_mkM _ _ _ (⟨1, 0, (⟨la, ma, na⟩ : S26), 9, 9, false⟩ : S28) )) (Reps.none _ _))))); intro zb w20 ya hb hg_ hnew_; clear hg_ hnew_; (first | rw [← Ua.out] at ya | (simp only [Int.reduceToNat] at ya; rw [← Ua.out] at ya)); have n0_ := A0_.mk (Kd.rL_ ya (bZ_ (xB_ HB))); have n1_ := A0_.mk (bT_ (xB_ HB) hb); clear HB; have ba := n0_; have HB := n1_; clear n0_ n1_; clear hb ya; obtain ⟨Wa, Xa, Ya⟩ := Kd.rS_' ba.out; subst Ya) | ((with_reducible refine gC_ (f := 18) rfl ?_); refine gL_ (some 14) rfl rfl Tryd.func18 kr_ rfl #[.int .i64 2, .slice Wa Ja.length Xa, .int .i64 100, .int .i64 10] rfl mp_ ?_; (with_reducible refine (so_Apply.calls k 2 _ _ Ja 100 10 aa Ia _ ?side1 ?side2 A4.out).mono ?_); (case side1 => repeat (first | exact (Kd.rr_' ba.out).2.2 | (with_reducible refine Kd.C_alloc ?_ _) | (with_reducible refine Kd.C_drewN ?_ _) | (with_reducible refine Kd.C_drew ?_))); (case side2 => exact (Kd.rr_' ba.out).2.1); rintro e w23 ⟨Ab, rfl, ho0, hb⟩; refine ⟨_, rfl, ?_⟩; have n0_ := A0_.mk (Kd.rB_ (xR_ ba.out) hb); have n1_ := A0_.mk (Kd.rL_ ho0 (bZ_ (xB_ HB))); have n2_ := A0_.mk (bT_ (xB_ HB) hb); clear ba HB; have ba := n0_; have ca := n1_; have HB := n2_; clear n0_ n1_ n2_; (try clear hb); (try clear hb2); (try clear hk); (try clear hi); (try clear ho0)) | ((with_reducible refine gC_ (f := 13) rfl ?_); refine gL_ (some 18) rfl rfl Tryd.func13 kr_ rfl #[.agg #[.int .i64 0, .int .i64 0, .bool false, .string (⟨#[]⟩ : ByteArray), .string (⟨#[]⟩ : ByteArray), .int .i64 50, .int .i64 95, .bool false], .int .i64 100, .int .i64 10] rfl mp_ ?_; (with_reducible refine (so_Eligible.calls 0 0 false (⟨#[]⟩ : ByteArray) (⟨#[]⟩ : ByteArray) 50 95 false 100 10 Ka _ A5.out).mono ?_); rintro e w24 ⟨rfl, hb⟩; refine ⟨_, rfl, ?_⟩; have n0_ := A0_.mk (Kd.rB_ (xR_ ba.out) hb); have n1_ := A0_.mk (Kd.rB_ (xR_ ca.out) hb); have n2_ := A0_.mk (bT_ (xB_ HB) hb); clear ba ca HB; have ba := n0_; have ca := n1_; have HB := n2_; clear n0_ n1_ n2_; (try clear hb); (try clear hb2); (try clear hk); (try clear hi)))
 have n0_ := A0_.mk (Kd.rD_ ba.out)
 have n1_ := A0_.mk (Kd.rD_ ca.out)
 have n2_ := A0_.mk (b1_ HB.out)
 clear ba
 clear ca
 clear HB
 have ba := n0_
 have ca := n1_
 have HB := n2_
 clear n0_ n1_ n2_
 obtain ⟨Bb, Cb, Va⟩ := Kd.rS_' ca.out
 (first | subst Va | (injection Va with f1_ f2_ f3_; have f4_ := f1_.symm; have f5_ := f3_.symm; clear f1_ f2_ f3_; subst f4_; subst f5_))
 have Oa : 0 ≤ (0 : Int) := (by omega)
 have Pa : 0 < (aa.length : Int) := oD_
 obtain ⟨da, Za, za, Aa, Ba⟩ := at_T26 (Kd.rr_' ca.out).2.2 0 Oa Pa
 cases Za
 have Db : (0 < aa.length) = True := eq_true (by omega)
 (try rw [show ((0 : Int)).toNat = 0 from rfl] at za)
 (try rw [show 0 * 3 = 0 from rfl] at za)
 (try rw [Addr.add_zero'] at za)
 (try rw [show ((0 : Int)).toNat = 0 from rfl] at Aa)
 (try rw [show 0 * 3 = 0 from rfl] at Aa)
 (try rw [Addr.add_zero'] at Aa)
 (try rw [show ((0 : Int)).toNat = 0 from rfl] at Ba)
 (try rw [show 0 * 3 = 0 from rfl] at Ba)
 (try rw [Addr.add_zero'] at Ba)
 replace Oa := eq_true Oa
 replace Pa := eq_true Pa
 have Qa : 0 ≤ (1 : Int) := (by omega)
 have Ra : 1 < (aa.length : Int) := oD_
 obtain ⟨ab, bb, Ca, Da, Ea⟩ := at_T26 (Kd.rr_' ca.out).2.2 1 Qa Ra
 obtain rfl : da = ab := (by injection bb)
 (try simp only [show (1 : Int).toNat = 1 from rfl, Nat.reduceMul, Nat.reduceEqDiff, Go.Addr.add, ↓reduceIte] at Ca)
 (try simp only [show (1 : Int).toNat = 1 from rfl, Nat.reduceMul, Nat.reduceEqDiff, Go.Addr.add, ↓reduceIte] at Da)
 (try simp only [show (1 : Int).toNat = 1 from rfl, Nat.reduceMul, Nat.reduceEqDiff, Go.Addr.add, ↓reduceIte] at Ea)
 have Eb : (1 < aa.length) = True := eq_true (by omega)
 (try rw [show ((1 : Int)).toNat = 1 from rfl] at Ca)
 (try rw [show 1 * 3 = 3 from rfl] at Ca)
 (try rw [show ((1 : Int)).toNat = 1 from rfl] at Da)
 (try rw [show 1 * 3 = 3 from rfl] at Da)
 (try rw [show ((1 : Int)).toNat = 1 from rfl] at Ea)
 (try rw [show 1 * 3 = 3 from rfl] at Ea)
 replace Qa := eq_true Qa
 replace Ra := eq_true Ra
 have Sa : 0 ≤ (2 : Int) := (by omega)
 have Ta : 2 < (aa.length : Int) := oD_
 obtain ⟨cb, db, Fa, Ga, Ha⟩ := at_T26 (Kd.rr_' ca.out).2.2 2 Sa Ta
 obtain rfl : da = cb := (by injection db)
 (try simp only [show (2 : Int).toNat = 2 from rfl, Nat.reduceMul, Nat.reduceEqDiff, Go.Addr.add, ↓reduceIte] at Fa)
 (try simp only [show (2 : Int).toNat = 2 from rfl, Nat.reduceMul, Nat.reduceEqDiff, Go.Addr.add, ↓reduceIte] at Ga)
 (try simp only [show (2 : Int).toNat = 2 from rfl, Nat.reduceMul, Nat.reduceEqDiff, Go.Addr.add, ↓reduceIte] at Ha)
 have Fb : (2 < aa.length) = True := eq_true (by omega)
 (try rw [show ((2 : Int)).toNat = 2 from rfl] at Fa)
 (try rw [show 2 * 3 = 6 from rfl] at Fa)
 (try rw [show ((2 : Int)).toNat = 2 from rfl] at Ga)
 (try rw [show 2 * 3 = 6 from rfl] at Ga)
 (try rw [show ((2 : Int)).toNat = 2 from rfl] at Ha)
 (try rw [show 2 * 3 = 6 from rfl] at Ha)
 replace Sa := eq_true Sa
 replace Ta := eq_true Ta
 refine start_ (n := 33) (S := fun w' => w'.cell? da = some (.bool ((r26_ aa 0).f0)) ∧ w'.cell? ⟨da.block, da.off + 1, none⟩ = some (.string ((r26_ aa 0).f1)) ∧ w'.cell? ⟨da.block, da.off + 2, none⟩ = some (.string ((r26_ aa 0).f2)) ∧ w'.cell? ⟨da.block, da.off + 3, none⟩ = some (.bool ((r26_ aa 1).f0)) ∧ w'.cell? ⟨da.block, da.off + 3 + 1, none⟩ = some (.string ((r26_ aa 1).f1)) ∧ w'.cell? ⟨da.block, da.off + 3 + 2, none⟩ = some (.string ((r26_ aa 1).f2)) ∧ w'.cell? ⟨da.block, da.off + 6, none⟩ = some (.bool ((r26_ aa 2).f0)) ∧ w'.cell? ⟨da.block, da.off + 6 + 1, none⟩ = some (.string ((r26_ aa 2).f1)) ∧ w'.cell? ⟨da.block, da.off + 6 + 2, none⟩ = some (.string ((r26_ aa 2).f2))) (ds := []) #[false, false, false, false, false, false, false, false, false, false, false, false, false, false, false, false, false, false, false, false, false, false, false, false, false, false, false, false, false, false, false, false, false] kr_ rfl rfl ⟨za, Aa, Ba, Ca, Da, Ea, Fa, Ga, Ha⟩ (fun hHeld => ?_); refine with_tabW l14_awake.tab4 l14_awake.bits4 (fun HT_ HW_ => ?_)
 generalize w24.drew = w25 at ba ca HB za Aa Ba Ca Da Ea Fa Ga Ha hHeld ⊢
 refine pu_ (i := 0) (N := some 19) (v := ?_) (a' := ?_) #[true, false, false, false, false, false, false, false, false, false, false, false, false, false, false, false, false, false, false, false, false, false, false, false, false, false, false, false, false, false, false, false, false] rfl rfl (an_ HT_.out kr_) (fun _ _ _ h => h) (Or.inl ⟨by rfl, ?_⟩) ?_ ?_
 rotate_left
 ·intro w'
  go_simp
  with_reducible rfl
 rotate_left
 ·simp only [Act.put, s1_, s2_, s3_, i6_, i3_]
  rfl
 refine pu_ (i := 1) (N := some 20) (v := ?_) (a' := ?_) #[true, true, false, false, false, false, false, false, false, false, false, false, false, false, false, false, false, false, false, false, false, false, false, false, false, false, false, false, false, false, false, false, false] rfl rfl (an_ HT_.out kr_) (fun _ _ _ h => h) (Or.inl ⟨by rfl, ?_⟩) ?_ ?_
 rotate_left
 ·intro w'
  go_simp
  with_reducible rfl
 rotate_left
 ·simp only [Act.put, s1_, s2_, s3_, i6_, i3_]
  rfl
 refine pu_ (i := 2) (N := some 21) (v := ?_) (a' := ?_) #[true, true, true, false, false, false, false, false, false, false, false, false, false, false, false, false, false, false, false, false, false, false, false, false, false, false, false, false, false, false, false, false, false] rfl rfl (an_ HT_.out kr_) (fun _ _ _ h => h) (Or.inl ⟨by rfl, ?_⟩) ?_ ?_
 rotate_left
 ·intro w'
  go_simp
  with_reducible rfl
 rotate_left
 ·simp only [Act.put, s1_, s2_, s3_, i6_, i3_]
  rfl
 refine pu_ (i := 3) (N := some 22) (v := ?_) (a' := ?_) #[true, true, true, true, false, false, false, false, false, false, false, false, false, false, false, false, false, false, false, false, false, false, false, false, false, false, false, false, false, false, false, false, false] rfl rfl (an_ HT_.out kr_) (fun _ _ _ h => h) (Or.inl ⟨by rfl, ?_⟩) ?_ ?_
 rotate_left
 ·intro w'
  go_simp
  with_reducible rfl
 rotate_left
 ·simp only [Act.put, s1_, s2_, s3_, i6_, i3_]
  rfl
 refine pu_ (i := 4) (N := some 23) (v := ?_) (a' := ?_) #[true, true, true, true, true, false, false, false, false, false, false, false, false, false, false, false, false, false, false, false, false, false, false, false, false, false, false, false, false, false, false, false, false] rfl rfl (an_ HT_.out kr_) (fun _ _ _ h => h) (Or.inl ⟨by rfl, ?_⟩) ?_ ?_
 rotate_left
 ·intro w'
  go_simp
  with_reducible rfl
 rotate_left
 ·simp only [Act.put, s1_, s2_, s3_, i6_, i3_]
  rfl
 refine pu_ (i := 5) (N := some 24) (v := ?_) (a' := ?_) #[true, true, true, true, true, true, false, false, false, false, false, false, false, false, false, false, false, false, false, false, false, false, false, false, false, false, false, false, false, false, false, false, false] rfl rfl (an_ HT_.out kr_) (fun _ _ _ h => h) (Or.inl ⟨by rfl, ?_⟩) ?_ ?_
 rotate_left
 ·intro w'
  go_simp
  with_reducible rfl
 rotate_left
 ·simp only [Act.put, s1_, s2_, s3_, i6_, i3_]
  rfl
 refine pu_ (i := 6) (N := some 25) (v := ?_) (a' := ?_) #[true, true, true, true, true, true, true, false, false, false, false, false, false, false, false, false, false, false, false, false, false, false, false, false, false, false, false, false, false, false, false, false, false] rfl rfl (an_ HT_.out kr_) (fun _ _ _ h => h) (Or.inl ⟨by rfl, ?_⟩) ?_ ?_
 rotate_left
 ·intro w'
  go_simp
  with_reducible rfl
 rotate_left
 ·simp only [Act.put, s1_, s2_, s3_, i6_, i3_]
  rfl
 refine pu_ (i := 7) (N := some 26) (v := ?_) (a' := ?_) #[true, true, true, true, true, true, true, true, false, false, false, false, false, false, false, false, false, false, false, false, false, false, false, false, false, false, false, false, false, false, false, false, false] rfl rfl (an_ HT_.out kr_) (fun _ _ _ h => h) (Or.inl ⟨by rfl, ?_⟩) ?_ ?_
 rotate_left
 ·intro w'
  go_simp
  with_reducible rfl
 rotate_left
 ·simp only [Act.put, s1_, s2_, s3_, i6_, i3_]
  rfl
 refine pu_ (i := 8) (N := some 27) (v := ?_) (a' := ?_) #[true, true, true, true, true, true, true, true, true, false, false, false, false, false, false, false, false, false, false, false, false, false, false, false, false, false, false, false, false, false, false, false, false] rfl rfl (an_ HT_.out kr_) (fun _ _ _ h => h) (Or.inl ⟨by rfl, ?_⟩) ?_ ?_
 rotate_left
 ·intro w'
  go_simp
  with_reducible rfl
 rotate_left
 ·simp only [Act.put, s1_, s2_, s3_, i6_, i3_]
  rfl
 refine pu_ (i := 9) (N := some 28) (v := ?_) (a' := ?_) #[true, true, true, true, true, true, true, true, true, true, false, false, false, false, false, false, false, false, false, false, false, false, false, false, false, false, false, false, false, false, false, false, false] rfl rfl (an_ HT_.out kr_) (fun _ _ _ h => h) (Or.inl ⟨by rfl, ?_⟩) ?_ ?_
 rotate_left
 ·intro w'
  go_simp
  with_reducible rfl
 rotate_left
 ·simp only [Act.put, s1_, s2_, s3_, i6_, i3_]
  rfl
 refine take_ (i := 10) (N := some 29) (v := ?_) (a' := ?_) #[true, true, true, true, true, true, true, true, true, true, true, false, false, false, false, false, false, false, false, false, false, false, false, false, false, false, false, false, false, false, false, false, false] rfl rfl (tW_ HT_.out HW_.out kr_) (fun _ _ _ h => h) (Or.inl ⟨by rfl, ?_⟩) hHeld ?_ ?_
 rotate_left
 ·rintro w' ⟨s0, s1, s2, s3, s4, s5, s6, s7, s8⟩
  go_simp
  with_reducible rfl
 rotate_left
 ·simp only [Act.put, s1_, s2_, s3_, i6_, i3_]
  rfl
 refine one_ (i := 11) (N := some 30) #[true, true, true, true, true, true, true, true, true, true, true, true, false, false, false, false, false, false, false, false, false, false, false, false, false, false, false, false, false, false, false, false, false] rfl rfl (one_of HT_.out kr_) (by decide) (fun K hK => ?_)
 refine goes_ Tryd.func29 kr_ rfl #[.int .i64 25] (by rfl) rfl rfl mp_ ?_
 with_reducible refine (q_Int.calls k 25 pa qa ra _ A9.out).mono ?_
 rintro e w27 ⟨rfl, hb⟩
 have HS0_ := (hb.cell (World.block_lt_of_cell? _ _ (hHeld.1))).trans (hHeld.1)
 have HS1_ := (hb.cell (World.block_lt_of_cell? _ _ (hHeld.2.1))).trans (hHeld.2.1)
 have HS2_ := (hb.cell (World.block_lt_of_cell? _ _ (hHeld.2.2.1))).trans (hHeld.2.2.1)
 have HS3_ := (hb.cell (World.block_lt_of_cell? _ _ (hHeld.2.2.2.1))).trans (hHeld.2.2.2.1)
 have HS4_ := (hb.cell (World.block_lt_of_cell? _ _ (hHeld.2.2.2.2.1))).trans (hHeld.2.2.2.2.1)
 have HS5_ := (hb.cell (World.block_lt_of_cell? _ _ (hHeld.2.2.2.2.2.1))).trans (hHeld.2.2.2.2.2.1)
 have HS6_ := (hb.cell (World.block_lt_of_cell? _ _ (hHeld.2.2.2.2.2.2.1))).trans (hHeld.2.2.2.2.2.2.1)
 have HS7_ := (hb.cell (World.block_lt_of_cell? _ _ (hHeld.2.2.2.2.2.2.2.1))).trans (hHeld.2.2.2.2.2.2.2.1)
 have HS8_ := (hb.cell (World.block_lt_of_cell? _ _ (hHeld.2.2.2.2.2.2.2.2))).trans (hHeld.2.2.2.2.2.2.2.2)
 refine ⟨_, rfl, ?_⟩
 have n0_ := A0_.mk (Kd.rB_ (xR_ ba.out) hb)
 have n1_ := A0_.mk (Kd.rB_ (xR_ ca.out) hb)
 have n2_ := A0_.mk (bT_ (xB_ HB) hb)
 clear ba
 clear ca
 clear HB
 have ba := n0_
 have ca := n1_
 have HB := n2_
 clear n0_ n1_ n2_
 (try clear hb)
 (try clear hb2)
 (try clear hk)
 (try clear hi)
 refine hK.out _ _ ⟨HS0_, HS1_, HS2_, HS3_, HS4_, HS5_, HS6_, HS7_, HS8_⟩ (fun hHeld => ?_)
 clear hK K
 refine norm_ (a' := ?_) ?_ ?_
 rotate_left
 ·show Act.put _ (some 30) _ = _
  simp only [Act.put, s1_, s2_, s3_, i6_, i3_]
  rfl
 refine pu_ (i := 12) (N := some 31) (v := ?_) (a' := ?_) #[true, true, true, true, true, true, true, true, true, true, true, true, true, false, false, false, false, false, false, false, false, false, false, false, false, false, false, false, false, false, false, false, false] rfl rfl (an_ HT_.out kr_) (fun _ _ _ h => h) (Or.inl ⟨by rfl, ?_⟩) ?_ ?_
 rotate_left
 ·intro w'
  go_simp
  with_reducible rfl
 rotate_left
 ·simp only [Act.put, s1_, s2_, s3_, i6_, i3_]
  rfl
 refine pu_ (i := 13) (N := some 32) (v := ?_) (a' := ?_) #[true, true, true, true, true, true, true, true, true, true, true, true, true, true, false, false, false, false, false, false, false, false, false, false, false, false, false, false, false, false, false, false, false] rfl rfl (an_ HT_.out kr_) (fun _ _ _ h => h) (Or.inl ⟨by rfl, ?_⟩) ?_ ?_
 rotate_left
 ·intro w'
  go_simp
  with_reducible rfl
 rotate_left
 ·simp only [Act.put, s1_, s2_, s3_, i6_, i3_]
  rfl
 refine pu_ (i := 14) (N := some 33) (v := ?_) (a' := ?_) #[true, true, true, true, true, true, true, true, true, true, true, true, true, true, true, false, false, false, false, false, false, false, false, false, false, false, false, false, false, false, false, false, false] rfl rfl (an_ HT_.out kr_) (fun _ _ _ h => h) (Or.inl ⟨by rfl, ?_⟩) ?_ ?_
 rotate_left
 ·intro w'
  go_simp
  with_reducible rfl
 rotate_left
 ·simp only [Act.put, s1_, s2_, s3_, i6_, i3_]
  rfl
 refine pu_ (i := 15) (N := some 34) (v := ?_) (a' := ?_) #[true, true, true, true, true, true, true, true, true, true, true, true, true, true, true, true, false, false, false, false, false, false, false, false, false, false, false, false, false, false, false, false, false] rfl rfl (an_ HT_.out kr_) (fun _ _ _ h => h) (Or.inl ⟨by rfl, ?_⟩) ?_ ?_
 rotate_left
 ·intro w'
  go_simp
  with_reducible rfl
 rotate_left
 ·simp only [Act.put, s1_, s2_, s3_, i6_, i3_]
  rfl
 refine pu_ (i := 16) (N := some 35) (v := ?_) (a' := ?_) #[true, true, true, true, true, true, true, true, true, true, true, true, true, true, true, true, true, false, false, false, false, false, false, false, false, false, false, false, false, false, false, false, false] rfl rfl (an_ HT_.out kr_) (fun _ _ _ h => h) (Or.inl ⟨by rfl, ?_⟩) ?_ ?_
 rotate_left
 ·intro w'
  go_simp
  with_reducible rfl
 rotate_left
 ·simp only [Act.put, s1_, s2_, s3_, i6_, i3_]
  rfl
 refine take_ (i := 17) (N := some 36) (v := ?_) (a' := ?_) #[true, true, true, true, true, true, true, true, true, true, true, true, true, true, true, true, true, true, false, false, false, false, false, false, false, false, false, false, false, false, false, false, false] rfl rfl (tW_ HT_.out HW_.out kr_) (fun _ _ _ h => h) (Or.inl ⟨by rfl, ?_⟩) hHeld ?_ ?_
 rotate_left
 ·rintro w' ⟨s0, s1, s2, s3, s4, s5, s6, s7, s8⟩
  go_simp
  with_reducible rfl
 rotate_left
 ·simp only [Act.put, s1_, s2_, s3_, i6_, i3_]
  rfl
 refine one_ (i := 18) (N := some 37) #[true, true, true, true, true, true, true, true, true, true, true, true, true, true, true, true, true, true, true, false, false, false, false, false, false, false, false, false, false, false, false, false, false] rfl rfl (one_of HT_.out kr_) (by decide) (fun K hK => ?_)
 refine goes_ Tryd.func29 kr_ rfl #[.int .i64 0] (by rfl) rfl rfl mp_ ?_
 with_reducible refine (q_Int.calls k 0 sa ta ua _ A12.out).mono ?_
 rintro e w28 ⟨rfl, hb⟩
 have HS0_ := (hb.cell (World.block_lt_of_cell? _ _ (hHeld.1))).trans (hHeld.1)
 have HS1_ := (hb.cell (World.block_lt_of_cell? _ _ (hHeld.2.1))).trans (hHeld.2.1)
 have HS2_ := (hb.cell (World.block_lt_of_cell? _ _ (hHeld.2.2.1))).trans (hHeld.2.2.1)
 have HS3_ := (hb.cell (World.block_lt_of_cell? _ _ (hHeld.2.2.2.1))).trans (hHeld.2.2.2.1)
 have HS4_ := (hb.cell (World.block_lt_of_cell? _ _ (hHeld.2.2.2.2.1))).trans (hHeld.2.2.2.2.1)
 have HS5_ := (hb.cell (World.block_lt_of_cell? _ _ (hHeld.2.2.2.2.2.1))).trans (hHeld.2.2.2.2.2.1)
 have HS6_ := (hb.cell (World.block_lt_of_cell? _ _ (hHeld.2.2.2.2.2.2.1))).trans (hHeld.2.2.2.2.2.2.1)
 have HS7_ := (hb.cell (World.block_lt_of_cell? _ _ (hHeld.2.2.2.2.2.2.2.1))).trans (hHeld.2.2.2.2.2.2.2.1)
 have HS8_ := (hb.cell (World.block_lt_of_cell? _ _ (hHeld.2.2.2.2.2.2.2.2))).trans (hHeld.2.2.2.2.2.2.2.2)
 refine ⟨_, rfl, ?_⟩
 have n0_ := A0_.mk (Kd.rB_ (xR_ ba.out) hb)
 have n1_ := A0_.mk (Kd.rB_ (xR_ ca.out) hb)
 have n2_ := A0_.mk (bT_ (xB_ HB) hb)
 clear ba
 clear ca
 clear HB
 have ba := n0_
 have ca := n1_
 have HB := n2_
 clear n0_ n1_ n2_
 (try clear hb)
 (try clear hb2)
 (try clear hk)
 (try clear hi)
 refine hK.out _ _ ⟨HS0_, HS1_, HS2_, HS3_, HS4_, HS5_, HS6_, HS7_, HS8_⟩ (fun hHeld => ?_)
 clear hK K
 refine norm_ (a' := ?_) ?_ ?_
 rotate_left
 ·show Act.put _ (some 37) _ = _
  simp only [Act.put, s1_, s2_, s3_, i6_, i3_]
  rfl
 refine pu_ (i := 19) (N := some 38) (v := ?_) (a' := ?_) #[true, true, true, true, true, true, true, true, true, true, true, true, true, true, true, true, true, true, true, true, false, false, false, false, false, false, false, false, false, false, false, false, false] rfl rfl (an_ HT_.out kr_) (fun _ _ _ h => h) (Or.inl ⟨by rfl, ?_⟩) ?_ ?_
 rotate_left
 ·intro w'
  go_simp
  with_reducible rfl
 rotate_left
 ·simp only [Act.put, s1_, s2_, s3_, i6_, i3_]
  rfl
 refine pu_ (i := 20) (N := some 39) (v := ?_) (a' := ?_) #[true, true, true, true, true, true, true, true, true, true, true, true, true, true, true, true, true, true, true, true, true, false, false, false, false, false, false, false, false, false, false, false, false] rfl rfl (an_ HT_.out kr_) (fun _ _ _ h => h) (Or.inl ⟨by rfl, ?_⟩) ?_ ?_
 rotate_left
 ·intro w'
  go_simp
  with_reducible rfl
 rotate_left
 ·simp only [Act.put, s1_, s2_, s3_, i6_, i3_]
  rfl
 refine pu_ (i := 21) (N := some 40) (v := ?_) (a' := ?_) #[true, true, true, true, true, true, true, true, true, true, true, true, true, true, true, true, true, true, true, true, true, true, false, false, false, false, false, false, false, false, false, false, false] rfl rfl (an_ HT_.out kr_) (fun _ _ _ h => h) (Or.inl ⟨by rfl, ?_⟩) ?_ ?_
 rotate_left
 ·intro w'
  go_simp
  with_reducible rfl
 rotate_left
 ·simp only [Act.put, s1_, s2_, s3_, i6_, i3_]
  rfl
 refine pu_ (i := 22) (N := some 41) (v := ?_) (a' := ?_) #[true, true, true, true, true, true, true, true, true, true, true, true, true, true, true, true, true, true, true, true, true, true, true, false, false, false, false, false, false, false, false, false, false] rfl rfl (an_ HT_.out kr_) (fun _ _ _ h => h) (Or.inl ⟨by rfl, ?_⟩) ?_ ?_
 rotate_left
 ·intro w'
  go_simp
  with_reducible rfl
 rotate_left
 ·simp only [Act.put, s1_, s2_, s3_, i6_, i3_]
  rfl
 refine pu_ (i := 23) (N := some 42) (v := ?_) (a' := ?_) #[true, true, true, true, true, true, true, true, true, true, true, true, true, true, true, true, true, true, true, true, true, true, true, true, false, false, false, false, false, false, false, false, false] rfl rfl (an_ HT_.out kr_) (fun _ _ _ h => h) (Or.inl ⟨by rfl, ?_⟩) ?_ ?_
 rotate_left
 ·intro w'
  go_simp
  with_reducible rfl
 rotate_left
 ·simp only [Act.put, s1_, s2_, s3_, i6_, i3_]
  rfl
 refine take_ (i := 24) (N := some 43) (v := ?_) (a' := ?_) #[true, true, true, true, true, true, true, true, true, true, true, true, true, true, true, true, true, true, true, true, true, true, true, true, true, false, false, false, false, false, false, false, false] rfl rfl (tW_ HT_.out HW_.out kr_) (fun _ _ _ h => h) (Or.inl ⟨by rfl, ?_⟩) hHeld ?_ ?_
 rotate_left
 ·rintro w' ⟨s0, s1, s2, s3, s4, s5, s6, s7, s8⟩
  go_simp
  with_reducible rfl
 rotate_left
 ·simp only [Act.put, s1_, s2_, s3_, i6_, i3_]
  rfl
 refine one_ (i := 25) (N := some 44) #[true, true, true, true, true, true, true, true, true, true, true, true, true, true, true, true, true, true, true, true, true, true, true, true, true, true, false, false, false, false, false, false, false] rfl rfl (one_of HT_.out kr_) (by decide) (fun K hK => ?_)
 refine goes_ Tryd.func29 kr_ rfl #[.int .i64 0] (by rfl) rfl rfl mp_ ?_
 with_reducible refine (q_Int.calls k 0 va wa xa _ A15.out).mono ?_
 rintro e w29 ⟨rfl, hb⟩
 have HS0_ := (hb.cell (World.block_lt_of_cell? _ _ (hHeld.1))).trans (hHeld.1)
 have HS1_ := (hb.cell (World.block_lt_of_cell? _ _ (hHeld.2.1))).trans (hHeld.2.1)
 have HS2_ := (hb.cell (World.block_lt_of_cell? _ _ (hHeld.2.2.1))).trans (hHeld.2.2.1)
 have HS3_ := (hb.cell (World.block_lt_of_cell? _ _ (hHeld.2.2.2.1))).trans (hHeld.2.2.2.1)
 have HS4_ := (hb.cell (World.block_lt_of_cell? _ _ (hHeld.2.2.2.2.1))).trans (hHeld.2.2.2.2.1)
 have HS5_ := (hb.cell (World.block_lt_of_cell? _ _ (hHeld.2.2.2.2.2.1))).trans (hHeld.2.2.2.2.2.1)
 have HS6_ := (hb.cell (World.block_lt_of_cell? _ _ (hHeld.2.2.2.2.2.2.1))).trans (hHeld.2.2.2.2.2.2.1)
 have HS7_ := (hb.cell (World.block_lt_of_cell? _ _ (hHeld.2.2.2.2.2.2.2.1))).trans (hHeld.2.2.2.2.2.2.2.1)
 have HS8_ := (hb.cell (World.block_lt_of_cell? _ _ (hHeld.2.2.2.2.2.2.2.2))).trans (hHeld.2.2.2.2.2.2.2.2)
 refine ⟨_, rfl, ?_⟩
 have n0_ := A0_.mk (Kd.rB_ (xR_ ba.out) hb)
 have n1_ := A0_.mk (Kd.rB_ (xR_ ca.out) hb)
 have n2_ := A0_.mk (bT_ (xB_ HB) hb)
 clear ba
 clear ca
 clear HB
 have ba := n0_
 have ca := n1_
 have HB := n2_
 clear n0_ n1_ n2_
 (try clear hb)
 (try clear hb2)
 (try clear hk)
 (try clear hi)
 refine hK.out _ _ ⟨HS0_, HS1_, HS2_, HS3_, HS4_, HS5_, HS6_, HS7_, HS8_⟩ (fun hHeld => ?_)
 clear hK K
 refine norm_ (a' := ?_) ?_ ?_
 rotate_left
 ·show Act.put _ (some 44) _ = _
  simp only [Act.put, s1_, s2_, s3_, i6_, i3_]
  rfl
 refine pu_ (i := 26) (N := some 45) (v := ?_) (a' := ?_) #[true, true, true, true, true, true, true, true, true, true, true, true, true, true, true, true, true, true, true, true, true, true, true, true, true, true, true, false, false, false, false, false, false] rfl rfl (an_ HT_.out kr_) (fun _ _ _ h => h) (Or.inl ⟨by rfl, ?_⟩) ?_ ?_
 rotate_left
 ·intro w'
  go_simp
  with_reducible rfl
 rotate_left
 ·simp only [Act.put, s1_, s2_, s3_, i6_, i3_]
  rfl
 refine pu_ (i := 27) (N := some 46) (v := ?_) (a' := ?_) #[true, true, true, true, true, true, true, true, true, true, true, true, true, true, true, true, true, true, true, true, true, true, true, true, true, true, true, true, false, false, false, false, false] rfl rfl (an_ HT_.out kr_) (fun _ _ _ h => h) (Or.inl ⟨by rfl, ?_⟩) ?_ ?_
 rotate_left
 ·intro w'
  go_simp
  with_reducible rfl
 rotate_left
 ·simp only [Act.put, s1_, s2_, s3_, i6_, i3_]
  rfl
 refine pu_ (i := 28) (N := some 47) (v := ?_) (a' := ?_) #[true, true, true, true, true, true, true, true, true, true, true, true, true, true, true, true, true, true, true, true, true, true, true, true, true, true, true, true, true, false, false, false, false] rfl rfl (an_ HT_.out kr_) (fun _ _ _ h => h) (Or.inl ⟨by rfl, ?_⟩) ?_ ?_
 rotate_left
 ·intro w'
  go_simp
  with_reducible rfl
 rotate_left
 ·simp only [Act.put, s1_, s2_, s3_, i6_, i3_]
  rfl
 refine pu_ (i := 29) (N := some 48) (v := ?_) (a' := ?_) #[true, true, true, true, true, true, true, true, true, true, true, true, true, true, true, true, true, true, true, true, true, true, true, true, true, true, true, true, true, true, false, false, false] rfl rfl (an_ HT_.out kr_) (fun _ _ _ h => h) (Or.inl ⟨by rfl, ?_⟩) ?_ ?_
 rotate_left
 ·intro w'
  go_simp
  with_reducible rfl
 rotate_left
 ·simp only [Act.put, s1_, s2_, s3_, i6_, i3_]
  rfl
 refine pu_ (i := 30) (N := some 49) (v := ?_) (a' := ?_) #[true, true, true, true, true, true, true, true, true, true, true, true, true, true, true, true, true, true, true, true, true, true, true, true, true, true, true, true, true, true, true, false, false] rfl rfl (an_ HT_.out kr_) (fun _ _ _ h => h) (Or.inl ⟨by rfl, ?_⟩) ?_ ?_
 rotate_left
 ·intro w'
  go_simp
  with_reducible rfl
 rotate_left
 ·simp only [Act.put, s1_, s2_, s3_, i6_, i3_]
  rfl
 refine pu_ (i := 31) (N := some 50) (v := ?_) (a' := ?_) #[true, true, true, true, true, true, true, true, true, true, true, true, true, true, true, true, true, true, true, true, true, true, true, true, true, true, true, true, true, true, true, true, false] rfl rfl (an_ HT_.out kr_) (fun _ _ _ h => h) (Or.inl ⟨by rfl, ?_⟩) ?_ ?_
 rotate_left
 ·intro w'
  go_simp
  with_reducible rfl
 rotate_left
 ·simp only [Act.put, s1_, s2_, s3_, i6_, i3_]
  rfl
 refine pu_ (i := 32) (N := some 0) (v := ?_) (a' := ?_) #[true, true, true, true, true, true, true, true, true, true, true, true, true, true, true, true, true, true, true, true, true, true, true, true, true, true, true, true, true, true, true, true, true] rfl rfl (an_ HT_.out kr_) (fun _ _ _ h => h) (Or.inl ⟨by rfl, ?_⟩) ?_ ?_
 rotate_left
 ·intro w'
  go_simp
  with_reducible rfl
 rotate_left
 ·simp only [Act.put, s1_, s2_, s3_, i6_, i3_]
  rfl
 refine done_ (done_of HT_.out kr_) ?_
 try go_wp2
 go_ret
 exact ⟨rE_, xB_ HB⟩
mutual
def l14_SetoffOldest.j0 : Nat → List (S28) → Int → Int → List (S26) → Bool → Option (Bool)
 | 0, _, _, _, _, _ => none
 | k + 1, x7, x8, x9, x10, x40 => if x40 = true then (none) else (l14_SetoffOldest.l0 k x7 x8 x9 x10 x7 (x7.length : Int) 0)
def l14_SetoffOldest.l0 : Nat → List (S28) → Int → Int → List (S26) → List (S28) → Int → Int → Option (Bool)
 | 0, _, _, _, _, _, _, _ => none
 | k + 1, x7, x8, x9, x10, x41, x42, x43 => if x43 < x42 then (if 0 ≤ x43 then (if x43 < (x41.length : Int) then (l14_SetoffOldest.l1 k x7 x8 x9 x10 x43 x41 x42 x43 x7 (x7.length : Int) 0 ((r28_ x41 x43).f0) ((r28_ x41 x43).f1) ((r28_ x41 x43).f2.f0) ((r28_ x41 x43).f2.f1) ((r28_ x41 x43).f2.f2) ((r28_ x41 x43).f3) ((r28_ x41 x43).f4) ((r28_ x41 x43).f5)) else (none)) else (none)) else ((l14_awake.f k).bind fun t871 => (some t871))
def l14_SetoffOldest.l1 : Nat → List (S28) → Int → Int → List (S26) → Int → List (S28) → Int → Int → List (S28) → Int → Int → Int → Int → Bool → ByteArray → ByteArray → Int → Int → Bool → Option (Bool)
 | 0, _, _, _, _, _, _, _, _, _, _, _, _, _, _, _, _, _, _, _ => none
 | k + 1, x7, x8, x9, x10, x12, x41, x42, x43, x48, x49, x50, x864000, x864001, x864002, x864003, x864004, x864005, x864006, x864007 => if x50 < x49 then (if 0 ≤ x50 then (if x50 < (x48.length : Int) then (if x864005 < ((r28_ x48 x50).f3) then (l14_SetoffOldest.j3 k x7 x8 x9 x10 x12 x50 true x41 x42 x43 x48 x49 x50 x864000 x864001 x864002 x864003 x864004 x864005 x864006 x864007 ((r28_ x48 x50).f0) ((r28_ x48 x50).f1) ((r28_ x48 x50).f2.f0) ((r28_ x48 x50).f2.f1) ((r28_ x48 x50).f2.f2) ((r28_ x48 x50).f3) ((r28_ x48 x50).f4) ((r28_ x48 x50).f5)) else (if x864005 = ((r28_ x48 x50).f3) then (l14_SetoffOldest.j3 k x7 x8 x9 x10 x12 x50 (decide (x12 < x50)) x41 x42 x43 x48 x49 x50 x864000 x864001 x864002 x864003 x864004 x864005 x864006 x864007 ((r28_ x48 x50).f0) ((r28_ x48 x50).f1) ((r28_ x48 x50).f2.f0) ((r28_ x48 x50).f2.f1) ((r28_ x48 x50).f2.f2) ((r28_ x48 x50).f3) ((r28_ x48 x50).f4) ((r28_ x48 x50).f5)) else (l14_SetoffOldest.j3 k x7 x8 x9 x10 x12 x50 false x41 x42 x43 x48 x49 x50 x864000 x864001 x864002 x864003 x864004 x864005 x864006 x864007 ((r28_ x48 x50).f0) ((r28_ x48 x50).f1) ((r28_ x48 x50).f2.f0) ((r28_ x48 x50).f2.f1) ((r28_ x48 x50).f2.f2) ((r28_ x48 x50).f3) ((r28_ x48 x50).f4) ((r28_ x48 x50).f5)))) else (none)) else (none)) else (l14_SetoffOldest.l0 k x7 x8 x9 x10 x41 x42 (wrap64 (x43 + 1)))
def l14_SetoffOldest.j3 : Nat → List (S28) → Int → Int → List (S26) → Int → Int → Bool → List (S28) → Int → Int → List (S28) → Int → Int → Int → Int → Bool → ByteArray → ByteArray → Int → Int → Bool → Int → Int → Bool → ByteArray → ByteArray → Int → Int → Bool → Option (Bool)
 | 0, _, _, _, _, _, _, _, _, _, _, _, _, _, _, _, _, _, _, _, _, _, _, _, _, _, _, _, _, _ => none
 | k + 1, x7, x8, x9, x10, x12, x14, x16, x41, x42, x43, x48, x49, x50, x864000, x864001, x864002, x864003, x864004, x864005, x864006, x864007, x866000, x866001, x866002, x866003, x866004, x866005, x866006, x866007 => if x864000 = x866000 then (if x864001 = x866001 then ((so_Eligible.f x864000 x864001 x864002 x864003 x864004 x864005 x864006 x864007 x8 x9).bind fun t866 => (if t866 = true then ((so_Eligible.f x866000 x866001 x866002 x866003 x866004 x866005 x866006 x866007 x8 x9).bind fun t867 => (l14_SetoffOldest.j4 k x7 x8 x9 x10 x12 x14 x16 t867 x41 x42 x43 x48 x49 x50 x864000 x864001 x864002 x864003 x864004 x864005 x864006 x864007 x866000 x866001 x866002 x866003 x866004 x866005 x866006 x866007)) else (l14_SetoffOldest.j4 k x7 x8 x9 x10 x12 x14 x16 false x41 x42 x43 x48 x49 x50 x864000 x864001 x864002 x864003 x864004 x864005 x864006 x864007 x866000 x866001 x866002 x866003 x866004 x866005 x866006 x866007))) else (l14_SetoffOldest.j4 k x7 x8 x9 x10 x12 x14 x16 false x41 x42 x43 x48 x49 x50 x864000 x864001 x864002 x864003 x864004 x864005 x864006 x864007 x866000 x866001 x866002 x866003 x866004 x866005 x866006 x866007)) else (l14_SetoffOldest.j4 k x7 x8 x9 x10 x12 x14 x16 false x41 x42 x43 x48 x49 x50 x864000 x864001 x864002 x864003 x864004 x864005 x864006 x864007 x866000 x866001 x866002 x866003 x866004 x866005 x866006 x866007)
def l14_SetoffOldest.j4 : Nat → List (S28) → Int → Int → List (S26) → Int → Int → Bool → Bool → List (S28) → Int → Int → List (S28) → Int → Int → Int → Int → Bool → ByteArray → ByteArray → Int → Int → Bool → Int → Int → Bool → ByteArray → ByteArray → Int → Int → Bool → Option (Bool)
 | 0, _, _, _, _, _, _, _, _, _, _, _, _, _, _, _, _, _, _, _, _, _, _, _, _, _, _, _, _, _, _ => none
 | k + 1, x7, x8, x9, x10, x12, x14, x16, x17, x41, x42, x43, x48, x49, x50, x864000, x864001, x864002, x864003, x864004, x864005, x864006, x864007, x866000, x866001, x866002, x866003, x866004, x866005, x866006, x866007 => if x16 = true then (if x17 = true then (if 0 ≤ x14 then (if x14 < (x10.length : Int) then (if (!(((r26_ x10 x14).f0) == x866002) || (!((((r26_ x10 x14).f1).toList) == x866003.toList) || (!((((r26_ x10 x14).f2).toList) == x866004.toList)))) = true then (if 0 ≤ x12 then (if x12 < (x10.length : Int) then ((q_Sign.f k ((r26_ x10 x12).f0) ((r26_ x10 x12).f1) ((r26_ x10 x12).f2)).bind fun t870 => (l14_SetoffOldest.j5 k x7 x8 x9 x10 x12 x41 x42 x43 x48 x49 x50 (t870 != 0) x864000 x864001 x864002 x864003 x864004 x864005 x864006 x864007)) else (none)) else (none)) else (l14_SetoffOldest.j5 k x7 x8 x9 x10 x12 x41 x42 x43 x48 x49 x50 false x864000 x864001 x864002 x864003 x864004 x864005 x864006 x864007)) else (none)) else (none)) else (l14_SetoffOldest.j5 k x7 x8 x9 x10 x12 x41 x42 x43 x48 x49 x50 false x864000 x864001 x864002 x864003 x864004 x864005 x864006 x864007)) else (l14_SetoffOldest.j5 k x7 x8 x9 x10 x12 x41 x42 x43 x48 x49 x50 false x864000 x864001 x864002 x864003 x864004 x864005 x864006 x864007)
def l14_SetoffOldest.j5 : Nat → List (S28) → Int → Int → List (S26) → Int → List (S28) → Int → Int → List (S28) → Int → Int → Bool → Int → Int → Bool → ByteArray → ByteArray → Int → Int → Bool → Option (Bool)
 | 0, _, _, _, _, _, _, _, _, _, _, _, _, _, _, _, _, _, _, _, _ => none
 | k + 1, x7, x8, x9, x10, x12, x41, x42, x43, x48, x49, x50, x116, x864000, x864001, x864002, x864003, x864004, x864005, x864006, x864007 => if x116 = true then (none) else (l14_SetoffOldest.l1 k x7 x8 x9 x10 x12 x41 x42 x43 x48 x49 (wrap64 (x50 + 1)) x864000 x864001 x864002 x864003 x864004 x864005 x864006 x864007)
end
def l14_SetoffOldest.f (k : Nat) (l0 : List (S46)) (a1 : Int) (a2 : Int) : Option (Bool) := (l0_Obligations.f k l0).bind fun t855 => ((so_Apply.f k 4 t855 (wrap64 (a1)) (wrap64 (Int.tmod a2 40))).bind fun bt858 => (if bt858.2 = 0 then (l14_SetoffOldest.j0 k t855 (wrap64 (a1)) (wrap64 (Int.tmod a2 40)) bt858.1 ((bt858.1.length : Int) != (t855.length : Int))) else (l14_SetoffOldest.j0 k t855 (wrap64 (a1)) (wrap64 (Int.tmod a2 40)) bt858.1 true)))
def l14_SetoffOldest.T14 : Bool × List (List Nat × List Nat) := (true, [([], []), ([0], [0]), ([1], [1]), ([1, 2], [1, 2]), ([3, 1], [3]), ([4], [4]), ([4], [4]), ([5, 6, 4], [4, 5, 6]), ([7, 4], [4, 7]), ([4], [4]), ([9, 4], [4, 9]), ([8, 10, 4], [4, 8, 10]), ([4, 11], [4, 11]), ([12, 4], [12]), ([13], [13]), ([13], [13]), ([14, 15, 13], [13, 14, 15]), ([16, 13], [13, 16]), ([17, 13, 13], [13, 17]), ([18, 13], [13, 18]), ([13, 19], [13, 19])])
def l14_SetoffOldest.B14 : List Nat := [0, 1, 3, 7, 15, 31, 31, 127, 255, 31, 543, 2047, 4095, 8191, 16383, 16383, 65535, 131071, 262143, 524287, 1048575]
theorem l14_SetoffOldest.tab14 : rtab .any (opsOf Tryd.f7 14) = l14_SetoffOldest.T14 := by kernel_rfl
theorem l14_SetoffOldest.bits14 : waitsOk l14_SetoffOldest.T14.2 l14_SetoffOldest.B14 = true := by kernel_rfl
theorem l14_SetoffOldest.calls (k : Nat) (A0 : Option Addr) (c0 : Nat) (l0 : List (S46)) (a1 : Int) (a2 : Int) (r : Bool) (w : World) (hr0 : Kd.C k46 w A0 l0.length l0) (hc0 : l0.length ≤ c0) (h : l14_SetoffOldest.f k l0 a1 a2 = some r) :
  Calls Tryd.prog 7 #[.slice A0 l0.length c0, .int .u8 a1, .int .u8 a2] w fun e w' => e = .returned (.bool r) ∧ Below w.heap.size w w' := by
 have hu28 := Tryd.underlying28
 have hu26 := Tryd.underlying26
 have HR0 := A0_.mk hr0
 have HC0 := A0_.mk hc0
 clear hr0 hc0
 have HB := A0_.mk (Below.refl w.heap.size w)
 have H := h
 unfold l14_SetoffOldest.f at H
 clear h
 obtain ⟨aa, A4, H⟩ := oB_ H
 (try dsimp only at H)
 obtain ⟨⟨ha, za⟩, A5, H⟩ := oB_ H
 (try dsimp only at H)
 have HC6 := A0_.mk H
 clear H
 go_enter Tryd.func7, Tryd.ntmps7
 go_upto_region 4 with (first | ((with_reducible refine gC_ (f := 17) rfl ?_); refine gL_ (some 19) rfl rfl Tryd.func17 kr_ rfl #[.slice A0 l0.length c0] rfl mp_ ?_; (with_reducible refine (l0_Obligations.calls k _ _ l0 aa _ ?side1 ?side2 A4.out).mono ?_); (case side1 => repeat (first | exact HR0.out | (with_reducible refine Kd.C_alloc ?_ _) | (with_reducible refine Kd.C_drewN ?_ _) | (with_reducible refine Kd.C_drew ?_))); (case side2 => exact HC0.out); rintro e w7 ⟨kh, rfl, ho0, hb⟩; refine ⟨_, rfl, ?_⟩; have n0_ := A0_.mk (Kd.rL_ ho0 (bZ_ (xB_ HB))); have n1_ := A0_.mk (bT_ (xB_ HB) hb); clear HB; have sa := n0_; have HB := n1_; clear n0_ n1_; (try clear hb); (try clear hb2); (try clear hk); (try clear hi); (try clear ho0); obtain ⟨Ao8, co8, eo8⟩ := Kd.rS_' sa.out; subst eo8) | ((with_reducible refine gC_ (f := 18) rfl ?_); refine gL_ (some 29) rfl rfl Tryd.func18 kr_ rfl #[.int .i64 4, .slice Ao8 aa.length co8, .int .i64 (wrap64 (a1)), .int .i64 (wrap64 (Int.tmod a2 40))] rfl mp_ ?_; (with_reducible refine (so_Apply.calls k 4 _ _ aa (wrap64 (a1)) (wrap64 (Int.tmod a2 40)) ha za _ ?side1 ?side2 A5.out).mono ?_); (case side1 => repeat (first | exact (Kd.rr_' sa.out).2.2 | (with_reducible refine Kd.C_alloc ?_ _) | (with_reducible refine Kd.C_drewN ?_ _) | (with_reducible refine Kd.C_drew ?_))); (case side2 => exact (Kd.rr_' sa.out).2.1); rintro e w9 ⟨Aa, rfl, ho0, hb⟩; refine ⟨_, rfl, ?_⟩; have n0_ := A0_.mk (Kd.rB_ (xR_ sa.out) hb); have n1_ := A0_.mk (Kd.rL_ ho0 (bZ_ (xB_ HB))); have n2_ := A0_.mk (bT_ (xB_ HB) hb); clear sa HB; have sa := n0_; have Qa := n1_; have HB := n2_; clear n0_ n1_ n2_; (try clear hb); (try clear hb2); (try clear hk); (try clear hi); (try clear ho0)))
 (try simp only [Act.put, s1_, s2_, s3_])
 go_cut [40] (fun v40 wc => ∃ (kq : Nat) (La : Bool), v40 = .bool La ∧ A0_ (l14_SetoffOldest.j0 kq aa (wrap64 (a1)) (wrap64 (Int.tmod a2 40)) ha La = some r) ∧ A0_ (kq ≤ k) ∧ A0_ (Kd.R k28 28 wc w.heap.size (fun _ => True) (.slice Ao8 aa.length co8) aa) ∧ A0_ (Kd.R k26 26 wc w.heap.size (fun _ => True) Aa ha) ∧ A0_ (Below w.heap.size w wc))
 case first =>
  have H := HC6.out
  clear HC6
  by_cases c10 : za = 0
  ·rw [if_pos c10] at H
   have ra : (za == 0) = true := beq_iff_eq.mpr c10
   have ta : (za != 0) = false := bne_eq_false_iff_eq.mpr c10
   clear c10
   (first | rw [ra] | rw [ta] | (simp only [i6_, i3_]; rw [ra]) | skip)
   have H' := A0_.mk H
   clear H
   obtain ⟨lh, mh, je⟩ := Kd.rS_' Qa.out
   subst je
   go_wp2
   go_meet
   case rel => exact ⟨_, (((ha.length : Int) != (aa.length : Int))), (rS_), H', ⟨by first | omega | exact Nat.le_refl _⟩, ⟨by (with_reducible repeat (first | apply Kd.R_alloc | apply Kd.rN_ | apply Kd.rD_)); exact sa.out⟩, ⟨by (with_reducible repeat (first | apply Kd.R_alloc | apply Kd.rN_ | apply Kd.rD_)); exact Qa.out⟩, ⟨xB_ HB⟩⟩
  ·rw [if_neg c10] at H
   have ra : (za == 0) = false := beq_eq_false_iff_ne.mpr c10
   have ta : (za != 0) = true := bne_iff_ne.mpr c10
   (first | rw [ra] | rw [ta] | (simp only [i6_, i3_]; rw [ra]) | skip)
   have H' := A0_.mk H
   clear H
   go_wp2
   go_meet
   case rel => exact ⟨_, (true), (rS_), H', ⟨by first | omega | exact Nat.le_refl _⟩, ⟨by (with_reducible repeat (first | apply Kd.R_alloc | apply Kd.rN_ | apply Kd.rD_)); exact sa.out⟩, ⟨by (with_reducible repeat (first | apply Kd.R_alloc | apply Kd.rN_ | apply Kd.rD_)); exact Qa.out⟩, ⟨xB_ HB⟩⟩
 case rest =>
  clear HC6
  try clear c1
  try clear p2
  try clear p6
  try clear c7
  try clear c10
  try clear ra
  try clear ta
  obtain ⟨kq, La, rfl, HA, HJ5, ja, ia, HB⟩ := hcut
  cases kq with
  | zero => exact absurd HA.out (by simp [l14_SetoffOldest.j0])
  | succ kj5 =>
   have H := HA.out
   clear HA
   simp only [l14_SetoffOldest.j0] at H
   by_cases c12 : La = true
   ·subst c12
    have H1 : (none) = some r := by rw [if_pos rfl] at H; exact H
    exact absurd H1 (by simp)
   ·replace c12 := Bool.eq_false_iff.mpr c12
    subst c12
    have H1 : (l14_SetoffOldest.l0 kj5 aa (wrap64 (a1)) (wrap64 (Int.tmod a2 40)) ha aa (aa.length : Int) 0) = some r := by rw [if_neg (show ¬ (false = true) by decide)] at H; exact H
    clear H
    have H := H1
    clear H1
    have H' := A0_.mk H
    clear H
    go_wp2
    go_loopg [43] kj5 (fun kq v43 w' => ∃ (ca : Int), v43 = .int .i64 ca ∧ A0_ (l14_SetoffOldest.l0 kq aa (wrap64 (a1)) (wrap64 (Int.tmod a2 40)) ha aa (aa.length : Int) ca = some r) ∧ A0_ (kq ≤ kj5) ∧ A0_ (Kd.R k28 28 w' w.heap.size (fun _ => True) (.slice Ao8 aa.length co8) aa) ∧ A0_ (Kd.R k26 26 w' w.heap.size (fun _ => True) Aa ha) ∧ A0_ (Kd.R k28 28 w' w.heap.size (fun _ => True) (.slice Ao8 aa.length co8) aa) ∧ A0_ (Below w.heap.size w w'))
    case atStart => exact ⟨(0), (rS_), H', ⟨Nat.le_refl _⟩, ⟨by (with_reducible repeat (first | apply Kd.R_alloc | apply Kd.rN_ | apply Kd.rD_)); exact ja.out⟩, ⟨by (with_reducible repeat (first | apply Kd.R_alloc | apply Kd.rN_ | apply Kd.rD_)); exact ia.out⟩, ⟨by (with_reducible repeat (first | apply Kd.R_alloc | apply Kd.rN_ | apply Kd.rD_)); exact ja.out⟩, ⟨xB_ HB⟩⟩
    case round =>
     clear H'
     try clear c1
     try clear p2
     try clear p6
     try clear c7
     try clear c10
     try clear ra
     try clear ta
     try clear c12
     try clear p2
     try clear p6
     obtain ⟨ca, rfl, HA, HK2, ja, ia, ka, HB⟩ := hrel
     cases gk with
     | zero => exact absurd HA.out (by simp [l14_SetoffOldest.l0])
     | succ k2 =>
      have H := HA.out
      clear HA
      simp only [l14_SetoffOldest.l0] at H
      by_cases c13 : ca < (aa.length : Int)
      ·rw [if_pos c13] at H
       have Ma : decide (ca < (aa.length : Int)) = true := decide_eq_true c13
       clear c13
       by_cases c14 : 0 ≤ ca
       rotate_left
       ·rw [if_neg c14] at H
        exact absurd H (by simp)
       rw [if_pos c14] at H
       have Ra : decide (0 ≤ ca) = true := decide_eq_true c14
       clear c14
       by_cases c15 : ca < (aa.length : Int)
       rotate_left
       ·rw [if_neg c15] at H
        exact absurd H (by simp)
       rw [if_pos c15] at H
       have Sa : decide (ca < (aa.length : Int)) = true := decide_eq_true c15
       clear c15
       have H' := A0_.mk H
       clear H
       have Ba : 0 ≤ (ca : Int) := oD_
       have Ca : ca < (aa.length : Int) := oD_
       obtain ⟨qa, ke, Ta, Ua, Va, Wa, Xa, Ya, Za, ab⟩ := at_T28 (Kd.rr_' ka.out).2.2 ca Ba Ca
       cases ke
       replace Ba := eq_true Ba
       replace Ca := eq_true Ca
       go_wp2_with (first | ((with_reducible refine gD_ (N := 13) rfl ?_); (try (refine gate_guard (by rfl) ?_; dsimp only)); refine bE_ ?hg (N := 13) ?hd (cs := #[.int .i64 0, .int .i64 0, .bool false, .string (⟨#[]⟩ : ByteArray), .string (⟨#[]⟩ : ByteArray), .int .i64 0, .int .i64 0, .bool false]) (t := 28) ?hr ?_; (case hd => rfl); (case hg => rfl); (case hr => first | (go_simp; done) | (go_simp; rfl)); intro ga hg w16 hbox hb; have n0_ := A0_.mk (Kd.rB_ (Kd.R_elderB (xR_ ja.out) ga (Nat.le_of_eq hg.symm)) hb); have n1_ := A0_.mk (Kd.rB_ (xR_ ia.out) hb); have n2_ := A0_.mk (Kd.rB_ (Kd.R_elderB (xR_ ka.out) ga (Nat.le_of_eq hg.symm)) hb); have n3_ := A0_.mk (bT_ (xB_ HB) hb); have n4_ := A0_.mk (hbox); have n5_ := A0_.mk ((by rw [hg]; exact (bZ_ (xB_ HB)) : w.heap.size ≤ ga)); have n6_ := A0_.mk ((by rw [hg]; exact (bZ_ (xB_ HB)) : w.heap.size ≤ ga)); clear ja ia ka HB; have ja := n0_; have ia := n1_; have ka := n2_; have HB := n3_; have fa := n4_; have nh := n5_; have na := n6_; clear n0_ n1_ n2_ n3_ n4_ n5_ n6_; clear hb hbox hg; have bb : w16.cell? ⟨ga, 0, none⟩ = some (.int .i64 0) := (kc_ fa.out 0).trans rfl; have cb : w16.cell? ⟨ga, 1, none⟩ = some (.int .i64 0) := (kc_ fa.out 1).trans rfl; have db : w16.cell? ⟨ga, 2, none⟩ = some (.bool false) := (kc_ fa.out 2).trans rfl; have eb : w16.cell? ⟨ga, 3, none⟩ = some (.string (⟨#[]⟩ : ByteArray)) := (kc_ fa.out 3).trans rfl; have fb : w16.cell? ⟨ga, 4, none⟩ = some (.string (⟨#[]⟩ : ByteArray)) := (kc_ fa.out 4).trans rfl; have gb : w16.cell? ⟨ga, 5, none⟩ = some (.int .i64 0) := (kc_ fa.out 5).trans rfl; have ib : w16.cell? ⟨ga, 6, none⟩ = some (.int .i64 0) := (kc_ fa.out 6).trans rfl; have jb : w16.cell? ⟨ga, 7, none⟩ = some (.bool false) := (kc_ fa.out 7).trans rfl; have kb := kF_ fa.out 0; have mb := kF_ fa.out 1; have nb := kF_ fa.out 2; have ob := kF_ fa.out 3; have pb := kF_ fa.out 4; have qb := kF_ fa.out 5; have rb := kF_ fa.out 6; have sb := kF_ fa.out 7))
       go_loopg [50] k2 (fun kq v50 w' => ∃ (ba : Int), v50 = .int .i64 ba ∧ A0_ (l14_SetoffOldest.l1 kq aa (wrap64 (a1)) (wrap64 (Int.tmod a2 40)) ha ca aa (aa.length : Int) ca aa (aa.length : Int) ba ((r28_ aa ca).f0) ((r28_ aa ca).f1) ((r28_ aa ca).f2.f0) ((r28_ aa ca).f2.f1) ((r28_ aa ca).f2.f2) ((r28_ aa ca).f3) ((r28_ aa ca).f4) ((r28_ aa ca).f5) = some r) ∧ A0_ (kq ≤ k2) ∧ A0_ (Kd.R k28 28 w' w.heap.size (fun k_ => k_ ≠ ga) (.slice (some qa) aa.length co8) aa) ∧ A0_ (Kd.R k26 26 w' w.heap.size (fun _ => True) Aa ha) ∧ A0_ (Kd.R k28 28 w' w.heap.size (fun k_ => k_ ≠ ga) (.slice (some qa) aa.length co8) aa) ∧ A0_ (Kd.R k28 28 w' w.heap.size (fun k_ => k_ ≠ ga) (.slice (some qa) aa.length co8) aa) ∧ A0_ (w'.heap[ga]? = some (.cells #[.int .i64 ((r28_ aa ca).f0), .int .i64 ((r28_ aa ca).f1), .bool ((r28_ aa ca).f2.f0), .string ((r28_ aa ca).f2.f1), .string ((r28_ aa ca).f2.f2), .int .i64 ((r28_ aa ca).f3), .int .i64 ((r28_ aa ca).f4), .bool ((r28_ aa ca).f5)] 28 (0, 0))) ∧ A0_ (Below w.heap.size w w'))
       case atStart => exact ⟨(0), (rS_), H', ⟨Nat.le_refl _⟩, ⟨by (with_reducible repeat (first | apply Kd.R_alloc | apply Kd.rN_ | apply Kd.rD_)); exact Kd.rM_ (Kd.rF_ (p := ⟨ga, 7, none⟩) (Kd.rF_ (p := ⟨ga, 6, none⟩) (Kd.rF_ (p := ⟨ga, 5, none⟩) (Kd.rF_ (p := ⟨ga, 4, none⟩) (Kd.rF_ (p := ⟨ga, 3, none⟩) (Kd.rF_ (p := ⟨ga, 2, none⟩) (Kd.rF_ (p := ⟨ga, 1, none⟩) (Kd.rF_ (p := ⟨ga, 0, none⟩) (Kd.rM_ ja.out (fun k_ hk => (⟨hk, hk.2⟩ : _ ∧ k_ ≠ ga))) (fun _ hk => hk.2) (.int .i64 ((r28_ aa ca).f0))) (fun _ hk => hk.2) (.int .i64 ((r28_ aa ca).f1))) (fun _ hk => hk.2) (.bool ((r28_ aa ca).f2.f0))) (fun _ hk => hk.2) (.string ((r28_ aa ca).f2.f1))) (fun _ hk => hk.2) (.string ((r28_ aa ca).f2.f2))) (fun _ hk => hk.2) (.int .i64 ((r28_ aa ca).f3))) (fun _ hk => hk.2) (.int .i64 ((r28_ aa ca).f4))) (fun _ hk => hk.2) (.bool ((r28_ aa ca).f5))) (fun _ hk => hk.1.2)⟩, ⟨by (with_reducible repeat (first | apply Kd.R_alloc | apply Kd.rN_ | apply Kd.rD_)); exact Kd.rM_ (Kd.rF_ (p := ⟨ga, 7, none⟩) (Kd.rF_ (p := ⟨ga, 6, none⟩) (Kd.rF_ (p := ⟨ga, 5, none⟩) (Kd.rF_ (p := ⟨ga, 4, none⟩) (Kd.rF_ (p := ⟨ga, 3, none⟩) (Kd.rF_ (p := ⟨ga, 2, none⟩) (Kd.rF_ (p := ⟨ga, 1, none⟩) (Kd.rF_ (p := ⟨ga, 0, none⟩) (Kd.R_types ia.out fa.out (by decide)) (fun _ hk => hk.2) (.int .i64 ((r28_ aa ca).f0))) (fun _ hk => hk.2) (.int .i64 ((r28_ aa ca).f1))) (fun _ hk => hk.2) (.bool ((r28_ aa ca).f2.f0))) (fun _ hk => hk.2) (.string ((r28_ aa ca).f2.f1))) (fun _ hk => hk.2) (.string ((r28_ aa ca).f2.f2))) (fun _ hk => hk.2) (.int .i64 ((r28_ aa ca).f3))) (fun _ hk => hk.2) (.int .i64 ((r28_ aa ca).f4))) (fun _ hk => hk.2) (.bool ((r28_ aa ca).f5))) (fun _ hk => trivial)⟩, ⟨by (with_reducible repeat (first | apply Kd.R_alloc | apply Kd.rN_ | apply Kd.rD_)); exact Kd.rM_ (Kd.rF_ (p := ⟨ga, 7, none⟩) (Kd.rF_ (p := ⟨ga, 6, none⟩) (Kd.rF_ (p := ⟨ga, 5, none⟩) (Kd.rF_ (p := ⟨ga, 4, none⟩) (Kd.rF_ (p := ⟨ga, 3, none⟩) (Kd.rF_ (p := ⟨ga, 2, none⟩) (Kd.rF_ (p := ⟨ga, 1, none⟩) (Kd.rF_ (p := ⟨ga, 0, none⟩) (Kd.rM_ ka.out (fun k_ hk => (⟨hk, hk.2⟩ : _ ∧ k_ ≠ ga))) (fun _ hk => hk.2) (.int .i64 ((r28_ aa ca).f0))) (fun _ hk => hk.2) (.int .i64 ((r28_ aa ca).f1))) (fun _ hk => hk.2) (.bool ((r28_ aa ca).f2.f0))) (fun _ hk => hk.2) (.string ((r28_ aa ca).f2.f1))) (fun _ hk => hk.2) (.string ((r28_ aa ca).f2.f2))) (fun _ hk => hk.2) (.int .i64 ((r28_ aa ca).f3))) (fun _ hk => hk.2) (.int .i64 ((r28_ aa ca).f4))) (fun _ hk => hk.2) (.bool ((r28_ aa ca).f5))) (fun _ hk => hk.1.2)⟩, ⟨by (with_reducible repeat (first | apply Kd.R_alloc | apply Kd.rN_ | apply Kd.rD_)); exact Kd.rM_ (Kd.rF_ (p := ⟨ga, 7, none⟩) (Kd.rF_ (p := ⟨ga, 6, none⟩) (Kd.rF_ (p := ⟨ga, 5, none⟩) (Kd.rF_ (p := ⟨ga, 4, none⟩) (Kd.rF_ (p := ⟨ga, 3, none⟩) (Kd.rF_ (p := ⟨ga, 2, none⟩) (Kd.rF_ (p := ⟨ga, 1, none⟩) (Kd.rF_ (p := ⟨ga, 0, none⟩) (Kd.rM_ ja.out (fun k_ hk => (⟨hk, hk.2⟩ : _ ∧ k_ ≠ ga))) (fun _ hk => hk.2) (.int .i64 ((r28_ aa ca).f0))) (fun _ hk => hk.2) (.int .i64 ((r28_ aa ca).f1))) (fun _ hk => hk.2) (.bool ((r28_ aa ca).f2.f0))) (fun _ hk => hk.2) (.string ((r28_ aa ca).f2.f1))) (fun _ hk => hk.2) (.string ((r28_ aa ca).f2.f2))) (fun _ hk => hk.2) (.int .i64 ((r28_ aa ca).f3))) (fun _ hk => hk.2) (.int .i64 ((r28_ aa ca).f4))) (fun _ hk => hk.2) (.bool ((r28_ aa ca).f5))) (fun _ hk => hk.1.2)⟩, ⟨by (with_reducible repeat (first | apply kN_ | apply kD_ | apply kA_)); refine kP_ (cs := #[.int .i64 ((r28_ aa ca).f0), .int .i64 ((r28_ aa ca).f1), .bool ((r28_ aa ca).f2.f0), .string ((r28_ aa ca).f2.f1), .string ((r28_ aa ca).f2.f2), .int .i64 ((r28_ aa ca).f3), .int .i64 ((r28_ aa ca).f4), .bool false]) ?_ 7 _ rfl; (with_reducible repeat (first | apply kN_ | apply kD_ | apply kA_)); refine kP_ (cs := #[.int .i64 ((r28_ aa ca).f0), .int .i64 ((r28_ aa ca).f1), .bool ((r28_ aa ca).f2.f0), .string ((r28_ aa ca).f2.f1), .string ((r28_ aa ca).f2.f2), .int .i64 ((r28_ aa ca).f3), .int .i64 0, .bool false]) ?_ 6 _ rfl; (with_reducible repeat (first | apply kN_ | apply kD_ | apply kA_)); refine kP_ (cs := #[.int .i64 ((r28_ aa ca).f0), .int .i64 ((r28_ aa ca).f1), .bool ((r28_ aa ca).f2.f0), .string ((r28_ aa ca).f2.f1), .string ((r28_ aa ca).f2.f2), .int .i64 0, .int .i64 0, .bool false]) ?_ 5 _ rfl; (with_reducible repeat (first | apply kN_ | apply kD_ | apply kA_)); refine kP_ (cs := #[.int .i64 ((r28_ aa ca).f0), .int .i64 ((r28_ aa ca).f1), .bool ((r28_ aa ca).f2.f0), .string ((r28_ aa ca).f2.f1), .string (⟨#[]⟩ : ByteArray), .int .i64 0, .int .i64 0, .bool false]) ?_ 4 _ rfl; (with_reducible repeat (first | apply kN_ | apply kD_ | apply kA_)); refine kP_ (cs := #[.int .i64 ((r28_ aa ca).f0), .int .i64 ((r28_ aa ca).f1), .bool ((r28_ aa ca).f2.f0), .string (⟨#[]⟩ : ByteArray), .string (⟨#[]⟩ : ByteArray), .int .i64 0, .int .i64 0, .bool false]) ?_ 3 _ rfl; (with_reducible repeat (first | apply kN_ | apply kD_ | apply kA_)); refine kP_ (cs := #[.int .i64 ((r28_ aa ca).f0), .int .i64 ((r28_ aa ca).f1), .bool false, .string (⟨#[]⟩ : ByteArray), .string (⟨#[]⟩ : ByteArray), .int .i64 0, .int .i64 0, .bool false]) ?_ 2 _ rfl; (with_reducible repeat (first | apply kN_ | apply kD_ | apply kA_)); refine kP_ (cs := #[.int .i64 ((r28_ aa ca).f0), .int .i64 0, .bool false, .string (⟨#[]⟩ : ByteArray), .string (⟨#[]⟩ : ByteArray), .int .i64 0, .int .i64 0, .bool false]) ?_ 1 _ rfl; (with_reducible repeat (first | apply kN_ | apply kD_ | apply kA_)); refine kP_ (cs := #[.int .i64 0, .int .i64 0, .bool false, .string (⟨#[]⟩ : ByteArray), .string (⟨#[]⟩ : ByteArray), .int .i64 0, .int .i64 0, .bool false]) ?_ 0 _ rfl; (with_reducible repeat (first | apply kN_ | apply kD_ | apply kA_)); exact fa.out⟩, ⟨xB1_ HB na⟩⟩
       case round =>
        clear H'
        try clear c1
        try clear p2
        try clear p6
        try clear c7
        try clear p8
        try clear q8
        try clear hx8
        try clear c10
        try clear ra
        try clear ta
        try clear c12
        try clear c13
        try clear Ma
        try clear c14
        try clear Ra
        try clear c15
        try clear Sa
        try clear c17
        try clear bb
        try clear cb
        try clear db
        try clear eb
        try clear fb
        try clear gb
        try clear ib
        try clear jb
        try clear kb
        try clear mb
        try clear nb
        try clear ob
        try clear pb
        try clear qb
        try clear rb
        try clear sb
        try clear Ta
        try clear Ua
        try clear Va
        try clear Wa
        try clear Xa
        try clear Ya
        try clear Za
        try clear ab
        try clear p2
        try clear p6
        try clear Ba
        try clear Ca
        obtain ⟨ba, rfl, HA, HK3, ja, ia, ka, la, fa, HB⟩ := hrel
        cases gk with
        | zero => exact absurd HA.out (by simp [l14_SetoffOldest.l1])
        | succ k3 =>
         have H := HA.out
         clear HA
         simp only [l14_SetoffOldest.l1] at H
         by_cases c18 : ba < (aa.length : Int)
         ·rw [if_pos c18] at H
          have tb : decide (ba < (aa.length : Int)) = true := decide_eq_true c18
          clear c18
          by_cases c19 : 0 ≤ ba
          rotate_left
          ·rw [if_neg c19] at H
           exact absurd H (by simp)
          rw [if_pos c19] at H
          have Ab : decide (0 ≤ ba) = true := decide_eq_true c19
          clear c19
          by_cases c20 : ba < (aa.length : Int)
          rotate_left
          ·rw [if_neg c20] at H
           exact absurd H (by simp)
          rw [if_pos c20] at H
          have Bb : decide (ba < (aa.length : Int)) = true := decide_eq_true c20
          clear c20
          have HC21 := A0_.mk H
          clear H
          have Ia : 0 ≤ (ba : Int) := oD_
          have Ja : ba < (aa.length : Int) := oD_
          obtain ⟨le, me, Cb, Db, Eb, Fb, Gb, Hb, Ib, Jb⟩ := at_T28 (Kd.rr_' la.out).2.2 ba Ia Ja
          obtain rfl : qa = le := (by injection me)
          replace Ia := eq_true Ia
          replace Ja := eq_true Ja
          go_upto_region 12 with (first | ((with_reducible refine gD_ (N := 15) rfl ?_); (try (refine gate_guard (by rfl) ?_; dsimp only)); refine bE_ ?hg (N := 15) ?hd (cs := #[.int .i64 0, .int .i64 0, .bool false, .string (⟨#[]⟩ : ByteArray), .string (⟨#[]⟩ : ByteArray), .int .i64 0, .int .i64 0, .bool false]) (t := 28) ?hr ?_; (case hd => rfl); (case hg => rfl); (case hr => first | (go_simp; done) | (go_simp; rfl)); intro da hg w22 hbox hb; have n0_ := A0_.mk (Kd.rB_ (Kd.R_elderB (xR_ ja.out) da (Nat.le_of_eq hg.symm)) hb); have n1_ := A0_.mk (Kd.rB_ (xR_ ia.out) hb); have n2_ := A0_.mk (Kd.rB_ (Kd.R_elderB (xR_ ka.out) da (Nat.le_of_eq hg.symm)) hb); have n3_ := A0_.mk (Kd.rB_ (Kd.R_elderB (xR_ la.out) da (Nat.le_of_eq hg.symm)) hb); have n4_ := A0_.mk (kB_ (g := ga) (o := .cells #[.int .i64 ((r28_ aa ca).f0), .int .i64 ((r28_ aa ca).f1), .bool ((r28_ aa ca).f2.f0), .string ((r28_ aa ca).f2.f1), .string ((r28_ aa ca).f2.f2), .int .i64 ((r28_ aa ca).f3), .int .i64 ((r28_ aa ca).f4), .bool ((r28_ aa ca).f5)] 28 (0, 0)) (xK_ fa.out) hb); have n5_ := A0_.mk (bT_ (xB1_ HB na) hb); have n6_ := A0_.mk (hbox); have n7_ := A0_.mk ((by rw [hg]; exact (bZ_ (xB1_ HB na)) : w.heap.size ≤ da)); have n8_ := A0_.mk ((by rw [hg]; exact (bZ_ (xB1_ HB na)) : w.heap.size ≤ da)); have n9_ := A0_.mk ((by rw [hg]; exact Nat.ne_of_lt (blk_lt (g := ga) (o := .cells #[.int .i64 ((r28_ aa ca).f0), .int .i64 ((r28_ aa ca).f1), .bool ((r28_ aa ca).f2.f0), .string ((r28_ aa ca).f2.f1), .string ((r28_ aa ca).f2.f2), .int .i64 ((r28_ aa ca).f3), .int .i64 ((r28_ aa ca).f4), .bool ((r28_ aa ca).f5)] 28 (0, 0)) (xK_ fa.out)) : ga ≠ da)); have Kb := A0_.mk ((by rw [hg]; exact Nat.ne_of_gt (blk_lt (g := ga) (o := .cells #[.int .i64 ((r28_ aa ca).f0), .int .i64 ((r28_ aa ca).f1), .bool ((r28_ aa ca).f2.f0), .string ((r28_ aa ca).f2.f1), .string ((r28_ aa ca).f2.f2), .int .i64 ((r28_ aa ca).f3), .int .i64 ((r28_ aa ca).f4), .bool ((r28_ aa ca).f5)] 28 (0, 0)) (xK_ fa.out)) : da ≠ ga)); clear ja ia ka la fa HB; have ja := n0_; have ia := n1_; have ka := n2_; have la := n3_; have fa := n4_; have HB := n5_; have ea := n6_; have oh := n7_; have pa := n8_; have ma := n9_; have ua := Kb; clear n0_ n1_ n2_ n3_ n4_ n5_ n6_ n7_ n8_ n9_ Kb; clear hb hbox hg; have hnb23 := ua.out; have hnc23 := ma.out; have Lb : w22.cell? ⟨da, 0, none⟩ = some (.int .i64 0) := (kc_ ea.out 0).trans rfl; have Mb : w22.cell? ⟨da, 1, none⟩ = some (.int .i64 0) := (kc_ ea.out 1).trans rfl; have Nb : w22.cell? ⟨da, 2, none⟩ = some (.bool false) := (kc_ ea.out 2).trans rfl; have Ob : w22.cell? ⟨da, 3, none⟩ = some (.string (⟨#[]⟩ : ByteArray)) := (kc_ ea.out 3).trans rfl; have Pb : w22.cell? ⟨da, 4, none⟩ = some (.string (⟨#[]⟩ : ByteArray)) := (kc_ ea.out 4).trans rfl; have Qb : w22.cell? ⟨da, 5, none⟩ = some (.int .i64 0) := (kc_ ea.out 5).trans rfl; have Rb : w22.cell? ⟨da, 6, none⟩ = some (.int .i64 0) := (kc_ ea.out 6).trans rfl; have Sb : w22.cell? ⟨da, 7, none⟩ = some (.bool false) := (kc_ ea.out 7).trans rfl; have Tb := kF_ ea.out 0; have Ub := kF_ ea.out 1; have Vb := kF_ ea.out 2; have Wb := kF_ ea.out 3; have Xb := kF_ ea.out 4; have Yb := kF_ ea.out 5; have Zb := kF_ ea.out 6; have ac := kF_ ea.out 7))
          (try simp only [Act.put, s1_, s2_, s3_])
          go_cut [16] (fun v16 wc => ∃ (kq : Nat) (xa : Bool), v16 = .bool xa ∧ A0_ (l14_SetoffOldest.j3 kq aa (wrap64 (a1)) (wrap64 (Int.tmod a2 40)) ha ca ba xa aa (aa.length : Int) ca aa (aa.length : Int) ba ((r28_ aa ca).f0) ((r28_ aa ca).f1) ((r28_ aa ca).f2.f0) ((r28_ aa ca).f2.f1) ((r28_ aa ca).f2.f2) ((r28_ aa ca).f3) ((r28_ aa ca).f4) ((r28_ aa ca).f5) ((r28_ aa ba).f0) ((r28_ aa ba).f1) ((r28_ aa ba).f2.f0) ((r28_ aa ba).f2.f1) ((r28_ aa ba).f2.f2) ((r28_ aa ba).f3) ((r28_ aa ba).f4) ((r28_ aa ba).f5) = some r) ∧ A0_ (kq ≤ k3) ∧ A0_ (Kd.R k28 28 wc w.heap.size (fun k_ => k_ ≠ ga ∧ k_ ≠ da) (.slice (some qa) aa.length co8) aa) ∧ A0_ (Kd.R k26 26 wc w.heap.size (fun _ => True) Aa ha) ∧ A0_ (Kd.R k28 28 wc w.heap.size (fun k_ => k_ ≠ ga ∧ k_ ≠ da) (.slice (some qa) aa.length co8) aa) ∧ A0_ (Kd.R k28 28 wc w.heap.size (fun k_ => k_ ≠ ga ∧ k_ ≠ da) (.slice (some qa) aa.length co8) aa) ∧ A0_ (wc.heap[ga]? = some (.cells #[.int .i64 ((r28_ aa ca).f0), .int .i64 ((r28_ aa ca).f1), .bool ((r28_ aa ca).f2.f0), .string ((r28_ aa ca).f2.f1), .string ((r28_ aa ca).f2.f2), .int .i64 ((r28_ aa ca).f3), .int .i64 ((r28_ aa ca).f4), .bool ((r28_ aa ca).f5)] 28 (0, 0))) ∧ A0_ (wc.heap[da]? = some (.cells #[.int .i64 ((r28_ aa ba).f0), .int .i64 ((r28_ aa ba).f1), .bool ((r28_ aa ba).f2.f0), .string ((r28_ aa ba).f2.f1), .string ((r28_ aa ba).f2.f2), .int .i64 ((r28_ aa ba).f3), .int .i64 ((r28_ aa ba).f4), .bool ((r28_ aa ba).f5)] 28 (0, 0))) ∧ A0_ (Below w.heap.size w wc))
          case first =>
           have H := HC21.out
           clear HC21
           by_cases c25 : ((r28_ aa ca).f3) < ((r28_ aa ba).f3)
           ·rw [if_pos c25] at H
            have ya : decide (((r28_ aa ca).f3) < ((r28_ aa ba).f3)) = true := decide_eq_true c25
            clear c25
            (first | rw [ya] | rw [ub] | (simp only [i6_, i3_]; rw [ya]) | skip)
            have H' := A0_.mk H
            clear H
            have hnb26 := ma.out
            have hnc26 := ua.out
            have bc : w22.cell? ⟨ga, 0, none⟩ = some (.int .i64 ((r28_ aa ca).f0)) := (kc_ fa.out 0).trans rfl
            have cc : w22.cell? ⟨ga, 1, none⟩ = some (.int .i64 ((r28_ aa ca).f1)) := (kc_ fa.out 1).trans rfl
            have dc : w22.cell? ⟨ga, 2, none⟩ = some (.bool ((r28_ aa ca).f2.f0)) := (kc_ fa.out 2).trans rfl
            have ec : w22.cell? ⟨ga, 3, none⟩ = some (.string ((r28_ aa ca).f2.f1)) := (kc_ fa.out 3).trans rfl
            have fc : w22.cell? ⟨ga, 4, none⟩ = some (.string ((r28_ aa ca).f2.f2)) := (kc_ fa.out 4).trans rfl
            have gc : w22.cell? ⟨ga, 5, none⟩ = some (.int .i64 ((r28_ aa ca).f3)) := (kc_ fa.out 5).trans rfl
            have hc : w22.cell? ⟨ga, 6, none⟩ = some (.int .i64 ((r28_ aa ca).f4)) := (kc_ fa.out 6).trans rfl
            have ic : w22.cell? ⟨ga, 7, none⟩ = some (.bool ((r28_ aa ca).f5)) := (kc_ fa.out 7).trans rfl
            have jc := kF_ fa.out 0
            have kc := kF_ fa.out 1
            have lc := kF_ fa.out 2
            have mc := kF_ fa.out 3
            have nc := kF_ fa.out 4
            have oc := kF_ fa.out 5
            have pc := kF_ fa.out 6
            have qc := kF_ fa.out 7
            have rc : w22.cell? ⟨da, 0, none⟩ = some (.int .i64 0) := (kc_ ea.out 0).trans rfl
            have sc : w22.cell? ⟨da, 1, none⟩ = some (.int .i64 0) := (kc_ ea.out 1).trans rfl
            have tc : w22.cell? ⟨da, 2, none⟩ = some (.bool false) := (kc_ ea.out 2).trans rfl
            have uc : w22.cell? ⟨da, 3, none⟩ = some (.string (⟨#[]⟩ : ByteArray)) := (kc_ ea.out 3).trans rfl
            have vc : w22.cell? ⟨da, 4, none⟩ = some (.string (⟨#[]⟩ : ByteArray)) := (kc_ ea.out 4).trans rfl
            have xc : w22.cell? ⟨da, 5, none⟩ = some (.int .i64 0) := (kc_ ea.out 5).trans rfl
            have yc : w22.cell? ⟨da, 6, none⟩ = some (.int .i64 0) := (kc_ ea.out 6).trans rfl
            have zc : w22.cell? ⟨da, 7, none⟩ = some (.bool false) := (kc_ ea.out 7).trans rfl
            have Ac := kF_ ea.out 0
            have Bc := kF_ ea.out 1
            have Cc := kF_ ea.out 2
            have Dc := kF_ ea.out 3
            have Ec := kF_ ea.out 4
            have Fc := kF_ ea.out 5
            have Gc := kF_ ea.out 6
            have Hc := kF_ ea.out 7
            go_wp2
            go_meet
            case rel => exact ⟨_, (true), (rS_), H', ⟨by have := HJ5.out; have := HK2.out; have := HK3.out; first | omega | exact Nat.le_refl _⟩, ⟨by (with_reducible repeat (first | apply Kd.R_alloc | apply Kd.rN_ | apply Kd.rD_)); exact Kd.rM_ (Kd.rF_ (p := ⟨da, 7, none⟩) (Kd.rF_ (p := ⟨da, 6, none⟩) (Kd.rF_ (p := ⟨da, 5, none⟩) (Kd.rF_ (p := ⟨da, 4, none⟩) (Kd.rF_ (p := ⟨da, 3, none⟩) (Kd.rF_ (p := ⟨da, 2, none⟩) (Kd.rF_ (p := ⟨da, 1, none⟩) (Kd.rF_ (p := ⟨da, 0, none⟩) (Kd.rM_ ja.out (fun k_ hk => (⟨hk, hk.2⟩ : _ ∧ k_ ≠ da))) (fun _ hk => hk.2) (.int .i64 ((r28_ aa ba).f0))) (fun _ hk => hk.2) (.int .i64 ((r28_ aa ba).f1))) (fun _ hk => hk.2) (.bool ((r28_ aa ba).f2.f0))) (fun _ hk => hk.2) (.string ((r28_ aa ba).f2.f1))) (fun _ hk => hk.2) (.string ((r28_ aa ba).f2.f2))) (fun _ hk => hk.2) (.int .i64 ((r28_ aa ba).f3))) (fun _ hk => hk.2) (.int .i64 ((r28_ aa ba).f4))) (fun _ hk => hk.2) (.bool ((r28_ aa ba).f5))) (fun _ hk => ⟨hk.1.1, hk.1.2⟩)⟩, ⟨by (with_reducible repeat (first | apply Kd.R_alloc | apply Kd.rN_ | apply Kd.rD_)); exact Kd.rM_ (Kd.rF_ (p := ⟨da, 7, none⟩) (Kd.rF_ (p := ⟨da, 6, none⟩) (Kd.rF_ (p := ⟨da, 5, none⟩) (Kd.rF_ (p := ⟨da, 4, none⟩) (Kd.rF_ (p := ⟨da, 3, none⟩) (Kd.rF_ (p := ⟨da, 2, none⟩) (Kd.rF_ (p := ⟨da, 1, none⟩) (Kd.rF_ (p := ⟨da, 0, none⟩) (Kd.R_types ia.out ea.out (by decide)) (fun _ hk => hk.2) (.int .i64 ((r28_ aa ba).f0))) (fun _ hk => hk.2) (.int .i64 ((r28_ aa ba).f1))) (fun _ hk => hk.2) (.bool ((r28_ aa ba).f2.f0))) (fun _ hk => hk.2) (.string ((r28_ aa ba).f2.f1))) (fun _ hk => hk.2) (.string ((r28_ aa ba).f2.f2))) (fun _ hk => hk.2) (.int .i64 ((r28_ aa ba).f3))) (fun _ hk => hk.2) (.int .i64 ((r28_ aa ba).f4))) (fun _ hk => hk.2) (.bool ((r28_ aa ba).f5))) (fun _ hk => trivial)⟩, ⟨by (with_reducible repeat (first | apply Kd.R_alloc | apply Kd.rN_ | apply Kd.rD_)); exact Kd.rM_ (Kd.rF_ (p := ⟨da, 7, none⟩) (Kd.rF_ (p := ⟨da, 6, none⟩) (Kd.rF_ (p := ⟨da, 5, none⟩) (Kd.rF_ (p := ⟨da, 4, none⟩) (Kd.rF_ (p := ⟨da, 3, none⟩) (Kd.rF_ (p := ⟨da, 2, none⟩) (Kd.rF_ (p := ⟨da, 1, none⟩) (Kd.rF_ (p := ⟨da, 0, none⟩) (Kd.rM_ ka.out (fun k_ hk => (⟨hk, hk.2⟩ : _ ∧ k_ ≠ da))) (fun _ hk => hk.2) (.int .i64 ((r28_ aa ba).f0))) (fun _ hk => hk.2) (.int .i64 ((r28_ aa ba).f1))) (fun _ hk => hk.2) (.bool ((r28_ aa ba).f2.f0))) (fun _ hk => hk.2) (.string ((r28_ aa ba).f2.f1))) (fun _ hk => hk.2) (.string ((r28_ aa ba).f2.f2))) (fun _ hk => hk.2) (.int .i64 ((r28_ aa ba).f3))) (fun _ hk => hk.2) (.int .i64 ((r28_ aa ba).f4))) (fun _ hk => hk.2) (.bool ((r28_ aa ba).f5))) (fun _ hk => ⟨hk.1.1, hk.1.2⟩)⟩, ⟨by (with_reducible repeat (first | apply Kd.R_alloc | apply Kd.rN_ | apply Kd.rD_)); exact Kd.rM_ (Kd.rF_ (p := ⟨da, 7, none⟩) (Kd.rF_ (p := ⟨da, 6, none⟩) (Kd.rF_ (p := ⟨da, 5, none⟩) (Kd.rF_ (p := ⟨da, 4, none⟩) (Kd.rF_ (p := ⟨da, 3, none⟩) (Kd.rF_ (p := ⟨da, 2, none⟩) (Kd.rF_ (p := ⟨da, 1, none⟩) (Kd.rF_ (p := ⟨da, 0, none⟩) (Kd.rM_ la.out (fun k_ hk => (⟨hk, hk.2⟩ : _ ∧ k_ ≠ da))) (fun _ hk => hk.2) (.int .i64 ((r28_ aa ba).f0))) (fun _ hk => hk.2) (.int .i64 ((r28_ aa ba).f1))) (fun _ hk => hk.2) (.bool ((r28_ aa ba).f2.f0))) (fun _ hk => hk.2) (.string ((r28_ aa ba).f2.f1))) (fun _ hk => hk.2) (.string ((r28_ aa ba).f2.f2))) (fun _ hk => hk.2) (.int .i64 ((r28_ aa ba).f3))) (fun _ hk => hk.2) (.int .i64 ((r28_ aa ba).f4))) (fun _ hk => hk.2) (.bool ((r28_ aa ba).f5))) (fun _ hk => ⟨hk.1.1, hk.1.2⟩)⟩, ⟨by (with_reducible repeat (first | apply kN_ | apply kD_ | apply kA_)); refine bf_ ?_ ma.out _; (with_reducible repeat (first | apply kN_ | apply kD_ | apply kA_)); refine bf_ ?_ ma.out _; (with_reducible repeat (first | apply kN_ | apply kD_ | apply kA_)); refine bf_ ?_ ma.out _; (with_reducible repeat (first | apply kN_ | apply kD_ | apply kA_)); refine bf_ ?_ ma.out _; (with_reducible repeat (first | apply kN_ | apply kD_ | apply kA_)); refine bf_ ?_ ma.out _; (with_reducible repeat (first | apply kN_ | apply kD_ | apply kA_)); refine bf_ ?_ ma.out _; (with_reducible repeat (first | apply kN_ | apply kD_ | apply kA_)); refine bf_ ?_ ma.out _; (with_reducible repeat (first | apply kN_ | apply kD_ | apply kA_)); refine bf_ ?_ ma.out _; (with_reducible repeat (first | apply kN_ | apply kD_ | apply kA_)); exact fa.out⟩, ⟨by (with_reducible repeat (first | apply kN_ | apply kD_ | apply kA_)); refine kP_ (cs := #[.int .i64 ((r28_ aa ba).f0), .int .i64 ((r28_ aa ba).f1), .bool ((r28_ aa ba).f2.f0), .string ((r28_ aa ba).f2.f1), .string ((r28_ aa ba).f2.f2), .int .i64 ((r28_ aa ba).f3), .int .i64 ((r28_ aa ba).f4), .bool false]) ?_ 7 _ rfl; (with_reducible repeat (first | apply kN_ | apply kD_ | apply kA_)); refine kP_ (cs := #[.int .i64 ((r28_ aa ba).f0), .int .i64 ((r28_ aa ba).f1), .bool ((r28_ aa ba).f2.f0), .string ((r28_ aa ba).f2.f1), .string ((r28_ aa ba).f2.f2), .int .i64 ((r28_ aa ba).f3), .int .i64 0, .bool false]) ?_ 6 _ rfl; (with_reducible repeat (first | apply kN_ | apply kD_ | apply kA_)); refine kP_ (cs := #[.int .i64 ((r28_ aa ba).f0), .int .i64 ((r28_ aa ba).f1), .bool ((r28_ aa ba).f2.f0), .string ((r28_ aa ba).f2.f1), .string ((r28_ aa ba).f2.f2), .int .i64 0, .int .i64 0, .bool false]) ?_ 5 _ rfl; (with_reducible repeat (first | apply kN_ | apply kD_ | apply kA_)); refine kP_ (cs := #[.int .i64 ((r28_ aa ba).f0), .int .i64 ((r28_ aa ba).f1), .bool ((r28_ aa ba).f2.f0), .string ((r28_ aa ba).f2.f1), .string (⟨#[]⟩ : ByteArray), .int .i64 0, .int .i64 0, .bool false]) ?_ 4 _ rfl; (with_reducible repeat (first | apply kN_ | apply kD_ | apply kA_)); refine kP_ (cs := #[.int .i64 ((r28_ aa ba).f0), .int .i64 ((r28_ aa ba).f1), .bool ((r28_ aa ba).f2.f0), .string (⟨#[]⟩ : ByteArray), .string (⟨#[]⟩ : ByteArray), .int .i64 0, .int .i64 0, .bool false]) ?_ 3 _ rfl; (with_reducible repeat (first | apply kN_ | apply kD_ | apply kA_)); refine kP_ (cs := #[.int .i64 ((r28_ aa ba).f0), .int .i64 ((r28_ aa ba).f1), .bool false, .string (⟨#[]⟩ : ByteArray), .string (⟨#[]⟩ : ByteArray), .int .i64 0, .int .i64 0, .bool false]) ?_ 2 _ rfl; (with_reducible repeat (first | apply kN_ | apply kD_ | apply kA_)); refine kP_ (cs := #[.int .i64 ((r28_ aa ba).f0), .int .i64 0, .bool false, .string (⟨#[]⟩ : ByteArray), .string (⟨#[]⟩ : ByteArray), .int .i64 0, .int .i64 0, .bool false]) ?_ 1 _ rfl; (with_reducible repeat (first | apply kN_ | apply kD_ | apply kA_)); refine kP_ (cs := #[.int .i64 0, .int .i64 0, .bool false, .string (⟨#[]⟩ : ByteArray), .string (⟨#[]⟩ : ByteArray), .int .i64 0, .int .i64 0, .bool false]) ?_ 0 _ rfl; (with_reducible repeat (first | apply kN_ | apply kD_ | apply kA_)); exact ea.out⟩, ⟨xB2_ HB na pa⟩⟩
           ·rw [if_neg c25] at H
            have ya : decide (((r28_ aa ca).f3) < ((r28_ aa ba).f3)) = false := decide_eq_false c25
            clear c25
            (first | rw [ya] | rw [ub] | (simp only [i6_, i3_]; rw [ya]) | skip)
            by_cases c29 : ((r28_ aa ca).f3) = ((r28_ aa ba).f3)
            ·rw [if_pos c29] at H
             have vb : (((r28_ aa ca).f3) == ((r28_ aa ba).f3)) = true := beq_iff_eq.mpr c29
             have wb : (((r28_ aa ca).f3) != ((r28_ aa ba).f3)) = false := bne_eq_false_iff_eq.mpr c29
             clear c29
             have H' := A0_.mk H
             clear H
             have hnb30 := ma.out
             have hnc30 := ua.out
             have Ic : w22.cell? ⟨ga, 0, none⟩ = some (.int .i64 ((r28_ aa ca).f0)) := (kc_ fa.out 0).trans rfl
             have Jc : w22.cell? ⟨ga, 1, none⟩ = some (.int .i64 ((r28_ aa ca).f1)) := (kc_ fa.out 1).trans rfl
             have Kc : w22.cell? ⟨ga, 2, none⟩ = some (.bool ((r28_ aa ca).f2.f0)) := (kc_ fa.out 2).trans rfl
             have Lc : w22.cell? ⟨ga, 3, none⟩ = some (.string ((r28_ aa ca).f2.f1)) := (kc_ fa.out 3).trans rfl
             have Mc : w22.cell? ⟨ga, 4, none⟩ = some (.string ((r28_ aa ca).f2.f2)) := (kc_ fa.out 4).trans rfl
             have Nc : w22.cell? ⟨ga, 5, none⟩ = some (.int .i64 ((r28_ aa ca).f3)) := (kc_ fa.out 5).trans rfl
             have Oc : w22.cell? ⟨ga, 6, none⟩ = some (.int .i64 ((r28_ aa ca).f4)) := (kc_ fa.out 6).trans rfl
             have Pc : w22.cell? ⟨ga, 7, none⟩ = some (.bool ((r28_ aa ca).f5)) := (kc_ fa.out 7).trans rfl
             have Qc := kF_ fa.out 0
             have Rc := kF_ fa.out 1
             have Sc := kF_ fa.out 2
             have Tc := kF_ fa.out 3
             have Uc := kF_ fa.out 4
             have Vc := kF_ fa.out 5
             have Wc := kF_ fa.out 6
             have Xc := kF_ fa.out 7
             have Yc : w22.cell? ⟨da, 0, none⟩ = some (.int .i64 0) := (kc_ ea.out 0).trans rfl
             have Zc : w22.cell? ⟨da, 1, none⟩ = some (.int .i64 0) := (kc_ ea.out 1).trans rfl
             have ad : w22.cell? ⟨da, 2, none⟩ = some (.bool false) := (kc_ ea.out 2).trans rfl
             have bd : w22.cell? ⟨da, 3, none⟩ = some (.string (⟨#[]⟩ : ByteArray)) := (kc_ ea.out 3).trans rfl
             have cd : w22.cell? ⟨da, 4, none⟩ = some (.string (⟨#[]⟩ : ByteArray)) := (kc_ ea.out 4).trans rfl
             have dd : w22.cell? ⟨da, 5, none⟩ = some (.int .i64 0) := (kc_ ea.out 5).trans rfl
             have ed : w22.cell? ⟨da, 6, none⟩ = some (.int .i64 0) := (kc_ ea.out 6).trans rfl
             have fd : w22.cell? ⟨da, 7, none⟩ = some (.bool false) := (kc_ ea.out 7).trans rfl
             have id := kF_ ea.out 0
             have jd := kF_ ea.out 1
             have kd := kF_ ea.out 2
             have ld := kF_ ea.out 3
             have md := kF_ ea.out 4
             have nd := kF_ ea.out 5
             have od := kF_ ea.out 6
             have pd := kF_ ea.out 7
             go_wp2
             go_meet
             case rel => exact ⟨_, (decide (ca < ba)), (rS_), H', ⟨by have := HJ5.out; have := HK2.out; have := HK3.out; first | omega | exact Nat.le_refl _⟩, ⟨by (with_reducible repeat (first | apply Kd.R_alloc | apply Kd.rN_ | apply Kd.rD_)); exact Kd.rM_ (Kd.rF_ (p := ⟨da, 7, none⟩) (Kd.rF_ (p := ⟨da, 6, none⟩) (Kd.rF_ (p := ⟨da, 5, none⟩) (Kd.rF_ (p := ⟨da, 4, none⟩) (Kd.rF_ (p := ⟨da, 3, none⟩) (Kd.rF_ (p := ⟨da, 2, none⟩) (Kd.rF_ (p := ⟨da, 1, none⟩) (Kd.rF_ (p := ⟨da, 0, none⟩) (Kd.rM_ ja.out (fun k_ hk => (⟨hk, hk.2⟩ : _ ∧ k_ ≠ da))) (fun _ hk => hk.2) (.int .i64 ((r28_ aa ba).f0))) (fun _ hk => hk.2) (.int .i64 ((r28_ aa ba).f1))) (fun _ hk => hk.2) (.bool ((r28_ aa ba).f2.f0))) (fun _ hk => hk.2) (.string ((r28_ aa ba).f2.f1))) (fun _ hk => hk.2) (.string ((r28_ aa ba).f2.f2))) (fun _ hk => hk.2) (.int .i64 ((r28_ aa ba).f3))) (fun _ hk => hk.2) (.int .i64 ((r28_ aa ba).f4))) (fun _ hk => hk.2) (.bool ((r28_ aa ba).f5))) (fun _ hk => ⟨hk.1.1, hk.1.2⟩)⟩, ⟨by (with_reducible repeat (first | apply Kd.R_alloc | apply Kd.rN_ | apply Kd.rD_)); exact Kd.rM_ (Kd.rF_ (p := ⟨da, 7, none⟩) (Kd.rF_ (p := ⟨da, 6, none⟩) (Kd.rF_ (p := ⟨da, 5, none⟩) (Kd.rF_ (p := ⟨da, 4, none⟩) (Kd.rF_ (p := ⟨da, 3, none⟩) (Kd.rF_ (p := ⟨da, 2, none⟩) (Kd.rF_ (p := ⟨da, 1, none⟩) (Kd.rF_ (p := ⟨da, 0, none⟩) (Kd.R_types ia.out ea.out (by decide)) (fun _ hk => hk.2) (.int .i64 ((r28_ aa ba).f0))) (fun _ hk => hk.2) (.int .i64 ((r28_ aa ba).f1))) (fun _ hk => hk.2) (.bool ((r28_ aa ba).f2.f0))) (fun _ hk => hk.2) (.string ((r28_ aa ba).f2.f1))) (fun _ hk => hk.2) (.string ((r28_ aa ba).f2.f2))) (fun _ hk => hk.2) (.int .i64 ((r28_ aa ba).f3))) (fun _ hk => hk.2) (.int .i64 ((r28_ aa ba).f4))) (fun _ hk => hk.2) (.bool ((r28_ aa ba).f5))) (fun _ hk => trivial)⟩, ⟨by (with_reducible repeat (first | apply Kd.R_alloc | apply Kd.rN_ | apply Kd.rD_)); exact Kd.rM_ (Kd.rF_ (p := ⟨da, 7, none⟩) (Kd.rF_ (p := ⟨da, 6, none⟩) (Kd.rF_ (p := ⟨da, 5, none⟩) (Kd.rF_ (p := ⟨da, 4, none⟩) (Kd.rF_ (p := ⟨da, 3, none⟩) (Kd.rF_ (p := ⟨da, 2, none⟩) (Kd.rF_ (p := ⟨da, 1, none⟩) (Kd.rF_ (p := ⟨da, 0, none⟩) (Kd.rM_ ka.out (fun k_ hk => (⟨hk, hk.2⟩ : _ ∧ k_ ≠ da))) (fun _ hk => hk.2) (.int .i64 ((r28_ aa ba).f0))) (fun _ hk => hk.2) (.int .i64 ((r28_ aa ba).f1))) (fun _ hk => hk.2) (.bool ((r28_ aa ba).f2.f0))) (fun _ hk => hk.2) (.string ((r28_ aa ba).f2.f1))) (fun _ hk => hk.2) (.string ((r28_ aa ba).f2.f2))) (fun _ hk => hk.2) (.int .i64 ((r28_ aa ba).f3))) (fun _ hk => hk.2) (.int .i64 ((r28_ aa ba).f4))) (fun _ hk => hk.2) (.bool ((r28_ aa ba).f5))) (fun _ hk => ⟨hk.1.1, hk.1.2⟩)⟩, ⟨by (with_reducible repeat (first | apply Kd.R_alloc | apply Kd.rN_ | apply Kd.rD_)); exact Kd.rM_ (Kd.rF_ (p := ⟨da, 7, none⟩) (Kd.rF_ (p := ⟨da, 6, none⟩) (Kd.rF_ (p := ⟨da, 5, none⟩) (Kd.rF_ (p := ⟨da, 4, none⟩) (Kd.rF_ (p := ⟨da, 3, none⟩) (Kd.rF_ (p := ⟨da, 2, none⟩) (Kd.rF_ (p := ⟨da, 1, none⟩) (Kd.rF_ (p := ⟨da, 0, none⟩) (Kd.rM_ la.out (fun k_ hk => (⟨hk, hk.2⟩ : _ ∧ k_ ≠ da))) (fun _ hk => hk.2) (.int .i64 ((r28_ aa ba).f0))) (fun _ hk => hk.2) (.int .i64 ((r28_ aa ba).f1))) (fun _ hk => hk.2) (.bool ((r28_ aa ba).f2.f0))) (fun _ hk => hk.2) (.string ((r28_ aa ba).f2.f1))) (fun _ hk => hk.2) (.string ((r28_ aa ba).f2.f2))) (fun _ hk => hk.2) (.int .i64 ((r28_ aa ba).f3))) (fun _ hk => hk.2) (.int .i64 ((r28_ aa ba).f4))) (fun _ hk => hk.2) (.bool ((r28_ aa ba).f5))) (fun _ hk => ⟨hk.1.1, hk.1.2⟩)⟩, ⟨by (with_reducible repeat (first | apply kN_ | apply kD_ | apply kA_)); refine bf_ ?_ ma.out _; (with_reducible repeat (first | apply kN_ | apply kD_ | apply kA_)); refine bf_ ?_ ma.out _; (with_reducible repeat (first | apply kN_ | apply kD_ | apply kA_)); refine bf_ ?_ ma.out _; (with_reducible repeat (first | apply kN_ | apply kD_ | apply kA_)); refine bf_ ?_ ma.out _; (with_reducible repeat (first | apply kN_ | apply kD_ | apply kA_)); refine bf_ ?_ ma.out _; (with_reducible repeat (first | apply kN_ | apply kD_ | apply kA_)); refine bf_ ?_ ma.out _; (with_reducible repeat (first | apply kN_ | apply kD_ | apply kA_)); refine bf_ ?_ ma.out _; (with_reducible repeat (first | apply kN_ | apply kD_ | apply kA_)); refine bf_ ?_ ma.out _; (with_reducible repeat (first | apply kN_ | apply kD_ | apply kA_)); exact fa.out⟩, ⟨by (with_reducible repeat (first | apply kN_ | apply kD_ | apply kA_)); refine kP_ (cs := #[.int .i64 ((r28_ aa ba).f0), .int .i64 ((r28_ aa ba).f1), .bool ((r28_ aa ba).f2.f0), .string ((r28_ aa ba).f2.f1), .string ((r28_ aa ba).f2.f2), .int .i64 ((r28_ aa ba).f3), .int .i64 ((r28_ aa ba).f4), .bool false]) ?_ 7 _ rfl; (with_reducible repeat (first | apply kN_ | apply kD_ | apply kA_)); refine kP_ (cs := #[.int .i64 ((r28_ aa ba).f0), .int .i64 ((r28_ aa ba).f1), .bool ((r28_ aa ba).f2.f0), .string ((r28_ aa ba).f2.f1), .string ((r28_ aa ba).f2.f2), .int .i64 ((r28_ aa ba).f3), .int .i64 0, .bool false]) ?_ 6 _ rfl; (with_reducible repeat (first | apply kN_ | apply kD_ | apply kA_)); refine kP_ (cs := #[.int .i64 ((r28_ aa ba).f0), .int .i64 ((r28_ aa ba).f1), .bool ((r28_ aa ba).f2.f0), .string ((r28_ aa ba).f2.f1), .string ((r28_ aa ba).f2.f2), .int .i64 0, .int .i64 0, .bool false]) ?_ 5 _ rfl; (with_reducible repeat (first | apply kN_ | apply kD_ | apply kA_)); refine kP_ (cs := #[.int .i64 ((r28_ aa ba).f0), .int .i64 ((r28_ aa ba).f1), .bool ((r28_ aa ba).f2.f0), .string ((r28_ aa ba).f2.f1), .string (⟨#[]⟩ : ByteArray), .int .i64 0, .int .i64 0, .bool false]) ?_ 4 _ rfl; (with_reducible repeat (first | apply kN_ | apply kD_ | apply kA_)); refine kP_ (cs := #[.int .i64 ((r28_ aa ba).f0), .int .i64 ((r28_ aa ba).f1), .bool ((r28_ aa ba).f2.f0), .string (⟨#[]⟩ : ByteArray), .string (⟨#[]⟩ : ByteArray), .int .i64 0, .int .i64 0, .bool false]) ?_ 3 _ rfl; (with_reducible repeat (first | apply kN_ | apply kD_ | apply kA_)); refine kP_ (cs := #[.int .i64 ((r28_ aa ba).f0), .int .i64 ((r28_ aa ba).f1), .bool false, .string (⟨#[]⟩ : ByteArray), .string (⟨#[]⟩ : ByteArray), .int .i64 0, .int .i64 0, .bool false]) ?_ 2 _ rfl; (with_reducible repeat (first | apply kN_ | apply kD_ | apply kA_)); refine kP_ (cs := #[.int .i64 ((r28_ aa ba).f0), .int .i64 0, .bool false, .string (⟨#[]⟩ : ByteArray), .string (⟨#[]⟩ : ByteArray), .int .i64 0, .int .i64 0, .bool false]) ?_ 1 _ rfl; (with_reducible repeat (first | apply kN_ | apply kD_ | apply kA_)); refine kP_ (cs := #[.int .i64 0, .int .i64 0, .bool false, .string (⟨#[]⟩ : ByteArray), .string (⟨#[]⟩ : ByteArray), .int .i64 0, .int .i64 0, .bool false]) ?_ 0 _ rfl; (with_reducible repeat (first | apply kN_ | apply kD_ | apply kA_)); exact ea.out⟩, ⟨xB2_ HB na pa⟩⟩
            ·rw [if_neg c29] at H
             have vb : (((r28_ aa ca).f3) == ((r28_ aa ba).f3)) = false := beq_eq_false_iff_ne.mpr c29
             have wb : (((r28_ aa ca).f3) != ((r28_ aa ba).f3)) = true := bne_iff_ne.mpr c29
             have H' := A0_.mk H
             clear H
             have hnb33 := ma.out
             have hnc33 := ua.out
             have qd : w22.cell? ⟨ga, 0, none⟩ = some (.int .i64 ((r28_ aa ca).f0)) := (kc_ fa.out 0).trans rfl
             have sd : w22.cell? ⟨ga, 1, none⟩ = some (.int .i64 ((r28_ aa ca).f1)) := (kc_ fa.out 1).trans rfl
             have td : w22.cell? ⟨ga, 2, none⟩ = some (.bool ((r28_ aa ca).f2.f0)) := (kc_ fa.out 2).trans rfl
             have ud : w22.cell? ⟨ga, 3, none⟩ = some (.string ((r28_ aa ca).f2.f1)) := (kc_ fa.out 3).trans rfl
             have vd : w22.cell? ⟨ga, 4, none⟩ = some (.string ((r28_ aa ca).f2.f2)) := (kc_ fa.out 4).trans rfl
             have wd : w22.cell? ⟨ga, 5, none⟩ = some (.int .i64 ((r28_ aa ca).f3)) := (kc_ fa.out 5).trans rfl
             have xd : w22.cell? ⟨ga, 6, none⟩ = some (.int .i64 ((r28_ aa ca).f4)) := (kc_ fa.out 6).trans rfl
             have yd : w22.cell? ⟨ga, 7, none⟩ = some (.bool ((r28_ aa ca).f5)) := (kc_ fa.out 7).trans rfl
             have zd := kF_ fa.out 0
             have Ad := kF_ fa.out 1
             have Bd := kF_ fa.out 2
             have Cd := kF_ fa.out 3
             have Dd := kF_ fa.out 4
             have Ed := kF_ fa.out 5
             have Fd := kF_ fa.out 6
             have Gd := kF_ fa.out 7
             have Hd : w22.cell? ⟨da, 0, none⟩ = some (.int .i64 0) := (kc_ ea.out 0).trans rfl
             have Jd : w22.cell? ⟨da, 1, none⟩ = some (.int .i64 0) := (kc_ ea.out 1).trans rfl
             have Ld : w22.cell? ⟨da, 2, none⟩ = some (.bool false) := (kc_ ea.out 2).trans rfl
             have Md : w22.cell? ⟨da, 3, none⟩ = some (.string (⟨#[]⟩ : ByteArray)) := (kc_ ea.out 3).trans rfl
             have Nd : w22.cell? ⟨da, 4, none⟩ = some (.string (⟨#[]⟩ : ByteArray)) := (kc_ ea.out 4).trans rfl
             have Od : w22.cell? ⟨da, 5, none⟩ = some (.int .i64 0) := (kc_ ea.out 5).trans rfl
             have Pd : w22.cell? ⟨da, 6, none⟩ = some (.int .i64 0) := (kc_ ea.out 6).trans rfl
             have Qd : w22.cell? ⟨da, 7, none⟩ = some (.bool false) := (kc_ ea.out 7).trans rfl
             have Rd := kF_ ea.out 0
             have Sd := kF_ ea.out 1
             have Td := kF_ ea.out 2
             have Ud := kF_ ea.out 3
             have Vd := kF_ ea.out 4
             have Wd := kF_ ea.out 5
             have Xd := kF_ ea.out 6
             have Yd := kF_ ea.out 7
             go_wp2
             go_meet
             case rel => exact ⟨_, (false), (rS_), H', ⟨by have := HJ5.out; have := HK2.out; have := HK3.out; first | omega | exact Nat.le_refl _⟩, ⟨by (with_reducible repeat (first | apply Kd.R_alloc | apply Kd.rN_ | apply Kd.rD_)); exact Kd.rM_ (Kd.rF_ (p := ⟨da, 7, none⟩) (Kd.rF_ (p := ⟨da, 6, none⟩) (Kd.rF_ (p := ⟨da, 5, none⟩) (Kd.rF_ (p := ⟨da, 4, none⟩) (Kd.rF_ (p := ⟨da, 3, none⟩) (Kd.rF_ (p := ⟨da, 2, none⟩) (Kd.rF_ (p := ⟨da, 1, none⟩) (Kd.rF_ (p := ⟨da, 0, none⟩) (Kd.rM_ ja.out (fun k_ hk => (⟨hk, hk.2⟩ : _ ∧ k_ ≠ da))) (fun _ hk => hk.2) (.int .i64 ((r28_ aa ba).f0))) (fun _ hk => hk.2) (.int .i64 ((r28_ aa ba).f1))) (fun _ hk => hk.2) (.bool ((r28_ aa ba).f2.f0))) (fun _ hk => hk.2) (.string ((r28_ aa ba).f2.f1))) (fun _ hk => hk.2) (.string ((r28_ aa ba).f2.f2))) (fun _ hk => hk.2) (.int .i64 ((r28_ aa ba).f3))) (fun _ hk => hk.2) (.int .i64 ((r28_ aa ba).f4))) (fun _ hk => hk.2) (.bool ((r28_ aa ba).f5))) (fun _ hk => ⟨hk.1.1, hk.1.2⟩)⟩, ⟨by (with_reducible repeat (first | apply Kd.R_alloc | apply Kd.rN_ | apply Kd.rD_)); exact Kd.rM_ (Kd.rF_ (p := ⟨da, 7, none⟩) (Kd.rF_ (p := ⟨da, 6, none⟩) (Kd.rF_ (p := ⟨da, 5, none⟩) (Kd.rF_ (p := ⟨da, 4, none⟩) (Kd.rF_ (p := ⟨da, 3, none⟩) (Kd.rF_ (p := ⟨da, 2, none⟩) (Kd.rF_ (p := ⟨da, 1, none⟩) (Kd.rF_ (p := ⟨da, 0, none⟩) (Kd.R_types ia.out ea.out (by decide)) (fun _ hk => hk.2) (.int .i64 ((r28_ aa ba).f0))) (fun _ hk => hk.2) (.int .i64 ((r28_ aa ba).f1))) (fun _ hk => hk.2) (.bool ((r28_ aa ba).f2.f0))) (fun _ hk => hk.2) (.string ((r28_ aa ba).f2.f1))) (fun _ hk => hk.2) (.string ((r28_ aa ba).f2.f2))) (fun _ hk => hk.2) (.int .i64 ((r28_ aa ba).f3))) (fun _ hk => hk.2) (.int .i64 ((r28_ aa ba).f4))) (fun _ hk => hk.2) (.bool ((r28_ aa ba).f5))) (fun _ hk => trivial)⟩, ⟨by (with_reducible repeat (first | apply Kd.R_alloc | apply Kd.rN_ | apply Kd.rD_)); exact Kd.rM_ (Kd.rF_ (p := ⟨da, 7, none⟩) (Kd.rF_ (p := ⟨da, 6, none⟩) (Kd.rF_ (p := ⟨da, 5, none⟩) (Kd.rF_ (p := ⟨da, 4, none⟩) (Kd.rF_ (p := ⟨da, 3, none⟩) (Kd.rF_ (p := ⟨da, 2, none⟩) (Kd.rF_ (p := ⟨da, 1, none⟩) (Kd.rF_ (p := ⟨da, 0, none⟩) (Kd.rM_ ka.out (fun k_ hk => (⟨hk, hk.2⟩ : _ ∧ k_ ≠ da))) (fun _ hk => hk.2) (.int .i64 ((r28_ aa ba).f0))) (fun _ hk => hk.2) (.int .i64 ((r28_ aa ba).f1))) (fun _ hk => hk.2) (.bool ((r28_ aa ba).f2.f0))) (fun _ hk => hk.2) (.string ((r28_ aa ba).f2.f1))) (fun _ hk => hk.2) (.string ((r28_ aa ba).f2.f2))) (fun _ hk => hk.2) (.int .i64 ((r28_ aa ba).f3))) (fun _ hk => hk.2) (.int .i64 ((r28_ aa ba).f4))) (fun _ hk => hk.2) (.bool ((r28_ aa ba).f5))) (fun _ hk => ⟨hk.1.1, hk.1.2⟩)⟩, ⟨by (with_reducible repeat (first | apply Kd.R_alloc | apply Kd.rN_ | apply Kd.rD_)); exact Kd.rM_ (Kd.rF_ (p := ⟨da, 7, none⟩) (Kd.rF_ (p := ⟨da, 6, none⟩) (Kd.rF_ (p := ⟨da, 5, none⟩) (Kd.rF_ (p := ⟨da, 4, none⟩) (Kd.rF_ (p := ⟨da, 3, none⟩) (Kd.rF_ (p := ⟨da, 2, none⟩) (Kd.rF_ (p := ⟨da, 1, none⟩) (Kd.rF_ (p := ⟨da, 0, none⟩) (Kd.rM_ la.out (fun k_ hk => (⟨hk, hk.2⟩ : _ ∧ k_ ≠ da))) (fun _ hk => hk.2) (.int .i64 ((r28_ aa ba).f0))) (fun _ hk => hk.2) (.int .i64 ((r28_ aa ba).f1))) (fun _ hk => hk.2) (.bool ((r28_ aa ba).f2.f0))) (fun _ hk => hk.2) (.string ((r28_ aa ba).f2.f1))) (fun _ hk => hk.2) (.string ((r28_ aa ba).f2.f2))) (fun _ hk => hk.2) (.int .i64 ((r28_ aa ba).f3))) (fun _ hk => hk.2) (.int .i64 ((r28_ aa ba).f4))) (fun _ hk => hk.2) (.bool ((r28_ aa ba).f5))) (fun _ hk => ⟨hk.1.1, hk.1.2⟩)⟩, ⟨by (with_reducible repeat (first | apply kN_ | apply kD_ | apply kA_)); refine bf_ ?_ ma.out _; (with_reducible repeat (first | apply kN_ | apply kD_ | apply kA_)); refine bf_ ?_ ma.out _; (with_reducible repeat (first | apply kN_ | apply kD_ | apply kA_)); refine bf_ ?_ ma.out _; (with_reducible repeat (first | apply kN_ | apply kD_ | apply kA_)); refine bf_ ?_ ma.out _; (with_reducible repeat (first | apply kN_ | apply kD_ | apply kA_)); refine bf_ ?_ ma.out _; (with_reducible repeat (first | apply kN_ | apply kD_ | apply kA_)); refine bf_ ?_ ma.out _; (with_reducible repeat (first | apply kN_ | apply kD_ | apply kA_)); refine bf_ ?_ ma.out _; (with_reducible repeat (first | apply kN_ | apply kD_ | apply kA_)); refine bf_ ?_ ma.out _; (with_reducible repeat (first | apply kN_ | apply kD_ | apply kA_)); exact fa.out⟩, ⟨by (with_reducible repeat (first | apply kN_ | apply kD_ | apply kA_)); refine kP_ (cs := #[.int .i64 ((r28_ aa ba).f0), .int .i64 ((r28_ aa ba).f1), .bool ((r28_ aa ba).f2.f0), .string ((r28_ aa ba).f2.f1), .string ((r28_ aa ba).f2.f2), .int .i64 ((r28_ aa ba).f3), .int .i64 ((r28_ aa ba).f4), .bool false]) ?_ 7 _ rfl; (with_reducible repeat (first | apply kN_ | apply kD_ | apply kA_)); refine kP_ (cs := #[.int .i64 ((r28_ aa ba).f0), .int .i64 ((r28_ aa ba).f1), .bool ((r28_ aa ba).f2.f0), .string ((r28_ aa ba).f2.f1), .string ((r28_ aa ba).f2.f2), .int .i64 ((r28_ aa ba).f3), .int .i64 0, .bool false]) ?_ 6 _ rfl; (with_reducible repeat (first | apply kN_ | apply kD_ | apply kA_)); refine kP_ (cs := #[.int .i64 ((r28_ aa ba).f0), .int .i64 ((r28_ aa ba).f1), .bool ((r28_ aa ba).f2.f0), .string ((r28_ aa ba).f2.f1), .string ((r28_ aa ba).f2.f2), .int .i64 0, .int .i64 0, .bool false]) ?_ 5 _ rfl; (with_reducible repeat (first | apply kN_ | apply kD_ | apply kA_)); refine kP_ (cs := #[.int .i64 ((r28_ aa ba).f0), .int .i64 ((r28_ aa ba).f1), .bool ((r28_ aa ba).f2.f0), .string ((r28_ aa ba).f2.f1), .string (⟨#[]⟩ : ByteArray), .int .i64 0, .int .i64 0, .bool false]) ?_ 4 _ rfl; (with_reducible repeat (first | apply kN_ | apply kD_ | apply kA_)); refine kP_ (cs := #[.int .i64 ((r28_ aa ba).f0), .int .i64 ((r28_ aa ba).f1), .bool ((r28_ aa ba).f2.f0), .string (⟨#[]⟩ : ByteArray), .string (⟨#[]⟩ : ByteArray), .int .i64 0, .int .i64 0, .bool false]) ?_ 3 _ rfl; (with_reducible repeat (first | apply kN_ | apply kD_ | apply kA_)); refine kP_ (cs := #[.int .i64 ((r28_ aa ba).f0), .int .i64 ((r28_ aa ba).f1), .bool false, .string (⟨#[]⟩ : ByteArray), .string (⟨#[]⟩ : ByteArray), .int .i64 0, .int .i64 0, .bool false]) ?_ 2 _ rfl; (with_reducible repeat (first | apply kN_ | apply kD_ | apply kA_)); refine kP_ (cs := #[.int .i64 ((r28_ aa ba).f0), .int .i64 0, .bool false, .string (⟨#[]⟩ : ByteArray), .string (⟨#[]⟩ : ByteArray), .int .i64 0, .int .i64 0, .bool false]) ?_ 1 _ rfl; (with_reducible repeat (first | apply kN_ | apply kD_ | apply kA_)); refine kP_ (cs := #[.int .i64 0, .int .i64 0, .bool false, .string (⟨#[]⟩ : ByteArray), .string (⟨#[]⟩ : ByteArray), .int .i64 0, .int .i64 0, .bool false]) ?_ 0 _ rfl; (with_reducible repeat (first | apply kN_ | apply kD_ | apply kA_)); exact ea.out⟩, ⟨xB2_ HB na pa⟩⟩
          case rest =>
           clear HC21
           try clear c1
           try clear c2
           try clear p2
           try clear c3
           try clear p6
           try clear c7
           try clear p8
           try clear q8
           try clear hx8
           try clear c10
           try clear ra
           try clear ta
           try clear c12
           try clear c13
           try clear Ma
           try clear c14
           try clear Ra
           try clear c15
           try clear Sa
           try clear c17
           try clear c18
           try clear tb
           try clear c19
           try clear Ab
           try clear c20
           try clear Bb
           try clear c23
           try clear c25
           try clear ya
           try clear ub
           try clear c26
           try clear c29
           try clear vb
           try clear wb
           try clear c30
           try clear c33
           try clear bb
           try clear cb
           try clear db
           try clear eb
           try clear fb
           try clear gb
           try clear ib
           try clear jb
           try clear Lb
           try clear Mb
           try clear Nb
           try clear Ob
           try clear Pb
           try clear Qb
           try clear Rb
           try clear Sb
           try clear bc
           try clear cc
           try clear dc
           try clear ec
           try clear fc
           try clear gc
           try clear hc
           try clear ic
           try clear rc
           try clear sc
           try clear tc
           try clear uc
           try clear vc
           try clear xc
           try clear yc
           try clear zc
           try clear Ic
           try clear Jc
           try clear Kc
           try clear Lc
           try clear Mc
           try clear Nc
           try clear Oc
           try clear Pc
           try clear Yc
           try clear Zc
           try clear ad
           try clear bd
           try clear cd
           try clear dd
           try clear ed
           try clear fd
           try clear qd
           try clear sd
           try clear td
           try clear ud
           try clear vd
           try clear wd
           try clear xd
           try clear yd
           try clear Hd
           try clear Jd
           try clear Ld
           try clear Md
           try clear Nd
           try clear Od
           try clear Pd
           try clear Qd
           try clear kb
           try clear mb
           try clear nb
           try clear ob
           try clear pb
           try clear qb
           try clear rb
           try clear sb
           try clear Tb
           try clear Ub
           try clear Vb
           try clear Wb
           try clear Xb
           try clear Yb
           try clear Zb
           try clear ac
           try clear jc
           try clear kc
           try clear lc
           try clear mc
           try clear nc
           try clear oc
           try clear pc
           try clear qc
           try clear Ac
           try clear Bc
           try clear Cc
           try clear Dc
           try clear Ec
           try clear Fc
           try clear Gc
           try clear Hc
           try clear Qc
           try clear Rc
           try clear Sc
           try clear Tc
           try clear Uc
           try clear Vc
           try clear Wc
           try clear Xc
           try clear id
           try clear jd
           try clear kd
           try clear ld
           try clear md
           try clear nd
           try clear od
           try clear pd
           try clear zd
           try clear Ad
           try clear Bd
           try clear Cd
           try clear Dd
           try clear Ed
           try clear Fd
           try clear Gd
           try clear Rd
           try clear Sd
           try clear Td
           try clear Ud
           try clear Vd
           try clear Wd
           try clear Xd
           try clear Yd
           try clear Ta
           try clear Ua
           try clear Va
           try clear Wa
           try clear Xa
           try clear Ya
           try clear Za
           try clear ab
           try clear Cb
           try clear Db
           try clear Eb
           try clear Fb
           try clear Gb
           try clear Hb
           try clear Ib
           try clear Jb
           try clear p2
           try clear p6
           try clear p8
           try clear Ba
           try clear Ia
           try clear q8
           try clear Ca
           try clear Ja
           obtain ⟨kq, xa, rfl, HA, HJ20, ja, ia, ka, la, fa, ea, HB⟩ := hcut
           cases kq with
           | zero => exact absurd HA.out (by simp [l14_SetoffOldest.j3])
           | succ kj20 =>
            have H := HA.out
            clear HA
            simp only [l14_SetoffOldest.j3] at H
            have HC36 := A0_.mk H
            clear H
            go_upto_region 13 with (fail)
            go_cut [17] (fun v17 wc => ∃ (kq : Nat) (Ka : Bool), v17 = .bool Ka ∧ A0_ (l14_SetoffOldest.j4 kq aa (wrap64 (a1)) (wrap64 (Int.tmod a2 40)) ha ca ba xa Ka aa (aa.length : Int) ca aa (aa.length : Int) ba ((r28_ aa ca).f0) ((r28_ aa ca).f1) ((r28_ aa ca).f2.f0) ((r28_ aa ca).f2.f1) ((r28_ aa ca).f2.f2) ((r28_ aa ca).f3) ((r28_ aa ca).f4) ((r28_ aa ca).f5) ((r28_ aa ba).f0) ((r28_ aa ba).f1) ((r28_ aa ba).f2.f0) ((r28_ aa ba).f2.f1) ((r28_ aa ba).f2.f2) ((r28_ aa ba).f3) ((r28_ aa ba).f4) ((r28_ aa ba).f5) = some r) ∧ A0_ (kq ≤ kj20) ∧ A0_ (Kd.R k28 28 wc w.heap.size (fun k_ => k_ ≠ ga ∧ k_ ≠ da) (.slice (some qa) aa.length co8) aa) ∧ A0_ (Kd.R k26 26 wc w.heap.size (fun _ => True) Aa ha) ∧ A0_ (Kd.R k28 28 wc w.heap.size (fun k_ => k_ ≠ ga ∧ k_ ≠ da) (.slice (some qa) aa.length co8) aa) ∧ A0_ (Kd.R k28 28 wc w.heap.size (fun k_ => k_ ≠ ga ∧ k_ ≠ da) (.slice (some qa) aa.length co8) aa) ∧ A0_ (wc.heap[ga]? = some (.cells #[.int .i64 ((r28_ aa ca).f0), .int .i64 ((r28_ aa ca).f1), .bool ((r28_ aa ca).f2.f0), .string ((r28_ aa ca).f2.f1), .string ((r28_ aa ca).f2.f2), .int .i64 ((r28_ aa ca).f3), .int .i64 ((r28_ aa ca).f4), .bool ((r28_ aa ca).f5)] 28 (0, 0))) ∧ A0_ (wc.heap[da]? = some (.cells #[.int .i64 ((r28_ aa ba).f0), .int .i64 ((r28_ aa ba).f1), .bool ((r28_ aa ba).f2.f0), .string ((r28_ aa ba).f2.f1), .string ((r28_ aa ba).f2.f2), .int .i64 ((r28_ aa ba).f3), .int .i64 ((r28_ aa ba).f4), .bool ((r28_ aa ba).f5)] 28 (0, 0))) ∧ A0_ (Below w.heap.size w wc))
            case first =>
             have H := HC36.out
             clear HC36
             by_cases c37 : ((r28_ aa ca).f0) = ((r28_ aa ba).f0)
             ·rw [if_pos c37] at H
              have Da : (((r28_ aa ca).f0) == ((r28_ aa ba).f0)) = true := beq_iff_eq.mpr c37
              have Na : (((r28_ aa ca).f0) != ((r28_ aa ba).f0)) = false := bne_eq_false_iff_eq.mpr c37
              clear c37
              (first | rw [Da] | rw [Na] | (simp only [i6_, i3_]; rw [Da]) | skip)
              by_cases c38 : ((r28_ aa ca).f1) = ((r28_ aa ba).f1)
              ·rw [if_pos c38] at H
               have ae : (((r28_ aa ca).f1) == ((r28_ aa ba).f1)) = true := beq_iff_eq.mpr c38
               have be : (((r28_ aa ca).f1) != ((r28_ aa ba).f1)) = false := bne_eq_false_iff_eq.mpr c38
               clear c38
               obtain ⟨ne, A39, H⟩ := oB_ H
               (try dsimp only at H)
               by_cases c40 : ne = true
               ·subst c40
                have H1 : ((so_Eligible.f ((r28_ aa ba).f0) ((r28_ aa ba).f1) ((r28_ aa ba).f2.f0) ((r28_ aa ba).f2.f1) ((r28_ aa ba).f2.f2) ((r28_ aa ba).f3) ((r28_ aa ba).f4) ((r28_ aa ba).f5) (wrap64 (a1)) (wrap64 (Int.tmod a2 40))).bind fun Oa => (l14_SetoffOldest.j4 kj20 aa (wrap64 (a1)) (wrap64 (Int.tmod a2 40)) ha ca ba xa Oa aa (aa.length : Int) ca aa (aa.length : Int) ba ((r28_ aa ca).f0) ((r28_ aa ca).f1) ((r28_ aa ca).f2.f0) ((r28_ aa ca).f2.f1) ((r28_ aa ca).f2.f2) ((r28_ aa ca).f3) ((r28_ aa ca).f4) ((r28_ aa ca).f5) ((r28_ aa ba).f0) ((r28_ aa ba).f1) ((r28_ aa ba).f2.f0) ((r28_ aa ba).f2.f1) ((r28_ aa ba).f2.f2) ((r28_ aa ba).f3) ((r28_ aa ba).f4) ((r28_ aa ba).f5))) = some r := by rw [if_pos rfl] at H; exact H
                clear H
                have H := H1
                clear H1
                obtain ⟨Oa, A41, H⟩ := oB_ H
                (try dsimp only at H)
                have H' := A0_.mk H
                clear H
                have hnb42 := ma.out
                have hnc42 := ua.out
                have oe : wc.cell? ⟨ga, 0, none⟩ = some (.int .i64 ((r28_ aa ca).f0)) := (kc_ fa.out 0).trans rfl
                have pe : wc.cell? ⟨ga, 1, none⟩ = some (.int .i64 ((r28_ aa ca).f1)) := (kc_ fa.out 1).trans rfl
                have qe : wc.cell? ⟨ga, 2, none⟩ = some (.bool ((r28_ aa ca).f2.f0)) := (kc_ fa.out 2).trans rfl
                have re : wc.cell? ⟨ga, 3, none⟩ = some (.string ((r28_ aa ca).f2.f1)) := (kc_ fa.out 3).trans rfl
                have se : wc.cell? ⟨ga, 4, none⟩ = some (.string ((r28_ aa ca).f2.f2)) := (kc_ fa.out 4).trans rfl
                have te : wc.cell? ⟨ga, 5, none⟩ = some (.int .i64 ((r28_ aa ca).f3)) := (kc_ fa.out 5).trans rfl
                have ue : wc.cell? ⟨ga, 6, none⟩ = some (.int .i64 ((r28_ aa ca).f4)) := (kc_ fa.out 6).trans rfl
                have ve : wc.cell? ⟨ga, 7, none⟩ = some (.bool ((r28_ aa ca).f5)) := (kc_ fa.out 7).trans rfl
                have we := kF_ fa.out 0
                have xe := kF_ fa.out 1
                have ye := kF_ fa.out 2
                have ze := kF_ fa.out 3
                have Ae := kF_ fa.out 4
                have Be := kF_ fa.out 5
                have Ce := kF_ fa.out 6
                have De := kF_ fa.out 7
                have Ee : wc.cell? ⟨da, 0, none⟩ = some (.int .i64 ((r28_ aa ba).f0)) := (kc_ ea.out 0).trans rfl
                have Fe : wc.cell? ⟨da, 1, none⟩ = some (.int .i64 ((r28_ aa ba).f1)) := (kc_ ea.out 1).trans rfl
                have Ge : wc.cell? ⟨da, 2, none⟩ = some (.bool ((r28_ aa ba).f2.f0)) := (kc_ ea.out 2).trans rfl
                have He : wc.cell? ⟨da, 3, none⟩ = some (.string ((r28_ aa ba).f2.f1)) := (kc_ ea.out 3).trans rfl
                have Ie : wc.cell? ⟨da, 4, none⟩ = some (.string ((r28_ aa ba).f2.f2)) := (kc_ ea.out 4).trans rfl
                have Je : wc.cell? ⟨da, 5, none⟩ = some (.int .i64 ((r28_ aa ba).f3)) := (kc_ ea.out 5).trans rfl
                have Ke : wc.cell? ⟨da, 6, none⟩ = some (.int .i64 ((r28_ aa ba).f4)) := (kc_ ea.out 6).trans rfl
                have Le : wc.cell? ⟨da, 7, none⟩ = some (.bool ((r28_ aa ba).f5)) := (kc_ ea.out 7).trans rfl
                have Me := kF_ ea.out 0
                have Oe := kF_ ea.out 1
                have Pe := kF_ ea.out 2
                have Qe := kF_ ea.out 3
                have Re := kF_ ea.out 4
                have Se := kF_ ea.out 5
                have Te := kF_ ea.out 6
                have Ue := kF_ ea.out 7
                go_wp2_with (first | (go_at_call 13; (with_reducible refine (so_Eligible.calls ((r28_ aa ca).f0) ((r28_ aa ca).f1) ((r28_ aa ca).f2.f0) ((r28_ aa ca).f2.f1) ((r28_ aa ca).f2.f2) ((r28_ aa ca).f3) ((r28_ aa ca).f4) ((r28_ aa ca).f5) (wrap64 (a1)) (wrap64 (Int.tmod a2 40)) true _ A39.out).mono ?_); rintro e w45 ⟨rfl, hb⟩; have n0_ := A0_.mk (Kd.rB_ (xR_ ja.out) hb); have n1_ := A0_.mk (Kd.rB_ (xR_ ia.out) hb); have n2_ := A0_.mk (Kd.rB_ (xR_ ka.out) hb); have n3_ := A0_.mk (Kd.rB_ (xR_ la.out) hb); have n4_ := A0_.mk (kB_ (g := ga) (o := .cells #[.int .i64 ((r28_ aa ca).f0), .int .i64 ((r28_ aa ca).f1), .bool ((r28_ aa ca).f2.f0), .string ((r28_ aa ca).f2.f1), .string ((r28_ aa ca).f2.f2), .int .i64 ((r28_ aa ca).f3), .int .i64 ((r28_ aa ca).f4), .bool ((r28_ aa ca).f5)] 28 (0, 0)) (xK_ fa.out) hb); have n5_ := A0_.mk (kB_ (g := da) (o := .cells #[.int .i64 ((r28_ aa ba).f0), .int .i64 ((r28_ aa ba).f1), .bool ((r28_ aa ba).f2.f0), .string ((r28_ aa ba).f2.f1), .string ((r28_ aa ba).f2.f2), .int .i64 ((r28_ aa ba).f3), .int .i64 ((r28_ aa ba).f4), .bool ((r28_ aa ba).f5)] 28 (0, 0)) (xK_ ea.out) hb); have n6_ := A0_.mk (bT_ (xB2_ HB na pa) hb); clear ja ia ka la fa ea HB; have ja := n0_; have ia := n1_; have ka := n2_; have la := n3_; have fa := n4_; have ea := n5_; have HB := n6_; clear n0_ n1_ n2_ n3_ n4_ n5_ n6_; (try clear hb); (try clear hb2); (try clear hk); (try clear hi); have Ve : w45.cell? ⟨da, 0, none⟩ = some (.int .i64 ((r28_ aa ba).f0)) := (kc_ ea.out 0).trans rfl; have We : w45.cell? ⟨da, 1, none⟩ = some (.int .i64 ((r28_ aa ba).f1)) := (kc_ ea.out 1).trans rfl; have Xe : w45.cell? ⟨da, 2, none⟩ = some (.bool ((r28_ aa ba).f2.f0)) := (kc_ ea.out 2).trans rfl; have Ye : w45.cell? ⟨da, 3, none⟩ = some (.string ((r28_ aa ba).f2.f1)) := (kc_ ea.out 3).trans rfl; have Ze : w45.cell? ⟨da, 4, none⟩ = some (.string ((r28_ aa ba).f2.f2)) := (kc_ ea.out 4).trans rfl; have af : w45.cell? ⟨da, 5, none⟩ = some (.int .i64 ((r28_ aa ba).f3)) := (kc_ ea.out 5).trans rfl; have bf : w45.cell? ⟨da, 6, none⟩ = some (.int .i64 ((r28_ aa ba).f4)) := (kc_ ea.out 6).trans rfl; have cf : w45.cell? ⟨da, 7, none⟩ = some (.bool ((r28_ aa ba).f5)) := (kc_ ea.out 7).trans rfl; have df := kF_ ea.out 0; have ef := kF_ ea.out 1; have ff := kF_ ea.out 2; have gf := kF_ ea.out 3; have hf := kF_ ea.out 4; have jf := kF_ ea.out 5; have kf := kF_ ea.out 6; have lf := kF_ ea.out 7) | (go_at_call 13; (with_reducible refine (so_Eligible.calls ((r28_ aa ba).f0) ((r28_ aa ba).f1) ((r28_ aa ba).f2.f0) ((r28_ aa ba).f2.f1) ((r28_ aa ba).f2.f2) ((r28_ aa ba).f3) ((r28_ aa ba).f4) ((r28_ aa ba).f5) (wrap64 (a1)) (wrap64 (Int.tmod a2 40)) Oa _ A41.out).mono ?_); rintro e w47 ⟨rfl, hb⟩; have n0_ := A0_.mk (Kd.rB_ (xR_ ja.out) hb); have n1_ := A0_.mk (Kd.rB_ (xR_ ia.out) hb); have n2_ := A0_.mk (Kd.rB_ (xR_ ka.out) hb); have n3_ := A0_.mk (Kd.rB_ (xR_ la.out) hb); have n4_ := A0_.mk (kB_ (g := ga) (o := .cells #[.int .i64 ((r28_ aa ca).f0), .int .i64 ((r28_ aa ca).f1), .bool ((r28_ aa ca).f2.f0), .string ((r28_ aa ca).f2.f1), .string ((r28_ aa ca).f2.f2), .int .i64 ((r28_ aa ca).f3), .int .i64 ((r28_ aa ca).f4), .bool ((r28_ aa ca).f5)] 28 (0, 0)) (xK_ fa.out) hb); have n5_ := A0_.mk (kB_ (g := da) (o := .cells #[.int .i64 ((r28_ aa ba).f0), .int .i64 ((r28_ aa ba).f1), .bool ((r28_ aa ba).f2.f0), .string ((r28_ aa ba).f2.f1), .string ((r28_ aa ba).f2.f2), .int .i64 ((r28_ aa ba).f3), .int .i64 ((r28_ aa ba).f4), .bool ((r28_ aa ba).f5)] 28 (0, 0)) (xK_ ea.out) hb); have n6_ := A0_.mk (bT_ (xB2_ HB na pa) hb); clear ja ia ka la fa ea HB; have ja := n0_; have ia := n1_; have ka := n2_; have la := n3_; have fa := n4_; have ea := n5_; have HB := n6_; clear n0_ n1_ n2_ n3_ n4_ n5_ n6_; (try clear hb); (try clear hb2); (try clear hk); (try clear hi)))
                go_meet
                case rel => exact ⟨_, (Oa), (rS_), H', ⟨by have := HJ5.out; have := HK2.out; have := HK3.out; have := HJ20.out; first | omega | exact Nat.le_refl _⟩, ⟨by (with_reducible repeat (first | apply Kd.R_alloc | apply Kd.rN_ | apply Kd.rD_)); exact ja.out⟩, ⟨by (with_reducible repeat (first | apply Kd.R_alloc | apply Kd.rN_ | apply Kd.rD_)); exact ia.out⟩, ⟨by (with_reducible repeat (first | apply Kd.R_alloc | apply Kd.rN_ | apply Kd.rD_)); exact ka.out⟩, ⟨by (with_reducible repeat (first | apply Kd.R_alloc | apply Kd.rN_ | apply Kd.rD_)); exact la.out⟩, ⟨by (with_reducible repeat (first | apply kN_ | apply kD_ | apply kA_)); exact fa.out⟩, ⟨by (with_reducible repeat (first | apply kN_ | apply kD_ | apply kA_)); exact ea.out⟩, ⟨xB2_ HB na pa⟩⟩
               ·replace c40 := Bool.eq_false_iff.mpr c40
                subst c40
                have H1 : (l14_SetoffOldest.j4 kj20 aa (wrap64 (a1)) (wrap64 (Int.tmod a2 40)) ha ca ba xa false aa (aa.length : Int) ca aa (aa.length : Int) ba ((r28_ aa ca).f0) ((r28_ aa ca).f1) ((r28_ aa ca).f2.f0) ((r28_ aa ca).f2.f1) ((r28_ aa ca).f2.f2) ((r28_ aa ca).f3) ((r28_ aa ca).f4) ((r28_ aa ca).f5) ((r28_ aa ba).f0) ((r28_ aa ba).f1) ((r28_ aa ba).f2.f0) ((r28_ aa ba).f2.f1) ((r28_ aa ba).f2.f2) ((r28_ aa ba).f3) ((r28_ aa ba).f4) ((r28_ aa ba).f5)) = some r := by rw [if_neg (show ¬ (false = true) by decide)] at H; exact H
                clear H
                have H := H1
                clear H1
                have H' := A0_.mk H
                clear H
                have hnb48 := ma.out
                have hnc48 := ua.out
                have mf : wc.cell? ⟨ga, 0, none⟩ = some (.int .i64 ((r28_ aa ca).f0)) := (kc_ fa.out 0).trans rfl
                have nf : wc.cell? ⟨ga, 1, none⟩ = some (.int .i64 ((r28_ aa ca).f1)) := (kc_ fa.out 1).trans rfl
                have pf : wc.cell? ⟨ga, 2, none⟩ = some (.bool ((r28_ aa ca).f2.f0)) := (kc_ fa.out 2).trans rfl
                have qf : wc.cell? ⟨ga, 3, none⟩ = some (.string ((r28_ aa ca).f2.f1)) := (kc_ fa.out 3).trans rfl
                have rf : wc.cell? ⟨ga, 4, none⟩ = some (.string ((r28_ aa ca).f2.f2)) := (kc_ fa.out 4).trans rfl
                have sf : wc.cell? ⟨ga, 5, none⟩ = some (.int .i64 ((r28_ aa ca).f3)) := (kc_ fa.out 5).trans rfl
                have tf : wc.cell? ⟨ga, 6, none⟩ = some (.int .i64 ((r28_ aa ca).f4)) := (kc_ fa.out 6).trans rfl
                have uf : wc.cell? ⟨ga, 7, none⟩ = some (.bool ((r28_ aa ca).f5)) := (kc_ fa.out 7).trans rfl
                have vf := kF_ fa.out 0
                have wf := kF_ fa.out 1
                have xf := kF_ fa.out 2
                have yf := kF_ fa.out 3
                have zf := kF_ fa.out 4
                have Af := kF_ fa.out 5
                have Bf := kF_ fa.out 6
                have Cf := kF_ fa.out 7
                have Df : wc.cell? ⟨da, 0, none⟩ = some (.int .i64 ((r28_ aa ba).f0)) := (kc_ ea.out 0).trans rfl
                have Ef : wc.cell? ⟨da, 1, none⟩ = some (.int .i64 ((r28_ aa ba).f1)) := (kc_ ea.out 1).trans rfl
                have Ff : wc.cell? ⟨da, 2, none⟩ = some (.bool ((r28_ aa ba).f2.f0)) := (kc_ ea.out 2).trans rfl
                have Gf : wc.cell? ⟨da, 3, none⟩ = some (.string ((r28_ aa ba).f2.f1)) := (kc_ ea.out 3).trans rfl
                have Hf : wc.cell? ⟨da, 4, none⟩ = some (.string ((r28_ aa ba).f2.f2)) := (kc_ ea.out 4).trans rfl
                have If : wc.cell? ⟨da, 5, none⟩ = some (.int .i64 ((r28_ aa ba).f3)) := (kc_ ea.out 5).trans rfl
                have Jf : wc.cell? ⟨da, 6, none⟩ = some (.int .i64 ((r28_ aa ba).f4)) := (kc_ ea.out 6).trans rfl
                have Kf : wc.cell? ⟨da, 7, none⟩ = some (.bool ((r28_ aa ba).f5)) := (kc_ ea.out 7).trans rfl
                have Lf := kF_ ea.out 0
                have Mf := kF_ ea.out 1
                have Nf := kF_ ea.out 2
                have Of := kF_ ea.out 3
                have Pf := kF_ ea.out 4
                have Qf := kF_ ea.out 5
                have Rf := kF_ ea.out 6
                have Sf := kF_ ea.out 7
                go_wp2_with (first | (go_at_call 13; (with_reducible refine (so_Eligible.calls ((r28_ aa ca).f0) ((r28_ aa ca).f1) ((r28_ aa ca).f2.f0) ((r28_ aa ca).f2.f1) ((r28_ aa ca).f2.f2) ((r28_ aa ca).f3) ((r28_ aa ca).f4) ((r28_ aa ca).f5) (wrap64 (a1)) (wrap64 (Int.tmod a2 40)) false _ A39.out).mono ?_); rintro e w51 ⟨rfl, hb⟩; have n0_ := A0_.mk (Kd.rB_ (xR_ ja.out) hb); have n1_ := A0_.mk (Kd.rB_ (xR_ ia.out) hb); have n2_ := A0_.mk (Kd.rB_ (xR_ ka.out) hb); have n3_ := A0_.mk (Kd.rB_ (xR_ la.out) hb); have n4_ := A0_.mk (kB_ (g := ga) (o := .cells #[.int .i64 ((r28_ aa ca).f0), .int .i64 ((r28_ aa ca).f1), .bool ((r28_ aa ca).f2.f0), .string ((r28_ aa ca).f2.f1), .string ((r28_ aa ca).f2.f2), .int .i64 ((r28_ aa ca).f3), .int .i64 ((r28_ aa ca).f4), .bool ((r28_ aa ca).f5)] 28 (0, 0)) (xK_ fa.out) hb); have n5_ := A0_.mk (kB_ (g := da) (o := .cells #[.int .i64 ((r28_ aa ba).f0), .int .i64 ((r28_ aa ba).f1), .bool ((r28_ aa ba).f2.f0), .string ((r28_ aa ba).f2.f1), .string ((r28_ aa ba).f2.f2), .int .i64 ((r28_ aa ba).f3), .int .i64 ((r28_ aa ba).f4), .bool ((r28_ aa ba).f5)] 28 (0, 0)) (xK_ ea.out) hb); have n6_ := A0_.mk (bT_ (xB2_ HB na pa) hb); clear ja ia ka la fa ea HB; have ja := n0_; have ia := n1_; have ka := n2_; have la := n3_; have fa := n4_; have ea := n5_; have HB := n6_; clear n0_ n1_ n2_ n3_ n4_ n5_ n6_; (try clear hb); (try clear hb2); (try clear hk); (try clear hi)))
                go_meet
                case rel => exact ⟨_, (false), (rS_), H', ⟨by have := HJ5.out; have := HK2.out; have := HK3.out; have := HJ20.out; first | omega | exact Nat.le_refl _⟩, ⟨by (with_reducible repeat (first | apply Kd.R_alloc | apply Kd.rN_ | apply Kd.rD_)); exact ja.out⟩, ⟨by (with_reducible repeat (first | apply Kd.R_alloc | apply Kd.rN_ | apply Kd.rD_)); exact ia.out⟩, ⟨by (with_reducible repeat (first | apply Kd.R_alloc | apply Kd.rN_ | apply Kd.rD_)); exact ka.out⟩, ⟨by (with_reducible repeat (first | apply Kd.R_alloc | apply Kd.rN_ | apply Kd.rD_)); exact la.out⟩, ⟨by (with_reducible repeat (first | apply kN_ | apply kD_ | apply kA_)); exact fa.out⟩, ⟨by (with_reducible repeat (first | apply kN_ | apply kD_ | apply kA_)); exact ea.out⟩, ⟨xB2_ HB na pa⟩⟩
              ·rw [if_neg c38] at H
               have ae : (((r28_ aa ca).f1) == ((r28_ aa ba).f1)) = false := beq_eq_false_iff_ne.mpr c38
               have be : (((r28_ aa ca).f1) != ((r28_ aa ba).f1)) = true := bne_iff_ne.mpr c38
               have H' := A0_.mk H
               clear H
               have hnb52 := ma.out
               have hnc52 := ua.out
               have Tf : wc.cell? ⟨ga, 0, none⟩ = some (.int .i64 ((r28_ aa ca).f0)) := (kc_ fa.out 0).trans rfl
               have Uf : wc.cell? ⟨ga, 1, none⟩ = some (.int .i64 ((r28_ aa ca).f1)) := (kc_ fa.out 1).trans rfl
               have Vf : wc.cell? ⟨ga, 2, none⟩ = some (.bool ((r28_ aa ca).f2.f0)) := (kc_ fa.out 2).trans rfl
               have Wf : wc.cell? ⟨ga, 3, none⟩ = some (.string ((r28_ aa ca).f2.f1)) := (kc_ fa.out 3).trans rfl
               have Xf : wc.cell? ⟨ga, 4, none⟩ = some (.string ((r28_ aa ca).f2.f2)) := (kc_ fa.out 4).trans rfl
               have Yf : wc.cell? ⟨ga, 5, none⟩ = some (.int .i64 ((r28_ aa ca).f3)) := (kc_ fa.out 5).trans rfl
               have Zf : wc.cell? ⟨ga, 6, none⟩ = some (.int .i64 ((r28_ aa ca).f4)) := (kc_ fa.out 6).trans rfl
               have ag : wc.cell? ⟨ga, 7, none⟩ = some (.bool ((r28_ aa ca).f5)) := (kc_ fa.out 7).trans rfl
               have bg := kF_ fa.out 0
               have cg := kF_ fa.out 1
               have dg := kF_ fa.out 2
               have eg := kF_ fa.out 3
               have fg := kF_ fa.out 4
               have gg := kF_ fa.out 5
               have ig := kF_ fa.out 6
               have jg := kF_ fa.out 7
               have kg : wc.cell? ⟨da, 0, none⟩ = some (.int .i64 ((r28_ aa ba).f0)) := (kc_ ea.out 0).trans rfl
               have lg : wc.cell? ⟨da, 1, none⟩ = some (.int .i64 ((r28_ aa ba).f1)) := (kc_ ea.out 1).trans rfl
               have mg : wc.cell? ⟨da, 2, none⟩ = some (.bool ((r28_ aa ba).f2.f0)) := (kc_ ea.out 2).trans rfl
               have ng : wc.cell? ⟨da, 3, none⟩ = some (.string ((r28_ aa ba).f2.f1)) := (kc_ ea.out 3).trans rfl
               have og : wc.cell? ⟨da, 4, none⟩ = some (.string ((r28_ aa ba).f2.f2)) := (kc_ ea.out 4).trans rfl
               have pg : wc.cell? ⟨da, 5, none⟩ = some (.int .i64 ((r28_ aa ba).f3)) := (kc_ ea.out 5).trans rfl
               have qg : wc.cell? ⟨da, 6, none⟩ = some (.int .i64 ((r28_ aa ba).f4)) := (kc_ ea.out 6).trans rfl
               have rg : wc.cell? ⟨da, 7, none⟩ = some (.bool ((r28_ aa ba).f5)) := (kc_ ea.out 7).trans rfl
               have sg := kF_ ea.out 0
               have tg := kF_ ea.out 1
               have ug := kF_ ea.out 2
               have vg := kF_ ea.out 3
               have wg := kF_ ea.out 4
               have xg := kF_ ea.out 5
               have yg := kF_ ea.out 6
               have zg := kF_ ea.out 7
               go_wp2
               go_meet
               case rel => exact ⟨_, (false), (rS_), H', ⟨by have := HJ5.out; have := HK2.out; have := HK3.out; have := HJ20.out; first | omega | exact Nat.le_refl _⟩, ⟨by (with_reducible repeat (first | apply Kd.R_alloc | apply Kd.rN_ | apply Kd.rD_)); exact ja.out⟩, ⟨by (with_reducible repeat (first | apply Kd.R_alloc | apply Kd.rN_ | apply Kd.rD_)); exact ia.out⟩, ⟨by (with_reducible repeat (first | apply Kd.R_alloc | apply Kd.rN_ | apply Kd.rD_)); exact ka.out⟩, ⟨by (with_reducible repeat (first | apply Kd.R_alloc | apply Kd.rN_ | apply Kd.rD_)); exact la.out⟩, ⟨by (with_reducible repeat (first | apply kN_ | apply kD_ | apply kA_)); exact fa.out⟩, ⟨by (with_reducible repeat (first | apply kN_ | apply kD_ | apply kA_)); exact ea.out⟩, ⟨xB2_ HB na pa⟩⟩
             ·rw [if_neg c37] at H
              have Da : (((r28_ aa ca).f0) == ((r28_ aa ba).f0)) = false := beq_eq_false_iff_ne.mpr c37
              have Na : (((r28_ aa ca).f0) != ((r28_ aa ba).f0)) = true := bne_iff_ne.mpr c37
              (first | rw [Da] | rw [Na] | (simp only [i6_, i3_]; rw [Da]) | skip)
              have H' := A0_.mk H
              clear H
              have hnb55 := ma.out
              have hnc55 := ua.out
              have Ag : wc.cell? ⟨ga, 0, none⟩ = some (.int .i64 ((r28_ aa ca).f0)) := (kc_ fa.out 0).trans rfl
              have Bg : wc.cell? ⟨ga, 1, none⟩ = some (.int .i64 ((r28_ aa ca).f1)) := (kc_ fa.out 1).trans rfl
              have Cg : wc.cell? ⟨ga, 2, none⟩ = some (.bool ((r28_ aa ca).f2.f0)) := (kc_ fa.out 2).trans rfl
              have Dg : wc.cell? ⟨ga, 3, none⟩ = some (.string ((r28_ aa ca).f2.f1)) := (kc_ fa.out 3).trans rfl
              have Eg : wc.cell? ⟨ga, 4, none⟩ = some (.string ((r28_ aa ca).f2.f2)) := (kc_ fa.out 4).trans rfl
              have Fg : wc.cell? ⟨ga, 5, none⟩ = some (.int .i64 ((r28_ aa ca).f3)) := (kc_ fa.out 5).trans rfl
              have Gg : wc.cell? ⟨ga, 6, none⟩ = some (.int .i64 ((r28_ aa ca).f4)) := (kc_ fa.out 6).trans rfl
              have Hg : wc.cell? ⟨ga, 7, none⟩ = some (.bool ((r28_ aa ca).f5)) := (kc_ fa.out 7).trans rfl
              have Ig := kF_ fa.out 0
              have Jg := kF_ fa.out 1
              have Kg := kF_ fa.out 2
              have Lg := kF_ fa.out 3
              have Mg := kF_ fa.out 4
              have Ng := kF_ fa.out 5
              have Og := kF_ fa.out 6
              have Pg := kF_ fa.out 7
              have Qg : wc.cell? ⟨da, 0, none⟩ = some (.int .i64 ((r28_ aa ba).f0)) := (kc_ ea.out 0).trans rfl
              have Rg : wc.cell? ⟨da, 1, none⟩ = some (.int .i64 ((r28_ aa ba).f1)) := (kc_ ea.out 1).trans rfl
              have Sg : wc.cell? ⟨da, 2, none⟩ = some (.bool ((r28_ aa ba).f2.f0)) := (kc_ ea.out 2).trans rfl
              have Tg : wc.cell? ⟨da, 3, none⟩ = some (.string ((r28_ aa ba).f2.f1)) := (kc_ ea.out 3).trans rfl
              have Ug : wc.cell? ⟨da, 4, none⟩ = some (.string ((r28_ aa ba).f2.f2)) := (kc_ ea.out 4).trans rfl
              have Vg : wc.cell? ⟨da, 5, none⟩ = some (.int .i64 ((r28_ aa ba).f3)) := (kc_ ea.out 5).trans rfl
              have Wg : wc.cell? ⟨da, 6, none⟩ = some (.int .i64 ((r28_ aa ba).f4)) := (kc_ ea.out 6).trans rfl
              have Xg : wc.cell? ⟨da, 7, none⟩ = some (.bool ((r28_ aa ba).f5)) := (kc_ ea.out 7).trans rfl
              have Yg := kF_ ea.out 0
              have Zg := kF_ ea.out 1
              have ah := kF_ ea.out 2
              have bh := kF_ ea.out 3
              have ch := kF_ ea.out 4
              have dh := kF_ ea.out 5
              have eh := kF_ ea.out 6
              have fh := kF_ ea.out 7
              go_wp2
              go_meet
              case rel => exact ⟨_, (false), (rS_), H', ⟨by have := HJ5.out; have := HK2.out; have := HK3.out; have := HJ20.out; first | omega | exact Nat.le_refl _⟩, ⟨by (with_reducible repeat (first | apply Kd.R_alloc | apply Kd.rN_ | apply Kd.rD_)); exact ja.out⟩, ⟨by (with_reducible repeat (first | apply Kd.R_alloc | apply Kd.rN_ | apply Kd.rD_)); exact ia.out⟩, ⟨by (with_reducible repeat (first | apply Kd.R_alloc | apply Kd.rN_ | apply Kd.rD_)); exact ka.out⟩, ⟨by (with_reducible repeat (first | apply Kd.R_alloc | apply Kd.rN_ | apply Kd.rD_)); exact la.out⟩, ⟨by (with_reducible repeat (first | apply kN_ | apply kD_ | apply kA_)); exact fa.out⟩, ⟨by (with_reducible repeat (first | apply kN_ | apply kD_ | apply kA_)); exact ea.out⟩, ⟨xB2_ HB na pa⟩⟩
            case rest =>
             clear HC36
             try clear c1
             try clear c2
             try clear p2
             try clear c3
             try clear c4
             try clear c5
             try clear p6
             try clear c7
             try clear p8
             try clear q8
             try clear hx8
             try clear c10
             try clear ra
             try clear ta
             try clear c12
             try clear c13
             try clear Ma
             try clear c14
             try clear Ra
             try clear c15
             try clear Sa
             try clear c17
             try clear c18
             try clear tb
             try clear c19
             try clear Ab
             try clear c20
             try clear Bb
             try clear c23
             try clear c25
             try clear ya
             try clear ub
             try clear c26
             try clear c29
             try clear vb
             try clear wb
             try clear c30
             try clear c33
             try clear c37
             try clear Da
             try clear Na
             try clear c38
             try clear ae
             try clear be
             try clear c40
             try clear c42
             try clear c48
             try clear c52
             try clear c55
             try clear bb
             try clear cb
             try clear db
             try clear eb
             try clear fb
             try clear gb
             try clear ib
             try clear jb
             try clear Lb
             try clear Mb
             try clear Nb
             try clear Ob
             try clear Pb
             try clear Qb
             try clear Rb
             try clear Sb
             try clear bc
             try clear cc
             try clear dc
             try clear ec
             try clear fc
             try clear gc
             try clear hc
             try clear ic
             try clear rc
             try clear sc
             try clear tc
             try clear uc
             try clear vc
             try clear xc
             try clear yc
             try clear zc
             try clear Ic
             try clear Jc
             try clear Kc
             try clear Lc
             try clear Mc
             try clear Nc
             try clear Oc
             try clear Pc
             try clear Yc
             try clear Zc
             try clear ad
             try clear bd
             try clear cd
             try clear dd
             try clear ed
             try clear fd
             try clear qd
             try clear sd
             try clear td
             try clear ud
             try clear vd
             try clear wd
             try clear xd
             try clear yd
             try clear Hd
             try clear Jd
             try clear Ld
             try clear Md
             try clear Nd
             try clear Od
             try clear Pd
             try clear Qd
             try clear oe
             try clear pe
             try clear qe
             try clear re
             try clear se
             try clear te
             try clear ue
             try clear ve
             try clear Ee
             try clear Fe
             try clear Ge
             try clear He
             try clear Ie
             try clear Je
             try clear Ke
             try clear Le
             try clear Ve
             try clear We
             try clear Xe
             try clear Ye
             try clear Ze
             try clear af
             try clear bf
             try clear cf
             try clear mf
             try clear nf
             try clear pf
             try clear qf
             try clear rf
             try clear sf
             try clear tf
             try clear uf
             try clear Df
             try clear Ef
             try clear Ff
             try clear Gf
             try clear Hf
             try clear If
             try clear Jf
             try clear Kf
             try clear Tf
             try clear Uf
             try clear Vf
             try clear Wf
             try clear Xf
             try clear Yf
             try clear Zf
             try clear ag
             try clear kg
             try clear lg
             try clear mg
             try clear ng
             try clear og
             try clear pg
             try clear qg
             try clear rg
             try clear Ag
             try clear Bg
             try clear Cg
             try clear Dg
             try clear Eg
             try clear Fg
             try clear Gg
             try clear Hg
             try clear Qg
             try clear Rg
             try clear Sg
             try clear Tg
             try clear Ug
             try clear Vg
             try clear Wg
             try clear Xg
             try clear kb
             try clear mb
             try clear nb
             try clear ob
             try clear pb
             try clear qb
             try clear rb
             try clear sb
             try clear Tb
             try clear Ub
             try clear Vb
             try clear Wb
             try clear Xb
             try clear Yb
             try clear Zb
             try clear ac
             try clear jc
             try clear kc
             try clear lc
             try clear mc
             try clear nc
             try clear oc
             try clear pc
             try clear qc
             try clear Ac
             try clear Bc
             try clear Cc
             try clear Dc
             try clear Ec
             try clear Fc
             try clear Gc
             try clear Hc
             try clear Qc
             try clear Rc
             try clear Sc
             try clear Tc
             try clear Uc
             try clear Vc
             try clear Wc
             try clear Xc
             try clear id
             try clear jd
             try clear kd
             try clear ld
             try clear md
             try clear nd
             try clear od
             try clear pd
             try clear zd
             try clear Ad
             try clear Bd
             try clear Cd
             try clear Dd
             try clear Ed
             try clear Fd
             try clear Gd
             try clear Rd
             try clear Sd
             try clear Td
             try clear Ud
             try clear Vd
             try clear Wd
             try clear Xd
             try clear Yd
             try clear we
             try clear xe
             try clear ye
             try clear ze
             try clear Ae
             try clear Be
             try clear Ce
             try clear De
             try clear Me
             try clear Oe
             try clear Pe
             try clear Qe
             try clear Re
             try clear Se
             try clear Te
             try clear Ue
             try clear df
             try clear ef
             try clear ff
             try clear gf
             try clear hf
             try clear jf
             try clear kf
             try clear lf
             try clear vf
             try clear wf
             try clear xf
             try clear yf
             try clear zf
             try clear Af
             try clear Bf
             try clear Cf
             try clear Lf
             try clear Mf
             try clear Nf
             try clear Of
             try clear Pf
             try clear Qf
             try clear Rf
             try clear Sf
             try clear bg
             try clear cg
             try clear dg
             try clear eg
             try clear fg
             try clear gg
             try clear ig
             try clear jg
             try clear sg
             try clear tg
             try clear ug
             try clear vg
             try clear wg
             try clear xg
             try clear yg
             try clear zg
             try clear Ig
             try clear Jg
             try clear Kg
             try clear Lg
             try clear Mg
             try clear Ng
             try clear Og
             try clear Pg
             try clear Yg
             try clear Zg
             try clear ah
             try clear bh
             try clear ch
             try clear dh
             try clear eh
             try clear fh
             try clear Ta
             try clear Ua
             try clear Va
             try clear Wa
             try clear Xa
             try clear Ya
             try clear Za
             try clear ab
             try clear Cb
             try clear Db
             try clear Eb
             try clear Fb
             try clear Gb
             try clear Hb
             try clear Ib
             try clear Jb
             try clear p2
             try clear p6
             try clear p8
             try clear Ba
             try clear Ia
             try clear q8
             try clear Ca
             try clear Ja
             obtain ⟨kq, Ka, rfl, HA, HJ35, ja, ia, ka, la, fa, ea, HB⟩ := hcut
             cases kq with
             | zero => exact absurd HA.out (by simp [l14_SetoffOldest.j4])
             | succ kj35 =>
              have H := HA.out
              clear HA
              simp only [l14_SetoffOldest.j4] at H
              have HC58 := A0_.mk H
              clear H
              go_upto_region 14 with (fail)
              go_cut [116] (fun gh wc => ∃ (kq : Nat) (Pa : Bool), gh = .bool Pa ∧ A0_ (l14_SetoffOldest.j5 kq aa (wrap64 (a1)) (wrap64 (Int.tmod a2 40)) ha ca aa (aa.length : Int) ca aa (aa.length : Int) ba Pa ((r28_ aa ca).f0) ((r28_ aa ca).f1) ((r28_ aa ca).f2.f0) ((r28_ aa ca).f2.f1) ((r28_ aa ca).f2.f2) ((r28_ aa ca).f3) ((r28_ aa ca).f4) ((r28_ aa ca).f5) = some r) ∧ A0_ (kq ≤ kj35) ∧ A0_ (Kd.R k28 28 wc w.heap.size (fun k_ => k_ ≠ ga ∧ k_ ≠ da) (.slice (some qa) aa.length co8) aa) ∧ A0_ (Kd.R k26 26 wc w.heap.size (fun _ => True) Aa ha) ∧ A0_ (Kd.R k28 28 wc w.heap.size (fun k_ => k_ ≠ ga ∧ k_ ≠ da) (.slice (some qa) aa.length co8) aa) ∧ A0_ (Kd.R k28 28 wc w.heap.size (fun k_ => k_ ≠ ga ∧ k_ ≠ da) (.slice (some qa) aa.length co8) aa) ∧ A0_ (wc.heap[ga]? = some (.cells #[.int .i64 ((r28_ aa ca).f0), .int .i64 ((r28_ aa ca).f1), .bool ((r28_ aa ca).f2.f0), .string ((r28_ aa ca).f2.f1), .string ((r28_ aa ca).f2.f2), .int .i64 ((r28_ aa ca).f3), .int .i64 ((r28_ aa ca).f4), .bool ((r28_ aa ca).f5)] 28 (0, 0))) ∧ A0_ (wc.heap[da]? = some (.cells #[.int .i64 ((r28_ aa ba).f0), .int .i64 ((r28_ aa ba).f1), .bool ((r28_ aa ba).f2.f0), .string ((r28_ aa ba).f2.f1), .string ((r28_ aa ba).f2.f2), .int .i64 ((r28_ aa ba).f3), .int .i64 ((r28_ aa ba).f4), .bool ((r28_ aa ba).f5)] 28 (0, 0))) ∧ A0_ (Below w.heap.size w wc))
              case first =>
               have H := HC58.out
               clear HC58
               by_cases c59 : xa = true
               ·subst c59
                have H1 : (if Ka = true then (if 0 ≤ ba then (if ba < (ha.length : Int) then (if (!(((r26_ ha ba).f0) == ((r28_ aa ba).f2.f0)) || (!((((r26_ ha ba).f1).toList) == ((r28_ aa ba).f2.f1).toList) || (!((((r26_ ha ba).f2).toList) == ((r28_ aa ba).f2.f2).toList)))) = true then (if 0 ≤ ca then (if ca < (ha.length : Int) then ((q_Sign.f kj35 ((r26_ ha ca).f0) ((r26_ ha ca).f1) ((r26_ ha ca).f2)).bind fun Ea => (l14_SetoffOldest.j5 kj35 aa (wrap64 (a1)) (wrap64 (Int.tmod a2 40)) ha ca aa (aa.length : Int) ca aa (aa.length : Int) ba (Ea != 0) ((r28_ aa ca).f0) ((r28_ aa ca).f1) ((r28_ aa ca).f2.f0) ((r28_ aa ca).f2.f1) ((r28_ aa ca).f2.f2) ((r28_ aa ca).f3) ((r28_ aa ca).f4) ((r28_ aa ca).f5))) else (none)) else (none)) else (l14_SetoffOldest.j5 kj35 aa (wrap64 (a1)) (wrap64 (Int.tmod a2 40)) ha ca aa (aa.length : Int) ca aa (aa.length : Int) ba false ((r28_ aa ca).f0) ((r28_ aa ca).f1) ((r28_ aa ca).f2.f0) ((r28_ aa ca).f2.f1) ((r28_ aa ca).f2.f2) ((r28_ aa ca).f3) ((r28_ aa ca).f4) ((r28_ aa ca).f5))) else (none)) else (none)) else (l14_SetoffOldest.j5 kj35 aa (wrap64 (a1)) (wrap64 (Int.tmod a2 40)) ha ca aa (aa.length : Int) ca aa (aa.length : Int) ba false ((r28_ aa ca).f0) ((r28_ aa ca).f1) ((r28_ aa ca).f2.f0) ((r28_ aa ca).f2.f1) ((r28_ aa ca).f2.f2) ((r28_ aa ca).f3) ((r28_ aa ca).f4) ((r28_ aa ca).f5))) = some r := by rw [if_pos rfl] at H; exact H
                clear H
                have H := H1
                clear H1
                by_cases c60 : Ka = true
                ·subst c60
                 have H1 : (if 0 ≤ ba then (if ba < (ha.length : Int) then (if (!(((r26_ ha ba).f0) == ((r28_ aa ba).f2.f0)) || (!((((r26_ ha ba).f1).toList) == ((r28_ aa ba).f2.f1).toList) || (!((((r26_ ha ba).f2).toList) == ((r28_ aa ba).f2.f2).toList)))) = true then (if 0 ≤ ca then (if ca < (ha.length : Int) then ((q_Sign.f kj35 ((r26_ ha ca).f0) ((r26_ ha ca).f1) ((r26_ ha ca).f2)).bind fun Ea => (l14_SetoffOldest.j5 kj35 aa (wrap64 (a1)) (wrap64 (Int.tmod a2 40)) ha ca aa (aa.length : Int) ca aa (aa.length : Int) ba (Ea != 0) ((r28_ aa ca).f0) ((r28_ aa ca).f1) ((r28_ aa ca).f2.f0) ((r28_ aa ca).f2.f1) ((r28_ aa ca).f2.f2) ((r28_ aa ca).f3) ((r28_ aa ca).f4) ((r28_ aa ca).f5))) else (none)) else (none)) else (l14_SetoffOldest.j5 kj35 aa (wrap64 (a1)) (wrap64 (Int.tmod a2 40)) ha ca aa (aa.length : Int) ca aa (aa.length : Int) ba false ((r28_ aa ca).f0) ((r28_ aa ca).f1) ((r28_ aa ca).f2.f0) ((r28_ aa ca).f2.f1) ((r28_ aa ca).f2.f2) ((r28_ aa ca).f3) ((r28_ aa ca).f4) ((r28_ aa ca).f5))) else (none)) else (none)) = some r := by rw [if_pos rfl] at H; exact H
                 clear H
                 have H := H1
                 clear H1
                 by_cases c61 : 0 ≤ ba
                 rotate_left
                 ·rw [if_neg c61] at H
                  exact absurd H (by simp)
                 rw [if_pos c61] at H
                 have ce : decide (0 ≤ ba) = true := decide_eq_true c61
                 clear c61
                 (first | rw [ce] | rw [ph] | (simp only [i6_, i3_]; rw [ce]) | skip)
                 by_cases c62 : ba < (ha.length : Int)
                 rotate_left
                 ·rw [if_neg c62] at H
                  exact absurd H (by simp)
                 rw [if_pos c62] at H
                 have qh : decide (ba < (ha.length : Int)) = true := decide_eq_true c62
                 clear c62
                 by_cases c63 : (!(((r26_ ha ba).f0) == ((r28_ aa ba).f2.f0)) || (!((((r26_ ha ba).f1).toList) == ((r28_ aa ba).f2.f1).toList) || (!((((r26_ ha ba).f2).toList) == ((r28_ aa ba).f2.f2).toList)))) = true
                 ·rw [if_pos c63] at H
                  have de : (!(((r26_ ha ba).f0) == ((r28_ aa ba).f2.f0)) || (!((((r26_ ha ba).f1).toList) == ((r28_ aa ba).f2.f1).toList) || (!((((r26_ ha ba).f2).toList) == ((r28_ aa ba).f2.f2).toList)))) = true := c63
                  clear c63
                  by_cases c64 : 0 ≤ ca
                  rotate_left
                  ·rw [if_neg c64] at H
                   exact absurd H (by simp)
                  rw [if_pos c64] at H
                  have rh : decide (0 ≤ ca) = true := decide_eq_true c64
                  clear c64
                  by_cases c65 : ca < (ha.length : Int)
                  rotate_left
                  ·rw [if_neg c65] at H
                   exact absurd H (by simp)
                  rw [if_pos c65] at H
                  have sh : decide (ca < (ha.length : Int)) = true := decide_eq_true c65
                  clear c65
                  obtain ⟨Ea, A66, H⟩ := oB_ H
                  (try dsimp only at H)
                  have H' := A0_.mk H
                  clear H
                  try go_wp2
                  have n0_ := A0_.mk (Kd.rD_ ja.out)
                  have n1_ := A0_.mk (Kd.rD_ ia.out)
                  have n2_ := A0_.mk (Kd.rD_ ka.out)
                  have n3_ := A0_.mk (Kd.rD_ la.out)
                  have n4_ := A0_.mk (kD_ fa.out)
                  have n5_ := A0_.mk (kD_ ea.out)
                  have n6_ := A0_.mk (b1_ HB.out)
                  clear ja
                  clear ia
                  clear ka
                  clear la
                  clear fa
                  clear ea
                  clear HB
                  have ja := n0_
                  have ia := n1_
                  have ka := n2_
                  have la := n3_
                  have fa := n4_
                  have ea := n5_
                  have HB := n6_
                  clear n0_ n1_ n2_ n3_ n4_ n5_ n6_
                  obtain ⟨th, uh, ee⟩ := Kd.rS_' ia.out
                  (first | subst ee | (injection ee with f1_ f2_ f3_; have f4_ := f1_.symm; have f5_ := f3_.symm; clear f1_ f2_ f3_; subst f4_; subst f5_))
                  have va : 0 ≤ (ba : Int) := oD_
                  have wa : ba < (ha.length : Int) := oD_
                  obtain ⟨oa, xb, Fa, Ga, Ha⟩ := at_T26 (Kd.rr_' ia.out).2.2 ba va wa
                  cases xb
                  replace va := eq_true va
                  replace wa := eq_true wa
                  have yb : 0 ≤ (ca : Int) := oD_
                  have zb : ca < (ha.length : Int) := oD_
                  obtain ⟨hh, ih, fe, ge, he⟩ := at_T26 (Kd.rr_' ia.out).2.2 ca yb zb
                  obtain rfl : oa = hh := (by injection ih)
                  replace yb := eq_true yb
                  replace zb := eq_true zb
                  refine start_ (n := 21) (S := fun w' => w'.cell? ⟨da, 0, none⟩ = some (.int .i64 ((r28_ aa ba).f0)) ∧ w'.cell? ⟨da, 1, none⟩ = some (.int .i64 ((r28_ aa ba).f1)) ∧ w'.cell? ⟨da, 2, none⟩ = some (.bool ((r28_ aa ba).f2.f0)) ∧ w'.cell? ⟨da, 3, none⟩ = some (.string ((r28_ aa ba).f2.f1)) ∧ w'.cell? ⟨da, 4, none⟩ = some (.string ((r28_ aa ba).f2.f2)) ∧ w'.cell? ⟨da, 5, none⟩ = some (.int .i64 ((r28_ aa ba).f3)) ∧ w'.cell? ⟨da, 6, none⟩ = some (.int .i64 ((r28_ aa ba).f4)) ∧ w'.cell? ⟨da, 7, none⟩ = some (.bool ((r28_ aa ba).f5)) ∧ w'.cell? (oa.add ((ba).toNat * 3)) = some (.bool ((r26_ ha ba).f0)) ∧ w'.cell? ⟨(oa.add ((ba).toNat * 3)).block, (oa.add ((ba).toNat * 3)).off + 1, none⟩ = some (.string ((r26_ ha ba).f1)) ∧ w'.cell? ⟨(oa.add ((ba).toNat * 3)).block, (oa.add ((ba).toNat * 3)).off + 2, none⟩ = some (.string ((r26_ ha ba).f2)) ∧ w'.cell? (oa.add ((ca).toNat * 3)) = some (.bool ((r26_ ha ca).f0)) ∧ w'.cell? ⟨(oa.add ((ca).toNat * 3)).block, (oa.add ((ca).toNat * 3)).off + 1, none⟩ = some (.string ((r26_ ha ca).f1)) ∧ w'.cell? ⟨(oa.add ((ca).toNat * 3)).block, (oa.add ((ca).toNat * 3)).off + 2, none⟩ = some (.string ((r26_ ha ca).f2))) (ds := []) #[false, false, false, false, false, false, false, false, false, false, false, false, false, false, false, false, false, false, false, false, false] kr_ rfl rfl ⟨(kc_ ea.out 0).trans rfl, (kc_ ea.out 1).trans rfl, (kc_ ea.out 2).trans rfl, (kc_ ea.out 3).trans rfl, (kc_ ea.out 4).trans rfl, (kc_ ea.out 5).trans rfl, (kc_ ea.out 6).trans rfl, (kc_ ea.out 7).trans rfl, Fa, Ga, Ha, fe, ge, he⟩ (fun hHeld => ?_); refine with_tabW l14_SetoffOldest.tab14 l14_SetoffOldest.bits14 (fun HT_ HW_ => ?_)
                  generalize wc.drew = w67 at ja ia ka la fa ea HB Fa Ga Ha fe ge he hHeld ⊢
                  refine pu_ (i := 0) (N := some 96) (v := ?_) (a' := ?_) #[true, false, false, false, false, false, false, false, false, false, false, false, false, false, false, false, false, false, false, false, false] rfl rfl (an_ HT_.out kr_) (fun _ _ _ h => h) (Or.inl ⟨by rfl, ?_⟩) ?_ ?_
                  rotate_left
                  ·intro w'
                   go_simp
                   with_reducible rfl
                  rotate_left
                  ·simp only [Act.put, s1_, s2_, s3_, i6_, i3_]
                   rfl
                  refine pu_ (i := 1) (N := some 97) (v := ?_) (a' := ?_) #[true, true, false, false, false, false, false, false, false, false, false, false, false, false, false, false, false, false, false, false, false] rfl rfl (an_ HT_.out kr_) (fun _ _ _ h => h) (Or.inl ⟨by rfl, ?_⟩) ?_ ?_
                  rotate_left
                  ·intro w'
                   go_simp
                   with_reducible rfl
                  rotate_left
                  ·simp only [Act.put, s1_, s2_, s3_, i6_, i3_]
                   rfl
                  refine pu_ (i := 2) (N := some 98) (v := ?_) (a' := ?_) #[true, true, true, false, false, false, false, false, false, false, false, false, false, false, false, false, false, false, false, false, false] rfl rfl (an_ HT_.out kr_) (fun _ _ _ h => h) (Or.inl ⟨by rfl, ?_⟩) ?_ ?_
                  rotate_left
                  ·intro w'
                   go_simp
                   with_reducible rfl
                  rotate_left
                  ·simp only [Act.put, s1_, s2_, s3_, i6_, i3_]
                   rfl
                  refine pu_ (i := 3) (N := some 99) (v := ?_) (a' := ?_) #[true, true, true, true, false, false, false, false, false, false, false, false, false, false, false, false, false, false, false, false, false] rfl rfl (an_ HT_.out kr_) (fun _ _ _ h => h) (Or.inl ⟨by rfl, ?_⟩) ?_ ?_
                  rotate_left
                  ·intro w'
                   go_simp
                   with_reducible rfl
                  rotate_left
                  ·simp only [Act.put, s1_, s2_, s3_, i6_, i3_]
                   rfl
                  refine pu_ (i := 4) (N := some 100) (v := ?_) (a' := ?_) #[true, true, true, true, true, false, false, false, false, false, false, false, false, false, false, false, false, false, false, false, false] rfl rfl (an_ HT_.out kr_) (fun _ _ _ h => h) (Or.inl ⟨by rfl, ?_⟩) ?_ ?_
                  rotate_left
                  ·intro w'
                   go_simp
                   with_reducible rfl
                  rotate_left
                  ·simp only [Act.put, s1_, s2_, s3_, i6_, i3_]
                   rfl
                  refine pu_ (i := 5) (N := some 101) (v := ?_) (a' := ?_) #[true, true, true, true, true, true, false, false, false, false, false, false, false, false, false, false, false, false, false, false, false] rfl rfl (an_ HT_.out kr_) (fun _ _ _ h => h) (Or.inl ⟨by rfl, ?_⟩) ?_ ?_
                  rotate_left
                  ·intro w'
                   go_simp
                   with_reducible rfl
                  rotate_left
                  ·simp only [Act.put, s1_, s2_, s3_, i6_, i3_]
                   rfl
                  refine pu_ (i := 6) (N := some 102) (v := ?_) (a' := ?_) #[true, true, true, true, true, true, true, false, false, false, false, false, false, false, false, false, false, false, false, false, false] rfl rfl (an_ HT_.out kr_) (fun _ _ _ h => h) (Or.inl ⟨by rfl, ?_⟩) ?_ ?_
                  rotate_left
                  ·intro w'
                   go_simp
                   with_reducible rfl
                  rotate_left
                  ·simp only [Act.put, s1_, s2_, s3_, i6_, i3_]
                   rfl
                  refine pu_ (i := 7) (N := some 103) (v := ?_) (a' := ?_) #[true, true, true, true, true, true, true, true, false, false, false, false, false, false, false, false, false, false, false, false, false] rfl rfl (an_ HT_.out kr_) (fun _ _ _ h => h) (Or.inl ⟨by rfl, ?_⟩) ?_ ?_
                  rotate_left
                  ·intro w'
                   go_simp
                   with_reducible rfl
                  rotate_left
                  ·simp only [Act.put, s1_, s2_, s3_, i6_, i3_]
                   rfl
                  refine pu_ (i := 9) (N := some 105) (v := ?_) (a' := ?_) #[true, true, true, true, true, true, true, true, false, true, false, false, false, false, false, false, false, false, false, false, false] rfl rfl (an_ HT_.out kr_) (fun _ _ _ h => h) (Or.inl ⟨by rfl, ?_⟩) ?_ ?_
                  rotate_left
                  ·intro w'
                   go_simp
                   with_reducible rfl
                  rotate_left
                  ·simp only [Act.put, s1_, s2_, s3_, i6_, i3_]
                   rfl
                  refine take_ (i := 8) (N := some 104) (v := ?_) (a' := ?_) #[true, true, true, true, true, true, true, true, true, true, false, false, false, false, false, false, false, false, false, false, false] rfl rfl (tW_ HT_.out HW_.out kr_) (fun _ _ _ h => h) (Or.inl ⟨by rfl, ?_⟩) hHeld ?_ ?_
                  rotate_left
                  ·rintro w' ⟨s0, s1, s2, s3, s4, s5, s6, s7, s8, s9, s10, s11, s12, s13⟩
                   go_simp
                   with_reducible rfl
                  rotate_left
                  ·simp only [Act.put, s1_, s2_, s3_, i6_, i3_]
                   rfl
                  refine take_ (i := 10) (N := some 106) (v := ?_) (a' := ?_) #[true, true, true, true, true, true, true, true, true, true, true, false, false, false, false, false, false, false, false, false, false] rfl rfl (tW_ HT_.out HW_.out kr_) (fun _ _ _ h => h) (Or.inl ⟨by rfl, ?_⟩) hHeld ?_ ?_
                  rotate_left
                  ·rintro w' ⟨s0, s1, s2, s3, s4, s5, s6, s7, s8, s9, s10, s11, s12, s13⟩
                   go_simp
                   with_reducible rfl
                  rotate_left
                  ·simp only [Act.put, s1_, s2_, s3_, i6_, i3_]
                   rfl
                  refine pu_ (i := 11) (N := some 107) (v := ?_) (a' := ?_) #[true, true, true, true, true, true, true, true, true, true, true, true, false, false, false, false, false, false, false, false, false] rfl rfl (an_ HT_.out kr_) (fun _ _ _ h => h) (Or.inl ⟨by rfl, ?_⟩) ?_ ?_
                  rotate_left
                  ·intro w'
                   go_simp
                   with_reducible rfl
                  rotate_left
                  ·simp only [Act.put, s1_, s2_, s3_, i6_, i3_]
                   rfl
                  refine pu_ (i := 12) (N := some 108) (v := ?_) (a' := ?_) #[true, true, true, true, true, true, true, true, true, true, true, true, true, false, false, false, false, false, false, false, false] rfl rfl (an_ HT_.out kr_) (fun _ _ _ h => h) (Or.inl ⟨by rfl, ?_⟩) ?_ ?_
                  rotate_left
                  ·intro w'
                   go_simp
                   with_reducible rfl
                  rotate_left
                  ·simp only [Act.put, s1_, s2_, s3_, i6_, i3_]
                   rfl
                  refine pu_ (i := 13) (N := some 109) (v := ?_) (a' := ?_) #[true, true, true, true, true, true, true, true, true, true, true, true, true, true, false, false, false, false, false, false, false] rfl rfl (an_ HT_.out kr_) (fun _ _ _ h => h) (Or.inl ⟨by rfl, ?_⟩) ?_ ?_
                  rotate_left
                  ·intro w'
                   go_simp
                   with_reducible rfl
                  rotate_left
                  ·simp only [Act.put, s1_, s2_, s3_, i6_, i3_]
                   rfl
                  refine pu_ (i := 14) (N := some 110) (v := ?_) (a' := ?_) #[true, true, true, true, true, true, true, true, true, true, true, true, true, true, true, false, false, false, false, false, false] rfl rfl (an_ HT_.out kr_) (fun _ _ _ h => h) (Or.inl ⟨by rfl, ?_⟩) ?_ ?_
                  rotate_left
                  ·intro w'
                   go_simp
                   with_reducible rfl
                  rotate_left
                  ·simp only [Act.put, s1_, s2_, s3_, i6_, i3_]
                   rfl
                  refine pu_ (i := 15) (N := some 111) (v := ?_) (a' := ?_) #[true, true, true, true, true, true, true, true, true, true, true, true, true, true, true, true, false, false, false, false, false] rfl rfl (an_ HT_.out kr_) (fun _ _ _ h => h) (Or.inl ⟨by rfl, ?_⟩) ?_ ?_
                  rotate_left
                  ·intro w'
                   go_simp
                   with_reducible rfl
                  rotate_left
                  ·simp only [Act.put, s1_, s2_, s3_, i6_, i3_]
                   rfl
                  refine pu_ (i := 16) (N := some 112) (v := ?_) (a' := ?_) #[true, true, true, true, true, true, true, true, true, true, true, true, true, true, true, true, true, false, false, false, false] rfl rfl (an_ HT_.out kr_) (fun _ _ _ h => h) (Or.inl ⟨by rfl, ?_⟩) ?_ ?_
                  rotate_left
                  ·intro w'
                   go_simp
                   with_reducible rfl
                  rotate_left
                  ·simp only [Act.put, s1_, s2_, s3_, i6_, i3_]
                   rfl
                  refine take_ (i := 17) (N := some 113) (v := ?_) (a' := ?_) #[true, true, true, true, true, true, true, true, true, true, true, true, true, true, true, true, true, true, false, false, false] rfl rfl (tW_ HT_.out HW_.out kr_) (fun _ _ _ h => h) (Or.inl ⟨by rfl, ?_⟩) hHeld ?_ ?_
                  rotate_left
                  ·rintro w' ⟨s0, s1, s2, s3, s4, s5, s6, s7, s8, s9, s10, s11, s12, s13⟩
                   go_simp
                   with_reducible rfl
                  rotate_left
                  ·simp only [Act.put, s1_, s2_, s3_, i6_, i3_]
                   rfl
                  refine one_ (i := 18) (N := some 114) #[true, true, true, true, true, true, true, true, true, true, true, true, true, true, true, true, true, true, true, false, false] rfl rfl (one_of HT_.out kr_) (by decide) (fun K hK => ?_)
                  refine goes_ Tryd.func19 kr_ rfl #[.agg #[.bool ((r26_ ha ca).f0), .string ((r26_ ha ca).f1), .string ((r26_ ha ca).f2)]] (by rfl) rfl rfl mp_ ?_
                  with_reducible refine (q_Sign.calls kj35 ((r26_ ha ca).f0) ((r26_ ha ca).f1) ((r26_ ha ca).f2) Ea _ A66.out).mono ?_
                  rintro e w69 ⟨rfl, hb⟩
                  have HS8_ := (hb.cell (World.block_lt_of_cell? _ _ (hHeld.2.2.2.2.2.2.2.2.1))).trans (hHeld.2.2.2.2.2.2.2.2.1)
                  have HS9_ := (hb.cell (World.block_lt_of_cell? _ _ (hHeld.2.2.2.2.2.2.2.2.2.1))).trans (hHeld.2.2.2.2.2.2.2.2.2.1)
                  have HS10_ := (hb.cell (World.block_lt_of_cell? _ _ (hHeld.2.2.2.2.2.2.2.2.2.2.1))).trans (hHeld.2.2.2.2.2.2.2.2.2.2.1)
                  have HS11_ := (hb.cell (World.block_lt_of_cell? _ _ (hHeld.2.2.2.2.2.2.2.2.2.2.2.1))).trans (hHeld.2.2.2.2.2.2.2.2.2.2.2.1)
                  have HS12_ := (hb.cell (World.block_lt_of_cell? _ _ (hHeld.2.2.2.2.2.2.2.2.2.2.2.2.1))).trans (hHeld.2.2.2.2.2.2.2.2.2.2.2.2.1)
                  have HS13_ := (hb.cell (World.block_lt_of_cell? _ _ (hHeld.2.2.2.2.2.2.2.2.2.2.2.2.2))).trans (hHeld.2.2.2.2.2.2.2.2.2.2.2.2.2)
                  refine ⟨_, rfl, ?_⟩
                  have n0_ := A0_.mk (Kd.rB_ (xR_ ja.out) hb)
                  have n1_ := A0_.mk (Kd.rB_ (xR_ ia.out) hb)
                  have n2_ := A0_.mk (Kd.rB_ (xR_ ka.out) hb)
                  have n3_ := A0_.mk (Kd.rB_ (xR_ la.out) hb)
                  have n4_ := A0_.mk (kB_ (g := ga) (o := .cells #[.int .i64 ((r28_ aa ca).f0), .int .i64 ((r28_ aa ca).f1), .bool ((r28_ aa ca).f2.f0), .string ((r28_ aa ca).f2.f1), .string ((r28_ aa ca).f2.f2), .int .i64 ((r28_ aa ca).f3), .int .i64 ((r28_ aa ca).f4), .bool ((r28_ aa ca).f5)] 28 (0, 0)) (xK_ fa.out) hb)
                  have n5_ := A0_.mk (kB_ (g := da) (o := .cells #[.int .i64 ((r28_ aa ba).f0), .int .i64 ((r28_ aa ba).f1), .bool ((r28_ aa ba).f2.f0), .string ((r28_ aa ba).f2.f1), .string ((r28_ aa ba).f2.f2), .int .i64 ((r28_ aa ba).f3), .int .i64 ((r28_ aa ba).f4), .bool ((r28_ aa ba).f5)] 28 (0, 0)) (xK_ ea.out) hb)
                  have n6_ := A0_.mk (bT_ (xB2_ HB na pa) hb)
                  clear ja
                  clear ia
                  clear ka
                  clear la
                  clear fa
                  clear ea
                  clear HB
                  have ja := n0_
                  have ia := n1_
                  have ka := n2_
                  have la := n3_
                  have fa := n4_
                  have ea := n5_
                  have HB := n6_
                  clear n0_ n1_ n2_ n3_ n4_ n5_ n6_
                  (try clear hb)
                  (try clear hb2)
                  (try clear hk)
                  (try clear hi)
                  refine hK.out _ _ ⟨(kc_ ea.out 0).trans rfl, (kc_ ea.out 1).trans rfl, (kc_ ea.out 2).trans rfl, (kc_ ea.out 3).trans rfl, (kc_ ea.out 4).trans rfl, (kc_ ea.out 5).trans rfl, (kc_ ea.out 6).trans rfl, (kc_ ea.out 7).trans rfl, HS8_, HS9_, HS10_, HS11_, HS12_, HS13_⟩ (fun hHeld => ?_)
                  clear hK K
                  refine norm_ (a' := ?_) ?_ ?_
                  rotate_left
                  ·show Act.put _ (some 114) _ = _
                   simp only [Act.put, s1_, s2_, s3_, i6_, i3_]
                   rfl
                  refine pu_ (i := 19) (N := some 115) (v := ?_) (a' := ?_) #[true, true, true, true, true, true, true, true, true, true, true, true, true, true, true, true, true, true, true, true, false] rfl rfl (an_ HT_.out kr_) (fun _ _ _ h => h) (Or.inl ⟨by rfl, ?_⟩) ?_ ?_
                  rotate_left
                  ·intro w'
                   go_simp
                   with_reducible rfl
                  rotate_left
                  ·simp only [Act.put, s1_, s2_, s3_, i6_, i3_]
                   rfl
                  refine pu_ (i := 20) (N := some 116) (v := ?_) (a' := ?_) #[true, true, true, true, true, true, true, true, true, true, true, true, true, true, true, true, true, true, true, true, true] rfl rfl (an_ HT_.out kr_) (fun _ _ _ h => h) (Or.inl ⟨by rfl, ?_⟩) ?_ ?_
                  rotate_left
                  ·intro w'
                   go_simp
                   with_reducible rfl
                  rotate_left
                  ·simp only [Act.put, s1_, s2_, s3_, i6_, i3_]
                   rfl
                  refine done_ (done_of HT_.out kr_) ?_
                  try go_wp2
                  go_meet
                  case rel => exact ⟨_, ((Ea != 0)), (rS_), H', ⟨by have := HJ5.out; have := HK2.out; have := HK3.out; have := HJ20.out; have := HJ35.out; first | omega | exact Nat.le_refl _⟩, ⟨by (with_reducible repeat (first | apply Kd.R_alloc | apply Kd.rN_ | apply Kd.rD_)); exact ja.out⟩, ⟨by (with_reducible repeat (first | apply Kd.R_alloc | apply Kd.rN_ | apply Kd.rD_)); exact ia.out⟩, ⟨by (with_reducible repeat (first | apply Kd.R_alloc | apply Kd.rN_ | apply Kd.rD_)); exact ka.out⟩, ⟨by (with_reducible repeat (first | apply Kd.R_alloc | apply Kd.rN_ | apply Kd.rD_)); exact la.out⟩, ⟨by (with_reducible repeat (first | apply kN_ | apply kD_ | apply kA_)); exact fa.out⟩, ⟨by (with_reducible repeat (first | apply kN_ | apply kD_ | apply kA_)); exact ea.out⟩, ⟨xB2_ HB na pa⟩⟩
                 ·rw [if_neg c63] at H
                  have de : (!(((r26_ ha ba).f0) == ((r28_ aa ba).f2.f0)) || (!((((r26_ ha ba).f1).toList) == ((r28_ aa ba).f2.f1).toList) || (!((((r26_ ha ba).f2).toList) == ((r28_ aa ba).f2.f2).toList)))) = false := by simpa using c63
                  clear c63
                  have H' := A0_.mk H
                  clear H
                  try go_wp2
                  have n0_ := A0_.mk (Kd.rD_ ja.out)
                  have n1_ := A0_.mk (Kd.rD_ ia.out)
                  have n2_ := A0_.mk (Kd.rD_ ka.out)
                  have n3_ := A0_.mk (Kd.rD_ la.out)
                  have n4_ := A0_.mk (kD_ fa.out)
                  have n5_ := A0_.mk (kD_ ea.out)
                  have n6_ := A0_.mk (b1_ HB.out)
                  clear ja
                  clear ia
                  clear ka
                  clear la
                  clear fa
                  clear ea
                  clear HB
                  have ja := n0_
                  have ia := n1_
                  have ka := n2_
                  have la := n3_
                  have fa := n4_
                  have ea := n5_
                  have HB := n6_
                  clear n0_ n1_ n2_ n3_ n4_ n5_ n6_
                  obtain ⟨vh, wh, ie⟩ := Kd.rS_' ia.out
                  (first | subst ie | (injection ie with f1_ f2_ f3_; have f4_ := f1_.symm; have f5_ := f3_.symm; clear f1_ f2_ f3_; subst f4_; subst f5_))
                  have va : 0 ≤ (ba : Int) := oD_
                  have wa : ba < (ha.length : Int) := oD_
                  obtain ⟨oa, xb, Fa, Ga, Ha⟩ := at_T26 (Kd.rr_' ia.out).2.2 ba va wa
                  cases xb
                  replace va := eq_true va
                  replace wa := eq_true wa
                  refine start_ (n := 21) (S := fun w' => w'.cell? ⟨da, 0, none⟩ = some (.int .i64 ((r28_ aa ba).f0)) ∧ w'.cell? ⟨da, 1, none⟩ = some (.int .i64 ((r28_ aa ba).f1)) ∧ w'.cell? ⟨da, 2, none⟩ = some (.bool ((r28_ aa ba).f2.f0)) ∧ w'.cell? ⟨da, 3, none⟩ = some (.string ((r28_ aa ba).f2.f1)) ∧ w'.cell? ⟨da, 4, none⟩ = some (.string ((r28_ aa ba).f2.f2)) ∧ w'.cell? ⟨da, 5, none⟩ = some (.int .i64 ((r28_ aa ba).f3)) ∧ w'.cell? ⟨da, 6, none⟩ = some (.int .i64 ((r28_ aa ba).f4)) ∧ w'.cell? ⟨da, 7, none⟩ = some (.bool ((r28_ aa ba).f5)) ∧ w'.cell? (oa.add ((ba).toNat * 3)) = some (.bool ((r26_ ha ba).f0)) ∧ w'.cell? ⟨(oa.add ((ba).toNat * 3)).block, (oa.add ((ba).toNat * 3)).off + 1, none⟩ = some (.string ((r26_ ha ba).f1)) ∧ w'.cell? ⟨(oa.add ((ba).toNat * 3)).block, (oa.add ((ba).toNat * 3)).off + 2, none⟩ = some (.string ((r26_ ha ba).f2))) (ds := []) #[false, false, false, false, false, false, false, false, false, false, false, false, false, false, false, false, false, false, false, false, false] kr_ rfl rfl ⟨(kc_ ea.out 0).trans rfl, (kc_ ea.out 1).trans rfl, (kc_ ea.out 2).trans rfl, (kc_ ea.out 3).trans rfl, (kc_ ea.out 4).trans rfl, (kc_ ea.out 5).trans rfl, (kc_ ea.out 6).trans rfl, (kc_ ea.out 7).trans rfl, Fa, Ga, Ha⟩ (fun hHeld => ?_); refine with_tabW l14_SetoffOldest.tab14 l14_SetoffOldest.bits14 (fun HT_ HW_ => ?_)
                  generalize wc.drew = w70 at ja ia ka la fa ea HB Fa Ga Ha hHeld ⊢
                  refine pu_ (i := 0) (N := some 96) (v := ?_) (a' := ?_) #[true, false, false, false, false, false, false, false, false, false, false, false, false, false, false, false, false, false, false, false, false] rfl rfl (an_ HT_.out kr_) (fun _ _ _ h => h) (Or.inl ⟨by rfl, ?_⟩) ?_ ?_
                  rotate_left
                  ·intro w'
                   go_simp
                   with_reducible rfl
                  rotate_left
                  ·simp only [Act.put, s1_, s2_, s3_, i6_, i3_]
                   rfl
                  refine pu_ (i := 1) (N := some 97) (v := ?_) (a' := ?_) #[true, true, false, false, false, false, false, false, false, false, false, false, false, false, false, false, false, false, false, false, false] rfl rfl (an_ HT_.out kr_) (fun _ _ _ h => h) (Or.inl ⟨by rfl, ?_⟩) ?_ ?_
                  rotate_left
                  ·intro w'
                   go_simp
                   with_reducible rfl
                  rotate_left
                  ·simp only [Act.put, s1_, s2_, s3_, i6_, i3_]
                   rfl
                  refine pu_ (i := 2) (N := some 98) (v := ?_) (a' := ?_) #[true, true, true, false, false, false, false, false, false, false, false, false, false, false, false, false, false, false, false, false, false] rfl rfl (an_ HT_.out kr_) (fun _ _ _ h => h) (Or.inl ⟨by rfl, ?_⟩) ?_ ?_
                  rotate_left
                  ·intro w'
                   go_simp
                   with_reducible rfl
                  rotate_left
                  ·simp only [Act.put, s1_, s2_, s3_, i6_, i3_]
                   rfl
                  refine pu_ (i := 3) (N := some 99) (v := ?_) (a' := ?_) #[true, true, true, true, false, false, false, false, false, false, false, false, false, false, false, false, false, false, false, false, false] rfl rfl (an_ HT_.out kr_) (fun _ _ _ h => h) (Or.inl ⟨by rfl, ?_⟩) ?_ ?_
                  rotate_left
                  ·intro w'
                   go_simp
                   with_reducible rfl
                  rotate_left
                  ·simp only [Act.put, s1_, s2_, s3_, i6_, i3_]
                   rfl
                  refine pu_ (i := 4) (N := some 100) (v := ?_) (a' := ?_) #[true, true, true, true, true, false, false, false, false, false, false, false, false, false, false, false, false, false, false, false, false] rfl rfl (an_ HT_.out kr_) (fun _ _ _ h => h) (Or.inl ⟨by rfl, ?_⟩) ?_ ?_
                  rotate_left
                  ·intro w'
                   go_simp
                   with_reducible rfl
                  rotate_left
                  ·simp only [Act.put, s1_, s2_, s3_, i6_, i3_]
                   rfl
                  refine pu_ (i := 5) (N := some 101) (v := ?_) (a' := ?_) #[true, true, true, true, true, true, false, false, false, false, false, false, false, false, false, false, false, false, false, false, false] rfl rfl (an_ HT_.out kr_) (fun _ _ _ h => h) (Or.inl ⟨by rfl, ?_⟩) ?_ ?_
                  rotate_left
                  ·intro w'
                   go_simp
                   with_reducible rfl
                  rotate_left
                  ·simp only [Act.put, s1_, s2_, s3_, i6_, i3_]
                   rfl
                  refine pu_ (i := 6) (N := some 102) (v := ?_) (a' := ?_) #[true, true, true, true, true, true, true, false, false, false, false, false, false, false, false, false, false, false, false, false, false] rfl rfl (an_ HT_.out kr_) (fun _ _ _ h => h) (Or.inl ⟨by rfl, ?_⟩) ?_ ?_
                  rotate_left
                  ·intro w'
                   go_simp
                   with_reducible rfl
                  rotate_left
                  ·simp only [Act.put, s1_, s2_, s3_, i6_, i3_]
                   rfl
                  refine pu_ (i := 7) (N := some 103) (v := ?_) (a' := ?_) #[true, true, true, true, true, true, true, true, false, false, false, false, false, false, false, false, false, false, false, false, false] rfl rfl (an_ HT_.out kr_) (fun _ _ _ h => h) (Or.inl ⟨by rfl, ?_⟩) ?_ ?_
                  rotate_left
                  ·intro w'
                   go_simp
                   with_reducible rfl
                  rotate_left
                  ·simp only [Act.put, s1_, s2_, s3_, i6_, i3_]
                   rfl
                  refine pu_ (i := 9) (N := some 105) (v := ?_) (a' := ?_) #[true, true, true, true, true, true, true, true, false, true, false, false, false, false, false, false, false, false, false, false, false] rfl rfl (an_ HT_.out kr_) (fun _ _ _ h => h) (Or.inl ⟨by rfl, ?_⟩) ?_ ?_
                  rotate_left
                  ·intro w'
                   go_simp
                   with_reducible rfl
                  rotate_left
                  ·simp only [Act.put, s1_, s2_, s3_, i6_, i3_]
                   rfl
                  refine take_ (i := 8) (N := some 104) (v := ?_) (a' := ?_) #[true, true, true, true, true, true, true, true, true, true, false, false, false, false, false, false, false, false, false, false, false] rfl rfl (tW_ HT_.out HW_.out kr_) (fun _ _ _ h => h) (Or.inl ⟨by rfl, ?_⟩) hHeld ?_ ?_
                  rotate_left
                  ·rintro w' ⟨s0, s1, s2, s3, s4, s5, s6, s7, s8, s9, s10⟩
                   go_simp
                   with_reducible rfl
                  rotate_left
                  ·simp only [Act.put, s1_, s2_, s3_, i6_, i3_]
                   rfl
                  refine take_ (i := 10) (N := some 106) (v := ?_) (a' := ?_) #[true, true, true, true, true, true, true, true, true, true, true, false, false, false, false, false, false, false, false, false, false] rfl rfl (tW_ HT_.out HW_.out kr_) (fun _ _ _ h => h) (Or.inl ⟨by rfl, ?_⟩) hHeld ?_ ?_
                  rotate_left
                  ·rintro w' ⟨s0, s1, s2, s3, s4, s5, s6, s7, s8, s9, s10⟩
                   go_simp
                   with_reducible rfl
                  rotate_left
                  ·simp only [Act.put, s1_, s2_, s3_, i6_, i3_]
                   rfl
                  refine pu_ (i := 11) (N := some 107) (v := ?_) (a' := ?_) #[true, true, true, true, true, true, true, true, true, true, true, true, false, false, false, false, false, false, false, false, false] rfl rfl (an_ HT_.out kr_) (fun _ _ _ h => h) (Or.inl ⟨by rfl, ?_⟩) ?_ ?_
                  rotate_left
                  ·intro w'
                   go_simp
                   with_reducible rfl
                  rotate_left
                  ·simp only [Act.put, s1_, s2_, s3_, i6_, i3_]
                   rfl
                  refine pu_ (i := 12) (N := some 108) (v := ?_) (a' := ?_) #[true, true, true, true, true, true, true, true, true, true, true, true, true, false, false, false, false, false, false, false, false] rfl rfl (an_ HT_.out kr_) (fun _ _ _ h => h) (Or.inl ⟨by rfl, ?_⟩) ?_ ?_
                  rotate_left
                  ·intro w'
                   go_simp
                   with_reducible rfl
                  rotate_left
                  ·simp only [Act.put, s1_, s2_, s3_, i6_, i3_]
                   rfl
                  refine pu_ (i := 13) (N := some 109) (v := ?_) (a' := ?_) #[true, true, true, true, true, true, true, true, true, true, true, true, true, true, false, false, false, false, false, false, false] rfl rfl (an_ HT_.out kr_) (fun _ _ _ h => h) (Or.inl ⟨by rfl, ?_⟩) ?_ ?_
                  rotate_left
                  ·intro w'
                   go_simp
                   with_reducible rfl
                  rotate_left
                  ·simp only [Act.put, s1_, s2_, s3_, i6_, i3_]
                   rfl
                  refine pu_ (i := 14) (N := some 110) (v := undef) (a' := ?_) #[true, true, true, true, true, true, true, true, true, true, true, true, true, true, true, false, false, false, false, false, false] rfl rfl (an_ HT_.out kr_) (fun _ _ _ h => h) (Or.inr ⟨by rfl, rfl⟩) ?_ ?_
                  rotate_left
                  ·simp only [Act.put, s1_, s2_, s3_, i6_, i3_]
                   rfl
                  refine pu_ (i := 15) (N := some 111) (v := undef) (a' := ?_) #[true, true, true, true, true, true, true, true, true, true, true, true, true, true, true, true, false, false, false, false, false] rfl rfl (an_ HT_.out kr_) (fun _ _ _ h => h) (Or.inr ⟨by rfl, rfl⟩) ?_ ?_
                  rotate_left
                  ·simp only [Act.put, s1_, s2_, s3_, i6_, i3_]
                   rfl
                  refine pu_ (i := 16) (N := some 112) (v := undef) (a' := ?_) #[true, true, true, true, true, true, true, true, true, true, true, true, true, true, true, true, true, false, false, false, false] rfl rfl (an_ HT_.out kr_) (fun _ _ _ h => h) (Or.inr ⟨by rfl, rfl⟩) ?_ ?_
                  rotate_left
                  ·simp only [Act.put, s1_, s2_, s3_, i6_, i3_]
                   rfl
                  refine pu_ (i := 17) (N := some 113) (v := undef) (a' := ?_) #[true, true, true, true, true, true, true, true, true, true, true, true, true, true, true, true, true, true, false, false, false] rfl rfl (an_ HT_.out kr_) (fun _ _ _ h => h) (Or.inr ⟨by rfl, rfl⟩) ?_ ?_
                  rotate_left
                  ·simp only [Act.put, s1_, s2_, s3_, i6_, i3_]
                   rfl
                  refine pu_ (i := 18) (N := some 114) (v := undef) (a' := ?_) #[true, true, true, true, true, true, true, true, true, true, true, true, true, true, true, true, true, true, true, false, false] rfl rfl (an_ HT_.out kr_) (fun _ _ _ h => h) (Or.inr ⟨by rfl, rfl⟩) ?_ ?_
                  rotate_left
                  ·simp only [Act.put, s1_, s2_, s3_, i6_, i3_]
                   rfl
                  refine pu_ (i := 19) (N := some 115) (v := undef) (a' := ?_) #[true, true, true, true, true, true, true, true, true, true, true, true, true, true, true, true, true, true, true, true, false] rfl rfl (an_ HT_.out kr_) (fun _ _ _ h => h) (Or.inr ⟨by rfl, rfl⟩) ?_ ?_
                  rotate_left
                  ·simp only [Act.put, s1_, s2_, s3_, i6_, i3_]
                   rfl
                  refine pu_ (i := 20) (N := some 116) (v := ?_) (a' := ?_) #[true, true, true, true, true, true, true, true, true, true, true, true, true, true, true, true, true, true, true, true, true] rfl rfl (an_ HT_.out kr_) (fun _ _ _ h => h) (Or.inl ⟨by rfl, ?_⟩) ?_ ?_
                  rotate_left
                  ·intro w'
                   go_simp
                   with_reducible rfl
                  rotate_left
                  ·simp only [Act.put, s1_, s2_, s3_, i6_, i3_]
                   rfl
                  refine done_ (done_of HT_.out kr_) ?_
                  try go_wp2
                  go_meet
                  case rel => exact ⟨_, (false), (rS_), H', ⟨by have := HJ5.out; have := HK2.out; have := HK3.out; have := HJ20.out; have := HJ35.out; first | omega | exact Nat.le_refl _⟩, ⟨by (with_reducible repeat (first | apply Kd.R_alloc | apply Kd.rN_ | apply Kd.rD_)); exact ja.out⟩, ⟨by (with_reducible repeat (first | apply Kd.R_alloc | apply Kd.rN_ | apply Kd.rD_)); exact ia.out⟩, ⟨by (with_reducible repeat (first | apply Kd.R_alloc | apply Kd.rN_ | apply Kd.rD_)); exact ka.out⟩, ⟨by (with_reducible repeat (first | apply Kd.R_alloc | apply Kd.rN_ | apply Kd.rD_)); exact la.out⟩, ⟨by (with_reducible repeat (first | apply kN_ | apply kD_ | apply kA_)); exact fa.out⟩, ⟨by (with_reducible repeat (first | apply kN_ | apply kD_ | apply kA_)); exact ea.out⟩, ⟨xB2_ HB na pa⟩⟩
                ·replace c60 := Bool.eq_false_iff.mpr c60
                 subst c60
                 have H1 : (l14_SetoffOldest.j5 kj35 aa (wrap64 (a1)) (wrap64 (Int.tmod a2 40)) ha ca aa (aa.length : Int) ca aa (aa.length : Int) ba false ((r28_ aa ca).f0) ((r28_ aa ca).f1) ((r28_ aa ca).f2.f0) ((r28_ aa ca).f2.f1) ((r28_ aa ca).f2.f2) ((r28_ aa ca).f3) ((r28_ aa ca).f4) ((r28_ aa ca).f5)) = some r := by rw [if_neg (show ¬ (false = true) by decide)] at H; exact H
                 clear H
                 have H := H1
                 clear H1
                 have H' := A0_.mk H
                 clear H
                 try go_wp2
                 have n0_ := A0_.mk (Kd.rD_ ja.out)
                 have n1_ := A0_.mk (Kd.rD_ ia.out)
                 have n2_ := A0_.mk (Kd.rD_ ka.out)
                 have n3_ := A0_.mk (Kd.rD_ la.out)
                 have n4_ := A0_.mk (kD_ fa.out)
                 have n5_ := A0_.mk (kD_ ea.out)
                 have n6_ := A0_.mk (b1_ HB.out)
                 clear ja
                 clear ia
                 clear ka
                 clear la
                 clear fa
                 clear ea
                 clear HB
                 have ja := n0_
                 have ia := n1_
                 have ka := n2_
                 have la := n3_
                 have fa := n4_
                 have ea := n5_
                 have HB := n6_
                 clear n0_ n1_ n2_ n3_ n4_ n5_ n6_
                 refine start_ (n := 21) (S := fun w' => True) (ds := []) #[false, false, false, false, false, false, false, false, false, false, false, false, false, false, false, false, false, false, false, false, false] kr_ rfl rfl trivial (fun hHeld => ?_); refine with_tabW l14_SetoffOldest.tab14 l14_SetoffOldest.bits14 (fun HT_ HW_ => ?_)
                 generalize wc.drew = w72 at ja ia ka la fa ea HB hHeld ⊢
                 refine pu_ (i := 0) (N := some 96) (v := ?_) (a' := ?_) #[true, false, false, false, false, false, false, false, false, false, false, false, false, false, false, false, false, false, false, false, false] rfl rfl (an_ HT_.out kr_) (fun _ _ _ h => h) (Or.inl ⟨by rfl, ?_⟩) ?_ ?_
                 rotate_left
                 ·intro w'
                  go_simp
                  with_reducible rfl
                 rotate_left
                 ·simp only [Act.put, s1_, s2_, s3_, i6_, i3_]
                  rfl
                 refine pu_ (i := 1) (N := some 97) (v := ?_) (a' := ?_) #[true, true, false, false, false, false, false, false, false, false, false, false, false, false, false, false, false, false, false, false, false] rfl rfl (an_ HT_.out kr_) (fun _ _ _ h => h) (Or.inl ⟨by rfl, ?_⟩) ?_ ?_
                 rotate_left
                 ·intro w'
                  go_simp
                  with_reducible rfl
                 rotate_left
                 ·simp only [Act.put, s1_, s2_, s3_, i6_, i3_]
                  rfl
                 refine pu_ (i := 2) (N := some 98) (v := ?_) (a' := ?_) #[true, true, true, false, false, false, false, false, false, false, false, false, false, false, false, false, false, false, false, false, false] rfl rfl (an_ HT_.out kr_) (fun _ _ _ h => h) (Or.inl ⟨by rfl, ?_⟩) ?_ ?_
                 rotate_left
                 ·intro w'
                  go_simp
                  with_reducible rfl
                 rotate_left
                 ·simp only [Act.put, s1_, s2_, s3_, i6_, i3_]
                  rfl
                 refine pu_ (i := 3) (N := some 99) (v := ?_) (a' := ?_) #[true, true, true, true, false, false, false, false, false, false, false, false, false, false, false, false, false, false, false, false, false] rfl rfl (an_ HT_.out kr_) (fun _ _ _ h => h) (Or.inl ⟨by rfl, ?_⟩) ?_ ?_
                 rotate_left
                 ·intro w'
                  go_simp
                  with_reducible rfl
                 rotate_left
                 ·simp only [Act.put, s1_, s2_, s3_, i6_, i3_]
                  rfl
                 refine pu_ (i := 4) (N := some 100) (v := ?_) (a' := ?_) #[true, true, true, true, true, false, false, false, false, false, false, false, false, false, false, false, false, false, false, false, false] rfl rfl (an_ HT_.out kr_) (fun _ _ _ h => h) (Or.inl ⟨by rfl, ?_⟩) ?_ ?_
                 rotate_left
                 ·intro w'
                  go_simp
                  with_reducible rfl
                 rotate_left
                 ·simp only [Act.put, s1_, s2_, s3_, i6_, i3_]
                  rfl
                 refine pu_ (i := 5) (N := some 101) (v := undef) (a' := ?_) #[true, true, true, true, true, true, false, false, false, false, false, false, false, false, false, false, false, false, false, false, false] rfl rfl (an_ HT_.out kr_) (fun _ _ _ h => h) (Or.inr ⟨by rfl, rfl⟩) ?_ ?_
                 rotate_left
                 ·simp only [Act.put, s1_, s2_, s3_, i6_, i3_]
                  rfl
                 refine pu_ (i := 6) (N := some 102) (v := undef) (a' := ?_) #[true, true, true, true, true, true, true, false, false, false, false, false, false, false, false, false, false, false, false, false, false] rfl rfl (an_ HT_.out kr_) (fun _ _ _ h => h) (Or.inr ⟨by rfl, rfl⟩) ?_ ?_
                 rotate_left
                 ·simp only [Act.put, s1_, s2_, s3_, i6_, i3_]
                  rfl
                 refine pu_ (i := 7) (N := some 103) (v := undef) (a' := ?_) #[true, true, true, true, true, true, true, true, false, false, false, false, false, false, false, false, false, false, false, false, false] rfl rfl (an_ HT_.out kr_) (fun _ _ _ h => h) (Or.inr ⟨by rfl, rfl⟩) ?_ ?_
                 rotate_left
                 ·simp only [Act.put, s1_, s2_, s3_, i6_, i3_]
                  rfl
                 refine pu_ (i := 8) (N := some 104) (v := undef) (a' := ?_) #[true, true, true, true, true, true, true, true, true, false, false, false, false, false, false, false, false, false, false, false, false] rfl rfl (an_ HT_.out kr_) (fun _ _ _ h => h) (Or.inr ⟨by rfl, rfl⟩) ?_ ?_
                 rotate_left
                 ·simp only [Act.put, s1_, s2_, s3_, i6_, i3_]
                  rfl
                 refine pu_ (i := 9) (N := some 105) (v := undef) (a' := ?_) #[true, true, true, true, true, true, true, true, true, true, false, false, false, false, false, false, false, false, false, false, false] rfl rfl (an_ HT_.out kr_) (fun _ _ _ h => h) (Or.inr ⟨by rfl, rfl⟩) ?_ ?_
                 rotate_left
                 ·simp only [Act.put, s1_, s2_, s3_, i6_, i3_]
                  rfl
                 refine pu_ (i := 10) (N := some 106) (v := undef) (a' := ?_) #[true, true, true, true, true, true, true, true, true, true, true, false, false, false, false, false, false, false, false, false, false] rfl rfl (an_ HT_.out kr_) (fun _ _ _ h => h) (Or.inr ⟨by rfl, rfl⟩) ?_ ?_
                 rotate_left
                 ·simp only [Act.put, s1_, s2_, s3_, i6_, i3_]
                  rfl
                 refine pu_ (i := 11) (N := some 107) (v := undef) (a' := ?_) #[true, true, true, true, true, true, true, true, true, true, true, true, false, false, false, false, false, false, false, false, false] rfl rfl (an_ HT_.out kr_) (fun _ _ _ h => h) (Or.inr ⟨by rfl, rfl⟩) ?_ ?_
                 rotate_left
                 ·simp only [Act.put, s1_, s2_, s3_, i6_, i3_]
                  rfl
                 refine pu_ (i := 12) (N := some 108) (v := ?_) (a' := ?_) #[true, true, true, true, true, true, true, true, true, true, true, true, true, false, false, false, false, false, false, false, false] rfl rfl (an_ HT_.out kr_) (fun _ _ _ h => h) (Or.inl ⟨by rfl, ?_⟩) ?_ ?_
                 rotate_left
                 ·intro w'
                  go_simp
                  with_reducible rfl
                 rotate_left
                 ·simp only [Act.put, s1_, s2_, s3_, i6_, i3_]
                  rfl
                 refine pu_ (i := 13) (N := some 109) (v := ?_) (a' := ?_) #[true, true, true, true, true, true, true, true, true, true, true, true, true, true, false, false, false, false, false, false, false] rfl rfl (an_ HT_.out kr_) (fun _ _ _ h => h) (Or.inl ⟨by rfl, ?_⟩) ?_ ?_
                 rotate_left
                 ·intro w'
                  go_simp
                  with_reducible rfl
                 rotate_left
                 ·simp only [Act.put, s1_, s2_, s3_, i6_, i3_]
                  rfl
                 refine pu_ (i := 14) (N := some 110) (v := undef) (a' := ?_) #[true, true, true, true, true, true, true, true, true, true, true, true, true, true, true, false, false, false, false, false, false] rfl rfl (an_ HT_.out kr_) (fun _ _ _ h => h) (Or.inr ⟨by rfl, rfl⟩) ?_ ?_
                 rotate_left
                 ·simp only [Act.put, s1_, s2_, s3_, i6_, i3_]
                  rfl
                 refine pu_ (i := 15) (N := some 111) (v := undef) (a' := ?_) #[true, true, true, true, true, true, true, true, true, true, true, true, true, true, true, true, false, false, false, false, false] rfl rfl (an_ HT_.out kr_) (fun _ _ _ h => h) (Or.inr ⟨by rfl, rfl⟩) ?_ ?_
                 rotate_left
                 ·simp only [Act.put, s1_, s2_, s3_, i6_, i3_]
                  rfl
                 refine pu_ (i := 16) (N := some 112) (v := undef) (a' := ?_) #[true, true, true, true, true, true, true, true, true, true, true, true, true, true, true, true, true, false, false, false, false] rfl rfl (an_ HT_.out kr_) (fun _ _ _ h => h) (Or.inr ⟨by rfl, rfl⟩) ?_ ?_
                 rotate_left
                 ·simp only [Act.put, s1_, s2_, s3_, i6_, i3_]
                  rfl
                 refine pu_ (i := 17) (N := some 113) (v := undef) (a' := ?_) #[true, true, true, true, true, true, true, true, true, true, true, true, true, true, true, true, true, true, false, false, false] rfl rfl (an_ HT_.out kr_) (fun _ _ _ h => h) (Or.inr ⟨by rfl, rfl⟩) ?_ ?_
                 rotate_left
                 ·simp only [Act.put, s1_, s2_, s3_, i6_, i3_]
                  rfl
                 refine pu_ (i := 18) (N := some 114) (v := undef) (a' := ?_) #[true, true, true, true, true, true, true, true, true, true, true, true, true, true, true, true, true, true, true, false, false] rfl rfl (an_ HT_.out kr_) (fun _ _ _ h => h) (Or.inr ⟨by rfl, rfl⟩) ?_ ?_
                 rotate_left
                 ·simp only [Act.put, s1_, s2_, s3_, i6_, i3_]
                  rfl
                 refine pu_ (i := 19) (N := some 115) (v := undef) (a' := ?_) #[true, true, true, true, true, true, true, true, true, true, true, true, true, true, true, true, true, true, true, true, false] rfl rfl (an_ HT_.out kr_) (fun _ _ _ h => h) (Or.inr ⟨by rfl, rfl⟩) ?_ ?_
                 rotate_left
                 ·simp only [Act.put, s1_, s2_, s3_, i6_, i3_]
                  rfl
                 refine pu_ (i := 20) (N := some 116) (v := ?_) (a' := ?_) #[true, true, true, true, true, true, true, true, true, true, true, true, true, true, true, true, true, true, true, true, true] rfl rfl (an_ HT_.out kr_) (fun _ _ _ h => h) (Or.inl ⟨by rfl, ?_⟩) ?_ ?_
                 rotate_left
                 ·intro w'
                  go_simp
                  with_reducible rfl
                 rotate_left
                 ·simp only [Act.put, s1_, s2_, s3_, i6_, i3_]
                  rfl
                 refine done_ (done_of HT_.out kr_) ?_
                 try go_wp2
                 go_meet
                 case rel => exact ⟨_, (false), (rS_), H', ⟨by have := HJ5.out; have := HK2.out; have := HK3.out; have := HJ20.out; have := HJ35.out; first | omega | exact Nat.le_refl _⟩, ⟨by (with_reducible repeat (first | apply Kd.R_alloc | apply Kd.rN_ | apply Kd.rD_)); exact ja.out⟩, ⟨by (with_reducible repeat (first | apply Kd.R_alloc | apply Kd.rN_ | apply Kd.rD_)); exact ia.out⟩, ⟨by (with_reducible repeat (first | apply Kd.R_alloc | apply Kd.rN_ | apply Kd.rD_)); exact ka.out⟩, ⟨by (with_reducible repeat (first | apply Kd.R_alloc | apply Kd.rN_ | apply Kd.rD_)); exact la.out⟩, ⟨by (with_reducible repeat (first | apply kN_ | apply kD_ | apply kA_)); exact fa.out⟩, ⟨by (with_reducible repeat (first | apply kN_ | apply kD_ | apply kA_)); exact ea.out⟩, ⟨xB2_ HB na pa⟩⟩
               ·replace c59 := Bool.eq_false_iff.mpr c59
                subst c59
                have H1 : (l14_SetoffOldest.j5 kj35 aa (wrap64 (a1)) (wrap64 (Int.tmod a2 40)) ha ca aa (aa.length : Int) ca aa (aa.length : Int) ba false ((r28_ aa ca).f0) ((r28_ aa ca).f1) ((r28_ aa ca).f2.f0) ((r28_ aa ca).f2.f1) ((r28_ aa ca).f2.f2) ((r28_ aa ca).f3) ((r28_ aa ca).f4) ((r28_ aa ca).f5)) = some r := by rw [if_neg (show ¬ (false = true) by decide)] at H; exact H
                clear H
                have H := H1
                clear H1
                have H' := A0_.mk H
                clear H
                try go_wp2
                have n0_ := A0_.mk (Kd.rD_ ja.out)
                have n1_ := A0_.mk (Kd.rD_ ia.out)
                have n2_ := A0_.mk (Kd.rD_ ka.out)
                have n3_ := A0_.mk (Kd.rD_ la.out)
                have n4_ := A0_.mk (kD_ fa.out)
                have n5_ := A0_.mk (kD_ ea.out)
                have n6_ := A0_.mk (b1_ HB.out)
                clear ja
                clear ia
                clear ka
                clear la
                clear fa
                clear ea
                clear HB
                have ja := n0_
                have ia := n1_
                have ka := n2_
                have la := n3_
                have fa := n4_
                have ea := n5_
                have HB := n6_
                clear n0_ n1_ n2_ n3_ n4_ n5_ n6_
                refine start_ (n := 21) (S := fun w' => True) (ds := []) #[false, false, false, false, false, false, false, false, false, false, false, false, false, false, false, false, false, false, false, false, false] kr_ rfl rfl trivial (fun hHeld => ?_); refine with_tabW l14_SetoffOldest.tab14 l14_SetoffOldest.bits14 (fun HT_ HW_ => ?_)
                generalize wc.drew = w73 at ja ia ka la fa ea HB hHeld ⊢
                refine pu_ (i := 0) (N := some 96) (v := ?_) (a' := ?_) #[true, false, false, false, false, false, false, false, false, false, false, false, false, false, false, false, false, false, false, false, false] rfl rfl (an_ HT_.out kr_) (fun _ _ _ h => h) (Or.inl ⟨by rfl, ?_⟩) ?_ ?_
                rotate_left
                ·intro w'
                 go_simp
                 with_reducible rfl
                rotate_left
                ·simp only [Act.put, s1_, s2_, s3_, i6_, i3_]
                 rfl
                refine pu_ (i := 1) (N := some 97) (v := ?_) (a' := ?_) #[true, true, false, false, false, false, false, false, false, false, false, false, false, false, false, false, false, false, false, false, false] rfl rfl (an_ HT_.out kr_) (fun _ _ _ h => h) (Or.inl ⟨by rfl, ?_⟩) ?_ ?_
                rotate_left
                ·intro w'
                 go_simp
                 with_reducible rfl
                rotate_left
                ·simp only [Act.put, s1_, s2_, s3_, i6_, i3_]
                 rfl
                refine pu_ (i := 2) (N := some 98) (v := undef) (a' := ?_) #[true, true, true, false, false, false, false, false, false, false, false, false, false, false, false, false, false, false, false, false, false] rfl rfl (an_ HT_.out kr_) (fun _ _ _ h => h) (Or.inr ⟨by rfl, rfl⟩) ?_ ?_
                rotate_left
                ·simp only [Act.put, s1_, s2_, s3_, i6_, i3_]
                 rfl
                refine pu_ (i := 3) (N := some 99) (v := ?_) (a' := ?_) #[true, true, true, true, false, false, false, false, false, false, false, false, false, false, false, false, false, false, false, false, false] rfl rfl (an_ HT_.out kr_) (fun _ _ _ h => h) (Or.inl ⟨by rfl, ?_⟩) ?_ ?_
                rotate_left
                ·intro w'
                 go_simp
                 with_reducible rfl
                rotate_left
                ·simp only [Act.put, s1_, s2_, s3_, i6_, i3_]
                 rfl
                refine pu_ (i := 4) (N := some 100) (v := ?_) (a' := ?_) #[true, true, true, true, true, false, false, false, false, false, false, false, false, false, false, false, false, false, false, false, false] rfl rfl (an_ HT_.out kr_) (fun _ _ _ h => h) (Or.inl ⟨by rfl, ?_⟩) ?_ ?_
                rotate_left
                ·intro w'
                 go_simp
                 with_reducible rfl
                rotate_left
                ·simp only [Act.put, s1_, s2_, s3_, i6_, i3_]
                 rfl
                refine pu_ (i := 5) (N := some 101) (v := undef) (a' := ?_) #[true, true, true, true, true, true, false, false, false, false, false, false, false, false, false, false, false, false, false, false, false] rfl rfl (an_ HT_.out kr_) (fun _ _ _ h => h) (Or.inr ⟨by rfl, rfl⟩) ?_ ?_
                rotate_left
                ·simp only [Act.put, s1_, s2_, s3_, i6_, i3_]
                 rfl
                refine pu_ (i := 6) (N := some 102) (v := undef) (a' := ?_) #[true, true, true, true, true, true, true, false, false, false, false, false, false, false, false, false, false, false, false, false, false] rfl rfl (an_ HT_.out kr_) (fun _ _ _ h => h) (Or.inr ⟨by rfl, rfl⟩) ?_ ?_
                rotate_left
                ·simp only [Act.put, s1_, s2_, s3_, i6_, i3_]
                 rfl
                refine pu_ (i := 7) (N := some 103) (v := undef) (a' := ?_) #[true, true, true, true, true, true, true, true, false, false, false, false, false, false, false, false, false, false, false, false, false] rfl rfl (an_ HT_.out kr_) (fun _ _ _ h => h) (Or.inr ⟨by rfl, rfl⟩) ?_ ?_
                rotate_left
                ·simp only [Act.put, s1_, s2_, s3_, i6_, i3_]
                 rfl
                refine pu_ (i := 8) (N := some 104) (v := undef) (a' := ?_) #[true, true, true, true, true, true, true, true, true, false, false, false, false, false, false, false, false, false, false, false, false] rfl rfl (an_ HT_.out kr_) (fun _ _ _ h => h) (Or.inr ⟨by rfl, rfl⟩) ?_ ?_
                rotate_left
                ·simp only [Act.put, s1_, s2_, s3_, i6_, i3_]
                 rfl
                refine pu_ (i := 9) (N := some 105) (v := undef) (a' := ?_) #[true, true, true, true, true, true, true, true, true, true, false, false, false, false, false, false, false, false, false, false, false] rfl rfl (an_ HT_.out kr_) (fun _ _ _ h => h) (Or.inr ⟨by rfl, rfl⟩) ?_ ?_
                rotate_left
                ·simp only [Act.put, s1_, s2_, s3_, i6_, i3_]
                 rfl
                refine pu_ (i := 10) (N := some 106) (v := undef) (a' := ?_) #[true, true, true, true, true, true, true, true, true, true, true, false, false, false, false, false, false, false, false, false, false] rfl rfl (an_ HT_.out kr_) (fun _ _ _ h => h) (Or.inr ⟨by rfl, rfl⟩) ?_ ?_
                rotate_left
                ·simp only [Act.put, s1_, s2_, s3_, i6_, i3_]
                 rfl
                refine pu_ (i := 11) (N := some 107) (v := undef) (a' := ?_) #[true, true, true, true, true, true, true, true, true, true, true, true, false, false, false, false, false, false, false, false, false] rfl rfl (an_ HT_.out kr_) (fun _ _ _ h => h) (Or.inr ⟨by rfl, rfl⟩) ?_ ?_
                rotate_left
                ·simp only [Act.put, s1_, s2_, s3_, i6_, i3_]
                 rfl
                refine pu_ (i := 12) (N := some 108) (v := ?_) (a' := ?_) #[true, true, true, true, true, true, true, true, true, true, true, true, true, false, false, false, false, false, false, false, false] rfl rfl (an_ HT_.out kr_) (fun _ _ _ h => h) (Or.inl ⟨by rfl, ?_⟩) ?_ ?_
                rotate_left
                ·intro w'
                 go_simp
                 with_reducible rfl
                rotate_left
                ·simp only [Act.put, s1_, s2_, s3_, i6_, i3_]
                 rfl
                refine pu_ (i := 13) (N := some 109) (v := ?_) (a' := ?_) #[true, true, true, true, true, true, true, true, true, true, true, true, true, true, false, false, false, false, false, false, false] rfl rfl (an_ HT_.out kr_) (fun _ _ _ h => h) (Or.inl ⟨by rfl, ?_⟩) ?_ ?_
                rotate_left
                ·intro w'
                 go_simp
                 with_reducible rfl
                rotate_left
                ·simp only [Act.put, s1_, s2_, s3_, i6_, i3_]
                 rfl
                refine pu_ (i := 14) (N := some 110) (v := undef) (a' := ?_) #[true, true, true, true, true, true, true, true, true, true, true, true, true, true, true, false, false, false, false, false, false] rfl rfl (an_ HT_.out kr_) (fun _ _ _ h => h) (Or.inr ⟨by rfl, rfl⟩) ?_ ?_
                rotate_left
                ·simp only [Act.put, s1_, s2_, s3_, i6_, i3_]
                 rfl
                refine pu_ (i := 15) (N := some 111) (v := undef) (a' := ?_) #[true, true, true, true, true, true, true, true, true, true, true, true, true, true, true, true, false, false, false, false, false] rfl rfl (an_ HT_.out kr_) (fun _ _ _ h => h) (Or.inr ⟨by rfl, rfl⟩) ?_ ?_
                rotate_left
                ·simp only [Act.put, s1_, s2_, s3_, i6_, i3_]
                 rfl
                refine pu_ (i := 16) (N := some 112) (v := undef) (a' := ?_) #[true, true, true, true, true, true, true, true, true, true, true, true, true, true, true, true, true, false, false, false, false] rfl rfl (an_ HT_.out kr_) (fun _ _ _ h => h) (Or.inr ⟨by rfl, rfl⟩) ?_ ?_
                rotate_left
                ·simp only [Act.put, s1_, s2_, s3_, i6_, i3_]
                 rfl
                refine pu_ (i := 17) (N := some 113) (v := undef) (a' := ?_) #[true, true, true, true, true, true, true, true, true, true, true, true, true, true, true, true, true, true, false, false, false] rfl rfl (an_ HT_.out kr_) (fun _ _ _ h => h) (Or.inr ⟨by rfl, rfl⟩) ?_ ?_
                rotate_left
                ·simp only [Act.put, s1_, s2_, s3_, i6_, i3_]
                 rfl
                refine pu_ (i := 18) (N := some 114) (v := undef) (a' := ?_) #[true, true, true, true, true, true, true, true, true, true, true, true, true, true, true, true, true, true, true, false, false] rfl rfl (an_ HT_.out kr_) (fun _ _ _ h => h) (Or.inr ⟨by rfl, rfl⟩) ?_ ?_
                rotate_left
                ·simp only [Act.put, s1_, s2_, s3_, i6_, i3_]
                 rfl
                refine pu_ (i := 19) (N := some 115) (v := undef) (a' := ?_) #[true, true, true, true, true, true, true, true, true, true, true, true, true, true, true, true, true, true, true, true, false] rfl rfl (an_ HT_.out kr_) (fun _ _ _ h => h) (Or.inr ⟨by rfl, rfl⟩) ?_ ?_
                rotate_left
                ·simp only [Act.put, s1_, s2_, s3_, i6_, i3_]
                 rfl
                refine pu_ (i := 20) (N := some 116) (v := ?_) (a' := ?_) #[true, true, true, true, true, true, true, true, true, true, true, true, true, true, true, true, true, true, true, true, true] rfl rfl (an_ HT_.out kr_) (fun _ _ _ h => h) (Or.inl ⟨by rfl, ?_⟩) ?_ ?_
                rotate_left
                ·intro w'
                 go_simp
                 with_reducible rfl
                rotate_left
                ·simp only [Act.put, s1_, s2_, s3_, i6_, i3_]
                 rfl
                refine done_ (done_of HT_.out kr_) ?_
                try go_wp2
                go_meet
                case rel => exact ⟨_, (false), (rS_), H', ⟨by have := HJ5.out; have := HK2.out; have := HK3.out; have := HJ20.out; have := HJ35.out; first | omega | exact Nat.le_refl _⟩, ⟨by (with_reducible repeat (first | apply Kd.R_alloc | apply Kd.rN_ | apply Kd.rD_)); exact ja.out⟩, ⟨by (with_reducible repeat (first | apply Kd.R_alloc | apply Kd.rN_ | apply Kd.rD_)); exact ia.out⟩, ⟨by (with_reducible repeat (first | apply Kd.R_alloc | apply Kd.rN_ | apply Kd.rD_)); exact ka.out⟩, ⟨by (with_reducible repeat (first | apply Kd.R_alloc | apply Kd.rN_ | apply Kd.rD_)); exact la.out⟩, ⟨by (with_reducible repeat (first | apply kN_ | apply kD_ | apply kA_)); exact fa.out⟩, ⟨by (with_reducible repeat (first | apply kN_ | apply kD_ | apply kA_)); exact ea.out⟩, ⟨xB2_ HB na pa⟩⟩
              case rest =>
               clear HC58
               try clear c1
               try clear p2
               try clear c5
               try clear c6
               try clear p6
               try clear p8
               try clear q8
               try clear hx8
               try clear c19
               try clear c59
               try clear c60
               try clear c61
               try clear c62
               try clear c63
               try clear de
               try clear c64
               try clear p64
               try clear c65
               try clear Fa
               try clear Ga
               try clear Ha
               try clear va
               try clear wa
               obtain ⟨kq, Pa, rfl, HA, HJ57, ja, ia, ka, la, fa, ea, HB⟩ := hcut
               cases kq with
               | zero => exact absurd HA.out (by simp [l14_SetoffOldest.j5])
               | succ kj57 =>
                have H := HA.out
                clear HA
                simp only [l14_SetoffOldest.j5] at H
                by_cases c74 : Pa = true
                ·subst c74
                 have H1 : (none) = some r := by rw [if_pos rfl] at H; exact H
                 exact absurd H1 (by simp)
                ·replace c74 := Bool.eq_false_iff.mpr c74
                 subst c74
                 have H1 : (l14_SetoffOldest.l1 kj57 aa (wrap64 (a1)) (wrap64 (Int.tmod a2 40)) ha ca aa (aa.length : Int) ca aa (aa.length : Int) (wrap64 (ba + 1)) ((r28_ aa ca).f0) ((r28_ aa ca).f1) ((r28_ aa ca).f2.f0) ((r28_ aa ca).f2.f1) ((r28_ aa ca).f2.f2) ((r28_ aa ca).f3) ((r28_ aa ca).f4) ((r28_ aa ca).f5)) = some r := by rw [if_neg (show ¬ (false = true) by decide)] at H; exact H
                 clear H
                 have H := H1
                 clear H1
                 have H' := A0_.mk H
                 clear H
                 go_wp2
                 (try simp only [ap_])
                 go_roundg kj57
                 case measure => have := HJ5.out; have := HK2.out; have := HK3.out; have := HJ20.out; have := HJ35.out; have := HJ57.out; omega
                 case rel => exact ⟨(wrap64 (ba + 1)), (rS_), H', ⟨by have := HJ5.out; have := HK2.out; have := HK3.out; have := HJ20.out; have := HJ35.out; have := HJ57.out; omega⟩, ⟨by (with_reducible repeat (first | apply Kd.R_alloc | apply Kd.rN_ | apply Kd.rD_)); exact Kd.rM_ ja.out (fun _ hk => hk.1)⟩, ⟨by (with_reducible repeat (first | apply Kd.R_alloc | apply Kd.rN_ | apply Kd.rD_)); exact ia.out⟩, ⟨by (with_reducible repeat (first | apply Kd.R_alloc | apply Kd.rN_ | apply Kd.rD_)); exact Kd.rM_ ka.out (fun _ hk => hk.1)⟩, ⟨by (with_reducible repeat (first | apply Kd.R_alloc | apply Kd.rN_ | apply Kd.rD_)); exact Kd.rM_ la.out (fun _ hk => hk.1)⟩, ⟨by (with_reducible repeat (first | apply kN_ | apply kD_ | apply kA_)); exact fa.out⟩, ⟨xB2_ HB na pa⟩⟩
         ·rw [if_neg c18] at H
          have tb : decide (ba < (aa.length : Int)) = false := decide_eq_false c18
          clear c18
          have H' := A0_.mk H
          clear H
          go_wp2
          (try simp only [ap_])
          go_roundg k3
          case measure => have := HJ5.out; have := HK2.out; have := HK3.out; omega
          case rel => exact ⟨(wrap64 (ca + 1)), (rS_), H', ⟨by have := HJ5.out; have := HK2.out; have := HK3.out; omega⟩, ⟨by (with_reducible repeat (first | apply Kd.R_alloc | apply Kd.rN_ | apply Kd.rD_)); exact Kd.rM_ ja.out (fun _ hk => trivial)⟩, ⟨by (with_reducible repeat (first | apply Kd.R_alloc | apply Kd.rN_ | apply Kd.rD_)); exact ia.out⟩, ⟨by (with_reducible repeat (first | apply Kd.R_alloc | apply Kd.rN_ | apply Kd.rD_)); exact Kd.rM_ ka.out (fun _ hk => trivial)⟩, ⟨xB1_ HB na⟩⟩
      ·rw [if_neg c13] at H
       have Ma : decide (ca < (aa.length : Int)) = false := decide_eq_false c13
       clear c13
       obtain ⟨jh, A75, H⟩ := oB_ H
       (try dsimp only at H)
       obtain rfl := Option.some.inj H
       go_wp2_with (first | ((with_reducible refine gC_ (f := 12) rfl ?_); refine gL_ (some 119) rfl rfl Tryd.func12 kr_ rfl #[] rfl mp_ ?_; (with_reducible refine (l14_awake.calls k2  jh _ A75.out).mono ?_); rintro e w76 ⟨rfl, hb⟩; refine ⟨_, rfl, ?_⟩; have n0_ := A0_.mk (Kd.rB_ (xR_ ja.out) hb); have n1_ := A0_.mk (Kd.rB_ (xR_ ia.out) hb); have n2_ := A0_.mk (Kd.rB_ (xR_ ka.out) hb); have n3_ := A0_.mk (bT_ (xB_ HB) hb); clear ja ia ka HB; have ja := n0_; have ia := n1_; have ka := n2_; have HB := n3_; clear n0_ n1_ n2_ n3_; (try clear hb); (try clear hb2); (try clear hk); (try clear hi)))
       go_ret
       exact ⟨rE_, xB_ HB⟩
end Go.Proofs.YtnegkpnhjgimcaaDoor.C
end
