/- A part of the proof of setoffOneSided_card (see YtnegkpnhjgimcaaDoorZSP5): what the functions that it reaches compute, each by its contract. -/
import Derived.Lib.Bytealg
import Derived.Lib.Strings
import Derived.Lib.Walk
import Derived.Test.YtnegkpnhjgimcaaDoorZSP1
section
namespace Go.Proofs.YtnegkpnhjgimcaaDoor
namespace C
set_option maxHeartbeats 8000000
set_option maxRecDepth 100000
open Go.RowKit Go.PrWords Go.PrLast Go.PrMore
attribute [local go_sem] max2_int min2_int max_two min_two max_three min_three max_four min_four
set_option linter.unusedVariables false
set_option linter.unusedSimpArgs false
def q_reduced.f (k : Nat) (a0 : Bool) (a1 : ByteArray) (a2 : ByteArray) : Option (Bool × ByteArray × ByteArray) := (n_Normalize.f k a1).bind fun t287 => ((n_Normalize.f k a2).bind fun t288 => (if t287.toList = ([] : List UInt8) then (some (false, (⟨#[]⟩ : ByteArray), (⟨#[]⟩ : ByteArray))) else (if t288.toList = ([1] : List UInt8) then (some (a0, t287, (⟨#[]⟩ : ByteArray))) else ((n_GCD.f k t287 t288).bind fun t289 => (if t289.toList = ([1] : List UInt8) then (some (a0, t287, t288)) else ((n_Divide.f k t287 t289).bind fun bt290 => ((n_Divide.f k t288 t289).bind fun bt293 => (if bt293.1.toList = ([1] : List UInt8) then (some (a0, bt290.1, (⟨#[]⟩ : ByteArray))) else (some (a0, bt290.1, bt293.1))))))))))
theorem q_reduced.mono : ∀ a0 a1 a2 k, LeO (q_reduced.f k a0 a1 a2) (q_reduced.f (k + 1) a0 a1 a2) := by
 intro a0 a1 a2 k
 unfold q_reduced.f
 repeat' first
   | (with_reducible first | exact n_Divide.mono _ _ _ | exact n_GCD.mono _ _ _ | exact n_Normalize.mono _ _ | exact LeO.refl _ | exact LeO.none _ | refine LeO.ite ?_ ?_ | refine LeO.bind ?_ (fun _ => ?_))
theorem q_reduced.calls (k : Nat) (a0 : Bool) (a1 : ByteArray) (a2 : ByteArray) (r1 : Bool) (r2 : ByteArray) (r3 : ByteArray) (w : World) (h : q_reduced.f k a0 a1 a2 = some (r1, r2, r3)) :
  Calls Tryd.prog 52 #[.bool a0, .string a1, .string a2] w fun e w' => e = .returned (.agg #[.bool r1, .string r2, .string r3]) ∧ Below w.heap.size w w' := by
 have hu26 := Tryd.underlying26
 have HB := A0_.mk (Below.refl w.heap.size w)
 have H := h
 unfold q_reduced.f at H
 clear h
 obtain ⟨da, A4, H⟩ := oB_ H
 (try dsimp only at H)
 obtain ⟨ea, A5, H⟩ := oB_ H
 (try dsimp only at H)
 by_cases c6 : da.toList = ([] : List UInt8)
 ·rw [if_pos c6] at H
  have na : (da.toList == ([] : List UInt8)) = true := beq_iff_eq.mpr c6
  have oa : (da.toList != ([] : List UInt8)) = false := bne_eq_false_iff_eq.mpr c6
  clear c6
  simp only [Option.some.injEq, Prod.mk.injEq] at H
  obtain ⟨rfl, rfl, rfl⟩ := H
  go_enter Tryd.func52, Tryd.ntmps52
  go_wp2_with (first | ((with_reducible refine gD_ (N := 6) rfl ?_); refine bE_ ?hg (N := 6) ?hd (cs := zC_) (t := 26) ?hr ?_; (case hd => rfl); (case hg => rfl); (case hr => first | (go_simp; done) | (go_simp; rfl)); intro ba hg w7 hbox hb; have n0_ := A0_.mk (bT_ (xB_ HB) hb); have n1_ := A0_.mk (hbox); have n2_ := A0_.mk ((by rw [hg]; exact (bZ_ (xB_ HB)) : w.heap.size ≤ ba)); have n3_ := A0_.mk ((by rw [hg]; exact (bZ_ (xB_ HB)) : w.heap.size ≤ ba)); clear HB; have HB := n0_; have aa := n1_; have ia := n2_; have ca := n3_; clear n0_ n1_ n2_ n3_; clear hb hbox hg) | ((with_reducible refine gC_ (f := 61) rfl ?_); refine gL_ (some 9) rfl rfl Tryd.func61 kr_ rfl #[.string a1] rfl mp_ ?_; (with_reducible refine (n_Normalize.calls k a1 da _ A4.out).mono ?_); rintro e w' ⟨rfl, ⟨nd, rfl⟩⟩; refine ⟨_, rfl, ?_⟩; (try (rw [drewN_self w7]; generalize hq_ : World.drewN w7 _ = w7; have n0_ : A0_ (w7.heap[ba]? = some (.cells zC_ 26 (0, 0))) := ⟨by rw [← hq_]; exact (xK_ aa.out)⟩; have n1_ : A0_ (Below w.heap.size w w7) := ⟨by rw [← hq_]; exact (xB1_ HB ca)⟩; clear aa HB hq_; have aa := n0_; have HB := n1_; clear n0_ n1_))) | ((with_reducible refine gC_ (f := 61) rfl ?_); refine gL_ (some 11) rfl rfl Tryd.func61 kr_ rfl #[.string a2] rfl mp_ ?_; (with_reducible refine (n_Normalize.calls k a2 ea _ A5.out).mono ?_); rintro e w' ⟨rfl, ⟨nd, rfl⟩⟩; refine ⟨_, rfl, ?_⟩; (try (rw [drewN_self w7]; generalize hq_ : World.drewN w7 _ = w7; have n0_ : A0_ (w7.heap[ba]? = some (.cells zC_ 26 (0, 0))) := ⟨by rw [← hq_]; exact (xK_ aa.out)⟩; have n1_ : A0_ (Below w.heap.size w w7) := ⟨by rw [← hq_]; exact (xB1_ HB ca)⟩; clear aa HB hq_; have aa := n0_; have HB := n1_; clear n0_ n1_)); have va : w7.cell? ⟨ba, 0, none⟩ = some (.bool false) := (kc_ aa.out 0).trans rfl; have wa : w7.cell? ⟨ba, 1, none⟩ = some (.string (⟨#[]⟩ : ByteArray)) := (kc_ aa.out 1).trans rfl; have xa : w7.cell? ⟨ba, 2, none⟩ = some (.string (⟨#[]⟩ : ByteArray)) := (kc_ aa.out 2).trans rfl; have ya := kF_ aa.out 0; have za := kF_ aa.out 1; have Aa := kF_ aa.out 2))
  refine bodyPost_ret (results_cell_row rfl _ _ ba 26 zC_ (0, 0) _ rfl (by (with_reducible repeat (first | apply kN_ | apply kD_ | apply kA_)); refine kP_ (cs := zC_) ?_ 2 _ rfl; (with_reducible repeat (first | apply kN_ | apply kD_ | apply kA_)); refine kP_ (cs := zC_) ?_ 1 _ rfl; (with_reducible repeat (first | apply kN_ | apply kD_ | apply kA_)); refine kP_ (cs := zC_) ?_ 0 _ rfl; (with_reducible repeat (first | apply kN_ | apply kD_ | apply kA_)); exact aa.out) Tryd.underlying26 rfl kr_) rfl ?_
  exact ⟨rE_, xB1_ HB ca⟩
 ·rw [if_neg c6] at H
  have na : (da.toList == ([] : List UInt8)) = false := beq_eq_false_iff_ne.mpr c6
  have oa : (da.toList != ([] : List UInt8)) = true := bne_iff_ne.mpr c6
  by_cases c9 : ea.toList = ([1] : List UInt8)
  ·rw [if_pos c9] at H
   have pa : (ea.toList == ([1] : List UInt8)) = true := beq_iff_eq.mpr c9
   have qa : (ea.toList != ([1] : List UInt8)) = false := bne_eq_false_iff_eq.mpr c9
   clear c9
   simp only [Option.some.injEq, Prod.mk.injEq] at H
   obtain ⟨rfl, rfl, rfl⟩ := H
   go_enter Tryd.func52, Tryd.ntmps52
   go_wp2_with (first | ((with_reducible refine gD_ (N := 6) rfl ?_); refine bE_ ?hg (N := 6) ?hd (cs := zC_) (t := 26) ?hr ?_; (case hd => rfl); (case hg => rfl); (case hr => first | (go_simp; done) | (go_simp; rfl)); intro ba hg w10 hbox hb; have n0_ := A0_.mk (bT_ (xB_ HB) hb); have n1_ := A0_.mk (hbox); have n2_ := A0_.mk ((by rw [hg]; exact (bZ_ (xB_ HB)) : w.heap.size ≤ ba)); have n3_ := A0_.mk ((by rw [hg]; exact (bZ_ (xB_ HB)) : w.heap.size ≤ ba)); clear HB; have HB := n0_; have aa := n1_; have ia := n2_; have ca := n3_; clear n0_ n1_ n2_ n3_; clear hb hbox hg) | ((with_reducible refine gC_ (f := 61) rfl ?_); refine gL_ (some 9) rfl rfl Tryd.func61 kr_ rfl #[.string a1] rfl mp_ ?_; (with_reducible refine (n_Normalize.calls k a1 da _ A4.out).mono ?_); rintro e w' ⟨rfl, ⟨nd, rfl⟩⟩; refine ⟨_, rfl, ?_⟩; (try (rw [drewN_self w10]; generalize hq_ : World.drewN w10 _ = w10; have n0_ : A0_ (w10.heap[ba]? = some (.cells zC_ 26 (0, 0))) := ⟨by rw [← hq_]; exact (xK_ aa.out)⟩; have n1_ : A0_ (Below w.heap.size w w10) := ⟨by rw [← hq_]; exact (xB1_ HB ca)⟩; clear aa HB hq_; have aa := n0_; have HB := n1_; clear n0_ n1_))) | ((with_reducible refine gC_ (f := 61) rfl ?_); refine gL_ (some 11) rfl rfl Tryd.func61 kr_ rfl #[.string a2] rfl mp_ ?_; (with_reducible refine (n_Normalize.calls k a2 ea _ A5.out).mono ?_); rintro e w' ⟨rfl, ⟨nd, rfl⟩⟩; refine ⟨_, rfl, ?_⟩; (try (rw [drewN_self w10]; generalize hq_ : World.drewN w10 _ = w10; have n0_ : A0_ (w10.heap[ba]? = some (.cells zC_ 26 (0, 0))) := ⟨by rw [← hq_]; exact (xK_ aa.out)⟩; have n1_ : A0_ (Below w.heap.size w w10) := ⟨by rw [← hq_]; exact (xB1_ HB ca)⟩; clear aa HB hq_; have aa := n0_; have HB := n1_; clear n0_ n1_)); have Ba : w10.cell? ⟨ba, 0, none⟩ = some (.bool false) := (kc_ aa.out 0).trans rfl; have Ca : w10.cell? ⟨ba, 1, none⟩ = some (.string (⟨#[]⟩ : ByteArray)) := (kc_ aa.out 1).trans rfl; have Da : w10.cell? ⟨ba, 2, none⟩ = some (.string (⟨#[]⟩ : ByteArray)) := (kc_ aa.out 2).trans rfl; have Ea := kF_ aa.out 0; have Fa := kF_ aa.out 1; have Ga := kF_ aa.out 2))
   refine bodyPost_ret (results_cell_row rfl _ _ ba 26 #[.bool a0, .string da, .string (⟨#[]⟩ : ByteArray)] (0, 0) _ rfl (by (with_reducible repeat (first | apply kN_ | apply kD_ | apply kA_)); refine kP_ (cs := #[.bool a0, .string da, .string (⟨#[]⟩ : ByteArray)]) ?_ 2 _ rfl; (with_reducible repeat (first | apply kN_ | apply kD_ | apply kA_)); refine kP_ (cs := #[.bool a0, .string (⟨#[]⟩ : ByteArray), .string (⟨#[]⟩ : ByteArray)]) ?_ 1 _ rfl; (with_reducible repeat (first | apply kN_ | apply kD_ | apply kA_)); refine kP_ (cs := zC_) ?_ 0 _ rfl; (with_reducible repeat (first | apply kN_ | apply kD_ | apply kA_)); exact aa.out) Tryd.underlying26 rfl kr_) rfl ?_
   exact ⟨rE_, xB1_ HB ca⟩
  ·rw [if_neg c9] at H
   have pa : (ea.toList == ([1] : List UInt8)) = false := beq_eq_false_iff_ne.mpr c9
   have qa : (ea.toList != ([1] : List UInt8)) = true := bne_iff_ne.mpr c9
   obtain ⟨fa, A12, H⟩ := oB_ H
   (try dsimp only at H)
   by_cases c13 : fa.toList = ([1] : List UInt8)
   ·rw [if_pos c13] at H
    have ra : (fa.toList == ([1] : List UInt8)) = true := beq_iff_eq.mpr c13
    have sa : (fa.toList != ([1] : List UInt8)) = false := bne_eq_false_iff_eq.mpr c13
    clear c13
    simp only [Option.some.injEq, Prod.mk.injEq] at H
    obtain ⟨rfl, rfl, rfl⟩ := H
    go_enter Tryd.func52, Tryd.ntmps52
    go_wp2_with (first | ((with_reducible refine gD_ (N := 6) rfl ?_); refine bE_ ?hg (N := 6) ?hd (cs := zC_) (t := 26) ?hr ?_; (case hd => rfl); (case hg => rfl); (case hr => first | (go_simp; done) | (go_simp; rfl)); intro ba hg w14 hbox hb; have n0_ := A0_.mk (bT_ (xB_ HB) hb); have n1_ := A0_.mk (hbox); have n2_ := A0_.mk ((by rw [hg]; exact (bZ_ (xB_ HB)) : w.heap.size ≤ ba)); have n3_ := A0_.mk ((by rw [hg]; exact (bZ_ (xB_ HB)) : w.heap.size ≤ ba)); clear HB; have HB := n0_; have aa := n1_; have ia := n2_; have ca := n3_; clear n0_ n1_ n2_ n3_; clear hb hbox hg) | ((with_reducible refine gC_ (f := 61) rfl ?_); refine gL_ (some 9) rfl rfl Tryd.func61 kr_ rfl #[.string a1] rfl mp_ ?_; (with_reducible refine (n_Normalize.calls k a1 da _ A4.out).mono ?_); rintro e w' ⟨rfl, ⟨nd, rfl⟩⟩; refine ⟨_, rfl, ?_⟩; (try (rw [drewN_self w14]; generalize hq_ : World.drewN w14 _ = w14; have n0_ : A0_ (w14.heap[ba]? = some (.cells zC_ 26 (0, 0))) := ⟨by rw [← hq_]; exact (xK_ aa.out)⟩; have n1_ : A0_ (Below w.heap.size w w14) := ⟨by rw [← hq_]; exact (xB1_ HB ca)⟩; clear aa HB hq_; have aa := n0_; have HB := n1_; clear n0_ n1_))) | ((with_reducible refine gC_ (f := 61) rfl ?_); refine gL_ (some 11) rfl rfl Tryd.func61 kr_ rfl #[.string a2] rfl mp_ ?_; (with_reducible refine (n_Normalize.calls k a2 ea _ A5.out).mono ?_); rintro e w' ⟨rfl, ⟨nd, rfl⟩⟩; refine ⟨_, rfl, ?_⟩; (try (rw [drewN_self w14]; generalize hq_ : World.drewN w14 _ = w14; have n0_ : A0_ (w14.heap[ba]? = some (.cells zC_ 26 (0, 0))) := ⟨by rw [← hq_]; exact (xK_ aa.out)⟩; have n1_ : A0_ (Below w.heap.size w w14) := ⟨by rw [← hq_]; exact (xB1_ HB ca)⟩; clear aa HB hq_; have aa := n0_; have HB := n1_; clear n0_ n1_))) | ((with_reducible refine gC_ (f := 70) rfl ?_); refine gL_ (some 19) rfl rfl Tryd.func70 kr_ rfl #[.string da, .string ea] rfl mp_ ?_; (with_reducible refine (n_GCD.calls k da ea fa _ A12.out).mono ?_); rintro e w15 ⟨rfl, hb⟩; refine ⟨_, rfl, ?_⟩; have n0_ := A0_.mk (kB_ (g := ba) (o := .cells zC_ 26 (0, 0)) (xK_ aa.out) hb); have n1_ := A0_.mk (bT_ (xB1_ HB ca) hb); clear aa HB; have aa := n0_; have HB := n1_; clear n0_ n1_; (try clear hb); (try clear hb2); (try clear hk); (try clear hi); have Ha : w15.cell? ⟨ba, 0, none⟩ = some (.bool false) := (kc_ aa.out 0).trans rfl; have Ia : w15.cell? ⟨ba, 1, none⟩ = some (.string (⟨#[]⟩ : ByteArray)) := (kc_ aa.out 1).trans rfl; have Ja : w15.cell? ⟨ba, 2, none⟩ = some (.string (⟨#[]⟩ : ByteArray)) := (kc_ aa.out 2).trans rfl; have Ka := kF_ aa.out 0; have La := kF_ aa.out 1; have Ma := kF_ aa.out 2))
    refine bodyPost_ret (results_cell_row rfl _ _ ba 26 #[.bool a0, .string da, .string ea] (0, 0) _ rfl (by (with_reducible repeat (first | apply kN_ | apply kD_ | apply kA_)); refine kP_ (cs := #[.bool a0, .string da, .string (⟨#[]⟩ : ByteArray)]) ?_ 2 _ rfl; (with_reducible repeat (first | apply kN_ | apply kD_ | apply kA_)); refine kP_ (cs := #[.bool a0, .string (⟨#[]⟩ : ByteArray), .string (⟨#[]⟩ : ByteArray)]) ?_ 1 _ rfl; (with_reducible repeat (first | apply kN_ | apply kD_ | apply kA_)); refine kP_ (cs := zC_) ?_ 0 _ rfl; (with_reducible repeat (first | apply kN_ | apply kD_ | apply kA_)); exact aa.out) Tryd.underlying26 rfl kr_) rfl ?_
    exact ⟨rE_, xB1_ HB ca⟩
   ·rw [if_neg c13] at H
    have ra : (fa.toList == ([1] : List UInt8)) = false := beq_eq_false_iff_ne.mpr c13
    have sa : (fa.toList != ([1] : List UInt8)) = true := bne_iff_ne.mpr c13
    obtain ⟨⟨ha, ja, ka⟩, A17, H⟩ := oB_ H
    (try dsimp only at H)
    obtain ⟨⟨ga, la, ma⟩, A18, H⟩ := oB_ H
    (try dsimp only at H)
    by_cases c19 : ga.toList = ([1] : List UInt8)
    ·rw [if_pos c19] at H
     have ta : (ga.toList == ([1] : List UInt8)) = true := beq_iff_eq.mpr c19
     have ua : (ga.toList != ([1] : List UInt8)) = false := bne_eq_false_iff_eq.mpr c19
     clear c19
     simp only [Option.some.injEq, Prod.mk.injEq] at H
     obtain ⟨rfl, rfl, rfl⟩ := H
     go_enter Tryd.func52, Tryd.ntmps52
     go_wp2_with (first | ((with_reducible refine gD_ (N := 6) rfl ?_); refine bE_ ?hg (N := 6) ?hd (cs := zC_) (t := 26) ?hr ?_; (case hd => rfl); (case hg => rfl); (case hr => first | (go_simp; done) | (go_simp; rfl)); intro ba hg w20 hbox hb; have n0_ := A0_.mk (bT_ (xB_ HB) hb); have n1_ := A0_.mk (hbox); have n2_ := A0_.mk ((by rw [hg]; exact (bZ_ (xB_ HB)) : w.heap.size ≤ ba)); have n3_ := A0_.mk ((by rw [hg]; exact (bZ_ (xB_ HB)) : w.heap.size ≤ ba)); clear HB; have HB := n0_; have aa := n1_; have ia := n2_; have ca := n3_; clear n0_ n1_ n2_ n3_; clear hb hbox hg) | ((with_reducible refine gC_ (f := 61) rfl ?_); refine gL_ (some 9) rfl rfl Tryd.func61 kr_ rfl #[.string a1] rfl mp_ ?_; (with_reducible refine (n_Normalize.calls k a1 da _ A4.out).mono ?_); rintro e w' ⟨rfl, ⟨nd, rfl⟩⟩; refine ⟨_, rfl, ?_⟩; (try (rw [drewN_self w20]; generalize hq_ : World.drewN w20 _ = w20; have n0_ : A0_ (w20.heap[ba]? = some (.cells zC_ 26 (0, 0))) := ⟨by rw [← hq_]; exact (xK_ aa.out)⟩; have n1_ : A0_ (Below w.heap.size w w20) := ⟨by rw [← hq_]; exact (xB1_ HB ca)⟩; clear aa HB hq_; have aa := n0_; have HB := n1_; clear n0_ n1_))) | ((with_reducible refine gC_ (f := 61) rfl ?_); refine gL_ (some 11) rfl rfl Tryd.func61 kr_ rfl #[.string a2] rfl mp_ ?_; (with_reducible refine (n_Normalize.calls k a2 ea _ A5.out).mono ?_); rintro e w' ⟨rfl, ⟨nd, rfl⟩⟩; refine ⟨_, rfl, ?_⟩; (try (rw [drewN_self w20]; generalize hq_ : World.drewN w20 _ = w20; have n0_ : A0_ (w20.heap[ba]? = some (.cells zC_ 26 (0, 0))) := ⟨by rw [← hq_]; exact (xK_ aa.out)⟩; have n1_ : A0_ (Below w.heap.size w w20) := ⟨by rw [← hq_]; exact (xB1_ HB ca)⟩; clear aa HB hq_; have aa := n0_; have HB := n1_; clear n0_ n1_))) | ((with_reducible refine gC_ (f := 70) rfl ?_); refine gL_ (some 19) rfl rfl Tryd.func70 kr_ rfl #[.string da, .string ea] rfl mp_ ?_; (with_reducible refine (n_GCD.calls k da ea fa _ A12.out).mono ?_); rintro e w21 ⟨rfl, hb⟩; refine ⟨_, rfl, ?_⟩; have n0_ := A0_.mk (kB_ (g := ba) (o := .cells zC_ 26 (0, 0)) (xK_ aa.out) hb); have n1_ := A0_.mk (bT_ (xB1_ HB ca) hb); clear aa HB; have aa := n0_; have HB := n1_; clear n0_ n1_; (try clear hb); (try clear hb2); (try clear hk); (try clear hi)) | ((with_reducible refine gC_ (f := 71) rfl ?_); refine gL_ (some 25) rfl rfl Tryd.func71 kr_ rfl #[.string da, .string fa] rfl mp_ ?_; (with_reducible refine (n_Divide.calls k da fa ha ja ka _ A17.out).mono ?_); rintro e w22 ⟨rfl, hb⟩; refine ⟨_, rfl, ?_⟩; have n0_ := A0_.mk (kB_ (g := ba) (o := .cells zC_ 26 (0, 0)) (xK_ aa.out) hb); have n1_ := A0_.mk (bT_ (xB1_ HB ca) hb); clear aa HB; have aa := n0_; have HB := n1_; clear n0_ n1_; (try clear hb); (try clear hb2); (try clear hk); (try clear hi)) | ((with_reducible refine gC_ (f := 71) rfl ?_); refine gL_ (some 32) rfl rfl Tryd.func71 kr_ rfl #[.string ea, .string fa] rfl mp_ ?_; (with_reducible refine (n_Divide.calls k ea fa ga la ma _ A18.out).mono ?_); rintro e w23 ⟨rfl, hb⟩; refine ⟨_, rfl, ?_⟩; have n0_ := A0_.mk (kB_ (g := ba) (o := .cells zC_ 26 (0, 0)) (xK_ aa.out) hb); have n1_ := A0_.mk (bT_ (xB1_ HB ca) hb); clear aa HB; have aa := n0_; have HB := n1_; clear n0_ n1_; (try clear hb); (try clear hb2); (try clear hk); (try clear hi); have Na : w23.cell? ⟨ba, 0, none⟩ = some (.bool false) := (kc_ aa.out 0).trans rfl; have Oa : w23.cell? ⟨ba, 1, none⟩ = some (.string (⟨#[]⟩ : ByteArray)) := (kc_ aa.out 1).trans rfl; have Pa : w23.cell? ⟨ba, 2, none⟩ = some (.string (⟨#[]⟩ : ByteArray)) := (kc_ aa.out 2).trans rfl; have Qa := kF_ aa.out 0; have Ra := kF_ aa.out 1; have Sa := kF_ aa.out 2))
     refine bodyPost_ret (results_cell_row rfl _ _ ba 26 #[.bool a0, .string ha, .string (⟨#[]⟩ : ByteArray)] (0, 0) _ rfl (by (with_reducible repeat (first | apply kN_ | apply kD_ | apply kA_)); refine kP_ (cs := #[.bool a0, .string ha, .string (⟨#[]⟩ : ByteArray)]) ?_ 2 _ rfl; (with_reducible repeat (first | apply kN_ | apply kD_ | apply kA_)); refine kP_ (cs := #[.bool a0, .string (⟨#[]⟩ : ByteArray), .string (⟨#[]⟩ : ByteArray)]) ?_ 1 _ rfl; (with_reducible repeat (first | apply kN_ | apply kD_ | apply kA_)); refine kP_ (cs := zC_) ?_ 0 _ rfl; (with_reducible repeat (first | apply kN_ | apply kD_ | apply kA_)); exact aa.out) Tryd.underlying26 rfl kr_) rfl ?_
     exact ⟨rE_, xB1_ HB ca⟩
    ·rw [if_neg c19] at H
     have ta : (ga.toList == ([1] : List UInt8)) = false := beq_eq_false_iff_ne.mpr c19
     have ua : (ga.toList != ([1] : List UInt8)) = true := bne_iff_ne.mpr c19
     simp only [Option.some.injEq, Prod.mk.injEq] at H
     obtain ⟨rfl, rfl, rfl⟩ := H
     go_enter Tryd.func52, Tryd.ntmps52
     go_wp2_with (first | ((with_reducible refine gD_ (N := 6) rfl ?_); refine bE_ ?hg (N := 6) ?hd (cs := zC_) (t := 26) ?hr ?_; (case hd => rfl); (case hg => rfl); (case hr => first | (go_simp; done) | (go_simp; rfl)); intro ba hg w25 hbox hb; have n0_ := A0_.mk (bT_ (xB_ HB) hb); have n1_ := A0_.mk (hbox); have n2_ := A0_.mk ((by rw [hg]; exact (bZ_ (xB_ HB)) : w.heap.size ≤ ba)); have n3_ := A0_.mk ((by rw [hg]; exact (bZ_ (xB_ HB)) : w.heap.size ≤ ba)); clear HB; have HB := n0_; have aa := n1_; have ia := n2_; have ca := n3_; clear n0_ n1_ n2_ n3_; clear hb hbox hg) | ((with_reducible refine gC_ (f := 61) rfl ?_); refine gL_ (some 9) rfl rfl Tryd.func61 kr_ rfl #[.string a1] rfl mp_ ?_; (with_reducible refine (n_Normalize.calls k a1 da _ A4.out).mono ?_); rintro e w' ⟨rfl, ⟨nd, rfl⟩⟩; refine ⟨_, rfl, ?_⟩; (try (rw [drewN_self w25]; generalize hq_ : World.drewN w25 _ = w25; have n0_ : A0_ (w25.heap[ba]? = some (.cells zC_ 26 (0, 0))) := ⟨by rw [← hq_]; exact (xK_ aa.out)⟩; have n1_ : A0_ (Below w.heap.size w w25) := ⟨by rw [← hq_]; exact (xB1_ HB ca)⟩; clear aa HB hq_; have aa := n0_; have HB := n1_; clear n0_ n1_))) | ((with_reducible refine gC_ (f := 61) rfl ?_); refine gL_ (some 11) rfl rfl Tryd.func61 kr_ rfl #[.string a2] rfl mp_ ?_; (with_reducible refine (n_Normalize.calls k a2 ea _ A5.out).mono ?_); rintro e w' ⟨rfl, ⟨nd, rfl⟩⟩; refine ⟨_, rfl, ?_⟩; (try (rw [drewN_self w25]; generalize hq_ : World.drewN w25 _ = w25; have n0_ : A0_ (w25.heap[ba]? = some (.cells zC_ 26 (0, 0))) := ⟨by rw [← hq_]; exact (xK_ aa.out)⟩; have n1_ : A0_ (Below w.heap.size w w25) := ⟨by rw [← hq_]; exact (xB1_ HB ca)⟩; clear aa HB hq_; have aa := n0_; have HB := n1_; clear n0_ n1_))) | ((with_reducible refine gC_ (f := 70) rfl ?_); refine gL_ (some 19) rfl rfl Tryd.func70 kr_ rfl #[.string da, .string ea] rfl mp_ ?_; (with_reducible refine (n_GCD.calls k da ea fa _ A12.out).mono ?_); rintro e w26 ⟨rfl, hb⟩; refine ⟨_, rfl, ?_⟩; have n0_ := A0_.mk (kB_ (g := ba) (o := .cells zC_ 26 (0, 0)) (xK_ aa.out) hb); have n1_ := A0_.mk (bT_ (xB1_ HB ca) hb); clear aa HB; have aa := n0_; have HB := n1_; clear n0_ n1_; (try clear hb); (try clear hb2); (try clear hk); (try clear hi)) | ((with_reducible refine gC_ (f := 71) rfl ?_); refine gL_ (some 25) rfl rfl Tryd.func71 kr_ rfl #[.string da, .string fa] rfl mp_ ?_; (with_reducible refine (n_Divide.calls k da fa ha ja ka _ A17.out).mono ?_); rintro e w27 ⟨rfl, hb⟩; refine ⟨_, rfl, ?_⟩; have n0_ := A0_.mk (kB_ (g := ba) (o := .cells zC_ 26 (0, 0)) (xK_ aa.out) hb); have n1_ := A0_.mk (bT_ (xB1_ HB ca) hb); clear aa HB; have aa := n0_; have HB := n1_; clear n0_ n1_; (try clear hb); (try clear hb2); (try clear hk); (try clear hi)) | ((with_reducible refine gC_ (f := 71) rfl ?_); refine gL_ (some 32) rfl rfl Tryd.func71 kr_ rfl #[.string ea, .string fa] rfl mp_ ?_; (with_reducible refine (n_Divide.calls k ea fa ga la ma _ A18.out).mono ?_); rintro e w28 ⟨rfl, hb⟩; refine ⟨_, rfl, ?_⟩; have n0_ := A0_.mk (kB_ (g := ba) (o := .cells zC_ 26 (0, 0)) (xK_ aa.out) hb); have n1_ := A0_.mk (bT_ (xB1_ HB ca) hb); clear aa HB; have aa := n0_; have HB := n1_; clear n0_ n1_; (try clear hb); (try clear hb2); (try clear hk); (try clear hi); have Ta : w28.cell? ⟨ba, 0, none⟩ = some (.bool false) := (kc_ aa.out 0).trans rfl; have Ua : w28.cell? ⟨ba, 1, none⟩ = some (.string (⟨#[]⟩ : ByteArray)) := (kc_ aa.out 1).trans rfl; have Va : w28.cell? ⟨ba, 2, none⟩ = some (.string (⟨#[]⟩ : ByteArray)) := (kc_ aa.out 2).trans rfl; have Wa := kF_ aa.out 0; have Xa := kF_ aa.out 1; have Ya := kF_ aa.out 2))
     refine bodyPost_ret (results_cell_row rfl _ _ ba 26 #[.bool a0, .string ha, .string ga] (0, 0) _ rfl (by (with_reducible repeat (first | apply kN_ | apply kD_ | apply kA_)); refine kP_ (cs := #[.bool a0, .string ha, .string (⟨#[]⟩ : ByteArray)]) ?_ 2 _ rfl; (with_reducible repeat (first | apply kN_ | apply kD_ | apply kA_)); refine kP_ (cs := #[.bool a0, .string (⟨#[]⟩ : ByteArray), .string (⟨#[]⟩ : ByteArray)]) ?_ 1 _ rfl; (with_reducible repeat (first | apply kN_ | apply kD_ | apply kA_)); refine kP_ (cs := zC_) ?_ 0 _ rfl; (with_reducible repeat (first | apply kN_ | apply kD_ | apply kA_)); exact aa.out) Tryd.underlying26 rfl kr_) rfl ?_
     exact ⟨rE_, xB1_ HB ca⟩
def q_Int.f (k : Nat) (a0 : Int) : Option (Bool × ByteArray × ByteArray) := (q_magnitude.f k a0).bind fun t492 => ((q_reduced.f k (decide (a0 < 0)) t492 (⟨#[1]⟩ : ByteArray)).bind fun bt493 => (some (bt493.1, bt493.2.1, bt493.2.2)))
theorem q_Int.mono : ∀ a0 k, LeO (q_Int.f k a0) (q_Int.f (k + 1) a0) := by
 intro a0 k
 unfold q_Int.f
 repeat' first
   | (with_reducible first | exact q_magnitude.mono _ _ | exact q_reduced.mono _ _ _ _ | exact LeO.refl _ | exact LeO.none _ | refine LeO.ite ?_ ?_ | refine LeO.bind ?_ (fun _ => ?_))
theorem q_Int.calls (k : Nat) (a0 : Int) (r1 : Bool) (r2 : ByteArray) (r3 : ByteArray) (w : World) (h : q_Int.f k a0 = some (r1, r2, r3)) :
  Calls Tryd.prog 29 #[.int .i64 a0] w fun e w' => e = .returned (.agg #[.bool r1, .string r2, .string r3]) ∧ Below w.heap.size w w' := by
 have hu26 := Tryd.underlying26
 have HB := A0_.mk (Below.refl w.heap.size w)
 have H := h
 unfold q_Int.f at H
 clear h
 obtain ⟨da, A2, H⟩ := oB_ H
 (try dsimp only at H)
 obtain ⟨⟨ca, ea, ga⟩, A3, H⟩ := oB_ H
 (try dsimp only at H)
 simp only [Option.some.injEq, Prod.mk.injEq] at H
 obtain ⟨rfl, rfl, rfl⟩ := H
 go_enter Tryd.func29, Tryd.ntmps29
 go_wp2_with (first | ((with_reducible refine gD_ (N := 2) rfl ?_); refine bE_ ?hg (N := 2) ?hd (cs := zC_) (t := 26) ?hr ?_; (case hd => rfl); (case hg => rfl); (case hr => first | (go_simp; done) | (go_simp; rfl)); intro ba hg w4 hbox hb; have n0_ := A0_.mk (bT_ (xB_ HB) hb); have n1_ := A0_.mk (hbox); have n2_ := A0_.mk ((by rw [hg]; exact (bZ_ (xB_ HB)) : w.heap.size ≤ ba)); have n3_ := A0_.mk ((by rw [hg]; exact (bZ_ (xB_ HB)) : w.heap.size ≤ ba)); clear HB; have HB := n0_; have aa := n1_; have ha := n2_; have fa := n3_; clear n0_ n1_ n2_ n3_; clear hb hbox hg) | ((with_reducible refine gC_ (f := 53) rfl ?_); refine gL_ (some 6) rfl rfl Tryd.func53 kr_ rfl #[.int .i64 a0] rfl mp_ ?_; (with_reducible refine (q_magnitude.calls k a0 da _ A2.out).mono ?_); rintro e w5 ⟨rfl, hb⟩; refine ⟨_, rfl, ?_⟩; have n0_ := A0_.mk (kB_ (g := ba) (o := .cells zC_ 26 (0, 0)) (xK_ aa.out) hb); have n1_ := A0_.mk (bT_ (xB1_ HB fa) hb); clear aa HB; have aa := n0_; have HB := n1_; clear n0_ n1_; (try clear hb); (try clear hb2); (try clear hk); (try clear hi)) | ((with_reducible refine gC_ (f := 52) rfl ?_); refine gL_ (some 7) rfl rfl Tryd.func52 kr_ rfl #[.bool (decide (a0 < 0)), .string da, .string (⟨#[1]⟩ : ByteArray)] rfl mp_ ?_; (with_reducible refine (q_reduced.calls k (decide (a0 < 0)) da (⟨#[1]⟩ : ByteArray) ca ea ga _ A3.out).mono ?_); rintro e w6 ⟨rfl, hb⟩; refine ⟨_, rfl, ?_⟩; have n0_ := A0_.mk (kB_ (g := ba) (o := .cells zC_ 26 (0, 0)) (xK_ aa.out) hb); have n1_ := A0_.mk (bT_ (xB1_ HB fa) hb); clear aa HB; have aa := n0_; have HB := n1_; clear n0_ n1_; (try clear hb); (try clear hb2); (try clear hk); (try clear hi); have ia : w6.cell? ⟨ba, 0, none⟩ = some (.bool false) := (kc_ aa.out 0).trans rfl; have ja : w6.cell? ⟨ba, 1, none⟩ = some (.string (⟨#[]⟩ : ByteArray)) := (kc_ aa.out 1).trans rfl; have ka : w6.cell? ⟨ba, 2, none⟩ = some (.string (⟨#[]⟩ : ByteArray)) := (kc_ aa.out 2).trans rfl; have la := kF_ aa.out 0; have ma := kF_ aa.out 1; have na := kF_ aa.out 2))
 refine bodyPost_ret (results_cell_row rfl _ _ ba 26 #[.bool ca, .string ea, .string ga] (0, 0) _ rfl (by (with_reducible repeat (first | apply kN_ | apply kD_ | apply kA_)); refine kP_ (cs := #[.bool ca, .string ea, .string (⟨#[]⟩ : ByteArray)]) ?_ 2 _ rfl; (with_reducible repeat (first | apply kN_ | apply kD_ | apply kA_)); refine kP_ (cs := #[.bool ca, .string (⟨#[]⟩ : ByteArray), .string (⟨#[]⟩ : ByteArray)]) ?_ 1 _ rfl; (with_reducible repeat (first | apply kN_ | apply kD_ | apply kA_)); refine kP_ (cs := zC_) ?_ 0 _ rfl; (with_reducible repeat (first | apply kN_ | apply kD_ | apply kA_)); exact aa.out) Tryd.underlying26 rfl kr_) rfl ?_
 exact ⟨rE_, xB1_ HB fa⟩
def ba_CompareString.f (a0 : ByteArray) (a1 : ByteArray) : Option (Int) := some (Lib.compareBytes a0.data.toList a1.data.toList)
theorem ba_CompareString.calls (a0 : ByteArray) (a1 : ByteArray) (r : Int) (w : World) (h : ba_CompareString.f a0 a1 = some r) :
  Calls Tryd.prog 78 #[.string a0, .string a1] w fun e w' => e = .returned (.int .i64 r) ∧ D0_ w w' := by
 obtain rfl : Lib.compareBytes a0.data.toList a1.data.toList = r := by injection h
 clear h
 go_enter Tryd.func78, Tryd.ntmps78
 go_wp2
 rw [run_callFunc_extern Tryd.func100 kr_ kr_ kr_ (e := Extern.BytealgCompare.compare) kr_, Lib.run_compareString]
 simp only [Result.andThen]
 rw [Oper.upon_value]
 go_wp2
 go_ret
 exact ⟨rfl, D0_.refl _⟩
def st_Compare.f (a0 : ByteArray) (a1 : ByteArray) : Option (Int) := (ba_CompareString.f a0 a1).bind fun t394 => (some t394)
theorem st_Compare.calls (a0 : ByteArray) (a1 : ByteArray) (r : Int) (w : World) (h : st_Compare.f a0 a1 = some r) :
  Calls Tryd.prog 63 #[.string a0, .string a1] w fun e w' => e = .returned (.int .i64 r) ∧ D0_ w w' := by
 have H : ((ba_CompareString.f a0 a1).bind fun aa => (some aa)) = some r := h
 clear h
 obtain ⟨aa, A3, H⟩ := oB_ H
 (try dsimp only at H)
 obtain rfl := Option.some.inj H
 go_enter Tryd.func63, Tryd.ntmps63
 go_wp2_with (first | ((with_reducible refine gC_ (f := 78) rfl ?_); refine gL_ (some 7) rfl rfl Tryd.func78 kr_ rfl #[.string a0, .string a1] rfl mp_ ?_; (with_reducible refine (ba_CompareString.calls a0 a1 aa _ A3.out).mono ?_); rintro e w' ⟨rfl, ⟨nd, rfl⟩⟩; refine ⟨_, rfl, ?_⟩))
 go_ret
 exact ⟨rS_, by repeat (first | exact D0_.refl _ | apply D0_.step)⟩
def n_Compare.f (k : Nat) (a0 : ByteArray) (a1 : ByteArray) : Option (Int) := (n_Normalize.f k a0).bind fun t395 => ((n_Normalize.f k a1).bind fun t396 => (if (t395.size : Int) = (t396.size : Int) then ((st_Compare.f t395 t396).bind fun t397 => (some t397)) else ((n_sign.f (wrap64 ((t395.size : Int) - (t396.size : Int)))).bind fun t398 => (some t398))))
theorem n_Compare.mono : ∀ a0 a1 k, LeO (n_Compare.f k a0 a1) (n_Compare.f (k + 1) a0 a1) := by
 intro a0 a1 k
 unfold n_Compare.f
 repeat' first
   | (with_reducible first | exact n_Normalize.mono _ _ | exact LeO.refl _ | exact LeO.none _ | refine LeO.ite ?_ ?_ | refine LeO.bind ?_ (fun _ => ?_))
theorem n_Compare.calls (k : Nat) (a0 : ByteArray) (a1 : ByteArray) (r : Int) (w : World) (h : n_Compare.f k a0 a1 = some r) :
  Calls Tryd.prog 44 #[.string a0, .string a1] w fun e w' => e = .returned (.int .i64 r) ∧ D0_ w w' := by
 have H := h
 unfold n_Compare.f at H
 clear h
 obtain ⟨aa, A3, H⟩ := oB_ H
 (try dsimp only at H)
 obtain ⟨ba, A4, H⟩ := oB_ H
 (try dsimp only at H)
 by_cases c5 : (aa.size : Int) = (ba.size : Int)
 ·rw [if_pos c5] at H
  have ca : ((aa.size : Int) == (ba.size : Int)) = true := beq_iff_eq.mpr c5
  have da : ((aa.size : Int) != (ba.size : Int)) = false := bne_eq_false_iff_eq.mpr c5
  have ea : (aa.size == ba.size) = true := by first | simpa using c5 | (simp at c5 ⊢; omega)
  clear c5
  obtain ⟨fa, A6, H⟩ := oB_ H
  (try dsimp only at H)
  obtain rfl := Option.some.inj H
  go_enter Tryd.func44, Tryd.ntmps44
  go_wp2_with (first | ((with_reducible refine gC_ (f := 61) rfl ?_); refine gL_ (some 6) rfl rfl Tryd.func61 kr_ rfl #[.string a0] rfl mp_ ?_; (with_reducible refine (n_Normalize.calls k a0 aa _ A3.out).mono ?_); rintro e w' ⟨rfl, ⟨nd, rfl⟩⟩; refine ⟨_, rfl, ?_⟩) | ((with_reducible refine gC_ (f := 61) rfl ?_); refine gL_ (some 8) rfl rfl Tryd.func61 kr_ rfl #[.string a1] rfl mp_ ?_; (with_reducible refine (n_Normalize.calls k a1 ba _ A4.out).mono ?_); rintro e w' ⟨rfl, ⟨nd, rfl⟩⟩; refine ⟨_, rfl, ?_⟩) | ((with_reducible refine gC_ (f := 63) rfl ?_); refine gL_ (some 22) rfl rfl Tryd.func63 kr_ rfl #[.string aa, .string ba] rfl mp_ ?_; (with_reducible refine (st_Compare.calls aa ba fa _ A6.out).mono ?_); rintro e w' ⟨rfl, ⟨nd, rfl⟩⟩; refine ⟨_, rfl, ?_⟩))
  go_ret
  exact ⟨rS_, by repeat (first | exact D0_.refl _ | apply D0_.step)⟩
 ·rw [if_neg c5] at H
  have ca : ((aa.size : Int) == (ba.size : Int)) = false := beq_eq_false_iff_ne.mpr c5
  have da : ((aa.size : Int) != (ba.size : Int)) = true := bne_iff_ne.mpr c5
  have ea : (aa.size == ba.size) = false := by first | simpa using c5 | (simp at c5 ⊢; omega)
  obtain ⟨ga, A7, H⟩ := oB_ H
  (try dsimp only at H)
  obtain rfl := Option.some.inj H
  go_enter Tryd.func44, Tryd.ntmps44
  go_wp2_with (first | ((with_reducible refine gC_ (f := 61) rfl ?_); refine gL_ (some 6) rfl rfl Tryd.func61 kr_ rfl #[.string a0] rfl mp_ ?_; (with_reducible refine (n_Normalize.calls k a0 aa _ A3.out).mono ?_); rintro e w' ⟨rfl, ⟨nd, rfl⟩⟩; refine ⟨_, rfl, ?_⟩) | ((with_reducible refine gC_ (f := 61) rfl ?_); refine gL_ (some 8) rfl rfl Tryd.func61 kr_ rfl #[.string a1] rfl mp_ ?_; (with_reducible refine (n_Normalize.calls k a1 ba _ A4.out).mono ?_); rintro e w' ⟨rfl, ⟨nd, rfl⟩⟩; refine ⟨_, rfl, ?_⟩) | ((with_reducible refine gC_ (f := 62) rfl ?_); refine gL_ (some 19) rfl rfl Tryd.func62 kr_ rfl #[.int .i64 (wrap64 ((aa.size : Int) - (ba.size : Int)))] rfl mp_ ?_; (with_reducible refine (n_sign.calls (wrap64 ((aa.size : Int) - (ba.size : Int))) ga _ A7.out).mono ?_); rintro e w' ⟨rfl, ⟨nd, rfl⟩⟩; refine ⟨_, rfl, ?_⟩))
  go_ret
  exact ⟨rS_, by repeat (first | exact D0_.refl _ | apply D0_.step)⟩
mutual
def n_Multiply.l0 : Nat → List Int → List Int → List Int → Int → Int → Option (ByteArray)
 | 0, _, _, _, _, _ => none
 | k + 1, x6, x7, x24, x25, x26 => if x26 < x25 then (if 0 ≤ x26 then (if x26 < (x24.length : Int) then (n_Multiply.l1 k x6 x7 x26 (rd x24 x26) 0 x24 x25 x26 x6 (x6.length : Int) 0) else (none)) else (none)) else ((n_limbs_text.f k x7).bind fun t265 => (some t265))
def n_Multiply.l1 : Nat → List Int → List Int → Int → Int → Int → List Int → Int → Int → List Int → Int → Int → Option (ByteArray)
 | 0, _, _, _, _, _, _, _, _, _, _, _ => none
 | k + 1, x6, x7, x8, x9, x10, x24, x25, x26, x31, x32, x33 => if x33 < x32 then (if 0 ≤ x33 then (if x33 < (x31.length : Int) then (if 0 ≤ (wrap64 (x8 + x33)) then (if (wrap64 (x8 + x33)) < (x7.length : Int) then (n_Multiply.l1 k x6 (x7.set ((wrap64 (x8 + x33)) : Int).toNat ((IntKind.u64.wrap ((IntKind.u64.wrap ((IntKind.u64.wrap ((IntKind.u64.wrap (x9)) * (IntKind.u64.wrap (rd x31 x33)))) + (IntKind.u64.wrap (rd x7 (wrap64 (x8 + x33)))))) + x10)) % 4294967296)) x8 x9 ((IntKind.u64.wrap ((IntKind.u64.wrap ((IntKind.u64.wrap ((IntKind.u64.wrap (x9)) * (IntKind.u64.wrap (rd x31 x33)))) + (IntKind.u64.wrap (rd x7 (wrap64 (x8 + x33)))))) + x10)) / 4294967296) x24 x25 x26 x31 x32 (wrap64 (x33 + 1))) else (none)) else (none)) else (none)) else (none)) else (if 0 ≤ (wrap64 (x8 + (x6.length : Int))) then (if (wrap64 (x8 + (x6.length : Int))) < (x7.length : Int) then (n_Multiply.l0 k x6 (x7.set ((wrap64 (x8 + (x6.length : Int))) : Int).toNat ((x10) % 4294967296)) x24 x25 (wrap64 (x26 + 1))) else (none)) else (none))
end
def n_Multiply.f (k : Nat) (a0 : ByteArray) (a1 : ByteArray) : Option (ByteArray) := (n_parse.f k a0).bind fun t256 => ((n_parse.f k a1).bind fun t259 => (if 0 ≤ (wrap64 ((t256.length : Int) + (t259.length : Int))) then (if (wrap64 ((t256.length : Int) + (t259.length : Int)) : Int).toNat ≤ 70368744177664 then (n_Multiply.l0 k t259 (List.replicate (wrap64 ((t256.length : Int) + (t259.length : Int)) : Int).toNat 0) t256 (t256.length : Int) 0) else (none)) else (none)))
theorem n_Multiply.mono_l : ∀ k, (∀ y0 y1 y2 y3 y4, LeO (n_Multiply.l0 k y0 y1 y2 y3 y4) (n_Multiply.l0 (k + 1) y0 y1 y2 y3 y4)) ∧ (∀ y0 y1 y2 y3 y4 y5 y6 y7 y8 y9 y10, LeO (n_Multiply.l1 k y0 y1 y2 y3 y4 y5 y6 y7 y8 y9 y10) (n_Multiply.l1 (k + 1) y0 y1 y2 y3 y4 y5 y6 y7 y8 y9 y10))
 | 0 => ⟨fun _ _ _ _ _ r h => by simp [n_Multiply.l0] at h, fun _ _ _ _ _ _ _ _ _ _ _ r h => by simp [n_Multiply.l1] at h⟩
 | k + 1 => by
  obtain ⟨ih0, ih1⟩ := n_Multiply.mono_l k
  refine ⟨?_, ?_⟩
  ·intro y0 y1 y2 y3 y4
   unfold n_Multiply.l0
   repeat' first
   | (with_reducible first | exact ih0 _ _ _ _ _ | exact ih1 _ _ _ _ _ _ _ _ _ _ _ | exact n_limbs_text.mono _ _ | exact n_parse.mono _ _ | exact LeO.refl _ | exact LeO.none _ | refine LeO.ite ?_ ?_ | refine LeO.bind ?_ (fun _ => ?_))
  ·intro y0 y1 y2 y3 y4 y5 y6 y7 y8 y9 y10
   unfold n_Multiply.l1
   repeat' first
   | (with_reducible first | exact ih0 _ _ _ _ _ | exact ih1 _ _ _ _ _ _ _ _ _ _ _ | exact n_limbs_text.mono _ _ | exact n_parse.mono _ _ | exact LeO.refl _ | exact LeO.none _ | refine LeO.ite ?_ ?_ | refine LeO.bind ?_ (fun _ => ?_))
theorem n_Multiply.mono : ∀ a0 a1 k, LeO (n_Multiply.f k a0 a1) (n_Multiply.f (k + 1) a0 a1) := by
 intro a0 a1 k
 obtain ⟨ih0, ih1⟩ := n_Multiply.mono_l k
 unfold n_Multiply.f
 repeat' first
   | (with_reducible first | exact ih0 _ _ _ _ _ | exact ih1 _ _ _ _ _ _ _ _ _ _ _ | exact n_limbs_text.mono _ _ | exact n_parse.mono _ _ | exact LeO.refl _ | exact LeO.none _ | refine LeO.ite ?_ ?_ | refine LeO.bind ?_ (fun _ => ?_))
theorem n_Multiply.calls (k : Nat) (a0 : ByteArray) (a1 : ByteArray) (r : ByteArray) (w : World) (h : n_Multiply.f k a0 a1 = some r) :
  Calls Tryd.prog 45 #[.string a0, .string a1] w fun e w' => e = .returned (.string r) ∧ Below w.heap.size w w' := by
 have HB := A0_.mk (Below.refl w.heap.size w)
 have H := h
 unfold n_Multiply.f at H
 clear h
 obtain ⟨ba, A3, H⟩ := oB_ H
 (try dsimp only at H)
 obtain ⟨aa, A4, H⟩ := oB_ H
 (try dsimp only at H)
 obtain ⟨ji5, xa⟩ : ∃ j_ : Int, (wrap64 ((ba.length : Int) + (aa.length : Int))) = j_ := ⟨_, rfl⟩
 replace H : (if 0 ≤ (ji5) then (if (ji5 : Int).toNat ≤ 70368744177664 then (n_Multiply.l0 k aa (List.replicate (ji5 : Int).toNat 0) ba (ba.length : Int) 0) else (none)) else (none)) = some r := by first | (rw [xa] at H; exact H) | (simp only [xa] at H ⊢; exact H)
 (try rw [xa] at A3)
 (try rw [xa] at A4)
 have wb : (IntKind.i64.wrap ((ba.length : Int) + (aa.length : Int))) = ji5 := (i6_ _).trans xa
 by_cases c6 : 0 ≤ (ji5)
 rotate_left
 ·rw [if_neg c6] at H
  exact absurd H (by simp)
 rw [if_pos c6] at H
 have Pa := eq_true c6
 have Qa : decide (0 ≤ (ji5)) = true := decide_eq_true c6
 clear c6
 by_cases c7 : (ji5 : Int).toNat ≤ 70368744177664
 rotate_left
 ·rw [if_neg c7] at H
  exact absurd H (by simp)
 rw [if_pos c7] at H
 have Ra := eq_true c7
 have Sa : decide ((ji5 : Int).toNat ≤ 70368744177664) = true := decide_eq_true c7
 clear c7
 obtain ⟨Ta, Aa⟩ : ∃ y_ : List Int, y_ = (List.replicate (ji5 : Int).toNat 0) := ⟨_, rfl⟩
 replace H : (n_Multiply.l0 k aa Ta ba (ba.length : Int) 0) = some r := by first | (rw [Aa]; with_reducible exact H) | (have H2_ := (Option.bind_some _ _).symm.trans H; rw [Aa]; with_reducible exact H2_) | (have H2_ := (Option.bind_some _ _).symm.trans H; with_reducible exact H2_) | with_reducible exact H | (rw [Aa]; exact H) | exact H
 have Ua := A0_.mk Aa
 clear Aa
 have H' := A0_.mk H
 clear H
 go_enter Tryd.func45, Tryd.ntmps45
 go_wp2_with (first | ((with_reducible refine gC_ (f := 64) rfl ?_); refine gL_ (some 15) rfl rfl Tryd.func64 kr_ rfl #[.string a0] rfl mp_ ?_; (with_reducible refine (n_parse.calls k a0 ba _ A3.out).mono ?_); rintro e w8 ⟨xb, rfl, ho0, hb⟩; refine ⟨_, rfl, ?_⟩; have n0_ := A0_.mk (Kd.rL_ ho0 (bZ_ (xB_ HB))); have n1_ := A0_.mk (bT_ (xB_ HB) hb); clear HB; have oa := n0_; have HB := n1_; clear n0_ n1_; (try clear hb); (try clear hb2); (try clear hk); (try clear hi); (try clear ho0)) | ((with_reducible refine gC_ (f := 64) rfl ?_); refine gL_ (some 17) rfl rfl Tryd.func64 kr_ rfl #[.string a1] rfl mp_ ?_; (with_reducible refine (n_parse.calls k a1 aa _ A4.out).mono ?_); rintro e w9 ⟨yb, rfl, ho0, hb⟩; refine ⟨_, rfl, ?_⟩; have n0_ := A0_.mk (Kd.R_elder' (xR_ oa.out) (Kd.R_base ho0) hb); have n1_ := A0_.mk (Kd.rL_ (Kd.R_new' ho0 (Kd.R_lt (xR_ oa.out))) (bZ_ (xB_ HB))); have n2_ := A0_.mk (bT_ (xB_ HB) hb); clear oa HB; have oa := n0_; have ya := n1_; have HB := n2_; clear n0_ n1_ n2_; (try clear hb); (try clear hb2); (try clear hk); (try clear hi); (try clear ho0); obtain ⟨Ha, ma, cb⟩ := Kd.rS_' oa.out; subst cb; obtain ⟨na, ha, db⟩ := Kd.rS_' ya.out; subst db) | ((with_reducible refine gD_ (N := 23) rfl ?_); refine Kd.R_make (Kd.int .u32) _ 89 rfl (N := 23) rfl 87 _ _ rfl ji5 rfl rfl Tryd.underlying87 (.int .u32 0) 4 info89 rfl (by decide) (by omega) 0 (ok := fun _ => True) (okp := fun _ => True) rfl (fun _ hk => hk) trivial (oD_) (Nat.le_trans (Nat.mul_le_mul_right _ (oD_ : ji5.toNat ≤ 70368744177664)) (by omega)) (Below.refl _ _) (Nat.le_refl _) ?_; intro ta w12 ua hb hg_ hnew_; clear hg_ hnew_; (first | rw [← Ua.out] at ua | (simp only [Int.reduceToNat] at ua; rw [← Ua.out] at ua)); have n0_ := A0_.mk (Kd.R_elder' (xR_ oa.out) (Kd.R_base ua) hb); have n1_ := A0_.mk (Kd.R_elder' (xR_ ya.out) (Kd.R_base ua) hb); have n2_ := A0_.mk (Kd.rL_ (Kd.R_new' (Kd.R_new' ua (Kd.R_lt (xR_ oa.out))) (Kd.R_lt (xR_ ya.out))) (bZ_ (xB_ HB))); have n3_ := A0_.mk (bT_ (xB_ HB) hb); clear oa ya HB; have oa := n0_; have ya := n1_; have eb := n2_; have HB := n3_; clear n0_ n1_ n2_ n3_; clear hb ua))
 go_loopg [26] k (fun kq v26 w' => ∃ (za : List Int) (da : Int), v26 = .int .i64 da ∧ A0_ (n_Multiply.l0 kq aa za ba (ba.length : Int) da = some r) ∧ A0_ (kq ≤ k) ∧ A0_ (Kd.R (Kd.int .u32) 89 w' w.heap.size (fun k_ => some k_ ≠ (ta : Value).ownBlock ∧ some k_ ≠ ((.slice Ha ba.length ma) : Value).ownBlock) (.slice na aa.length ha) aa) ∧ A0_ (Kd.R (Kd.int .u32) 89 w' w.heap.size (fun k_ => some k_ ≠ ((.slice na aa.length ha) : Value).ownBlock ∧ some k_ ≠ ((.slice Ha ba.length ma) : Value).ownBlock) ta za) ∧ A0_ (Kd.R (Kd.int .u32) 89 w' w.heap.size (fun k_ => some k_ ≠ ((.slice na aa.length ha) : Value).ownBlock ∧ some k_ ≠ (ta : Value).ownBlock) (.slice Ha ba.length ma) ba) ∧ A0_ (Below w.heap.size w w'))
 case atStart => exact ⟨(Ta), (0), (rS_), H', ⟨Nat.le_refl _⟩, ⟨by (with_reducible repeat (first | apply Kd.R_alloc | apply Kd.rN_ | apply Kd.rD_)); exact Kd.rM_ ya.out (fun _ hk => ⟨hk.2, hk.1.2⟩)⟩, ⟨by (with_reducible repeat (first | apply Kd.R_alloc | apply Kd.rN_ | apply Kd.rD_)); exact Kd.rM_ eb.out (fun _ hk => ⟨hk.2, hk.1.2⟩)⟩, ⟨by (with_reducible repeat (first | apply Kd.R_alloc | apply Kd.rN_ | apply Kd.rD_)); exact Kd.rM_ oa.out (fun _ hk => ⟨hk.1.2, hk.2⟩)⟩, ⟨xB_ HB⟩⟩
 case round =>
  clear H'
  try clear p2
  try clear c4
  try clear c6
  try clear Pa
  try clear Qa
  try clear p6
  try clear c7
  try clear Ra
  try clear Sa
  obtain ⟨za, da, rfl, HA, HK1, ia, ga, ja, HB⟩ := hrel
  cases gk with
  | zero => exact absurd HA.out (by simp [n_Multiply.l0])
  | succ k1 =>
   have H := HA.out
   clear HA
   simp only [n_Multiply.l0] at H
   by_cases c14 : da < (ba.length : Int)
   ·rw [if_pos c14] at H
    have Va : decide (da < (ba.length : Int)) = true := decide_eq_true c14
    clear c14
    by_cases c15 : 0 ≤ da
    rotate_left
    ·rw [if_neg c15] at H
     exact absurd H (by simp)
    rw [if_pos c15] at H
    have fb : decide (0 ≤ da) = true := decide_eq_true c15
    clear c15
    by_cases c16 : da < (ba.length : Int)
    rotate_left
    ·rw [if_neg c16] at H
     exact absurd H (by simp)
    rw [if_pos c16] at H
    have gb : decide (da < (ba.length : Int)) = true := decide_eq_true c16
    clear c16
    have H' := A0_.mk H
    clear H
    have Da : 0 ≤ (da : Int) := oD_
    have Ea : da < (ba.length : Int) := oD_
    obtain ⟨pa, ib, jb⟩ := Kd.at_int (Kd.rr_' ja.out).2.2 da Da Ea
    cases ib
    replace Da := eq_true Da
    replace Ea := eq_true Ea
    go_wp2
    go_loopg [10, 33] k1 (fun kq v10 v33 w' => ∃ (ca : List Int) (ka : Int) (ea : Int), v10 = .int .u64 ka ∧ v33 = .int .i64 ea ∧ A0_ (n_Multiply.l1 kq aa ca da (rd ba da) ka ba (ba.length : Int) da aa (aa.length : Int) ea = some r) ∧ A0_ (kq ≤ k1) ∧ A0_ (Kd.R (Kd.int .u32) 89 w' w.heap.size (fun k_ => some k_ ≠ (ta : Value).ownBlock ∧ some k_ ≠ ((.slice (some pa) ba.length ma) : Value).ownBlock) (.slice na aa.length ha) aa) ∧ A0_ (Kd.R (Kd.int .u32) 89 w' w.heap.size (fun k_ => some k_ ≠ ((.slice na aa.length ha) : Value).ownBlock ∧ some k_ ≠ ((.slice (some pa) ba.length ma) : Value).ownBlock ∧ some k_ ≠ ((.slice na aa.length ha) : Value).ownBlock) ta ca) ∧ A0_ (Kd.R (Kd.int .u32) 89 w' w.heap.size (fun k_ => some k_ ≠ ((.slice na aa.length ha) : Value).ownBlock ∧ some k_ ≠ (ta : Value).ownBlock ∧ some k_ ≠ ((.slice na aa.length ha) : Value).ownBlock) (.slice (some pa) ba.length ma) ba) ∧ A0_ (Kd.R (Kd.int .u32) 89 w' w.heap.size (fun k_ => some k_ ≠ (ta : Value).ownBlock ∧ some k_ ≠ ((.slice (some pa) ba.length ma) : Value).ownBlock) (.slice na aa.length ha) aa) ∧ A0_ (Below w.heap.size w w'))
    case atStart => exact ⟨(za), (0), (0), (rS_), (rS_), H', ⟨Nat.le_refl _⟩, ⟨by (with_reducible repeat (first | apply Kd.R_alloc | apply Kd.rN_ | apply Kd.rD_)); exact ia.out⟩, ⟨by (with_reducible repeat (first | apply Kd.R_alloc | apply Kd.rN_ | apply Kd.rD_)); exact Kd.rM_ ga.out (fun _ hk => ⟨hk.1, ⟨hk.2, hk.1⟩⟩)⟩, ⟨by (with_reducible repeat (first | apply Kd.R_alloc | apply Kd.rN_ | apply Kd.rD_)); exact Kd.rM_ ja.out (fun _ hk => ⟨hk.1, ⟨hk.2, hk.1⟩⟩)⟩, ⟨by (with_reducible repeat (first | apply Kd.R_alloc | apply Kd.rN_ | apply Kd.rD_)); exact ia.out⟩, ⟨xB_ HB⟩⟩
    case round =>
     clear H'
     try clear c1
     try clear p2
     try clear q2
     try clear hx2
     try clear c4
     try clear c6
     try clear Pa
     try clear Qa
     try clear p6
     try clear c7
     try clear Ra
     try clear Sa
     try clear c14
     try clear Va
     try clear c15
     try clear fb
     try clear c16
     try clear gb
     try clear jb
     try clear p2
     try clear Da
     try clear p6
     try clear Ea
     obtain ⟨ca, ka, ea, rfl, rfl, HA, HK2, ia, ga, ja, sa, HB⟩ := hrel
     cases gk with
     | zero => exact absurd HA.out (by simp [n_Multiply.l1])
     | succ k2 =>
      have H := HA.out
      clear HA
      simp only [n_Multiply.l1] at H
      by_cases c17 : ea < (aa.length : Int)
      ·rw [if_pos c17] at H
       have kb : decide (ea < (aa.length : Int)) = true := decide_eq_true c17
       clear c17
       by_cases c18 : 0 ≤ ea
       rotate_left
       ·rw [if_neg c18] at H
        exact absurd H (by simp)
       rw [if_pos c18] at H
       have zb : decide (0 ≤ ea) = true := decide_eq_true c18
       clear c18
       by_cases c19 : ea < (aa.length : Int)
       rotate_left
       ·rw [if_neg c19] at H
        exact absurd H (by simp)
       rw [if_pos c19] at H
       have Ab : decide (ea < (aa.length : Int)) = true := decide_eq_true c19
       clear c19
       obtain ⟨fa, Fa⟩ : ∃ j_ : Int, (wrap64 (da + ea)) = j_ := ⟨_, rfl⟩
       replace H : (if 0 ≤ (fa) then (if (fa) < (ca.length : Int) then (n_Multiply.l1 k2 aa (ca.set ((fa) : Int).toNat ((IntKind.u64.wrap ((IntKind.u64.wrap ((IntKind.u64.wrap ((IntKind.u64.wrap ((rd ba da))) * (IntKind.u64.wrap (rd aa ea)))) + (IntKind.u64.wrap (rd ca (fa))))) + ka)) % 4294967296)) da (rd ba da) ((IntKind.u64.wrap ((IntKind.u64.wrap ((IntKind.u64.wrap ((IntKind.u64.wrap ((rd ba da))) * (IntKind.u64.wrap (rd aa ea)))) + (IntKind.u64.wrap (rd ca (fa))))) + ka)) / 4294967296) ba (ba.length : Int) da aa (aa.length : Int) (wrap64 (ea + 1))) else (none)) else (none)) = some r := by first | (rw [Fa] at H; exact H) | (simp only [Fa] at H ⊢; exact H)
       have Bb : (IntKind.i64.wrap (da + ea)) = fa := (i6_ _).trans Fa
       by_cases c21 : 0 ≤ (fa)
       rotate_left
       ·rw [if_neg c21] at H
        exact absurd H (by simp)
       rw [if_pos c21] at H
       have Cb : decide (0 ≤ (fa)) = true := decide_eq_true c21
       clear c21
       by_cases c22 : (fa) < (ca.length : Int)
       rotate_left
       ·rw [if_neg c22] at H
        exact absurd H (by simp)
       rw [if_pos c22] at H
       have Db : decide ((fa) < (ca.length : Int)) = true := decide_eq_true c22
       clear c22
       obtain ⟨Ia, Ba⟩ : ∃ y_ : List Int, y_ = (ca.set ((fa) : Int).toNat ((IntKind.u64.wrap ((IntKind.u64.wrap ((IntKind.u64.wrap ((IntKind.u64.wrap ((rd ba da))) * (IntKind.u64.wrap (rd aa ea)))) + (IntKind.u64.wrap (rd ca (fa))))) + ka)) % 4294967296)) := ⟨_, rfl⟩
       replace H : (n_Multiply.l1 k2 aa Ia da (rd ba da) ((IntKind.u64.wrap ((IntKind.u64.wrap ((IntKind.u64.wrap ((IntKind.u64.wrap ((rd ba da))) * (IntKind.u64.wrap (rd aa ea)))) + (IntKind.u64.wrap (rd ca (fa))))) + ka)) / 4294967296) ba (ba.length : Int) da aa (aa.length : Int) (wrap64 (ea + 1))) = some r := by first | (rw [Ba]; with_reducible exact H) | (have H2_ := (Option.bind_some _ _).symm.trans H; rw [Ba]; with_reducible exact H2_) | (have H2_ := (Option.bind_some _ _).symm.trans H; with_reducible exact H2_) | with_reducible exact H | (rw [Ba]; exact H) | exact H
       have mb := A0_.mk Ba
       clear Ba
       have H' := A0_.mk H
       clear H
       have Ja : 0 ≤ (ea : Int) := oD_
       have Ka : ea < (aa.length : Int) := oD_
       obtain ⟨Ga, nb, Eb⟩ := Kd.at_int (Kd.rr_' sa.out).2.2 ea Ja Ka
       cases nb
       replace Ja := eq_true Ja
       replace Ka := eq_true Ka
       obtain ⟨Fb, va, ob⟩ := Kd.rS_' ga.out
       subst ob
       have La : 0 ≤ ((fa) : Int) := oD_
       have Ma : (fa) < (ca.length : Int) := oD_
       obtain ⟨Gb, pb, qb⟩ := Kd.at_int (Kd.rr_' ga.out).2.2 (fa) La Ma
       cases pb
       replace La := eq_true La
       replace Ma := eq_true Ma
       have p23 : 0 ≤ ((fa) : Int) := oD_
       have q23 : ((fa) : Int) < ((ca.length : Int) : Int) := oD_
       obtain ⟨qa, Hb, Wa, Xa, gl23, cl23, Ya⟩ := Kd.R_form ga.out (by omega)
       (first | cases Wa | (injection Wa with ea_ en_ ec_; (first | subst ea_ | (injection ea_ with ea_; subst ea_)); subst ec_; clear en_))
       have GB23 := A0_.mk Xa
       have GG23 := A0_.mk Ya
       clear Xa gl23 Ya
       (first | simp only [ap_] at qb | skip)
       obtain ⟨Ib, Jb⟩ := Kd.R_celln 0 ga.out ((fa) : Int) p23 q23
       replace p23 := eq_true p23
       replace q23 := eq_true q23
       have HP25 := Kd.R_putg ga.out ((fa) : Int) ((IntKind.u64.wrap ((IntKind.u64.wrap ((IntKind.u64.wrap ((IntKind.u64.wrap ((rd ba da))) * (IntKind.u64.wrap (rd aa ea)))) + (IntKind.u64.wrap (rd ca (fa))))) + ka)) % 4294967296)
       go_wp2_with (first | ((with_reducible refine gate_store (t := 89) (p := 59) rfl ?_); refine store_event (t := 89) (p := 59) (v := ?vo_w26) (w1 := (wr.setCell ⟨qa, ((fa) : Int).toNat, none⟩ (.int .u32 ((IntKind.u64.wrap ((IntKind.u64.wrap ((IntKind.u64.wrap ((IntKind.u64.wrap ((rd ba da))) * (IntKind.u64.wrap (rd aa ea)))) + (IntKind.u64.wrap (rd ca (fa))))) + ka)) % 4294967296)))) ?hg ?ho ?hn ?hr ?_; (case ho => rfl); (case hg => rfl); (case hn => rfl); (case hr => first | (go_simp; done) | (go_simp; rfl)); intro w26 hw; have hg : wr.grownBy w26 (some qa) := (by rw [hw]; exact HP25.2); have hp_ : Kd.R (Kd.int .u32) 89 w26 w.heap.size (fun k_ => some k_ ≠ (.slice (some Ga) aa.length ha : Value).ownBlock ∧ some k_ ≠ (.slice (some pa) ba.length ma : Value).ownBlock ∧ some k_ ≠ (.slice (some Ga) aa.length ha : Value).ownBlock) (.slice (some ⟨qa, 0, none⟩) ca.length va) Ia := (by rw [hw, mb.out]; exact HP25.1); clear HP25; have n0_ := A0_.mk (Kd.R_after (v := (.slice (some ⟨qa, 0, none⟩) ca.length va)) (v1 := (.slice (some ⟨qa, 0, none⟩) ca.length va)) (ok := (fun k_ => some k_ ≠ (.slice (some pa) ba.length ma : Value).ownBlock)) (by (with_reducible repeat (first | apply Kd.R_alloc | apply Kd.rN_ | apply Kd.rD_)); exact Kd.rM_ ia.out (fun _ hk => ⟨hk.2, hk.1⟩)) hg (.inl rfl)); have n1_ := A0_.mk (hp_); have n2_ := A0_.mk (Kd.R_after (v := (.slice (some ⟨qa, 0, none⟩) ca.length va)) (v1 := (.slice (some ⟨qa, 0, none⟩) ca.length va)) (ok := (fun k_ => some k_ ≠ (.slice (some Ga) aa.length ha : Value).ownBlock ∧ some k_ ≠ (.slice (some Ga) aa.length ha : Value).ownBlock)) (by (with_reducible repeat (first | apply Kd.R_alloc | apply Kd.rN_ | apply Kd.rD_)); exact Kd.rM_ ja.out (fun _ hk => ⟨⟨hk.1, hk.2.2⟩, hk.2.1⟩)) hg (.inl rfl)); have n3_ := A0_.mk (Kd.R_after (v := (.slice (some ⟨qa, 0, none⟩) ca.length va)) (v1 := (.slice (some ⟨qa, 0, none⟩) ca.length va)) (ok := (fun k_ => some k_ ≠ (.slice (some pa) ba.length ma : Value).ownBlock)) (by (with_reducible repeat (first | apply Kd.R_alloc | apply Kd.rN_ | apply Kd.rD_)); exact Kd.rM_ sa.out (fun _ hk => ⟨hk.2, hk.1⟩)) hg (.inl rfl)); have n4_ := A0_.mk ((by rw [hw]; exact bS_ (HB.out) GB23.out : Below w.heap.size w w26)); clear ia ga ja sa HB; have ia := n0_; have ga := n1_; have ja := n2_; have sa := n3_; have HB := n4_; clear n0_ n1_ n2_ n3_ n4_; clear hg hw hp_))
       (try simp only [ap_])
       go_roundg k2
       case measure => have := HK1.out; have := HK2.out; omega
       case rel => exact ⟨(Ia), ((IntKind.u64.wrap ((IntKind.u64.wrap ((IntKind.u64.wrap ((IntKind.u64.wrap ((rd ba da))) * (IntKind.u64.wrap (rd aa ea)))) + (IntKind.u64.wrap (rd ca (fa))))) + ka)) / 4294967296), (wrap64 (ea + 1)), (by first | rfl | (simp; done) | (simp only [← Fa] <;> (first | rfl | simp)) | (simp [*]; done)), (rS_), H', ⟨by have := HK1.out; have := HK2.out; omega⟩, ⟨by (with_reducible repeat (first | apply Kd.R_alloc | apply Kd.rN_ | apply Kd.rD_)); exact Kd.rM_ ia.out (fun _ hk => ⟨hk.2, hk.1⟩)⟩, ⟨by (with_reducible repeat (first | apply Kd.R_alloc | apply Kd.rN_ | apply Kd.rD_)); exact ga.out⟩, ⟨by (with_reducible repeat (first | apply Kd.R_alloc | apply Kd.rN_ | apply Kd.rD_)); exact Kd.rM_ ja.out (fun _ hk => ⟨hk.1.1, ⟨hk.2, hk.1.2⟩⟩)⟩, ⟨by (with_reducible repeat (first | apply Kd.R_alloc | apply Kd.rN_ | apply Kd.rD_)); exact Kd.rM_ sa.out (fun _ hk => ⟨hk.2, hk.1⟩)⟩, ⟨xB_ HB⟩⟩
      ·rw [if_neg c17] at H
       have kb : decide (ea < (aa.length : Int)) = false := decide_eq_false c17
       clear c17
       obtain ⟨la, Na⟩ : ∃ j_ : Int, (wrap64 (da + (aa.length : Int))) = j_ := ⟨_, rfl⟩
       replace H : (if 0 ≤ (la) then (if (la) < (ca.length : Int) then (n_Multiply.l0 k2 aa (ca.set ((la) : Int).toNat ((ka) % 4294967296)) ba (ba.length : Int) (wrap64 (da + 1))) else (none)) else (none)) = some r := by first | (rw [Na] at H; exact H) | (simp only [Na] at H ⊢; exact H)
       have Kb : (IntKind.i64.wrap (da + (aa.length : Int))) = la := (i6_ _).trans Na
       by_cases c28 : 0 ≤ (la)
       rotate_left
       ·rw [if_neg c28] at H
        exact absurd H (by simp)
       rw [if_pos c28] at H
       have Lb : decide (0 ≤ (la)) = true := decide_eq_true c28
       clear c28
       by_cases c29 : (la) < (ca.length : Int)
       rotate_left
       ·rw [if_neg c29] at H
        exact absurd H (by simp)
       rw [if_pos c29] at H
       have Mb : decide ((la) < (ca.length : Int)) = true := decide_eq_true c29
       clear c29
       obtain ⟨Oa, Ca⟩ : ∃ y_ : List Int, y_ = (ca.set ((la) : Int).toNat ((ka) % 4294967296)) := ⟨_, rfl⟩
       replace H : (n_Multiply.l0 k2 aa Oa ba (ba.length : Int) (wrap64 (da + 1))) = some r := by first | (rw [Ca]; with_reducible exact H) | (have H2_ := (Option.bind_some _ _).symm.trans H; rw [Ca]; with_reducible exact H2_) | (have H2_ := (Option.bind_some _ _).symm.trans H; with_reducible exact H2_) | with_reducible exact H | (rw [Ca]; exact H) | exact H
       have rb := A0_.mk Ca
       clear Ca
       have H' := A0_.mk H
       clear H
       have p30 : 0 ≤ ((la) : Int) := oD_
       have q30 : ((la) : Int) < ((ca.length : Int) : Int) := oD_
       obtain ⟨ra, wa, Za, ab, gl30, cl30, bb⟩ := Kd.R_form ga.out (by omega)
       (first | cases Za | (injection Za with ea_ en_ ec_; (first | subst ea_ | (injection ea_ with ea_; subst ea_)); subst ec_; clear en_))
       have GB30 := A0_.mk ab
       have GG30 := A0_.mk bb
       clear ab gl30 bb
       obtain ⟨Nb, Ob⟩ := Kd.R_celln 0 ga.out ((la) : Int) p30 q30
       replace p30 := eq_true p30
       replace q30 := eq_true q30
       have HP31 := Kd.R_putg ga.out ((la) : Int) ((ka) % 4294967296)
       go_wp2_with (first | ((with_reducible refine gate_store (t := 89) (p := 70) rfl ?_); refine store_event (t := 89) (p := 70) (v := ?vo_w32) (w1 := (wr.setCell ⟨ra, ((la) : Int).toNat, none⟩ (.int .u32 ((ka) % 4294967296)))) ?hg ?ho ?hn ?hr ?_; (case ho => rfl); (case hg => rfl); (case hn => rfl); (case hr => first | (go_simp; done) | (go_simp; rfl)); intro w32 hw; have hg : wr.grownBy w32 (some ra) := (by rw [hw]; exact HP31.2); have hp_ : Kd.R (Kd.int .u32) 89 w32 w.heap.size (fun k_ => some k_ ≠ (.slice na aa.length ha : Value).ownBlock ∧ some k_ ≠ (.slice (some pa) ba.length ma : Value).ownBlock ∧ some k_ ≠ (.slice na aa.length ha : Value).ownBlock) (.slice (some ⟨ra, 0, none⟩) ca.length wa) Oa := (by rw [hw, rb.out]; exact HP31.1); clear HP31; have n0_ := A0_.mk (Kd.R_after (v := (.slice (some ⟨ra, 0, none⟩) ca.length wa)) (v1 := (.slice (some ⟨ra, 0, none⟩) ca.length wa)) (ok := (fun k_ => some k_ ≠ (.slice (some pa) ba.length ma : Value).ownBlock)) (by (with_reducible repeat (first | apply Kd.R_alloc | apply Kd.rN_ | apply Kd.rD_)); exact Kd.rM_ ia.out (fun _ hk => ⟨hk.2, hk.1⟩)) hg (.inl rfl)); have n1_ := A0_.mk (hp_); have n2_ := A0_.mk (Kd.R_after (v := (.slice (some ⟨ra, 0, none⟩) ca.length wa)) (v1 := (.slice (some ⟨ra, 0, none⟩) ca.length wa)) (ok := (fun k_ => some k_ ≠ (.slice na aa.length ha : Value).ownBlock ∧ some k_ ≠ (.slice na aa.length ha : Value).ownBlock)) (by (with_reducible repeat (first | apply Kd.R_alloc | apply Kd.rN_ | apply Kd.rD_)); exact Kd.rM_ ja.out (fun _ hk => ⟨⟨hk.1, hk.2.2⟩, hk.2.1⟩)) hg (.inl rfl)); have n3_ := A0_.mk (Kd.R_after (v := (.slice (some ⟨ra, 0, none⟩) ca.length wa)) (v1 := (.slice (some ⟨ra, 0, none⟩) ca.length wa)) (ok := (fun k_ => some k_ ≠ (.slice (some pa) ba.length ma : Value).ownBlock)) (by (with_reducible repeat (first | apply Kd.R_alloc | apply Kd.rN_ | apply Kd.rD_)); exact Kd.rM_ sa.out (fun _ hk => ⟨hk.2, hk.1⟩)) hg (.inl rfl)); have n4_ := A0_.mk ((by rw [hw]; exact bS_ (HB.out) GB30.out : Below w.heap.size w w32)); clear ia ga ja sa HB; have ia := n0_; have ga := n1_; have ja := n2_; have sa := n3_; have HB := n4_; clear n0_ n1_ n2_ n3_ n4_; clear hg hw hp_))
       (try simp only [ap_])
       go_roundg k2
       case measure => have := HK1.out; have := HK2.out; omega
       case rel => exact ⟨(Oa), (wrap64 (da + 1)), (rS_), H', ⟨by have := HK1.out; have := HK2.out; omega⟩, ⟨by (with_reducible repeat (first | apply Kd.R_alloc | apply Kd.rN_ | apply Kd.rD_)); exact Kd.rM_ ia.out (fun _ hk => ⟨hk.2, hk.1⟩)⟩, ⟨by (with_reducible repeat (first | apply Kd.R_alloc | apply Kd.rN_ | apply Kd.rD_)); exact Kd.rM_ ga.out (fun _ hk => ⟨hk.1, hk.2.1⟩)⟩, ⟨by (with_reducible repeat (first | apply Kd.R_alloc | apply Kd.rN_ | apply Kd.rD_)); exact Kd.rM_ ja.out (fun _ hk => ⟨hk.1.1, hk.2⟩)⟩, ⟨xB_ HB⟩⟩
   ·rw [if_neg c14] at H
    have Va : decide (da < (ba.length : Int)) = false := decide_eq_false c14
    clear c14
    obtain ⟨sb, A33, H⟩ := oB_ H
    (try dsimp only at H)
    obtain rfl := Option.some.inj H
    obtain ⟨tb, ub, vb⟩ := Kd.rS_' ga.out
    subst vb
    go_wp2_with (first | ((with_reducible refine gC_ (f := 65) rfl ?_); refine gL_ (some 73) rfl rfl Tryd.func65 kr_ rfl #[.slice tb za.length ub] rfl mp_ ?_; (with_reducible refine (n_limbs_text.calls k1 _ _ za sb _ ?side1 ?side2 A33.out).mono ?_); (case side1 => repeat (first | exact (Kd.rr_' ga.out).2.2 | (with_reducible refine Kd.C_alloc ?_ _) | (with_reducible refine Kd.C_drewN ?_ _) | (with_reducible refine Kd.C_drew ?_))); (case side2 => exact (Kd.rr_' ga.out).2.1); rintro e w35 ⟨rfl, hb⟩; refine ⟨_, rfl, ?_⟩; have n0_ := A0_.mk (Kd.rB_ (xR_ ia.out) hb); have n1_ := A0_.mk (Kd.rB_ (xR_ ga.out) hb); have n2_ := A0_.mk (Kd.rB_ (xR_ ja.out) hb); have n3_ := A0_.mk (bT_ (xB_ HB) hb); clear ia ga ja HB; have ia := n0_; have ga := n1_; have ja := n2_; have HB := n3_; clear n0_ n1_ n2_ n3_; (try clear hb); (try clear hb2); (try clear hk); (try clear hi)))
    go_ret
    exact ⟨by first | rfl | (simp [eN_', eS_] <;> rfl) | (simp only [← xa]; first | rfl | (simp [eN_', eS_] <;> rfl)) | (simp [*, eN_', eS_] <;> rfl), xB_ HB⟩
def q_Valid.j0 : Nat → Bool → Bool → ByteArray → ByteArray → Option (Bool)
 | 0, _, _, _, _ => none
 | k + 1, x16, x236000, x236001, x236002 => if x16 = true then (some false) else (if x236001.toList = ([] : List UInt8) then (if x236000 = true then (some false) else (some (x236002.toList == ([] : List UInt8)))) else (if x236002.toList = ([] : List UInt8) then (some true) else (if x236002.toList = ([1] : List UInt8) then (some false) else ((n_GCD.f k x236001 x236002).bind fun t238 => (some (t238.toList == ([1] : List UInt8)))))))
def q_Valid.f (k : Nat) (a0_0 : Bool) (a0_1 : ByteArray) (a0_2 : ByteArray) : Option (Bool) := (n_Normalize.f k a0_1).bind fun t236 => (if t236.toList = a0_1.toList then ((n_Normalize.f k a0_2).bind fun t237 => (q_Valid.j0 k (t237.toList != a0_2.toList) a0_0 a0_1 a0_2)) else (q_Valid.j0 k true a0_0 a0_1 a0_2))
theorem q_Valid.mono_l : ∀ k, (∀ y0 y1 y2 y3, LeO (q_Valid.j0 k y0 y1 y2 y3) (q_Valid.j0 (k + 1) y0 y1 y2 y3))
 | 0 => fun _ _ _ _ r h => by simp [q_Valid.j0] at h
 | k + 1 => by
  have ih0 := q_Valid.mono_l k
  ·intro y0 y1 y2 y3
   unfold q_Valid.j0
   repeat' first
   | (with_reducible first | exact ih0 _ _ _ _ | exact n_GCD.mono _ _ _ | exact n_Normalize.mono _ _ | exact LeO.refl _ | exact LeO.none _ | refine LeO.ite ?_ ?_ | refine LeO.bind ?_ (fun _ => ?_))
theorem q_Valid.mono : ∀ a0 a1 a2 k, LeO (q_Valid.f k a0 a1 a2) (q_Valid.f (k + 1) a0 a1 a2) := by
 intro a0 a1 a2 k
 have ih0 := q_Valid.mono_l k
 unfold q_Valid.f
 repeat' first
   | (with_reducible first | exact ih0 _ _ _ _ | exact n_GCD.mono _ _ _ | exact n_Normalize.mono _ _ | exact LeO.refl _ | exact LeO.none _ | refine LeO.ite ?_ ?_ | refine LeO.bind ?_ (fun _ => ?_))
theorem q_Valid.calls (k : Nat) (a0_0 : Bool) (a0_1 : ByteArray) (a0_2 : ByteArray) (r : Bool) (w : World) (h : q_Valid.f k a0_0 a0_1 a0_2 = some r) :
  Calls Tryd.prog 60 #[.agg #[.bool a0_0, .string a0_1, .string a0_2]] w fun e w' => e = .returned (.bool r) ∧ Below w.heap.size w w' := by
 have hu26 := Tryd.underlying26
 have HB := A0_.mk (Below.refl w.heap.size w)
 have H := h
 unfold q_Valid.f at H
 clear h
 have HC2 := A0_.mk H
 clear H
 go_enter Tryd.func60, Tryd.ntmps60
 go_upto_region 1 with (first | ((with_reducible refine gD_ (N := 1) rfl ?_); refine bE_ ?hg (N := 1) ?hd (cs := #[.bool a0_0, .string a0_1, .string a0_2]) (t := 26) ?hr ?_; (case hd => rfl); (case hg => rfl); (case hr => first | (go_simp; done) | (go_simp; rfl)); intro ba hg w3 hbox hb; have n0_ := A0_.mk (bT_ (xB_ HB) hb); have n1_ := A0_.mk (hbox); have n2_ := A0_.mk ((by rw [hg]; exact (bZ_ (xB_ HB)) : w.heap.size ≤ ba)); have n3_ := A0_.mk ((by rw [hg]; exact (bZ_ (xB_ HB)) : w.heap.size ≤ ba)); clear HB; have HB := n0_; have aa := n1_; have ja := n2_; have ca := n3_; clear n0_ n1_ n2_ n3_; clear hb hbox hg))
 repeat (go_quiet (first | ((with_reducible refine gD_ (N := 1) rfl ?_); refine bE_ ?hg (N := 1) ?hd (cs := #[.bool a0_0, .string a0_1, .string a0_2]) (t := 26) ?hr ?_; (case hd => rfl); (case hg => rfl); (case hr => first | (go_simp; done) | (go_simp; rfl)); intro ba hg w3 hbox hb; have n0_ := A0_.mk (bT_ (xB_ HB) hb); have n1_ := A0_.mk (hbox); have n2_ := A0_.mk ((by rw [hg]; exact (bZ_ (xB_ HB)) : w.heap.size ≤ ba)); have n3_ := A0_.mk ((by rw [hg]; exact (bZ_ (xB_ HB)) : w.heap.size ≤ ba)); clear HB; have HB := n0_; have aa := n1_; have ja := n2_; have ca := n3_; clear n0_ n1_ n2_ n3_; clear hb hbox hg)); go_upto_region 1 with (first | ((with_reducible refine gD_ (N := 1) rfl ?_); refine bE_ ?hg (N := 1) ?hd (cs := #[.bool a0_0, .string a0_1, .string a0_2]) (t := 26) ?hr ?_; (case hd => rfl); (case hg => rfl); (case hr => first | (go_simp; done) | (go_simp; rfl)); intro ba hg w3 hbox hb; have n0_ := A0_.mk (bT_ (xB_ HB) hb); have n1_ := A0_.mk (hbox); have n2_ := A0_.mk ((by rw [hg]; exact (bZ_ (xB_ HB)) : w.heap.size ≤ ba)); have n3_ := A0_.mk ((by rw [hg]; exact (bZ_ (xB_ HB)) : w.heap.size ≤ ba)); clear HB; have HB := n0_; have aa := n1_; have ja := n2_; have ca := n3_; clear n0_ n1_ n2_ n3_; clear hb hbox hg)))
 (try simp only [Act.put, s1_, s2_, s3_])
 go_cut [16] (fun v16 wc => ∃ (kq : Nat) (ga : Bool), v16 = .bool ga ∧ A0_ (q_Valid.j0 kq ga a0_0 a0_1 a0_2 = some r) ∧ A0_ (kq ≤ k) ∧ A0_ (wc.heap[ba]? = some (.cells #[.bool a0_0, .string a0_1, .string a0_2] 26 (0, 0))) ∧ A0_ (Below w.heap.size w wc))
 case first =>
  have H := HC2.out
  clear HC2
  obtain ⟨da, A4, H⟩ := oB_ H
  (try dsimp only at H)
  by_cases c5 : da.toList = a0_1.toList
  ·rw [if_pos c5] at H
   have ea : (da.toList == a0_1.toList) = true := beq_iff_eq.mpr c5
   have ha : (da.toList != a0_1.toList) = false := bne_eq_false_iff_eq.mpr c5
   clear c5
   (first | rw [ea] | rw [ha] | (simp only [i6_, i3_]; rw [ea]) | skip)
   obtain ⟨ia, A6, H⟩ := oB_ H
   (try dsimp only at H)
   have H' := A0_.mk H
   clear H
   have ka : w3.cell? ⟨ba, 0, none⟩ = some (.bool a0_0) := (kc_ aa.out 0).trans rfl
   have la : w3.cell? ⟨ba, 1, none⟩ = some (.string a0_1) := (kc_ aa.out 1).trans rfl
   have ma : w3.cell? ⟨ba, 2, none⟩ = some (.string a0_2) := (kc_ aa.out 2).trans rfl
   have na := kF_ aa.out 0
   have oa := kF_ aa.out 1
   have pa := kF_ aa.out 2
   go_wp2_with (first | (go_at_call 61; (with_reducible refine (n_Normalize.calls k a0_1 da _ A4.out).mono ?_); rintro e w' ⟨rfl, ⟨nd, rfl⟩⟩; (try first | exact ⟨rfl, _, World.drewN_drewN _ _ _⟩ | exact ⟨rfl, _, Eq.trans (World.drewN_drewN _ _ _) (congrArg (World.drewN _) (Nat.add_assoc _ _ _))⟩)) | (go_at_call 61; (with_reducible refine (n_Normalize.calls k a0_2 ia _ A6.out).mono ?_); rintro e w' ⟨rfl, ⟨nd, rfl⟩⟩; (try first | exact ⟨rfl, _, World.drewN_drewN _ _ _⟩ | exact ⟨rfl, _, Eq.trans (World.drewN_drewN _ _ _) (congrArg (World.drewN _) (Nat.add_assoc _ _ _))⟩)))
   repeat (go_quiet (first | (go_at_call 61; (with_reducible refine (n_Normalize.calls k a0_1 da _ A4.out).mono ?_); rintro e w' ⟨rfl, ⟨nd, rfl⟩⟩; (try first | exact ⟨rfl, _, World.drewN_drewN _ _ _⟩ | exact ⟨rfl, _, Eq.trans (World.drewN_drewN _ _ _) (congrArg (World.drewN _) (Nat.add_assoc _ _ _))⟩)) | (go_at_call 61; (with_reducible refine (n_Normalize.calls k a0_2 ia _ A6.out).mono ?_); rintro e w' ⟨rfl, ⟨nd, rfl⟩⟩; (try first | exact ⟨rfl, _, World.drewN_drewN _ _ _⟩ | exact ⟨rfl, _, Eq.trans (World.drewN_drewN _ _ _) (congrArg (World.drewN _) (Nat.add_assoc _ _ _))⟩))); try go_wp2_with (first | (go_at_call 61; (with_reducible refine (n_Normalize.calls k a0_1 da _ A4.out).mono ?_); rintro e w' ⟨rfl, ⟨nd, rfl⟩⟩; (try first | exact ⟨rfl, _, World.drewN_drewN _ _ _⟩ | exact ⟨rfl, _, Eq.trans (World.drewN_drewN _ _ _) (congrArg (World.drewN _) (Nat.add_assoc _ _ _))⟩)) | (go_at_call 61; (with_reducible refine (n_Normalize.calls k a0_2 ia _ A6.out).mono ?_); rintro e w' ⟨rfl, ⟨nd, rfl⟩⟩; (try first | exact ⟨rfl, _, World.drewN_drewN _ _ _⟩ | exact ⟨rfl, _, Eq.trans (World.drewN_drewN _ _ _) (congrArg (World.drewN _) (Nat.add_assoc _ _ _))⟩))))
   go_meet
   case rel => exact ⟨_, ((ia.toList != a0_2.toList)), (rS_), H', ⟨by first | omega | exact Nat.le_refl _⟩, ⟨by (with_reducible repeat (first | apply kN_ | apply kD_ | apply kA_)); exact aa.out⟩, ⟨xB1_ HB ca⟩⟩
  ·rw [if_neg c5] at H
   have ea : (da.toList == a0_1.toList) = false := beq_eq_false_iff_ne.mpr c5
   have ha : (da.toList != a0_1.toList) = true := bne_iff_ne.mpr c5
   (first | rw [ea] | rw [ha] | (simp only [i6_, i3_]; rw [ea]) | skip)
   have H' := A0_.mk H
   clear H
   have qa : w3.cell? ⟨ba, 0, none⟩ = some (.bool a0_0) := (kc_ aa.out 0).trans rfl
   have ra : w3.cell? ⟨ba, 1, none⟩ = some (.string a0_1) := (kc_ aa.out 1).trans rfl
   have sa : w3.cell? ⟨ba, 2, none⟩ = some (.string a0_2) := (kc_ aa.out 2).trans rfl
   have ta := kF_ aa.out 0
   have ua := kF_ aa.out 1
   have va := kF_ aa.out 2
   go_wp2_with (first | (go_at_call 61; (with_reducible refine (n_Normalize.calls k a0_1 da _ A4.out).mono ?_); rintro e w' ⟨rfl, ⟨nd, rfl⟩⟩; (try first | exact ⟨rfl, _, World.drewN_drewN _ _ _⟩ | exact ⟨rfl, _, Eq.trans (World.drewN_drewN _ _ _) (congrArg (World.drewN _) (Nat.add_assoc _ _ _))⟩)))
   repeat (go_quiet (first | (go_at_call 61; (with_reducible refine (n_Normalize.calls k a0_1 da _ A4.out).mono ?_); rintro e w' ⟨rfl, ⟨nd, rfl⟩⟩; (try first | exact ⟨rfl, _, World.drewN_drewN _ _ _⟩ | exact ⟨rfl, _, Eq.trans (World.drewN_drewN _ _ _) (congrArg (World.drewN _) (Nat.add_assoc _ _ _))⟩))); try go_wp2_with (first | (go_at_call 61; (with_reducible refine (n_Normalize.calls k a0_1 da _ A4.out).mono ?_); rintro e w' ⟨rfl, ⟨nd, rfl⟩⟩; (try first | exact ⟨rfl, _, World.drewN_drewN _ _ _⟩ | exact ⟨rfl, _, Eq.trans (World.drewN_drewN _ _ _) (congrArg (World.drewN _) (Nat.add_assoc _ _ _))⟩))))
   go_meet
   case rel => exact ⟨_, (true), (rS_), H', ⟨by first | omega | exact Nat.le_refl _⟩, ⟨by (with_reducible repeat (first | apply kN_ | apply kD_ | apply kA_)); exact aa.out⟩, ⟨xB1_ HB ca⟩⟩
 case rest =>
  clear HC2
  try clear p2
  try clear c5
  try clear ea
  try clear ha
  try clear c6
  try clear ka
  try clear la
  try clear ma
  try clear qa
  try clear ra
  try clear sa
  try clear na
  try clear oa
  try clear pa
  try clear ta
  try clear ua
  try clear va
  obtain ⟨kq, ga, rfl, HA, HJ1, aa, HB⟩ := hcut
  cases kq with
  | zero => exact absurd HA.out (by simp [q_Valid.j0])
  | succ kj1 =>
   have H := HA.out
   clear HA
   simp only [q_Valid.j0] at H
   by_cases c9 : ga = true
   ·subst c9
    have H1 : (some false) = some r := by rw [if_pos rfl] at H; exact H
    clear H
    have H := H1
    clear H1
    obtain rfl := Option.some.inj H
    go_wp2
    repeat (go_quiet (fail); try go_wp2)
    go_ret
    exact ⟨rE_, xB1_ HB ca⟩
   ·replace c9 := Bool.eq_false_iff.mpr c9
    subst c9
    have H1 : (if a0_1.toList = ([] : List UInt8) then (if a0_0 = true then (some false) else (some (a0_2.toList == ([] : List UInt8)))) else (if a0_2.toList = ([] : List UInt8) then (some true) else (if a0_2.toList = ([1] : List UInt8) then (some false) else ((n_GCD.f kj1 a0_1 a0_2).bind fun fa => (some (fa.toList == ([1] : List UInt8))))))) = some r := by rw [if_neg (show ¬ (false = true) by decide)] at H; exact H
    clear H
    have H := H1
    clear H1
    by_cases c10 : a0_1.toList = ([] : List UInt8)
    ·rw [if_pos c10] at H
     have wa : (a0_1.toList == ([] : List UInt8)) = true := beq_iff_eq.mpr c10
     have xa : (a0_1.toList != ([] : List UInt8)) = false := bne_eq_false_iff_eq.mpr c10
     clear c10
     by_cases c11 : a0_0 = true
     ·subst c11
      have H1 : (some false) = some r := by rw [if_pos rfl] at H; exact H
      clear H
      have H := H1
      clear H1
      obtain rfl := Option.some.inj H
      have Ca : wc.cell? ⟨ba, 0, none⟩ = some (.bool true) := (kc_ aa.out 0).trans rfl
      have Da : wc.cell? ⟨ba, 1, none⟩ = some (.string a0_1) := (kc_ aa.out 1).trans rfl
      have Ea : wc.cell? ⟨ba, 2, none⟩ = some (.string a0_2) := (kc_ aa.out 2).trans rfl
      have Fa := kF_ aa.out 0
      have Ga := kF_ aa.out 1
      have Ha := kF_ aa.out 2
      go_wp2
      repeat (go_quiet (fail); try go_wp2)
      go_ret
      exact ⟨rE_, xB1_ HB ca⟩
     ·replace c11 := Bool.eq_false_iff.mpr c11
      subst c11
      have H1 : (some (a0_2.toList == ([] : List UInt8))) = some r := by rw [if_neg (show ¬ (false = true) by decide)] at H; exact H
      clear H
      have H := H1
      clear H1
      obtain rfl := Option.some.inj H
      have Ia : wc.cell? ⟨ba, 0, none⟩ = some (.bool false) := (kc_ aa.out 0).trans rfl
      have Ja : wc.cell? ⟨ba, 1, none⟩ = some (.string a0_1) := (kc_ aa.out 1).trans rfl
      have Ka : wc.cell? ⟨ba, 2, none⟩ = some (.string a0_2) := (kc_ aa.out 2).trans rfl
      have La := kF_ aa.out 0
      have Ma := kF_ aa.out 1
      have Na := kF_ aa.out 2
      go_wp2
      repeat (go_quiet (fail); try go_wp2)
      go_ret
      exact ⟨rE_, xB1_ HB ca⟩
    ·rw [if_neg c10] at H
     have wa : (a0_1.toList == ([] : List UInt8)) = false := beq_eq_false_iff_ne.mpr c10
     have xa : (a0_1.toList != ([] : List UInt8)) = true := bne_iff_ne.mpr c10
     by_cases c14 : a0_2.toList = ([] : List UInt8)
     ·rw [if_pos c14] at H
      have ya : (a0_2.toList == ([] : List UInt8)) = true := beq_iff_eq.mpr c14
      have za : (a0_2.toList != ([] : List UInt8)) = false := bne_eq_false_iff_eq.mpr c14
      clear c14
      obtain rfl := Option.some.inj H
      have Oa : wc.cell? ⟨ba, 0, none⟩ = some (.bool a0_0) := (kc_ aa.out 0).trans rfl
      have Pa : wc.cell? ⟨ba, 1, none⟩ = some (.string a0_1) := (kc_ aa.out 1).trans rfl
      have Qa : wc.cell? ⟨ba, 2, none⟩ = some (.string a0_2) := (kc_ aa.out 2).trans rfl
      have Ra := kF_ aa.out 0
      have Sa := kF_ aa.out 1
      have Ta := kF_ aa.out 2
      go_wp2
      repeat (go_quiet (fail); try go_wp2)
      go_ret
      exact ⟨rE_, xB1_ HB ca⟩
     ·rw [if_neg c14] at H
      have ya : (a0_2.toList == ([] : List UInt8)) = false := beq_eq_false_iff_ne.mpr c14
      have za : (a0_2.toList != ([] : List UInt8)) = true := bne_iff_ne.mpr c14
      by_cases c16 : a0_2.toList = ([1] : List UInt8)
      ·rw [if_pos c16] at H
       have Aa : (a0_2.toList == ([1] : List UInt8)) = true := beq_iff_eq.mpr c16
       have Ba : (a0_2.toList != ([1] : List UInt8)) = false := bne_eq_false_iff_eq.mpr c16
       clear c16
       obtain rfl := Option.some.inj H
       have Ua : wc.cell? ⟨ba, 0, none⟩ = some (.bool a0_0) := (kc_ aa.out 0).trans rfl
       have Va : wc.cell? ⟨ba, 1, none⟩ = some (.string a0_1) := (kc_ aa.out 1).trans rfl
       have Wa : wc.cell? ⟨ba, 2, none⟩ = some (.string a0_2) := (kc_ aa.out 2).trans rfl
       have Xa := kF_ aa.out 0
       have Ya := kF_ aa.out 1
       have Za := kF_ aa.out 2
       go_wp2
       repeat (go_quiet (fail); try go_wp2)
       go_ret
       exact ⟨rE_, xB1_ HB ca⟩
      ·rw [if_neg c16] at H
       have Aa : (a0_2.toList == ([1] : List UInt8)) = false := beq_eq_false_iff_ne.mpr c16
       have Ba : (a0_2.toList != ([1] : List UInt8)) = true := bne_iff_ne.mpr c16
       obtain ⟨fa, A18, H⟩ := oB_ H
       (try dsimp only at H)
       obtain rfl := Option.some.inj H
       have ab : wc.cell? ⟨ba, 0, none⟩ = some (.bool a0_0) := (kc_ aa.out 0).trans rfl
       have bb : wc.cell? ⟨ba, 1, none⟩ = some (.string a0_1) := (kc_ aa.out 1).trans rfl
       have cb : wc.cell? ⟨ba, 2, none⟩ = some (.string a0_2) := (kc_ aa.out 2).trans rfl
       have db := kF_ aa.out 0
       have eb := kF_ aa.out 1
       have fb := kF_ aa.out 2
       go_wp2_with (first | (go_at_call 70; (with_reducible refine (n_GCD.calls kj1 a0_1 a0_2 fa _ A18.out).mono ?_); rintro e w20 ⟨rfl, hb⟩; have n0_ := A0_.mk (kB_ (g := ba) (o := .cells #[.bool a0_0, .string a0_1, .string a0_2] 26 (0, 0)) (xK_ aa.out) hb); have n1_ := A0_.mk (bT_ (xB1_ HB ca) hb); clear aa HB; have aa := n0_; have HB := n1_; clear n0_ n1_; (try clear hb); (try clear hb2); (try clear hk); (try clear hi)))
       repeat (go_quiet (first | (go_at_call 70; (with_reducible refine (n_GCD.calls kj1 a0_1 a0_2 fa _ A18.out).mono ?_); rintro e w20 ⟨rfl, hb⟩; have n0_ := A0_.mk (kB_ (g := ba) (o := .cells #[.bool a0_0, .string a0_1, .string a0_2] 26 (0, 0)) (xK_ aa.out) hb); have n1_ := A0_.mk (bT_ (xB1_ HB ca) hb); clear aa HB; have aa := n0_; have HB := n1_; clear n0_ n1_; (try clear hb); (try clear hb2); (try clear hk); (try clear hi))); try go_wp2_with (first | (go_at_call 70; (with_reducible refine (n_GCD.calls kj1 a0_1 a0_2 fa _ A18.out).mono ?_); rintro e w20 ⟨rfl, hb⟩; have n0_ := A0_.mk (kB_ (g := ba) (o := .cells #[.bool a0_0, .string a0_1, .string a0_2] 26 (0, 0)) (xK_ aa.out) hb); have n1_ := A0_.mk (bT_ (xB1_ HB ca) hb); clear aa HB; have aa := n0_; have HB := n1_; clear n0_ n1_; (try clear hb); (try clear hb2); (try clear hk); (try clear hi))))
       go_ret
       exact ⟨rE_, xB1_ HB ca⟩
def q_clean.f (k : Nat) (a0_0 : Bool) (a0_1 : ByteArray) (a0_2 : ByteArray) : Option (Bool × ByteArray × ByteArray) := (q_Valid.f k a0_0 a0_1 a0_2).bind fun t241 => (if t241 = true then (some (a0_0, a0_1, a0_2)) else (some (false, (⟨#[]⟩ : ByteArray), (⟨#[]⟩ : ByteArray))))
theorem q_clean.mono : ∀ a0 a1 a2 k, LeO (q_clean.f k a0 a1 a2) (q_clean.f (k + 1) a0 a1 a2) := by
 intro a0 a1 a2 k
 unfold q_clean.f
 repeat' first
   | (with_reducible first | exact q_Valid.mono _ _ _ _ | exact LeO.refl _ | exact LeO.none _ | refine LeO.ite ?_ ?_ | refine LeO.bind ?_ (fun _ => ?_))
theorem q_clean.calls (k : Nat) (a0_0 : Bool) (a0_1 : ByteArray) (a0_2 : ByteArray) (r1 : Bool) (r2 : ByteArray) (r3 : ByteArray) (w : World) (h : q_clean.f k a0_0 a0_1 a0_2 = some (r1, r2, r3)) :
  Calls Tryd.prog 43 #[.agg #[.bool a0_0, .string a0_1, .string a0_2]] w fun e w' => e = .returned (.agg #[.bool r1, .string r2, .string r3]) ∧ Below w.heap.size w w' := by
 have hu26 := Tryd.underlying26
 have HB := A0_.mk (Below.refl w.heap.size w)
 have H := h
 unfold q_clean.f at H
 clear h
 obtain ⟨ia, A2, H⟩ := oB_ H
 (try dsimp only at H)
 by_cases c3 : ia = true
 ·subst c3
  have H1 : (some (a0_0, a0_1, a0_2)) = some (r1, r2, r3) := by rw [if_pos rfl] at H; exact H
  clear H
  have H := H1
  clear H1
  simp only [Option.some.injEq, Prod.mk.injEq] at H
  obtain ⟨rfl, rfl, rfl⟩ := H
  go_enter Tryd.func43, Tryd.ntmps43
  go_wp2_with (first | ((with_reducible refine gD_ (N := 1) rfl ?_); refine bE_ ?hg (N := 1) ?hd (cs := #[.bool a0_0, .string a0_1, .string a0_2]) (t := 26) ?hr ?_; (case hd => rfl); (case hg => rfl); (case hr => first | (go_simp; done) | (go_simp; rfl)); intro ba hg w4 hbox hb; have n0_ := A0_.mk (bT_ (xB_ HB) hb); have n1_ := A0_.mk (hbox); have n2_ := A0_.mk ((by rw [hg]; exact (bZ_ (xB_ HB)) : w.heap.size ≤ ba)); have n3_ := A0_.mk ((by rw [hg]; exact (bZ_ (xB_ HB)) : w.heap.size ≤ ba)); clear HB; have HB := n0_; have aa := n1_; have ja := n2_; have ea := n3_; clear n0_ n1_ n2_ n3_; clear hb hbox hg) | ((with_reducible refine gD_ (N := 2) rfl ?_); refine bE_ ?hg (N := 2) ?hd (cs := zC_) (t := 26) ?hr ?_; (case hd => rfl); (case hg => rfl); (case hr => first | (go_simp; done) | (go_simp; rfl)); intro da hg w5 hbox hb; have n0_ := A0_.mk (kB_ (g := ba) (o := .cells #[.bool a0_0, .string a0_1, .string a0_2] 26 (0, 0)) (xK_ aa.out) hb); have n1_ := A0_.mk (bT_ (xB1_ HB ea) hb); have n2_ := A0_.mk (hbox); have n3_ := A0_.mk ((by rw [hg]; exact (bZ_ (xB1_ HB ea)) : w.heap.size ≤ da)); have n4_ := A0_.mk ((by rw [hg]; exact (bZ_ (xB1_ HB ea)) : w.heap.size ≤ da)); have n5_ := A0_.mk ((by rw [hg]; exact Nat.ne_of_lt (blk_lt (g := ba) (o := .cells #[.bool a0_0, .string a0_1, .string a0_2] 26 (0, 0)) (xK_ aa.out)) : ba ≠ da)); have n6_ := A0_.mk ((by rw [hg]; exact Nat.ne_of_gt (blk_lt (g := ba) (o := .cells #[.bool a0_0, .string a0_1, .string a0_2] 26 (0, 0)) (xK_ aa.out)) : da ≠ ba)); clear aa HB; have aa := n0_; have HB := n1_; have ca := n2_; have ka := n3_; have fa := n4_; have ga := n5_; have ha := n6_; clear n0_ n1_ n2_ n3_ n4_ n5_ n6_; clear hb hbox hg; have hnb6 := ga.out; have hnc6 := ha.out; have la : w5.cell? ⟨ba, 0, none⟩ = some (.bool a0_0) := (kc_ aa.out 0).trans rfl; have ma : w5.cell? ⟨ba, 1, none⟩ = some (.string a0_1) := (kc_ aa.out 1).trans rfl; have na : w5.cell? ⟨ba, 2, none⟩ = some (.string a0_2) := (kc_ aa.out 2).trans rfl; have oa := kF_ aa.out 0; have pa := kF_ aa.out 1; have qa := kF_ aa.out 2) | ((with_reducible refine gC_ (f := 60) rfl ?_); refine gL_ (some 4) rfl rfl Tryd.func60 kr_ rfl #[.agg #[.bool a0_0, .string a0_1, .string a0_2]] rfl mp_ ?_; (with_reducible refine (q_Valid.calls k a0_0 a0_1 a0_2 true _ A2.out).mono ?_); rintro e w8 ⟨rfl, hb⟩; refine ⟨_, rfl, ?_⟩; have n0_ := A0_.mk (kB_ (g := ba) (o := .cells #[.bool a0_0, .string a0_1, .string a0_2] 26 (0, 0)) (xK_ aa.out) hb); have n1_ := A0_.mk (kB_ (g := da) (o := .cells zC_ 26 (0, 0)) (xK_ ca.out) hb); have n2_ := A0_.mk (bT_ (xB2_ HB ea fa) hb); clear aa ca HB; have aa := n0_; have ca := n1_; have HB := n2_; clear n0_ n1_ n2_; (try clear hb); (try clear hb2); (try clear hk); (try clear hi); have ra : w8.cell? ⟨ba, 0, none⟩ = some (.bool a0_0) := (kc_ aa.out 0).trans rfl; have sa : w8.cell? ⟨ba, 1, none⟩ = some (.string a0_1) := (kc_ aa.out 1).trans rfl; have ta : w8.cell? ⟨ba, 2, none⟩ = some (.string a0_2) := (kc_ aa.out 2).trans rfl; have ua := kF_ aa.out 0; have va := kF_ aa.out 1; have wa := kF_ aa.out 2; have xa : w8.cell? ⟨da, 0, none⟩ = some (.bool false) := (kc_ ca.out 0).trans rfl; have ya : w8.cell? ⟨da, 1, none⟩ = some (.string (⟨#[]⟩ : ByteArray)) := (kc_ ca.out 1).trans rfl; have za : w8.cell? ⟨da, 2, none⟩ = some (.string (⟨#[]⟩ : ByteArray)) := (kc_ ca.out 2).trans rfl; have Aa := kF_ ca.out 0; have Ba := kF_ ca.out 1; have Ca := kF_ ca.out 2))
  refine bodyPost_ret (results_cell_row rfl _ _ da 26 #[.bool a0_0, .string a0_1, .string a0_2] (0, 0) _ rfl (by (with_reducible repeat (first | apply kN_ | apply kD_ | apply kA_)); refine kP_ (cs := #[.bool a0_0, .string a0_1, .string (⟨#[]⟩ : ByteArray)]) ?_ 2 _ rfl; (with_reducible repeat (first | apply kN_ | apply kD_ | apply kA_)); refine kP_ (cs := #[.bool a0_0, .string (⟨#[]⟩ : ByteArray), .string (⟨#[]⟩ : ByteArray)]) ?_ 1 _ rfl; (with_reducible repeat (first | apply kN_ | apply kD_ | apply kA_)); refine kP_ (cs := zC_) ?_ 0 _ rfl; (with_reducible repeat (first | apply kN_ | apply kD_ | apply kA_)); exact ca.out) Tryd.underlying26 rfl kr_) rfl ?_
  exact ⟨rE_, xB2_ HB ea fa⟩
 ·replace c3 := Bool.eq_false_iff.mpr c3
  subst c3
  have H1 : (some (false, (⟨#[]⟩ : ByteArray), (⟨#[]⟩ : ByteArray))) = some (r1, r2, r3) := by rw [if_neg (show ¬ (false = true) by decide)] at H; exact H
  clear H
  have H := H1
  clear H1
  simp only [Option.some.injEq, Prod.mk.injEq] at H
  obtain ⟨rfl, rfl, rfl⟩ := H
  go_enter Tryd.func43, Tryd.ntmps43
  go_wp2_with (first | ((with_reducible refine gD_ (N := 1) rfl ?_); refine bE_ ?hg (N := 1) ?hd (cs := #[.bool a0_0, .string a0_1, .string a0_2]) (t := 26) ?hr ?_; (case hd => rfl); (case hg => rfl); (case hr => first | (go_simp; done) | (go_simp; rfl)); intro ba hg w11 hbox hb; have n0_ := A0_.mk (bT_ (xB_ HB) hb); have n1_ := A0_.mk (hbox); have n2_ := A0_.mk ((by rw [hg]; exact (bZ_ (xB_ HB)) : w.heap.size ≤ ba)); have n3_ := A0_.mk ((by rw [hg]; exact (bZ_ (xB_ HB)) : w.heap.size ≤ ba)); clear HB; have HB := n0_; have aa := n1_; have ja := n2_; have ea := n3_; clear n0_ n1_ n2_ n3_; clear hb hbox hg) | ((with_reducible refine gD_ (N := 2) rfl ?_); refine bE_ ?hg (N := 2) ?hd (cs := zC_) (t := 26) ?hr ?_; (case hd => rfl); (case hg => rfl); (case hr => first | (go_simp; done) | (go_simp; rfl)); intro da hg w12 hbox hb; have n0_ := A0_.mk (kB_ (g := ba) (o := .cells #[.bool a0_0, .string a0_1, .string a0_2] 26 (0, 0)) (xK_ aa.out) hb); have n1_ := A0_.mk (bT_ (xB1_ HB ea) hb); have n2_ := A0_.mk (hbox); have n3_ := A0_.mk ((by rw [hg]; exact (bZ_ (xB1_ HB ea)) : w.heap.size ≤ da)); have n4_ := A0_.mk ((by rw [hg]; exact (bZ_ (xB1_ HB ea)) : w.heap.size ≤ da)); have n5_ := A0_.mk ((by rw [hg]; exact Nat.ne_of_lt (blk_lt (g := ba) (o := .cells #[.bool a0_0, .string a0_1, .string a0_2] 26 (0, 0)) (xK_ aa.out)) : ba ≠ da)); have n6_ := A0_.mk ((by rw [hg]; exact Nat.ne_of_gt (blk_lt (g := ba) (o := .cells #[.bool a0_0, .string a0_1, .string a0_2] 26 (0, 0)) (xK_ aa.out)) : da ≠ ba)); clear aa HB; have aa := n0_; have HB := n1_; have ca := n2_; have ka := n3_; have fa := n4_; have ga := n5_; have ha := n6_; clear n0_ n1_ n2_ n3_ n4_ n5_ n6_; clear hb hbox hg; have hnb13 := ga.out; have hnc13 := ha.out; have Da : w12.cell? ⟨ba, 0, none⟩ = some (.bool a0_0) := (kc_ aa.out 0).trans rfl; have Ea : w12.cell? ⟨ba, 1, none⟩ = some (.string a0_1) := (kc_ aa.out 1).trans rfl; have Fa : w12.cell? ⟨ba, 2, none⟩ = some (.string a0_2) := (kc_ aa.out 2).trans rfl; have Ga := kF_ aa.out 0; have Ha := kF_ aa.out 1; have Ia := kF_ aa.out 2) | ((with_reducible refine gC_ (f := 60) rfl ?_); refine gL_ (some 4) rfl rfl Tryd.func60 kr_ rfl #[.agg #[.bool a0_0, .string a0_1, .string a0_2]] rfl mp_ ?_; (with_reducible refine (q_Valid.calls k a0_0 a0_1 a0_2 false _ A2.out).mono ?_); rintro e w15 ⟨rfl, hb⟩; refine ⟨_, rfl, ?_⟩; have n0_ := A0_.mk (kB_ (g := ba) (o := .cells #[.bool a0_0, .string a0_1, .string a0_2] 26 (0, 0)) (xK_ aa.out) hb); have n1_ := A0_.mk (kB_ (g := da) (o := .cells zC_ 26 (0, 0)) (xK_ ca.out) hb); have n2_ := A0_.mk (bT_ (xB2_ HB ea fa) hb); clear aa ca HB; have aa := n0_; have ca := n1_; have HB := n2_; clear n0_ n1_ n2_; (try clear hb); (try clear hb2); (try clear hk); (try clear hi); have Ja : w15.cell? ⟨da, 0, none⟩ = some (.bool false) := (kc_ ca.out 0).trans rfl; have Ka : w15.cell? ⟨da, 1, none⟩ = some (.string (⟨#[]⟩ : ByteArray)) := (kc_ ca.out 1).trans rfl; have La : w15.cell? ⟨da, 2, none⟩ = some (.string (⟨#[]⟩ : ByteArray)) := (kc_ ca.out 2).trans rfl; have Ma := kF_ ca.out 0; have Na := kF_ ca.out 1; have Oa := kF_ ca.out 2))
  refine bodyPost_ret (results_cell_row rfl _ _ da 26 zC_ (0, 0) _ rfl (by (with_reducible repeat (first | apply kN_ | apply kD_ | apply kA_)); refine kP_ (cs := zC_) ?_ 2 _ rfl; (with_reducible repeat (first | apply kN_ | apply kD_ | apply kA_)); refine kP_ (cs := zC_) ?_ 1 _ rfl; (with_reducible repeat (first | apply kN_ | apply kD_ | apply kA_)); refine kP_ (cs := zC_) ?_ 0 _ rfl; (with_reducible repeat (first | apply kN_ | apply kD_ | apply kA_)); exact ca.out) Tryd.underlying26 rfl kr_) rfl ?_
  exact ⟨rE_, xB2_ HB ea fa⟩
def q_den.f (a0_0 : Bool) (a0_1 : ByteArray) (a0_2 : ByteArray) : Option (ByteArray) := if a0_2.toList = ([] : List UInt8) then (some (⟨#[1]⟩ : ByteArray)) else (some a0_2)
theorem q_den.calls (a0_0 : Bool) (a0_1 : ByteArray) (a0_2 : ByteArray) (r : ByteArray) (w : World) (h : q_den.f a0_0 a0_1 a0_2 = some r) :
  Calls Tryd.prog 46 #[.agg #[.bool a0_0, .string a0_1, .string a0_2]] w fun e w' => e = .returned (.string r) ∧ Below w.heap.size w w' := by
 have hu26 := Tryd.underlying26
 have HB := A0_.mk (Below.refl w.heap.size w)
 have H := h
 unfold q_den.f at H
 clear h
 by_cases c2 : a0_2.toList = ([] : List UInt8)
 ·rw [if_pos c2] at H
  have da : (a0_2.toList == ([] : List UInt8)) = true := beq_iff_eq.mpr c2
  have ea : (a0_2.toList != ([] : List UInt8)) = false := bne_eq_false_iff_eq.mpr c2
  clear c2
  obtain rfl := Option.some.inj H
  go_enter Tryd.func46, Tryd.ntmps46
  go_wp2_with (first | ((with_reducible refine gD_ (N := 1) rfl ?_); refine bE_ ?hg (N := 1) ?hd (cs := #[.bool a0_0, .string a0_1, .string a0_2]) (t := 26) ?hr ?_; (case hd => rfl); (case hg => rfl); (case hr => first | (go_simp; done) | (go_simp; rfl)); intro ba hg w3 hbox hb; have n0_ := A0_.mk (bT_ (xB_ HB) hb); have n1_ := A0_.mk (hbox); have n2_ := A0_.mk ((by rw [hg]; exact (bZ_ (xB_ HB)) : w.heap.size ≤ ba)); have n3_ := A0_.mk ((by rw [hg]; exact (bZ_ (xB_ HB)) : w.heap.size ≤ ba)); clear HB; have HB := n0_; have aa := n1_; have fa := n2_; have ca := n3_; clear n0_ n1_ n2_ n3_; clear hb hbox hg; have ga : w3.cell? ⟨ba, 0, none⟩ = some (.bool a0_0) := (kc_ aa.out 0).trans rfl; have ha : w3.cell? ⟨ba, 1, none⟩ = some (.string a0_1) := (kc_ aa.out 1).trans rfl; have ia : w3.cell? ⟨ba, 2, none⟩ = some (.string a0_2) := (kc_ aa.out 2).trans rfl; have ja := kF_ aa.out 0; have ka := kF_ aa.out 1; have la := kF_ aa.out 2))
  go_ret
  exact ⟨rE_, xB1_ HB ca⟩
 ·rw [if_neg c2] at H
  have da : (a0_2.toList == ([] : List UInt8)) = false := beq_eq_false_iff_ne.mpr c2
  have ea : (a0_2.toList != ([] : List UInt8)) = true := bne_iff_ne.mpr c2
  obtain rfl := Option.some.inj H
  go_enter Tryd.func46, Tryd.ntmps46
  go_wp2_with (first | ((with_reducible refine gD_ (N := 1) rfl ?_); refine bE_ ?hg (N := 1) ?hd (cs := #[.bool a0_0, .string a0_1, .string a0_2]) (t := 26) ?hr ?_; (case hd => rfl); (case hg => rfl); (case hr => first | (go_simp; done) | (go_simp; rfl)); intro ba hg w5 hbox hb; have n0_ := A0_.mk (bT_ (xB_ HB) hb); have n1_ := A0_.mk (hbox); have n2_ := A0_.mk ((by rw [hg]; exact (bZ_ (xB_ HB)) : w.heap.size ≤ ba)); have n3_ := A0_.mk ((by rw [hg]; exact (bZ_ (xB_ HB)) : w.heap.size ≤ ba)); clear HB; have HB := n0_; have aa := n1_; have fa := n2_; have ca := n3_; clear n0_ n1_ n2_ n3_; clear hb hbox hg; have ma : w5.cell? ⟨ba, 0, none⟩ = some (.bool a0_0) := (kc_ aa.out 0).trans rfl; have na : w5.cell? ⟨ba, 1, none⟩ = some (.string a0_1) := (kc_ aa.out 1).trans rfl; have oa : w5.cell? ⟨ba, 2, none⟩ = some (.string a0_2) := (kc_ aa.out 2).trans rfl; have pa := kF_ aa.out 0; have qa := kF_ aa.out 1; have ra := kF_ aa.out 2))
  go_ret
  exact ⟨rE_, xB1_ HB ca⟩
def q_signOf.f (a0_0 : Bool) (a0_1 : ByteArray) (a0_2 : ByteArray) : Option (Int) := if a0_1.toList = ([] : List UInt8) then (some 0) else (if a0_0 = true then (some (-1)) else (some 1))
theorem q_signOf.calls (a0_0 : Bool) (a0_1 : ByteArray) (a0_2 : ByteArray) (r : Int) (w : World) (h : q_signOf.f a0_0 a0_1 a0_2 = some r) :
  Calls Tryd.prog 42 #[.agg #[.bool a0_0, .string a0_1, .string a0_2]] w fun e w' => e = .returned (.int .i64 r) ∧ Below w.heap.size w w' := by
 have hu26 := Tryd.underlying26
 have HB := A0_.mk (Below.refl w.heap.size w)
 have H := h
 unfold q_signOf.f at H
 clear h
 by_cases c2 : a0_1.toList = ([] : List UInt8)
 ·rw [if_pos c2] at H
  have ea : (a0_1.toList == ([] : List UInt8)) = true := beq_iff_eq.mpr c2
  have fa : (a0_1.toList != ([] : List UInt8)) = false := bne_eq_false_iff_eq.mpr c2
  clear c2
  obtain rfl := Option.some.inj H
  go_enter Tryd.func42, Tryd.ntmps42
  go_wp2_with (first | ((with_reducible refine gD_ (N := 1) rfl ?_); refine bE_ ?hg (N := 1) ?hd (cs := #[.bool a0_0, .string a0_1, .string a0_2]) (t := 26) ?hr ?_; (case hd => rfl); (case hg => rfl); (case hr => first | (go_simp; done) | (go_simp; rfl)); intro ba hg w3 hbox hb; have n0_ := A0_.mk (bT_ (xB_ HB) hb); have n1_ := A0_.mk (hbox); have n2_ := A0_.mk ((by rw [hg]; exact (bZ_ (xB_ HB)) : w.heap.size ≤ ba)); have n3_ := A0_.mk ((by rw [hg]; exact (bZ_ (xB_ HB)) : w.heap.size ≤ ba)); clear HB; have HB := n0_; have aa := n1_; have da := n2_; have ca := n3_; clear n0_ n1_ n2_ n3_; clear hb hbox hg; have ga : w3.cell? ⟨ba, 0, none⟩ = some (.bool a0_0) := (kc_ aa.out 0).trans rfl; have ha : w3.cell? ⟨ba, 1, none⟩ = some (.string a0_1) := (kc_ aa.out 1).trans rfl; have ia : w3.cell? ⟨ba, 2, none⟩ = some (.string a0_2) := (kc_ aa.out 2).trans rfl; have ja := kF_ aa.out 0; have ka := kF_ aa.out 1; have la := kF_ aa.out 2))
  go_ret
  exact ⟨rE_, xB1_ HB ca⟩
 ·rw [if_neg c2] at H
  have ea : (a0_1.toList == ([] : List UInt8)) = false := beq_eq_false_iff_ne.mpr c2
  have fa : (a0_1.toList != ([] : List UInt8)) = true := bne_iff_ne.mpr c2
  by_cases c5 : a0_0 = true
  ·subst c5
   have H1 : (some (-1)) = some r := by rw [if_pos rfl] at H; exact H
   clear H
   have H := H1
   clear H1
   obtain rfl := Option.some.inj H
   go_enter Tryd.func42, Tryd.ntmps42
   go_wp2_with (first | ((with_reducible refine gD_ (N := 1) rfl ?_); refine bE_ ?hg (N := 1) ?hd (cs := #[.bool true, .string a0_1, .string a0_2]) (t := 26) ?hr ?_; (case hd => rfl); (case hg => rfl); (case hr => first | (go_simp; done) | (go_simp; rfl)); intro ba hg w6 hbox hb; have n0_ := A0_.mk (bT_ (xB_ HB) hb); have n1_ := A0_.mk (hbox); have n2_ := A0_.mk ((by rw [hg]; exact (bZ_ (xB_ HB)) : w.heap.size ≤ ba)); have n3_ := A0_.mk ((by rw [hg]; exact (bZ_ (xB_ HB)) : w.heap.size ≤ ba)); clear HB; have HB := n0_; have aa := n1_; have da := n2_; have ca := n3_; clear n0_ n1_ n2_ n3_; clear hb hbox hg; have ma : w6.cell? ⟨ba, 0, none⟩ = some (.bool true) := (kc_ aa.out 0).trans rfl; have na : w6.cell? ⟨ba, 1, none⟩ = some (.string a0_1) := (kc_ aa.out 1).trans rfl; have oa : w6.cell? ⟨ba, 2, none⟩ = some (.string a0_2) := (kc_ aa.out 2).trans rfl; have pa := kF_ aa.out 0; have qa := kF_ aa.out 1; have ra := kF_ aa.out 2))
   go_ret
   exact ⟨rE_, xB1_ HB ca⟩
  ·replace c5 := Bool.eq_false_iff.mpr c5
   subst c5
   have H1 : (some 1) = some r := by rw [if_neg (show ¬ (false = true) by decide)] at H; exact H
   clear H
   have H := H1
   clear H1
   obtain rfl := Option.some.inj H
   go_enter Tryd.func42, Tryd.ntmps42
   go_wp2_with (first | ((with_reducible refine gD_ (N := 1) rfl ?_); refine bE_ ?hg (N := 1) ?hd (cs := #[.bool false, .string a0_1, .string a0_2]) (t := 26) ?hr ?_; (case hd => rfl); (case hg => rfl); (case hr => first | (go_simp; done) | (go_simp; rfl)); intro ba hg w8 hbox hb; have n0_ := A0_.mk (bT_ (xB_ HB) hb); have n1_ := A0_.mk (hbox); have n2_ := A0_.mk ((by rw [hg]; exact (bZ_ (xB_ HB)) : w.heap.size ≤ ba)); have n3_ := A0_.mk ((by rw [hg]; exact (bZ_ (xB_ HB)) : w.heap.size ≤ ba)); clear HB; have HB := n0_; have aa := n1_; have da := n2_; have ca := n3_; clear n0_ n1_ n2_ n3_; clear hb hbox hg; have sa : w8.cell? ⟨ba, 0, none⟩ = some (.bool false) := (kc_ aa.out 0).trans rfl; have ta : w8.cell? ⟨ba, 1, none⟩ = some (.string a0_1) := (kc_ aa.out 1).trans rfl; have ua : w8.cell? ⟨ba, 2, none⟩ = some (.string a0_2) := (kc_ aa.out 2).trans rfl; have va := kF_ aa.out 0; have wa := kF_ aa.out 1; have xa := kF_ aa.out 2))
   go_ret
   exact ⟨rE_, xB1_ HB ca⟩
def q_Compare.f (k : Nat) (a0_0 : Bool) (a0_1 : ByteArray) (a0_2 : ByteArray) (a1_0 : Bool) (a1_1 : ByteArray) (a1_2 : ByteArray) : Option (Int) := (q_clean.f k a0_0 a0_1 a0_2).bind fun bt401 => ((q_clean.f k a1_0 a1_1 a1_2).bind fun bt404 => ((q_signOf.f bt401.1 bt401.2.1 bt401.2.2).bind fun t407 => ((q_signOf.f bt404.1 bt404.2.1 bt404.2.2).bind fun t408 => (if t407 = t408 then ((q_den.f bt404.1 bt404.2.1 bt404.2.2).bind fun t409 => ((n_Multiply.f k bt401.2.1 t409).bind fun t410 => ((q_den.f bt401.1 bt401.2.1 bt401.2.2).bind fun t411 => ((n_Multiply.f k bt404.2.1 t411).bind fun t412 => ((n_Compare.f k t410 t412).bind fun t413 => (if bt401.1 = true then (none) else (some t413))))))) else (if t407 < t408 then (some (-1)) else (some 1))))))
theorem q_Compare.mono : ∀ a0 a1 a2 a3 a4 a5 k, LeO (q_Compare.f k a0 a1 a2 a3 a4 a5) (q_Compare.f (k + 1) a0 a1 a2 a3 a4 a5) := by
 intro a0 a1 a2 a3 a4 a5 k
 unfold q_Compare.f
 repeat' first
   | (with_reducible first | exact n_Compare.mono _ _ _ | exact n_Multiply.mono _ _ _ | exact q_clean.mono _ _ _ _ | exact LeO.refl _ | exact LeO.none _ | refine LeO.ite ?_ ?_ | refine LeO.bind ?_ (fun _ => ?_))
def q_Compare.T7 : Bool × List (List Nat × List Nat) := (true, [([], []), ([0], [0]), ([], []), ([2], [2]), ([1, 3, 3], [1, 3]), ([], []), ([5], [5]), ([], []), ([7, 4], [7]), ([6, 8, 8], [6, 8]), ([4, 9, 9], [4, 9]), ([10, 10, 0, 1, 2, 3, 4, 5, 6, 7, 8, 9, 10], [10])])
def q_Compare.B7 : List Nat := [0, 1, 0, 4, 15, 0, 32, 0, 159, 511, 1023, 2047]
theorem q_Compare.tab7 : rtab .any (opsOf Tryd.f20 7) = q_Compare.T7 := by kernel_rfl
theorem q_Compare.bits7 : waitsOk q_Compare.T7.2 q_Compare.B7 = true := by kernel_rfl
theorem q_Compare.calls (k : Nat) (a0_0 : Bool) (a0_1 : ByteArray) (a0_2 : ByteArray) (a1_0 : Bool) (a1_1 : ByteArray) (a1_2 : ByteArray) (r : Int) (w : World) (h : q_Compare.f k a0_0 a0_1 a0_2 a1_0 a1_1 a1_2 = some r) :
  Calls Tryd.prog 20 #[.agg #[.bool a0_0, .string a0_1, .string a0_2], .agg #[.bool a1_0, .string a1_1, .string a1_2]] w fun e w' => e = .returned (.int .i64 r) ∧ Below w.heap.size w w' := by
 have hu26 := Tryd.underlying26
 have HB := A0_.mk (Below.refl w.heap.size w)
 have H := h
 unfold q_Compare.f at H
 clear h
 obtain ⟨⟨ma, ea, ha⟩, A3, H⟩ := oB_ H
 (try dsimp only at H)
 obtain ⟨⟨fa, ga, ia⟩, A4, H⟩ := oB_ H
 (try dsimp only at H)
 obtain ⟨oa, A5, H⟩ := oB_ H
 (try dsimp only at H)
 obtain ⟨pa, A6, H⟩ := oB_ H
 (try dsimp only at H)
 by_cases c7 : oa = pa
 ·rw [if_pos c7] at H
  have xa : (oa == pa) = true := beq_iff_eq.mpr c7
  have ya : (oa != pa) = false := bne_eq_false_iff_eq.mpr c7
  clear c7
  obtain ⟨qa, A8, H⟩ := oB_ H
  (try dsimp only at H)
  obtain ⟨ra, A9, H⟩ := oB_ H
  (try dsimp only at H)
  obtain ⟨sa, A10, H⟩ := oB_ H
  (try dsimp only at H)
  obtain ⟨ta, A11, H⟩ := oB_ H
  (try dsimp only at H)
  obtain ⟨ua, A12, H⟩ := oB_ H
  (try dsimp only at H)
  by_cases c13 : ma = true
  ·subst c13
   have H1 : (none) = some r := by rw [if_pos rfl] at H; exact H
   clear H
   have H := H1
   clear H1
   exact absurd H (by simp)
  ·replace c13 := Bool.eq_false_iff.mpr c13
   subst c13
   have H1 : (some ua) = some r := by rw [if_neg (show ¬ (false = true) by decide)] at H; exact H
   clear H
   have H := H1
   clear H1
   obtain rfl := Option.some.inj H
   go_enter Tryd.func20, Tryd.ntmps20
   try go_wp2_with (first | ((with_reducible refine gD_ (N := 2) rfl ?_); refine bE_ ?hg (N := 2) ?hd (cs := #[.bool a0_0, .string a0_1, .string a0_2]) (t := 26) ?hr ?_; (case hd => rfl); (case hg => rfl); (case hr => first | (go_simp; done) | (go_simp; rfl)); intro ca hg w36 hbox hb; have n0_ := A0_.mk (bT_ (xB_ HB) hb); have n1_ := A0_.mk (hbox); have n2_ := A0_.mk ((by rw [hg]; exact (bZ_ (xB_ HB)) : w.heap.size ≤ ca)); have n3_ := A0_.mk ((by rw [hg]; exact (bZ_ (xB_ HB)) : w.heap.size ≤ ca)); clear HB; have HB := n0_; have aa := n1_; have va := n2_; have ja := n3_; clear n0_ n1_ n2_ n3_; clear hb hbox hg) | ((with_reducible refine gD_ (N := 3) rfl ?_); refine bE_ ?hg (N := 3) ?hd (cs := #[.bool a1_0, .string a1_1, .string a1_2]) (t := 26) ?hr ?_; (case hd => rfl); (case hg => rfl); (case hr => first | (go_simp; done) | (go_simp; rfl)); intro da hg w37 hbox hb; have n0_ := A0_.mk (kB_ (g := ca) (o := .cells #[.bool a0_0, .string a0_1, .string a0_2] 26 (0, 0)) (xK_ aa.out) hb); have n1_ := A0_.mk (bT_ (xB1_ HB ja) hb); have n2_ := A0_.mk (hbox); have n3_ := A0_.mk ((by rw [hg]; exact (bZ_ (xB1_ HB ja)) : w.heap.size ≤ da)); have n4_ := A0_.mk ((by rw [hg]; exact (bZ_ (xB1_ HB ja)) : w.heap.size ≤ da)); have n5_ := A0_.mk ((by rw [hg]; exact Nat.ne_of_lt (blk_lt (g := ca) (o := .cells #[.bool a0_0, .string a0_1, .string a0_2] 26 (0, 0)) (xK_ aa.out)) : ca ≠ da)); have n6_ := A0_.mk ((by rw [hg]; exact Nat.ne_of_gt (blk_lt (g := ca) (o := .cells #[.bool a0_0, .string a0_1, .string a0_2] 26 (0, 0)) (xK_ aa.out)) : da ≠ ca)); clear aa HB; have aa := n0_; have HB := n1_; have ba := n2_; have wa := n3_; have na := n4_; have ka := n5_; have la := n6_; clear n0_ n1_ n2_ n3_ n4_ n5_ n6_; clear hb hbox hg))
   have n0_ := A0_.mk (kD_ aa.out)
   have n1_ := A0_.mk (kD_ ba.out)
   have n2_ := A0_.mk (b1_ HB.out)
   clear aa
   clear ba
   clear HB
   have aa := n0_
   have ba := n1_
   have HB := n2_
   clear n0_ n1_ n2_
   refine start_ (n := 6) (S := fun w' => w'.cell? ⟨ca, 0, none⟩ = some (.bool a0_0) ∧ w'.cell? ⟨ca, 1, none⟩ = some (.string a0_1) ∧ w'.cell? ⟨ca, 2, none⟩ = some (.string a0_2) ∧ w'.cell? ⟨da, 0, none⟩ = some (.bool a1_0) ∧ w'.cell? ⟨da, 1, none⟩ = some (.string a1_1) ∧ w'.cell? ⟨da, 2, none⟩ = some (.string a1_2)) (ds := [4, 5]) #[false, false, false, false, false, false] kr_ rfl rfl ⟨(kc_ aa.out 0).trans rfl, (kc_ aa.out 1).trans rfl, (kc_ aa.out 2).trans rfl, (kc_ ba.out 0).trans rfl, (kc_ ba.out 1).trans rfl, (kc_ ba.out 2).trans rfl⟩ (fun hHeld => ?_)
   generalize w37.drew = w38 at aa ba HB hHeld ⊢
   refine take_ (i := 0) (N := some 8) (v := ?_) (a' := ?_) #[true, false, false, false, false, false] rfl rfl kr_ (fun _ _ _ h => h) (Or.inl ⟨by rfl, ?_⟩) hHeld ?_ ?_
   rotate_left
   ·rintro w' ⟨s0, s1, s2, s3, s4, s5⟩
    go_simp
    with_reducible rfl
   rotate_left
   ·simp only [Act.put, s1_, s2_, s3_, i6_, i3_]
    rfl
   refine take_ (i := 2) (N := some 10) (v := ?_) (a' := ?_) #[true, false, true, false, false, false] rfl rfl kr_ (fun _ _ _ h => h) (Or.inl ⟨by rfl, ?_⟩) hHeld ?_ ?_
   rotate_left
   ·rintro w' ⟨s0, s1, s2, s3, s4, s5⟩
    go_simp
    with_reducible rfl
   rotate_left
   ·simp only [Act.put, s1_, s2_, s3_, i6_, i3_]
    rfl
   refine one_ (i := 1) (N := some 9) #[true, true, true, false, false, false] rfl rfl kr_ (by decide) (fun K hK => ?_)
   refine goes_ Tryd.func43 kr_ rfl #[.agg #[.bool a0_0, .string a0_1, .string a0_2]] (by rfl) rfl rfl mp_ ?_
   with_reducible refine (q_clean.calls k a0_0 a0_1 a0_2 false ea ha _ A3.out).mono ?_
   rintro e w39 ⟨rfl, hb⟩
   refine ⟨_, rfl, ?_⟩
   have n0_ := A0_.mk (kB_ (g := ca) (o := .cells #[.bool a0_0, .string a0_1, .string a0_2] 26 (0, 0)) (xK_ aa.out) hb)
   have n1_ := A0_.mk (kB_ (g := da) (o := .cells #[.bool a1_0, .string a1_1, .string a1_2] 26 (0, 0)) (xK_ ba.out) hb)
   have n2_ := A0_.mk (bT_ (xB2_ HB ja na) hb)
   clear aa
   clear ba
   clear HB
   have aa := n0_
   have ba := n1_
   have HB := n2_
   clear n0_ n1_ n2_
   (try clear hb)
   (try clear hb2)
   (try clear hk)
   (try clear hi)
   refine hK.out _ _ ⟨(kc_ aa.out 0).trans rfl, (kc_ aa.out 1).trans rfl, (kc_ aa.out 2).trans rfl, (kc_ ba.out 0).trans rfl, (kc_ ba.out 1).trans rfl, (kc_ ba.out 2).trans rfl⟩ (fun hHeld => ?_)
   clear hK K
   refine norm_ (a' := ?_) ?_ ?_
   rotate_left
   ·show Act.put _ (some 9) _ = _
    simp only [Act.put, s1_, s2_, s3_, i6_, i3_]
    rfl
   refine one_ (i := 3) (N := some 11) #[true, true, true, true, false, false] rfl rfl kr_ (by decide) (fun K hK => ?_)
   refine goes_ Tryd.func43 kr_ rfl #[.agg #[.bool a1_0, .string a1_1, .string a1_2]] (by rfl) rfl rfl mp_ ?_
   with_reducible refine (q_clean.calls k a1_0 a1_1 a1_2 fa ga ia _ A4.out).mono ?_
   rintro e w40 ⟨rfl, hb⟩
   refine ⟨_, rfl, ?_⟩
   have n0_ := A0_.mk (kB_ (g := ca) (o := .cells #[.bool a0_0, .string a0_1, .string a0_2] 26 (0, 0)) (xK_ aa.out) hb)
   have n1_ := A0_.mk (kB_ (g := da) (o := .cells #[.bool a1_0, .string a1_1, .string a1_2] 26 (0, 0)) (xK_ ba.out) hb)
   have n2_ := A0_.mk (bT_ (xB2_ HB ja na) hb)
   clear aa
   clear ba
   clear HB
   have aa := n0_
   have ba := n1_
   have HB := n2_
   clear n0_ n1_ n2_
   (try clear hb)
   (try clear hb2)
   (try clear hk)
   (try clear hi)
   refine hK.out _ _ ⟨(kc_ aa.out 0).trans rfl, (kc_ aa.out 1).trans rfl, (kc_ aa.out 2).trans rfl, (kc_ ba.out 0).trans rfl, (kc_ ba.out 1).trans rfl, (kc_ ba.out 2).trans rfl⟩ (fun hHeld => ?_)
   clear hK K
   refine norm_ (a' := ?_) ?_ ?_
   rotate_left
   ·show Act.put _ (some 11) _ = _
    simp only [Act.put, s1_, s2_, s3_, i6_, i3_]
    rfl
   refine last_ (i := 4) (N := none) #[true, true, true, true, true, false] rfl rfl kr_ (by decide) (fun K hK => ?_)
   have Aa : w40.cell? ⟨ca, 0, none⟩ = some (.bool a0_0) := (kc_ aa.out 0).trans rfl
   have hfs41 := kF_ aa.out 0
   have hns41_1 := la.out
   have hms41_1 := ka.out
   have Ba : w40.cell? ⟨ca, 1, none⟩ = some (.string a0_1) := (kc_ aa.out 1).trans rfl
   have hfs42 := kF_ aa.out 1
   have hns42_1 := la.out
   have hms42_1 := ka.out
   have Ca : w40.cell? ⟨ca, 2, none⟩ = some (.string a0_2) := (kc_ aa.out 2).trans rfl
   have hfs43 := kF_ aa.out 2
   have hns43_1 := la.out
   have hms43_1 := ka.out
   refine skip_ (w1 := ?_) (by rfl) rfl ?_ ?_
   rotate_left
   ·go_simp
    rfl
   refine hK.out _ _ ?_
   clear hK K
   refine last_ (i := 5) (N := none) #[true, true, true, true, true, true] rfl rfl kr_ (by decide) (fun K hK => ?_)
   have Da : w40.cell? ⟨da, 0, none⟩ = some (.bool a1_0) := (kc_ ba.out 0).trans rfl
   have hfs44 := kF_ ba.out 0
   have hns44_0 := ka.out
   have hms44_0 := la.out
   have Ea : w40.cell? ⟨da, 1, none⟩ = some (.string a1_1) := (kc_ ba.out 1).trans rfl
   have hfs45 := kF_ ba.out 1
   have hns45_0 := ka.out
   have hms45_0 := la.out
   have Fa : w40.cell? ⟨da, 2, none⟩ = some (.string a1_2) := (kc_ ba.out 2).trans rfl
   have hfs46 := kF_ ba.out 2
   have hns46_0 := ka.out
   have hms46_0 := la.out
   refine skip_ (w1 := ?_) (by rfl) rfl ?_ ?_
   rotate_left
   ·go_simp
    rfl
   refine hK.out _ _ ?_
   clear hK K
   refine done_ kr_ ?_
   try go_wp2
   have n0_ : A0_ (((((((w40.setCell ⟨ca, 0, none⟩ (.bool false)).setCell ⟨ca, 1, none⟩ (.string ea)).setCell ⟨ca, 2, none⟩ (.string ha)).setCell ⟨da, 0, none⟩ (.bool fa)).setCell ⟨da, 1, none⟩ (.string ga)).setCell ⟨da, 2, none⟩ (.string ia)).heap[ca]? = some (.cells #[.bool false, .string ea, .string ha] 26 (0, 0))) := ⟨by (with_reducible repeat (first | apply kN_ | apply kD_ | apply kA_)); refine bf_ ?_ ka.out _; (with_reducible repeat (first | apply kN_ | apply kD_ | apply kA_)); refine bf_ ?_ ka.out _; (with_reducible repeat (first | apply kN_ | apply kD_ | apply kA_)); refine bf_ ?_ ka.out _; (with_reducible repeat (first | apply kN_ | apply kD_ | apply kA_)); refine kP_ (cs := #[.bool false, .string ea, .string a0_2]) ?_ 2 _ rfl; (with_reducible repeat (first | apply kN_ | apply kD_ | apply kA_)); refine kP_ (cs := #[.bool false, .string a0_1, .string a0_2]) ?_ 1 _ rfl; (with_reducible repeat (first | apply kN_ | apply kD_ | apply kA_)); refine kP_ (cs := #[.bool a0_0, .string a0_1, .string a0_2]) ?_ 0 _ rfl; (with_reducible repeat (first | apply kN_ | apply kD_ | apply kA_)); exact aa.out⟩
   have n1_ : A0_ (((((((w40.setCell ⟨ca, 0, none⟩ (.bool false)).setCell ⟨ca, 1, none⟩ (.string ea)).setCell ⟨ca, 2, none⟩ (.string ha)).setCell ⟨da, 0, none⟩ (.bool fa)).setCell ⟨da, 1, none⟩ (.string ga)).setCell ⟨da, 2, none⟩ (.string ia)).heap[da]? = some (.cells #[.bool fa, .string ga, .string ia] 26 (0, 0))) := ⟨by (with_reducible repeat (first | apply kN_ | apply kD_ | apply kA_)); refine kP_ (cs := #[.bool fa, .string ga, .string a1_2]) ?_ 2 _ rfl; (with_reducible repeat (first | apply kN_ | apply kD_ | apply kA_)); refine kP_ (cs := #[.bool fa, .string a1_1, .string a1_2]) ?_ 1 _ rfl; (with_reducible repeat (first | apply kN_ | apply kD_ | apply kA_)); refine kP_ (cs := #[.bool a1_0, .string a1_1, .string a1_2]) ?_ 0 _ rfl; (with_reducible repeat (first | apply kN_ | apply kD_ | apply kA_)); refine bf_ ?_ la.out _; (with_reducible repeat (first | apply kN_ | apply kD_ | apply kA_)); refine bf_ ?_ la.out _; (with_reducible repeat (first | apply kN_ | apply kD_ | apply kA_)); refine bf_ ?_ la.out _; (with_reducible repeat (first | apply kN_ | apply kD_ | apply kA_)); exact ba.out⟩
   have n2_ : A0_ (Below w.heap.size w ((((((w40.setCell ⟨ca, 0, none⟩ (.bool false)).setCell ⟨ca, 1, none⟩ (.string ea)).setCell ⟨ca, 2, none⟩ (.string ha)).setCell ⟨da, 0, none⟩ (.bool fa)).setCell ⟨da, 1, none⟩ (.string ga)).setCell ⟨da, 2, none⟩ (.string ia))) := ⟨xB2_ HB ja na⟩
   (try clear aa)
   (try clear ba)
   (try clear HB)
   generalize ((((((w40.setCell ⟨ca, 0, none⟩ (.bool false)).setCell ⟨ca, 1, none⟩ (.string ea)).setCell ⟨ca, 2, none⟩ (.string ha)).setCell ⟨da, 0, none⟩ (.bool fa)).setCell ⟨da, 1, none⟩ (.string ga)).setCell ⟨da, 2, none⟩ (.string ia)) = w47 at n0_ n1_ n2_ ⊢
   have aa := n0_
   have ba := n1_
   have HB := n2_
   clear n0_ n1_ n2_
   have n0_ := A0_.mk (kD_ aa.out)
   have n1_ := A0_.mk (kD_ ba.out)
   have n2_ := A0_.mk (b1_ HB.out)
   clear aa
   clear ba
   clear HB
   have aa := n0_
   have ba := n1_
   have HB := n2_
   clear n0_ n1_ n2_
   refine start_ (n := 6) (S := fun w' => w'.cell? ⟨ca, 0, none⟩ = some (.bool false) ∧ w'.cell? ⟨ca, 1, none⟩ = some (.string ea) ∧ w'.cell? ⟨ca, 2, none⟩ = some (.string ha) ∧ w'.cell? ⟨da, 0, none⟩ = some (.bool fa) ∧ w'.cell? ⟨da, 1, none⟩ = some (.string ga) ∧ w'.cell? ⟨da, 2, none⟩ = some (.string ia)) (ds := []) #[false, false, false, false, false, false] kr_ rfl rfl ⟨(kc_ aa.out 0).trans rfl, (kc_ aa.out 1).trans rfl, (kc_ aa.out 2).trans rfl, (kc_ ba.out 0).trans rfl, (kc_ ba.out 1).trans rfl, (kc_ ba.out 2).trans rfl⟩ (fun hHeld => ?_)
   generalize w47.drew = w48 at aa ba HB hHeld ⊢
   refine take_ (i := 0) (N := some 12) (v := ?_) (a' := ?_) #[true, false, false, false, false, false] rfl rfl kr_ (fun _ _ _ h => h) (Or.inl ⟨by rfl, ?_⟩) hHeld ?_ ?_
   rotate_left
   ·rintro w' ⟨s0, s1, s2, s3, s4, s5⟩
    go_simp
    with_reducible rfl
   rotate_left
   ·simp only [Act.put, s1_, s2_, s3_, i6_, i3_]
    rfl
   refine take_ (i := 2) (N := some 14) (v := ?_) (a' := ?_) #[true, false, true, false, false, false] rfl rfl kr_ (fun _ _ _ h => h) (Or.inl ⟨by rfl, ?_⟩) hHeld ?_ ?_
   rotate_left
   ·rintro w' ⟨s0, s1, s2, s3, s4, s5⟩
    go_simp
    with_reducible rfl
   rotate_left
   ·simp only [Act.put, s1_, s2_, s3_, i6_, i3_]
    rfl
   refine one_ (i := 1) (N := some 13) #[true, true, true, false, false, false] rfl rfl kr_ (by decide) (fun K hK => ?_)
   refine goes_ Tryd.func42 kr_ rfl #[.agg #[.bool false, .string ea, .string ha]] (by rfl) rfl rfl mp_ ?_
   with_reducible refine (q_signOf.calls false ea ha oa _ A5.out).mono ?_
   rintro e w49 ⟨rfl, hb⟩
   refine ⟨_, rfl, ?_⟩
   have n0_ := A0_.mk (kB_ (g := ca) (o := .cells #[.bool false, .string ea, .string ha] 26 (0, 0)) (xK_ aa.out) hb)
   have n1_ := A0_.mk (kB_ (g := da) (o := .cells #[.bool fa, .string ga, .string ia] 26 (0, 0)) (xK_ ba.out) hb)
   have n2_ := A0_.mk (bT_ (xB2_ HB ja na) hb)
   clear aa
   clear ba
   clear HB
   have aa := n0_
   have ba := n1_
   have HB := n2_
   clear n0_ n1_ n2_
   (try clear hb)
   (try clear hb2)
   (try clear hk)
   (try clear hi)
   refine hK.out _ _ ⟨(kc_ aa.out 0).trans rfl, (kc_ aa.out 1).trans rfl, (kc_ aa.out 2).trans rfl, (kc_ ba.out 0).trans rfl, (kc_ ba.out 1).trans rfl, (kc_ ba.out 2).trans rfl⟩ (fun hHeld => ?_)
   clear hK K
   refine norm_ (a' := ?_) ?_ ?_
   rotate_left
   ·show Act.put _ (some 13) _ = _
    simp only [Act.put, s1_, s2_, s3_, i6_, i3_]
    rfl
   refine one_ (i := 3) (N := some 15) #[true, true, true, true, false, false] rfl rfl kr_ (by decide) (fun K hK => ?_)
   refine goes_ Tryd.func42 kr_ rfl #[.agg #[.bool fa, .string ga, .string ia]] (by rfl) rfl rfl mp_ ?_
   with_reducible refine (q_signOf.calls fa ga ia pa _ A6.out).mono ?_
   rintro e w50 ⟨rfl, hb⟩
   refine ⟨_, rfl, ?_⟩
   have n0_ := A0_.mk (kB_ (g := ca) (o := .cells #[.bool false, .string ea, .string ha] 26 (0, 0)) (xK_ aa.out) hb)
   have n1_ := A0_.mk (kB_ (g := da) (o := .cells #[.bool fa, .string ga, .string ia] 26 (0, 0)) (xK_ ba.out) hb)
   have n2_ := A0_.mk (bT_ (xB2_ HB ja na) hb)
   clear aa
   clear ba
   clear HB
   have aa := n0_
   have ba := n1_
   have HB := n2_
   clear n0_ n1_ n2_
   (try clear hb)
   (try clear hb2)
   (try clear hk)
   (try clear hi)
   refine hK.out _ _ ⟨(kc_ aa.out 0).trans rfl, (kc_ aa.out 1).trans rfl, (kc_ aa.out 2).trans rfl, (kc_ ba.out 0).trans rfl, (kc_ ba.out 1).trans rfl, (kc_ ba.out 2).trans rfl⟩ (fun hHeld => ?_)
   clear hK K
   refine norm_ (a' := ?_) ?_ ?_
   rotate_left
   ·show Act.put _ (some 15) _ = _
    simp only [Act.put, s1_, s2_, s3_, i6_, i3_]
    rfl
   refine pu_ (i := 4) (N := some 5) (v := ?_) (a' := ?_) #[true, true, true, true, true, false] rfl rfl kr_ (fun _ _ _ h => h) (Or.inl ⟨by rfl, ?_⟩) ?_ ?_
   rotate_left
   ·intro w'
    go_simp
    with_reducible rfl
   rotate_left
   ·simp only [Act.put, s1_, s2_, s3_, i6_, i3_]
    rfl
   refine pu_ (i := 5) (N := some 6) (v := ?_) (a' := ?_) #[true, true, true, true, true, true] rfl rfl kr_ (fun _ _ _ h => h) (Or.inl ⟨by rfl, ?_⟩) ?_ ?_
   rotate_left
   ·intro w'
    go_simp
    with_reducible rfl
   rotate_left
   ·simp only [Act.put, s1_, s2_, s3_, i6_, i3_]
    rfl
   refine done_ kr_ ?_
   try go_wp2
   have n0_ := A0_.mk (kD_ aa.out)
   have n1_ := A0_.mk (kD_ ba.out)
   have n2_ := A0_.mk (b1_ HB.out)
   clear aa
   clear ba
   clear HB
   have aa := n0_
   have ba := n1_
   have HB := n2_
   clear n0_ n1_ n2_
   refine start_ (n := 12) (S := fun w' => w'.cell? ⟨ca, 0, none⟩ = some (.bool false) ∧ w'.cell? ⟨ca, 1, none⟩ = some (.string ea) ∧ w'.cell? ⟨ca, 2, none⟩ = some (.string ha) ∧ w'.cell? ⟨da, 0, none⟩ = some (.bool fa) ∧ w'.cell? ⟨da, 1, none⟩ = some (.string ga) ∧ w'.cell? ⟨da, 2, none⟩ = some (.string ia)) (ds := []) #[false, false, false, false, false, false, false, false, false, false, false, false] kr_ rfl rfl ⟨(kc_ aa.out 0).trans rfl, (kc_ aa.out 1).trans rfl, (kc_ aa.out 2).trans rfl, (kc_ ba.out 0).trans rfl, (kc_ ba.out 1).trans rfl, (kc_ ba.out 2).trans rfl⟩ (fun hHeld => ?_); refine with_tabW q_Compare.tab7 q_Compare.bits7 (fun HT_ HW_ => ?_)
   generalize w50.drew = w51 at aa ba HB hHeld ⊢
   refine pu_ (i := 0) (N := some 22) (v := ?_) (a' := ?_) #[true, false, false, false, false, false, false, false, false, false, false, false] rfl rfl (an_ HT_.out kr_) (fun _ _ _ h => h) (Or.inl ⟨by rfl, ?_⟩) ?_ ?_
   rotate_left
   ·intro w'
    go_simp
    with_reducible rfl
   rotate_left
   ·simp only [Act.put, s1_, s2_, s3_, i6_, i3_]
    rfl
   refine pu_ (i := 5) (N := some 27) (v := ?_) (a' := ?_) #[true, false, false, false, false, true, false, false, false, false, false, false] rfl rfl (an_ HT_.out kr_) (fun _ _ _ h => h) (Or.inl ⟨by rfl, ?_⟩) ?_ ?_
   rotate_left
   ·intro w'
    go_simp
    with_reducible rfl
   rotate_left
   ·simp only [Act.put, s1_, s2_, s3_, i6_, i3_]
    rfl
   refine take_ (i := 1) (N := some 23) (v := ?_) (a' := ?_) #[true, true, false, false, false, true, false, false, false, false, false, false] rfl rfl (tW_ HT_.out HW_.out kr_) (fun _ _ _ h => h) (Or.inl ⟨by rfl, ?_⟩) hHeld ?_ ?_
   rotate_left
   ·rintro w' ⟨s0, s1, s2, s3, s4, s5⟩
    go_simp
    with_reducible rfl
   rotate_left
   ·simp only [Act.put, s1_, s2_, s3_, i6_, i3_]
    rfl
   refine take_ (i := 2) (N := some 24) (v := ?_) (a' := ?_) #[true, true, true, false, false, true, false, false, false, false, false, false] rfl rfl (tW_ HT_.out HW_.out kr_) (fun _ _ _ h => h) (Or.inl ⟨by rfl, ?_⟩) hHeld ?_ ?_
   rotate_left
   ·rintro w' ⟨s0, s1, s2, s3, s4, s5⟩
    go_simp
    with_reducible rfl
   rotate_left
   ·simp only [Act.put, s1_, s2_, s3_, i6_, i3_]
    rfl
   refine take_ (i := 6) (N := some 28) (v := ?_) (a' := ?_) #[true, true, true, false, false, true, true, false, false, false, false, false] rfl rfl (tW_ HT_.out HW_.out kr_) (fun _ _ _ h => h) (Or.inl ⟨by rfl, ?_⟩) hHeld ?_ ?_
   rotate_left
   ·rintro w' ⟨s0, s1, s2, s3, s4, s5⟩
    go_simp
    with_reducible rfl
   rotate_left
   ·simp only [Act.put, s1_, s2_, s3_, i6_, i3_]
    rfl
   refine take_ (i := 7) (N := some 29) (v := ?_) (a' := ?_) #[true, true, true, false, false, true, true, true, false, false, false, false] rfl rfl (tW_ HT_.out HW_.out kr_) (fun _ _ _ h => h) (Or.inl ⟨by rfl, ?_⟩) hHeld ?_ ?_
   rotate_left
   ·rintro w' ⟨s0, s1, s2, s3, s4, s5⟩
    go_simp
    with_reducible rfl
   rotate_left
   ·simp only [Act.put, s1_, s2_, s3_, i6_, i3_]
    rfl
   refine one_ (i := 3) (N := some 25) #[true, true, true, true, false, true, true, true, false, false, false, false] rfl rfl (one_of HT_.out kr_) (by decide) (fun K hK => ?_)
   refine goes_ Tryd.func46 kr_ rfl #[.agg #[.bool fa, .string ga, .string ia]] (by rfl) rfl rfl mp_ ?_
   with_reducible refine (q_den.calls fa ga ia qa _ A8.out).mono ?_
   rintro e w52 ⟨rfl, hb⟩
   refine ⟨_, rfl, ?_⟩
   have n0_ := A0_.mk (kB_ (g := ca) (o := .cells #[.bool false, .string ea, .string ha] 26 (0, 0)) (xK_ aa.out) hb)
   have n1_ := A0_.mk (kB_ (g := da) (o := .cells #[.bool fa, .string ga, .string ia] 26 (0, 0)) (xK_ ba.out) hb)
   have n2_ := A0_.mk (bT_ (xB2_ HB ja na) hb)
   clear aa
   clear ba
   clear HB
   have aa := n0_
   have ba := n1_
   have HB := n2_
   clear n0_ n1_ n2_
   (try clear hb)
   (try clear hb2)
   (try clear hk)
   (try clear hi)
   refine hK.out _ _ ⟨(kc_ aa.out 0).trans rfl, (kc_ aa.out 1).trans rfl, (kc_ aa.out 2).trans rfl, (kc_ ba.out 0).trans rfl, (kc_ ba.out 1).trans rfl, (kc_ ba.out 2).trans rfl⟩ (fun hHeld => ?_)
   clear hK K
   refine norm_ (a' := ?_) ?_ ?_
   rotate_left
   ·show Act.put _ (some 25) _ = _
    simp only [Act.put, s1_, s2_, s3_, i6_, i3_]
    rfl
   refine one_ (i := 4) (N := some 26) #[true, true, true, true, true, true, true, true, false, false, false, false] rfl rfl (one_of HT_.out kr_) (by decide) (fun K hK => ?_)
   refine goes_ Tryd.func45 kr_ rfl #[.string ea, .string qa] (by rfl) rfl rfl mp_ ?_
   with_reducible refine (n_Multiply.calls k ea qa ra _ A9.out).mono ?_
   rintro e w53 ⟨rfl, hb⟩
   refine ⟨_, rfl, ?_⟩
   have n0_ := A0_.mk (kB_ (g := ca) (o := .cells #[.bool false, .string ea, .string ha] 26 (0, 0)) (xK_ aa.out) hb)
   have n1_ := A0_.mk (kB_ (g := da) (o := .cells #[.bool fa, .string ga, .string ia] 26 (0, 0)) (xK_ ba.out) hb)
   have n2_ := A0_.mk (bT_ (xB2_ HB ja na) hb)
   clear aa
   clear ba
   clear HB
   have aa := n0_
   have ba := n1_
   have HB := n2_
   clear n0_ n1_ n2_
   (try clear hb)
   (try clear hb2)
   (try clear hk)
   (try clear hi)
   refine hK.out _ _ ⟨(kc_ aa.out 0).trans rfl, (kc_ aa.out 1).trans rfl, (kc_ aa.out 2).trans rfl, (kc_ ba.out 0).trans rfl, (kc_ ba.out 1).trans rfl, (kc_ ba.out 2).trans rfl⟩ (fun hHeld => ?_)
   clear hK K
   refine norm_ (a' := ?_) ?_ ?_
   rotate_left
   ·show Act.put _ (some 26) _ = _
    simp only [Act.put, s1_, s2_, s3_, i6_, i3_]
    rfl
   refine one_ (i := 8) (N := some 30) #[true, true, true, true, true, true, true, true, true, false, false, false] rfl rfl (one_of HT_.out kr_) (by decide) (fun K hK => ?_)
   refine goes_ Tryd.func46 kr_ rfl #[.agg #[.bool false, .string ea, .string ha]] (by rfl) rfl rfl mp_ ?_
   with_reducible refine (q_den.calls false ea ha sa _ A10.out).mono ?_
   rintro e w54 ⟨rfl, hb⟩
   refine ⟨_, rfl, ?_⟩
   have n0_ := A0_.mk (kB_ (g := ca) (o := .cells #[.bool false, .string ea, .string ha] 26 (0, 0)) (xK_ aa.out) hb)
   have n1_ := A0_.mk (kB_ (g := da) (o := .cells #[.bool fa, .string ga, .string ia] 26 (0, 0)) (xK_ ba.out) hb)
   have n2_ := A0_.mk (bT_ (xB2_ HB ja na) hb)
   clear aa
   clear ba
   clear HB
   have aa := n0_
   have ba := n1_
   have HB := n2_
   clear n0_ n1_ n2_
   (try clear hb)
   (try clear hb2)
   (try clear hk)
   (try clear hi)
   refine hK.out _ _ ⟨(kc_ aa.out 0).trans rfl, (kc_ aa.out 1).trans rfl, (kc_ aa.out 2).trans rfl, (kc_ ba.out 0).trans rfl, (kc_ ba.out 1).trans rfl, (kc_ ba.out 2).trans rfl⟩ (fun hHeld => ?_)
   clear hK K
   refine norm_ (a' := ?_) ?_ ?_
   rotate_left
   ·show Act.put _ (some 30) _ = _
    simp only [Act.put, s1_, s2_, s3_, i6_, i3_]
    rfl
   refine one_ (i := 9) (N := some 31) #[true, true, true, true, true, true, true, true, true, true, false, false] rfl rfl (one_of HT_.out kr_) (by decide) (fun K hK => ?_)
   refine goes_ Tryd.func45 kr_ rfl #[.string ga, .string sa] (by rfl) rfl rfl mp_ ?_
   with_reducible refine (n_Multiply.calls k ga sa ta _ A11.out).mono ?_
   rintro e w55 ⟨rfl, hb⟩
   refine ⟨_, rfl, ?_⟩
   have n0_ := A0_.mk (kB_ (g := ca) (o := .cells #[.bool false, .string ea, .string ha] 26 (0, 0)) (xK_ aa.out) hb)
   have n1_ := A0_.mk (kB_ (g := da) (o := .cells #[.bool fa, .string ga, .string ia] 26 (0, 0)) (xK_ ba.out) hb)
   have n2_ := A0_.mk (bT_ (xB2_ HB ja na) hb)
   clear aa
   clear ba
   clear HB
   have aa := n0_
   have ba := n1_
   have HB := n2_
   clear n0_ n1_ n2_
   (try clear hb)
   (try clear hb2)
   (try clear hk)
   (try clear hi)
   refine hK.out _ _ ⟨(kc_ aa.out 0).trans rfl, (kc_ aa.out 1).trans rfl, (kc_ aa.out 2).trans rfl, (kc_ ba.out 0).trans rfl, (kc_ ba.out 1).trans rfl, (kc_ ba.out 2).trans rfl⟩ (fun hHeld => ?_)
   clear hK K
   refine norm_ (a' := ?_) ?_ ?_
   rotate_left
   ·show Act.put _ (some 31) _ = _
    simp only [Act.put, s1_, s2_, s3_, i6_, i3_]
    rfl
   refine one_ (i := 10) (N := some 32) #[true, true, true, true, true, true, true, true, true, true, true, false] rfl rfl (one_of HT_.out kr_) (by decide) (fun K hK => ?_)
   refine goes_ Tryd.func44 kr_ rfl #[.string ra, .string ta] (by rfl) rfl rfl mp_ ?_
   with_reducible refine (n_Compare.calls k ra ta ua _ A12.out).mono ?_
   rintro e w' ⟨rfl, ⟨nd, rfl⟩⟩
   refine ⟨_, rfl, ?_⟩
   refine hK.out _ _ ⟨(kc_ aa.out 0).trans rfl, (kc_ aa.out 1).trans rfl, (kc_ aa.out 2).trans rfl, (kc_ ba.out 0).trans rfl, (kc_ ba.out 1).trans rfl, (kc_ ba.out 2).trans rfl⟩ (fun hHeld => ?_)
   clear hK K
   refine norm_ (a' := ?_) ?_ ?_
   rotate_left
   ·show Act.put _ (some 32) _ = _
    simp only [Act.put, s1_, s2_, s3_, i6_, i3_]
    rfl
   refine pu_ (i := 11) (N := some 7) (v := ?_) (a' := ?_) #[true, true, true, true, true, true, true, true, true, true, true, true] rfl rfl (an_ HT_.out kr_) (fun _ _ _ h => h) (Or.inl ⟨by rfl, ?_⟩) ?_ ?_
   rotate_left
   ·intro w'
    go_simp
    with_reducible rfl
   rotate_left
   ·simp only [Act.put, s1_, s2_, s3_, i6_, i3_]
    rfl
   refine done_ (done_of HT_.out kr_) ?_
   have hnb56 := ka.out
   have hnc56 := la.out
   have Ga : w55.cell? ⟨ca, 0, none⟩ = some (.bool false) := (kc_ aa.out 0).trans rfl
   have Ha : w55.cell? ⟨ca, 1, none⟩ = some (.string ea) := (kc_ aa.out 1).trans rfl
   have Ia : w55.cell? ⟨ca, 2, none⟩ = some (.string ha) := (kc_ aa.out 2).trans rfl
   have Ja := kF_ aa.out 0
   have Ka := kF_ aa.out 1
   have La := kF_ aa.out 2
   try go_wp2
   go_ret
   exact ⟨rE_, xB2_ HB ja na⟩
 ·rw [if_neg c7] at H
  have xa : (oa == pa) = false := beq_eq_false_iff_ne.mpr c7
  have ya : (oa != pa) = true := bne_iff_ne.mpr c7
  by_cases c58 : oa < pa
  ·rw [if_pos c58] at H
   have za : decide (oa < pa) = true := decide_eq_true c58
   clear c58
   obtain rfl := Option.some.inj H
   go_enter Tryd.func20, Tryd.ntmps20
   try go_wp2_with (first | ((with_reducible refine gD_ (N := 2) rfl ?_); refine bE_ ?hg (N := 2) ?hd (cs := #[.bool a0_0, .string a0_1, .string a0_2]) (t := 26) ?hr ?_; (case hd => rfl); (case hg => rfl); (case hr => first | (go_simp; done) | (go_simp; rfl)); intro ca hg w59 hbox hb; have n0_ := A0_.mk (bT_ (xB_ HB) hb); have n1_ := A0_.mk (hbox); have n2_ := A0_.mk ((by rw [hg]; exact (bZ_ (xB_ HB)) : w.heap.size ≤ ca)); have n3_ := A0_.mk ((by rw [hg]; exact (bZ_ (xB_ HB)) : w.heap.size ≤ ca)); clear HB; have HB := n0_; have aa := n1_; have va := n2_; have ja := n3_; clear n0_ n1_ n2_ n3_; clear hb hbox hg) | ((with_reducible refine gD_ (N := 3) rfl ?_); refine bE_ ?hg (N := 3) ?hd (cs := #[.bool a1_0, .string a1_1, .string a1_2]) (t := 26) ?hr ?_; (case hd => rfl); (case hg => rfl); (case hr => first | (go_simp; done) | (go_simp; rfl)); intro da hg w60 hbox hb; have n0_ := A0_.mk (kB_ (g := ca) (o := .cells #[.bool a0_0, .string a0_1, .string a0_2] 26 (0, 0)) (xK_ aa.out) hb); have n1_ := A0_.mk (bT_ (xB1_ HB ja) hb); have n2_ := A0_.mk (hbox); have n3_ := A0_.mk ((by rw [hg]; exact (bZ_ (xB1_ HB ja)) : w.heap.size ≤ da)); have n4_ := A0_.mk ((by rw [hg]; exact (bZ_ (xB1_ HB ja)) : w.heap.size ≤ da)); have n5_ := A0_.mk ((by rw [hg]; exact Nat.ne_of_lt (blk_lt (g := ca) (o := .cells #[.bool a0_0, .string a0_1, .string a0_2] 26 (0, 0)) (xK_ aa.out)) : ca ≠ da)); have n6_ := A0_.mk ((by rw [hg]; exact Nat.ne_of_gt (blk_lt (g := ca) (o := .cells #[.bool a0_0, .string a0_1, .string a0_2] 26 (0, 0)) (xK_ aa.out)) : da ≠ ca)); clear aa HB; have aa := n0_; have HB := n1_; have ba := n2_; have wa := n3_; have na := n4_; have ka := n5_; have la := n6_; clear n0_ n1_ n2_ n3_ n4_ n5_ n6_; clear hb hbox hg))
   have n0_ := A0_.mk (kD_ aa.out)
   have n1_ := A0_.mk (kD_ ba.out)
   have n2_ := A0_.mk (b1_ HB.out)
   clear aa
   clear ba
   clear HB
   have aa := n0_
   have ba := n1_
   have HB := n2_
   clear n0_ n1_ n2_
   refine start_ (n := 6) (S := fun w' => w'.cell? ⟨ca, 0, none⟩ = some (.bool a0_0) ∧ w'.cell? ⟨ca, 1, none⟩ = some (.string a0_1) ∧ w'.cell? ⟨ca, 2, none⟩ = some (.string a0_2) ∧ w'.cell? ⟨da, 0, none⟩ = some (.bool a1_0) ∧ w'.cell? ⟨da, 1, none⟩ = some (.string a1_1) ∧ w'.cell? ⟨da, 2, none⟩ = some (.string a1_2)) (ds := [4, 5]) #[false, false, false, false, false, false] kr_ rfl rfl ⟨(kc_ aa.out 0).trans rfl, (kc_ aa.out 1).trans rfl, (kc_ aa.out 2).trans rfl, (kc_ ba.out 0).trans rfl, (kc_ ba.out 1).trans rfl, (kc_ ba.out 2).trans rfl⟩ (fun hHeld => ?_)
   generalize w60.drew = w61 at aa ba HB hHeld ⊢
   refine take_ (i := 0) (N := some 8) (v := ?_) (a' := ?_) #[true, false, false, false, false, false] rfl rfl kr_ (fun _ _ _ h => h) (Or.inl ⟨by rfl, ?_⟩) hHeld ?_ ?_
   rotate_left
   ·rintro w' ⟨s0, s1, s2, s3, s4, s5⟩
    go_simp
    with_reducible rfl
   rotate_left
   ·simp only [Act.put, s1_, s2_, s3_, i6_, i3_]
    rfl
   refine take_ (i := 2) (N := some 10) (v := ?_) (a' := ?_) #[true, false, true, false, false, false] rfl rfl kr_ (fun _ _ _ h => h) (Or.inl ⟨by rfl, ?_⟩) hHeld ?_ ?_
   rotate_left
   ·rintro w' ⟨s0, s1, s2, s3, s4, s5⟩
    go_simp
    with_reducible rfl
   rotate_left
   ·simp only [Act.put, s1_, s2_, s3_, i6_, i3_]
    rfl
   refine one_ (i := 1) (N := some 9) #[true, true, true, false, false, false] rfl rfl kr_ (by decide) (fun K hK => ?_)
   refine goes_ Tryd.func43 kr_ rfl #[.agg #[.bool a0_0, .string a0_1, .string a0_2]] (by rfl) rfl rfl mp_ ?_
   with_reducible refine (q_clean.calls k a0_0 a0_1 a0_2 ma ea ha _ A3.out).mono ?_
   rintro e w62 ⟨rfl, hb⟩
   refine ⟨_, rfl, ?_⟩
   have n0_ := A0_.mk (kB_ (g := ca) (o := .cells #[.bool a0_0, .string a0_1, .string a0_2] 26 (0, 0)) (xK_ aa.out) hb)
   have n1_ := A0_.mk (kB_ (g := da) (o := .cells #[.bool a1_0, .string a1_1, .string a1_2] 26 (0, 0)) (xK_ ba.out) hb)
   have n2_ := A0_.mk (bT_ (xB2_ HB ja na) hb)
   clear aa
   clear ba
   clear HB
   have aa := n0_
   have ba := n1_
   have HB := n2_
   clear n0_ n1_ n2_
   (try clear hb)
   (try clear hb2)
   (try clear hk)
   (try clear hi)
   refine hK.out _ _ ⟨(kc_ aa.out 0).trans rfl, (kc_ aa.out 1).trans rfl, (kc_ aa.out 2).trans rfl, (kc_ ba.out 0).trans rfl, (kc_ ba.out 1).trans rfl, (kc_ ba.out 2).trans rfl⟩ (fun hHeld => ?_)
   clear hK K
   refine norm_ (a' := ?_) ?_ ?_
   rotate_left
   ·show Act.put _ (some 9) _ = _
    simp only [Act.put, s1_, s2_, s3_, i6_, i3_]
    rfl
   refine one_ (i := 3) (N := some 11) #[true, true, true, true, false, false] rfl rfl kr_ (by decide) (fun K hK => ?_)
   refine goes_ Tryd.func43 kr_ rfl #[.agg #[.bool a1_0, .string a1_1, .string a1_2]] (by rfl) rfl rfl mp_ ?_
   with_reducible refine (q_clean.calls k a1_0 a1_1 a1_2 fa ga ia _ A4.out).mono ?_
   rintro e w63 ⟨rfl, hb⟩
   refine ⟨_, rfl, ?_⟩
   have n0_ := A0_.mk (kB_ (g := ca) (o := .cells #[.bool a0_0, .string a0_1, .string a0_2] 26 (0, 0)) (xK_ aa.out) hb)
   have n1_ := A0_.mk (kB_ (g := da) (o := .cells #[.bool a1_0, .string a1_1, .string a1_2] 26 (0, 0)) (xK_ ba.out) hb)
   have n2_ := A0_.mk (bT_ (xB2_ HB ja na) hb)
   clear aa
   clear ba
   clear HB
   have aa := n0_
   have ba := n1_
   have HB := n2_
   clear n0_ n1_ n2_
   (try clear hb)
   (try clear hb2)
   (try clear hk)
   (try clear hi)
   refine hK.out _ _ ⟨(kc_ aa.out 0).trans rfl, (kc_ aa.out 1).trans rfl, (kc_ aa.out 2).trans rfl, (kc_ ba.out 0).trans rfl, (kc_ ba.out 1).trans rfl, (kc_ ba.out 2).trans rfl⟩ (fun hHeld => ?_)
   clear hK K
   refine norm_ (a' := ?_) ?_ ?_
   rotate_left
   ·show Act.put _ (some 11) _ = _
    simp only [Act.put, s1_, s2_, s3_, i6_, i3_]
    rfl
   refine last_ (i := 4) (N := none) #[true, true, true, true, true, false] rfl rfl kr_ (by decide) (fun K hK => ?_)
   have Ma : w63.cell? ⟨ca, 0, none⟩ = some (.bool a0_0) := (kc_ aa.out 0).trans rfl
   have hfs64 := kF_ aa.out 0
   have hns64_1 := la.out
   have hms64_1 := ka.out
   have Na : w63.cell? ⟨ca, 1, none⟩ = some (.string a0_1) := (kc_ aa.out 1).trans rfl
   have hfs65 := kF_ aa.out 1
   have hns65_1 := la.out
   have hms65_1 := ka.out
   have Oa : w63.cell? ⟨ca, 2, none⟩ = some (.string a0_2) := (kc_ aa.out 2).trans rfl
   have hfs66 := kF_ aa.out 2
   have hns66_1 := la.out
   have hms66_1 := ka.out
   refine skip_ (w1 := ?_) (by rfl) rfl ?_ ?_
   rotate_left
   ·go_simp
    rfl
   refine hK.out _ _ ?_
   clear hK K
   refine last_ (i := 5) (N := none) #[true, true, true, true, true, true] rfl rfl kr_ (by decide) (fun K hK => ?_)
   have Pa : w63.cell? ⟨da, 0, none⟩ = some (.bool a1_0) := (kc_ ba.out 0).trans rfl
   have hfs67 := kF_ ba.out 0
   have hns67_0 := ka.out
   have hms67_0 := la.out
   have Qa : w63.cell? ⟨da, 1, none⟩ = some (.string a1_1) := (kc_ ba.out 1).trans rfl
   have hfs68 := kF_ ba.out 1
   have hns68_0 := ka.out
   have hms68_0 := la.out
   have Ra : w63.cell? ⟨da, 2, none⟩ = some (.string a1_2) := (kc_ ba.out 2).trans rfl
   have hfs69 := kF_ ba.out 2
   have hns69_0 := ka.out
   have hms69_0 := la.out
   refine skip_ (w1 := ?_) (by rfl) rfl ?_ ?_
   rotate_left
   ·go_simp
    rfl
   refine hK.out _ _ ?_
   clear hK K
   refine done_ kr_ ?_
   try go_wp2
   have n0_ : A0_ (((((((w63.setCell ⟨ca, 0, none⟩ (.bool ma)).setCell ⟨ca, 1, none⟩ (.string ea)).setCell ⟨ca, 2, none⟩ (.string ha)).setCell ⟨da, 0, none⟩ (.bool fa)).setCell ⟨da, 1, none⟩ (.string ga)).setCell ⟨da, 2, none⟩ (.string ia)).heap[ca]? = some (.cells #[.bool ma, .string ea, .string ha] 26 (0, 0))) := ⟨by (with_reducible repeat (first | apply kN_ | apply kD_ | apply kA_)); refine bf_ ?_ ka.out _; (with_reducible repeat (first | apply kN_ | apply kD_ | apply kA_)); refine bf_ ?_ ka.out _; (with_reducible repeat (first | apply kN_ | apply kD_ | apply kA_)); refine bf_ ?_ ka.out _; (with_reducible repeat (first | apply kN_ | apply kD_ | apply kA_)); refine kP_ (cs := #[.bool ma, .string ea, .string a0_2]) ?_ 2 _ rfl; (with_reducible repeat (first | apply kN_ | apply kD_ | apply kA_)); refine kP_ (cs := #[.bool ma, .string a0_1, .string a0_2]) ?_ 1 _ rfl; (with_reducible repeat (first | apply kN_ | apply kD_ | apply kA_)); refine kP_ (cs := #[.bool a0_0, .string a0_1, .string a0_2]) ?_ 0 _ rfl; (with_reducible repeat (first | apply kN_ | apply kD_ | apply kA_)); exact aa.out⟩
   have n1_ : A0_ (((((((w63.setCell ⟨ca, 0, none⟩ (.bool ma)).setCell ⟨ca, 1, none⟩ (.string ea)).setCell ⟨ca, 2, none⟩ (.string ha)).setCell ⟨da, 0, none⟩ (.bool fa)).setCell ⟨da, 1, none⟩ (.string ga)).setCell ⟨da, 2, none⟩ (.string ia)).heap[da]? = some (.cells #[.bool fa, .string ga, .string ia] 26 (0, 0))) := ⟨by (with_reducible repeat (first | apply kN_ | apply kD_ | apply kA_)); refine kP_ (cs := #[.bool fa, .string ga, .string a1_2]) ?_ 2 _ rfl; (with_reducible repeat (first | apply kN_ | apply kD_ | apply kA_)); refine kP_ (cs := #[.bool fa, .string a1_1, .string a1_2]) ?_ 1 _ rfl; (with_reducible repeat (first | apply kN_ | apply kD_ | apply kA_)); refine kP_ (cs := #[.bool a1_0, .string a1_1, .string a1_2]) ?_ 0 _ rfl; (with_reducible repeat (first | apply kN_ | apply kD_ | apply kA_)); refine bf_ ?_ la.out _; (with_reducible repeat (first | apply kN_ | apply kD_ | apply kA_)); refine bf_ ?_ la.out _; (with_reducible repeat (first | apply kN_ | apply kD_ | apply kA_)); refine bf_ ?_ la.out _; (with_reducible repeat (first | apply kN_ | apply kD_ | apply kA_)); exact ba.out⟩
   have n2_ : A0_ (Below w.heap.size w ((((((w63.setCell ⟨ca, 0, none⟩ (.bool ma)).setCell ⟨ca, 1, none⟩ (.string ea)).setCell ⟨ca, 2, none⟩ (.string ha)).setCell ⟨da, 0, none⟩ (.bool fa)).setCell ⟨da, 1, none⟩ (.string ga)).setCell ⟨da, 2, none⟩ (.string ia))) := ⟨xB2_ HB ja na⟩
   (try clear aa)
   (try clear ba)
   (try clear HB)
   generalize ((((((w63.setCell ⟨ca, 0, none⟩ (.bool ma)).setCell ⟨ca, 1, none⟩ (.string ea)).setCell ⟨ca, 2, none⟩ (.string ha)).setCell ⟨da, 0, none⟩ (.bool fa)).setCell ⟨da, 1, none⟩ (.string ga)).setCell ⟨da, 2, none⟩ (.string ia)) = w70 at n0_ n1_ n2_ ⊢
   have aa := n0_
   have ba := n1_
   have HB := n2_
   clear n0_ n1_ n2_
   have n0_ := A0_.mk (kD_ aa.out)
   have n1_ := A0_.mk (kD_ ba.out)
   have n2_ := A0_.mk (b1_ HB.out)
   clear aa
   clear ba
   clear HB
   have aa := n0_
   have ba := n1_
   have HB := n2_
   clear n0_ n1_ n2_
   refine start_ (n := 6) (S := fun w' => w'.cell? ⟨ca, 0, none⟩ = some (.bool ma) ∧ w'.cell? ⟨ca, 1, none⟩ = some (.string ea) ∧ w'.cell? ⟨ca, 2, none⟩ = some (.string ha) ∧ w'.cell? ⟨da, 0, none⟩ = some (.bool fa) ∧ w'.cell? ⟨da, 1, none⟩ = some (.string ga) ∧ w'.cell? ⟨da, 2, none⟩ = some (.string ia)) (ds := []) #[false, false, false, false, false, false] kr_ rfl rfl ⟨(kc_ aa.out 0).trans rfl, (kc_ aa.out 1).trans rfl, (kc_ aa.out 2).trans rfl, (kc_ ba.out 0).trans rfl, (kc_ ba.out 1).trans rfl, (kc_ ba.out 2).trans rfl⟩ (fun hHeld => ?_)
   generalize w70.drew = w71 at aa ba HB hHeld ⊢
   refine take_ (i := 0) (N := some 12) (v := ?_) (a' := ?_) #[true, false, false, false, false, false] rfl rfl kr_ (fun _ _ _ h => h) (Or.inl ⟨by rfl, ?_⟩) hHeld ?_ ?_
   rotate_left
   ·rintro w' ⟨s0, s1, s2, s3, s4, s5⟩
    go_simp
    with_reducible rfl
   rotate_left
   ·simp only [Act.put, s1_, s2_, s3_, i6_, i3_]
    rfl
   refine take_ (i := 2) (N := some 14) (v := ?_) (a' := ?_) #[true, false, true, false, false, false] rfl rfl kr_ (fun _ _ _ h => h) (Or.inl ⟨by rfl, ?_⟩) hHeld ?_ ?_
   rotate_left
   ·rintro w' ⟨s0, s1, s2, s3, s4, s5⟩
    go_simp
    with_reducible rfl
   rotate_left
   ·simp only [Act.put, s1_, s2_, s3_, i6_, i3_]
    rfl
   refine one_ (i := 1) (N := some 13) #[true, true, true, false, false, false] rfl rfl kr_ (by decide) (fun K hK => ?_)
   refine goes_ Tryd.func42 kr_ rfl #[.agg #[.bool ma, .string ea, .string ha]] (by rfl) rfl rfl mp_ ?_
   with_reducible refine (q_signOf.calls ma ea ha oa _ A5.out).mono ?_
   rintro e w72 ⟨rfl, hb⟩
   refine ⟨_, rfl, ?_⟩
   have n0_ := A0_.mk (kB_ (g := ca) (o := .cells #[.bool ma, .string ea, .string ha] 26 (0, 0)) (xK_ aa.out) hb)
   have n1_ := A0_.mk (kB_ (g := da) (o := .cells #[.bool fa, .string ga, .string ia] 26 (0, 0)) (xK_ ba.out) hb)
   have n2_ := A0_.mk (bT_ (xB2_ HB ja na) hb)
   clear aa
   clear ba
   clear HB
   have aa := n0_
   have ba := n1_
   have HB := n2_
   clear n0_ n1_ n2_
   (try clear hb)
   (try clear hb2)
   (try clear hk)
   (try clear hi)
   refine hK.out _ _ ⟨(kc_ aa.out 0).trans rfl, (kc_ aa.out 1).trans rfl, (kc_ aa.out 2).trans rfl, (kc_ ba.out 0).trans rfl, (kc_ ba.out 1).trans rfl, (kc_ ba.out 2).trans rfl⟩ (fun hHeld => ?_)
   clear hK K
   refine norm_ (a' := ?_) ?_ ?_
   rotate_left
   ·show Act.put _ (some 13) _ = _
    simp only [Act.put, s1_, s2_, s3_, i6_, i3_]
    rfl
   refine one_ (i := 3) (N := some 15) #[true, true, true, true, false, false] rfl rfl kr_ (by decide) (fun K hK => ?_)
   refine goes_ Tryd.func42 kr_ rfl #[.agg #[.bool fa, .string ga, .string ia]] (by rfl) rfl rfl mp_ ?_
   with_reducible refine (q_signOf.calls fa ga ia pa _ A6.out).mono ?_
   rintro e w73 ⟨rfl, hb⟩
   refine ⟨_, rfl, ?_⟩
   have n0_ := A0_.mk (kB_ (g := ca) (o := .cells #[.bool ma, .string ea, .string ha] 26 (0, 0)) (xK_ aa.out) hb)
   have n1_ := A0_.mk (kB_ (g := da) (o := .cells #[.bool fa, .string ga, .string ia] 26 (0, 0)) (xK_ ba.out) hb)
   have n2_ := A0_.mk (bT_ (xB2_ HB ja na) hb)
   clear aa
   clear ba
   clear HB
   have aa := n0_
   have ba := n1_
   have HB := n2_
   clear n0_ n1_ n2_
   (try clear hb)
   (try clear hb2)
   (try clear hk)
   (try clear hi)
   refine hK.out _ _ ⟨(kc_ aa.out 0).trans rfl, (kc_ aa.out 1).trans rfl, (kc_ aa.out 2).trans rfl, (kc_ ba.out 0).trans rfl, (kc_ ba.out 1).trans rfl, (kc_ ba.out 2).trans rfl⟩ (fun hHeld => ?_)
   clear hK K
   refine norm_ (a' := ?_) ?_ ?_
   rotate_left
   ·show Act.put _ (some 15) _ = _
    simp only [Act.put, s1_, s2_, s3_, i6_, i3_]
    rfl
   refine pu_ (i := 4) (N := some 5) (v := ?_) (a' := ?_) #[true, true, true, true, true, false] rfl rfl kr_ (fun _ _ _ h => h) (Or.inl ⟨by rfl, ?_⟩) ?_ ?_
   rotate_left
   ·intro w'
    go_simp
    with_reducible rfl
   rotate_left
   ·simp only [Act.put, s1_, s2_, s3_, i6_, i3_]
    rfl
   refine pu_ (i := 5) (N := some 6) (v := ?_) (a' := ?_) #[true, true, true, true, true, true] rfl rfl kr_ (fun _ _ _ h => h) (Or.inl ⟨by rfl, ?_⟩) ?_ ?_
   rotate_left
   ·intro w'
    go_simp
    with_reducible rfl
   rotate_left
   ·simp only [Act.put, s1_, s2_, s3_, i6_, i3_]
    rfl
   refine done_ kr_ ?_
   try go_wp2
   go_ret
   exact ⟨rE_, xB2_ HB ja na⟩
  ·rw [if_neg c58] at H
   have za : decide (oa < pa) = false := decide_eq_false c58
   clear c58
   obtain rfl := Option.some.inj H
   go_enter Tryd.func20, Tryd.ntmps20
   try go_wp2_with (first | ((with_reducible refine gD_ (N := 2) rfl ?_); refine bE_ ?hg (N := 2) ?hd (cs := #[.bool a0_0, .string a0_1, .string a0_2]) (t := 26) ?hr ?_; (case hd => rfl); (case hg => rfl); (case hr => first | (go_simp; done) | (go_simp; rfl)); intro ca hg w74 hbox hb; have n0_ := A0_.mk (bT_ (xB_ HB) hb); have n1_ := A0_.mk (hbox); have n2_ := A0_.mk ((by rw [hg]; exact (bZ_ (xB_ HB)) : w.heap.size ≤ ca)); have n3_ := A0_.mk ((by rw [hg]; exact (bZ_ (xB_ HB)) : w.heap.size ≤ ca)); clear HB; have HB := n0_; have aa := n1_; have va := n2_; have ja := n3_; clear n0_ n1_ n2_ n3_; clear hb hbox hg) | ((with_reducible refine gD_ (N := 3) rfl ?_); refine bE_ ?hg (N := 3) ?hd (cs := #[.bool a1_0, .string a1_1, .string a1_2]) (t := 26) ?hr ?_; (case hd => rfl); (case hg => rfl); (case hr => first | (go_simp; done) | (go_simp; rfl)); intro da hg w75 hbox hb; have n0_ := A0_.mk (kB_ (g := ca) (o := .cells #[.bool a0_0, .string a0_1, .string a0_2] 26 (0, 0)) (xK_ aa.out) hb); have n1_ := A0_.mk (bT_ (xB1_ HB ja) hb); have n2_ := A0_.mk (hbox); have n3_ := A0_.mk ((by rw [hg]; exact (bZ_ (xB1_ HB ja)) : w.heap.size ≤ da)); have n4_ := A0_.mk ((by rw [hg]; exact (bZ_ (xB1_ HB ja)) : w.heap.size ≤ da)); have n5_ := A0_.mk ((by rw [hg]; exact Nat.ne_of_lt (blk_lt (g := ca) (o := .cells #[.bool a0_0, .string a0_1, .string a0_2] 26 (0, 0)) (xK_ aa.out)) : ca ≠ da)); have n6_ := A0_.mk ((by rw [hg]; exact Nat.ne_of_gt (blk_lt (g := ca) (o := .cells #[.bool a0_0, .string a0_1, .string a0_2] 26 (0, 0)) (xK_ aa.out)) : da ≠ ca)); clear aa HB; have aa := n0_; have HB := n1_; have ba := n2_; have wa := n3_; have na := n4_; have ka := n5_; have la := n6_; clear n0_ n1_ n2_ n3_ n4_ n5_ n6_; clear hb hbox hg))
   have n0_ := A0_.mk (kD_ aa.out)
   have n1_ := A0_.mk (kD_ ba.out)
   have n2_ := A0_.mk (b1_ HB.out)
   clear aa
   clear ba
   clear HB
   have aa := n0_
   have ba := n1_
   have HB := n2_
   clear n0_ n1_ n2_
   refine start_ (n := 6) (S := fun w' => w'.cell? ⟨ca, 0, none⟩ = some (.bool a0_0) ∧ w'.cell? ⟨ca, 1, none⟩ = some (.string a0_1) ∧ w'.cell? ⟨ca, 2, none⟩ = some (.string a0_2) ∧ w'.cell? ⟨da, 0, none⟩ = some (.bool a1_0) ∧ w'.cell? ⟨da, 1, none⟩ = some (.string a1_1) ∧ w'.cell? ⟨da, 2, none⟩ = some (.string a1_2)) (ds := [4, 5]) #[false, false, false, false, false, false] kr_ rfl rfl ⟨(kc_ aa.out 0).trans rfl, (kc_ aa.out 1).trans rfl, (kc_ aa.out 2).trans rfl, (kc_ ba.out 0).trans rfl, (kc_ ba.out 1).trans rfl, (kc_ ba.out 2).trans rfl⟩ (fun hHeld => ?_)
   generalize w75.drew = w76 at aa ba HB hHeld ⊢
   refine take_ (i := 0) (N := some 8) (v := ?_) (a' := ?_) #[true, false, false, false, false, false] rfl rfl kr_ (fun _ _ _ h => h) (Or.inl ⟨by rfl, ?_⟩) hHeld ?_ ?_
   rotate_left
   ·rintro w' ⟨s0, s1, s2, s3, s4, s5⟩
    go_simp
    with_reducible rfl
   rotate_left
   ·simp only [Act.put, s1_, s2_, s3_, i6_, i3_]
    rfl
   refine take_ (i := 2) (N := some 10) (v := ?_) (a' := ?_) #[true, false, true, false, false, false] rfl rfl kr_ (fun _ _ _ h => h) (Or.inl ⟨by rfl, ?_⟩) hHeld ?_ ?_
   rotate_left
   ·rintro w' ⟨s0, s1, s2, s3, s4, s5⟩
    go_simp
    with_reducible rfl
   rotate_left
   ·simp only [Act.put, s1_, s2_, s3_, i6_, i3_]
    rfl
   refine one_ (i := 1) (N := some 9) #[true, true, true, false, false, false] rfl rfl kr_ (by decide) (fun K hK => ?_)
   refine goes_ Tryd.func43 kr_ rfl #[.agg #[.bool a0_0, .string a0_1, .string a0_2]] (by rfl) rfl rfl mp_ ?_
   with_reducible refine (q_clean.calls k a0_0 a0_1 a0_2 ma ea ha _ A3.out).mono ?_
   rintro e w77 ⟨rfl, hb⟩
   refine ⟨_, rfl, ?_⟩
   have n0_ := A0_.mk (kB_ (g := ca) (o := .cells #[.bool a0_0, .string a0_1, .string a0_2] 26 (0, 0)) (xK_ aa.out) hb)
   have n1_ := A0_.mk (kB_ (g := da) (o := .cells #[.bool a1_0, .string a1_1, .string a1_2] 26 (0, 0)) (xK_ ba.out) hb)
   have n2_ := A0_.mk (bT_ (xB2_ HB ja na) hb)
   clear aa
   clear ba
   clear HB
   have aa := n0_
   have ba := n1_
   have HB := n2_
   clear n0_ n1_ n2_
   (try clear hb)
   (try clear hb2)
   (try clear hk)
   (try clear hi)
   refine hK.out _ _ ⟨(kc_ aa.out 0).trans rfl, (kc_ aa.out 1).trans rfl, (kc_ aa.out 2).trans rfl, (kc_ ba.out 0).trans rfl, (kc_ ba.out 1).trans rfl, (kc_ ba.out 2).trans rfl⟩ (fun hHeld => ?_)
   clear hK K
   refine norm_ (a' := ?_) ?_ ?_
   rotate_left
   ·show Act.put _ (some 9) _ = _
    simp only [Act.put, s1_, s2_, s3_, i6_, i3_]
    rfl
   refine one_ (i := 3) (N := some 11) #[true, true, true, true, false, false] rfl rfl kr_ (by decide) (fun K hK => ?_)
   refine goes_ Tryd.func43 kr_ rfl #[.agg #[.bool a1_0, .string a1_1, .string a1_2]] (by rfl) rfl rfl mp_ ?_
   with_reducible refine (q_clean.calls k a1_0 a1_1 a1_2 fa ga ia _ A4.out).mono ?_
   rintro e w78 ⟨rfl, hb⟩
   refine ⟨_, rfl, ?_⟩
   have n0_ := A0_.mk (kB_ (g := ca) (o := .cells #[.bool a0_0, .string a0_1, .string a0_2] 26 (0, 0)) (xK_ aa.out) hb)
   have n1_ := A0_.mk (kB_ (g := da) (o := .cells #[.bool a1_0, .string a1_1, .string a1_2] 26 (0, 0)) (xK_ ba.out) hb)
   have n2_ := A0_.mk (bT_ (xB2_ HB ja na) hb)
   clear aa
   clear ba
   clear HB
   have aa := n0_
   have ba := n1_
   have HB := n2_
   clear n0_ n1_ n2_
   (try clear hb)
   (try clear hb2)
   (try clear hk)
   (try clear hi)
   refine hK.out _ _ ⟨(kc_ aa.out 0).trans rfl, (kc_ aa.out 1).trans rfl, (kc_ aa.out 2).trans rfl, (kc_ ba.out 0).trans rfl, (kc_ ba.out 1).trans rfl, (kc_ ba.out 2).trans rfl⟩ (fun hHeld => ?_)
   clear hK K
   refine norm_ (a' := ?_) ?_ ?_
   rotate_left
   ·show Act.put _ (some 11) _ = _
    simp only [Act.put, s1_, s2_, s3_, i6_, i3_]
    rfl
   refine last_ (i := 4) (N := none) #[true, true, true, true, true, false] rfl rfl kr_ (by decide) (fun K hK => ?_)
   have Sa : w78.cell? ⟨ca, 0, none⟩ = some (.bool a0_0) := (kc_ aa.out 0).trans rfl
   have hfs79 := kF_ aa.out 0
   have hns79_1 := la.out
   have hms79_1 := ka.out
   have Ta : w78.cell? ⟨ca, 1, none⟩ = some (.string a0_1) := (kc_ aa.out 1).trans rfl
   have hfs80 := kF_ aa.out 1
   have hns80_1 := la.out
   have hms80_1 := ka.out
   have Ua : w78.cell? ⟨ca, 2, none⟩ = some (.string a0_2) := (kc_ aa.out 2).trans rfl
   have hfs81 := kF_ aa.out 2
   have hns81_1 := la.out
   have hms81_1 := ka.out
   refine skip_ (w1 := ?_) (by rfl) rfl ?_ ?_
   rotate_left
   ·go_simp
    rfl
   refine hK.out _ _ ?_
   clear hK K
   refine last_ (i := 5) (N := none) #[true, true, true, true, true, true] rfl rfl kr_ (by decide) (fun K hK => ?_)
   have Va : w78.cell? ⟨da, 0, none⟩ = some (.bool a1_0) := (kc_ ba.out 0).trans rfl
   have hfs82 := kF_ ba.out 0
   have hns82_0 := ka.out
   have hms82_0 := la.out
   have Wa : w78.cell? ⟨da, 1, none⟩ = some (.string a1_1) := (kc_ ba.out 1).trans rfl
   have hfs83 := kF_ ba.out 1
   have hns83_0 := ka.out
   have hms83_0 := la.out
   have Xa : w78.cell? ⟨da, 2, none⟩ = some (.string a1_2) := (kc_ ba.out 2).trans rfl
   have hfs84 := kF_ ba.out 2
   have hns84_0 := ka.out
   have hms84_0 := la.out
   refine skip_ (w1 := ?_) (by rfl) rfl ?_ ?_
   rotate_left
   ·go_simp
    rfl
   refine hK.out _ _ ?_
   clear hK K
   refine done_ kr_ ?_
   try go_wp2
   have n0_ : A0_ (((((((w78.setCell ⟨ca, 0, none⟩ (.bool ma)).setCell ⟨ca, 1, none⟩ (.string ea)).setCell ⟨ca, 2, none⟩ (.string ha)).setCell ⟨da, 0, none⟩ (.bool fa)).setCell ⟨da, 1, none⟩ (.string ga)).setCell ⟨da, 2, none⟩ (.string ia)).heap[ca]? = some (.cells #[.bool ma, .string ea, .string ha] 26 (0, 0))) := ⟨by (with_reducible repeat (first | apply kN_ | apply kD_ | apply kA_)); refine bf_ ?_ ka.out _; (with_reducible repeat (first | apply kN_ | apply kD_ | apply kA_)); refine bf_ ?_ ka.out _; (with_reducible repeat (first | apply kN_ | apply kD_ | apply kA_)); refine bf_ ?_ ka.out _; (with_reducible repeat (first | apply kN_ | apply kD_ | apply kA_)); refine kP_ (cs := #[.bool ma, .string ea, .string a0_2]) ?_ 2 _ rfl; (with_reducible repeat (first | apply kN_ | apply kD_ | apply kA_)); refine kP_ (cs := #[.bool ma, .string a0_1, .string a0_2]) ?_ 1 _ rfl; (with_reducible repeat (first | apply kN_ | apply kD_ | apply kA_)); refine kP_ (cs := #[.bool a0_0, .string a0_1, .string a0_2]) ?_ 0 _ rfl; (with_reducible repeat (first | apply kN_ | apply kD_ | apply kA_)); exact aa.out⟩
   have n1_ : A0_ (((((((w78.setCell ⟨ca, 0, none⟩ (.bool ma)).setCell ⟨ca, 1, none⟩ (.string ea)).setCell ⟨ca, 2, none⟩ (.string ha)).setCell ⟨da, 0, none⟩ (.bool fa)).setCell ⟨da, 1, none⟩ (.string ga)).setCell ⟨da, 2, none⟩ (.string ia)).heap[da]? = some (.cells #[.bool fa, .string ga, .string ia] 26 (0, 0))) := ⟨by (with_reducible repeat (first | apply kN_ | apply kD_ | apply kA_)); refine kP_ (cs := #[.bool fa, .string ga, .string a1_2]) ?_ 2 _ rfl; (with_reducible repeat (first | apply kN_ | apply kD_ | apply kA_)); refine kP_ (cs := #[.bool fa, .string a1_1, .string a1_2]) ?_ 1 _ rfl; (with_reducible repeat (first | apply kN_ | apply kD_ | apply kA_)); refine kP_ (cs := #[.bool a1_0, .string a1_1, .string a1_2]) ?_ 0 _ rfl; (with_reducible repeat (first | apply kN_ | apply kD_ | apply kA_)); refine bf_ ?_ la.out _; (with_reducible repeat (first | apply kN_ | apply kD_ | apply kA_)); refine bf_ ?_ la.out _; (with_reducible repeat (first | apply kN_ | apply kD_ | apply kA_)); refine bf_ ?_ la.out _; (with_reducible repeat (first | apply kN_ | apply kD_ | apply kA_)); exact ba.out⟩
   have n2_ : A0_ (Below w.heap.size w ((((((w78.setCell ⟨ca, 0, none⟩ (.bool ma)).setCell ⟨ca, 1, none⟩ (.string ea)).setCell ⟨ca, 2, none⟩ (.string ha)).setCell ⟨da, 0, none⟩ (.bool fa)).setCell ⟨da, 1, none⟩ (.string ga)).setCell ⟨da, 2, none⟩ (.string ia))) := ⟨xB2_ HB ja na⟩
   (try clear aa)
   (try clear ba)
   (try clear HB)
   generalize ((((((w78.setCell ⟨ca, 0, none⟩ (.bool ma)).setCell ⟨ca, 1, none⟩ (.string ea)).setCell ⟨ca, 2, none⟩ (.string ha)).setCell ⟨da, 0, none⟩ (.bool fa)).setCell ⟨da, 1, none⟩ (.string ga)).setCell ⟨da, 2, none⟩ (.string ia)) = w85 at n0_ n1_ n2_ ⊢
   have aa := n0_
   have ba := n1_
   have HB := n2_
   clear n0_ n1_ n2_
   have n0_ := A0_.mk (kD_ aa.out)
   have n1_ := A0_.mk (kD_ ba.out)
   have n2_ := A0_.mk (b1_ HB.out)
   clear aa
   clear ba
   clear HB
   have aa := n0_
   have ba := n1_
   have HB := n2_
   clear n0_ n1_ n2_
   refine start_ (n := 6) (S := fun w' => w'.cell? ⟨ca, 0, none⟩ = some (.bool ma) ∧ w'.cell? ⟨ca, 1, none⟩ = some (.string ea) ∧ w'.cell? ⟨ca, 2, none⟩ = some (.string ha) ∧ w'.cell? ⟨da, 0, none⟩ = some (.bool fa) ∧ w'.cell? ⟨da, 1, none⟩ = some (.string ga) ∧ w'.cell? ⟨da, 2, none⟩ = some (.string ia)) (ds := []) #[false, false, false, false, false, false] kr_ rfl rfl ⟨(kc_ aa.out 0).trans rfl, (kc_ aa.out 1).trans rfl, (kc_ aa.out 2).trans rfl, (kc_ ba.out 0).trans rfl, (kc_ ba.out 1).trans rfl, (kc_ ba.out 2).trans rfl⟩ (fun hHeld => ?_)
   generalize w85.drew = w86 at aa ba HB hHeld ⊢
   refine take_ (i := 0) (N := some 12) (v := ?_) (a' := ?_) #[true, false, false, false, false, false] rfl rfl kr_ (fun _ _ _ h => h) (Or.inl ⟨by rfl, ?_⟩) hHeld ?_ ?_
   rotate_left
   ·rintro w' ⟨s0, s1, s2, s3, s4, s5⟩
    go_simp
    with_reducible rfl
   rotate_left
   ·simp only [Act.put, s1_, s2_, s3_, i6_, i3_]
    rfl
   refine take_ (i := 2) (N := some 14) (v := ?_) (a' := ?_) #[true, false, true, false, false, false] rfl rfl kr_ (fun _ _ _ h => h) (Or.inl ⟨by rfl, ?_⟩) hHeld ?_ ?_
   rotate_left
   ·rintro w' ⟨s0, s1, s2, s3, s4, s5⟩
    go_simp
    with_reducible rfl
   rotate_left
   ·simp only [Act.put, s1_, s2_, s3_, i6_, i3_]
    rfl
   refine one_ (i := 1) (N := some 13) #[true, true, true, false, false, false] rfl rfl kr_ (by decide) (fun K hK => ?_)
   refine goes_ Tryd.func42 kr_ rfl #[.agg #[.bool ma, .string ea, .string ha]] (by rfl) rfl rfl mp_ ?_
   with_reducible refine (q_signOf.calls ma ea ha oa _ A5.out).mono ?_
   rintro e w87 ⟨rfl, hb⟩
   refine ⟨_, rfl, ?_⟩
   have n0_ := A0_.mk (kB_ (g := ca) (o := .cells #[.bool ma, .string ea, .string ha] 26 (0, 0)) (xK_ aa.out) hb)
   have n1_ := A0_.mk (kB_ (g := da) (o := .cells #[.bool fa, .string ga, .string ia] 26 (0, 0)) (xK_ ba.out) hb)
   have n2_ := A0_.mk (bT_ (xB2_ HB ja na) hb)
   clear aa
   clear ba
   clear HB
   have aa := n0_
   have ba := n1_
   have HB := n2_
   clear n0_ n1_ n2_
   (try clear hb)
   (try clear hb2)
   (try clear hk)
   (try clear hi)
   refine hK.out _ _ ⟨(kc_ aa.out 0).trans rfl, (kc_ aa.out 1).trans rfl, (kc_ aa.out 2).trans rfl, (kc_ ba.out 0).trans rfl, (kc_ ba.out 1).trans rfl, (kc_ ba.out 2).trans rfl⟩ (fun hHeld => ?_)
   clear hK K
   refine norm_ (a' := ?_) ?_ ?_
   rotate_left
   ·show Act.put _ (some 13) _ = _
    simp only [Act.put, s1_, s2_, s3_, i6_, i3_]
    rfl
   refine one_ (i := 3) (N := some 15) #[true, true, true, true, false, false] rfl rfl kr_ (by decide) (fun K hK => ?_)
   refine goes_ Tryd.func42 kr_ rfl #[.agg #[.bool fa, .string ga, .string ia]] (by rfl) rfl rfl mp_ ?_
   with_reducible refine (q_signOf.calls fa ga ia pa _ A6.out).mono ?_
   rintro e w88 ⟨rfl, hb⟩
   refine ⟨_, rfl, ?_⟩
   have n0_ := A0_.mk (kB_ (g := ca) (o := .cells #[.bool ma, .string ea, .string ha] 26 (0, 0)) (xK_ aa.out) hb)
   have n1_ := A0_.mk (kB_ (g := da) (o := .cells #[.bool fa, .string ga, .string ia] 26 (0, 0)) (xK_ ba.out) hb)
   have n2_ := A0_.mk (bT_ (xB2_ HB ja na) hb)
   clear aa
   clear ba
   clear HB
   have aa := n0_
   have ba := n1_
   have HB := n2_
   clear n0_ n1_ n2_
   (try clear hb)
   (try clear hb2)
   (try clear hk)
   (try clear hi)
   refine hK.out _ _ ⟨(kc_ aa.out 0).trans rfl, (kc_ aa.out 1).trans rfl, (kc_ aa.out 2).trans rfl, (kc_ ba.out 0).trans rfl, (kc_ ba.out 1).trans rfl, (kc_ ba.out 2).trans rfl⟩ (fun hHeld => ?_)
   clear hK K
   refine norm_ (a' := ?_) ?_ ?_
   rotate_left
   ·show Act.put _ (some 15) _ = _
    simp only [Act.put, s1_, s2_, s3_, i6_, i3_]
    rfl
   refine pu_ (i := 4) (N := some 5) (v := ?_) (a' := ?_) #[true, true, true, true, true, false] rfl rfl kr_ (fun _ _ _ h => h) (Or.inl ⟨by rfl, ?_⟩) ?_ ?_
   rotate_left
   ·intro w'
    go_simp
    with_reducible rfl
   rotate_left
   ·simp only [Act.put, s1_, s2_, s3_, i6_, i3_]
    rfl
   refine pu_ (i := 5) (N := some 6) (v := ?_) (a' := ?_) #[true, true, true, true, true, true] rfl rfl kr_ (fun _ _ _ h => h) (Or.inl ⟨by rfl, ?_⟩) ?_ ?_
   rotate_left
   ·intro w'
    go_simp
    with_reducible rfl
   rotate_left
   ·simp only [Act.put, s1_, s2_, s3_, i6_, i3_]
    rfl
   refine done_ kr_ ?_
   try go_wp2
   go_ret
   exact ⟨rE_, xB2_ HB ja na⟩
def q_Min.f (k : Nat) (a0_0 : Bool) (a0_1 : ByteArray) (a0_2 : ByteArray) (a1_0 : Bool) (a1_1 : ByteArray) (a1_2 : ByteArray) : Option (Bool × ByteArray × ByteArray) := (q_Compare.f k a0_0 a0_1 a0_2 a1_0 a1_1 a1_2).bind fun t417 => (if t417 ≤ 0 then ((q_clean.f k a0_0 a0_1 a0_2).bind fun bt418 => (some (bt418.1, bt418.2.1, bt418.2.2))) else ((q_clean.f k a1_0 a1_1 a1_2).bind fun bt421 => (some (bt421.1, bt421.2.1, bt421.2.2))))
theorem q_Min.mono : ∀ a0 a1 a2 a3 a4 a5 k, LeO (q_Min.f k a0 a1 a2 a3 a4 a5) (q_Min.f (k + 1) a0 a1 a2 a3 a4 a5) := by
 intro a0 a1 a2 a3 a4 a5 k
 unfold q_Min.f
 repeat' first
   | (with_reducible first | exact q_Compare.mono _ _ _ _ _ _ _ | exact q_clean.mono _ _ _ _ | exact LeO.refl _ | exact LeO.none _ | refine LeO.ite ?_ ?_ | refine LeO.bind ?_ (fun _ => ?_))
theorem q_Min.calls (k : Nat) (a0_0 : Bool) (a0_1 : ByteArray) (a0_2 : ByteArray) (a1_0 : Bool) (a1_1 : ByteArray) (a1_2 : ByteArray) (r1 : Bool) (r2 : ByteArray) (r3 : ByteArray) (w : World) (h : q_Min.f k a0_0 a0_1 a0_2 a1_0 a1_1 a1_2 = some (r1, r2, r3)) :
  Calls Tryd.prog 39 #[.agg #[.bool a0_0, .string a0_1, .string a0_2], .agg #[.bool a1_0, .string a1_1, .string a1_2]] w fun e w' => e = .returned (.agg #[.bool r1, .string r2, .string r3]) ∧ Below w.heap.size w w' := by
 have hu26 := Tryd.underlying26
 have HB := A0_.mk (Below.refl w.heap.size w)
 have H := h
 unfold q_Min.f at H
 clear h
 obtain ⟨ja, A3, H⟩ := oB_ H
 (try dsimp only at H)
 by_cases c4 : ja ≤ 0
 ·rw [if_pos c4] at H
  have wa : decide (ja ≤ 0) = true := decide_eq_true c4
  clear c4
  obtain ⟨⟨ka, ma, ua⟩, A5, H⟩ := oB_ H
  (try dsimp only at H)
  simp only [Option.some.injEq, Prod.mk.injEq] at H
  obtain ⟨rfl, rfl, rfl⟩ := H
  go_enter Tryd.func39, Tryd.ntmps39
  go_wp2_with (first | ((with_reducible refine gD_ (N := 2) rfl ?_); refine bE_ ?hg (N := 2) ?hd (cs := #[.bool a0_0, .string a0_1, .string a0_2]) (t := 26) ?hr ?_; (case hd => rfl); (case hg => rfl); (case hr => first | (go_simp; done) | (go_simp; rfl)); intro ca hg w6 hbox hb; have n0_ := A0_.mk (bT_ (xB_ HB) hb); have n1_ := A0_.mk (hbox); have n2_ := A0_.mk ((by rw [hg]; exact (bZ_ (xB_ HB)) : w.heap.size ≤ ca)); have n3_ := A0_.mk ((by rw [hg]; exact (bZ_ (xB_ HB)) : w.heap.size ≤ ca)); clear HB; have HB := n0_; have aa := n1_; have xa := n2_; have ga := n3_; clear n0_ n1_ n2_ n3_; clear hb hbox hg) | ((with_reducible refine gD_ (N := 3) rfl ?_); refine bE_ ?hg (N := 3) ?hd (cs := #[.bool a1_0, .string a1_1, .string a1_2]) (t := 26) ?hr ?_; (case hd => rfl); (case hg => rfl); (case hr => first | (go_simp; done) | (go_simp; rfl)); intro da hg w7 hbox hb; have n0_ := A0_.mk (kB_ (g := ca) (o := .cells #[.bool a0_0, .string a0_1, .string a0_2] 26 (0, 0)) (xK_ aa.out) hb); have n1_ := A0_.mk (bT_ (xB1_ HB ga) hb); have n2_ := A0_.mk (hbox); have n3_ := A0_.mk ((by rw [hg]; exact (bZ_ (xB1_ HB ga)) : w.heap.size ≤ da)); have n4_ := A0_.mk ((by rw [hg]; exact (bZ_ (xB1_ HB ga)) : w.heap.size ≤ da)); have n5_ := A0_.mk ((by rw [hg]; exact Nat.ne_of_lt (blk_lt (g := ca) (o := .cells #[.bool a0_0, .string a0_1, .string a0_2] 26 (0, 0)) (xK_ aa.out)) : ca ≠ da)); have n6_ := A0_.mk ((by rw [hg]; exact Nat.ne_of_gt (blk_lt (g := ca) (o := .cells #[.bool a0_0, .string a0_1, .string a0_2] 26 (0, 0)) (xK_ aa.out)) : da ≠ ca)); clear aa HB; have aa := n0_; have HB := n1_; have ba := n2_; have ya := n3_; have ha := n4_; have na := n5_; have oa := n6_; clear n0_ n1_ n2_ n3_ n4_ n5_ n6_; clear hb hbox hg) | ((with_reducible refine gD_ (N := 4) rfl ?_); refine bE_ ?hg (N := 4) ?hd (cs := zC_) (t := 26) ?hr ?_; (case hd => rfl); (case hg => rfl); (case hr => first | (go_simp; done) | (go_simp; rfl)); intro fa hg w8 hbox hb; have n0_ := A0_.mk (kB_ (g := ca) (o := .cells #[.bool a0_0, .string a0_1, .string a0_2] 26 (0, 0)) (xK_ aa.out) hb); have n1_ := A0_.mk (kB_ (g := da) (o := .cells #[.bool a1_0, .string a1_1, .string a1_2] 26 (0, 0)) (xK_ ba.out) hb); have n2_ := A0_.mk (bT_ (xB2_ HB ga ha) hb); have n3_ := A0_.mk (hbox); have n4_ := A0_.mk ((by rw [hg]; exact (bZ_ (xB2_ HB ga ha)) : w.heap.size ≤ fa)); have n5_ := A0_.mk ((by rw [hg]; exact (bZ_ (xB2_ HB ga ha)) : w.heap.size ≤ fa)); have n6_ := A0_.mk ((by rw [hg]; exact Nat.ne_of_lt (blk_lt (g := ca) (o := .cells #[.bool a0_0, .string a0_1, .string a0_2] 26 (0, 0)) (xK_ aa.out)) : ca ≠ fa)); have n7_ := A0_.mk ((by rw [hg]; exact Nat.ne_of_gt (blk_lt (g := ca) (o := .cells #[.bool a0_0, .string a0_1, .string a0_2] 26 (0, 0)) (xK_ aa.out)) : fa ≠ ca)); have n8_ := A0_.mk ((by rw [hg]; exact Nat.ne_of_lt (blk_lt (g := da) (o := .cells #[.bool a1_0, .string a1_1, .string a1_2] 26 (0, 0)) (xK_ ba.out)) : da ≠ fa)); have n9_ := A0_.mk ((by rw [hg]; exact Nat.ne_of_gt (blk_lt (g := da) (o := .cells #[.bool a1_0, .string a1_1, .string a1_2] 26 (0, 0)) (xK_ ba.out)) : fa ≠ da)); clear aa ba HB; have aa := n0_; have ba := n1_; have HB := n2_; have ea := n3_; have za := n4_; have ia := n5_; have pa := n6_; have qa := n7_; have ra := n8_; have sa := n9_; clear n0_ n1_ n2_ n3_ n4_ n5_ n6_ n7_ n8_ n9_; clear hb hbox hg; have hnb9 := na.out; have hnc9 := oa.out; have hnb10 := pa.out; have hnc10 := qa.out; have Aa : w8.cell? ⟨ca, 0, none⟩ = some (.bool a0_0) := (kc_ aa.out 0).trans rfl; have Ba : w8.cell? ⟨ca, 1, none⟩ = some (.string a0_1) := (kc_ aa.out 1).trans rfl; have Ca : w8.cell? ⟨ca, 2, none⟩ = some (.string a0_2) := (kc_ aa.out 2).trans rfl; have Da := kF_ aa.out 0; have Ea := kF_ aa.out 1; have Fa := kF_ aa.out 2; have hnb12 := ra.out; have hnc12 := sa.out; have Ga : w8.cell? ⟨da, 0, none⟩ = some (.bool a1_0) := (kc_ ba.out 0).trans rfl; have Ha : w8.cell? ⟨da, 1, none⟩ = some (.string a1_1) := (kc_ ba.out 1).trans rfl; have Ia : w8.cell? ⟨da, 2, none⟩ = some (.string a1_2) := (kc_ ba.out 2).trans rfl; have Ja := kF_ ba.out 0; have Ka := kF_ ba.out 1; have La := kF_ ba.out 2) | ((with_reducible refine gC_ (f := 20) rfl ?_); refine gL_ (some 7) rfl rfl Tryd.func20 kr_ rfl #[.agg #[.bool a0_0, .string a0_1, .string a0_2], .agg #[.bool a1_0, .string a1_1, .string a1_2]] rfl mp_ ?_; (with_reducible refine (q_Compare.calls k a0_0 a0_1 a0_2 a1_0 a1_1 a1_2 ja _ A3.out).mono ?_); rintro e w14 ⟨rfl, hb⟩; refine ⟨_, rfl, ?_⟩; have n0_ := A0_.mk (kB_ (g := ca) (o := .cells #[.bool a0_0, .string a0_1, .string a0_2] 26 (0, 0)) (xK_ aa.out) hb); have n1_ := A0_.mk (kB_ (g := da) (o := .cells #[.bool a1_0, .string a1_1, .string a1_2] 26 (0, 0)) (xK_ ba.out) hb); have n2_ := A0_.mk (kB_ (g := fa) (o := .cells zC_ 26 (0, 0)) (xK_ ea.out) hb); have n3_ := A0_.mk (bT_ (xB3_ HB ga ha ia) hb); clear aa ba ea HB; have aa := n0_; have ba := n1_; have ea := n2_; have HB := n3_; clear n0_ n1_ n2_ n3_; (try clear hb); (try clear hb2); (try clear hk); (try clear hi); have Ma : w14.cell? ⟨ca, 0, none⟩ = some (.bool a0_0) := (kc_ aa.out 0).trans rfl; have Na : w14.cell? ⟨ca, 1, none⟩ = some (.string a0_1) := (kc_ aa.out 1).trans rfl; have Oa : w14.cell? ⟨ca, 2, none⟩ = some (.string a0_2) := (kc_ aa.out 2).trans rfl; have Pa := kF_ aa.out 0; have Qa := kF_ aa.out 1; have Ra := kF_ aa.out 2) | ((with_reducible refine gC_ (f := 43) rfl ?_); refine gL_ (some 10) rfl rfl Tryd.func43 kr_ rfl #[.agg #[.bool a0_0, .string a0_1, .string a0_2]] rfl mp_ ?_; (with_reducible refine (q_clean.calls k a0_0 a0_1 a0_2 ka ma ua _ A5.out).mono ?_); rintro e w16 ⟨rfl, hb⟩; refine ⟨_, rfl, ?_⟩; have n0_ := A0_.mk (kB_ (g := ca) (o := .cells #[.bool a0_0, .string a0_1, .string a0_2] 26 (0, 0)) (xK_ aa.out) hb); have n1_ := A0_.mk (kB_ (g := da) (o := .cells #[.bool a1_0, .string a1_1, .string a1_2] 26 (0, 0)) (xK_ ba.out) hb); have n2_ := A0_.mk (kB_ (g := fa) (o := .cells zC_ 26 (0, 0)) (xK_ ea.out) hb); have n3_ := A0_.mk (bT_ (xB3_ HB ga ha ia) hb); clear aa ba ea HB; have aa := n0_; have ba := n1_; have ea := n2_; have HB := n3_; clear n0_ n1_ n2_ n3_; (try clear hb); (try clear hb2); (try clear hk); (try clear hi); have Sa : w16.cell? ⟨fa, 0, none⟩ = some (.bool false) := (kc_ ea.out 0).trans rfl; have Ta : w16.cell? ⟨fa, 1, none⟩ = some (.string (⟨#[]⟩ : ByteArray)) := (kc_ ea.out 1).trans rfl; have Ua : w16.cell? ⟨fa, 2, none⟩ = some (.string (⟨#[]⟩ : ByteArray)) := (kc_ ea.out 2).trans rfl; have Va := kF_ ea.out 0; have Wa := kF_ ea.out 1; have Xa := kF_ ea.out 2))
  refine bodyPost_ret (results_cell_row rfl _ _ fa 26 #[.bool ka, .string ma, .string ua] (0, 0) _ rfl (by (with_reducible repeat (first | apply kN_ | apply kD_ | apply kA_)); refine kP_ (cs := #[.bool ka, .string ma, .string (⟨#[]⟩ : ByteArray)]) ?_ 2 _ rfl; (with_reducible repeat (first | apply kN_ | apply kD_ | apply kA_)); refine kP_ (cs := #[.bool ka, .string (⟨#[]⟩ : ByteArray), .string (⟨#[]⟩ : ByteArray)]) ?_ 1 _ rfl; (with_reducible repeat (first | apply kN_ | apply kD_ | apply kA_)); refine kP_ (cs := zC_) ?_ 0 _ rfl; (with_reducible repeat (first | apply kN_ | apply kD_ | apply kA_)); exact ea.out) Tryd.underlying26 rfl kr_) rfl ?_
  exact ⟨rE_, xB3_ HB ga ha ia⟩
 ·rw [if_neg c4] at H
  have wa : decide (ja ≤ 0) = false := decide_eq_false c4
  clear c4
  obtain ⟨⟨la, ta, va⟩, A18, H⟩ := oB_ H
  (try dsimp only at H)
  simp only [Option.some.injEq, Prod.mk.injEq] at H
  obtain ⟨rfl, rfl, rfl⟩ := H
  go_enter Tryd.func39, Tryd.ntmps39
  go_wp2_with (first | ((with_reducible refine gD_ (N := 2) rfl ?_); refine bE_ ?hg (N := 2) ?hd (cs := #[.bool a0_0, .string a0_1, .string a0_2]) (t := 26) ?hr ?_; (case hd => rfl); (case hg => rfl); (case hr => first | (go_simp; done) | (go_simp; rfl)); intro ca hg w19 hbox hb; have n0_ := A0_.mk (bT_ (xB_ HB) hb); have n1_ := A0_.mk (hbox); have n2_ := A0_.mk ((by rw [hg]; exact (bZ_ (xB_ HB)) : w.heap.size ≤ ca)); have n3_ := A0_.mk ((by rw [hg]; exact (bZ_ (xB_ HB)) : w.heap.size ≤ ca)); clear HB; have HB := n0_; have aa := n1_; have xa := n2_; have ga := n3_; clear n0_ n1_ n2_ n3_; clear hb hbox hg) | ((with_reducible refine gD_ (N := 3) rfl ?_); refine bE_ ?hg (N := 3) ?hd (cs := #[.bool a1_0, .string a1_1, .string a1_2]) (t := 26) ?hr ?_; (case hd => rfl); (case hg => rfl); (case hr => first | (go_simp; done) | (go_simp; rfl)); intro da hg w20 hbox hb; have n0_ := A0_.mk (kB_ (g := ca) (o := .cells #[.bool a0_0, .string a0_1, .string a0_2] 26 (0, 0)) (xK_ aa.out) hb); have n1_ := A0_.mk (bT_ (xB1_ HB ga) hb); have n2_ := A0_.mk (hbox); have n3_ := A0_.mk ((by rw [hg]; exact (bZ_ (xB1_ HB ga)) : w.heap.size ≤ da)); have n4_ := A0_.mk ((by rw [hg]; exact (bZ_ (xB1_ HB ga)) : w.heap.size ≤ da)); have n5_ := A0_.mk ((by rw [hg]; exact Nat.ne_of_lt (blk_lt (g := ca) (o := .cells #[.bool a0_0, .string a0_1, .string a0_2] 26 (0, 0)) (xK_ aa.out)) : ca ≠ da)); have n6_ := A0_.mk ((by rw [hg]; exact Nat.ne_of_gt (blk_lt (g := ca) (o := .cells #[.bool a0_0, .string a0_1, .string a0_2] 26 (0, 0)) (xK_ aa.out)) : da ≠ ca)); clear aa HB; have aa := n0_; have HB := n1_; have ba := n2_; have ya := n3_; have ha := n4_; have na := n5_; have oa := n6_; clear n0_ n1_ n2_ n3_ n4_ n5_ n6_; clear hb hbox hg) | ((with_reducible refine gD_ (N := 4) rfl ?_); refine bE_ ?hg (N := 4) ?hd (cs := zC_) (t := 26) ?hr ?_; (case hd => rfl); (case hg => rfl); (case hr => first | (go_simp; done) | (go_simp; rfl)); intro fa hg w21 hbox hb; have n0_ := A0_.mk (kB_ (g := ca) (o := .cells #[.bool a0_0, .string a0_1, .string a0_2] 26 (0, 0)) (xK_ aa.out) hb); have n1_ := A0_.mk (kB_ (g := da) (o := .cells #[.bool a1_0, .string a1_1, .string a1_2] 26 (0, 0)) (xK_ ba.out) hb); have n2_ := A0_.mk (bT_ (xB2_ HB ga ha) hb); have n3_ := A0_.mk (hbox); have n4_ := A0_.mk ((by rw [hg]; exact (bZ_ (xB2_ HB ga ha)) : w.heap.size ≤ fa)); have n5_ := A0_.mk ((by rw [hg]; exact (bZ_ (xB2_ HB ga ha)) : w.heap.size ≤ fa)); have n6_ := A0_.mk ((by rw [hg]; exact Nat.ne_of_lt (blk_lt (g := ca) (o := .cells #[.bool a0_0, .string a0_1, .string a0_2] 26 (0, 0)) (xK_ aa.out)) : ca ≠ fa)); have n7_ := A0_.mk ((by rw [hg]; exact Nat.ne_of_gt (blk_lt (g := ca) (o := .cells #[.bool a0_0, .string a0_1, .string a0_2] 26 (0, 0)) (xK_ aa.out)) : fa ≠ ca)); have n8_ := A0_.mk ((by rw [hg]; exact Nat.ne_of_lt (blk_lt (g := da) (o := .cells #[.bool a1_0, .string a1_1, .string a1_2] 26 (0, 0)) (xK_ ba.out)) : da ≠ fa)); have n9_ := A0_.mk ((by rw [hg]; exact Nat.ne_of_gt (blk_lt (g := da) (o := .cells #[.bool a1_0, .string a1_1, .string a1_2] 26 (0, 0)) (xK_ ba.out)) : fa ≠ da)); clear aa ba HB; have aa := n0_; have ba := n1_; have HB := n2_; have ea := n3_; have za := n4_; have ia := n5_; have pa := n6_; have qa := n7_; have ra := n8_; have sa := n9_; clear n0_ n1_ n2_ n3_ n4_ n5_ n6_ n7_ n8_ n9_; clear hb hbox hg; have hnb22 := na.out; have hnc22 := oa.out; have hnb23 := pa.out; have hnc23 := qa.out; have Ya : w21.cell? ⟨ca, 0, none⟩ = some (.bool a0_0) := (kc_ aa.out 0).trans rfl; have Za : w21.cell? ⟨ca, 1, none⟩ = some (.string a0_1) := (kc_ aa.out 1).trans rfl; have ab : w21.cell? ⟨ca, 2, none⟩ = some (.string a0_2) := (kc_ aa.out 2).trans rfl; have bb := kF_ aa.out 0; have cb := kF_ aa.out 1; have db := kF_ aa.out 2; have hnb25 := ra.out; have hnc25 := sa.out; have eb : w21.cell? ⟨da, 0, none⟩ = some (.bool a1_0) := (kc_ ba.out 0).trans rfl; have fb : w21.cell? ⟨da, 1, none⟩ = some (.string a1_1) := (kc_ ba.out 1).trans rfl; have gb : w21.cell? ⟨da, 2, none⟩ = some (.string a1_2) := (kc_ ba.out 2).trans rfl; have ib := kF_ ba.out 0; have jb := kF_ ba.out 1; have kb := kF_ ba.out 2) | ((with_reducible refine gC_ (f := 20) rfl ?_); refine gL_ (some 7) rfl rfl Tryd.func20 kr_ rfl #[.agg #[.bool a0_0, .string a0_1, .string a0_2], .agg #[.bool a1_0, .string a1_1, .string a1_2]] rfl mp_ ?_; (with_reducible refine (q_Compare.calls k a0_0 a0_1 a0_2 a1_0 a1_1 a1_2 ja _ A3.out).mono ?_); rintro e w27 ⟨rfl, hb⟩; refine ⟨_, rfl, ?_⟩; have n0_ := A0_.mk (kB_ (g := ca) (o := .cells #[.bool a0_0, .string a0_1, .string a0_2] 26 (0, 0)) (xK_ aa.out) hb); have n1_ := A0_.mk (kB_ (g := da) (o := .cells #[.bool a1_0, .string a1_1, .string a1_2] 26 (0, 0)) (xK_ ba.out) hb); have n2_ := A0_.mk (kB_ (g := fa) (o := .cells zC_ 26 (0, 0)) (xK_ ea.out) hb); have n3_ := A0_.mk (bT_ (xB3_ HB ga ha ia) hb); clear aa ba ea HB; have aa := n0_; have ba := n1_; have ea := n2_; have HB := n3_; clear n0_ n1_ n2_ n3_; (try clear hb); (try clear hb2); (try clear hk); (try clear hi); have mb : w27.cell? ⟨da, 0, none⟩ = some (.bool a1_0) := (kc_ ba.out 0).trans rfl; have nb : w27.cell? ⟨da, 1, none⟩ = some (.string a1_1) := (kc_ ba.out 1).trans rfl; have ob : w27.cell? ⟨da, 2, none⟩ = some (.string a1_2) := (kc_ ba.out 2).trans rfl; have pb := kF_ ba.out 0; have qb := kF_ ba.out 1; have rb := kF_ ba.out 2) | ((with_reducible refine gC_ (f := 43) rfl ?_); refine gL_ (some 12) rfl rfl Tryd.func43 kr_ rfl #[.agg #[.bool a1_0, .string a1_1, .string a1_2]] rfl mp_ ?_; (with_reducible refine (q_clean.calls k a1_0 a1_1 a1_2 la ta va _ A18.out).mono ?_); rintro e w29 ⟨rfl, hb⟩; refine ⟨_, rfl, ?_⟩; have n0_ := A0_.mk (kB_ (g := ca) (o := .cells #[.bool a0_0, .string a0_1, .string a0_2] 26 (0, 0)) (xK_ aa.out) hb); have n1_ := A0_.mk (kB_ (g := da) (o := .cells #[.bool a1_0, .string a1_1, .string a1_2] 26 (0, 0)) (xK_ ba.out) hb); have n2_ := A0_.mk (kB_ (g := fa) (o := .cells zC_ 26 (0, 0)) (xK_ ea.out) hb); have n3_ := A0_.mk (bT_ (xB3_ HB ga ha ia) hb); clear aa ba ea HB; have aa := n0_; have ba := n1_; have ea := n2_; have HB := n3_; clear n0_ n1_ n2_ n3_; (try clear hb); (try clear hb2); (try clear hk); (try clear hi); have sb : w29.cell? ⟨fa, 0, none⟩ = some (.bool false) := (kc_ ea.out 0).trans rfl; have tb : w29.cell? ⟨fa, 1, none⟩ = some (.string (⟨#[]⟩ : ByteArray)) := (kc_ ea.out 1).trans rfl; have ub : w29.cell? ⟨fa, 2, none⟩ = some (.string (⟨#[]⟩ : ByteArray)) := (kc_ ea.out 2).trans rfl; have vb := kF_ ea.out 0; have wb := kF_ ea.out 1; have xb := kF_ ea.out 2))
  refine bodyPost_ret (results_cell_row rfl _ _ fa 26 #[.bool la, .string ta, .string va] (0, 0) _ rfl (by (with_reducible repeat (first | apply kN_ | apply kD_ | apply kA_)); refine kP_ (cs := #[.bool la, .string ta, .string (⟨#[]⟩ : ByteArray)]) ?_ 2 _ rfl; (with_reducible repeat (first | apply kN_ | apply kD_ | apply kA_)); refine kP_ (cs := #[.bool la, .string (⟨#[]⟩ : ByteArray), .string (⟨#[]⟩ : ByteArray)]) ?_ 1 _ rfl; (with_reducible repeat (first | apply kN_ | apply kD_ | apply kA_)); refine kP_ (cs := zC_) ?_ 0 _ rfl; (with_reducible repeat (first | apply kN_ | apply kD_ | apply kA_)); exact ea.out) Tryd.underlying26 rfl kr_) rfl ?_
  exact ⟨rE_, xB3_ HB ga ha ia⟩
def bits_Add32.f (a0 : Int) (a1 : Int) (a2 : Int) : Option (Int × Int) := some ((IntKind.u64.wrap ((IntKind.u64.wrap ((IntKind.u64.wrap (a0)) + (IntKind.u64.wrap (a1)))) + (IntKind.u64.wrap (a2)))) % 4294967296, ((IntKind.u64.wrap ((IntKind.u64.wrap ((IntKind.u64.wrap (a0)) + (IntKind.u64.wrap (a1)))) + (IntKind.u64.wrap (a2)))) / 4294967296) % 4294967296)
theorem bits_Add32.calls (a0 : Int) (a1 : Int) (a2 : Int) (r1 : Int) (r2 : Int) (w : World) (h : bits_Add32.f a0 a1 a2 = some (r1, r2)) :
  Calls Tryd.prog 80 #[.int .u32 a0, .int .u32 a1, .int .u32 a2] w fun e w' => e = .returned (.tuple #[.int .u32 r1, .int .u32 r2]) ∧ D0_ w w' := by
 have H := h
 unfold bits_Add32.f at H
 clear h
 simp only [Option.some.injEq, Prod.mk.injEq] at H
 obtain ⟨rfl, rfl⟩ := H
 go_enter Tryd.func80, Tryd.ntmps80
 go_wp2
 go_ret2
 exact ⟨rS_, by repeat (first | exact D0_.refl _ | apply D0_.step)⟩
mutual
def n_Add.j0 : Nat → List Int → List Int → Option (ByteArray)
 | 0, _, _ => none
 | k + 1, x5, x6 => if 0 ≤ (wrap64 ((x5.length : Int) + 1)) then (if (wrap64 ((x5.length : Int) + 1) : Int).toNat ≤ 70368744177664 then (n_Add.l0 k x5 x6 (List.replicate (wrap64 ((x5.length : Int) + 1) : Int).toNat 0) 0 (x5.length : Int) 0) else (none)) else (none)
def n_Add.l0 : Nat → List Int → List Int → List Int → Int → Int → Int → Option (ByteArray)
 | 0, _, _, _, _, _, _ => none
 | k + 1, x5, x6, x7, x8, x27, x28 => if x28 < x27 then (if x28 < (x6.length : Int) then (if 0 ≤ x28 then (if x28 < (x5.length : Int) then ((bits_Add32.f (rd x5 x28) (rd x6 x28) x8).bind fun bt307 => (if x28 < (x7.length : Int) then (n_Add.l0 k x5 x6 (x7.set (x28 : Int).toNat bt307.1) bt307.2 x27 (wrap64 (x28 + 1))) else (none))) else (none)) else (none)) else (if 0 ≤ x28 then (if x28 < (x5.length : Int) then ((bits_Add32.f (rd x5 x28) 0 x8).bind fun bt311 => (if x28 < (x7.length : Int) then (n_Add.l0 k x5 x6 (x7.set (x28 : Int).toNat bt311.1) bt311.2 x27 (wrap64 (x28 + 1))) else (none))) else (none)) else (none))) else (if 0 ≤ (x5.length : Int) then (if (x5.length : Int) < (x7.length : Int) then ((n_limbs_text.f k (x7.set ((x5.length : Int) : Int).toNat x8)).bind fun t315 => (some t315)) else (none)) else (none))
end
def n_Add.f (k : Nat) (a0 : ByteArray) (a1 : ByteArray) : Option (ByteArray) := (n_parse.f k a0).bind fun t296 => ((n_parse.f k a1).bind fun t299 => (if (t296.length : Int) < (t299.length : Int) then (n_Add.j0 k t299 t296) else (n_Add.j0 k t296 t299)))
theorem n_Add.mono_l : ∀ k, (∀ y0 y1, LeO (n_Add.j0 k y0 y1) (n_Add.j0 (k + 1) y0 y1)) ∧ (∀ y0 y1 y2 y3 y4 y5, LeO (n_Add.l0 k y0 y1 y2 y3 y4 y5) (n_Add.l0 (k + 1) y0 y1 y2 y3 y4 y5))
 | 0 => ⟨fun _ _ r h => by simp [n_Add.j0] at h, fun _ _ _ _ _ _ r h => by simp [n_Add.l0] at h⟩
 | k + 1 => by
  obtain ⟨ih0, ih1⟩ := n_Add.mono_l k
  refine ⟨?_, ?_⟩
  ·intro y0 y1
   unfold n_Add.j0
   repeat' first
   | (with_reducible first | exact ih0 _ _ | exact ih1 _ _ _ _ _ _ | exact n_limbs_text.mono _ _ | exact n_parse.mono _ _ | exact LeO.refl _ | exact LeO.none _ | refine LeO.ite ?_ ?_ | refine LeO.bind ?_ (fun _ => ?_))
  ·intro y0 y1 y2 y3 y4 y5
   unfold n_Add.l0
   repeat' first
   | (with_reducible first | exact ih0 _ _ | exact ih1 _ _ _ _ _ _ | exact n_limbs_text.mono _ _ | exact n_parse.mono _ _ | exact LeO.refl _ | exact LeO.none _ | refine LeO.ite ?_ ?_ | refine LeO.bind ?_ (fun _ => ?_))
theorem n_Add.mono : ∀ a0 a1 k, LeO (n_Add.f k a0 a1) (n_Add.f (k + 1) a0 a1) := by
 intro a0 a1 k
 obtain ⟨ih0, ih1⟩ := n_Add.mono_l k
 unfold n_Add.f
 repeat' first
   | (with_reducible first | exact ih0 _ _ | exact ih1 _ _ _ _ _ _ | exact n_limbs_text.mono _ _ | exact n_parse.mono _ _ | exact LeO.refl _ | exact LeO.none _ | refine LeO.ite ?_ ?_ | refine LeO.bind ?_ (fun _ => ?_))
theorem n_Add.calls (k : Nat) (a0 : ByteArray) (a1 : ByteArray) (r : ByteArray) (w : World) (h : n_Add.f k a0 a1 = some r) :
  Calls Tryd.prog 66 #[.string a0, .string a1] w fun e w' => e = .returned (.string r) ∧ Below w.heap.size w w' := by
 have HB := A0_.mk (Below.refl w.heap.size w)
 have H := h
 unfold n_Add.f at H
 clear h
 obtain ⟨la, A3, H⟩ := oB_ H
 (try dsimp only at H)
 obtain ⟨ma, A4, H⟩ := oB_ H
 (try dsimp only at H)
 have HC5 := A0_.mk H
 clear H
 go_enter Tryd.func66, Tryd.ntmps66
 go_upto_if 19 with (first | ((with_reducible refine gC_ (f := 64) rfl ?_); refine gL_ (some 12) rfl rfl Tryd.func64 kr_ rfl #[.string a0] rfl mp_ ?_; (with_reducible refine (n_parse.calls k a0 la _ A3.out).mono ?_); rintro e w6 ⟨Db, rfl, ho0, hb⟩; refine ⟨_, rfl, ?_⟩; have n0_ := A0_.mk (Kd.rL_ ho0 (bZ_ (xB_ HB))); have n1_ := A0_.mk (bT_ (xB_ HB) hb); clear HB; have oa := n0_; have HB := n1_; clear n0_ n1_; (try clear hb); (try clear hb2); (try clear hk); (try clear hi); (try clear ho0)) | ((with_reducible refine gC_ (f := 64) rfl ?_); refine gL_ (some 14) rfl rfl Tryd.func64 kr_ rfl #[.string a1] rfl mp_ ?_; (with_reducible refine (n_parse.calls k a1 ma _ A4.out).mono ?_); rintro e w7 ⟨Eb, rfl, ho0, hb⟩; refine ⟨_, rfl, ?_⟩; have n0_ := A0_.mk (Kd.R_elder' (xR_ oa.out) (Kd.R_base ho0) hb); have n1_ := A0_.mk (Kd.rL_ (Kd.R_new' ho0 (Kd.R_lt (xR_ oa.out))) (bZ_ (xB_ HB))); have n2_ := A0_.mk (bT_ (xB_ HB) hb); clear oa HB; have oa := n0_; have Ma := n1_; have HB := n2_; clear n0_ n1_ n2_; (try clear hb); (try clear hb2); (try clear hk); (try clear hi); (try clear ho0); obtain ⟨Ao8, co8, eo8⟩ := Kd.rS_' oa.out; subst eo8; obtain ⟨Ao9, co9, eo9⟩ := Kd.rS_' Ma.out; subst eo9))
 (try simp only [Act.put, s1_, s2_, s3_])
 go_cut [5, 6] (fun v5 v6 wc => ∃ (kq : Nat) (aa : List Int) (ga : List Int), A0_ (n_Add.j0 kq aa ga = some r) ∧ A0_ (kq ≤ k) ∧ A0_ (Kd.R (Kd.int .u32) 89 wc w.heap.size (fun k_ => some k_ ≠ (v6 : Value).ownBlock) v5 aa) ∧ A0_ (Kd.R (Kd.int .u32) 89 wc w.heap.size (fun k_ => some k_ ≠ (v5 : Value).ownBlock) v6 ga) ∧ A0_ (Below w.heap.size w wc))
 case first =>
  have H := HC5.out
  clear HC5
  by_cases c10 : (la.length : Int) < (ma.length : Int)
  ·rw [if_pos c10] at H
   have pa : decide ((la.length : Int) < (ma.length : Int)) = true := decide_eq_true c10
   have va : decide (la.length < ma.length) = true := decide_eq_true (Int.ofNat_lt.mp c10)
   clear c10
   (first | rw [pa] | rw [va] | (simp only [i6_, i3_]; rw [pa]) | skip)
   have H' := A0_.mk H
   clear H
   go_wp2
   go_meet
   case rel => exact ⟨_, (ma), (la), H', ⟨by first | omega | exact Nat.le_refl _⟩, ⟨by (with_reducible repeat (first | apply Kd.R_alloc | apply Kd.rN_ | apply Kd.rD_)); exact Kd.rM_ Ma.out (fun _ hk => hk.2)⟩, ⟨by (with_reducible repeat (first | apply Kd.R_alloc | apply Kd.rN_ | apply Kd.rD_)); exact Kd.rM_ oa.out (fun _ hk => hk.2)⟩, ⟨xB_ HB⟩⟩
  ·rw [if_neg c10] at H
   have pa : decide ((la.length : Int) < (ma.length : Int)) = false := decide_eq_false c10
   have va : decide (la.length < ma.length) = false := decide_eq_false (fun h => c10 (Int.ofNat_lt.mpr h))
   clear c10
   (first | rw [pa] | rw [va] | (simp only [i6_, i3_]; rw [pa]) | skip)
   have H' := A0_.mk H
   clear H
   go_wp2
   go_meet
   case rel => exact ⟨_, (la), (ma), H', ⟨by first | omega | exact Nat.le_refl _⟩, ⟨by (with_reducible repeat (first | apply Kd.R_alloc | apply Kd.rN_ | apply Kd.rD_)); exact Kd.rM_ oa.out (fun _ hk => hk.2)⟩, ⟨by (with_reducible repeat (first | apply Kd.R_alloc | apply Kd.rN_ | apply Kd.rD_)); exact Kd.rM_ Ma.out (fun _ hk => hk.2)⟩, ⟨xB_ HB⟩⟩
 case rest =>
  clear HC5
  try clear c1
  try clear p2
  try clear c6
  try clear c10
  try clear pa
  try clear va
  obtain ⟨kq, aa, ga, HA, HJ4, ea, fa, HB⟩ := hcut
  cases kq with
  | zero => exact absurd HA.out (by simp [n_Add.j0])
  | succ kj4 =>
   have H := HA.out
   clear HA
   simp only [n_Add.j0] at H
   obtain ⟨ia, Ja⟩ : ∃ j_ : Int, (wrap64 ((aa.length : Int) + 1)) = j_ := ⟨_, rfl⟩
   replace H : (if 0 ≤ (ia) then (if (ia : Int).toNat ≤ 70368744177664 then (n_Add.l0 kj4 aa ga (List.replicate (ia : Int).toNat 0) 0 (aa.length : Int) 0) else (none)) else (none)) = some r := by first | (rw [Ja] at H; exact H) | (simp only [Ja] at H ⊢; exact H)
   have Fb : (IntKind.i64.wrap ((aa.length : Int) + 1)) = ia := (i6_ _).trans Ja
   by_cases c12 : 0 ≤ (ia)
   rotate_left
   ·rw [if_neg c12] at H
    exact absurd H (by simp)
   rw [if_pos c12] at H
   have kb := eq_true c12
   have mb : decide (0 ≤ (ia)) = true := decide_eq_true c12
   clear c12
   by_cases c13 : (ia : Int).toNat ≤ 70368744177664
   rotate_left
   ·rw [if_neg c13] at H
    exact absurd H (by simp)
   rw [if_pos c13] at H
   have nb := eq_true c13
   have ob : decide ((ia : Int).toNat ≤ 70368744177664) = true := decide_eq_true c13
   clear c13
   obtain ⟨Ya, wa⟩ : ∃ y_ : List Int, y_ = (List.replicate (ia : Int).toNat 0) := ⟨_, rfl⟩
   replace H : (n_Add.l0 kj4 aa ga Ya 0 (aa.length : Int) 0) = some r := by first | (rw [wa]; with_reducible exact H) | (have H2_ := (Option.bind_some _ _).symm.trans H; rw [wa]; with_reducible exact H2_) | (have H2_ := (Option.bind_some _ _).symm.trans H; with_reducible exact H2_) | with_reducible exact H | (rw [wa]; exact H) | exact H
   have Za := A0_.mk wa
   clear wa
   have H' := A0_.mk H
   clear H
   obtain ⟨xa, ha, pb⟩ := Kd.rS_' ea.out
   subst pb
   go_wp2_with (first | ((with_reducible refine gD_ (N := 25) rfl ?_); refine Kd.R_make (Kd.int .u32) _ 89 rfl (N := 25) rfl 87 _ _ rfl ia rfl rfl Tryd.underlying87 (.int .u32 0) 4 info89 rfl (by decide) (by omega) 0 (ok := fun _ => True) (okp := fun _ => True) rfl (fun _ hk => hk) trivial (oD_) (Nat.le_trans (Nat.mul_le_mul_right _ (oD_ : ia.toNat ≤ 70368744177664)) (by omega)) (Below.refl _ _) (Nat.le_refl _) ?_; intro ka w15 qa hb hg_ hnew_; clear hg_ hnew_; (first | rw [← Za.out] at qa | (simp only [Int.reduceToNat] at qa; rw [← Za.out] at qa)); have n0_ := A0_.mk (Kd.R_elder' (xR_ ea.out) (Kd.R_base qa) hb); have n1_ := A0_.mk (Kd.R_elder' (xR_ fa.out) (Kd.R_base qa) hb); have n2_ := A0_.mk (Kd.rL_ (Kd.R_new' (Kd.R_new' qa (Kd.R_lt (xR_ ea.out))) (Kd.R_lt (xR_ fa.out))) (bZ_ (xB_ HB))); have n3_ := A0_.mk (bT_ (xB_ HB) hb); clear ea fa HB; have ea := n0_; have fa := n1_; have qb := n2_; have HB := n3_; clear n0_ n1_ n2_ n3_; clear hb qa))
   go_loopg [8, 28] kj4 (fun kq v8 v28 w' => ∃ (ca : List Int) (ja : Int) (ba : Int), v8 = .int .u32 ja ∧ v28 = .int .i64 ba ∧ A0_ (n_Add.l0 kq aa ga ca ja (aa.length : Int) ba = some r) ∧ A0_ (kq ≤ kj4) ∧ A0_ (Kd.R (Kd.int .u32) 89 w' w.heap.size (fun k_ => some k_ ≠ (u6 : Value).ownBlock ∧ some k_ ≠ (ka : Value).ownBlock) (.slice xa aa.length ha) aa) ∧ A0_ (Kd.R (Kd.int .u32) 89 w' w.heap.size (fun k_ => some k_ ≠ ((.slice xa aa.length ha) : Value).ownBlock ∧ some k_ ≠ (ka : Value).ownBlock) u6 ga) ∧ A0_ (Kd.R (Kd.int .u32) 89 w' w.heap.size (fun k_ => some k_ ≠ ((.slice xa aa.length ha) : Value).ownBlock ∧ some k_ ≠ (u6 : Value).ownBlock) ka ca) ∧ A0_ (Below w.heap.size w w'))
   case atStart => exact ⟨(Ya), (0), (0), (rS_), (rS_), H', ⟨Nat.le_refl _⟩, ⟨by (with_reducible repeat (first | apply Kd.R_alloc | apply Kd.rN_ | apply Kd.rD_)); exact ea.out⟩, ⟨by (with_reducible repeat (first | apply Kd.R_alloc | apply Kd.rN_ | apply Kd.rD_)); exact fa.out⟩, ⟨by (with_reducible repeat (first | apply Kd.R_alloc | apply Kd.rN_ | apply Kd.rD_)); exact Kd.rM_ qb.out (fun _ hk => ⟨hk.1.2, hk.2⟩)⟩, ⟨xB_ HB⟩⟩
   case round =>
    clear H'
    try clear c1
    try clear p2
    try clear c6
    try clear p6
    try clear c10
    try clear pa
    try clear va
    try clear c12
    try clear kb
    try clear mb
    try clear c13
    try clear nb
    try clear ob
    try clear p2
    obtain ⟨ca, ja, ba, rfl, rfl, HA, HK2, ea, fa, da, HB⟩ := hrel
    cases gk with
    | zero => exact absurd HA.out (by simp [n_Add.l0])
    | succ k2 =>
     have H := HA.out
     clear HA
     simp only [n_Add.l0] at H
     by_cases c17 : ba < (aa.length : Int)
     ·rw [if_pos c17] at H
      have rb : decide (ba < (aa.length : Int)) = true := decide_eq_true c17
      clear c17
      by_cases c18 : ba < (ga.length : Int)
      ·rw [if_pos c18] at H
       have sb : decide (ba < (ga.length : Int)) = true := decide_eq_true c18
       clear c18
       by_cases c19 : 0 ≤ ba
       rotate_left
       ·rw [if_neg c19] at H
        exact absurd H (by simp)
       rw [if_pos c19] at H
       have Gb : decide (0 ≤ ba) = true := decide_eq_true c19
       clear c19
       by_cases c20 : ba < (aa.length : Int)
       rotate_left
       ·rw [if_neg c20] at H
        exact absurd H (by simp)
       rw [if_pos c20] at H
       have Hb : decide (ba < (aa.length : Int)) = true := decide_eq_true c20
       clear c20
       obtain ⟨⟨Ka, Na⟩, A21, H⟩ := oB_ H
       (try dsimp only at H)
       by_cases c22 : ba < (ca.length : Int)
       rotate_left
       ·rw [if_neg c22] at H
        exact absurd H (by simp)
       rw [if_pos c22] at H
       have Ib : decide (ba < (ca.length : Int)) = true := decide_eq_true c22
       clear c22
       obtain ⟨Oa, ya⟩ : ∃ y_ : List Int, y_ = (ca.set (ba : Int).toNat Ka) := ⟨_, rfl⟩
       replace H : (n_Add.l0 k2 aa ga Oa Na (aa.length : Int) (wrap64 (ba + 1))) = some r := by first | (rw [ya]; with_reducible exact H) | (have H2_ := (Option.bind_some _ _).symm.trans H; rw [ya]; with_reducible exact H2_) | (have H2_ := (Option.bind_some _ _).symm.trans H; with_reducible exact H2_) | with_reducible exact H | (rw [ya]; exact H) | exact H
       have tb := A0_.mk ya
       clear ya
       have H' := A0_.mk H
       clear H
       obtain ⟨Jb, za, ub⟩ := Kd.rS_' fa.out
       subst ub
       have Pa : 0 ≤ (ba : Int) := oD_
       have Qa : ba < (ga.length : Int) := oD_
       obtain ⟨Aa, vb, Kb⟩ := Kd.at_int (Kd.rr_' fa.out).2.2 ba Pa Qa
       cases vb
       replace Pa := eq_true Pa
       replace Qa := eq_true Qa
       have Ra : 0 ≤ (ba : Int) := oD_
       have Sa : ba < (aa.length : Int) := oD_
       obtain ⟨Ba, wb, Lb⟩ := Kd.at_int (Kd.rr_' ea.out).2.2 ba Ra Sa
       cases wb
       replace Ra := eq_true Ra
       replace Sa := eq_true Sa
       go_wp2_with (first | ((with_reducible refine gC_ (f := 80) rfl ?_); refine gL_ (some 48) rfl rfl Tryd.func80 kr_ rfl #[.int .u32 (rd aa ba), .int .u32 (rd ga ba), .int .u32 ja] rfl mp_ ?_; (with_reducible refine (bits_Add32.calls (rd aa ba) (rd ga ba) ja Ka Na _ A21.out).mono ?_); rintro e w' ⟨rfl, ⟨nd, rfl⟩⟩; refine ⟨_, rfl, ?_⟩; (try (rw [drewN_self wr]; generalize hq_ : World.drewN wr _ = wr; have n0_ : A0_ (Kd.R (Kd.int .u32) 89 wr w.heap.size (fun k_ => some k_ ≠ (.slice (some Aa) ga.length za : Value).ownBlock ∧ some k_ ≠ (ka : Value).ownBlock) (.slice (some Ba) aa.length ha) aa) := ⟨by rw [← hq_]; exact (xR_ ea.out)⟩; have n1_ : A0_ (Kd.R (Kd.int .u32) 89 wr w.heap.size (fun k_ => some k_ ≠ (.slice (some Ba) aa.length ha : Value).ownBlock ∧ some k_ ≠ (ka : Value).ownBlock) (.slice (some Aa) ga.length za) ga) := ⟨by rw [← hq_]; exact (xR_ fa.out)⟩; have n2_ : A0_ (Kd.R (Kd.int .u32) 89 wr w.heap.size (fun k_ => some k_ ≠ (.slice (some Ba) aa.length ha : Value).ownBlock ∧ some k_ ≠ (.slice (some Aa) ga.length za : Value).ownBlock) ka ca) := ⟨by rw [← hq_]; exact (xR_ da.out)⟩; have n3_ : A0_ (Below w.heap.size w wr) := ⟨by rw [← hq_]; exact (xB_ HB)⟩; clear ea fa da HB hq_; have ea := n0_; have fa := n1_; have da := n2_; have HB := n3_; clear n0_ n1_ n2_ n3_)); have p23 : 0 ≤ (ba : Int) := oD_; have q23 : (ba : Int) < ((ca.length : Int) : Int) := oD_; obtain ⟨ra, Ca, ab, bb, gl23, cl23, cb⟩ := Kd.R_form da.out (by omega); (first | cases ab | (injection ab with ea_ en_ ec_; (first | subst ea_ | (injection ea_ with ea_; subst ea_)); subst ec_; clear en_)); have GB23 := A0_.mk bb; have GG23 := A0_.mk cb; clear bb gl23 cb; obtain ⟨Mb, Nb⟩ := Kd.R_celln 0 da.out (ba : Int) p23 q23; replace p23 := eq_true p23; replace q23 := eq_true q23; obtain ⟨Ob, Pb⟩ := Kd.R_celln 0 da.out (ba : Int) (oD_) (oD_); have HP25 := Kd.R_putg da.out (ba : Int) Ka) | ((with_reducible refine gate_store (t := 89) (p := 51) rfl ?_); refine store_event (t := 89) (p := 51) (v := ?vo_w26) (w1 := (wr.setCell ⟨ra, (ba : Int).toNat, none⟩ (.int .u32 Ka))) ?hg ?ho ?hn ?hr ?_; (case ho => rfl); (case hg => rfl); (case hn => rfl); (case hr => first | (go_simp; done) | (go_simp; rfl)); intro w26 hw; have hg : wr.grownBy w26 (some ra) := (by rw [hw]; exact HP25.2); have hp_ : Kd.R (Kd.int .u32) 89 w26 w.heap.size (fun k_ => some k_ ≠ (.slice (some Ba) aa.length ha : Value).ownBlock ∧ some k_ ≠ (.slice (some Aa) ga.length za : Value).ownBlock) (.slice (some ⟨ra, 0, none⟩) ca.length Ca) Oa := (by rw [hw, tb.out]; exact HP25.1); clear HP25; have n0_ := A0_.mk (Kd.R_after (v := (.slice (some ⟨ra, 0, none⟩) ca.length Ca)) (v1 := (.slice (some ⟨ra, 0, none⟩) ca.length Ca)) (ok := (fun k_ => some k_ ≠ (.slice (some Aa) ga.length za : Value).ownBlock)) (xR_ ea.out) hg (.inl rfl)); have n1_ := A0_.mk (Kd.R_after (v := (.slice (some ⟨ra, 0, none⟩) ca.length Ca)) (v1 := (.slice (some ⟨ra, 0, none⟩) ca.length Ca)) (ok := (fun k_ => some k_ ≠ (.slice (some Ba) aa.length ha : Value).ownBlock)) (xR_ fa.out) hg (.inl rfl)); have n2_ := A0_.mk (hp_); have n3_ := A0_.mk ((by rw [hw]; exact bS_ (HB.out) GB23.out : Below w.heap.size w w26)); clear ea fa da HB; have ea := n0_; have fa := n1_; have da := n2_; have HB := n3_; clear n0_ n1_ n2_ n3_; clear hg hw hp_))
       (try simp only [ap_])
       go_roundg k2
       case measure => have := HJ4.out; have := HK2.out; omega
       case rel => exact ⟨(Oa), (Na), (wrap64 (ba + 1)), (rS_), (rS_), H', ⟨by have := HJ4.out; have := HK2.out; omega⟩, ⟨by (with_reducible repeat (first | apply Kd.R_alloc | apply Kd.rN_ | apply Kd.rD_)); exact ea.out⟩, ⟨by (with_reducible repeat (first | apply Kd.R_alloc | apply Kd.rN_ | apply Kd.rD_)); exact fa.out⟩, ⟨by (with_reducible repeat (first | apply Kd.R_alloc | apply Kd.rN_ | apply Kd.rD_)); exact da.out⟩, ⟨xB_ HB⟩⟩
      ·rw [if_neg c18] at H
       have sb : decide (ba < (ga.length : Int)) = false := decide_eq_false c18
       clear c18
       by_cases c27 : 0 ≤ ba
       rotate_left
       ·rw [if_neg c27] at H
        exact absurd H (by simp)
       rw [if_pos c27] at H
       have Qb : decide (0 ≤ ba) = true := decide_eq_true c27
       clear c27
       by_cases c28 : ba < (aa.length : Int)
       rotate_left
       ·rw [if_neg c28] at H
        exact absurd H (by simp)
       rw [if_pos c28] at H
       have Rb : decide (ba < (aa.length : Int)) = true := decide_eq_true c28
       clear c28
       obtain ⟨⟨La, Ta⟩, A29, H⟩ := oB_ H
       (try dsimp only at H)
       by_cases c30 : ba < (ca.length : Int)
       rotate_left
       ·rw [if_neg c30] at H
        exact absurd H (by simp)
       rw [if_pos c30] at H
       have Sb : decide (ba < (ca.length : Int)) = true := decide_eq_true c30
       clear c30
       obtain ⟨Ua, Da⟩ : ∃ y_ : List Int, y_ = (ca.set (ba : Int).toNat La) := ⟨_, rfl⟩
       replace H : (n_Add.l0 k2 aa ga Ua Ta (aa.length : Int) (wrap64 (ba + 1))) = some r := by first | (rw [Da]; with_reducible exact H) | (have H2_ := (Option.bind_some _ _).symm.trans H; rw [Da]; with_reducible exact H2_) | (have H2_ := (Option.bind_some _ _).symm.trans H; with_reducible exact H2_) | with_reducible exact H | (rw [Da]; exact H) | exact H
       have xb := A0_.mk Da
       clear Da
       have H' := A0_.mk H
       clear H
       obtain ⟨Ea, Fa, yb⟩ := Kd.rS_' fa.out
       subst yb
       have Va : 0 ≤ (ba : Int) := oD_
       have Wa : ba < (aa.length : Int) := oD_
       obtain ⟨Ga, zb, Tb⟩ := Kd.at_int (Kd.rr_' ea.out).2.2 ba Va Wa
       cases zb
       replace Va := eq_true Va
       replace Wa := eq_true Wa
       go_wp2_with (first | ((with_reducible refine gC_ (f := 80) rfl ?_); refine gL_ (some 48) rfl rfl Tryd.func80 kr_ rfl #[.int .u32 (rd aa ba), .int .u32 0, .int .u32 ja] rfl mp_ ?_; (with_reducible refine (bits_Add32.calls (rd aa ba) 0 ja La Ta _ A29.out).mono ?_); rintro e w' ⟨rfl, ⟨nd, rfl⟩⟩; refine ⟨_, rfl, ?_⟩; (try (rw [drewN_self wr]; generalize hq_ : World.drewN wr _ = wr; have n0_ : A0_ (Kd.R (Kd.int .u32) 89 wr w.heap.size (fun k_ => some k_ ≠ (.slice Ea ga.length Fa : Value).ownBlock ∧ some k_ ≠ (ka : Value).ownBlock) (.slice (some Ga) aa.length ha) aa) := ⟨by rw [← hq_]; exact (xR_ ea.out)⟩; have n1_ : A0_ (Kd.R (Kd.int .u32) 89 wr w.heap.size (fun k_ => some k_ ≠ (.slice (some Ga) aa.length ha : Value).ownBlock ∧ some k_ ≠ (ka : Value).ownBlock) (.slice Ea ga.length Fa) ga) := ⟨by rw [← hq_]; exact (xR_ fa.out)⟩; have n2_ : A0_ (Kd.R (Kd.int .u32) 89 wr w.heap.size (fun k_ => some k_ ≠ (.slice (some Ga) aa.length ha : Value).ownBlock ∧ some k_ ≠ (.slice Ea ga.length Fa : Value).ownBlock) ka ca) := ⟨by rw [← hq_]; exact (xR_ da.out)⟩; have n3_ : A0_ (Below w.heap.size w wr) := ⟨by rw [← hq_]; exact (xB_ HB)⟩; clear ea fa da HB hq_; have ea := n0_; have fa := n1_; have da := n2_; have HB := n3_; clear n0_ n1_ n2_ n3_)); have p31 : 0 ≤ (ba : Int) := oD_; have q31 : (ba : Int) < ((ca.length : Int) : Int) := oD_; obtain ⟨sa, Ha, db, eb, gl31, cl31, fb⟩ := Kd.R_form da.out (by omega); (first | cases db | (injection db with ea_ en_ ec_; (first | subst ea_ | (injection ea_ with ea_; subst ea_)); subst ec_; clear en_)); have GB31 := A0_.mk eb; have GG31 := A0_.mk fb; clear eb gl31 fb; obtain ⟨Ub, Vb⟩ := Kd.R_celln 0 da.out (ba : Int) p31 q31; replace p31 := eq_true p31; replace q31 := eq_true q31; obtain ⟨Wb, Xb⟩ := Kd.R_celln 0 da.out (ba : Int) (oD_) (oD_); have HP33 := Kd.R_putg da.out (ba : Int) La) | ((with_reducible refine gate_store (t := 89) (p := 51) rfl ?_); refine store_event (t := 89) (p := 51) (v := ?vo_w34) (w1 := (wr.setCell ⟨sa, (ba : Int).toNat, none⟩ (.int .u32 La))) ?hg ?ho ?hn ?hr ?_; (case ho => rfl); (case hg => rfl); (case hn => rfl); (case hr => first | (go_simp; done) | (go_simp; rfl)); intro w34 hw; have hg : wr.grownBy w34 (some sa) := (by rw [hw]; exact HP33.2); have hp_ : Kd.R (Kd.int .u32) 89 w34 w.heap.size (fun k_ => some k_ ≠ (.slice (some Ga) aa.length ha : Value).ownBlock ∧ some k_ ≠ (.slice Ea ga.length Fa : Value).ownBlock) (.slice (some ⟨sa, 0, none⟩) ca.length Ha) Ua := (by rw [hw, xb.out]; exact HP33.1); clear HP33; have n0_ := A0_.mk (Kd.R_after (v := (.slice (some ⟨sa, 0, none⟩) ca.length Ha)) (v1 := (.slice (some ⟨sa, 0, none⟩) ca.length Ha)) (ok := (fun k_ => some k_ ≠ (.slice Ea ga.length Fa : Value).ownBlock)) (xR_ ea.out) hg (.inl rfl)); have n1_ := A0_.mk (Kd.R_after (v := (.slice (some ⟨sa, 0, none⟩) ca.length Ha)) (v1 := (.slice (some ⟨sa, 0, none⟩) ca.length Ha)) (ok := (fun k_ => some k_ ≠ (.slice (some Ga) aa.length ha : Value).ownBlock)) (xR_ fa.out) hg (.inl rfl)); have n2_ := A0_.mk (hp_); have n3_ := A0_.mk ((by rw [hw]; exact bS_ (HB.out) GB31.out : Below w.heap.size w w34)); clear ea fa da HB; have ea := n0_; have fa := n1_; have da := n2_; have HB := n3_; clear n0_ n1_ n2_ n3_; clear hg hw hp_))
       (try simp only [ap_])
       go_roundg k2
       case measure => have := HJ4.out; have := HK2.out; omega
       case rel => exact ⟨(Ua), (Ta), (wrap64 (ba + 1)), (rS_), (rS_), H', ⟨by have := HJ4.out; have := HK2.out; omega⟩, ⟨by (with_reducible repeat (first | apply Kd.R_alloc | apply Kd.rN_ | apply Kd.rD_)); exact ea.out⟩, ⟨by (with_reducible repeat (first | apply Kd.R_alloc | apply Kd.rN_ | apply Kd.rD_)); exact fa.out⟩, ⟨by (with_reducible repeat (first | apply Kd.R_alloc | apply Kd.rN_ | apply Kd.rD_)); exact da.out⟩, ⟨xB_ HB⟩⟩
     ·rw [if_neg c17] at H
      have rb : decide (ba < (aa.length : Int)) = false := decide_eq_false c17
      clear c17
      by_cases c35 : 0 ≤ (aa.length : Int)
      rotate_left
      ·rw [if_neg c35] at H
       exact absurd H (by simp)
      rw [if_pos c35] at H
      have Yb : decide (0 ≤ (aa.length : Int)) = true := decide_eq_true c35
      have Zb : decide (0 ≤ aa.length) = true := decide_eq_true (by omega)
      clear c35
      by_cases c36 : (aa.length : Int) < (ca.length : Int)
      rotate_left
      ·rw [if_neg c36] at H
       exact absurd H (by simp)
      rw [if_pos c36] at H
      have ac : decide ((aa.length : Int) < (ca.length : Int)) = true := decide_eq_true c36
      have bc : decide (aa.length < ca.length) = true := decide_eq_true (Int.ofNat_lt.mp c36)
      clear c36
      obtain ⟨ta, Ia⟩ : ∃ y_ : List Int, y_ = (ca.set ((aa.length : Int) : Int).toNat ja) := ⟨_, rfl⟩
      replace H : ((n_limbs_text.f k2 ta).bind fun Xa => (some Xa)) = some r := by first | (rw [Ia]; with_reducible exact H) | (have H2_ := (Option.bind_some _ _).symm.trans H; rw [Ia]; with_reducible exact H2_) | (have H2_ := (Option.bind_some _ _).symm.trans H; with_reducible exact H2_) | with_reducible exact H | (rw [Ia]; exact H) | exact H
      have Ab := A0_.mk Ia
      clear Ia
      obtain ⟨Xa, A38, H⟩ := oB_ H
      (try dsimp only at H)
      obtain rfl := Option.some.inj H
      have p37 : 0 ≤ ((aa.length : Int) : Int) := oD_
      have q37 : ((aa.length : Int) : Int) < ((ca.length : Int) : Int) := oD_
      obtain ⟨na, ua, gb, ib, gl37, cl37, jb⟩ := Kd.R_form da.out (by omega)
      (first | cases gb | (injection gb with ea_ en_ ec_; (first | subst ea_ | (injection ea_ with ea_; subst ea_)); subst ec_; clear en_))
      have GB37 := A0_.mk ib
      have GG37 := A0_.mk jb
      clear ib gl37 jb
      obtain ⟨Bb, Cb⟩ := Kd.R_celln 0 da.out ((aa.length : Int) : Int) p37 q37
      (try simp only [Int.toNat_natCast] at Bb Cb)
      replace p37 := eq_true p37
      replace q37 := eq_true q37
      have HP39 := Kd.R_putg da.out ((aa.length : Int) : Int) ja
      go_wp2_with (first | ((with_reducible refine gate_store (t := 89) (p := 57) rfl ?_); refine store_event (t := 89) (p := 57) (v := ?vo_w40) (w1 := (wr.setCell ⟨na, ((aa.length : Int) : Int).toNat, none⟩ (.int .u32 ja))) ?hg ?ho ?hn ?hr ?_; (case ho => rfl); (case hg => rfl); (case hn => rfl); (case hr => first | (go_simp; done) | (go_simp; rfl)); intro w40 hw; have hg : wr.grownBy w40 (some na) := (by rw [hw]; exact HP39.2); have hp_ : Kd.R (Kd.int .u32) 89 w40 w.heap.size (fun k_ => some k_ ≠ (.slice xa aa.length ha : Value).ownBlock ∧ some k_ ≠ (u6 : Value).ownBlock) (.slice (some ⟨na, 0, none⟩) ca.length ua) ta := (by rw [hw, Ab.out]; exact HP39.1); clear HP39; have n0_ := A0_.mk (Kd.R_after (v := (.slice (some ⟨na, 0, none⟩) ca.length ua)) (v1 := (.slice (some ⟨na, 0, none⟩) ca.length ua)) (ok := (fun k_ => some k_ ≠ (u6 : Value).ownBlock)) (xR_ ea.out) hg (.inl rfl)); have n1_ := A0_.mk (Kd.R_after (v := (.slice (some ⟨na, 0, none⟩) ca.length ua)) (v1 := (.slice (some ⟨na, 0, none⟩) ca.length ua)) (ok := (fun k_ => some k_ ≠ (.slice xa aa.length ha : Value).ownBlock)) (xR_ fa.out) hg (.inl rfl)); have n2_ := A0_.mk (hp_); have n3_ := A0_.mk ((by rw [hw]; exact bS_ (HB.out) GB37.out : Below w.heap.size w w40)); clear ea fa da HB; have ea := n0_; have fa := n1_; have da := n2_; have HB := n3_; clear n0_ n1_ n2_ n3_; clear hg hw hp_) | ((with_reducible refine gC_ (f := 65) rfl ?_); refine gL_ (some 59) rfl rfl Tryd.func65 kr_ rfl #[.slice (some ⟨na, 0, none⟩) ta.length ua] rfl (by (try simp only [List.map_toArray, List.map_cons, List.map_nil]); first | done | (rw [show ta.length = ca.length from (Kd.rr_' da.out).1.symm] <;> rfl) | rfl | (simp only [List.length_drop, List.length_take]; rfl)) ?_; (with_reducible refine (n_limbs_text.calls k2 _ _ ta Xa _ ?side1 ?side2 A38.out).mono ?_); (case side1 => repeat (first | exact (Kd.rr_' da.out).2.2 | (with_reducible refine Kd.C_alloc ?_ _) | (with_reducible refine Kd.C_drewN ?_ _) | (with_reducible refine Kd.C_drew ?_))); (case side2 => rw [show ta.length = ca.length from (Kd.rr_' da.out).1.symm]; exact (Kd.rr_' da.out).2.1); rintro e w41 ⟨rfl, hb⟩; refine ⟨_, rfl, ?_⟩; have n0_ := A0_.mk (Kd.rB_ (xR_ ea.out) hb); have n1_ := A0_.mk (Kd.rB_ (xR_ fa.out) hb); have n2_ := A0_.mk (Kd.rB_ (xR_ da.out) hb); have n3_ := A0_.mk (bT_ (xB_ HB) hb); clear ea fa da HB; have ea := n0_; have fa := n1_; have da := n2_; have HB := n3_; clear n0_ n1_ n2_ n3_; (try clear hb); (try clear hb2); (try clear hk); (try clear hi)))
      go_ret
      exact ⟨by first | rfl | (simp [eN_', eS_] <;> rfl) | (simp only [← Ja]; first | rfl | (simp [eN_', eS_] <;> rfl)) | (simp [*, eN_', eS_] <;> rfl), xB_ HB⟩
def bits_Sub32.f (a0 : Int) (a1 : Int) (a2 : Int) : Option (Int × Int) := some ((((a0 - a1) % 4294967296) - a2) % 4294967296, (Go.bits .or .u32 (Go.bits .and .u32 (Go.bits .xor .u32 4294967295 a0) a1) (Go.bits .and .u32 (Go.bits .xor .u32 4294967295 (Go.bits .xor .u32 a0 a1)) ((((a0 - a1) % 4294967296) - a2) % 4294967296))) / 2147483648)
theorem bits_Sub32.calls (a0 : Int) (a1 : Int) (a2 : Int) (r1 : Int) (r2 : Int) (w : World) (h : bits_Sub32.f a0 a1 a2 = some (r1, r2)) :
  Calls Tryd.prog 101 #[.int .u32 a0, .int .u32 a1, .int .u32 a2] w fun e w' => e = .returned (.tuple #[.int .u32 r1, .int .u32 r2]) ∧ D0_ w w' := by
 have H := h
 unfold bits_Sub32.f at H
 clear h
 simp only [Option.some.injEq, Prod.mk.injEq] at H
 obtain ⟨rfl, rfl⟩ := H
 go_enter Tryd.func101, Tryd.ntmps101
 go_wp2
 go_ret2
 exact ⟨rS_, by repeat (first | exact D0_.refl _ | apply D0_.step)⟩
def n_subtract.l0 : Nat → List Int → List Int → List Int → Int → Int → Int → Option (List Int)
 | 0, _, _, _, _, _, _ => none
 | k + 1, x0, x1, x5, x6, x13, x14 => if x14 < x13 then (if x14 < (x1.length : Int) then (if 0 ≤ x14 then (if x14 < (x0.length : Int) then ((bits_Sub32.f (rd x0 x14) (rd x1 x14) x6).bind fun bt321 => (if x14 < (x5.length : Int) then (n_subtract.l0 k x0 x1 (x5.set (x14 : Int).toNat bt321.1) bt321.2 x13 (wrap64 (x14 + 1))) else (none))) else (none)) else (none)) else (if 0 ≤ x14 then (if x14 < (x0.length : Int) then ((bits_Sub32.f (rd x0 x14) 0 x6).bind fun bt325 => (if x14 < (x5.length : Int) then (n_subtract.l0 k x0 x1 (x5.set (x14 : Int).toNat bt325.1) bt325.2 x13 (wrap64 (x14 + 1))) else (none))) else (none)) else (none))) else ((n_limbs_trim.f k x5).bind fun t328 => (some t328))
def n_subtract.f (k : Nat) (l0 : List Int) (l1 : List Int) : Option (List Int) := if 0 ≤ (l0.length : Int) then (if ((l0.length : Int) : Int).toNat ≤ 70368744177664 then (n_subtract.l0 k l0 l1 (List.replicate ((l0.length : Int) : Int).toNat 0) 0 (l0.length : Int) 0) else (none)) else (none)
theorem n_subtract.mono_l : ∀ k, (∀ y0 y1 y2 y3 y4 y5, LeO (n_subtract.l0 k y0 y1 y2 y3 y4 y5) (n_subtract.l0 (k + 1) y0 y1 y2 y3 y4 y5))
 | 0 => fun _ _ _ _ _ _ r h => by simp [n_subtract.l0] at h
 | k + 1 => by
  have ih0 := n_subtract.mono_l k
  ·intro y0 y1 y2 y3 y4 y5
   unfold n_subtract.l0
   repeat' first
   | (with_reducible first | exact ih0 _ _ _ _ _ _ | exact n_limbs_trim.mono _ _ | exact LeO.refl _ | exact LeO.none _ | refine LeO.ite ?_ ?_ | refine LeO.bind ?_ (fun _ => ?_))
theorem n_subtract.mono : ∀ a0 a1 k, LeO (n_subtract.f k a0 a1) (n_subtract.f (k + 1) a0 a1) := by
 intro a0 a1 k
 have ih0 := n_subtract.mono_l k
 unfold n_subtract.f
 repeat' first
   | (with_reducible first | exact ih0 _ _ _ _ _ _ | exact n_limbs_trim.mono _ _ | exact LeO.refl _ | exact LeO.none _ | refine LeO.ite ?_ ?_ | refine LeO.bind ?_ (fun _ => ?_))
theorem n_subtract.calls (k : Nat) (A0 : Option Addr) (c0 : Nat) (l0 : List Int) (A1 : Option Addr) (c1 : Nat) (l1 : List Int) (r : List Int) (w : World) (hr0 : Kd.C (Kd.int .u32) w A0 l0.length l0) (hc0 : l0.length ≤ c0) (hr1 : Kd.C (Kd.int .u32) w A1 l1.length l1) (hc1 : l1.length ≤ c1) (h : n_subtract.f k l0 l1 = some r) :
  Calls Tryd.prog 82 #[.slice A0 l0.length c0, .slice A1 l1.length c1] w fun e w' => ∃ v0_ : Value, e = .returned (v0_) ∧ Kd.R (Kd.int .u32) 89 w' w.heap.size (fun _ => True) v0_ r ∧ Below w.heap.size w w' := by
 have HR0 := A0_.mk hr0
 have HC0 := A0_.mk hc0
 clear hr0 hc0
 have HR1 := A0_.mk hr1
 have HC1 := A0_.mk hc1
 clear hr1 hc1
 have HB := A0_.mk (Below.refl w.heap.size w)
 have H := h
 unfold n_subtract.f at H
 clear h
 by_cases c3 : 0 ≤ (l0.length : Int)
 rotate_left
 ·rw [if_neg c3] at H
  exact absurd H (by simp)
 rw [if_pos c3] at H
 have Ja := eq_true c3
 have Ka : decide (0 ≤ (l0.length : Int)) = true := decide_eq_true c3
 clear c3
 by_cases c4 : ((l0.length : Int) : Int).toNat ≤ 70368744177664
 rotate_left
 ·rw [if_neg c4] at H
  exact absurd H (by simp)
 rw [if_pos c4] at H
 have La := eq_true c4
 have Ma : decide (((l0.length : Int) : Int).toNat ≤ 70368744177664) = true := decide_eq_true c4
 clear c4
 obtain ⟨Ba, ea⟩ : ∃ y_ : List Int, y_ = (List.replicate ((l0.length : Int) : Int).toNat 0) := ⟨_, rfl⟩
 replace H : (n_subtract.l0 k l0 l1 Ba 0 (l0.length : Int) 0) = some r := by first | (rw [ea]; with_reducible exact H) | (have H2_ := (Option.bind_some _ _).symm.trans H; rw [ea]; with_reducible exact H2_) | (have H2_ := (Option.bind_some _ _).symm.trans H; with_reducible exact H2_) | with_reducible exact H | (rw [ea]; exact H) | exact H
 have Ca := A0_.mk ea
 clear ea
 have H' := A0_.mk H
 clear H
 go_enter Tryd.func82, Tryd.ntmps82
 go_wp2_with (first | ((with_reducible refine gD_ (N := 11) rfl ?_); refine Kd.R_make (Kd.int .u32) _ 89 rfl (N := 11) rfl 87 _ _ rfl (l0.length : Int) rfl rfl Tryd.underlying87 (.int .u32 0) 4 info89 rfl (by decide) (by omega) 0 (ok := fun _ => True) (okp := fun _ => True) rfl (fun _ hk => hk) trivial (oD_) (Nat.le_trans (Nat.mul_le_mul_right _ (oD_ : (l0.length : Int).toNat ≤ 70368744177664)) (by omega)) (Below.refl _ _) (Nat.le_refl _) ?_; intro ja w5 ho6 hb hg_ hnew_; clear hg_ hnew_; (first | rw [← Ca.out] at ho6 | (simp only [Int.reduceToNat] at ho6; rw [← Ca.out] at ho6)); have n0_ := A0_.mk (Kd.rL_ ho6 (bZ_ (xB_ HB))); have n1_ := A0_.mk (bT_ (xB_ HB) hb); clear HB; have Na := n0_; have HB := n1_; clear n0_ n1_; clear hb ho6))
 go_loopg [6, 14] k (fun kq v6 v14 w' => ∃ (ca : List Int) (da : Int) (aa : Int), v6 = .int .u32 da ∧ v14 = .int .i64 aa ∧ A0_ (n_subtract.l0 kq l0 l1 ca da (l0.length : Int) aa = some r) ∧ A0_ (kq ≤ k) ∧ A0_ (Kd.R (Kd.int .u32) 89 w' w.heap.size (fun _ => True) ja ca) ∧ A0_ (Below w.heap.size w w'))
 case atStart => exact ⟨(Ba), (0), (0), (rS_), (rS_), H', ⟨Nat.le_refl _⟩, ⟨by (with_reducible repeat (first | apply Kd.R_alloc | apply Kd.rN_ | apply Kd.rD_)); exact Na.out⟩, ⟨xB_ HB⟩⟩
 case round =>
  clear H'
  try clear c1
  try clear p2
  try clear c3
  try clear Ja
  try clear Ka
  try clear c4
  try clear La
  try clear Ma
  obtain ⟨ca, da, aa, rfl, rfl, HA, HK1, ba, HB⟩ := hrel
  cases gk with
  | zero => exact absurd HA.out (by simp [n_subtract.l0])
  | succ k1 =>
   have H := HA.out
   clear HA
   simp only [n_subtract.l0] at H
   by_cases c7 : aa < (l0.length : Int)
   ·rw [if_pos c7] at H
    have Oa : decide (aa < (l0.length : Int)) = true := decide_eq_true c7
    clear c7
    by_cases c8 : aa < (l1.length : Int)
    ·rw [if_pos c8] at H
     have Pa : decide (aa < (l1.length : Int)) = true := decide_eq_true c8
     clear c8
     by_cases c9 : 0 ≤ aa
     rotate_left
     ·rw [if_neg c9] at H
      exact absurd H (by simp)
     rw [if_pos c9] at H
     have ab : decide (0 ≤ aa) = true := decide_eq_true c9
     clear c9
     by_cases c10 : aa < (l0.length : Int)
     rotate_left
     ·rw [if_neg c10] at H
      exact absurd H (by simp)
     rw [if_pos c10] at H
     have bb : decide (aa < (l0.length : Int)) = true := decide_eq_true c10
     clear c10
     obtain ⟨⟨ha, ka⟩, A11, H⟩ := oB_ H
     (try dsimp only at H)
     by_cases c12 : aa < (ca.length : Int)
     rotate_left
     ·rw [if_neg c12] at H
      exact absurd H (by simp)
     rw [if_pos c12] at H
     have cb : decide (aa < (ca.length : Int)) = true := decide_eq_true c12
     clear c12
     obtain ⟨la, fa⟩ : ∃ y_ : List Int, y_ = (ca.set (aa : Int).toNat ha) := ⟨_, rfl⟩
     replace H : (n_subtract.l0 k1 l0 l1 la ka (l0.length : Int) (wrap64 (aa + 1))) = some r := by first | (rw [fa]; with_reducible exact H) | (have H2_ := (Option.bind_some _ _).symm.trans H; rw [fa]; with_reducible exact H2_) | (have H2_ := (Option.bind_some _ _).symm.trans H; with_reducible exact H2_) | with_reducible exact H | (rw [fa]; exact H) | exact H
     have Qa := A0_.mk fa
     clear fa
     have H' := A0_.mk H
     clear H
     have ma : 0 ≤ (aa : Int) := oD_
     have na : aa < (l1.length : Int) := oD_
     obtain ⟨db, Ra, oa⟩ := Kd.at_int HR1.out aa ma na
     cases Ra
     (try replace oa := cT_ HB oa)
     replace ma := eq_true ma
     replace na := eq_true na
     have pa : 0 ≤ (aa : Int) := oD_
     have qa : aa < (l0.length : Int) := oD_
     obtain ⟨eb, Sa, ra⟩ := Kd.at_int HR0.out aa pa qa
     cases Sa
     (try replace ra := cT_ HB ra)
     replace pa := eq_true pa
     replace qa := eq_true qa
     go_wp2_with (first | ((with_reducible refine gC_ (f := 101) rfl ?_); refine gL_ (some 34) rfl rfl Tryd.func101 kr_ rfl #[.int .u32 (rd l0 aa), .int .u32 (rd l1 aa), .int .u32 da] rfl mp_ ?_; (with_reducible refine (bits_Sub32.calls (rd l0 aa) (rd l1 aa) da ha ka _ A11.out).mono ?_); rintro e w' ⟨rfl, ⟨nd, rfl⟩⟩; refine ⟨_, rfl, ?_⟩; (try (rw [drewN_self wr]; generalize hq_ : World.drewN wr _ = wr; have n0_ : A0_ (Kd.R (Kd.int .u32) 89 wr w.heap.size (fun _ => True) ja ca) := ⟨by rw [← hq_]; exact (xR_ ba.out)⟩; have n1_ : A0_ (Below w.heap.size w wr) := ⟨by rw [← hq_]; exact (xB_ HB)⟩; clear ba HB hq_; have ba := n0_; have HB := n1_; clear n0_ n1_)); have p13 : 0 ≤ (aa : Int) := oD_; have q13 : (aa : Int) < ((ca.length : Int) : Int) := oD_; obtain ⟨sa, Ta, Da, Ea, gl13, cl13, Fa⟩ := Kd.R_form ba.out (by omega); (first | cases Da | (injection Da with ea_ en_ ec_; (first | subst ea_ | (injection ea_ with ea_; subst ea_)); subst ec_; clear en_)); have GB13 := A0_.mk Ea; have GG13 := A0_.mk Fa; clear Ea gl13 Fa; obtain ⟨fb, gb⟩ := Kd.R_celln 0 ba.out (aa : Int) p13 q13; replace p13 := eq_true p13; replace q13 := eq_true q13; obtain ⟨ib, jb⟩ := Kd.R_celln 0 ba.out (aa : Int) (oD_) (oD_); have HP14 := Kd.R_putg ba.out (aa : Int) ha) | ((with_reducible refine gate_store (t := 89) (p := 37) rfl ?_); refine store_event (t := 89) (p := 37) (v := ?vo_w15) (w1 := (wr.setCell ⟨sa, (aa : Int).toNat, none⟩ (.int .u32 ha))) ?hg ?ho ?hn ?hr ?_; (case ho => rfl); (case hg => rfl); (case hn => rfl); (case hr => first | (go_simp; done) | (go_simp; rfl)); intro w15 hw; have hg : wr.grownBy w15 (some sa) := (by rw [hw]; exact HP14.2); have hp_ : Kd.R (Kd.int .u32) 89 w15 w.heap.size (fun _ => True) (.slice (some ⟨sa, 0, none⟩) ca.length Ta) la := (by rw [hw, Qa.out]; exact HP14.1); clear HP14; have n0_ := A0_.mk (hp_); have n1_ := A0_.mk ((by rw [hw]; exact bS_ (HB.out) GB13.out : Below w.heap.size w w15)); clear ba HB; have ba := n0_; have HB := n1_; clear n0_ n1_; clear hg hw hp_))
     (try simp only [ap_])
     go_roundg k1
     case measure => have := HK1.out; omega
     case rel => exact ⟨(la), (ka), (wrap64 (aa + 1)), (rS_), (rS_), H', ⟨by have := HK1.out; omega⟩, ⟨by (with_reducible repeat (first | apply Kd.R_alloc | apply Kd.rN_ | apply Kd.rD_)); exact ba.out⟩, ⟨xB_ HB⟩⟩
    ·rw [if_neg c8] at H
     have Pa : decide (aa < (l1.length : Int)) = false := decide_eq_false c8
     clear c8
     by_cases c16 : 0 ≤ aa
     rotate_left
     ·rw [if_neg c16] at H
      exact absurd H (by simp)
     rw [if_pos c16] at H
     have kb : decide (0 ≤ aa) = true := decide_eq_true c16
     clear c16
     by_cases c17 : aa < (l0.length : Int)
     rotate_left
     ·rw [if_neg c17] at H
      exact absurd H (by simp)
     rw [if_pos c17] at H
     have mb : decide (aa < (l0.length : Int)) = true := decide_eq_true c17
     clear c17
     obtain ⟨⟨ia, ta⟩, A18, H⟩ := oB_ H
     (try dsimp only at H)
     by_cases c19 : aa < (ca.length : Int)
     rotate_left
     ·rw [if_neg c19] at H
      exact absurd H (by simp)
     rw [if_pos c19] at H
     have nb : decide (aa < (ca.length : Int)) = true := decide_eq_true c19
     clear c19
     obtain ⟨ua, ga⟩ : ∃ y_ : List Int, y_ = (ca.set (aa : Int).toNat ia) := ⟨_, rfl⟩
     replace H : (n_subtract.l0 k1 l0 l1 ua ta (l0.length : Int) (wrap64 (aa + 1))) = some r := by first | (rw [ga]; with_reducible exact H) | (have H2_ := (Option.bind_some _ _).symm.trans H; rw [ga]; with_reducible exact H2_) | (have H2_ := (Option.bind_some _ _).symm.trans H; with_reducible exact H2_) | with_reducible exact H | (rw [ga]; exact H) | exact H
     have Ua := A0_.mk ga
     clear ga
     have H' := A0_.mk H
     clear H
     have va : 0 ≤ (aa : Int) := oD_
     have wa : aa < (l0.length : Int) := oD_
     obtain ⟨ob, Va, xa⟩ := Kd.at_int HR0.out aa va wa
     cases Va
     (try replace xa := cT_ HB xa)
     replace va := eq_true va
     replace wa := eq_true wa
     go_wp2_with (first | ((with_reducible refine gC_ (f := 101) rfl ?_); refine gL_ (some 34) rfl rfl Tryd.func101 kr_ rfl #[.int .u32 (rd l0 aa), .int .u32 0, .int .u32 da] rfl mp_ ?_; (with_reducible refine (bits_Sub32.calls (rd l0 aa) 0 da ia ta _ A18.out).mono ?_); rintro e w' ⟨rfl, ⟨nd, rfl⟩⟩; refine ⟨_, rfl, ?_⟩; (try (rw [drewN_self wr]; generalize hq_ : World.drewN wr _ = wr; have n0_ : A0_ (Kd.R (Kd.int .u32) 89 wr w.heap.size (fun _ => True) ja ca) := ⟨by rw [← hq_]; exact (xR_ ba.out)⟩; have n1_ : A0_ (Below w.heap.size w wr) := ⟨by rw [← hq_]; exact (xB_ HB)⟩; clear ba HB hq_; have ba := n0_; have HB := n1_; clear n0_ n1_)); have p20 : 0 ≤ (aa : Int) := oD_; have q20 : (aa : Int) < ((ca.length : Int) : Int) := oD_; obtain ⟨ya, Wa, Ga, Ha, gl20, cl20, Ia⟩ := Kd.R_form ba.out (by omega); (first | cases Ga | (injection Ga with ea_ en_ ec_; (first | subst ea_ | (injection ea_ with ea_; subst ea_)); subst ec_; clear en_)); have GB20 := A0_.mk Ha; have GG20 := A0_.mk Ia; clear Ha gl20 Ia; obtain ⟨pb, qb⟩ := Kd.R_celln 0 ba.out (aa : Int) p20 q20; replace p20 := eq_true p20; replace q20 := eq_true q20; obtain ⟨rb, sb⟩ := Kd.R_celln 0 ba.out (aa : Int) (oD_) (oD_); have HP21 := Kd.R_putg ba.out (aa : Int) ia) | ((with_reducible refine gate_store (t := 89) (p := 37) rfl ?_); refine store_event (t := 89) (p := 37) (v := ?vo_w22) (w1 := (wr.setCell ⟨ya, (aa : Int).toNat, none⟩ (.int .u32 ia))) ?hg ?ho ?hn ?hr ?_; (case ho => rfl); (case hg => rfl); (case hn => rfl); (case hr => first | (go_simp; done) | (go_simp; rfl)); intro w22 hw; have hg : wr.grownBy w22 (some ya) := (by rw [hw]; exact HP21.2); have hp_ : Kd.R (Kd.int .u32) 89 w22 w.heap.size (fun _ => True) (.slice (some ⟨ya, 0, none⟩) ca.length Wa) ua := (by rw [hw, Ua.out]; exact HP21.1); clear HP21; have n0_ := A0_.mk (hp_); have n1_ := A0_.mk ((by rw [hw]; exact bS_ (HB.out) GB20.out : Below w.heap.size w w22)); clear ba HB; have ba := n0_; have HB := n1_; clear n0_ n1_; clear hg hw hp_))
     (try simp only [ap_])
     go_roundg k1
     case measure => have := HK1.out; omega
     case rel => exact ⟨(ua), (ta), (wrap64 (aa + 1)), (rS_), (rS_), H', ⟨by have := HK1.out; omega⟩, ⟨by (with_reducible repeat (first | apply Kd.R_alloc | apply Kd.rN_ | apply Kd.rD_)); exact ba.out⟩, ⟨xB_ HB⟩⟩
   ·rw [if_neg c7] at H
    have Oa : decide (aa < (l0.length : Int)) = false := decide_eq_false c7
    clear c7
    obtain ⟨Xa, A23, H⟩ := oB_ H
    (try dsimp only at H)
    obtain rfl := Option.some.inj H
    obtain ⟨za, Aa, Ya⟩ := Kd.rS_' ba.out
    subst Ya
    go_wp2_with (first | ((with_reducible refine gC_ (f := 79) rfl ?_); refine gL_ (some 40) rfl rfl Tryd.func79 kr_ rfl #[.slice za ca.length Aa] rfl mp_ ?_; (with_reducible refine (n_limbs_trim.calls k1 (fun k_ => some k_ = (.slice za ca.length Aa : Value).ownBlock) (.slice za ca.length Aa) ca Xa w _ ?side1 ?side2 A23.out).mono ?_); (case side1 => repeat (first | (with_reducible first | exact HB.out | apply bA_ | apply pB_ | apply b1_) | exact HB.out)); (case side2 => exact Kd.R_tight rfl ba.out); rintro e w25 ⟨tb, rfl, ho0, hb, hkp⟩; refine ⟨_, rfl, ?_⟩; have n0_ := A0_.mk (Kd.rM_ (ok' := fun k_ => True) ho0 (fun k_ hk_ => trivial)); have n1_ := A0_.mk (hb); clear HB ba; have Za := n0_; have HB := n1_; clear n0_ n1_; (try clear hb); (try clear hkp); (try clear ho0)))
    go_ret
    exact ⟨_, rE_, by (with_reducible repeat (first | apply Kd.R_alloc | apply Kd.rN_ | apply Kd.rD_)); exact Za.out, xB_ HB⟩
def n_Subtract.f (k : Nat) (a0 : ByteArray) (a1 : ByteArray) : Option (ByteArray × Bool) := (n_parse.f k a0).bind fun t331 => ((n_parse.f k a1).bind fun t334 => ((n_compare.f k t331 t334).bind fun t337 => (if t337 < 0 then (some ((⟨#[]⟩ : ByteArray), false)) else ((n_subtract.f k t331 t334).bind fun t338 => ((n_limbs_text.f k t338).bind fun t341 => (some (t341, true)))))))
theorem n_Subtract.mono : ∀ a0 a1 k, LeO (n_Subtract.f k a0 a1) (n_Subtract.f (k + 1) a0 a1) := by
 intro a0 a1 k
 unfold n_Subtract.f
 repeat' first
   | (with_reducible first | exact n_compare.mono _ _ _ | exact n_limbs_text.mono _ _ | exact n_parse.mono _ _ | exact n_subtract.mono _ _ _ | exact LeO.refl _ | exact LeO.none _ | refine LeO.ite ?_ ?_ | refine LeO.bind ?_ (fun _ => ?_))
theorem n_Subtract.calls (k : Nat) (a0 : ByteArray) (a1 : ByteArray) (r1 : ByteArray) (r2 : Bool) (w : World) (h : n_Subtract.f k a0 a1 = some (r1, r2)) :
  Calls Tryd.prog 67 #[.string a0, .string a1] w fun e w' => e = .returned (.tuple #[.string r1, .bool r2]) ∧ Below w.heap.size w w' := by
 have HB := A0_.mk (Below.refl w.heap.size w)
 have H := h
 unfold n_Subtract.f at H
 clear h
 obtain ⟨ca, A3, H⟩ := oB_ H
 (try dsimp only at H)
 obtain ⟨da, A4, H⟩ := oB_ H
 (try dsimp only at H)
 obtain ⟨fa, A5, H⟩ := oB_ H
 (try dsimp only at H)
 by_cases c6 : fa < 0
 ·rw [if_pos c6] at H
  have la : decide (fa < 0) = true := decide_eq_true c6
  clear c6
  simp only [Option.some.injEq, Prod.mk.injEq] at H
  obtain ⟨rfl, rfl⟩ := H
  go_enter Tryd.func67, Tryd.ntmps67
  go_wp2_with (first | ((with_reducible refine gC_ (f := 64) rfl ?_); refine gL_ (some 9) rfl rfl Tryd.func64 kr_ rfl #[.string a0] rfl mp_ ?_; (with_reducible refine (n_parse.calls k a0 ca _ A3.out).mono ?_); rintro e w7 ⟨ma, rfl, ho0, hb⟩; refine ⟨_, rfl, ?_⟩; have n0_ := A0_.mk (Kd.rL_ ho0 (bZ_ (xB_ HB))); have n1_ := A0_.mk (bT_ (xB_ HB) hb); clear HB; have aa := n0_; have HB := n1_; clear n0_ n1_; (try clear hb); (try clear hb2); (try clear hk); (try clear hi); (try clear ho0)) | ((with_reducible refine gC_ (f := 64) rfl ?_); refine gL_ (some 11) rfl rfl Tryd.func64 kr_ rfl #[.string a1] rfl mp_ ?_; (with_reducible refine (n_parse.calls k a1 da _ A4.out).mono ?_); rintro e w8 ⟨na, rfl, ho0, hb⟩; refine ⟨_, rfl, ?_⟩; have n0_ := A0_.mk (Kd.R_elder' (xR_ aa.out) (Kd.R_base ho0) hb); have n1_ := A0_.mk (Kd.rL_ (Kd.R_new' ho0 (Kd.R_lt (xR_ aa.out))) (bZ_ (xB_ HB))); have n2_ := A0_.mk (bT_ (xB_ HB) hb); clear aa HB; have aa := n0_; have ba := n1_; have HB := n2_; clear n0_ n1_ n2_; (try clear hb); (try clear hb2); (try clear hk); (try clear hi); (try clear ho0); obtain ⟨Ao9, co9, eo9⟩ := Kd.rS_' aa.out; subst eo9; obtain ⟨oa, pa, qa⟩ := Kd.rS_' ba.out; subst qa) | ((with_reducible refine gC_ (f := 81) rfl ?_); refine gL_ (some 14) rfl rfl Tryd.func81 kr_ rfl #[.slice Ao9 ca.length co9, .slice oa da.length pa] rfl mp_ ?_; (with_reducible refine (n_compare.calls k _ _ ca _ _ da fa _ ?side1 ?side2 ?side3 ?side4 A5.out).mono ?_); (case side1 => repeat (first | exact (Kd.rr_' aa.out).2.2 | (with_reducible refine Kd.C_alloc ?_ _) | (with_reducible refine Kd.C_drewN ?_ _) | (with_reducible refine Kd.C_drew ?_))); (case side2 => exact (Kd.rr_' aa.out).2.1); (case side3 => repeat (first | exact (Kd.rr_' ba.out).2.2 | (with_reducible refine Kd.C_alloc ?_ _) | (with_reducible refine Kd.C_drewN ?_ _) | (with_reducible refine Kd.C_drew ?_))); (case side4 => exact (Kd.rr_' ba.out).2.1); rintro e w' ⟨rfl, ⟨nd, rfl⟩⟩; refine ⟨_, rfl, ?_⟩))
  go_ret2
  exact ⟨rE_, xB_ HB⟩
 ·rw [if_neg c6] at H
  have la : decide (fa < 0) = false := decide_eq_false c6
  clear c6
  obtain ⟨ga, A11, H⟩ := oB_ H
  (try dsimp only at H)
  obtain ⟨ra, A12, H⟩ := oB_ H
  (try dsimp only at H)
  simp only [Option.some.injEq, Prod.mk.injEq] at H
  obtain ⟨rfl, rfl⟩ := H
  go_enter Tryd.func67, Tryd.ntmps67
  go_wp2_with (first | ((with_reducible refine gC_ (f := 64) rfl ?_); refine gL_ (some 9) rfl rfl Tryd.func64 kr_ rfl #[.string a0] rfl mp_ ?_; (with_reducible refine (n_parse.calls k a0 ca _ A3.out).mono ?_); rintro e w13 ⟨ma, rfl, ho0, hb⟩; refine ⟨_, rfl, ?_⟩; have n0_ := A0_.mk (Kd.rL_ ho0 (bZ_ (xB_ HB))); have n1_ := A0_.mk (bT_ (xB_ HB) hb); clear HB; have aa := n0_; have HB := n1_; clear n0_ n1_; (try clear hb); (try clear hb2); (try clear hk); (try clear hi); (try clear ho0)) | ((with_reducible refine gC_ (f := 64) rfl ?_); refine gL_ (some 11) rfl rfl Tryd.func64 kr_ rfl #[.string a1] rfl mp_ ?_; (with_reducible refine (n_parse.calls k a1 da _ A4.out).mono ?_); rintro e w14 ⟨na, rfl, ho0, hb⟩; refine ⟨_, rfl, ?_⟩; have n0_ := A0_.mk (Kd.R_elder' (xR_ aa.out) (Kd.R_base ho0) hb); have n1_ := A0_.mk (Kd.rL_ (Kd.R_new' ho0 (Kd.R_lt (xR_ aa.out))) (bZ_ (xB_ HB))); have n2_ := A0_.mk (bT_ (xB_ HB) hb); clear aa HB; have aa := n0_; have ba := n1_; have HB := n2_; clear n0_ n1_ n2_; (try clear hb); (try clear hb2); (try clear hk); (try clear hi); (try clear ho0); obtain ⟨ha, ia, sa⟩ := Kd.rS_' aa.out; subst sa; obtain ⟨ja, ka, ta⟩ := Kd.rS_' ba.out; subst ta) | ((with_reducible refine gC_ (f := 81) rfl ?_); refine gL_ (some 14) rfl rfl Tryd.func81 kr_ rfl #[.slice ha ca.length ia, .slice ja da.length ka] rfl mp_ ?_; (with_reducible refine (n_compare.calls k _ _ ca _ _ da fa _ ?side1 ?side2 ?side3 ?side4 A5.out).mono ?_); (case side1 => repeat (first | exact (Kd.rr_' aa.out).2.2 | (with_reducible refine Kd.C_alloc ?_ _) | (with_reducible refine Kd.C_drewN ?_ _) | (with_reducible refine Kd.C_drew ?_))); (case side2 => exact (Kd.rr_' aa.out).2.1); (case side3 => repeat (first | exact (Kd.rr_' ba.out).2.2 | (with_reducible refine Kd.C_alloc ?_ _) | (with_reducible refine Kd.C_drewN ?_ _) | (with_reducible refine Kd.C_drew ?_))); (case side4 => exact (Kd.rr_' ba.out).2.1); rintro e w' ⟨rfl, ⟨nd, rfl⟩⟩; refine ⟨_, rfl, ?_⟩) | ((with_reducible refine gC_ (f := 82) rfl ?_); refine gL_ (some 18) rfl rfl Tryd.func82 kr_ rfl #[.slice ha ca.length ia, .slice ja da.length ka] rfl mp_ ?_; (with_reducible refine (n_subtract.calls k _ _ ca _ _ da ga _ ?side1 ?side2 ?side3 ?side4 A11.out).mono ?_); (case side1 => repeat (first | exact (Kd.rr_' aa.out).2.2 | (with_reducible refine Kd.C_alloc ?_ _) | (with_reducible refine Kd.C_drewN ?_ _) | (with_reducible refine Kd.C_drew ?_))); (case side2 => exact (Kd.rr_' aa.out).2.1); (case side3 => repeat (first | exact (Kd.rr_' ba.out).2.2 | (with_reducible refine Kd.C_alloc ?_ _) | (with_reducible refine Kd.C_drewN ?_ _) | (with_reducible refine Kd.C_drew ?_))); (case side4 => exact (Kd.rr_' ba.out).2.1); rintro e w17 ⟨xa, rfl, ho0, hb⟩; refine ⟨_, rfl, ?_⟩; have n0_ := A0_.mk (Kd.R_elder' (xR_ aa.out) (Kd.R_base ho0) hb); have n1_ := A0_.mk (Kd.R_elder' (xR_ ba.out) (Kd.R_base ho0) hb); have n2_ := A0_.mk (Kd.rL_ (Kd.R_new' (Kd.R_new' ho0 (Kd.R_lt (xR_ aa.out))) (Kd.R_lt (xR_ ba.out))) (bZ_ (xB_ HB))); have n3_ := A0_.mk (bT_ (xB_ HB) hb); clear aa ba HB; have aa := n0_; have ba := n1_; have ea := n2_; have HB := n3_; clear n0_ n1_ n2_ n3_; (try clear hb); (try clear hb2); (try clear hk); (try clear hi); (try clear ho0); obtain ⟨ua, va, wa⟩ := Kd.rS_' ea.out; subst wa) | ((with_reducible refine gC_ (f := 65) rfl ?_); refine gL_ (some 19) rfl rfl Tryd.func65 kr_ rfl #[.slice ua ga.length va] rfl mp_ ?_; (with_reducible refine (n_limbs_text.calls k _ _ ga ra _ ?side1 ?side2 A12.out).mono ?_); (case side1 => repeat (first | exact (Kd.rr_' ea.out).2.2 | (with_reducible refine Kd.C_alloc ?_ _) | (with_reducible refine Kd.C_drewN ?_ _) | (with_reducible refine Kd.C_drew ?_))); (case side2 => exact (Kd.rr_' ea.out).2.1); rintro e w19 ⟨rfl, hb⟩; refine ⟨_, rfl, ?_⟩; have n0_ := A0_.mk (Kd.rB_ (xR_ aa.out) hb); have n1_ := A0_.mk (Kd.rB_ (xR_ ba.out) hb); have n2_ := A0_.mk (Kd.rB_ (xR_ ea.out) hb); have n3_ := A0_.mk (bT_ (xB_ HB) hb); clear aa ba ea HB; have aa := n0_; have ba := n1_; have ea := n2_; have HB := n3_; clear n0_ n1_ n2_ n3_; (try clear hb); (try clear hb2); (try clear hk); (try clear hi)))
  go_ret2
  exact ⟨rE_, xB_ HB⟩
def q_add.j0 : Nat → ByteArray → ByteArray → ByteArray → Bool → ByteArray → ByteArray → Bool → ByteArray → ByteArray → Option (Bool × ByteArray × ByteArray)
 | 0, _, _, _, _, _, _, _, _, _ => none
 | k + 1, x5, x6, x7, x343000, x343001, x343002, x344000, x344001, x344002 => if (x343000 == x344000) = true then ((n_Add.f k x5 x6).bind fun t353 => ((q_reduced.f k x343000 t353 x7).bind fun bt354 => (some (bt354.1, bt354.2.1, bt354.2.2)))) else ((n_Subtract.f k x5 x6).bind fun bt357 => (if bt357.2 = true then ((q_reduced.f k x343000 bt357.1 x7).bind fun bt359 => (some (bt359.1, bt359.2.1, bt359.2.2))) else ((n_Subtract.f k x6 x5).bind fun bt362 => ((q_reduced.f k x344000 bt362.1 x7).bind fun bt364 => (some (bt364.1, bt364.2.1, bt364.2.2))))))
def q_add.f (k : Nat) (a0_0 : Bool) (a0_1 : ByteArray) (a0_2 : ByteArray) (a1_0 : Bool) (a1_1 : ByteArray) (a1_2 : ByteArray) : Option (Bool × ByteArray × ByteArray) := if a0_2.toList = a1_2.toList then ((q_den.f a0_0 a0_1 a0_2).bind fun t345 => (q_add.j0 k a0_1 a1_1 t345 a0_0 a0_1 a0_2 a1_0 a1_1 a1_2)) else ((q_den.f a1_0 a1_1 a1_2).bind fun t346 => ((n_Multiply.f k a0_1 t346).bind fun t347 => ((q_den.f a0_0 a0_1 a0_2).bind fun t348 => ((n_Multiply.f k a1_1 t348).bind fun t349 => ((q_den.f a0_0 a0_1 a0_2).bind fun t350 => ((q_den.f a1_0 a1_1 a1_2).bind fun t351 => ((n_Multiply.f k t350 t351).bind fun t352 => (q_add.j0 k t347 t349 t352 a0_0 a0_1 a0_2 a1_0 a1_1 a1_2))))))))
theorem q_add.mono_l : ∀ k, (∀ y0 y1 y2 y3 y4 y5 y6 y7 y8, LeO (q_add.j0 k y0 y1 y2 y3 y4 y5 y6 y7 y8) (q_add.j0 (k + 1) y0 y1 y2 y3 y4 y5 y6 y7 y8))
 | 0 => fun _ _ _ _ _ _ _ _ _ r h => by simp [q_add.j0] at h
 | k + 1 => by
  have ih0 := q_add.mono_l k
  ·intro y0 y1 y2 y3 y4 y5 y6 y7 y8
   unfold q_add.j0
   repeat' first
   | (with_reducible first | exact ih0 _ _ _ _ _ _ _ _ _ | exact n_Add.mono _ _ _ | exact n_Multiply.mono _ _ _ | exact n_Subtract.mono _ _ _ | exact q_reduced.mono _ _ _ _ | exact LeO.refl _ | exact LeO.none _ | refine LeO.ite ?_ ?_ | refine LeO.bind ?_ (fun _ => ?_))
theorem q_add.mono : ∀ a0 a1 a2 a3 a4 a5 k, LeO (q_add.f k a0 a1 a2 a3 a4 a5) (q_add.f (k + 1) a0 a1 a2 a3 a4 a5) := by
 intro a0 a1 a2 a3 a4 a5 k
 have ih0 := q_add.mono_l k
 unfold q_add.f
 repeat' first
   | (with_reducible first | exact ih0 _ _ _ _ _ _ _ _ _ | exact n_Add.mono _ _ _ | exact n_Multiply.mono _ _ _ | exact n_Subtract.mono _ _ _ | exact q_reduced.mono _ _ _ _ | exact LeO.refl _ | exact LeO.none _ | refine LeO.ite ?_ ?_ | refine LeO.bind ?_ (fun _ => ?_))
def q_add.T3 : Bool × List (List Nat × List Nat) := (true, [([], []), ([], []), ([1], [1]), ([0, 2, 2], [0, 2]), ([], []), ([], []), ([5, 3], [5]), ([4, 6, 6], [4, 6]), ([3, 7, 0, 1, 2, 3], [0, 3]), ([7, 8, 0, 1, 2, 3, 4, 5, 6, 7, 8], [4, 7])])
def q_add.B3 : List Nat := [0, 0, 2, 7, 0, 0, 47, 127, 255, 511]
theorem q_add.tab3 : rtab .any (opsOf Tryd.f47 3) = q_add.T3 := by kernel_rfl
theorem q_add.bits3 : waitsOk q_add.T3.2 q_add.B3 = true := by kernel_rfl
def q_add.T7 : Bool × List (List Nat × List Nat) := (true, [([], []), ([0], [0]), ([], []), ([], []), ([2, 3], [2, 3]), ([], []), ([1, 4, 5, 4], [1, 4, 5]), ([6, 6, 0, 1, 2, 3, 4, 5, 6], [6])])
def q_add.B7 : List Nat := [0, 1, 0, 0, 12, 0, 63, 127]
theorem q_add.tab7 : rtab .any (opsOf Tryd.f47 7) = q_add.T7 := by kernel_rfl
theorem q_add.bits7 : waitsOk q_add.T7.2 q_add.B7 = true := by kernel_rfl
theorem q_add.calls (k : Nat) (a0_0 : Bool) (a0_1 : ByteArray) (a0_2 : ByteArray) (a1_0 : Bool) (a1_1 : ByteArray) (a1_2 : ByteArray) (r1 : Bool) (r2 : ByteArray) (r3 : ByteArray) (w : World) (h : q_add.f k a0_0 a0_1 a0_2 a1_0 a1_1 a1_2 = some (r1, r2, r3)) :
  Calls Tryd.prog 47 #[.agg #[.bool a0_0, .string a0_1, .string a0_2], .agg #[.bool a1_0, .string a1_1, .string a1_2]] w fun e w' => e = .returned (.agg #[.bool r1, .string r2, .string r3]) ∧ Below w.heap.size w w' := by
 have hu26 := Tryd.underlying26
 have HB := A0_.mk (Below.refl w.heap.size w)
 have H := h
 unfold q_add.f at H
 clear h
 have HC3 := A0_.mk H
 clear H
 go_enter Tryd.func47, Tryd.ntmps47
 try go_wp2_with (first | ((with_reducible refine gD_ (N := 2) rfl ?_); refine bE_ ?hg (N := 2) ?hd (cs := #[.bool a0_0, .string a0_1, .string a0_2]) (t := 26) ?hr ?_; (case hd => rfl); (case hg => rfl); (case hr => first | (go_simp; done) | (go_simp; rfl)); intro da hg w4 hbox hb; have n0_ := A0_.mk (bT_ (xB_ HB) hb); have n1_ := A0_.mk (hbox); have n2_ := A0_.mk ((by rw [hg]; exact (bZ_ (xB_ HB)) : w.heap.size ≤ da)); have n3_ := A0_.mk ((by rw [hg]; exact (bZ_ (xB_ HB)) : w.heap.size ≤ da)); clear HB; have HB := n0_; have aa := n1_; have qb := n2_; have ga := n3_; clear n0_ n1_ n2_ n3_; clear hb hbox hg) | ((with_reducible refine gD_ (N := 3) rfl ?_); refine bE_ ?hg (N := 3) ?hd (cs := #[.bool a1_0, .string a1_1, .string a1_2]) (t := 26) ?hr ?_; (case hd => rfl); (case hg => rfl); (case hr => first | (go_simp; done) | (go_simp; rfl)); intro ea hg w5 hbox hb; have n0_ := A0_.mk (kB_ (g := da) (o := .cells #[.bool a0_0, .string a0_1, .string a0_2] 26 (0, 0)) (xK_ aa.out) hb); have n1_ := A0_.mk (bT_ (xB1_ HB ga) hb); have n2_ := A0_.mk (hbox); have n3_ := A0_.mk ((by rw [hg]; exact (bZ_ (xB1_ HB ga)) : w.heap.size ≤ ea)); have n4_ := A0_.mk ((by rw [hg]; exact (bZ_ (xB1_ HB ga)) : w.heap.size ≤ ea)); have n5_ := A0_.mk ((by rw [hg]; exact Nat.ne_of_lt (blk_lt (g := da) (o := .cells #[.bool a0_0, .string a0_1, .string a0_2] 26 (0, 0)) (xK_ aa.out)) : da ≠ ea)); have n6_ := A0_.mk ((by rw [hg]; exact Nat.ne_of_gt (blk_lt (g := da) (o := .cells #[.bool a0_0, .string a0_1, .string a0_2] 26 (0, 0)) (xK_ aa.out)) : ea ≠ da)); clear aa HB; have aa := n0_; have HB := n1_; have ba := n2_; have rb := n3_; have ha := n4_; have ra := n5_; have sa := n6_; clear n0_ n1_ n2_ n3_ n4_ n5_ n6_; clear hb hbox hg) | ((with_reducible refine gD_ (N := 4) rfl ?_); refine bE_ ?hg (N := 4) ?hd (cs := zC_) (t := 26) ?hr ?_; (case hd => rfl); (case hg => rfl); (case hr => first | (go_simp; done) | (go_simp; rfl)); intro fa hg w6 hbox hb; have n0_ := A0_.mk (kB_ (g := da) (o := .cells #[.bool a0_0, .string a0_1, .string a0_2] 26 (0, 0)) (xK_ aa.out) hb); have n1_ := A0_.mk (kB_ (g := ea) (o := .cells #[.bool a1_0, .string a1_1, .string a1_2] 26 (0, 0)) (xK_ ba.out) hb); have n2_ := A0_.mk (bT_ (xB2_ HB ga ha) hb); have n3_ := A0_.mk (hbox); have n4_ := A0_.mk ((by rw [hg]; exact (bZ_ (xB2_ HB ga ha)) : w.heap.size ≤ fa)); have n5_ := A0_.mk ((by rw [hg]; exact (bZ_ (xB2_ HB ga ha)) : w.heap.size ≤ fa)); have n6_ := A0_.mk ((by rw [hg]; exact Nat.ne_of_lt (blk_lt (g := da) (o := .cells #[.bool a0_0, .string a0_1, .string a0_2] 26 (0, 0)) (xK_ aa.out)) : da ≠ fa)); have n7_ := A0_.mk ((by rw [hg]; exact Nat.ne_of_gt (blk_lt (g := da) (o := .cells #[.bool a0_0, .string a0_1, .string a0_2] 26 (0, 0)) (xK_ aa.out)) : fa ≠ da)); have n8_ := A0_.mk ((by rw [hg]; exact Nat.ne_of_lt (blk_lt (g := ea) (o := .cells #[.bool a1_0, .string a1_1, .string a1_2] 26 (0, 0)) (xK_ ba.out)) : ea ≠ fa)); have n9_ := A0_.mk ((by rw [hg]; exact Nat.ne_of_gt (blk_lt (g := ea) (o := .cells #[.bool a1_0, .string a1_1, .string a1_2] 26 (0, 0)) (xK_ ba.out)) : fa ≠ ea)); clear aa ba HB; have aa := n0_; have ba := n1_; have HB := n2_; have ca := n3_; have sb := n4_; have ia := n5_; have ja := n6_; have na := n7_; have oa := n8_; have pa := n9_; clear n0_ n1_ n2_ n3_ n4_ n5_ n6_ n7_ n8_ n9_; clear hb hbox hg))
 have n0_ := A0_.mk (kD_ aa.out)
 have n1_ := A0_.mk (kD_ ba.out)
 have n2_ := A0_.mk (kD_ ca.out)
 have n3_ := A0_.mk (b1_ HB.out)
 clear aa
 clear ba
 clear ca
 clear HB
 have aa := n0_
 have ba := n1_
 have ca := n2_
 have HB := n3_
 clear n0_ n1_ n2_ n3_
 refine start_ (n := 7) (S := fun w' => w'.cell? ⟨da, 0, none⟩ = some (.bool a0_0) ∧ w'.cell? ⟨da, 1, none⟩ = some (.string a0_1) ∧ w'.cell? ⟨da, 2, none⟩ = some (.string a0_2) ∧ w'.cell? ⟨ea, 0, none⟩ = some (.bool a1_0) ∧ w'.cell? ⟨ea, 1, none⟩ = some (.string a1_1) ∧ w'.cell? ⟨ea, 2, none⟩ = some (.string a1_2)) (ds := []) #[false, false, false, false, false, false, false] kr_ rfl rfl ⟨(kc_ aa.out 0).trans rfl, (kc_ aa.out 1).trans rfl, (kc_ aa.out 2).trans rfl, (kc_ ba.out 0).trans rfl, (kc_ ba.out 1).trans rfl, (kc_ ba.out 2).trans rfl⟩ (fun hHeld => ?_)
 generalize w6.drew = w7 at aa ba ca HB hHeld ⊢
 refine pu_ (i := 0) (N := some 12) (v := ?_) (a' := ?_) #[true, false, false, false, false, false, false] rfl rfl kr_ (fun _ _ _ h => h) (Or.inl ⟨by rfl, ?_⟩) ?_ ?_
 rotate_left
 ·intro w'
  go_simp
  with_reducible rfl
 rotate_left
 ·simp only [Act.put, s1_, s2_, s3_, i6_, i3_]
  rfl
 refine pu_ (i := 2) (N := some 14) (v := ?_) (a' := ?_) #[true, false, true, false, false, false, false] rfl rfl kr_ (fun _ _ _ h => h) (Or.inl ⟨by rfl, ?_⟩) ?_ ?_
 rotate_left
 ·intro w'
  go_simp
  with_reducible rfl
 rotate_left
 ·simp only [Act.put, s1_, s2_, s3_, i6_, i3_]
  rfl
 refine take_ (i := 1) (N := some 13) (v := ?_) (a' := ?_) #[true, true, true, false, false, false, false] rfl rfl kr_ (fun _ _ _ h => h) (Or.inl ⟨by rfl, ?_⟩) hHeld ?_ ?_
 rotate_left
 ·rintro w' ⟨s0, s1, s2, s3, s4, s5⟩
  go_simp
  with_reducible rfl
 rotate_left
 ·simp only [Act.put, s1_, s2_, s3_, i6_, i3_]
  rfl
 refine pu_ (i := 4) (N := some 5) (v := ?_) (a' := ?_) #[true, true, true, false, true, false, false] rfl rfl kr_ (fun _ _ _ h => h) (Or.inl ⟨by rfl, ?_⟩) ?_ ?_
 rotate_left
 ·intro w'
  go_simp
  with_reducible rfl
 rotate_left
 ·simp only [Act.put, s1_, s2_, s3_, i6_, i3_]
  rfl
 refine take_ (i := 3) (N := some 15) (v := ?_) (a' := ?_) #[true, true, true, true, true, false, false] rfl rfl kr_ (fun _ _ _ h => h) (Or.inl ⟨by rfl, ?_⟩) hHeld ?_ ?_
 rotate_left
 ·rintro w' ⟨s0, s1, s2, s3, s4, s5⟩
  go_simp
  with_reducible rfl
 rotate_left
 ·simp only [Act.put, s1_, s2_, s3_, i6_, i3_]
  rfl
 refine pu_ (i := 5) (N := some 6) (v := ?_) (a' := ?_) #[true, true, true, true, true, true, false] rfl rfl kr_ (fun _ _ _ h => h) (Or.inl ⟨by rfl, ?_⟩) ?_ ?_
 rotate_left
 ·intro w'
  go_simp
  with_reducible rfl
 rotate_left
 ·simp only [Act.put, s1_, s2_, s3_, i6_, i3_]
  rfl
 refine pu_ (i := 6) (N := some 7) (v := ?_) (a' := ?_) #[true, true, true, true, true, true, true] rfl rfl kr_ (fun _ _ _ h => h) (Or.inl ⟨by rfl, ?_⟩) ?_ ?_
 rotate_left
 ·intro w'
  go_simp
  with_reducible rfl
 rotate_left
 ·simp only [Act.put, s1_, s2_, s3_, i6_, i3_]
  rfl
 refine done_ kr_ ?_
 have hnb8 := ra.out
 have hnc8 := sa.out
 have hnb9 := ja.out
 have hnc9 := na.out
 have Qa : w7.cell? ⟨da, 0, none⟩ = some (.bool a0_0) := (kc_ aa.out 0).trans rfl
 have Ra : w7.cell? ⟨da, 1, none⟩ = some (.string a0_1) := (kc_ aa.out 1).trans rfl
 have Sa : w7.cell? ⟨da, 2, none⟩ = some (.string a0_2) := (kc_ aa.out 2).trans rfl
 have Ta := kF_ aa.out 0
 have Ua := kF_ aa.out 1
 have Va := kF_ aa.out 2
 have hnb11 := oa.out
 have hnc11 := pa.out
 have Wa : w7.cell? ⟨ea, 0, none⟩ = some (.bool a1_0) := (kc_ ba.out 0).trans rfl
 have Xa : w7.cell? ⟨ea, 1, none⟩ = some (.string a1_1) := (kc_ ba.out 1).trans rfl
 have Ya : w7.cell? ⟨ea, 2, none⟩ = some (.string a1_2) := (kc_ ba.out 2).trans rfl
 have Za := kF_ ba.out 0
 have ab := kF_ ba.out 1
 have bb := kF_ ba.out 2
 go_upto_if 20 with (fail)
 go_cut [5, 6, 7] (fun v5 v6 v7 wc => ∃ (kq : Nat) (ka : ByteArray) (la : ByteArray) (ma : ByteArray), v5 = .string ka ∧ v6 = .string la ∧ v7 = .string ma ∧ A0_ (q_add.j0 kq ka la ma a0_0 a0_1 a0_2 a1_0 a1_1 a1_2 = some (r1, r2, r3)) ∧ A0_ (kq ≤ k) ∧ A0_ (wc.heap[da]? = some (.cells #[.bool a0_0, .string a0_1, .string a0_2] 26 (0, 0))) ∧ A0_ (wc.heap[ea]? = some (.cells #[.bool a1_0, .string a1_1, .string a1_2] 26 (0, 0))) ∧ A0_ (wc.heap[fa]? = some (.cells zC_ 26 (0, 0))) ∧ A0_ (Below w.heap.size w wc))
 case first =>
  have H := HC3.out
  clear HC3
  by_cases c13 : a0_2.toList = a1_2.toList
  ·rw [if_pos c13] at H
   have qa : (a0_2.toList == a1_2.toList) = true := beq_iff_eq.mpr c13
   have ua : (a0_2.toList != a1_2.toList) = false := bne_eq_false_iff_eq.mpr c13
   clear c13
   (first | rw [qa] | rw [ua] | (simp only [i6_, i3_]; rw [qa]) | skip)
   obtain ⟨Ja, A14, H⟩ := oB_ H
   (try dsimp only at H)
   have H' := A0_.mk H
   clear H
   have hnb15 := ra.out
   have hnc15 := sa.out
   have hnb16 := ja.out
   have hnc16 := na.out
   have cb : w7.cell? ⟨da, 0, none⟩ = some (.bool a0_0) := (kc_ aa.out 0).trans rfl
   have db : w7.cell? ⟨da, 1, none⟩ = some (.string a0_1) := (kc_ aa.out 1).trans rfl
   have eb : w7.cell? ⟨da, 2, none⟩ = some (.string a0_2) := (kc_ aa.out 2).trans rfl
   have fb := kF_ aa.out 0
   have gb := kF_ aa.out 1
   have ib := kF_ aa.out 2
   go_wp2_with (first | ((with_reducible refine gC_ (f := 46) rfl ?_); refine gL_ (some 35) rfl rfl Tryd.func46 kr_ rfl #[.agg #[.bool a0_0, .string a0_1, .string a0_2]] rfl mp_ ?_; (with_reducible refine (q_den.calls a0_0 a0_1 a0_2 Ja _ A14.out).mono ?_); rintro e w18 ⟨rfl, hb⟩; refine ⟨_, rfl, ?_⟩; have n0_ := A0_.mk (kB_ (g := da) (o := .cells #[.bool a0_0, .string a0_1, .string a0_2] 26 (0, 0)) (xK_ aa.out) hb); have n1_ := A0_.mk (kB_ (g := ea) (o := .cells #[.bool a1_0, .string a1_1, .string a1_2] 26 (0, 0)) (xK_ ba.out) hb); have n2_ := A0_.mk (kB_ (g := fa) (o := .cells zC_ 26 (0, 0)) (xK_ ca.out) hb); have n3_ := A0_.mk (bT_ (xB3_ HB ga ha ia) hb); clear aa ba ca HB; have aa := n0_; have ba := n1_; have ca := n2_; have HB := n3_; clear n0_ n1_ n2_ n3_; (try clear hb); (try clear hb2); (try clear hk); (try clear hi)))
   go_meet
   case rel => exact ⟨_, (a0_1), (a1_1), (Ja), (rS_), (rS_), (rS_), H', ⟨by first | omega | exact Nat.le_refl _⟩, ⟨by (with_reducible repeat (first | apply kN_ | apply kD_ | apply kA_)); exact aa.out⟩, ⟨by (with_reducible repeat (first | apply kN_ | apply kD_ | apply kA_)); exact ba.out⟩, ⟨by (with_reducible repeat (first | apply kN_ | apply kD_ | apply kA_)); exact ca.out⟩, ⟨xB3_ HB ga ha ia⟩⟩
  ·rw [if_neg c13] at H
   have qa : (a0_2.toList == a1_2.toList) = false := beq_eq_false_iff_ne.mpr c13
   have ua : (a0_2.toList != a1_2.toList) = true := bne_iff_ne.mpr c13
   (first | rw [qa] | rw [ua] | (simp only [i6_, i3_]; rw [qa]) | skip)
   obtain ⟨ya, A19, H⟩ := oB_ H
   (try dsimp only at H)
   obtain ⟨Ka, A20, H⟩ := oB_ H
   (try dsimp only at H)
   obtain ⟨za, A21, H⟩ := oB_ H
   (try dsimp only at H)
   obtain ⟨La, A22, H⟩ := oB_ H
   (try dsimp only at H)
   obtain ⟨Aa, A23, H⟩ := oB_ H
   (try dsimp only at H)
   obtain ⟨Ba, A24, H⟩ := oB_ H
   (try dsimp only at H)
   obtain ⟨Ma, A25, H⟩ := oB_ H
   (try dsimp only at H)
   have H' := A0_.mk H
   clear H
   try go_wp2
   have n0_ := A0_.mk (kD_ aa.out)
   have n1_ := A0_.mk (kD_ ba.out)
   have n2_ := A0_.mk (kD_ ca.out)
   have n3_ := A0_.mk (b1_ HB.out)
   clear aa
   clear ba
   clear ca
   clear HB
   have aa := n0_
   have ba := n1_
   have ca := n2_
   have HB := n3_
   clear n0_ n1_ n2_ n3_
   refine start_ (n := 10) (S := fun w' => w'.cell? ⟨ea, 0, none⟩ = some (.bool a1_0) ∧ w'.cell? ⟨ea, 1, none⟩ = some (.string a1_1) ∧ w'.cell? ⟨ea, 2, none⟩ = some (.string a1_2) ∧ w'.cell? ⟨da, 0, none⟩ = some (.bool a0_0) ∧ w'.cell? ⟨da, 1, none⟩ = some (.string a0_1) ∧ w'.cell? ⟨da, 2, none⟩ = some (.string a0_2)) (ds := []) #[false, false, false, false, false, false, false, false, false, false] kr_ rfl rfl ⟨(kc_ ba.out 0).trans rfl, (kc_ ba.out 1).trans rfl, (kc_ ba.out 2).trans rfl, (kc_ aa.out 0).trans rfl, (kc_ aa.out 1).trans rfl, (kc_ aa.out 2).trans rfl⟩ (fun hHeld => ?_); refine with_tabW q_add.tab3 q_add.bits3 (fun HT_ HW_ => ?_)
   generalize w7.drew = w26 at aa ba ca HB hHeld ⊢
   refine pu_ (i := 0) (N := some 21) (v := ?_) (a' := ?_) #[true, false, false, false, false, false, false, false, false, false] rfl rfl (an_ HT_.out kr_) (fun _ _ _ h => h) (Or.inl ⟨by rfl, ?_⟩) ?_ ?_
   rotate_left
   ·intro w'
    go_simp
    with_reducible rfl
   rotate_left
   ·simp only [Act.put, s1_, s2_, s3_, i6_, i3_]
    rfl
   refine pu_ (i := 4) (N := some 25) (v := ?_) (a' := ?_) #[true, false, false, false, true, false, false, false, false, false] rfl rfl (an_ HT_.out kr_) (fun _ _ _ h => h) (Or.inl ⟨by rfl, ?_⟩) ?_ ?_
   rotate_left
   ·intro w'
    go_simp
    with_reducible rfl
   rotate_left
   ·simp only [Act.put, s1_, s2_, s3_, i6_, i3_]
    rfl
   refine take_ (i := 1) (N := some 22) (v := ?_) (a' := ?_) #[true, true, false, false, true, false, false, false, false, false] rfl rfl (tW_ HT_.out HW_.out kr_) (fun _ _ _ h => h) (Or.inl ⟨by rfl, ?_⟩) hHeld ?_ ?_
   rotate_left
   ·rintro w' ⟨s0, s1, s2, s3, s4, s5⟩
    go_simp
    with_reducible rfl
   rotate_left
   ·simp only [Act.put, s1_, s2_, s3_, i6_, i3_]
    rfl
   refine take_ (i := 5) (N := some 26) (v := ?_) (a' := ?_) #[true, true, false, false, true, true, false, false, false, false] rfl rfl (tW_ HT_.out HW_.out kr_) (fun _ _ _ h => h) (Or.inl ⟨by rfl, ?_⟩) hHeld ?_ ?_
   rotate_left
   ·rintro w' ⟨s0, s1, s2, s3, s4, s5⟩
    go_simp
    with_reducible rfl
   rotate_left
   ·simp only [Act.put, s1_, s2_, s3_, i6_, i3_]
    rfl
   refine one_ (i := 2) (N := some 23) #[true, true, true, false, true, true, false, false, false, false] rfl rfl (one_of HT_.out kr_) (by decide) (fun K hK => ?_)
   refine goes_ Tryd.func46 kr_ rfl #[.agg #[.bool a1_0, .string a1_1, .string a1_2]] (by rfl) rfl rfl mp_ ?_
   with_reducible refine (q_den.calls a1_0 a1_1 a1_2 ya _ A19.out).mono ?_
   rintro e w27 ⟨rfl, hb⟩
   refine ⟨_, rfl, ?_⟩
   have n0_ := A0_.mk (kB_ (g := da) (o := .cells #[.bool a0_0, .string a0_1, .string a0_2] 26 (0, 0)) (xK_ aa.out) hb)
   have n1_ := A0_.mk (kB_ (g := ea) (o := .cells #[.bool a1_0, .string a1_1, .string a1_2] 26 (0, 0)) (xK_ ba.out) hb)
   have n2_ := A0_.mk (kB_ (g := fa) (o := .cells zC_ 26 (0, 0)) (xK_ ca.out) hb)
   have n3_ := A0_.mk (bT_ (xB3_ HB ga ha ia) hb)
   clear aa
   clear ba
   clear ca
   clear HB
   have aa := n0_
   have ba := n1_
   have ca := n2_
   have HB := n3_
   clear n0_ n1_ n2_ n3_
   (try clear hb)
   (try clear hb2)
   (try clear hk)
   (try clear hi)
   refine hK.out _ _ ⟨(kc_ ba.out 0).trans rfl, (kc_ ba.out 1).trans rfl, (kc_ ba.out 2).trans rfl, (kc_ aa.out 0).trans rfl, (kc_ aa.out 1).trans rfl, (kc_ aa.out 2).trans rfl⟩ (fun hHeld => ?_)
   clear hK K
   refine norm_ (a' := ?_) ?_ ?_
   rotate_left
   ·show Act.put _ (some 23) _ = _
    simp only [Act.put, s1_, s2_, s3_, i6_, i3_]
    rfl
   refine one_ (i := 3) (N := some 24) #[true, true, true, true, true, true, false, false, false, false] rfl rfl (one_of HT_.out kr_) (by decide) (fun K hK => ?_)
   refine goes_ Tryd.func45 kr_ rfl #[.string a0_1, .string ya] (by rfl) rfl rfl mp_ ?_
   with_reducible refine (n_Multiply.calls k a0_1 ya Ka _ A20.out).mono ?_
   rintro e w28 ⟨rfl, hb⟩
   refine ⟨_, rfl, ?_⟩
   have n0_ := A0_.mk (kB_ (g := da) (o := .cells #[.bool a0_0, .string a0_1, .string a0_2] 26 (0, 0)) (xK_ aa.out) hb)
   have n1_ := A0_.mk (kB_ (g := ea) (o := .cells #[.bool a1_0, .string a1_1, .string a1_2] 26 (0, 0)) (xK_ ba.out) hb)
   have n2_ := A0_.mk (kB_ (g := fa) (o := .cells zC_ 26 (0, 0)) (xK_ ca.out) hb)
   have n3_ := A0_.mk (bT_ (xB3_ HB ga ha ia) hb)
   clear aa
   clear ba
   clear ca
   clear HB
   have aa := n0_
   have ba := n1_
   have ca := n2_
   have HB := n3_
   clear n0_ n1_ n2_ n3_
   (try clear hb)
   (try clear hb2)
   (try clear hk)
   (try clear hi)
   refine hK.out _ _ ⟨(kc_ ba.out 0).trans rfl, (kc_ ba.out 1).trans rfl, (kc_ ba.out 2).trans rfl, (kc_ aa.out 0).trans rfl, (kc_ aa.out 1).trans rfl, (kc_ aa.out 2).trans rfl⟩ (fun hHeld => ?_)
   clear hK K
   refine norm_ (a' := ?_) ?_ ?_
   rotate_left
   ·show Act.put _ (some 24) _ = _
    simp only [Act.put, s1_, s2_, s3_, i6_, i3_]
    rfl
   refine one_ (i := 6) (N := some 27) #[true, true, true, true, true, true, true, false, false, false] rfl rfl (one_of HT_.out kr_) (by decide) (fun K hK => ?_)
   refine goes_ Tryd.func46 kr_ rfl #[.agg #[.bool a0_0, .string a0_1, .string a0_2]] (by rfl) rfl rfl mp_ ?_
   with_reducible refine (q_den.calls a0_0 a0_1 a0_2 za _ A21.out).mono ?_
   rintro e w29 ⟨rfl, hb⟩
   refine ⟨_, rfl, ?_⟩
   have n0_ := A0_.mk (kB_ (g := da) (o := .cells #[.bool a0_0, .string a0_1, .string a0_2] 26 (0, 0)) (xK_ aa.out) hb)
   have n1_ := A0_.mk (kB_ (g := ea) (o := .cells #[.bool a1_0, .string a1_1, .string a1_2] 26 (0, 0)) (xK_ ba.out) hb)
   have n2_ := A0_.mk (kB_ (g := fa) (o := .cells zC_ 26 (0, 0)) (xK_ ca.out) hb)
   have n3_ := A0_.mk (bT_ (xB3_ HB ga ha ia) hb)
   clear aa
   clear ba
   clear ca
   clear HB
   have aa := n0_
   have ba := n1_
   have ca := n2_
   have HB := n3_
   clear n0_ n1_ n2_ n3_
   (try clear hb)
   (try clear hb2)
   (try clear hk)
   (try clear hi)
   refine hK.out _ _ ⟨(kc_ ba.out 0).trans rfl, (kc_ ba.out 1).trans rfl, (kc_ ba.out 2).trans rfl, (kc_ aa.out 0).trans rfl, (kc_ aa.out 1).trans rfl, (kc_ aa.out 2).trans rfl⟩ (fun hHeld => ?_)
   clear hK K
   refine norm_ (a' := ?_) ?_ ?_
   rotate_left
   ·show Act.put _ (some 27) _ = _
    simp only [Act.put, s1_, s2_, s3_, i6_, i3_]
    rfl
   refine one_ (i := 7) (N := some 28) #[true, true, true, true, true, true, true, true, false, false] rfl rfl (one_of HT_.out kr_) (by decide) (fun K hK => ?_)
   refine goes_ Tryd.func45 kr_ rfl #[.string a1_1, .string za] (by rfl) rfl rfl mp_ ?_
   with_reducible refine (n_Multiply.calls k a1_1 za La _ A22.out).mono ?_
   rintro e w30 ⟨rfl, hb⟩
   refine ⟨_, rfl, ?_⟩
   have n0_ := A0_.mk (kB_ (g := da) (o := .cells #[.bool a0_0, .string a0_1, .string a0_2] 26 (0, 0)) (xK_ aa.out) hb)
   have n1_ := A0_.mk (kB_ (g := ea) (o := .cells #[.bool a1_0, .string a1_1, .string a1_2] 26 (0, 0)) (xK_ ba.out) hb)
   have n2_ := A0_.mk (kB_ (g := fa) (o := .cells zC_ 26 (0, 0)) (xK_ ca.out) hb)
   have n3_ := A0_.mk (bT_ (xB3_ HB ga ha ia) hb)
   clear aa
   clear ba
   clear ca
   clear HB
   have aa := n0_
   have ba := n1_
   have ca := n2_
   have HB := n3_
   clear n0_ n1_ n2_ n3_
   (try clear hb)
   (try clear hb2)
   (try clear hk)
   (try clear hi)
   refine hK.out _ _ ⟨(kc_ ba.out 0).trans rfl, (kc_ ba.out 1).trans rfl, (kc_ ba.out 2).trans rfl, (kc_ aa.out 0).trans rfl, (kc_ aa.out 1).trans rfl, (kc_ aa.out 2).trans rfl⟩ (fun hHeld => ?_)
   clear hK K
   refine norm_ (a' := ?_) ?_ ?_
   rotate_left
   ·show Act.put _ (some 28) _ = _
    simp only [Act.put, s1_, s2_, s3_, i6_, i3_]
    rfl
   refine pu_ (i := 8) (N := some 5) (v := ?_) (a' := ?_) #[true, true, true, true, true, true, true, true, true, false] rfl rfl (an_ HT_.out kr_) (fun _ _ _ h => h) (Or.inl ⟨by rfl, ?_⟩) ?_ ?_
   rotate_left
   ·intro w'
    go_simp
    with_reducible rfl
   rotate_left
   ·simp only [Act.put, s1_, s2_, s3_, i6_, i3_]
    rfl
   refine pu_ (i := 9) (N := some 6) (v := ?_) (a' := ?_) #[true, true, true, true, true, true, true, true, true, true] rfl rfl (an_ HT_.out kr_) (fun _ _ _ h => h) (Or.inl ⟨by rfl, ?_⟩) ?_ ?_
   rotate_left
   ·intro w'
    go_simp
    with_reducible rfl
   rotate_left
   ·simp only [Act.put, s1_, s2_, s3_, i6_, i3_]
    rfl
   refine done_ (done_of HT_.out kr_) ?_
   try go_wp2
   have n0_ := A0_.mk (kD_ aa.out)
   have n1_ := A0_.mk (kD_ ba.out)
   have n2_ := A0_.mk (kD_ ca.out)
   have n3_ := A0_.mk (b1_ HB.out)
   clear aa
   clear ba
   clear ca
   clear HB
   have aa := n0_
   have ba := n1_
   have ca := n2_
   have HB := n3_
   clear n0_ n1_ n2_ n3_
   refine start_ (n := 6) (S := fun w' => w'.cell? ⟨da, 0, none⟩ = some (.bool a0_0) ∧ w'.cell? ⟨da, 1, none⟩ = some (.string a0_1) ∧ w'.cell? ⟨da, 2, none⟩ = some (.string a0_2) ∧ w'.cell? ⟨ea, 0, none⟩ = some (.bool a1_0) ∧ w'.cell? ⟨ea, 1, none⟩ = some (.string a1_1) ∧ w'.cell? ⟨ea, 2, none⟩ = some (.string a1_2)) (ds := []) #[false, false, false, false, false, false] kr_ rfl rfl ⟨(kc_ aa.out 0).trans rfl, (kc_ aa.out 1).trans rfl, (kc_ aa.out 2).trans rfl, (kc_ ba.out 0).trans rfl, (kc_ ba.out 1).trans rfl, (kc_ ba.out 2).trans rfl⟩ (fun hHeld => ?_)
   generalize w30.drew = w31 at aa ba ca HB hHeld ⊢
   refine take_ (i := 0) (N := some 29) (v := ?_) (a' := ?_) #[true, false, false, false, false, false] rfl rfl kr_ (fun _ _ _ h => h) (Or.inl ⟨by rfl, ?_⟩) hHeld ?_ ?_
   rotate_left
   ·rintro w' ⟨s0, s1, s2, s3, s4, s5⟩
    go_simp
    with_reducible rfl
   rotate_left
   ·simp only [Act.put, s1_, s2_, s3_, i6_, i3_]
    rfl
   refine take_ (i := 2) (N := some 31) (v := ?_) (a' := ?_) #[true, false, true, false, false, false] rfl rfl kr_ (fun _ _ _ h => h) (Or.inl ⟨by rfl, ?_⟩) hHeld ?_ ?_
   rotate_left
   ·rintro w' ⟨s0, s1, s2, s3, s4, s5⟩
    go_simp
    with_reducible rfl
   rotate_left
   ·simp only [Act.put, s1_, s2_, s3_, i6_, i3_]
    rfl
   refine one_ (i := 1) (N := some 30) #[true, true, true, false, false, false] rfl rfl kr_ (by decide) (fun K hK => ?_)
   refine goes_ Tryd.func46 kr_ rfl #[.agg #[.bool a0_0, .string a0_1, .string a0_2]] (by rfl) rfl rfl mp_ ?_
   with_reducible refine (q_den.calls a0_0 a0_1 a0_2 Aa _ A23.out).mono ?_
   rintro e w32 ⟨rfl, hb⟩
   refine ⟨_, rfl, ?_⟩
   have n0_ := A0_.mk (kB_ (g := da) (o := .cells #[.bool a0_0, .string a0_1, .string a0_2] 26 (0, 0)) (xK_ aa.out) hb)
   have n1_ := A0_.mk (kB_ (g := ea) (o := .cells #[.bool a1_0, .string a1_1, .string a1_2] 26 (0, 0)) (xK_ ba.out) hb)
   have n2_ := A0_.mk (kB_ (g := fa) (o := .cells zC_ 26 (0, 0)) (xK_ ca.out) hb)
   have n3_ := A0_.mk (bT_ (xB3_ HB ga ha ia) hb)
   clear aa
   clear ba
   clear ca
   clear HB
   have aa := n0_
   have ba := n1_
   have ca := n2_
   have HB := n3_
   clear n0_ n1_ n2_ n3_
   (try clear hb)
   (try clear hb2)
   (try clear hk)
   (try clear hi)
   refine hK.out _ _ ⟨(kc_ aa.out 0).trans rfl, (kc_ aa.out 1).trans rfl, (kc_ aa.out 2).trans rfl, (kc_ ba.out 0).trans rfl, (kc_ ba.out 1).trans rfl, (kc_ ba.out 2).trans rfl⟩ (fun hHeld => ?_)
   clear hK K
   refine norm_ (a' := ?_) ?_ ?_
   rotate_left
   ·show Act.put _ (some 30) _ = _
    simp only [Act.put, s1_, s2_, s3_, i6_, i3_]
    rfl
   refine one_ (i := 3) (N := some 32) #[true, true, true, true, false, false] rfl rfl kr_ (by decide) (fun K hK => ?_)
   refine goes_ Tryd.func46 kr_ rfl #[.agg #[.bool a1_0, .string a1_1, .string a1_2]] (by rfl) rfl rfl mp_ ?_
   with_reducible refine (q_den.calls a1_0 a1_1 a1_2 Ba _ A24.out).mono ?_
   rintro e w33 ⟨rfl, hb⟩
   refine ⟨_, rfl, ?_⟩
   have n0_ := A0_.mk (kB_ (g := da) (o := .cells #[.bool a0_0, .string a0_1, .string a0_2] 26 (0, 0)) (xK_ aa.out) hb)
   have n1_ := A0_.mk (kB_ (g := ea) (o := .cells #[.bool a1_0, .string a1_1, .string a1_2] 26 (0, 0)) (xK_ ba.out) hb)
   have n2_ := A0_.mk (kB_ (g := fa) (o := .cells zC_ 26 (0, 0)) (xK_ ca.out) hb)
   have n3_ := A0_.mk (bT_ (xB3_ HB ga ha ia) hb)
   clear aa
   clear ba
   clear ca
   clear HB
   have aa := n0_
   have ba := n1_
   have ca := n2_
   have HB := n3_
   clear n0_ n1_ n2_ n3_
   (try clear hb)
   (try clear hb2)
   (try clear hk)
   (try clear hi)
   refine hK.out _ _ ⟨(kc_ aa.out 0).trans rfl, (kc_ aa.out 1).trans rfl, (kc_ aa.out 2).trans rfl, (kc_ ba.out 0).trans rfl, (kc_ ba.out 1).trans rfl, (kc_ ba.out 2).trans rfl⟩ (fun hHeld => ?_)
   clear hK K
   refine norm_ (a' := ?_) ?_ ?_
   rotate_left
   ·show Act.put _ (some 32) _ = _
    simp only [Act.put, s1_, s2_, s3_, i6_, i3_]
    rfl
   refine one_ (i := 4) (N := some 33) #[true, true, true, true, true, false] rfl rfl kr_ (by decide) (fun K hK => ?_)
   refine goes_ Tryd.func45 kr_ rfl #[.string Aa, .string Ba] (by rfl) rfl rfl mp_ ?_
   with_reducible refine (n_Multiply.calls k Aa Ba Ma _ A25.out).mono ?_
   rintro e w34 ⟨rfl, hb⟩
   refine ⟨_, rfl, ?_⟩
   have n0_ := A0_.mk (kB_ (g := da) (o := .cells #[.bool a0_0, .string a0_1, .string a0_2] 26 (0, 0)) (xK_ aa.out) hb)
   have n1_ := A0_.mk (kB_ (g := ea) (o := .cells #[.bool a1_0, .string a1_1, .string a1_2] 26 (0, 0)) (xK_ ba.out) hb)
   have n2_ := A0_.mk (kB_ (g := fa) (o := .cells zC_ 26 (0, 0)) (xK_ ca.out) hb)
   have n3_ := A0_.mk (bT_ (xB3_ HB ga ha ia) hb)
   clear aa
   clear ba
   clear ca
   clear HB
   have aa := n0_
   have ba := n1_
   have ca := n2_
   have HB := n3_
   clear n0_ n1_ n2_ n3_
   (try clear hb)
   (try clear hb2)
   (try clear hk)
   (try clear hi)
   refine hK.out _ _ ⟨(kc_ aa.out 0).trans rfl, (kc_ aa.out 1).trans rfl, (kc_ aa.out 2).trans rfl, (kc_ ba.out 0).trans rfl, (kc_ ba.out 1).trans rfl, (kc_ ba.out 2).trans rfl⟩ (fun hHeld => ?_)
   clear hK K
   refine norm_ (a' := ?_) ?_ ?_
   rotate_left
   ·show Act.put _ (some 33) _ = _
    simp only [Act.put, s1_, s2_, s3_, i6_, i3_]
    rfl
   refine pu_ (i := 5) (N := some 7) (v := ?_) (a' := ?_) #[true, true, true, true, true, true] rfl rfl kr_ (fun _ _ _ h => h) (Or.inl ⟨by rfl, ?_⟩) ?_ ?_
   rotate_left
   ·intro w'
    go_simp
    with_reducible rfl
   rotate_left
   ·simp only [Act.put, s1_, s2_, s3_, i6_, i3_]
    rfl
   refine done_ kr_ ?_
   try go_wp2
   go_meet
   case rel => exact ⟨_, (Ka), (La), (Ma), (rS_), (rS_), (rS_), H', ⟨by first | omega | exact Nat.le_refl _⟩, ⟨by (with_reducible repeat (first | apply kN_ | apply kD_ | apply kA_)); exact aa.out⟩, ⟨by (with_reducible repeat (first | apply kN_ | apply kD_ | apply kA_)); exact ba.out⟩, ⟨by (with_reducible repeat (first | apply kN_ | apply kD_ | apply kA_)); exact ca.out⟩, ⟨xB3_ HB ga ha ia⟩⟩
 case rest =>
  clear HC3
  try clear c1
  try clear p2
  try clear c4
  try clear c8
  try clear c9
  try clear c11
  try clear c13
  try clear qa
  try clear ua
  try clear c15
  try clear c16
  try clear Qa
  try clear Ra
  try clear Sa
  try clear Wa
  try clear Xa
  try clear Ya
  try clear cb
  try clear db
  try clear eb
  try clear Ta
  try clear Ua
  try clear Va
  try clear Za
  try clear ab
  try clear bb
  try clear fb
  try clear gb
  try clear ib
  obtain ⟨kq, ka, la, ma, rfl, rfl, rfl, HA, HJ2, aa, ba, ca, HB⟩ := hcut
  cases kq with
  | zero => exact absurd HA.out (by simp [q_add.j0])
  | succ kj2 =>
   have H := HA.out
   clear HA
   simp only [q_add.j0] at H
   by_cases c35 : (a0_0 == a1_0) = true
   ·rw [if_pos c35] at H
    have jb : (a0_0 == a1_0) = true := c35
    (try (have kb : decide (a0_0 = a1_0) = true := by simpa using c35))
    (try (have mb : (a0_0 == a1_0) = true := by simpa using c35))
    clear c35
    obtain ⟨Ca, A36, H⟩ := oB_ H
    (try dsimp only at H)
    obtain ⟨⟨va, Da, Na⟩, A37, H⟩ := oB_ H
    (try dsimp only at H)
    simp only [Option.some.injEq, Prod.mk.injEq] at H
    obtain ⟨rfl, rfl, rfl⟩ := H
    have hnb38 := ra.out
    have hnc38 := sa.out
    have hnb39 := ja.out
    have hnc39 := na.out
    have tb : wc.cell? ⟨da, 0, none⟩ = some (.bool a0_0) := (kc_ aa.out 0).trans rfl
    have ub : wc.cell? ⟨da, 1, none⟩ = some (.string a0_1) := (kc_ aa.out 1).trans rfl
    have vb : wc.cell? ⟨da, 2, none⟩ = some (.string a0_2) := (kc_ aa.out 2).trans rfl
    have wb := kF_ aa.out 0
    have xb := kF_ aa.out 1
    have yb := kF_ aa.out 2
    have hnb41 := oa.out
    have hnc41 := pa.out
    have zb : wc.cell? ⟨ea, 0, none⟩ = some (.bool a1_0) := (kc_ ba.out 0).trans rfl
    have Ab : wc.cell? ⟨ea, 1, none⟩ = some (.string a1_1) := (kc_ ba.out 1).trans rfl
    have Bb : wc.cell? ⟨ea, 2, none⟩ = some (.string a1_2) := (kc_ ba.out 2).trans rfl
    have Cb := kF_ ba.out 0
    have Db := kF_ ba.out 1
    have Eb := kF_ ba.out 2
    try go_wp2
    have n0_ := A0_.mk (kD_ aa.out)
    have n1_ := A0_.mk (kD_ ba.out)
    have n2_ := A0_.mk (kD_ ca.out)
    have n3_ := A0_.mk (b1_ HB.out)
    clear aa
    clear ba
    clear ca
    clear HB
    have aa := n0_
    have ba := n1_
    have ca := n2_
    have HB := n3_
    clear n0_ n1_ n2_ n3_
    refine start_ (n := 8) (S := fun w' => w'.cell? ⟨da, 0, none⟩ = some (.bool a0_0) ∧ w'.cell? ⟨da, 1, none⟩ = some (.string a0_1) ∧ w'.cell? ⟨da, 2, none⟩ = some (.string a0_2)) (ds := []) #[false, false, false, false, false, false, false, false] kr_ rfl rfl ⟨(kc_ aa.out 0).trans rfl, (kc_ aa.out 1).trans rfl, (kc_ aa.out 2).trans rfl⟩ (fun hHeld => ?_); refine with_tabW q_add.tab7 q_add.bits7 (fun HT_ HW_ => ?_)
    generalize wc.drew = w43 at aa ba ca HB hHeld ⊢
    refine pu_ (i := 0) (N := some 41) (v := ?_) (a' := ?_) #[true, false, false, false, false, false, false, false] rfl rfl (an_ HT_.out kr_) (fun _ _ _ h => h) (Or.inl ⟨by rfl, ?_⟩) ?_ ?_
    rotate_left
    ·intro w'
     go_simp
     with_reducible rfl
    rotate_left
    ·simp only [Act.put, s1_, s2_, s3_, i6_, i3_]
     rfl
    refine pu_ (i := 2) (N := some 43) (v := ?_) (a' := ?_) #[true, false, true, false, false, false, false, false] rfl rfl (an_ HT_.out kr_) (fun _ _ _ h => h) (Or.inl ⟨by rfl, ?_⟩) ?_ ?_
    rotate_left
    ·intro w'
     go_simp
     with_reducible rfl
    rotate_left
    ·simp only [Act.put, s1_, s2_, s3_, i6_, i3_]
     rfl
    refine pu_ (i := 3) (N := some 44) (v := ?_) (a' := ?_) #[true, false, true, true, false, false, false, false] rfl rfl (an_ HT_.out kr_) (fun _ _ _ h => h) (Or.inl ⟨by rfl, ?_⟩) ?_ ?_
    rotate_left
    ·intro w'
     go_simp
     with_reducible rfl
    rotate_left
    ·simp only [Act.put, s1_, s2_, s3_, i6_, i3_]
     rfl
    refine pu_ (i := 5) (N := some 46) (v := ?_) (a' := ?_) #[true, false, true, true, false, true, false, false] rfl rfl (an_ HT_.out kr_) (fun _ _ _ h => h) (Or.inl ⟨by rfl, ?_⟩) ?_ ?_
    rotate_left
    ·intro w'
     go_simp
     with_reducible rfl
    rotate_left
    ·simp only [Act.put, s1_, s2_, s3_, i6_, i3_]
     rfl
    refine take_ (i := 1) (N := some 42) (v := ?_) (a' := ?_) #[true, true, true, true, false, true, false, false] rfl rfl (tW_ HT_.out HW_.out kr_) (fun _ _ _ h => h) (Or.inl ⟨by rfl, ?_⟩) hHeld ?_ ?_
    rotate_left
    ·rintro w' ⟨s0, s1, s2⟩
     go_simp
     with_reducible rfl
    rotate_left
    ·simp only [Act.put, s1_, s2_, s3_, i6_, i3_]
     rfl
    refine one_ (i := 4) (N := some 45) #[true, true, true, true, true, true, false, false] rfl rfl (one_of HT_.out kr_) (by decide) (fun K hK => ?_)
    refine goes_ Tryd.func66 kr_ rfl #[.string ka, .string la] (by rfl) rfl rfl mp_ ?_
    with_reducible refine (n_Add.calls kj2 ka la Ca _ A36.out).mono ?_
    rintro e w44 ⟨rfl, hb⟩
    refine ⟨_, rfl, ?_⟩
    have n0_ := A0_.mk (kB_ (g := da) (o := .cells #[.bool a0_0, .string a0_1, .string a0_2] 26 (0, 0)) (xK_ aa.out) hb)
    have n1_ := A0_.mk (kB_ (g := ea) (o := .cells #[.bool a1_0, .string a1_1, .string a1_2] 26 (0, 0)) (xK_ ba.out) hb)
    have n2_ := A0_.mk (kB_ (g := fa) (o := .cells zC_ 26 (0, 0)) (xK_ ca.out) hb)
    have n3_ := A0_.mk (bT_ (xB3_ HB ga ha ia) hb)
    clear aa
    clear ba
    clear ca
    clear HB
    have aa := n0_
    have ba := n1_
    have ca := n2_
    have HB := n3_
    clear n0_ n1_ n2_ n3_
    (try clear hb)
    (try clear hb2)
    (try clear hk)
    (try clear hi)
    refine hK.out _ _ ⟨(kc_ aa.out 0).trans rfl, (kc_ aa.out 1).trans rfl, (kc_ aa.out 2).trans rfl⟩ (fun hHeld => ?_)
    clear hK K
    refine norm_ (a' := ?_) ?_ ?_
    rotate_left
    ·show Act.put _ (some 45) _ = _
     simp only [Act.put, s1_, s2_, s3_, i6_, i3_]
     rfl
    refine one_ (i := 6) (N := some 47) #[true, true, true, true, true, true, true, false] rfl rfl (one_of HT_.out kr_) (by decide) (fun K hK => ?_)
    refine goes_ Tryd.func52 kr_ rfl #[.bool a0_0, .string Ca, .string ma] (by rfl) rfl rfl mp_ ?_
    with_reducible refine (q_reduced.calls kj2 a0_0 Ca ma va Da Na _ A37.out).mono ?_
    rintro e w45 ⟨rfl, hb⟩
    refine ⟨_, rfl, ?_⟩
    have n0_ := A0_.mk (kB_ (g := da) (o := .cells #[.bool a0_0, .string a0_1, .string a0_2] 26 (0, 0)) (xK_ aa.out) hb)
    have n1_ := A0_.mk (kB_ (g := ea) (o := .cells #[.bool a1_0, .string a1_1, .string a1_2] 26 (0, 0)) (xK_ ba.out) hb)
    have n2_ := A0_.mk (kB_ (g := fa) (o := .cells zC_ 26 (0, 0)) (xK_ ca.out) hb)
    have n3_ := A0_.mk (bT_ (xB3_ HB ga ha ia) hb)
    clear aa
    clear ba
    clear ca
    clear HB
    have aa := n0_
    have ba := n1_
    have ca := n2_
    have HB := n3_
    clear n0_ n1_ n2_ n3_
    (try clear hb)
    (try clear hb2)
    (try clear hk)
    (try clear hi)
    refine hK.out _ _ ⟨(kc_ aa.out 0).trans rfl, (kc_ aa.out 1).trans rfl, (kc_ aa.out 2).trans rfl⟩ (fun hHeld => ?_)
    clear hK K
    refine norm_ (a' := ?_) ?_ ?_
    rotate_left
    ·show Act.put _ (some 47) _ = _
     simp only [Act.put, s1_, s2_, s3_, i6_, i3_]
     rfl
    refine one_ (i := 7) (N := none) #[true, true, true, true, true, true, true, true] rfl rfl (one_of HT_.out kr_) (by decide) (fun K hK => ?_)
    have Fb : w45.cell? ⟨fa, 0, none⟩ = some (.bool false) := (kc_ ca.out 0).trans rfl
    have hfs46 := kF_ ca.out 0
    have hns46_0 := ja.out
    have hns46_1 := oa.out
    have hms46_0 := na.out
    have hms46_1 := pa.out
    have Gb : w45.cell? ⟨fa, 1, none⟩ = some (.string (⟨#[]⟩ : ByteArray)) := (kc_ ca.out 1).trans rfl
    have hfs47 := kF_ ca.out 1
    have hns47_0 := ja.out
    have hns47_1 := oa.out
    have hms47_0 := na.out
    have hms47_1 := pa.out
    have Hb : w45.cell? ⟨fa, 2, none⟩ = some (.string (⟨#[]⟩ : ByteArray)) := (kc_ ca.out 2).trans rfl
    have hfs48 := kF_ ca.out 2
    have hns48_0 := ja.out
    have hns48_1 := oa.out
    have hms48_0 := na.out
    have hms48_1 := pa.out
    refine skip_ (w1 := ?_) (by rfl) rfl ?_ ?_
    rotate_left
    ·go_simp
     rfl
    refine hK.out _ _ ⟨((cf_ (p := ⟨fa, _, none⟩) ja.out _).trans (((cf_ (p := ⟨fa, _, none⟩) ja.out _).trans (((cf_ (p := ⟨fa, _, none⟩) ja.out _).trans (hHeld.1)))))), ((cf_ (p := ⟨fa, _, none⟩) ja.out _).trans (((cf_ (p := ⟨fa, _, none⟩) ja.out _).trans (((cf_ (p := ⟨fa, _, none⟩) ja.out _).trans (hHeld.2.1)))))), ((cf_ (p := ⟨fa, _, none⟩) ja.out _).trans (((cf_ (p := ⟨fa, _, none⟩) ja.out _).trans (((cf_ (p := ⟨fa, _, none⟩) ja.out _).trans (hHeld.2.2))))))⟩ (fun hHeld => ?_)
    clear hK K
    refine done_ (done_of HT_.out kr_) ?_
    try go_wp2
    refine bodyPost_ret (results_cell_row rfl _ _ fa 26 #[.bool va, .string Da, .string Na] (0, 0) _ rfl (by (with_reducible repeat (first | apply kN_ | apply kD_ | apply kA_)); refine kP_ (cs := #[.bool va, .string Da, .string (⟨#[]⟩ : ByteArray)]) ?_ 2 _ rfl; (with_reducible repeat (first | apply kN_ | apply kD_ | apply kA_)); refine kP_ (cs := #[.bool va, .string (⟨#[]⟩ : ByteArray), .string (⟨#[]⟩ : ByteArray)]) ?_ 1 _ rfl; (with_reducible repeat (first | apply kN_ | apply kD_ | apply kA_)); refine kP_ (cs := zC_) ?_ 0 _ rfl; (with_reducible repeat (first | apply kN_ | apply kD_ | apply kA_)); exact ca.out) Tryd.underlying26 rfl kr_) rfl ?_
    exact ⟨rE_, xB3_ HB ga ha ia⟩
   ·rw [if_neg c35] at H
    have jb : (a0_0 == a1_0) = false := by simpa using c35
    (try (have kb : decide (a0_0 = a1_0) = false := by simpa using c35))
    (try (have mb : (a0_0 == a1_0) = false := by simpa using c35))
    (try (have Ib : ¬ (a0_0 = a1_0) := by simpa using c35))
    clear c35
    obtain ⟨⟨ta, nb⟩, A49, H⟩ := oB_ H
    (try dsimp only at H)
    by_cases c50 : nb = true
    ·subst c50
     have H1 : ((q_reduced.f kj2 a0_0 ta ma).bind fun Ea => (some (Ea.1, Ea.2.1, Ea.2.2))) = some (r1, r2, r3) := by rw [if_pos rfl] at H; exact H
     clear H
     have H := H1
     clear H1
     obtain ⟨⟨wa, Fa, Oa⟩, A51, H⟩ := oB_ H
     (try dsimp only at H)
     simp only [Option.some.injEq, Prod.mk.injEq] at H
     obtain ⟨rfl, rfl, rfl⟩ := H
     have hnb52 := ra.out
     have hnc52 := sa.out
     have hnb53 := ja.out
     have hnc53 := na.out
     have Jb : wc.cell? ⟨da, 0, none⟩ = some (.bool a0_0) := (kc_ aa.out 0).trans rfl
     have Kb : wc.cell? ⟨da, 1, none⟩ = some (.string a0_1) := (kc_ aa.out 1).trans rfl
     have Lb : wc.cell? ⟨da, 2, none⟩ = some (.string a0_2) := (kc_ aa.out 2).trans rfl
     have Mb := kF_ aa.out 0
     have Nb := kF_ aa.out 1
     have Ob := kF_ aa.out 2
     have hnb55 := oa.out
     have hnc55 := pa.out
     have Pb : wc.cell? ⟨ea, 0, none⟩ = some (.bool a1_0) := (kc_ ba.out 0).trans rfl
     have Qb : wc.cell? ⟨ea, 1, none⟩ = some (.string a1_1) := (kc_ ba.out 1).trans rfl
     have Rb : wc.cell? ⟨ea, 2, none⟩ = some (.string a1_2) := (kc_ ba.out 2).trans rfl
     have Sb := kF_ ba.out 0
     have Tb := kF_ ba.out 1
     have Ub := kF_ ba.out 2
     go_wp2_with (first | ((with_reducible refine gC_ (f := 67) rfl ?_); refine gL_ (some 51) rfl rfl Tryd.func67 kr_ rfl #[.string ka, .string la] rfl mp_ ?_; (with_reducible refine (n_Subtract.calls kj2 ka la ta true _ A49.out).mono ?_); rintro e w57 ⟨rfl, hb⟩; refine ⟨_, rfl, ?_⟩; have n0_ := A0_.mk (kB_ (g := da) (o := .cells #[.bool a0_0, .string a0_1, .string a0_2] 26 (0, 0)) (xK_ aa.out) hb); have n1_ := A0_.mk (kB_ (g := ea) (o := .cells #[.bool a1_0, .string a1_1, .string a1_2] 26 (0, 0)) (xK_ ba.out) hb); have n2_ := A0_.mk (kB_ (g := fa) (o := .cells zC_ 26 (0, 0)) (xK_ ca.out) hb); have n3_ := A0_.mk (bT_ (xB3_ HB ga ha ia) hb); clear aa ba ca HB; have aa := n0_; have ba := n1_; have ca := n2_; have HB := n3_; clear n0_ n1_ n2_ n3_; (try clear hb); (try clear hb2); (try clear hk); (try clear hi); have Vb : w57.cell? ⟨da, 0, none⟩ = some (.bool a0_0) := (kc_ aa.out 0).trans rfl; have Wb : w57.cell? ⟨da, 1, none⟩ = some (.string a0_1) := (kc_ aa.out 1).trans rfl; have Xb : w57.cell? ⟨da, 2, none⟩ = some (.string a0_2) := (kc_ aa.out 2).trans rfl; have Yb := kF_ aa.out 0; have Zb := kF_ aa.out 1; have ac := kF_ aa.out 2) | ((with_reducible refine gC_ (f := 52) rfl ?_); refine gL_ (some 59) rfl rfl Tryd.func52 kr_ rfl #[.bool a0_0, .string ta, .string ma] rfl mp_ ?_; (with_reducible refine (q_reduced.calls kj2 a0_0 ta ma wa Fa Oa _ A51.out).mono ?_); rintro e w59 ⟨rfl, hb⟩; refine ⟨_, rfl, ?_⟩; have n0_ := A0_.mk (kB_ (g := da) (o := .cells #[.bool a0_0, .string a0_1, .string a0_2] 26 (0, 0)) (xK_ aa.out) hb); have n1_ := A0_.mk (kB_ (g := ea) (o := .cells #[.bool a1_0, .string a1_1, .string a1_2] 26 (0, 0)) (xK_ ba.out) hb); have n2_ := A0_.mk (kB_ (g := fa) (o := .cells zC_ 26 (0, 0)) (xK_ ca.out) hb); have n3_ := A0_.mk (bT_ (xB3_ HB ga ha ia) hb); clear aa ba ca HB; have aa := n0_; have ba := n1_; have ca := n2_; have HB := n3_; clear n0_ n1_ n2_ n3_; (try clear hb); (try clear hb2); (try clear hk); (try clear hi); have bc : w59.cell? ⟨fa, 0, none⟩ = some (.bool false) := (kc_ ca.out 0).trans rfl; have cc : w59.cell? ⟨fa, 1, none⟩ = some (.string (⟨#[]⟩ : ByteArray)) := (kc_ ca.out 1).trans rfl; have dc : w59.cell? ⟨fa, 2, none⟩ = some (.string (⟨#[]⟩ : ByteArray)) := (kc_ ca.out 2).trans rfl; have ec := kF_ ca.out 0; have fc := kF_ ca.out 1; have gc := kF_ ca.out 2))
     refine bodyPost_ret (results_cell_row rfl _ _ fa 26 #[.bool wa, .string Fa, .string Oa] (0, 0) _ rfl (by (with_reducible repeat (first | apply kN_ | apply kD_ | apply kA_)); refine kP_ (cs := #[.bool wa, .string Fa, .string (⟨#[]⟩ : ByteArray)]) ?_ 2 _ rfl; (with_reducible repeat (first | apply kN_ | apply kD_ | apply kA_)); refine kP_ (cs := #[.bool wa, .string (⟨#[]⟩ : ByteArray), .string (⟨#[]⟩ : ByteArray)]) ?_ 1 _ rfl; (with_reducible repeat (first | apply kN_ | apply kD_ | apply kA_)); refine kP_ (cs := zC_) ?_ 0 _ rfl; (with_reducible repeat (first | apply kN_ | apply kD_ | apply kA_)); exact ca.out) Tryd.underlying26 rfl kr_) rfl ?_
     exact ⟨rE_, xB3_ HB ga ha ia⟩
    ·replace c50 := Bool.eq_false_iff.mpr c50
     subst c50
     have H1 : ((n_Subtract.f kj2 la ka).bind fun ob => ((q_reduced.f kj2 a1_0 ob.1 ma).bind fun Ga => (some (Ga.1, Ga.2.1, Ga.2.2)))) = some (r1, r2, r3) := by rw [if_neg (show ¬ (false = true) by decide)] at H; exact H
     clear H
     have H := H1
     clear H1
     obtain ⟨⟨Ha, pb⟩, A61, H⟩ := oB_ H
     (try dsimp only at H)
     obtain ⟨⟨xa, Ia, Pa⟩, A62, H⟩ := oB_ H
     (try dsimp only at H)
     simp only [Option.some.injEq, Prod.mk.injEq] at H
     obtain ⟨rfl, rfl, rfl⟩ := H
     have hnb63 := ra.out
     have hnc63 := sa.out
     have hnb64 := ja.out
     have hnc64 := na.out
     have hc : wc.cell? ⟨da, 0, none⟩ = some (.bool a0_0) := (kc_ aa.out 0).trans rfl
     have ic : wc.cell? ⟨da, 1, none⟩ = some (.string a0_1) := (kc_ aa.out 1).trans rfl
     have jc : wc.cell? ⟨da, 2, none⟩ = some (.string a0_2) := (kc_ aa.out 2).trans rfl
     have kc := kF_ aa.out 0
     have lc := kF_ aa.out 1
     have mc := kF_ aa.out 2
     have hnb66 := oa.out
     have hnc66 := pa.out
     have nc : wc.cell? ⟨ea, 0, none⟩ = some (.bool a1_0) := (kc_ ba.out 0).trans rfl
     have oc : wc.cell? ⟨ea, 1, none⟩ = some (.string a1_1) := (kc_ ba.out 1).trans rfl
     have pc : wc.cell? ⟨ea, 2, none⟩ = some (.string a1_2) := (kc_ ba.out 2).trans rfl
     have qc := kF_ ba.out 0
     have rc := kF_ ba.out 1
     have sc := kF_ ba.out 2
     go_wp2_with (first | ((with_reducible refine gC_ (f := 67) rfl ?_); refine gL_ (some 51) rfl rfl Tryd.func67 kr_ rfl #[.string ka, .string la] rfl mp_ ?_; (with_reducible refine (n_Subtract.calls kj2 ka la ta false _ A49.out).mono ?_); rintro e w68 ⟨rfl, hb⟩; refine ⟨_, rfl, ?_⟩; have n0_ := A0_.mk (kB_ (g := da) (o := .cells #[.bool a0_0, .string a0_1, .string a0_2] 26 (0, 0)) (xK_ aa.out) hb); have n1_ := A0_.mk (kB_ (g := ea) (o := .cells #[.bool a1_0, .string a1_1, .string a1_2] 26 (0, 0)) (xK_ ba.out) hb); have n2_ := A0_.mk (kB_ (g := fa) (o := .cells zC_ 26 (0, 0)) (xK_ ca.out) hb); have n3_ := A0_.mk (bT_ (xB3_ HB ga ha ia) hb); clear aa ba ca HB; have aa := n0_; have ba := n1_; have ca := n2_; have HB := n3_; clear n0_ n1_ n2_ n3_; (try clear hb); (try clear hb2); (try clear hk); (try clear hi)) | ((with_reducible refine gC_ (f := 67) rfl ?_); refine gL_ (some 63) rfl rfl Tryd.func67 kr_ rfl #[.string la, .string ka] rfl mp_ ?_; (with_reducible refine (n_Subtract.calls kj2 la ka Ha pb _ A61.out).mono ?_); rintro e w69 ⟨rfl, hb⟩; refine ⟨_, rfl, ?_⟩; have n0_ := A0_.mk (kB_ (g := da) (o := .cells #[.bool a0_0, .string a0_1, .string a0_2] 26 (0, 0)) (xK_ aa.out) hb); have n1_ := A0_.mk (kB_ (g := ea) (o := .cells #[.bool a1_0, .string a1_1, .string a1_2] 26 (0, 0)) (xK_ ba.out) hb); have n2_ := A0_.mk (kB_ (g := fa) (o := .cells zC_ 26 (0, 0)) (xK_ ca.out) hb); have n3_ := A0_.mk (bT_ (xB3_ HB ga ha ia) hb); clear aa ba ca HB; have aa := n0_; have ba := n1_; have ca := n2_; have HB := n3_; clear n0_ n1_ n2_ n3_; (try clear hb); (try clear hb2); (try clear hk); (try clear hi); have tc : w69.cell? ⟨ea, 0, none⟩ = some (.bool a1_0) := (kc_ ba.out 0).trans rfl; have uc : w69.cell? ⟨ea, 1, none⟩ = some (.string a1_1) := (kc_ ba.out 1).trans rfl; have vc : w69.cell? ⟨ea, 2, none⟩ = some (.string a1_2) := (kc_ ba.out 2).trans rfl; have xc := kF_ ba.out 0; have yc := kF_ ba.out 1; have zc := kF_ ba.out 2) | ((with_reducible refine gC_ (f := 52) rfl ?_); refine gL_ (some 70) rfl rfl Tryd.func52 kr_ rfl #[.bool a1_0, .string Ha, .string ma] rfl mp_ ?_; (with_reducible refine (q_reduced.calls kj2 a1_0 Ha ma xa Ia Pa _ A62.out).mono ?_); rintro e w71 ⟨rfl, hb⟩; refine ⟨_, rfl, ?_⟩; have n0_ := A0_.mk (kB_ (g := da) (o := .cells #[.bool a0_0, .string a0_1, .string a0_2] 26 (0, 0)) (xK_ aa.out) hb); have n1_ := A0_.mk (kB_ (g := ea) (o := .cells #[.bool a1_0, .string a1_1, .string a1_2] 26 (0, 0)) (xK_ ba.out) hb); have n2_ := A0_.mk (kB_ (g := fa) (o := .cells zC_ 26 (0, 0)) (xK_ ca.out) hb); have n3_ := A0_.mk (bT_ (xB3_ HB ga ha ia) hb); clear aa ba ca HB; have aa := n0_; have ba := n1_; have ca := n2_; have HB := n3_; clear n0_ n1_ n2_ n3_; (try clear hb); (try clear hb2); (try clear hk); (try clear hi); have Ac : w71.cell? ⟨fa, 0, none⟩ = some (.bool false) := (kc_ ca.out 0).trans rfl; have Bc : w71.cell? ⟨fa, 1, none⟩ = some (.string (⟨#[]⟩ : ByteArray)) := (kc_ ca.out 1).trans rfl; have Cc : w71.cell? ⟨fa, 2, none⟩ = some (.string (⟨#[]⟩ : ByteArray)) := (kc_ ca.out 2).trans rfl; have Dc := kF_ ca.out 0; have Ec := kF_ ca.out 1; have Fc := kF_ ca.out 2))
     refine bodyPost_ret (results_cell_row rfl _ _ fa 26 #[.bool xa, .string Ia, .string Pa] (0, 0) _ rfl (by (with_reducible repeat (first | apply kN_ | apply kD_ | apply kA_)); refine kP_ (cs := #[.bool xa, .string Ia, .string (⟨#[]⟩ : ByteArray)]) ?_ 2 _ rfl; (with_reducible repeat (first | apply kN_ | apply kD_ | apply kA_)); refine kP_ (cs := #[.bool xa, .string (⟨#[]⟩ : ByteArray), .string (⟨#[]⟩ : ByteArray)]) ?_ 1 _ rfl; (with_reducible repeat (first | apply kN_ | apply kD_ | apply kA_)); refine kP_ (cs := zC_) ?_ 0 _ rfl; (with_reducible repeat (first | apply kN_ | apply kD_ | apply kA_)); exact ca.out) Tryd.underlying26 rfl kr_) rfl ?_
     exact ⟨rE_, xB3_ HB ga ha ia⟩
def q_Add.f (k : Nat) (a0_0 : Bool) (a0_1 : ByteArray) (a0_2 : ByteArray) (a1_0 : Bool) (a1_1 : ByteArray) (a1_2 : ByteArray) : Option (Bool × ByteArray × ByteArray) := (q_clean.f k a0_0 a0_1 a0_2).bind fun bt370 => ((q_clean.f k a1_0 a1_1 a1_2).bind fun bt373 => ((q_add.f k bt370.1 bt370.2.1 bt370.2.2 bt373.1 bt373.2.1 bt373.2.2).bind fun bt376 => (some (bt376.1, bt376.2.1, bt376.2.2))))
theorem q_Add.mono : ∀ a0 a1 a2 a3 a4 a5 k, LeO (q_Add.f k a0 a1 a2 a3 a4 a5) (q_Add.f (k + 1) a0 a1 a2 a3 a4 a5) := by
 intro a0 a1 a2 a3 a4 a5 k
 unfold q_Add.f
 repeat' first
   | (with_reducible first | exact q_add.mono _ _ _ _ _ _ _ | exact q_clean.mono _ _ _ _ | exact LeO.refl _ | exact LeO.none _ | refine LeO.ite ?_ ?_ | refine LeO.bind ?_ (fun _ => ?_))
theorem q_Add.calls (k : Nat) (a0_0 : Bool) (a0_1 : ByteArray) (a0_2 : ByteArray) (a1_0 : Bool) (a1_1 : ByteArray) (a1_2 : ByteArray) (r1 : Bool) (r2 : ByteArray) (r3 : ByteArray) (w : World) (h : q_Add.f k a0_0 a0_1 a0_2 a1_0 a1_1 a1_2 = some (r1, r2, r3)) :
  Calls Tryd.prog 24 #[.agg #[.bool a0_0, .string a0_1, .string a0_2], .agg #[.bool a1_0, .string a1_1, .string a1_2]] w fun e w' => e = .returned (.agg #[.bool r1, .string r2, .string r3]) ∧ Below w.heap.size w w' := by
 have hu26 := Tryd.underlying26
 have HB := A0_.mk (Below.refl w.heap.size w)
 have H := h
 unfold q_Add.f at H
 clear h
 obtain ⟨⟨ma, na, oa⟩, A3, H⟩ := oB_ H
 (try dsimp only at H)
 obtain ⟨⟨pa, qa, ra⟩, A4, H⟩ := oB_ H
 (try dsimp only at H)
 obtain ⟨⟨ka, sa, va⟩, A5, H⟩ := oB_ H
 (try dsimp only at H)
 simp only [Option.some.injEq, Prod.mk.injEq] at H
 obtain ⟨rfl, rfl, rfl⟩ := H
 go_enter Tryd.func24, Tryd.ntmps24
 try go_wp2_with (first | ((with_reducible refine gD_ (N := 2) rfl ?_); refine bE_ ?hg (N := 2) ?hd (cs := #[.bool a0_0, .string a0_1, .string a0_2]) (t := 26) ?hr ?_; (case hd => rfl); (case hg => rfl); (case hr => first | (go_simp; done) | (go_simp; rfl)); intro ea hg w6 hbox hb; have n0_ := A0_.mk (bT_ (xB_ HB) hb); have n1_ := A0_.mk (hbox); have n2_ := A0_.mk ((by rw [hg]; exact (bZ_ (xB_ HB)) : w.heap.size ≤ ea)); have n3_ := A0_.mk ((by rw [hg]; exact (bZ_ (xB_ HB)) : w.heap.size ≤ ea)); clear HB; have HB := n0_; have aa := n1_; have wa := n2_; have ia := n3_; clear n0_ n1_ n2_ n3_; clear hb hbox hg) | ((with_reducible refine gD_ (N := 3) rfl ?_); refine bE_ ?hg (N := 3) ?hd (cs := #[.bool a1_0, .string a1_1, .string a1_2]) (t := 26) ?hr ?_; (case hd => rfl); (case hg => rfl); (case hr => first | (go_simp; done) | (go_simp; rfl)); intro fa hg w7 hbox hb; have n0_ := A0_.mk (kB_ (g := ea) (o := .cells #[.bool a0_0, .string a0_1, .string a0_2] 26 (0, 0)) (xK_ aa.out) hb); have n1_ := A0_.mk (bT_ (xB1_ HB ia) hb); have n2_ := A0_.mk (hbox); have n3_ := A0_.mk ((by rw [hg]; exact (bZ_ (xB1_ HB ia)) : w.heap.size ≤ fa)); have n4_ := A0_.mk ((by rw [hg]; exact (bZ_ (xB1_ HB ia)) : w.heap.size ≤ fa)); have n5_ := A0_.mk ((by rw [hg]; exact Nat.ne_of_lt (blk_lt (g := ea) (o := .cells #[.bool a0_0, .string a0_1, .string a0_2] 26 (0, 0)) (xK_ aa.out)) : ea ≠ fa)); have n6_ := A0_.mk ((by rw [hg]; exact Nat.ne_of_gt (blk_lt (g := ea) (o := .cells #[.bool a0_0, .string a0_1, .string a0_2] 26 (0, 0)) (xK_ aa.out)) : fa ≠ ea)); clear aa HB; have aa := n0_; have HB := n1_; have ca := n2_; have xa := n3_; have ja := n4_; have ya := n5_; have za := n6_; clear n0_ n1_ n2_ n3_ n4_ n5_ n6_; clear hb hbox hg) | ((with_reducible refine gD_ (N := 4) rfl ?_); refine bE_ ?hg (N := 4) ?hd (cs := zC_) (t := 26) ?hr ?_; (case hd => rfl); (case hg => rfl); (case hr => first | (go_simp; done) | (go_simp; rfl)); intro ba hg w8 hbox hb; have n0_ := A0_.mk (kB_ (g := ea) (o := .cells #[.bool a0_0, .string a0_1, .string a0_2] 26 (0, 0)) (xK_ aa.out) hb); have n1_ := A0_.mk (kB_ (g := fa) (o := .cells #[.bool a1_0, .string a1_1, .string a1_2] 26 (0, 0)) (xK_ ca.out) hb); have n2_ := A0_.mk (bT_ (xB2_ HB ia ja) hb); have n3_ := A0_.mk (hbox); have n4_ := A0_.mk ((by rw [hg]; exact (bZ_ (xB2_ HB ia ja)) : w.heap.size ≤ ba)); have n5_ := A0_.mk ((by rw [hg]; exact (bZ_ (xB2_ HB ia ja)) : w.heap.size ≤ ba)); have n6_ := A0_.mk ((by rw [hg]; exact Nat.ne_of_lt (blk_lt (g := ea) (o := .cells #[.bool a0_0, .string a0_1, .string a0_2] 26 (0, 0)) (xK_ aa.out)) : ea ≠ ba)); have n7_ := A0_.mk ((by rw [hg]; exact Nat.ne_of_gt (blk_lt (g := ea) (o := .cells #[.bool a0_0, .string a0_1, .string a0_2] 26 (0, 0)) (xK_ aa.out)) : ba ≠ ea)); have n8_ := A0_.mk ((by rw [hg]; exact Nat.ne_of_lt (blk_lt (g := fa) (o := .cells #[.bool a1_0, .string a1_1, .string a1_2] 26 (0, 0)) (xK_ ca.out)) : fa ≠ ba)); have n9_ := A0_.mk ((by rw [hg]; exact Nat.ne_of_gt (blk_lt (g := fa) (o := .cells #[.bool a1_0, .string a1_1, .string a1_2] 26 (0, 0)) (xK_ ca.out)) : ba ≠ fa)); clear aa ca HB; have aa := n0_; have ca := n1_; have HB := n2_; have da := n3_; have Aa := n4_; have la := n5_; have ga := n6_; have ta := n7_; have ha := n8_; have ua := n9_; clear n0_ n1_ n2_ n3_ n4_ n5_ n6_ n7_ n8_ n9_; clear hb hbox hg))
 have n0_ := A0_.mk (kD_ aa.out)
 have n1_ := A0_.mk (kD_ ca.out)
 have n2_ := A0_.mk (kD_ da.out)
 have n3_ := A0_.mk (b1_ HB.out)
 clear aa
 clear ca
 clear da
 clear HB
 have aa := n0_
 have ca := n1_
 have da := n2_
 have HB := n3_
 clear n0_ n1_ n2_ n3_
 refine start_ (n := 6) (S := fun w' => w'.cell? ⟨ea, 0, none⟩ = some (.bool a0_0) ∧ w'.cell? ⟨ea, 1, none⟩ = some (.string a0_1) ∧ w'.cell? ⟨ea, 2, none⟩ = some (.string a0_2) ∧ w'.cell? ⟨fa, 0, none⟩ = some (.bool a1_0) ∧ w'.cell? ⟨fa, 1, none⟩ = some (.string a1_1) ∧ w'.cell? ⟨fa, 2, none⟩ = some (.string a1_2)) (ds := []) #[false, false, false, false, false, false] kr_ rfl rfl ⟨(kc_ aa.out 0).trans rfl, (kc_ aa.out 1).trans rfl, (kc_ aa.out 2).trans rfl, (kc_ ca.out 0).trans rfl, (kc_ ca.out 1).trans rfl, (kc_ ca.out 2).trans rfl⟩ (fun hHeld => ?_)
 generalize w8.drew = w9 at aa ca da HB hHeld ⊢
 refine take_ (i := 0) (N := some 5) (v := ?_) (a' := ?_) #[true, false, false, false, false, false] rfl rfl kr_ (fun _ _ _ h => h) (Or.inl ⟨by rfl, ?_⟩) hHeld ?_ ?_
 rotate_left
 ·rintro w' ⟨s0, s1, s2, s3, s4, s5⟩
  go_simp
  with_reducible rfl
 rotate_left
 ·simp only [Act.put, s1_, s2_, s3_, i6_, i3_]
  rfl
 refine take_ (i := 2) (N := some 7) (v := ?_) (a' := ?_) #[true, false, true, false, false, false] rfl rfl kr_ (fun _ _ _ h => h) (Or.inl ⟨by rfl, ?_⟩) hHeld ?_ ?_
 rotate_left
 ·rintro w' ⟨s0, s1, s2, s3, s4, s5⟩
  go_simp
  with_reducible rfl
 rotate_left
 ·simp only [Act.put, s1_, s2_, s3_, i6_, i3_]
  rfl
 refine one_ (i := 1) (N := some 6) #[true, true, true, false, false, false] rfl rfl kr_ (by decide) (fun K hK => ?_)
 refine goes_ Tryd.func43 kr_ rfl #[.agg #[.bool a0_0, .string a0_1, .string a0_2]] (by rfl) rfl rfl mp_ ?_
 with_reducible refine (q_clean.calls k a0_0 a0_1 a0_2 ma na oa _ A3.out).mono ?_
 rintro e w10 ⟨rfl, hb⟩
 refine ⟨_, rfl, ?_⟩
 have n0_ := A0_.mk (kB_ (g := ea) (o := .cells #[.bool a0_0, .string a0_1, .string a0_2] 26 (0, 0)) (xK_ aa.out) hb)
 have n1_ := A0_.mk (kB_ (g := fa) (o := .cells #[.bool a1_0, .string a1_1, .string a1_2] 26 (0, 0)) (xK_ ca.out) hb)
 have n2_ := A0_.mk (kB_ (g := ba) (o := .cells zC_ 26 (0, 0)) (xK_ da.out) hb)
 have n3_ := A0_.mk (bT_ (xB3_ HB ia ja la) hb)
 clear aa
 clear ca
 clear da
 clear HB
 have aa := n0_
 have ca := n1_
 have da := n2_
 have HB := n3_
 clear n0_ n1_ n2_ n3_
 (try clear hb)
 (try clear hb2)
 (try clear hk)
 (try clear hi)
 refine hK.out _ _ ⟨(kc_ aa.out 0).trans rfl, (kc_ aa.out 1).trans rfl, (kc_ aa.out 2).trans rfl, (kc_ ca.out 0).trans rfl, (kc_ ca.out 1).trans rfl, (kc_ ca.out 2).trans rfl⟩ (fun hHeld => ?_)
 clear hK K
 refine norm_ (a' := ?_) ?_ ?_
 rotate_left
 ·show Act.put _ (some 6) _ = _
  simp only [Act.put, s1_, s2_, s3_, i6_, i3_]
  rfl
 refine one_ (i := 3) (N := some 8) #[true, true, true, true, false, false] rfl rfl kr_ (by decide) (fun K hK => ?_)
 refine goes_ Tryd.func43 kr_ rfl #[.agg #[.bool a1_0, .string a1_1, .string a1_2]] (by rfl) rfl rfl mp_ ?_
 with_reducible refine (q_clean.calls k a1_0 a1_1 a1_2 pa qa ra _ A4.out).mono ?_
 rintro e w11 ⟨rfl, hb⟩
 refine ⟨_, rfl, ?_⟩
 have n0_ := A0_.mk (kB_ (g := ea) (o := .cells #[.bool a0_0, .string a0_1, .string a0_2] 26 (0, 0)) (xK_ aa.out) hb)
 have n1_ := A0_.mk (kB_ (g := fa) (o := .cells #[.bool a1_0, .string a1_1, .string a1_2] 26 (0, 0)) (xK_ ca.out) hb)
 have n2_ := A0_.mk (kB_ (g := ba) (o := .cells zC_ 26 (0, 0)) (xK_ da.out) hb)
 have n3_ := A0_.mk (bT_ (xB3_ HB ia ja la) hb)
 clear aa
 clear ca
 clear da
 clear HB
 have aa := n0_
 have ca := n1_
 have da := n2_
 have HB := n3_
 clear n0_ n1_ n2_ n3_
 (try clear hb)
 (try clear hb2)
 (try clear hk)
 (try clear hi)
 refine hK.out _ _ ⟨(kc_ aa.out 0).trans rfl, (kc_ aa.out 1).trans rfl, (kc_ aa.out 2).trans rfl, (kc_ ca.out 0).trans rfl, (kc_ ca.out 1).trans rfl, (kc_ ca.out 2).trans rfl⟩ (fun hHeld => ?_)
 clear hK K
 refine norm_ (a' := ?_) ?_ ?_
 rotate_left
 ·show Act.put _ (some 8) _ = _
  simp only [Act.put, s1_, s2_, s3_, i6_, i3_]
  rfl
 refine one_ (i := 4) (N := some 9) #[true, true, true, true, true, false] rfl rfl kr_ (by decide) (fun K hK => ?_)
 refine goes_ Tryd.func47 kr_ rfl #[.agg #[.bool ma, .string na, .string oa], .agg #[.bool pa, .string qa, .string ra]] (by rfl) rfl rfl mp_ ?_
 with_reducible refine (q_add.calls k ma na oa pa qa ra ka sa va _ A5.out).mono ?_
 rintro e w12 ⟨rfl, hb⟩
 refine ⟨_, rfl, ?_⟩
 have n0_ := A0_.mk (kB_ (g := ea) (o := .cells #[.bool a0_0, .string a0_1, .string a0_2] 26 (0, 0)) (xK_ aa.out) hb)
 have n1_ := A0_.mk (kB_ (g := fa) (o := .cells #[.bool a1_0, .string a1_1, .string a1_2] 26 (0, 0)) (xK_ ca.out) hb)
 have n2_ := A0_.mk (kB_ (g := ba) (o := .cells zC_ 26 (0, 0)) (xK_ da.out) hb)
 have n3_ := A0_.mk (bT_ (xB3_ HB ia ja la) hb)
 clear aa
 clear ca
 clear da
 clear HB
 have aa := n0_
 have ca := n1_
 have da := n2_
 have HB := n3_
 clear n0_ n1_ n2_ n3_
 (try clear hb)
 (try clear hb2)
 (try clear hk)
 (try clear hi)
 refine hK.out _ _ ⟨(kc_ aa.out 0).trans rfl, (kc_ aa.out 1).trans rfl, (kc_ aa.out 2).trans rfl, (kc_ ca.out 0).trans rfl, (kc_ ca.out 1).trans rfl, (kc_ ca.out 2).trans rfl⟩ (fun hHeld => ?_)
 clear hK K
 refine norm_ (a' := ?_) ?_ ?_
 rotate_left
 ·show Act.put _ (some 9) _ = _
  simp only [Act.put, s1_, s2_, s3_, i6_, i3_]
  rfl
 refine one_ (i := 5) (N := none) #[true, true, true, true, true, true] rfl rfl kr_ (by decide) (fun K hK => ?_)
 have Ba : w12.cell? ⟨ba, 0, none⟩ = some (.bool false) := (kc_ da.out 0).trans rfl
 have hfs13 := kF_ da.out 0
 have hns13_0 := ga.out
 have hns13_1 := ha.out
 have hms13_0 := ta.out
 have hms13_1 := ua.out
 have Ca : w12.cell? ⟨ba, 1, none⟩ = some (.string (⟨#[]⟩ : ByteArray)) := (kc_ da.out 1).trans rfl
 have hfs14 := kF_ da.out 1
 have hns14_0 := ga.out
 have hns14_1 := ha.out
 have hms14_0 := ta.out
 have hms14_1 := ua.out
 have Da : w12.cell? ⟨ba, 2, none⟩ = some (.string (⟨#[]⟩ : ByteArray)) := (kc_ da.out 2).trans rfl
 have hfs15 := kF_ da.out 2
 have hns15_0 := ga.out
 have hns15_1 := ha.out
 have hms15_0 := ta.out
 have hms15_1 := ua.out
 refine skip_ (w1 := ?_) (by rfl) rfl ?_ ?_
 rotate_left
 ·go_simp
  rfl
 refine hK.out _ _ ⟨((cf_ (p := ⟨ba, _, none⟩) ga.out _).trans (((cf_ (p := ⟨ba, _, none⟩) ga.out _).trans (((cf_ (p := ⟨ba, _, none⟩) ga.out _).trans (hHeld.1)))))), ((cf_ (p := ⟨ba, _, none⟩) ga.out _).trans (((cf_ (p := ⟨ba, _, none⟩) ga.out _).trans (((cf_ (p := ⟨ba, _, none⟩) ga.out _).trans (hHeld.2.1)))))), ((cf_ (p := ⟨ba, _, none⟩) ga.out _).trans (((cf_ (p := ⟨ba, _, none⟩) ga.out _).trans (((cf_ (p := ⟨ba, _, none⟩) ga.out _).trans (hHeld.2.2.1)))))), ((cf_ (p := ⟨ba, _, none⟩) ha.out _).trans (((cf_ (p := ⟨ba, _, none⟩) ha.out _).trans (((cf_ (p := ⟨ba, _, none⟩) ha.out _).trans (hHeld.2.2.2.1)))))), ((cf_ (p := ⟨ba, _, none⟩) ha.out _).trans (((cf_ (p := ⟨ba, _, none⟩) ha.out _).trans (((cf_ (p := ⟨ba, _, none⟩) ha.out _).trans (hHeld.2.2.2.2.1)))))), ((cf_ (p := ⟨ba, _, none⟩) ha.out _).trans (((cf_ (p := ⟨ba, _, none⟩) ha.out _).trans (((cf_ (p := ⟨ba, _, none⟩) ha.out _).trans (hHeld.2.2.2.2.2))))))⟩ (fun hHeld => ?_)
 clear hK K
 refine done_ kr_ ?_
 try go_wp2
 refine bodyPost_ret (results_cell_row rfl _ _ ba 26 #[.bool ka, .string sa, .string va] (0, 0) _ rfl (by (with_reducible repeat (first | apply kN_ | apply kD_ | apply kA_)); refine kP_ (cs := #[.bool ka, .string sa, .string (⟨#[]⟩ : ByteArray)]) ?_ 2 _ rfl; (with_reducible repeat (first | apply kN_ | apply kD_ | apply kA_)); refine kP_ (cs := #[.bool ka, .string (⟨#[]⟩ : ByteArray), .string (⟨#[]⟩ : ByteArray)]) ?_ 1 _ rfl; (with_reducible repeat (first | apply kN_ | apply kD_ | apply kA_)); refine kP_ (cs := zC_) ?_ 0 _ rfl; (with_reducible repeat (first | apply kN_ | apply kD_ | apply kA_)); exact da.out) Tryd.underlying26 rfl kr_) rfl ?_
 exact ⟨rE_, xB3_ HB ia ja la⟩
end C
end Go.Proofs.YtnegkpnhjgimcaaDoor
end
