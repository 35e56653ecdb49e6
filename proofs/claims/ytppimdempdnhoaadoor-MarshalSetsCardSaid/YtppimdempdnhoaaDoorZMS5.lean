/- The law MarshalSets returns true for every input: the totals of any set of claims sum up to at most its capacity, and those of the first claims to exactly this. The tied card, with no condition beyond the card's own. -/
import Derived.Laws.BitsLemmas
import Derived.Deep.Slices
import Derived.ChangeArms
import Derived.SevenTiedAt
import Derived.Test.YtppimdempdnhoaaDoorZMS4
section
namespace Go.Proofs.YtppimdempdnhoaaDoor.C
set_option maxHeartbeats 8000000
set_option maxRecDepth 100000
open Go.RowKit Go.PrWords Go.PrLast Go.PrMore
attribute [local go_sem] max2_int min2_int max_two min_two max_three min_three max_four min_four
set_option linter.unusedVariables false
set_option linter.unusedSimpArgs false
attribute [local go_sem high] eqA32
mutual
def insolvencylaw16_MarshalSets.j0 : Nat → Int → List (S32) → List (S50) → List (S32) → Bool → Bool → ByteArray → ByteArray → Option (Bool)
 | 0, _, _, _, _, _, _, _, _ => none
 | k + 1, x2, x7, x8, x9, x52, x1003000, x1003001, x1003002 => if x52 = true then (none) else ((insolvencylaw16_set.f k x2 (x7.length : Int)).bind fun t1004 => (insolvencylaw16_MarshalSets.l0 k x7 x8 x9 t1004 (t1004.length : Int) 0 x1003000 x1003001 x1003002 false (⟨#[]⟩ : ByteArray) (⟨#[]⟩ : ByteArray)))
def insolvencylaw16_MarshalSets.l0 : Nat → List (S32) → List (S50) → List (S32) → List Int → Int → Int → Bool → ByteArray → ByteArray → Bool → ByteArray → ByteArray → Option (Bool)
 | 0, _, _, _, _, _, _, _, _, _, _, _, _ => none
 | k + 1, x7, x8, x9, x57, x58, x59, x1003000, x1003001, x1003002, x1004000, x1004001, x1004002 => if x59 < x58 then (if 0 ≤ x59 then (if x59 < (x57.length : Int) then (if 0 ≤ (rd x57 x59) then (if (rd x57 x59) < (x9.length : Int) then ((q_Add.f k x1004000 x1004001 x1004002 ((r32_ x9 (rd x57 x59)).f0) ((r32_ x9 (rd x57 x59)).f1) ((r32_ x9 (rd x57 x59)).f2)).bind fun bt1009 => (insolvencylaw16_MarshalSets.l0 k x7 x8 x9 x57 x58 (wrap64 (x59 + 1)) x1003000 x1003001 x1003002 bt1009.1 bt1009.2.1 bt1009.2.2)) else (none)) else (none)) else (none)) else (none)) else ((insolvencylaw16_set.f k 255 (x7.length : Int)).bind fun t1012 => ((marshal_Capacity.f k x8 x7 t1012).bind fun bt1015 => ((insolvencylaw16_awake.f k).bind fun t1020 => (if t1020 = true then ((q_Compare.f k x1004000 x1004001 x1004002 x1003000 x1003001 x1003002).bind fun t1021 => (if t1021 ≤ 0 then (if bt1015.2.2.2 = 0 then ((q_Sum.f k x9).bind fun bt1022 => (some (bt1022.1 == bt1015.1 && (bt1022.2.1.toList == bt1015.2.1.toList && (bt1022.2.2.toList == bt1015.2.2.1.toList))))) else (none)) else (none))) else (none)))))
end
def insolvencylaw16_MarshalSets.f (k : Nat) (l0 : List (S46)) (l1 : List Int) (a2 : Int) : Option (Bool) := (l0_Amounts.f k l1 6).bind fun t985 => ((l0_Items.f k l0 (t985.length : Int)).bind fun t988 => ((marshal_Totals.f k t988 t985).bind fun bt991 => ((insolvencylaw16_set.f k a2 (t985.length : Int)).bind fun t995 => ((marshal_Capacity.f k t988 t985 t995).bind fun bt998 => (if bt991.2 = 0 then (if bt998.2.2.2 = 0 then (insolvencylaw16_MarshalSets.j0 k a2 t985 t988 bt991.1 ((bt991.1.length : Int) != (t985.length : Int)) bt998.1 bt998.2.1 bt998.2.2.1) else (insolvencylaw16_MarshalSets.j0 k a2 t985 t988 bt991.1 true bt998.1 bt998.2.1 bt998.2.2.1)) else (insolvencylaw16_MarshalSets.j0 k a2 t985 t988 bt991.1 true bt998.1 bt998.2.1 bt998.2.2.1))))))
def insolvencylaw16_MarshalSets.T14 : Bool × List (List Nat × List Nat) := (true, [([], []), ([0, 0], [0]), ([1], [1]), ([1], [1]), ([2, 3, 1, 1], [1, 2, 3]), ([4, 1], [1, 4]), ([1, 5], [1, 5]), ([6, 4], [6]), ([7], [7]), ([8, 7], [7, 8]), ([7, 9], [7, 9]), ([10, 7], [10]), ([11], [11]), ([12, 11, 11], [11, 12]), ([11], [11]), ([13, 14, 11], [11, 13, 14]), ([11, 15], [11, 15]), ([16, 13, 0, 1, 2, 3, 4, 5, 6, 7, 8, 9, 10, 11, 12, 13, 14, 15, 16], [16])])
def insolvencylaw16_MarshalSets.B14 : List Nat := [0, 1, 3, 3, 15, 31, 63, 127, 255, 511, 1023, 2047, 4095, 8191, 4095, 32767, 65535, 131071]
theorem insolvencylaw16_MarshalSets.tab14 : rtab .any (opsOf Tryd.f5 14) = insolvencylaw16_MarshalSets.T14 := by kernel_rfl
theorem insolvencylaw16_MarshalSets.bits14 : waitsOk insolvencylaw16_MarshalSets.T14.2 insolvencylaw16_MarshalSets.B14 = true := by kernel_rfl
theorem insolvencylaw16_MarshalSets.calls (k : Nat) (A0 : Option Addr) (c0 : Nat) (l0 : List (S46)) (A1 : Option Addr) (c1 : Nat) (l1 : List Int) (a2 : Int) (r : Bool) (w : World) (hr0 : Kd.C k46 w A0 l0.length l0) (hc0 : l0.length ≤ c0) (hr1 : Kd.C (Kd.int .u16) w A1 l1.length l1) (hc1 : l1.length ≤ c1) (h : insolvencylaw16_MarshalSets.f k l0 l1 a2 = some r) (hT : TzT w) :
  Calls Tryd.prog 5 #[.slice A0 l0.length c0, .slice A1 l1.length c1, .int .u8 a2] w fun e w' => e = .returned (.bool r) ∧ Below w.heap.size w w' := by
 have HT := mk_ hT
 clear hT
 have hu32 := Tryd.underlying32
 have HR0 := mk_ hr0
 have HC0 := mk_ hc0
 clear hr0 hc0
 have HR1 := mk_ hr1
 have HC1 := mk_ hc1
 clear hr1 hc1
 have HB := mk_ (Below.refl w.heap.size w)
 have H := h
 unfold insolvencylaw16_MarshalSets.f at H
 clear h
 replace H := oB_ H
 obtain ⟨ja, A4, H⟩ := H
 (try dsimp only at H)
 replace H := oB_ H
 obtain ⟨za, A5, H⟩ := H
 (try dsimp only at H)
 replace H := oB_ H
 obtain ⟨⟨ta, ob⟩, A6, H⟩ := H
 (try dsimp only at H)
 replace H := oB_ H
 obtain ⟨Va, A7, H⟩ := H
 (try dsimp only at H)
 replace H := oB_ H
 obtain ⟨⟨ma, qa, ua, pb⟩, A8, H⟩ := H
 (try dsimp only at H)
 have HC9 := mk_ H
 clear H
 go_enter Tryd.func5, Tryd.ntmps5
 go_upto_region 5 with (first | ((with_reducible refine gC_ (f := 6) rfl ?_); refine gL_ (some 19) rfl rfl Tryd.func6 kr_ rfl #[.slice A1 l1.length c1, .int .i64 6] rfl mp_ ?_; (with_reducible refine (l0_Amounts.calls k _ _ l1 6 ja _ ?side1 ?side2 A4.out).mono ?_); (case side1 => repeat (first | exact HR1.out | (with_reducible refine Kd.C_alloc ?_ _) | (with_reducible refine Kd.C_drewN ?_ _) | (with_reducible refine Kd.C_drew ?_))); (case side2 => exact HC1.out); rintro e w10 ⟨Pb, rfl, ho0, hb⟩; refine ⟨_, rfl, ?_⟩; have n0_ := mk_ (Kd.rL_ ho0 (bZ_ (xB_ HB))); have n1_ := mk_ (bT_ (xB_ HB) hb); clear HB; have na := n0_; have HB := n1_; clear n0_ n1_; (try clear hb); (try clear hb2); (try clear hk); (try clear hi); (try clear ho0); obtain ⟨Fa, Ga, qb⟩ := Kd.rS_' na.out; subst qb) | ((with_reducible refine gC_ (f := 7) rfl ?_); refine gL_ (some 23) rfl rfl Tryd.func7 kr_ rfl #[.slice A0 l0.length c0, .int .i64 (ja.length : Int)] rfl mp_ ?_; (with_reducible refine (l0_Items.calls k _ _ l0 (ja.length : Int) za _ ?side1 ?side2 A5.out).mono ?_); (case side1 => repeat (first | exact (Kd.C_below HR0.out HB.out) | (with_reducible refine Kd.C_alloc ?_ _) | (with_reducible refine Kd.C_drewN ?_ _) | (with_reducible refine Kd.C_drew ?_))); (case side2 => exact HC0.out); rintro e w12 ⟨Qb, rfl, ho0, hb⟩; refine ⟨_, rfl, ?_⟩; have n0_ := mk_ (Kd.rB_ (xR_ na.out) hb); have n1_ := mk_ (Kd.S_lower ho0 (bZ_ (xB_ HB))); have n2_ := mk_ (bT_ (xB_ HB) hb); clear na HB; have na := n0_; have ra := n1_; have HB := n2_; clear n0_ n1_ n2_; (try clear hb); (try clear hb2); (try clear hk); (try clear hi); (try clear ho0); obtain ⟨Ka, La, rb⟩ := Kd.S_slice ra.out; subst rb) | ((with_reducible refine gC_ (f := 8) rfl ?_); refine gL_ (some 27) rfl rfl Tryd.func8 kr_ rfl #[.slice Ka za.length La, .slice Fa ja.length Ga] rfl mp_ ?_; (with_reducible refine (marshal_Totals.calls k _ _ za _ _ ja ta ob _ ?side1 ?side2 ?side3 ?side4 A6.out (TzT.below HT.out (Nat.le_refl _) (xB_ HB))).mono ?_); (case side1 => repeat (first | exact (Kd.S_reads' ra.out).2.2 | (with_reducible refine Kd.C_alloc ?_ _) | (with_reducible refine Kd.C_drewN ?_ _) | (with_reducible refine Kd.C_drew ?_))); (case side2 => exact (Kd.S_reads' ra.out).2.1); (case side3 => repeat (first | exact (Kd.rr_' na.out).2.2 | (with_reducible refine Kd.C_alloc ?_ _) | (with_reducible refine Kd.C_drewN ?_ _) | (with_reducible refine Kd.C_drew ?_))); (case side4 => exact (Kd.rr_' na.out).2.1); rintro e w14 ⟨Ma, rfl, ho0, hb⟩; refine ⟨_, rfl, ?_⟩; have n0_ := mk_ (Kd.R_elder' (xR_ na.out) (Kd.R_base ho0) hb); have n1_ := mk_ (Kd.S_below (by refine xs_ ?_; exact ra.out) hb); have n2_ := mk_ (Kd.rL_ (Kd.R_new' ho0 (Kd.R_lt (xR_ na.out))) (bZ_ (xB_ HB))); have n3_ := mk_ (bT_ (xB_ HB) hb); clear na ra HB; have na := n0_; have ra := n1_; have Ba := n2_; have HB := n3_; clear n0_ n1_ n2_ n3_; (try clear hb); (try clear hb2); (try clear hk); (try clear hi); (try clear ho0)) | ((with_reducible refine gC_ (f := 14) rfl ?_); refine gL_ (some 36) rfl rfl Tryd.func14 kr_ rfl #[.int .u8 a2, .int .i64 (ja.length : Int)] rfl mp_ ?_; (with_reducible refine (insolvencylaw16_set.calls k a2 (ja.length : Int) Va _ A7.out).mono ?_); rintro e w15 ⟨Rb, rfl, ho0, hb⟩; refine ⟨_, rfl, ?_⟩; have n0_ := mk_ (Kd.rB_ (xR_ na.out) hb); have n1_ := mk_ (Kd.S_below (by refine xs_ ?_; exact ra.out) hb); have n2_ := mk_ (Kd.rB_ (xR_ Ba.out) hb); have n3_ := mk_ (Kd.rL_ ho0 (bZ_ (xB_ HB))); have n4_ := mk_ (bT_ (xB_ HB) hb); clear na ra Ba HB; have na := n0_; have ra := n1_; have Ba := n2_; have Ha := n3_; have HB := n4_; clear n0_ n1_ n2_ n3_ n4_; (try clear hb); (try clear hb2); (try clear hk); (try clear hi); (try clear ho0); obtain ⟨sb, tb, ub⟩ := Kd.rS_' Ha.out; subst ub) | ((with_reducible refine gC_ (f := 13) rfl ?_); refine gL_ (some 37) rfl rfl Tryd.func13 kr_ rfl #[.slice Ka za.length La, .slice Fa ja.length Ga, .slice sb Va.length tb] rfl mp_ ?_; (with_reducible refine (marshal_Capacity.calls k _ _ za _ _ ja _ _ Va ma qa ua pb _ ?side1 ?side2 ?side3 ?side4 ?side5 ?side6 A8.out (TzT.below HT.out (Nat.le_refl _) (xB_ HB))).mono ?_); (case side1 => repeat (first | exact (Kd.S_reads' ra.out).2.2 | (with_reducible refine Kd.C_alloc ?_ _) | (with_reducible refine Kd.C_drewN ?_ _) | (with_reducible refine Kd.C_drew ?_))); (case side2 => exact (Kd.S_reads' ra.out).2.1); (case side3 => repeat (first | exact (Kd.rr_' na.out).2.2 | (with_reducible refine Kd.C_alloc ?_ _) | (with_reducible refine Kd.C_drewN ?_ _) | (with_reducible refine Kd.C_drew ?_))); (case side4 => exact (Kd.rr_' na.out).2.1); (case side5 => repeat (first | exact (Kd.rr_' Ha.out).2.2 | (with_reducible refine Kd.C_alloc ?_ _) | (with_reducible refine Kd.C_drewN ?_ _) | (with_reducible refine Kd.C_drew ?_))); (case side6 => exact (Kd.rr_' Ha.out).2.1); rintro e w17 ⟨rfl, hb⟩; refine ⟨_, rfl, ?_⟩; have n0_ := mk_ (Kd.rB_ (xR_ na.out) hb); have n1_ := mk_ (Kd.S_below (by refine xs_ ?_; exact ra.out) hb); have n2_ := mk_ (Kd.rB_ (xR_ Ba.out) hb); have n3_ := mk_ (Kd.rB_ (xR_ Ha.out) hb); have n4_ := mk_ (bT_ (xB_ HB) hb); clear na ra Ba Ha HB; have na := n0_; have ra := n1_; have Ba := n2_; have Ha := n3_; have HB := n4_; clear n0_ n1_ n2_ n3_ n4_; (try clear hb); (try clear hb2); (try clear hk); (try clear hi)) | ((with_reducible refine gD_ (N := 11) rfl ?_); (try (refine gate_guard (by rfl) ?_; dsimp only)); refine bE_ ?hg (N := 11) ?hd (cs := zC_) (t := 32) ?hr ?_; (case hd => rfl); (case hg => rfl); (case hr => first | (go_simp; done) | (go_simp; rfl)); intro da hg w18 hbox hb; have n0_ := mk_ (Kd.rB_ (Kd.R_elderB (xR_ na.out) da (Nat.le_of_eq hg.symm)) hb); have n1_ := mk_ (Kd.S_below (by refine xs_ ?_; exact ra.out) hb); have n2_ := mk_ (Kd.rB_ (Kd.R_elderB (xR_ Ba.out) da (Nat.le_of_eq hg.symm)) hb); have n3_ := mk_ (Kd.rB_ (xR_ Ha.out) hb); have n4_ := mk_ (bT_ (xB_ HB) hb); have n5_ := mk_ (hbox); have n6_ := mk_ (gZ_ hg (bZ_ (xB_ HB))); have n7_ := mk_ (gZ_ hg (bZ_ (xB_ HB))); clear na ra Ba Ha HB; have na := n0_; have ra := n1_; have Ba := n2_; have Ha := n3_; have HB := n4_; have aa := n5_; have Sb := n6_; have oa := n7_; clear n0_ n1_ n2_ n3_ n4_ n5_ n6_ n7_; clear hb hbox hg; have Tb : w18.cell? ⟨da, 0, none⟩ = some (.bool false) := (kc_ aa.out 0).trans rfl; have Ub : w18.cell? ⟨da, 1, none⟩ = some (.string (⟨#[]⟩ : ByteArray)) := (kc_ aa.out 1).trans rfl; have Vb : w18.cell? ⟨da, 2, none⟩ = some (.string (⟨#[]⟩ : ByteArray)) := (kc_ aa.out 2).trans rfl; have Wb := kF_ aa.out 0; have Xb := kF_ aa.out 1; have Yb := kF_ aa.out 2))
 (try simp only [Act.put, s1_, s2_, s3_])
 go_cut [52] (fun v52 wc => ∃ (kq : Nat) (Wa : Bool), v52 = .bool Wa ∧ A0_ (insolvencylaw16_MarshalSets.j0 kq a2 ja za ta Wa ma qa ua = some r) ∧ A0_ (kq ≤ k) ∧ A0_ (Kd.R k32 32 wc w.heap.size (fun k_ => some k_ ≠ (Ma : Value).ownBlock ∧ k_ ≠ da) (.slice Fa ja.length Ga) ja) ∧ A0_ (Kd.S k50 50 wc w.heap.size (fun _ => True) (.slice Ka za.length La) za) ∧ A0_ (Kd.R k32 32 wc w.heap.size (fun k_ => some k_ ≠ ((.slice Fa ja.length Ga) : Value).ownBlock ∧ k_ ≠ da) Ma ta) ∧ A0_ (wc.heap[da]? = some (.cells #[.bool ma, .string qa, .string ua] 32 (0, 0))) ∧ A0_ (Below w.heap.size w wc))
 case first =>
  have H := HC9.out
  clear HC9
  replace H := iS_ H
  rcases H with ⟨c20, H⟩ | ⟨c20, H⟩
  ·have Qa := beq_iff_eq.mpr c20
   have Xa := bne_eq_false_iff_eq.mpr c20
   clear c20
   (first | rw [Qa] | rw [Xa] | (simp only [i6_, i3_]; rw [Qa]) | skip)
   replace H := iS_ H
   rcases H with ⟨c21, H⟩ | ⟨c21, H⟩
   ·have vb := beq_iff_eq.mpr c21
    have wb := bne_eq_false_iff_eq.mpr c21
    clear c21
    have H' := mk_ H
    clear H
    obtain ⟨Zb, ac, xb⟩ := Kd.rS_' Ba.out
    subst xb
    go_wp2
    go_meet
    case rel => exact ⟨_, (((ta.length : Int) != (ja.length : Int))), (rS_), H', ⟨by first | omega | exact Nat.le_refl _⟩, ⟨by refine xr_ ?_; exact Kd.rM_ (Kd.rF_ (p := ⟨da, 2, none⟩) (Kd.rF_ (p := ⟨da, 1, none⟩) (Kd.rF_ (p := ⟨da, 0, none⟩) (Kd.rM_ na.out (fun k_ hk => (⟨hk, hk.2⟩ : _ ∧ k_ ≠ da))) (fun _ hk => hk.2) (.bool ma)) (fun _ hk => hk.2) (.string qa)) (fun _ hk => hk.2) (.string ua)) (fun _ hk => ⟨hk.1.1.2, hk.1.2⟩)⟩, ⟨by refine xs_ ?_; exact Kd.S_mono (Kd.S_far (p := ⟨da, 2, none⟩) (Kd.S_far (p := ⟨da, 1, none⟩) (Kd.S_far (p := ⟨da, 0, none⟩) (Kd.S_types ra.out aa.out (by decide)) (fun _ hk => hk.2) (.bool ma)) (fun _ hk => hk.2) (.string qa)) (fun _ hk => hk.2) (.string ua)) (fun _ hk => trivial)⟩, ⟨by refine xr_ ?_; exact Kd.rM_ (Kd.rF_ (p := ⟨da, 2, none⟩) (Kd.rF_ (p := ⟨da, 1, none⟩) (Kd.rF_ (p := ⟨da, 0, none⟩) (Kd.rM_ Ba.out (fun k_ hk => (⟨hk, hk.2⟩ : _ ∧ k_ ≠ da))) (fun _ hk => hk.2) (.bool ma)) (fun _ hk => hk.2) (.string qa)) (fun _ hk => hk.2) (.string ua)) (fun _ hk => ⟨hk.1.1.2, hk.1.2⟩)⟩, ⟨by refine xk_ ?_; refine kQ_ (cs := #[.bool ma, .string qa, .string (⟨#[]⟩ : ByteArray)]) ?_ 2 _ rfl; refine kQ_ (cs := #[.bool ma, .string (⟨#[]⟩ : ByteArray), .string (⟨#[]⟩ : ByteArray)]) ?_ 1 _ rfl; refine kQ_ (cs := zC_) ?_ 0 _ rfl; exact aa.out⟩, ⟨xB1_ HB oa⟩⟩
   ·have vb := beq_eq_false_iff_ne.mpr c21
    have wb := bne_iff_ne.mpr c21
    have H' := mk_ H
    clear H
    go_wp2
    go_meet
    case rel => exact ⟨_, (true), (rS_), H', ⟨by first | omega | exact Nat.le_refl _⟩, ⟨by refine xr_ ?_; exact Kd.rM_ (Kd.rF_ (p := ⟨da, 2, none⟩) (Kd.rF_ (p := ⟨da, 1, none⟩) (Kd.rF_ (p := ⟨da, 0, none⟩) (Kd.rM_ na.out (fun k_ hk => (⟨hk, hk.2⟩ : _ ∧ k_ ≠ da))) (fun _ hk => hk.2) (.bool ma)) (fun _ hk => hk.2) (.string qa)) (fun _ hk => hk.2) (.string ua)) (fun _ hk => ⟨hk.1.1.2, hk.1.2⟩)⟩, ⟨by refine xs_ ?_; exact Kd.S_mono (Kd.S_far (p := ⟨da, 2, none⟩) (Kd.S_far (p := ⟨da, 1, none⟩) (Kd.S_far (p := ⟨da, 0, none⟩) (Kd.S_types ra.out aa.out (by decide)) (fun _ hk => hk.2) (.bool ma)) (fun _ hk => hk.2) (.string qa)) (fun _ hk => hk.2) (.string ua)) (fun _ hk => trivial)⟩, ⟨by refine xr_ ?_; exact Kd.rM_ (Kd.rF_ (p := ⟨da, 2, none⟩) (Kd.rF_ (p := ⟨da, 1, none⟩) (Kd.rF_ (p := ⟨da, 0, none⟩) (Kd.rM_ Ba.out (fun k_ hk => (⟨hk, hk.2⟩ : _ ∧ k_ ≠ da))) (fun _ hk => hk.2) (.bool ma)) (fun _ hk => hk.2) (.string qa)) (fun _ hk => hk.2) (.string ua)) (fun _ hk => ⟨hk.1.1.2, hk.1.2⟩)⟩, ⟨by refine xk_ ?_; refine kQ_ (cs := #[.bool ma, .string qa, .string (⟨#[]⟩ : ByteArray)]) ?_ 2 _ rfl; refine kQ_ (cs := #[.bool ma, .string (⟨#[]⟩ : ByteArray), .string (⟨#[]⟩ : ByteArray)]) ?_ 1 _ rfl; refine kQ_ (cs := zC_) ?_ 0 _ rfl; exact aa.out⟩, ⟨xB1_ HB oa⟩⟩
  ·have Qa := beq_eq_false_iff_ne.mpr c20
   have Xa := bne_iff_ne.mpr c20
   (first | rw [Qa] | rw [Xa] | (simp only [i6_, i3_]; rw [Qa]) | skip)
   have H' := mk_ H
   clear H
   go_wp2
   go_meet
   case rel => exact ⟨_, (true), (rS_), H', ⟨by first | omega | exact Nat.le_refl _⟩, ⟨by refine xr_ ?_; exact Kd.rM_ (Kd.rF_ (p := ⟨da, 2, none⟩) (Kd.rF_ (p := ⟨da, 1, none⟩) (Kd.rF_ (p := ⟨da, 0, none⟩) (Kd.rM_ na.out (fun k_ hk => (⟨hk, hk.2⟩ : _ ∧ k_ ≠ da))) (fun _ hk => hk.2) (.bool ma)) (fun _ hk => hk.2) (.string qa)) (fun _ hk => hk.2) (.string ua)) (fun _ hk => ⟨hk.1.1.2, hk.1.2⟩)⟩, ⟨by refine xs_ ?_; exact Kd.S_mono (Kd.S_far (p := ⟨da, 2, none⟩) (Kd.S_far (p := ⟨da, 1, none⟩) (Kd.S_far (p := ⟨da, 0, none⟩) (Kd.S_types ra.out aa.out (by decide)) (fun _ hk => hk.2) (.bool ma)) (fun _ hk => hk.2) (.string qa)) (fun _ hk => hk.2) (.string ua)) (fun _ hk => trivial)⟩, ⟨by refine xr_ ?_; exact Kd.rM_ (Kd.rF_ (p := ⟨da, 2, none⟩) (Kd.rF_ (p := ⟨da, 1, none⟩) (Kd.rF_ (p := ⟨da, 0, none⟩) (Kd.rM_ Ba.out (fun k_ hk => (⟨hk, hk.2⟩ : _ ∧ k_ ≠ da))) (fun _ hk => hk.2) (.bool ma)) (fun _ hk => hk.2) (.string qa)) (fun _ hk => hk.2) (.string ua)) (fun _ hk => ⟨hk.1.1.2, hk.1.2⟩)⟩, ⟨by refine xk_ ?_; refine kQ_ (cs := #[.bool ma, .string qa, .string (⟨#[]⟩ : ByteArray)]) ?_ 2 _ rfl; refine kQ_ (cs := #[.bool ma, .string (⟨#[]⟩ : ByteArray), .string (⟨#[]⟩ : ByteArray)]) ?_ 1 _ rfl; refine kQ_ (cs := zC_) ?_ 0 _ rfl; exact aa.out⟩, ⟨xB1_ HB oa⟩⟩
 case rest =>
  clear HC9
  obtain ⟨kq, Wa, rfl, HA, HJ8, ga, ha, fa, aa, HB⟩ := hcut
  cases kq with
  | zero => exact absurd HA.out (by simp [insolvencylaw16_MarshalSets.j0])
  | succ kj8 =>
   have H := HA.out
   clear HA
   simp only [insolvencylaw16_MarshalSets.j0] at H
   replace H := iS_ H
   rcases H with ⟨c23, H⟩ | ⟨c23, H⟩
   ·subst c23
    exact absurd H (by simp)
   ·replace c23 := Bool.eq_false_iff.mpr c23
    subst c23
    replace H := oB_ H
    obtain ⟨ka, A24, H⟩ := H
    (try dsimp only at H)
    have H' := mk_ H
    clear H
    go_wp2_with (first | ((with_reducible refine gD_ (N := 13) rfl ?_); (try (refine gate_guard (by rfl) ?_; dsimp only)); refine bX_ (N := 13) (cs := zC_) (t := 32) ?_; intro ea hg w25 hbox hb; replace ga := mk_ (Kd.rB_ (Kd.R_elderB (xR_ ga.out) ea (Nat.le_of_eq hg.symm)) hb); replace ha := mk_ (Kd.S_below (by refine xs_ ?_; exact ha.out) hb); replace fa := mk_ (Kd.rB_ (Kd.R_elderB (xR_ fa.out) ea (Nat.le_of_eq hg.symm)) hb); have ba := mk_ (hbox); have bc := mk_ (gZ_ hg (bZ_ (xB1_ HB oa))); have xa := mk_ (gZ_ hg (bZ_ (xB1_ HB oa))); replace HB := mk_ (bT_ (xB1_ HB oa) hb); have Ea := mk_ (gN_ hg (xK_ aa.out)); have Sa := mk_ (gM_ hg (xK_ aa.out)); replace aa := mk_ (kB_ (xK_ aa.out) hb); clear hb hbox hg; have hnb26 := Sa.out; have hnc26 := Ea.out; obtain ⟨cc, dc, ec, fc, gc, hc⟩ := kG3_ ba.out) | ((with_reducible refine gC_ (f := 14) rfl ?_); refine gL_ (some 57) rfl rfl Tryd.func14 kr_ rfl #[.int .u8 a2, .int .i64 (ja.length : Int)] rfl mp_ ?_; (with_reducible refine (insolvencylaw16_set.calls kj8 a2 (ja.length : Int) ka _ A24.out).mono ?_); rintro e w28 ⟨ic, rfl, ho0, hb⟩; refine ⟨_, rfl, ?_⟩; replace ga := mk_ (Kd.rB_ (by refine xr_ ?_; exact (Kd.rM_ (Kd.rF_ (p := ⟨ea, 2, none⟩) (Kd.rF_ (p := ⟨ea, 1, none⟩) (Kd.rF_ (p := ⟨ea, 0, none⟩) (Kd.rM_ ga.out (fun k_ hk => (⟨hk, hk.2⟩ : _ ∧ k_ ≠ ea))) (fun _ hk => hk.2) (.bool false)) (fun _ hk => hk.2) (.string (⟨#[]⟩ : ByteArray))) (fun _ hk => hk.2) (.string (⟨#[]⟩ : ByteArray))) (fun _ h_ => h_.1))) hb); replace ha := mk_ (Kd.S_below (by refine xs_ ?_; exact (Kd.S_mono (Kd.S_far (p := ⟨ea, 2, none⟩) (Kd.S_far (p := ⟨ea, 1, none⟩) (Kd.S_far (p := ⟨ea, 0, none⟩) (Kd.S_types ha.out ba.out (by decide)) (fun _ hk => hk.2) (.bool false)) (fun _ hk => hk.2) (.string (⟨#[]⟩ : ByteArray))) (fun _ hk => hk.2) (.string (⟨#[]⟩ : ByteArray))) (fun _ h_ => h_.1))) hb); replace fa := mk_ (Kd.rB_ (by refine xr_ ?_; exact (Kd.rM_ (Kd.rF_ (p := ⟨ea, 2, none⟩) (Kd.rF_ (p := ⟨ea, 1, none⟩) (Kd.rF_ (p := ⟨ea, 0, none⟩) (Kd.rM_ fa.out (fun k_ hk => (⟨hk, hk.2⟩ : _ ∧ k_ ≠ ea))) (fun _ hk => hk.2) (.bool false)) (fun _ hk => hk.2) (.string (⟨#[]⟩ : ByteArray))) (fun _ hk => hk.2) (.string (⟨#[]⟩ : ByteArray))) (fun _ h_ => h_.1))) hb); have gb := mk_ (Kd.rL_ ho0 (bZ_ (xB2_ HB oa xa))); replace aa := mk_ (kB_ (g := da) (o := .cells #[.bool ma, .string qa, .string ua] 32 (0, 0)) (by refine xk_ ?_; refine bf_ ?_ Ea.out _; refine xk_ ?_; refine bf_ ?_ Ea.out _; refine xk_ ?_; refine bf_ ?_ Ea.out _; refine xk_ ?_; exact aa.out) hb); replace ba := mk_ (kB_ (g := ea) (o := .cells zC_ 32 (0, 0)) (by refine xk_ ?_; refine kQ_ (cs := zC_) ?_ 2 _ rfl; refine kQ_ (cs := zC_) ?_ 1 _ rfl; refine kQ_ (cs := zC_) ?_ 0 _ rfl; exact ba.out) hb); replace HB := mk_ (bT_ (xB2_ HB oa xa) hb); obtain ⟨Ya, Za, yb⟩ := Kd.rS_' gb.out; subst yb))
    go_loopg [59] kj8 (fun kq v59 w' => ∃ (pa : Int) (Da : Bool) (Ca : ByteArray) (Aa : ByteArray), v59 = .int .i64 pa ∧ A0_ (insolvencylaw16_MarshalSets.l0 kq ja za ta ka (ka.length : Int) pa ma qa ua Da Ca Aa = some r) ∧ A0_ (kq ≤ kj8) ∧ A0_ (Kd.R k32 32 w' w.heap.size (fun k_ => some k_ ≠ (Ma : Value).ownBlock ∧ k_ ≠ da ∧ k_ ≠ ea) (.slice Fa ja.length Ga) ja) ∧ A0_ (Kd.S k50 50 w' w.heap.size (fun _ => True) (.slice Ka za.length La) za) ∧ A0_ (Kd.R k32 32 w' w.heap.size (fun k_ => some k_ ≠ ((.slice Fa ja.length Ga) : Value).ownBlock ∧ k_ ≠ da ∧ k_ ≠ ea) Ma ta) ∧ A0_ (Kd.R (Kd.int .i64) 3 w' w.heap.size (fun _ => True) (.slice Ya ka.length Za) ka) ∧ A0_ (w'.heap[da]? = some (.cells #[.bool ma, .string qa, .string ua] 32 (0, 0))) ∧ A0_ (w'.heap[ea]? = some (.cells #[.bool Da, .string Ca, .string Aa] 32 (0, 0))) ∧ A0_ (Below w.heap.size w w'))
    case atStart => exact ⟨(0), (false), ((⟨#[]⟩ : ByteArray)), ((⟨#[]⟩ : ByteArray)), (rS_), H', ⟨Nat.le_refl _⟩, ⟨by refine xr_ ?_; exact Kd.rM_ ga.out (fun _ hk => ⟨hk.1.1, ⟨hk.1.2, hk.2⟩⟩)⟩, ⟨by refine xs_ ?_; exact ha.out⟩, ⟨by refine xr_ ?_; exact Kd.rM_ fa.out (fun _ hk => ⟨hk.1.1, ⟨hk.1.2, hk.2⟩⟩)⟩, ⟨by refine xr_ ?_; exact gb.out⟩, ⟨by refine xk_ ?_; exact aa.out⟩, ⟨by refine xk_ ?_; exact ba.out⟩, ⟨xB2_ HB oa xa⟩⟩
    case round =>
     clear H'
     obtain ⟨pa, Da, Ca, Aa, rfl, HA, HK2, ga, ha, fa, la, aa, ba, HB⟩ := hrel
     cases gk with
     | zero => exact absurd HA.out (by simp [insolvencylaw16_MarshalSets.l0])
     | succ k2 =>
      have H := HA.out
      clear HA
      simp only [insolvencylaw16_MarshalSets.l0] at H
      replace H := iS_ H
      rcases H with ⟨c30, H⟩ | ⟨c30, H⟩
      ·have zb := decide_eq_true c30
       clear c30
       replace H := iD_ H
       obtain ⟨jc, H⟩ := H
       replace H := iD_ H
       obtain ⟨kc, H⟩ := H
       replace H := iD_ H
       obtain ⟨lc, H⟩ := H
       replace H := iD_ H
       obtain ⟨mc, H⟩ := H
       replace H := oB_ H
       obtain ⟨⟨Ia, Ja, Na⟩, A35, H⟩ := H
       (try dsimp only at H)
       have H' := mk_ H
       clear H
       have ab : 0 ≤ (pa : Int) := oD_
       have bb : pa < (ka.length : Int) := oD_
       obtain ⟨nc, Ab, oc⟩ := Kd.at_int (Kd.rr_' la.out).2.2 pa ab bb
       cases Ab
       replace ab := eq_true ab
       replace bb := eq_true bb
       try go_wp2
       replace ga := mk_ (Kd.rD_ ga.out)
       replace ha := mk_ (Kd.S_drew ha.out)
       replace fa := mk_ (Kd.rD_ fa.out)
       replace la := mk_ (Kd.rD_ la.out)
       replace aa := mk_ (kD_ aa.out)
       replace ba := mk_ (kD_ ba.out)
       replace HB := mk_ (b1_ HB.out)
       obtain ⟨pc, qc, ib⟩ := Kd.rS_' fa.out
       (first | subst ib | (injection ib with f1_ f2_ f3_; have f4_ := f1_.symm; have f5_ := f3_.symm; clear f1_ f2_ f3_; subst f4_; subst f5_))
       have cb : 0 ≤ ((rd ka pa) : Int) := oD_
       have db : (rd ka pa) < (ta.length : Int) := oD_
       obtain ⟨Ra, Bb, jb, kb, mb⟩ := at_T32 (Kd.rr_' fa.out).2.2 (rd ka pa) cb db
       cases Bb
       replace cb := eq_true cb
       replace db := eq_true db
       refine start_ (n := 7) (S := fun w' => w'.cell? ⟨ea, 0, none⟩ = some (.bool Da) ∧ w'.cell? ⟨ea, 1, none⟩ = some (.string Ca) ∧ w'.cell? ⟨ea, 2, none⟩ = some (.string Aa) ∧ w'.cell? (Ra.add (((rd ka pa)).toNat * 3)) = some (.bool ((r32_ ta (rd ka pa)).f0)) ∧ w'.cell? ⟨(Ra.add (((rd ka pa)).toNat * 3)).block, (Ra.add (((rd ka pa)).toNat * 3)).off + 1, none⟩ = some (.string ((r32_ ta (rd ka pa)).f1)) ∧ w'.cell? ⟨(Ra.add (((rd ka pa)).toNat * 3)).block, (Ra.add (((rd ka pa)).toNat * 3)).off + 2, none⟩ = some (.string ((r32_ ta (rd ka pa)).f2))) (ds := [6]) (tf_ 0 7) kr_ rfl rfl ⟨(kc_ ba.out 0).trans rfl, (kc_ ba.out 1).trans rfl, (kc_ ba.out 2).trans rfl, jb, kb, mb⟩ (fun hHeld => ?_)
       generalize wr.drew = w36 at ga ha fa la aa ba HB jb kb mb hHeld ⊢
       refine pu_ (i := 1) (N := some 64) (v := ?_) (a' := ?_) #[false, true, false, false, false, false, false] rfl rfl kr_ (fun _ _ _ h => h) (Or.inl ⟨by rfl, ?_⟩) ?_ ?_
       rotate_left
       ·intro w'
        go_simp
        with_reducible rfl
       rotate_left
       ·simp only [Act.put, s1_, s2_, s3_, i6_, i3_]
        rfl
       refine pu_ (i := 2) (N := some 65) (v := ?_) (a' := ?_) #[false, true, true, false, false, false, false] rfl rfl kr_ (fun _ _ _ h => h) (Or.inl ⟨by rfl, ?_⟩) ?_ ?_
       rotate_left
       ·intro w'
        go_simp
        with_reducible rfl
       rotate_left
       ·simp only [Act.put, s1_, s2_, s3_, i6_, i3_]
        rfl
       refine pu_ (i := 3) (N := some 66) (v := ?_) (a' := ?_) #[false, true, true, true, false, false, false] rfl rfl kr_ (fun _ _ _ h => h) (Or.inl ⟨by rfl, ?_⟩) ?_ ?_
       rotate_left
       ·intro w'
        go_simp
        with_reducible rfl
       rotate_left
       ·simp only [Act.put, s1_, s2_, s3_, i6_, i3_]
        rfl
       refine take_ (i := 0) (N := some 63) (v := ?_) (a' := ?_) (tf_ 4 3) rfl rfl kr_ (fun _ _ _ h => h) (Or.inl ⟨by rfl, ?_⟩) hHeld ?_ ?_
       rotate_left
       ·rintro w' ⟨s0, s1, s2, s3, s4, s5⟩
        go_simp
        with_reducible rfl
       rotate_left
       ·simp only [Act.put, s1_, s2_, s3_, i6_, i3_]
        rfl
       refine take_ (i := 4) (N := some 67) (v := ?_) (a' := ?_) (tf_ 5 2) rfl rfl kr_ (fun _ _ _ h => h) (Or.inl ⟨by rfl, ?_⟩) hHeld ?_ ?_
       rotate_left
       ·rintro w' ⟨s0, s1, s2, s3, s4, s5⟩
        go_simp
        with_reducible rfl
       rotate_left
       ·simp only [Act.put, s1_, s2_, s3_, i6_, i3_]
        rfl
       refine one_ (i := 5) (N := some 68) (tf_ 6 1) rfl rfl kr_ (by decide) (fun K hK => ?_)
       refine goes_ Tryd.func10 kr_ rfl #[.agg #[.bool Da, .string Ca, .string Aa], .agg #[.bool ((r32_ ta (rd ka pa)).f0), .string ((r32_ ta (rd ka pa)).f1), .string ((r32_ ta (rd ka pa)).f2)]] (by rfl) rfl rfl mp_ ?_
       with_reducible refine (q_Add.calls k2 Da Ca Aa ((r32_ ta (rd ka pa)).f0) ((r32_ ta (rd ka pa)).f1) ((r32_ ta (rd ka pa)).f2) Ia Ja Na _ A35.out).mono ?_
       rintro e w38 ⟨rfl, hb⟩
       have HS3_ := (hb.cell (World.block_lt_of_cell? _ _ (hHeld.2.2.2.1))).trans (hHeld.2.2.2.1)
       have HS4_ := (hb.cell (World.block_lt_of_cell? _ _ (hHeld.2.2.2.2.1))).trans (hHeld.2.2.2.2.1)
       have HS5_ := (hb.cell (World.block_lt_of_cell? _ _ (hHeld.2.2.2.2.2))).trans (hHeld.2.2.2.2.2)
       refine ⟨_, rfl, ?_⟩
       replace ga := mk_ (Kd.rB_ (xR_ ga.out) hb)
       replace ha := mk_ (Kd.S_below (by refine xs_ ?_; exact ha.out) hb)
       replace fa := mk_ (Kd.rB_ (xR_ fa.out) hb)
       replace la := mk_ (Kd.rB_ (xR_ la.out) hb)
       replace aa := mk_ (kB_ (xK_ aa.out) hb)
       replace ba := mk_ (kB_ (xK_ ba.out) hb)
       replace HB := mk_ (bT_ (xB2_ HB oa xa) hb)
       (try clear hb)
       (try clear hb2)
       (try clear hk)
       (try clear hi)
       refine hK.out _ _ ⟨(kc_ ba.out 0).trans rfl, (kc_ ba.out 1).trans rfl, (kc_ ba.out 2).trans rfl, HS3_, HS4_, HS5_⟩ (fun hHeld => ?_)
       clear hK K
       refine norm_ (a' := ?_) ?_ ?_
       rotate_left
       ·show Act.put _ (some 68) _ = _
        simp only [Act.put, s1_, s2_, s3_, i6_, i3_]
        rfl
       refine last_ (i := 6) (N := none) (tf_ 7 0) rfl rfl kr_ (by decide) (fun K hK => ?_)
       have rc : w38.cell? ⟨ea, 0, none⟩ = some (.bool Da) := (kc_ ba.out 0).trans rfl
       have hfs39 := kF_ ba.out 0
       have hns39_0 := Ea.out
       have hms39_0 := Sa.out
       have sc : w38.cell? ⟨ea, 1, none⟩ = some (.string Ca) := (kc_ ba.out 1).trans rfl
       have hfs40 := kF_ ba.out 1
       have hns40_0 := Ea.out
       have hms40_0 := Sa.out
       have tc : w38.cell? ⟨ea, 2, none⟩ = some (.string Aa) := (kc_ ba.out 2).trans rfl
       have hfs41 := kF_ ba.out 2
       have hns41_0 := Ea.out
       have hms41_0 := Sa.out
       refine skip_ (w1 := ?_) (by rfl) rfl ?_ ?_
       rotate_left
       ·go_simp
        rfl
       refine hK.out _ _ ?_
       clear hK K
       refine done_ kr_ ?_
       try go_wp2
       (try simp only [ap_])
       go_roundg k2
       case measure => have := HJ8.out; have := HK2.out; omega
       case rel => exact ⟨(wrap64 (pa + 1)), (Ia), (Ja), (Na), (rS_), H', ⟨by have := HJ8.out; have := HK2.out; omega⟩, ⟨by refine xr_ ?_; exact Kd.rM_ (Kd.rF_ (p := ⟨ea, 2, none⟩) (Kd.rF_ (p := ⟨ea, 1, none⟩) (Kd.rF_ (p := ⟨ea, 0, none⟩) (Kd.rM_ ga.out (fun k_ hk => (⟨hk, hk.2.2⟩ : _ ∧ k_ ≠ ea))) (fun _ hk => hk.2) (.bool Ia)) (fun _ hk => hk.2) (.string Ja)) (fun _ hk => hk.2) (.string Na)) (fun _ hk => ⟨hk.1.1, ⟨hk.1.2.1, hk.1.2.2⟩⟩)⟩, ⟨by refine xs_ ?_; exact Kd.S_mono (Kd.S_far (p := ⟨ea, 2, none⟩) (Kd.S_far (p := ⟨ea, 1, none⟩) (Kd.S_far (p := ⟨ea, 0, none⟩) (Kd.S_types ha.out ba.out (by decide)) (fun _ hk => hk.2) (.bool Ia)) (fun _ hk => hk.2) (.string Ja)) (fun _ hk => hk.2) (.string Na)) (fun _ hk => trivial)⟩, ⟨by refine xr_ ?_; exact Kd.rM_ (Kd.rF_ (p := ⟨ea, 2, none⟩) (Kd.rF_ (p := ⟨ea, 1, none⟩) (Kd.rF_ (p := ⟨ea, 0, none⟩) (Kd.rM_ fa.out (fun k_ hk => (⟨hk, hk.2.2⟩ : _ ∧ k_ ≠ ea))) (fun _ hk => hk.2) (.bool Ia)) (fun _ hk => hk.2) (.string Ja)) (fun _ hk => hk.2) (.string Na)) (fun _ hk => ⟨hk.1.1, ⟨hk.1.2.1, hk.1.2.2⟩⟩)⟩, ⟨by refine xr_ ?_; exact Kd.rM_ (Kd.rF_ (p := ⟨ea, 2, none⟩) (Kd.rF_ (p := ⟨ea, 1, none⟩) (Kd.rF_ (p := ⟨ea, 0, none⟩) (Kd.R_types la.out ba.out (by decide)) (fun _ hk => hk.2) (.bool Ia)) (fun _ hk => hk.2) (.string Ja)) (fun _ hk => hk.2) (.string Na)) (fun _ hk => trivial)⟩, ⟨by refine xk_ ?_; refine bf_ ?_ Ea.out _; refine xk_ ?_; refine bf_ ?_ Ea.out _; refine xk_ ?_; refine bf_ ?_ Ea.out _; refine xk_ ?_; exact aa.out⟩, ⟨by refine xk_ ?_; refine kQ_ (cs := #[.bool Ia, .string Ja, .string Aa]) ?_ 2 _ rfl; refine kQ_ (cs := #[.bool Ia, .string Ca, .string Aa]) ?_ 1 _ rfl; refine kQ_ (cs := #[.bool Da, .string Ca, .string Aa]) ?_ 0 _ rfl; exact ba.out⟩, ⟨xB2_ HB oa xa⟩⟩
      ·have zb := decide_eq_false c30
       clear c30
       replace H := oB_ H
       obtain ⟨Oa, A42, H⟩ := H
       (try dsimp only at H)
       replace H := oB_ H
       obtain ⟨⟨sa, va, ya, Cb⟩, A43, H⟩ := H
       (try dsimp only at H)
       replace H := oB_ H
       obtain ⟨uc, A44, H⟩ := H
       (try dsimp only at H)
       replace H := iS_ H
       rcases H with ⟨c45, H⟩ | ⟨c45, H⟩
       ·subst c45
        replace H := oB_ H
        obtain ⟨Db, A46, H⟩ := H
        (try dsimp only at H)
        replace H := iS_ H
        rcases H with ⟨c47, H⟩ | ⟨c47, H⟩
        ·have Eb := decide_eq_true c47
         clear c47
         replace H := iS_ H
         rcases H with ⟨c48, H⟩ | ⟨c48, H⟩
         ·have Fb := beq_iff_eq.mpr c48
          have Gb := bne_eq_false_iff_eq.mpr c48
          clear c48
          replace H := oB_ H
          obtain ⟨⟨Hb, Ib, Jb⟩, A49, H⟩ := H
          (try dsimp only at H)
          obtain rfl := Option.some.inj H
          try go_wp2_with (first | ((with_reducible refine gC_ (f := 14) rfl ?_); refine gL_ (some 75) rfl rfl Tryd.func14 kr_ rfl #[.int .u8 255, .int .i64 (ja.length : Int)] rfl mp_ ?_; (with_reducible refine (insolvencylaw16_set.calls k2 255 (ja.length : Int) Oa _ A42.out).mono ?_); rintro e w50 ⟨vc, rfl, ho0, hb⟩; refine ⟨_, rfl, ?_⟩; replace ga := mk_ (Kd.rB_ (xR_ ga.out) hb); replace ha := mk_ (Kd.S_below (by refine xs_ ?_; exact ha.out) hb); replace fa := mk_ (Kd.rB_ (xR_ fa.out) hb); have wa := mk_ (Kd.rL_ (Kd.R_new' ho0 (Kd.R_lt (xR_ la.out))) (bZ_ (xB2_ HB oa xa))); replace la := mk_ (Kd.R_elder' (xR_ la.out) (Kd.R_base ho0) hb); replace aa := mk_ (kB_ (xK_ aa.out) hb); replace ba := mk_ (kB_ (xK_ ba.out) hb); replace HB := mk_ (bT_ (xB2_ HB oa xa) hb); obtain ⟨eb, fb, Kb⟩ := Kd.rS_' wa.out; subst Kb) | ((with_reducible refine gC_ (f := 13) rfl ?_); refine gL_ (some 76) rfl rfl Tryd.func13 kr_ rfl #[.slice Ka za.length La, .slice Fa ja.length Ga, .slice eb Oa.length fb] rfl mp_ ?_; (with_reducible refine (marshal_Capacity.calls k2 _ _ za _ _ ja _ _ Oa sa va ya Cb _ ?side1 ?side2 ?side3 ?side4 ?side5 ?side6 A43.out (TzT.below HT.out (Nat.le_refl _) (xB2_ HB oa xa))).mono ?_); (case side1 => repeat (first | exact (Kd.S_reads' ha.out).2.2 | (with_reducible refine Kd.C_alloc ?_ _) | (with_reducible refine Kd.C_drewN ?_ _) | (with_reducible refine Kd.C_drew ?_))); (case side2 => exact (Kd.S_reads' ha.out).2.1); (case side3 => repeat (first | exact (Kd.rr_' ga.out).2.2 | (with_reducible refine Kd.C_alloc ?_ _) | (with_reducible refine Kd.C_drewN ?_ _) | (with_reducible refine Kd.C_drew ?_))); (case side4 => exact (Kd.rr_' ga.out).2.1); (case side5 => repeat (first | exact (Kd.rr_' wa.out).2.2 | (with_reducible refine Kd.C_alloc ?_ _) | (with_reducible refine Kd.C_drewN ?_ _) | (with_reducible refine Kd.C_drew ?_))); (case side6 => exact (Kd.rr_' wa.out).2.1); rintro e w52 ⟨rfl, hb⟩; refine ⟨_, rfl, ?_⟩; replace ga := mk_ (Kd.rB_ (xR_ ga.out) hb); replace ha := mk_ (Kd.S_below (by refine xs_ ?_; exact ha.out) hb); replace fa := mk_ (Kd.rB_ (xR_ fa.out) hb); replace la := mk_ (Kd.rB_ (xR_ la.out) hb); replace wa := mk_ (Kd.rB_ (xR_ wa.out) hb); replace aa := mk_ (kB_ (xK_ aa.out) hb); replace ba := mk_ (kB_ (xK_ ba.out) hb); replace HB := mk_ (bT_ (xB2_ HB oa xa) hb)) | ((with_reducible refine gD_ (N := 16) rfl ?_); (try (refine gate_guard (by rfl) ?_; dsimp only)); refine bX_ (N := 16) (cs := zC_) (t := 32) ?_; intro ca hg w53 hbox hb; replace ga := mk_ (Kd.rB_ (Kd.R_elderB (xR_ ga.out) ca (Nat.le_of_eq hg.symm)) hb); replace ha := mk_ (Kd.S_below (by refine xs_ ?_; exact ha.out) hb); replace fa := mk_ (Kd.rB_ (Kd.R_elderB (xR_ fa.out) ca (Nat.le_of_eq hg.symm)) hb); replace la := mk_ (Kd.rB_ (xR_ la.out) hb); replace wa := mk_ (Kd.rB_ (xR_ wa.out) hb); have ia := mk_ (hbox); have xc := mk_ (gZ_ hg (bZ_ (xB2_ HB oa xa))); have Pa := mk_ (gZ_ hg (bZ_ (xB2_ HB oa xa))); replace HB := mk_ (bT_ (xB2_ HB oa xa) hb); have Ta := mk_ (gN_ hg (xK_ aa.out)); have Lb := mk_ (gM_ hg (xK_ aa.out)); replace aa := mk_ (kB_ (xK_ aa.out) hb); have Ua := mk_ (gN_ hg (xK_ ba.out)); have Mb := mk_ (gM_ hg (xK_ ba.out)); replace ba := mk_ (kB_ (xK_ ba.out) hb); clear hb hbox hg; have hnb54 := Lb.out; have hnc54 := Ta.out; have hnb55 := Mb.out; have hnc55 := Ua.out; obtain ⟨yc, zc, Ac, Bc, Cc, Dc⟩ := kG3_ ia.out))
          have n0_ : A0_ (Kd.R k32 32 (((w53.setCell ⟨ca, 0, none⟩ (.bool sa)).setCell ⟨ca, 1, none⟩ (.string va)).setCell ⟨ca, 2, none⟩ (.string ya)) w.heap.size (fun k_ => some k_ ≠ (Ma : Value).ownBlock ∧ k_ ≠ da ∧ k_ ≠ ea ∧ k_ ≠ ca) (.slice Fa ja.length Ga) ja) := ⟨by refine xr_ ?_; exact Kd.rM_ (Kd.rF_ (p := ⟨ca, 2, none⟩) (Kd.rF_ (p := ⟨ca, 1, none⟩) (Kd.rF_ (p := ⟨ca, 0, none⟩) (Kd.rM_ ga.out (fun k_ hk => (⟨hk, hk.2⟩ : _ ∧ k_ ≠ ca))) (fun _ hk => hk.2) (.bool sa)) (fun _ hk => hk.2) (.string va)) (fun _ hk => hk.2) (.string ya)) (fun _ hk => ⟨hk.1.1.1, ⟨hk.1.1.2.1, ⟨hk.1.1.2.2, hk.1.2⟩⟩⟩)⟩
          have n1_ : A0_ (Kd.S k50 50 (((w53.setCell ⟨ca, 0, none⟩ (.bool sa)).setCell ⟨ca, 1, none⟩ (.string va)).setCell ⟨ca, 2, none⟩ (.string ya)) w.heap.size (fun _ => True) (.slice Ka za.length La) za) := ⟨by refine xs_ ?_; exact Kd.S_mono (Kd.S_far (p := ⟨ca, 2, none⟩) (Kd.S_far (p := ⟨ca, 1, none⟩) (Kd.S_far (p := ⟨ca, 0, none⟩) (Kd.S_types ha.out ia.out (by decide)) (fun _ hk => hk.2) (.bool sa)) (fun _ hk => hk.2) (.string va)) (fun _ hk => hk.2) (.string ya)) (fun _ hk => trivial)⟩
          have n2_ : A0_ (Kd.R k32 32 (((w53.setCell ⟨ca, 0, none⟩ (.bool sa)).setCell ⟨ca, 1, none⟩ (.string va)).setCell ⟨ca, 2, none⟩ (.string ya)) w.heap.size (fun k_ => some k_ ≠ (.slice Fa ja.length Ga : Value).ownBlock ∧ k_ ≠ da ∧ k_ ≠ ea ∧ k_ ≠ ca) Ma ta) := ⟨by refine xr_ ?_; exact Kd.rM_ (Kd.rF_ (p := ⟨ca, 2, none⟩) (Kd.rF_ (p := ⟨ca, 1, none⟩) (Kd.rF_ (p := ⟨ca, 0, none⟩) (Kd.rM_ fa.out (fun k_ hk => (⟨hk, hk.2⟩ : _ ∧ k_ ≠ ca))) (fun _ hk => hk.2) (.bool sa)) (fun _ hk => hk.2) (.string va)) (fun _ hk => hk.2) (.string ya)) (fun _ hk => ⟨hk.1.1.1, ⟨hk.1.1.2.1, ⟨hk.1.1.2.2, hk.1.2⟩⟩⟩)⟩
          have n3_ : A0_ (Kd.R (Kd.int .i64) 3 (((w53.setCell ⟨ca, 0, none⟩ (.bool sa)).setCell ⟨ca, 1, none⟩ (.string va)).setCell ⟨ca, 2, none⟩ (.string ya)) w.heap.size (fun k_ => some k_ ≠ (.slice eb Oa.length fb : Value).ownBlock) (.slice Ya ka.length Za) ka) := ⟨by refine xr_ ?_; exact Kd.rM_ (Kd.rF_ (p := ⟨ca, 2, none⟩) (Kd.rF_ (p := ⟨ca, 1, none⟩) (Kd.rF_ (p := ⟨ca, 0, none⟩) (Kd.R_types la.out ia.out (by decide)) (fun _ hk => hk.2) (.bool sa)) (fun _ hk => hk.2) (.string va)) (fun _ hk => hk.2) (.string ya)) (fun _ hk => hk.1.2)⟩
          have n4_ : A0_ (Kd.R (Kd.int .i64) 3 (((w53.setCell ⟨ca, 0, none⟩ (.bool sa)).setCell ⟨ca, 1, none⟩ (.string va)).setCell ⟨ca, 2, none⟩ (.string ya)) w.heap.size (fun k_ => some k_ ≠ (.slice Ya ka.length Za : Value).ownBlock) (.slice eb Oa.length fb) Oa) := ⟨by refine xr_ ?_; exact Kd.rM_ (Kd.rF_ (p := ⟨ca, 2, none⟩) (Kd.rF_ (p := ⟨ca, 1, none⟩) (Kd.rF_ (p := ⟨ca, 0, none⟩) (Kd.R_types wa.out ia.out (by decide)) (fun _ hk => hk.2) (.bool sa)) (fun _ hk => hk.2) (.string va)) (fun _ hk => hk.2) (.string ya)) (fun _ hk => hk.1.2)⟩
          have n5_ : A0_ ((((w53.setCell ⟨ca, 0, none⟩ (.bool sa)).setCell ⟨ca, 1, none⟩ (.string va)).setCell ⟨ca, 2, none⟩ (.string ya)).heap[da]? = some (.cells #[.bool ma, .string qa, .string ua] 32 (0, 0))) := ⟨by refine xk_ ?_; refine bf_ ?_ Ta.out _; refine xk_ ?_; refine bf_ ?_ Ta.out _; refine xk_ ?_; refine bf_ ?_ Ta.out _; refine xk_ ?_; exact aa.out⟩
          have n6_ : A0_ ((((w53.setCell ⟨ca, 0, none⟩ (.bool sa)).setCell ⟨ca, 1, none⟩ (.string va)).setCell ⟨ca, 2, none⟩ (.string ya)).heap[ea]? = some (.cells #[.bool Da, .string Ca, .string Aa] 32 (0, 0))) := ⟨by refine xk_ ?_; refine bf_ ?_ Ua.out _; refine xk_ ?_; refine bf_ ?_ Ua.out _; refine xk_ ?_; refine bf_ ?_ Ua.out _; refine xk_ ?_; exact ba.out⟩
          have n7_ : A0_ ((((w53.setCell ⟨ca, 0, none⟩ (.bool sa)).setCell ⟨ca, 1, none⟩ (.string va)).setCell ⟨ca, 2, none⟩ (.string ya)).heap[ca]? = some (.cells #[.bool sa, .string va, .string ya] 32 (0, 0))) := ⟨by refine xk_ ?_; refine kQ_ (cs := #[.bool sa, .string va, .string (⟨#[]⟩ : ByteArray)]) ?_ 2 _ rfl; refine kQ_ (cs := #[.bool sa, .string (⟨#[]⟩ : ByteArray), .string (⟨#[]⟩ : ByteArray)]) ?_ 1 _ rfl; refine kQ_ (cs := zC_) ?_ 0 _ rfl; exact ia.out⟩
          have n8_ : A0_ (Below w.heap.size w (((w53.setCell ⟨ca, 0, none⟩ (.bool sa)).setCell ⟨ca, 1, none⟩ (.string va)).setCell ⟨ca, 2, none⟩ (.string ya))) := ⟨xB3_ HB oa xa Pa⟩
          (try clear ga)
          (try clear ha)
          (try clear fa)
          (try clear la)
          (try clear wa)
          (try clear aa)
          (try clear ba)
          (try clear ia)
          (try clear HB)
          generalize (((w53.setCell ⟨ca, 0, none⟩ (.bool sa)).setCell ⟨ca, 1, none⟩ (.string va)).setCell ⟨ca, 2, none⟩ (.string ya)) = w57 at n0_ n1_ n2_ n3_ n4_ n5_ n6_ n7_ n8_ ⊢
          have ga := n0_
          have ha := n1_
          have fa := n2_
          have la := n3_
          have wa := n4_
          have aa := n5_
          have ba := n6_
          have ia := n7_
          have HB := n8_
          clear n0_ n1_ n2_ n3_ n4_ n5_ n6_ n7_ n8_
          replace ga := mk_ (Kd.rD_ ga.out)
          replace ha := mk_ (Kd.S_drew ha.out)
          replace fa := mk_ (Kd.rD_ fa.out)
          replace la := mk_ (Kd.rD_ la.out)
          replace wa := mk_ (Kd.rD_ wa.out)
          replace aa := mk_ (kD_ aa.out)
          replace ba := mk_ (kD_ ba.out)
          replace ia := mk_ (kD_ ia.out)
          replace HB := mk_ (b1_ HB.out)
          refine start_ (n := 18) (S := fun w' => w'.cell? ⟨ea, 0, none⟩ = some (.bool Da) ∧ w'.cell? ⟨ea, 1, none⟩ = some (.string Ca) ∧ w'.cell? ⟨ea, 2, none⟩ = some (.string Aa) ∧ w'.cell? ⟨da, 0, none⟩ = some (.bool ma) ∧ w'.cell? ⟨da, 1, none⟩ = some (.string qa) ∧ w'.cell? ⟨da, 2, none⟩ = some (.string ua) ∧ w'.cell? ⟨ca, 0, none⟩ = some (.bool sa) ∧ w'.cell? ⟨ca, 1, none⟩ = some (.string va) ∧ w'.cell? ⟨ca, 2, none⟩ = some (.string ya)) (ds := []) (tf_ 0 18) kr_ rfl rfl ⟨(kc_ ba.out 0).trans rfl, (kc_ ba.out 1).trans rfl, (kc_ ba.out 2).trans rfl, (kc_ aa.out 0).trans rfl, (kc_ aa.out 1).trans rfl, (kc_ aa.out 2).trans rfl, (kc_ ia.out 0).trans rfl, (kc_ ia.out 1).trans rfl, (kc_ ia.out 2).trans rfl⟩ (fun hHeld => ?_); refine with_tabW insolvencylaw16_MarshalSets.tab14 insolvencylaw16_MarshalSets.bits14 (fun HT_ HW_ => ?_)
          generalize w57.drew = w58 at ga ha fa la wa aa ba ia HB hHeld ⊢
          refine one_ (i := 0) (N := some 79) (tf_ 1 17) rfl rfl (one_of HT_.out kr_) (by decide) (fun K hK => ?_)
          refine goes_ Tryd.func12 kr_ rfl #[] (by rfl) rfl rfl mp_ ?_
          with_reducible refine (insolvencylaw16_awake.calls k2  true _ A44.out (TzT.below HT.out (Nat.le_refl _) (xB3_ HB oa xa Pa))).mono ?_
          rintro e w59 ⟨rfl, hb⟩
          refine ⟨_, rfl, ?_⟩
          replace ga := mk_ (Kd.rB_ (xR_ ga.out) hb)
          replace ha := mk_ (Kd.S_below (by refine xs_ ?_; exact ha.out) hb)
          replace fa := mk_ (Kd.rB_ (xR_ fa.out) hb)
          replace la := mk_ (Kd.rB_ (xR_ la.out) hb)
          replace wa := mk_ (Kd.rB_ (xR_ wa.out) hb)
          replace aa := mk_ (kB_ (xK_ aa.out) hb)
          replace ba := mk_ (kB_ (xK_ ba.out) hb)
          replace ia := mk_ (kB_ (xK_ ia.out) hb)
          replace HB := mk_ (bT_ (xB3_ HB oa xa Pa) hb)
          (try clear hb)
          (try clear hb2)
          (try clear hk)
          (try clear hi)
          refine hK.out _ _ ⟨(kc_ ba.out 0).trans rfl, (kc_ ba.out 1).trans rfl, (kc_ ba.out 2).trans rfl, (kc_ aa.out 0).trans rfl, (kc_ aa.out 1).trans rfl, (kc_ aa.out 2).trans rfl, (kc_ ia.out 0).trans rfl, (kc_ ia.out 1).trans rfl, (kc_ ia.out 2).trans rfl⟩ (fun hHeld => ?_)
          clear hK K
          refine norm_ (a' := ?_) ?_ ?_
          rotate_left
          ·show Act.put _ (some 79) _ = _
           simp only [Act.put, s1_, s2_, s3_, i6_, i3_]
           rfl
          refine pu_ (i := 1) (N := some 80) (v := ?_) (a' := ?_) (tf_ 2 16) rfl rfl (an_ HT_.out kr_) (fun _ _ _ h => h) (Or.inl ⟨by rfl, ?_⟩) ?_ ?_
          rotate_left
          ·intro w'
           go_simp
           with_reducible rfl
          rotate_left
          ·simp only [Act.put, s1_, s2_, s3_, i6_, i3_]
           rfl
          refine take_ (i := 2) (N := some 81) (v := ?_) (a' := ?_) (tf_ 3 15) rfl rfl (tW_ HT_.out HW_.out kr_) (fun _ _ _ h => h) (Or.inl ⟨by rfl, ?_⟩) hHeld ?_ ?_
          rotate_left
          ·rintro w' ⟨s0, s1, s2, s3, s4, s5, s6, s7, s8⟩
           go_simp
           with_reducible rfl
          rotate_left
          ·simp only [Act.put, s1_, s2_, s3_, i6_, i3_]
           rfl
          refine take_ (i := 3) (N := some 82) (v := ?_) (a' := ?_) (tf_ 4 14) rfl rfl (tW_ HT_.out HW_.out kr_) (fun _ _ _ h => h) (Or.inl ⟨by rfl, ?_⟩) hHeld ?_ ?_
          rotate_left
          ·rintro w' ⟨s0, s1, s2, s3, s4, s5, s6, s7, s8⟩
           go_simp
           with_reducible rfl
          rotate_left
          ·simp only [Act.put, s1_, s2_, s3_, i6_, i3_]
           rfl
          refine one_ (i := 4) (N := some 83) (tf_ 5 13) rfl rfl (one_of HT_.out kr_) (by decide) (fun K hK => ?_)
          refine goes_ Tryd.func11 kr_ rfl #[.agg #[.bool Da, .string Ca, .string Aa], .agg #[.bool ma, .string qa, .string ua]] (by rfl) rfl rfl mp_ ?_
          with_reducible refine (q_Compare.calls k2 Da Ca Aa ma qa ua Db _ A46.out).mono ?_
          rintro e w60 ⟨rfl, hb⟩
          refine ⟨_, rfl, ?_⟩
          replace ga := mk_ (Kd.rB_ (xR_ ga.out) hb)
          replace ha := mk_ (Kd.S_below (by refine xs_ ?_; exact ha.out) hb)
          replace fa := mk_ (Kd.rB_ (xR_ fa.out) hb)
          replace la := mk_ (Kd.rB_ (xR_ la.out) hb)
          replace wa := mk_ (Kd.rB_ (xR_ wa.out) hb)
          replace aa := mk_ (kB_ (xK_ aa.out) hb)
          replace ba := mk_ (kB_ (xK_ ba.out) hb)
          replace ia := mk_ (kB_ (xK_ ia.out) hb)
          replace HB := mk_ (bT_ (xB3_ HB oa xa Pa) hb)
          (try clear hb)
          (try clear hb2)
          (try clear hk)
          (try clear hi)
          obtain ⟨Nb, Ob, nb⟩ := Kd.rS_' fa.out
          (first | subst nb | (injection nb with f1_ f2_ f3_; have f4_ := f1_.symm; have f5_ := f3_.symm; clear f1_ f2_ f3_; subst f4_; subst f5_))
          refine hK.out _ _ ⟨(kc_ ba.out 0).trans rfl, (kc_ ba.out 1).trans rfl, (kc_ ba.out 2).trans rfl, (kc_ aa.out 0).trans rfl, (kc_ aa.out 1).trans rfl, (kc_ aa.out 2).trans rfl, (kc_ ia.out 0).trans rfl, (kc_ ia.out 1).trans rfl, (kc_ ia.out 2).trans rfl⟩ (fun hHeld => ?_)
          clear hK K
          refine norm_ (a' := ?_) ?_ ?_
          rotate_left
          ·show Act.put _ (some 83) _ = _
           simp only [Act.put, s1_, s2_, s3_, i6_, i3_]
           rfl
          refine pu_ (i := 5) (N := some 84) (v := ?_) (a' := ?_) (tf_ 6 12) rfl rfl (an_ HT_.out kr_) (fun _ _ _ h => h) (Or.inl ⟨by rfl, ?_⟩) ?_ ?_
          rotate_left
          ·intro w'
           go_simp
           with_reducible rfl
          rotate_left
          ·simp only [Act.put, s1_, s2_, s3_, i6_, i3_]
           rfl
          refine pu_ (i := 6) (N := some 85) (v := ?_) (a' := ?_) (tf_ 7 11) rfl rfl (an_ HT_.out kr_) (fun _ _ _ h => h) (Or.inl ⟨by rfl, ?_⟩) ?_ ?_
          rotate_left
          ·intro w'
           go_simp
           with_reducible rfl
          rotate_left
          ·simp only [Act.put, s1_, s2_, s3_, i6_, i3_]
           rfl
          refine pu_ (i := 7) (N := some 86) (v := ?_) (a' := ?_) (tf_ 8 10) rfl rfl (an_ HT_.out kr_) (fun _ _ _ h => h) (Or.inl ⟨by rfl, ?_⟩) ?_ ?_
          rotate_left
          ·intro w'
           go_simp
           with_reducible rfl
          rotate_left
          ·simp only [Act.put, s1_, s2_, s3_, i6_, i3_]
           rfl
          refine pu_ (i := 8) (N := some 87) (v := ?_) (a' := ?_) (tf_ 9 9) rfl rfl (an_ HT_.out kr_) (fun _ _ _ h => h) (Or.inl ⟨by rfl, ?_⟩) ?_ ?_
          rotate_left
          ·intro w'
           go_simp
           with_reducible rfl
          rotate_left
          ·simp only [Act.put, s1_, s2_, s3_, i6_, i3_]
           rfl
          refine pu_ (i := 9) (N := some 88) (v := ?_) (a' := ?_) (tf_ 10 8) rfl rfl (an_ HT_.out kr_) (fun _ _ _ h => h) (Or.inl ⟨by rfl, ?_⟩) ?_ ?_
          rotate_left
          ·intro w'
           go_simp
           with_reducible rfl
          rotate_left
          ·simp only [Act.put, s1_, s2_, s3_, i6_, i3_]
           rfl
          refine pu_ (i := 10) (N := some 89) (v := ?_) (a' := ?_) (tf_ 11 7) rfl rfl (an_ HT_.out kr_) (fun _ _ _ h => h) (Or.inl ⟨by rfl, ?_⟩) ?_ ?_
          rotate_left
          ·intro w'
           go_simp
           with_reducible rfl
          rotate_left
          ·simp only [Act.put, s1_, s2_, s3_, i6_, i3_]
           rfl
          refine pu_ (i := 11) (N := some 90) (v := ?_) (a' := ?_) (tf_ 12 6) rfl rfl (an_ HT_.out kr_) (fun _ _ _ h => h) (Or.inl ⟨by rfl, ?_⟩) ?_ ?_
          rotate_left
          ·intro w'
           go_simp
           with_reducible rfl
          rotate_left
          ·simp only [Act.put, s1_, s2_, s3_, i6_, i3_]
           rfl
          refine pu_ (i := 12) (N := some 91) (v := ?_) (a' := ?_) (tf_ 13 5) rfl rfl (an_ HT_.out kr_) (fun _ _ _ h => h) (Or.inl ⟨by rfl, ?_⟩) ?_ ?_
          rotate_left
          ·intro w'
           go_simp
           with_reducible rfl
          rotate_left
          ·simp only [Act.put, s1_, s2_, s3_, i6_, i3_]
           rfl
          refine take_ (i := 14) (N := some 93) (v := ?_) (a' := ?_) #[true, true, true, true, true, true, true, true, true, true, true, true, true, false, true, false, false, false] rfl rfl (tW_ HT_.out HW_.out kr_) (fun _ _ _ h => h) (Or.inl ⟨by rfl, ?_⟩) hHeld ?_ ?_
          rotate_left
          ·rintro w' ⟨s0, s1, s2, s3, s4, s5, s6, s7, s8⟩
           go_simp
           with_reducible rfl
          rotate_left
          ·simp only [Act.put, s1_, s2_, s3_, i6_, i3_]
           rfl
          refine one_ (i := 13) (N := some 92) (tf_ 15 3) rfl rfl (one_of HT_.out kr_) (by decide) (fun K hK => ?_)
          refine goes_ Tryd.func16 kr_ rfl #[.slice Nb ta.length Ob] (by rfl) rfl rfl mp_ ?_
          with_reducible refine (q_Sum.calls k2 _ _ ta Hb Ib Jb _ ?side1 ?side2 A49.out).mono ?_
          (case side1 => repeat (first | exact (Kd.rr_' fa.out).2.2 | (with_reducible refine Kd.C_alloc ?_ _) | (with_reducible refine Kd.C_drewN ?_ _) | (with_reducible refine Kd.C_drew ?_)))
          (case side2 => exact (Kd.rr_' fa.out).2.1)
          rintro e w62 ⟨rfl, hb⟩
          refine ⟨_, rfl, ?_⟩
          replace ga := mk_ (Kd.rB_ (xR_ ga.out) hb)
          replace ha := mk_ (Kd.S_below (by refine xs_ ?_; exact ha.out) hb)
          replace fa := mk_ (Kd.rB_ (xR_ fa.out) hb)
          replace la := mk_ (Kd.rB_ (xR_ la.out) hb)
          replace wa := mk_ (Kd.rB_ (xR_ wa.out) hb)
          replace aa := mk_ (kB_ (xK_ aa.out) hb)
          replace ba := mk_ (kB_ (xK_ ba.out) hb)
          replace ia := mk_ (kB_ (xK_ ia.out) hb)
          replace HB := mk_ (bT_ (xB3_ HB oa xa Pa) hb)
          (try clear hb)
          (try clear hb2)
          (try clear hk)
          (try clear hi)
          refine hK.out _ _ ⟨(kc_ ba.out 0).trans rfl, (kc_ ba.out 1).trans rfl, (kc_ ba.out 2).trans rfl, (kc_ aa.out 0).trans rfl, (kc_ aa.out 1).trans rfl, (kc_ aa.out 2).trans rfl, (kc_ ia.out 0).trans rfl, (kc_ ia.out 1).trans rfl, (kc_ ia.out 2).trans rfl⟩ (fun hHeld => ?_)
          clear hK K
          refine norm_ (a' := ?_) ?_ ?_
          rotate_left
          ·show Act.put _ (some 92) _ = _
           simp only [Act.put, s1_, s2_, s3_, i6_, i3_]
           rfl
          refine pu_ (i := 15) (N := some 94) (v := ?_) (a' := ?_) (tf_ 16 2) rfl rfl (an_ HT_.out kr_) (fun _ _ _ h => h) (Or.inl ⟨by rfl, ?_⟩) ?_ ?_
          rotate_left
          ·intro w'
           go_simp
           with_reducible rfl
          rotate_left
          ·simp only [Act.put, s1_, s2_, s3_, i6_, i3_]
           rfl
          refine pu_ (i := 16) (N := some 95) (v := ?_) (a' := ?_) (tf_ 17 1) rfl rfl (an_ HT_.out kr_) (fun _ _ _ h => h) (Or.inl ⟨by rfl, ?_⟩) ?_ ?_
          rotate_left
          ·intro w'
           go_simp
           with_reducible rfl
          rotate_left
          ·simp only [Act.put, s1_, s2_, s3_, i6_, i3_]
           rfl
          refine pu_ (i := 17) (N := some 6) (v := ?_) (a' := ?_) (tf_ 18 0) rfl rfl (an_ HT_.out kr_) (fun _ _ _ h => h) (Or.inl ⟨by rfl, ?_⟩) ?_ ?_
          rotate_left
          ·intro w'
           go_simp
           with_reducible rfl
          rotate_left
          ·simp only [Act.put, s1_, s2_, s3_, i6_, i3_]
           rfl
          refine done_ (done_of HT_.out kr_) ?_
          try go_wp2
          go_ret
          exact ⟨rE_, xB3_ HB oa xa Pa⟩
         ·have Fb := beq_eq_false_iff_ne.mpr c48
          have Gb := bne_iff_ne.mpr c48
          exact absurd H (by simp)
        ·have Eb := decide_eq_false c47
         clear c47
         exact absurd H (by simp)
       ·replace c45 := Bool.eq_false_iff.mpr c45
        subst c45
        exact absurd H (by simp)
end Go.Proofs.YtppimdempdnhoaaDoor.C
end
section
set_option linter.unusedVariables false
set_option linter.unusedSimpArgs false
namespace Go.Proofs.YtppimdempdnhoaaDoor.C
def cutQ : List Int → Nat → Nat → Int
  | [], _, _ => 0
  | a :: p, X, i => (if X.testBit i then a else 0) + cutQ p X (i + 1)
def sub (I X : Nat) : Bool := I &&& X == I
theorem sub_iff {I X : Nat} : sub I X = true ↔ ∀ i, I.testBit i = true → X.testBit i = true := by
  unfold sub
  rw [beq_iff_eq]
  constructor
  · intro h i hi
    have := congrArg (fun n => n.testBit i) h
    simp only [Nat.testBit_and, hi, Bool.true_and] at this
    exact this
  · intro h
    refine Nat.eq_of_testBit_eq fun i => ?_
    rw [Nat.testBit_and]
    cases hi : I.testBit i
    · rfl
    · rw [h i hi]; rfl
theorem sub_and {I X Y : Nat} (h : sub I X = true) (h' : sub I Y = true) : sub I (X &&& Y) = true := by
  rw [sub_iff] at *
  intro i hi
  rw [Nat.testBit_and, h i hi, h' i hi]; rfl
theorem sub_orl {I X Y : Nat} (h : sub I X = true) : sub I (X ||| Y) = true := by
  rw [sub_iff] at *
  intro i hi
  rw [Nat.testBit_or, h i hi]; rfl
theorem sub_orr {I X Y : Nat} (h : sub I Y = true) : sub I (X ||| Y) = true := by
  rw [sub_iff] at *
  intro i hi
  rw [Nat.testBit_or, h i hi, Bool.or_true]
theorem sub_self (I : Nat) : sub I I = true := by rw [sub_iff]; exact fun _ h => h
theorem sub_zero {I : Nat} : sub I 0 = true ↔ I = 0 := by unfold sub; rw [beq_iff_eq, Nat.and_zero]; exact eq_comm
def hang (s : Nat → Bool) (X : Nat) : List (Nat × Int) → Nat → Int
  | [], _ => 0
  | c :: cl, j => (if s j && !sub c.1 X then c.2 else 0) + hang s X cl (j + 1)
def Val (p : List Int) (cl : List (Nat × Int)) (s : Nat → Bool) (X : Nat) : Int := cutQ p X 0 + hang s X cl 0
def least (f : Nat → Int) : Nat → Int
  | 0 => f 0
  | n + 1 => if least f n ≤ f (n + 1) then least f n else f (n + 1)
theorem least_le (f : Nat → Int) : ∀ (n X : Nat), X ≤ n → least f n ≤ f X := by
  intro n
  induction n with
  | zero =>
    intro X h
    obtain rfl : X = 0 := by omega
    exact Int.le_refl _
  | succ n ih =>
    intro X h
    simp only [least]
    rcases Nat.lt_or_eq_of_le h with h | h
    · have := ih X (by omega)
      split <;> omega
    · subst h
      split <;> omega
theorem least_mem (f : Nat → Int) : ∀ n : Nat, ∃ X, X ≤ n ∧ least f n = f X := by
  intro n
  induction n with
  | zero => exact ⟨0, Nat.le_refl _, rfl⟩
  | succ n ih =>
    obtain ⟨X, h, e⟩ := ih
    simp only [least]
    split
    · exact ⟨X, by omega, e⟩
    · exact ⟨n + 1, Nat.le_refl _, rfl⟩
def cap (p : List Int) (cl : List (Nat × Int)) (s : Nat → Bool) : Int := least (Val p cl s) (2 ^ p.length - 1)
def Pos (p : List Int) : Prop := ∀ a ∈ p, 0 ≤ a
def PosC (cl : List (Nat × Int)) : Prop := ∀ c ∈ cl, 0 ≤ c.2
theorem cutQ_modular (p : List Int) (X Y : Nat) : ∀ i, cutQ p (X &&& Y) i + cutQ p (X ||| Y) i = cutQ p X i + cutQ p Y i := by
  induction p with
  | nil => intro i; rfl
  | cons a p ih =>
    intro i
    have := ih (i + 1)
    simp only [cutQ, Nat.testBit_and, Nat.testBit_or]
    cases X.testBit i <;> cases Y.testBit i <;> simp <;> omega
theorem cutQ_nonneg {p : List Int} (h : Pos p) (X : Nat) : ∀ i, 0 ≤ cutQ p X i := by
  induction p with
  | nil => intro i; exact Int.le_refl _
  | cons a p ih =>
    intro i
    have h1 := h a (List.mem_cons_self ..)
    have := ih (fun x hx => h x (List.mem_cons_of_mem _ hx)) (i + 1)
    simp only [cutQ]
    split <;> omega
theorem cutQ_zero (p : List Int) : ∀ i, cutQ p 0 i = 0 := by
  induction p with
  | nil => intro i; rfl
  | cons a p ih => intro i; simp [cutQ, ih]
theorem hang_submod {cl : List (Nat × Int)} (h : PosC cl) (s t : Nat → Bool) (X Y : Nat) : ∀ j, hang (fun j => s j && t j) (X &&& Y) cl j + hang (fun j => s j || t j) (X ||| Y) cl j ≤ hang s X cl j + hang t Y cl j := by
  induction cl with
  | nil => intro j; exact Int.le_refl _
  | cons c cl ih =>
    intro j
    have h1 := h c (List.mem_cons_self ..)
    have := ih (fun x hx => h x (List.mem_cons_of_mem _ hx)) (j + 1)
    simp only [hang]
    have a1 : sub c.1 X = true → sub c.1 Y = true → sub c.1 (X &&& Y) = true := sub_and
    have a2 : sub c.1 X = true → sub c.1 (X ||| Y) = true := sub_orl
    have a3 : sub c.1 Y = true → sub c.1 (X ||| Y) = true := sub_orr
    generalize hang (fun j => s j && t j) (X &&& Y) cl (j + 1) = h1_ at *
    generalize hang (fun j => s j || t j) (X ||| Y) cl (j + 1) = h2_ at *
    generalize hang s X cl (j + 1) = h3_ at *
    generalize hang t Y cl (j + 1) = h4_ at *
    clear ih h
    rcases Bool.eq_false_or_eq_true (s j) with c1 | c1 <;> rcases Bool.eq_false_or_eq_true (t j) with c2 | c2 <;> rcases Bool.eq_false_or_eq_true (sub c.1 X) with c3 | c3 <;> rcases Bool.eq_false_or_eq_true (sub c.1 Y) with c4 | c4 <;>
      rcases Bool.eq_false_or_eq_true (sub c.1 (X &&& Y)) with c5 | c5 <;> rcases Bool.eq_false_or_eq_true (sub c.1 (X ||| Y)) with c6 | c6 <;> simp_all <;> omega
theorem hang_mono {cl : List (Nat × Int)} (h : PosC cl) {s t : Nat → Bool} (hs : ∀ j, s j = true → t j = true) (X : Nat) : ∀ j, hang s X cl j ≤ hang t X cl j := by
  induction cl with
  | nil => intro j; exact Int.le_refl _
  | cons c cl ih =>
    intro j
    have h1 := h c (List.mem_cons_self ..)
    have := ih (fun x hx => h x (List.mem_cons_of_mem _ hx)) (j + 1)
    have h2 := hs j
    simp only [hang]
    generalize hang s X cl (j + 1) = h3_ at *
    generalize hang t X cl (j + 1) = h4_ at *
    clear ih h hs
    rcases Bool.eq_false_or_eq_true (s j) with c1 | c1 <;> rcases Bool.eq_false_or_eq_true (t j) with c2 | c2 <;> rcases Bool.eq_false_or_eq_true (sub c.1 X) with c3 | c3 <;> simp_all <;> omega
theorem hang_congr {cl : List (Nat × Int)} {s t : Nat → Bool} (X : Nat) : ∀ j, (∀ k, j ≤ k → k < j + cl.length → s k = t k) → hang s X cl j = hang t X cl j := by
  induction cl with
  | nil => intro j _; rfl
  | cons c cl ih =>
    intro j h
    simp only [hang]
    rw [h j (Nat.le_refl _) (by simp), ih (j + 1) (fun k h1 h2 => h k (by omega) (by simp only [List.length_cons]; omega))]
theorem hang_none (cl : List (Nat × Int)) (X : Nat) : ∀ j, hang (fun _ => false) X cl j = 0 := by
  induction cl with
  | nil => intro j; rfl
  | cons c cl ih => intro j; simp [hang, ih]
theorem pow_sub {n X : Nat} : X ≤ 2 ^ n - 1 ↔ X < 2 ^ n := by have := Nat.two_pow_pos n; omega
theorem cap_le {p : List Int} {cl : List (Nat × Int)} {s : Nat → Bool} {X : Nat} (h : X < 2 ^ p.length) : cap p cl s ≤ Val p cl s X := least_le _ _ _ (pow_sub.2 h)
theorem cap_mem (p : List Int) (cl : List (Nat × Int)) (s : Nat → Bool) : ∃ X, X < 2 ^ p.length ∧ cap p cl s = Val p cl s X := by
  obtain ⟨X, h, e⟩ := least_mem (Val p cl s) (2 ^ p.length - 1)
  exact ⟨X, pow_sub.1 h, e⟩
theorem cap_submod (p : List Int) {cl : List (Nat × Int)} (h : PosC cl) (s t : Nat → Bool) : cap p cl (fun j => s j && t j) + cap p cl (fun j => s j || t j) ≤ cap p cl s + cap p cl t := by
  obtain ⟨X, hX, eX⟩ := cap_mem p cl s
  obtain ⟨Y, hY, eY⟩ := cap_mem p cl t
  have h1 : cap p cl (fun j => s j && t j) ≤ Val p cl (fun j => s j && t j) (X &&& Y) := cap_le (Nat.and_lt_two_pow _ hY)
  have h2 : cap p cl (fun j => s j || t j) ≤ Val p cl (fun j => s j || t j) (X ||| Y) := cap_le (Nat.or_lt_two_pow hX hY)
  have h3 := cutQ_modular p X Y 0
  have h4 := hang_submod h s t X Y 0
  rw [eX, eY]
  unfold Val at *
  omega
theorem cap_mono (p : List Int) {cl : List (Nat × Int)} (h : PosC cl) {s t : Nat → Bool} (hs : ∀ j, s j = true → t j = true) : cap p cl s ≤ cap p cl t := by
  obtain ⟨Y, hY, eY⟩ := cap_mem p cl t
  have h1 : cap p cl s ≤ Val p cl s Y := cap_le hY
  have h2 := hang_mono h hs Y 0
  rw [eY]
  unfold Val at *
  omega
theorem cap_none {p : List Int} (hp : Pos p) (cl : List (Nat × Int)) : cap p cl (fun _ => false) = 0 := by
  obtain ⟨Y, hY, eY⟩ := cap_mem p cl (fun _ => false)
  have h0 : cap p cl (fun _ => false) ≤ Val p cl (fun _ => false) 0 := cap_le (Nat.two_pow_pos _)
  have h1 := cutQ_nonneg hp Y 0
  unfold Val at *
  rw [hang_none] at *
  rw [cutQ_zero] at h0
  omega
theorem cap_congr (p : List Int) {cl : List (Nat × Int)} {s t : Nat → Bool} (h : ∀ k, k < cl.length → s k = t k) : cap p cl s = cap p cl t := by
  have : Val p cl s = Val p cl t := by
    funext X
    unfold Val
    rw [hang_congr X 0 (fun k _ h2 => h k (by omega))]
  unfold cap
  rw [this]
def first (n : Nat) (j : Nat) : Bool := decide (j < n)
def totl (p : List Int) (cl : List (Nat × Int)) (c : Nat) : Int := cap p cl (first (c + 1)) - cap p cl (first c)
theorem totl_nonneg (p : List Int) {cl : List (Nat × Int)} (h : PosC cl) (c : Nat) : 0 ≤ totl p cl c := by
  have := cap_mono p h (s := first c) (t := first (c + 1)) (fun j hj => by unfold first at *; simp only [decide_eq_true_eq] at *; omega)
  unfold totl
  omega
def sumT (p : List Int) (cl : List (Nat × Int)) (s : Nat → Bool) : Nat → Int
  | 0 => 0
  | n + 1 => sumT p cl s n + (if s n then totl p cl n else 0)
theorem sumT_le (p : List Int) {cl : List (Nat × Int)} (hp : Pos p) (h : PosC cl) (s : Nat → Bool) : ∀ n, sumT p cl s n ≤ cap p cl (fun j => s j && first n j) := by
  intro n
  induction n with
  | zero =>
    have e : (fun j => s j && first 0 j) = fun _ => false := by funext j; simp [first]
    rw [e, cap_none hp]; exact Int.le_refl _
  | succ n ih =>
    simp only [sumT]
    cases hn : s n
    · have e : (fun j => s j && first (n + 1) j) = (fun j => s j && first n j) := by
        funext j
        by_cases hj : j = n
        · rw [hj, hn]; rfl
        · congr 1
          unfold first
          exact decide_eq_decide.2 (by omega)
      rw [e]
      simp only [if_neg Bool.false_ne_true]
      omega
    · have h1 := cap_submod p h (fun j => s j && first (n + 1) j) (first n)
      have e1 : (fun j => (s j && first (n + 1) j) && first n j) = (fun j => s j && first n j) := by
        funext j
        unfold first
        by_cases hj : j < n
        · rw [decide_eq_true hj, decide_eq_true (show j < n + 1 by omega)]; cases s j <;> rfl
        · rw [decide_eq_false hj]; cases s j <;> simp
      have e2 : (fun j => (s j && first (n + 1) j) || first n j) = first (n + 1) := by
        funext j
        unfold first
        by_cases hj : j < n
        · rw [decide_eq_true hj, decide_eq_true (show j < n + 1 by omega)]; cases s j <;> rfl
        · rw [decide_eq_false hj]
          by_cases hj2 : j = n
          · subst hj2; rw [hn]; simp
          · rw [decide_eq_false (show ¬ j < n + 1 by omega)]; cases s j <;> rfl
      rw [e1, e2] at h1
      simp only [if_true]
      unfold totl
      omega
theorem sumT_all {p : List Int} (hp : Pos p) (cl : List (Nat × Int)) : ∀ n, sumT p cl (fun _ => true) n = cap p cl (first n) := by
  intro n
  induction n with
  | zero =>
    have e : first 0 = fun _ => false := by funext j; simp [first]
    rw [e, cap_none hp]; rfl
  | succ n ih =>
    simp only [sumT, ih, totl, if_true]
    omega
end Go.Proofs.YtppimdempdnhoaaDoor.C
namespace Go.Proofs.YtppimdempdnhoaaDoor.C
open Go.RowKit Go.PrWords
theorem w64 {x : Int} (h0 : -9223372036854775808 ≤ x) (h1 : x < 9223372036854775808) : wrap64 x = x := by unfold wrap64; omega
theorem wu64 {x : Int} (h0 : 0 ≤ x) (h1 : x < 18446744073709551616) : IntKind.u64.wrap x = x := by
 simp only [IntKind.wrap, IntKind.bits, IntKind.signed]; simp; omega
theorem wraps_u32 (n : Int) (h₀ : 0 ≤ n) (h₁ : n < 2 ^ 32) : IntKind.u32.wrap n = n := by rw [IntKind.wrap_u32]; omega
theorem wraps_u64 (n : Int) (h₀ : 0 ≤ n) (h₁ : n < 2 ^ 64) : IntKind.u64.wrap n = n := wu64 h₀ (by omega)
theorem or32 (i : Nat) {x y : Int} (hx₀ : 0 ≤ x) (hx : x % 2 ^ i = 0) (hx₁ : x < 4294967296) (hy₀ : 0 ≤ y) (hy : y < 2 ^ i) (hi : i ≤ 32) : bits .or .u32 x y = x + y := by
 have : (2 : Int) ^ i ≤ 2 ^ 32 := by
  have h := Nat.pow_le_pow_right (n := 2) (by decide) hi
  exact_mod_cast h
 exact bits_join .u32 32 (by decide) wraps_u32 i x y hx₀ hx (by omega) hy₀ hy (by omega)
theorem or64 (i : Nat) {x y : Int} (hx₀ : 0 ≤ x) (hx : x % 2 ^ i = 0) (hx₁ : x < 18446744073709551616) (hy₀ : 0 ≤ y) (hy : y < 2 ^ i) (hi : i ≤ 64) : bits .or .u64 x y = x + y := by
 have : (2 : Int) ^ i ≤ 2 ^ 64 := by
  have h := Nat.pow_le_pow_right (n := 2) (by decide) hi
  exact_mod_cast h
 exact bits_join .u64 64 (by decide) wraps_u64 i x y hx₀ hx (by omega) hy₀ hy (by omega)
theorem bits_or_comm (k : IntKind) (x y : Int) : bits .or k x y = bits .or k y x := by
 simp only [bits]; rw [BitVec.or_comm]
def BB (n : Nat) : Int := 4294967296 ^ n
theorem BB_zero : BB 0 = 1 := rfl
theorem BB_succ (n : Nat) : BB (n + 1) = 4294967296 * BB n := by unfold BB; rw [Int.pow_succ, Int.mul_comm]
theorem BB_pos (n : Nat) : 0 < BB n := by unfold BB; exact Int.pow_pos (by decide)
theorem BB_add (m n : Nat) : BB (m + n) = BB m * BB n := by unfold BB; exact Int.pow_add ..
theorem BB_le {m n : Nat} (h : m ≤ n) : BB m ≤ BB n := by
 obtain ⟨d, rfl⟩ := Nat.exists_eq_add_of_le h
 rw [BB_add]
 have h1 := BB_pos m
 have h2 := BB_pos d
 have : BB m * 1 ≤ BB m * BB d := Int.mul_le_mul_of_nonneg_left (by omega) (by omega)
 omega
def lv : List Int → Int
 | [] => 0
 | x :: xs => x + 4294967296 * lv xs
def Lim (xs : List Int) : Prop := ∀ x ∈ xs, 0 ≤ x ∧ x < 4294967296
theorem Lim.nil : Lim [] := fun _ h => by cases h
theorem Lim.cons {x : Int} {xs : List Int} : Lim (x :: xs) ↔ (0 ≤ x ∧ x < 4294967296) ∧ Lim xs := by simp [Lim]
theorem Lim.take {xs : List Int} (h : Lim xs) (n : Nat) : Lim (xs.take n) := fun x hx => h x (List.mem_of_mem_take hx)
theorem Lim.drop {xs : List Int} (h : Lim xs) (n : Nat) : Lim (xs.drop n) := fun x hx => h x (List.mem_of_mem_drop hx)
theorem Lim.set {xs : List Int} (h : Lim xs) (i : Nat) {v : Int} (h0 : 0 ≤ v) (h1 : v < 4294967296) : Lim (xs.set i v) := fun x hx => by
 rcases List.mem_or_eq_of_mem_set hx with hx | rfl
 ·exact h x hx
 ·exact ⟨h0, h1⟩
theorem Lim.zeros (n : Nat) : Lim (List.replicate n 0) := fun x hx => by
 rw [List.eq_of_mem_replicate hx]; decide
theorem rd_nat (xs : List Int) (i : Nat) : rd xs (i : Int) = xs.getD i 0 := by simp [rd]
theorem Lim.at_ {xs : List Int} (h : Lim xs) (i : Int) : 0 ≤ rd xs i ∧ rd xs i < 4294967296 := by
 unfold rd
 rw [List.getD_eq_getElem?_getD]
 by_cases hi : i.toNat < xs.length
 ·rw [List.getElem?_eq_getElem hi]; exact h _ (List.getElem_mem hi)
 ·rw [List.getElem?_eq_none (by omega)]; decide
theorem lv_nonneg {xs : List Int} (h : Lim xs) : 0 ≤ lv xs := by
 induction xs with
 | nil => decide
 | cons x xs ih => have := Lim.cons.1 h; have := ih this.2; simp only [lv]; omega
theorem lv_lt {xs : List Int} (h : Lim xs) : lv xs < BB xs.length := by
 induction xs with
 | nil => decide
 | cons x xs ih => have := Lim.cons.1 h; have := ih this.2; simp only [lv, List.length_cons, BB_succ]; omega
theorem lv_append (xs ys : List Int) : lv (xs ++ ys) = lv xs + BB xs.length * lv ys := by
 induction xs with
 | nil => simp [lv, BB_zero]
 | cons x xs ih =>
  simp only [List.cons_append, lv, ih, List.length_cons, BB_succ, Int.mul_add, Int.mul_assoc]; omega
theorem lv_zeros (n : Nat) : lv (List.replicate n 0) = 0 := by
 induction n with
 | zero => rfl
 | succ n ih => simp only [List.replicate_succ, lv, ih]; rfl
theorem lv_set (xs : List Int) (i : Nat) (v : Int) (h : i < xs.length) : lv (xs.set i v) = lv xs + (v - xs.getD i 0) * BB i := by
 induction xs generalizing i with
 | nil => simp at h
 | cons x xs ih =>
  cases i with
  | zero => simp [lv, BB_zero]; omega
  | succ i =>
   have h' : i < xs.length := by simpa using h
   have := ih i h'
   simp only [List.set_cons_succ, lv, this, BB_succ, List.getD_cons_succ]
   rw [Int.mul_add]
   have : 4294967296 * ((v - xs.getD i 0) * BB i) = (v - xs.getD i 0) * (4294967296 * BB i) := by
    rw [← Int.mul_assoc, Int.mul_comm 4294967296, Int.mul_assoc]
   omega
theorem lv_take_succ (xs : List Int) (i : Nat) (h : i < xs.length) : lv (xs.take (i + 1)) = lv (xs.take i) + xs.getD i 0 * BB i := by
 induction xs generalizing i with
 | nil => simp at h
 | cons x xs ih =>
  cases i with
  | zero => simp [lv, BB_zero]
  | succ i =>
   have h' : i < xs.length := by simpa using h
   have := ih i h'
   simp only [List.take_succ_cons, lv, this, BB_succ, List.getD_cons_succ, Int.mul_add]
   have : 4294967296 * (xs.getD i 0 * BB i) = xs.getD i 0 * (4294967296 * BB i) := by
    rw [← Int.mul_assoc, Int.mul_comm 4294967296, Int.mul_assoc]
   omega
theorem lv_split (xs : List Int) (i : Nat) (h : i ≤ xs.length) : lv xs = lv (xs.take i) + BB i * lv (xs.drop i) := by
 have h1 := lv_append (xs.take i) (xs.drop i)
 rw [List.take_append_drop] at h1
 rw [h1, List.length_take, Nat.min_eq_left h]
theorem lv_drop_cons (xs : List Int) (i : Nat) (h : i < xs.length) : lv (xs.drop i) = xs.getD i 0 + 4294967296 * lv (xs.drop (i + 1)) := by
 rw [List.drop_eq_getElem_cons h]; simp only [lv]
 rw [List.getD_eq_getElem?_getD, List.getElem?_eq_getElem h]; rfl
theorem lv_limb {xs : List Int} (h : Lim xs) (i : Nat) (hi : i < xs.length) : xs.getD i 0 = lv xs / BB i % 4294967296 := by
 have h1 := lv_split xs i (by omega)
 have h2 := lv_drop_cons xs i hi
 have h3 := lv_nonneg (h.take i)
 have h4 := lv_lt (h.take i)
 rw [List.length_take, Nat.min_eq_left (by omega)] at h4
 have hp := BB_pos i
 have hl := h.at_ (i : Int)
 rw [rd_nat] at hl
 have : lv xs / BB i = lv (xs.drop i) := by
  rw [h1]
  rw [Int.add_mul_ediv_left _ _ (by omega), Int.ediv_eq_zero_of_lt h3 h4]
  omega
 rw [this, h2]
 omega
def Trim (xs : List Int) : Prop := xs = [] ∨ xs.getD (xs.length - 1) 0 ≠ 0
theorem trim_pos {xs : List Int} (h : Lim xs) (ht : Trim xs) (hp : 0 < xs.length) : BB (xs.length - 1) ≤ lv xs := by
 rcases ht with rfl | ht
 ·simp at hp
 ·have h1 := lv_split xs (xs.length - 1) (by omega)
  have h2 := lv_drop_cons xs (xs.length - 1) (by omega)
  rw [Nat.sub_add_cancel hp, List.drop_length] at h2
  simp only [lv] at h2
  have h3 := lv_nonneg (h.take (xs.length - 1))
  have h4 := h.at_ ((xs.length - 1 : Nat) : Int)
  rw [rd_nat] at h4
  have h5 := BB_pos (xs.length - 1)
  have : BB (xs.length - 1) * 1 ≤ BB (xs.length - 1) * xs.getD (xs.length - 1) 0 := Int.mul_le_mul_of_nonneg_left (by omega) (by omega)
  rw [h1, h2]
  have e : xs.getD (xs.length - 1) 0 + 4294967296 * 0 = xs.getD (xs.length - 1) 0 := by omega
  rw [e]
  omega
theorem trim_len_le {xs ys : List Int} (hx : Lim xs) (hy : Lim ys) (tx : Trim xs) (h : lv xs ≤ lv ys) : xs.length ≤ ys.length := by
 by_cases h1 : xs.length ≤ ys.length
 ·exact h1
 ·have h2 := trim_pos hx tx (by omega)
  have h3 := lv_lt hy
  have h4 : BB ys.length ≤ BB (xs.length - 1) := BB_le (by omega)
  omega
theorem lv_inj {xs ys : List Int} (hx : Lim xs) (hy : Lim ys) (hl : xs.length = ys.length) (h : lv xs = lv ys) : xs = ys := by
 induction xs generalizing ys with
 | nil => cases ys with
  | nil => rfl
  | cons _ _ => simp at hl
 | cons x xs ih => cases ys with
  | nil => simp at hl
  | cons y ys =>
   have a := Lim.cons.1 hx
   have b := Lim.cons.1 hy
   simp only [lv] at h
   have e : x = y := by omega
   subst e
   rw [ih a.2 b.2 (by simpa using hl) (by omega)]
theorem lv_inj_trim {xs ys : List Int} (hx : Lim xs) (hy : Lim ys) (tx : Trim xs) (ty : Trim ys) (h : lv xs = lv ys) : xs = ys :=
 lv_inj hx hy (Nat.le_antisymm (trim_len_le hx hy tx (by omega)) (trim_len_le hy hx ty (by omega))) h
end Go.Proofs.YtppimdempdnhoaaDoor.C
namespace Go.Proofs.YtppimdempdnhoaaDoor.C
open Go.RowKit Go.PrWords
def lb : List UInt8 → Nat
 | [] => 0
 | x :: xs => x.toNat + 256 * lb xs
def nat (s : ByteArray) : Nat := lb s.data.toList.reverse
def dig (n : Nat) : List UInt8 := if h : n = 0 then [] else UInt8.ofNat (n % 256) :: dig (n / 256)
termination_by n
decreasing_by omega
def enc (n : Nat) : ByteArray := ⟨(dig n).reverse.toArray⟩
theorem dig_zero : dig 0 = [] := by unfold dig; simp
theorem dig_pos {n : Nat} (h : n ≠ 0) : dig n = UInt8.ofNat (n % 256) :: dig (n / 256) := by
 rw [dig.eq_def, dif_neg h]
theorem lb_append (xs ys : List UInt8) : lb (xs ++ ys) = lb xs + 256 ^ xs.length * lb ys := by
 induction xs with
 | nil => simp [lb]
 | cons x xs ih =>
  simp only [List.cons_append, lb, ih, List.length_cons, Nat.pow_succ, Nat.mul_add]
  rw [Nat.mul_comm (256 ^ xs.length) 256, Nat.mul_assoc]; omega
theorem lb_lt (xs : List UInt8) : lb xs < 256 ^ xs.length := by
 induction xs with
 | nil => decide
 | cons x xs ih => have := x.toNat_lt; simp only [lb, List.length_cons, Nat.pow_succ]; omega
theorem lb_dig (n : Nat) : lb (dig n) = n := by
 induction n using Nat.strongRecOn with
 | ind n ih =>
  by_cases h : n = 0
  ·subst h; rw [dig_zero]; rfl
  ·rw [dig_pos h]
   simp only [lb]
   rw [ih (n / 256) (by omega)]
   have : (UInt8.ofNat (n % 256)).toNat = n % 256 := by simp
   omega
theorem nat_enc (n : Nat) : nat (enc n) = n := by simp [nat, enc, lb_dig]
def Top (xs : List UInt8) : Prop := ∀ x, xs.getLast? = some x → x ≠ 0
theorem dig_lb {xs : List UInt8} (h : Top xs) : dig (lb xs) = xs := by
 induction xs with
 | nil => exact dig_zero
 | cons x xs ih =>
  have ht : Top xs := fun y hy => h y (by
   cases xs with
   | nil => simp at hy
   | cons z zs => simpa using hy)
  have hn : lb (x :: xs) ≠ 0 := by
   cases xs with
   | nil =>
    have := h x (by simp)
    simp only [lb]
    intro h0
    exact this (by apply UInt8.toNat_inj.1; simp; omega)
   | cons z zs =>
    have h1 := ih ht
    intro h0
    simp only [lb] at h0 h1
    have : z.toNat + 256 * lb zs = 0 := by omega
    rw [this, dig_zero] at h1
    cases h1
  rw [dig_pos hn]
  have hx := x.toNat_lt
  simp only [lb]
  rw [show (x.toNat + 256 * lb xs) / 256 = lb xs by omega, ih ht, show (x.toNat + 256 * lb xs) % 256 = x.toNat by omega]
  simp
def Nrm (s : ByteArray) : Prop := enc (nat s) = s
theorem ba_ext {s t : ByteArray} (h : s.data.toList = t.data.toList) : s = t := by
 obtain ⟨⟨a⟩⟩ := s; obtain ⟨⟨b⟩⟩ := t; simpa using h
theorem nrm_of {s : ByteArray} (h : ∀ x, s.data.toList.head? = some x → x ≠ 0) : Nrm s := by
 unfold Nrm
 apply ba_ext
 unfold enc nat
 rw [dig_lb (fun x hx => h x (by rw [List.getLast?_reverse] at hx; exact hx))]
 simp
theorem size_eq (s : ByteArray) : s.size = s.data.toList.length := by rw [Array.length_toList]; rfl
theorem enc_zero : enc 0 = ⟨#[]⟩ := by unfold enc; rw [dig_zero]; rfl
theorem enc_size (n : Nat) : (enc n).size = (dig n).length := by rw [size_eq]; simp [enc]
theorem enc_lt (n : Nat) : n < 256 ^ (enc n).size := by
 have := lb_lt (dig n)
 rw [lb_dig] at this
 rwa [enc_size]
theorem dig_len {n m : Nat} (h : n < 256 ^ m) : (dig n).length ≤ m := by
 induction m generalizing n with
 | zero =>
  have : n = 0 := by simpa using h
  subst this; rw [dig_zero]; simp
 | succ m ih =>
  by_cases h0 : n = 0
  ·subst h0; rw [dig_zero]; simp
  ·rw [dig_pos h0]
   have := @ih (n / 256) (by rw [Nat.pow_succ] at h; omega)
   simp only [List.length_cons]; omega
theorem enc_size_le {n m : Nat} (h : n < 256 ^ m) : (enc n).size ≤ m := by rw [enc_size]; exact dig_len h
theorem nat_lt (s : ByteArray) : nat s < 256 ^ s.size := by
 have := lb_lt s.data.toList.reverse
 rw [List.length_reverse, ← size_eq] at this
 exact this
theorem enc_nat_size_le (s : ByteArray) : (enc (nat s)).size ≤ s.size := enc_size_le (nat_lt s)
theorem enc_size_mono {m n : Nat} (h : m ≤ n) : (enc m).size ≤ (enc n).size := enc_size_le (Nat.lt_of_le_of_lt h (enc_lt n))
theorem extract_one {x : UInt8} {t : List UInt8} : (ByteArray.mk (x :: t).toArray).extract 1 (ByteArray.mk (x :: t).toArray).size = ⟨t.toArray⟩ := by
 apply ba_ext
 rw [Lib.extract_data]
 simp [size_eq]
theorem trimLeft_ev (l : List UInt8) : Ev (fun k => st_trimLeftByte.l0 k ⟨l.toArray⟩ 0) (enc (lb l.reverse)) := by
 induction l with
 | nil => exact Ev.step (f := fun _ => some (enc 0)) (fun k => by
   simp only [st_trimLeftByte.l0]
   rw [if_neg (by rw [size_eq]; simp), enc_zero]) (Ev.now _)
 | cons x t ih =>
  have hs : ((ByteArray.mk (x :: t).toArray).size : Int) > 0 := by rw [size_eq]; simp
  have hb : bt ⟨(x :: t).toArray⟩ 0 = x.toNat := by
   unfold bt
   rw [dif_pos (by rw [size_eq]; simp)]
   rfl
  by_cases hx : x = 0
  ·subst hx
   have e : lb (0 :: t).reverse = lb t.reverse := by
    rw [List.reverse_cons, lb_append]; simp [lb]
   rw [e]
   refine Ev.step (f := fun k => st_trimLeftByte.l0 k ⟨t.toArray⟩ 0) (fun k => ?_) ih
   simp only [st_trimLeftByte.l0]
   rw [if_pos hs, if_pos (by omega), hb, if_pos (by rfl), if_pos (by omega), extract_one]
  ·have hn : Nrm ⟨(x :: t).toArray⟩ := nrm_of (fun y hy => by simp at hy; subst hy; exact hx)
   refine Ev.step (f := fun _ => some (enc (lb (x :: t).reverse))) (fun k => ?_) (Ev.now _)
   simp only [st_trimLeftByte.l0]
   rw [if_pos hs, if_pos (by omega), hb, if_neg (fun h0 => hx (by apply UInt8.toNat_inj.1; simp; omega))]
   exact congrArg some hn.symm
theorem normalize_ev (s : ByteArray) : Ev (fun k => n_Normalize.f k s) (enc (nat s)) := by
 by_cases h : s.toList = []
 ·refine ⟨0, fun k _ => ?_⟩
  show n_Normalize.f k s = _
  unfold n_Normalize.f st_TrimLeft.f
  rw [if_pos (by rw [Lib.toList_data]), if_pos h]
  simp only [Option.bind_some]
  rw [Lib.toList_data] at h
  have : s = ⟨#[]⟩ := ba_ext h
  subst this
  rw [show nat ⟨#[]⟩ = 0 from rfl, enc_zero]
 ·refine Ev.congr (fun k => ?_) (trimLeft_ev s.data.toList)
  unfold n_Normalize.f st_TrimLeft.f st_trimLeftByte.f
  rw [if_pos (by rw [Lib.toList_data]), if_neg h]
  simp
theorem bt_nat (s : ByteArray) (i : Nat) (h : i < s.data.toList.length) : bt s (i : Int) = ((s.data.toList[i]'h).toNat : Int) := by
 unfold bt
 simp only [Int.toNat_natCast]
 rw [dif_pos (by rw [size_eq]; exact h)]
 rfl
end Go.Proofs.YtppimdempdnhoaaDoor.C
namespace Go.Proofs.YtppimdempdnhoaaDoor.C
open Go.RowKit Go.PrWords Go.PrLast Go.PrMore
def lim (n : Nat) : List Int := if h : n = 0 then [] else ((n % 4294967296 : Nat) : Int) :: lim (n / 4294967296)
termination_by n
decreasing_by omega
theorem lim_zero : lim 0 = [] := by rw [lim.eq_def]; simp
theorem lim_pos {n : Nat} (h : n ≠ 0) : lim n = ((n % 4294967296 : Nat) : Int) :: lim (n / 4294967296) := by rw [lim.eq_def, dif_neg h]
theorem lv_lim (n : Nat) : lv (lim n) = n := by
 induction n using Nat.strongRecOn with
 | ind n ih =>
  by_cases h : n = 0
  ·subst h; rw [lim_zero]; rfl
  ·rw [lim_pos h]; simp only [lv]; rw [ih (n / 4294967296) (by omega)]; omega
theorem Lim_lim (n : Nat) : Lim (lim n) := by
 induction n using Nat.strongRecOn with
 | ind n ih =>
  by_cases h : n = 0
  ·subst h; rw [lim_zero]; exact Lim.nil
  ·rw [lim_pos h]; exact Lim.cons.2 ⟨by omega, ih _ (by omega)⟩
theorem Trim_lim (n : Nat) : Trim (lim n) := by
 induction n using Nat.strongRecOn with
 | ind n ih =>
  by_cases h : n = 0
  ·subst h; rw [lim_zero]; exact .inl rfl
  ·rw [lim_pos h]
   by_cases h2 : n / 4294967296 = 0
   ·rw [h2, lim_zero]
    right
    simp
    omega
   ·have h3 := ih (n / 4294967296) (by omega)
    rcases h3 with h3 | h3
    ·have := lv_lim (n / 4294967296)
     rw [h3] at this
     simp [lv] at this
     omega
    ·right
     have hl : 0 < (lim (n / 4294967296)).length := by
      rcases Nat.eq_zero_or_pos (lim (n / 4294967296)).length with h4 | h4
      ·rw [List.eq_nil_of_length_eq_zero h4] at h3
       simp at h3
      ·exact h4
     rw [List.length_cons, Nat.add_sub_cancel]
     obtain ⟨m, hm⟩ : ∃ m, (lim (n / 4294967296)).length = m + 1 := ⟨_, (Nat.succ_pred_eq_of_pos hl).symm⟩
     rw [hm] at h3 ⊢
     simpa using h3
theorem lim_of {xs : List Int} (h : Lim xs) (t : Trim xs) : lim (lv xs).toNat = xs := by
 refine lv_inj_trim (Lim_lim _) h (Trim_lim _) t ?_
 rw [lv_lim]
 have := lv_nonneg h
 omega
theorem lim_len {n m : Nat} (h : (n : Int) < BB m) : (lim n).length ≤ m := by
 by_cases h1 : (lim n).length ≤ m
 ·exact h1
 ·have h2 := trim_pos (Lim_lim n) (Trim_lim n) (by omega)
  rw [lv_lim] at h2
  have h3 := BB_le (m := m) (n := (lim n).length - 1) (by omega)
  omega
theorem lim_ne {n : Nat} : (lim n).length = 0 ↔ n = 0 := by
 constructor
 ·intro h
  have := lv_lim n
  rw [List.eq_nil_of_length_eq_zero h] at this
  simp [lv] at this
  omega
 ·intro h; subst h; rw [lim_zero]; rfl
theorem trim_ev (xs : List Int) (h : Lim xs) (hs : xs.length < 9223372036854775807) : ∀ n : Nat, n ≤ xs.length → lv (xs.take n) = lv xs → Ev (fun k => n_limbs_trim.l0 k xs (n : Int)) (lim (lv xs).toNat) := by
 intro n
 induction n with
 | zero =>
  intro hn hz
  refine Ev.step (f := fun _ => some (xs.take 0)) (fun k => ?_) ?_
  ·simp only [n_limbs_trim.l0]
   rw [if_neg (by omega), if_pos (by omega), if_pos (by omega)]
   rfl
  ·rw [← hz]; simp only [List.take_zero, lv]; rw [show (0 : Int).toNat = 0 from rfl, lim_zero]; exact Ev.now _
 | succ n ih =>
  intro hn hz
  have ht := lv_take_succ xs n (by omega)
  by_cases hx : xs.getD n 0 = 0
  ·refine Ev.step (f := fun k => n_limbs_trim.l0 k xs (n : Int)) (fun k => ?_) (ih (by omega) (by rw [← hz, ht, hx]; omega))
   simp only [n_limbs_trim.l0]
   rw [if_pos (by omega), w64 (by omega) (by omega), if_pos (by omega), if_pos (by omega), show ((n + 1 : Nat) : Int) - 1 = (n : Int) by omega, rd_nat, if_pos hx]
  ·refine Ev.step (f := fun _ => some (xs.take (n + 1))) (fun k => ?_) ?_
   ·simp only [n_limbs_trim.l0]
    rw [if_pos (by omega), w64 (by omega) (by omega), if_pos (by omega), if_pos (by omega), show ((n + 1 : Nat) : Int) - 1 = (n : Int) by omega, rd_nat, if_neg hx, if_pos (by omega), if_pos (by omega)]
    rfl
   ·rw [← hz, lim_of (h.take _)]
    ·exact Ev.now _
    ·right
     rw [List.length_take, Nat.min_eq_left hn, Nat.add_sub_cancel]
     simpa [List.getD_eq_getElem?_getD, List.getElem?_take] using hx
theorem trim_all (xs : List Int) (h : Lim xs) (hs : xs.length < 9223372036854775807) : Ev (fun k => n_limbs_trim.f k xs) (lim (lv xs).toNat) :=
 trim_ev xs h hs xs.length (Nat.le_refl _) (by rw [List.take_length])
end Go.Proofs.YtppimdempdnhoaaDoor.C
namespace Go.Proofs.YtppimdempdnhoaaDoor.C
open Go.RowKit Go.PrWords Go.PrLast Go.PrMore
theorem pow256 (i : Nat) : ((256 ^ i : Nat) : Int) = BB (i / 4) * 2 ^ (8 * (i % 4)) := by
 have h : i = 4 * (i / 4) + i % 4 := by omega
 have e : (256 : Nat) ^ i = (4294967296 : Nat) ^ (i / 4) * 2 ^ (8 * (i % 4)) := by
  conv => lhs; rw [h]
  rw [Nat.pow_add, Nat.pow_mul, Nat.pow_mul]
 rw [e, Int.natCast_mul, Int.natCast_pow, Int.natCast_pow]
 rfl
theorem lb_take_succ (xs : List UInt8) (i : Nat) (h : i < xs.length) : lb (xs.take (i + 1)) = lb (xs.take i) + (xs[i]'h).toNat * 256 ^ i := by
 rw [List.take_succ_eq_append_getElem h, lb_append, List.length_take, Nat.min_eq_left (by omega)]
 simp only [lb, Nat.mul_zero, Nat.add_zero]
 rw [Nat.mul_comm (256 ^ i)]
def pstep (s : ByteArray) (x : List Int) (i : Nat) : List Int := x.set (i / 4) (Go.bits .or .u32 (rd x ((i / 4 : Nat) : Int)) (shl .u32 ((bt s ((s.size - 1 - i : Nat) : Int)) % 4294967296) ((8 * (i % 4) : Nat) : Int)))
theorem parse_round (s : ByteArray) (x : List Int) (i : Nat) (hx : Lim x) (hi : i < s.size) (hl : i / 4 < x.length) (hv : lv x = (lb (s.data.toList.reverse.take i) : Int)) :
  Lim (pstep s x i) ∧ lv (pstep s x i) = (lb (s.data.toList.reverse.take (i + 1)) : Int) := by
 have hr : i < s.data.toList.reverse.length := by rw [List.length_reverse, ← size_eq]; exact hi
 have hb : bt s ((s.size - 1 - i : Nat) : Int) = ((s.data.toList.reverse[i]'hr).toNat : Int) := by
  rw [bt_nat s _ (by rw [← size_eq]; omega), List.getElem_reverse]
  congr 2
 have hb2 := (s.data.toList.reverse[i]'hr).toNat_lt
 have he : 8 * (i % 4) ≤ 24 := by omega
 have hp : (2 : Int) ^ (8 * (i % 4)) ≤ 2 ^ 24 := by
  have h := Nat.pow_le_pow_right (n := 2) (by decide) he
  exact_mod_cast h
 have hp0 : (0 : Int) < 2 ^ (8 * (i % 4)) := Int.pow_pos (by decide)
 have hmul : ((s.data.toList.reverse[i]'hr).toNat : Int) * 2 ^ (8 * (i % 4)) ≤ 255 * 2 ^ 24 := Int.mul_le_mul (by omega) hp (by omega) (by omega)
 have hmul0 : 0 ≤ ((s.data.toList.reverse[i]'hr).toNat : Int) * 2 ^ (8 * (i % 4)) := Int.mul_nonneg (by omega) (by omega)
 have hsh : shl .u32 ((bt s ((s.size - 1 - i : Nat) : Int)) % 4294967296) ((8 * (i % 4) : Nat) : Int) = ((s.data.toList.reverse[i]'hr).toNat : Int) * 2 ^ (8 * (i % 4)) := by
  unfold shl
  rw [hb, Int.emod_eq_of_lt (by omega) (by omega), Int.toNat_natCast, Nat.min_eq_left (by simp [IntKind.bits]; omega)]
  exact wraps_u32 _ hmul0 (by omega)
 have hlt := lb_lt (s.data.toList.reverse.take i)
 rw [List.length_take, Nat.min_eq_left (by omega)] at hlt
 have hlt2 : lv x < BB (i / 4) * 2 ^ (8 * (i % 4)) := by rw [hv, ← pow256]; exact_mod_cast hlt
 have hlimb := lv_limb hx (i / 4) hl
 have hq : lv x / BB (i / 4) < 2 ^ (8 * (i % 4)) := Int.ediv_lt_of_lt_mul (BB_pos _) (by rw [Int.mul_comm]; exact hlt2)
 have hq0 : 0 ≤ lv x / BB (i / 4) := Int.ediv_nonneg (lv_nonneg hx) (by have := BB_pos (i / 4); omega)
 have hold : x.getD (i / 4) 0 < 2 ^ (8 * (i % 4)) := by
  rw [hlimb, Int.emod_eq_of_lt hq0 (by omega)]; exact hq
 have hold0 := (hx.at_ ((i / 4 : Nat) : Int)).1
 rw [rd_nat] at hold0
 have hv' : pstep s x i = x.set (i / 4) (x.getD (i / 4) 0 + ((s.data.toList.reverse[i]'hr).toNat : Int) * 2 ^ (8 * (i % 4))) := by
  unfold pstep
  rw [hsh, rd_nat, bits_or_comm, or32 (8 * (i % 4)) hmul0 (Int.mul_emod_left _ _) (by omega) hold0 hold (by omega), Int.add_comm]
 rw [hv']
 constructor
 ·refine hx.set _ (by omega) ?_
  have h2 : ((s.data.toList.reverse[i]'hr).toNat : Int) * 2 ^ (8 * (i % 4)) + 2 ^ (8 * (i % 4)) ≤ 256 * 2 ^ 24 := by
   have h3 : (((s.data.toList.reverse[i]'hr).toNat : Int) + 1) * 2 ^ (8 * (i % 4)) ≤ 256 * 2 ^ 24 := Int.mul_le_mul (by omega) hp (by omega) (by omega)
   rw [Int.add_mul] at h3; omega
  omega
 ·rw [lv_set x _ _ hl, lb_take_succ _ i hr, hv]
  rw [Int.natCast_add, Int.natCast_mul, pow256]
  have e : x.getD (i / 4) 0 + ((s.data.toList.reverse[i]'hr).toNat : Int) * 2 ^ (8 * (i % 4)) - x.getD (i / 4) 0 = ((s.data.toList.reverse[i]'hr).toNat : Int) * 2 ^ (8 * (i % 4)) := by omega
  rw [e, Int.mul_assoc, Int.mul_comm (2 ^ _) (BB _)]
theorem tdiv_nat (i m : Nat) : Int.tdiv (i : Int) (m : Int) = ((i / m : Nat) : Int) := by rw [Int.ofNat_tdiv]
theorem tmod_nat (i m : Nat) : Int.tmod (i : Int) (m : Int) = ((i % m : Nat) : Int) := by rw [Int.ofNat_tmod]
theorem parse_loop (s : ByteArray) (hs : s.size ≤ 1099511627776) (d : Nat) : ∀ (i : Nat) (x : List Int), i ≤ s.size → s.size - i = d → Lim x → x.length = (s.size + 3) / 4 → lv x = (lb (s.data.toList.reverse.take i) : Int) →
  Ev (fun k => n_parse.l0 k s x (s.size : Int) (i : Int)) (lim (nat s)) := by
 induction d with
 | zero =>
  intro i x hi hd hx hl hv
  have e : lv x = (nat s : Int) := by
   rw [hv, List.take_of_length_le (by rw [List.length_reverse, ← size_eq]; omega)]; rfl
  have ht := trim_all x hx (by omega)
  rw [e, Int.toNat_natCast] at ht
  refine Ev.step (f := fun k => (n_limbs_trim.f k x).bind fun t => some t) (fun k => ?_) (Ev.bind ht (Ev.now _))
  simp only [n_parse.l0]
  rw [if_neg (by omega)]
 | succ d ih =>
  intro i x hi hd hx hl hv
  have h1 := parse_round s x i hx (by omega) (by omega) hv
  refine Ev.step (f := fun k => n_parse.l0 k s (pstep s x i) (s.size : Int) ((i + 1 : Nat) : Int)) (fun k => ?_) (ih (i + 1) (pstep s x i) (by omega) (by omega) h1.1 (by unfold pstep; rw [List.length_set]; exact hl) h1.2)
  have c1 : (i : Int) < (s.size : Int) := by omega
  have c2 : (0 : Int) ≤ ((i / 4 : Nat) : Int) := by omega
  have c3 : ((i / 4 : Nat) : Int) < (x.length : Int) := by omega
  have c4 : (0 : Int) ≤ ((s.size - 1 - i : Nat) : Int) := by omega
  have c5 : ((s.size - 1 - i : Nat) : Int) < (s.size : Int) := by omega
  have c6 : (0 : Int) ≤ ((8 * (i % 4) : Nat) : Int) := by omega
  have e4 : wrap64 ((i : Int) + 1) = ((i + 1 : Nat) : Int) := w64 (by omega) (by omega)
  have e2 : wrap64 (wrap64 ((s.size : Int) - 1) - (i : Int)) = ((s.size - 1 - i : Nat) : Int) := by clear e4; rw [w64 (x := (s.size : Int) - 1) (by omega) (by omega), w64 (by omega) (by omega)]; omega
  have e1 : wrap64 (Int.tdiv (i : Int) 4) = ((i / 4 : Nat) : Int) := by clear e2 e4; rw [show (4 : Int) = ((4 : Nat) : Int) from rfl, tdiv_nat]; exact w64 (by omega) (by omega)
  have e3 : wrap64 (8 * Int.tmod (i : Int) 4) = ((8 * (i % 4) : Nat) : Int) := by clear e1 e2 e4; rw [show (4 : Int) = ((4 : Nat) : Int) from rfl, tmod_nat]; rw [w64 (by omega) (by omega)]; omega
  simp only [n_parse.l0]
  rw [e1, e2, e3, e4]
  rw [if_pos c1, if_pos c2, if_pos c3, if_pos c4, if_pos c5, if_pos c6, Int.toNat_natCast]
  rfl
theorem parse_ev (s : ByteArray) (hs : s.size ≤ 1099511627776) : Ev (fun k => n_parse.f k s) (lim (nat s)) := by
 have e1 : wrap64 (Int.tdiv (wrap64 (wrap64 ((s.size : Int) + 4) - 1)) 4) = (((s.size + 3) / 4 : Nat) : Int) := by
  rw [w64 (x := (s.size : Int) + 4) (by omega) (by omega), w64 (x := (s.size : Int) + 4 - 1) (by omega) (by omega), show (s.size : Int) + 4 - 1 = ((s.size + 3 : Nat) : Int) by omega, show (4 : Int) = ((4 : Nat) : Int) from rfl, tdiv_nat]
  exact w64 (by omega) (by omega)
 refine Ev.congr (fun k => ?_) (parse_loop s hs s.size 0 (List.replicate ((s.size + 3) / 4) 0) (by omega) (by omega) (Lim.zeros _) (by simp) (by rw [lv_zeros]; rfl))
 simp only [n_parse.f, e1]
 rw [if_pos (by omega), if_pos (by omega), Int.toNat_natCast]
 rfl
end Go.Proofs.YtppimdempdnhoaaDoor.C
namespace Go.Proofs.YtppimdempdnhoaaDoor.C
open Go.RowKit Go.PrWords Go.PrLast Go.PrMore
def lbi : List Int → Int
 | [] => 0
 | x :: xs => x + 256 * lbi xs
def Byt (xs : List Int) : Prop := ∀ x ∈ xs, 0 ≤ x ∧ x < 256
theorem Byt.cons {x : Int} {xs : List Int} : Byt (x :: xs) ↔ (0 ≤ x ∧ x < 256) ∧ Byt xs := by simp [Byt]
theorem Byt.set {xs : List Int} (h : Byt xs) (i : Nat) {v : Int} (h0 : 0 ≤ v) (h1 : v < 256) : Byt (xs.set i v) := fun x hx => by
 rcases List.mem_or_eq_of_mem_set hx with hx | rfl
 ·exact h x hx
 ·exact ⟨h0, h1⟩
theorem Byt.zeros (n : Nat) : Byt (List.replicate n 0) := fun x hx => by
 rw [List.eq_of_mem_replicate hx]; decide
theorem Byt.reverse {xs : List Int} (h : Byt xs) : Byt xs.reverse := fun x hx => h x (List.mem_reverse.1 hx)
theorem lbi_nonneg {xs : List Int} (h : Byt xs) : 0 ≤ lbi xs := by
 induction xs with
 | nil => decide
 | cons x xs ih => have := Byt.cons.1 h; have := ih this.2; simp only [lbi]; omega
theorem lbi_zeros (n : Nat) : lbi (List.replicate n 0) = 0 := by
 induction n with
 | zero => rfl
 | succ n ih => simp only [List.replicate_succ, lbi, ih]; rfl
theorem lbi_set (xs : List Int) (i : Nat) (v : Int) (h : i < xs.length) : lbi (xs.set i v) = lbi xs + (v - xs.getD i 0) * 256 ^ i := by
 induction xs generalizing i with
 | nil => simp at h
 | cons x xs ih =>
  cases i with
  | zero => simp [lbi]; omega
  | succ i =>
   have h' : i < xs.length := by simpa using h
   have := ih i h'
   simp only [List.set_cons_succ, lbi, this, List.getD_cons_succ, Int.pow_succ]
   rw [Int.mul_add]
   have : 256 * ((v - xs.getD i 0) * 256 ^ i) = (v - xs.getD i 0) * (256 ^ i * 256) := by
    rw [← Int.mul_assoc, Int.mul_comm 256, Int.mul_assoc, Int.mul_comm 256]
   omega
theorem lbi_top {xs : List Int} (h : Byt xs) (i : Nat) (hi : i < xs.length) (hv : lbi xs < 256 ^ i) : xs.getD i 0 = 0 := by
 induction xs generalizing i with
 | nil => simp at hi
 | cons x xs ih =>
  have hc := Byt.cons.1 h
  have hn := lbi_nonneg hc.2
  cases i with
  | zero => simp only [lbi, Int.pow_zero] at hv; simp; omega
  | succ i =>
   simp only [lbi, Int.pow_succ] at hv
   rw [List.getD_cons_succ]
   exact ih hc.2 i (by simpa using hi) (by omega)
theorem nat_strOfNums {ys : List Int} (h : Byt ys) : (nat (strOfNums ys) : Int) = lbi ys.reverse := by
 have key : ∀ zs : List Int, Byt zs → (lb (zs.map fun n => UInt8.ofNat n.toNat) : Int) = lbi zs := by
  intro zs hz
  induction zs with
  | nil => rfl
  | cons z zs ih =>
   have hc := Byt.cons.1 hz
   have h1 := ih hc.2
   simp only [List.map_cons, lb, lbi]
   have : (UInt8.ofNat z.toNat).toNat = z.toNat := by simp; omega
   omega
 rw [← key _ h.reverse]
 unfold nat strOfNums
 rw [List.map_reverse]
theorem byte_of (x : Nat) (r : Nat) (hr : r < 4) : (x % 4294967296) / 2 ^ (8 * r) % 256 = x / 2 ^ (8 * r) % 256 := by
 have : r = 0 ∨ r = 1 ∨ r = 2 ∨ r = 3 := by omega
 rcases this with rfl | rfl | rfl | rfl <;> omega
theorem text_byte {l : List Int} (h : Lim l) (i : Nat) (hi : i / 4 < l.length) :
  (shr .u32 (rd l ((i / 4 : Nat) : Int)) ((8 * (i % 4) : Nat) : Int)) % 256 = (((lv l).toNat / 256 ^ i % 256 : Nat) : Int) := by
 have hl := lv_limb h (i / 4) hi
 have hn := lv_nonneg h
 obtain ⟨n, hnn⟩ := Int.eq_ofNat_of_zero_le hn
 have e : (256 : Nat) ^ i = 4294967296 ^ (i / 4) * 2 ^ (8 * (i % 4)) := by
  conv => lhs; rw [show i = 4 * (i / 4) + i % 4 by omega]
  rw [Nat.pow_add, Nat.pow_mul, Nat.pow_mul]
 unfold shr
 rw [rd_nat, hl, Int.toNat_natCast, Nat.min_eq_left (by simp [IntKind.bits]; omega), hnn, Int.toNat_natCast, e, ← Nat.div_div_eq_div_mul, ← byte_of _ _ (by omega : i % 4 < 4)]
 unfold BB
 simp only [Int.natCast_emod, Int.natCast_ediv, Int.natCast_pow]
 rfl
theorem text_loop (l : List Int) (h : Lim l) (hs : l.length ≤ 1099511627776) (d : Nat) : ∀ (i : Nat) (y : List Int), i ≤ 4 * l.length → 4 * l.length - i = d → Byt y → y.length = 4 * l.length → lbi y.reverse = (((lv l).toNat % 256 ^ i : Nat) : Int) →
  Ev (fun k => n_limbs_text.l0 k l y (y.length : Int) (i : Int)) (enc (lv l).toNat) := by
 induction d with
 | zero =>
  intro i y hi hd hy hl hv
  have hlt := lv_lt h
  have hn := lv_nonneg h
  have hN : (lv l).toNat < 256 ^ i := by
   have e : ((256 ^ i : Nat) : Int) = BB l.length := by
    rw [pow256, show i = 4 * l.length by omega, Nat.mul_div_cancel_left _ (by decide), Nat.mul_mod_right]; simp
   omega
  rw [Nat.mod_eq_of_lt hN, ← nat_strOfNums hy] at hv
  have hv' : nat (strOfNums y) = (lv l).toNat := by exact_mod_cast hv
  have hm := normalize_ev (strOfNums y)
  rw [hv'] at hm
  refine Ev.step (f := fun k => (n_Normalize.f k (strOfNums y)).bind fun t => some t) (fun k => ?_) (Ev.bind hm (Ev.now _))
  simp only [n_limbs_text.l0]
  rw [if_neg (by omega)]
 | succ d ih =>
  intro i y hi hd hy hl hv
  have hb := text_byte h i (by omega)
  have hr : i < y.reverse.length := by rw [List.length_reverse]; omega
  have hp : ((256 ^ i : Nat) : Int) = 256 ^ i := by rw [Int.natCast_pow]; rfl
  have hold : y.reverse.getD i 0 = 0 := lbi_top hy.reverse i hr (by
   rw [hv, ← hp]
   have := Nat.mod_lt (lv l).toNat (Nat.pow_pos (n := i) (by decide : 0 < 256))
   omega)
  have hset : (y.set (y.length - 1 - i) (((lv l).toNat / 256 ^ i % 256 : Nat) : Int)).reverse = y.reverse.set i (((lv l).toNat / 256 ^ i % 256 : Nat) : Int) := by
   apply List.ext_getElem
   ·simp
   ·intro j h1 h2
    rw [List.getElem_reverse, List.getElem_set, List.getElem_set, List.getElem_reverse]
    rw [List.length_reverse, List.length_set] at h1
    simp only [List.length_set]
    by_cases hj : i = j
    ·subst hj; rw [if_pos rfl, if_pos rfl]
    ·rw [if_neg (by omega), if_neg hj]
  have hnew : lbi (y.set (y.length - 1 - i) (((lv l).toNat / 256 ^ i % 256 : Nat) : Int)).reverse = (((lv l).toNat % 256 ^ (i + 1) : Nat) : Int) := by
   rw [hset, lbi_set _ _ _ hr, hold, hv, Nat.pow_succ, Nat.mod_mul, Int.natCast_add, Int.natCast_mul, ← hp]
   rw [Int.sub_zero, Int.mul_comm]
  have c1 : (i : Int) < (y.length : Int) := by omega
  have c2 : (0 : Int) ≤ ((i / 4 : Nat) : Int) := by omega
  have c3 : ((i / 4 : Nat) : Int) < (l.length : Int) := by omega
  have c4 : (0 : Int) ≤ ((8 * (i % 4) : Nat) : Int) := by omega
  have c5 : (0 : Int) ≤ ((y.length - 1 - i : Nat) : Int) := by omega
  have c6 : ((y.length - 1 - i : Nat) : Int) < (y.length : Int) := by omega
  have hrec := ih (i + 1) (y.set (y.length - 1 - i) (((lv l).toNat / 256 ^ i % 256 : Nat) : Int)) (by omega) (by omega) (hy.set _ (by omega) (by omega)) (by rw [List.length_set]; exact hl) hnew
  rw [List.length_set] at hrec
  have e4 : wrap64 ((i : Int) + 1) = ((i + 1 : Nat) : Int) := w64 (by omega) (by omega)
  have e2 : wrap64 (wrap64 ((y.length : Int) - 1) - (i : Int)) = ((y.length - 1 - i : Nat) : Int) := by clear e4; rw [w64 (x := (y.length : Int) - 1) (by omega) (by omega), w64 (by omega) (by omega)]; omega
  have e1 : wrap64 (Int.tdiv (i : Int) 4) = ((i / 4 : Nat) : Int) := by clear e2 e4; rw [show (4 : Int) = ((4 : Nat) : Int) from rfl, tdiv_nat]; exact w64 (by omega) (by omega)
  have e3 : wrap64 (8 * Int.tmod (i : Int) 4) = ((8 * (i % 4) : Nat) : Int) := by clear e1 e2 e4; rw [show (4 : Int) = ((4 : Nat) : Int) from rfl, tmod_nat]; rw [w64 (by omega) (by omega)]; omega
  refine Ev.step (f := fun k => n_limbs_text.l0 k l (y.set (y.length - 1 - i) (((lv l).toNat / 256 ^ i % 256 : Nat) : Int)) (y.length : Int) ((i + 1 : Nat) : Int)) (fun k => ?_) hrec
  simp only [n_limbs_text.l0]
  rw [e1, e2, e3, e4]
  rw [if_pos c1, if_pos c2, if_pos c3, if_pos c4, if_pos c5, if_pos c6, hb, Int.toNat_natCast]
theorem text_ev (l : List Int) (h : Lim l) (hs : l.length ≤ 1099511627776) : Ev (fun k => n_limbs_text.f k l) (enc (lv l).toNat) := by
 have e1 : wrap64 ((l.length : Int) * 4) = ((4 * l.length : Nat) : Int) := by rw [w64 (by omega) (by omega)]; omega
 refine Ev.congr (fun k => ?_) (text_loop l h hs (4 * l.length) 0 (List.replicate (4 * l.length) 0) (by omega) (by omega) (Byt.zeros _) (by simp) (by rw [List.reverse_replicate, lbi_zeros]; simp [Nat.mod_one]))
 unfold n_limbs_text.f
 rw [e1, if_pos (by omega), if_pos (by omega), Int.toNat_natCast]
 rfl
end Go.Proofs.YtppimdempdnhoaaDoor.C
namespace Go.Proofs.YtppimdempdnhoaaDoor.C
open Go.RowKit Go.PrWords Go.PrLast Go.PrMore
def icmp (x y : Int) : Int := if x < y then -1 else if y < x then 1 else 0
theorem icmp_lt {x y : Int} (h : x < y) : icmp x y = -1 := by unfold icmp; rw [if_pos h]
theorem icmp_gt {x y : Int} (h : y < x) : icmp x y = 1 := by unfold icmp; rw [if_neg (by omega), if_pos h]
theorem icmp_eq {x y : Int} (h : x = y) : icmp x y = 0 := by unfold icmp; rw [if_neg (by omega), if_neg (by omega)]
theorem lv_top_lt {xs ys : List Int} (hx : Lim xs) (hy : Lim ys) (hl : xs.length = ys.length) (n : Nat) (hn : n < xs.length) (he : xs.drop (n + 1) = ys.drop (n + 1)) (h : xs.getD n 0 < ys.getD n 0) : lv xs < lv ys := by
 have h1 := lv_split xs n (by omega)
 have h2 := lv_split ys n (by omega)
 rw [lv_drop_cons xs n hn, he] at h1
 rw [lv_drop_cons ys n (by omega)] at h2
 have h3 := lv_lt (hx.take n)
 have h4 := lv_nonneg (hy.take n)
 rw [List.length_take, Nat.min_eq_left (by omega)] at h3
 have hp := BB_pos n
 have h5 : BB n * (xs.getD n 0 + 4294967296 * lv (ys.drop (n + 1))) + BB n ≤ BB n * (ys.getD n 0 + 4294967296 * lv (ys.drop (n + 1))) := by
  have : BB n * (xs.getD n 0 + 4294967296 * lv (ys.drop (n + 1)) + 1) ≤ BB n * (ys.getD n 0 + 4294967296 * lv (ys.drop (n + 1))) := Int.mul_le_mul_of_nonneg_left (by omega) (by omega)
  rw [Int.mul_add, Int.mul_one] at this
  exact this
 omega
theorem drop_same {xs ys : List Int} (hl : xs.length = ys.length) (n : Nat) (hn : n < xs.length) (he : xs.drop (n + 1) = ys.drop (n + 1)) (h : xs.getD n 0 = ys.getD n 0) : xs.drop n = ys.drop n := by
 rw [List.drop_eq_getElem_cons hn, List.drop_eq_getElem_cons (by omega : n < ys.length), he]
 rw [List.getD_eq_getElem?_getD, List.getD_eq_getElem?_getD, List.getElem?_eq_getElem hn, List.getElem?_eq_getElem (by omega : n < ys.length)] at h
 simp at h
 rw [h]
theorem compare_loop {xs ys : List Int} (hx : Lim xs) (hy : Lim ys) (hl : xs.length = ys.length) (hs : xs.length < 9223372036854775807) : ∀ n : Nat, n ≤ xs.length → xs.drop n = ys.drop n →
  Ev (fun k => n_compare.l0 k xs ys ((n : Int) - 1)) (icmp (lv xs) (lv ys)) := by
 intro n
 induction n with
 | zero =>
  intro _ he
  simp only [List.drop_zero] at he
  rw [icmp_eq (by rw [he])]
  refine Ev.step (f := fun _ => some 0) (fun k => ?_) (Ev.now _)
  simp only [n_compare.l0]
  rw [if_neg (by omega)]
 | succ n ih =>
  intro hn he
  have e0 : ((n + 1 : Nat) : Int) - 1 = (n : Int) := by omega
  rw [e0]
  by_cases h : xs.getD n 0 = ys.getD n 0
  ·refine Ev.step (f := fun k => n_compare.l0 k xs ys ((n : Int) - 1)) (fun k => ?_) (ih (by omega) (drop_same hl n (by omega) he h))
   simp only [n_compare.l0]
   rw [if_pos (by omega), if_pos (by omega), if_pos (by omega), if_pos (by omega), rd_nat, rd_nat, if_pos h, w64 (by omega) (by omega)]
  ·by_cases h2 : xs.getD n 0 < ys.getD n 0
   ·rw [icmp_lt (lv_top_lt hx hy hl n (by omega) he h2)]
    refine Ev.step (f := fun _ => some (-1)) (fun k => ?_) (Ev.now _)
    simp only [n_compare.l0]
    rw [if_pos (by omega), if_pos (by omega), if_pos (by omega), if_pos (by omega), rd_nat, rd_nat, if_neg h, if_pos h2]
   ·rw [icmp_gt (lv_top_lt hy hx hl.symm n (by omega) he.symm (by omega))]
    refine Ev.step (f := fun _ => some 1) (fun k => ?_) (Ev.now _)
    simp only [n_compare.l0]
    rw [if_pos (by omega), if_pos (by omega), if_pos (by omega), if_pos (by omega), rd_nat, rd_nat, if_neg h, if_neg h2]
theorem lv_len_lt {xs ys : List Int} (hx : Lim xs) (hy : Lim ys) (ty : Trim ys) (h : xs.length < ys.length) : lv xs < lv ys := by
 by_cases h1 : lv ys ≤ lv xs
 ·have := trim_len_le hy hx ty h1
  omega
 ·omega
theorem compare_ev {xs ys : List Int} (hx : Lim xs) (hy : Lim ys) (tx : Trim xs) (ty : Trim ys) (h1 : xs.length < 4611686018427387904) (h2 : ys.length < 4611686018427387904) :
  Ev (fun k => n_compare.f k xs ys) (icmp (lv xs) (lv ys)) := by
 by_cases hl : xs.length = ys.length
 ·refine Ev.congr (fun k => ?_) (compare_loop hx hy hl (by omega) xs.length (Nat.le_refl _) (by rw [List.drop_length, hl, List.drop_length]))
  unfold n_compare.f
  rw [if_pos (by omega), w64 (by omega) (by omega)]
 ·refine ⟨0, fun k _ => ?_⟩
  show n_compare.f k xs ys = _
  unfold n_compare.f n_sign.f
  rw [if_neg (by omega), w64 (by omega) (by omega)]
  by_cases h : xs.length < ys.length
  ·rw [if_pos (by omega), icmp_lt (lv_len_lt hx hy ty h)]; rfl
  ·rw [if_neg (by omega), if_pos (by omega), icmp_gt (lv_len_lt hy hx tx (by omega))]; rfl
theorem compareBytes_val : ∀ xs ys : List UInt8, xs.length = ys.length → Lib.compareBytes xs ys = icmp (lb xs.reverse) (lb ys.reverse) := by
 intro xs
 induction xs with
 | nil => intro ys h; cases ys with
  | nil => rfl
  | cons _ _ => simp at h
 | cons x xs ih => intro ys h; cases ys with
  | nil => simp at h
  | cons y ys =>
   have hl : xs.length = ys.length := by simpa using h
   have hx := lb_lt xs.reverse
   have hy := lb_lt ys.reverse
   rw [List.length_reverse] at hx hy
   rw [← hl] at hy
   simp only [List.reverse_cons, lb_append, List.length_reverse, lb, Nat.mul_zero, Nat.add_zero, ← hl]
   unfold Lib.compareBytes
   have key : ∀ a b p q : Nat, p < 256 ^ xs.length → a < b → p + 256 ^ xs.length * a < q + 256 ^ xs.length * b := by
    intro a b p q hp hab
    have : 256 ^ xs.length * (a + 1) ≤ 256 ^ xs.length * b := Nat.mul_le_mul_left _ hab
    rw [Nat.mul_add] at this
    omega
   by_cases h1 : x < y
   ·rw [if_pos h1, icmp_lt]
    have := key x.toNat y.toNat (lb xs.reverse) (lb ys.reverse) hx (UInt8.lt_iff_toNat_lt.1 h1)
    omega
   ·rw [if_neg h1]
    by_cases h2 : y < x
    ·rw [if_pos h2, icmp_gt]
     have := key y.toNat x.toNat (lb ys.reverse) (lb xs.reverse) hy (UInt8.lt_iff_toNat_lt.1 h2)
     omega
    ·rw [if_neg h2, ih ys hl]
     have e : x.toNat = y.toNat := by
      rw [UInt8.lt_iff_toNat_lt] at h1 h2
      omega
     rw [e]
     unfold icmp
     by_cases a : (lb xs.reverse : Int) < lb ys.reverse
     ·rw [if_pos a, if_pos (by omega)]
     ·rw [if_neg a, if_neg (c := ((lb xs.reverse + 256 ^ xs.length * y.toNat : Nat) : Int) < _) (by omega)]
      by_cases b : (lb ys.reverse : Int) < lb xs.reverse
      ·rw [if_pos b, if_pos (by omega)]
      ·rw [if_neg b, if_neg (by omega)]
theorem enc_size_lt {m n : Nat} (h : (enc m).size < (enc n).size) : m < n := by
 by_cases h1 : n ≤ m
 ·have := enc_size_mono h1; omega
 ·omega
theorem Compare_ev (a b : ByteArray) (ha : a.size < 4611686018427387904) (hb : b.size < 4611686018427387904) : Ev (fun k => n_Compare.f k a b) (icmp (nat a) (nat b)) := by
 have h1 := normalize_ev a
 have h2 := normalize_ev b
 have s1 := enc_nat_size_le a
 have s2 := enc_nat_size_le b
 unfold n_Compare.f
 refine Ev.bind h1 (Ev.bind h2 ?_)
 by_cases hl : (enc (nat a)).size = (enc (nat b)).size
 ·refine ⟨0, fun k _ => ?_⟩
  show (if _ then _ else _) = _
  rw [if_pos (by omega)]
  unfold st_Compare.f ba_CompareString.f
  simp only [Option.bind_some]
  rw [compareBytes_val _ _ (by rw [← size_eq, ← size_eq]; exact hl)]
  rw [show lb (enc (nat a)).data.toList.reverse = nat (enc (nat a)) from rfl, show lb (enc (nat b)).data.toList.reverse = nat (enc (nat b)) from rfl, nat_enc, nat_enc]
 ·refine ⟨0, fun k _ => ?_⟩
  show (if _ then _ else _) = _
  unfold n_sign.f
  rw [if_neg (by omega), w64 (by omega) (by omega)]
  by_cases h : (enc (nat a)).size < (enc (nat b)).size
  ·rw [if_pos (by omega), icmp_lt (by have := enc_size_lt h; omega)]; rfl
  ·rw [if_neg (by omega), if_pos (by omega), icmp_gt (by have := enc_size_lt (show (enc (nat b)).size < (enc (nat a)).size by omega); omega)]; rfl
theorem add32 {a b c : Int} (ha : 0 ≤ a) (ha' : a < 4294967296) (hb : 0 ≤ b) (hb' : b < 4294967296) (hc : 0 ≤ c) (hc' : c ≤ 1) :
  bits_Add32.f a b c = some ((a + b + c) % 4294967296, (a + b + c) / 4294967296) := by
 unfold bits_Add32.f
 rw [wu64 ha (by omega), wu64 hb (by omega), wu64 hc (by omega), wu64 (x := a + b) (by omega) (by omega), wu64 (by omega) (by omega)]
 congr 2
 omega
theorem bits_u32 (x y : Nat) (hx : x < 4294967296) (hy : y < 4294967296) : bits .and .u32 x y = ((x &&& y : Nat) : Int) ∧ bits .or .u32 x y = ((x ||| y : Nat) : Int) :=
 bits_nat .u32 32 (by decide) wraps_u32 x y hx hy
theorem bits_xor32 (x y : Nat) (hx : x < 4294967296) (hy : y < 4294967296) : bits .xor .u32 x y = ((x ^^^ y : Nat) : Int) := by
 simp only [bits, BitVec.ofInt_natCast, BitVec.toNat_xor, BitVec.toNat_ofNat]
 rw [show IntKind.u32.bits = 32 from rfl, Nat.mod_eq_of_lt (show x < 2 ^ 32 from hx), Nat.mod_eq_of_lt (show y < 2 ^ 32 from hy)]
 have : x ^^^ y < 2 ^ 32 := Nat.xor_lt_two_pow hx hy
 exact wraps_u32 _ (by omega) (by omega)
theorem top_bit {x : Nat} (hx : x < 4294967296) : x / 2147483648 = (x.testBit 31).toNat := by
 rw [Nat.testBit_eq_decide_div_mod_eq]
 by_cases h : x / 2 ^ 31 % 2 = 1
 ·simp [h]; omega
 ·simp [h]; omega
theorem top_is {x : Nat} (hx : x < 4294967296) : x.testBit 31 = decide (2147483648 ≤ x) := by
 rw [Nat.testBit_eq_decide_div_mod_eq]
 congr 1
 apply propext
 omega
theorem sub32 {a b c : Int} (ha : 0 ≤ a) (ha' : a < 4294967296) (hb : 0 ≤ b) (hb' : b < 4294967296) (hc : 0 ≤ c) (hc' : c ≤ 1) :
  bits_Sub32.f a b c = some ((a - b - c) % 4294967296, if a - b - c < 0 then 1 else 0) := by
 obtain ⟨x, rfl⟩ := Int.eq_ofNat_of_zero_le ha
 obtain ⟨y, rfl⟩ := Int.eq_ofNat_of_zero_le hb
 unfold bits_Sub32.f
 have hd : ((((x : Int) - y) % 4294967296) - c) % 4294967296 = ((x : Int) - y - c) % 4294967296 := by omega
 rw [hd]
 obtain ⟨d, hdd⟩ := Int.eq_ofNat_of_zero_le (show 0 ≤ ((x : Int) - y - c) % 4294967296 by omega)
 have hd' : d < 4294967296 := by omega
 have hx' : x < 4294967296 := by omega
 have hy' : y < 4294967296 := by omega
 rw [hdd]
 have e1 : bits .xor .u32 4294967295 (x : Int) = ((4294967295 ^^^ x : Nat) : Int) := bits_xor32 4294967295 x (by decide) hx'
 have l1 : 4294967295 ^^^ x < 4294967296 := Nat.xor_lt_two_pow (n := 32) (by decide) hx'
 have e2 := bits_xor32 x y hx' hy'
 have l2 : x ^^^ y < 4294967296 := Nat.xor_lt_two_pow (n := 32) hx' hy'
 have e3 : bits .xor .u32 4294967295 ((x ^^^ y : Nat) : Int) = ((4294967295 ^^^ (x ^^^ y) : Nat) : Int) := bits_xor32 4294967295 _ (by decide) l2
 have l3 : 4294967295 ^^^ (x ^^^ y) < 4294967296 := Nat.xor_lt_two_pow (n := 32) (by decide) l2
 have e4 := (bits_u32 _ _ l1 hy').1
 have e5 := (bits_u32 _ _ l3 hd').1
 have l4 : (4294967295 ^^^ x) &&& y < 4294967296 := Nat.lt_of_le_of_lt Nat.and_le_right hy'
 have l5 : (4294967295 ^^^ (x ^^^ y)) &&& d < 4294967296 := Nat.lt_of_le_of_lt Nat.and_le_right hd'
 have e6 := (bits_u32 _ _ l4 l5).2
 have l6 : ((4294967295 ^^^ x) &&& y) ||| ((4294967295 ^^^ (x ^^^ y)) &&& d) < 4294967296 := Nat.or_lt_two_pow (n := 32) l4 l5
 rw [e1, e2, e3, e4, e5, e6]
 congr 2
 have e7 : (((((4294967295 ^^^ x) &&& y) ||| ((4294967295 ^^^ (x ^^^ y)) &&& d) : Nat) : Int)) / 2147483648 = (((((4294967295 ^^^ x) &&& y) ||| ((4294967295 ^^^ (x ^^^ y)) &&& d)) / 2147483648 : Nat) : Int) := rfl
 rw [e7, top_bit l6]
 simp only [Nat.testBit_or, Nat.testBit_and, Nat.testBit_xor, top_is hx', top_is hy', top_is hd', top_is (show 4294967295 < 4294967296 by decide)]
 by_cases p : 2147483648 ≤ x <;> by_cases q : 2147483648 ≤ y <;> by_cases r : 2147483648 ≤ d <;> simp [p, q, r] <;> omega
end Go.Proofs.YtppimdempdnhoaaDoor.C
namespace Go.Proofs.YtppimdempdnhoaaDoor.C
open Go.RowKit Go.PrWords Go.PrLast Go.PrMore
theorem lv_top {xs : List Int} (h : Lim xs) (i : Nat) (hi : i < xs.length) (hv : lv xs < BB i) : xs.getD i 0 = 0 := by
 rw [lv_limb h i hi, Int.ediv_eq_zero_of_lt (lv_nonneg h) hv]; rfl
theorem lv_take_more (xs : List Int) (i : Nat) : lv (xs.take (i + 1)) = lv (xs.take i) + xs.getD i 0 * BB i := by
 by_cases h : i < xs.length
 ·exact lv_take_succ xs i h
 ·rw [List.take_of_length_le (by omega), List.take_of_length_le (by omega), List.getD_eq_getElem?_getD, List.getElem?_eq_none (by omega)]; simp
theorem lv_put {out : List Int} (h : Lim out) (i : Nat) (hi : i < out.length) (hv : lv out < BB i) {v : Int} (h0 : 0 ≤ v) (h1 : v < 4294967296) :
  Lim (out.set i v) ∧ lv (out.set i v) = lv out + v * BB i ∧ lv (out.set i v) < BB (i + 1) := by
 have e := lv_set out i v hi
 rw [lv_top h i hi hv, Int.sub_zero] at e
 refine ⟨h.set i h0 h1, e, ?_⟩
 rw [e, BB_succ]
 have : (v + 1) * BB i ≤ 4294967296 * BB i := Int.mul_le_mul_of_nonneg_right (by omega) (by have := BB_pos i; omega)
 rw [Int.add_mul, Int.one_mul] at this
 omega
theorem add_loop {x y : List Int} (hx : Lim x) (hy : Lim y) (hl : y.length ≤ x.length) (hs : x.length ≤ 1099511627000) (d : Nat) : ∀ (i : Nat) (out : List Int) (c : Int), i ≤ x.length → x.length - i = d → Lim out → out.length = x.length + 1 → lv out < BB i → 0 ≤ c → c ≤ 1 → lv out + c * BB i = lv (x.take i) + lv (y.take i) →
  Ev (fun k => n_Add.l0 k x y out c (x.length : Int) (i : Int)) (enc (lv x + lv y).toNat) := by
 induction d with
 | zero =>
  intro i out c hi hd ho hol hlt hc hc' hv
  have e : i = x.length := by omega
  subst e
  have hp := lv_put ho x.length (by omega) hlt hc (by omega)
  rw [List.take_length, List.take_of_length_le hl] at hv
  have ht := text_ev _ hp.1 (by rw [List.length_set]; omega)
  rw [hp.2.1, hv] at ht
  refine Ev.step (f := fun k => (n_limbs_text.f k (out.set x.length c)).bind fun t => some t) (fun k => ?_) (Ev.bind ht (Ev.now _))
  simp only [n_Add.l0]
  rw [if_neg (by omega), if_pos (by omega), if_pos (by omega), Int.toNat_natCast]
 | succ d ih =>
  intro i out c hi hd ho hol hlt hc hc' hv
  have bx := hx.at_ (i : Int)
  have by_ := hy.at_ (i : Int)
  rw [rd_nat] at bx by_
  have hsum := add32 bx.1 bx.2 by_.1 by_.2 hc hc'
  have hp := lv_put ho i (by omega) hlt (v := (x.getD i 0 + y.getD i 0 + c) % 4294967296) (by omega) (by omega)
  have hrec := ih (i + 1) _ ((x.getD i 0 + y.getD i 0 + c) / 4294967296) (by omega) (by omega) hp.1 (by rw [List.length_set]; exact hol) hp.2.2 (by omega) (by omega) (by
   rw [hp.2.1, lv_take_more, lv_take_more, BB_succ]
   generalize x.getD i 0 = p at *
   generalize y.getD i 0 = q at *
   have e1 : (p + q + c) % 4294967296 * BB i + (p + q + c) / 4294967296 * (4294967296 * BB i) = (p + q + c) * BB i := by
    rw [← Int.mul_assoc, ← Int.add_mul]
    congr 1
    omega
   rw [Int.add_mul, Int.add_mul] at e1
   omega)
  have e4 : wrap64 ((i : Int) + 1) = ((i + 1 : Nat) : Int) := w64 (by omega) (by omega)
  refine Ev.step (f := fun k => n_Add.l0 k x y (out.set i ((x.getD i 0 + y.getD i 0 + c) % 4294967296)) ((x.getD i 0 + y.getD i 0 + c) / 4294967296) (x.length : Int) ((i + 1 : Nat) : Int)) (fun k => ?_) hrec
  simp only [n_Add.l0]
  rw [e4, rd_nat, rd_nat]
  clear e4
  by_cases hy2 : i < y.length
  ·rw [if_pos (by omega), if_pos (by omega), if_pos (by omega), if_pos (by omega), hsum]
   simp only [Option.bind_some]
   rw [if_pos (by omega), Int.toNat_natCast]
  ·have e0 : y.getD i 0 = 0 := by rw [List.getD_eq_getElem?_getD, List.getElem?_eq_none (by omega)]; rfl
   rw [e0] at hsum ⊢
   rw [if_pos (by omega), if_neg (by omega), if_pos (by omega), if_pos (by omega), hsum]
   simp only [Option.bind_some]
   rw [if_pos (by omega), Int.toNat_natCast]
theorem add_j {x y : List Int} (hx : Lim x) (hy : Lim y) (hl : y.length ≤ x.length) (hs : x.length ≤ 1099511627000) : Ev (fun k => n_Add.j0 k x y) (enc (lv x + lv y).toNat) := by
 have hrec := add_loop hx hy hl hs x.length 0 (List.replicate (x.length + 1) 0) 0 (by omega) (by omega) (Lim.zeros _) (by simp) (by rw [lv_zeros]; exact BB_pos 0) (by omega) (by omega) (by rw [lv_zeros]; simp [lv])
 have e : wrap64 ((x.length : Int) + 1) = ((x.length + 1 : Nat) : Int) := w64 (by omega) (by omega)
 refine Ev.step (f := fun k => n_Add.l0 k x y (List.replicate (x.length + 1) 0) 0 (x.length : Int) 0) (fun k => ?_) hrec
 simp only [n_Add.j0]
 rw [e]
 clear e
 rw [if_pos (by omega), if_pos (by omega), Int.toNat_natCast]
theorem lim_size (s : ByteArray) (h : s.size ≤ 1099511627000) : (lim (nat s)).length ≤ 1099511627000 := by
 refine Nat.le_trans (lim_len (m := s.size) ?_) h
 have h1 := nat_lt s
 unfold BB
 have h2 : (256 : Nat) ^ s.size ≤ 4294967296 ^ s.size := Nat.pow_le_pow_left (by decide) _
 have h3 : nat s < 4294967296 ^ s.size := by omega
 have h4 := Int.ofNat_lt.2 h3
 rw [Int.natCast_pow] at h4
 exact h4
theorem Add_ev (a b : ByteArray) (ha : a.size ≤ 1099511627000) (hb : b.size ≤ 1099511627000) : Ev (fun k => n_Add.f k a b) (enc (nat a + nat b)) := by
 have la := lim_size a ha
 have lb_ := lim_size b hb
 unfold n_Add.f
 refine Ev.bind (parse_ev a (by omega)) (Ev.bind (parse_ev b (by omega)) ?_)
 by_cases h : (lim (nat a)).length < (lim (nat b)).length
 ·have := add_j (Lim_lim (nat b)) (Lim_lim (nat a)) (by omega) lb_
  rw [lv_lim, lv_lim] at this
  rw [show ((nat b : Int) + (nat a : Int)).toNat = nat a + nat b by omega] at this
  exact Ev.congr (fun k => if_pos (by omega)) this
 ·have := add_j (Lim_lim (nat a)) (Lim_lim (nat b)) (by omega) la
  rw [lv_lim, lv_lim] at this
  rw [show ((nat a : Int) + (nat b : Int)).toNat = nat a + nat b by omega] at this
  exact Ev.congr (fun k => if_neg (by omega)) this
theorem sub_loop {x y : List Int} (hx : Lim x) (hy : Lim y) (hle : lv y ≤ lv x) (hl : y.length ≤ x.length) (hs : x.length ≤ 1099511627000) (d : Nat) : ∀ (i : Nat) (out : List Int) (c : Int), i ≤ x.length → x.length - i = d → Lim out → out.length = x.length → lv out < BB i → 0 ≤ c → c ≤ 1 → lv out - c * BB i = lv (x.take i) - lv (y.take i) →
  Ev (fun k => n_subtract.l0 k x y out c (x.length : Int) (i : Int)) (lim (lv x - lv y).toNat) := by
 induction d with
 | zero =>
  intro i out c hi hd ho hol hlt hc hc' hv
  have e : i = x.length := by omega
  subst e
  rw [List.take_length, List.take_of_length_le hl] at hv
  have hc0 : c = 0 := by
   rcases (by omega : c = 0 ∨ c = 1) with h | h
   ·exact h
   ·rw [h, Int.one_mul] at hv; omega
  rw [hc0, Int.zero_mul, Int.sub_zero] at hv
  have ht := trim_all out ho (by omega)
  rw [hv] at ht
  refine Ev.step (f := fun k => (n_limbs_trim.f k out).bind fun t => some t) (fun k => ?_) (Ev.bind ht (Ev.now _))
  simp only [n_subtract.l0]
  rw [if_neg (by omega)]
 | succ d ih =>
  intro i out c hi hd ho hol hlt hc hc' hv
  have bx := hx.at_ (i : Int)
  have by_ := hy.at_ (i : Int)
  rw [rd_nat] at bx by_
  have hsum := sub32 bx.1 bx.2 by_.1 by_.2 hc hc'
  have hp := lv_put ho i (by omega) hlt (v := (x.getD i 0 - y.getD i 0 - c) % 4294967296) (by omega) (by omega)
  have hb : (0 : Int) ≤ (if x.getD i 0 - y.getD i 0 - c < 0 then 1 else 0) ∧ (if x.getD i 0 - y.getD i 0 - c < 0 then 1 else 0) ≤ (1 : Int) := by split <;> omega
  have hrec := ih (i + 1) _ (if x.getD i 0 - y.getD i 0 - c < 0 then 1 else 0) (by omega) (by omega) hp.1 (by rw [List.length_set]; exact hol) hp.2.2 hb.1 hb.2 (by
   rw [hp.2.1, lv_take_more, lv_take_more, BB_succ]
   generalize x.getD i 0 = p at *
   generalize y.getD i 0 = q at *
   have e1 : (p - q - c) % 4294967296 * BB i - (if p - q - c < 0 then 1 else 0) * (4294967296 * BB i) = (p - q - c) * BB i := by
    rw [← Int.mul_assoc, ← Int.sub_mul]
    congr 1
    split <;> omega
   rw [Int.sub_mul, Int.sub_mul] at e1
   omega)
  have e4 : wrap64 ((i : Int) + 1) = ((i + 1 : Nat) : Int) := w64 (by omega) (by omega)
  refine Ev.step (f := fun k => n_subtract.l0 k x y (out.set i ((x.getD i 0 - y.getD i 0 - c) % 4294967296)) (if x.getD i 0 - y.getD i 0 - c < 0 then 1 else 0) (x.length : Int) ((i + 1 : Nat) : Int)) (fun k => ?_) hrec
  simp only [n_subtract.l0]
  rw [e4, rd_nat, rd_nat]
  clear e4
  by_cases hy2 : i < y.length
  ·rw [if_pos (by omega), if_pos (by omega), if_pos (by omega), if_pos (by omega), hsum]
   simp only [Option.bind_some]
   rw [if_pos (by omega), Int.toNat_natCast]
  ·have e0 : y.getD i 0 = 0 := by rw [List.getD_eq_getElem?_getD, List.getElem?_eq_none (by omega)]; rfl
   rw [e0] at hsum ⊢
   rw [if_pos (by omega), if_neg (by omega), if_pos (by omega), if_pos (by omega), hsum]
   simp only [Option.bind_some]
   rw [if_pos (by omega), Int.toNat_natCast]
theorem sub_ev {x y : List Int} (hx : Lim x) (hy : Lim y) (ty : Trim y) (hle : lv y ≤ lv x) (hs : x.length ≤ 1099511627000) : Ev (fun k => n_subtract.f k x y) (lim (lv x - lv y).toNat) := by
 have hl : y.length ≤ x.length := trim_len_le hy hx ty hle
 have hrec := sub_loop hx hy hle hl hs x.length 0 (List.replicate x.length 0) 0 (by omega) (by omega) (Lim.zeros _) (by simp) (by rw [lv_zeros]; exact BB_pos 0) (by omega) (by omega) (by rw [lv_zeros]; simp [lv])
 refine Ev.congr (fun k => ?_) hrec
 unfold n_subtract.f
 rw [if_pos (by omega), if_pos (by omega), Int.toNat_natCast]
 rfl
theorem Subtract_ev (a b : ByteArray) (ha : a.size ≤ 1099511627000) (hb : b.size ≤ 1099511627000) : Ev (fun k => n_Subtract.f k a b) (if nat a < nat b then (⟨#[]⟩, false) else (enc (nat a - nat b), true)) := by
 have la := lim_size a ha
 have lb_ := lim_size b hb
 unfold n_Subtract.f
 refine Ev.bind (parse_ev a (by omega)) (Ev.bind (parse_ev b (by omega)) (Ev.bind (compare_ev (Lim_lim _) (Lim_lim _) (Trim_lim _) (Trim_lim _) (by omega) (by omega)) ?_))
 rw [lv_lim, lv_lim]
 by_cases h : nat a < nat b
 ·rw [if_pos h, icmp_lt (by omega)]
  exact Ev.congr (fun k => if_pos (by omega)) (Ev.now _)
 ·rw [if_neg h]
  have h0 : ¬ icmp (nat a : Int) (nat b : Int) < 0 := by
   unfold icmp; rw [if_neg (by omega)]; split <;> omega
  have h1 := sub_ev (Lim_lim (nat a)) (Lim_lim (nat b)) (Trim_lim _) (by rw [lv_lim, lv_lim]; omega) la
  rw [lv_lim, lv_lim, show ((nat a : Int) - (nat b : Int)).toNat = nat a - nat b by omega] at h1
  have h2 := text_ev (lim (nat a - nat b)) (Lim_lim _) (by
   have : (lim (nat a - nat b)).length ≤ (lim (nat a)).length := trim_len_le (Lim_lim _) (Lim_lim _) (Trim_lim _) (by rw [lv_lim, lv_lim]; omega)
   omega)
  rw [lv_lim, Int.toNat_natCast] at h2
  exact Ev.congr (fun k => if_neg h0) (Ev.bind h1 (Ev.bind h2 (Ev.now _)))
end Go.Proofs.YtppimdempdnhoaaDoor.C
namespace Go.Proofs.YtppimdempdnhoaaDoor.C
open Go.RowKit Go.PrWords Go.PrLast Go.PrMore
theorem mul_bound {u v : Int} (hu : 0 ≤ u ∧ u < 4294967296) (hv : 0 ≤ v ∧ v < 4294967296) : 0 ≤ u * v ∧ u * v ≤ 18446744065119617025 := by
 constructor
 ·exact Int.mul_nonneg hu.1 hv.1
 ·have : u * v ≤ 4294967295 * 4294967295 := Int.mul_le_mul (by omega) (by omega) (by omega) (by omega)
  omega
theorem mac {u v o c : Int} (hu : 0 ≤ u ∧ u < 4294967296) (hv : 0 ≤ v ∧ v < 4294967296) (ho : 0 ≤ o ∧ o < 4294967296) (hc : 0 ≤ c ∧ c < 4294967296) :
  IntKind.u64.wrap ((IntKind.u64.wrap ((IntKind.u64.wrap ((IntKind.u64.wrap u) * (IntKind.u64.wrap v))) + (IntKind.u64.wrap o))) + c) = u * v + o + c := by
 have hm := mul_bound hu hv
 rw [wu64 (x := u) (by omega) (by omega), wu64 (x := v) (by omega) (by omega), wu64 (x := u * v) (by omega) (by omega), wu64 (x := o) (by omega) (by omega), wu64 (x := u * v + o) (by omega) (by omega), wu64 (by omega) (by omega)]
theorem getD_of_drop_zero {out : List Int} (m : Nat) (hm : m < out.length) (hL : Lim out) (hz : lv (out.drop m) = 0) : out.getD m 0 = 0 := by
 rw [lv_drop_cons out m hm] at hz
 have h1 := (hL.at_ (m : Int)).1
 rw [rd_nat] at h1
 have h2 := lv_nonneg (hL.drop (m + 1))
 omega
theorem drop_set_lt (out : List Int) (j m : Nat) (v : Int) (h : j < m) : (out.set j v).drop m = out.drop m := by
 apply List.ext_getElem
 ·simp
 ·intro n h1 h2
  rw [List.getElem_drop, List.getElem_drop, List.getElem_set, if_neg (by omega)]
theorem mul_inner (x y : List Int) (hy : Lim y) (u : Int) (hu : 0 ≤ u ∧ u < 4294967296) (i : Nat) (hi : i < x.length) (R : ByteArray) (T : Int)
  (hs : x.length + y.length ≤ 1099511627000)
  (hk : ∀ out : List Int, Lim out → out.length = x.length + y.length → lv (out.drop (i + 1 + y.length)) = 0 → lv out = T + u * lv y * BB i → Ev (fun k => n_Multiply.l0 k y out x (x.length : Int) ((i + 1 : Nat) : Int)) R) (d : Nat) :
  ∀ (j : Nat) (out : List Int) (c : Int), j ≤ y.length → y.length - j = d → Lim out → out.length = x.length + y.length → lv (out.drop (i + y.length)) = 0 → (0 ≤ c ∧ c < 4294967296) → lv out + c * BB (i + j) = T + u * lv (y.take j) * BB i →
  Ev (fun k => n_Multiply.l1 k y out (i : Int) u c x (x.length : Int) (i : Int) y (y.length : Int) (j : Int)) R := by
 induction d with
 | zero =>
  intro j out c hj hd ho hol hz hc hv
  have e : j = y.length := by omega
  subst e
  rw [List.take_length] at hv
  have h0 := getD_of_drop_zero (i + y.length) (by omega) ho hz
  have hset := lv_set out (i + y.length) c (by omega)
  rw [h0, Int.sub_zero, hv] at hset
  have hz2 : lv ((out.set (i + y.length) c).drop (i + 1 + y.length)) = 0 := by
   rw [drop_set_lt _ _ _ _ (by omega)]
   rw [lv_drop_cons out (i + y.length) (by omega), h0] at hz
   rw [show i + 1 + y.length = i + y.length + 1 by omega]
   omega
  have hrec := hk (out.set (i + y.length) c) (ho.set _ hc.1 hc.2) (by rw [List.length_set]; exact hol) hz2 hset
  have e1 : wrap64 ((i : Int) + (y.length : Int)) = ((i + y.length : Nat) : Int) := by rw [w64 (by omega) (by omega)]; omega
  have e2 : wrap64 ((i : Int) + 1) = ((i + 1 : Nat) : Int) := by clear e1; exact w64 (by omega) (by omega)
  refine Ev.step (f := fun k => n_Multiply.l0 k y (out.set (i + y.length) c) x (x.length : Int) ((i + 1 : Nat) : Int)) (fun k => ?_) hrec
  simp only [n_Multiply.l1]
  rw [e1, e2]
  clear e1 e2
  rw [if_neg (by omega), if_pos (by omega), if_pos (by omega), Int.toNat_natCast, Int.emod_eq_of_lt hc.1 hc.2]
 | succ d ih =>
  intro j out c hj hd ho hol hz hc hv
  have bv := hy.at_ (j : Int)
  have bo := ho.at_ ((i + j : Nat) : Int)
  have hm := mac hu bv bo hc
  rw [rd_nat] at bv bo
  rw [rd_nat, rd_nat] at hm
  have hb := mul_bound hu bv
  have hset := lv_set out (i + j) ((u * y.getD j 0 + out.getD (i + j) 0 + c) % 4294967296) (by omega)
  have hrec := ih (j + 1) (out.set (i + j) ((u * y.getD j 0 + out.getD (i + j) 0 + c) % 4294967296)) ((u * y.getD j 0 + out.getD (i + j) 0 + c) / 4294967296) (by omega) (by omega)
   (ho.set _ (by omega) (by omega)) (by rw [List.length_set]; exact hol) (by rw [drop_set_lt _ _ _ _ (by omega)]; exact hz) (by omega) (by
    rw [hset, lv_take_succ y j (by omega), show i + (j + 1) = (i + j) + 1 by omega, BB_succ]
    generalize y.getD j 0 = v at *
    generalize out.getD (i + j) 0 = o at *
    have e1 : ((u * v + o + c) % 4294967296 - o) * BB (i + j) + (u * v + o + c) / 4294967296 * (4294967296 * BB (i + j)) = (u * v + c) * BB (i + j) := by
     rw [← Int.mul_assoc, ← Int.add_mul]
     congr 1
     omega
    rw [Int.add_mul] at e1
    have e2 : u * (lv (y.take j) + v * BB j) * BB i = u * lv (y.take j) * BB i + u * v * BB (i + j) := by
     rw [BB_add, Int.mul_add, Int.add_mul, ← Int.mul_assoc, ← Int.mul_assoc, Int.mul_assoc (u * v), Int.mul_comm (BB j)]
     rw [← Int.mul_assoc]
    rw [e2]
    omega)
  have e1 : wrap64 ((i : Int) + (j : Int)) = ((i + j : Nat) : Int) := by rw [w64 (by omega) (by omega)]; omega
  have e2 : wrap64 ((j : Int) + 1) = ((j + 1 : Nat) : Int) := by clear e1; exact w64 (by omega) (by omega)
  refine Ev.step (f := fun k => n_Multiply.l1 k y (out.set (i + j) ((u * y.getD j 0 + out.getD (i + j) 0 + c) % 4294967296)) (i : Int) u ((u * y.getD j 0 + out.getD (i + j) 0 + c) / 4294967296) x (x.length : Int) (i : Int) y (y.length : Int) ((j + 1 : Nat) : Int)) (fun k => ?_) hrec
  simp only [n_Multiply.l1]
  rw [e1, e2, rd_nat, rd_nat, hm]
  clear e1 e2 hm
  rw [if_pos (by omega), if_pos (by omega), if_pos (by omega), if_pos (by omega), if_pos (by omega), Int.toNat_natCast]
theorem mul_outer (x y : List Int) (hx : Lim x) (hy : Lim y) (hs : x.length + y.length ≤ 1099511627000) (d : Nat) :
  ∀ (i : Nat) (out : List Int), i ≤ x.length → x.length - i = d → Lim out → out.length = x.length + y.length → lv (out.drop (i + y.length)) = 0 → lv out = lv (x.take i) * lv y →
  Ev (fun k => n_Multiply.l0 k y out x (x.length : Int) (i : Int)) (enc (lv x * lv y).toNat) := by
 induction d with
 | zero =>
  intro i out hi hd ho hol hz hv
  rw [List.take_of_length_le (by omega)] at hv
  have ht := text_ev out ho (by omega)
  rw [hv] at ht
  refine Ev.step (f := fun k => (n_limbs_text.f k out).bind fun t => some t) (fun k => ?_) (Ev.bind ht (Ev.now _))
  simp only [n_Multiply.l0]
  rw [if_neg (by omega)]
 | succ d ih =>
  intro i out hi hd ho hol hz hv
  have bu := hx.at_ (i : Int)
  rw [rd_nat] at bu
  have hrec := mul_inner x y hy (x.getD i 0) bu i (by omega) (enc (lv x * lv y).toNat) (lv out) hs (fun out' h1 h2 h3 h4 => ih (i + 1) out' (by omega) (by omega) h1 h2 h3 (by
   rw [h4, hv, lv_take_succ x i (by omega), Int.add_mul]
   congr 1
   rw [Int.mul_assoc, Int.mul_assoc, Int.mul_comm (lv y)])) y.length 0 out 0 (by omega) (by omega) ho hol hz (by omega) (by simp [lv])
  refine Ev.step (f := fun k => n_Multiply.l1 k y out (i : Int) (x.getD i 0) 0 x (x.length : Int) (i : Int) y (y.length : Int) ((0 : Nat) : Int)) (fun k => ?_) hrec
  simp only [n_Multiply.l0]
  rw [if_pos (by omega), if_pos (by omega), if_pos (by omega), rd_nat]
  rfl
theorem Multiply_ev (a b : ByteArray) (ha : a.size ≤ 549755813000) (hb : b.size ≤ 549755813000) : Ev (fun k => n_Multiply.f k a b) (enc (nat a * nat b)) := by
 have la : (lim (nat a)).length ≤ 549755813000 := Nat.le_trans (lim_len (m := a.size) (by
  have h1 := nat_lt a
  have h2 : (256 : Nat) ^ a.size ≤ 4294967296 ^ a.size := Nat.pow_le_pow_left (by decide) _
  have h4 := Int.ofNat_lt.2 (show nat a < 4294967296 ^ a.size by omega)
  rw [Int.natCast_pow] at h4
  exact h4)) ha
 have lb_ : (lim (nat b)).length ≤ 549755813000 := Nat.le_trans (lim_len (m := b.size) (by
  have h1 := nat_lt b
  have h2 : (256 : Nat) ^ b.size ≤ 4294967296 ^ b.size := Nat.pow_le_pow_left (by decide) _
  have h4 := Int.ofNat_lt.2 (show nat b < 4294967296 ^ b.size by omega)
  rw [Int.natCast_pow] at h4
  exact h4)) hb
 unfold n_Multiply.f
 refine Ev.bind (parse_ev a (by omega)) (Ev.bind (parse_ev b (by omega)) ?_)
 have hrec := mul_outer (lim (nat a)) (lim (nat b)) (Lim_lim _) (Lim_lim _) (by omega) (lim (nat a)).length 0 (List.replicate ((lim (nat a)).length + (lim (nat b)).length) 0) (by omega) (by omega) (Lim.zeros _) (by simp) (by rw [List.drop_replicate, lv_zeros]) (by rw [lv_zeros]; simp [lv])
 rw [lv_lim, lv_lim, show ((nat a : Int) * (nat b : Int)).toNat = nat a * nat b by rw [← Int.natCast_mul, Int.toNat_natCast]] at hrec
 have e : wrap64 (((lim (nat a)).length : Int) + ((lim (nat b)).length : Int)) = (((lim (nat a)).length + (lim (nat b)).length : Nat) : Int) := by rw [w64 (by omega) (by omega)]; omega
 refine Ev.congr (fun k => ?_) hrec
 rw [e]
 clear e
 rw [if_pos (by omega), if_pos (by omega), Int.toNat_natCast]
 rfl
end Go.Proofs.YtppimdempdnhoaaDoor.C
namespace Go.Proofs.YtppimdempdnhoaaDoor.C
open Go.RowKit Go.PrWords Go.PrLast Go.PrMore
theorem tdiv_pos {a b : Int} (ha : 0 ≤ a) (hb : 0 ≤ b) : Int.tdiv a b = a / b := Int.tdiv_eq_ediv_of_nonneg ha
theorem tmod_pos {a b : Int} (ha : 0 ≤ a) (hb : 0 ≤ b) : Int.tmod a b = a % b := Int.tmod_eq_emod_of_nonneg ha
theorem two_limbs {r x : Int} (hr : 0 ≤ r ∧ r < 4294967296) (hx : 0 ≤ x ∧ x < 4294967296) : Go.bits .or .u64 (IntKind.u64.wrap (r * 4294967296)) (IntKind.u64.wrap x) = r * 4294967296 + x := by
 rw [wu64 (x := r * 4294967296) (by omega) (by omega), wu64 (x := x) (by omega) (by omega)]
 exact or64 32 (by omega) (by omega) (by omega) hx.1 (by omega) (by omega)
theorem small_loop {a : List Int} (ha : Lim a) (dv : Int) (hd0 : 0 < dv) (hd1 : dv < 4294967296) (hs : a.length ≤ 1099511627000) : ∀ (n : Nat) (out : List Int) (r : Int), n ≤ a.length → Lim out → out.length = a.length → 0 ≤ r → r < dv → lv (a.drop n) = lv (out.drop n) * dv + r →
  Ev (fun k => n_divideSmall.l0 k a dv out r ((n : Int) - 1)) (lim (lv a / dv).toNat, lv a % dv) := by
 intro n
 induction n with
 | zero =>
  intro out r hn ho hol hr0 hr1 hv
  simp only [List.drop_zero] at hv
  have hq : lv a / dv = lv out := by
   rw [hv, Int.add_comm, Int.add_mul_ediv_right _ _ (by omega), Int.ediv_eq_zero_of_lt hr0 hr1]; omega
  have hm : lv a % dv = r := by
   rw [hv, Int.add_comm, Int.add_mul_emod_self_right, Int.emod_eq_of_lt hr0 hr1]
  have ht := trim_all out ho (by omega)
  rw [hq, hm]
  refine Ev.step (f := fun k => (n_limbs_trim.f k out).bind fun t => some (t, r)) (fun k => ?_) (Ev.bind ht (Ev.now _))
  simp only [n_divideSmall.l0]
  rw [if_neg (by omega), Int.emod_eq_of_lt hr0 (by omega)]
 | succ n ih =>
  intro out r hn ho hol hr0 hr1 hv
  have e0 : ((n + 1 : Nat) : Int) - 1 = (n : Int) := by omega
  rw [e0]
  have bx := ha.at_ (n : Int)
  rw [rd_nat] at bx
  have h2 := two_limbs (r := r) (x := a.getD n 0) ⟨hr0, by omega⟩ bx
  have hdm := Int.mul_ediv_add_emod (r * 4294967296 + a.getD n 0) dv
  have hm0 := Int.emod_nonneg (r * 4294967296 + a.getD n 0) (by omega : dv ≠ 0)
  have hm1 := Int.emod_lt_of_pos (r * 4294967296 + a.getD n 0) hd0
  have hq0 : 0 ≤ (r * 4294967296 + a.getD n 0) / dv := Int.ediv_nonneg (by omega) (by omega)
  have hq1 : (r * 4294967296 + a.getD n 0) / dv < 4294967296 := Int.ediv_lt_of_lt_mul hd0 (by
   have : (r + 1) * 4294967296 ≤ dv * 4294967296 := Int.mul_le_mul_of_nonneg_right (by omega) (by omega)
   omega)
  have hdrop : lv ((out.set n ((r * 4294967296 + a.getD n 0) / dv)).drop n) = (r * 4294967296 + a.getD n 0) / dv + 4294967296 * lv (out.drop (n + 1)) := by
   rw [lv_drop_cons _ n (by rw [List.length_set]; omega), drop_set_lt _ _ _ _ (by omega)]
   rw [List.getD_eq_getElem?_getD, List.getElem?_set_self (by omega)]; rfl
  have hrec := ih (out.set n ((r * 4294967296 + a.getD n 0) / dv)) ((r * 4294967296 + a.getD n 0) % dv) (by omega) (ho.set _ hq0 hq1) (by rw [List.length_set]; exact hol) hm0 hm1 (by
   rw [hdrop, lv_drop_cons a n (by omega), hv, Int.add_mul, Int.mul_assoc]
   rw [Int.mul_comm dv] at hdm
   omega)
  refine Ev.step (f := fun k => n_divideSmall.l0 k a dv (out.set n ((r * 4294967296 + a.getD n 0) / dv)) ((r * 4294967296 + a.getD n 0) % dv) ((n : Int) - 1)) (fun k => ?_) hrec
  simp only [n_divideSmall.l0]
  rw [if_pos (by omega), if_pos (by omega), if_pos (by omega), rd_nat, wu64 (x := dv) (by omega) (by omega), if_neg (by omega), if_pos (by omega), h2]
  rw [tdiv_pos (by omega) (by omega), tmod_pos (by omega) (by omega), wu64 (x := (r * 4294967296 + a.getD n 0) / dv) hq0 (by omega), Int.emod_eq_of_lt hq0 hq1, Int.toNat_natCast]
  congr 1
  exact w64 (by omega) (by omega)
theorem small_ev {a : List Int} (ha : Lim a) (dv : Int) (hd0 : 0 < dv) (hd1 : dv < 4294967296) (hs : a.length ≤ 1099511627000) : Ev (fun k => n_divideSmall.f k a dv) (lim (lv a / dv).toNat, lv a % dv) := by
 have hrec := small_loop ha dv hd0 hd1 hs a.length (List.replicate a.length 0) 0 (Nat.le_refl _) (Lim.zeros _) (by simp) (by omega) hd0 (by simp [lv])
 refine Ev.congr (fun k => ?_) hrec
 unfold n_divideSmall.f
 rw [if_pos (by omega), if_pos (by omega), Int.toNat_natCast, w64 (by omega) (by omega)]
end Go.Proofs.YtppimdempdnhoaaDoor.C
namespace Go.Proofs.YtppimdempdnhoaaDoor.C
open Go.RowKit Go.PrWords Go.PrLast Go.PrMore
theorem lv_one (x : Int) : lv [x] = x := by simp [lv]
theorem divide_ev {a b : List Int} (ha : Lim a) (hb : Lim b) (ta : Trim a) (tb : Trim b) (hb0 : 0 < b.length) (h1 : a.length ≤ 549755813000) (c2 : b.length = 1) :
  Ev (fun k => n_divide.f k a b) (lim (lv a / lv b).toNat, lim (lv a % lv b).toNat) := by
 have a0 := lv_nonneg ha
 have hbp := trim_pos hb tb hb0
 have hb1 := BB_pos (b.length - 1)
 have hcmp := compare_ev ha hb ta tb (by omega) (by omega)
 unfold n_divide.f
 refine Ev.bind hcmp ?_
 by_cases c1 : lv a < lv b
 ·rw [icmp_lt c1]
  simp only [show (-1 : Int) < 0 by decide, if_true]
  rw [Int.ediv_eq_zero_of_lt a0 c1, Int.emod_eq_of_lt a0 c1, lim_of ha ta, show (0 : Int).toNat = 0 from rfl, lim_zero]
  exact Ev.now _
 ·have hc : ¬ icmp (lv a) (lv b) < 0 := by
   rcases Int.lt_or_eq_of_le (Int.not_lt.1 c1) with h | h
   ·rw [icmp_gt h]; decide
   ·rw [icmp_eq h.symm]; decide
  simp only [if_neg hc]
  have hlen := trim_len_le hb ha tb (Int.not_lt.1 c1)
  have hb2 : lv b = rd b 0 := by
   obtain ⟨x, rfl⟩ := List.length_eq_one_iff.1 c2
   simp [lv, rd]
  have bx := hb.at_ 0
  have hb3 : 0 < rd b 0 := by rw [← hb2]; omega
  have hs := small_ev ha (rd b 0) hb3 bx.2 (by omega)
  have hm0 := Int.emod_nonneg (lv a) (show lv b ≠ 0 by omega)
  have hm1 := Int.emod_lt_of_pos (lv a) (show 0 < lv b by omega)
  have ht := trim_all [lv a % rd b 0] (Lim.cons.2 ⟨by rw [← hb2]; omega, Lim.nil⟩) (by simp)
  rw [lv_one] at ht
  simp only [if_pos (show (b.length : Int) = 1 by omega), if_pos (show (0 : Int) < (b.length : Int) by omega)]
  rw [hb2]
  exact Ev.bind hs (Ev.bind ht (Ev.now _))
end Go.Proofs.YtppimdempdnhoaaDoor.C
namespace Go.Proofs.YtppimdempdnhoaaDoor.C
open Go.RowKit Go.PrWords Go.PrLast Go.PrMore
theorem lim_len_mono {m n : Nat} (h : m ≤ n) : (lim m).length ≤ (lim n).length := lim_len (by
 have h1 := lv_lt (Lim_lim n)
 rw [lv_lim] at h1
 have := Int.ofNat_le.2 h
 omega)
theorem lim_one {n : Nat} (hn : n ≠ 0) (h : n < 4294967296) : (lim n).length = 1 := by
 rw [lim_pos hn, Nat.div_eq_of_lt h, lim_zero]; rfl
theorem divideN_ev (m n : Nat) (hn : n ≠ 0) (h1 : (lim m).length ≤ 549755813000) (h2 : n < 4294967296) : Ev (fun k => n_divide.f k (lim m) (lim n)) (lim (m / n), lim (m % n)) := by
 have hp : 0 < (lim n).length := Nat.pos_of_ne_zero fun h => hn (lim_ne.1 h)
 have h := divide_ev (Lim_lim m) (Lim_lim n) (Trim_lim m) (Trim_lim n) hp h1 (lim_one hn h2)
 rw [lv_lim, lv_lim, ← Int.natCast_ediv, ← Int.natCast_emod, Int.toNat_natCast, Int.toNat_natCast] at h
 exact h
theorem gcd_loop : ∀ (n m : Nat), (lim m).length ≤ 549755813000 → n < 4294967296 → Ev (fun k => n_GCD.l0 k (lim m) (lim n)) (enc (Nat.gcd m n)) := by
 intro n
 induction n using Nat.strongRecOn with
 | ind n ih =>
  intro m h1 h2
  by_cases hn : n = 0
  ·subst hn
   have ht := text_ev (lim m) (Lim_lim m) (by omega)
   rw [lv_lim, Int.toNat_natCast] at ht
   rw [Nat.gcd_zero_right, lim_zero]
   refine Ev.step (f := fun k => (n_limbs_text.f k (lim m)).bind fun t => some t) (fun k => ?_) (Ev.bind ht (Ev.now _))
   simp only [n_GCD.l0]
   rw [if_neg (by simp)]
  ·have hp : 0 < (lim n).length := Nat.pos_of_ne_zero fun h => hn (lim_ne.1 h)
   have hr := ih (m % n) (Nat.mod_lt _ (Nat.pos_of_ne_zero hn)) n (by rw [lim_one hn h2]; decide) (by have := Nat.mod_lt m (Nat.pos_of_ne_zero hn); omega)
   rw [Nat.gcd_comm n, ← Nat.gcd_rec n m, Nat.gcd_comm n m] at hr
   refine Ev.step (f := fun k => (n_divide.f k (lim m) (lim n)).bind fun t => n_GCD.l0 k (lim n) t.2) (fun k => ?_) (Ev.bind (divideN_ev m n hn h1 h2) hr)
   simp only [n_GCD.l0]
   rw [if_pos (by omega)]
theorem lim_half (s : ByteArray) (h : s.size ≤ 549755813000) : (lim (nat s)).length ≤ 549755813000 := Nat.le_trans (lim_len (m := s.size) (by
  have h1 := nat_lt s
  have h2 : (256 : Nat) ^ s.size ≤ 4294967296 ^ s.size := Nat.pow_le_pow_left (by decide) _
  have h4 := Int.ofNat_lt.2 (show nat s < 4294967296 ^ s.size by omega)
  rw [Int.natCast_pow] at h4
  exact h4)) h
theorem GCD_ev (a b : ByteArray) (ha : a.size ≤ 549755813000) (hb : b.size ≤ 549755813000) (hs : nat b < 4294967296) : Ev (fun k => n_GCD.f k a b) (enc (Nat.gcd (nat a) (nat b))) := by
 unfold n_GCD.f
 exact Ev.bind (parse_ev a (by omega)) (Ev.bind (parse_ev b (by omega)) (gcd_loop _ _ (lim_half a ha) hs))
theorem Divide_ev (a b : ByteArray) (ha : a.size ≤ 549755813000) (hb : b.size ≤ 549755813000) (hn : nat b ≠ 0) (hs : nat b < 4294967296) : Ev (fun k => n_Divide.f k a b) (enc (nat a / nat b), enc (nat a % nat b), true) := by
 have hp : (lim (nat b)).length ≠ 0 := fun h => hn (lim_ne.1 h)
 have hd := divideN_ev (nat a) (nat b) hn (lim_half a ha) hs
 have l1 := lim_half a ha
 have l2 := lim_half b hb
 have t1 := text_ev (lim (nat a / nat b)) (Lim_lim _) (Nat.le_trans (lim_len_mono (Nat.div_le_self _ _)) (by omega))
 have t2 := text_ev (lim (nat a % nat b)) (Lim_lim _) (Nat.le_trans (lim_len_mono (Nat.le_of_lt (Nat.mod_lt _ (Nat.pos_of_ne_zero hn)))) (by omega))
 rw [lv_lim, Int.toNat_natCast] at t1 t2
 unfold n_Divide.f
 refine Ev.bind (parse_ev b (by omega)) ?_
 simp only [if_neg (show ¬ (((lim (nat b)).length : Int) = 0) by omega)]
 exact Ev.bind (parse_ev a (by omega)) (Ev.bind hd (Ev.bind t1 (Ev.bind t2 (Ev.now _))))
end Go.Proofs.YtppimdempdnhoaaDoor.C
namespace Go.Proofs.YtppimdempdnhoaaDoor.C
open Go.RowKit Go.PrWords Go.PrLast Go.PrMore
theorem tl_nil {s : ByteArray} : s.toList = ([] : List UInt8) ↔ s = ⟨#[]⟩ := by
 rw [Lib.toList_data]
 exact ⟨fun h => ba_ext (by rw [h]), fun h => by rw [h]⟩
theorem tl_one {s : ByteArray} : s.toList = ([1] : List UInt8) ↔ s = ⟨#[1]⟩ := by
 rw [Lib.toList_data]
 exact ⟨fun h => ba_ext (by rw [h]), fun h => by rw [h]⟩
theorem tl_eq {s t : ByteArray} : s.toList = t.toList ↔ s = t := by
 rw [Lib.toList_data, Lib.toList_data]
 exact ⟨ba_ext, fun h => by rw [h]⟩
theorem nat_nil : nat ⟨#[]⟩ = 0 := rfl
theorem nat_one : nat ⟨#[1]⟩ = 1 := rfl
theorem enc_one : enc 1 = ⟨#[1]⟩ := by unfold enc; rw [dig_pos (by decide), show 1 / 256 = 0 from rfl, dig_zero]; rfl
theorem enc_eq_nil {n : Nat} : enc n = ⟨#[]⟩ ↔ n = 0 := ⟨fun h => by rw [← nat_enc n, h, nat_nil], fun h => by rw [h, enc_zero]⟩
theorem enc_eq_one {n : Nat} : enc n = ⟨#[1]⟩ ↔ n = 1 := ⟨fun h => by rw [← nat_enc n, h, nat_one], fun h => by rw [h, enc_one]⟩
def eN (q : Rat) : Bool := decide (q.num < 0)
def eA (q : Rat) : ByteArray := enc q.num.natAbs
def dE (d : Nat) : ByteArray := if d = 1 then ⟨#[]⟩ else enc d
def eD (q : Rat) : ByteArray := dE q.den
def dV (d : ByteArray) : Nat := if d = ⟨#[]⟩ then 1 else nat d
instance : DecidableEq ByteArray := fun a b => if h : a.data = b.data then isTrue (by cases a; cases b; simp at h; rw [h]) else isFalse (fun e => h (by rw [e]))
def ok (n : Bool) (a d : ByteArray) : Bool := decide (enc (nat a) = a ∧ enc (nat d) = d ∧ (if nat a = 0 then n = false ∧ d = ⟨#[]⟩ else d = ⟨#[]⟩ ∨ nat d ≠ 1 ∧ Nat.gcd (nat a) (nat d) = 1))
def sgn (n : Bool) (a : Nat) : Int := if n then -(a : Int) else a
def val (n : Bool) (a d : ByteArray) : Rat := if ok n a d then mkRat (sgn n (nat a)) (dV d) else 0
theorem dV_dE {d : Nat} (h : d ≠ 0) : dV (dE d) = d := by
 unfold dE dV
 by_cases h1 : d = 1
 ·simp [h1]
 ·rw [if_neg h1, if_neg (fun e => h (enc_eq_nil.1 e)), nat_enc]
theorem nat_eA (q : Rat) : nat (eA q) = q.num.natAbs := nat_enc _
theorem sgn_e (q : Rat) : sgn (eN q) q.num.natAbs = q.num := by
 unfold sgn eN
 by_cases h : q.num < 0
 ·rw [if_pos (by simpa using h)]; omega
 ·rw [if_neg (by simpa using h)]; omega
theorem ok_e (q : Rat) : ok (eN q) (eA q) (eD q) = true := by
 unfold ok
 refine decide_eq_true ⟨by rw [nat_eA]; rfl, ?_, ?_⟩
 ·unfold eD dE
  by_cases h : q.den = 1
  ·rw [if_pos h, nat_nil, enc_zero]
  ·rw [if_neg h, nat_enc]
 ·rw [nat_eA]
  have hr := q.reduced
  by_cases h : q.num.natAbs = 0
  ·rw [if_pos h]
   unfold Nat.Coprime at hr
   rw [h, Nat.gcd_zero_left] at hr
   refine ⟨decide_eq_false (by omega), ?_⟩
   unfold eD dE
   rw [if_pos hr]
  ·rw [if_neg h]
   unfold eD dE
   by_cases h1 : q.den = 1
   ·rw [if_pos h1]; exact .inl rfl
   ·rw [if_neg h1, nat_enc]; exact .inr ⟨h1, hr⟩
theorem val_e (q : Rat) : val (eN q) (eA q) (eD q) = q := by
 unfold val
 rw [if_pos (ok_e q), nat_eA, sgn_e]
 show mkRat q.num (dV (dE q.den)) = q
 rw [dV_dE q.den_nz, Rat.mkRat_self]
theorem ok_ex {n : Bool} {a d : ByteArray} (h : ok n a d = true) : ∃ q, eN q = n ∧ eA q = a ∧ eD q = d := by
 obtain ⟨h1, h2, h3⟩ := of_decide_eq_true h
 by_cases ha : nat a = 0
 ·rw [if_pos ha] at h3
  obtain ⟨rfl, rfl⟩ := h3
  refine ⟨0, rfl, ?_, rfl⟩
  rw [← h1, ha]; rfl
 ·rw [if_neg ha] at h3
  have hd : dV d ≠ 0 := by
   unfold dV
   by_cases h4 : d = ⟨#[]⟩
   ·rw [if_pos h4]; decide
   ·rw [if_neg h4]; intro h5; rw [h5, enc_zero] at h2; exact h4 h2.symm
  have hc : Nat.Coprime (sgn n (nat a)).natAbs (dV d) := by
   have e1 : (sgn n (nat a)).natAbs = nat a := by unfold sgn; split <;> omega
   rw [e1]
   unfold dV
   by_cases h4 : d = ⟨#[]⟩
   ·rw [if_pos h4]; exact Nat.gcd_one_right _
   ·rw [if_neg h4]
    rcases h3 with h5 | h5
    ·exact absurd h5 h4
    ·exact h5.2
  refine ⟨⟨sgn n (nat a), dV d, hd, hc⟩, ?_, ?_, ?_⟩
  ·unfold eN sgn
   cases n
   ·exact decide_eq_false (by simp)
   ·exact decide_eq_true (by simp; omega)
  ·unfold eA
   have e1 : (sgn n (nat a)).natAbs = nat a := by unfold sgn; split <;> omega
   rw [e1, h1]
  ·show dE (dV d) = d
   unfold dE dV
   by_cases h4 : d = ⟨#[]⟩
   ·rw [if_pos h4, if_pos rfl, h4]
   ·rw [if_neg h4]
    rcases h3 with h5 | h5
    ·exact absurd h5 h4
    ·rw [if_neg h5.1, h2]
theorem val_ok {n : Bool} {a d : ByteArray} (h : ok n a d = true) : eN (val n a d) = n ∧ eA (val n a d) = a ∧ eD (val n a d) = d := by
 obtain ⟨q, rfl, rfl, rfl⟩ := ok_ex h
 rw [val_e]; exact ⟨rfl, rfl, rfl⟩
theorem val_bad {n : Bool} {a d : ByteArray} (h : ok n a d = false) : val n a d = 0 := by unfold val; rw [h]; rfl
theorem Valid_ev (n : Bool) (a d : ByteArray) (ha : a.size ≤ 549755813000) (hd : d.size ≤ 549755813000) (hs : nat d < 4294967296) : Ev (fun k => q_Valid.f k n a d) (ok n a d) := by
 unfold q_Valid.f
 refine Ev.bind (normalize_ev a) ?_
 simp only [tl_eq]
 by_cases h1 : enc (nat a) = a
 ·simp only [if_pos h1]
  refine Ev.bind (normalize_ev d) ?_
  by_cases h2 : enc (nat d) = d
  ·rw [show ((enc (nat d)).toList != d.toList) = false by rw [h2]; simp]
   by_cases h3 : a = ⟨#[]⟩
   ·have h4 : nat a = 0 := by rw [h3]; rfl
    refine Ev.step (f := fun _ => if n = true then some false else some (d.toList == ([] : List UInt8))) (fun k => ?_) ?_
    ·simp only [q_Valid.j0]
     rw [if_neg (by decide), if_pos (tl_nil.2 h3)]
    ·cases n
     ·rw [if_neg (by decide)]
      have : ok false a d = (d.toList == ([] : List UInt8)) := by
       unfold ok
       by_cases h5 : d = ⟨#[]⟩
       ·rw [decide_eq_true ⟨h1, h2, by rw [if_pos h4]; exact ⟨rfl, h5⟩⟩, tl_nil.2 h5]; rfl
       ·rw [decide_eq_false (fun ⟨_, _, h9⟩ => by rw [if_pos h4] at h9; exact h5 h9.2)]
        exact (beq_eq_false_iff_ne.2 (fun e => h5 (tl_nil.1 e))).symm
      rw [this]; exact Ev.now _
     ·rw [if_pos rfl]
      have : ok true a d = false := by
       unfold ok
       simp [h4]
      rw [this]; exact Ev.now _
   ·have h4 : nat a ≠ 0 := fun e => h3 (by rw [← h1, e, enc_zero])
    by_cases h5 : d = ⟨#[]⟩
    ·refine Ev.step (f := fun _ => some true) (fun k => ?_) ?_
     ·simp only [q_Valid.j0]
      rw [if_neg (by decide), if_neg (fun e => h3 (tl_nil.1 e)), if_pos (tl_nil.2 h5)]
     ·have : ok n a d = true := by
       unfold ok
       exact decide_eq_true ⟨h1, h2, by rw [if_neg h4]; exact .inl h5⟩
      rw [this]; exact Ev.now _
    ·by_cases h6 : d = ⟨#[1]⟩
     ·refine Ev.step (f := fun _ => some false) (fun k => ?_) ?_
      ·simp only [q_Valid.j0]
       rw [if_neg (by decide), if_neg (fun e => h3 (tl_nil.1 e)), if_neg (fun e => h5 (tl_nil.1 e)), if_pos (tl_one.2 h6)]
      ·have : ok n a d = false := by
        unfold ok
        refine decide_eq_false fun ⟨_, _, h7⟩ => ?_
        rw [if_neg h4] at h7
        rcases h7 with h7 | h7
        ·exact h5 h7
        ·exact h7.1 (by rw [h6]; rfl)
       rw [this]; exact Ev.now _
     ·have hg := GCD_ev a d ha hd hs
      refine Ev.step (f := fun k => (n_GCD.f k a d).bind fun t => some (t.toList == ([1] : List UInt8))) (fun k => ?_) ?_
      ·simp only [q_Valid.j0]
       rw [if_neg (by decide), if_neg (fun e => h3 (tl_nil.1 e)), if_neg (fun e => h5 (tl_nil.1 e)), if_neg (fun e => h6 (tl_one.1 e))]
      ·have h7 : nat d ≠ 1 := fun e => h6 (by rw [← h2, e, enc_one])
       have : ok n a d = ((enc (Nat.gcd (nat a) (nat d))).toList == ([1] : List UInt8)) := by
        unfold ok
        by_cases h8 : Nat.gcd (nat a) (nat d) = 1
        ·rw [decide_eq_true ⟨h1, h2, by rw [if_neg h4]; exact .inr ⟨h7, h8⟩⟩, h8, enc_one]; rw [tl_one.2 rfl]; rfl
        ·rw [decide_eq_false (fun ⟨_, _, h9⟩ => by
          rw [if_neg h4] at h9
          rcases h9 with h9 | h9
          ·exact h5 h9
          ·exact h8 h9.2)]
         exact (beq_eq_false_iff_ne.2 (fun e => h8 (enc_eq_one.1 (tl_one.1 e)))).symm
       rw [this]
       exact Ev.bind hg (Ev.now _)
  ·have : ok n a d = false := decide_eq_false fun h => h2 h.2.1
   rw [this, show ((enc (nat d)).toList != d.toList) = true by rw [bne_iff_ne]; exact fun e => h2 (tl_eq.1 e)]
   refine Ev.step (f := fun _ => some false) (fun k => ?_) (Ev.now _)
   simp only [q_Valid.j0]
   rfl
 ·have : ok n a d = false := decide_eq_false fun h => h1 h.1
  simp only [if_neg h1]
  rw [this]
  refine Ev.step (f := fun _ => some false) (fun k => ?_) (Ev.now _)
  simp only [q_Valid.j0]
  rfl
theorem clean_ev (n : Bool) (a d : ByteArray) (ha : a.size ≤ 549755813000) (hd : d.size ≤ 549755813000) (hs : nat d < 4294967296) : Ev (fun k => q_clean.f k n a d) (eN (val n a d), eA (val n a d), eD (val n a d)) := by
 unfold q_clean.f
 refine Ev.bind (Valid_ev n a d ha hd hs) ?_
 cases h : ok n a d
 ·rw [val_bad h]
  have e : eA 0 = (⟨#[]⟩ : ByteArray) := enc_zero
  rw [e]
  exact Ev.now _
 ·simp only [if_true]; rw [(val_ok h).1, (val_ok h).2.1, (val_ok h).2.2]; exact Ev.now _
end Go.Proofs.YtppimdempdnhoaaDoor.C
namespace Go.Proofs.YtppimdempdnhoaaDoor.C
open Go.RowKit Go.PrWords Go.PrLast Go.PrMore
theorem sgn_abs (n : Bool) (a : Nat) : (sgn n a).natAbs = a := by unfold sgn; split <;> omega
theorem sgn_div (n : Bool) (a g : Nat) (h : g ∣ a) : sgn n a / (g : Int) = sgn n (a / g) := by
 unfold sgn
 cases n
 ·simp
 ·simp only [if_true]
  rw [Int.neg_ediv_of_dvd (Int.natCast_dvd_natCast.2 h), Int.natCast_ediv]
theorem e_mk (n : Bool) (a b : Nat) (ha : a ≠ 0) (hb : b ≠ 0) : eN (mkRat (sgn n a) b) = n ∧ eA (mkRat (sgn n a) b) = enc (a / Nat.gcd a b) ∧ eD (mkRat (sgn n a) b) = dE (b / Nat.gcd a b) := by
 have hn : (mkRat (sgn n a) b).num = sgn n (a / Nat.gcd a b) := by
  rw [Rat.num_mkRat, if_neg hb, sgn_abs, Nat.gcd_comm b a, sgn_div _ _ _ (Nat.gcd_dvd_left a b)]
 have hp : 0 < a / Nat.gcd a b := Nat.div_pos (Nat.gcd_le_left b (Nat.pos_of_ne_zero ha)) (Nat.gcd_pos_of_pos_left b (Nat.pos_of_ne_zero ha))
 refine ⟨?_, ?_, ?_⟩
 ·unfold eN
  rw [hn]
  generalize a / Nat.gcd a b = c at hp
  unfold sgn
  cases n
  ·exact decide_eq_false (by simp)
  ·exact decide_eq_true (by simp; omega)
 ·unfold eA; rw [hn, sgn_abs]
 ·unfold eD; rw [Rat.den_mkRat, if_neg hb, sgn_abs, Nat.gcd_comm b a]
theorem reduced_ev (n : Bool) (a b : ByteArray) (ha : a.size ≤ 549755813000) (hb : b.size ≤ 549755813000) (h0 : nat b ≠ 0) (hs : nat b < 4294967296) : Ev (fun k => q_reduced.f k n a b) (eN (mkRat (sgn n (nat a)) (nat b)), eA (mkRat (sgn n (nat a)) (nat b)), eD (mkRat (sgn n (nat a)) (nat b))) := by
 have sa : (enc (nat a)).size ≤ 549755813000 := Nat.le_trans (enc_nat_size_le a) ha
 have sb : (enc (nat b)).size ≤ 549755813000 := Nat.le_trans (enc_nat_size_le b) hb
 unfold q_reduced.f
 refine Ev.bind (normalize_ev a) (Ev.bind (normalize_ev b) ?_)
 by_cases h1 : nat a = 0
 ·rw [h1, show sgn n 0 = 0 by unfold sgn; split <;> rfl, Rat.zero_mkRat]
  simp only [tl_nil, enc_zero, if_true]
  have e : eA 0 = (⟨#[]⟩ : ByteArray) := enc_zero
  rw [e]
  exact Ev.now _
 ·obtain ⟨e1, e2, e3⟩ := e_mk n (nat a) (nat b) h1 h0
  rw [e1, e2, e3]
  simp only [if_neg (show ¬ ((enc (nat a)).toList = ([] : List UInt8)) from fun e => h1 (enc_eq_nil.1 (tl_nil.1 e)))]
  by_cases h2 : nat b = 1
  ·simp only [if_pos (show (enc (nat b)).toList = ([1] : List UInt8) from tl_one.2 (enc_eq_one.2 h2))]
   rw [h2, Nat.gcd_one_right, Nat.div_one, show dE (1 / 1) = ⟨#[]⟩ from rfl]
   exact Ev.now _
  ·simp only [if_neg (show ¬ ((enc (nat b)).toList = ([1] : List UInt8)) from fun e => h2 (enc_eq_one.1 (tl_one.1 e)))]
   have hg := GCD_ev (enc (nat a)) (enc (nat b)) sa sb (by rw [nat_enc]; exact hs)
   rw [nat_enc, nat_enc] at hg
   refine Ev.bind hg ?_
   by_cases h3 : Nat.gcd (nat a) (nat b) = 1
   ·simp only [if_pos (show (enc (Nat.gcd (nat a) (nat b))).toList = ([1] : List UInt8) from tl_one.2 (enc_eq_one.2 h3))]
    rw [h3, Nat.div_one, Nat.div_one, show dE (nat b) = enc (nat b) by unfold dE; rw [if_neg h2]]
    exact Ev.now _
   ·simp only [if_neg (show ¬ ((enc (Nat.gcd (nat a) (nat b))).toList = ([1] : List UInt8)) from fun e => h3 (enc_eq_one.1 (tl_one.1 e)))]
    have hg0 : nat (enc (Nat.gcd (nat a) (nat b))) ≠ 0 := by rw [nat_enc]; exact fun e => h1 (Nat.gcd_eq_zero_iff.1 e).1
    have sg : (enc (Nat.gcd (nat a) (nat b))).size ≤ 549755813000 := Nat.le_trans (enc_size_mono (Nat.gcd_le_left _ (Nat.pos_of_ne_zero h1))) sa
    have hgs : nat (enc (Nat.gcd (nat a) (nat b))) < 4294967296 := by rw [nat_enc]; exact Nat.lt_of_le_of_lt (Nat.gcd_le_right _ (Nat.pos_of_ne_zero h0)) hs
    have d1 := Divide_ev (enc (nat a)) (enc (Nat.gcd (nat a) (nat b))) sa sg hg0 hgs
    have d2 := Divide_ev (enc (nat b)) (enc (Nat.gcd (nat a) (nat b))) sb sg hg0 hgs
    rw [nat_enc, nat_enc] at d1 d2
    refine Ev.bind d1 (Ev.bind d2 ?_)
    by_cases h4 : nat b / Nat.gcd (nat a) (nat b) = 1
    ·simp only [if_pos (show (enc (nat b / Nat.gcd (nat a) (nat b))).toList = ([1] : List UInt8) from tl_one.2 (enc_eq_one.2 h4))]
     rw [h4]; exact Ev.now _
    ·simp only [if_neg (show ¬ ((enc (nat b / Nat.gcd (nat a) (nat b))).toList = ([1] : List UInt8)) from fun e => h4 (enc_eq_one.1 (tl_one.1 e)))]
     rw [show dE (nat b / Nat.gcd (nat a) (nat b)) = enc (nat b / Nat.gcd (nat a) (nat b)) by unfold dE; rw [if_neg h4]]
     exact Ev.now _
theorem eA_nil {q : Rat} : (eA q).toList = ([] : List UInt8) ↔ q = 0 := by
 rw [tl_nil]; unfold eA; rw [enc_eq_nil]
 exact ⟨fun h => Rat.num_eq_zero.1 (by omega), fun h => by rw [h]; rfl⟩
def isgn (q : Rat) : Int := if q < 0 then -1 else if 0 < q then 1 else 0
theorem eN_lt (q : Rat) : eN q = true ↔ q < 0 := by
 unfold eN
 rw [decide_eq_true_iff, Rat.lt_iff]
 simp
theorem signOf_ev (q : Rat) : q_signOf.f (eN q) (eA q) (eD q) = some (isgn q) := by
 unfold q_signOf.f isgn
 by_cases h : q = 0
 ·rw [if_pos (eA_nil.2 h), h]; rfl
 ·rw [if_neg (fun e => h (eA_nil.1 e))]
  by_cases h1 : q < 0
  ·rw [if_pos ((eN_lt q).2 h1), if_pos h1]
  ·rw [if_neg (fun e => h1 ((eN_lt q).1 e)), if_neg h1, if_pos (by grind)]
theorem den_ev (q : Rat) : q_den.f (eN q) (eA q) (eD q) = some (enc q.den) := by
 unfold q_den.f
 unfold eD dE
 by_cases h : q.den = 1
 ·rw [if_pos h, if_pos (tl_nil.2 rfl), h, enc_one]
 ·rw [if_neg h, if_neg (fun e => q.den_nz (enc_eq_nil.1 (tl_nil.1 e)))]
theorem negate_ev (q : Rat) : q_negate.f (eN q) (eA q) (eD q) = some (eN (-q), eA (-q), eD (-q)) := by
 have e2 : eA (-q) = eA q := by unfold eA; rw [Rat.neg_num, Int.natAbs_neg]
 have e3 : eD (-q) = eD q := by unfold eD; rw [Rat.neg_den]
 unfold q_negate.f
 rw [e2, e3]
 by_cases h : eN q = true
 ·rw [if_pos h, show eN (-q) = false from by
   have := (eN_lt q).1 h
   rw [← Bool.not_eq_true, eN_lt]; grind]
 ·rw [if_neg h]
  have h1 : ¬ q < 0 := fun e => h ((eN_lt q).2 e)
  congr 2
  by_cases h2 : q = 0
  ·rw [eA_nil.2 h2, h2]; rfl
  ·rw [(eN_lt (-q)).2 (by grind)]
   exact bne_iff_ne.2 (fun e => h2 (eA_nil.1 e))
end Go.Proofs.YtppimdempdnhoaaDoor.C
namespace Go.Proofs.YtppimdempdnhoaaDoor.C
open Go.RowKit Go.PrWords Go.PrLast Go.PrMore
def Sz (n : Nat) (q : Rat) : Prop := q.num.natAbs < 256 ^ n ∧ q.den < 4294967296
theorem Sz.a {n : Nat} {q : Rat} (h : Sz n q) : (eA q).size ≤ n := enc_size_le h.1
theorem Sz.d {n : Nat} {q : Rat} (h : Sz n q) : (enc q.den).size ≤ 4 := enc_size_le (show q.den < 256 ^ 4 from h.2)
theorem Sz.eD {n : Nat} {q : Rat} (h : Sz n q) : (eD q).size ≤ 4 := by
 unfold C.eD dE
 split
 ·exact Nat.zero_le _
 ·exact h.d
theorem Sz.nD {n : Nat} {q : Rat} (h : Sz n q) : nat (C.eD q) < 4294967296 := by
 unfold C.eD dE
 split
 ·rw [nat_nil]; decide
 ·rw [nat_enc]; exact h.2
theorem clean_e (q : Rat) {n : Nat} (h : Sz n q) (hn : n ≤ 549755813000) : Ev (fun k => q_clean.f k (eN q) (eA q) (eD q)) (eN q, eA q, eD q) := by
 have := clean_ev (eN q) (eA q) (eD q) (Nat.le_trans h.a hn) (Nat.le_trans h.eD (by omega)) h.nD
 rw [val_e] at this
 exact this
theorem mul_size {a b m n : Nat} (ha : a < 256 ^ m) (hb : b < 256 ^ n) : a * b < 256 ^ (m + n) := by
 rw [Nat.pow_add]; exact Nat.mul_lt_mul'' ha hb
theorem add_j0 (p q : Rat) (X Y Z m : Nat) (hX : X < 256 ^ m) (hY : Y < 256 ^ m) (hZ : Z < 4294967296) (hm : m ≤ 549755812000) (h0 : Z ≠ 0) (dp dq : ByteArray) (ap aq : ByteArray) :
  Ev (fun k => q_add.j0 k (enc X) (enc Y) (enc Z) (eN p) ap dp (eN q) aq dq) (eN (mkRat (sgn (eN p) X + sgn (eN q) Y) Z), eA (mkRat (sgn (eN p) X + sgn (eN q) Y) Z), eD (mkRat (sgn (eN p) X + sgn (eN q) Y) Z)) := by
 have sx : (enc X).size ≤ m := enc_size_le hX
 have sy : (enc Y).size ≤ m := enc_size_le hY
 have sz : (enc Z).size ≤ 4 := enc_size_le (show Z < 256 ^ 4 from hZ)
 have nz : nat (enc Z) < 4294967296 := by rw [nat_enc]; exact hZ
 by_cases hs : eN p = eN q
 ·have ha := Add_ev (enc X) (enc Y) (by omega) (by omega)
  rw [nat_enc, nat_enc] at ha
  have sxy : (enc (X + Y)).size ≤ m + 1 := enc_size_le (by rw [Nat.pow_succ]; omega)
  have hr := reduced_ev (eN p) (enc (X + Y)) (enc Z) (by omega) (by omega) (by rw [nat_enc]; exact h0) nz
  rw [nat_enc, nat_enc, show sgn (eN p) (X + Y) = sgn (eN p) X + sgn (eN q) Y by rw [← hs]; unfold sgn; split <;> omega] at hr
  refine Ev.step (f := fun k => (n_Add.f k (enc X) (enc Y)).bind fun t => (q_reduced.f k (eN p) t (enc Z)).bind fun b => some (b.1, b.2.1, b.2.2)) (fun k => ?_) (Ev.bind ha (Ev.bind hr (Ev.now _)))
  simp only [q_add.j0]
  rw [if_pos (beq_iff_eq.2 hs)]
 ·have h1 := Subtract_ev (enc X) (enc Y) (by omega) (by omega)
  rw [nat_enc, nat_enc] at h1
  by_cases hlt : X < Y
  ·rw [if_pos hlt] at h1
   have h2 := Subtract_ev (enc Y) (enc X) (by omega) (by omega)
   rw [nat_enc, nat_enc, if_neg (by omega)] at h2
   have sd : (enc (Y - X)).size ≤ m := enc_size_le (by omega)
   have hr := reduced_ev (eN q) (enc (Y - X)) (enc Z) (by omega) (by omega) (by rw [nat_enc]; exact h0) nz
   rw [nat_enc, nat_enc, show sgn (eN q) (Y - X) = sgn (eN p) X + sgn (eN q) Y by
    unfold sgn
    cases hp : eN p <;> cases hq : eN q
    ·exact absurd (hp.trans hq.symm) hs
    ·simp; omega
    ·simp; omega
    ·exact absurd (hp.trans hq.symm) hs] at hr
   refine Ev.step (f := fun k => (n_Subtract.f k (enc X) (enc Y)).bind fun t => if t.2 = true then (q_reduced.f k (eN p) t.1 (enc Z)).bind fun b => some (b.1, b.2.1, b.2.2) else (n_Subtract.f k (enc Y) (enc X)).bind fun t => (q_reduced.f k (eN q) t.1 (enc Z)).bind fun b => some (b.1, b.2.1, b.2.2)) (fun k => ?_) (Ev.bind h1 ?_)
   ·simp only [q_add.j0]
    rw [if_neg (fun e => hs (beq_iff_eq.1 e))]
   ·simp only [if_neg (show ¬ (false = true) by decide)]
    exact Ev.bind h2 (Ev.bind hr (Ev.now _))
  ·rw [if_neg hlt] at h1
   have sd : (enc (X - Y)).size ≤ m := enc_size_le (by omega)
   have hr := reduced_ev (eN p) (enc (X - Y)) (enc Z) (by omega) (by omega) (by rw [nat_enc]; exact h0) nz
   rw [nat_enc, nat_enc, show sgn (eN p) (X - Y) = sgn (eN p) X + sgn (eN q) Y by
    unfold sgn
    cases hp : eN p <;> cases hq : eN q
    ·exact absurd (hp.trans hq.symm) hs
    ·simp; omega
    ·simp; omega
    ·exact absurd (hp.trans hq.symm) hs] at hr
   refine Ev.step (f := fun k => (n_Subtract.f k (enc X) (enc Y)).bind fun t => if t.2 = true then (q_reduced.f k (eN p) t.1 (enc Z)).bind fun b => some (b.1, b.2.1, b.2.2) else (n_Subtract.f k (enc Y) (enc X)).bind fun t => (q_reduced.f k (eN q) t.1 (enc Z)).bind fun b => some (b.1, b.2.1, b.2.2)) (fun k => ?_) (Ev.bind h1 ?_)
   ·simp only [q_add.j0]
    rw [if_neg (fun e => hs (beq_iff_eq.1 e))]
   ·simp only [if_true]
    exact Ev.bind hr (Ev.now _)
end Go.Proofs.YtppimdempdnhoaaDoor.C
namespace Go.Proofs.YtppimdempdnhoaaDoor.C
open Go.RowKit Go.PrWords Go.PrLast Go.PrMore
theorem sgn_mul (n : Bool) (a b : Nat) : sgn n (a * b) = sgn n a * (b : Int) := by
 unfold sgn
 split
 ·rw [Int.natCast_mul, Int.neg_mul]
 ·rw [Int.natCast_mul]
theorem eA_eq (q : Rat) : eA q = enc q.num.natAbs := rfl
theorem Sz.d4 {n : Nat} {q : Rat} (h : Sz n q) : q.den < 256 ^ 4 := Nat.lt_of_lt_of_eq h.2 (by decide)
theorem dE_inj {a b : Nat} (ha : a ≠ 0) (hb : b ≠ 0) (h : dE a = dE b) : a = b := by rw [← dV_dE ha, h, dV_dE hb]
theorem add_ev (p q : Rat) {m n : Nat} (hp : Sz m p) (hq : Sz n q) (hm : m ≤ 100000) (hn : n ≤ 100000) (hd : p.den * q.den < 4294967296) : Ev (fun k => q_add.f k (eN p) (eA p) (eD p) (eN q) (eA q) (eD q)) (eN (p + q), eA (p + q), eD (p + q)) := by
 have w : ∀ {x r : Nat}, x < 256 ^ r → r ≤ m + n + 4 → x < 256 ^ (m + n + 4) := fun hx hr => Nat.lt_of_lt_of_le hx (Nat.pow_le_pow_right (by decide) hr)
 have dp : Ev (fun _ => q_den.f (eN p) (eA p) (eD p)) (enc p.den) := by rw [den_ev p]; exact Ev.now _
 have dq : Ev (fun _ => q_den.f (eN q) (eA q) (eD q)) (enc q.den) := by rw [den_ev q]; exact Ev.now _
 unfold q_add.f
 by_cases h : p.den = q.den
 ·simp only [if_pos (show (eD p).toList = (eD q).toList by unfold eD; rw [h])]
  refine Ev.bind dp ?_
  have e1 : p + q = mkRat (sgn (eN p) p.num.natAbs + sgn (eN q) q.num.natAbs) p.den := by
   rw [sgn_e, sgn_e, Rat.add_def', ← h, ← Int.add_mul, Rat.mkRat_mul_right p.den_nz]
  rw [e1]
  have hj := add_j0 p q p.num.natAbs q.num.natAbs p.den (m + n + 4) (w hp.1 (by omega)) (w hq.1 (by omega)) hp.2 (by omega) p.den_nz (eD p) (eD q) (eA p) (eA q)
  rw [← eA_eq p, ← eA_eq q] at hj
  exact hj
 ·have hne : ¬ ((eD p).toList = (eD q).toList) := fun e => h (dE_inj p.den_nz q.den_nz (tl_eq.1 e))
  simp only [if_neg hne]
  have m1 := Multiply_ev (eA p) (enc q.den) (Nat.le_trans hp.a (by omega)) (Nat.le_trans hq.d (by omega))
  have m2 := Multiply_ev (eA q) (enc p.den) (Nat.le_trans hq.a (by omega)) (Nat.le_trans hp.d (by omega))
  have m3 := Multiply_ev (enc p.den) (enc q.den) (Nat.le_trans hp.d (by omega)) (Nat.le_trans hq.d (by omega))
  rw [nat_eA, nat_enc] at m1 m2
  rw [nat_enc, nat_enc] at m3
  have e1 : p + q = mkRat (sgn (eN p) (p.num.natAbs * q.den) + sgn (eN q) (q.num.natAbs * p.den)) (p.den * q.den) := by
   rw [sgn_mul, sgn_mul, sgn_e, sgn_e, Rat.add_def']
  rw [e1]
  exact Ev.bind dq (Ev.bind m1 (Ev.bind dp (Ev.bind m2 (Ev.bind dp (Ev.bind dq (Ev.bind m3 (add_j0 p q _ _ _ (m + n + 4) (w (r := m + 4) (mul_size hp.1 hq.d4) (by omega)) (w (r := n + 4) (mul_size hq.1 hp.d4) (by omega)) hd (by omega) (Nat.mul_ne_zero p.den_nz q.den_nz) (eD p) (eD q) (eA p) (eA q))))))))
def T (z : Int) : Rat := mkRat z 60
theorem T_den (z : Int) : (T z).den ≤ 60 := by
 unfold T
 rw [Rat.den_mkRat, if_neg (by decide)]
 exact Nat.div_le_self _ _
theorem T_num (z : Int) : (T z).num.natAbs ≤ z.natAbs := by
 unfold T
 rw [Rat.num_mkRat, if_neg (by decide)]
 exact Int.natAbs_ediv_le_natAbs _ _
theorem T_neg_iff (z : Int) : (T z).num < 0 ↔ z < 0 := by
 unfold T
 rw [Rat.num_mkRat, if_neg (by decide)]
 have hg : (0 : Int) < ((Nat.gcd 60 z.natAbs : Nat) : Int) := by have := Nat.gcd_pos_of_pos_left z.natAbs (show 0 < 60 by decide); omega
 have := Int.ediv_nonneg_iff_of_pos (a := z) hg
 omega
theorem T_cross (z : Int) : (T z).num * 60 = z * ((T z).den : Int) := by
 have h : mkRat (T z).num (T z).den = mkRat z 60 := Rat.mkRat_self _
 exact (Rat.mkRat_eq_iff (T z).den_nz (by decide)).1 h
theorem T_inj {z w : Int} (h : T z = T w) : z = w := by
 have := (Rat.mkRat_eq_iff (d₁ := 60) (d₂ := 60) (by decide) (by decide)).1 h
 omega
theorem T_add (z w : Int) : T z + T w = T (z + w) := by
 unfold T
 rw [Rat.mkRat_eq_div, Rat.mkRat_eq_div, Rat.mkRat_eq_div]
 grind
theorem T_neg (z : Int) : -T z = T (-z) := Rat.neg_mkRat _ _
theorem T_zero : T 0 = 0 := Rat.zero_mkRat _
def Mod (z : Int) : Prop := z.natAbs < 1152921504606846976
theorem Mod.sz {z : Int} (h : Mod z) : Sz 8 (T z) := ⟨Nat.lt_of_le_of_lt (T_num z) (Nat.lt_trans h (by decide)), Nat.lt_of_le_of_lt (T_den z) (by decide)⟩
theorem T_dens (z w : Int) : (T z).den * (T w).den < 4294967296 := Nat.lt_of_le_of_lt (Nat.mul_le_mul (T_den z) (T_den w)) (by decide)
def e3 (z : Int) : Bool × ByteArray × ByteArray := (eN (T z), eA (T z), eD (T z))
theorem add_z {z w : Int} (hz : Mod z) (hw : Mod w) : Ev (fun k => q_add.f k (e3 z).1 (e3 z).2.1 (e3 z).2.2 (e3 w).1 (e3 w).2.1 (e3 w).2.2) (e3 (z + w)) := by
 have := add_ev (T z) (T w) hz.sz hw.sz (by decide) (by decide) (T_dens z w)
 rw [T_add] at this
 exact this
theorem clean_z {z : Int} (hz : Mod z) : Ev (fun k => q_clean.f k (e3 z).1 (e3 z).2.1 (e3 z).2.2) (e3 z) := clean_e (T z) hz.sz (by decide)
theorem Add_z {z w : Int} (hz : Mod z) (hw : Mod w) : Ev (fun k => q_Add.f k (e3 z).1 (e3 z).2.1 (e3 z).2.2 (e3 w).1 (e3 w).2.1 (e3 w).2.2) (e3 (z + w)) := by
 unfold q_Add.f
 exact Ev.bind (clean_z hz) (Ev.bind (clean_z hw) (Ev.bind (add_z hz hw) (Ev.now _)))
theorem Mod.neg {z : Int} (h : Mod z) : Mod (-z) := by unfold Mod at *; omega
theorem Subtract_z {z w : Int} (hz : Mod z) (hw : Mod w) : Ev (fun k => q_Subtract.f k (e3 z).1 (e3 z).2.1 (e3 z).2.2 (e3 w).1 (e3 w).2.1 (e3 w).2.2) (e3 (z - w)) := by
 unfold q_Subtract.f
 refine Ev.bind (clean_z hz) (Ev.bind (clean_z hw) ?_)
 have hn : q_negate.f (e3 w).1 (e3 w).2.1 (e3 w).2.2 = some (e3 (-w)) := by
  have := negate_ev (T w)
  rw [T_neg] at this
  exact this
 simp only [hn, Option.bind_some]
 have := add_z hz hw.neg
 rw [← Int.sub_eq_add_neg] at this
 exact Ev.bind this (Ev.now _)
theorem T_lt0 (z : Int) : T z < 0 ↔ z < 0 := by rw [← eN_lt, ← T_neg_iff]; unfold eN; exact decide_eq_true_iff
theorem T_eq0 (z : Int) : T z = 0 ↔ z = 0 := ⟨fun h => T_inj (h.trans T_zero.symm), fun h => by rw [h, T_zero]⟩
theorem T_sgn (z : Int) : isgn (T z) = if z < 0 then -1 else if 0 < z then 1 else 0 := by
 unfold isgn
 have h1 := T_lt0 z
 have h2 := T_eq0 z
 by_cases c : z < 0
 ·rw [if_pos (h1.2 c), if_pos c]
 ·rw [if_neg (fun e => c (h1.1 e)), if_neg c]
  by_cases c0 : z = 0
  ·rw [h2.2 c0, c0]; rfl
  ·rw [if_pos (show 0 < z by omega), if_pos]
   have a1 : ¬ T z < 0 := fun e => c (h1.1 e)
   have a2 : T z ≠ 0 := fun e => c0 (h2.1 e)
   grind
theorem signOf_z (z : Int) : q_signOf.f (e3 z).1 (e3 z).2.1 (e3 z).2.2 = some (if z < 0 then -1 else if 0 < z then 1 else 0) := by
 have := signOf_ev (T z)
 rw [T_sgn] at this
 exact this
theorem T_icmp {z w : Int} (hz : 0 ≤ z) (hw : 0 ≤ w) : icmp (((T z).num.natAbs * (T w).den : Nat) : Int) (((T w).num.natAbs * (T z).den : Nat) : Int) = icmp z w := by
 have hp : (0 : Int) < ((T z).den : Int) * ((T w).den : Int) := Int.mul_pos (by have := (T z).den_nz; omega) (by have := (T w).den_nz; omega)
 have c1 := T_cross z
 have c2 := T_cross w
 have n1 : ((T z).num.natAbs : Int) = (T z).num := by have := T_neg_iff z; omega
 have n2 : ((T w).num.natAbs : Int) = (T w).num := by have := T_neg_iff w; omega
 rw [Int.natCast_mul, Int.natCast_mul, n1, n2]
 have e1 : (T z).num * ((T w).den : Int) * 60 = z * (((T z).den : Int) * ((T w).den : Int)) := by rw [Int.mul_right_comm, c1, Int.mul_assoc]
 have e2 : (T w).num * ((T z).den : Int) * 60 = w * (((T z).den : Int) * ((T w).den : Int)) := by rw [Int.mul_right_comm, c2, Int.mul_assoc, Int.mul_comm ((T w).den : Int)]
 generalize (T z).num * ((T w).den : Int) = X at e1 ⊢
 generalize (T w).num * ((T z).den : Int) = Y at e2 ⊢
 generalize ((T z).den : Int) * ((T w).den : Int) = D at e1 e2 hp
 rcases Int.lt_trichotomy z w with h | h | h
 ·have := Int.mul_lt_mul_of_pos_right h hp
  rw [icmp_lt h, icmp_lt (by omega)]
 ·subst h
  rw [icmp_eq rfl, icmp_eq (by omega)]
 ·have := Int.mul_lt_mul_of_pos_right h hp
  rw [icmp_gt h, icmp_gt (by omega)]
theorem Compare_z {z w : Int} (hz : Mod z) (hw : Mod w) (z0 : 0 ≤ z) (w0 : 0 ≤ w) : Ev (fun k => q_Compare.f k (e3 z).1 (e3 z).2.1 (e3 z).2.2 (e3 w).1 (e3 w).2.1 (e3 w).2.2) (icmp z w) := by
 unfold q_Compare.f
 refine Ev.bind (clean_z hz) (Ev.bind (clean_z hw) ?_)
 have d1 : Ev (fun _ => q_den.f (e3 z).1 (e3 z).2.1 (e3 z).2.2) (enc (T z).den) := by rw [show q_den.f (e3 z).1 (e3 z).2.1 (e3 z).2.2 = some (enc (T z).den) from den_ev (T z)]; exact Ev.now _
 have d2 : Ev (fun _ => q_den.f (e3 w).1 (e3 w).2.1 (e3 w).2.2) (enc (T w).den) := by rw [show q_den.f (e3 w).1 (e3 w).2.1 (e3 w).2.2 = some (enc (T w).den) from den_ev (T w)]; exact Ev.now _
 have g1 : Ev (fun _ => q_signOf.f (e3 z).1 (e3 z).2.1 (e3 z).2.2) (if z < 0 then -1 else if 0 < z then 1 else 0) := by rw [signOf_z]; exact Ev.now _
 have g2 : Ev (fun _ => q_signOf.f (e3 w).1 (e3 w).2.1 (e3 w).2.2) (if w < 0 then -1 else if 0 < w then 1 else 0) := by rw [signOf_z]; exact Ev.now _
 refine Ev.bind g1 (Ev.bind g2 ?_)
 have hN : ¬ ((e3 z).1 = true) := fun e => by have := (T_lt0 z).1 ((eN_lt (T z)).1 e); omega
 by_cases hs : (if z < 0 then (-1 : Int) else if 0 < z then 1 else 0) = (if w < 0 then (-1 : Int) else if 0 < w then 1 else 0)
 ·simp only [if_pos hs, if_neg hN]
  have m1 : Ev (fun k => n_Multiply.f k (e3 z).2.1 (enc (T w).den)) (enc ((T z).num.natAbs * (T w).den)) := by
   have m1 := Multiply_ev (eA (T z)) (enc (T w).den) (Nat.le_trans hz.sz.a (by decide)) (Nat.le_trans hw.sz.d (by decide))
   rw [nat_eA, nat_enc] at m1
   exact m1
  have m2 : Ev (fun k => n_Multiply.f k (e3 w).2.1 (enc (T z).den)) (enc ((T w).num.natAbs * (T z).den)) := by
   have m2 := Multiply_ev (eA (T w)) (enc (T z).den) (Nat.le_trans hw.sz.a (by decide)) (Nat.le_trans hz.sz.d (by decide))
   rw [nat_eA, nat_enc] at m2
   exact m2
  have s1 : (enc ((T z).num.natAbs * (T w).den)).size ≤ 12 := enc_size_le (mul_size (m := 8) (n := 4) hz.sz.1 hw.sz.d4)
  have s2 : (enc ((T w).num.natAbs * (T z).den)).size ≤ 12 := enc_size_le (mul_size (m := 8) (n := 4) hw.sz.1 hz.sz.d4)
  have hc := Compare_ev (enc ((T z).num.natAbs * (T w).den)) (enc ((T w).num.natAbs * (T z).den)) (by omega) (by omega)
  rw [nat_enc, nat_enc, T_icmp z0 w0] at hc
  exact Ev.bind d2 (Ev.bind m1 (Ev.bind d1 (Ev.bind m2 (Ev.bind hc (Ev.now _)))))
 ·simp only [if_neg hs]
  rcases Int.lt_trichotomy z w with h | h | h
  ·have : z = 0 := by
    by_cases c : 0 < z
    ·exact absurd (by rw [if_neg (by omega), if_pos c, if_neg (by omega), if_pos (by omega)]) hs
    ·omega
   subst this
   rw [icmp_lt h]
   simp only [if_neg (show ¬ ((0 : Int) < 0) by decide), if_neg (show ¬ (w < 0) by omega), if_pos h]
   exact Ev.now _
  ·exact absurd (by rw [h]) hs
  ·have : w = 0 := by
    by_cases c : 0 < w
    ·exact absurd (by rw [if_neg (show ¬ z < 0 by omega), if_pos (show 0 < z by omega), if_neg (show ¬ w < 0 by omega), if_pos c]) hs
    ·omega
   subst this
   rw [icmp_gt h]
   simp only [if_neg (show ¬ ((0 : Int) < 0) by decide), if_neg (show ¬ (z < 0) by omega), if_pos h]
   exact Ev.now _
theorem Min_z {z w : Int} (hz : Mod z) (hw : Mod w) (z0 : 0 ≤ z) (w0 : 0 ≤ w) : Ev (fun k => q_Min.f k (e3 z).1 (e3 z).2.1 (e3 z).2.2 (e3 w).1 (e3 w).2.1 (e3 w).2.2) (e3 (if z ≤ w then z else w)) := by
 unfold q_Min.f
 refine Ev.bind (Compare_z hz hw z0 w0) ?_
 by_cases h : z ≤ w
 ·rw [if_pos h]
  have hc : icmp z w ≤ 0 := by
   rcases Int.lt_or_eq_of_le h with h | h
   ·rw [icmp_lt h]; decide
   ·rw [icmp_eq h]; decide
  simp only [if_pos hc]
  exact Ev.bind (clean_z hz) (Ev.now _)
 ·rw [if_neg h]
  have hc : ¬ icmp z w ≤ 0 := by rw [icmp_gt (by omega)]; decide
  simp only [if_neg hc]
  exact Ev.bind (clean_z hw) (Ev.now _)
end Go.Proofs.YtppimdempdnhoaaDoor.C
namespace Go.Proofs.YtppimdempdnhoaaDoor.C
open Go.RowKit Go.PrWords Go.PrLast Go.PrMore
theorem ow64 {x : Int} (h0 : -9223372036854775808 ≤ x) (h1 : x < 9223372036854775808) : wrap64 x = x := by
  unfold wrap64; omega
theorem u16w {x : Int} (h0 : 0 ≤ x) (h1 : x < 65536) : IntKind.u16.wrap x = x := by
  simp [IntKind.wrap, IntKind.bits, IntKind.signed]; omega
set_option maxRecDepth 100000 in
theorem ratio_tab : ∀ a : Fin 23, ∀ b : Fin 6, (l0_Ratio.f 60 ((a : Nat) : Int) (1 + ((b : Nat) : Int))).isSome = true := by decide +kernel
set_option maxRecDepth 100000 in
theorem whole_tab : ∀ a : Fin 31, (l0_Whole.f 60 ((a : Nat) : Int)).isSome = true := by decide +kernel
def amtB (x : Int) : Bool × ByteArray × ByteArray :=
  if x % 5 = 0 then (l0_Ratio.f 60 (x / 5 % 23) (1 + x / 115 % 6)).getD (false, ⟨#[]⟩, ⟨#[]⟩)
  else if x % 5 = 1 then (l0_Whole.f 60 (10 * (x / 5 % 4))).getD (false, ⟨#[]⟩, ⟨#[]⟩)
  else (l0_Whole.f 60 (x / 5 % 13)).getD (false, ⟨#[]⟩, ⟨#[]⟩)
theorem ratio_ev {a b : Int} (ha : 0 ≤ a ∧ a < 23) (hb : 0 ≤ b ∧ b < 6) : Ev (fun k => l0_Ratio.f k a (1 + b)) ((l0_Ratio.f 60 a (1 + b)).getD (false, ⟨#[]⟩, ⟨#[]⟩)) := by
  have h := ratio_tab ⟨a.toNat, by omega⟩ ⟨b.toNat, by omega⟩
  simp only [Int.toNat_of_nonneg ha.1, Int.toNat_of_nonneg hb.1] at h
  obtain ⟨v, hv⟩ := Option.isSome_iff_exists.1 h
  rw [hv]
  exact Ev.of (l0_Ratio.mono _ _) hv
theorem whole_ev {a : Int} (ha : 0 ≤ a ∧ a < 31) : Ev (fun k => l0_Whole.f k a) ((l0_Whole.f 60 a).getD (false, ⟨#[]⟩, ⟨#[]⟩)) := by
  have h := whole_tab ⟨a.toNat, by omega⟩
  simp only [Int.toNat_of_nonneg ha.1] at h
  obtain ⟨v, hv⟩ := Option.isSome_iff_exists.1 h
  rw [hv]
  exact Ev.of (l0_Whole.mono _) hv
theorem amount_ev (x : Int) (h0 : 0 ≤ x) (h1 : x < 65536) : Ev (fun k => l0_Amount.f k x) (amtB x) := by
  have e5 : Int.tmod x 5 = x % 5 := Int.tmod_eq_emod_of_nonneg h0
  have d5 : Int.tdiv x 5 = x / 5 := Int.tdiv_eq_ediv_of_nonneg h0
  have d115 : Int.tdiv x 115 = x / 115 := Int.tdiv_eq_ediv_of_nonneg h0
  have w5 : IntKind.u16.wrap (x / 5) = x / 5 := u16w (by omega) (by omega)
  have w115 : IntKind.u16.wrap (x / 115) = x / 115 := u16w (by omega) (by omega)
  have m23 : Int.tmod (x / 5) 23 = x / 5 % 23 := Int.tmod_eq_emod_of_nonneg (by omega)
  have m6 : Int.tmod (x / 115) 6 = x / 115 % 6 := Int.tmod_eq_emod_of_nonneg (by omega)
  have m4 : Int.tmod (x / 5) 4 = x / 5 % 4 := Int.tmod_eq_emod_of_nonneg (by omega)
  have m13 : Int.tmod (x / 5) 13 = x / 5 % 13 := Int.tmod_eq_emod_of_nonneg (by omega)
  unfold l0_Amount.f amtB
  simp only [e5, d5, d115, w5, w115, m23, m6, m4, m13]
  by_cases c0 : x % 5 = 0
  · simp only [if_pos c0]
    rw [ow64 (x := x / 5 % 23) (by omega) (by omega), ow64 (x := x / 115 % 6) (by omega) (by omega), ow64 (x := 1 + x / 115 % 6) (by omega) (by omega)]
    exact Ev.bind (ratio_ev (by omega) (by omega)) (Ev.now _)
  · simp only [if_neg c0]
    by_cases c1 : x % 5 = 1
    · simp only [if_pos c1]
      rw [ow64 (x := x / 5 % 4) (by omega) (by omega), ow64 (x := 10 * (x / 5 % 4)) (by omega) (by omega)]
      exact Ev.bind (whole_ev (by omega)) (Ev.now _)
    · simp only [if_neg c1]
      rw [ow64 (x := x / 5 % 13) (by omega) (by omega)]
      exact Ev.bind (whole_ev (by omega)) (Ev.now _)
def sz (z : Int) : S32 := ⟨(e3 z).1, (e3 z).2.1, (e3 z).2.2⟩
theorem e3_zero : e3 0 = (false, ⟨#[]⟩, ⟨#[]⟩) := by
  have h : T 0 = 0 := T_zero
  unfold e3
  rw [h]
  have e : eA 0 = (⟨#[]⟩ : ByteArray) := enc_zero
  rw [e]; rfl
def Nn (zs : List Int) : Prop := ∀ z ∈ zs, 0 ≤ z ∧ z ≤ 1000000000000
theorem Nn.at_ {zs : List Int} (h : Nn zs) (i : Nat) : 0 ≤ zs.getD i 0 ∧ zs.getD i 0 ≤ 1000000000000 := by
  rw [List.getD_eq_getElem?_getD]
  by_cases hi : i < zs.length
  · rw [List.getElem?_eq_getElem hi]; exact h _ (List.getElem_mem hi)
  · rw [List.getElem?_eq_none (by omega)]; decide
theorem rd_sz (zs : List Int) (i : Int) (h0 : 0 ≤ i) (h1 : i < (zs.length : Int)) : r32_ (zs.map sz) i = sz (zs.getD i.toNat 0) := by
  unfold r32_
  rw [List.getD_eq_getElem?_getD, List.getElem?_map, List.getD_eq_getElem?_getD, List.getElem?_eq_getElem (show i.toNat < zs.length by omega)]; rfl
theorem mod_of {z : Int} (h0 : 0 ≤ z) (h1 : z ≤ 100000000000000000) : Mod z := by unfold Mod; omega
theorem aw64 {x : Int} (h0 : -9223372036854775808 ≤ x) (h1 : x < 9223372036854775808) : wrap64 x = x := by
  unfold wrap64; omega
theorem rd_at (I : List Int) (j : Nat) (h : j < I.length) : rd I (j : Int) = I[j] := by
  unfold rd
  rw [Int.toNat_natCast, List.getD_eq_getElem?_getD, List.getElem?_eq_getElem h]; rfl
theorem Sign_z {z : Int} (h : Mod z) : Ev (fun k => q_Sign.f k (sz z).f0 (sz z).f1 (sz z).f2) (if z < 0 then -1 else if 0 < z then 1 else 0) := by
  unfold q_Sign.f
  have g : Ev (fun _ => q_signOf.f (e3 z).1 (e3 z).2.1 (e3 z).2.2) (if z < 0 then -1 else if 0 < z then 1 else 0) := by rw [signOf_z]; exact Ev.now _
  exact Ev.bind (clean_z h) (Ev.bind g (Ev.now _))
def encS (n : Nat) : ByteArray := if n = 0 then ⟨#[]⟩ else ⟨#[n.toUInt8]⟩
def dS (d : Nat) : ByteArray := if d = 1 then ⟨#[]⟩ else encS d
theorem enc_encS {n : Nat} (h : n < 256) : enc n = encS n := by
  unfold encS
  by_cases h0 : n = 0
  · rw [if_pos h0, h0, enc_zero]
  · rw [if_neg h0]
    unfold enc
    rw [dig_pos h0, Nat.div_eq_of_lt h, dig_zero]
    have : n % 256 = n := Nat.mod_eq_of_lt h
    simp [this]
theorem e3_nat (z : Nat) (h : z / Nat.gcd z 60 < 256) : e3 (z : Int) = (false, encS (z / Nat.gcd z 60), dS (60 / Nat.gcd z 60)) := by
  by_cases h0 : z = 0
  · subst h0
    rw [show ((0 : Nat) : Int) = 0 from rfl, e3_zero]; rfl
  · obtain ⟨h1, h2, h3⟩ := e_mk false z 60 h0 (by decide)
    have e : mkRat (sgn false z) 60 = T (z : Int) := rfl
    rw [e] at h1 h2 h3
    unfold e3
    rw [h1, h2, h3, enc_encS h]
    have : dE (60 / Nat.gcd z 60) = dS (60 / Nat.gcd z 60) := by
      unfold dE dS
      split
      · rfl
      · exact enc_encS (Nat.lt_of_le_of_lt (Nat.div_le_self _ _) (by decide))
    rw [this]
set_option maxRecDepth 100000 in
theorem ratio_val : ∀ a : Fin 23, ∀ b : Fin 6, l0_Ratio.f 60 ((a : Nat) : Int) (1 + ((b : Nat) : Int)) = some (false, encS ((60 * (a : Nat) / (1 + (b : Nat))) / Nat.gcd (60 * (a : Nat) / (1 + (b : Nat))) 60), dS (60 / Nat.gcd (60 * (a : Nat) / (1 + (b : Nat))) 60)) ∧ (60 * (a : Nat) / (1 + (b : Nat))) / Nat.gcd (60 * (a : Nat) / (1 + (b : Nat))) 60 < 256 := by decide +kernel
set_option maxRecDepth 100000 in
theorem whole_val : ∀ a : Fin 31, l0_Whole.f 60 ((a : Nat) : Int) = some (false, encS ((60 * (a : Nat)) / Nat.gcd (60 * (a : Nat)) 60), dS (60 / Nat.gcd (60 * (a : Nat)) 60)) ∧ (60 * (a : Nat)) / Nat.gcd (60 * (a : Nat)) 60 < 256 := by decide +kernel
def amtZ (x : Int) : Int := if x % 5 = 0 then 60 * (x / 5 % 23) / (1 + x / 115 % 6) else if x % 5 = 1 then 60 * (10 * (x / 5 % 4)) else 60 * (x / 5 % 13)
theorem ratio_z {a b : Int} (ha : 0 ≤ a ∧ a < 23) (hb : 0 ≤ b ∧ b < 6) : (l0_Ratio.f 60 a (1 + b)).getD (false, ⟨#[]⟩, ⟨#[]⟩) = e3 (60 * a / (1 + b)) := by
  obtain ⟨h1, h2⟩ := ratio_val ⟨a.toNat, by omega⟩ ⟨b.toNat, by omega⟩
  simp only [Int.toNat_of_nonneg ha.1, Int.toNat_of_nonneg hb.1] at h1 h2
  have e : 60 * a / (1 + b) = ((60 * a.toNat / (1 + b.toNat) : Nat) : Int) := by
    rw [Int.natCast_ediv, Int.natCast_mul, Int.natCast_add, Int.toNat_of_nonneg ha.1, Int.toNat_of_nonneg hb.1]; rfl
  rw [h1, e, e3_nat _ h2]; rfl
theorem whole_z {a : Int} (ha : 0 ≤ a ∧ a < 31) : (l0_Whole.f 60 a).getD (false, ⟨#[]⟩, ⟨#[]⟩) = e3 (60 * a) := by
  obtain ⟨h1, h2⟩ := whole_val ⟨a.toNat, by omega⟩
  simp only [Int.toNat_of_nonneg ha.1] at h1 h2
  have e : 60 * a = ((60 * a.toNat : Nat) : Int) := by omega
  rw [h1, e, e3_nat _ h2]; rfl
theorem amtB_z (x : Int) (h0 : 0 ≤ x) : amtB x = e3 (amtZ x) := by
  unfold amtB amtZ
  by_cases c0 : x % 5 = 0
  · rw [if_pos c0, if_pos c0]; exact ratio_z (by omega) (by omega)
  · rw [if_neg c0, if_neg c0]
    by_cases c1 : x % 5 = 1
    · rw [if_pos c1, if_pos c1]; exact whole_z (by omega)
    · rw [if_neg c1, if_neg c1]; exact whole_z (by omega)
theorem amtZ_bound (x : Int) (h0 : 0 ≤ x) : 0 ≤ amtZ x ∧ amtZ x ≤ 1000000000000 := by
  unfold amtZ
  split
  · refine ⟨Int.ediv_nonneg (by omega) (by omega), ?_⟩
    have := Int.ediv_le_self (b := 1 + x / 115 % 6) (show 0 ≤ 60 * (x / 5 % 23) by omega)
    omega
  · split <;> omega
theorem Compare0_z {z : Int} (hz : Mod z) : Ev (fun k => q_Compare.f k (e3 z).1 (e3 z).2.1 (e3 z).2.2 (e3 0).1 (e3 0).2.1 (e3 0).2.2) (icmp z 0) := by
  by_cases h : 0 ≤ z
  · exact Compare_z hz (mod_of (by omega) (by omega)) h (by omega)
  · unfold q_Compare.f
    refine Ev.bind (clean_z hz) (Ev.bind (clean_z (mod_of (by omega) (by omega))) ?_)
    have g1 : Ev (fun _ => q_signOf.f (e3 z).1 (e3 z).2.1 (e3 z).2.2) (-1) := by rw [signOf_z, if_pos (by omega)]; exact Ev.now _
    have g2 : Ev (fun _ => q_signOf.f (e3 0).1 (e3 0).2.1 (e3 0).2.2) 0 := by rw [signOf_z]; exact Ev.now _
    refine Ev.bind g1 (Ev.bind g2 ?_)
    rw [icmp_lt (by omega)]
    exact Ev.now _
theorem positive_z {z : Int} (hz : Mod z) : Ev (fun k => collateral_positive.f k (e3 z).1 (e3 z).2.1 (e3 z).2.2) (e3 (if 0 ≤ z then z else 0)) := by
  unfold collateral_positive.f q_Max.f
  have hc := Compare0_z hz
  rw [show e3 0 = (false, ⟨#[]⟩, ⟨#[]⟩) from e3_zero] at hc
  have hm : Ev (fun k => (q_Compare.f k (e3 z).1 (e3 z).2.1 (e3 z).2.2 false ⟨#[]⟩ ⟨#[]⟩).bind fun t => if t ≥ 0 then (q_clean.f k (e3 z).1 (e3 z).2.1 (e3 z).2.2).bind fun b => some (b.1, b.2.1, b.2.2) else (q_clean.f k false ⟨#[]⟩ ⟨#[]⟩).bind fun b => some (b.1, b.2.1, b.2.2)) (e3 (if 0 ≤ z then z else 0)) := by
    refine Ev.bind hc ?_
    by_cases h : 0 ≤ z
    · have h1 : icmp z 0 ≥ 0 := by
        rcases Int.lt_or_eq_of_le h with h | h
        · rw [icmp_gt h]; decide
        · rw [icmp_eq h.symm]; decide
      simp only [if_pos h1, if_pos h]
      exact Ev.bind (clean_z hz) (Ev.now _)
    · have h1 : ¬ icmp z 0 ≥ 0 := by rw [icmp_lt (by omega)]; decide
      simp only [if_neg h1, if_neg h]
      have := clean_z (z := 0) (mod_of (by omega) (by omega))
      rw [show e3 0 = (false, ⟨#[]⟩, ⟨#[]⟩) from e3_zero] at this ⊢
      exact Ev.bind this (Ev.now _)
  exact Ev.bind hm (Ev.now _)
def prz (p c : Int) : Int := if 0 ≤ p - c then p - c else 0
theorem Proceeds_z {p c : Int} (p0 : 0 ≤ p ∧ p ≤ 1000000000000) (c0 : 0 ≤ c ∧ c ≤ 1000000000000) (L : List S52) : Ev (fun k => collateral_Proceeds.f k (e3 p).1 (e3 p).2.1 (e3 p).2.2 (e3 c).1 (e3 c).2.1 (e3 c).2.2 L) (e3 (prz p c)) := by
  unfold collateral_Proceeds.f
  have h1 := positive_z (mod_of p0.1 (by omega))
  have h2 := positive_z (mod_of c0.1 (by omega))
  rw [if_pos p0.1] at h1
  rw [if_pos c0.1] at h2
  have h3 := Subtract_z (mod_of p0.1 (by omega)) (mod_of c0.1 (by omega))
  have hm : Mod (p - c) := by unfold Mod; omega
  have h4 := positive_z hm
  exact Ev.bind h1 (Ev.bind h2 (Ev.bind h3 (Ev.bind h4 (Ev.now _))))
theorem prz_bound {p c : Int} (p0 : 0 ≤ p ∧ p ≤ 1000000000000) (c0 : 0 ≤ c ∧ c ≤ 1000000000000) : 0 ≤ prz p c ∧ prz p c ≤ 1000000000000 := by unfold prz; split <;> omega
def suml : List Int → Int
  | [] => 0
  | z :: zs => z + suml zs
theorem Sumw_loop (zs : List Int) (hz : ∀ z ∈ zs, 0 ≤ z ∧ z ≤ 1100000000000000) (hl : zs.length ≤ 90) : ∀ (r j : Nat) (a : Int), j + r = zs.length → 0 ≤ a → a ≤ 1100000000000000 * (j : Int) →
    Ev (fun k => q_Sum.l0 k (zs.map sz) (zs.length : Int) (j : Int) (e3 a).1 (e3 a).2.1 (e3 a).2.2) (e3 (a + suml (zs.drop j))) := by
  intro r
  induction r with
  | zero =>
    intro j a hj h0 h1
    have : zs.drop j = [] := List.drop_eq_nil_of_le (by omega)
    rw [this]
    refine Ev.step (f := fun _ => some (e3 a)) (fun k => ?_) (by rw [show a + suml [] = a by simp [suml]]; exact Ev.now _)
    simp only [q_Sum.l0]
    rw [if_neg (by omega)]
  | succ r ih =>
    intro j a hj h0 h1
    have hjl : j < zs.length := by omega
    have hb : 0 ≤ zs.getD j 0 ∧ zs.getD j 0 ≤ 1100000000000000 := by
      rw [List.getD_eq_getElem?_getD, List.getElem?_eq_getElem hjl]; exact hz _ (List.getElem_mem hjl)
    have hd : zs.drop j = zs.getD j 0 :: zs.drop (j + 1) := by
      rw [List.drop_eq_getElem_cons hjl, List.getD_eq_getElem?_getD, List.getElem?_eq_getElem hjl]; rfl
    have hr := ih (j + 1) (a + zs.getD j 0) (by omega) (by omega) (by omega)
    rw [hd]
    simp only [suml]
    rw [← Int.add_assoc]
    have hc := clean_z (mod_of hb.1 (by omega))
    have ha := add_z (mod_of h0 (by omega)) (mod_of hb.1 (by omega))
    refine Ev.step (f := fun k => (q_clean.f k (e3 (zs.getD j 0)).1 (e3 (zs.getD j 0)).2.1 (e3 (zs.getD j 0)).2.2).bind fun t => (q_add.f k (e3 a).1 (e3 a).2.1 (e3 a).2.2 t.1 t.2.1 t.2.2).bind fun u => q_Sum.l0 k (zs.map sz) (zs.length : Int) ((j + 1 : Nat) : Int) u.1 u.2.1 u.2.2) (fun k => ?_) (Ev.bind hc (Ev.bind ha hr))
    simp only [q_Sum.l0]
    rw [if_pos (by omega), if_pos (by omega), if_pos (by rw [List.length_map]; omega), rd_sz zs _ (by omega) (by omega), Int.toNat_natCast, aw64 (by omega) (by omega)]
    rfl
theorem Sum_w (zs : List Int) (hz : ∀ z ∈ zs, 0 ≤ z ∧ z ≤ 1100000000000000) (hl : zs.length ≤ 90) : Ev (fun k => q_Sum.f k (zs.map sz)) (e3 (suml zs)) := by
  unfold q_Sum.f
  have h := Sumw_loop zs hz hl zs.length 0 0 (by omega) (by omega) (by omega)
  rw [e3_zero, List.drop_zero, Int.zero_add] at h
  rw [List.length_map]
  exact h
theorem amounts_list (L : List Int) (hL : ∀ x ∈ L, 0 ≤ x ∧ x < 65536) (n : Nat) (hn : n ≤ 1000) : ∀ (r i : Nat), i + r = min L.length n → Ev (fun k => l0_Amounts.l0 k L (n : Int) (((L.take i).map amtZ).map sz) (i : Int)) (((L.take n).map amtZ).map sz) := by
  intro r
  induction r with
  | zero =>
    intro i hi
    have ht : L.take i = L.take n := by
      rcases Nat.le_total L.length n with h | h
      · rw [List.take_of_length_le (by omega), List.take_of_length_le h]
      · rw [show i = n by omega]
    rw [ht]
    refine Ev.step (f := fun _ => some (((L.take n).map amtZ).map sz)) (fun k => ?_) (Ev.now _)
    simp only [l0_Amounts.l0]
    by_cases h : i < L.length
    · rw [if_pos (by omega), if_neg (by omega)]
    · rw [if_neg (by omega)]
  | succ r ih =>
    intro i hi
    have hil : i < L.length := by omega
    have hx := hL _ (List.getElem_mem hil)
    have hr := ih (i + 1) (by omega)
    have ha := amount_ev L[i] hx.1 hx.2
    rw [amtB_z _ hx.1] at ha
    have hlen : (((L.take i).map amtZ).map sz).length < 3518437208883 := by rw [List.length_map, List.length_map, List.length_take]; omega
    rw [List.take_add_one, List.getElem?_eq_getElem hil, List.map_append, List.map_append] at hr
    refine Ev.step (f := fun k => (l0_Amount.f k L[i]).bind fun b => l0_Amounts.l0 k L (n : Int) (((L.take i).map amtZ).map sz ++ [⟨b.1, b.2.1, b.2.2⟩]) ((i + 1 : Nat) : Int)) (fun k => ?_) (Ev.bind ha hr)
    simp only [l0_Amounts.l0, if_pos hlen]
    rw [if_pos (by omega), if_pos (by omega), if_pos (by omega), rd_at L i hil, aw64 (by omega) (by omega)]
    rfl
theorem amounts_law (L : List Int) (hL : ∀ x ∈ L, 0 ≤ x ∧ x < 65536) : Ev (fun k => l0_Amounts.f k L 6) (((L.take 6).map amtZ).map sz) := by
  unfold l0_Amounts.f
  exact amounts_list L hL 6 (by decide) (min L.length 6) 0 (by omega)
theorem amounts_Nn {L : List Int} (hL : ∀ x ∈ L, 0 ≤ x ∧ x < 65536) : Nn ((L.take 6).map amtZ) := fun z hz => by
  obtain ⟨x, hx, rfl⟩ := List.mem_map.1 hz
  exact amtZ_bound _ (hL x (List.mem_of_mem_take hx)).1
end Go.Proofs.YtppimdempdnhoaaDoor.C
namespace Go.Proofs.YtppimdempdnhoaaDoor.C
open Go.RowKit Go.PrWords Go.PrLast Go.PrMore
def ok6 (x : S46) : Prop := (0 ≤ x.f0 ∧ x.f0 < 65536) ∧ (0 ≤ x.f1 ∧ x.f1 < 65536) ∧ (0 ≤ x.f2 ∧ x.f2 < 65536) ∧ (0 ≤ x.f3 ∧ x.f3 < 65536) ∧ (0 ≤ x.f4 ∧ x.f4 < 65536) ∧ (0 ≤ x.f5 ∧ x.f5 < 65536)
def ys6 (x : S46) : List Int := [x.f2, x.f3, x.f4, x.f5]
def chOf (m y : Int) : List S52 :=
  if m = 0 then [] else if y % 4 = 0 then [] else if y % 4 = 1 then [⟨y / 4 % m, y / 32 % 3, true, sz (60 * (y / 96 % 12))⟩] else [⟨y / 4 % m, y / 32 % 3, false, sz 0⟩]
def chs (m : Int) (x : S46) : List S52 := (ys6 x).flatMap (chOf m)
def itm (m : Int) (x : S46) : S50 := ⟨sz (amtZ x.f0), sz (60 * (x.f1 % 4)), chs m x⟩
theorem chOf_length (m y : Int) : (chOf m y).length ≤ 1 := by
  unfold chOf
  repeat' split
  all_goals simp
theorem flat_length (m : Int) (l : List Int) : (l.flatMap (chOf m)).length ≤ l.length := by
  induction l with
  | nil => simp
  | cons y l ih => have := chOf_length m y; simp only [List.flatMap_cons, List.length_append, List.length_cons]; omega
theorem sz_zero : sz 0 = z32 := by unfold sz; rw [e3_zero]; rfl
theorem itemsI (L : List S46) (m : Int) (m0 : 0 ≤ m ∧ m ≤ 1000) (x : S46) (hx : ok6 x) (X : List S50) (hX : X.length ≤ 1000) (i : Nat) (hi : i ≤ 1000) {R : List S50}
    (h : Ev (fun k => l0_Items.l0 k L m (X ++ [itm m x]) ((i + 1 : Nat) : Int)) R) : ∀ (r j : Nat) (acc : List S52), j + r = 4 → acc.length ≤ j → acc ++ ((ys6 x).drop j).flatMap (chOf m) = chs m x →
    Ev (fun k => l0_Items.l1 k L m X (i : Int) (j : Int) x.f0 x.f1 x.f2 x.f3 x.f4 x.f5 (e3 (amtZ x.f0)).1 (e3 (amtZ x.f0)).2.1 (e3 (amtZ x.f0)).2.2 (e3 (60 * (x.f1 % 4))).1 (e3 (60 * (x.f1 % 4))).2.1 (e3 (60 * (x.f1 % 4))).2.2 acc) R := by
  have hend : ∀ (j : Nat) (acc : List S52), acc = chs m x → Ev (fun k => l0_Items.j3 k L m X (i : Int) (j : Int) false x.f0 x.f1 x.f2 x.f3 x.f4 x.f5 (e3 (amtZ x.f0)).1 (e3 (amtZ x.f0)).2.1 (e3 (amtZ x.f0)).2.2 (e3 (60 * (x.f1 % 4))).1 (e3 (60 * (x.f1 % 4))).2.1 (e3 (60 * (x.f1 % 4))).2.2 acc) R := by
    intro j acc ha
    subst ha
    refine Ev.step (f := fun k => l0_Items.l0 k L m (X ++ [itm m x]) ((i + 1 : Nat) : Int)) (fun k => ?_) h
    simp only [l0_Items.j3]
    rw [if_neg (by decide), if_pos (by omega), aw64 (by omega) (by omega)]
    rfl
  intro r
  induction r with
  | zero =>
    intro j acc hj hl ha
    obtain rfl : j = 4 := by omega
    have ha' : acc = chs m x := by rw [← ha]; simp [ys6]
    refine Ev.step (f := fun k => l0_Items.j3 k L m X (i : Int) ((4 : Nat) : Int) false x.f0 x.f1 x.f2 x.f3 x.f4 x.f5 (e3 (amtZ x.f0)).1 (e3 (amtZ x.f0)).2.1 (e3 (amtZ x.f0)).2.2 (e3 (60 * (x.f1 % 4))).1 (e3 (60 * (x.f1 % 4))).2.1 (e3 (60 * (x.f1 % 4))).2.2 acc) (fun k => ?_) (hend 4 acc ha')
    simp only [l0_Items.l1]
    rw [if_neg (by omega)]
  | succ r ih =>
    intro j acc hj hl ha
    refine Ev.step (f := fun k => l0_Items.j3 k L m X (i : Int) (j : Int) (decide (m > 0)) x.f0 x.f1 x.f2 x.f3 x.f4 x.f5 (e3 (amtZ x.f0)).1 (e3 (amtZ x.f0)).2.1 (e3 (amtZ x.f0)).2.2 (e3 (60 * (x.f1 % 4))).1 (e3 (60 * (x.f1 % 4))).2.1 (e3 (60 * (x.f1 % 4))).2.2 acc) (fun k => ?_) ?_
    · simp only [l0_Items.l1]
      rw [if_pos (by omega)]
    · by_cases hm : m > 0
      · rw [decide_eq_true hm]
        have hyl : (ys6 x).length = 4 := rfl
        obtain ⟨y, hy⟩ : ∃ y, (ys6 x).getD j 0 = y := ⟨_, rfl⟩
        have hyb : 0 ≤ y ∧ y < 65536 := by
          obtain ⟨_, _, h2, h3, h4, h5⟩ := hx
          rw [← hy]
          have : j = 0 ∨ j = 1 ∨ j = 2 ∨ j = 3 := by omega
          rcases this with h | h | h | h <;> subst h
          · exact h2
          · exact h3
          · exact h4
          · exact h5
        have hat : arr6_at.f x.f0 x.f1 x.f2 x.f3 x.f4 x.f5 (2 + (j : Int)) = some y := by
          unfold arr6_at.f
          rw [if_pos (by omega), ← hy]
          have : j = 0 ∨ j = 1 ∨ j = 2 ∨ j = 3 := by omega
          rcases this with h | h | h | h <;> subst h <;> rfl
        have hd : (ys6 x).drop j = y :: (ys6 x).drop (j + 1) := by
          rw [List.drop_eq_getElem_cons (by omega), ← hy, List.getD_eq_getElem?_getD, List.getElem?_eq_getElem (by omega)]; rfl
        rw [hd, List.flatMap_cons, ← List.append_assoc] at ha
        have hcl := chOf_length m y
        have hr := ih (j + 1) (acc ++ chOf m y) (by omega) (by rw [List.length_append]; omega) ha
        have hm0 : ¬ m = 0 := by omega
        have hal : acc.length < 2199023255552 := by omega
        have b12 : 0 ≤ y / 96 % 12 ∧ y / 96 % 12 < 31 := by omega
        have n96 : 0 ≤ y / 96 := by omega
        have n4 : 0 ≤ y / 4 := by omega
        have n32 : 0 ≤ y / 32 := by omega
        have k96 : y / 96 < 65536 := by omega
        have k4 : y / 4 < 65536 := by omega
        have k32 : y / 32 < 65536 := by omega
        have tw : ∀ z : Int, 0 ≤ z → z < 65536 → wrap64 z = z := fun z h0 h1 => aw64 (by omega) (by omega)
        have g1 : 0 ≤ 2 + (j : Int) := by omega
        have g2 : 2 + (j : Int) < 65536 := by omega
        have g3 : 0 ≤ (j : Int) + 1 := by omega
        have g4 : (j : Int) + 1 < 65536 := by omega
        have hwj : wrap64 (2 + (j : Int)) = 2 + (j : Int) := tw _ g1 g2
        have hwj1 : wrap64 ((j : Int) + 1) = ((j + 1 : Nat) : Int) := (tw _ g3 g4).trans rfl
        have e4 : Int.tmod y 4 = y % 4 := Int.tmod_eq_emod_of_nonneg hyb.1
        have d96 : Int.tdiv y 96 = y / 96 := Int.tdiv_eq_ediv_of_nonneg hyb.1
        have d4 : Int.tdiv y 4 = y / 4 := Int.tdiv_eq_ediv_of_nonneg hyb.1
        have d32 : Int.tdiv y 32 = y / 32 := Int.tdiv_eq_ediv_of_nonneg hyb.1
        have w0 : wrap64 y = y := tw _ hyb.1 hyb.2
        have w96 : wrap64 (y / 96) = y / 96 := tw _ n96 k96
        have w4 : wrap64 (y / 4) = y / 4 := tw _ n4 k4
        have w32 : wrap64 (y / 32) = y / 32 := tw _ n32 k32
        have m12 : Int.tmod (y / 96) 12 = y / 96 % 12 := Int.tmod_eq_emod_of_nonneg n96
        have mm : Int.tmod (y / 4) m = y / 4 % m := Int.tmod_eq_emod_of_nonneg n4
        have m3 : Int.tmod (y / 32) 3 = y / 32 % 3 := Int.tmod_eq_emod_of_nonneg n32
        by_cases c0 : y % 4 = 0
        · rw [show chOf m y = [] by unfold chOf; rw [if_neg hm0, if_pos c0], List.append_nil] at hr
          refine Ev.step (f := fun k => l0_Items.l1 k L m X (i : Int) ((j + 1 : Nat) : Int) x.f0 x.f1 x.f2 x.f3 x.f4 x.f5 (e3 (amtZ x.f0)).1 (e3 (amtZ x.f0)).2.1 (e3 (amtZ x.f0)).2.2 (e3 (60 * (x.f1 % 4))).1 (e3 (60 * (x.f1 % 4))).2.1 (e3 (60 * (x.f1 % 4))).2.2 acc) (fun k => ?_) hr
          simp only [l0_Items.j3, if_true]
          rw [hwj, hat, hwj1]
          refine (Option.bind_some _ _).trans ?_
          rw [w0, e4, if_pos c0]
        · by_cases c1 : y % 4 = 1
          · rw [show chOf m y = [⟨y / 4 % m, y / 32 % 3, true, sz (60 * (y / 96 % 12))⟩] by unfold chOf; rw [if_neg hm0, if_neg c0, if_pos c1]] at hr
            have hw := whole_ev (a := y / 96 % 12) b12
            rw [whole_z b12] at hw
            refine Ev.step (f := fun k => (l0_Whole.f k (y / 96 % 12)).bind fun b => l0_Items.l1 k L m X (i : Int) ((j + 1 : Nat) : Int) x.f0 x.f1 x.f2 x.f3 x.f4 x.f5 (e3 (amtZ x.f0)).1 (e3 (amtZ x.f0)).2.1 (e3 (amtZ x.f0)).2.2 (e3 (60 * (x.f1 % 4))).1 (e3 (60 * (x.f1 % 4))).2.1 (e3 (60 * (x.f1 % 4))).2.2 (acc ++ [⟨y / 4 % m, y / 32 % 3, true, ⟨b.1, b.2.1, b.2.2⟩⟩])) (fun k => ?_) (Ev.bind hw hr)
            simp only [l0_Items.j3, if_true]
            rw [hwj, hat, hwj1]
            refine (Option.bind_some _ _).trans ?_
            rw [w0, e4, if_neg c0, if_neg hm0, if_pos c1, d96, w96, m12, d4, w4, mm, d32, w32, m3]
            simp only [if_pos hal]
          · rw [show chOf m y = [⟨y / 4 % m, y / 32 % 3, false, sz 0⟩] by unfold chOf; rw [if_neg hm0, if_neg c0, if_neg c1]] at hr
            refine Ev.step (f := fun k => l0_Items.l1 k L m X (i : Int) ((j + 1 : Nat) : Int) x.f0 x.f1 x.f2 x.f3 x.f4 x.f5 (e3 (amtZ x.f0)).1 (e3 (amtZ x.f0)).2.1 (e3 (amtZ x.f0)).2.2 (e3 (60 * (x.f1 % 4))).1 (e3 (60 * (x.f1 % 4))).2.1 (e3 (60 * (x.f1 % 4))).2.2 (acc ++ [⟨y / 4 % m, y / 32 % 3, false, sz 0⟩])) (fun k => ?_) hr
            simp only [l0_Items.j3, if_true]
            rw [hwj, hat, hwj1]
            refine (Option.bind_some _ _).trans ?_
            rw [w0, e4, if_neg c0, if_neg hm0, if_neg c1, if_pos hal, d4, w4, mm, d32, w32, m3, sz_zero]
            rfl
      · rw [decide_eq_false hm]
        have hm0 : m = 0 := by omega
        have hnil : ∀ l : List Int, l.flatMap (chOf m) = [] := by
          intro l
          induction l with
          | nil => rfl
          | cons y l ih => rw [List.flatMap_cons, ih, show chOf m y = [] by unfold chOf; rw [if_pos hm0]]; rfl
        rw [hnil, List.append_nil] at ha
        exact hend j acc ha
theorem rd6 (L : List S46) (i : Nat) (h : i < L.length) : r46_ L (i : Int) = L[i] := by
  unfold r46_
  rw [Int.toNat_natCast, List.getD_eq_getElem?_getD, List.getElem?_eq_getElem h]; rfl
theorem items_loop (L : List S46) (hL : ∀ x ∈ L, ok6 x) (m : Int) (m0 : 0 ≤ m ∧ m ≤ 1000) : ∀ (r i : Nat), i + r = min L.length 4 → Ev (fun k => l0_Items.l0 k L m ((L.take i).map (itm m)) (i : Int)) ((L.take 4).map (itm m)) := by
  intro r
  induction r with
  | zero =>
    intro i hi
    have ht : L.take i = L.take 4 := by
      rcases Nat.le_total L.length 4 with h | h
      · rw [List.take_of_length_le (by omega), List.take_of_length_le h]
      · rw [show i = 4 by omega]
    have hlast : Ev (fun k => l0_Items.j1 k L m ((L.take i).map (itm m)) (i : Int) false) ((L.take 4).map (itm m)) := by
      rw [ht]
      refine Ev.step (f := fun _ => some ((L.take 4).map (itm m))) (fun k => ?_) (Ev.now _)
      simp only [l0_Items.j1]
      rw [if_neg (by decide)]
    refine Ev.step (f := fun k => l0_Items.j1 k L m ((L.take i).map (itm m)) (i : Int) false) (fun k => ?_) hlast
    simp only [l0_Items.l0]
    by_cases h : i < L.length
    · rw [if_pos (by omega), decide_eq_false (by omega)]
    · rw [if_neg (by omega)]
  | succ r ih =>
    intro i hi
    have hil : i < L.length := by omega
    obtain ⟨x, hx⟩ : ∃ x, L[i] = x := ⟨_, rfl⟩
    have hk : ok6 x := by rw [← hx]; exact hL _ (List.getElem_mem hil)
    have hr := ih (i + 1) (by omega)
    rw [List.take_add_one, List.getElem?_eq_getElem hil, hx, List.map_append] at hr
    have hin := itemsI L m m0 x hk ((L.take i).map (itm m)) (by rw [List.length_map, List.length_take]; omega) i (by omega) hr 4 0 [] (by omega) (by simp) rfl
    have ha := amount_ev x.f0 hk.1.1 hk.1.2
    rw [amtB_z _ hk.1.1] at ha
    have hw := whole_ev (a := x.f1 % 4) (by omega)
    rw [whole_z (by omega)] at hw
    have e1 : Int.tmod x.f1 4 = x.f1 % 4 := Int.tmod_eq_emod_of_nonneg hk.2.1.1
    have hj : Ev (fun k => l0_Items.j1 k L m ((L.take i).map (itm m)) (i : Int) true) ((L.take 4).map (itm m)) := by
      refine Ev.step (f := fun k => (l0_Amount.f k x.f0).bind fun b => (l0_Whole.f k (x.f1 % 4)).bind fun c => l0_Items.l1 k L m ((L.take i).map (itm m)) (i : Int) ((0 : Nat) : Int) x.f0 x.f1 x.f2 x.f3 x.f4 x.f5 b.1 b.2.1 b.2.2 c.1 c.2.1 c.2.2 []) (fun k => ?_) (Ev.bind ha (Ev.bind hw hin))
      simp only [l0_Items.j1, if_true]
      rw [if_pos (by omega), if_pos (by omega), rd6 L i hil, hx, e1, aw64 (x := x.f1 % 4) (by omega) (by omega)]
      rfl
    refine Ev.step (f := fun k => l0_Items.j1 k L m ((L.take i).map (itm m)) (i : Int) true) (fun k => ?_) hj
    simp only [l0_Items.l0]
    rw [if_pos (by omega), decide_eq_true (by omega)]
theorem items_law (L : List S46) (hL : ∀ x ∈ L, ok6 x) (m : Int) (m0 : 0 ≤ m ∧ m ≤ 1000) : Ev (fun k => l0_Items.f k L m) ((L.take 4).map (itm m)) := by
  unfold l0_Items.f
  exact items_loop L hL m m0 (min L.length 4) 0 (by omega)
def OkCh (m : Int) (c : S52) : Prop := (0 ≤ c.f0 ∧ c.f0 < m) ∧ ∃ l : Int, (0 ≤ l ∧ l ≤ 1000000000000) ∧ c.f3 = sz l
def OkIt (m : Int) (x : S50) (p : Int) : Prop := x.f2.length ≤ 4 ∧ (∀ c ∈ x.f2, OkCh m c) ∧ ∃ a c : Int, (0 ≤ a ∧ a ≤ 1000000000000) ∧ (0 ≤ c ∧ c ≤ 1000000000000) ∧ x.f0 = sz a ∧ x.f1 = sz c ∧ p = prz a c
def przI (x : S46) : Int := prz (amtZ x.f0) (60 * (x.f1 % 4))
theorem chOf_ok {m y : Int} (m0 : 0 ≤ m) (h0 : 0 ≤ y) : ∀ c ∈ chOf m y, OkCh m c := by
  unfold chOf
  intro c hc
  by_cases hm : m = 0
  · rw [if_pos hm] at hc; cases hc
  · rw [if_neg hm] at hc
    have b1 := Int.emod_nonneg (y / 4) hm
    have b2 := Int.emod_lt_of_pos (y / 4) (show 0 < m by omega)
    by_cases c0 : y % 4 = 0
    · rw [if_pos c0] at hc; cases hc
    · rw [if_neg c0] at hc
      by_cases c1 : y % 4 = 1
      · rw [if_pos c1] at hc
        simp only [List.mem_singleton] at hc
        subst hc
        exact ⟨⟨b1, b2⟩, 60 * (y / 96 % 12), by omega, rfl⟩
      · rw [if_neg c1] at hc
        simp only [List.mem_singleton] at hc
        subst hc
        exact ⟨⟨b1, b2⟩, 0, by omega, rfl⟩
theorem itm_ok {m : Int} (m0 : 0 ≤ m) {x : S46} (hx : ok6 x) : OkIt m (itm m x) (przI x) := by
  refine ⟨flat_length m (ys6 x), ?_, amtZ x.f0, 60 * (x.f1 % 4), amtZ_bound _ hx.1.1, by omega, rfl, rfl, rfl⟩
  intro c hc
  obtain ⟨y, hy, hc⟩ := List.mem_flatMap.1 hc
  obtain ⟨_, _, h2, h3, h4, h5⟩ := hx
  refine chOf_ok m0 ?_ c hc
  simp only [ys6, List.mem_cons, List.not_mem_nil, or_false] at hy
  rcases hy with h | h | h | h <;> rw [h]
  · exact h2.1
  · exact h3.1
  · exact h4.1
  · exact h5.1
def Its (m : Int) (xs : List S50) (ps : List Int) : Prop := xs.length = ps.length ∧ xs.length ≤ 4 ∧ ∀ i : Nat, i < xs.length → OkIt m (r50_ xs (i : Int)) (ps.getD i 0)
theorem items_ok {L : List S46} (hL : ∀ x ∈ L, ok6 x) {m : Int} (m0 : 0 ≤ m) : Its m ((L.take 4).map (itm m)) ((L.take 4).map przI) := by
  refine ⟨by rw [List.length_map, List.length_map], by rw [List.length_map, List.length_take]; omega, fun i hi => ?_⟩
  rw [List.length_map] at hi
  unfold r50_
  rw [Int.toNat_natCast, List.getD_eq_getElem?_getD, List.getD_eq_getElem?_getD, List.getElem?_map, List.getElem?_map, List.getElem?_eq_getElem hi]
  exact itm_ok m0 (hL _ (List.mem_of_mem_take (List.getElem_mem hi)))
theorem OkIt.bound {m p : Int} {x : S50} (h : OkIt m x p) : 0 ≤ p ∧ p ≤ 1000000000000 := by
  obtain ⟨_, _, a, c, ha, hc, _, _, rfl⟩ := h
  exact prz_bound ha hc
theorem Its.nn {m : Int} {xs : List S50} {ps : List Int} (h : Its m xs ps) : Nn ps := fun z hz => by
  obtain ⟨i, hi, rfl⟩ := List.mem_iff_getElem.1 hz
  have := (h.2.2 i (by rw [h.1]; exact hi)).bound
  rw [List.getD_eq_getElem?_getD, List.getElem?_eq_getElem hi] at this
  exact this
end Go.Proofs.YtppimdempdnhoaaDoor.C
namespace Go.Proofs.YtppimdempdnhoaaDoor.C
open Go.RowKit Go.PrWords Go.PrLast Go.PrMore
theorem sgn_nn (z : Int) (h : 0 ≤ z) : ¬ ((if z < 0 then (-1 : Int) else if 0 < z then 1 else 0) < 0) := by
  rw [if_neg (by omega)]
  split <;> decide
theorem index_none (zs : List Int) (hz : Nn zs) (hl : zs.length ≤ 1000) : ∀ (r j : Nat), j + r = zs.length → Ev (fun k => slices_IndexFuncRat.l0 k (zs.map sz) (zs.length : Int) (j : Int)) (-1) := by
  intro r
  induction r with
  | zero =>
    intro j hj
    refine Ev.step (f := fun _ => some (-1)) (fun k => ?_) (Ev.now _)
    simp only [slices_IndexFuncRat.l0]
    rw [if_neg (by omega)]
  | succ r ih =>
    intro j hj
    have hr := ih (j + 1) (by omega)
    have hb := hz.at_ j
    have hs := Sign_z (mod_of hb.1 (by omega))
    have hc : Ev (fun k => collateral_Check_1.f k (sz (zs.getD j 0)).f0 (sz (zs.getD j 0)).f1 (sz (zs.getD j 0)).f2) false := by
      unfold collateral_Check_1.f
      refine Ev.bind hs ?_
      rw [decide_eq_false (sgn_nn _ hb.1)]
      exact Ev.now _
    refine Ev.step (f := fun k => (collateral_Check_1.f k (sz (zs.getD j 0)).f0 (sz (zs.getD j 0)).f1 (sz (zs.getD j 0)).f2).bind fun t => if t = true then some (j : Int) else slices_IndexFuncRat.l0 k (zs.map sz) (zs.length : Int) ((j + 1 : Nat) : Int)) (fun k => ?_) (Ev.bind hc ?_)
    · simp only [slices_IndexFuncRat.l0]
      rw [if_pos (by omega), if_pos (by omega), if_pos (by rw [List.length_map]; omega), rd_sz zs _ (by omega) (by omega), Int.toNat_natCast, aw64 (by omega) (by omega)]
      rfl
    · simp only [if_neg Bool.false_ne_true]
      exact hr
theorem contains_ev (zs : List Int) (hz : Nn zs) (hl : zs.length ≤ 1000) : Ev (fun k => slices_ContainsFuncRat.f k (zs.map sz)) false := by
  have h := index_none zs hz hl zs.length 0 (by omega)
  unfold slices_ContainsFuncRat.f slices_IndexFuncRat.f
  rw [List.length_map]
  exact Ev.bind h (Ev.now _)
theorem rdC (l : List S52) (j : Nat) (h : j < l.length) : r52_ l (j : Int) = l[j] := by
  unfold r52_
  rw [Int.toNat_natCast, List.getD_eq_getElem?_getD, List.getElem?_eq_getElem h]; rfl
theorem Check_l1 (os : List Int) (ho : os.length ≤ 24) (xs : List S50) (i : Nat) (hi : i ≤ 1000) (cs : List S52) (hcl : cs.length ≤ 1000) (hc : ∀ c ∈ cs, OkCh (os.length : Int) c)
    (h : Ev (fun k => collateral_Check.l0 k (os.map sz) xs (xs.length : Int) ((i + 1 : Nat) : Int)) 0) : ∀ (r j : Nat), j + r = cs.length → Ev (fun k => collateral_Check.l1 k (os.map sz) xs (xs.length : Int) (i : Int) cs (cs.length : Int) (j : Int)) 0 := by
  intro r
  induction r with
  | zero =>
    intro j hj
    refine Ev.step (f := fun k => collateral_Check.l0 k (os.map sz) xs (xs.length : Int) ((i + 1 : Nat) : Int)) (fun k => ?_) h
    simp only [collateral_Check.l1]
    rw [if_neg (by omega), aw64 (by omega) (by omega)]; rfl
  | succ r ih =>
    intro j hj
    have hr := ih (j + 1) (by omega)
    have hjl : j < cs.length := by omega
    obtain ⟨c, hcj⟩ : ∃ c, cs[j] = c := ⟨_, rfl⟩
    obtain ⟨⟨c0, c1⟩, l, hl, hf⟩ := hc c (by rw [← hcj]; exact List.getElem_mem hjl)
    have hw : wrap64 ((j : Int) + 1) = ((j + 1 : Nat) : Int) := by rw [aw64 (by omega) (by omega)]; rfl
    have hs := Sign_z (mod_of hl.1 (by omega))
    have hj4 : Ev (fun k => collateral_Check.j4 k (os.map sz) xs (xs.length : Int) (i : Int) cs (cs.length : Int) (j : Int) false c.f0 c.f1 c.f2 c.f3.f0 c.f3.f1 c.f3.f2) 0 := by
      cases h2 : c.f2
      · refine Ev.step (f := fun k => collateral_Check.l1 k (os.map sz) xs (xs.length : Int) (i : Int) cs (cs.length : Int) ((j + 1 : Nat) : Int)) (fun k => ?_) hr
        simp only [collateral_Check.j4]
        rw [if_neg (by decide), if_neg (by decide), hw]
      · rw [hf]
        refine Ev.step (f := fun k => (q_Sign.f k (sz l).f0 (sz l).f1 (sz l).f2).bind fun t => if t < 0 then none else collateral_Check.l1 k (os.map sz) xs (xs.length : Int) (i : Int) cs (cs.length : Int) ((j + 1 : Nat) : Int)) (fun k => ?_) (Ev.bind hs ?_)
        · simp only [collateral_Check.j4]
          rw [if_neg (by decide), if_pos trivial, hw]
        · simp only [if_neg (sgn_nn l hl.1)]
          exact hr
    refine Ev.step (f := fun k => collateral_Check.j4 k (os.map sz) xs (xs.length : Int) (i : Int) cs (cs.length : Int) (j : Int) false c.f0 c.f1 c.f2 c.f3.f0 c.f3.f1 c.f3.f2) (fun k => ?_) hj4
    simp only [collateral_Check.l1]
    rw [if_pos (Int.ofNat_lt.2 hjl), if_pos (Int.natCast_nonneg j), if_pos (Int.ofNat_lt.2 hjl), rdC cs j hjl, hcj, if_neg (Int.not_lt.2 c0), List.length_map, decide_eq_false (Int.not_le.2 c1)]
theorem Check_l0 (os : List Int) (ho : os.length ≤ 24) (xs : List S50) (ps : List Int) (hx : Its (os.length : Int) xs ps) : ∀ (r i : Nat), i + r = xs.length → Ev (fun k => collateral_Check.l0 k (os.map sz) xs (xs.length : Int) (i : Int)) 0 := by
  have h4 := hx.2.1
  intro r
  induction r with
  | zero =>
    intro i hi
    refine Ev.step (f := fun _ => some 0) (fun k => ?_) (Ev.now _)
    simp only [collateral_Check.l0]
    rw [if_neg (by omega)]
  | succ r ih =>
    intro i hi
    have hil : i < xs.length := by omega
    have hr := ih (i + 1) (by omega)
    obtain ⟨x, hxi⟩ : ∃ x, r50_ xs (i : Int) = x := ⟨_, rfl⟩
    have hok := hx.2.2 i hil
    rw [hxi] at hok
    obtain ⟨hcl, hc, a, c, ha, hcc, e0, e1, _⟩ := hok
    have h1 := Check_l1 os ho xs i (by omega) x.f2 (by omega) hc hr x.f2.length 0 (by omega)
    have hs1 := Sign_z (mod_of ha.1 (by omega))
    have hs2 := Sign_z (mod_of hcc.1 (by omega))
    rw [← e0] at hs1
    rw [← e1] at hs2
    have hj : Ev (fun k => collateral_Check.j2 k (os.map sz) xs (xs.length : Int) (i : Int) false x.f0.f0 x.f0.f1 x.f0.f2 x.f1.f0 x.f1.f1 x.f1.f2 x.f2) 0 := by
      refine Ev.step (f := fun k => collateral_Check.l1 k (os.map sz) xs (xs.length : Int) (i : Int) x.f2 (x.f2.length : Int) ((0 : Nat) : Int)) (fun k => ?_) h1
      simp only [collateral_Check.j2]
      rw [if_neg (by decide)]; rfl
    refine Ev.step (f := fun k => (q_Sign.f k x.f0.f0 x.f0.f1 x.f0.f2).bind fun t => if t < 0 then collateral_Check.j2 k (os.map sz) xs (xs.length : Int) (i : Int) true x.f0.f0 x.f0.f1 x.f0.f2 x.f1.f0 x.f1.f1 x.f1.f2 x.f2 else (q_Sign.f k x.f1.f0 x.f1.f1 x.f1.f2).bind fun t => collateral_Check.j2 k (os.map sz) xs (xs.length : Int) (i : Int) (decide (t < 0)) x.f0.f0 x.f0.f1 x.f0.f2 x.f1.f0 x.f1.f1 x.f1.f2 x.f2) (fun k => ?_) (Ev.bind hs1 ?_)
    · simp only [collateral_Check.l0]
      rw [if_pos (Int.ofNat_lt.2 hil), if_pos (Int.natCast_nonneg i), if_pos (Int.ofNat_lt.2 hil), hxi, if_neg (by omega)]
    · simp only [if_neg (sgn_nn a ha.1)]
      refine Ev.bind hs2 ?_
      rw [decide_eq_false (sgn_nn c hcc.1)]
      exact hj
theorem Check_ev (os : List Int) (ho : os.length ≤ 24) (hn : Nn os) (xs : List S50) (ps : List Int) (hx : Its (os.length : Int) xs ps) : Ev (fun k => collateral_Check.f k xs (os.map sz)) 0 := by
  have h4 := hx.2.1
  have hc := contains_ev os hn (by omega)
  have hl := Check_l0 os ho xs ps hx xs.length 0 (by omega)
  unfold collateral_Check.f
  rw [List.length_map]
  simp only [if_neg (show ¬ (xs.length : Int) > 8 by omega), decide_eq_false (show ¬ (os.length : Int) > 24 by omega)]
  refine Ev.step (f := fun k => (slices_ContainsFuncRat.f k (os.map sz)).bind fun t => if t = true then none else collateral_Check.l0 k (os.map sz) xs (xs.length : Int) ((0 : Nat) : Int)) (fun k => ?_) (Ev.bind hc ?_)
  · simp only [collateral_Check.j0]
    rw [if_neg (by decide)]; rfl
  · simp only [if_neg Bool.false_ne_true]
    exact hl
def hasC (x : S50) (n : Nat) (c : Nat) : Bool := (x.f2.take n).any fun ch => decide (ch.f0 = (c : Int))
def msk (xs : List S50) : Nat → Nat → Nat
  | 0, _ => 0
  | i + 1, c => msk xs i c ||| (if hasC (r50_ xs (i : Int)) (r50_ xs (i : Int)).f2.length c then 2 ^ i else 0)
def mskj (xs : List S50) (i j c : Nat) : Nat := msk xs i c ||| (if hasC (r50_ xs (i : Int)) j c then 2 ^ i else 0)
theorem msk_lt (xs : List S50) (c : Nat) : ∀ i, msk xs i c < 2 ^ i := by
  intro i
  induction i with
  | zero => simp [msk]
  | succ i ih =>
    have h2 : 2 ^ i < 2 ^ (i + 1) := Nat.pow_lt_pow_right (by decide) (by omega)
    simp only [msk]
    refine Nat.or_lt_two_pow (by omega) ?_
    split <;> omega
theorem mskj_lt (xs : List S50) (i j c : Nat) : mskj xs i j c < 2 ^ (i + 1) := by
  have h2 : 2 ^ i < 2 ^ (i + 1) := Nat.pow_lt_pow_right (by decide) (by omega)
  have h1 := msk_lt xs c i
  unfold mskj
  refine Nat.or_lt_two_pow (by omega) ?_
  split <;> omega
theorem mskj_zero (xs : List S50) (i c : Nat) : mskj xs i 0 c = msk xs i c := by simp [mskj, hasC]
set_option maxRecDepth 100000 in
theorem or_tab : ∀ a : Fin 16, ∀ i : Fin 4, Go.bits .or .u64 ((a : Nat) : Int) (shl .u64 1 ((i : Nat) : Int)) = (((a : Nat) ||| 2 ^ (i : Nat) : Nat) : Int) := by decide +kernel
theorem or_nat {a i : Nat} (ha : a < 16) (hi : i < 4) : Go.bits .or .u64 (a : Int) (shl .u64 1 (i : Int)) = ((a ||| 2 ^ i : Nat) : Int) := or_tab ⟨a, ha⟩ ⟨i, hi⟩
def mks (m : Nat) (f : Nat → Nat) : List Int := (List.range m).map fun c => ((f c : Nat) : Int)
theorem mks_length (m : Nat) (f : Nat → Nat) : (mks m f).length = m := by simp [mks]
theorem rd_mks {m c : Nat} (f : Nat → Nat) (h : c < m) : rd (mks m f) (c : Int) = ((f c : Nat) : Int) := by
  unfold rd mks
  rw [Int.toNat_natCast, List.getD_eq_getElem?_getD, List.getElem?_map, List.getElem?_range h]; rfl
theorem mks_set (m c : Nat) (f g : Nat → Nat) (v : Int) (hv : v = ((g c : Nat) : Int)) (h : ∀ d, d ≠ c → f d = g d) : (mks m f).set c v = mks m g := by
  unfold mks
  apply List.ext_getElem?
  intro j
  rw [List.getElem?_set]
  by_cases hj : c = j
  · subst hj
    rw [if_pos rfl]
    split
    · rename_i hl
      rw [List.length_map, List.length_range] at hl
      rw [List.getElem?_map, List.getElem?_range hl, hv]; rfl
    · rename_i hl
      rw [List.getElem?_eq_none (by rw [List.length_map, List.length_range] at hl ⊢; omega)]
  · rw [if_neg hj, List.getElem?_map, List.getElem?_map]
    by_cases hl : j < m
    · rw [List.getElem?_range hl]
      simp only [Option.map_some]
      rw [h j (fun e => hj e.symm)]
    · rw [List.getElem?_eq_none (by simpa using hl)]; rfl
theorem hasC_succ (x : S50) (j : Nat) (hj : j < x.f2.length) (c : Nat) : hasC x (j + 1) c = (hasC x j c || decide ((x.f2[j]).f0 = (c : Int))) := by
  unfold hasC
  rw [List.take_add_one, List.getElem?_eq_getElem hj, List.any_append]
  simp
theorem or_twice (a b : Nat) : a ||| b ||| b = a ||| b := by rw [Nat.or_assoc, Nat.or_self]
theorem build_l2 (m : Nat) (xs : List S50) (ps : List Int) (hx : Its (m : Int) xs ps) (i : Nat) (hi : i < xs.length) (P O : List S32) {R : List S32 × List S32 × List Int}
    (h : Ev (fun k => marshal_build.l1 k xs (xs.length : Int) ((i + 1 : Nat) : Int) P O (mks m (msk xs (i + 1)))) R) : ∀ (r j : Nat), j + r = (r50_ xs (i : Int)).f2.length →
    Ev (fun k => marshal_build.l2 k (i : Int) xs (xs.length : Int) (i : Int) (r50_ xs (i : Int)).f2 ((r50_ xs (i : Int)).f2.length : Int) (j : Int) P O (mks m (mskj xs i j))) R := by
  have h4 := hx.2.1
  have hok := hx.2.2 i hi
  obtain ⟨x, hxi⟩ : ∃ x, r50_ xs (i : Int) = x := ⟨_, rfl⟩
  rw [hxi] at hok ⊢
  obtain ⟨hcl, hc, _⟩ := hok
  intro r
  induction r with
  | zero =>
    intro j hj
    have e : mskj xs i j = msk xs (i + 1) := by
      funext c
      unfold mskj
      simp only [msk, hxi]
      rw [show j = x.f2.length by omega]
    rw [e]
    refine Ev.step (f := fun k => marshal_build.l1 k xs (xs.length : Int) ((i + 1 : Nat) : Int) P O (mks m (msk xs (i + 1)))) (fun k => ?_) h
    simp only [marshal_build.l2]
    rw [if_neg (by omega), aw64 (by omega) (by omega)]; rfl
  | succ r ih =>
    intro j hj
    have hjl : j < x.f2.length := by omega
    have hr := ih (j + 1) (by omega)
    obtain ⟨ch, hch⟩ : ∃ ch, x.f2[j] = ch := ⟨_, rfl⟩
    obtain ⟨⟨c0, c1⟩, _⟩ := hc ch (by rw [← hch]; exact List.getElem_mem hjl)
    obtain ⟨n, hn⟩ := Int.eq_ofNat_of_zero_le c0
    have hnm : n < m := by omega
    have hw : wrap64 ((j : Int) + 1) = ((j + 1 : Nat) : Int) := by rw [aw64 (by omega) (by omega)]; rfl
    have hb := mskj_lt xs i j n
    have hp : 2 ^ (i + 1) ≤ 2 ^ 4 := Nat.pow_le_pow_right (by decide) (by omega)
    have hor := or_nat (a := mskj xs i j n) (i := i) (by omega) (by omega)
    have hset : (mks m (mskj xs i j)).set n (((mskj xs i j n ||| 2 ^ i : Nat)) : Int) = mks m (mskj xs i (j + 1)) := by
      refine mks_set m n _ _ _ ?_ ?_
      · congr 1
        unfold mskj
        rw [hxi, hasC_succ x j hjl n, hch, hn, decide_eq_true rfl, Bool.or_true]
        simp only [if_true]
        cases hasC x j n
        · simp
        · simp only [if_true]; exact or_twice _ _
      · intro d hd
        unfold mskj
        rw [hxi, hasC_succ x j hjl d, hch, hn, decide_eq_false (by omega), Bool.or_false]
    refine Ev.step (f := fun k => marshal_build.l2 k (i : Int) xs (xs.length : Int) (i : Int) x.f2 (x.f2.length : Int) ((j + 1 : Nat) : Int) P O (mks m (mskj xs i (j + 1)))) (fun k => ?_) hr
    simp only [marshal_build.l2]
    rw [if_pos (Int.ofNat_lt.2 hjl), if_pos (Int.natCast_nonneg j), if_pos (Int.ofNat_lt.2 hjl), rdC x.f2 j hjl, hch, if_pos c0, mks_length, if_pos c1, if_pos (Int.natCast_nonneg i), hn, rd_mks _ hnm, hor, hw, Int.toNat_natCast, hset]
theorem build_l1 (m : Nat) (xs : List S50) (ps : List Int) (hx : Its (m : Int) xs ps) (O : List S32) : ∀ (r i : Nat), i + r = xs.length →
    Ev (fun k => marshal_build.l1 k xs (xs.length : Int) (i : Int) ((ps.take i).map sz) O (mks m (msk xs i))) (ps.map sz, O, mks m (msk xs xs.length)) := by
  have h4 := hx.2.1
  have hlen := hx.1
  intro r
  induction r with
  | zero =>
    intro i hi
    obtain rfl : i = xs.length := by omega
    refine Ev.step (f := fun _ => some (ps.map sz, O, mks m (msk xs xs.length))) (fun k => ?_) (Ev.now _)
    simp only [marshal_build.l1]
    rw [if_neg (by omega), List.take_of_length_le (by omega)]
  | succ r ih =>
    intro i hi
    have hil : i < xs.length := by omega
    have hr := ih (i + 1) (by omega)
    have h2 := build_l2 m xs ps hx i hil ((ps.take (i + 1)).map sz) O hr (r50_ xs (i : Int)).f2.length 0 (by omega)
    rw [show mskj xs i 0 = msk xs i from funext fun c => mskj_zero xs i c] at h2
    have hok := hx.2.2 i hil
    obtain ⟨x, hxi⟩ : ∃ x, r50_ xs (i : Int) = x := ⟨_, rfl⟩
    rw [hxi] at hok h2
    obtain ⟨_, _, a, c, ha, hc, e0, e1, ep⟩ := hok
    have hP := Proceeds_z ha hc x.f2
    rw [← ep] at hP
    have et : (ps.take (i + 1)).map sz = (ps.take i).map sz ++ [sz (ps.getD i 0)] := by
      rw [List.take_add_one, List.getElem?_eq_getElem (by omega), List.map_append, List.getD_eq_getElem?_getD, List.getElem?_eq_getElem (by omega)]; rfl
    rw [et] at h2
    have hlen2 : ((ps.take i).map sz).length < 3518437208883 := by rw [List.length_map, List.length_take]; omega
    refine Ev.step (f := fun k => (collateral_Proceeds.f k (e3 a).1 (e3 a).2.1 (e3 a).2.2 (e3 c).1 (e3 c).2.1 (e3 c).2.2 x.f2).bind fun b => marshal_build.l2 k (i : Int) xs (xs.length : Int) (i : Int) x.f2 (x.f2.length : Int) ((0 : Nat) : Int) ((ps.take i).map sz ++ [⟨b.1, b.2.1, b.2.2⟩]) O (mks m (msk xs i))) (fun k => ?_) (Ev.bind hP h2)
    simp only [marshal_build.l1, if_pos hlen2]
    rw [if_pos (Int.ofNat_lt.2 hil), if_pos (Int.natCast_nonneg i), if_pos (Int.ofNat_lt.2 hil), hxi, e0, e1]
    rfl
theorem build_l0 (os : List Int) (hn : Nn os) (hm : os.length ≤ 1000) (xs : List S50) (ps : List Int) (hx : Its (os.length : Int) xs ps) : ∀ (r j : Nat), j + r = os.length →
    Ev (fun k => marshal_build.l0 k xs (os.map sz) (os.length : Int) (j : Int) ((os.take j).map sz) (List.replicate os.length 0)) (ps.map sz, os.map sz, mks os.length (msk xs xs.length)) := by
  have h4 := hx.2.1
  intro r
  induction r with
  | zero =>
    intro j hj
    have h1 := build_l1 os.length xs ps hx (os.map sz) xs.length 0 (by omega)
    have e : List.replicate os.length 0 = mks os.length (msk xs 0) := by
      unfold mks msk
      rw [List.map_const']
      simp
    rw [e, List.take_of_length_le (by omega)]
    refine Ev.step (f := fun k => marshal_build.l1 k xs (xs.length : Int) ((0 : Nat) : Int) ((ps.take 0).map sz) (os.map sz) (mks os.length (msk xs 0))) (fun k => ?_) h1
    simp only [marshal_build.l0]
    rw [if_neg (by omega)]; rfl
  | succ r ih =>
    intro j hj
    have hjl : j < os.length := by omega
    have hr := ih (j + 1) (by omega)
    have hb := hn.at_ j
    have ha := Add_z (z := os.getD j 0) (w := 0) (mod_of hb.1 (by omega)) (mod_of (by omega) (by omega))
    rw [e3_zero, Int.add_zero] at ha
    have et : (os.take (j + 1)).map sz = (os.take j).map sz ++ [sz (os.getD j 0)] := by
      rw [List.take_add_one, List.getElem?_eq_getElem hjl, List.map_append, List.getD_eq_getElem?_getD, List.getElem?_eq_getElem hjl]; rfl
    rw [et] at hr
    have hlen2 : ((os.take j).map sz).length < 3518437208883 := by rw [List.length_map, List.length_take]; omega
    refine Ev.step (f := fun k => (q_Add.f k (e3 (os.getD j 0)).1 (e3 (os.getD j 0)).2.1 (e3 (os.getD j 0)).2.2 false ⟨#[]⟩ ⟨#[]⟩).bind fun b => marshal_build.l0 k xs (os.map sz) (os.length : Int) ((j + 1 : Nat) : Int) ((os.take j).map sz ++ [⟨b.1, b.2.1, b.2.2⟩]) (List.replicate os.length 0)) (fun k => ?_) (Ev.bind ha hr)
    simp only [marshal_build.l0, if_pos hlen2]
    rw [if_pos (by omega), if_pos (by omega), if_pos (by rw [List.length_map]; omega), rd_sz os _ (by omega) (by omega), Int.toNat_natCast, aw64 (by omega) (by omega)]
    rfl
theorem build_ev (os : List Int) (hn : Nn os) (hm : os.length ≤ 1000) (xs : List S50) (ps : List Int) (hx : Its (os.length : Int) xs ps) : Ev (fun k => marshal_build.f k xs (os.map sz)) (ps.map sz, os.map sz, mks os.length (msk xs xs.length)) := by
  have h := build_l0 os hn hm xs ps hx os.length 0 (by omega)
  unfold marshal_build.f
  rw [List.length_map]
  simp only [if_pos (show (0 : Int) ≤ (os.length : Int) by omega), Int.toNat_natCast, if_pos (show os.length ≤ 35184372088832 by omega)]
  exact h
end Go.Proofs.YtppimdempdnhoaaDoor.C
namespace Go.Proofs.YtppimdempdnhoaaDoor.C
open Go.RowKit Go.PrWords Go.PrLast Go.PrMore
def tab (n : Nat) (F : Nat → Int) : List S32 := (List.range n).map fun X => sz (F X)
theorem tab_length (n : Nat) (F : Nat → Int) : (tab n F).length = n := by simp [tab]
theorem rd_tab {n X : Nat} (F : Nat → Int) (h : X < n) : r32_ (tab n F) (X : Int) = sz (F X) := by
  unfold r32_ tab
  rw [Int.toNat_natCast, List.getD_eq_getElem?_getD, List.getElem?_map, List.getElem?_range h]; rfl
theorem tab_congr {n : Nat} {F G : Nat → Int} (h : ∀ X, X < n → F X = G X) : tab n F = tab n G := by
  unfold tab
  refine List.map_congr_left fun X hX => ?_
  rw [h X (by simpa using hX)]
theorem tab_set {n X : Nat} (F G : Nat → Int) (v : S32) (hv : v = sz (G X)) (h : ∀ Y, Y ≠ X → F Y = G Y) : (tab n F).set X v = tab n G := by
  unfold tab
  apply List.ext_getElem?
  intro j
  rw [List.getElem?_set]
  by_cases hj : X = j
  · subst hj
    rw [if_pos rfl]
    split
    · rename_i hl
      rw [List.length_map, List.length_range] at hl
      rw [List.getElem?_map, List.getElem?_range hl, hv]; rfl
    · rename_i hl
      rw [List.getElem?_eq_none (by rw [List.length_map, List.length_range] at hl ⊢; omega)]
  · rw [if_neg hj, List.getElem?_map, List.getElem?_map]
    by_cases hl : j < n
    · rw [List.getElem?_range hl]
      simp only [Option.map_some]
      rw [h j (fun e => hj e.symm)]
    · rw [List.getElem?_eq_none (by simpa using hl)]; rfl
theorem tab_zero (n : Nat) : List.replicate n z32 = tab n fun _ => 0 := by
  unfold tab
  rw [List.map_const', ← sz_zero]; simp
set_option maxRecDepth 100000 in
theorem cut_tab : ∀ c : Fin 16, 1 ≤ (c : Nat) → Go.bits .and .i64 ((c : Nat) : Int) (wrap64 (((c : Nat) : Int) - 1)) = (((c : Nat) &&& ((c : Nat) - 1) : Nat) : Int) ∧ bits_TrailingZeros.f (IntKind.u64.wrap ((c : Nat) : Int)) = some ((Lib.ctz 64 (c : Nat) : Nat) : Int) := by decide +kernel
theorem ctz_lt : ∀ n : Fin 5, ∀ c : Fin 16, 1 ≤ (c : Nat) → (c : Nat) < 2 ^ (n : Nat) → Lib.ctz 64 (c : Nat) < (n : Nat) := by decide +kernel
theorem and_lt : ∀ c : Fin 16, 1 ≤ (c : Nat) → (c : Nat) &&& ((c : Nat) - 1) < (c : Nat) := by decide +kernel
set_option maxRecDepth 100000 in
theorem bit_low : ∀ c : Fin 16, 1 ≤ (c : Nat) → ∀ i : Fin 4, (c : Nat).testBit (i : Nat) = (((c : Nat) &&& ((c : Nat) - 1)).testBit (i : Nat) || decide ((i : Nat) = Lib.ctz 64 (c : Nat))) ∧ ((i : Nat) = Lib.ctz 64 (c : Nat) → ((c : Nat) &&& ((c : Nat) - 1)).testBit (i : Nat) = false) := by decide +kernel
theorem cutQ_low (c : Nat) (h1 : 1 ≤ c) (h2 : c < 16) (ps : List Int) : ∀ i : Nat, i + ps.length ≤ 4 → cutQ ps c i = cutQ ps (c &&& (c - 1)) i + (if i ≤ Lib.ctz 64 c ∧ Lib.ctz 64 c < i + ps.length then ps.getD (Lib.ctz 64 c - i) 0 else 0) := by
  induction ps with
  | nil => intro i hi; simp [cutQ]
  | cons a ps ih =>
    intro i hi
    simp only [List.length_cons] at hi ⊢
    have h3 := ih (i + 1) (by omega)
    have h4 := bit_low ⟨c, h2⟩ h1 ⟨i, by omega⟩
    simp only at h4
    obtain ⟨h4, h5⟩ := h4
    simp only [cutQ]
    rw [h3, h4]
    by_cases e : i = Lib.ctz 64 c
    · rw [h5 e, decide_eq_true e]
      have e2 : Lib.ctz 64 c - i = 0 := by omega
      rw [if_neg (show ¬ (i + 1 ≤ Lib.ctz 64 c ∧ Lib.ctz 64 c < i + 1 + ps.length) by omega), if_pos (show i ≤ Lib.ctz 64 c ∧ Lib.ctz 64 c < i + (ps.length + 1) by omega), e2]
      simp
      omega
    · rw [decide_eq_false e, Bool.or_false]
      by_cases h6 : i + 1 ≤ Lib.ctz 64 c ∧ Lib.ctz 64 c < i + 1 + ps.length
      · rw [if_pos h6, if_pos (show i ≤ Lib.ctz 64 c ∧ Lib.ctz 64 c < i + (ps.length + 1) by omega), show Lib.ctz 64 c - i = (Lib.ctz 64 c - (i + 1)) + 1 by omega, List.getD_cons_succ]
        omega
      · rw [if_neg h6, if_neg (show ¬ (i ≤ Lib.ctz 64 c ∧ Lib.ctz 64 c < i + (ps.length + 1)) by omega)]
        omega
theorem cutQ_step (ps : List Int) (h4 : ps.length ≤ 4) (c : Nat) (h1 : 1 ≤ c) (h2 : c < 2 ^ ps.length) : cutQ ps c 0 = cutQ ps (c &&& (c - 1)) 0 + ps.getD (Lib.ctz 64 c) 0 := by
  have hp : 2 ^ ps.length ≤ 2 ^ 4 := Nat.pow_le_pow_right (by decide) h4
  have h := cutQ_low c h1 (by omega) ps 0 (by omega)
  have hc := ctz_lt ⟨ps.length, by omega⟩ ⟨c, by omega⟩ h1 h2
  simp only at hc
  rw [if_pos ⟨Nat.zero_le _, by omega⟩, Nat.sub_zero] at h
  exact h
theorem cutQ_bound {ps : List Int} (hp : Nn ps) (X : Nat) : ∀ i, 0 ≤ cutQ ps X i ∧ cutQ ps X i ≤ 1000000000000 * (ps.length : Int) := by
  induction ps with
  | nil => intro i; simp [cutQ]
  | cons a ps ih =>
    intro i
    have h1 := hp a (List.mem_cons_self ..)
    have h2 := ih (fun x hx => hp x (List.mem_cons_of_mem _ hx)) (i + 1)
    simp only [cutQ, List.length_cons]
    split <;> omega
theorem shl_tab : ∀ n : Fin 5, shl .i64 1 ((n : Nat) : Int) = ((2 ^ (n : Nat) : Nat) : Int) := by decide +kernel
theorem cuts_loop (ps : List Int) (hp : Nn ps) (h4 : ps.length ≤ 4) (O : List S32) (M : List Int) : ∀ (r c : Nat), 1 ≤ c → c + r = 2 ^ ps.length →
    Ev (fun k => marshal_network_cuts.l0 k (tab (2 ^ ps.length) fun X => if X < c then cutQ ps X 0 else 0) (c : Int) (ps.map sz) O M) (tab (2 ^ ps.length) fun X => cutQ ps X 0) := by
  have hpw : 2 ^ ps.length ≤ 2 ^ 4 := Nat.pow_le_pow_right (by decide) h4
  intro r
  induction r with
  | zero =>
    intro c h1 hc
    obtain rfl : c = 2 ^ ps.length := by omega
    have e : (tab (2 ^ ps.length) fun X => if X < 2 ^ ps.length then cutQ ps X 0 else 0) = tab (2 ^ ps.length) fun X => cutQ ps X 0 := tab_congr fun X hX => if_pos hX
    refine Ev.step (f := fun _ => some (tab (2 ^ ps.length) fun X => cutQ ps X 0)) (fun k => ?_) (Ev.now _)
    simp only [marshal_network_cuts.l0, tab_length]
    rw [if_neg (by omega), e]
  | succ r ih =>
    intro c h1 hc
    have hcl : c < 2 ^ ps.length := by omega
    have hr := ih (c + 1) (by omega) (by omega)
    obtain ⟨t1, t2⟩ := cut_tab ⟨c, by omega⟩ h1
    have t3 := ctz_lt ⟨ps.length, by omega⟩ ⟨c, by omega⟩ h1 hcl
    have t4 := and_lt ⟨c, by omega⟩ h1
    simp only at t1 t2 t3 t4
    have hs := cutQ_step ps h4 c h1 hcl
    have b1 := cutQ_bound hp (c &&& (c - 1)) 0
    have b2 := hp.at_ (Lib.ctz 64 c)
    have ha := Add_z (mod_of b1.1 (by omega)) (mod_of b2.1 (by omega))
    rw [← hs] at ha
    have hrow : (tab (2 ^ ps.length) fun X => if X < c then cutQ ps X 0 else 0).set c (sz (cutQ ps c 0)) = tab (2 ^ ps.length) fun X => if X < c + 1 then cutQ ps X 0 else 0 := by
      refine tab_set _ _ _ ?_ ?_
      · rw [if_pos (by omega)]
      · intro Y hY
        by_cases h : Y < c
        · rw [if_pos h, if_pos (by omega)]
        · rw [if_neg h, if_neg (by omega)]
    rw [← hrow] at hr
    have hrd := rd_tab (n := 2 ^ ps.length) (fun X => if X < c then cutQ ps X 0 else 0) (X := c &&& (c - 1)) (by omega)
    simp only [if_pos t4] at hrd
    have hrp := rd_sz ps ((Lib.ctz 64 c : Nat) : Int) (Int.natCast_nonneg _) (Int.ofNat_lt.2 t3)
    rw [Int.toNat_natCast] at hrp
    have hw : wrap64 ((c : Int) + 1) = ((c + 1 : Nat) : Int) := by rw [aw64 (by omega) (by omega)]; rfl
    refine Ev.step (f := fun k => (q_Add.f k (e3 (cutQ ps (c &&& (c - 1)) 0)).1 (e3 (cutQ ps (c &&& (c - 1)) 0)).2.1 (e3 (cutQ ps (c &&& (c - 1)) 0)).2.2 (e3 (ps.getD (Lib.ctz 64 c) 0)).1 (e3 (ps.getD (Lib.ctz 64 c) 0)).2.1 (e3 (ps.getD (Lib.ctz 64 c) 0)).2.2).bind fun b => marshal_network_cuts.l0 k ((tab (2 ^ ps.length) fun X => if X < c then cutQ ps X 0 else 0).set c ⟨b.1, b.2.1, b.2.2⟩) ((c + 1 : Nat) : Int) (ps.map sz) O M) (fun k => ?_) (Ev.bind ha hr)
    simp only [marshal_network_cuts.l0, tab_length]
    rw [if_pos (Int.ofNat_lt.2 hcl), t1, if_pos (Int.natCast_nonneg _), if_pos (Int.ofNat_lt.2 (Nat.lt_trans t4 hcl)), t2]
    refine (Option.bind_some _ _).trans ?_
    rw [if_pos (Int.natCast_nonneg _), List.length_map, if_pos (Int.ofNat_lt.2 t3), hrd, hrp, hw]
    simp only [if_pos (Int.natCast_nonneg c), Int.toNat_natCast]
    rfl
theorem cuts_ev (ps : List Int) (hp : Nn ps) (h4 : ps.length ≤ 4) (O : List S32) (M : List Int) : Ev (fun k => marshal_network_cuts.f k (ps.map sz) O M) (tab (2 ^ ps.length) fun X => cutQ ps X 0) := by
  have hpw : 2 ^ ps.length ≤ 2 ^ 4 := Nat.pow_le_pow_right (by decide) h4
  have h0 := Nat.two_pow_pos ps.length
  have hs := shl_tab ⟨ps.length, by omega⟩
  simp only at hs
  have h := cuts_loop ps hp h4 O M (2 ^ ps.length - 1) 1 (by omega) (by omega)
  have e : (tab (2 ^ ps.length) fun X => if X < 1 then cutQ ps X 0 else 0) = List.replicate (2 ^ ps.length) z32 := by
    rw [tab_zero]
    refine tab_congr fun X hX => ?_
    split
    · rename_i h; rw [show X = 0 by omega, cutQ_zero]
    · rfl
  rw [e] at h
  unfold marshal_network_cuts.f
  rw [List.length_map, hs]
  simp only [if_pos (Int.natCast_nonneg (2 ^ ps.length)), Int.toNat_natCast, if_pos (show 2 ^ ps.length ≤ 7036874417766 by omega)]
  exact h
set_option maxRecDepth 100000 in
theorem not_tab : ∀ a x : Fin 16, decide (Go.bits .andNot .u64 ((a : Nat) : Int) (IntKind.u64.wrap ((x : Nat) : Int)) = 0) = sub (a : Nat) (x : Nat) := by decide +kernel
theorem addn_loop (N : Nat) (hN : N ≤ 16) (P : List S32) (os : List Int) (hn : Nn os) (f : Nat → Nat) (c : Nat) (hc : c < os.length) (hf : f c < 16) (F : Nat → Int) (hF : ∀ X, X < N → 0 ≤ F X ∧ F X ≤ 10000000000000000) : ∀ (r X : Nat), X + r = N →
    Ev (fun k => marshal_network_add.l0 k (tab N fun Y => if Y < X then F Y + (if sub (f c) Y then 0 else os.getD c 0) else F Y) (c : Int) (N : Int) (X : Int) P (os.map sz) (mks os.length f)) (tab N fun Y => F Y + (if sub (f c) Y then 0 else os.getD c 0)) := by
  intro r
  induction r with
  | zero =>
    intro X hX
    obtain rfl : X = N := by omega
    have e : (tab X fun Y => if Y < X then F Y + (if sub (f c) Y then 0 else os.getD c 0) else F Y) = tab X fun Y => F Y + (if sub (f c) Y then 0 else os.getD c 0) := tab_congr fun Y hY => if_pos hY
    refine Ev.step (f := fun _ => some (tab X fun Y => F Y + (if sub (f c) Y then 0 else os.getD c 0))) (fun k => ?_) (Ev.now _)
    simp only [marshal_network_add.l0]
    rw [if_neg (by omega), e]
  | succ r ih =>
    intro X hX
    have hXl : X < N := by omega
    have hr := ih (X + 1) (by omega)
    have ht := not_tab ⟨f c, hf⟩ ⟨X, by omega⟩
    simp only at ht
    have hw : wrap64 ((X : Int) + 1) = ((X + 1 : Nat) : Int) := by rw [aw64 (by omega) (by omega)]; rfl
    have hrow : (tab N fun Y => if Y < X then F Y + (if sub (f c) Y then 0 else os.getD c 0) else F Y).set X (sz (F X + (if sub (f c) X then 0 else os.getD c 0))) = tab N fun Y => if Y < X + 1 then F Y + (if sub (f c) Y then 0 else os.getD c 0) else F Y := by
      refine tab_set _ _ _ ?_ ?_
      · rw [if_pos (show X < X + 1 by omega)]
      · intro Y hY
        by_cases h : Y < X
        · rw [if_pos h, if_pos (show Y < X + 1 by omega)]
        · rw [if_neg h, if_neg (show ¬ Y < X + 1 by omega)]
    cases hs : sub (f c) X
    · rw [hs] at ht hrow
      have h0 : ¬ Go.bits .andNot .u64 ((f c : Nat) : Int) (IntKind.u64.wrap ((X : Nat) : Int)) = 0 := of_decide_eq_false ht
      have b1 := hF X hXl
      have b2 := hn.at_ c
      have ha := Add_z (mod_of b1.1 (by omega)) (mod_of b2.1 (by omega))
      simp only [if_neg Bool.false_ne_true] at hrow
      rw [← hrow] at hr
      have hrd := rd_tab (n := N) (fun Y => if Y < X then F Y + (if sub (f c) Y then 0 else os.getD c 0) else F Y) hXl
      simp only [if_neg (Nat.lt_irrefl X)] at hrd
      refine Ev.step (f := fun k => (q_Add.f k (e3 (F X)).1 (e3 (F X)).2.1 (e3 (F X)).2.2 (e3 (os.getD c 0)).1 (e3 (os.getD c 0)).2.1 (e3 (os.getD c 0)).2.2).bind fun b => marshal_network_add.l0 k ((tab N fun Y => if Y < X then F Y + (if sub (f c) Y then 0 else os.getD c 0) else F Y).set X ⟨b.1, b.2.1, b.2.2⟩) (c : Int) (N : Int) ((X + 1 : Nat) : Int) P (os.map sz) (mks os.length f)) (fun k => ?_) (Ev.bind ha hr)
      simp only [marshal_network_add.l0, tab_length, mks_length, List.length_map]
      rw [if_pos (Int.ofNat_lt.2 hXl), if_pos (Int.natCast_nonneg c), if_pos (Int.ofNat_lt.2 hc), rd_mks f hc, if_neg h0, if_pos (Int.natCast_nonneg X), if_pos (Int.ofNat_lt.2 hXl), if_pos (Int.ofNat_lt.2 hc), hrd, rd_sz os _ (Int.natCast_nonneg c) (Int.ofNat_lt.2 hc), hw]
      simp only [Int.toNat_natCast]
      rfl
    · rw [hs] at ht hrow
      have h0 : Go.bits .andNot .u64 ((f c : Nat) : Int) (IntKind.u64.wrap ((X : Nat) : Int)) = 0 := of_decide_eq_true ht
      have e : (tab N fun Y => if Y < X then F Y + (if sub (f c) Y then 0 else os.getD c 0) else F Y) = tab N fun Y => if Y < X + 1 then F Y + (if sub (f c) Y then 0 else os.getD c 0) else F Y := by
        refine tab_congr fun Y hY => ?_
        by_cases h : Y < X
        · rw [if_pos h, if_pos (show Y < X + 1 by omega)]
        · rw [if_neg h]
          by_cases h2 : Y = X
          · rw [h2, if_pos (show X < X + 1 by omega), hs]; simp
          · rw [if_neg (show ¬ Y < X + 1 by omega)]
      rw [e]
      refine Ev.step (f := fun k => marshal_network_add.l0 k (tab N fun Y => if Y < X + 1 then F Y + (if sub (f c) Y then 0 else os.getD c 0) else F Y) (c : Int) (N : Int) ((X + 1 : Nat) : Int) P (os.map sz) (mks os.length f)) (fun k => ?_) hr
      simp only [marshal_network_add.l0, mks_length]
      rw [if_pos (Int.ofNat_lt.2 hXl), if_pos (Int.natCast_nonneg c), if_pos (Int.ofNat_lt.2 hc), rd_mks f hc, if_pos h0, hw]
theorem add_net_ev (N : Nat) (hN : N ≤ 16) (P : List S32) (os : List Int) (hn : Nn os) (f : Nat → Nat) (c : Nat) (hc : c < os.length) (hf : f c < 16) (F : Nat → Int) (hF : ∀ X, X < N → 0 ≤ F X ∧ F X ≤ 10000000000000000) :
    Ev (fun k => marshal_network_add.f k P (os.map sz) (mks os.length f) (tab N F) (c : Int)) (tab N fun Y => F Y + (if sub (f c) Y then 0 else os.getD c 0)) := by
  have h := addn_loop N hN P os hn f c hc hf F hF N 0 (by omega)
  unfold marshal_network_add.f
  rw [tab_length]
  have e : (tab N fun Y => if Y < 0 then F Y + (if sub (f c) Y then 0 else os.getD c 0) else F Y) = tab N F := tab_congr fun Y hY => if_neg (by omega)
  rw [e] at h
  exact h
theorem least_bound {F : Nat → Int} {B : Int} : ∀ n : Nat, (∀ X, X ≤ n → 0 ≤ F X ∧ F X ≤ B) → 0 ≤ least F n ∧ least F n ≤ B := by
  intro n h
  obtain ⟨X, hX, e⟩ := least_mem F n
  rw [e]
  exact h X hX
theorem least_loop (N : Nat) (hN : N ≤ 16) (F : Nat → Int) (hF : ∀ X, X < N → 0 ≤ F X ∧ F X ≤ 100000000000000000) : ∀ (r X : Nat), X + r = N → 1 ≤ X →
    Ev (fun k => marshal_least.l0 k (tab N F) (N : Int) (X : Int) (e3 (least F (X - 1))).1 (e3 (least F (X - 1))).2.1 (e3 (least F (X - 1))).2.2) (e3 (least F (N - 1))) := by
  intro r
  induction r with
  | zero =>
    intro X hX h1
    obtain rfl : X = N := by omega
    refine Ev.step (f := fun _ => some (e3 (least F (X - 1)))) (fun k => ?_) (Ev.now _)
    simp only [marshal_least.l0]
    rw [if_neg (by omega)]
  | succ r ih =>
    intro X hX h1
    have hXl : X < N := by omega
    have hr := ih (X + 1) (by omega) (by omega)
    obtain ⟨Z, rfl⟩ : ∃ Z, X = Z + 1 := ⟨X - 1, by omega⟩
    rw [show Z + 1 + 1 - 1 = Z + 1 by omega] at hr
    rw [show Z + 1 - 1 = Z by omega]
    have b1 := least_bound (F := F) (B := 100000000000000000) Z (fun X hX => hF X (by omega))
    have b2 := hF (Z + 1) hXl
    have hm := Min_z (mod_of b1.1 (by omega)) (mod_of b2.1 (by omega)) b1.1 b2.1
    have e : (if least F Z ≤ F (Z + 1) then least F Z else F (Z + 1)) = least F (Z + 1) := rfl
    rw [e] at hm
    have hw : wrap64 (((Z + 1 : Nat) : Int) + 1) = ((Z + 1 + 1 : Nat) : Int) := by rw [aw64 (by omega) (by omega)]; rfl
    refine Ev.step (f := fun k => (q_Min.f k (e3 (least F Z)).1 (e3 (least F Z)).2.1 (e3 (least F Z)).2.2 (e3 (F (Z + 1))).1 (e3 (F (Z + 1))).2.1 (e3 (F (Z + 1))).2.2).bind fun b => marshal_least.l0 k (tab N F) (N : Int) ((Z + 1 + 1 : Nat) : Int) b.1 b.2.1 b.2.2) (fun k => ?_) (Ev.bind hm hr)
    simp only [marshal_least.l0, tab_length]
    rw [if_pos (Int.ofNat_lt.2 hXl), if_pos (Int.natCast_nonneg _), if_pos (Int.ofNat_lt.2 hXl), rd_tab F hXl, hw]
    rfl
theorem least_ev (N : Nat) (hN : N ≤ 16) (h0 : 0 < N) (F : Nat → Int) (hF : ∀ X, X < N → 0 ≤ F X ∧ F X ≤ 100000000000000000) : Ev (fun k => marshal_least.f k (tab N F)) (e3 (least F (N - 1))) := by
  have h := least_loop N hN F hF (N - 1) 1 (by omega) (Nat.le_refl _)
  have b0 := hF 0 h0
  have hm := Min_z (mod_of b0.1 (by omega)) (mod_of b0.1 (by omega)) b0.1 b0.1
  rw [if_pos (Int.le_refl _)] at hm
  have hrd := rd_tab (n := N) F h0
  have hw : wrap64 ((0 : Int) + 1) = ((1 : Nat) : Int) := aw64 (by decide) (by decide)
  unfold marshal_least.f
  rw [tab_length]
  simp only [if_pos (show (0 : Int) < (N : Int) by omega)]
  refine Ev.step (f := fun k => (q_Min.f k (e3 (F 0)).1 (e3 (F 0)).2.1 (e3 (F 0)).2.2 (e3 (F 0)).1 (e3 (F 0)).2.1 (e3 (F 0)).2.2).bind fun b => marshal_least.l0 k (tab N F) (N : Int) ((1 : Nat) : Int) b.1 b.2.1 b.2.2) (fun k => ?_) (Ev.bind hm h)
  simp only [marshal_least.l0, tab_length]
  rw [if_pos (show (0 : Int) < (N : Int) by omega), if_pos (by decide), if_pos (show (0 : Int) < (N : Int) by omega), hw]
  have hrd' : r32_ (tab N F) 0 = sz (F 0) := hrd
  rw [hrd']
  rfl
def clm (os : List Int) (f : Nat → Nat) : List (Nat × Int) := (List.range os.length).map fun c => (f c, os.getD c 0)
theorem clm_length (os : List Int) (f : Nat → Nat) : (clm os f).length = os.length := by simp [clm]
theorem clm_pos {os : List Int} (hn : Nn os) (f : Nat → Nat) : PosC (clm os f) := fun c hc => by
  obtain ⟨i, _, rfl⟩ := List.mem_map.1 hc
  exact (hn.at_ i).1
theorem nn_pos {ps : List Int} (h : Nn ps) : Pos ps := fun a ha => (h a ha).1
theorem hang_add (cl : List (Nat × Int)) (s t : Nat → Bool) (X c : Nat) (hs : s c = false) (ht : ∀ j, t j = (s j || decide (j = c))) : ∀ i, hang t X cl i = hang s X cl i + (if i ≤ c ∧ c < i + cl.length then (if sub (cl.getD (c - i) (0, 0)).1 X then 0 else (cl.getD (c - i) (0, 0)).2) else 0) := by
  induction cl with
  | nil => intro i; simp [hang]
  | cons x cl ih =>
    intro i
    simp only [hang, List.length_cons]
    rw [ih (i + 1), ht i]
    by_cases e : i = c
    · subst e
      rw [hs, decide_eq_true rfl, if_neg (show ¬ (i + 1 ≤ i ∧ i < i + 1 + cl.length) by omega), if_pos (show i ≤ i ∧ i < i + (cl.length + 1) by omega), Nat.sub_self, List.getD_cons_zero]
      cases sub x.1 X <;> simp <;> omega
    · rw [decide_eq_false e, Bool.or_false]
      by_cases h6 : i + 1 ≤ c ∧ c < i + 1 + cl.length
      · rw [if_pos h6, if_pos (show i ≤ c ∧ c < i + (cl.length + 1) by omega), show c - i = (c - (i + 1)) + 1 by omega, List.getD_cons_succ]
        omega
      · rw [if_neg h6, if_neg (show ¬ (i ≤ c ∧ c < i + (cl.length + 1)) by omega)]
        omega
theorem Val_add (ps os : List Int) (f : Nat → Nat) (s t : Nat → Bool) (c : Nat) (hc : c < os.length) (hs : s c = false) (ht : ∀ j, t j = (s j || decide (j = c))) (X : Nat) :
    Val ps (clm os f) t X = Val ps (clm os f) s X + (if sub (f c) X then 0 else os.getD c 0) := by
  unfold Val
  have hg : (clm os f).getD c (0, 0) = (f c, os.getD c 0) := by
    unfold clm
    rw [List.getD_eq_getElem?_getD, List.getElem?_map, List.getElem?_range hc]; rfl
  have h := hang_add (clm os f) s t X c hs ht 0
  rw [clm_length, Nat.sub_zero, hg, if_pos ⟨Nat.zero_le _, by omega⟩] at h
  simp only at h
  rw [h]
  omega
theorem hang_bound {os : List Int} (f : Nat → Nat) (s : Nat → Bool) (X : Nat) (cl : List (Nat × Int)) (h : ∀ c ∈ cl, 0 ≤ c.2 ∧ c.2 ≤ 1000000000000) : ∀ i, 0 ≤ hang s X cl i ∧ hang s X cl i ≤ 1000000000000 * (cl.length : Int) := by
  induction cl with
  | nil => intro i; simp [hang]
  | cons a cl ih =>
    intro i
    have h1 := h a (List.mem_cons_self ..)
    have h2 := ih (fun x hx => h x (List.mem_cons_of_mem _ hx)) (i + 1)
    simp only [hang, List.length_cons]
    split <;> omega
theorem Val_bound {ps os : List Int} (hp : Nn ps) (h4 : ps.length ≤ 4) (hn : Nn os) (h6 : os.length ≤ 1000) (f : Nat → Nat) (s : Nat → Bool) (X : Nat) : 0 ≤ Val ps (clm os f) s X ∧ Val ps (clm os f) s X ≤ 1100000000000000 := by
  have b1 := cutQ_bound hp X 0
  have b2 := hang_bound (os := os) f s X (clm os f) (fun c hc => by
    obtain ⟨i, _, rfl⟩ := List.mem_map.1 hc
    exact hn.at_ i) 0
  rw [clm_length] at b2
  unfold Val
  omega
theorem cap_bound {ps os : List Int} (hp : Nn ps) (h4 : ps.length ≤ 4) (hn : Nn os) (h6 : os.length ≤ 1000) (f : Nat → Nat) (s : Nat → Bool) : 0 ≤ cap ps (clm os f) s ∧ cap ps (clm os f) s ≤ 1100000000000000 := by
  unfold cap
  exact least_bound _ fun X _ => Val_bound hp h4 hn h6 f s X
theorem Val_none (ps os : List Int) (f : Nat → Nat) (s : Nat → Bool) (hs : ∀ j, s j = false) : Val ps (clm os f) s = fun X => cutQ ps X 0 := by
  funext X
  unfold Val
  rw [hang_congr (t := fun _ => false) X 0 (fun k _ _ => hs k), hang_none, Int.add_zero]
theorem totals_loop (ps os : List Int) (hp : Nn ps) (h4 : ps.length ≤ 4) (hn : Nn os) (h6 : os.length ≤ 1000) (f : Nat → Nat) (hf : ∀ c, c < os.length → f c < 16) : ∀ (r c : Nat), c + r = os.length →
    Ev (fun k => marshal_network_totals.l0 k (tab os.length fun j => if j < c then totl ps (clm os f) j else 0) (tab (2 ^ ps.length) (Val ps (clm os f) (first c))) (os.length : Int) (c : Int) (ps.map sz) (os.map sz) (mks os.length f) (e3 (cap ps (clm os f) (first c))).1 (e3 (cap ps (clm os f) (first c))).2.1 (e3 (cap ps (clm os f) (first c))).2.2) (tab os.length (totl ps (clm os f))) := by
  have hpw : 2 ^ ps.length ≤ 2 ^ 4 := Nat.pow_le_pow_right (by decide) h4
  have h0 := Nat.two_pow_pos ps.length
  intro r
  induction r with
  | zero =>
    intro c hc
    obtain rfl : c = os.length := by omega
    have e : (tab os.length fun j => if j < os.length then totl ps (clm os f) j else 0) = tab os.length (totl ps (clm os f)) := tab_congr fun X hX => if_pos hX
    refine Ev.step (f := fun _ => some (tab os.length (totl ps (clm os f)))) (fun k => ?_) (Ev.now _)
    simp only [marshal_network_totals.l0]
    rw [if_neg (by omega), e]
  | succ r ih =>
    intro c hc
    have hcl : c < os.length := by omega
    have hr := ih (c + 1) (by omega)
    have hA := add_net_ev (2 ^ ps.length) (by omega) (ps.map sz) os hn f c hcl (hf c hcl) (Val ps (clm os f) (first c)) (fun X _ => by have := Val_bound hp h4 hn h6 f (first c) X; omega)
    have hV : (tab (2 ^ ps.length) fun Y => Val ps (clm os f) (first c) Y + (if sub (f c) Y then 0 else os.getD c 0)) = tab (2 ^ ps.length) (Val ps (clm os f) (first (c + 1))) := by
      refine tab_congr fun X _ => (Val_add ps os f (first c) (first (c + 1)) c hcl (decide_eq_false (Nat.lt_irrefl c)) (fun j => ?_) X).symm
      unfold first
      by_cases h : j < c
      · rw [decide_eq_true h, decide_eq_true (show j < c + 1 by omega)]; rfl
      · rw [decide_eq_false h, Bool.false_or]
        exact decide_eq_decide.2 (by omega)
    rw [hV] at hA
    have hL := least_ev (2 ^ ps.length) (by omega) h0 (Val ps (clm os f) (first (c + 1))) (fun X _ => by have := Val_bound hp h4 hn h6 f (first (c + 1)) X; omega)
    have ec : least (Val ps (clm os f) (first (c + 1))) (2 ^ ps.length - 1) = cap ps (clm os f) (first (c + 1)) := rfl
    rw [ec] at hL
    have b1 := cap_bound hp h4 hn h6 f (first (c + 1))
    have b0 := cap_bound hp h4 hn h6 f (first c)
    have hS := Subtract_z (mod_of b1.1 (by omega)) (mod_of b0.1 (by omega))
    have et : cap ps (clm os f) (first (c + 1)) - cap ps (clm os f) (first c) = totl ps (clm os f) c := rfl
    rw [et] at hS
    have hrow : (tab os.length fun j => if j < c then totl ps (clm os f) j else 0).set c (sz (totl ps (clm os f) c)) = tab os.length fun j => if j < c + 1 then totl ps (clm os f) j else 0 := by
      refine tab_set _ _ _ ?_ ?_
      · rw [if_pos (by omega)]
      · intro Y hY
        by_cases h : Y < c
        · rw [if_pos h, if_pos (by omega)]
        · rw [if_neg h, if_neg (by omega)]
    rw [← hrow] at hr
    have hw : wrap64 ((c : Int) + 1) = ((c + 1 : Nat) : Int) := by rw [aw64 (by omega) (by omega)]; rfl
    refine Ev.step (f := fun k => (marshal_network_add.f k (ps.map sz) (os.map sz) (mks os.length f) (tab (2 ^ ps.length) (Val ps (clm os f) (first c))) (c : Int)).bind fun t => (marshal_least.f k t).bind fun b => (q_Subtract.f k b.1 b.2.1 b.2.2 (e3 (cap ps (clm os f) (first c))).1 (e3 (cap ps (clm os f) (first c))).2.1 (e3 (cap ps (clm os f) (first c))).2.2).bind fun d => marshal_network_totals.l0 k ((tab os.length fun j => if j < c then totl ps (clm os f) j else 0).set c ⟨d.1, d.2.1, d.2.2⟩) t (os.length : Int) ((c + 1 : Nat) : Int) (ps.map sz) (os.map sz) (mks os.length f) b.1 b.2.1 b.2.2) (fun k => ?_) (Ev.bind hA (Ev.bind hL (Ev.bind hS hr)))
    simp only [marshal_network_totals.l0, tab_length]
    rw [if_pos (Int.ofNat_lt.2 hcl), hw]
    simp only [if_pos (Int.natCast_nonneg c), if_pos (Int.ofNat_lt.2 hcl), Int.toNat_natCast]
theorem totals_ev (ps os : List Int) (hp : Nn ps) (h4 : ps.length ≤ 4) (hn : Nn os) (h6 : os.length ≤ 1000) (f : Nat → Nat) (hf : ∀ c, c < os.length → f c < 16) : Ev (fun k => marshal_network_totals.f k (ps.map sz) (os.map sz) (mks os.length f)) (tab os.length (totl ps (clm os f))) := by
  have h := totals_loop ps os hp h4 hn h6 f hf os.length 0 (by omega)
  have hc := cuts_ev ps hp h4 (os.map sz) (mks os.length f)
  have e1 : (tab os.length fun j => if j < 0 then totl ps (clm os f) j else 0) = List.replicate os.length z32 := by
    rw [tab_zero]
    exact tab_congr fun X _ => if_neg (by omega)
  have e2 : Val ps (clm os f) (first 0) = fun X => cutQ ps X 0 := Val_none ps os f (first 0) (fun j => decide_eq_false (by omega))
  have e4 : first 0 = fun _ => false := by funext j; exact decide_eq_false (by omega)
  have e3' : cap ps (clm os f) (first 0) = 0 := by rw [e4]; exact cap_none (nn_pos hp) _
  rw [e1, e2, e3', e3_zero] at h
  unfold marshal_network_totals.f
  rw [List.length_map]
  simp only [if_pos (Int.natCast_nonneg os.length), Int.toNat_natCast, if_pos (show os.length ≤ 7036874417766 by omega)]
  refine Ev.bind (Ev.now _) (Ev.bind hc ?_)
  rw [List.length_replicate]
  exact h
end Go.Proofs.YtppimdempdnhoaaDoor.C
namespace Go.Proofs.YtppimdempdnhoaaDoor.C
open Go.RowKit Go.PrWords Go.PrLast Go.PrMore
set_option maxRecDepth 100000 in
theorem awake16_ev : Ev (fun k => insolvencylaw16_awake.f k) true := Ev.of insolvencylaw16_awake.mono (k := 60) (by decide +kernel)
theorem msk_16 {xs : List S50} (h4 : xs.length ≤ 4) (c : Nat) : msk xs xs.length c < 16 := by
  have h := msk_lt xs c xs.length
  have hp : 2 ^ xs.length ≤ 2 ^ 4 := Nat.pow_le_pow_right (by decide) h4
  omega
def net (xs : List S50) (os : List Int) : List (Nat × Int) := clm os (msk xs xs.length)
theorem Totals_ev (os : List Int) (h6 : os.length ≤ 24) (hn : Nn os) (xs : List S50) (ps : List Int) (hx : Its (os.length : Int) xs ps) : Ev (fun k => marshal_Totals.f k xs (os.map sz)) (tab os.length (totl ps (net xs os)), 0) := by
  have hc := Check_ev os h6 hn xs ps hx
  have hb := build_ev os hn (by omega) xs ps hx
  have hp := hx.nn
  have ht := totals_ev ps os hp (by rw [← hx.1]; exact hx.2.1) hn (by omega) (msk xs xs.length) (fun c _ => msk_16 hx.2.1 c)
  unfold marshal_Totals.f
  refine Ev.bind hc ?_
  simp only [if_true]
  exact Ev.bind hb (Ev.bind ht (Ev.now _))
def bl (m : Nat) (s : Nat → Bool) : List Bool := (List.range m).map s
theorem bl_length (m : Nat) (s : Nat → Bool) : (bl m s).length = m := by simp [bl]
theorem rd_bl {m c : Nat} (s : Nat → Bool) (h : c < m) : rdOf false (bl m s) (c : Int) = s c := by
  unfold rdOf bl
  rw [Int.toNat_natCast, List.getD_eq_getElem?_getD, List.getElem?_map, List.getElem?_range h]; rfl
theorem bl_set (m c : Nat) (s t : Nat → Bool) (v : Bool) (hv : v = t c) (h : ∀ d, d ≠ c → s d = t d) : (bl m s).set c v = bl m t := by
  unfold bl
  apply List.ext_getElem?
  intro j
  rw [List.getElem?_set]
  by_cases hj : c = j
  · subst hj
    rw [if_pos rfl]
    split
    · rename_i hl
      rw [List.length_map, List.length_range] at hl
      rw [List.getElem?_map, List.getElem?_range hl, hv]; rfl
    · rename_i hl
      rw [List.getElem?_eq_none (by rw [List.length_map, List.length_range] at hl ⊢; omega)]
  · rw [if_neg hj, List.getElem?_map, List.getElem?_map]
    by_cases hl : j < m
    · rw [List.getElem?_range hl]
      simp only [Option.map_some]
      rw [h j (fun e => hj e.symm)]
    · rw [List.getElem?_eq_none (by simpa using hl)]; rfl
def inl (l : List Int) (j : Nat) : Bool := l.any fun x => decide (x = (j : Int))
def bel_ (s : Nat → Bool) (c : Nat) (j : Nat) : Bool := s j && decide (j < c)
theorem Capacity_l1 (ps os : List Int) (hp : Nn ps) (h4 : ps.length ≤ 4) (hn : Nn os) (h6 : os.length ≤ 1000) (f : Nat → Nat) (hf : ∀ c, c < os.length → f c < 16) (s : Nat → Bool) : ∀ (r c : Nat), c + r = os.length →
    Ev (fun k => marshal_Capacity.l1 k (tab (2 ^ ps.length) (Val ps (clm os f) (bel_ s c))) (bl os.length s) (os.length : Int) (c : Int) (ps.map sz) (os.map sz) (mks os.length f)) ((e3 (cap ps (clm os f) s)).1, (e3 (cap ps (clm os f) s)).2.1, (e3 (cap ps (clm os f) s)).2.2, 0) := by
  have hpw : 2 ^ ps.length ≤ 2 ^ 4 := Nat.pow_le_pow_right (by decide) h4
  have h0 := Nat.two_pow_pos ps.length
  intro r
  induction r with
  | zero =>
    intro c hc
    obtain rfl : c = os.length := by omega
    have hL := least_ev (2 ^ ps.length) (by omega) h0 (Val ps (clm os f) (bel_ s os.length)) (fun X _ => by have := Val_bound hp h4 hn h6 f (bel_ s os.length) X; omega)
    have ec : least (Val ps (clm os f) (bel_ s os.length)) (2 ^ ps.length - 1) = cap ps (clm os f) s := by
      show cap ps (clm os f) (bel_ s os.length) = _
      refine cap_congr ps fun k hk => ?_
      rw [clm_length] at hk
      unfold bel_
      rw [decide_eq_true hk, Bool.and_true]
    rw [ec] at hL
    refine Ev.step (f := fun k => (marshal_least.f k (tab (2 ^ ps.length) (Val ps (clm os f) (bel_ s os.length)))).bind fun b => some (b.1, b.2.1, b.2.2, 0)) (fun k => ?_) (Ev.bind hL (Ev.now _))
    simp only [marshal_Capacity.l1]
    rw [if_neg (by omega)]
  | succ r ih =>
    intro c hc
    have hcl : c < os.length := by omega
    have hr := ih (c + 1) (by omega)
    have hw : wrap64 ((c : Int) + 1) = ((c + 1 : Nat) : Int) := by rw [aw64 (by omega) (by omega)]; rfl
    cases hs : s c
    · have e : bel_ s (c + 1) = bel_ s c := by
        funext j
        unfold bel_
        by_cases h : j = c
        · rw [h, hs]; rfl
        · congr 1
          exact decide_eq_decide.2 (by omega)
      rw [e] at hr
      refine Ev.step (f := fun k => marshal_Capacity.l1 k (tab (2 ^ ps.length) (Val ps (clm os f) (bel_ s c))) (bl os.length s) (os.length : Int) ((c + 1 : Nat) : Int) (ps.map sz) (os.map sz) (mks os.length f)) (fun k => ?_) hr
      simp only [marshal_Capacity.l1, bl_length]
      rw [if_pos (Int.ofNat_lt.2 hcl), if_pos (Int.natCast_nonneg c), if_pos (Int.ofNat_lt.2 hcl), rd_bl s hcl, hs, if_neg Bool.false_ne_true, hw]
    · have hA := add_net_ev (2 ^ ps.length) (by omega) (ps.map sz) os hn f c hcl (hf c hcl) (Val ps (clm os f) (bel_ s c)) (fun X _ => by have := Val_bound hp h4 hn h6 f (bel_ s c) X; omega)
      have hV : (tab (2 ^ ps.length) fun Y => Val ps (clm os f) (bel_ s c) Y + (if sub (f c) Y then 0 else os.getD c 0)) = tab (2 ^ ps.length) (Val ps (clm os f) (bel_ s (c + 1))) := by
        refine tab_congr fun X _ => (Val_add ps os f (bel_ s c) (bel_ s (c + 1)) c hcl ?_ (fun j => ?_) X).symm
        · unfold bel_; rw [decide_eq_false (Nat.lt_irrefl c), Bool.and_false]
        · unfold bel_
          by_cases h : j = c
          · rw [h, hs, decide_eq_true (show c < c + 1 by omega), decide_eq_true rfl]; simp
          · rw [decide_eq_false h, Bool.or_false]
            congr 1
            exact decide_eq_decide.2 (by omega)
      rw [hV] at hA
      refine Ev.step (f := fun k => (marshal_network_add.f k (ps.map sz) (os.map sz) (mks os.length f) (tab (2 ^ ps.length) (Val ps (clm os f) (bel_ s c))) (c : Int)).bind fun t => marshal_Capacity.l1 k t (bl os.length s) (os.length : Int) ((c + 1 : Nat) : Int) (ps.map sz) (os.map sz) (mks os.length f)) (fun k => ?_) (Ev.bind hA hr)
      simp only [marshal_Capacity.l1, bl_length]
      rw [if_pos (Int.ofNat_lt.2 hcl), if_pos (Int.natCast_nonneg c), if_pos (Int.ofNat_lt.2 hcl), rd_bl s hcl, hs, if_pos rfl, hw]
theorem inl_take (l : List Int) (i : Nat) (hi : i < l.length) (n : Nat) (hn : l[i] = (n : Int)) (j : Nat) : inl (l.take (i + 1)) j = (inl (l.take i) j || decide (j = n)) := by
  unfold inl
  rw [List.take_add_one, List.getElem?_eq_getElem hi, List.any_append, hn]
  simp only [Option.toList, List.any_cons, List.any_nil, Bool.or_false]
  congr 1
  exact decide_eq_decide.2 (by omega)
theorem Capacity_ev (os : List Int) (h6 : os.length ≤ 24) (hn : Nn os) (xs : List S50) (ps : List Int) (hx : Its (os.length : Int) xs ps) (l : List Int) (hl : ∀ x ∈ l, 0 ≤ x ∧ x < (os.length : Int)) (hll : l.length ≤ 1000) :
    Ev (fun k => marshal_Capacity.f k xs (os.map sz) l) ((e3 (cap ps (net xs os) (inl l))).1, (e3 (cap ps (net xs os) (inl l))).2.1, (e3 (cap ps (net xs os) (inl l))).2.2, 0) := by
  have hc := Check_ev os h6 hn xs ps hx
  have hb := build_ev os hn (by omega) xs ps hx
  have hp := hx.nn
  have h4 : ps.length ≤ 4 := by rw [← hx.1]; exact hx.2.1
  have hcu := cuts_ev ps hp h4 (os.map sz) (mks os.length (msk xs xs.length))
  have h1 := Capacity_l1 ps os hp h4 hn (by omega) (msk xs xs.length) (fun c _ => msk_16 hx.2.1 c) (inl l) os.length 0 (by omega)
  have hv : Val ps (clm os (msk xs xs.length)) (bel_ (inl l) 0) = fun X => cutQ ps X 0 := Val_none ps os _ _ (fun j => by unfold bel_; rw [decide_eq_false (Nat.not_lt_zero j), Bool.and_false])
  rw [hv] at h1
  have hloop : ∀ (r i : Nat), i + r = l.length → Ev (fun k => marshal_Capacity.l0 k xs (os.map sz) (bl os.length (inl (l.take i))) l (l.length : Int) (i : Int)) ((e3 (cap ps (net xs os) (inl l))).1, (e3 (cap ps (net xs os) (inl l))).2.1, (e3 (cap ps (net xs os) (inl l))).2.2, 0) := by
    intro r
    induction r with
    | zero =>
      intro i hi
      rw [List.take_of_length_le (by omega)]
      refine Ev.step (f := fun k => (marshal_build.f k xs (os.map sz)).bind fun b => (marshal_network_cuts.f k b.1 b.2.1 b.2.2).bind fun t => marshal_Capacity.l1 k t (bl os.length (inl l)) (os.length : Int) ((0 : Nat) : Int) b.1 b.2.1 b.2.2) (fun k => ?_) (Ev.bind hb (Ev.bind hcu h1))
      simp only [marshal_Capacity.l0, bl_length]
      rw [if_neg (by omega)]; rfl
    | succ r ih =>
      intro i hi
      have hil : i < l.length := by omega
      have hr := ih (i + 1) (by omega)
      obtain ⟨x0, x1⟩ := hl _ (List.getElem_mem hil)
      obtain ⟨n, hnn⟩ := Int.eq_ofNat_of_zero_le x0
      have hset : (bl os.length (inl (l.take i))).set n true = bl os.length (inl (l.take (i + 1))) := by
        refine bl_set os.length n _ _ _ ?_ ?_
        · rw [inl_take l i hil n hnn n]; simp
        · intro d hd
          rw [inl_take l i hil n hnn d, decide_eq_false hd, Bool.or_false]
      rw [← hset] at hr
      have hw : wrap64 ((i : Int) + 1) = ((i + 1 : Nat) : Int) := by rw [aw64 (by omega) (by omega)]; rfl
      refine Ev.step (f := fun k => marshal_Capacity.l0 k xs (os.map sz) ((bl os.length (inl (l.take i))).set n true) l (l.length : Int) ((i + 1 : Nat) : Int)) (fun k => ?_) hr
      simp only [marshal_Capacity.l0, bl_length, List.length_map]
      rw [if_pos (Int.ofNat_lt.2 hil), if_pos (Int.natCast_nonneg i), if_pos (Int.ofNat_lt.2 hil), rd_at l i hil, if_neg (Int.not_lt.2 x0), if_neg (Int.not_le.2 x1), if_pos x0, if_pos x1, hw, hnn, Int.toNat_natCast]
  have hl0 := hloop l.length 0 (by omega)
  have e0 : bl os.length (inl (l.take 0)) = List.replicate os.length false := by
    unfold bl inl
    simp only [List.take_zero, List.any_nil]
    rw [List.map_const']
    simp
  rw [e0] at hl0
  unfold marshal_Capacity.f
  refine Ev.bind hc ?_
  rw [List.length_map]
  simp only [if_true, if_pos (Int.natCast_nonneg os.length), Int.toNat_natCast, if_pos (show os.length ≤ 281474976710656 by omega)]
  exact hl0
set_option maxRecDepth 1000000 in
theorem set_tab : ∀ b : Fin 256, ∀ i : Fin 8, decide (Go.bits .and .u8 (shr .u8 ((b : Nat) : Int) (IntKind.u64.wrap ((i : Nat) : Int))) 1 = 1) = (b : Nat).testBit (i : Nat) := by decide +kernel
def setl (b n : Nat) : List Int := ((List.range n).filter (fun i => b.testBit i)).map (fun i : Nat => (i : Int))
theorem setl_succ (b n : Nat) : setl b (n + 1) = if b.testBit n = true then setl b n ++ [(n : Int)] else setl b n := by
  unfold setl
  rw [List.range_succ, List.filter_append, List.map_append]
  by_cases h : b.testBit n = true
  · rw [if_pos h, List.filter_cons_of_pos h]; rfl
  · rw [if_neg h, List.filter_cons_of_neg h]; simp
theorem setl_length (b n : Nat) : (setl b n).length ≤ n := by
  unfold setl
  rw [List.length_map]
  exact Nat.le_trans (List.length_filter_le _ _) (by rw [List.length_range]; exact Nat.le_refl _)
theorem setl_mem {b n : Nat} {x : Int} (h : x ∈ setl b n) : 0 ≤ x ∧ x < (n : Int) := by
  unfold setl at h
  obtain ⟨i, hi, rfl⟩ := List.mem_map.1 h
  have := (List.mem_filter.1 hi).1
  rw [List.mem_range] at this
  omega
theorem inl_setl (b n j : Nat) : inl (setl b n) j = (b.testBit j && decide (j < n)) := by
  unfold inl
  rw [Bool.eq_iff_iff, List.any_eq_true, Bool.and_eq_true]
  constructor
  · rintro ⟨x, hx, hj⟩
    unfold setl at hx
    obtain ⟨i, hi, rfl⟩ := List.mem_map.1 hx
    obtain ⟨h1, h2⟩ := List.mem_filter.1 hi
    rw [List.mem_range] at h1
    have : i = j := by have := of_decide_eq_true hj; omega
    subst this
    exact ⟨h2, decide_eq_true h1⟩
  · rintro ⟨h1, h2⟩
    refine ⟨(j : Int), ?_, decide_eq_true rfl⟩
    unfold setl
    exact List.mem_map.2 ⟨j, List.mem_filter.2 ⟨List.mem_range.2 (of_decide_eq_true h2), h1⟩, rfl⟩
theorem set_ev (b n : Nat) (hb : b < 256) (hn : n ≤ 8) : Ev (fun k => insolvencylaw16_set.f k (b : Int) (n : Int)) (setl b n) := by
  have hloop : ∀ (r i : Nat), i + r = n → Ev (fun k => insolvencylaw16_set.l0 k (b : Int) (n : Int) (setl b i) (i : Int)) (setl b n) := by
    intro r
    induction r with
    | zero =>
      intro i hi
      obtain rfl : i = n := by omega
      refine Ev.step (f := fun _ => some (setl b i)) (fun k => ?_) (Ev.now _)
      simp only [insolvencylaw16_set.l0]
      rw [if_neg (by omega)]
    | succ r ih =>
      intro i hi
      have hr := ih (i + 1) (by omega)
      have ht := set_tab ⟨b, hb⟩ ⟨i, by omega⟩
      simp only at ht
      have hl := setl_length b i
      have h1 : (0 : Int) ≤ IntKind.u64.wrap (i : Int) := by rw [wu64 (by omega) (by omega)]; omega
      have hw : wrap64 ((i : Int) + 1) = ((i + 1 : Nat) : Int) := by rw [aw64 (by omega) (by omega)]; rfl
      rw [setl_succ] at hr
      cases hbit : b.testBit i
      · rw [hbit] at ht hr
        rw [if_neg Bool.false_ne_true] at hr
        refine Ev.step (f := fun k => insolvencylaw16_set.l0 k (b : Int) (n : Int) (setl b i) ((i + 1 : Nat) : Int)) (fun k => ?_) hr
        simp only [insolvencylaw16_set.l0]
        rw [if_pos (show (i : Int) < (n : Int) from Int.ofNat_lt.2 (by omega)), if_pos h1, if_neg (of_decide_eq_false ht), hw]
      · rw [hbit] at ht hr
        rw [if_pos rfl] at hr
        refine Ev.step (f := fun k => insolvencylaw16_set.l0 k (b : Int) (n : Int) (setl b i ++ [(i : Int)]) ((i + 1 : Nat) : Int)) (fun k => ?_) hr
        simp only [insolvencylaw16_set.l0]
        rw [if_pos (show (i : Int) < (n : Int) from Int.ofNat_lt.2 (by omega)), if_pos h1, if_pos (of_decide_eq_true ht), if_pos (show (setl b i).length < 17592186044416 from Nat.lt_of_le_of_lt hl (by omega)), hw]
  exact hloop n 0 (by omega)
section
variable (ps os : List Int) (f : Nat → Nat)
end
end Go.Proofs.YtppimdempdnhoaaDoor.C
namespace Go.Proofs.YtppimdempdnhoaaDoor.C
open Go.RowKit Go.PrWords Go.PrLast Go.PrMore
def Ow (A : List Int) : List Int := (A.take 6).map amtZ
def Xw (L : List S46) (A : List Int) : List S50 := (L.take 4).map (itm ((Ow A).length : Int))
def Pw (L : List S46) : List Int := (L.take 4).map przI
theorem Ow_length (A : List Int) : (Ow A).length ≤ 6 := by unfold Ow; rw [List.length_map, List.length_take]; omega
theorem Ow_nn {A : List Int} (hA : ∀ x ∈ A, 0 ≤ x ∧ x < 65536) : Nn (Ow A) := amounts_Nn hA
theorem Xw_ok {L : List S46} (hL : ∀ x ∈ L, ok6 x) (A : List Int) : Its ((Ow A).length : Int) (Xw L A) (Pw L) := items_ok hL (Int.natCast_nonneg _)
theorem Ow_ev {A : List Int} (hA : ∀ x ∈ A, 0 ≤ x ∧ x < 65536) : Ev (fun k => l0_Amounts.f k A 6) ((Ow A).map sz) := amounts_law A hA
theorem Xw_ev {L : List S46} (hL : ∀ x ∈ L, ok6 x) (A : List Int) : Ev (fun k => l0_Items.f k L ((((Ow A).map sz).length : Nat) : Int)) (Xw L A) := by
  have h6 := Ow_length A
  rw [List.length_map]
  exact items_law L hL _ ⟨by omega, by omega⟩
theorem icmp_le {x y : Int} (h : x ≤ y) : icmp x y ≤ 0 := by
  rcases Int.lt_or_eq_of_le h with h | h
  · rw [icmp_lt h]; decide
  · rw [icmp_eq h]; decide
section
variable {L : List S46} (hL : ∀ x ∈ L, ok6 x) {A : List Int} (hA : ∀ x ∈ A, 0 ≤ x ∧ x < 65536)
def nw (L : List S46) (A : List Int) : List (Nat × Int) := net (Xw L A) (Ow A)
theorem nw_length (L : List S46) (A : List Int) : (nw L A).length = (Ow A).length := clm_length _ _
include hA in
theorem nw_pos (L : List S46) : PosC (nw L A) := clm_pos (Ow_nn hA) _
include hL hA in
theorem nw_cap (s : Nat → Bool) : 0 ≤ cap (Pw L) (nw L A) s ∧ cap (Pw L) (nw L A) s ≤ 1100000000000000 := by
  have hx := Xw_ok hL A
  have h6 := Ow_length A
  exact cap_bound hx.nn (by rw [← hx.1]; exact hx.2.1) (Ow_nn hA) (by omega) _ s
end
end Go.Proofs.YtppimdempdnhoaaDoor.C
namespace Go.Proofs.YtppimdempdnhoaaDoor.Pure
open Go.RowKit Go.Proofs.YtppimdempdnhoaaDoor.C Go.PrWords Go.PrLast Go.PrMore
def sumF (F : Nat → Int) : List Int → Int
 | [] => 0
 | x :: l => F x.toNat + sumF F l
theorem sumF_append (F : Nat → Int) (l m : List Int) : sumF F (l ++ m) = sumF F l + sumF F m := by
 induction l with
 | nil => simp [sumF]
 | cons x l ih => simp only [List.cons_append, sumF, ih]; omega
theorem sumF_setl (p : List Int) (cl : List (Nat × Int)) (b : Nat) : ∀ n, sumF (totl p cl) (setl b n) = sumT p cl (fun j => b.testBit j) n := by
 intro n
 induction n with
 | zero => rfl
 | succ n ih =>
  rw [setl_succ]
  simp only [sumT]
  by_cases h : b.testBit n = true
  ·rw [if_pos h, if_pos h, sumF_append, ih]
   simp [sumF]
  ·rw [if_neg h, if_neg h, ih, Int.add_zero]
theorem suml_range (F : Nat → Int) (p : List Int) (cl : List (Nat × Int)) (hF : F = totl p cl) : ∀ n, suml ((List.range n).map F) = sumT p cl (fun _ => true) n := by
 have happ : ∀ l m : List Int, suml (l ++ m) = suml l + suml m := by
  intro l m
  induction l with
  | nil => simp [suml]
  | cons x l ih => simp only [List.cons_append, suml, ih]; omega
 intro n
 induction n with
 | zero => rfl
 | succ n ih =>
  rw [List.range_succ, List.map_append, happ, ih, hF]
  simp [sumT, suml]
theorem sets_loop (L : List S46) (A : List Int) (hL : ∀ x ∈ L, ok6 x) (hA : ∀ x ∈ A, 0 ≤ x ∧ x < 65536) (Z : Int) (l : List Int) (hl : ∀ x ∈ l, 0 ≤ x ∧ x < ((Ow A).length : Int)) (hll : l.length ≤ 8)
  (h : Ev (fun k => insolvencylaw16_MarshalSets.l0 k ((Ow A).map sz) (Xw L A) (tab (Ow A).length (totl (Pw L) (nw L A))) l (l.length : Int) (l.length : Int) (e3 Z).1 (e3 Z).2.1 (e3 Z).2.2 (e3 (sumF (totl (Pw L) (nw L A)) l)).1 (e3 (sumF (totl (Pw L) (nw L A)) l)).2.1 (e3 (sumF (totl (Pw L) (nw L A)) l)).2.2) true) : ∀ (r j : Nat), j + r = l.length →
  0 ≤ sumF (totl (Pw L) (nw L A)) (l.take j) ∧ sumF (totl (Pw L) (nw L A)) (l.take j) ≤ 1100000000000000 * (j : Int) ∧
  Ev (fun k => insolvencylaw16_MarshalSets.l0 k ((Ow A).map sz) (Xw L A) (tab (Ow A).length (totl (Pw L) (nw L A))) l (l.length : Int) (j : Int) (e3 Z).1 (e3 Z).2.1 (e3 Z).2.2 (e3 (sumF (totl (Pw L) (nw L A)) (l.take j))).1 (e3 (sumF (totl (Pw L) (nw L A)) (l.take j))).2.1 (e3 (sumF (totl (Pw L) (nw L A)) (l.take j))).2.2) true := by
 have hc := nw_pos hA L
 have tb : ∀ c, 0 ≤ totl (Pw L) (nw L A) c ∧ totl (Pw L) (nw L A) c ≤ 1100000000000000 := by
  intro c
  have b0 := nw_cap hL hA (first c)
  have b1 := nw_cap hL hA (first (c + 1))
  have t0 := totl_nonneg (Pw L) hc c
  refine ⟨t0, ?_⟩
  unfold totl
  omega
 have bound : ∀ j, j ≤ l.length → 0 ≤ sumF (totl (Pw L) (nw L A)) (l.take j) ∧ sumF (totl (Pw L) (nw L A)) (l.take j) ≤ 1100000000000000 * (j : Int) := by
  intro j
  induction j with
  | zero => intro _; simp [sumF]
  | succ j ih =>
   intro hj
   have h1 := ih (by omega)
   rw [List.take_add_one, List.getElem?_eq_getElem (by omega), sumF_append]
   have h2 := tb (l[j]'(by omega)).toNat
   simp only [Option.toList, sumF]
   omega
 intro r
 induction r with
 | zero =>
  intro j hj
  obtain rfl : j = l.length := by omega
  refine ⟨(bound _ (by omega)).1, (bound _ (by omega)).2, ?_⟩
  rw [List.take_of_length_le (Nat.le_refl _)]
  exact h
 | succ r ih =>
  intro j hj
  have hjl : j < l.length := by omega
  obtain ⟨n0, n1, hr⟩ := ih (j + 1) (by omega)
  obtain ⟨b0, b1⟩ := bound j (by omega)
  refine ⟨b0, b1, ?_⟩
  obtain ⟨x0, x1⟩ := hl _ (List.getElem_mem hjl)
  obtain ⟨n, hn⟩ := Int.eq_ofNat_of_zero_le x0
  have es : sumF (totl (Pw L) (nw L A)) (l.take (j + 1)) = sumF (totl (Pw L) (nw L A)) (l.take j) + totl (Pw L) (nw L A) n := by
   rw [List.take_add_one, List.getElem?_eq_getElem hjl, sumF_append, hn]
   simp [sumF]
  have t0 := tb n
  have hrd := rd_tab (totl (Pw L) (nw L A)) (show n < (Ow A).length by omega)
  obtain ⟨S, hS⟩ : ∃ S, sumF (totl (Pw L) (nw L A)) (l.take j) = S := ⟨_, rfl⟩
  obtain ⟨t, ht⟩ : ∃ t, totl (Pw L) (nw L A) n = t := ⟨_, rfl⟩
  rw [es, hS, ht] at hr
  rw [hS] at b0 b1 ⊢
  rw [ht] at t0 hrd
  have a1 := Add_z (z := S) (w := t) (mod_of b0 (by omega)) (mod_of t0.1 (by omega))
  have hw : wrap64 ((j : Int) + 1) = ((j + 1 : Nat) : Int) := by rw [aw64 (by omega) (by omega)]; rfl
  refine Ev.step (f := fun k => (q_Add.f k (e3 S).1 (e3 S).2.1 (e3 S).2.2 (e3 t).1 (e3 t).2.1 (e3 t).2.2).bind fun b => insolvencylaw16_MarshalSets.l0 k ((Ow A).map sz) (Xw L A) (tab (Ow A).length (totl (Pw L) (nw L A))) l (l.length : Int) ((j + 1 : Nat) : Int) (e3 Z).1 (e3 Z).2.1 (e3 Z).2.2 b.1 b.2.1 b.2.2) (fun k => ?_) (Ev.bind a1 hr)
  simp only [insolvencylaw16_MarshalSets.l0, tab_length]
  rw [if_pos (Int.ofNat_lt.2 hjl), if_pos (Int.natCast_nonneg j), if_pos (Int.ofNat_lt.2 hjl), rd_at l j hjl, if_pos x0, if_pos x1, hn, hrd, hw]
  rfl
theorem MarshalSets (L : List S46) (A : List Int) (a2 : Int) (hL : ∀ x ∈ L, ok6 x) (hA : ∀ x ∈ A, 0 ≤ x ∧ x < 65536) (b2 : 0 ≤ a2 ∧ a2 ≤ 255) : ∃ k, insolvencylaw16_MarshalSets.f k L A a2 = some true := by
 refine Ev.rounds ?_
 obtain ⟨s, rfl⟩ := Int.eq_ofNat_of_zero_le b2.1
 have hs : s < 256 := by omega
 have hx := Xw_ok hL A
 have h6 := Ow_length A
 have hc := nw_pos hA L
 have hp := nn_pos hx.nn
 have e1 := set_ev s (Ow A).length hs (by omega)
 have e2 := set_ev 255 (Ow A).length (by decide) (by omega)
 have l1 := setl_length s (Ow A).length
 have n1000 : (Ow A).length ≤ 1000 := by omega
 have m1 : ∀ y ∈ setl s (Ow A).length, 0 ≤ y ∧ y < ((Ow A).length : Int) := fun y hy => setl_mem hy
 have m2 : ∀ y ∈ setl 255 (Ow A).length, 0 ≤ y ∧ y < ((Ow A).length : Int) := fun y hy => setl_mem hy
 have c1 := Capacity_ev (Ow A) (by omega) (Ow_nn hA) (Xw L A) (Pw L) hx _ m1 (by omega)
 have c2 := Capacity_ev (Ow A) (by omega) (Ow_nn hA) (Xw L A) (Pw L) hx _ m2 (Nat.le_trans (setl_length 255 _) n1000)
 have en : net (Xw L A) (Ow A) = nw L A := rfl
 rw [en] at c1 c2
 have hle : sumF (totl (Pw L) (nw L A)) (setl s (Ow A).length) ≤ cap (Pw L) (nw L A) (inl (setl s (Ow A).length)) := by
  rw [sumF_setl]
  have h := sumT_le (Pw L) hp hc (fun j => s.testBit j) (Ow A).length
  rw [show inl (setl s (Ow A).length) = fun j => s.testBit j && first (Ow A).length j from funext fun j => inl_setl s (Ow A).length j]
  exact h
 have hall : suml ((List.range (Ow A).length).map (totl (Pw L) (nw L A))) = cap (Pw L) (nw L A) (inl (setl 255 (Ow A).length)) := by
  rw [suml_range _ (Pw L) (nw L A) rfl, sumT_all hp]
  refine cap_congr (Pw L) fun k hk => ?_
  rw [nw_length] at hk
  rw [inl_setl]
  have hb : ∀ k : Fin 8, (255 : Nat).testBit (k : Nat) = true := by decide
  have := hb ⟨k, by omega⟩
  simp only at this
  rw [this]
  unfold first
  rfl
 have k1 := nw_cap hL hA (inl (setl s (Ow A).length))
 have tb : ∀ c, 0 ≤ totl (Pw L) (nw L A) c ∧ totl (Pw L) (nw L A) c ≤ 1100000000000000 := by
  intro c
  have b0 := nw_cap hL hA (first c)
  have b1 := nw_cap hL hA (first (c + 1))
  have t0 := totl_nonneg (Pw L) hc c
  refine ⟨t0, ?_⟩
  unfold totl
  omega
 have hsum := Sum_w ((List.range (Ow A).length).map (totl (Pw L) (nw L A))) (fun z hz => by
  obtain ⟨i, _, rfl⟩ := List.mem_map.1 hz
  exact tb i) (by rw [List.length_map, List.length_range]; omega)
 rw [hall] at hsum
 have emap : ((List.range (Ow A).length).map (totl (Pw L) (nw L A))).map sz = tab (Ow A).length (totl (Pw L) (nw L A)) := by unfold tab; rw [List.map_map]; rfl
 rw [emap] at hsum
 obtain ⟨Z, hZ⟩ : ∃ Z, cap (Pw L) (nw L A) (inl (setl s (Ow A).length)) = Z := ⟨_, rfl⟩
 obtain ⟨Y, hY⟩ : ∃ Y, cap (Pw L) (nw L A) (inl (setl 255 (Ow A).length)) = Y := ⟨_, rfl⟩
 rw [hZ] at c1 hle k1
 rw [hY] at c2 hsum
 have hS0 : 0 ≤ sumF (totl (Pw L) (nw L A)) (setl s (Ow A).length) := by
  have : ∀ l : List Int, 0 ≤ sumF (totl (Pw L) (nw L A)) l := by
   intro l
   induction l with
   | nil => exact Int.le_refl _
   | cons x l ih => have := (tb x.toNat).1; simp only [sumF]; omega
  exact this _
 have hcmp := Compare_z (z := sumF (totl (Pw L) (nw L A)) (setl s (Ow A).length)) (w := Z) (mod_of hS0 (by omega)) (mod_of k1.1 (by omega)) hS0 k1.1
 have hend : Ev (fun k => insolvencylaw16_MarshalSets.l0 k ((Ow A).map sz) (Xw L A) (tab (Ow A).length (totl (Pw L) (nw L A))) (setl s (Ow A).length) ((setl s (Ow A).length).length : Int) ((setl s (Ow A).length).length : Int) (e3 Z).1 (e3 Z).2.1 (e3 Z).2.2 (e3 (sumF (totl (Pw L) (nw L A)) (setl s (Ow A).length))).1 (e3 (sumF (totl (Pw L) (nw L A)) (setl s (Ow A).length))).2.1 (e3 (sumF (totl (Pw L) (nw L A)) (setl s (Ow A).length))).2.2) true := by
  generalize sumF (totl (Pw L) (nw L A)) (setl s (Ow A).length) = S at hle hS0 hcmp
  refine Ev.step (f := fun k => (insolvencylaw16_set.f k 255 ((Ow A).length : Int)).bind fun l => (marshal_Capacity.f k (Xw L A) ((Ow A).map sz) l).bind fun b => (insolvencylaw16_awake.f k).bind fun a => if a = true then (q_Compare.f k (e3 S).1 (e3 S).2.1 (e3 S).2.2 (e3 Z).1 (e3 Z).2.1 (e3 Z).2.2).bind fun c => if c ≤ 0 then (if b.2.2.2 = 0 then (q_Sum.f k (tab (Ow A).length (totl (Pw L) (nw L A)))).bind fun d => some (d.1 == b.1 && (d.2.1.toList == b.2.1.toList && (d.2.2.toList == b.2.2.1.toList))) else none) else none else none) (fun k => ?_) (Ev.bind e2 (Ev.bind c2 (Ev.bind awake16_ev ?_)))
  ·simp only [insolvencylaw16_MarshalSets.l0, List.length_map]
   rw [if_neg (by omega)]
  ·simp only [if_true]
   refine Ev.bind hcmp ?_
   simp only [if_pos (icmp_le hle)]
   refine Ev.bind hsum ?_
   simp only [beq_self_eq_true, Bool.and_self]
   exact Ev.now _
 have hloop := (sets_loop L A hL hA Z (setl s (Ow A).length) m1 (by omega) hend (setl s (Ow A).length).length 0 (by omega)).2.2
 rw [List.take_zero, show sumF (totl (Pw L) (nw L A)) [] = 0 from rfl, e3_zero] at hloop
 unfold insolvencylaw16_MarshalSets.f
 refine Ev.bind (Ow_ev hA) (Ev.bind (Xw_ev hL A) (Ev.bind (Totals_ev (Ow A) (by omega) (Ow_nn hA) (Xw L A) (Pw L) hx) ?_))
 simp only [List.length_map]
 refine Ev.bind e1 (Ev.bind c1 ?_)
 simp only [if_true, tab_length]
 have hb : ((((Ow A).length : Nat) : Int) != ((Ow A).length : Int)) = false := by simp
 rw [hb]
 refine Ev.step (f := fun k => (insolvencylaw16_set.f k (s : Int) ((Ow A).length : Int)).bind fun l => insolvencylaw16_MarshalSets.l0 k ((Ow A).map sz) (Xw L A) (tab (Ow A).length (totl (Pw L) (nw L A))) l (l.length : Int) ((0 : Nat) : Int) (e3 Z).1 (e3 Z).2.1 (e3 Z).2.2 false ⟨#[]⟩ ⟨#[]⟩) (fun k => ?_) (Ev.bind e1 hloop)
 simp only [insolvencylaw16_MarshalSets.j0, List.length_map]
 rw [if_neg (by decide)]; rfl
end Go.Proofs.YtppimdempdnhoaaDoor.Pure
namespace Go.Proofs.YtppimdempdnhoaaDoor.C
open Go.ChangeShapes Go.WideShapes Go.ChangeAt Go.RowKit Go.Deep Go.PrWords
theorem cells_u16 : Tryd.prog.cellsOf 45 = 1 := by kernel_rfl
theorem cells_arr : Tryd.prog.cellsOf 46 = 6 := by kernel_rfl
theorem list6 {α : Type} (l : List α) (h : l.length = 6) : ∃ a b c d e f, l = [a, b, c, d, e, f] := by
  match l, h with
  | [a, b, c, d, e, f], _ => exact ⟨a, b, c, d, e, f, rfl⟩
section
variable {H : Type} {enc : TypeId × Value → H} {P : Program} {w : World} {base : Nat} {spare : Nat → Bool} {held : Bool}
theorem trod_array6 {t e : TypeId} {fuel : Nat} {c0 c1 c2 c3 c4 c5 : Value} {x : DataW H × List MemPlace} (ht : P.underlying t = some (.array 6 e)) (hce : P.cellsOf e = 1)
    (h : DataW.trod enc P w base spare held fuel t [c0, c1, c2, c3, c4, c5] = some x) :
    ∃ y0 y1 y2 y3 y4 y5 n, x = (.agg [y0.1, y1.1, y2.1, y3.1, y4.1, y5.1], y0.2 ++ (y1.2 ++ (y2.2 ++ (y3.2 ++ (y4.2 ++ y5.2))))) ∧ DataW.trod enc P w base spare held n e [c0] = some y0 ∧ DataW.trod enc P w base spare held n e [c1] = some y1 ∧ DataW.trod enc P w base spare held n e [c2] = some y2 ∧ DataW.trod enc P w base spare held n e [c3] = some y3 ∧ DataW.trod enc P w base spare held n e [c4] = some y4 ∧ DataW.trod enc P w base spare held n e [c5] = some y5 := by
  cases fuel with
  | zero => simp [DataW.trod] at h
  | succ n =>
    unfold DataW.trod at h
    rw [ht] at h
    have r6 : List.range 6 = [0, 1, 2, 3, 4, 5] := rfl
    simp [r6, hce] at h
    obtain ⟨_, h⟩ := h
    cases h0 : DataW.trod enc P w base spare held n e [c0] with
    | none => simp [h0] at h
    | some y0 =>
      cases h1 : DataW.trod enc P w base spare held n e [c1] with
      | none => simp [h0, h1] at h
      | some y1 =>
        cases h2 : DataW.trod enc P w base spare held n e [c2] with
        | none => simp [h0, h1, h2] at h
        | some y2 =>
          cases h3 : DataW.trod enc P w base spare held n e [c3] with
          | none => simp [h0, h1, h2, h3] at h
          | some y3 =>
            cases h4 : DataW.trod enc P w base spare held n e [c4] with
            | none => simp [h0, h1, h2, h3, h4] at h
            | some y4 =>
              cases h5 : DataW.trod enc P w base spare held n e [c5] with
              | none => simp [h0, h1, h2, h3, h4, h5] at h
              | some y5 =>
                simp [h0, h1, h2, h3, h4, h5] at h
                exact ⟨y0, y1, y2, y3, y4, y5, n, h.symm, h0, h1, h2, h3, h4, h5⟩
end
section
variable {H : Type} {enc : TypeId × Value → H} {w : World} {base : Nat} {spare : Nat → Bool} {held : Bool}
theorem open_arr_cells {fuel : Nat} {cs : List Value} {x : DataW H × List MemPlace} (hl : cs.length = 6) (h : DataW.trod enc Tryd.prog w base spare held fuel 46 cs = some x) :
    ∃ y : S46, ok6 y ∧ cs = [.int .u16 y.f0, .int .u16 y.f1, .int .u16 y.f2, .int .u16 y.f3, .int .u16 y.f4, .int .u16 y.f5] ∧ x = (.agg [.lit (.int .u16 y.f0), .lit (.int .u16 y.f1), .lit (.int .u16 y.f2), .lit (.int .u16 y.f3), .lit (.int .u16 y.f4), .lit (.int .u16 y.f5)], []) := by
  obtain ⟨c0, c1, c2, c3, c4, c5, rfl⟩ := list6 cs hl
  obtain ⟨y0, y1, y2, y3, y4, y5, m, hx, hy0, hy1, hy2, hy3, hy4, hy5⟩ := trod_array6 Tryd.underlying46 cells_u16 h
  obtain ⟨x0, e0, rfl, w0⟩ := DataW.trod_int Tryd.underlying45 hy0
  obtain ⟨x1, e1, rfl, w1⟩ := DataW.trod_int Tryd.underlying45 hy1
  obtain ⟨x2, e2, rfl, w2⟩ := DataW.trod_int Tryd.underlying45 hy2
  obtain ⟨x3, e3, rfl, w3⟩ := DataW.trod_int Tryd.underlying45 hy3
  obtain ⟨x4, e4, rfl, w4⟩ := DataW.trod_int Tryd.underlying45 hy4
  obtain ⟨x5, e5, rfl, w5⟩ := DataW.trod_int Tryd.underlying45 hy5
  simp at e0 e1 e2 e3 e4 e5
  subst e0 e1 e2 e3 e4 e5
  have b0 := bounds_u16 w0
  have b1 := bounds_u16 w1
  have b2 := bounds_u16 w2
  have b3 := bounds_u16 w3
  have b4 := bounds_u16 w4
  have b5 := bounds_u16 w5
  refine ⟨⟨x0, x1, x2, x3, x4, x5⟩, ⟨⟨b0.1, ?_⟩, ⟨b1.1, ?_⟩, ⟨b2.1, ?_⟩, ⟨b3.1, ?_⟩, ⟨b4.1, ?_⟩, ⟨b5.1, ?_⟩⟩, rfl, by rw [hx]; rfl⟩
  all_goals (dsimp only; omega)
end
theorem open_slice_of {α : Type} [Inhabited α] (d : Kd α) (Q : α → Prop) {H : Type} {enc : TypeId × Value → H} {P : Program} {w : World} {base : Nat} {spare : Nat → Bool} {held : Bool} {t e : TypeId} (ht : P.underlying t = some (.slice e)) (hsz : P.cellsOf e = d.sz)
    (hel : ∀ (n : Nat) (cs : List Value) (x : DataW H × List MemPlace), cs.length = d.sz → DataW.trod enc P w base spare held n e cs = some x → ∃ y : α, Q y ∧ d.K w y cs) {A : Option Addr} {len cap : Nat} {D : DataW H} {p : List MemPlace} (h : DataW.Trod enc P w base spare held t (.slice A len cap) D p) :
    ∃ l : List α, l.length = len ∧ len ≤ cap ∧ d.C w A len l ∧ ∀ y ∈ l, Q y := by
  obtain ⟨fuel, hf⟩ := h
  rcases open_slice ht hf with ⟨hc, _⟩ | ⟨a, len', cap', m, n, D', Pl, hc, hb, hl, hm, hmm, _, hx⟩
  · simp only [Value.cells, List.cons.injEq, Value.slice.injEq, and_true] at hc
    obtain ⟨rfl, rfl, rfl⟩ := hc
    exact ⟨[], rfl, Nat.le_refl _, ⟨rfl, by simp, fun h => absurd h (Nat.lt_irrefl 0)⟩, fun y hy => by cases hy⟩
  · simp only [Value.cells, List.cons.injEq, Value.slice.injEq, and_true] at hc
    obtain ⟨rfl, rfl, rfl⟩ := hc
    have hml : len ≤ m := by rw [hmm]; split <;> omega
    obtain ⟨V, hV⟩ := choose_lt (n := len) (p := fun i (y : α) => Q y ∧ ∃ cs, cs.length = d.sz ∧ d.K w y cs ∧ ∀ j u, cs[j]? = some u → w.cell? ((a.add (i * d.sz)).add j) = some u) (fun i hi => by
      obtain ⟨cs', h1, h2⟩ := hx i (by omega)
      rw [hsz] at h1
      obtain ⟨_, hlen, hcell⟩ := World.cells?_some h1
      obtain ⟨y, hq, hk⟩ := hel n cs' _ hlen h2
      refine ⟨y, hq, cs', hlen, hk, fun j u hj => ?_⟩
      have hjl : j < d.sz := by rw [← hlen]; exact (List.getElem?_eq_some_iff.1 hj).1
      rw [hcell j hjl, hj])
    refine ⟨(List.range len).map V, by simp, hl, ⟨by simp, by have : maxLen = 9223372036854775807 := rfl; omega, fun _ => ⟨a, rfl, fun j y hj => ?_⟩⟩, fun y hy => ?_⟩
    · rw [List.getElem?_map] at hj
      have hjl : j < len := by
        rcases Nat.lt_or_ge j len with h | h
        · exact h
        · rw [List.getElem?_eq_none (by simpa using h)] at hj; cases hj
      rw [List.getElem?_range hjl] at hj
      injection hj with hj
      subst hj
      obtain ⟨_, cs, h1, h2, h3⟩ := hV j hjl
      exact ⟨cs, h1, h2, fun i u hi => by rw [← Addr.add_add]; exact h3 i u hi⟩
    · obtain ⟨i, hi, rfl⟩ := List.mem_map.1 hy
      exact (hV i (by simpa using hi)).1
instance : Inhabited S46 := ⟨⟨0, 0, 0, 0, 0, 0⟩⟩
theorem open_rows {H : Type} {enc : TypeId × Value → H} {w : World} {base : Nat} {spare : Nat → Bool} {held : Bool} {A : Option Addr} {len cap : Nat} {D : DataW H} {p : List MemPlace} (h : DataW.Trod enc Tryd.prog w base spare held 22 (.slice A len cap) D p) :
    ∃ l : List S46, l.length = len ∧ len ≤ cap ∧ Kd.C k46 w A len l ∧ ∀ y ∈ l, ok6 y :=
  open_slice_of k46 ok6 Tryd.underlying22 cells_arr (fun n cs x hl hx => by
    obtain ⟨y, hy, rfl, _⟩ := open_arr_cells hl hx
    exact ⟨y, hy, k46_mk w y⟩) h
theorem open_nums {H : Type} {enc : TypeId × Value → H} {w : World} {base : Nat} {spare : Nat → Bool} {held : Bool} {A : Option Addr} {len cap : Nat} {D : DataW H} {p : List MemPlace} (h : DataW.Trod enc Tryd.prog w base spare held 23 (.slice A len cap) D p) :
    ∃ l : List Int, l.length = len ∧ len ≤ cap ∧ Kd.C (Kd.int .u16) w A len l ∧ ∀ y ∈ l, 0 ≤ y ∧ y < 65536 :=
  open_slice_of (Kd.int .u16) (fun y => 0 ≤ y ∧ y < 65536) Tryd.underlying23 cells_u16 (fun n cs x hl hx => by
    obtain ⟨y, rfl, _, wf⟩ := DataW.trod_int Tryd.underlying45 hx
    have b := bounds_u16 wf
    exact ⟨y, ⟨b.1, by omega⟩, rfl⟩) h
end Go.Proofs.YtppimdempdnhoaaDoor.C
end
section
namespace Go.Proofs.YtppimdempdnhoaaDoor.marshalSets
open Go.ChangeShapes Go.WideShapes Go.ChangeAt Go.RowKit
set_option linter.unusedVariables false
theorem laidOut : laidOutB Tryd.prog = true := by kernel_rfl
set_option maxRecDepth 100000 in
theorem contract (H : Type) (enc : TypeId × Value → H) (W : World) (base : Nat) (args : Array Value) (ds gs : List (DataW H)) (before : List MemPlace) (hl : laidMetH Tryd.prog laidL W)
    (hval : ∀ (j : Nat) t v, Tryd.f5.params[j]? = some t → args[j]? = some v → Value.okWide Tryd.prog W .any base t v)
    (hW : DataW.Whole enc Tryd.prog Tryd.f5.params.toList Rows.marshalSetsSpec.vars false W args.toList ds gs before) :
    Calls Tryd.prog 5 args W fun e W' => ∃ v, e = .returned v ∧ Rows.marshalSetsSpec.post enc Tryd.prog Tryd.f5 false true false false W args v W' := by
  have hW' := hW
  obtain ⟨p, q, hA0, hV, rfl, hfz, hnd⟩ := hW
  have hA : DataW.TrodAll enc Tryd.prog W 0 (fun _ => true) true Tryd.f5.params.toList args.toList ds p := hA0
  rw [Tryd.params5] at hA hval
  obtain ⟨v0, vs0, d0, ds0, p0, q0, hargs, rfl, rfl, h0, r0⟩ := trodAll_cons hA
  obtain ⟨v1, vs1, d1, ds1, p1, q1, rfl, rfl, rfl, h1, r1⟩ := trodAll_cons r0
  obtain ⟨v2, vs2, d2, ds2, p2, q2, rfl, rfl, rfl, h2, r2⟩ := trodAll_cons r1
  obtain ⟨rfl, rfl, rfl⟩ := trodAll_nil r2
  obtain rfl : args = #[v0, v1, v2] := by cases args; simp_all
  obtain ⟨rfl, rfl⟩ := trodVars_none hV
  obtain ⟨A0, len0, cap0, rfl⟩ := okWide_slice Tryd.underlying22 (hval 0 22 v0 rfl rfl)
  have k0 := h0
  have lt0 : ∀ x ∈ p0, x.block < W.heap.size := by obtain ⟨m, hm⟩ := k0; exact DataW.trod_lt m _ _ _ hm
  obtain ⟨l0, hl0, hc0, hr0, ho0⟩ := C.open_rows h0
  subst hl0
  obtain ⟨A1, len1, cap1, rfl⟩ := okWide_slice Tryd.underlying23 (hval 1 23 v1 rfl rfl)
  have k1 := h1
  have lt1 : ∀ x ∈ p1, x.block < W.heap.size := by obtain ⟨m, hm⟩ := k1; exact DataW.trod_lt m _ _ _ hm
  obtain ⟨l1, hl1, hc1, hr1, ho1⟩ := C.open_nums h1
  subst hl1
  obtain ⟨a2, rfl, rfl, rfl, w2⟩ := open_int Tryd.underlying5 (hval 2 5 v2 rfl rfl) h2
  clear hA0
  obtain ⟨k_, hk_⟩ := Pure.MarshalSets l0 l1 a2 ho0 ho1 (bounds_u8 w2)
  refine (C.insolvencylaw16_MarshalSets.calls k_ A0 cap0 l0 A1 cap1 l1 a2 true W hr0 hc0 hr1 hc1 hk_ (tz_of_laid hl)).mono fun e W' ⟨he, bel⟩ => ?_
  subst he
  exact ⟨_, rfl, _, _, _, [], _, [], hW', trodAll_mk1 (shut_bool Tryd.underlying4 _), (trodAll_cons_mk (Below.trod laidOut (by kernel_rfl) (of_decide_eq_true (by kernel_rfl)) k0 bel lt0) (trodAll_cons_mk (Below.trod laidOut (by kernel_rfl) (of_decide_eq_true (by kernel_rfl)) k1 bel lt1) (trodAll_cons_mk (shut_int Tryd.underlying5 w2) trodAll_mk0))), rfl, bel.frame _, fun h => by cases h⟩
theorem reads (os : Os) {H : Type} (enc : TypeId × Value → H) : ∃ places, DataW.whole enc Tryd.prog ((laidWorld os).forCall (fun _ _ => 0) ⟨#[], #[.slice none 0 0, .slice none 0 0, .int .u8 0], []⟩).memory Tryd.f5.params.toList Rows.marshalSetsSpec.vars false (#[.slice none 0 0, .slice none 0 0, .int .u8 0] : Array Value).toList 8 = some ([.nil, .nil, .lit (.int .u8 0)], [], places) :=
  ⟨[], by kernel_rfl⟩
set_option maxRecDepth 100000 in
theorem lifted (os : Os) (started : os.Started) (H : Type) (enc : TypeId × Value → H) (F : Stop.Interp) :
    ReturnsInHanded {} Tryd.checked os 5 .any ((OpenSpec.ofChange Rows.marshalSetsSpec).preRow enc Tryd.prog Tryd.f5 Rows.marshalSetsRow.domain false Rows.marshalSetsRow.laid) (((OpenSpec.ofChange Rows.marshalSetsSpec).at F).post enc Tryd.prog Tryd.f5 false true false false) := by
  obtain ⟨places, hx⟩ := reads os enc
  refine returnsInHanded_of_row (C := Tryd.checked) (s := OpenSpec.ofChange Rows.marshalSetsSpec) own started (by kernel_rfl) Tryd.func5
    (witness_row_at (enc := enc) (C := Tryd.checked) false (laidWorld os) #[.slice none 0 0, .slice none 0 0, .int .u8 0] rfl (by kernel_rfl) (by kernel_rfl) (by kernel_rfl)
      (OpenSpec.preRow_of_cond 8 hx (by kernel_rfl) (fun k hk => by cases hk) (by kernel_rfl) (laid_met os _))) ?_
  intro W base args ds gs before hval hW _ _ _ hl _ _
  exact contract H enc W base args ds gs before hl hval hW
theorem said : Rows.MarshalSetsSaid :=
  OpenClaim.holds_of_cond 5 Tryd.f5 rfl rfl rfl rfl rfl rfl rfl ⟨rfl, rfl, rfl, rfl, rfl⟩ rfl rfl rfl rfl rfl (by kernel_rfl) Tryd.func5 (by kernel_rfl)
    (of_decide_eq_true (by kernel_rfl)) (by unfold Func.isWrapper; first | (rw [if_pos (by decide +kernel)]; kernel_rfl) | (rw [if_neg (by decide +kernel)]; exact ⟨rfl, rfl⟩))
    (fun os started H enc _ F => by rw [OpenClaim.pre_eq_preRow]; exact lifted os started H enc F)
theorem plain (f : FuncId) (fn : Func) (hf : Tryd.pinned.checked.prog.funcNamed "insolvency/insolvencylaw16.MarshalSets" = some f) (hfn : Tryd.pinned.checked.prog.funcs[f]? = some fn) :
    false = Tryd.pinned.checked.prog.looks [] ∧ ∀ (j : Nat) t, fn.params[j]? = some t → Tryd.pinned.checked.prog.wantsStandIn t = false := by
  obtain rfl : f = 5 := Option.some.inj ((show Tryd.prog.funcNamed "insolvency/insolvencylaw16.MarshalSets" = some 5 by kernel_rfl).symm.trans hf) |>.symm
  obtain rfl : fn = Tryd.f5 := (Option.some.inj (Tryd.func5.symm.trans hfn)).symm
  refine ⟨by kernel_rfl, fun j t ht => ?_⟩
  rw [Tryd.params5] at ht
  have hm := Array.mem_of_getElem? ht
  simp at hm
  rcases hm with rfl | rfl | rfl
  · exact (show Tryd.prog.wantsStandIn 22 = false by kernel_rfl)
  · exact (show Tryd.prog.wantsStandIn 23 = false by kernel_rfl)
  · exact (show Tryd.prog.wantsStandIn 5 = false by kernel_rfl)
end Go.Proofs.YtppimdempdnhoaaDoor.marshalSets
namespace Go.Proofs.YtppimdempdnhoaaDoor
theorem marshalSets_card : Rows.MarshalSetsCardSaid :=
  Claim7.holds_tied_plain_at .later [] _ _ _ _ marshalSets.said (fun _ h => by cases h) (by kernel_rfl) (fun _ h => by cases h) marshalSets_row_tie rfl ⟨rfl, rfl⟩ (by kernel_rfl) rfl marshalSets.plain (by kernel_rfl)
#print axioms marshalSets_card
end Go.Proofs.YtppimdempdnhoaaDoor
end
