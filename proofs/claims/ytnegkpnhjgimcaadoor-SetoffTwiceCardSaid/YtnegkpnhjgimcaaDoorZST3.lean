/- A part of the proof of setoffTwice_card (see YtnegkpnhjgimcaaDoorZST5): what the functions that it reaches compute, each by its contract. -/
import Derived.Sort.WalkA
import Derived.Shelf.SlSortCmp.Insertion
import Derived.LoopN
import Derived.Test.YtnegkpnhjgimcaaDoorZST2
section
namespace Go.Proofs.YtnegkpnhjgimcaaDoor.C
open Go.RowKit Go.Proofs.YtnegkpnhjgimcaaDoorW.PrintWords Go.Proofs.YtnegkpnhjgimcaaDoorW.PrintLast Go.Proofs.YtnegkpnhjgimcaaDoorW.PrintMore
attribute [local go_sem] max2_int min2_int max_two min_two max_three min_three max_four min_four
set_option linter.unusedVariables false
set_option linter.unusedSimpArgs false
def natural_Subtract.f (k : Nat) (a0 : ByteArray) (a1 : ByteArray) : Option (ByteArray × Bool) := (natural_parse.f k a0).bind fun t331 => ((natural_parse.f k a1).bind fun t334 => ((natural_compare.f k t331 t334).bind fun t337 => (if t337 < 0 then (some ((⟨#[]⟩ : ByteArray), false)) else ((natural_subtract.f k t331 t334).bind fun t338 => ((natural_limbs_text.f k t338).bind fun t341 => (some (t341, true)))))))
theorem natural_Subtract.mono : ∀ a0 a1 k, LeO (natural_Subtract.f k a0 a1) (natural_Subtract.f (k + 1) a0 a1) := by
 intro a0 a1 k
 unfold natural_Subtract.f
 repeat' first
   | (with_reducible exact natural_compare.mono _ _ _)
   | (with_reducible exact natural_limbs_text.mono _ _)
   | (with_reducible exact natural_parse.mono _ _)
   | (with_reducible exact natural_subtract.mono _ _ _)
   | (with_reducible exact LeO.refl _)
   | (with_reducible exact LeO.none _)
   | (with_reducible refine LeO.ite ?_ ?_)
   | (with_reducible refine LeO.bind ?_ (fun _ => ?_))
set_option maxHeartbeats 8000000 in
set_option maxRecDepth 100000 in
theorem natural_Subtract.calls (k : Nat) (a0 : ByteArray) (a1 : ByteArray) (r1 : ByteArray) (r2 : Bool) (w : World) (h : natural_Subtract.f k a0 a1 = some (r1, r2)) :
  Calls Tryd.prog 67 #[.string a0, .string a1] w fun e w' => e = .returned (.tuple #[.string r1, .bool r2]) ∧ Below w.heap.size w w' := by
 have HB := A0_.mk (Below.refl w.heap.size w)
 have H := h
 unfold natural_Subtract.f at H
 clear h
 replace H := Option.bind_eq_some_iff.mp H
 obtain ⟨t331, A30, H⟩ := H
 (try dsimp only at H)
 have A3 := A0_.mk A30
 clear A30
 replace H := Option.bind_eq_some_iff.mp H
 obtain ⟨t334, A40, H⟩ := H
 (try dsimp only at H)
 have A4 := A0_.mk A40
 clear A40
 replace H := Option.bind_eq_some_iff.mp H
 obtain ⟨t337, A50, H⟩ := H
 (try dsimp only at H)
 have A5 := A0_.mk A50
 clear A50
 by_cases c6 : t337 < 0
 ·rw [if_pos c6] at H
  have c6b0 : decide (t337 < 0) = true := decide_eq_true c6
  clear c6
  simp only [Option.some.injEq, Prod.mk.injEq] at H
  obtain ⟨rfl, rfl⟩ := H
  go_enter Tryd.func67, Tryd.ntmps67
  go_wp2_with (first | ((with_reducible refine gC_ (f := 64) rfl ?_); refine goesL_ (some 9) rfl rfl Tryd.func64 (by kernel_rfl) rfl #[.string a0] rfl mp_ ?_; (with_reducible refine (natural_parse.calls k a0 t331 _ A3.out).mono ?_); rintro e w7 ⟨v332, rfl, ho0, hb⟩; refine ⟨_, rfl, ?_⟩; have n0_ := A0_.mk (Kd.R_lower ho0 (bZ_ (xB_ HB))); have n1_ := A0_.mk (bT_ (xB_ HB) hb); clear HB; have HO333 := n0_; have HB := n1_; clear n0_ n1_; (try clear hb); (try clear hb2); (try clear hk); (try clear hi); (try clear ho0)) | ((with_reducible refine gC_ (f := 64) rfl ?_); refine goesL_ (some 11) rfl rfl Tryd.func64 (by kernel_rfl) rfl #[.string a1] rfl mp_ ?_; (with_reducible refine (natural_parse.calls k a1 t334 _ A4.out).mono ?_); rintro e w8 ⟨v335, rfl, ho0, hb⟩; refine ⟨_, rfl, ?_⟩; have n0_ := A0_.mk (Kd.R_elder' (xR_ HO333.out) (Kd.R_base ho0) hb); have n1_ := A0_.mk (Kd.R_lower (Kd.R_new' ho0 (Kd.R_lt (xR_ HO333.out))) (bZ_ (xB_ HB))); have n2_ := A0_.mk (bT_ (xB_ HB) hb); clear HO333 HB; have HO333 := n0_; have HO336 := n1_; have HB := n2_; clear n0_ n1_ n2_; (try clear hb); (try clear hb2); (try clear hk); (try clear hi); (try clear ho0); obtain ⟨Ao9, co9, eo9⟩ := Kd.R_slice HO333.out; subst eo9; obtain ⟨Ao10, co10, eo10⟩ := Kd.R_slice HO336.out; subst eo10) | ((with_reducible refine gC_ (f := 81) rfl ?_); refine goesL_ (some 14) rfl rfl Tryd.func81 (by kernel_rfl) rfl #[.slice Ao9 t331.length co9, .slice Ao10 t334.length co10] rfl mp_ ?_; (with_reducible refine (natural_compare.calls k _ _ t331 _ _ t334 t337 _ ?side1 ?side2 ?side3 ?side4 A5.out).mono ?_); (case side1 => repeat (first | exact (Kd.R_reads' HO333.out).2.2 | (with_reducible refine Kd.C_alloc ?_ _) | (with_reducible refine Kd.C_drewN ?_ _) | (with_reducible refine Kd.C_drew ?_))); (case side2 => exact (Kd.R_reads' HO333.out).2.1); (case side3 => repeat (first | exact (Kd.R_reads' HO336.out).2.2 | (with_reducible refine Kd.C_alloc ?_ _) | (with_reducible refine Kd.C_drewN ?_ _) | (with_reducible refine Kd.C_drew ?_))); (case side4 => exact (Kd.R_reads' HO336.out).2.1); rintro e w' ⟨rfl, ⟨nd, rfl⟩⟩; refine ⟨_, rfl, ?_⟩))
  go_ret2
  exact ⟨rE_, xB_ HB⟩
 ·rw [if_neg c6] at H
  have c6b0 : decide (t337 < 0) = false := decide_eq_false c6
  clear c6
  replace H := Option.bind_eq_some_iff.mp H
  obtain ⟨t338, A110, H⟩ := H
  (try dsimp only at H)
  have A11 := A0_.mk A110
  clear A110
  replace H := Option.bind_eq_some_iff.mp H
  obtain ⟨t341, A120, H⟩ := H
  (try dsimp only at H)
  have A12 := A0_.mk A120
  clear A120
  simp only [Option.some.injEq, Prod.mk.injEq] at H
  obtain ⟨rfl, rfl⟩ := H
  go_enter Tryd.func67, Tryd.ntmps67
  go_wp2_with (first | ((with_reducible refine gC_ (f := 64) rfl ?_); refine goesL_ (some 9) rfl rfl Tryd.func64 (by kernel_rfl) rfl #[.string a0] rfl mp_ ?_; (with_reducible refine (natural_parse.calls k a0 t331 _ A3.out).mono ?_); rintro e w13 ⟨v332, rfl, ho0, hb⟩; refine ⟨_, rfl, ?_⟩; have n0_ := A0_.mk (Kd.R_lower ho0 (bZ_ (xB_ HB))); have n1_ := A0_.mk (bT_ (xB_ HB) hb); clear HB; have HO333 := n0_; have HB := n1_; clear n0_ n1_; (try clear hb); (try clear hb2); (try clear hk); (try clear hi); (try clear ho0)) | ((with_reducible refine gC_ (f := 64) rfl ?_); refine goesL_ (some 11) rfl rfl Tryd.func64 (by kernel_rfl) rfl #[.string a1] rfl mp_ ?_; (with_reducible refine (natural_parse.calls k a1 t334 _ A4.out).mono ?_); rintro e w14 ⟨v335, rfl, ho0, hb⟩; refine ⟨_, rfl, ?_⟩; have n0_ := A0_.mk (Kd.R_elder' (xR_ HO333.out) (Kd.R_base ho0) hb); have n1_ := A0_.mk (Kd.R_lower (Kd.R_new' ho0 (Kd.R_lt (xR_ HO333.out))) (bZ_ (xB_ HB))); have n2_ := A0_.mk (bT_ (xB_ HB) hb); clear HO333 HB; have HO333 := n0_; have HO336 := n1_; have HB := n2_; clear n0_ n1_ n2_; (try clear hb); (try clear hb2); (try clear hk); (try clear hi); (try clear ho0); obtain ⟨Ao15, co15, eo15⟩ := Kd.R_slice HO333.out; subst eo15; obtain ⟨Ao16, co16, eo16⟩ := Kd.R_slice HO336.out; subst eo16) | ((with_reducible refine gC_ (f := 81) rfl ?_); refine goesL_ (some 14) rfl rfl Tryd.func81 (by kernel_rfl) rfl #[.slice Ao15 t331.length co15, .slice Ao16 t334.length co16] rfl mp_ ?_; (with_reducible refine (natural_compare.calls k _ _ t331 _ _ t334 t337 _ ?side1 ?side2 ?side3 ?side4 A5.out).mono ?_); (case side1 => repeat (first | exact (Kd.R_reads' HO333.out).2.2 | (with_reducible refine Kd.C_alloc ?_ _) | (with_reducible refine Kd.C_drewN ?_ _) | (with_reducible refine Kd.C_drew ?_))); (case side2 => exact (Kd.R_reads' HO333.out).2.1); (case side3 => repeat (first | exact (Kd.R_reads' HO336.out).2.2 | (with_reducible refine Kd.C_alloc ?_ _) | (with_reducible refine Kd.C_drewN ?_ _) | (with_reducible refine Kd.C_drew ?_))); (case side4 => exact (Kd.R_reads' HO336.out).2.1); rintro e w' ⟨rfl, ⟨nd, rfl⟩⟩; refine ⟨_, rfl, ?_⟩) | ((with_reducible refine gC_ (f := 82) rfl ?_); refine goesL_ (some 18) rfl rfl Tryd.func82 (by kernel_rfl) rfl #[.slice Ao15 t331.length co15, .slice Ao16 t334.length co16] rfl mp_ ?_; (with_reducible refine (natural_subtract.calls k _ _ t331 _ _ t334 t338 _ ?side1 ?side2 ?side3 ?side4 A11.out).mono ?_); (case side1 => repeat (first | exact (Kd.R_reads' HO333.out).2.2 | (with_reducible refine Kd.C_alloc ?_ _) | (with_reducible refine Kd.C_drewN ?_ _) | (with_reducible refine Kd.C_drew ?_))); (case side2 => exact (Kd.R_reads' HO333.out).2.1); (case side3 => repeat (first | exact (Kd.R_reads' HO336.out).2.2 | (with_reducible refine Kd.C_alloc ?_ _) | (with_reducible refine Kd.C_drewN ?_ _) | (with_reducible refine Kd.C_drew ?_))); (case side4 => exact (Kd.R_reads' HO336.out).2.1); rintro e w17 ⟨v339, rfl, ho0, hb⟩; refine ⟨_, rfl, ?_⟩; have n0_ := A0_.mk (Kd.R_elder' (xR_ HO333.out) (Kd.R_base ho0) hb); have n1_ := A0_.mk (Kd.R_elder' (xR_ HO336.out) (Kd.R_base ho0) hb); have n2_ := A0_.mk (Kd.R_lower (Kd.R_new' (Kd.R_new' ho0 (Kd.R_lt (xR_ HO333.out))) (Kd.R_lt (xR_ HO336.out))) (bZ_ (xB_ HB))); have n3_ := A0_.mk (bT_ (xB_ HB) hb); clear HO333 HO336 HB; have HO333 := n0_; have HO336 := n1_; have HO340 := n2_; have HB := n3_; clear n0_ n1_ n2_ n3_; (try clear hb); (try clear hb2); (try clear hk); (try clear hi); (try clear ho0); obtain ⟨Ao18, co18, eo18⟩ := Kd.R_slice HO340.out; subst eo18) | ((with_reducible refine gC_ (f := 65) rfl ?_); refine goesL_ (some 19) rfl rfl Tryd.func65 (by kernel_rfl) rfl #[.slice Ao18 t338.length co18] rfl mp_ ?_; (with_reducible refine (natural_limbs_text.calls k _ _ t338 t341 _ ?side1 ?side2 A12.out).mono ?_); (case side1 => repeat (first | exact (Kd.R_reads' HO340.out).2.2 | (with_reducible refine Kd.C_alloc ?_ _) | (with_reducible refine Kd.C_drewN ?_ _) | (with_reducible refine Kd.C_drew ?_))); (case side2 => exact (Kd.R_reads' HO340.out).2.1); rintro e w19 ⟨rfl, hb⟩; refine ⟨_, rfl, ?_⟩; have n0_ := A0_.mk (Kd.R_below (xR_ HO333.out) hb); have n1_ := A0_.mk (Kd.R_below (xR_ HO336.out) hb); have n2_ := A0_.mk (Kd.R_below (xR_ HO340.out) hb); have n3_ := A0_.mk (bT_ (xB_ HB) hb); clear HO333 HO336 HO340 HB; have HO333 := n0_; have HO336 := n1_; have HO340 := n2_; have HB := n3_; clear n0_ n1_ n2_ n3_; (try clear hb); (try clear hb2); (try clear hk); (try clear hi)))
  go_ret2
  exact ⟨rE_, xB_ HB⟩
def rational_add.j0 : Nat → ByteArray → ByteArray → ByteArray → Bool → ByteArray → ByteArray → Bool → ByteArray → ByteArray → Option (Bool × ByteArray × ByteArray)
 | 0, _, _, _, _, _, _, _, _, _ => none
 | k + 1, x5, x6, x7, x343000, x343001, x343002, x344000, x344001, x344002 => if (x343000 == x344000) = true then ((natural_Add.f k x5 x6).bind fun t353 => ((rational_reduced.f k x343000 t353 x7).bind fun bt354 => (some (bt354.1, bt354.2.1, bt354.2.2)))) else ((natural_Subtract.f k x5 x6).bind fun bt357 => (if bt357.2 = true then ((rational_reduced.f k x343000 bt357.1 x7).bind fun bt359 => (some (bt359.1, bt359.2.1, bt359.2.2))) else ((natural_Subtract.f k x6 x5).bind fun bt362 => ((rational_reduced.f k x344000 bt362.1 x7).bind fun bt364 => (some (bt364.1, bt364.2.1, bt364.2.2))))))
def rational_add.f (k : Nat) (a0_0 : Bool) (a0_1 : ByteArray) (a0_2 : ByteArray) (a1_0 : Bool) (a1_1 : ByteArray) (a1_2 : ByteArray) : Option (Bool × ByteArray × ByteArray) := if a0_2.toList = a1_2.toList then ((rational_den.f a0_0 a0_1 a0_2).bind fun t345 => (rational_add.j0 k a0_1 a1_1 t345 a0_0 a0_1 a0_2 a1_0 a1_1 a1_2)) else ((rational_den.f a1_0 a1_1 a1_2).bind fun t346 => ((natural_Multiply.f k a0_1 t346).bind fun t347 => ((rational_den.f a0_0 a0_1 a0_2).bind fun t348 => ((natural_Multiply.f k a1_1 t348).bind fun t349 => ((rational_den.f a0_0 a0_1 a0_2).bind fun t350 => ((rational_den.f a1_0 a1_1 a1_2).bind fun t351 => ((natural_Multiply.f k t350 t351).bind fun t352 => (rational_add.j0 k t347 t349 t352 a0_0 a0_1 a0_2 a1_0 a1_1 a1_2))))))))
theorem rational_add.mono_l : ∀ k, (∀ y0 y1 y2 y3 y4 y5 y6 y7 y8, LeO (rational_add.j0 k y0 y1 y2 y3 y4 y5 y6 y7 y8) (rational_add.j0 (k + 1) y0 y1 y2 y3 y4 y5 y6 y7 y8))
 | 0 => fun _ _ _ _ _ _ _ _ _ r h => by simp [rational_add.j0] at h
 | k + 1 => by
  have ih0 := rational_add.mono_l k
  ·intro y0 y1 y2 y3 y4 y5 y6 y7 y8
   unfold rational_add.j0
   repeat' first
   | (with_reducible exact ih0 _ _ _ _ _ _ _ _ _)
   | (with_reducible exact natural_Add.mono _ _ _)
   | (with_reducible exact natural_Multiply.mono _ _ _)
   | (with_reducible exact natural_Subtract.mono _ _ _)
   | (with_reducible exact rational_reduced.mono _ _ _ _)
   | (with_reducible exact LeO.refl _)
   | (with_reducible exact LeO.none _)
   | (with_reducible refine LeO.ite ?_ ?_)
   | (with_reducible refine LeO.bind ?_ (fun _ => ?_))
theorem rational_add.mono : ∀ a0 a1 a2 a3 a4 a5 k, LeO (rational_add.f k a0 a1 a2 a3 a4 a5) (rational_add.f (k + 1) a0 a1 a2 a3 a4 a5) := by
 intro a0 a1 a2 a3 a4 a5 k
 have ih0 := rational_add.mono_l k
 unfold rational_add.f
 repeat' first
   | (with_reducible exact ih0 _ _ _ _ _ _ _ _ _)
   | (with_reducible exact natural_Add.mono _ _ _)
   | (with_reducible exact natural_Multiply.mono _ _ _)
   | (with_reducible exact natural_Subtract.mono _ _ _)
   | (with_reducible exact rational_reduced.mono _ _ _ _)
   | (with_reducible exact LeO.refl _)
   | (with_reducible exact LeO.none _)
   | (with_reducible refine LeO.ite ?_ ?_)
   | (with_reducible refine LeO.bind ?_ (fun _ => ?_))
def rational_add.T3 : Bool × List (List Nat × List Nat) := (true, [([], []), ([], []), ([1], [1]), ([0, 2, 2], [0, 2]), ([], []), ([], []), ([5, 3], [5]), ([4, 6, 6], [4, 6]), ([3, 7, 0, 1, 2, 3], [0, 3]), ([7, 8, 0, 1, 2, 3, 4, 5, 6, 7, 8], [4, 7])])
def rational_add.B3 : List Nat := [0, 0, 2, 7, 0, 0, 47, 127, 255, 511]
theorem rational_add.tab3 : rtab .any (opsOf Tryd.f47 3) = rational_add.T3 := by kernel_rfl
theorem rational_add.bits3 : waitsOk rational_add.T3.2 rational_add.B3 = true := by kernel_rfl
def rational_add.T7 : Bool × List (List Nat × List Nat) := (true, [([], []), ([0], [0]), ([], []), ([], []), ([2, 3], [2, 3]), ([], []), ([1, 4, 5, 4], [1, 4, 5]), ([6, 6, 0, 1, 2, 3, 4, 5, 6], [6])])
def rational_add.B7 : List Nat := [0, 1, 0, 0, 12, 0, 63, 127]
theorem rational_add.tab7 : rtab .any (opsOf Tryd.f47 7) = rational_add.T7 := by kernel_rfl
theorem rational_add.bits7 : waitsOk rational_add.T7.2 rational_add.B7 = true := by kernel_rfl
set_option maxHeartbeats 8000000 in
set_option maxRecDepth 100000 in
theorem rational_add.calls (k : Nat) (a0_0 : Bool) (a0_1 : ByteArray) (a0_2 : ByteArray) (a1_0 : Bool) (a1_1 : ByteArray) (a1_2 : ByteArray) (r1 : Bool) (r2 : ByteArray) (r3 : ByteArray) (w : World) (h : rational_add.f k a0_0 a0_1 a0_2 a1_0 a1_1 a1_2 = some (r1, r2, r3)) :
  Calls Tryd.prog 47 #[.agg #[.bool a0_0, .string a0_1, .string a0_2], .agg #[.bool a1_0, .string a1_1, .string a1_2]] w fun e w' => e = .returned (.agg #[.bool r1, .string r2, .string r3]) ∧ Below w.heap.size w w' := by
 have hu26 := Tryd.underlying26
 have HB := A0_.mk (Below.refl w.heap.size w)
 have H := h
 unfold rational_add.f at H
 clear h
 have HC3 := A0_.mk H
 clear H
 go_enter Tryd.func47, Tryd.ntmps47
 try go_wp2_with (first | ((with_reducible refine gD_ (N := 2) rfl ?_); refine bE_ ?hg (N := 2) ?hd (cs := #[.bool a0_0, .string a0_1, .string a0_2]) (t := 26) ?hr ?_; (case hd => rfl); (case hg => rfl); (case hr => first | (go_simp; done) | (go_simp; rfl)); intro gb342 hg w4 hbox hb; have n0_ := A0_.mk (bT_ (xB_ HB) hb); have n1_ := A0_.mk (hbox); have n2_ := A0_.mk ((by rw [hg]; exact (bZ_ (xB_ HB)) : w.heap.size ≤ gb342)); have n3_ := A0_.mk ((by rw [hg]; exact (bZ_ (xB_ HB)) : w.heap.size ≤ gb342)); clear HB; have HB := n0_; have BK342 := n1_; have GW342 := n2_; have GE342 := n3_; clear n0_ n1_ n2_ n3_; clear hb hbox hg) | ((with_reducible refine gD_ (N := 3) rfl ?_); refine bE_ ?hg (N := 3) ?hd (cs := #[.bool a1_0, .string a1_1, .string a1_2]) (t := 26) ?hr ?_; (case hd => rfl); (case hg => rfl); (case hr => first | (go_simp; done) | (go_simp; rfl)); intro gb343 hg w5 hbox hb; have n0_ := A0_.mk (kB_ (g := gb342) (o := .cells #[.bool a0_0, .string a0_1, .string a0_2] 26 (0, 0)) (xK_ BK342.out) hb); have n1_ := A0_.mk (bT_ (xB1_ HB GE342) hb); have n2_ := A0_.mk (hbox); have n3_ := A0_.mk ((by rw [hg]; exact (bZ_ (xB1_ HB GE342)) : w.heap.size ≤ gb343)); have n4_ := A0_.mk ((by rw [hg]; exact (bZ_ (xB1_ HB GE342)) : w.heap.size ≤ gb343)); have n5_ := A0_.mk ((by rw [hg]; exact Nat.ne_of_lt (blk_lt (g := gb342) (o := .cells #[.bool a0_0, .string a0_1, .string a0_2] 26 (0, 0)) (xK_ BK342.out)) : gb342 ≠ gb343)); have n6_ := A0_.mk ((by rw [hg]; exact Nat.ne_of_gt (blk_lt (g := gb342) (o := .cells #[.bool a0_0, .string a0_1, .string a0_2] 26 (0, 0)) (xK_ BK342.out)) : gb343 ≠ gb342)); clear BK342 HB; have BK342 := n0_; have HB := n1_; have BK343 := n2_; have GW343 := n3_; have GE343 := n4_; have NB342_343 := n5_; have NB343_342 := n6_; clear n0_ n1_ n2_ n3_ n4_ n5_ n6_; clear hb hbox hg) | ((with_reducible refine gD_ (N := 4) rfl ?_); refine bE_ ?hg (N := 4) ?hd (cs := #[.bool false, .string (⟨#[]⟩ : ByteArray), .string (⟨#[]⟩ : ByteArray)]) (t := 26) ?hr ?_; (case hd => rfl); (case hg => rfl); (case hr => first | (go_simp; done) | (go_simp; rfl)); intro gb344 hg w6 hbox hb; have n0_ := A0_.mk (kB_ (g := gb342) (o := .cells #[.bool a0_0, .string a0_1, .string a0_2] 26 (0, 0)) (xK_ BK342.out) hb); have n1_ := A0_.mk (kB_ (g := gb343) (o := .cells #[.bool a1_0, .string a1_1, .string a1_2] 26 (0, 0)) (xK_ BK343.out) hb); have n2_ := A0_.mk (bT_ (xB2_ HB GE342 GE343) hb); have n3_ := A0_.mk (hbox); have n4_ := A0_.mk ((by rw [hg]; exact (bZ_ (xB2_ HB GE342 GE343)) : w.heap.size ≤ gb344)); have n5_ := A0_.mk ((by rw [hg]; exact (bZ_ (xB2_ HB GE342 GE343)) : w.heap.size ≤ gb344)); have n6_ := A0_.mk ((by rw [hg]; exact Nat.ne_of_lt (blk_lt (g := gb342) (o := .cells #[.bool a0_0, .string a0_1, .string a0_2] 26 (0, 0)) (xK_ BK342.out)) : gb342 ≠ gb344)); have n7_ := A0_.mk ((by rw [hg]; exact Nat.ne_of_gt (blk_lt (g := gb342) (o := .cells #[.bool a0_0, .string a0_1, .string a0_2] 26 (0, 0)) (xK_ BK342.out)) : gb344 ≠ gb342)); have n8_ := A0_.mk ((by rw [hg]; exact Nat.ne_of_lt (blk_lt (g := gb343) (o := .cells #[.bool a1_0, .string a1_1, .string a1_2] 26 (0, 0)) (xK_ BK343.out)) : gb343 ≠ gb344)); have n9_ := A0_.mk ((by rw [hg]; exact Nat.ne_of_gt (blk_lt (g := gb343) (o := .cells #[.bool a1_0, .string a1_1, .string a1_2] 26 (0, 0)) (xK_ BK343.out)) : gb344 ≠ gb343)); clear BK342 BK343 HB; have BK342 := n0_; have BK343 := n1_; have HB := n2_; have BK344 := n3_; have GW344 := n4_; have GE344 := n5_; have NB342_344 := n6_; have NB344_342 := n7_; have NB343_344 := n8_; have NB344_343 := n9_; clear n0_ n1_ n2_ n3_ n4_ n5_ n6_ n7_ n8_ n9_; clear hb hbox hg))
 have n0_ := A0_.mk (kD_ BK342.out)
 have n1_ := A0_.mk (kD_ BK343.out)
 have n2_ := A0_.mk (kD_ BK344.out)
 have n3_ := A0_.mk (b1_ HB.out)
 clear BK342
 clear BK343
 clear BK344
 clear HB
 have BK342 := n0_
 have BK343 := n1_
 have BK344 := n2_
 have HB := n3_
 clear n0_ n1_ n2_ n3_
 refine start_ (n := 7) (S := fun w' => w'.cell? ⟨gb342, 0, none⟩ = some (.bool a0_0) ∧ w'.cell? ⟨gb342, 1, none⟩ = some (.string a0_1) ∧ w'.cell? ⟨gb342, 2, none⟩ = some (.string a0_2) ∧ w'.cell? ⟨gb343, 0, none⟩ = some (.bool a1_0) ∧ w'.cell? ⟨gb343, 1, none⟩ = some (.string a1_1) ∧ w'.cell? ⟨gb343, 2, none⟩ = some (.string a1_2)) (ds := []) #[false, false, false, false, false, false, false] (by kernel_rfl) rfl rfl ⟨(kc_ BK342.out 0).trans rfl, (kc_ BK342.out 1).trans rfl, (kc_ BK342.out 2).trans rfl, (kc_ BK343.out 0).trans rfl, (kc_ BK343.out 1).trans rfl, (kc_ BK343.out 2).trans rfl⟩ (fun hHeld => ?_)
 generalize w6.drew = w7 at BK342 BK343 BK344 HB hHeld ⊢
 refine pure_ (i := 0) (N := some 12) (v := ?_) (a' := ?_) #[true, false, false, false, false, false, false] rfl rfl (by kernel_rfl) (fun _ _ _ h => h) (Or.inl ⟨by rfl, ?_⟩) ?_ ?_
 rotate_left
 ·intro w'
  go_simp
  with_reducible rfl
 rotate_left
 ·simp only [Act.put, s1_, s2_, s3_, i64_w, i32_w]
  rfl
 refine pure_ (i := 2) (N := some 14) (v := ?_) (a' := ?_) #[true, false, true, false, false, false, false] rfl rfl (by kernel_rfl) (fun _ _ _ h => h) (Or.inl ⟨by rfl, ?_⟩) ?_ ?_
 rotate_left
 ·intro w'
  go_simp
  with_reducible rfl
 rotate_left
 ·simp only [Act.put, s1_, s2_, s3_, i64_w, i32_w]
  rfl
 refine take_ (i := 1) (N := some 13) (v := ?_) (a' := ?_) #[true, true, true, false, false, false, false] rfl rfl (by kernel_rfl) (fun _ _ _ h => h) (Or.inl ⟨by rfl, ?_⟩) hHeld ?_ ?_
 rotate_left
 ·rintro w' ⟨s0, s1, s2, s3, s4, s5⟩
  go_simp
  with_reducible rfl
 rotate_left
 ·simp only [Act.put, s1_, s2_, s3_, i64_w, i32_w]
  rfl
 refine pure_ (i := 4) (N := some 5) (v := ?_) (a' := ?_) #[true, true, true, false, true, false, false] rfl rfl (by kernel_rfl) (fun _ _ _ h => h) (Or.inl ⟨by rfl, ?_⟩) ?_ ?_
 rotate_left
 ·intro w'
  go_simp
  with_reducible rfl
 rotate_left
 ·simp only [Act.put, s1_, s2_, s3_, i64_w, i32_w]
  rfl
 refine take_ (i := 3) (N := some 15) (v := ?_) (a' := ?_) #[true, true, true, true, true, false, false] rfl rfl (by kernel_rfl) (fun _ _ _ h => h) (Or.inl ⟨by rfl, ?_⟩) hHeld ?_ ?_
 rotate_left
 ·rintro w' ⟨s0, s1, s2, s3, s4, s5⟩
  go_simp
  with_reducible rfl
 rotate_left
 ·simp only [Act.put, s1_, s2_, s3_, i64_w, i32_w]
  rfl
 refine pure_ (i := 5) (N := some 6) (v := ?_) (a' := ?_) #[true, true, true, true, true, true, false] rfl rfl (by kernel_rfl) (fun _ _ _ h => h) (Or.inl ⟨by rfl, ?_⟩) ?_ ?_
 rotate_left
 ·intro w'
  go_simp
  with_reducible rfl
 rotate_left
 ·simp only [Act.put, s1_, s2_, s3_, i64_w, i32_w]
  rfl
 refine pure_ (i := 6) (N := some 7) (v := ?_) (a' := ?_) #[true, true, true, true, true, true, true] rfl rfl (by kernel_rfl) (fun _ _ _ h => h) (Or.inl ⟨by rfl, ?_⟩) ?_ ?_
 rotate_left
 ·intro w'
  go_simp
  with_reducible rfl
 rotate_left
 ·simp only [Act.put, s1_, s2_, s3_, i64_w, i32_w]
  rfl
 refine done_ (by kernel_rfl) ?_
 have hnb8 := NB342_343.out
 have hnc8 := NB343_342.out
 have hnb9 := NB342_344.out
 have hnc9 := NB344_342.out
 have hcz10_0 : w7.cell? ⟨gb342, 0, none⟩ = some (.bool a0_0) := (kc_ BK342.out 0).trans rfl
 have hcz10_1 : w7.cell? ⟨gb342, 1, none⟩ = some (.string a0_1) := (kc_ BK342.out 1).trans rfl
 have hcz10_2 : w7.cell? ⟨gb342, 2, none⟩ = some (.string a0_2) := (kc_ BK342.out 2).trans rfl
 have hfz10_0 := kF_ BK342.out 0
 have hfz10_1 := kF_ BK342.out 1
 have hfz10_2 := kF_ BK342.out 2
 have hnb11 := NB343_344.out
 have hnc11 := NB344_343.out
 have hcz12_0 : w7.cell? ⟨gb343, 0, none⟩ = some (.bool a1_0) := (kc_ BK343.out 0).trans rfl
 have hcz12_1 : w7.cell? ⟨gb343, 1, none⟩ = some (.string a1_1) := (kc_ BK343.out 1).trans rfl
 have hcz12_2 : w7.cell? ⟨gb343, 2, none⟩ = some (.string a1_2) := (kc_ BK343.out 2).trans rfl
 have hfz12_0 := kF_ BK343.out 0
 have hfz12_1 := kF_ BK343.out 1
 have hfz12_2 := kF_ BK343.out 2
 go_upto_if 20 with (fail)
 go_cut [5, 6, 7] (fun v5 v6 v7 wc => ∃ (kq : Nat) (x5_2 : ByteArray) (x6_2 : ByteArray) (x7_2 : ByteArray), v5 = .string x5_2 ∧ v6 = .string x6_2 ∧ v7 = .string x7_2 ∧ A0_ (rational_add.j0 kq x5_2 x6_2 x7_2 a0_0 a0_1 a0_2 a1_0 a1_1 a1_2 = some (r1, r2, r3)) ∧ A0_ (kq ≤ k) ∧ A0_ (wc.heap[gb342]? = some (.cells #[.bool a0_0, .string a0_1, .string a0_2] 26 (0, 0))) ∧ A0_ (wc.heap[gb343]? = some (.cells #[.bool a1_0, .string a1_1, .string a1_2] 26 (0, 0))) ∧ A0_ (wc.heap[gb344]? = some (.cells #[.bool false, .string (⟨#[]⟩ : ByteArray), .string (⟨#[]⟩ : ByteArray)] 26 (0, 0))) ∧ A0_ (Below w.heap.size w wc))
 case first =>
  have H := HC3.out
  clear HC3
  by_cases c13 : a0_2.toList = a1_2.toList
  ·rw [if_pos c13] at H
   have c13b0 : (a0_2.toList == a1_2.toList) = true := beq_iff_eq.mpr c13
   have c13b1 : (a0_2.toList != a1_2.toList) = false := bne_eq_false_iff_eq.mpr c13
   clear c13
   (first | rw [c13b0] | rw [c13b1] | (simp only [i64_w, i32_w]; rw [c13b0]) | skip)
   replace H := Option.bind_eq_some_iff.mp H
   obtain ⟨t345, A140, H⟩ := H
   (try dsimp only at H)
   have A14 := A0_.mk A140
   clear A140
   have H' := A0_.mk H
   clear H
   have hnb15 := NB342_343.out
   have hnc15 := NB343_342.out
   have hnb16 := NB342_344.out
   have hnc16 := NB344_342.out
   have hcz17_0 : w7.cell? ⟨gb342, 0, none⟩ = some (.bool a0_0) := (kc_ BK342.out 0).trans rfl
   have hcz17_1 : w7.cell? ⟨gb342, 1, none⟩ = some (.string a0_1) := (kc_ BK342.out 1).trans rfl
   have hcz17_2 : w7.cell? ⟨gb342, 2, none⟩ = some (.string a0_2) := (kc_ BK342.out 2).trans rfl
   have hfz17_0 := kF_ BK342.out 0
   have hfz17_1 := kF_ BK342.out 1
   have hfz17_2 := kF_ BK342.out 2
   go_wp2_with (first | ((with_reducible refine gC_ (f := 46) rfl ?_); refine goesL_ (some 35) rfl rfl Tryd.func46 (by kernel_rfl) rfl #[.agg #[.bool a0_0, .string a0_1, .string a0_2]] rfl mp_ ?_; (with_reducible refine (rational_den.calls a0_0 a0_1 a0_2 t345 _ A14.out).mono ?_); rintro e w18 ⟨rfl, hb⟩; refine ⟨_, rfl, ?_⟩; have n0_ := A0_.mk (kB_ (g := gb342) (o := .cells #[.bool a0_0, .string a0_1, .string a0_2] 26 (0, 0)) (xK_ BK342.out) hb); have n1_ := A0_.mk (kB_ (g := gb343) (o := .cells #[.bool a1_0, .string a1_1, .string a1_2] 26 (0, 0)) (xK_ BK343.out) hb); have n2_ := A0_.mk (kB_ (g := gb344) (o := .cells #[.bool false, .string (⟨#[]⟩ : ByteArray), .string (⟨#[]⟩ : ByteArray)] 26 (0, 0)) (xK_ BK344.out) hb); have n3_ := A0_.mk (bT_ (xB3_ HB GE342 GE343 GE344) hb); clear BK342 BK343 BK344 HB; have BK342 := n0_; have BK343 := n1_; have BK344 := n2_; have HB := n3_; clear n0_ n1_ n2_ n3_; (try clear hb); (try clear hb2); (try clear hk); (try clear hi)))
   go_meet
   case rel => exact ⟨_, (a0_1), (a1_1), (t345), (by first | rfl | (simp; done) | (simp [*]; done)), (by first | rfl | (simp; done) | (simp [*]; done)), (by first | rfl | (simp; done) | (simp [*]; done)), H', ⟨by first | omega | exact Nat.le_refl _⟩, ⟨by (with_reducible repeat (first | refine kN_ ?_ _ | refine kD_ ?_ | refine kA_ ?_ _)); exact BK342.out⟩, ⟨by (with_reducible repeat (first | refine kN_ ?_ _ | refine kD_ ?_ | refine kA_ ?_ _)); exact BK343.out⟩, ⟨by (with_reducible repeat (first | refine kN_ ?_ _ | refine kD_ ?_ | refine kA_ ?_ _)); exact BK344.out⟩, ⟨xB3_ HB GE342 GE343 GE344⟩⟩
  ·rw [if_neg c13] at H
   have c13b0 : (a0_2.toList == a1_2.toList) = false := beq_eq_false_iff_ne.mpr c13
   have c13b1 : (a0_2.toList != a1_2.toList) = true := bne_iff_ne.mpr c13
   (first | rw [c13b0] | rw [c13b1] | (simp only [i64_w, i32_w]; rw [c13b0]) | skip)
   replace H := Option.bind_eq_some_iff.mp H
   obtain ⟨t346, A190, H⟩ := H
   (try dsimp only at H)
   have A19 := A0_.mk A190
   clear A190
   replace H := Option.bind_eq_some_iff.mp H
   obtain ⟨t347, A200, H⟩ := H
   (try dsimp only at H)
   have A20 := A0_.mk A200
   clear A200
   replace H := Option.bind_eq_some_iff.mp H
   obtain ⟨t348, A210, H⟩ := H
   (try dsimp only at H)
   have A21 := A0_.mk A210
   clear A210
   replace H := Option.bind_eq_some_iff.mp H
   obtain ⟨t349, A220, H⟩ := H
   (try dsimp only at H)
   have A22 := A0_.mk A220
   clear A220
   replace H := Option.bind_eq_some_iff.mp H
   obtain ⟨t350, A230, H⟩ := H
   (try dsimp only at H)
   have A23 := A0_.mk A230
   clear A230
   replace H := Option.bind_eq_some_iff.mp H
   obtain ⟨t351, A240, H⟩ := H
   (try dsimp only at H)
   have A24 := A0_.mk A240
   clear A240
   replace H := Option.bind_eq_some_iff.mp H
   obtain ⟨t352, A250, H⟩ := H
   (try dsimp only at H)
   have A25 := A0_.mk A250
   clear A250
   have H' := A0_.mk H
   clear H
   try go_wp2
   have n0_ := A0_.mk (kD_ BK342.out)
   have n1_ := A0_.mk (kD_ BK343.out)
   have n2_ := A0_.mk (kD_ BK344.out)
   have n3_ := A0_.mk (b1_ HB.out)
   clear BK342
   clear BK343
   clear BK344
   clear HB
   have BK342 := n0_
   have BK343 := n1_
   have BK344 := n2_
   have HB := n3_
   clear n0_ n1_ n2_ n3_
   refine start_ (n := 10) (S := fun w' => w'.cell? ⟨gb343, 0, none⟩ = some (.bool a1_0) ∧ w'.cell? ⟨gb343, 1, none⟩ = some (.string a1_1) ∧ w'.cell? ⟨gb343, 2, none⟩ = some (.string a1_2) ∧ w'.cell? ⟨gb342, 0, none⟩ = some (.bool a0_0) ∧ w'.cell? ⟨gb342, 1, none⟩ = some (.string a0_1) ∧ w'.cell? ⟨gb342, 2, none⟩ = some (.string a0_2)) (ds := []) #[false, false, false, false, false, false, false, false, false, false] (by kernel_rfl) rfl rfl ⟨(kc_ BK343.out 0).trans rfl, (kc_ BK343.out 1).trans rfl, (kc_ BK343.out 2).trans rfl, (kc_ BK342.out 0).trans rfl, (kc_ BK342.out 1).trans rfl, (kc_ BK342.out 2).trans rfl⟩ (fun hHeld => ?_); refine with_tabW rational_add.tab3 rational_add.bits3 (fun HT_ HW_ => ?_)
   generalize w7.drew = w26 at BK342 BK343 BK344 HB hHeld ⊢
   refine pure_ (i := 0) (N := some 21) (v := ?_) (a' := ?_) #[true, false, false, false, false, false, false, false, false, false] rfl rfl (any_of HT_.out (by kernel_rfl)) (fun _ _ _ h => h) (Or.inl ⟨by rfl, ?_⟩) ?_ ?_
   rotate_left
   ·intro w'
    go_simp
    with_reducible rfl
   rotate_left
   ·simp only [Act.put, s1_, s2_, s3_, i64_w, i32_w]
    rfl
   refine pure_ (i := 4) (N := some 25) (v := ?_) (a' := ?_) #[true, false, false, false, true, false, false, false, false, false] rfl rfl (any_of HT_.out (by kernel_rfl)) (fun _ _ _ h => h) (Or.inl ⟨by rfl, ?_⟩) ?_ ?_
   rotate_left
   ·intro w'
    go_simp
    with_reducible rfl
   rotate_left
   ·simp only [Act.put, s1_, s2_, s3_, i64_w, i32_w]
    rfl
   refine take_ (i := 1) (N := some 22) (v := ?_) (a' := ?_) #[true, true, false, false, true, false, false, false, false, false] rfl rfl (take_ofW HT_.out HW_.out (by kernel_rfl)) (fun _ _ _ h => h) (Or.inl ⟨by rfl, ?_⟩) hHeld ?_ ?_
   rotate_left
   ·rintro w' ⟨s0, s1, s2, s3, s4, s5⟩
    go_simp
    with_reducible rfl
   rotate_left
   ·simp only [Act.put, s1_, s2_, s3_, i64_w, i32_w]
    rfl
   refine take_ (i := 5) (N := some 26) (v := ?_) (a' := ?_) #[true, true, false, false, true, true, false, false, false, false] rfl rfl (take_ofW HT_.out HW_.out (by kernel_rfl)) (fun _ _ _ h => h) (Or.inl ⟨by rfl, ?_⟩) hHeld ?_ ?_
   rotate_left
   ·rintro w' ⟨s0, s1, s2, s3, s4, s5⟩
    go_simp
    with_reducible rfl
   rotate_left
   ·simp only [Act.put, s1_, s2_, s3_, i64_w, i32_w]
    rfl
   refine one_ (i := 2) (N := some 23) #[true, true, true, false, true, true, false, false, false, false] rfl rfl (one_of HT_.out (by kernel_rfl)) (by decide) (fun K hK => ?_)
   refine goes_ Tryd.func46 (by kernel_rfl) rfl #[.agg #[.bool a1_0, .string a1_1, .string a1_2]] (by rfl) rfl rfl mp_ ?_
   with_reducible refine (rational_den.calls a1_0 a1_1 a1_2 t346 _ A19.out).mono ?_
   rintro e w27 ⟨rfl, hb⟩
   refine ⟨_, rfl, ?_⟩
   have n0_ := A0_.mk (kB_ (g := gb342) (o := .cells #[.bool a0_0, .string a0_1, .string a0_2] 26 (0, 0)) (xK_ BK342.out) hb)
   have n1_ := A0_.mk (kB_ (g := gb343) (o := .cells #[.bool a1_0, .string a1_1, .string a1_2] 26 (0, 0)) (xK_ BK343.out) hb)
   have n2_ := A0_.mk (kB_ (g := gb344) (o := .cells #[.bool false, .string (⟨#[]⟩ : ByteArray), .string (⟨#[]⟩ : ByteArray)] 26 (0, 0)) (xK_ BK344.out) hb)
   have n3_ := A0_.mk (bT_ (xB3_ HB GE342 GE343 GE344) hb)
   clear BK342
   clear BK343
   clear BK344
   clear HB
   have BK342 := n0_
   have BK343 := n1_
   have BK344 := n2_
   have HB := n3_
   clear n0_ n1_ n2_ n3_
   (try clear hb)
   (try clear hb2)
   (try clear hk)
   (try clear hi)
   refine hK.out _ _ ⟨(kc_ BK343.out 0).trans rfl, (kc_ BK343.out 1).trans rfl, (kc_ BK343.out 2).trans rfl, (kc_ BK342.out 0).trans rfl, (kc_ BK342.out 1).trans rfl, (kc_ BK342.out 2).trans rfl⟩ (fun hHeld => ?_)
   clear hK K
   refine norm_ (a' := ?_) ?_ ?_
   rotate_left
   ·show Act.put _ (some 23) _ = _
    simp only [Act.put, s1_, s2_, s3_, i64_w, i32_w]
    rfl
   refine one_ (i := 3) (N := some 24) #[true, true, true, true, true, true, false, false, false, false] rfl rfl (one_of HT_.out (by kernel_rfl)) (by decide) (fun K hK => ?_)
   refine goes_ Tryd.func45 (by kernel_rfl) rfl #[.string a0_1, .string t346] (by rfl) rfl rfl mp_ ?_
   with_reducible refine (natural_Multiply.calls k a0_1 t346 t347 _ A20.out).mono ?_
   rintro e w28 ⟨rfl, hb⟩
   refine ⟨_, rfl, ?_⟩
   have n0_ := A0_.mk (kB_ (g := gb342) (o := .cells #[.bool a0_0, .string a0_1, .string a0_2] 26 (0, 0)) (xK_ BK342.out) hb)
   have n1_ := A0_.mk (kB_ (g := gb343) (o := .cells #[.bool a1_0, .string a1_1, .string a1_2] 26 (0, 0)) (xK_ BK343.out) hb)
   have n2_ := A0_.mk (kB_ (g := gb344) (o := .cells #[.bool false, .string (⟨#[]⟩ : ByteArray), .string (⟨#[]⟩ : ByteArray)] 26 (0, 0)) (xK_ BK344.out) hb)
   have n3_ := A0_.mk (bT_ (xB3_ HB GE342 GE343 GE344) hb)
   clear BK342
   clear BK343
   clear BK344
   clear HB
   have BK342 := n0_
   have BK343 := n1_
   have BK344 := n2_
   have HB := n3_
   clear n0_ n1_ n2_ n3_
   (try clear hb)
   (try clear hb2)
   (try clear hk)
   (try clear hi)
   refine hK.out _ _ ⟨(kc_ BK343.out 0).trans rfl, (kc_ BK343.out 1).trans rfl, (kc_ BK343.out 2).trans rfl, (kc_ BK342.out 0).trans rfl, (kc_ BK342.out 1).trans rfl, (kc_ BK342.out 2).trans rfl⟩ (fun hHeld => ?_)
   clear hK K
   refine norm_ (a' := ?_) ?_ ?_
   rotate_left
   ·show Act.put _ (some 24) _ = _
    simp only [Act.put, s1_, s2_, s3_, i64_w, i32_w]
    rfl
   refine one_ (i := 6) (N := some 27) #[true, true, true, true, true, true, true, false, false, false] rfl rfl (one_of HT_.out (by kernel_rfl)) (by decide) (fun K hK => ?_)
   refine goes_ Tryd.func46 (by kernel_rfl) rfl #[.agg #[.bool a0_0, .string a0_1, .string a0_2]] (by rfl) rfl rfl mp_ ?_
   with_reducible refine (rational_den.calls a0_0 a0_1 a0_2 t348 _ A21.out).mono ?_
   rintro e w29 ⟨rfl, hb⟩
   refine ⟨_, rfl, ?_⟩
   have n0_ := A0_.mk (kB_ (g := gb342) (o := .cells #[.bool a0_0, .string a0_1, .string a0_2] 26 (0, 0)) (xK_ BK342.out) hb)
   have n1_ := A0_.mk (kB_ (g := gb343) (o := .cells #[.bool a1_0, .string a1_1, .string a1_2] 26 (0, 0)) (xK_ BK343.out) hb)
   have n2_ := A0_.mk (kB_ (g := gb344) (o := .cells #[.bool false, .string (⟨#[]⟩ : ByteArray), .string (⟨#[]⟩ : ByteArray)] 26 (0, 0)) (xK_ BK344.out) hb)
   have n3_ := A0_.mk (bT_ (xB3_ HB GE342 GE343 GE344) hb)
   clear BK342
   clear BK343
   clear BK344
   clear HB
   have BK342 := n0_
   have BK343 := n1_
   have BK344 := n2_
   have HB := n3_
   clear n0_ n1_ n2_ n3_
   (try clear hb)
   (try clear hb2)
   (try clear hk)
   (try clear hi)
   refine hK.out _ _ ⟨(kc_ BK343.out 0).trans rfl, (kc_ BK343.out 1).trans rfl, (kc_ BK343.out 2).trans rfl, (kc_ BK342.out 0).trans rfl, (kc_ BK342.out 1).trans rfl, (kc_ BK342.out 2).trans rfl⟩ (fun hHeld => ?_)
   clear hK K
   refine norm_ (a' := ?_) ?_ ?_
   rotate_left
   ·show Act.put _ (some 27) _ = _
    simp only [Act.put, s1_, s2_, s3_, i64_w, i32_w]
    rfl
   refine one_ (i := 7) (N := some 28) #[true, true, true, true, true, true, true, true, false, false] rfl rfl (one_of HT_.out (by kernel_rfl)) (by decide) (fun K hK => ?_)
   refine goes_ Tryd.func45 (by kernel_rfl) rfl #[.string a1_1, .string t348] (by rfl) rfl rfl mp_ ?_
   with_reducible refine (natural_Multiply.calls k a1_1 t348 t349 _ A22.out).mono ?_
   rintro e w30 ⟨rfl, hb⟩
   refine ⟨_, rfl, ?_⟩
   have n0_ := A0_.mk (kB_ (g := gb342) (o := .cells #[.bool a0_0, .string a0_1, .string a0_2] 26 (0, 0)) (xK_ BK342.out) hb)
   have n1_ := A0_.mk (kB_ (g := gb343) (o := .cells #[.bool a1_0, .string a1_1, .string a1_2] 26 (0, 0)) (xK_ BK343.out) hb)
   have n2_ := A0_.mk (kB_ (g := gb344) (o := .cells #[.bool false, .string (⟨#[]⟩ : ByteArray), .string (⟨#[]⟩ : ByteArray)] 26 (0, 0)) (xK_ BK344.out) hb)
   have n3_ := A0_.mk (bT_ (xB3_ HB GE342 GE343 GE344) hb)
   clear BK342
   clear BK343
   clear BK344
   clear HB
   have BK342 := n0_
   have BK343 := n1_
   have BK344 := n2_
   have HB := n3_
   clear n0_ n1_ n2_ n3_
   (try clear hb)
   (try clear hb2)
   (try clear hk)
   (try clear hi)
   refine hK.out _ _ ⟨(kc_ BK343.out 0).trans rfl, (kc_ BK343.out 1).trans rfl, (kc_ BK343.out 2).trans rfl, (kc_ BK342.out 0).trans rfl, (kc_ BK342.out 1).trans rfl, (kc_ BK342.out 2).trans rfl⟩ (fun hHeld => ?_)
   clear hK K
   refine norm_ (a' := ?_) ?_ ?_
   rotate_left
   ·show Act.put _ (some 28) _ = _
    simp only [Act.put, s1_, s2_, s3_, i64_w, i32_w]
    rfl
   refine pure_ (i := 8) (N := some 5) (v := ?_) (a' := ?_) #[true, true, true, true, true, true, true, true, true, false] rfl rfl (any_of HT_.out (by kernel_rfl)) (fun _ _ _ h => h) (Or.inl ⟨by rfl, ?_⟩) ?_ ?_
   rotate_left
   ·intro w'
    go_simp
    with_reducible rfl
   rotate_left
   ·simp only [Act.put, s1_, s2_, s3_, i64_w, i32_w]
    rfl
   refine pure_ (i := 9) (N := some 6) (v := ?_) (a' := ?_) #[true, true, true, true, true, true, true, true, true, true] rfl rfl (any_of HT_.out (by kernel_rfl)) (fun _ _ _ h => h) (Or.inl ⟨by rfl, ?_⟩) ?_ ?_
   rotate_left
   ·intro w'
    go_simp
    with_reducible rfl
   rotate_left
   ·simp only [Act.put, s1_, s2_, s3_, i64_w, i32_w]
    rfl
   refine done_ (done_of HT_.out (by kernel_rfl)) ?_
   try go_wp2
   have n0_ := A0_.mk (kD_ BK342.out)
   have n1_ := A0_.mk (kD_ BK343.out)
   have n2_ := A0_.mk (kD_ BK344.out)
   have n3_ := A0_.mk (b1_ HB.out)
   clear BK342
   clear BK343
   clear BK344
   clear HB
   have BK342 := n0_
   have BK343 := n1_
   have BK344 := n2_
   have HB := n3_
   clear n0_ n1_ n2_ n3_
   refine start_ (n := 6) (S := fun w' => w'.cell? ⟨gb342, 0, none⟩ = some (.bool a0_0) ∧ w'.cell? ⟨gb342, 1, none⟩ = some (.string a0_1) ∧ w'.cell? ⟨gb342, 2, none⟩ = some (.string a0_2) ∧ w'.cell? ⟨gb343, 0, none⟩ = some (.bool a1_0) ∧ w'.cell? ⟨gb343, 1, none⟩ = some (.string a1_1) ∧ w'.cell? ⟨gb343, 2, none⟩ = some (.string a1_2)) (ds := []) #[false, false, false, false, false, false] (by kernel_rfl) rfl rfl ⟨(kc_ BK342.out 0).trans rfl, (kc_ BK342.out 1).trans rfl, (kc_ BK342.out 2).trans rfl, (kc_ BK343.out 0).trans rfl, (kc_ BK343.out 1).trans rfl, (kc_ BK343.out 2).trans rfl⟩ (fun hHeld => ?_)
   generalize w30.drew = w31 at BK342 BK343 BK344 HB hHeld ⊢
   refine take_ (i := 0) (N := some 29) (v := ?_) (a' := ?_) #[true, false, false, false, false, false] rfl rfl (by kernel_rfl) (fun _ _ _ h => h) (Or.inl ⟨by rfl, ?_⟩) hHeld ?_ ?_
   rotate_left
   ·rintro w' ⟨s0, s1, s2, s3, s4, s5⟩
    go_simp
    with_reducible rfl
   rotate_left
   ·simp only [Act.put, s1_, s2_, s3_, i64_w, i32_w]
    rfl
   refine take_ (i := 2) (N := some 31) (v := ?_) (a' := ?_) #[true, false, true, false, false, false] rfl rfl (by kernel_rfl) (fun _ _ _ h => h) (Or.inl ⟨by rfl, ?_⟩) hHeld ?_ ?_
   rotate_left
   ·rintro w' ⟨s0, s1, s2, s3, s4, s5⟩
    go_simp
    with_reducible rfl
   rotate_left
   ·simp only [Act.put, s1_, s2_, s3_, i64_w, i32_w]
    rfl
   refine one_ (i := 1) (N := some 30) #[true, true, true, false, false, false] rfl rfl (by kernel_rfl) (by decide) (fun K hK => ?_)
   refine goes_ Tryd.func46 (by kernel_rfl) rfl #[.agg #[.bool a0_0, .string a0_1, .string a0_2]] (by rfl) rfl rfl mp_ ?_
   with_reducible refine (rational_den.calls a0_0 a0_1 a0_2 t350 _ A23.out).mono ?_
   rintro e w32 ⟨rfl, hb⟩
   refine ⟨_, rfl, ?_⟩
   have n0_ := A0_.mk (kB_ (g := gb342) (o := .cells #[.bool a0_0, .string a0_1, .string a0_2] 26 (0, 0)) (xK_ BK342.out) hb)
   have n1_ := A0_.mk (kB_ (g := gb343) (o := .cells #[.bool a1_0, .string a1_1, .string a1_2] 26 (0, 0)) (xK_ BK343.out) hb)
   have n2_ := A0_.mk (kB_ (g := gb344) (o := .cells #[.bool false, .string (⟨#[]⟩ : ByteArray), .string (⟨#[]⟩ : ByteArray)] 26 (0, 0)) (xK_ BK344.out) hb)
   have n3_ := A0_.mk (bT_ (xB3_ HB GE342 GE343 GE344) hb)
   clear BK342
   clear BK343
   clear BK344
   clear HB
   have BK342 := n0_
   have BK343 := n1_
   have BK344 := n2_
   have HB := n3_
   clear n0_ n1_ n2_ n3_
   (try clear hb)
   (try clear hb2)
   (try clear hk)
   (try clear hi)
   refine hK.out _ _ ⟨(kc_ BK342.out 0).trans rfl, (kc_ BK342.out 1).trans rfl, (kc_ BK342.out 2).trans rfl, (kc_ BK343.out 0).trans rfl, (kc_ BK343.out 1).trans rfl, (kc_ BK343.out 2).trans rfl⟩ (fun hHeld => ?_)
   clear hK K
   refine norm_ (a' := ?_) ?_ ?_
   rotate_left
   ·show Act.put _ (some 30) _ = _
    simp only [Act.put, s1_, s2_, s3_, i64_w, i32_w]
    rfl
   refine one_ (i := 3) (N := some 32) #[true, true, true, true, false, false] rfl rfl (by kernel_rfl) (by decide) (fun K hK => ?_)
   refine goes_ Tryd.func46 (by kernel_rfl) rfl #[.agg #[.bool a1_0, .string a1_1, .string a1_2]] (by rfl) rfl rfl mp_ ?_
   with_reducible refine (rational_den.calls a1_0 a1_1 a1_2 t351 _ A24.out).mono ?_
   rintro e w33 ⟨rfl, hb⟩
   refine ⟨_, rfl, ?_⟩
   have n0_ := A0_.mk (kB_ (g := gb342) (o := .cells #[.bool a0_0, .string a0_1, .string a0_2] 26 (0, 0)) (xK_ BK342.out) hb)
   have n1_ := A0_.mk (kB_ (g := gb343) (o := .cells #[.bool a1_0, .string a1_1, .string a1_2] 26 (0, 0)) (xK_ BK343.out) hb)
   have n2_ := A0_.mk (kB_ (g := gb344) (o := .cells #[.bool false, .string (⟨#[]⟩ : ByteArray), .string (⟨#[]⟩ : ByteArray)] 26 (0, 0)) (xK_ BK344.out) hb)
   have n3_ := A0_.mk (bT_ (xB3_ HB GE342 GE343 GE344) hb)
   clear BK342
   clear BK343
   clear BK344
   clear HB
   have BK342 := n0_
   have BK343 := n1_
   have BK344 := n2_
   have HB := n3_
   clear n0_ n1_ n2_ n3_
   (try clear hb)
   (try clear hb2)
   (try clear hk)
   (try clear hi)
   refine hK.out _ _ ⟨(kc_ BK342.out 0).trans rfl, (kc_ BK342.out 1).trans rfl, (kc_ BK342.out 2).trans rfl, (kc_ BK343.out 0).trans rfl, (kc_ BK343.out 1).trans rfl, (kc_ BK343.out 2).trans rfl⟩ (fun hHeld => ?_)
   clear hK K
   refine norm_ (a' := ?_) ?_ ?_
   rotate_left
   ·show Act.put _ (some 32) _ = _
    simp only [Act.put, s1_, s2_, s3_, i64_w, i32_w]
    rfl
   refine one_ (i := 4) (N := some 33) #[true, true, true, true, true, false] rfl rfl (by kernel_rfl) (by decide) (fun K hK => ?_)
   refine goes_ Tryd.func45 (by kernel_rfl) rfl #[.string t350, .string t351] (by rfl) rfl rfl mp_ ?_
   with_reducible refine (natural_Multiply.calls k t350 t351 t352 _ A25.out).mono ?_
   rintro e w34 ⟨rfl, hb⟩
   refine ⟨_, rfl, ?_⟩
   have n0_ := A0_.mk (kB_ (g := gb342) (o := .cells #[.bool a0_0, .string a0_1, .string a0_2] 26 (0, 0)) (xK_ BK342.out) hb)
   have n1_ := A0_.mk (kB_ (g := gb343) (o := .cells #[.bool a1_0, .string a1_1, .string a1_2] 26 (0, 0)) (xK_ BK343.out) hb)
   have n2_ := A0_.mk (kB_ (g := gb344) (o := .cells #[.bool false, .string (⟨#[]⟩ : ByteArray), .string (⟨#[]⟩ : ByteArray)] 26 (0, 0)) (xK_ BK344.out) hb)
   have n3_ := A0_.mk (bT_ (xB3_ HB GE342 GE343 GE344) hb)
   clear BK342
   clear BK343
   clear BK344
   clear HB
   have BK342 := n0_
   have BK343 := n1_
   have BK344 := n2_
   have HB := n3_
   clear n0_ n1_ n2_ n3_
   (try clear hb)
   (try clear hb2)
   (try clear hk)
   (try clear hi)
   refine hK.out _ _ ⟨(kc_ BK342.out 0).trans rfl, (kc_ BK342.out 1).trans rfl, (kc_ BK342.out 2).trans rfl, (kc_ BK343.out 0).trans rfl, (kc_ BK343.out 1).trans rfl, (kc_ BK343.out 2).trans rfl⟩ (fun hHeld => ?_)
   clear hK K
   refine norm_ (a' := ?_) ?_ ?_
   rotate_left
   ·show Act.put _ (some 33) _ = _
    simp only [Act.put, s1_, s2_, s3_, i64_w, i32_w]
    rfl
   refine pure_ (i := 5) (N := some 7) (v := ?_) (a' := ?_) #[true, true, true, true, true, true] rfl rfl (by kernel_rfl) (fun _ _ _ h => h) (Or.inl ⟨by rfl, ?_⟩) ?_ ?_
   rotate_left
   ·intro w'
    go_simp
    with_reducible rfl
   rotate_left
   ·simp only [Act.put, s1_, s2_, s3_, i64_w, i32_w]
    rfl
   refine done_ (by kernel_rfl) ?_
   try go_wp2
   go_meet
   case rel => exact ⟨_, (t347), (t349), (t352), (by first | rfl | (simp; done) | (simp [*]; done)), (by first | rfl | (simp; done) | (simp [*]; done)), (by first | rfl | (simp; done) | (simp [*]; done)), H', ⟨by first | omega | exact Nat.le_refl _⟩, ⟨by (with_reducible repeat (first | refine kN_ ?_ _ | refine kD_ ?_ | refine kA_ ?_ _)); exact BK342.out⟩, ⟨by (with_reducible repeat (first | refine kN_ ?_ _ | refine kD_ ?_ | refine kA_ ?_ _)); exact BK343.out⟩, ⟨by (with_reducible repeat (first | refine kN_ ?_ _ | refine kD_ ?_ | refine kA_ ?_ _)); exact BK344.out⟩, ⟨xB3_ HB GE342 GE343 GE344⟩⟩
 case rest =>
  clear HC3
  try clear c1
  try clear p2
  try clear c4
  try clear c8
  try clear c9
  try clear c11
  try clear c13
  try clear c13b0
  try clear c13b1
  try clear c15
  try clear c16
  try clear hcz10_0
  try clear hcz10_1
  try clear hcz10_2
  try clear hcz12_0
  try clear hcz12_1
  try clear hcz12_2
  try clear hcz17_0
  try clear hcz17_1
  try clear hcz17_2
  try clear hfz10_0
  try clear hfz10_1
  try clear hfz10_2
  try clear hfz12_0
  try clear hfz12_1
  try clear hfz12_2
  try clear hfz17_0
  try clear hfz17_1
  try clear hfz17_2
  obtain ⟨kq, x5_2, x6_2, x7_2, rfl, rfl, rfl, HA, HJ2, BK342, BK343, BK344, HB⟩ := hcut
  cases kq with
  | zero => exact absurd HA.out (by simp [rational_add.j0])
  | succ kj2 =>
   have H := HA.out
   clear HA
   simp only [rational_add.j0] at H
   by_cases c35 : (a0_0 == a1_0) = true
   ·rw [if_pos c35] at H
    have c35b0 : (a0_0 == a1_0) = true := c35
    (try (have c35b1 : decide (a0_0 = a1_0) = true := by simpa using c35))
    (try (have c35b2 : (a0_0 == a1_0) = true := by simpa using c35))
    clear c35
    replace H := Option.bind_eq_some_iff.mp H
    obtain ⟨t353, A360, H⟩ := H
    (try dsimp only at H)
    have A36 := A0_.mk A360
    clear A360
    replace H := Option.bind_eq_some_iff.mp H
    obtain ⟨⟨t354, t355, t356⟩, A370, H⟩ := H
    (try dsimp only at H)
    have A37 := A0_.mk A370
    clear A370
    simp only [Option.some.injEq, Prod.mk.injEq] at H
    obtain ⟨rfl, rfl, rfl⟩ := H
    have hnb38 := NB342_343.out
    have hnc38 := NB343_342.out
    have hnb39 := NB342_344.out
    have hnc39 := NB344_342.out
    have hcz40_0 : wc.cell? ⟨gb342, 0, none⟩ = some (.bool a0_0) := (kc_ BK342.out 0).trans rfl
    have hcz40_1 : wc.cell? ⟨gb342, 1, none⟩ = some (.string a0_1) := (kc_ BK342.out 1).trans rfl
    have hcz40_2 : wc.cell? ⟨gb342, 2, none⟩ = some (.string a0_2) := (kc_ BK342.out 2).trans rfl
    have hfz40_0 := kF_ BK342.out 0
    have hfz40_1 := kF_ BK342.out 1
    have hfz40_2 := kF_ BK342.out 2
    have hnb41 := NB343_344.out
    have hnc41 := NB344_343.out
    have hcz42_0 : wc.cell? ⟨gb343, 0, none⟩ = some (.bool a1_0) := (kc_ BK343.out 0).trans rfl
    have hcz42_1 : wc.cell? ⟨gb343, 1, none⟩ = some (.string a1_1) := (kc_ BK343.out 1).trans rfl
    have hcz42_2 : wc.cell? ⟨gb343, 2, none⟩ = some (.string a1_2) := (kc_ BK343.out 2).trans rfl
    have hfz42_0 := kF_ BK343.out 0
    have hfz42_1 := kF_ BK343.out 1
    have hfz42_2 := kF_ BK343.out 2
    try go_wp2
    have n0_ := A0_.mk (kD_ BK342.out)
    have n1_ := A0_.mk (kD_ BK343.out)
    have n2_ := A0_.mk (kD_ BK344.out)
    have n3_ := A0_.mk (b1_ HB.out)
    clear BK342
    clear BK343
    clear BK344
    clear HB
    have BK342 := n0_
    have BK343 := n1_
    have BK344 := n2_
    have HB := n3_
    clear n0_ n1_ n2_ n3_
    refine start_ (n := 8) (S := fun w' => w'.cell? ⟨gb342, 0, none⟩ = some (.bool a0_0) ∧ w'.cell? ⟨gb342, 1, none⟩ = some (.string a0_1) ∧ w'.cell? ⟨gb342, 2, none⟩ = some (.string a0_2)) (ds := []) #[false, false, false, false, false, false, false, false] (by kernel_rfl) rfl rfl ⟨(kc_ BK342.out 0).trans rfl, (kc_ BK342.out 1).trans rfl, (kc_ BK342.out 2).trans rfl⟩ (fun hHeld => ?_); refine with_tabW rational_add.tab7 rational_add.bits7 (fun HT_ HW_ => ?_)
    generalize wc.drew = w43 at BK342 BK343 BK344 HB hHeld ⊢
    refine pure_ (i := 0) (N := some 41) (v := ?_) (a' := ?_) #[true, false, false, false, false, false, false, false] rfl rfl (any_of HT_.out (by kernel_rfl)) (fun _ _ _ h => h) (Or.inl ⟨by rfl, ?_⟩) ?_ ?_
    rotate_left
    ·intro w'
     go_simp
     with_reducible rfl
    rotate_left
    ·simp only [Act.put, s1_, s2_, s3_, i64_w, i32_w]
     rfl
    refine pure_ (i := 2) (N := some 43) (v := ?_) (a' := ?_) #[true, false, true, false, false, false, false, false] rfl rfl (any_of HT_.out (by kernel_rfl)) (fun _ _ _ h => h) (Or.inl ⟨by rfl, ?_⟩) ?_ ?_
    rotate_left
    ·intro w'
     go_simp
     with_reducible rfl
    rotate_left
    ·simp only [Act.put, s1_, s2_, s3_, i64_w, i32_w]
     rfl
    refine pure_ (i := 3) (N := some 44) (v := ?_) (a' := ?_) #[true, false, true, true, false, false, false, false] rfl rfl (any_of HT_.out (by kernel_rfl)) (fun _ _ _ h => h) (Or.inl ⟨by rfl, ?_⟩) ?_ ?_
    rotate_left
    ·intro w'
     go_simp
     with_reducible rfl
    rotate_left
    ·simp only [Act.put, s1_, s2_, s3_, i64_w, i32_w]
     rfl
    refine pure_ (i := 5) (N := some 46) (v := ?_) (a' := ?_) #[true, false, true, true, false, true, false, false] rfl rfl (any_of HT_.out (by kernel_rfl)) (fun _ _ _ h => h) (Or.inl ⟨by rfl, ?_⟩) ?_ ?_
    rotate_left
    ·intro w'
     go_simp
     with_reducible rfl
    rotate_left
    ·simp only [Act.put, s1_, s2_, s3_, i64_w, i32_w]
     rfl
    refine take_ (i := 1) (N := some 42) (v := ?_) (a' := ?_) #[true, true, true, true, false, true, false, false] rfl rfl (take_ofW HT_.out HW_.out (by kernel_rfl)) (fun _ _ _ h => h) (Or.inl ⟨by rfl, ?_⟩) hHeld ?_ ?_
    rotate_left
    ·rintro w' ⟨s0, s1, s2⟩
     go_simp
     with_reducible rfl
    rotate_left
    ·simp only [Act.put, s1_, s2_, s3_, i64_w, i32_w]
     rfl
    refine one_ (i := 4) (N := some 45) #[true, true, true, true, true, true, false, false] rfl rfl (one_of HT_.out (by kernel_rfl)) (by decide) (fun K hK => ?_)
    refine goes_ Tryd.func66 (by kernel_rfl) rfl #[.string x5_2, .string x6_2] (by rfl) rfl rfl mp_ ?_
    with_reducible refine (natural_Add.calls kj2 x5_2 x6_2 t353 _ A36.out).mono ?_
    rintro e w44 ⟨rfl, hb⟩
    refine ⟨_, rfl, ?_⟩
    have n0_ := A0_.mk (kB_ (g := gb342) (o := .cells #[.bool a0_0, .string a0_1, .string a0_2] 26 (0, 0)) (xK_ BK342.out) hb)
    have n1_ := A0_.mk (kB_ (g := gb343) (o := .cells #[.bool a1_0, .string a1_1, .string a1_2] 26 (0, 0)) (xK_ BK343.out) hb)
    have n2_ := A0_.mk (kB_ (g := gb344) (o := .cells #[.bool false, .string (⟨#[]⟩ : ByteArray), .string (⟨#[]⟩ : ByteArray)] 26 (0, 0)) (xK_ BK344.out) hb)
    have n3_ := A0_.mk (bT_ (xB3_ HB GE342 GE343 GE344) hb)
    clear BK342
    clear BK343
    clear BK344
    clear HB
    have BK342 := n0_
    have BK343 := n1_
    have BK344 := n2_
    have HB := n3_
    clear n0_ n1_ n2_ n3_
    (try clear hb)
    (try clear hb2)
    (try clear hk)
    (try clear hi)
    refine hK.out _ _ ⟨(kc_ BK342.out 0).trans rfl, (kc_ BK342.out 1).trans rfl, (kc_ BK342.out 2).trans rfl⟩ (fun hHeld => ?_)
    clear hK K
    refine norm_ (a' := ?_) ?_ ?_
    rotate_left
    ·show Act.put _ (some 45) _ = _
     simp only [Act.put, s1_, s2_, s3_, i64_w, i32_w]
     rfl
    refine one_ (i := 6) (N := some 47) #[true, true, true, true, true, true, true, false] rfl rfl (one_of HT_.out (by kernel_rfl)) (by decide) (fun K hK => ?_)
    refine goes_ Tryd.func52 (by kernel_rfl) rfl #[.bool a0_0, .string t353, .string x7_2] (by rfl) rfl rfl mp_ ?_
    with_reducible refine (rational_reduced.calls kj2 a0_0 t353 x7_2 t354 t355 t356 _ A37.out).mono ?_
    rintro e w45 ⟨rfl, hb⟩
    refine ⟨_, rfl, ?_⟩
    have n0_ := A0_.mk (kB_ (g := gb342) (o := .cells #[.bool a0_0, .string a0_1, .string a0_2] 26 (0, 0)) (xK_ BK342.out) hb)
    have n1_ := A0_.mk (kB_ (g := gb343) (o := .cells #[.bool a1_0, .string a1_1, .string a1_2] 26 (0, 0)) (xK_ BK343.out) hb)
    have n2_ := A0_.mk (kB_ (g := gb344) (o := .cells #[.bool false, .string (⟨#[]⟩ : ByteArray), .string (⟨#[]⟩ : ByteArray)] 26 (0, 0)) (xK_ BK344.out) hb)
    have n3_ := A0_.mk (bT_ (xB3_ HB GE342 GE343 GE344) hb)
    clear BK342
    clear BK343
    clear BK344
    clear HB
    have BK342 := n0_
    have BK343 := n1_
    have BK344 := n2_
    have HB := n3_
    clear n0_ n1_ n2_ n3_
    (try clear hb)
    (try clear hb2)
    (try clear hk)
    (try clear hi)
    refine hK.out _ _ ⟨(kc_ BK342.out 0).trans rfl, (kc_ BK342.out 1).trans rfl, (kc_ BK342.out 2).trans rfl⟩ (fun hHeld => ?_)
    clear hK K
    refine norm_ (a' := ?_) ?_ ?_
    rotate_left
    ·show Act.put _ (some 47) _ = _
     simp only [Act.put, s1_, s2_, s3_, i64_w, i32_w]
     rfl
    refine one_ (i := 7) (N := none) #[true, true, true, true, true, true, true, true] rfl rfl (one_of HT_.out (by kernel_rfl)) (by decide) (fun K hK => ?_)
    have hs46 : w45.cell? ⟨gb344, 0, none⟩ = some (.bool false) := (kc_ BK344.out 0).trans rfl
    have hfs46 := kF_ BK344.out 0
    have hns46_0 := NB342_344.out
    have hns46_1 := NB343_344.out
    have hms46_0 := NB344_342.out
    have hms46_1 := NB344_343.out
    have hs47 : w45.cell? ⟨gb344, 1, none⟩ = some (.string (⟨#[]⟩ : ByteArray)) := (kc_ BK344.out 1).trans rfl
    have hfs47 := kF_ BK344.out 1
    have hns47_0 := NB342_344.out
    have hns47_1 := NB343_344.out
    have hms47_0 := NB344_342.out
    have hms47_1 := NB344_343.out
    have hs48 : w45.cell? ⟨gb344, 2, none⟩ = some (.string (⟨#[]⟩ : ByteArray)) := (kc_ BK344.out 2).trans rfl
    have hfs48 := kF_ BK344.out 2
    have hns48_0 := NB342_344.out
    have hns48_1 := NB343_344.out
    have hms48_0 := NB344_342.out
    have hms48_1 := NB344_343.out
    refine skip_ (w1 := ?_) (by rfl) rfl ?_ ?_
    rotate_left
    ·go_simp
     rfl
    refine hK.out _ _ ⟨((cell_far (p := ⟨gb344, _, none⟩) NB342_344.out _).trans (((cell_far (p := ⟨gb344, _, none⟩) NB342_344.out _).trans (((cell_far (p := ⟨gb344, _, none⟩) NB342_344.out _).trans (hHeld.1)))))), ((cell_far (p := ⟨gb344, _, none⟩) NB342_344.out _).trans (((cell_far (p := ⟨gb344, _, none⟩) NB342_344.out _).trans (((cell_far (p := ⟨gb344, _, none⟩) NB342_344.out _).trans (hHeld.2.1)))))), ((cell_far (p := ⟨gb344, _, none⟩) NB342_344.out _).trans (((cell_far (p := ⟨gb344, _, none⟩) NB342_344.out _).trans (((cell_far (p := ⟨gb344, _, none⟩) NB342_344.out _).trans (hHeld.2.2))))))⟩ (fun hHeld => ?_)
    clear hK K
    refine done_ (done_of HT_.out (by kernel_rfl)) ?_
    try go_wp2
    refine bodyPost_ret (results_cell_row rfl _ _ gb344 26 #[.bool t354, .string t355, .string t356] (0, 0) _ rfl (by (with_reducible repeat (first | refine kN_ ?_ _ | refine kD_ ?_ | refine kA_ ?_ _)); refine kP_ (cs := #[.bool t354, .string t355, .string (⟨#[]⟩ : ByteArray)]) ?_ 2 _ rfl; (with_reducible repeat (first | refine kN_ ?_ _ | refine kD_ ?_ | refine kA_ ?_ _)); refine kP_ (cs := #[.bool t354, .string (⟨#[]⟩ : ByteArray), .string (⟨#[]⟩ : ByteArray)]) ?_ 1 _ rfl; (with_reducible repeat (first | refine kN_ ?_ _ | refine kD_ ?_ | refine kA_ ?_ _)); refine kP_ (cs := #[.bool false, .string (⟨#[]⟩ : ByteArray), .string (⟨#[]⟩ : ByteArray)]) ?_ 0 _ rfl; (with_reducible repeat (first | refine kN_ ?_ _ | refine kD_ ?_ | refine kA_ ?_ _)); exact BK344.out) Tryd.underlying26 rfl (by kernel_rfl)) rfl ?_
    exact ⟨rE_, xB3_ HB GE342 GE343 GE344⟩
   ·rw [if_neg c35] at H
    have c35b0 : (a0_0 == a1_0) = false := by simpa using c35
    (try (have c35b1 : decide (a0_0 = a1_0) = false := by simpa using c35))
    (try (have c35b2 : (a0_0 == a1_0) = false := by simpa using c35))
    (try (have c35b3 : ¬ (a0_0 = a1_0) := by simpa using c35))
    clear c35
    replace H := Option.bind_eq_some_iff.mp H
    obtain ⟨⟨t357, t358⟩, A490, H⟩ := H
    (try dsimp only at H)
    have A49 := A0_.mk A490
    clear A490
    by_cases c50 : t358 = true
    ·subst c50
     have H1 : ((rational_reduced.f kj2 a0_0 t357 x7_2).bind fun bt359 => (some (bt359.1, bt359.2.1, bt359.2.2))) = some (r1, r2, r3) := by rw [if_pos rfl] at H; exact H
     clear H
     have H := H1
     clear H1
     replace H := Option.bind_eq_some_iff.mp H
     obtain ⟨⟨t359, t360, t361⟩, A510, H⟩ := H
     (try dsimp only at H)
     have A51 := A0_.mk A510
     clear A510
     simp only [Option.some.injEq, Prod.mk.injEq] at H
     obtain ⟨rfl, rfl, rfl⟩ := H
     have hnb52 := NB342_343.out
     have hnc52 := NB343_342.out
     have hnb53 := NB342_344.out
     have hnc53 := NB344_342.out
     have hcz54_0 : wc.cell? ⟨gb342, 0, none⟩ = some (.bool a0_0) := (kc_ BK342.out 0).trans rfl
     have hcz54_1 : wc.cell? ⟨gb342, 1, none⟩ = some (.string a0_1) := (kc_ BK342.out 1).trans rfl
     have hcz54_2 : wc.cell? ⟨gb342, 2, none⟩ = some (.string a0_2) := (kc_ BK342.out 2).trans rfl
     have hfz54_0 := kF_ BK342.out 0
     have hfz54_1 := kF_ BK342.out 1
     have hfz54_2 := kF_ BK342.out 2
     have hnb55 := NB343_344.out
     have hnc55 := NB344_343.out
     have hcz56_0 : wc.cell? ⟨gb343, 0, none⟩ = some (.bool a1_0) := (kc_ BK343.out 0).trans rfl
     have hcz56_1 : wc.cell? ⟨gb343, 1, none⟩ = some (.string a1_1) := (kc_ BK343.out 1).trans rfl
     have hcz56_2 : wc.cell? ⟨gb343, 2, none⟩ = some (.string a1_2) := (kc_ BK343.out 2).trans rfl
     have hfz56_0 := kF_ BK343.out 0
     have hfz56_1 := kF_ BK343.out 1
     have hfz56_2 := kF_ BK343.out 2
     go_wp2_with (first | ((with_reducible refine gC_ (f := 67) rfl ?_); refine goesL_ (some 51) rfl rfl Tryd.func67 (by kernel_rfl) rfl #[.string x5_2, .string x6_2] rfl mp_ ?_; (with_reducible refine (natural_Subtract.calls kj2 x5_2 x6_2 t357 true _ A49.out).mono ?_); rintro e w57 ⟨rfl, hb⟩; refine ⟨_, rfl, ?_⟩; have n0_ := A0_.mk (kB_ (g := gb342) (o := .cells #[.bool a0_0, .string a0_1, .string a0_2] 26 (0, 0)) (xK_ BK342.out) hb); have n1_ := A0_.mk (kB_ (g := gb343) (o := .cells #[.bool a1_0, .string a1_1, .string a1_2] 26 (0, 0)) (xK_ BK343.out) hb); have n2_ := A0_.mk (kB_ (g := gb344) (o := .cells #[.bool false, .string (⟨#[]⟩ : ByteArray), .string (⟨#[]⟩ : ByteArray)] 26 (0, 0)) (xK_ BK344.out) hb); have n3_ := A0_.mk (bT_ (xB3_ HB GE342 GE343 GE344) hb); clear BK342 BK343 BK344 HB; have BK342 := n0_; have BK343 := n1_; have BK344 := n2_; have HB := n3_; clear n0_ n1_ n2_ n3_; (try clear hb); (try clear hb2); (try clear hk); (try clear hi); have hcz58_0 : w57.cell? ⟨gb342, 0, none⟩ = some (.bool a0_0) := (kc_ BK342.out 0).trans rfl; have hcz58_1 : w57.cell? ⟨gb342, 1, none⟩ = some (.string a0_1) := (kc_ BK342.out 1).trans rfl; have hcz58_2 : w57.cell? ⟨gb342, 2, none⟩ = some (.string a0_2) := (kc_ BK342.out 2).trans rfl; have hfz58_0 := kF_ BK342.out 0; have hfz58_1 := kF_ BK342.out 1; have hfz58_2 := kF_ BK342.out 2) | ((with_reducible refine gC_ (f := 52) rfl ?_); refine goesL_ (some 59) rfl rfl Tryd.func52 (by kernel_rfl) rfl #[.bool a0_0, .string t357, .string x7_2] rfl mp_ ?_; (with_reducible refine (rational_reduced.calls kj2 a0_0 t357 x7_2 t359 t360 t361 _ A51.out).mono ?_); rintro e w59 ⟨rfl, hb⟩; refine ⟨_, rfl, ?_⟩; have n0_ := A0_.mk (kB_ (g := gb342) (o := .cells #[.bool a0_0, .string a0_1, .string a0_2] 26 (0, 0)) (xK_ BK342.out) hb); have n1_ := A0_.mk (kB_ (g := gb343) (o := .cells #[.bool a1_0, .string a1_1, .string a1_2] 26 (0, 0)) (xK_ BK343.out) hb); have n2_ := A0_.mk (kB_ (g := gb344) (o := .cells #[.bool false, .string (⟨#[]⟩ : ByteArray), .string (⟨#[]⟩ : ByteArray)] 26 (0, 0)) (xK_ BK344.out) hb); have n3_ := A0_.mk (bT_ (xB3_ HB GE342 GE343 GE344) hb); clear BK342 BK343 BK344 HB; have BK342 := n0_; have BK343 := n1_; have BK344 := n2_; have HB := n3_; clear n0_ n1_ n2_ n3_; (try clear hb); (try clear hb2); (try clear hk); (try clear hi); have hcz60_0 : w59.cell? ⟨gb344, 0, none⟩ = some (.bool false) := (kc_ BK344.out 0).trans rfl; have hcz60_1 : w59.cell? ⟨gb344, 1, none⟩ = some (.string (⟨#[]⟩ : ByteArray)) := (kc_ BK344.out 1).trans rfl; have hcz60_2 : w59.cell? ⟨gb344, 2, none⟩ = some (.string (⟨#[]⟩ : ByteArray)) := (kc_ BK344.out 2).trans rfl; have hfz60_0 := kF_ BK344.out 0; have hfz60_1 := kF_ BK344.out 1; have hfz60_2 := kF_ BK344.out 2))
     refine bodyPost_ret (results_cell_row rfl _ _ gb344 26 #[.bool t359, .string t360, .string t361] (0, 0) _ rfl (by (with_reducible repeat (first | refine kN_ ?_ _ | refine kD_ ?_ | refine kA_ ?_ _)); refine kP_ (cs := #[.bool t359, .string t360, .string (⟨#[]⟩ : ByteArray)]) ?_ 2 _ rfl; (with_reducible repeat (first | refine kN_ ?_ _ | refine kD_ ?_ | refine kA_ ?_ _)); refine kP_ (cs := #[.bool t359, .string (⟨#[]⟩ : ByteArray), .string (⟨#[]⟩ : ByteArray)]) ?_ 1 _ rfl; (with_reducible repeat (first | refine kN_ ?_ _ | refine kD_ ?_ | refine kA_ ?_ _)); refine kP_ (cs := #[.bool false, .string (⟨#[]⟩ : ByteArray), .string (⟨#[]⟩ : ByteArray)]) ?_ 0 _ rfl; (with_reducible repeat (first | refine kN_ ?_ _ | refine kD_ ?_ | refine kA_ ?_ _)); exact BK344.out) Tryd.underlying26 rfl (by kernel_rfl)) rfl ?_
     exact ⟨rE_, xB3_ HB GE342 GE343 GE344⟩
    ·replace c50 := Bool.eq_false_iff.mpr c50
     subst c50
     have H1 : ((natural_Subtract.f kj2 x6_2 x5_2).bind fun bt362 => ((rational_reduced.f kj2 a1_0 bt362.1 x7_2).bind fun bt364 => (some (bt364.1, bt364.2.1, bt364.2.2)))) = some (r1, r2, r3) := by rw [if_neg (show ¬ (false = true) by decide)] at H; exact H
     clear H
     have H := H1
     clear H1
     replace H := Option.bind_eq_some_iff.mp H
     obtain ⟨⟨t362, t363⟩, A610, H⟩ := H
     (try dsimp only at H)
     have A61 := A0_.mk A610
     clear A610
     replace H := Option.bind_eq_some_iff.mp H
     obtain ⟨⟨t364, t365, t366⟩, A620, H⟩ := H
     (try dsimp only at H)
     have A62 := A0_.mk A620
     clear A620
     simp only [Option.some.injEq, Prod.mk.injEq] at H
     obtain ⟨rfl, rfl, rfl⟩ := H
     have hnb63 := NB342_343.out
     have hnc63 := NB343_342.out
     have hnb64 := NB342_344.out
     have hnc64 := NB344_342.out
     have hcz65_0 : wc.cell? ⟨gb342, 0, none⟩ = some (.bool a0_0) := (kc_ BK342.out 0).trans rfl
     have hcz65_1 : wc.cell? ⟨gb342, 1, none⟩ = some (.string a0_1) := (kc_ BK342.out 1).trans rfl
     have hcz65_2 : wc.cell? ⟨gb342, 2, none⟩ = some (.string a0_2) := (kc_ BK342.out 2).trans rfl
     have hfz65_0 := kF_ BK342.out 0
     have hfz65_1 := kF_ BK342.out 1
     have hfz65_2 := kF_ BK342.out 2
     have hnb66 := NB343_344.out
     have hnc66 := NB344_343.out
     have hcz67_0 : wc.cell? ⟨gb343, 0, none⟩ = some (.bool a1_0) := (kc_ BK343.out 0).trans rfl
     have hcz67_1 : wc.cell? ⟨gb343, 1, none⟩ = some (.string a1_1) := (kc_ BK343.out 1).trans rfl
     have hcz67_2 : wc.cell? ⟨gb343, 2, none⟩ = some (.string a1_2) := (kc_ BK343.out 2).trans rfl
     have hfz67_0 := kF_ BK343.out 0
     have hfz67_1 := kF_ BK343.out 1
     have hfz67_2 := kF_ BK343.out 2
     go_wp2_with (first | ((with_reducible refine gC_ (f := 67) rfl ?_); refine goesL_ (some 51) rfl rfl Tryd.func67 (by kernel_rfl) rfl #[.string x5_2, .string x6_2] rfl mp_ ?_; (with_reducible refine (natural_Subtract.calls kj2 x5_2 x6_2 t357 false _ A49.out).mono ?_); rintro e w68 ⟨rfl, hb⟩; refine ⟨_, rfl, ?_⟩; have n0_ := A0_.mk (kB_ (g := gb342) (o := .cells #[.bool a0_0, .string a0_1, .string a0_2] 26 (0, 0)) (xK_ BK342.out) hb); have n1_ := A0_.mk (kB_ (g := gb343) (o := .cells #[.bool a1_0, .string a1_1, .string a1_2] 26 (0, 0)) (xK_ BK343.out) hb); have n2_ := A0_.mk (kB_ (g := gb344) (o := .cells #[.bool false, .string (⟨#[]⟩ : ByteArray), .string (⟨#[]⟩ : ByteArray)] 26 (0, 0)) (xK_ BK344.out) hb); have n3_ := A0_.mk (bT_ (xB3_ HB GE342 GE343 GE344) hb); clear BK342 BK343 BK344 HB; have BK342 := n0_; have BK343 := n1_; have BK344 := n2_; have HB := n3_; clear n0_ n1_ n2_ n3_; (try clear hb); (try clear hb2); (try clear hk); (try clear hi)) | ((with_reducible refine gC_ (f := 67) rfl ?_); refine goesL_ (some 63) rfl rfl Tryd.func67 (by kernel_rfl) rfl #[.string x6_2, .string x5_2] rfl mp_ ?_; (with_reducible refine (natural_Subtract.calls kj2 x6_2 x5_2 t362 t363 _ A61.out).mono ?_); rintro e w69 ⟨rfl, hb⟩; refine ⟨_, rfl, ?_⟩; have n0_ := A0_.mk (kB_ (g := gb342) (o := .cells #[.bool a0_0, .string a0_1, .string a0_2] 26 (0, 0)) (xK_ BK342.out) hb); have n1_ := A0_.mk (kB_ (g := gb343) (o := .cells #[.bool a1_0, .string a1_1, .string a1_2] 26 (0, 0)) (xK_ BK343.out) hb); have n2_ := A0_.mk (kB_ (g := gb344) (o := .cells #[.bool false, .string (⟨#[]⟩ : ByteArray), .string (⟨#[]⟩ : ByteArray)] 26 (0, 0)) (xK_ BK344.out) hb); have n3_ := A0_.mk (bT_ (xB3_ HB GE342 GE343 GE344) hb); clear BK342 BK343 BK344 HB; have BK342 := n0_; have BK343 := n1_; have BK344 := n2_; have HB := n3_; clear n0_ n1_ n2_ n3_; (try clear hb); (try clear hb2); (try clear hk); (try clear hi); have hcz70_0 : w69.cell? ⟨gb343, 0, none⟩ = some (.bool a1_0) := (kc_ BK343.out 0).trans rfl; have hcz70_1 : w69.cell? ⟨gb343, 1, none⟩ = some (.string a1_1) := (kc_ BK343.out 1).trans rfl; have hcz70_2 : w69.cell? ⟨gb343, 2, none⟩ = some (.string a1_2) := (kc_ BK343.out 2).trans rfl; have hfz70_0 := kF_ BK343.out 0; have hfz70_1 := kF_ BK343.out 1; have hfz70_2 := kF_ BK343.out 2) | ((with_reducible refine gC_ (f := 52) rfl ?_); refine goesL_ (some 70) rfl rfl Tryd.func52 (by kernel_rfl) rfl #[.bool a1_0, .string t362, .string x7_2] rfl mp_ ?_; (with_reducible refine (rational_reduced.calls kj2 a1_0 t362 x7_2 t364 t365 t366 _ A62.out).mono ?_); rintro e w71 ⟨rfl, hb⟩; refine ⟨_, rfl, ?_⟩; have n0_ := A0_.mk (kB_ (g := gb342) (o := .cells #[.bool a0_0, .string a0_1, .string a0_2] 26 (0, 0)) (xK_ BK342.out) hb); have n1_ := A0_.mk (kB_ (g := gb343) (o := .cells #[.bool a1_0, .string a1_1, .string a1_2] 26 (0, 0)) (xK_ BK343.out) hb); have n2_ := A0_.mk (kB_ (g := gb344) (o := .cells #[.bool false, .string (⟨#[]⟩ : ByteArray), .string (⟨#[]⟩ : ByteArray)] 26 (0, 0)) (xK_ BK344.out) hb); have n3_ := A0_.mk (bT_ (xB3_ HB GE342 GE343 GE344) hb); clear BK342 BK343 BK344 HB; have BK342 := n0_; have BK343 := n1_; have BK344 := n2_; have HB := n3_; clear n0_ n1_ n2_ n3_; (try clear hb); (try clear hb2); (try clear hk); (try clear hi); have hcz72_0 : w71.cell? ⟨gb344, 0, none⟩ = some (.bool false) := (kc_ BK344.out 0).trans rfl; have hcz72_1 : w71.cell? ⟨gb344, 1, none⟩ = some (.string (⟨#[]⟩ : ByteArray)) := (kc_ BK344.out 1).trans rfl; have hcz72_2 : w71.cell? ⟨gb344, 2, none⟩ = some (.string (⟨#[]⟩ : ByteArray)) := (kc_ BK344.out 2).trans rfl; have hfz72_0 := kF_ BK344.out 0; have hfz72_1 := kF_ BK344.out 1; have hfz72_2 := kF_ BK344.out 2))
     refine bodyPost_ret (results_cell_row rfl _ _ gb344 26 #[.bool t364, .string t365, .string t366] (0, 0) _ rfl (by (with_reducible repeat (first | refine kN_ ?_ _ | refine kD_ ?_ | refine kA_ ?_ _)); refine kP_ (cs := #[.bool t364, .string t365, .string (⟨#[]⟩ : ByteArray)]) ?_ 2 _ rfl; (with_reducible repeat (first | refine kN_ ?_ _ | refine kD_ ?_ | refine kA_ ?_ _)); refine kP_ (cs := #[.bool t364, .string (⟨#[]⟩ : ByteArray), .string (⟨#[]⟩ : ByteArray)]) ?_ 1 _ rfl; (with_reducible repeat (first | refine kN_ ?_ _ | refine kD_ ?_ | refine kA_ ?_ _)); refine kP_ (cs := #[.bool false, .string (⟨#[]⟩ : ByteArray), .string (⟨#[]⟩ : ByteArray)]) ?_ 0 _ rfl; (with_reducible repeat (first | refine kN_ ?_ _ | refine kD_ ?_ | refine kA_ ?_ _)); exact BK344.out) Tryd.underlying26 rfl (by kernel_rfl)) rfl ?_
     exact ⟨rE_, xB3_ HB GE342 GE343 GE344⟩
def rational_Add.f (k : Nat) (a0_0 : Bool) (a0_1 : ByteArray) (a0_2 : ByteArray) (a1_0 : Bool) (a1_1 : ByteArray) (a1_2 : ByteArray) : Option (Bool × ByteArray × ByteArray) := (rational_clean.f k a0_0 a0_1 a0_2).bind fun bt370 => ((rational_clean.f k a1_0 a1_1 a1_2).bind fun bt373 => ((rational_add.f k bt370.1 bt370.2.1 bt370.2.2 bt373.1 bt373.2.1 bt373.2.2).bind fun bt376 => (some (bt376.1, bt376.2.1, bt376.2.2))))
theorem rational_Add.mono : ∀ a0 a1 a2 a3 a4 a5 k, LeO (rational_Add.f k a0 a1 a2 a3 a4 a5) (rational_Add.f (k + 1) a0 a1 a2 a3 a4 a5) := by
 intro a0 a1 a2 a3 a4 a5 k
 unfold rational_Add.f
 repeat' first
   | (with_reducible exact rational_add.mono _ _ _ _ _ _ _)
   | (with_reducible exact rational_clean.mono _ _ _ _)
   | (with_reducible exact LeO.refl _)
   | (with_reducible exact LeO.none _)
   | (with_reducible refine LeO.ite ?_ ?_)
   | (with_reducible refine LeO.bind ?_ (fun _ => ?_))
set_option maxHeartbeats 8000000 in
set_option maxRecDepth 100000 in
theorem rational_Add.calls (k : Nat) (a0_0 : Bool) (a0_1 : ByteArray) (a0_2 : ByteArray) (a1_0 : Bool) (a1_1 : ByteArray) (a1_2 : ByteArray) (r1 : Bool) (r2 : ByteArray) (r3 : ByteArray) (w : World) (h : rational_Add.f k a0_0 a0_1 a0_2 a1_0 a1_1 a1_2 = some (r1, r2, r3)) :
  Calls Tryd.prog 24 #[.agg #[.bool a0_0, .string a0_1, .string a0_2], .agg #[.bool a1_0, .string a1_1, .string a1_2]] w fun e w' => e = .returned (.agg #[.bool r1, .string r2, .string r3]) ∧ Below w.heap.size w w' := by
 have hu26 := Tryd.underlying26
 have HB := A0_.mk (Below.refl w.heap.size w)
 have H := h
 unfold rational_Add.f at H
 clear h
 replace H := Option.bind_eq_some_iff.mp H
 obtain ⟨⟨t370, t371, t372⟩, A30, H⟩ := H
 (try dsimp only at H)
 have A3 := A0_.mk A30
 clear A30
 replace H := Option.bind_eq_some_iff.mp H
 obtain ⟨⟨t373, t374, t375⟩, A40, H⟩ := H
 (try dsimp only at H)
 have A4 := A0_.mk A40
 clear A40
 replace H := Option.bind_eq_some_iff.mp H
 obtain ⟨⟨t376, t377, t378⟩, A50, H⟩ := H
 (try dsimp only at H)
 have A5 := A0_.mk A50
 clear A50
 simp only [Option.some.injEq, Prod.mk.injEq] at H
 obtain ⟨rfl, rfl, rfl⟩ := H
 go_enter Tryd.func24, Tryd.ntmps24
 try go_wp2_with (first | ((with_reducible refine gD_ (N := 2) rfl ?_); refine bE_ ?hg (N := 2) ?hd (cs := #[.bool a0_0, .string a0_1, .string a0_2]) (t := 26) ?hr ?_; (case hd => rfl); (case hg => rfl); (case hr => first | (go_simp; done) | (go_simp; rfl)); intro gb367 hg w6 hbox hb; have n0_ := A0_.mk (bT_ (xB_ HB) hb); have n1_ := A0_.mk (hbox); have n2_ := A0_.mk ((by rw [hg]; exact (bZ_ (xB_ HB)) : w.heap.size ≤ gb367)); have n3_ := A0_.mk ((by rw [hg]; exact (bZ_ (xB_ HB)) : w.heap.size ≤ gb367)); clear HB; have HB := n0_; have BK367 := n1_; have GW367 := n2_; have GE367 := n3_; clear n0_ n1_ n2_ n3_; clear hb hbox hg) | ((with_reducible refine gD_ (N := 3) rfl ?_); refine bE_ ?hg (N := 3) ?hd (cs := #[.bool a1_0, .string a1_1, .string a1_2]) (t := 26) ?hr ?_; (case hd => rfl); (case hg => rfl); (case hr => first | (go_simp; done) | (go_simp; rfl)); intro gb368 hg w7 hbox hb; have n0_ := A0_.mk (kB_ (g := gb367) (o := .cells #[.bool a0_0, .string a0_1, .string a0_2] 26 (0, 0)) (xK_ BK367.out) hb); have n1_ := A0_.mk (bT_ (xB1_ HB GE367) hb); have n2_ := A0_.mk (hbox); have n3_ := A0_.mk ((by rw [hg]; exact (bZ_ (xB1_ HB GE367)) : w.heap.size ≤ gb368)); have n4_ := A0_.mk ((by rw [hg]; exact (bZ_ (xB1_ HB GE367)) : w.heap.size ≤ gb368)); have n5_ := A0_.mk ((by rw [hg]; exact Nat.ne_of_lt (blk_lt (g := gb367) (o := .cells #[.bool a0_0, .string a0_1, .string a0_2] 26 (0, 0)) (xK_ BK367.out)) : gb367 ≠ gb368)); have n6_ := A0_.mk ((by rw [hg]; exact Nat.ne_of_gt (blk_lt (g := gb367) (o := .cells #[.bool a0_0, .string a0_1, .string a0_2] 26 (0, 0)) (xK_ BK367.out)) : gb368 ≠ gb367)); clear BK367 HB; have BK367 := n0_; have HB := n1_; have BK368 := n2_; have GW368 := n3_; have GE368 := n4_; have NB367_368 := n5_; have NB368_367 := n6_; clear n0_ n1_ n2_ n3_ n4_ n5_ n6_; clear hb hbox hg) | ((with_reducible refine gD_ (N := 4) rfl ?_); refine bE_ ?hg (N := 4) ?hd (cs := #[.bool false, .string (⟨#[]⟩ : ByteArray), .string (⟨#[]⟩ : ByteArray)]) (t := 26) ?hr ?_; (case hd => rfl); (case hg => rfl); (case hr => first | (go_simp; done) | (go_simp; rfl)); intro gb369 hg w8 hbox hb; have n0_ := A0_.mk (kB_ (g := gb367) (o := .cells #[.bool a0_0, .string a0_1, .string a0_2] 26 (0, 0)) (xK_ BK367.out) hb); have n1_ := A0_.mk (kB_ (g := gb368) (o := .cells #[.bool a1_0, .string a1_1, .string a1_2] 26 (0, 0)) (xK_ BK368.out) hb); have n2_ := A0_.mk (bT_ (xB2_ HB GE367 GE368) hb); have n3_ := A0_.mk (hbox); have n4_ := A0_.mk ((by rw [hg]; exact (bZ_ (xB2_ HB GE367 GE368)) : w.heap.size ≤ gb369)); have n5_ := A0_.mk ((by rw [hg]; exact (bZ_ (xB2_ HB GE367 GE368)) : w.heap.size ≤ gb369)); have n6_ := A0_.mk ((by rw [hg]; exact Nat.ne_of_lt (blk_lt (g := gb367) (o := .cells #[.bool a0_0, .string a0_1, .string a0_2] 26 (0, 0)) (xK_ BK367.out)) : gb367 ≠ gb369)); have n7_ := A0_.mk ((by rw [hg]; exact Nat.ne_of_gt (blk_lt (g := gb367) (o := .cells #[.bool a0_0, .string a0_1, .string a0_2] 26 (0, 0)) (xK_ BK367.out)) : gb369 ≠ gb367)); have n8_ := A0_.mk ((by rw [hg]; exact Nat.ne_of_lt (blk_lt (g := gb368) (o := .cells #[.bool a1_0, .string a1_1, .string a1_2] 26 (0, 0)) (xK_ BK368.out)) : gb368 ≠ gb369)); have n9_ := A0_.mk ((by rw [hg]; exact Nat.ne_of_gt (blk_lt (g := gb368) (o := .cells #[.bool a1_0, .string a1_1, .string a1_2] 26 (0, 0)) (xK_ BK368.out)) : gb369 ≠ gb368)); clear BK367 BK368 HB; have BK367 := n0_; have BK368 := n1_; have HB := n2_; have BK369 := n3_; have GW369 := n4_; have GE369 := n5_; have NB367_369 := n6_; have NB369_367 := n7_; have NB368_369 := n8_; have NB369_368 := n9_; clear n0_ n1_ n2_ n3_ n4_ n5_ n6_ n7_ n8_ n9_; clear hb hbox hg))
 have n0_ := A0_.mk (kD_ BK367.out)
 have n1_ := A0_.mk (kD_ BK368.out)
 have n2_ := A0_.mk (kD_ BK369.out)
 have n3_ := A0_.mk (b1_ HB.out)
 clear BK367
 clear BK368
 clear BK369
 clear HB
 have BK367 := n0_
 have BK368 := n1_
 have BK369 := n2_
 have HB := n3_
 clear n0_ n1_ n2_ n3_
 refine start_ (n := 6) (S := fun w' => w'.cell? ⟨gb367, 0, none⟩ = some (.bool a0_0) ∧ w'.cell? ⟨gb367, 1, none⟩ = some (.string a0_1) ∧ w'.cell? ⟨gb367, 2, none⟩ = some (.string a0_2) ∧ w'.cell? ⟨gb368, 0, none⟩ = some (.bool a1_0) ∧ w'.cell? ⟨gb368, 1, none⟩ = some (.string a1_1) ∧ w'.cell? ⟨gb368, 2, none⟩ = some (.string a1_2)) (ds := []) #[false, false, false, false, false, false] (by kernel_rfl) rfl rfl ⟨(kc_ BK367.out 0).trans rfl, (kc_ BK367.out 1).trans rfl, (kc_ BK367.out 2).trans rfl, (kc_ BK368.out 0).trans rfl, (kc_ BK368.out 1).trans rfl, (kc_ BK368.out 2).trans rfl⟩ (fun hHeld => ?_)
 generalize w8.drew = w9 at BK367 BK368 BK369 HB hHeld ⊢
 refine take_ (i := 0) (N := some 5) (v := ?_) (a' := ?_) #[true, false, false, false, false, false] rfl rfl (by kernel_rfl) (fun _ _ _ h => h) (Or.inl ⟨by rfl, ?_⟩) hHeld ?_ ?_
 rotate_left
 ·rintro w' ⟨s0, s1, s2, s3, s4, s5⟩
  go_simp
  with_reducible rfl
 rotate_left
 ·simp only [Act.put, s1_, s2_, s3_, i64_w, i32_w]
  rfl
 refine take_ (i := 2) (N := some 7) (v := ?_) (a' := ?_) #[true, false, true, false, false, false] rfl rfl (by kernel_rfl) (fun _ _ _ h => h) (Or.inl ⟨by rfl, ?_⟩) hHeld ?_ ?_
 rotate_left
 ·rintro w' ⟨s0, s1, s2, s3, s4, s5⟩
  go_simp
  with_reducible rfl
 rotate_left
 ·simp only [Act.put, s1_, s2_, s3_, i64_w, i32_w]
  rfl
 refine one_ (i := 1) (N := some 6) #[true, true, true, false, false, false] rfl rfl (by kernel_rfl) (by decide) (fun K hK => ?_)
 refine goes_ Tryd.func43 (by kernel_rfl) rfl #[.agg #[.bool a0_0, .string a0_1, .string a0_2]] (by rfl) rfl rfl mp_ ?_
 with_reducible refine (rational_clean.calls k a0_0 a0_1 a0_2 t370 t371 t372 _ A3.out).mono ?_
 rintro e w10 ⟨rfl, hb⟩
 refine ⟨_, rfl, ?_⟩
 have n0_ := A0_.mk (kB_ (g := gb367) (o := .cells #[.bool a0_0, .string a0_1, .string a0_2] 26 (0, 0)) (xK_ BK367.out) hb)
 have n1_ := A0_.mk (kB_ (g := gb368) (o := .cells #[.bool a1_0, .string a1_1, .string a1_2] 26 (0, 0)) (xK_ BK368.out) hb)
 have n2_ := A0_.mk (kB_ (g := gb369) (o := .cells #[.bool false, .string (⟨#[]⟩ : ByteArray), .string (⟨#[]⟩ : ByteArray)] 26 (0, 0)) (xK_ BK369.out) hb)
 have n3_ := A0_.mk (bT_ (xB3_ HB GE367 GE368 GE369) hb)
 clear BK367
 clear BK368
 clear BK369
 clear HB
 have BK367 := n0_
 have BK368 := n1_
 have BK369 := n2_
 have HB := n3_
 clear n0_ n1_ n2_ n3_
 (try clear hb)
 (try clear hb2)
 (try clear hk)
 (try clear hi)
 refine hK.out _ _ ⟨(kc_ BK367.out 0).trans rfl, (kc_ BK367.out 1).trans rfl, (kc_ BK367.out 2).trans rfl, (kc_ BK368.out 0).trans rfl, (kc_ BK368.out 1).trans rfl, (kc_ BK368.out 2).trans rfl⟩ (fun hHeld => ?_)
 clear hK K
 refine norm_ (a' := ?_) ?_ ?_
 rotate_left
 ·show Act.put _ (some 6) _ = _
  simp only [Act.put, s1_, s2_, s3_, i64_w, i32_w]
  rfl
 refine one_ (i := 3) (N := some 8) #[true, true, true, true, false, false] rfl rfl (by kernel_rfl) (by decide) (fun K hK => ?_)
 refine goes_ Tryd.func43 (by kernel_rfl) rfl #[.agg #[.bool a1_0, .string a1_1, .string a1_2]] (by rfl) rfl rfl mp_ ?_
 with_reducible refine (rational_clean.calls k a1_0 a1_1 a1_2 t373 t374 t375 _ A4.out).mono ?_
 rintro e w11 ⟨rfl, hb⟩
 refine ⟨_, rfl, ?_⟩
 have n0_ := A0_.mk (kB_ (g := gb367) (o := .cells #[.bool a0_0, .string a0_1, .string a0_2] 26 (0, 0)) (xK_ BK367.out) hb)
 have n1_ := A0_.mk (kB_ (g := gb368) (o := .cells #[.bool a1_0, .string a1_1, .string a1_2] 26 (0, 0)) (xK_ BK368.out) hb)
 have n2_ := A0_.mk (kB_ (g := gb369) (o := .cells #[.bool false, .string (⟨#[]⟩ : ByteArray), .string (⟨#[]⟩ : ByteArray)] 26 (0, 0)) (xK_ BK369.out) hb)
 have n3_ := A0_.mk (bT_ (xB3_ HB GE367 GE368 GE369) hb)
 clear BK367
 clear BK368
 clear BK369
 clear HB
 have BK367 := n0_
 have BK368 := n1_
 have BK369 := n2_
 have HB := n3_
 clear n0_ n1_ n2_ n3_
 (try clear hb)
 (try clear hb2)
 (try clear hk)
 (try clear hi)
 refine hK.out _ _ ⟨(kc_ BK367.out 0).trans rfl, (kc_ BK367.out 1).trans rfl, (kc_ BK367.out 2).trans rfl, (kc_ BK368.out 0).trans rfl, (kc_ BK368.out 1).trans rfl, (kc_ BK368.out 2).trans rfl⟩ (fun hHeld => ?_)
 clear hK K
 refine norm_ (a' := ?_) ?_ ?_
 rotate_left
 ·show Act.put _ (some 8) _ = _
  simp only [Act.put, s1_, s2_, s3_, i64_w, i32_w]
  rfl
 refine one_ (i := 4) (N := some 9) #[true, true, true, true, true, false] rfl rfl (by kernel_rfl) (by decide) (fun K hK => ?_)
 refine goes_ Tryd.func47 (by kernel_rfl) rfl #[.agg #[.bool t370, .string t371, .string t372], .agg #[.bool t373, .string t374, .string t375]] (by rfl) rfl rfl mp_ ?_
 with_reducible refine (rational_add.calls k t370 t371 t372 t373 t374 t375 t376 t377 t378 _ A5.out).mono ?_
 rintro e w12 ⟨rfl, hb⟩
 refine ⟨_, rfl, ?_⟩
 have n0_ := A0_.mk (kB_ (g := gb367) (o := .cells #[.bool a0_0, .string a0_1, .string a0_2] 26 (0, 0)) (xK_ BK367.out) hb)
 have n1_ := A0_.mk (kB_ (g := gb368) (o := .cells #[.bool a1_0, .string a1_1, .string a1_2] 26 (0, 0)) (xK_ BK368.out) hb)
 have n2_ := A0_.mk (kB_ (g := gb369) (o := .cells #[.bool false, .string (⟨#[]⟩ : ByteArray), .string (⟨#[]⟩ : ByteArray)] 26 (0, 0)) (xK_ BK369.out) hb)
 have n3_ := A0_.mk (bT_ (xB3_ HB GE367 GE368 GE369) hb)
 clear BK367
 clear BK368
 clear BK369
 clear HB
 have BK367 := n0_
 have BK368 := n1_
 have BK369 := n2_
 have HB := n3_
 clear n0_ n1_ n2_ n3_
 (try clear hb)
 (try clear hb2)
 (try clear hk)
 (try clear hi)
 refine hK.out _ _ ⟨(kc_ BK367.out 0).trans rfl, (kc_ BK367.out 1).trans rfl, (kc_ BK367.out 2).trans rfl, (kc_ BK368.out 0).trans rfl, (kc_ BK368.out 1).trans rfl, (kc_ BK368.out 2).trans rfl⟩ (fun hHeld => ?_)
 clear hK K
 refine norm_ (a' := ?_) ?_ ?_
 rotate_left
 ·show Act.put _ (some 9) _ = _
  simp only [Act.put, s1_, s2_, s3_, i64_w, i32_w]
  rfl
 refine one_ (i := 5) (N := none) #[true, true, true, true, true, true] rfl rfl (by kernel_rfl) (by decide) (fun K hK => ?_)
 have hs13 : w12.cell? ⟨gb369, 0, none⟩ = some (.bool false) := (kc_ BK369.out 0).trans rfl
 have hfs13 := kF_ BK369.out 0
 have hns13_0 := NB367_369.out
 have hns13_1 := NB368_369.out
 have hms13_0 := NB369_367.out
 have hms13_1 := NB369_368.out
 have hs14 : w12.cell? ⟨gb369, 1, none⟩ = some (.string (⟨#[]⟩ : ByteArray)) := (kc_ BK369.out 1).trans rfl
 have hfs14 := kF_ BK369.out 1
 have hns14_0 := NB367_369.out
 have hns14_1 := NB368_369.out
 have hms14_0 := NB369_367.out
 have hms14_1 := NB369_368.out
 have hs15 : w12.cell? ⟨gb369, 2, none⟩ = some (.string (⟨#[]⟩ : ByteArray)) := (kc_ BK369.out 2).trans rfl
 have hfs15 := kF_ BK369.out 2
 have hns15_0 := NB367_369.out
 have hns15_1 := NB368_369.out
 have hms15_0 := NB369_367.out
 have hms15_1 := NB369_368.out
 refine skip_ (w1 := ?_) (by rfl) rfl ?_ ?_
 rotate_left
 ·go_simp
  rfl
 refine hK.out _ _ ⟨((cell_far (p := ⟨gb369, _, none⟩) NB367_369.out _).trans (((cell_far (p := ⟨gb369, _, none⟩) NB367_369.out _).trans (((cell_far (p := ⟨gb369, _, none⟩) NB367_369.out _).trans (hHeld.1)))))), ((cell_far (p := ⟨gb369, _, none⟩) NB367_369.out _).trans (((cell_far (p := ⟨gb369, _, none⟩) NB367_369.out _).trans (((cell_far (p := ⟨gb369, _, none⟩) NB367_369.out _).trans (hHeld.2.1)))))), ((cell_far (p := ⟨gb369, _, none⟩) NB367_369.out _).trans (((cell_far (p := ⟨gb369, _, none⟩) NB367_369.out _).trans (((cell_far (p := ⟨gb369, _, none⟩) NB367_369.out _).trans (hHeld.2.2.1)))))), ((cell_far (p := ⟨gb369, _, none⟩) NB368_369.out _).trans (((cell_far (p := ⟨gb369, _, none⟩) NB368_369.out _).trans (((cell_far (p := ⟨gb369, _, none⟩) NB368_369.out _).trans (hHeld.2.2.2.1)))))), ((cell_far (p := ⟨gb369, _, none⟩) NB368_369.out _).trans (((cell_far (p := ⟨gb369, _, none⟩) NB368_369.out _).trans (((cell_far (p := ⟨gb369, _, none⟩) NB368_369.out _).trans (hHeld.2.2.2.2.1)))))), ((cell_far (p := ⟨gb369, _, none⟩) NB368_369.out _).trans (((cell_far (p := ⟨gb369, _, none⟩) NB368_369.out _).trans (((cell_far (p := ⟨gb369, _, none⟩) NB368_369.out _).trans (hHeld.2.2.2.2.2))))))⟩ (fun hHeld => ?_)
 clear hK K
 refine done_ (by kernel_rfl) ?_
 try go_wp2
 refine bodyPost_ret (results_cell_row rfl _ _ gb369 26 #[.bool t376, .string t377, .string t378] (0, 0) _ rfl (by (with_reducible repeat (first | refine kN_ ?_ _ | refine kD_ ?_ | refine kA_ ?_ _)); refine kP_ (cs := #[.bool t376, .string t377, .string (⟨#[]⟩ : ByteArray)]) ?_ 2 _ rfl; (with_reducible repeat (first | refine kN_ ?_ _ | refine kD_ ?_ | refine kA_ ?_ _)); refine kP_ (cs := #[.bool t376, .string (⟨#[]⟩ : ByteArray), .string (⟨#[]⟩ : ByteArray)]) ?_ 1 _ rfl; (with_reducible repeat (first | refine kN_ ?_ _ | refine kD_ ?_ | refine kA_ ?_ _)); refine kP_ (cs := #[.bool false, .string (⟨#[]⟩ : ByteArray), .string (⟨#[]⟩ : ByteArray)]) ?_ 0 _ rfl; (with_reducible repeat (first | refine kN_ ?_ _ | refine kD_ ?_ | refine kA_ ?_ _)); exact BK369.out) Tryd.underlying26 rfl (by kernel_rfl)) rfl ?_
 exact ⟨rE_, xB3_ HB GE367 GE368 GE369⟩
def setoff_amounts.l0 : Nat → List (S26) → List (S28) → Int → Int → Option ((List (S26)))
 | 0, _, _, _, _ => none
 | k + 1, x3, x9, x10, x11 => if x11 < x10 then (if 0 ≤ x11 then (if x11 < (x9.length : Int) then ((rational_Add.f k ((rd_T28 x9 x11).f2.f0) ((rd_T28 x9 x11).f2.f1) ((rd_T28 x9 x11).f2.f2) false (⟨#[]⟩ : ByteArray) (⟨#[]⟩ : ByteArray)).bind fun bt384 => (if x11 < (x3.length : Int) then (setoff_amounts.l0 k (x3.set (x11 : Int).toNat (⟨bt384.1, bt384.2.1, bt384.2.2⟩ : S26)) x9 x10 (wrap64 (x11 + 1))) else (none))) else (none)) else (none)) else (some x3)
def setoff_amounts.f (k : Nat) (l0 : List (S28)) : Option ((List (S26))) := if 0 ≤ (l0.length : Int) then (if ((l0.length : Int) : Int).toNat ≤ 7036874417766 then (setoff_amounts.l0 k (List.replicate ((l0.length : Int) : Int).toNat z26) l0 (l0.length : Int) 0) else (none)) else (none)
theorem setoff_amounts.mono_l : ∀ k, (∀ y0 y1 y2 y3, LeO (setoff_amounts.l0 k y0 y1 y2 y3) (setoff_amounts.l0 (k + 1) y0 y1 y2 y3))
 | 0 => fun _ _ _ _ r h => by simp [setoff_amounts.l0] at h
 | k + 1 => by
  have ih0 := setoff_amounts.mono_l k
  ·intro y0 y1 y2 y3
   unfold setoff_amounts.l0
   repeat' first
   | (with_reducible exact ih0 _ _ _ _)
   | (with_reducible exact rational_Add.mono _ _ _ _ _ _ _)
   | (with_reducible exact LeO.refl _)
   | (with_reducible exact LeO.none _)
   | (with_reducible refine LeO.ite ?_ ?_)
   | (with_reducible refine LeO.bind ?_ (fun _ => ?_))
theorem setoff_amounts.mono : ∀ a0 k, LeO (setoff_amounts.f k a0) (setoff_amounts.f (k + 1) a0) := by
 intro a0 k
 have ih0 := setoff_amounts.mono_l k
 unfold setoff_amounts.f
 repeat' first
   | (with_reducible exact ih0 _ _ _ _)
   | (with_reducible exact rational_Add.mono _ _ _ _ _ _ _)
   | (with_reducible exact LeO.refl _)
   | (with_reducible exact LeO.none _)
   | (with_reducible refine LeO.ite ?_ ?_)
   | (with_reducible refine LeO.bind ?_ (fun _ => ?_))
set_option maxHeartbeats 8000000 in
set_option maxRecDepth 100000 in
theorem setoff_amounts.calls (k : Nat) (A0 : Option Addr) (c0 : Nat) (l0 : List (S28)) (r : List (S26)) (w : World) (hr0 : Kd.C k28 w A0 l0.length l0) (hc0 : l0.length ≤ c0) (h : setoff_amounts.f k l0 = some r) :
  Calls Tryd.prog 37 #[.slice A0 l0.length c0] w fun e w' => ∃ v0_ : Value, e = .returned (v0_) ∧ Kd.R k26 26 w' w.heap.size (fun _ => True) v0_ r ∧ Below w.heap.size w w' := by
 have hu28 := Tryd.underlying28
 have hu26 := Tryd.underlying26
 have HR0 := A0_.mk hr0
 have HC0 := A0_.mk hc0
 clear hr0 hc0
 have HB := A0_.mk (Below.refl w.heap.size w)
 have H := h
 unfold setoff_amounts.f at H
 clear h
 by_cases c2 : 0 ≤ (l0.length : Int)
 ·rw [if_pos c2] at H
  have c2b0 := eq_true c2
  have c2b1 : decide (0 ≤ (l0.length : Int)) = true := decide_eq_true c2
  clear c2
  by_cases c3 : ((l0.length : Int) : Int).toNat ≤ 7036874417766
  ·rw [if_pos c3] at H
   have c3b0 := eq_true c3
   have c3b1 : decide (((l0.length : Int) : Int).toNat ≤ 7036874417766) = true := decide_eq_true c3
   clear c3
   obtain ⟨y379, hy379⟩ : ∃ y_ : List (S26), y_ = (List.replicate ((l0.length : Int) : Int).toNat z26) := ⟨_, rfl⟩
   replace H : (setoff_amounts.l0 k y379 l0 (l0.length : Int) 0) = some r := by first | (rw [hy379]; with_reducible exact H) | (have H2_ := (Option.bind_some _ _).symm.trans H; rw [hy379]; with_reducible exact H2_) | (have H2_ := (Option.bind_some _ _).symm.trans H; with_reducible exact H2_) | with_reducible exact H | (rw [hy379]; exact H) | exact H
   have Ny379 := A0_.mk hy379
   clear hy379
   have H' := A0_.mk H
   clear H
   go_enter Tryd.func37, Tryd.ntmps37
   go_wp2_with (first | ((with_reducible refine gD_ (N := 8) rfl ?_); refine Kd.R_make k26 _ 26 rfl (N := 8) rfl 37 _ _ rfl (l0.length : Int) rfl rfl Tryd.underlying37 (.agg #[(.bool false), (.string ⟨#[]⟩), (.string ⟨#[]⟩)]) 40 info26 rfl (by decide) (by omega) z26 (ok := fun _ => True) (okp := fun _ => True) (k26_mkM _ _ _ z26 ) (fun _ hk => hk) trivial (of_decide_eq_true aS_) (Nat.le_trans (Nat.mul_le_mul_right _ (of_decide_eq_true aS_ : (l0.length : Int).toNat ≤ 7036874417766)) (by omega)) (Below.refl _ _) (Nat.le_refl _) ?_; intro v380 w4 ho5 hb hg_ hnew_; clear hg_ hnew_; (first | rw [← Ny379.out] at ho5 | (simp only [Int.reduceToNat] at ho5; rw [← Ny379.out] at ho5)); have n0_ := A0_.mk (Kd.R_lower ho5 (bZ_ (xB_ HB))); have n1_ := A0_.mk (bT_ (xB_ HB) hb); clear HB; have HO381 := n0_; have HB := n1_; clear n0_ n1_; clear hb ho5))
   go_loopg [11] k (fun kq v11 w' => ∃ (x3_1 : List (S26)) (x11_1 : Int), v11 = .int .i64 x11_1 ∧ A0_ (setoff_amounts.l0 kq x3_1 l0 (l0.length : Int) x11_1 = some r) ∧ A0_ (kq ≤ k) ∧ A0_ (Kd.R k26 26 w' w.heap.size (fun _ => True) v380 x3_1) ∧ A0_ (Below w.heap.size w w'))
   case atStart => exact ⟨(y379), (0), (by first | rfl | (simp; done) | (simp [*]; done)), H', ⟨Nat.le_refl _⟩, ⟨by (with_reducible repeat (first | apply Kd.R_alloc | apply Kd.R_drewN | apply Kd.R_drew)); exact HO381.out⟩, ⟨xB_ HB⟩⟩
   case round =>
    clear H'
    try clear c2
    try clear c2b0
    try clear c2b1
    try clear p2
    try clear c3
    try clear c3b0
    try clear c3b1
    obtain ⟨x3_1, x11_1, rfl, HA, HK1, HO_3, HB⟩ := hrel
    cases gk with
    | zero => exact absurd HA.out (by simp [setoff_amounts.l0])
    | succ k1 =>
     have H := HA.out
     clear HA
     simp only [setoff_amounts.l0] at H
     by_cases c6 : x11_1 < (l0.length : Int)
     ·rw [if_pos c6] at H
      have c6b0 : decide (x11_1 < (l0.length : Int)) = true := decide_eq_true c6
      clear c6
      by_cases c7 : 0 ≤ x11_1
      ·rw [if_pos c7] at H
       have c7b0 : decide (0 ≤ x11_1) = true := decide_eq_true c7
       clear c7
       by_cases c8 : x11_1 < (l0.length : Int)
       ·rw [if_pos c8] at H
        have c8b0 : decide (x11_1 < (l0.length : Int)) = true := decide_eq_true c8
        clear c8
        replace H := Option.bind_eq_some_iff.mp H
        obtain ⟨⟨t384, t385, t386⟩, A90, H⟩ := H
        (try dsimp only at H)
        have A9 := A0_.mk A90
        clear A90
        by_cases c10 : x11_1 < (x3_1.length : Int)
        ·rw [if_pos c10] at H
         have c10b0 : decide (x11_1 < (x3_1.length : Int)) = true := decide_eq_true c10
         clear c10
         obtain ⟨y387, hy387⟩ : ∃ y_ : List (S26), y_ = (x3_1.set (x11_1 : Int).toNat (⟨t384, t385, t386⟩ : S26)) := ⟨_, rfl⟩
         replace H : (setoff_amounts.l0 k1 y387 l0 (l0.length : Int) (wrap64 (x11_1 + 1))) = some r := by first | (rw [hy387]; with_reducible exact H) | (have H2_ := (Option.bind_some _ _).symm.trans H; rw [hy387]; with_reducible exact H2_) | (have H2_ := (Option.bind_some _ _).symm.trans H; with_reducible exact H2_) | with_reducible exact H | (rw [hy387]; exact H) | exact H
         have Ny387 := A0_.mk hy387
         clear hy387
         have H' := A0_.mk H
         clear H
         have p382 : 0 ≤ (x11_1 : Int) := of_decide_eq_true aS_
         have q382 : x11_1 < (l0.length : Int) := of_decide_eq_true aS_
         obtain ⟨ad382, e382, hx382_0, hx382_1, hx382_2, hx382_3, hx382_4, hx382_5, hx382_6, hx382_7⟩ := at_T28 HR0.out x11_1 p382 q382
         cases e382
         (try replace hx382_0 := (HB.out.cell (World.block_lt_of_cell? w _ hx382_0)).trans hx382_0)
         (try replace hx382_1 := (HB.out.cell (World.block_lt_of_cell? w _ hx382_1)).trans hx382_1)
         (try replace hx382_2 := (HB.out.cell (World.block_lt_of_cell? w _ hx382_2)).trans hx382_2)
         (try replace hx382_3 := (HB.out.cell (World.block_lt_of_cell? w _ hx382_3)).trans hx382_3)
         (try replace hx382_4 := (HB.out.cell (World.block_lt_of_cell? w _ hx382_4)).trans hx382_4)
         (try replace hx382_5 := (HB.out.cell (World.block_lt_of_cell? w _ hx382_5)).trans hx382_5)
         (try replace hx382_6 := (HB.out.cell (World.block_lt_of_cell? w _ hx382_6)).trans hx382_6)
         (try replace hx382_7 := (HB.out.cell (World.block_lt_of_cell? w _ hx382_7)).trans hx382_7)
         replace p382 := eq_true p382
         replace q382 := eq_true q382
         go_wp2_with (first | ((with_reducible refine gD_ (N := 5) rfl ?_); refine bE_ ?hg (N := 5) ?hd (cs := #[.int .i64 0, .int .i64 0, .bool false, .string (⟨#[]⟩ : ByteArray), .string (⟨#[]⟩ : ByteArray), .int .i64 0, .int .i64 0, .bool false]) (t := 28) ?hr ?_; (case hd => rfl); (case hg => rfl); (case hr => first | (go_simp; done) | (go_simp; rfl)); intro gb383 hg w12 hbox hb; have n0_ := A0_.mk (Kd.R_below (xR_ HO_3.out) hb); have n1_ := A0_.mk (bT_ (xB_ HB) hb); have n2_ := A0_.mk (hbox); have n3_ := A0_.mk ((by rw [hg]; exact (bZ_ (xB_ HB)) : w.heap.size ≤ gb383)); have n4_ := A0_.mk ((by rw [hg]; exact (bZ_ (xB_ HB)) : w.heap.size ≤ gb383)); clear HO_3 HB; have HO_3 := n0_; have HB := n1_; have BK383 := n2_; have GW383 := n3_; have GE383 := n4_; clear n0_ n1_ n2_ n3_ n4_; clear hb hbox hg; have hcz13_0 : w12.cell? ⟨gb383, 0, none⟩ = some (.int .i64 0) := (kc_ BK383.out 0).trans rfl; have hcz13_1 : w12.cell? ⟨gb383, 1, none⟩ = some (.int .i64 0) := (kc_ BK383.out 1).trans rfl; have hcz13_2 : w12.cell? ⟨gb383, 2, none⟩ = some (.bool false) := (kc_ BK383.out 2).trans rfl; have hcz13_3 : w12.cell? ⟨gb383, 3, none⟩ = some (.string (⟨#[]⟩ : ByteArray)) := (kc_ BK383.out 3).trans rfl; have hcz13_4 : w12.cell? ⟨gb383, 4, none⟩ = some (.string (⟨#[]⟩ : ByteArray)) := (kc_ BK383.out 4).trans rfl; have hcz13_5 : w12.cell? ⟨gb383, 5, none⟩ = some (.int .i64 0) := (kc_ BK383.out 5).trans rfl; have hcz13_6 : w12.cell? ⟨gb383, 6, none⟩ = some (.int .i64 0) := (kc_ BK383.out 6).trans rfl; have hcz13_7 : w12.cell? ⟨gb383, 7, none⟩ = some (.bool false) := (kc_ BK383.out 7).trans rfl; have hfz13_0 := kF_ BK383.out 0; have hfz13_1 := kF_ BK383.out 1; have hfz13_2 := kF_ BK383.out 2; have hfz13_3 := kF_ BK383.out 3; have hfz13_4 := kF_ BK383.out 4; have hfz13_5 := kF_ BK383.out 5; have hfz13_6 := kF_ BK383.out 6; have hfz13_7 := kF_ BK383.out 7) | ((with_reducible refine gC_ (f := 24) rfl ?_); refine goesL_ (some 21) rfl rfl Tryd.func24 (by kernel_rfl) rfl #[.agg #[.bool ((rd_T28 l0 x11_1).f2.f0), .string ((rd_T28 l0 x11_1).f2.f1), .string ((rd_T28 l0 x11_1).f2.f2)], .agg #[.bool false, .string (⟨#[]⟩ : ByteArray), .string (⟨#[]⟩ : ByteArray)]] rfl mp_ ?_; (with_reducible refine (rational_Add.calls k1 ((rd_T28 l0 x11_1).f2.f0) ((rd_T28 l0 x11_1).f2.f1) ((rd_T28 l0 x11_1).f2.f2) false (⟨#[]⟩ : ByteArray) (⟨#[]⟩ : ByteArray) t384 t385 t386 _ A9.out).mono ?_); rintro e w14 ⟨rfl, hb⟩; refine ⟨_, rfl, ?_⟩; have n0_ := A0_.mk (Kd.R_below (by (with_reducible repeat (first | apply Kd.R_alloc | apply Kd.R_drewN | apply Kd.R_drew)); exact (Kd.R_mono (Kd.R_far (p := ⟨gb383, 7, none⟩) (Kd.R_far (p := ⟨gb383, 6, none⟩) (Kd.R_far (p := ⟨gb383, 5, none⟩) (Kd.R_far (p := ⟨gb383, 4, none⟩) (Kd.R_far (p := ⟨gb383, 3, none⟩) (Kd.R_far (p := ⟨gb383, 2, none⟩) (Kd.R_far (p := ⟨gb383, 1, none⟩) (Kd.R_far (p := ⟨gb383, 0, none⟩) (Kd.R_types HO_3.out BK383.out (by decide)) (fun _ hk => hk.2) (.int .i64 ((rd_T28 l0 x11_1).f0))) (fun _ hk => hk.2) (.int .i64 ((rd_T28 l0 x11_1).f1))) (fun _ hk => hk.2) (.bool ((rd_T28 l0 x11_1).f2.f0))) (fun _ hk => hk.2) (.string ((rd_T28 l0 x11_1).f2.f1))) (fun _ hk => hk.2) (.string ((rd_T28 l0 x11_1).f2.f2))) (fun _ hk => hk.2) (.int .i64 ((rd_T28 l0 x11_1).f3))) (fun _ hk => hk.2) (.int .i64 ((rd_T28 l0 x11_1).f4))) (fun _ hk => hk.2) (.bool ((rd_T28 l0 x11_1).f5))) (fun _ h_ => h_.1))) hb); have n1_ := A0_.mk (kB_ (g := gb383) (o := .cells #[.int .i64 ((rd_T28 l0 x11_1).f0), .int .i64 ((rd_T28 l0 x11_1).f1), .bool ((rd_T28 l0 x11_1).f2.f0), .string ((rd_T28 l0 x11_1).f2.f1), .string ((rd_T28 l0 x11_1).f2.f2), .int .i64 ((rd_T28 l0 x11_1).f3), .int .i64 ((rd_T28 l0 x11_1).f4), .bool ((rd_T28 l0 x11_1).f5)] 28 (0, 0)) (by (with_reducible repeat (first | refine kN_ ?_ _ | refine kD_ ?_ | refine kA_ ?_ _)); refine kP_ (cs := #[.int .i64 ((rd_T28 l0 x11_1).f0), .int .i64 ((rd_T28 l0 x11_1).f1), .bool ((rd_T28 l0 x11_1).f2.f0), .string ((rd_T28 l0 x11_1).f2.f1), .string ((rd_T28 l0 x11_1).f2.f2), .int .i64 ((rd_T28 l0 x11_1).f3), .int .i64 ((rd_T28 l0 x11_1).f4), .bool false]) ?_ 7 _ rfl; (with_reducible repeat (first | refine kN_ ?_ _ | refine kD_ ?_ | refine kA_ ?_ _)); refine kP_ (cs := #[.int .i64 ((rd_T28 l0 x11_1).f0), .int .i64 ((rd_T28 l0 x11_1).f1), .bool ((rd_T28 l0 x11_1).f2.f0), .string ((rd_T28 l0 x11_1).f2.f1), .string ((rd_T28 l0 x11_1).f2.f2), .int .i64 ((rd_T28 l0 x11_1).f3), .int .i64 0, .bool false]) ?_ 6 _ rfl; (with_reducible repeat (first | refine kN_ ?_ _ | refine kD_ ?_ | refine kA_ ?_ _)); refine kP_ (cs := #[.int .i64 ((rd_T28 l0 x11_1).f0), .int .i64 ((rd_T28 l0 x11_1).f1), .bool ((rd_T28 l0 x11_1).f2.f0), .string ((rd_T28 l0 x11_1).f2.f1), .string ((rd_T28 l0 x11_1).f2.f2), .int .i64 0, .int .i64 0, .bool false]) ?_ 5 _ rfl; (with_reducible repeat (first | refine kN_ ?_ _ | refine kD_ ?_ | refine kA_ ?_ _)); refine kP_ (cs := #[.int .i64 ((rd_T28 l0 x11_1).f0), .int .i64 ((rd_T28 l0 x11_1).f1), .bool ((rd_T28 l0 x11_1).f2.f0), .string ((rd_T28 l0 x11_1).f2.f1), .string (⟨#[]⟩ : ByteArray), .int .i64 0, .int .i64 0, .bool false]) ?_ 4 _ rfl; (with_reducible repeat (first | refine kN_ ?_ _ | refine kD_ ?_ | refine kA_ ?_ _)); refine kP_ (cs := #[.int .i64 ((rd_T28 l0 x11_1).f0), .int .i64 ((rd_T28 l0 x11_1).f1), .bool ((rd_T28 l0 x11_1).f2.f0), .string (⟨#[]⟩ : ByteArray), .string (⟨#[]⟩ : ByteArray), .int .i64 0, .int .i64 0, .bool false]) ?_ 3 _ rfl; (with_reducible repeat (first | refine kN_ ?_ _ | refine kD_ ?_ | refine kA_ ?_ _)); refine kP_ (cs := #[.int .i64 ((rd_T28 l0 x11_1).f0), .int .i64 ((rd_T28 l0 x11_1).f1), .bool false, .string (⟨#[]⟩ : ByteArray), .string (⟨#[]⟩ : ByteArray), .int .i64 0, .int .i64 0, .bool false]) ?_ 2 _ rfl; (with_reducible repeat (first | refine kN_ ?_ _ | refine kD_ ?_ | refine kA_ ?_ _)); refine kP_ (cs := #[.int .i64 ((rd_T28 l0 x11_1).f0), .int .i64 0, .bool false, .string (⟨#[]⟩ : ByteArray), .string (⟨#[]⟩ : ByteArray), .int .i64 0, .int .i64 0, .bool false]) ?_ 1 _ rfl; (with_reducible repeat (first | refine kN_ ?_ _ | refine kD_ ?_ | refine kA_ ?_ _)); refine kP_ (cs := #[.int .i64 0, .int .i64 0, .bool false, .string (⟨#[]⟩ : ByteArray), .string (⟨#[]⟩ : ByteArray), .int .i64 0, .int .i64 0, .bool false]) ?_ 0 _ rfl; (with_reducible repeat (first | refine kN_ ?_ _ | refine kD_ ?_ | refine kA_ ?_ _)); exact BK383.out) hb); have n2_ := A0_.mk (bT_ (xB1_ HB GE383) hb); clear HO_3 BK383 HB; have HO_3 := n0_; have BK383 := n1_; have HB := n2_; clear n0_ n1_ n2_; (try clear hb); (try clear hb2); (try clear hk); (try clear hi); have p11 : 0 ≤ (x11_1 : Int) := of_decide_eq_true aS_; have q11 : (x11_1 : Int) < ((x3_1.length : Int) : Int) := of_decide_eq_true aS_; obtain ⟨go11, co11, eo11, gb11, gl11, cl11, HG11⟩ := Kd.R_form HO_3.out (by omega); (first | cases eo11 | (injection eo11 with ea_ en_ ec_; (first | subst ea_ | (injection ea_ with ea_; subst ea_)); subst ec_; clear en_)); have GB11 := A0_.mk gb11; have GG11 := A0_.mk HG11; clear gb11 gl11 HG11; obtain ⟨ce11, hcl11, hM11, hcc11, hfr11⟩ := Kd.R_elem HO_3.out z26 (x11_1 : Int) p11 q11; obtain rfl := k26_openM hM11; have hx11_0 : w14.cell? ⟨go11, (x11_1 : Int).toNat * 3, none⟩ = some (.bool ((rd_T26 x3_1 x11_1).f0)) := hcc11 0 _ rfl; have hx11_1 : w14.cell? ⟨go11, (x11_1 : Int).toNat * 3 + 1, none⟩ = some (.string ((rd_T26 x3_1 x11_1).f1)) := hcc11 1 _ rfl; have hx11_2 : w14.cell? ⟨go11, (x11_1 : Int).toNat * 3 + 2, none⟩ = some (.string ((rd_T26 x3_1 x11_1).f2)) := hcc11 2 _ rfl; have hf11_0 : w14.frozen? ⟨go11, (x11_1 : Int).toNat * 3, none⟩ = false := hfr11 0; have hf11_1 : w14.frozen? ⟨go11, (x11_1 : Int).toNat * 3 + 1, none⟩ = false := hfr11 1; have hf11_2 : w14.frozen? ⟨go11, (x11_1 : Int).toNat * 3 + 2, none⟩ = false := hfr11 2; clear hcl11 hcc11 hfr11 hM11; replace p11 := eq_true p11; replace q11 := eq_true q11; have HX15 := A0_.mk (show Kd.R k26 26 w14 w.heap.size (fun _ => True) (.slice (some ⟨go11, 0, none⟩) x3_1.length co11) x3_1 from (xR_ HO_3.out)); obtain ⟨ce15, hcl15, hM15, hcc15, hfr15⟩ := Kd.R_elem HX15.out z26 (x11_1 : Int) (of_decide_eq_true aS_) (by have h_ : (x11_1 : Int) < ((x3_1.length : Int) : Int) := of_decide_eq_true aS_; first | exact h_ | (have e_ := (Kd.R_reads' HO_3.out).1; omega) | simpa using h_); obtain rfl := k26_openM hM15; have HP15 := Kd.R_seg HX15.out (x11_1 : Int) (of_decide_eq_true aS_) (by have h_ : (x11_1 : Int) < ((x3_1.length : Int) : Int) := of_decide_eq_true aS_; first | exact h_ | (have e_ := (Kd.R_reads' HO_3.out).1; omega) | simpa using h_) (seg := [.bool t384, .string t385, .string t386]) (j := 0) hcl15 hcc15 (show 3 ≤ 3 from by decide) (x' := (⟨t384, t385, t386⟩ : S26)) (k26_mkM _ _ _ (⟨t384, t385, t386⟩ : S26) ) (fun _ hk => hk); have hx15_0 := hcc15 0 _ rfl; (try simp only [show (k26).sz = 3 from rfl, Nat.mul_one, Nat.add_zero] at hx15_0); have hf15_0 := hfr15 0; (try simp only [show (k26).sz = 3 from rfl, Nat.mul_one, Nat.add_zero] at hf15_0); have hx15_1 := hcc15 1 _ rfl; (try simp only [show (k26).sz = 3 from rfl, Nat.mul_one, Nat.add_zero] at hx15_1); have hf15_1 := hfr15 1; (try simp only [show (k26).sz = 3 from rfl, Nat.mul_one, Nat.add_zero] at hf15_1); have hx15_2 := hcc15 2 _ rfl; (try simp only [show (k26).sz = 3 from rfl, Nat.mul_one, Nat.add_zero] at hx15_2); have hf15_2 := hfr15 2; (try simp only [show (k26).sz = 3 from rfl, Nat.mul_one, Nat.add_zero] at hf15_2); clear hcl15 hcc15 hfr15 hM15) | ((with_reducible refine gate_store (t := 26) (p := 22) rfl ?_); refine store_event (t := 26) (p := 22) (v := ?vo_w16) (w1 := (((w14.setCell ⟨go11, (x11_1 : Int).toNat * 3, none⟩ (.bool t384)).setCell ⟨go11, (x11_1 : Int).toNat * 3 + 1, none⟩ (.string t385)).setCell ⟨go11, (x11_1 : Int).toNat * 3 + 2, none⟩ (.string t386))) ?hg ?ho ?hn ?hr ?_; (case ho => rfl); (case hg => rfl); (case hn => rfl); (case hr => first | (go_simp; done) | (go_simp; rfl)); intro w16 hw; have hg : w14.grownBy w16 (some go11) := (by rw [hw]; exact HP15.2); have hp_ : Kd.R k26 26 w16 w.heap.size (fun _ => True) (.slice (some ⟨go11, 0, none⟩) x3_1.length co11) y387 := (by rw [hw, Ny387.out]; exact HP15.1); clear HP15; have n0_ := A0_.mk (hp_); have n1_ := A0_.mk (blk_grown (g := gb383) (o := .cells #[.int .i64 ((rd_T28 l0 x11_1).f0), .int .i64 ((rd_T28 l0 x11_1).f1), .bool ((rd_T28 l0 x11_1).f2.f0), .string ((rd_T28 l0 x11_1).f2.f1), .string ((rd_T28 l0 x11_1).f2.f2), .int .i64 ((rd_T28 l0 x11_1).f3), .int .i64 ((rd_T28 l0 x11_1).f4), .bool ((rd_T28 l0 x11_1).f5)] 28 (0, 0)) (xK_ BK383.out) hg (Kd.R_ne HO_3.out BK383.out (by decide))); have n2_ := A0_.mk ((by rw [hw]; exact bS_ (bS_ (bS_ (HB.out) GB11.out) GB11.out) GB11.out : Below w.heap.size w w16)); clear HO_3 BK383 HB; have HO_3 := n0_; have BK383 := n1_; have HB := n2_; clear n0_ n1_ n2_; clear hg hw hp_))
         (try simp only [add_plain])
         go_roundg k1
         case measure => have := HK1.out; omega
         case rel => exact ⟨(y387), (wrap64 (x11_1 + 1)), (by first | rfl | (simp; done) | (simp [*]; done)), H', ⟨by have := HK1.out; omega⟩, ⟨by (with_reducible repeat (first | apply Kd.R_alloc | apply Kd.R_drewN | apply Kd.R_drew)); exact HO_3.out⟩, ⟨xB1_ HB GE383⟩⟩
        ·rw [if_neg c10] at H
         exact absurd H (by simp)
       ·rw [if_neg c8] at H
        exact absurd H (by simp)
      ·rw [if_neg c7] at H
       exact absurd H (by simp)
     ·rw [if_neg c6] at H
      have c6b0 : decide (x11_1 < (l0.length : Int)) = false := decide_eq_false c6
      clear c6
      obtain rfl := Option.some.inj H
      go_wp2
      go_ret
      exact ⟨_, rE_, by (with_reducible repeat (first | apply Kd.R_alloc | apply Kd.R_drewN | apply Kd.R_drew)); exact HO_3.out, xB_ HB⟩
  ·rw [if_neg c3] at H
   exact absurd H (by simp)
 ·rw [if_neg c2] at H
  exact absurd H (by simp)
def rational_Sign.f (k : Nat) (a0_0 : Bool) (a0_1 : ByteArray) (a0_2 : ByteArray) : Option (Int) := (rational_clean.f k a0_0 a0_1 a0_2).bind fun bt243 => ((rational_signOf.f bt243.1 bt243.2.1 bt243.2.2).bind fun t246 => (some t246))
theorem rational_Sign.mono : ∀ a0 a1 a2 k, LeO (rational_Sign.f k a0 a1 a2) (rational_Sign.f (k + 1) a0 a1 a2) := by
 intro a0 a1 a2 k
 unfold rational_Sign.f
 repeat' first
   | (with_reducible exact rational_clean.mono _ _ _ _)
   | (with_reducible exact LeO.refl _)
   | (with_reducible exact LeO.none _)
   | (with_reducible refine LeO.ite ?_ ?_)
   | (with_reducible refine LeO.bind ?_ (fun _ => ?_))
set_option maxHeartbeats 8000000 in
set_option maxRecDepth 100000 in
theorem rational_Sign.calls (k : Nat) (a0_0 : Bool) (a0_1 : ByteArray) (a0_2 : ByteArray) (r : Int) (w : World) (h : rational_Sign.f k a0_0 a0_1 a0_2 = some r) :
  Calls Tryd.prog 19 #[.agg #[.bool a0_0, .string a0_1, .string a0_2]] w fun e w' => e = .returned (.int .i64 r) ∧ Below w.heap.size w w' := by
 have hu26 := Tryd.underlying26
 have HB := A0_.mk (Below.refl w.heap.size w)
 have H := h
 unfold rational_Sign.f at H
 clear h
 replace H := Option.bind_eq_some_iff.mp H
 obtain ⟨⟨t243, t244, t245⟩, A20, H⟩ := H
 (try dsimp only at H)
 have A2 := A0_.mk A20
 clear A20
 replace H := Option.bind_eq_some_iff.mp H
 obtain ⟨t246, A30, H⟩ := H
 (try dsimp only at H)
 have A3 := A0_.mk A30
 clear A30
 obtain rfl := Option.some.inj H
 go_enter Tryd.func19, Tryd.ntmps19
 go_wp2_with (first | ((with_reducible refine gD_ (N := 1) rfl ?_); refine bE_ ?hg (N := 1) ?hd (cs := #[.bool a0_0, .string a0_1, .string a0_2]) (t := 26) ?hr ?_; (case hd => rfl); (case hg => rfl); (case hr => first | (go_simp; done) | (go_simp; rfl)); intro gb242 hg w4 hbox hb; have n0_ := A0_.mk (bT_ (xB_ HB) hb); have n1_ := A0_.mk (hbox); have n2_ := A0_.mk ((by rw [hg]; exact (bZ_ (xB_ HB)) : w.heap.size ≤ gb242)); have n3_ := A0_.mk ((by rw [hg]; exact (bZ_ (xB_ HB)) : w.heap.size ≤ gb242)); clear HB; have HB := n0_; have BK242 := n1_; have GW242 := n2_; have GE242 := n3_; clear n0_ n1_ n2_ n3_; clear hb hbox hg; have hcz5_0 : w4.cell? ⟨gb242, 0, none⟩ = some (.bool a0_0) := (kc_ BK242.out 0).trans rfl; have hcz5_1 : w4.cell? ⟨gb242, 1, none⟩ = some (.string a0_1) := (kc_ BK242.out 1).trans rfl; have hcz5_2 : w4.cell? ⟨gb242, 2, none⟩ = some (.string a0_2) := (kc_ BK242.out 2).trans rfl; have hfz5_0 := kF_ BK242.out 0; have hfz5_1 := kF_ BK242.out 1; have hfz5_2 := kF_ BK242.out 2) | ((with_reducible refine gC_ (f := 43) rfl ?_); refine goesL_ (some 4) rfl rfl Tryd.func43 (by kernel_rfl) rfl #[.agg #[.bool a0_0, .string a0_1, .string a0_2]] rfl mp_ ?_; (with_reducible refine (rational_clean.calls k a0_0 a0_1 a0_2 t243 t244 t245 _ A2.out).mono ?_); rintro e w6 ⟨rfl, hb⟩; refine ⟨_, rfl, ?_⟩; have n0_ := A0_.mk (kB_ (g := gb242) (o := .cells #[.bool a0_0, .string a0_1, .string a0_2] 26 (0, 0)) (xK_ BK242.out) hb); have n1_ := A0_.mk (bT_ (xB1_ HB GE242) hb); clear BK242 HB; have BK242 := n0_; have HB := n1_; clear n0_ n1_; (try clear hb); (try clear hb2); (try clear hk); (try clear hi)) | ((with_reducible refine gC_ (f := 42) rfl ?_); refine goesL_ (some 5) rfl rfl Tryd.func42 (by kernel_rfl) rfl #[.agg #[.bool t243, .string t244, .string t245]] rfl mp_ ?_; (with_reducible refine (rational_signOf.calls t243 t244 t245 t246 _ A3.out).mono ?_); rintro e w7 ⟨rfl, hb⟩; refine ⟨_, rfl, ?_⟩; have n0_ := A0_.mk (kB_ (g := gb242) (o := .cells #[.bool a0_0, .string a0_1, .string a0_2] 26 (0, 0)) (xK_ BK242.out) hb); have n1_ := A0_.mk (bT_ (xB1_ HB GE242) hb); clear BK242 HB; have BK242 := n0_; have HB := n1_; clear n0_ n1_; (try clear hb); (try clear hb2); (try clear hk); (try clear hi)))
 go_ret
 exact ⟨rE_, xB1_ HB GE242⟩
def setoff_isDay.f (a0 : Int) : Option (Bool) := if a0 ≥ 0 then (some (decide (a0 ≤ 1048576))) else (some false)
set_option maxHeartbeats 8000000 in
set_option maxRecDepth 100000 in
theorem setoff_isDay.calls (a0 : Int) (r : Bool) (w : World) (h : setoff_isDay.f a0 = some r) :
  Calls Tryd.prog 30 #[.int .i64 a0] w fun e w' => e = .returned (.bool r) ∧ Drawn0 w w' := by
 have H : (if a0 ≥ 0 then (some (decide (a0 ≤ 1048576))) else (some false)) = some r := h
 clear h
 by_cases c2 : a0 ≥ 0
 ·rw [if_pos c2] at H
  have c2b0 : decide (0 ≤ a0) = true := decide_eq_true c2
  clear c2
  obtain rfl := Option.some.inj H
  go_enter Tryd.func30, Tryd.ntmps30
  go_wp2
  go_ret
  exact ⟨by first | rfl | (simp; done) | (simp [*]; done), by repeat (first | exact Drawn0.refl _ | apply Drawn0.step)⟩
 ·rw [if_neg c2] at H
  have c2b0 : decide (0 ≤ a0) = false := decide_eq_false c2
  clear c2
  obtain rfl := Option.some.inj H
  go_enter Tryd.func30, Tryd.ntmps30
  go_wp2
  go_ret
  exact ⟨by first | rfl | (simp; done) | (simp [*]; done), by repeat (first | exact Drawn0.refl _ | apply Drawn0.step)⟩
def setoff_pair.f (a0 : Int) (a1 : Int) (a2 : Int) : Option (Bool) := if a1 ≥ 0 then (if a1 < a0 then (if a2 ≥ 0 then (if a2 < a0 then (some (a1 != a2)) else (some false)) else (some false)) else (some false)) else (some false)
set_option maxHeartbeats 8000000 in
set_option maxRecDepth 100000 in
theorem setoff_pair.calls (a0 : Int) (a1 : Int) (a2 : Int) (r : Bool) (w : World) (h : setoff_pair.f a0 a1 a2 = some r) :
  Calls Tryd.prog 32 #[.int .i64 a0, .int .i64 a1, .int .i64 a2] w fun e w' => e = .returned (.bool r) ∧ Drawn0 w w' := by
 have H := h
 unfold setoff_pair.f at H
 clear h
 by_cases c4 : a1 ≥ 0
 ·rw [if_pos c4] at H
  have c4b0 : decide (0 ≤ a1) = true := decide_eq_true c4
  clear c4
  by_cases c5 : a1 < a0
  ·rw [if_pos c5] at H
   have c5b0 : decide (a1 < a0) = true := decide_eq_true c5
   clear c5
   by_cases c6 : a2 ≥ 0
   ·rw [if_pos c6] at H
    have c6b0 : decide (0 ≤ a2) = true := decide_eq_true c6
    clear c6
    by_cases c7 : a2 < a0
    ·rw [if_pos c7] at H
     have c7b0 : decide (a2 < a0) = true := decide_eq_true c7
     clear c7
     obtain rfl := Option.some.inj H
     go_enter Tryd.func32, Tryd.ntmps32
     go_wp2
     go_ret
     exact ⟨by first | rfl | (simp; done) | (simp [*]; done), by repeat (first | exact Drawn0.refl _ | apply Drawn0.step)⟩
    ·rw [if_neg c7] at H
     have c7b0 : decide (a2 < a0) = false := decide_eq_false c7
     clear c7
     obtain rfl := Option.some.inj H
     go_enter Tryd.func32, Tryd.ntmps32
     go_wp2
     go_ret
     exact ⟨by first | rfl | (simp; done) | (simp [*]; done), by repeat (first | exact Drawn0.refl _ | apply Drawn0.step)⟩
   ·rw [if_neg c6] at H
    have c6b0 : decide (0 ≤ a2) = false := decide_eq_false c6
    clear c6
    obtain rfl := Option.some.inj H
    go_enter Tryd.func32, Tryd.ntmps32
    go_wp2
    go_ret
    exact ⟨by first | rfl | (simp; done) | (simp [*]; done), by repeat (first | exact Drawn0.refl _ | apply Drawn0.step)⟩
  ·rw [if_neg c5] at H
   have c5b0 : decide (a1 < a0) = false := decide_eq_false c5
   clear c5
   obtain rfl := Option.some.inj H
   go_enter Tryd.func32, Tryd.ntmps32
   go_wp2
   go_ret
   exact ⟨by first | rfl | (simp; done) | (simp [*]; done), by repeat (first | exact Drawn0.refl _ | apply Drawn0.step)⟩
 ·rw [if_neg c4] at H
  have c4b0 : decide (0 ≤ a1) = false := decide_eq_false c4
  clear c4
  obtain rfl := Option.some.inj H
  go_enter Tryd.func32, Tryd.ntmps32
  go_wp2
  go_ret
  exact ⟨by first | rfl | (simp; done) | (simp [*]; done), by repeat (first | exact Drawn0.refl _ | apply Drawn0.step)⟩
mutual
def setoff_Check.j0 : Nat → Int → List (S28) → Bool → Option (Int)
 | 0, _, _, _ => none
 | k + 1, x0, x1, x7 => if x7 = true then (none) else (if (x1.length : Int) > 64 then (none) else (setoff_Check.l0 k x0 x1 (x1.length : Int) 0))
def setoff_Check.l0 : Nat → Int → List (S28) → Int → Int → Option (Int)
 | 0, _, _, _, _ => none
 | k + 1, x0, x18, x19, x20 => if x20 < x19 then (if 0 ≤ x20 then (if x20 < (x18.length : Int) then ((setoff_pair.f x0 ((rd_T28 x18 x20).f0) ((rd_T28 x18 x20).f1)).bind fun t249 => (if t249 = true then ((rational_Sign.f k ((rd_T28 x18 x20).f2.f0) ((rd_T28 x18 x20).f2.f1) ((rd_T28 x18 x20).f2.f2)).bind fun t250 => (if t250 < 0 then (none) else ((setoff_isDay.f ((rd_T28 x18 x20).f3)).bind fun t251 => (if t251 = true then ((setoff_isDay.f ((rd_T28 x18 x20).f4)).bind fun t252 => (setoff_Check.j2 k x0 x18 x19 x20 (!t252) ((rd_T28 x18 x20).f0) ((rd_T28 x18 x20).f1) ((rd_T28 x18 x20).f2.f0) ((rd_T28 x18 x20).f2.f1) ((rd_T28 x18 x20).f2.f2) ((rd_T28 x18 x20).f3) ((rd_T28 x18 x20).f4) ((rd_T28 x18 x20).f5))) else (setoff_Check.j2 k x0 x18 x19 x20 true ((rd_T28 x18 x20).f0) ((rd_T28 x18 x20).f1) ((rd_T28 x18 x20).f2.f0) ((rd_T28 x18 x20).f2.f1) ((rd_T28 x18 x20).f2.f2) ((rd_T28 x18 x20).f3) ((rd_T28 x18 x20).f4) ((rd_T28 x18 x20).f5)))))) else (none))) else (none)) else (none)) else (some 0)
def setoff_Check.j2 : Nat → Int → List (S28) → Int → Int → Bool → Int → Int → Bool → ByteArray → ByteArray → Int → Int → Bool → Option (Int)
 | 0, _, _, _, _, _, _, _, _, _, _, _, _, _ => none
 | k + 1, x0, x18, x19, x20, x37, x249000, x249001, x249002, x249003, x249004, x249005, x249006, x249007 => if x37 = true then (none) else (if x249006 < x249005 then (none) else (setoff_Check.l0 k x0 x18 x19 (wrap64 (x20 + 1))))
end
def setoff_Check.f (k : Nat) (a0 : Int) (l1 : List (S28)) : Option (Int) := if a0 < 0 then (setoff_Check.j0 k a0 l1 true) else (setoff_Check.j0 k a0 l1 (decide (a0 > 32)))
theorem setoff_Check.mono_l : ∀ k, (∀ y0 y1 y2, LeO (setoff_Check.j0 k y0 y1 y2) (setoff_Check.j0 (k + 1) y0 y1 y2)) ∧ (∀ y0 y1 y2 y3, LeO (setoff_Check.l0 k y0 y1 y2 y3) (setoff_Check.l0 (k + 1) y0 y1 y2 y3)) ∧ (∀ y0 y1 y2 y3 y4 y5 y6 y7 y8 y9 y10 y11 y12, LeO (setoff_Check.j2 k y0 y1 y2 y3 y4 y5 y6 y7 y8 y9 y10 y11 y12) (setoff_Check.j2 (k + 1) y0 y1 y2 y3 y4 y5 y6 y7 y8 y9 y10 y11 y12))
 | 0 => ⟨fun _ _ _ r h => by simp [setoff_Check.j0] at h, fun _ _ _ _ r h => by simp [setoff_Check.l0] at h, fun _ _ _ _ _ _ _ _ _ _ _ _ _ r h => by simp [setoff_Check.j2] at h⟩
 | k + 1 => by
  obtain ⟨ih0, ih1, ih2⟩ := setoff_Check.mono_l k
  refine ⟨?_, ?_, ?_⟩
  ·intro y0 y1 y2
   unfold setoff_Check.j0
   repeat' first
   | (with_reducible exact ih0 _ _ _)
   | (with_reducible exact ih1 _ _ _ _)
   | (with_reducible exact ih2 _ _ _ _ _ _ _ _ _ _ _ _ _)
   | (with_reducible exact rational_Sign.mono _ _ _ _)
   | (with_reducible exact LeO.refl _)
   | (with_reducible exact LeO.none _)
   | (with_reducible refine LeO.ite ?_ ?_)
   | (with_reducible refine LeO.bind ?_ (fun _ => ?_))
  ·intro y0 y1 y2 y3
   unfold setoff_Check.l0
   repeat' first
   | (with_reducible exact ih0 _ _ _)
   | (with_reducible exact ih1 _ _ _ _)
   | (with_reducible exact ih2 _ _ _ _ _ _ _ _ _ _ _ _ _)
   | (with_reducible exact rational_Sign.mono _ _ _ _)
   | (with_reducible exact LeO.refl _)
   | (with_reducible exact LeO.none _)
   | (with_reducible refine LeO.ite ?_ ?_)
   | (with_reducible refine LeO.bind ?_ (fun _ => ?_))
  ·intro y0 y1 y2 y3 y4 y5 y6 y7 y8 y9 y10 y11 y12
   unfold setoff_Check.j2
   repeat' first
   | (with_reducible exact ih0 _ _ _)
   | (with_reducible exact ih1 _ _ _ _)
   | (with_reducible exact ih2 _ _ _ _ _ _ _ _ _ _ _ _ _)
   | (with_reducible exact rational_Sign.mono _ _ _ _)
   | (with_reducible exact LeO.refl _)
   | (with_reducible exact LeO.none _)
   | (with_reducible refine LeO.ite ?_ ?_)
   | (with_reducible refine LeO.bind ?_ (fun _ => ?_))
theorem setoff_Check.mono : ∀ a0 a1 k, LeO (setoff_Check.f k a0 a1) (setoff_Check.f (k + 1) a0 a1) := by
 intro a0 a1 k
 obtain ⟨ih0, ih1, ih2⟩ := setoff_Check.mono_l k
 unfold setoff_Check.f
 repeat' first
   | (with_reducible exact ih0 _ _ _)
   | (with_reducible exact ih1 _ _ _ _)
   | (with_reducible exact ih2 _ _ _ _ _ _ _ _ _ _ _ _ _)
   | (with_reducible exact rational_Sign.mono _ _ _ _)
   | (with_reducible exact LeO.refl _)
   | (with_reducible exact LeO.none _)
   | (with_reducible refine LeO.ite ?_ ?_)
   | (with_reducible refine LeO.bind ?_ (fun _ => ?_))
set_option maxHeartbeats 8000000 in
set_option maxRecDepth 100000 in
theorem setoff_Check.calls (k : Nat) (a0 : Int) (A1 : Option Addr) (c1 : Nat) (l1 : List (S28)) (r : Int) (w : World) (hr1 : Kd.C k28 w A1 l1.length l1) (hc1 : l1.length ≤ c1) (h : setoff_Check.f k a0 l1 = some r) :
  Calls Tryd.prog 15 #[.int .i64 a0, .slice A1 l1.length c1] w fun e w' => e = .returned (.int .i64 r) ∧ Below w.heap.size w w' := by
 have hu28 := Tryd.underlying28
 have hu26 := Tryd.underlying26
 have HR1 := A0_.mk hr1
 have HC1 := A0_.mk hc1
 clear hr1 hc1
 have HB := A0_.mk (Below.refl w.heap.size w)
 have H := h
 unfold setoff_Check.f at H
 clear h
 have HC3 := A0_.mk H
 clear H
 go_enter Tryd.func15, Tryd.ntmps15
 go_upto_region 1 with (fail)
 go_cut [7] (fun v7 wc => ∃ (kq : Nat) (x7_2 : Bool), v7 = .bool x7_2 ∧ A0_ (setoff_Check.j0 kq a0 l1 x7_2 = some r) ∧ A0_ (kq ≤ k) ∧ A0_ (Below w.heap.size w wc))
 case first =>
  have H := HC3.out
  clear HC3
  by_cases c4 : a0 < 0
  ·rw [if_pos c4] at H
   have c4b0 : decide (a0 < 0) = true := decide_eq_true c4
   clear c4
   (first | rw [c4b0] | rw [c4b1] | (simp only [i64_w, i32_w]; rw [c4b0]) | skip)
   have H' := A0_.mk H
   clear H
   go_wp2
   go_meet
   case rel => exact ⟨_, (true), (by first | rfl | (simp; done) | (simp [*]; done)), H', ⟨by first | omega | exact Nat.le_refl _⟩, ⟨xB_ HB⟩⟩
  ·rw [if_neg c4] at H
   have c4b0 : decide (a0 < 0) = false := decide_eq_false c4
   clear c4
   (first | rw [c4b0] | rw [c4b1] | (simp only [i64_w, i32_w]; rw [c4b0]) | skip)
   have H' := A0_.mk H
   clear H
   go_wp2
   go_meet
   case rel => exact ⟨_, (decide (a0 > 32)), (by first | rfl | (simp; done) | (simp [*]; done)), H', ⟨by first | omega | exact Nat.le_refl _⟩, ⟨xB_ HB⟩⟩
 case rest =>
  clear HC3
  try clear c1
  try clear p2
  try clear c4
  try clear c4b0
  try clear c4b1
  obtain ⟨kq, x7_2, rfl, HA, HJ2, HB⟩ := hcut
  cases kq with
  | zero => exact absurd HA.out (by simp [setoff_Check.j0])
  | succ kj2 =>
   have H := HA.out
   clear HA
   simp only [setoff_Check.j0] at H
   by_cases c5 : x7_2 = true
   ·subst c5
    have H1 : (none) = some r := by rw [if_pos rfl] at H; exact H
    clear H
    have H := H1
    clear H1
    exact absurd H (by simp)
   ·replace c5 := Bool.eq_false_iff.mpr c5
    subst c5
    have H1 : (if (l1.length : Int) > 64 then (none) else (setoff_Check.l0 kj2 a0 l1 (l1.length : Int) 0)) = some r := by rw [if_neg (show ¬ (false = true) by decide)] at H; exact H
    clear H
    have H := H1
    clear H1
    by_cases c6 : (l1.length : Int) > 64
    ·rw [if_pos c6] at H
     have c6b0 : decide (64 < (l1.length : Int)) = true := decide_eq_true c6
     have c6b1 : decide (64 < l1.length) = true := decide_eq_true (by omega)
     clear c6
     exact absurd H (by simp)
    ·rw [if_neg c6] at H
     have c6b0 : decide (64 < (l1.length : Int)) = false := decide_eq_false c6
     have c6b1 : decide (64 < l1.length) = false := decide_eq_false (by omega)
     clear c6
     have H' := A0_.mk H
     clear H
     go_wp2
     go_loopg [20] kj2 (fun kq v20 w' => ∃ (x20_2 : Int), v20 = .int .i64 x20_2 ∧ A0_ (setoff_Check.l0 kq a0 l1 (l1.length : Int) x20_2 = some r) ∧ A0_ (kq ≤ kj2) ∧ A0_ (Below w.heap.size w w'))
     case atStart => exact ⟨(0), (by first | rfl | (simp; done) | (simp [*]; done)), H', ⟨Nat.le_refl _⟩, ⟨xB_ HB⟩⟩
     case round =>
      clear H'
      try clear c1
      try clear p2
      try clear c4
      try clear c4b0
      try clear c4b1
      try clear c5
      try clear c6
      try clear c6b0
      try clear c6b1
      try clear p2
      obtain ⟨x20_2, rfl, HA, HK2, HB⟩ := hrel
      cases gk with
      | zero => exact absurd HA.out (by simp [setoff_Check.l0])
      | succ k2 =>
       have H := HA.out
       clear HA
       simp only [setoff_Check.l0] at H
       by_cases c7 : x20_2 < (l1.length : Int)
       ·rw [if_pos c7] at H
        have c7b0 : decide (x20_2 < (l1.length : Int)) = true := decide_eq_true c7
        clear c7
        by_cases c8 : 0 ≤ x20_2
        ·rw [if_pos c8] at H
         have c8b0 : decide (0 ≤ x20_2) = true := decide_eq_true c8
         clear c8
         by_cases c9 : x20_2 < (l1.length : Int)
         ·rw [if_pos c9] at H
          have c9b0 : decide (x20_2 < (l1.length : Int)) = true := decide_eq_true c9
          clear c9
          replace H := Option.bind_eq_some_iff.mp H
          obtain ⟨t249, A100, H⟩ := H
          (try dsimp only at H)
          have A10 := A0_.mk A100
          clear A100
          by_cases c11 : t249 = true
          ·subst c11
           have H1 : ((rational_Sign.f k2 ((rd_T28 l1 x20_2).f2.f0) ((rd_T28 l1 x20_2).f2.f1) ((rd_T28 l1 x20_2).f2.f2)).bind fun t250 => (if t250 < 0 then (none) else ((setoff_isDay.f ((rd_T28 l1 x20_2).f3)).bind fun t251 => (if t251 = true then ((setoff_isDay.f ((rd_T28 l1 x20_2).f4)).bind fun t252 => (setoff_Check.j2 k2 a0 l1 (l1.length : Int) x20_2 (!t252) ((rd_T28 l1 x20_2).f0) ((rd_T28 l1 x20_2).f1) ((rd_T28 l1 x20_2).f2.f0) ((rd_T28 l1 x20_2).f2.f1) ((rd_T28 l1 x20_2).f2.f2) ((rd_T28 l1 x20_2).f3) ((rd_T28 l1 x20_2).f4) ((rd_T28 l1 x20_2).f5))) else (setoff_Check.j2 k2 a0 l1 (l1.length : Int) x20_2 true ((rd_T28 l1 x20_2).f0) ((rd_T28 l1 x20_2).f1) ((rd_T28 l1 x20_2).f2.f0) ((rd_T28 l1 x20_2).f2.f1) ((rd_T28 l1 x20_2).f2.f2) ((rd_T28 l1 x20_2).f3) ((rd_T28 l1 x20_2).f4) ((rd_T28 l1 x20_2).f5)))))) = some r := by rw [if_pos rfl] at H; exact H
           clear H
           have H := H1
           clear H1
           replace H := Option.bind_eq_some_iff.mp H
           obtain ⟨t250, A120, H⟩ := H
           (try dsimp only at H)
           have A12 := A0_.mk A120
           clear A120
           by_cases c13 : t250 < 0
           ·rw [if_pos c13] at H
            have c13b0 : decide (t250 < 0) = true := decide_eq_true c13
            clear c13
            exact absurd H (by simp)
           ·rw [if_neg c13] at H
            have c13b0 : decide (t250 < 0) = false := decide_eq_false c13
            clear c13
            have HC17 := A0_.mk H
            clear H
            have p247 : 0 ≤ (x20_2 : Int) := of_decide_eq_true aS_
            have q247 : x20_2 < (l1.length : Int) := of_decide_eq_true aS_
            obtain ⟨ad247, e247, hx247_0, hx247_1, hx247_2, hx247_3, hx247_4, hx247_5, hx247_6, hx247_7⟩ := at_T28 HR1.out x20_2 p247 q247
            cases e247
            (try replace hx247_0 := (HB.out.cell (World.block_lt_of_cell? w _ hx247_0)).trans hx247_0)
            (try replace hx247_1 := (HB.out.cell (World.block_lt_of_cell? w _ hx247_1)).trans hx247_1)
            (try replace hx247_2 := (HB.out.cell (World.block_lt_of_cell? w _ hx247_2)).trans hx247_2)
            (try replace hx247_3 := (HB.out.cell (World.block_lt_of_cell? w _ hx247_3)).trans hx247_3)
            (try replace hx247_4 := (HB.out.cell (World.block_lt_of_cell? w _ hx247_4)).trans hx247_4)
            (try replace hx247_5 := (HB.out.cell (World.block_lt_of_cell? w _ hx247_5)).trans hx247_5)
            (try replace hx247_6 := (HB.out.cell (World.block_lt_of_cell? w _ hx247_6)).trans hx247_6)
            (try replace hx247_7 := (HB.out.cell (World.block_lt_of_cell? w _ hx247_7)).trans hx247_7)
            replace p247 := eq_true p247
            replace q247 := eq_true q247
            go_upto_region 12 with (first | ((with_reducible refine gD_ (N := 6) rfl ?_); refine bE_ ?hg (N := 6) ?hd (cs := #[.int .i64 0, .int .i64 0, .bool false, .string (⟨#[]⟩ : ByteArray), .string (⟨#[]⟩ : ByteArray), .int .i64 0, .int .i64 0, .bool false]) (t := 28) ?hr ?_; (case hd => rfl); (case hg => rfl); (case hr => first | (go_simp; done) | (go_simp; rfl)); intro gb248 hg w18 hbox hb; have n0_ := A0_.mk (bT_ (xB_ HB) hb); have n1_ := A0_.mk (hbox); have n2_ := A0_.mk ((by rw [hg]; exact (bZ_ (xB_ HB)) : w.heap.size ≤ gb248)); have n3_ := A0_.mk ((by rw [hg]; exact (bZ_ (xB_ HB)) : w.heap.size ≤ gb248)); clear HB; have HB := n0_; have BK248 := n1_; have GW248 := n2_; have GE248 := n3_; clear n0_ n1_ n2_ n3_; clear hb hbox hg; have hcz19_0 : w18.cell? ⟨gb248, 0, none⟩ = some (.int .i64 0) := (kc_ BK248.out 0).trans rfl; have hcz19_1 : w18.cell? ⟨gb248, 1, none⟩ = some (.int .i64 0) := (kc_ BK248.out 1).trans rfl; have hcz19_2 : w18.cell? ⟨gb248, 2, none⟩ = some (.bool false) := (kc_ BK248.out 2).trans rfl; have hcz19_3 : w18.cell? ⟨gb248, 3, none⟩ = some (.string (⟨#[]⟩ : ByteArray)) := (kc_ BK248.out 3).trans rfl; have hcz19_4 : w18.cell? ⟨gb248, 4, none⟩ = some (.string (⟨#[]⟩ : ByteArray)) := (kc_ BK248.out 4).trans rfl; have hcz19_5 : w18.cell? ⟨gb248, 5, none⟩ = some (.int .i64 0) := (kc_ BK248.out 5).trans rfl; have hcz19_6 : w18.cell? ⟨gb248, 6, none⟩ = some (.int .i64 0) := (kc_ BK248.out 6).trans rfl; have hcz19_7 : w18.cell? ⟨gb248, 7, none⟩ = some (.bool false) := (kc_ BK248.out 7).trans rfl; have hfz19_0 := kF_ BK248.out 0; have hfz19_1 := kF_ BK248.out 1; have hfz19_2 := kF_ BK248.out 2; have hfz19_3 := kF_ BK248.out 3; have hfz19_4 := kF_ BK248.out 4; have hfz19_5 := kF_ BK248.out 5; have hfz19_6 := kF_ BK248.out 6; have hfz19_7 := kF_ BK248.out 7) | ((with_reducible refine gC_ (f := 32) rfl ?_); refine goesL_ (some 30) rfl rfl Tryd.func32 (by kernel_rfl) rfl #[.int .i64 a0, .int .i64 ((rd_T28 l1 x20_2).f0), .int .i64 ((rd_T28 l1 x20_2).f1)] rfl mp_ ?_; (with_reducible refine (setoff_pair.calls a0 ((rd_T28 l1 x20_2).f0) ((rd_T28 l1 x20_2).f1) true _ A10.out).mono ?_); rintro e w' ⟨rfl, ⟨nd, rfl⟩⟩; refine ⟨_, rfl, ?_⟩) | ((with_reducible refine gC_ (f := 19) rfl ?_); refine goesL_ (some 35) rfl rfl Tryd.func19 (by kernel_rfl) rfl #[.agg #[.bool ((rd_T28 l1 x20_2).f2.f0), .string ((rd_T28 l1 x20_2).f2.f1), .string ((rd_T28 l1 x20_2).f2.f2)]] rfl mp_ ?_; (with_reducible refine (rational_Sign.calls k2 ((rd_T28 l1 x20_2).f2.f0) ((rd_T28 l1 x20_2).f2.f1) ((rd_T28 l1 x20_2).f2.f2) t250 _ A12.out).mono ?_); rintro e w20 ⟨rfl, hb⟩; refine ⟨_, rfl, ?_⟩; have n0_ := A0_.mk (kB_ (g := gb248) (o := .cells #[.int .i64 ((rd_T28 l1 x20_2).f0), .int .i64 ((rd_T28 l1 x20_2).f1), .bool ((rd_T28 l1 x20_2).f2.f0), .string ((rd_T28 l1 x20_2).f2.f1), .string ((rd_T28 l1 x20_2).f2.f2), .int .i64 ((rd_T28 l1 x20_2).f3), .int .i64 ((rd_T28 l1 x20_2).f4), .bool ((rd_T28 l1 x20_2).f5)] 28 (0, 0)) (by (with_reducible repeat (first | refine kN_ ?_ _ | refine kD_ ?_ | refine kA_ ?_ _)); refine kP_ (cs := #[.int .i64 ((rd_T28 l1 x20_2).f0), .int .i64 ((rd_T28 l1 x20_2).f1), .bool ((rd_T28 l1 x20_2).f2.f0), .string ((rd_T28 l1 x20_2).f2.f1), .string ((rd_T28 l1 x20_2).f2.f2), .int .i64 ((rd_T28 l1 x20_2).f3), .int .i64 ((rd_T28 l1 x20_2).f4), .bool false]) ?_ 7 _ rfl; (with_reducible repeat (first | refine kN_ ?_ _ | refine kD_ ?_ | refine kA_ ?_ _)); refine kP_ (cs := #[.int .i64 ((rd_T28 l1 x20_2).f0), .int .i64 ((rd_T28 l1 x20_2).f1), .bool ((rd_T28 l1 x20_2).f2.f0), .string ((rd_T28 l1 x20_2).f2.f1), .string ((rd_T28 l1 x20_2).f2.f2), .int .i64 ((rd_T28 l1 x20_2).f3), .int .i64 0, .bool false]) ?_ 6 _ rfl; (with_reducible repeat (first | refine kN_ ?_ _ | refine kD_ ?_ | refine kA_ ?_ _)); refine kP_ (cs := #[.int .i64 ((rd_T28 l1 x20_2).f0), .int .i64 ((rd_T28 l1 x20_2).f1), .bool ((rd_T28 l1 x20_2).f2.f0), .string ((rd_T28 l1 x20_2).f2.f1), .string ((rd_T28 l1 x20_2).f2.f2), .int .i64 0, .int .i64 0, .bool false]) ?_ 5 _ rfl; (with_reducible repeat (first | refine kN_ ?_ _ | refine kD_ ?_ | refine kA_ ?_ _)); refine kP_ (cs := #[.int .i64 ((rd_T28 l1 x20_2).f0), .int .i64 ((rd_T28 l1 x20_2).f1), .bool ((rd_T28 l1 x20_2).f2.f0), .string ((rd_T28 l1 x20_2).f2.f1), .string (⟨#[]⟩ : ByteArray), .int .i64 0, .int .i64 0, .bool false]) ?_ 4 _ rfl; (with_reducible repeat (first | refine kN_ ?_ _ | refine kD_ ?_ | refine kA_ ?_ _)); refine kP_ (cs := #[.int .i64 ((rd_T28 l1 x20_2).f0), .int .i64 ((rd_T28 l1 x20_2).f1), .bool ((rd_T28 l1 x20_2).f2.f0), .string (⟨#[]⟩ : ByteArray), .string (⟨#[]⟩ : ByteArray), .int .i64 0, .int .i64 0, .bool false]) ?_ 3 _ rfl; (with_reducible repeat (first | refine kN_ ?_ _ | refine kD_ ?_ | refine kA_ ?_ _)); refine kP_ (cs := #[.int .i64 ((rd_T28 l1 x20_2).f0), .int .i64 ((rd_T28 l1 x20_2).f1), .bool false, .string (⟨#[]⟩ : ByteArray), .string (⟨#[]⟩ : ByteArray), .int .i64 0, .int .i64 0, .bool false]) ?_ 2 _ rfl; (with_reducible repeat (first | refine kN_ ?_ _ | refine kD_ ?_ | refine kA_ ?_ _)); refine kP_ (cs := #[.int .i64 ((rd_T28 l1 x20_2).f0), .int .i64 0, .bool false, .string (⟨#[]⟩ : ByteArray), .string (⟨#[]⟩ : ByteArray), .int .i64 0, .int .i64 0, .bool false]) ?_ 1 _ rfl; (with_reducible repeat (first | refine kN_ ?_ _ | refine kD_ ?_ | refine kA_ ?_ _)); refine kP_ (cs := #[.int .i64 0, .int .i64 0, .bool false, .string (⟨#[]⟩ : ByteArray), .string (⟨#[]⟩ : ByteArray), .int .i64 0, .int .i64 0, .bool false]) ?_ 0 _ rfl; (with_reducible repeat (first | refine kN_ ?_ _ | refine kD_ ?_ | refine kA_ ?_ _)); exact BK248.out) hb); have n1_ := A0_.mk (bT_ (xB1_ HB GE248) hb); clear BK248 HB; have BK248 := n0_; have HB := n1_; clear n0_ n1_; (try clear hb); (try clear hb2); (try clear hk); (try clear hi)))
            (try simp only [Act.put, s1_, s2_, s3_])
            go_cut [37] (fun v37 wc => ∃ (kq : Nat) (x37_16 : Bool), v37 = .bool x37_16 ∧ A0_ (setoff_Check.j2 kq a0 l1 (l1.length : Int) x20_2 x37_16 ((rd_T28 l1 x20_2).f0) ((rd_T28 l1 x20_2).f1) ((rd_T28 l1 x20_2).f2.f0) ((rd_T28 l1 x20_2).f2.f1) ((rd_T28 l1 x20_2).f2.f2) ((rd_T28 l1 x20_2).f3) ((rd_T28 l1 x20_2).f4) ((rd_T28 l1 x20_2).f5) = some r) ∧ A0_ (kq ≤ k2) ∧ A0_ (wc.heap[gb248]? = some (.cells #[.int .i64 ((rd_T28 l1 x20_2).f0), .int .i64 ((rd_T28 l1 x20_2).f1), .bool ((rd_T28 l1 x20_2).f2.f0), .string ((rd_T28 l1 x20_2).f2.f1), .string ((rd_T28 l1 x20_2).f2.f2), .int .i64 ((rd_T28 l1 x20_2).f3), .int .i64 ((rd_T28 l1 x20_2).f4), .bool ((rd_T28 l1 x20_2).f5)] 28 (0, 0))) ∧ A0_ (Below w.heap.size w wc))
            case first =>
             have H := HC17.out
             clear HC17
             replace H := Option.bind_eq_some_iff.mp H
             obtain ⟨t251, A210, H⟩ := H
             (try dsimp only at H)
             have A21 := A0_.mk A210
             clear A210
             by_cases c22 : t251 = true
             ·subst c22
              have H1 : ((setoff_isDay.f ((rd_T28 l1 x20_2).f4)).bind fun t252 => (setoff_Check.j2 k2 a0 l1 (l1.length : Int) x20_2 (!t252) ((rd_T28 l1 x20_2).f0) ((rd_T28 l1 x20_2).f1) ((rd_T28 l1 x20_2).f2.f0) ((rd_T28 l1 x20_2).f2.f1) ((rd_T28 l1 x20_2).f2.f2) ((rd_T28 l1 x20_2).f3) ((rd_T28 l1 x20_2).f4) ((rd_T28 l1 x20_2).f5))) = some r := by rw [if_pos rfl] at H; exact H
              clear H
              have H := H1
              clear H1
              replace H := Option.bind_eq_some_iff.mp H
              obtain ⟨t252, A230, H⟩ := H
              (try dsimp only at H)
              have A23 := A0_.mk A230
              clear A230
              have H' := A0_.mk H
              clear H
              have hcz24_0 : w20.cell? ⟨gb248, 0, none⟩ = some (.int .i64 ((rd_T28 l1 x20_2).f0)) := (kc_ BK248.out 0).trans rfl
              have hcz24_1 : w20.cell? ⟨gb248, 1, none⟩ = some (.int .i64 ((rd_T28 l1 x20_2).f1)) := (kc_ BK248.out 1).trans rfl
              have hcz24_2 : w20.cell? ⟨gb248, 2, none⟩ = some (.bool ((rd_T28 l1 x20_2).f2.f0)) := (kc_ BK248.out 2).trans rfl
              have hcz24_3 : w20.cell? ⟨gb248, 3, none⟩ = some (.string ((rd_T28 l1 x20_2).f2.f1)) := (kc_ BK248.out 3).trans rfl
              have hcz24_4 : w20.cell? ⟨gb248, 4, none⟩ = some (.string ((rd_T28 l1 x20_2).f2.f2)) := (kc_ BK248.out 4).trans rfl
              have hcz24_5 : w20.cell? ⟨gb248, 5, none⟩ = some (.int .i64 ((rd_T28 l1 x20_2).f3)) := (kc_ BK248.out 5).trans rfl
              have hcz24_6 : w20.cell? ⟨gb248, 6, none⟩ = some (.int .i64 ((rd_T28 l1 x20_2).f4)) := (kc_ BK248.out 6).trans rfl
              have hcz24_7 : w20.cell? ⟨gb248, 7, none⟩ = some (.bool ((rd_T28 l1 x20_2).f5)) := (kc_ BK248.out 7).trans rfl
              have hfz24_0 := kF_ BK248.out 0
              have hfz24_1 := kF_ BK248.out 1
              have hfz24_2 := kF_ BK248.out 2
              have hfz24_3 := kF_ BK248.out 3
              have hfz24_4 := kF_ BK248.out 4
              have hfz24_5 := kF_ BK248.out 5
              have hfz24_6 := kF_ BK248.out 6
              have hfz24_7 := kF_ BK248.out 7
              go_wp2_with (first | ((with_reducible refine gC_ (f := 30) rfl ?_); refine goesL_ (some 40) rfl rfl Tryd.func30 (by kernel_rfl) rfl #[.int .i64 ((rd_T28 l1 x20_2).f3)] rfl mp_ ?_; (with_reducible refine (setoff_isDay.calls ((rd_T28 l1 x20_2).f3) true _ A21.out).mono ?_); rintro e w' ⟨rfl, ⟨nd, rfl⟩⟩; refine ⟨_, rfl, ?_⟩) | (go_at_call 30; (with_reducible refine (setoff_isDay.calls ((rd_T28 l1 x20_2).f4) t252 _ A23.out).mono ?_); rintro e w' ⟨rfl, ⟨nd, rfl⟩⟩))
              go_meet
              case rel => exact ⟨_, (!t252), (by first | rfl | (simp; done) | (simp [*]; done)), H', ⟨by have := HJ2.out; have := HK2.out; first | omega | exact Nat.le_refl _⟩, ⟨by (with_reducible repeat (first | refine kN_ ?_ _ | refine kD_ ?_ | refine kA_ ?_ _)); exact BK248.out⟩, ⟨xB1_ HB GE248⟩⟩
             ·replace c22 := Bool.eq_false_iff.mpr c22
              subst c22
              have H1 : (setoff_Check.j2 k2 a0 l1 (l1.length : Int) x20_2 true ((rd_T28 l1 x20_2).f0) ((rd_T28 l1 x20_2).f1) ((rd_T28 l1 x20_2).f2.f0) ((rd_T28 l1 x20_2).f2.f1) ((rd_T28 l1 x20_2).f2.f2) ((rd_T28 l1 x20_2).f3) ((rd_T28 l1 x20_2).f4) ((rd_T28 l1 x20_2).f5)) = some r := by rw [if_neg (show ¬ (false = true) by decide)] at H; exact H
              clear H
              have H := H1
              clear H1
              have H' := A0_.mk H
              clear H
              have hcz25_0 : w20.cell? ⟨gb248, 0, none⟩ = some (.int .i64 ((rd_T28 l1 x20_2).f0)) := (kc_ BK248.out 0).trans rfl
              have hcz25_1 : w20.cell? ⟨gb248, 1, none⟩ = some (.int .i64 ((rd_T28 l1 x20_2).f1)) := (kc_ BK248.out 1).trans rfl
              have hcz25_2 : w20.cell? ⟨gb248, 2, none⟩ = some (.bool ((rd_T28 l1 x20_2).f2.f0)) := (kc_ BK248.out 2).trans rfl
              have hcz25_3 : w20.cell? ⟨gb248, 3, none⟩ = some (.string ((rd_T28 l1 x20_2).f2.f1)) := (kc_ BK248.out 3).trans rfl
              have hcz25_4 : w20.cell? ⟨gb248, 4, none⟩ = some (.string ((rd_T28 l1 x20_2).f2.f2)) := (kc_ BK248.out 4).trans rfl
              have hcz25_5 : w20.cell? ⟨gb248, 5, none⟩ = some (.int .i64 ((rd_T28 l1 x20_2).f3)) := (kc_ BK248.out 5).trans rfl
              have hcz25_6 : w20.cell? ⟨gb248, 6, none⟩ = some (.int .i64 ((rd_T28 l1 x20_2).f4)) := (kc_ BK248.out 6).trans rfl
              have hcz25_7 : w20.cell? ⟨gb248, 7, none⟩ = some (.bool ((rd_T28 l1 x20_2).f5)) := (kc_ BK248.out 7).trans rfl
              have hfz25_0 := kF_ BK248.out 0
              have hfz25_1 := kF_ BK248.out 1
              have hfz25_2 := kF_ BK248.out 2
              have hfz25_3 := kF_ BK248.out 3
              have hfz25_4 := kF_ BK248.out 4
              have hfz25_5 := kF_ BK248.out 5
              have hfz25_6 := kF_ BK248.out 6
              have hfz25_7 := kF_ BK248.out 7
              go_wp2_with (first | ((with_reducible refine gC_ (f := 30) rfl ?_); refine goesL_ (some 40) rfl rfl Tryd.func30 (by kernel_rfl) rfl #[.int .i64 ((rd_T28 l1 x20_2).f3)] rfl mp_ ?_; (with_reducible refine (setoff_isDay.calls ((rd_T28 l1 x20_2).f3) false _ A21.out).mono ?_); rintro e w' ⟨rfl, ⟨nd, rfl⟩⟩; refine ⟨_, rfl, ?_⟩))
              go_meet
              case rel => exact ⟨_, (true), (by first | rfl | (simp; done) | (simp [*]; done)), H', ⟨by have := HJ2.out; have := HK2.out; first | omega | exact Nat.le_refl _⟩, ⟨by (with_reducible repeat (first | refine kN_ ?_ _ | refine kD_ ?_ | refine kA_ ?_ _)); exact BK248.out⟩, ⟨xB1_ HB GE248⟩⟩
            case rest =>
             clear HC17
             try clear c1
             try clear c2
             try clear p2
             try clear q2
             try clear hx2
             try clear c3
             try clear c4
             try clear c4b0
             try clear c4b1
             try clear c5
             try clear c6
             try clear c6b0
             try clear c6b1
             try clear c7
             try clear c7b0
             try clear c8
             try clear c8b0
             try clear c9
             try clear c9b0
             try clear c11
             try clear c13
             try clear c13b0
             try clear c15
             try clear c19
             try clear c22
             try clear p24
             try clear q24
             try clear hx24
             try clear hcz15_0
             try clear hcz15_1
             try clear hcz15_2
             try clear hcz15_3
             try clear hcz15_4
             try clear hcz15_5
             try clear hcz15_6
             try clear hcz15_7
             try clear hcz19_0
             try clear hcz19_1
             try clear hcz19_2
             try clear hcz19_3
             try clear hcz19_4
             try clear hcz19_5
             try clear hcz19_6
             try clear hcz19_7
             try clear hcz24_0
             try clear hcz24_1
             try clear hcz24_2
             try clear hcz24_3
             try clear hcz24_4
             try clear hcz24_5
             try clear hcz24_6
             try clear hcz24_7
             try clear hcz25_0
             try clear hcz25_1
             try clear hcz25_2
             try clear hcz25_3
             try clear hcz25_4
             try clear hcz25_5
             try clear hcz25_6
             try clear hcz25_7
             try clear hfz15_0
             try clear hfz15_1
             try clear hfz15_2
             try clear hfz15_3
             try clear hfz15_4
             try clear hfz15_5
             try clear hfz15_6
             try clear hfz15_7
             try clear hfz19_0
             try clear hfz19_1
             try clear hfz19_2
             try clear hfz19_3
             try clear hfz19_4
             try clear hfz19_5
             try clear hfz19_6
             try clear hfz19_7
             try clear hfz24_0
             try clear hfz24_1
             try clear hfz24_2
             try clear hfz24_3
             try clear hfz24_4
             try clear hfz24_5
             try clear hfz24_6
             try clear hfz24_7
             try clear hfz25_0
             try clear hfz25_1
             try clear hfz25_2
             try clear hfz25_3
             try clear hfz25_4
             try clear hfz25_5
             try clear hfz25_6
             try clear hfz25_7
             try clear hx247_0
             try clear hx247_1
             try clear hx247_2
             try clear hx247_3
             try clear hx247_4
             try clear hx247_5
             try clear hx247_6
             try clear hx247_7
             try clear p2
             try clear p247
             try clear q247
             obtain ⟨kq, x37_16, rfl, HA, HJ16, BK248, HB⟩ := hcut
             cases kq with
             | zero => exact absurd HA.out (by simp [setoff_Check.j2])
             | succ kj16 =>
              have H := HA.out
              clear HA
              simp only [setoff_Check.j2] at H
              by_cases c26 : x37_16 = true
              ·subst c26
               have H1 : (none) = some r := by rw [if_pos rfl] at H; exact H
               clear H
               have H := H1
               clear H1
               exact absurd H (by simp)
              ·replace c26 := Bool.eq_false_iff.mpr c26
               subst c26
               have H1 : (if ((rd_T28 l1 x20_2).f4) < ((rd_T28 l1 x20_2).f3) then (none) else (setoff_Check.l0 kj16 a0 l1 (l1.length : Int) (wrap64 (x20_2 + 1)))) = some r := by rw [if_neg (show ¬ (false = true) by decide)] at H; exact H
               clear H
               have H := H1
               clear H1
               by_cases c27 : ((rd_T28 l1 x20_2).f4) < ((rd_T28 l1 x20_2).f3)
               ·rw [if_pos c27] at H
                have c27b0 : decide (((rd_T28 l1 x20_2).f4) < ((rd_T28 l1 x20_2).f3)) = true := decide_eq_true c27
                clear c27
                exact absurd H (by simp)
               ·rw [if_neg c27] at H
                have c27b0 : decide (((rd_T28 l1 x20_2).f4) < ((rd_T28 l1 x20_2).f3)) = false := decide_eq_false c27
                clear c27
                have H' := A0_.mk H
                clear H
                have hcz29_0 : wc.cell? ⟨gb248, 0, none⟩ = some (.int .i64 ((rd_T28 l1 x20_2).f0)) := (kc_ BK248.out 0).trans rfl
                have hcz29_1 : wc.cell? ⟨gb248, 1, none⟩ = some (.int .i64 ((rd_T28 l1 x20_2).f1)) := (kc_ BK248.out 1).trans rfl
                have hcz29_2 : wc.cell? ⟨gb248, 2, none⟩ = some (.bool ((rd_T28 l1 x20_2).f2.f0)) := (kc_ BK248.out 2).trans rfl
                have hcz29_3 : wc.cell? ⟨gb248, 3, none⟩ = some (.string ((rd_T28 l1 x20_2).f2.f1)) := (kc_ BK248.out 3).trans rfl
                have hcz29_4 : wc.cell? ⟨gb248, 4, none⟩ = some (.string ((rd_T28 l1 x20_2).f2.f2)) := (kc_ BK248.out 4).trans rfl
                have hcz29_5 : wc.cell? ⟨gb248, 5, none⟩ = some (.int .i64 ((rd_T28 l1 x20_2).f3)) := (kc_ BK248.out 5).trans rfl
                have hcz29_6 : wc.cell? ⟨gb248, 6, none⟩ = some (.int .i64 ((rd_T28 l1 x20_2).f4)) := (kc_ BK248.out 6).trans rfl
                have hcz29_7 : wc.cell? ⟨gb248, 7, none⟩ = some (.bool ((rd_T28 l1 x20_2).f5)) := (kc_ BK248.out 7).trans rfl
                have hfz29_0 := kF_ BK248.out 0
                have hfz29_1 := kF_ BK248.out 1
                have hfz29_2 := kF_ BK248.out 2
                have hfz29_3 := kF_ BK248.out 3
                have hfz29_4 := kF_ BK248.out 4
                have hfz29_5 := kF_ BK248.out 5
                have hfz29_6 := kF_ BK248.out 6
                have hfz29_7 := kF_ BK248.out 7
                go_wp2
                (try simp only [add_plain])
                go_roundg kj16
                case measure => have := HJ2.out; have := HK2.out; have := HJ16.out; omega
                case rel => exact ⟨(wrap64 (x20_2 + 1)), (by first | rfl | (simp; done) | (simp [*]; done)), H', ⟨by have := HJ2.out; have := HK2.out; have := HJ16.out; omega⟩, ⟨xB1_ HB GE248⟩⟩
          ·replace c11 := Bool.eq_false_iff.mpr c11
           subst c11
           have H1 : (none) = some r := by rw [if_neg (show ¬ (false = true) by decide)] at H; exact H
           clear H
           have H := H1
           clear H1
           exact absurd H (by simp)
         ·rw [if_neg c9] at H
          exact absurd H (by simp)
        ·rw [if_neg c8] at H
         exact absurd H (by simp)
       ·rw [if_neg c7] at H
        have c7b0 : decide (x20_2 < (l1.length : Int)) = false := decide_eq_false c7
        clear c7
        obtain rfl := Option.some.inj H
        go_wp2
        go_ret
        exact ⟨rE_, xB_ HB⟩
def setoff_check.f (k : Nat) (a0 : Int) (l1 : List (S28)) (a2 : Int) (a3 : Int) : Option (Int) := (setoff_Check.f k a0 l1).bind fun t253 => (if t253 = 0 then ((setoff_isDay.f a2).bind fun t254 => (if t254 = true then ((setoff_isDay.f a3).bind fun t255 => (if t255 = true then (some 0) else (none))) else (none))) else (none))
theorem setoff_check.mono : ∀ a0 a1 a2 a3 k, LeO (setoff_check.f k a0 a1 a2 a3) (setoff_check.f (k + 1) a0 a1 a2 a3) := by
 intro a0 a1 a2 a3 k
 unfold setoff_check.f
 repeat' first
   | (with_reducible exact setoff_Check.mono _ _ _)
   | (with_reducible exact LeO.refl _)
   | (with_reducible exact LeO.none _)
   | (with_reducible refine LeO.ite ?_ ?_)
   | (with_reducible refine LeO.bind ?_ (fun _ => ?_))
set_option maxHeartbeats 8000000 in
set_option maxRecDepth 100000 in
theorem setoff_check.calls (k : Nat) (a0 : Int) (A1 : Option Addr) (c1 : Nat) (l1 : List (S28)) (a2 : Int) (a3 : Int) (r : Int) (w : World) (hr1 : Kd.C k28 w A1 l1.length l1) (hc1 : l1.length ≤ c1) (h : setoff_check.f k a0 l1 a2 a3 = some r) :
  Calls Tryd.prog 36 #[.int .i64 a0, .slice A1 l1.length c1, .int .i64 a2, .int .i64 a3] w fun e w' => e = .returned (.int .i64 r) ∧ Below w.heap.size w w' := by
 have HR1 := A0_.mk hr1
 have HC1 := A0_.mk hc1
 clear hr1 hc1
 have HB := A0_.mk (Below.refl w.heap.size w)
 have H := h
 unfold setoff_check.f at H
 clear h
 replace H := Option.bind_eq_some_iff.mp H
 obtain ⟨t253, A50, H⟩ := H
 (try dsimp only at H)
 have A5 := A0_.mk A50
 clear A50
 by_cases c6 : t253 = 0
 ·rw [if_pos c6] at H
  have c6b0 : (t253 == 0) = true := beq_iff_eq.mpr c6
  have c6b1 : (t253 != 0) = false := bne_eq_false_iff_eq.mpr c6
  clear c6
  replace H := Option.bind_eq_some_iff.mp H
  obtain ⟨t254, A70, H⟩ := H
  (try dsimp only at H)
  have A7 := A0_.mk A70
  clear A70
  by_cases c8 : t254 = true
  ·subst c8
   have H1 : ((setoff_isDay.f a3).bind fun t255 => (if t255 = true then (some 0) else (none))) = some r := by rw [if_pos rfl] at H; exact H
   clear H
   have H := H1
   clear H1
   replace H := Option.bind_eq_some_iff.mp H
   obtain ⟨t255, A90, H⟩ := H
   (try dsimp only at H)
   have A9 := A0_.mk A90
   clear A90
   by_cases c10 : t255 = true
   ·subst c10
    have H1 : (some 0) = some r := by rw [if_pos rfl] at H; exact H
    clear H
    have H := H1
    clear H1
    obtain rfl := Option.some.inj H
    go_enter Tryd.func36, Tryd.ntmps36
    go_wp2_with (first | ((with_reducible refine gC_ (f := 15) rfl ?_); refine goesL_ (some 12) rfl rfl Tryd.func15 (by kernel_rfl) rfl #[.int .i64 a0, .slice A1 l1.length c1] rfl mp_ ?_; (with_reducible refine (setoff_Check.calls k a0 _ _ l1 t253 _ ?side1 ?side2 A5.out).mono ?_); (case side1 => repeat (first | exact HR1.out | (with_reducible refine Kd.C_alloc ?_ _) | (with_reducible refine Kd.C_drewN ?_ _) | (with_reducible refine Kd.C_drew ?_))); (case side2 => exact HC1.out); rintro e w11 ⟨rfl, hb⟩; refine ⟨_, rfl, ?_⟩; have n0_ := A0_.mk (bT_ (xB_ HB) hb); clear HB; have HB := n0_; clear n0_; (try clear hb); (try clear hb2); (try clear hk); (try clear hi)) | ((with_reducible refine gC_ (f := 30) rfl ?_); refine goesL_ (some 17) rfl rfl Tryd.func30 (by kernel_rfl) rfl #[.int .i64 a2] rfl mp_ ?_; (with_reducible refine (setoff_isDay.calls a2 true _ A7.out).mono ?_); rintro e w' ⟨rfl, ⟨nd, rfl⟩⟩; refine ⟨_, rfl, ?_⟩) | (go_at_call 30; (with_reducible refine (setoff_isDay.calls a3 true _ A9.out).mono ?_); rintro e w' ⟨rfl, ⟨nd, rfl⟩⟩))
    go_ret
    exact ⟨rE_, xB_ HB⟩
   ·replace c10 := Bool.eq_false_iff.mpr c10
    subst c10
    have H1 : (none) = some r := by rw [if_neg (show ¬ (false = true) by decide)] at H; exact H
    clear H
    have H := H1
    clear H1
    exact absurd H (by simp)
  ·replace c8 := Bool.eq_false_iff.mpr c8
   subst c8
   have H1 : (none) = some r := by rw [if_neg (show ¬ (false = true) by decide)] at H; exact H
   clear H
   have H := H1
   clear H1
   exact absurd H (by simp)
 ·rw [if_neg c6] at H
  have c6b0 : (t253 == 0) = false := beq_eq_false_iff_ne.mpr c6
  have c6b1 : (t253 != 0) = true := bne_iff_ne.mpr c6
  exact absurd H (by simp)
def setoff_Eligible.f (a0_0 : Int) (a0_1 : Int) (a0_2 : Bool) (a0_3 : ByteArray) (a0_4 : ByteArray) (a0_5 : Int) (a0_6 : Int) (a0_7 : Bool) (a1 : Int) (a2 : Int) : Option (Bool) := (setoff_isDay.f a1).bind fun t106 => (if t106 = true then ((setoff_isDay.f a2).bind fun t107 => (if t107 = true then (if a0_7 = true then (some false) else (if a0_5 ≤ a1 then (if a0_6 = a0_5 then (some true) else (some (decide (a0_6 < (wrap64 (a1 - a2)))))) else (some false))) else (some false))) else (some false))
set_option maxHeartbeats 8000000 in
set_option maxRecDepth 100000 in
theorem setoff_Eligible.calls (a0_0 : Int) (a0_1 : Int) (a0_2 : Bool) (a0_3 : ByteArray) (a0_4 : ByteArray) (a0_5 : Int) (a0_6 : Int) (a0_7 : Bool) (a1 : Int) (a2 : Int) (r : Bool) (w : World) (h : setoff_Eligible.f a0_0 a0_1 a0_2 a0_3 a0_4 a0_5 a0_6 a0_7 a1 a2 = some r) :
  Calls Tryd.prog 13 #[.agg #[.int .i64 a0_0, .int .i64 a0_1, .bool a0_2, .string a0_3, .string a0_4, .int .i64 a0_5, .int .i64 a0_6, .bool a0_7], .int .i64 a1, .int .i64 a2] w fun e w' => e = .returned (.bool r) ∧ Below w.heap.size w w' := by
 have hu28 := Tryd.underlying28
 have HB := A0_.mk (Below.refl w.heap.size w)
 have H := h
 unfold setoff_Eligible.f at H
 clear h
 replace H := Option.bind_eq_some_iff.mp H
 obtain ⟨t106, A40, H⟩ := H
 (try dsimp only at H)
 have A4 := A0_.mk A40
 clear A40
 by_cases c5 : t106 = true
 ·subst c5
  have H1 : ((setoff_isDay.f a2).bind fun t107 => (if t107 = true then (if a0_7 = true then (some false) else (if a0_5 ≤ a1 then (if a0_6 = a0_5 then (some true) else (some (decide (a0_6 < (wrap64 (a1 - a2)))))) else (some false))) else (some false))) = some r := by rw [if_pos rfl] at H; exact H
  clear H
  have H := H1
  clear H1
  replace H := Option.bind_eq_some_iff.mp H
  obtain ⟨t107, A60, H⟩ := H
  (try dsimp only at H)
  have A6 := A0_.mk A60
  clear A60
  by_cases c7 : t107 = true
  ·subst c7
   have H1 : (if a0_7 = true then (some false) else (if a0_5 ≤ a1 then (if a0_6 = a0_5 then (some true) else (some (decide (a0_6 < (wrap64 (a1 - a2)))))) else (some false))) = some r := by rw [if_pos rfl] at H; exact H
   clear H
   have H := H1
   clear H1
   by_cases c8 : a0_7 = true
   ·subst c8
    have H1 : (some false) = some r := by rw [if_pos rfl] at H; exact H
    clear H
    have H := H1
    clear H1
    obtain rfl := Option.some.inj H
    go_enter Tryd.func13, Tryd.ntmps13
    go_wp2_with (first | ((with_reducible refine gD_ (N := 3) rfl ?_); refine bE_ ?hg (N := 3) ?hd (cs := #[.int .i64 a0_0, .int .i64 a0_1, .bool a0_2, .string a0_3, .string a0_4, .int .i64 a0_5, .int .i64 a0_6, .bool true]) (t := 28) ?hr ?_; (case hd => rfl); (case hg => rfl); (case hr => first | (go_simp; done) | (go_simp; rfl)); intro gb105 hg w9 hbox hb; have n0_ := A0_.mk (bT_ (xB_ HB) hb); have n1_ := A0_.mk (hbox); have n2_ := A0_.mk ((by rw [hg]; exact (bZ_ (xB_ HB)) : w.heap.size ≤ gb105)); have n3_ := A0_.mk ((by rw [hg]; exact (bZ_ (xB_ HB)) : w.heap.size ≤ gb105)); clear HB; have HB := n0_; have BK105 := n1_; have GW105 := n2_; have GE105 := n3_; clear n0_ n1_ n2_ n3_; clear hb hbox hg) | ((with_reducible refine gC_ (f := 30) rfl ?_); refine goesL_ (some 8) rfl rfl Tryd.func30 (by kernel_rfl) rfl #[.int .i64 a1] rfl mp_ ?_; (with_reducible refine (setoff_isDay.calls a1 true _ A4.out).mono ?_); rintro e w' ⟨rfl, ⟨nd, rfl⟩⟩; refine ⟨_, rfl, ?_⟩) | (go_at_call 30; (with_reducible refine (setoff_isDay.calls a2 true _ A6.out).mono ?_); rintro e w' ⟨rfl, ⟨nd, rfl⟩⟩; have hcz10_0 : w9.cell? ⟨gb105, 0, none⟩ = some (.int .i64 a0_0) := (kc_ BK105.out 0).trans rfl; have hcz10_1 : w9.cell? ⟨gb105, 1, none⟩ = some (.int .i64 a0_1) := (kc_ BK105.out 1).trans rfl; have hcz10_2 : w9.cell? ⟨gb105, 2, none⟩ = some (.bool a0_2) := (kc_ BK105.out 2).trans rfl; have hcz10_3 : w9.cell? ⟨gb105, 3, none⟩ = some (.string a0_3) := (kc_ BK105.out 3).trans rfl; have hcz10_4 : w9.cell? ⟨gb105, 4, none⟩ = some (.string a0_4) := (kc_ BK105.out 4).trans rfl; have hcz10_5 : w9.cell? ⟨gb105, 5, none⟩ = some (.int .i64 a0_5) := (kc_ BK105.out 5).trans rfl; have hcz10_6 : w9.cell? ⟨gb105, 6, none⟩ = some (.int .i64 a0_6) := (kc_ BK105.out 6).trans rfl; have hcz10_7 : w9.cell? ⟨gb105, 7, none⟩ = some (.bool true) := (kc_ BK105.out 7).trans rfl; have hfz10_0 := kF_ BK105.out 0; have hfz10_1 := kF_ BK105.out 1; have hfz10_2 := kF_ BK105.out 2; have hfz10_3 := kF_ BK105.out 3; have hfz10_4 := kF_ BK105.out 4; have hfz10_5 := kF_ BK105.out 5; have hfz10_6 := kF_ BK105.out 6; have hfz10_7 := kF_ BK105.out 7))
    go_ret
    exact ⟨rE_, xB1_ HB GE105⟩
   ·replace c8 := Bool.eq_false_iff.mpr c8
    subst c8
    have H1 : (if a0_5 ≤ a1 then (if a0_6 = a0_5 then (some true) else (some (decide (a0_6 < (wrap64 (a1 - a2)))))) else (some false)) = some r := by rw [if_neg (show ¬ (false = true) by decide)] at H; exact H
    clear H
    have H := H1
    clear H1
    by_cases c11 : a0_5 ≤ a1
    ·rw [if_pos c11] at H
     have c11b0 : decide (a0_5 ≤ a1) = true := decide_eq_true c11
     clear c11
     by_cases c12 : a0_6 = a0_5
     ·rw [if_pos c12] at H
      have c12b0 : (a0_6 == a0_5) = true := beq_iff_eq.mpr c12
      have c12b1 : (a0_6 != a0_5) = false := bne_eq_false_iff_eq.mpr c12
      clear c12
      obtain rfl := Option.some.inj H
      go_enter Tryd.func13, Tryd.ntmps13
      go_wp2_with (first | ((with_reducible refine gD_ (N := 3) rfl ?_); refine bE_ ?hg (N := 3) ?hd (cs := #[.int .i64 a0_0, .int .i64 a0_1, .bool a0_2, .string a0_3, .string a0_4, .int .i64 a0_5, .int .i64 a0_6, .bool false]) (t := 28) ?hr ?_; (case hd => rfl); (case hg => rfl); (case hr => first | (go_simp; done) | (go_simp; rfl)); intro gb105 hg w13 hbox hb; have n0_ := A0_.mk (bT_ (xB_ HB) hb); have n1_ := A0_.mk (hbox); have n2_ := A0_.mk ((by rw [hg]; exact (bZ_ (xB_ HB)) : w.heap.size ≤ gb105)); have n3_ := A0_.mk ((by rw [hg]; exact (bZ_ (xB_ HB)) : w.heap.size ≤ gb105)); clear HB; have HB := n0_; have BK105 := n1_; have GW105 := n2_; have GE105 := n3_; clear n0_ n1_ n2_ n3_; clear hb hbox hg) | ((with_reducible refine gC_ (f := 30) rfl ?_); refine goesL_ (some 8) rfl rfl Tryd.func30 (by kernel_rfl) rfl #[.int .i64 a1] rfl mp_ ?_; (with_reducible refine (setoff_isDay.calls a1 true _ A4.out).mono ?_); rintro e w' ⟨rfl, ⟨nd, rfl⟩⟩; refine ⟨_, rfl, ?_⟩) | (go_at_call 30; (with_reducible refine (setoff_isDay.calls a2 true _ A6.out).mono ?_); rintro e w' ⟨rfl, ⟨nd, rfl⟩⟩; have hcz14_0 : w13.cell? ⟨gb105, 0, none⟩ = some (.int .i64 a0_0) := (kc_ BK105.out 0).trans rfl; have hcz14_1 : w13.cell? ⟨gb105, 1, none⟩ = some (.int .i64 a0_1) := (kc_ BK105.out 1).trans rfl; have hcz14_2 : w13.cell? ⟨gb105, 2, none⟩ = some (.bool a0_2) := (kc_ BK105.out 2).trans rfl; have hcz14_3 : w13.cell? ⟨gb105, 3, none⟩ = some (.string a0_3) := (kc_ BK105.out 3).trans rfl; have hcz14_4 : w13.cell? ⟨gb105, 4, none⟩ = some (.string a0_4) := (kc_ BK105.out 4).trans rfl; have hcz14_5 : w13.cell? ⟨gb105, 5, none⟩ = some (.int .i64 a0_5) := (kc_ BK105.out 5).trans rfl; have hcz14_6 : w13.cell? ⟨gb105, 6, none⟩ = some (.int .i64 a0_6) := (kc_ BK105.out 6).trans rfl; have hcz14_7 : w13.cell? ⟨gb105, 7, none⟩ = some (.bool false) := (kc_ BK105.out 7).trans rfl; have hfz14_0 := kF_ BK105.out 0; have hfz14_1 := kF_ BK105.out 1; have hfz14_2 := kF_ BK105.out 2; have hfz14_3 := kF_ BK105.out 3; have hfz14_4 := kF_ BK105.out 4; have hfz14_5 := kF_ BK105.out 5; have hfz14_6 := kF_ BK105.out 6; have hfz14_7 := kF_ BK105.out 7))
      go_ret
      exact ⟨rE_, xB1_ HB GE105⟩
     ·rw [if_neg c12] at H
      have c12b0 : (a0_6 == a0_5) = false := beq_eq_false_iff_ne.mpr c12
      have c12b1 : (a0_6 != a0_5) = true := bne_iff_ne.mpr c12
      obtain rfl := Option.some.inj H
      go_enter Tryd.func13, Tryd.ntmps13
      go_wp2_with (first | ((with_reducible refine gD_ (N := 3) rfl ?_); refine bE_ ?hg (N := 3) ?hd (cs := #[.int .i64 a0_0, .int .i64 a0_1, .bool a0_2, .string a0_3, .string a0_4, .int .i64 a0_5, .int .i64 a0_6, .bool false]) (t := 28) ?hr ?_; (case hd => rfl); (case hg => rfl); (case hr => first | (go_simp; done) | (go_simp; rfl)); intro gb105 hg w15 hbox hb; have n0_ := A0_.mk (bT_ (xB_ HB) hb); have n1_ := A0_.mk (hbox); have n2_ := A0_.mk ((by rw [hg]; exact (bZ_ (xB_ HB)) : w.heap.size ≤ gb105)); have n3_ := A0_.mk ((by rw [hg]; exact (bZ_ (xB_ HB)) : w.heap.size ≤ gb105)); clear HB; have HB := n0_; have BK105 := n1_; have GW105 := n2_; have GE105 := n3_; clear n0_ n1_ n2_ n3_; clear hb hbox hg) | ((with_reducible refine gC_ (f := 30) rfl ?_); refine goesL_ (some 8) rfl rfl Tryd.func30 (by kernel_rfl) rfl #[.int .i64 a1] rfl mp_ ?_; (with_reducible refine (setoff_isDay.calls a1 true _ A4.out).mono ?_); rintro e w' ⟨rfl, ⟨nd, rfl⟩⟩; refine ⟨_, rfl, ?_⟩) | (go_at_call 30; (with_reducible refine (setoff_isDay.calls a2 true _ A6.out).mono ?_); rintro e w' ⟨rfl, ⟨nd, rfl⟩⟩; have hcz16_0 : w15.cell? ⟨gb105, 0, none⟩ = some (.int .i64 a0_0) := (kc_ BK105.out 0).trans rfl; have hcz16_1 : w15.cell? ⟨gb105, 1, none⟩ = some (.int .i64 a0_1) := (kc_ BK105.out 1).trans rfl; have hcz16_2 : w15.cell? ⟨gb105, 2, none⟩ = some (.bool a0_2) := (kc_ BK105.out 2).trans rfl; have hcz16_3 : w15.cell? ⟨gb105, 3, none⟩ = some (.string a0_3) := (kc_ BK105.out 3).trans rfl; have hcz16_4 : w15.cell? ⟨gb105, 4, none⟩ = some (.string a0_4) := (kc_ BK105.out 4).trans rfl; have hcz16_5 : w15.cell? ⟨gb105, 5, none⟩ = some (.int .i64 a0_5) := (kc_ BK105.out 5).trans rfl; have hcz16_6 : w15.cell? ⟨gb105, 6, none⟩ = some (.int .i64 a0_6) := (kc_ BK105.out 6).trans rfl; have hcz16_7 : w15.cell? ⟨gb105, 7, none⟩ = some (.bool false) := (kc_ BK105.out 7).trans rfl; have hfz16_0 := kF_ BK105.out 0; have hfz16_1 := kF_ BK105.out 1; have hfz16_2 := kF_ BK105.out 2; have hfz16_3 := kF_ BK105.out 3; have hfz16_4 := kF_ BK105.out 4; have hfz16_5 := kF_ BK105.out 5; have hfz16_6 := kF_ BK105.out 6; have hfz16_7 := kF_ BK105.out 7))
      go_ret
      exact ⟨rE_, xB1_ HB GE105⟩
    ·rw [if_neg c11] at H
     have c11b0 : decide (a0_5 ≤ a1) = false := decide_eq_false c11
     clear c11
     obtain rfl := Option.some.inj H
     go_enter Tryd.func13, Tryd.ntmps13
     go_wp2_with (first | ((with_reducible refine gD_ (N := 3) rfl ?_); refine bE_ ?hg (N := 3) ?hd (cs := #[.int .i64 a0_0, .int .i64 a0_1, .bool a0_2, .string a0_3, .string a0_4, .int .i64 a0_5, .int .i64 a0_6, .bool false]) (t := 28) ?hr ?_; (case hd => rfl); (case hg => rfl); (case hr => first | (go_simp; done) | (go_simp; rfl)); intro gb105 hg w17 hbox hb; have n0_ := A0_.mk (bT_ (xB_ HB) hb); have n1_ := A0_.mk (hbox); have n2_ := A0_.mk ((by rw [hg]; exact (bZ_ (xB_ HB)) : w.heap.size ≤ gb105)); have n3_ := A0_.mk ((by rw [hg]; exact (bZ_ (xB_ HB)) : w.heap.size ≤ gb105)); clear HB; have HB := n0_; have BK105 := n1_; have GW105 := n2_; have GE105 := n3_; clear n0_ n1_ n2_ n3_; clear hb hbox hg) | ((with_reducible refine gC_ (f := 30) rfl ?_); refine goesL_ (some 8) rfl rfl Tryd.func30 (by kernel_rfl) rfl #[.int .i64 a1] rfl mp_ ?_; (with_reducible refine (setoff_isDay.calls a1 true _ A4.out).mono ?_); rintro e w' ⟨rfl, ⟨nd, rfl⟩⟩; refine ⟨_, rfl, ?_⟩) | (go_at_call 30; (with_reducible refine (setoff_isDay.calls a2 true _ A6.out).mono ?_); rintro e w' ⟨rfl, ⟨nd, rfl⟩⟩; have hcz18_0 : w17.cell? ⟨gb105, 0, none⟩ = some (.int .i64 a0_0) := (kc_ BK105.out 0).trans rfl; have hcz18_1 : w17.cell? ⟨gb105, 1, none⟩ = some (.int .i64 a0_1) := (kc_ BK105.out 1).trans rfl; have hcz18_2 : w17.cell? ⟨gb105, 2, none⟩ = some (.bool a0_2) := (kc_ BK105.out 2).trans rfl; have hcz18_3 : w17.cell? ⟨gb105, 3, none⟩ = some (.string a0_3) := (kc_ BK105.out 3).trans rfl; have hcz18_4 : w17.cell? ⟨gb105, 4, none⟩ = some (.string a0_4) := (kc_ BK105.out 4).trans rfl; have hcz18_5 : w17.cell? ⟨gb105, 5, none⟩ = some (.int .i64 a0_5) := (kc_ BK105.out 5).trans rfl; have hcz18_6 : w17.cell? ⟨gb105, 6, none⟩ = some (.int .i64 a0_6) := (kc_ BK105.out 6).trans rfl; have hcz18_7 : w17.cell? ⟨gb105, 7, none⟩ = some (.bool false) := (kc_ BK105.out 7).trans rfl; have hfz18_0 := kF_ BK105.out 0; have hfz18_1 := kF_ BK105.out 1; have hfz18_2 := kF_ BK105.out 2; have hfz18_3 := kF_ BK105.out 3; have hfz18_4 := kF_ BK105.out 4; have hfz18_5 := kF_ BK105.out 5; have hfz18_6 := kF_ BK105.out 6; have hfz18_7 := kF_ BK105.out 7))
     go_ret
     exact ⟨rE_, xB1_ HB GE105⟩
  ·replace c7 := Bool.eq_false_iff.mpr c7
   subst c7
   have H1 : (some false) = some r := by rw [if_neg (show ¬ (false = true) by decide)] at H; exact H
   clear H
   have H := H1
   clear H1
   obtain rfl := Option.some.inj H
   go_enter Tryd.func13, Tryd.ntmps13
   go_wp2_with (first | ((with_reducible refine gD_ (N := 3) rfl ?_); refine bE_ ?hg (N := 3) ?hd (cs := #[.int .i64 a0_0, .int .i64 a0_1, .bool a0_2, .string a0_3, .string a0_4, .int .i64 a0_5, .int .i64 a0_6, .bool a0_7]) (t := 28) ?hr ?_; (case hd => rfl); (case hg => rfl); (case hr => first | (go_simp; done) | (go_simp; rfl)); intro gb105 hg w19 hbox hb; have n0_ := A0_.mk (bT_ (xB_ HB) hb); have n1_ := A0_.mk (hbox); have n2_ := A0_.mk ((by rw [hg]; exact (bZ_ (xB_ HB)) : w.heap.size ≤ gb105)); have n3_ := A0_.mk ((by rw [hg]; exact (bZ_ (xB_ HB)) : w.heap.size ≤ gb105)); clear HB; have HB := n0_; have BK105 := n1_; have GW105 := n2_; have GE105 := n3_; clear n0_ n1_ n2_ n3_; clear hb hbox hg) | ((with_reducible refine gC_ (f := 30) rfl ?_); refine goesL_ (some 8) rfl rfl Tryd.func30 (by kernel_rfl) rfl #[.int .i64 a1] rfl mp_ ?_; (with_reducible refine (setoff_isDay.calls a1 true _ A4.out).mono ?_); rintro e w' ⟨rfl, ⟨nd, rfl⟩⟩; refine ⟨_, rfl, ?_⟩) | (go_at_call 30; (with_reducible refine (setoff_isDay.calls a2 false _ A6.out).mono ?_); rintro e w' ⟨rfl, ⟨nd, rfl⟩⟩))
   go_ret
   exact ⟨rE_, xB1_ HB GE105⟩
 ·replace c5 := Bool.eq_false_iff.mpr c5
  subst c5
  have H1 : (some false) = some r := by rw [if_neg (show ¬ (false = true) by decide)] at H; exact H
  clear H
  have H := H1
  clear H1
  obtain rfl := Option.some.inj H
  go_enter Tryd.func13, Tryd.ntmps13
  go_wp2_with (first | ((with_reducible refine gD_ (N := 3) rfl ?_); refine bE_ ?hg (N := 3) ?hd (cs := #[.int .i64 a0_0, .int .i64 a0_1, .bool a0_2, .string a0_3, .string a0_4, .int .i64 a0_5, .int .i64 a0_6, .bool a0_7]) (t := 28) ?hr ?_; (case hd => rfl); (case hg => rfl); (case hr => first | (go_simp; done) | (go_simp; rfl)); intro gb105 hg w20 hbox hb; have n0_ := A0_.mk (bT_ (xB_ HB) hb); have n1_ := A0_.mk (hbox); have n2_ := A0_.mk ((by rw [hg]; exact (bZ_ (xB_ HB)) : w.heap.size ≤ gb105)); have n3_ := A0_.mk ((by rw [hg]; exact (bZ_ (xB_ HB)) : w.heap.size ≤ gb105)); clear HB; have HB := n0_; have BK105 := n1_; have GW105 := n2_; have GE105 := n3_; clear n0_ n1_ n2_ n3_; clear hb hbox hg) | ((with_reducible refine gC_ (f := 30) rfl ?_); refine goesL_ (some 8) rfl rfl Tryd.func30 (by kernel_rfl) rfl #[.int .i64 a1] rfl mp_ ?_; (with_reducible refine (setoff_isDay.calls a1 false _ A4.out).mono ?_); rintro e w' ⟨rfl, ⟨nd, rfl⟩⟩; refine ⟨_, rfl, ?_⟩))
  go_ret
  exact ⟨rE_, xB1_ HB GE105⟩
end Go.Proofs.YtnegkpnhjgimcaaDoor.C
end
section
set_option linter.unusedVariables false
set_option linter.unusedSimpArgs false
namespace Go.Proofs.YtnegkpnhjgimcaaDoor.C
open Go.Sort
def insR {α : Type} (lt : α → α → Bool) (x : α) : List α → List α
  | [] => [x]
  | y :: ys => if lt x y = true then y :: insR lt x ys else x :: y :: ys
def isortR {α : Type} (lt : α → α → Bool) : List α → List α → List α
  | acc, [] => acc
  | acc, x :: xs => isortR lt (insR lt x acc) xs
def isort {α : Type} (lt : α → α → Bool) (l : List α) : List α := (isortR lt [] l).reverse
theorem insR_map {α β : Type} (f : α → β) (lt : β → β → Bool) (x : α) (l : List α) : insR lt (f x) (l.map f) = (insR (fun x y => lt (f x) (f y)) x l).map f := by
  induction l with
  | nil => rfl
  | cons y ys ih =>
    simp only [List.map_cons, insR]
    by_cases h : lt (f x) (f y) = true
    · rw [if_pos h, if_pos h, ih]; rfl
    · rw [if_neg h, if_neg h]; rfl
theorem isortR_map {α β : Type} (f : α → β) (lt : β → β → Bool) (l : List α) : ∀ acc : List α, isortR lt (acc.map f) (l.map f) = (isortR (fun x y => lt (f x) (f y)) acc l).map f := by
  induction l with
  | nil => intro acc; rfl
  | cons x xs ih => intro acc; simp only [List.map_cons, isortR]; rw [insR_map, ih]
theorem isort_map {α β : Type} (f : α → β) (lt : β → β → Bool) (l : List α) : isort lt (l.map f) = (isort (fun x y => lt (f x) (f y)) l).map f := by
  unfold isort
  rw [List.map_reverse, ← isortR_map f lt l []]; rfl
theorem insR_length {α : Type} (lt : α → α → Bool) (x : α) (l : List α) : (insR lt x l).length = l.length + 1 := by
  induction l with
  | nil => rfl
  | cons y ys ih =>
    simp only [insR]
    split
    · simp [ih]
    · rfl
theorem isortR_length {α : Type} (lt : α → α → Bool) (l : List α) : ∀ acc : List α, (isortR lt acc l).length = acc.length + l.length := by
  induction l with
  | nil => intro acc; rfl
  | cons x xs ih => intro acc; rw [isortR, ih, insR_length]; simp; omega
theorem isort_length {α : Type} (lt : α → α → Bool) (l : List α) : (isort lt l).length = l.length := by
  unfold isort
  rw [List.length_reverse, isortR_length]; simp
section
variable {α : Type} [Inhabited α]
theorem swp_list (r : List α) (y x : α) (rest : List α) : swp (r ++ y :: x :: rest).toArray (r.length + 1) r.length = (r ++ x :: y :: rest).toArray := by
  have h1 : (r ++ y :: x :: rest).toArray[r.length]! = y := by simp
  have h2 : (r ++ y :: x :: rest).toArray[r.length + 1]! = x := by simp
  unfold swp
  rw [h1, h2]
  apply Array.ext'
  simp [List.set_append]
theorem insInner_list (lt : α → α → Bool) (x : α) (acc : List α) : ∀ rest : List α, insInner lt 0 acc.length (acc.reverse ++ x :: rest).toArray = ((insR lt x acc).reverse ++ rest).toArray := by
  induction acc with
  | nil => intro rest; show insInner lt 0 0 (x :: rest).toArray = _; rw [insInner_stop lt 0 0 _ (.inl (Nat.le_refl _))]; rfl
  | cons y ys ih =>
    intro rest
    have e : (y :: ys).reverse ++ x :: rest = ys.reverse ++ y :: x :: rest := by simp
    have h1 : (ys.reverse ++ y :: x :: rest).toArray[ys.length]! = y := by simp
    have h2 : (ys.reverse ++ y :: x :: rest).toArray[ys.length + 1]! = x := by simp
    rw [e]
    by_cases h : lt x y = true
    · rw [insInner_go lt _ _ _ (by simp) (by rw [List.length_cons, Nat.add_sub_cancel, h1, h2]; exact h)]
      have h3 := swp_list ys.reverse y x rest
      rw [List.length_reverse] at h3
      rw [List.length_cons, Nat.add_sub_cancel, h3, ih]
      simp [insR, h]
    · rw [insInner_stop lt _ _ _ (.inr (by rw [List.length_cons, Nat.add_sub_cancel, h1, h2]; exact Bool.eq_false_iff.2 h))]
      simp [insR, h]
theorem insOuter_list (lt : α → α → Bool) (l : List α) : ∀ acc : List α, insOuter lt 0 (acc.length + l.length) acc.length (acc.reverse ++ l).toArray = (isortR lt acc l).reverse.toArray := by
  induction l with
  | nil => intro acc; rw [insOuter_stop lt _ _ _ _ (by simp)]; simp [isortR]
  | cons x xs ih =>
    intro acc
    rw [insOuter_go lt _ _ _ _ (by simp), insInner_list]
    have h := ih (insR lt x acc)
    rw [insR_length] at h
    rw [isortR, ← h]
    congr 1
    simp; omega
theorem insertionSort_list (lt : α → α → Bool) (d : Array α) : (insertionSort lt d 0 d.size).toList = isort lt d.toList := by
  obtain ⟨l⟩ := d
  unfold insertionSort isort
  cases l with
  | nil => rw [insOuter_stop lt _ _ _ _ (by simp)]; rfl
  | cons x xs =>
    have h := insOuter_list lt xs [x]
    simp only [List.length_cons, List.length_nil, List.reverse_cons, List.reverse_nil, List.nil_append, List.singleton_append] at h
    have e : isortR lt [] (x :: xs) = isortR lt [x] xs := rfl
    rw [e, show ((x :: xs).toArray).size = 0 + 1 + xs.length by simp; omega, h]
end
end Go.Proofs.YtnegkpnhjgimcaaDoor.C
namespace Go.Proofs.YtnegkpnhjgimcaaDoor.C
open Go.Shelf Go.RowKit Go.Lib Go.Sort Go.Proofs.YtnegkpnhjgimcaaDoorW.PrintWords Go.Proofs.YtnegkpnhjgimcaaDoorW.PrintLast Go.Proofs.YtnegkpnhjgimcaaDoorW.PrintMore
def sort_ren : Go.Shelf.Ren := ⟨fun | 20 => 94 | n => n, fun | 22 => 63 | 24 => 3 | 25 => 83 | n => n, fun n => n⟩
theorem sortL : SlLaysF.n20 Tryd.prog sort_ren where
  mixed := by kernel_rfl
  f20 := ⟨ "slices.insertionSortCmpFunc[int]", by decide, Tryd.func94.trans (congrArg some (by kernel_rfl))⟩
  t0 := Tryd.underlying0
  a0 := Tryd.isAgg0
  z0 := Tryd.sizeOf0
  v0 := Tryd.zeroValue0
  t3 := Tryd.underlying3
  a3 := Tryd.isAgg3
  z3 := Tryd.sizeOf3
  v3 := Tryd.zeroValue3
  t4 := Tryd.underlying4
  a4 := Tryd.isAgg4
  z4 := Tryd.sizeOf4
  v4 := Tryd.zeroValue4
  t22 := Tryd.underlying63
  a22 := Tryd.isAgg63
  z22 := Tryd.sizeOf63
  v22 := Tryd.zeroValue63
  a24 := Tryd.isAgg3
  z24 := Tryd.sizeOf3
  t25 := Tryd.underlying83
  a25 := Tryd.isAgg83
  z25 := Tryd.sizeOf83
  v25 := Tryd.zeroValue83
theorem below_row {β : Type} [Inhabited β] (enc : β → Value) (w : World) (base g m : Nat) (d : Array β) (os : Array Obj) (hb : base ≤ g) (hw : base ≤ w.heap.size) : Go.RowKit.Below base w (grow (putRow enc (Sort.ahead w m) g 0 d) os) := by
  refine ⟨rfl, rfl, rfl, ?_, fun k hk => ?_⟩
  · show w.heap.size ≤ (w.heap.modify g _ ++ os).size
    simp
  · show (w.heap.modify g _ ++ os)[k]? = _
    rw [Array.getElem?_append_left (by simp; omega), Array.getElem?_modify, if_neg (by omega)]
theorem below_row0 {β : Type} [Inhabited β] (enc : β → Value) (w : World) (base g m : Nat) (d : Array β) (hb : base ≤ g) : Go.RowKit.Below base w ((putRow enc w g 0 d).drewN m) := by
  refine ⟨rfl, rfl, rfl, ?_, fun k hk => ?_⟩
  · show w.heap.size ≤ (w.heap.modify g _).size
    simp
  · show (w.heap.modify g _)[k]? = _
    rw [Array.getElem?_modify, if_neg (by omega)]
theorem R_row {β : Type} [Inhabited β] (enc : β → Value) (d : Array β) {W : World} {e base g cap : Nat} {ok : Nat → Prop} {xs ys : List Int} (h : (Kd.int .i64).R e W base ok (.slice (some ⟨g, 0, none⟩) xs.length cap) xs) (hd : d.toList.map enc = ys.map (Value.int .i64)) (hl : ys.length = xs.length) (m : Nat) :
    (Kd.int .i64).R e ((putRow enc W g 0 d).drewN m) base ok (.slice (some ⟨g, 0, none⟩) ys.length cap) ys := by
  have hds : d.size = ys.length := by have := congrArg List.length hd; simpa using this
  obtain ⟨hlen, hcase⟩ := Kd.own_of_R h
  have hok := h.1
  rcases hcase with ⟨hv, _⟩ | ⟨g', cap', cur, hv, hb, hh, hle, hmax, hsz, htake⟩
  · cases hv
  · injection hv with h1 h2 h3
    injection h1 with h1
    injection h1 with h1 _ _
    subst h1
    subst h3
    refine Kd.R_of_own ⟨by simp [encs], .inr ⟨g, cap, putCells enc 0 d cur, rfl, hb, ?_, by omega, hmax, by simp [putCells, hsz], ?_⟩⟩ hok
    · show (W.heap.modify g _)[g]? = _
      rw [Array.getElem?_modify, if_pos rfl, hh]
      rfl
    · apply List.ext_getElem?
      intro k
      have hlx : xs.length ≤ cur.size := by rw [hsz]; omega
      by_cases hk : k < ys.length
      · rw [List.getElem?_take_of_lt (by omega)]
        have hc : k < cur.size := by omega
        have e1 : d.toList[k]? = some d[k]! := by rw [Array.getElem?_toList, getElem!_pos d k (by omega), Array.getElem?_eq_getElem (by omega)]
        have e2 : (ys.map (Value.int .i64))[k]? = some (enc d[k]!) := by rw [← hd, List.getElem?_map, e1]; rfl
        show _ = (ys.map (Value.int .i64))[k]?
        rw [e2]
        simp [putCells, Array.getElem?_mapIdx, hc, hds, hk]
      · rw [List.getElem?_eq_none (by rw [List.length_take]; omega), List.getElem?_eq_none (by simp [encs]; omega)]
def CmpOk (g : Nat) (cb : Array Value) (cmp : Int → Int → Int) (xs : List Int) (base : Nat) (w : World) : Prop :=
  ∀ x ∈ xs, ∀ y ∈ xs, ∀ W, Go.RowKit.Below base w W → Calls Tryd.prog g (#[.int .i64 x, .int .i64 y] ++ cb) W fun e w' => e = .returned (.int .i64 (cmp x y)) ∧ ∃ q, w' = W.drewN q
theorem insertion_calls (g : Nat) (cb : Array Value) (cmp : Int → Int → Int) (eg : ∀ args w, (callFunc g args).run Tryd.prog w = .ok (.enter g args) w) {w : World} {base gb cap : Nat} {ok : Nat → Prop} {xs : List Int} (hR : (Kd.int .i64).R 3 w base ok (.slice (some ⟨gb, 0, none⟩) xs.length cap) xs) (hne : xs ≠ []) (hn : xs.length ≤ 19) (hbase : base ≤ w.heap.size) (hcmp : CmpOk g cb cmp xs base w) :
    Calls Tryd.prog 94 #[.slice (some ⟨gb, 0, none⟩) xs.length cap, .int .i64 0, .int .i64 xs.length, .func (.func g) #[] cb] w fun e w' =>
      e = .returned (.tuple #[]) ∧ (Kd.int .i64).R 3 w' base ok (.slice (some ⟨gb, 0, none⟩) xs.length cap) (isort (fun x y => decide (cmp x y < 0)) xs) ∧ Go.RowKit.Below base w w' := by
  have hi : Inhabited {x // x ∈ xs} := ⟨⟨xs.head hne, List.head_mem hne⟩⟩
  have hpos : 0 < xs.length := List.length_pos_iff.2 hne
  have hbg : base ≤ gb := Kd.R_base hR gb rfl
  obtain ⟨d, hde⟩ : ∃ d : Array {x // x ∈ xs}, d = xs.attach.toArray := ⟨_, rfl⟩
  have hd : d.size = xs.length := by rw [hde]; simp
  have hv : d.toList.map (·.val) = xs := by rw [hde]; simp
  have hx : ∀ j, j < d.size → (d[j]!).val = rdOf 0 xs j := by
    intro j hj
    have e1 : (d.toList.map (·.val))[j]? = some (d[j]!).val := by rw [List.getElem?_map, Array.getElem?_toList, getElem!_pos d j hj, Array.getElem?_eq_getElem hj]; rfl
    unfold rdOf
    rw [hv] at e1
    rw [List.getD_eq_getElem?_getD, Int.toNat_natCast, e1]; rfl
  have hH : Holds (fun x : {x // x ∈ xs} => Value.int .i64 x.val) w gb 0 d := by
    intro j hj
    have := Kd.R_cell (0 : Int) hR (j : Int) (by omega) (by omega)
    show w.cell? _ = some (Value.int .i64 (d[j]!).val) ∧ _
    rw [hx j hj, Nat.zero_add]
    simpa using this
  have hC : CmpReads Tryd.prog g cb (fun x : {x // x ∈ xs} => Value.int .i64 x.val) (fun x y => cmp x.val y.val) gb 0 d.size w := by
    intro m os dk hdk x y
    exact hcmp x.val x.property y.val y.property _ (below_row _ w base gb m dk os hbg hbase)
  have hS := Any.insertionSortCmpFunc_one sortL (fun x : {x // x ∈ xs} => Value.int .i64 x.val) (fun _ => rfl) (fun x y => cmp x.val y.val) g cb gb 0 cap 0 d.size d w eg hC hH (Nat.zero_le _) (Nat.le_refl _) (by omega)
  rw [hd] at hS
  refine Calls.mono hS ?_
  rintro e w' ⟨he, m, rfl⟩
  have hl : (isort (fun x y => decide (cmp x y < 0)) xs).length = xs.length := isort_length _ _
  refine ⟨he, ?_, below_row0 _ _ _ _ _ _ hbg⟩
  have := R_row (fun x : {x // x ∈ xs} => Value.int .i64 x.val) (Sort.insertionSort (ltOf fun x y => cmp x.val y.val) d 0 xs.length) (ys := isort (fun x y => decide (cmp x y < 0)) xs) hR (by
    rw [← hd, insertionSort_list]
    have h2 := isort_map (fun x : {x // x ∈ xs} => x.val) (fun x y => decide (cmp x y < 0)) d.toList
    rw [hv] at h2
    rw [h2, List.map_map]
    rfl) hl m
  rw [hl] at this
  exact this
end Go.Proofs.YtnegkpnhjgimcaaDoor.C
namespace Go.Proofs.YtnegkpnhjgimcaaDoor.C
open Go.Shelf Go.RowKit Go.Lib Go.Proofs.YtnegkpnhjgimcaaDoorW.PrintWords Go.Proofs.YtnegkpnhjgimcaaDoorW.PrintLast Go.Proofs.YtnegkpnhjgimcaaDoorW.PrintMore
set_option maxHeartbeats 4000000 in
set_option maxRecDepth 100000 in
theorem insertion_empty (A : Option Addr) (c : Nat) (v : Value) (w : World) :
    Calls Tryd.prog 94 #[.slice A 0 c, .int .i64 0, .int .i64 0, v] w fun e w' => e = .returned (.tuple #[]) ∧ ∃ n, w' = w.drewN n := by
  go_enter Tryd.func94, Tryd.ntmps94
  go_wp2
  go_loopg [8] 0 (fun g1 vi wr => vi = .int .i64 1 ∧ wr = w)
  case atStart => exact ⟨rfl, rfl⟩
  case round =>
    obtain ⟨rfl, rfl⟩ := hrel
    have c0 : decide ((1 : Int) < 0) = false := by decide
    go_wp2
    go_end0
    exact ⟨rfl, 0, rfl⟩
set_option maxHeartbeats 4000000 in
set_option maxRecDepth 100000 in
theorem stable_calls (A : Option Addr) (n c : Nat) (v : Value) (Q : Ending → World → Prop) (w : World) (hn : n ≤ 19)
    (h : Calls Tryd.prog 94 #[.slice A n c, .int .i64 0, .int .i64 n, v] w fun e w' => e = .returned (.tuple #[]) ∧ Q e w') :
    Calls Tryd.prog 76 #[.slice A n c, .int .i64 n, v] w fun e w' => e = .returned (.tuple #[]) ∧ Q e w' := by
  have c0 : decide ((20 : Int) ≤ (n : Int)) = false := decide_eq_false (by omega)
  have c1 : decide ((20 : Int) < (n : Int)) = false := decide_eq_false (by omega)
  have c2 : ¬ (20 : Int) ≤ (n : Int) := by omega
  have c3 : ¬ (20 : Int) < (n : Int) := by omega
  have H := A0_.mk h
  clear h
  go_enter Tryd.func76, Tryd.ntmps76
  go_wp2
  refine wp_loop_rounds 1 ?_
  rw [rounds_succ]
  go_wp2_with (go_at_call 94; refine H.out.mono ?_; rintro e w' ⟨rfl, hq⟩)
  refine wp_loop_rounds 1 ?_
  rw [rounds_succ]
  go_wp2
  go_end0
  exact ⟨rfl, hq⟩
set_option maxHeartbeats 4000000 in
set_option maxRecDepth 100000 in
theorem sortStable_calls (g : Nat) (cb : Array Value) (cmp : Int → Int → Int) (eg : ∀ args w, (callFunc g args).run Tryd.prog w = .ok (.enter g args) w) {w : World} {base n c : Nat} {A : Option Addr} {ok : Nat → Prop} {xs : List Int} (hR : (Kd.int .i64).R 3 w base ok (.slice A n c) xs) (hn : xs.length ≤ 19) (hbase : base ≤ w.heap.size) (hcmp : CmpOk g cb cmp xs base w) :
    Calls Tryd.prog 58 #[.slice A n c, .func (.func g) #[] cb] w fun e w' => e = .returned (.tuple #[]) ∧ (Kd.int .i64).R 3 w' base ok (.slice A n c) (isort (fun x y => decide (cmp x y < 0)) xs) ∧ Below base w w' := by
  have hlen : n = xs.length := (Kd.R_reads' hR).1
  subst hlen
  have h := stable_calls A xs.length c (.func (.func g) #[] cb) (fun e w' => (Kd.int .i64).R 3 w' base ok (.slice A xs.length c) (isort (fun x y => decide (cmp x y < 0)) xs) ∧ Below base w w') w hn (by
    by_cases hne : xs = []
    · subst hne
      refine Calls.mono (insertion_empty A c (.func (.func g) #[] cb) w) ?_
      rintro e w' ⟨rfl, m, rfl⟩
      exact ⟨rfl, Kd.R_drewN hR m, pB_ (Below.refl _ _) m⟩
    · obtain ⟨gb, cap, hv, _⟩ := Kd.R_form hR (List.length_pos_iff.2 hne)
      injection hv with h1 _ h3
      subst h1
      subst h3
      exact insertion_calls g cb cmp eg hR hne hn hbase hcmp)
  have H := A0_.mk h
  clear h hR hcmp
  go_enter Tryd.func58, Tryd.ntmps58
  go_wp2_with (go_at_call 76; refine H.out.mono ?_; rintro e w' ⟨rfl, hq⟩)
  go_end0
  exact ⟨rfl, hq⟩
end Go.Proofs.YtnegkpnhjgimcaaDoor.C
namespace Go.Proofs.YtnegkpnhjgimcaaDoor.C
open Go.Shelf Go.RowKit Go.Lib Go.Proofs.YtnegkpnhjgimcaaDoorW.PrintWords Go.Proofs.YtnegkpnhjgimcaaDoorW.PrintLast Go.Proofs.YtnegkpnhjgimcaaDoorW.PrintMore
def eligible_cmp (l : List S28) (x y : Int) : Int := wrap64 ((rd_T28 l x).f3 - (rd_T28 l y).f3)
theorem eligible_enters : ∀ args w, (callFunc 59 args).run Tryd.prog w = .ok (.enter 59 args) w := enters_of Tryd.func59 (by kernel_rfl) rfl
set_option maxHeartbeats 4000000 in
set_option maxRecDepth 100000 in
theorem eligible_cmp_calls (A0 : Option Addr) (c0 B : Nat) (l0 : List S28) (x y : Int) (w : World) (hr0 : Kd.C k28 w A0 l0.length l0) (hb : w.cell? ⟨B, 0, none⟩ = some (.slice A0 l0.length c0)) (hx : 0 ≤ x ∧ x < (l0.length : Int)) (hy : 0 ≤ y ∧ y < (l0.length : Int)) :
    Calls Tryd.prog 59 (#[.int .i64 x, .int .i64 y] ++ #[.pointer (some ⟨B, 0, none⟩)]) w fun e w' => e = .returned (.int .i64 (eligible_cmp l0 x y)) ∧ ∃ q, w' = w.drewN q := by
  have hu := Tryd.underlying28
  obtain ⟨ad, e1, hx0, hx1, hx2, hx3, hx4, hx5, hx6, hx7⟩ := at_T28 hr0 x hx.1 hx.2
  obtain ⟨ad', e2, hy0, hy1, hy2, hy3, hy4, hy5, hy6, hy7⟩ := at_T28 hr0 y hy.1 hy.2
  cases e1
  cases e2
  have p1 : decide (0 ≤ x) = true := decide_eq_true hx.1
  have p2 : decide (x < (l0.length : Int)) = true := decide_eq_true hx.2
  have p3 : decide (0 ≤ y) = true := decide_eq_true hy.1
  have p4 : decide (y < (l0.length : Int)) = true := decide_eq_true hy.2
  have q1 := eq_true hx.1
  have q2 := eq_true hx.2
  have q3 := eq_true hy.1
  have q4 := eq_true hy.2
  clear hx0 hx1 hx2 hx3 hx4 hx6 hx7 hy0 hy1 hy2 hy3 hy4 hy6 hy7
  have e0 : (#[.int .i64 x, .int .i64 y] ++ #[.pointer (some ⟨B, 0, none⟩)] : Array Value) = #[.int .i64 x, .int .i64 y, .pointer (some ⟨B, 0, none⟩)] := rfl
  rw [e0]
  go_enter Tryd.func59, Tryd.ntmps59
  go_wp2
  go_quiet (fail)
  go_wp2
  go_ret
  exact ⟨rfl, _, rfl⟩
end Go.Proofs.YtnegkpnhjgimcaaDoor.C
end
