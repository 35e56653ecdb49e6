/- A part of the proof of setoffTwice_card (see YtnegkpnhjgimcaaDoorZST5): what the functions that it reaches compute, each by its contract. -/
import Derived.Lib.Bytealg
import Derived.Lib.Strings
import Derived.Lib.Walk
import Derived.Test.YtnegkpnhjgimcaaDoorZST1
section
namespace Go.Proofs.YtnegkpnhjgimcaaDoor.C
open Go.RowKit Go.Proofs.YtnegkpnhjgimcaaDoorW.PrintWords Go.Proofs.YtnegkpnhjgimcaaDoorW.PrintLast Go.Proofs.YtnegkpnhjgimcaaDoorW.PrintMore
attribute [local go_sem] max2_int min2_int max_two min_two max_three min_three max_four min_four
set_option linter.unusedVariables false
set_option linter.unusedSimpArgs false
def natural_parse.l0 : Nat → ByteArray → List Int → Int → Int → Option (List Int)
 | 0, _, _, _, _ => none
 | k + 1, x0, x3, x12, x13 => if x13 < x12 then (if 0 ≤ (wrap64 (Int.tdiv x13 4)) then (if (wrap64 (Int.tdiv x13 4)) < (x3.length : Int) then (if 0 ≤ (wrap64 ((wrap64 ((x0.size : Int) - 1)) - x13)) then (if (wrap64 ((wrap64 ((x0.size : Int) - 1)) - x13)) < (x0.size : Int) then (if 0 ≤ (wrap64 (8 * (Int.tmod x13 4))) then (natural_parse.l0 k x0 (x3.set ((wrap64 (Int.tdiv x13 4)) : Int).toNat (Go.bits .or .u32 (rd x3 (wrap64 (Int.tdiv x13 4))) (shl .u32 ((bt x0 (wrap64 ((wrap64 ((x0.size : Int) - 1)) - x13))) % 4294967296) (wrap64 (8 * (Int.tmod x13 4)))))) x12 (wrap64 (x13 + 1))) else (none)) else (none)) else (none)) else (none)) else (none)) else ((natural_limbs_trim.f k x3).bind fun t123 => (some t123))
def natural_parse.f (k : Nat) (a0 : ByteArray) : Option (List Int) := if 0 ≤ (wrap64 (Int.tdiv (wrap64 ((wrap64 ((a0.size : Int) + 4)) - 1)) 4)) then (if (wrap64 (Int.tdiv (wrap64 ((wrap64 ((a0.size : Int) + 4)) - 1)) 4) : Int).toNat ≤ 70368744177664 then (natural_parse.l0 k a0 (List.replicate (wrap64 (Int.tdiv (wrap64 ((wrap64 ((a0.size : Int) + 4)) - 1)) 4) : Int).toNat 0) (a0.size : Int) 0) else (none)) else (none)
theorem natural_parse.mono_l : ∀ k, (∀ y0 y1 y2 y3, LeO (natural_parse.l0 k y0 y1 y2 y3) (natural_parse.l0 (k + 1) y0 y1 y2 y3))
 | 0 => fun _ _ _ _ r h => by simp [natural_parse.l0] at h
 | k + 1 => by
  have ih0 := natural_parse.mono_l k
  ·intro y0 y1 y2 y3
   unfold natural_parse.l0
   repeat' first
   | (with_reducible exact ih0 _ _ _ _)
   | (with_reducible exact natural_limbs_trim.mono _ _)
   | (with_reducible exact LeO.refl _)
   | (with_reducible exact LeO.none _)
   | (with_reducible refine LeO.ite ?_ ?_)
   | (with_reducible refine LeO.bind ?_ (fun _ => ?_))
theorem natural_parse.mono : ∀ a0 k, LeO (natural_parse.f k a0) (natural_parse.f (k + 1) a0) := by
 intro a0 k
 have ih0 := natural_parse.mono_l k
 unfold natural_parse.f
 repeat' first
   | (with_reducible exact ih0 _ _ _ _)
   | (with_reducible exact natural_limbs_trim.mono _ _)
   | (with_reducible exact LeO.refl _)
   | (with_reducible exact LeO.none _)
   | (with_reducible refine LeO.ite ?_ ?_)
   | (with_reducible refine LeO.bind ?_ (fun _ => ?_))
def natural_parse.T5 : Bool × List (List Nat × List Nat) := (true, [([], []), ([], []), ([1], [1]), ([0, 2], [0, 2]), ([3], [3]), ([], []), ([], []), ([6], [6]), ([7], [7]), ([], []), ([8, 9], [8, 9]), ([5, 10], [5, 10]), ([11], [11]), ([], []), ([13], [13]), ([14], [14]), ([12, 15], [12, 15]), ([4, 16], [4, 16]), ([0, 2, 0, 1, 2, 3, 4, 5, 6, 7, 8, 9, 10, 11, 12, 13, 14, 15, 16, 17], [0, 2]), ([18, 17, 0, 1, 2, 3, 4, 5, 6, 7, 8, 9, 10, 11, 12, 13, 14, 15, 16, 17], [17, 18])])
def natural_parse.B5 : List Nat := [0, 0, 2, 7, 15, 0, 0, 64, 192, 0, 960, 2016, 4064, 0, 8192, 24576, 65504, 131071, 262143, 524287]
theorem natural_parse.tab5 : rtab .any (opsOf Tryd.f64 5) = natural_parse.T5 := by kernel_rfl
theorem natural_parse.bits5 : waitsOk natural_parse.T5.2 natural_parse.B5 = true := by kernel_rfl
set_option maxHeartbeats 8000000 in
set_option maxRecDepth 100000 in
theorem natural_parse.calls (k : Nat) (a0 : ByteArray) (r : List Int) (w : World) (h : natural_parse.f k a0 = some r) :
  Calls Tryd.prog 64 #[.string a0] w fun e w' => ∃ v0_ : Value, e = .returned (v0_) ∧ Kd.R (Kd.int .u32) 89 w' w.heap.size (fun _ => True) v0_ r ∧ Below w.heap.size w w' := by
 have HB := A0_.mk (Below.refl w.heap.size w)
 have H := h
 unfold natural_parse.f at H
 clear h
 obtain ⟨ji2, hji2⟩ : ∃ j_ : Int, (wrap64 (Int.tdiv (wrap64 ((wrap64 ((a0.size : Int) + 4)) - 1)) 4)) = j_ := ⟨_, rfl⟩
 replace H : (if 0 ≤ (ji2) then (if (ji2 : Int).toNat ≤ 70368744177664 then (natural_parse.l0 k a0 (List.replicate (ji2 : Int).toNat 0) (a0.size : Int) 0) else (none)) else (none)) = some r := by first | (rw [hji2] at H; exact H) | (simp only [hji2] at H ⊢; exact H)
 have hji2w : (IntKind.i64.wrap (Int.tdiv (wrap64 ((wrap64 ((a0.size : Int) + 4)) - 1)) 4)) = ji2 := (i64_w _).trans hji2
 by_cases c3 : 0 ≤ (ji2)
 ·rw [if_pos c3] at H
  have c3b0 := eq_true c3
  have c3b1 : decide (0 ≤ (ji2)) = true := decide_eq_true c3
  clear c3
  by_cases c4 : (ji2 : Int).toNat ≤ 70368744177664
  ·rw [if_pos c4] at H
   have c4b0 := eq_true c4
   have c4b1 : decide ((ji2 : Int).toNat ≤ 70368744177664) = true := decide_eq_true c4
   clear c4
   obtain ⟨y118, hy118⟩ : ∃ y_ : List Int, y_ = (List.replicate (ji2 : Int).toNat 0) := ⟨_, rfl⟩
   replace H : (natural_parse.l0 k a0 y118 (a0.size : Int) 0) = some r := by first | (rw [hy118]; with_reducible exact H) | (have H2_ := (Option.bind_some _ _).symm.trans H; rw [hy118]; with_reducible exact H2_) | (have H2_ := (Option.bind_some _ _).symm.trans H; with_reducible exact H2_) | with_reducible exact H | (rw [hy118]; exact H) | exact H
   have Ny118 := A0_.mk hy118
   clear hy118
   have H' := A0_.mk H
   clear H
   go_enter Tryd.func64, Tryd.ntmps64
   go_wp2_with (first | ((with_reducible refine gD_ (N := 10) rfl ?_); refine Kd.R_make (Kd.int .u32) _ 89 rfl (N := 10) rfl 87 _ _ rfl ji2 rfl rfl Tryd.underlying87 (.int .u32 0) 4 info89 rfl (by decide) (by omega) 0 (ok := fun _ => True) (okp := fun _ => True) rfl (fun _ hk => hk) trivial (of_decide_eq_true aS_) (Nat.le_trans (Nat.mul_le_mul_right _ (of_decide_eq_true aS_ : ji2.toNat ≤ 70368744177664)) (by omega)) (Below.refl _ _) (Nat.le_refl _) ?_; intro v119 w5 ho6 hb hg_ hnew_; clear hg_ hnew_; (first | rw [← Ny118.out] at ho6 | (simp only [Int.reduceToNat] at ho6; rw [← Ny118.out] at ho6)); have n0_ := A0_.mk (Kd.R_lower ho6 (bZ_ (xB_ HB))); have n1_ := A0_.mk (bT_ (xB_ HB) hb); clear HB; have HO120 := n0_; have HB := n1_; clear n0_ n1_; clear hb ho6))
   go_loopg [13] k (fun kq v13 w' => ∃ (x3_1 : List Int) (x13_1 : Int), v13 = .int .i64 x13_1 ∧ A0_ (natural_parse.l0 kq a0 x3_1 (a0.size : Int) x13_1 = some r) ∧ A0_ (kq ≤ k) ∧ A0_ (Kd.R (Kd.int .u32) 89 w' w.heap.size (fun _ => True) v119 x3_1) ∧ A0_ (Below w.heap.size w w'))
   case atStart => exact ⟨(y118), (0), (by first | rfl | (simp; done) | (simp [*]; done)), H', ⟨Nat.le_refl _⟩, ⟨by (with_reducible repeat (first | apply Kd.R_alloc | apply Kd.R_drewN | apply Kd.R_drew)); exact HO120.out⟩, ⟨xB_ HB⟩⟩
   case round =>
    clear H'
    try clear p2
    try clear c3
    try clear c3b0
    try clear c3b1
    try clear c4
    try clear c4b0
    try clear c4b1
    try clear c6
    try clear p6
    obtain ⟨x3_1, x13_1, rfl, HA, HK1, HO_3, HB⟩ := hrel
    cases gk with
    | zero => exact absurd HA.out (by simp [natural_parse.l0])
    | succ k1 =>
     have H := HA.out
     clear HA
     simp only [natural_parse.l0] at H
     by_cases c7 : x13_1 < (a0.size : Int)
     ·rw [if_pos c7] at H
      have c7b0 : decide (x13_1 < (a0.size : Int)) = true := decide_eq_true c7
      clear c7
      obtain ⟨ji8, hji8⟩ : ∃ j_ : Int, (wrap64 (Int.tdiv x13_1 4)) = j_ := ⟨_, rfl⟩
      replace H : (if 0 ≤ (ji8) then (if (ji8) < (x3_1.length : Int) then (if 0 ≤ (wrap64 ((wrap64 ((a0.size : Int) - 1)) - x13_1)) then (if (wrap64 ((wrap64 ((a0.size : Int) - 1)) - x13_1)) < (a0.size : Int) then (if 0 ≤ (wrap64 (8 * (Int.tmod x13_1 4))) then (natural_parse.l0 k1 a0 (x3_1.set ((ji8) : Int).toNat (Go.bits .or .u32 (rd x3_1 (ji8)) (shl .u32 ((bt a0 (wrap64 ((wrap64 ((a0.size : Int) - 1)) - x13_1))) % 4294967296) (wrap64 (8 * (Int.tmod x13_1 4)))))) (a0.size : Int) (wrap64 (x13_1 + 1))) else (none)) else (none)) else (none)) else (none)) else (none)) = some r := by first | (rw [hji8] at H; exact H) | (simp only [hji8] at H ⊢; exact H)
      have hji8w : (IntKind.i64.wrap (Int.tdiv x13_1 4)) = ji8 := (i64_w _).trans hji8
      by_cases c9 : 0 ≤ (ji8)
      ·rw [if_pos c9] at H
       have c9b0 : decide (0 ≤ (ji8)) = true := decide_eq_true c9
       clear c9
       by_cases c10 : (ji8) < (x3_1.length : Int)
       ·rw [if_pos c10] at H
        have c10b0 : decide ((ji8) < (x3_1.length : Int)) = true := decide_eq_true c10
        clear c10
        obtain ⟨ji11, hji11⟩ : ∃ j_ : Int, (wrap64 ((wrap64 ((a0.size : Int) - 1)) - x13_1)) = j_ := ⟨_, rfl⟩
        replace H : (if 0 ≤ (ji11) then (if (ji11) < (a0.size : Int) then (if 0 ≤ (wrap64 (8 * (Int.tmod x13_1 4))) then (natural_parse.l0 k1 a0 (x3_1.set ((ji8) : Int).toNat (Go.bits .or .u32 (rd x3_1 (ji8)) (shl .u32 ((bt a0 (ji11)) % 4294967296) (wrap64 (8 * (Int.tmod x13_1 4)))))) (a0.size : Int) (wrap64 (x13_1 + 1))) else (none)) else (none)) else (none)) = some r := by first | (rw [hji11] at H; exact H) | (simp only [hji11] at H ⊢; exact H)
        have hji11w : (IntKind.i64.wrap ((wrap64 ((a0.size : Int) - 1)) - x13_1)) = ji11 := (i64_w _).trans hji11
        by_cases c12 : 0 ≤ (ji11)
        ·rw [if_pos c12] at H
         have c12b0 : decide (0 ≤ (ji11)) = true := decide_eq_true c12
         clear c12
         by_cases c13 : (ji11) < (a0.size : Int)
         ·rw [if_pos c13] at H
          have c13b0 : decide ((ji11) < (a0.size : Int)) = true := decide_eq_true c13
          clear c13
          obtain ⟨ji15, hji15⟩ : ∃ j_ : Int, (wrap64 (8 * (Int.tmod x13_1 4))) = j_ := ⟨_, rfl⟩
          replace H : (if 0 ≤ (ji15) then (natural_parse.l0 k1 a0 (x3_1.set ((ji8) : Int).toNat (Go.bits .or .u32 (rd x3_1 (ji8)) (shl .u32 ((bt a0 (ji11)) % 4294967296) (ji15)))) (a0.size : Int) (wrap64 (x13_1 + 1))) else (none)) = some r := by first | (rw [hji15] at H; exact H) | (simp only [hji15] at H ⊢; exact H)
          have hji15w : (IntKind.i64.wrap (8 * (Int.tmod x13_1 4))) = ji15 := (i64_w _).trans hji15
          by_cases c16 : 0 ≤ (ji15)
          ·rw [if_pos c16] at H
           have c16b0 := eq_true c16
           have c16b1 : decide (0 ≤ (ji15)) = true := decide_eq_true c16
           clear c16
           obtain ⟨ji17, hji17⟩ : ∃ j_ : Int, (shl .u32 ((bt a0 (ji11)) % 4294967296) (ji15)) = j_ := ⟨_, rfl⟩
           replace H : (natural_parse.l0 k1 a0 (x3_1.set ((ji8) : Int).toNat (Go.bits .or .u32 (rd x3_1 (ji8)) (ji17))) (a0.size : Int) (wrap64 (x13_1 + 1))) = some r := by first | (rw [hji17] at H; exact H) | (simp only [hji17] at H ⊢; exact H)
           have hji17_ : (IntKind.u32.wrap (((bt a0 (ji11)) % 4294967296) * 2 ^ min (ji15).toNat 32)) = ji17 := hji17
           have hji17z : (ji15) ≤ 32 → (IntKind.u32.wrap (((bt a0 (ji11)) % 4294967296) * 2 ^ (ji15).toNat)) = ji17 := shl_small hji17
           have hji17o : (((bt a0 (ji11)) % 4294967296) * 2 ^ min (ji15).toNat 32) % 4294967296 = ji17 := by rw [← hji17_]; simp [IntKind.wrap, IntKind.bits, IntKind.signed]
           obtain ⟨y122, hy122⟩ : ∃ y_ : List Int, y_ = (x3_1.set ((ji8) : Int).toNat (Go.bits .or .u32 (rd x3_1 (ji8)) (ji17))) := ⟨_, rfl⟩
           replace H : (natural_parse.l0 k1 a0 y122 (a0.size : Int) (wrap64 (x13_1 + 1))) = some r := by first | (rw [hy122]; with_reducible exact H) | (have H2_ := (Option.bind_some _ _).symm.trans H; rw [hy122]; with_reducible exact H2_) | (have H2_ := (Option.bind_some _ _).symm.trans H; with_reducible exact H2_) | with_reducible exact H | (rw [hy122]; exact H) | exact H
           have Ny122 := A0_.mk hy122
           clear hy122
           have H' := A0_.mk H
           clear H
           try go_wp2
           have n0_ := A0_.mk (Kd.R_drew HO_3.out)
           have n1_ := A0_.mk (b1_ HB.out)
           clear HO_3
           clear HB
           have HO_3 := n0_
           have HB := n1_
           clear n0_ n1_
           obtain ⟨Ao20, co20, eo20⟩ := Kd.R_slice HO_3.out
           (first | subst eo20 | (injection eo20 with f1_ f2_ f3_; have f4_ := f1_.symm; have f5_ := f3_.symm; clear f1_ f2_ f3_; subst f4_; subst f5_))
           have p121 : 0 ≤ ((ji8) : Int) := of_decide_eq_true aS_
           have q121 : (ji8) < (x3_1.length : Int) := of_decide_eq_true aS_
           obtain ⟨ad121, e121, hx121_0⟩ := Kd.at_int (Kd.R_reads' HO_3.out).2.2 (ji8) p121 q121
           cases e121
           replace p121 := eq_true p121
           replace q121 := eq_true q121
           have p14 : 0 ≤ ((ji11) : Int) := of_decide_eq_true aS_
           have q14 : (ji11) < (a0.size : Int) := of_decide_eq_true aS_
           have hx14 := bt_at a0 (ji11)
           replace p14 := eq_true p14
           replace q14 := eq_true q14
           have p18 : 0 ≤ ((ji8) : Int) := of_decide_eq_true aS_
           have q18 : ((ji8) : Int) < ((x3_1.length : Int) : Int) := of_decide_eq_true aS_
           obtain ⟨go18, co18, eo18, gb18, gl18, cl18, HG18⟩ := Kd.R_form HO_3.out (by omega)
           (first | cases eo18 | (injection eo18 with ea_ en_ ec_; (first | subst ea_ | (injection ea_ with ea_; subst ea_)); subst ec_; clear en_))
           have GB18 := A0_.mk gb18
           have GG18 := A0_.mk HG18
           clear gb18 gl18 HG18
           (first | simp only [add_plain] at hx121_0 | skip)
           obtain ⟨hx18_0, hf18_0⟩ := Kd.R_celln 0 HO_3.out ((ji8) : Int) p18 q18
           replace p18 := eq_true p18
           replace q18 := eq_true q18
           have HP21 := Kd.R_putn HO_3.out ((ji8) : Int) (Go.bits .or .u32 (rd x3_1 (ji8)) (ji17))
           rw [← Ny122.out] at HP21
           have HQ21 := A0_.mk HP21
           clear HP21
           refine start_ (n := 20) (S := fun w' => w'.cell? ⟨go18, ((ji8)).toNat, none⟩ = some (.int .u32 (rd x3_1 (ji8)))) (ds := [19]) #[false, false, false, false, false, false, false, false, false, false, false, false, false, false, false, false, false, false, false, false] (by kernel_rfl) rfl rfl (hx121_0) (fun hHeld => ?_); refine with_tabW natural_parse.tab5 natural_parse.bits5 (fun HT_ HW_ => ?_)
           generalize wr.drew = w19 at HO_3 HB GG18 HQ21 hf18_0 hx121_0 hx18_0 hHeld ⊢
           refine pure_ (i := 0) (N := some 16) (v := ?_) (a' := ?_) #[true, false, false, false, false, false, false, false, false, false, false, false, false, false, false, false, false, false, false, false] rfl rfl (any_of HT_.out (by kernel_rfl)) (fun _ _ _ h => h) (Or.inl ⟨by rfl, ?_⟩) ?_ ?_
           rotate_left
           ·intro w'
            go_simp
            with_reducible rfl
           rotate_left
           ·simp only [Act.put, s1_, s2_, s3_, i64_w, i32_w]
            rfl
           refine pure_ (i := 1) (N := some 17) (v := ?_) (a' := ?_) #[true, true, false, false, false, false, false, false, false, false, false, false, false, false, false, false, false, false, false, false] rfl rfl (any_of HT_.out (by kernel_rfl)) (fun _ _ _ h => h) (Or.inl ⟨by rfl, ?_⟩) ?_ ?_
           rotate_left
           ·intro w'
            go_simp
            with_reducible rfl
           rotate_left
           ·simp only [Act.put, s1_, s2_, s3_, i64_w, i32_w]
            rfl
           refine pure_ (i := 2) (N := some 18) (v := ?_) (a' := ?_) #[true, true, true, false, false, false, false, false, false, false, false, false, false, false, false, false, false, false, false, false] rfl rfl (any_of HT_.out (by kernel_rfl)) (fun _ _ _ h => h) (Or.inl ⟨by rfl, ?_⟩) ?_ ?_
           rotate_left
           ·intro w'
            go_simp
            with_reducible rfl
           rotate_left
           ·simp only [Act.put, s1_, s2_, s3_, i64_w, i32_w]
            rfl
           refine pure_ (i := 3) (N := some 19) (v := ?_) (a' := ?_) #[true, true, true, true, false, false, false, false, false, false, false, false, false, false, false, false, false, false, false, false] rfl rfl (any_of HT_.out (by kernel_rfl)) (fun _ _ _ h => h) (Or.inl ⟨by rfl, ?_⟩) ?_ ?_
           rotate_left
           ·intro w'
            go_simp
            with_reducible rfl
           rotate_left
           ·simp only [Act.put, s1_, s2_, s3_, i64_w, i32_w]
            rfl
           refine pure_ (i := 5) (N := some 21) (v := ?_) (a' := ?_) #[true, true, true, true, false, true, false, false, false, false, false, false, false, false, false, false, false, false, false, false] rfl rfl (any_of HT_.out (by kernel_rfl)) (fun _ _ _ h => h) (Or.inl ⟨by rfl, ?_⟩) ?_ ?_
           rotate_left
           ·intro w'
            go_simp
            with_reducible rfl
           rotate_left
           ·simp only [Act.put, s1_, s2_, s3_, i64_w, i32_w]
            rfl
           refine pure_ (i := 6) (N := some 22) (v := ?_) (a' := ?_) #[true, true, true, true, false, true, true, false, false, false, false, false, false, false, false, false, false, false, false, false] rfl rfl (any_of HT_.out (by kernel_rfl)) (fun _ _ _ h => h) (Or.inl ⟨by rfl, ?_⟩) ?_ ?_
           rotate_left
           ·intro w'
            go_simp
            with_reducible rfl
           rotate_left
           ·simp only [Act.put, s1_, s2_, s3_, i64_w, i32_w]
            rfl
           refine pure_ (i := 7) (N := some 23) (v := ?_) (a' := ?_) #[true, true, true, true, false, true, true, true, false, false, false, false, false, false, false, false, false, false, false, false] rfl rfl (any_of HT_.out (by kernel_rfl)) (fun _ _ _ h => h) (Or.inl ⟨by rfl, ?_⟩) ?_ ?_
           rotate_left
           ·intro w'
            go_simp
            with_reducible rfl
           rotate_left
           ·simp only [Act.put, s1_, s2_, s3_, i64_w, i32_w]
            rfl
           refine pure_ (i := 8) (N := some 24) (v := ?_) (a' := ?_) #[true, true, true, true, false, true, true, true, true, false, false, false, false, false, false, false, false, false, false, false] rfl rfl (any_of HT_.out (by kernel_rfl)) (fun _ _ _ h => h) (Or.inl ⟨by rfl, ?_⟩) ?_ ?_
           rotate_left
           ·intro w'
            go_simp
            with_reducible rfl
           rotate_left
           ·simp only [Act.put, s1_, s2_, s3_, i64_w, i32_w]
            rfl
           refine pure_ (i := 9) (N := some 25) (v := ?_) (a' := ?_) #[true, true, true, true, false, true, true, true, true, true, false, false, false, false, false, false, false, false, false, false] rfl rfl (any_of HT_.out (by kernel_rfl)) (fun _ _ _ h => h) (Or.inl ⟨by rfl, ?_⟩) ?_ ?_
           rotate_left
           ·intro w'
            go_simp
            with_reducible rfl
           rotate_left
           ·simp only [Act.put, s1_, s2_, s3_, i64_w, i32_w]
            rfl
           refine pure_ (i := 10) (N := some 26) (v := ?_) (a' := ?_) #[true, true, true, true, false, true, true, true, true, true, true, false, false, false, false, false, false, false, false, false] rfl rfl (any_of HT_.out (by kernel_rfl)) (fun _ _ _ h => h) (Or.inl ⟨by rfl, ?_⟩) ?_ ?_
           rotate_left
           ·intro w'
            go_simp
            with_reducible rfl
           rotate_left
           ·simp only [Act.put, s1_, s2_, s3_, i64_w, i32_w]
            rfl
           refine pure_ (i := 13) (N := some 29) (v := ?_) (a' := ?_) #[true, true, true, true, false, true, true, true, true, true, true, false, false, true, false, false, false, false, false, false] rfl rfl (any_of HT_.out (by kernel_rfl)) (fun _ _ _ h => h) (Or.inl ⟨by rfl, ?_⟩) ?_ ?_
           rotate_left
           ·intro w'
            go_simp
            with_reducible rfl
           rotate_left
           ·simp only [Act.put, s1_, s2_, s3_, i64_w, i32_w]
            rfl
           refine pure_ (i := 14) (N := some 30) (v := ?_) (a' := ?_) #[true, true, true, true, false, true, true, true, true, true, true, false, false, true, true, false, false, false, false, false] rfl rfl (any_of HT_.out (by kernel_rfl)) (fun _ _ _ h => h) (Or.inl ⟨by rfl, ?_⟩) ?_ ?_
           rotate_left
           ·intro w'
            go_simp
            with_reducible rfl
           rotate_left
           ·simp only [Act.put, s1_, s2_, s3_, i64_w, i32_w]
            rfl
           refine pure_ (i := 15) (N := some 31) (v := ?_) (a' := ?_) #[true, true, true, true, false, true, true, true, true, true, true, false, false, true, true, true, false, false, false, false] rfl rfl (any_of HT_.out (by kernel_rfl)) (fun _ _ _ h => h) (Or.inl ⟨by rfl, ?_⟩) ?_ ?_
           rotate_left
           ·intro w'
            go_simp
            with_reducible rfl
           rotate_left
           ·simp only [Act.put, s1_, s2_, s3_, i64_w, i32_w]
            rfl
           refine take_ (i := 4) (N := some 20) (v := ?_) (a' := ?_) #[true, true, true, true, true, true, true, true, true, true, true, false, false, true, true, true, false, false, false, false] rfl rfl (take_ofW HT_.out HW_.out (by kernel_rfl)) (fun _ _ _ h => h) (Or.inl ⟨by rfl, ?_⟩) hHeld ?_ ?_
           rotate_left
           ·intro w' s0
            go_simp
            with_reducible rfl
           rotate_left
           ·simp only [Act.put, s1_, s2_, s3_, i64_w, i32_w]
            rfl
           refine take_ (i := 11) (N := some 27) (v := ?_) (a' := ?_) #[true, true, true, true, true, true, true, true, true, true, true, true, false, true, true, true, false, false, false, false] rfl rfl (take_ofW HT_.out HW_.out (by kernel_rfl)) (fun _ _ _ h => h) (Or.inl ⟨by rfl, ?_⟩) hHeld ?_ ?_
           rotate_left
           ·intro w' s0
            go_simp
            with_reducible rfl
           rotate_left
           ·simp only [Act.put, s1_, s2_, s3_, i64_w, i32_w]
            rfl
           refine pure_ (i := 12) (N := some 28) (v := ?_) (a' := ?_) #[true, true, true, true, true, true, true, true, true, true, true, true, true, true, true, true, false, false, false, false] rfl rfl (any_of HT_.out (by kernel_rfl)) (fun _ _ _ h => h) (Or.inl ⟨by rfl, ?_⟩) ?_ ?_
           rotate_left
           ·intro w'
            go_simp
            with_reducible rfl
           rotate_left
           ·simp only [Act.put, s1_, s2_, s3_, i64_w, i32_w]
            rfl
           refine pure_ (i := 16) (N := some 32) (v := ?_) (a' := ?_) #[true, true, true, true, true, true, true, true, true, true, true, true, true, true, true, true, true, false, false, false] rfl rfl (any_of HT_.out (by kernel_rfl)) (fun _ _ _ h => h) (Or.inl ⟨by rfl, ?_⟩) ?_ ?_
           rotate_left
           ·intro w'
            go_simp
            with_reducible rfl
           rotate_left
           ·simp only [Act.put, s1_, s2_, s3_, i64_w, i32_w]
            rfl
           refine pure_ (i := 17) (N := some 33) (v := ?_) (a' := ?_) #[true, true, true, true, true, true, true, true, true, true, true, true, true, true, true, true, true, true, false, false] rfl rfl (any_of HT_.out (by kernel_rfl)) (fun _ _ _ h => h) (Or.inl ⟨by rfl, ?_⟩) ?_ ?_
           rotate_left
           ·intro w'
            go_simp
            with_reducible rfl
           rotate_left
           ·simp only [Act.put, s1_, s2_, s3_, i64_w, i32_w]
            rfl
           refine pure_ (i := 18) (N := some 34) (v := ?_) (a' := ?_) #[true, true, true, true, true, true, true, true, true, true, true, true, true, true, true, true, true, true, true, false] rfl rfl (any_of HT_.out (by kernel_rfl)) (fun _ _ _ h => h) (Or.inl ⟨by rfl, ?_⟩) ?_ ?_
           rotate_left
           ·intro w'
            go_simp
            with_reducible rfl
           rotate_left
           ·simp only [Act.put, s1_, s2_, s3_, i64_w, i32_w]
            rfl
           refine last_ (i := 19) (N := none) #[true, true, true, true, true, true, true, true, true, true, true, true, true, true, true, true, true, true, true, true] rfl rfl (one_of HT_.out (by kernel_rfl)) (by decide) (fun K hK => ?_)
           refine skip_ (w1 := ?_) (by rfl) rfl ?_ ?_
           rotate_left
           ·go_simp
            rfl
           refine hK.out _ _ ?_
           clear hK K
           refine done_ (done_of HT_.out (by kernel_rfl)) ?_
           try go_wp2
           (try simp only [add_plain])
           go_roundg k1
           case measure => have := HK1.out; omega
           case rel => exact ⟨(y122), (wrap64 (x13_1 + 1)), (by first | rfl | (simp; done) | (simp [*]; done)), H', ⟨by have := HK1.out; omega⟩, ⟨by (with_reducible repeat (first | apply Kd.R_alloc | apply Kd.R_drewN | apply Kd.R_drew)); first | exact HQ21.out | (rw [hji17o]; exact HQ21.out)⟩, ⟨xB1_ HB GB18⟩⟩
          ·rw [if_neg c16] at H
           exact absurd H (by simp)
         ·rw [if_neg c13] at H
          exact absurd H (by simp)
        ·rw [if_neg c12] at H
         exact absurd H (by simp)
       ·rw [if_neg c10] at H
        exact absurd H (by simp)
      ·rw [if_neg c9] at H
       exact absurd H (by simp)
     ·rw [if_neg c7] at H
      have c7b0 : decide (x13_1 < (a0.size : Int)) = false := decide_eq_false c7
      clear c7
      replace H := Option.bind_eq_some_iff.mp H
      obtain ⟨t123, A220, H⟩ := H
      (try dsimp only at H)
      have A22 := A0_.mk A220
      clear A220
      obtain rfl := Option.some.inj H
      obtain ⟨Ao23, co23, eo23⟩ := Kd.R_slice HO_3.out
      subst eo23
      go_wp2_with (first | ((with_reducible refine gC_ (f := 79) rfl ?_); refine goesL_ (some 37) rfl rfl Tryd.func79 (by kernel_rfl) rfl #[.slice Ao23 x3_1.length co23] rfl mp_ ?_; (with_reducible refine (natural_limbs_trim.calls k1 (fun k_ => some k_ = (.slice Ao23 x3_1.length co23 : Value).ownBlock) (.slice Ao23 x3_1.length co23) x3_1 t123 w _ ?side1 ?side2 A22.out).mono ?_); (case side1 => repeat (first | (with_reducible first | exact HB.out | apply bA_ | apply pB_ | apply b1_) | exact HB.out)); (case side2 => exact Kd.R_tight rfl HO_3.out); rintro e w24 ⟨v124, rfl, ho0, hb, hkp⟩; refine ⟨_, rfl, ?_⟩; have n0_ := A0_.mk (Kd.R_mono (ok' := fun k_ => True) ho0 (fun k_ hk_ => trivial)); have n1_ := A0_.mk (hb); clear HB HO_3; have HO125 := n0_; have HB := n1_; clear n0_ n1_; (try clear hb); (try clear hkp); (try clear ho0)))
      go_ret
      exact ⟨_, by first | rfl | (simp [errW_none, errW_some] <;> rfl) | (simp only [← hji2]; first | rfl | (simp [errW_none, errW_some] <;> rfl)) | (simp [*, errW_none, errW_some] <;> rfl), by (with_reducible repeat (first | apply Kd.R_alloc | apply Kd.R_drewN | apply Kd.R_drew)); exact HO125.out, xB_ HB⟩
  ·rw [if_neg c4] at H
   exact absurd H (by simp)
 ·rw [if_neg c3] at H
  exact absurd H (by simp)
def natural_Divide.f (k : Nat) (a0 : ByteArray) (a1 : ByteArray) : Option (ByteArray × ByteArray × Bool) := (natural_parse.f k a1).bind fun t272 => (if (t272.length : Int) = 0 then (some ((⟨#[]⟩ : ByteArray), (⟨#[]⟩ : ByteArray), false)) else ((natural_parse.f k a0).bind fun t275 => ((natural_divide.f k t275 t272).bind fun bt278 => ((natural_limbs_text.f k bt278.1).bind fun t284 => ((natural_limbs_text.f k bt278.2).bind fun t285 => (some (t284, t285, true)))))))
theorem natural_Divide.mono : ∀ a0 a1 k, LeO (natural_Divide.f k a0 a1) (natural_Divide.f (k + 1) a0 a1) := by
 intro a0 a1 k
 unfold natural_Divide.f
 repeat' first
   | (with_reducible exact natural_divide.mono _ _ _)
   | (with_reducible exact natural_limbs_text.mono _ _)
   | (with_reducible exact natural_parse.mono _ _)
   | (with_reducible exact LeO.refl _)
   | (with_reducible exact LeO.none _)
   | (with_reducible refine LeO.ite ?_ ?_)
   | (with_reducible refine LeO.bind ?_ (fun _ => ?_))
set_option maxHeartbeats 8000000 in
set_option maxRecDepth 100000 in
theorem natural_Divide.calls (k : Nat) (a0 : ByteArray) (a1 : ByteArray) (r1 : ByteArray) (r2 : ByteArray) (r3 : Bool) (w : World) (h : natural_Divide.f k a0 a1 = some (r1, r2, r3)) :
  Calls Tryd.prog 71 #[.string a0, .string a1] w fun e w' => e = .returned (.tuple #[.string r1, .string r2, .bool r3]) ∧ Below w.heap.size w w' := by
 have HB := A0_.mk (Below.refl w.heap.size w)
 have H := h
 unfold natural_Divide.f at H
 clear h
 replace H := Option.bind_eq_some_iff.mp H
 obtain ⟨t272, A30, H⟩ := H
 (try dsimp only at H)
 have A3 := A0_.mk A30
 clear A30
 by_cases c4 : (t272.length : Int) = 0
 ·rw [if_pos c4] at H
  have c4b0 : ((t272.length : Int) == 0) = true := beq_iff_eq.mpr c4
  have c4b1 : ((t272.length : Int) != 0) = false := bne_eq_false_iff_eq.mpr c4
  clear c4
  simp only [Option.some.injEq, Prod.mk.injEq] at H
  obtain ⟨rfl, rfl, rfl⟩ := H
  go_enter Tryd.func71, Tryd.ntmps71
  go_wp2_with (first | ((with_reducible refine gC_ (f := 64) rfl ?_); refine goesL_ (some 11) rfl rfl Tryd.func64 (by kernel_rfl) rfl #[.string a1] rfl mp_ ?_; (with_reducible refine (natural_parse.calls k a1 t272 _ A3.out).mono ?_); rintro e w5 ⟨v273, rfl, ho0, hb⟩; refine ⟨_, rfl, ?_⟩; have n0_ := A0_.mk (Kd.R_lower ho0 (bZ_ (xB_ HB))); have n1_ := A0_.mk (bT_ (xB_ HB) hb); clear HB; have HO274 := n0_; have HB := n1_; clear n0_ n1_; (try clear hb); (try clear hb2); (try clear hk); (try clear hi); (try clear ho0); obtain ⟨Ao6, co6, eo6⟩ := Kd.R_slice HO274.out; subst eo6))
  go_ret3
  exact ⟨rE_, xB_ HB⟩
 ·rw [if_neg c4] at H
  have c4b0 : ((t272.length : Int) == 0) = false := beq_eq_false_iff_ne.mpr c4
  have c4b1 : ((t272.length : Int) != 0) = true := bne_iff_ne.mpr c4
  have c4b2 : ¬ (t272 = []) := fun h_ => c4 (by rw [h_]; rfl)
  replace H := Option.bind_eq_some_iff.mp H
  obtain ⟨t275, A70, H⟩ := H
  (try dsimp only at H)
  have A7 := A0_.mk A70
  clear A70
  replace H := Option.bind_eq_some_iff.mp H
  obtain ⟨⟨t278, t281⟩, A80, H⟩ := H
  (try dsimp only at H)
  have A8 := A0_.mk A80
  clear A80
  replace H := Option.bind_eq_some_iff.mp H
  obtain ⟨t284, A90, H⟩ := H
  (try dsimp only at H)
  have A9 := A0_.mk A90
  clear A90
  replace H := Option.bind_eq_some_iff.mp H
  obtain ⟨t285, A100, H⟩ := H
  (try dsimp only at H)
  have A10 := A0_.mk A100
  clear A100
  simp only [Option.some.injEq, Prod.mk.injEq] at H
  obtain ⟨rfl, rfl, rfl⟩ := H
  go_enter Tryd.func71, Tryd.ntmps71
  go_wp2_with (first | ((with_reducible refine gC_ (f := 64) rfl ?_); refine goesL_ (some 11) rfl rfl Tryd.func64 (by kernel_rfl) rfl #[.string a1] rfl mp_ ?_; (with_reducible refine (natural_parse.calls k a1 t272 _ A3.out).mono ?_); rintro e w11 ⟨v273, rfl, ho0, hb⟩; refine ⟨_, rfl, ?_⟩; have n0_ := A0_.mk (Kd.R_lower ho0 (bZ_ (xB_ HB))); have n1_ := A0_.mk (bT_ (xB_ HB) hb); clear HB; have HO274 := n0_; have HB := n1_; clear n0_ n1_; (try clear hb); (try clear hb2); (try clear hk); (try clear hi); (try clear ho0); obtain ⟨Ao12, co12, eo12⟩ := Kd.R_slice HO274.out; subst eo12) | ((with_reducible refine gC_ (f := 64) rfl ?_); refine goesL_ (some 17) rfl rfl Tryd.func64 (by kernel_rfl) rfl #[.string a0] rfl mp_ ?_; (with_reducible refine (natural_parse.calls k a0 t275 _ A7.out).mono ?_); rintro e w13 ⟨v276, rfl, ho0, hb⟩; refine ⟨_, rfl, ?_⟩; have n0_ := A0_.mk (Kd.R_elder' (xR_ HO274.out) (Kd.R_base ho0) hb); have n1_ := A0_.mk (Kd.R_lower (Kd.R_new' ho0 (Kd.R_lt (xR_ HO274.out))) (bZ_ (xB_ HB))); have n2_ := A0_.mk (bT_ (xB_ HB) hb); clear HO274 HB; have HO274 := n0_; have HO277 := n1_; have HB := n2_; clear n0_ n1_ n2_; (try clear hb); (try clear hb2); (try clear hk); (try clear hi); (try clear ho0); obtain ⟨Ao14, co14, eo14⟩ := Kd.R_slice HO277.out; subst eo14) | ((with_reducible refine gC_ (f := 88) rfl ?_); refine goesL_ (some 19) rfl rfl Tryd.func88 (by kernel_rfl) rfl #[.slice Ao14 t275.length co14, .slice Ao12 t272.length co12] rfl mp_ ?_; (with_reducible refine (natural_divide.calls k (fun k_ => some k_ = (.slice Ao14 t275.length co14 : Value).ownBlock) (.slice Ao14 t275.length co14) t275 _ _ t272 t278 t281 w _ ?side1 ?side2 ?side3 ?side4 A8.out).mono ?_); (case side1 => repeat (first | (with_reducible first | exact HB.out | apply bA_ | apply pB_ | apply b1_) | exact HB.out)); (case side2 => exact Kd.R_tight rfl HO277.out); (case side3 => exact Kd.C_kept_own (HO274.out) (fun k_ hk_ hs_ => (hk_.2) hs_)); (case side4 => exact (Kd.R_reads' HO274.out).2.1); rintro e w15 ⟨v279, v282, rfl, ho0, ho1, hb, hkp⟩; refine ⟨_, rfl, ?_⟩; have n0_ := A0_.mk (Kd.R_mono (ok' := fun k_ => some k_ ≠ (v279 : Value).ownBlock ∧ some k_ ≠ (v282 : Value).ownBlock) (Kd.R_keptB (HO274.out) hkp (fun k_ hk_ hs_ => (hk_.2) hs_)) (fun k_ hk_ => ⟨fun e_ => Or.elim (ho0.1 k_ e_.symm).1 (fun hs_ => hk_.2.1 hs_) (fun hn_ => Nat.not_le.2 hk_.2.2 hn_), fun e_ => Or.elim (ho1.1 k_ e_.symm).1 (fun hs_ => hk_.2.1 hs_) (fun hn_ => Nat.not_le.2 hk_.2.2 hn_)⟩)); have n1_ := A0_.mk (Kd.R_mono (ok' := fun k_ => some k_ ≠ (v282 : Value).ownBlock ∧ some k_ ≠ (.slice Ao12 t272.length co12 : Value).ownBlock) ho0 (fun k_ hk_ => ⟨hk_.2, Or.elim hk_.1 (fun hs_ => fun e_ => (((HO274.out).1 k_ e_.symm).2) hs_) (fun hn_ => (Kd.fresh' (Kd.R_lt (xR_ HO274.out)) k_ hn_))⟩)); have n2_ := A0_.mk (Kd.R_mono (ok' := fun k_ => some k_ ≠ (v279 : Value).ownBlock ∧ some k_ ≠ (.slice Ao12 t272.length co12 : Value).ownBlock) ho1 (fun k_ hk_ => ⟨hk_.2, Or.elim hk_.1 (fun hs_ => fun e_ => (((HO274.out).1 k_ e_.symm).2) hs_) (fun hn_ => (Kd.fresh' (Kd.R_lt (xR_ HO274.out)) k_ hn_))⟩)); have n3_ := A0_.mk (hb); clear HO274 HB HO277; have HO274 := n0_; have HO280 := n1_; have HO283 := n2_; have HB := n3_; clear n0_ n1_ n2_ n3_; (try clear hb); (try clear hkp); (try clear ho0); (try clear ho1); obtain ⟨Ao16, co16, eo16⟩ := Kd.R_slice HO280.out; subst eo16) | ((with_reducible refine gC_ (f := 65) rfl ?_); refine goesL_ (some 23) rfl rfl Tryd.func65 (by kernel_rfl) rfl #[.slice Ao16 t278.length co16] rfl mp_ ?_; (with_reducible refine (natural_limbs_text.calls k _ _ t278 t284 _ ?side1 ?side2 A9.out).mono ?_); (case side1 => repeat (first | exact (Kd.R_reads' HO280.out).2.2 | (with_reducible refine Kd.C_alloc ?_ _) | (with_reducible refine Kd.C_drewN ?_ _) | (with_reducible refine Kd.C_drew ?_))); (case side2 => exact (Kd.R_reads' HO280.out).2.1); rintro e w17 ⟨rfl, hb⟩; refine ⟨_, rfl, ?_⟩; have n0_ := A0_.mk (Kd.R_below (xR_ HO274.out) hb); have n1_ := A0_.mk (Kd.R_below (xR_ HO280.out) hb); have n2_ := A0_.mk (Kd.R_below (xR_ HO283.out) hb); have n3_ := A0_.mk (bT_ (xB_ HB) hb); clear HO274 HO280 HO283 HB; have HO274 := n0_; have HO280 := n1_; have HO283 := n2_; have HB := n3_; clear n0_ n1_ n2_ n3_; (try clear hb); (try clear hb2); (try clear hk); (try clear hi); obtain ⟨Ao18, co18, eo18⟩ := Kd.R_slice HO283.out; subst eo18) | ((with_reducible refine gC_ (f := 65) rfl ?_); refine goesL_ (some 25) rfl rfl Tryd.func65 (by kernel_rfl) rfl #[.slice Ao18 t281.length co18] rfl mp_ ?_; (with_reducible refine (natural_limbs_text.calls k _ _ t281 t285 _ ?side1 ?side2 A10.out).mono ?_); (case side1 => repeat (first | exact (Kd.R_reads' HO283.out).2.2 | (with_reducible refine Kd.C_alloc ?_ _) | (with_reducible refine Kd.C_drewN ?_ _) | (with_reducible refine Kd.C_drew ?_))); (case side2 => exact (Kd.R_reads' HO283.out).2.1); rintro e w19 ⟨rfl, hb⟩; refine ⟨_, rfl, ?_⟩; have n0_ := A0_.mk (Kd.R_below (xR_ HO274.out) hb); have n1_ := A0_.mk (Kd.R_below (xR_ HO280.out) hb); have n2_ := A0_.mk (Kd.R_below (xR_ HO283.out) hb); have n3_ := A0_.mk (bT_ (xB_ HB) hb); clear HO274 HO280 HO283 HB; have HO274 := n0_; have HO280 := n1_; have HO283 := n2_; have HB := n3_; clear n0_ n1_ n2_ n3_; (try clear hb); (try clear hb2); (try clear hk); (try clear hi)))
  go_ret3
  exact ⟨rE_, xB_ HB⟩
def natural_GCD.l0 : Nat → List Int → List Int → Option (ByteArray)
 | 0, _, _ => none
 | k + 1, x5, x6 => if (x6.length : Int) > 0 then ((natural_divide.f k x5 x6).bind fun bt228 => (natural_GCD.l0 k x6 bt228.2)) else ((natural_limbs_text.f k x5).bind fun t234 => (some t234))
def natural_GCD.f (k : Nat) (a0 : ByteArray) (a1 : ByteArray) : Option (ByteArray) := (natural_parse.f k a0).bind fun t222 => ((natural_parse.f k a1).bind fun t225 => (natural_GCD.l0 k t222 t225))
theorem natural_GCD.mono_l : ∀ k, (∀ y0 y1, LeO (natural_GCD.l0 k y0 y1) (natural_GCD.l0 (k + 1) y0 y1))
 | 0 => fun _ _ r h => by simp [natural_GCD.l0] at h
 | k + 1 => by
  have ih0 := natural_GCD.mono_l k
  ·intro y0 y1
   unfold natural_GCD.l0
   repeat' first
   | (with_reducible exact ih0 _ _)
   | (with_reducible exact natural_divide.mono _ _ _)
   | (with_reducible exact natural_limbs_text.mono _ _)
   | (with_reducible exact natural_parse.mono _ _)
   | (with_reducible exact LeO.refl _)
   | (with_reducible exact LeO.none _)
   | (with_reducible refine LeO.ite ?_ ?_)
   | (with_reducible refine LeO.bind ?_ (fun _ => ?_))
theorem natural_GCD.mono : ∀ a0 a1 k, LeO (natural_GCD.f k a0 a1) (natural_GCD.f (k + 1) a0 a1) := by
 intro a0 a1 k
 have ih0 := natural_GCD.mono_l k
 unfold natural_GCD.f
 repeat' first
   | (with_reducible exact ih0 _ _)
   | (with_reducible exact natural_divide.mono _ _ _)
   | (with_reducible exact natural_limbs_text.mono _ _)
   | (with_reducible exact natural_parse.mono _ _)
   | (with_reducible exact LeO.refl _)
   | (with_reducible exact LeO.none _)
   | (with_reducible refine LeO.ite ?_ ?_)
   | (with_reducible refine LeO.bind ?_ (fun _ => ?_))
set_option maxHeartbeats 8000000 in
set_option maxRecDepth 100000 in
theorem natural_GCD.calls (k : Nat) (a0 : ByteArray) (a1 : ByteArray) (r : ByteArray) (w : World) (h : natural_GCD.f k a0 a1 = some r) :
  Calls Tryd.prog 70 #[.string a0, .string a1] w fun e w' => e = .returned (.string r) ∧ Below w.heap.size w w' := by
 have HB := A0_.mk (Below.refl w.heap.size w)
 have H := h
 unfold natural_GCD.f at H
 clear h
 replace H := Option.bind_eq_some_iff.mp H
 obtain ⟨t222, A30, H⟩ := H
 (try dsimp only at H)
 have A3 := A0_.mk A30
 clear A30
 replace H := Option.bind_eq_some_iff.mp H
 obtain ⟨t225, A40, H⟩ := H
 (try dsimp only at H)
 have A4 := A0_.mk A40
 clear A40
 have H' := A0_.mk H
 clear H
 go_enter Tryd.func70, Tryd.ntmps70
 go_wp2_with (first | ((with_reducible refine gC_ (f := 64) rfl ?_); refine goesL_ (some 10) rfl rfl Tryd.func64 (by kernel_rfl) rfl #[.string a0] rfl mp_ ?_; (with_reducible refine (natural_parse.calls k a0 t222 _ A3.out).mono ?_); rintro e w5 ⟨v223, rfl, ho0, hb⟩; refine ⟨_, rfl, ?_⟩; have n0_ := A0_.mk (Kd.R_lower ho0 (bZ_ (xB_ HB))); have n1_ := A0_.mk (bT_ (xB_ HB) hb); clear HB; have HO224 := n0_; have HB := n1_; clear n0_ n1_; (try clear hb); (try clear hb2); (try clear hk); (try clear hi); (try clear ho0)) | ((with_reducible refine gC_ (f := 64) rfl ?_); refine goesL_ (some 12) rfl rfl Tryd.func64 (by kernel_rfl) rfl #[.string a1] rfl mp_ ?_; (with_reducible refine (natural_parse.calls k a1 t225 _ A4.out).mono ?_); rintro e w6 ⟨v226, rfl, ho0, hb⟩; refine ⟨_, rfl, ?_⟩; have n0_ := A0_.mk (Kd.R_elder' (xR_ HO224.out) (Kd.R_base ho0) hb); have n1_ := A0_.mk (Kd.R_lower (Kd.R_new' ho0 (Kd.R_lt (xR_ HO224.out))) (bZ_ (xB_ HB))); have n2_ := A0_.mk (bT_ (xB_ HB) hb); clear HO224 HB; have HO224 := n0_; have HO227 := n1_; have HB := n2_; clear n0_ n1_ n2_; (try clear hb); (try clear hb2); (try clear hk); (try clear hi); (try clear ho0)))
 go_loopg [5, 6] k (fun kq v5 v6 w' => ∃ (x5_1 : List Int) (x6_1 : List Int), A0_ (natural_GCD.l0 kq x5_1 x6_1 = some r) ∧ A0_ (kq ≤ k) ∧ A0_ (Kd.R (Kd.int .u32) 89 w' w.heap.size (fun k_ => some k_ ≠ (v6 : Value).ownBlock) v5 x5_1) ∧ A0_ (Kd.R (Kd.int .u32) 89 w' w.heap.size (fun k_ => some k_ ≠ (v5 : Value).ownBlock) v6 x6_1) ∧ A0_ (Below w.heap.size w w'))
 case atStart => exact ⟨(t222), (t225), H', ⟨Nat.le_refl _⟩, ⟨by (with_reducible repeat (first | apply Kd.R_alloc | apply Kd.R_drewN | apply Kd.R_drew)); exact Kd.R_mono HO224.out (fun _ hk => hk.2)⟩, ⟨by (with_reducible repeat (first | apply Kd.R_alloc | apply Kd.R_drewN | apply Kd.R_drew)); exact Kd.R_mono HO227.out (fun _ hk => hk.2)⟩, ⟨xB_ HB⟩⟩
 case round =>
  clear H'
  try clear p2
  try clear c6
  obtain ⟨x5_1, x6_1, HA, HK1, HO_5, HO_6, HB⟩ := hrel
  cases gk with
  | zero => exact absurd HA.out (by simp [natural_GCD.l0])
  | succ k1 =>
   have H := HA.out
   clear HA
   simp only [natural_GCD.l0] at H
   by_cases c7 : (x6_1.length : Int) > 0
   ·rw [if_pos c7] at H
    have c7b0 : decide (0 < (x6_1.length : Int)) = true := decide_eq_true c7
    have c7b1 : decide (0 < x6_1.length) = true := decide_eq_true (by omega)
    clear c7
    replace H := Option.bind_eq_some_iff.mp H
    obtain ⟨⟨t228, t231⟩, A80, H⟩ := H
    (try dsimp only at H)
    have A8 := A0_.mk A80
    clear A80
    have H' := A0_.mk H
    clear H
    obtain ⟨Ao9, co9, eo9⟩ := Kd.R_slice HO_6.out
    subst eo9
    obtain ⟨Ao10, co10, eo10⟩ := Kd.R_slice HO_5.out
    subst eo10
    go_wp2_with (first | ((with_reducible refine gC_ (f := 88) rfl ?_); refine goesL_ (some 19) rfl rfl Tryd.func88 (by kernel_rfl) rfl #[.slice Ao10 x5_1.length co10, .slice Ao9 x6_1.length co9] rfl mp_ ?_; (with_reducible refine (natural_divide.calls k1 (fun k_ => some k_ = (.slice Ao10 x5_1.length co10 : Value).ownBlock) (.slice Ao10 x5_1.length co10) x5_1 _ _ x6_1 t228 t231 w _ ?side1 ?side2 ?side3 ?side4 A8.out).mono ?_); (case side1 => repeat (first | (with_reducible first | exact HB.out | apply bA_ | apply pB_ | apply b1_) | exact HB.out)); (case side2 => exact Kd.R_tight rfl HO_5.out); (case side3 => exact Kd.C_kept_own (HO_6.out) (fun k_ hk_ hs_ => (hk_) hs_)); (case side4 => exact (Kd.R_reads' HO_6.out).2.1); rintro e w11 ⟨v229, v232, rfl, ho0, ho1, hb, hkp⟩; refine ⟨_, rfl, ?_⟩; have n0_ := A0_.mk (Kd.R_mono (ok' := fun k_ => some k_ ≠ (v229 : Value).ownBlock ∧ some k_ ≠ (v232 : Value).ownBlock) (Kd.R_keptB (HO_6.out) hkp (fun k_ hk_ hs_ => (hk_) hs_)) (fun k_ hk_ => ⟨fun e_ => Or.elim (ho0.1 k_ e_.symm).1 (fun hs_ => hk_.2.1 hs_) (fun hn_ => Nat.not_le.2 hk_.2.2 hn_), fun e_ => Or.elim (ho1.1 k_ e_.symm).1 (fun hs_ => hk_.2.1 hs_) (fun hn_ => Nat.not_le.2 hk_.2.2 hn_)⟩)); have n1_ := A0_.mk (Kd.R_mono (ok' := fun k_ => some k_ ≠ (v232 : Value).ownBlock ∧ some k_ ≠ (.slice Ao9 x6_1.length co9 : Value).ownBlock) ho0 (fun k_ hk_ => ⟨hk_.2, Or.elim hk_.1 (fun hs_ => fun e_ => (((HO_6.out).1 k_ e_.symm)) hs_) (fun hn_ => (Kd.fresh' (Kd.R_lt (xR_ HO_6.out)) k_ hn_))⟩)); have n2_ := A0_.mk (Kd.R_mono (ok' := fun k_ => some k_ ≠ (v229 : Value).ownBlock ∧ some k_ ≠ (.slice Ao9 x6_1.length co9 : Value).ownBlock) ho1 (fun k_ hk_ => ⟨hk_.2, Or.elim hk_.1 (fun hs_ => fun e_ => (((HO_6.out).1 k_ e_.symm)) hs_) (fun hn_ => (Kd.fresh' (Kd.R_lt (xR_ HO_6.out)) k_ hn_))⟩)); have n3_ := A0_.mk (hb); clear HO_6 HB HO_5; have HO_6 := n0_; have HO230 := n1_; have HO233 := n2_; have HB := n3_; clear n0_ n1_ n2_ n3_; (try clear hb); (try clear hkp); (try clear ho0); (try clear ho1)))
    (try simp only [add_plain])
    go_roundg k1
    case measure => have := HK1.out; omega
    case rel => exact ⟨(x6_1), (t231), H', ⟨by have := HK1.out; omega⟩, ⟨by (with_reducible repeat (first | apply Kd.R_alloc | apply Kd.R_drewN | apply Kd.R_drew)); exact Kd.R_mono HO_6.out (fun _ hk => hk.2)⟩, ⟨by (with_reducible repeat (first | apply Kd.R_alloc | apply Kd.R_drewN | apply Kd.R_drew)); exact Kd.R_mono HO233.out (fun _ hk => hk.2)⟩, ⟨xB_ HB⟩⟩
   ·rw [if_neg c7] at H
    have c7b0 : decide (0 < (x6_1.length : Int)) = false := decide_eq_false c7
    have c7b1 : decide (0 < x6_1.length) = false := decide_eq_false (by omega)
    clear c7
    replace H := Option.bind_eq_some_iff.mp H
    obtain ⟨t234, A120, H⟩ := H
    (try dsimp only at H)
    have A12 := A0_.mk A120
    clear A120
    obtain rfl := Option.some.inj H
    obtain ⟨Ao13, co13, eo13⟩ := Kd.R_slice HO_6.out
    subst eo13
    obtain ⟨Ao14, co14, eo14⟩ := Kd.R_slice HO_5.out
    subst eo14
    go_wp2_with (first | ((with_reducible refine gC_ (f := 65) rfl ?_); refine goesL_ (some 25) rfl rfl Tryd.func65 (by kernel_rfl) rfl #[.slice Ao14 x5_1.length co14] rfl mp_ ?_; (with_reducible refine (natural_limbs_text.calls k1 _ _ x5_1 t234 _ ?side1 ?side2 A12.out).mono ?_); (case side1 => repeat (first | exact (Kd.R_reads' HO_5.out).2.2 | (with_reducible refine Kd.C_alloc ?_ _) | (with_reducible refine Kd.C_drewN ?_ _) | (with_reducible refine Kd.C_drew ?_))); (case side2 => exact (Kd.R_reads' HO_5.out).2.1); rintro e w15 ⟨rfl, hb⟩; refine ⟨_, rfl, ?_⟩; have n0_ := A0_.mk (Kd.R_below (xR_ HO_5.out) hb); have n1_ := A0_.mk (Kd.R_below (xR_ HO_6.out) hb); have n2_ := A0_.mk (bT_ (xB_ HB) hb); clear HO_5 HO_6 HB; have HO_5 := n0_; have HO_6 := n1_; have HB := n2_; clear n0_ n1_ n2_; (try clear hb); (try clear hb2); (try clear hk); (try clear hi)))
    go_ret
    exact ⟨rE_, xB_ HB⟩
def rational_reduced.f (k : Nat) (a0 : Bool) (a1 : ByteArray) (a2 : ByteArray) : Option (Bool × ByteArray × ByteArray) := (natural_Normalize.f k a1).bind fun t287 => ((natural_Normalize.f k a2).bind fun t288 => (if t287.toList = ([] : List UInt8) then (some (false, (⟨#[]⟩ : ByteArray), (⟨#[]⟩ : ByteArray))) else (if t288.toList = ([1] : List UInt8) then (some (a0, t287, (⟨#[]⟩ : ByteArray))) else ((natural_GCD.f k t287 t288).bind fun t289 => (if t289.toList = ([1] : List UInt8) then (some (a0, t287, t288)) else ((natural_Divide.f k t287 t289).bind fun bt290 => ((natural_Divide.f k t288 t289).bind fun bt293 => (if bt293.1.toList = ([1] : List UInt8) then (some (a0, bt290.1, (⟨#[]⟩ : ByteArray))) else (some (a0, bt290.1, bt293.1))))))))))
theorem rational_reduced.mono : ∀ a0 a1 a2 k, LeO (rational_reduced.f k a0 a1 a2) (rational_reduced.f (k + 1) a0 a1 a2) := by
 intro a0 a1 a2 k
 unfold rational_reduced.f
 repeat' first
   | (with_reducible exact natural_Divide.mono _ _ _)
   | (with_reducible exact natural_GCD.mono _ _ _)
   | (with_reducible exact natural_Normalize.mono _ _)
   | (with_reducible exact LeO.refl _)
   | (with_reducible exact LeO.none _)
   | (with_reducible refine LeO.ite ?_ ?_)
   | (with_reducible refine LeO.bind ?_ (fun _ => ?_))
set_option maxHeartbeats 8000000 in
set_option maxRecDepth 100000 in
theorem rational_reduced.calls (k : Nat) (a0 : Bool) (a1 : ByteArray) (a2 : ByteArray) (r1 : Bool) (r2 : ByteArray) (r3 : ByteArray) (w : World) (h : rational_reduced.f k a0 a1 a2 = some (r1, r2, r3)) :
  Calls Tryd.prog 52 #[.bool a0, .string a1, .string a2] w fun e w' => e = .returned (.agg #[.bool r1, .string r2, .string r3]) ∧ Below w.heap.size w w' := by
 have hu26 := Tryd.underlying26
 have HB := A0_.mk (Below.refl w.heap.size w)
 have H := h
 unfold rational_reduced.f at H
 clear h
 replace H := Option.bind_eq_some_iff.mp H
 obtain ⟨t287, A40, H⟩ := H
 (try dsimp only at H)
 have A4 := A0_.mk A40
 clear A40
 replace H := Option.bind_eq_some_iff.mp H
 obtain ⟨t288, A50, H⟩ := H
 (try dsimp only at H)
 have A5 := A0_.mk A50
 clear A50
 by_cases c6 : t287.toList = ([] : List UInt8)
 ·rw [if_pos c6] at H
  have c6b0 : (t287.toList == ([] : List UInt8)) = true := beq_iff_eq.mpr c6
  have c6b1 : (t287.toList != ([] : List UInt8)) = false := bne_eq_false_iff_eq.mpr c6
  clear c6
  simp only [Option.some.injEq, Prod.mk.injEq] at H
  obtain ⟨rfl, rfl, rfl⟩ := H
  go_enter Tryd.func52, Tryd.ntmps52
  go_wp2_with (first | ((with_reducible refine gD_ (N := 6) rfl ?_); refine bE_ ?hg (N := 6) ?hd (cs := #[.bool false, .string (⟨#[]⟩ : ByteArray), .string (⟨#[]⟩ : ByteArray)]) (t := 26) ?hr ?_; (case hd => rfl); (case hg => rfl); (case hr => first | (go_simp; done) | (go_simp; rfl)); intro gb286 hg w7 hbox hb; have n0_ := A0_.mk (bT_ (xB_ HB) hb); have n1_ := A0_.mk (hbox); have n2_ := A0_.mk ((by rw [hg]; exact (bZ_ (xB_ HB)) : w.heap.size ≤ gb286)); have n3_ := A0_.mk ((by rw [hg]; exact (bZ_ (xB_ HB)) : w.heap.size ≤ gb286)); clear HB; have HB := n0_; have BK286 := n1_; have GW286 := n2_; have GE286 := n3_; clear n0_ n1_ n2_ n3_; clear hb hbox hg) | ((with_reducible refine gC_ (f := 61) rfl ?_); refine goesL_ (some 9) rfl rfl Tryd.func61 (by kernel_rfl) rfl #[.string a1] rfl mp_ ?_; (with_reducible refine (natural_Normalize.calls k a1 t287 _ A4.out).mono ?_); rintro e w' ⟨rfl, ⟨nd, rfl⟩⟩; refine ⟨_, rfl, ?_⟩; (try (rw [drewN_self w7]; generalize hq_ : World.drewN w7 _ = w7; have n0_ : A0_ (w7.heap[gb286]? = some (.cells #[.bool false, .string (⟨#[]⟩ : ByteArray), .string (⟨#[]⟩ : ByteArray)] 26 (0, 0))) := ⟨by rw [← hq_]; exact (xK_ BK286.out)⟩; have n1_ : A0_ (Below w.heap.size w w7) := ⟨by rw [← hq_]; exact (xB1_ HB GE286)⟩; clear BK286 HB hq_; have BK286 := n0_; have HB := n1_; clear n0_ n1_))) | ((with_reducible refine gC_ (f := 61) rfl ?_); refine goesL_ (some 11) rfl rfl Tryd.func61 (by kernel_rfl) rfl #[.string a2] rfl mp_ ?_; (with_reducible refine (natural_Normalize.calls k a2 t288 _ A5.out).mono ?_); rintro e w' ⟨rfl, ⟨nd, rfl⟩⟩; refine ⟨_, rfl, ?_⟩; (try (rw [drewN_self w7]; generalize hq_ : World.drewN w7 _ = w7; have n0_ : A0_ (w7.heap[gb286]? = some (.cells #[.bool false, .string (⟨#[]⟩ : ByteArray), .string (⟨#[]⟩ : ByteArray)] 26 (0, 0))) := ⟨by rw [← hq_]; exact (xK_ BK286.out)⟩; have n1_ : A0_ (Below w.heap.size w w7) := ⟨by rw [← hq_]; exact (xB1_ HB GE286)⟩; clear BK286 HB hq_; have BK286 := n0_; have HB := n1_; clear n0_ n1_)); have hcz8_0 : w7.cell? ⟨gb286, 0, none⟩ = some (.bool false) := (kc_ BK286.out 0).trans rfl; have hcz8_1 : w7.cell? ⟨gb286, 1, none⟩ = some (.string (⟨#[]⟩ : ByteArray)) := (kc_ BK286.out 1).trans rfl; have hcz8_2 : w7.cell? ⟨gb286, 2, none⟩ = some (.string (⟨#[]⟩ : ByteArray)) := (kc_ BK286.out 2).trans rfl; have hfz8_0 := kF_ BK286.out 0; have hfz8_1 := kF_ BK286.out 1; have hfz8_2 := kF_ BK286.out 2))
  refine bodyPost_ret (results_cell_row rfl _ _ gb286 26 #[.bool false, .string (⟨#[]⟩ : ByteArray), .string (⟨#[]⟩ : ByteArray)] (0, 0) _ rfl (by (with_reducible repeat (first | refine kN_ ?_ _ | refine kD_ ?_ | refine kA_ ?_ _)); refine kP_ (cs := #[.bool false, .string (⟨#[]⟩ : ByteArray), .string (⟨#[]⟩ : ByteArray)]) ?_ 2 _ rfl; (with_reducible repeat (first | refine kN_ ?_ _ | refine kD_ ?_ | refine kA_ ?_ _)); refine kP_ (cs := #[.bool false, .string (⟨#[]⟩ : ByteArray), .string (⟨#[]⟩ : ByteArray)]) ?_ 1 _ rfl; (with_reducible repeat (first | refine kN_ ?_ _ | refine kD_ ?_ | refine kA_ ?_ _)); refine kP_ (cs := #[.bool false, .string (⟨#[]⟩ : ByteArray), .string (⟨#[]⟩ : ByteArray)]) ?_ 0 _ rfl; (with_reducible repeat (first | refine kN_ ?_ _ | refine kD_ ?_ | refine kA_ ?_ _)); exact BK286.out) Tryd.underlying26 rfl (by kernel_rfl)) rfl ?_
  exact ⟨rE_, xB1_ HB GE286⟩
 ·rw [if_neg c6] at H
  have c6b0 : (t287.toList == ([] : List UInt8)) = false := beq_eq_false_iff_ne.mpr c6
  have c6b1 : (t287.toList != ([] : List UInt8)) = true := bne_iff_ne.mpr c6
  by_cases c9 : t288.toList = ([1] : List UInt8)
  ·rw [if_pos c9] at H
   have c9b0 : (t288.toList == ([1] : List UInt8)) = true := beq_iff_eq.mpr c9
   have c9b1 : (t288.toList != ([1] : List UInt8)) = false := bne_eq_false_iff_eq.mpr c9
   clear c9
   simp only [Option.some.injEq, Prod.mk.injEq] at H
   obtain ⟨rfl, rfl, rfl⟩ := H
   go_enter Tryd.func52, Tryd.ntmps52
   go_wp2_with (first | ((with_reducible refine gD_ (N := 6) rfl ?_); refine bE_ ?hg (N := 6) ?hd (cs := #[.bool false, .string (⟨#[]⟩ : ByteArray), .string (⟨#[]⟩ : ByteArray)]) (t := 26) ?hr ?_; (case hd => rfl); (case hg => rfl); (case hr => first | (go_simp; done) | (go_simp; rfl)); intro gb286 hg w10 hbox hb; have n0_ := A0_.mk (bT_ (xB_ HB) hb); have n1_ := A0_.mk (hbox); have n2_ := A0_.mk ((by rw [hg]; exact (bZ_ (xB_ HB)) : w.heap.size ≤ gb286)); have n3_ := A0_.mk ((by rw [hg]; exact (bZ_ (xB_ HB)) : w.heap.size ≤ gb286)); clear HB; have HB := n0_; have BK286 := n1_; have GW286 := n2_; have GE286 := n3_; clear n0_ n1_ n2_ n3_; clear hb hbox hg) | ((with_reducible refine gC_ (f := 61) rfl ?_); refine goesL_ (some 9) rfl rfl Tryd.func61 (by kernel_rfl) rfl #[.string a1] rfl mp_ ?_; (with_reducible refine (natural_Normalize.calls k a1 t287 _ A4.out).mono ?_); rintro e w' ⟨rfl, ⟨nd, rfl⟩⟩; refine ⟨_, rfl, ?_⟩; (try (rw [drewN_self w10]; generalize hq_ : World.drewN w10 _ = w10; have n0_ : A0_ (w10.heap[gb286]? = some (.cells #[.bool false, .string (⟨#[]⟩ : ByteArray), .string (⟨#[]⟩ : ByteArray)] 26 (0, 0))) := ⟨by rw [← hq_]; exact (xK_ BK286.out)⟩; have n1_ : A0_ (Below w.heap.size w w10) := ⟨by rw [← hq_]; exact (xB1_ HB GE286)⟩; clear BK286 HB hq_; have BK286 := n0_; have HB := n1_; clear n0_ n1_))) | ((with_reducible refine gC_ (f := 61) rfl ?_); refine goesL_ (some 11) rfl rfl Tryd.func61 (by kernel_rfl) rfl #[.string a2] rfl mp_ ?_; (with_reducible refine (natural_Normalize.calls k a2 t288 _ A5.out).mono ?_); rintro e w' ⟨rfl, ⟨nd, rfl⟩⟩; refine ⟨_, rfl, ?_⟩; (try (rw [drewN_self w10]; generalize hq_ : World.drewN w10 _ = w10; have n0_ : A0_ (w10.heap[gb286]? = some (.cells #[.bool false, .string (⟨#[]⟩ : ByteArray), .string (⟨#[]⟩ : ByteArray)] 26 (0, 0))) := ⟨by rw [← hq_]; exact (xK_ BK286.out)⟩; have n1_ : A0_ (Below w.heap.size w w10) := ⟨by rw [← hq_]; exact (xB1_ HB GE286)⟩; clear BK286 HB hq_; have BK286 := n0_; have HB := n1_; clear n0_ n1_)); have hcz11_0 : w10.cell? ⟨gb286, 0, none⟩ = some (.bool false) := (kc_ BK286.out 0).trans rfl; have hcz11_1 : w10.cell? ⟨gb286, 1, none⟩ = some (.string (⟨#[]⟩ : ByteArray)) := (kc_ BK286.out 1).trans rfl; have hcz11_2 : w10.cell? ⟨gb286, 2, none⟩ = some (.string (⟨#[]⟩ : ByteArray)) := (kc_ BK286.out 2).trans rfl; have hfz11_0 := kF_ BK286.out 0; have hfz11_1 := kF_ BK286.out 1; have hfz11_2 := kF_ BK286.out 2))
   refine bodyPost_ret (results_cell_row rfl _ _ gb286 26 #[.bool a0, .string t287, .string (⟨#[]⟩ : ByteArray)] (0, 0) _ rfl (by (with_reducible repeat (first | refine kN_ ?_ _ | refine kD_ ?_ | refine kA_ ?_ _)); refine kP_ (cs := #[.bool a0, .string t287, .string (⟨#[]⟩ : ByteArray)]) ?_ 2 _ rfl; (with_reducible repeat (first | refine kN_ ?_ _ | refine kD_ ?_ | refine kA_ ?_ _)); refine kP_ (cs := #[.bool a0, .string (⟨#[]⟩ : ByteArray), .string (⟨#[]⟩ : ByteArray)]) ?_ 1 _ rfl; (with_reducible repeat (first | refine kN_ ?_ _ | refine kD_ ?_ | refine kA_ ?_ _)); refine kP_ (cs := #[.bool false, .string (⟨#[]⟩ : ByteArray), .string (⟨#[]⟩ : ByteArray)]) ?_ 0 _ rfl; (with_reducible repeat (first | refine kN_ ?_ _ | refine kD_ ?_ | refine kA_ ?_ _)); exact BK286.out) Tryd.underlying26 rfl (by kernel_rfl)) rfl ?_
   exact ⟨rE_, xB1_ HB GE286⟩
  ·rw [if_neg c9] at H
   have c9b0 : (t288.toList == ([1] : List UInt8)) = false := beq_eq_false_iff_ne.mpr c9
   have c9b1 : (t288.toList != ([1] : List UInt8)) = true := bne_iff_ne.mpr c9
   replace H := Option.bind_eq_some_iff.mp H
   obtain ⟨t289, A120, H⟩ := H
   (try dsimp only at H)
   have A12 := A0_.mk A120
   clear A120
   by_cases c13 : t289.toList = ([1] : List UInt8)
   ·rw [if_pos c13] at H
    have c13b0 : (t289.toList == ([1] : List UInt8)) = true := beq_iff_eq.mpr c13
    have c13b1 : (t289.toList != ([1] : List UInt8)) = false := bne_eq_false_iff_eq.mpr c13
    clear c13
    simp only [Option.some.injEq, Prod.mk.injEq] at H
    obtain ⟨rfl, rfl, rfl⟩ := H
    go_enter Tryd.func52, Tryd.ntmps52
    go_wp2_with (first | ((with_reducible refine gD_ (N := 6) rfl ?_); refine bE_ ?hg (N := 6) ?hd (cs := #[.bool false, .string (⟨#[]⟩ : ByteArray), .string (⟨#[]⟩ : ByteArray)]) (t := 26) ?hr ?_; (case hd => rfl); (case hg => rfl); (case hr => first | (go_simp; done) | (go_simp; rfl)); intro gb286 hg w14 hbox hb; have n0_ := A0_.mk (bT_ (xB_ HB) hb); have n1_ := A0_.mk (hbox); have n2_ := A0_.mk ((by rw [hg]; exact (bZ_ (xB_ HB)) : w.heap.size ≤ gb286)); have n3_ := A0_.mk ((by rw [hg]; exact (bZ_ (xB_ HB)) : w.heap.size ≤ gb286)); clear HB; have HB := n0_; have BK286 := n1_; have GW286 := n2_; have GE286 := n3_; clear n0_ n1_ n2_ n3_; clear hb hbox hg) | ((with_reducible refine gC_ (f := 61) rfl ?_); refine goesL_ (some 9) rfl rfl Tryd.func61 (by kernel_rfl) rfl #[.string a1] rfl mp_ ?_; (with_reducible refine (natural_Normalize.calls k a1 t287 _ A4.out).mono ?_); rintro e w' ⟨rfl, ⟨nd, rfl⟩⟩; refine ⟨_, rfl, ?_⟩; (try (rw [drewN_self w14]; generalize hq_ : World.drewN w14 _ = w14; have n0_ : A0_ (w14.heap[gb286]? = some (.cells #[.bool false, .string (⟨#[]⟩ : ByteArray), .string (⟨#[]⟩ : ByteArray)] 26 (0, 0))) := ⟨by rw [← hq_]; exact (xK_ BK286.out)⟩; have n1_ : A0_ (Below w.heap.size w w14) := ⟨by rw [← hq_]; exact (xB1_ HB GE286)⟩; clear BK286 HB hq_; have BK286 := n0_; have HB := n1_; clear n0_ n1_))) | ((with_reducible refine gC_ (f := 61) rfl ?_); refine goesL_ (some 11) rfl rfl Tryd.func61 (by kernel_rfl) rfl #[.string a2] rfl mp_ ?_; (with_reducible refine (natural_Normalize.calls k a2 t288 _ A5.out).mono ?_); rintro e w' ⟨rfl, ⟨nd, rfl⟩⟩; refine ⟨_, rfl, ?_⟩; (try (rw [drewN_self w14]; generalize hq_ : World.drewN w14 _ = w14; have n0_ : A0_ (w14.heap[gb286]? = some (.cells #[.bool false, .string (⟨#[]⟩ : ByteArray), .string (⟨#[]⟩ : ByteArray)] 26 (0, 0))) := ⟨by rw [← hq_]; exact (xK_ BK286.out)⟩; have n1_ : A0_ (Below w.heap.size w w14) := ⟨by rw [← hq_]; exact (xB1_ HB GE286)⟩; clear BK286 HB hq_; have BK286 := n0_; have HB := n1_; clear n0_ n1_))) | ((with_reducible refine gC_ (f := 70) rfl ?_); refine goesL_ (some 19) rfl rfl Tryd.func70 (by kernel_rfl) rfl #[.string t287, .string t288] rfl mp_ ?_; (with_reducible refine (natural_GCD.calls k t287 t288 t289 _ A12.out).mono ?_); rintro e w15 ⟨rfl, hb⟩; refine ⟨_, rfl, ?_⟩; have n0_ := A0_.mk (kB_ (g := gb286) (o := .cells #[.bool false, .string (⟨#[]⟩ : ByteArray), .string (⟨#[]⟩ : ByteArray)] 26 (0, 0)) (xK_ BK286.out) hb); have n1_ := A0_.mk (bT_ (xB1_ HB GE286) hb); clear BK286 HB; have BK286 := n0_; have HB := n1_; clear n0_ n1_; (try clear hb); (try clear hb2); (try clear hk); (try clear hi); have hcz16_0 : w15.cell? ⟨gb286, 0, none⟩ = some (.bool false) := (kc_ BK286.out 0).trans rfl; have hcz16_1 : w15.cell? ⟨gb286, 1, none⟩ = some (.string (⟨#[]⟩ : ByteArray)) := (kc_ BK286.out 1).trans rfl; have hcz16_2 : w15.cell? ⟨gb286, 2, none⟩ = some (.string (⟨#[]⟩ : ByteArray)) := (kc_ BK286.out 2).trans rfl; have hfz16_0 := kF_ BK286.out 0; have hfz16_1 := kF_ BK286.out 1; have hfz16_2 := kF_ BK286.out 2))
    refine bodyPost_ret (results_cell_row rfl _ _ gb286 26 #[.bool a0, .string t287, .string t288] (0, 0) _ rfl (by (with_reducible repeat (first | refine kN_ ?_ _ | refine kD_ ?_ | refine kA_ ?_ _)); refine kP_ (cs := #[.bool a0, .string t287, .string (⟨#[]⟩ : ByteArray)]) ?_ 2 _ rfl; (with_reducible repeat (first | refine kN_ ?_ _ | refine kD_ ?_ | refine kA_ ?_ _)); refine kP_ (cs := #[.bool a0, .string (⟨#[]⟩ : ByteArray), .string (⟨#[]⟩ : ByteArray)]) ?_ 1 _ rfl; (with_reducible repeat (first | refine kN_ ?_ _ | refine kD_ ?_ | refine kA_ ?_ _)); refine kP_ (cs := #[.bool false, .string (⟨#[]⟩ : ByteArray), .string (⟨#[]⟩ : ByteArray)]) ?_ 0 _ rfl; (with_reducible repeat (first | refine kN_ ?_ _ | refine kD_ ?_ | refine kA_ ?_ _)); exact BK286.out) Tryd.underlying26 rfl (by kernel_rfl)) rfl ?_
    exact ⟨rE_, xB1_ HB GE286⟩
   ·rw [if_neg c13] at H
    have c13b0 : (t289.toList == ([1] : List UInt8)) = false := beq_eq_false_iff_ne.mpr c13
    have c13b1 : (t289.toList != ([1] : List UInt8)) = true := bne_iff_ne.mpr c13
    replace H := Option.bind_eq_some_iff.mp H
    obtain ⟨⟨t290, t291, t292⟩, A170, H⟩ := H
    (try dsimp only at H)
    have A17 := A0_.mk A170
    clear A170
    replace H := Option.bind_eq_some_iff.mp H
    obtain ⟨⟨t293, t294, t295⟩, A180, H⟩ := H
    (try dsimp only at H)
    have A18 := A0_.mk A180
    clear A180
    by_cases c19 : t293.toList = ([1] : List UInt8)
    ·rw [if_pos c19] at H
     have c19b0 : (t293.toList == ([1] : List UInt8)) = true := beq_iff_eq.mpr c19
     have c19b1 : (t293.toList != ([1] : List UInt8)) = false := bne_eq_false_iff_eq.mpr c19
     clear c19
     simp only [Option.some.injEq, Prod.mk.injEq] at H
     obtain ⟨rfl, rfl, rfl⟩ := H
     go_enter Tryd.func52, Tryd.ntmps52
     go_wp2_with (first | ((with_reducible refine gD_ (N := 6) rfl ?_); refine bE_ ?hg (N := 6) ?hd (cs := #[.bool false, .string (⟨#[]⟩ : ByteArray), .string (⟨#[]⟩ : ByteArray)]) (t := 26) ?hr ?_; (case hd => rfl); (case hg => rfl); (case hr => first | (go_simp; done) | (go_simp; rfl)); intro gb286 hg w20 hbox hb; have n0_ := A0_.mk (bT_ (xB_ HB) hb); have n1_ := A0_.mk (hbox); have n2_ := A0_.mk ((by rw [hg]; exact (bZ_ (xB_ HB)) : w.heap.size ≤ gb286)); have n3_ := A0_.mk ((by rw [hg]; exact (bZ_ (xB_ HB)) : w.heap.size ≤ gb286)); clear HB; have HB := n0_; have BK286 := n1_; have GW286 := n2_; have GE286 := n3_; clear n0_ n1_ n2_ n3_; clear hb hbox hg) | ((with_reducible refine gC_ (f := 61) rfl ?_); refine goesL_ (some 9) rfl rfl Tryd.func61 (by kernel_rfl) rfl #[.string a1] rfl mp_ ?_; (with_reducible refine (natural_Normalize.calls k a1 t287 _ A4.out).mono ?_); rintro e w' ⟨rfl, ⟨nd, rfl⟩⟩; refine ⟨_, rfl, ?_⟩; (try (rw [drewN_self w20]; generalize hq_ : World.drewN w20 _ = w20; have n0_ : A0_ (w20.heap[gb286]? = some (.cells #[.bool false, .string (⟨#[]⟩ : ByteArray), .string (⟨#[]⟩ : ByteArray)] 26 (0, 0))) := ⟨by rw [← hq_]; exact (xK_ BK286.out)⟩; have n1_ : A0_ (Below w.heap.size w w20) := ⟨by rw [← hq_]; exact (xB1_ HB GE286)⟩; clear BK286 HB hq_; have BK286 := n0_; have HB := n1_; clear n0_ n1_))) | ((with_reducible refine gC_ (f := 61) rfl ?_); refine goesL_ (some 11) rfl rfl Tryd.func61 (by kernel_rfl) rfl #[.string a2] rfl mp_ ?_; (with_reducible refine (natural_Normalize.calls k a2 t288 _ A5.out).mono ?_); rintro e w' ⟨rfl, ⟨nd, rfl⟩⟩; refine ⟨_, rfl, ?_⟩; (try (rw [drewN_self w20]; generalize hq_ : World.drewN w20 _ = w20; have n0_ : A0_ (w20.heap[gb286]? = some (.cells #[.bool false, .string (⟨#[]⟩ : ByteArray), .string (⟨#[]⟩ : ByteArray)] 26 (0, 0))) := ⟨by rw [← hq_]; exact (xK_ BK286.out)⟩; have n1_ : A0_ (Below w.heap.size w w20) := ⟨by rw [← hq_]; exact (xB1_ HB GE286)⟩; clear BK286 HB hq_; have BK286 := n0_; have HB := n1_; clear n0_ n1_))) | ((with_reducible refine gC_ (f := 70) rfl ?_); refine goesL_ (some 19) rfl rfl Tryd.func70 (by kernel_rfl) rfl #[.string t287, .string t288] rfl mp_ ?_; (with_reducible refine (natural_GCD.calls k t287 t288 t289 _ A12.out).mono ?_); rintro e w21 ⟨rfl, hb⟩; refine ⟨_, rfl, ?_⟩; have n0_ := A0_.mk (kB_ (g := gb286) (o := .cells #[.bool false, .string (⟨#[]⟩ : ByteArray), .string (⟨#[]⟩ : ByteArray)] 26 (0, 0)) (xK_ BK286.out) hb); have n1_ := A0_.mk (bT_ (xB1_ HB GE286) hb); clear BK286 HB; have BK286 := n0_; have HB := n1_; clear n0_ n1_; (try clear hb); (try clear hb2); (try clear hk); (try clear hi)) | ((with_reducible refine gC_ (f := 71) rfl ?_); refine goesL_ (some 25) rfl rfl Tryd.func71 (by kernel_rfl) rfl #[.string t287, .string t289] rfl mp_ ?_; (with_reducible refine (natural_Divide.calls k t287 t289 t290 t291 t292 _ A17.out).mono ?_); rintro e w22 ⟨rfl, hb⟩; refine ⟨_, rfl, ?_⟩; have n0_ := A0_.mk (kB_ (g := gb286) (o := .cells #[.bool false, .string (⟨#[]⟩ : ByteArray), .string (⟨#[]⟩ : ByteArray)] 26 (0, 0)) (xK_ BK286.out) hb); have n1_ := A0_.mk (bT_ (xB1_ HB GE286) hb); clear BK286 HB; have BK286 := n0_; have HB := n1_; clear n0_ n1_; (try clear hb); (try clear hb2); (try clear hk); (try clear hi)) | ((with_reducible refine gC_ (f := 71) rfl ?_); refine goesL_ (some 32) rfl rfl Tryd.func71 (by kernel_rfl) rfl #[.string t288, .string t289] rfl mp_ ?_; (with_reducible refine (natural_Divide.calls k t288 t289 t293 t294 t295 _ A18.out).mono ?_); rintro e w23 ⟨rfl, hb⟩; refine ⟨_, rfl, ?_⟩; have n0_ := A0_.mk (kB_ (g := gb286) (o := .cells #[.bool false, .string (⟨#[]⟩ : ByteArray), .string (⟨#[]⟩ : ByteArray)] 26 (0, 0)) (xK_ BK286.out) hb); have n1_ := A0_.mk (bT_ (xB1_ HB GE286) hb); clear BK286 HB; have BK286 := n0_; have HB := n1_; clear n0_ n1_; (try clear hb); (try clear hb2); (try clear hk); (try clear hi); have hcz24_0 : w23.cell? ⟨gb286, 0, none⟩ = some (.bool false) := (kc_ BK286.out 0).trans rfl; have hcz24_1 : w23.cell? ⟨gb286, 1, none⟩ = some (.string (⟨#[]⟩ : ByteArray)) := (kc_ BK286.out 1).trans rfl; have hcz24_2 : w23.cell? ⟨gb286, 2, none⟩ = some (.string (⟨#[]⟩ : ByteArray)) := (kc_ BK286.out 2).trans rfl; have hfz24_0 := kF_ BK286.out 0; have hfz24_1 := kF_ BK286.out 1; have hfz24_2 := kF_ BK286.out 2))
     refine bodyPost_ret (results_cell_row rfl _ _ gb286 26 #[.bool a0, .string t290, .string (⟨#[]⟩ : ByteArray)] (0, 0) _ rfl (by (with_reducible repeat (first | refine kN_ ?_ _ | refine kD_ ?_ | refine kA_ ?_ _)); refine kP_ (cs := #[.bool a0, .string t290, .string (⟨#[]⟩ : ByteArray)]) ?_ 2 _ rfl; (with_reducible repeat (first | refine kN_ ?_ _ | refine kD_ ?_ | refine kA_ ?_ _)); refine kP_ (cs := #[.bool a0, .string (⟨#[]⟩ : ByteArray), .string (⟨#[]⟩ : ByteArray)]) ?_ 1 _ rfl; (with_reducible repeat (first | refine kN_ ?_ _ | refine kD_ ?_ | refine kA_ ?_ _)); refine kP_ (cs := #[.bool false, .string (⟨#[]⟩ : ByteArray), .string (⟨#[]⟩ : ByteArray)]) ?_ 0 _ rfl; (with_reducible repeat (first | refine kN_ ?_ _ | refine kD_ ?_ | refine kA_ ?_ _)); exact BK286.out) Tryd.underlying26 rfl (by kernel_rfl)) rfl ?_
     exact ⟨rE_, xB1_ HB GE286⟩
    ·rw [if_neg c19] at H
     have c19b0 : (t293.toList == ([1] : List UInt8)) = false := beq_eq_false_iff_ne.mpr c19
     have c19b1 : (t293.toList != ([1] : List UInt8)) = true := bne_iff_ne.mpr c19
     simp only [Option.some.injEq, Prod.mk.injEq] at H
     obtain ⟨rfl, rfl, rfl⟩ := H
     go_enter Tryd.func52, Tryd.ntmps52
     go_wp2_with (first | ((with_reducible refine gD_ (N := 6) rfl ?_); refine bE_ ?hg (N := 6) ?hd (cs := #[.bool false, .string (⟨#[]⟩ : ByteArray), .string (⟨#[]⟩ : ByteArray)]) (t := 26) ?hr ?_; (case hd => rfl); (case hg => rfl); (case hr => first | (go_simp; done) | (go_simp; rfl)); intro gb286 hg w25 hbox hb; have n0_ := A0_.mk (bT_ (xB_ HB) hb); have n1_ := A0_.mk (hbox); have n2_ := A0_.mk ((by rw [hg]; exact (bZ_ (xB_ HB)) : w.heap.size ≤ gb286)); have n3_ := A0_.mk ((by rw [hg]; exact (bZ_ (xB_ HB)) : w.heap.size ≤ gb286)); clear HB; have HB := n0_; have BK286 := n1_; have GW286 := n2_; have GE286 := n3_; clear n0_ n1_ n2_ n3_; clear hb hbox hg) | ((with_reducible refine gC_ (f := 61) rfl ?_); refine goesL_ (some 9) rfl rfl Tryd.func61 (by kernel_rfl) rfl #[.string a1] rfl mp_ ?_; (with_reducible refine (natural_Normalize.calls k a1 t287 _ A4.out).mono ?_); rintro e w' ⟨rfl, ⟨nd, rfl⟩⟩; refine ⟨_, rfl, ?_⟩; (try (rw [drewN_self w25]; generalize hq_ : World.drewN w25 _ = w25; have n0_ : A0_ (w25.heap[gb286]? = some (.cells #[.bool false, .string (⟨#[]⟩ : ByteArray), .string (⟨#[]⟩ : ByteArray)] 26 (0, 0))) := ⟨by rw [← hq_]; exact (xK_ BK286.out)⟩; have n1_ : A0_ (Below w.heap.size w w25) := ⟨by rw [← hq_]; exact (xB1_ HB GE286)⟩; clear BK286 HB hq_; have BK286 := n0_; have HB := n1_; clear n0_ n1_))) | ((with_reducible refine gC_ (f := 61) rfl ?_); refine goesL_ (some 11) rfl rfl Tryd.func61 (by kernel_rfl) rfl #[.string a2] rfl mp_ ?_; (with_reducible refine (natural_Normalize.calls k a2 t288 _ A5.out).mono ?_); rintro e w' ⟨rfl, ⟨nd, rfl⟩⟩; refine ⟨_, rfl, ?_⟩; (try (rw [drewN_self w25]; generalize hq_ : World.drewN w25 _ = w25; have n0_ : A0_ (w25.heap[gb286]? = some (.cells #[.bool false, .string (⟨#[]⟩ : ByteArray), .string (⟨#[]⟩ : ByteArray)] 26 (0, 0))) := ⟨by rw [← hq_]; exact (xK_ BK286.out)⟩; have n1_ : A0_ (Below w.heap.size w w25) := ⟨by rw [← hq_]; exact (xB1_ HB GE286)⟩; clear BK286 HB hq_; have BK286 := n0_; have HB := n1_; clear n0_ n1_))) | ((with_reducible refine gC_ (f := 70) rfl ?_); refine goesL_ (some 19) rfl rfl Tryd.func70 (by kernel_rfl) rfl #[.string t287, .string t288] rfl mp_ ?_; (with_reducible refine (natural_GCD.calls k t287 t288 t289 _ A12.out).mono ?_); rintro e w26 ⟨rfl, hb⟩; refine ⟨_, rfl, ?_⟩; have n0_ := A0_.mk (kB_ (g := gb286) (o := .cells #[.bool false, .string (⟨#[]⟩ : ByteArray), .string (⟨#[]⟩ : ByteArray)] 26 (0, 0)) (xK_ BK286.out) hb); have n1_ := A0_.mk (bT_ (xB1_ HB GE286) hb); clear BK286 HB; have BK286 := n0_; have HB := n1_; clear n0_ n1_; (try clear hb); (try clear hb2); (try clear hk); (try clear hi)) | ((with_reducible refine gC_ (f := 71) rfl ?_); refine goesL_ (some 25) rfl rfl Tryd.func71 (by kernel_rfl) rfl #[.string t287, .string t289] rfl mp_ ?_; (with_reducible refine (natural_Divide.calls k t287 t289 t290 t291 t292 _ A17.out).mono ?_); rintro e w27 ⟨rfl, hb⟩; refine ⟨_, rfl, ?_⟩; have n0_ := A0_.mk (kB_ (g := gb286) (o := .cells #[.bool false, .string (⟨#[]⟩ : ByteArray), .string (⟨#[]⟩ : ByteArray)] 26 (0, 0)) (xK_ BK286.out) hb); have n1_ := A0_.mk (bT_ (xB1_ HB GE286) hb); clear BK286 HB; have BK286 := n0_; have HB := n1_; clear n0_ n1_; (try clear hb); (try clear hb2); (try clear hk); (try clear hi)) | ((with_reducible refine gC_ (f := 71) rfl ?_); refine goesL_ (some 32) rfl rfl Tryd.func71 (by kernel_rfl) rfl #[.string t288, .string t289] rfl mp_ ?_; (with_reducible refine (natural_Divide.calls k t288 t289 t293 t294 t295 _ A18.out).mono ?_); rintro e w28 ⟨rfl, hb⟩; refine ⟨_, rfl, ?_⟩; have n0_ := A0_.mk (kB_ (g := gb286) (o := .cells #[.bool false, .string (⟨#[]⟩ : ByteArray), .string (⟨#[]⟩ : ByteArray)] 26 (0, 0)) (xK_ BK286.out) hb); have n1_ := A0_.mk (bT_ (xB1_ HB GE286) hb); clear BK286 HB; have BK286 := n0_; have HB := n1_; clear n0_ n1_; (try clear hb); (try clear hb2); (try clear hk); (try clear hi); have hcz29_0 : w28.cell? ⟨gb286, 0, none⟩ = some (.bool false) := (kc_ BK286.out 0).trans rfl; have hcz29_1 : w28.cell? ⟨gb286, 1, none⟩ = some (.string (⟨#[]⟩ : ByteArray)) := (kc_ BK286.out 1).trans rfl; have hcz29_2 : w28.cell? ⟨gb286, 2, none⟩ = some (.string (⟨#[]⟩ : ByteArray)) := (kc_ BK286.out 2).trans rfl; have hfz29_0 := kF_ BK286.out 0; have hfz29_1 := kF_ BK286.out 1; have hfz29_2 := kF_ BK286.out 2))
     refine bodyPost_ret (results_cell_row rfl _ _ gb286 26 #[.bool a0, .string t290, .string t293] (0, 0) _ rfl (by (with_reducible repeat (first | refine kN_ ?_ _ | refine kD_ ?_ | refine kA_ ?_ _)); refine kP_ (cs := #[.bool a0, .string t290, .string (⟨#[]⟩ : ByteArray)]) ?_ 2 _ rfl; (with_reducible repeat (first | refine kN_ ?_ _ | refine kD_ ?_ | refine kA_ ?_ _)); refine kP_ (cs := #[.bool a0, .string (⟨#[]⟩ : ByteArray), .string (⟨#[]⟩ : ByteArray)]) ?_ 1 _ rfl; (with_reducible repeat (first | refine kN_ ?_ _ | refine kD_ ?_ | refine kA_ ?_ _)); refine kP_ (cs := #[.bool false, .string (⟨#[]⟩ : ByteArray), .string (⟨#[]⟩ : ByteArray)]) ?_ 0 _ rfl; (with_reducible repeat (first | refine kN_ ?_ _ | refine kD_ ?_ | refine kA_ ?_ _)); exact BK286.out) Tryd.underlying26 rfl (by kernel_rfl)) rfl ?_
     exact ⟨rE_, xB1_ HB GE286⟩
def rational_Int.f (k : Nat) (a0 : Int) : Option (Bool × ByteArray × ByteArray) := (rational_magnitude.f k a0).bind fun t492 => ((rational_reduced.f k (decide (a0 < 0)) t492 (⟨#[1]⟩ : ByteArray)).bind fun bt493 => (some (bt493.1, bt493.2.1, bt493.2.2)))
theorem rational_Int.mono : ∀ a0 k, LeO (rational_Int.f k a0) (rational_Int.f (k + 1) a0) := by
 intro a0 k
 unfold rational_Int.f
 repeat' first
   | (with_reducible exact rational_magnitude.mono _ _)
   | (with_reducible exact rational_reduced.mono _ _ _ _)
   | (with_reducible exact LeO.refl _)
   | (with_reducible exact LeO.none _)
   | (with_reducible refine LeO.ite ?_ ?_)
   | (with_reducible refine LeO.bind ?_ (fun _ => ?_))
set_option maxHeartbeats 8000000 in
set_option maxRecDepth 100000 in
theorem rational_Int.calls (k : Nat) (a0 : Int) (r1 : Bool) (r2 : ByteArray) (r3 : ByteArray) (w : World) (h : rational_Int.f k a0 = some (r1, r2, r3)) :
  Calls Tryd.prog 29 #[.int .i64 a0] w fun e w' => e = .returned (.agg #[.bool r1, .string r2, .string r3]) ∧ Below w.heap.size w w' := by
 have hu26 := Tryd.underlying26
 have HB := A0_.mk (Below.refl w.heap.size w)
 have H := h
 unfold rational_Int.f at H
 clear h
 replace H := Option.bind_eq_some_iff.mp H
 obtain ⟨t492, A20, H⟩ := H
 (try dsimp only at H)
 have A2 := A0_.mk A20
 clear A20
 replace H := Option.bind_eq_some_iff.mp H
 obtain ⟨⟨t493, t494, t495⟩, A30, H⟩ := H
 (try dsimp only at H)
 have A3 := A0_.mk A30
 clear A30
 simp only [Option.some.injEq, Prod.mk.injEq] at H
 obtain ⟨rfl, rfl, rfl⟩ := H
 go_enter Tryd.func29, Tryd.ntmps29
 go_wp2_with (first | ((with_reducible refine gD_ (N := 2) rfl ?_); refine bE_ ?hg (N := 2) ?hd (cs := #[.bool false, .string (⟨#[]⟩ : ByteArray), .string (⟨#[]⟩ : ByteArray)]) (t := 26) ?hr ?_; (case hd => rfl); (case hg => rfl); (case hr => first | (go_simp; done) | (go_simp; rfl)); intro gb491 hg w4 hbox hb; have n0_ := A0_.mk (bT_ (xB_ HB) hb); have n1_ := A0_.mk (hbox); have n2_ := A0_.mk ((by rw [hg]; exact (bZ_ (xB_ HB)) : w.heap.size ≤ gb491)); have n3_ := A0_.mk ((by rw [hg]; exact (bZ_ (xB_ HB)) : w.heap.size ≤ gb491)); clear HB; have HB := n0_; have BK491 := n1_; have GW491 := n2_; have GE491 := n3_; clear n0_ n1_ n2_ n3_; clear hb hbox hg) | ((with_reducible refine gC_ (f := 53) rfl ?_); refine goesL_ (some 6) rfl rfl Tryd.func53 (by kernel_rfl) rfl #[.int .i64 a0] rfl mp_ ?_; (with_reducible refine (rational_magnitude.calls k a0 t492 _ A2.out).mono ?_); rintro e w5 ⟨rfl, hb⟩; refine ⟨_, rfl, ?_⟩; have n0_ := A0_.mk (kB_ (g := gb491) (o := .cells #[.bool false, .string (⟨#[]⟩ : ByteArray), .string (⟨#[]⟩ : ByteArray)] 26 (0, 0)) (xK_ BK491.out) hb); have n1_ := A0_.mk (bT_ (xB1_ HB GE491) hb); clear BK491 HB; have BK491 := n0_; have HB := n1_; clear n0_ n1_; (try clear hb); (try clear hb2); (try clear hk); (try clear hi)) | ((with_reducible refine gC_ (f := 52) rfl ?_); refine goesL_ (some 7) rfl rfl Tryd.func52 (by kernel_rfl) rfl #[.bool (decide (a0 < 0)), .string t492, .string (⟨#[1]⟩ : ByteArray)] rfl mp_ ?_; (with_reducible refine (rational_reduced.calls k (decide (a0 < 0)) t492 (⟨#[1]⟩ : ByteArray) t493 t494 t495 _ A3.out).mono ?_); rintro e w6 ⟨rfl, hb⟩; refine ⟨_, rfl, ?_⟩; have n0_ := A0_.mk (kB_ (g := gb491) (o := .cells #[.bool false, .string (⟨#[]⟩ : ByteArray), .string (⟨#[]⟩ : ByteArray)] 26 (0, 0)) (xK_ BK491.out) hb); have n1_ := A0_.mk (bT_ (xB1_ HB GE491) hb); clear BK491 HB; have BK491 := n0_; have HB := n1_; clear n0_ n1_; (try clear hb); (try clear hb2); (try clear hk); (try clear hi); have hcz7_0 : w6.cell? ⟨gb491, 0, none⟩ = some (.bool false) := (kc_ BK491.out 0).trans rfl; have hcz7_1 : w6.cell? ⟨gb491, 1, none⟩ = some (.string (⟨#[]⟩ : ByteArray)) := (kc_ BK491.out 1).trans rfl; have hcz7_2 : w6.cell? ⟨gb491, 2, none⟩ = some (.string (⟨#[]⟩ : ByteArray)) := (kc_ BK491.out 2).trans rfl; have hfz7_0 := kF_ BK491.out 0; have hfz7_1 := kF_ BK491.out 1; have hfz7_2 := kF_ BK491.out 2))
 refine bodyPost_ret (results_cell_row rfl _ _ gb491 26 #[.bool t493, .string t494, .string t495] (0, 0) _ rfl (by (with_reducible repeat (first | refine kN_ ?_ _ | refine kD_ ?_ | refine kA_ ?_ _)); refine kP_ (cs := #[.bool t493, .string t494, .string (⟨#[]⟩ : ByteArray)]) ?_ 2 _ rfl; (with_reducible repeat (first | refine kN_ ?_ _ | refine kD_ ?_ | refine kA_ ?_ _)); refine kP_ (cs := #[.bool t493, .string (⟨#[]⟩ : ByteArray), .string (⟨#[]⟩ : ByteArray)]) ?_ 1 _ rfl; (with_reducible repeat (first | refine kN_ ?_ _ | refine kD_ ?_ | refine kA_ ?_ _)); refine kP_ (cs := #[.bool false, .string (⟨#[]⟩ : ByteArray), .string (⟨#[]⟩ : ByteArray)]) ?_ 0 _ rfl; (with_reducible repeat (first | refine kN_ ?_ _ | refine kD_ ?_ | refine kA_ ?_ _)); exact BK491.out) Tryd.underlying26 rfl (by kernel_rfl)) rfl ?_
 exact ⟨rE_, xB1_ HB GE491⟩
def bytealg_CompareString.f (a0 : ByteArray) (a1 : ByteArray) : Option (Int) := some (Lib.compareBytes a0.data.toList a1.data.toList)
set_option maxHeartbeats 8000000 in
set_option maxRecDepth 100000 in
theorem bytealg_CompareString.calls (a0 : ByteArray) (a1 : ByteArray) (r : Int) (w : World) (h : bytealg_CompareString.f a0 a1 = some r) :
  Calls Tryd.prog 78 #[.string a0, .string a1] w fun e w' => e = .returned (.int .i64 r) ∧ Drawn0 w w' := by
 obtain rfl : Lib.compareBytes a0.data.toList a1.data.toList = r := by injection h
 clear h
 go_enter Tryd.func78, Tryd.ntmps78
 go_wp2
 rw [run_callFunc_extern Tryd.func100 (by kernel_rfl) (by kernel_rfl) (by kernel_rfl) (e := Extern.BytealgCompare.compare) (by kernel_rfl), Lib.run_compareString]
 simp only [Result.andThen]
 rw [Oper.upon_value]
 go_wp2
 go_ret
 exact ⟨rfl, Drawn0.refl _⟩
def strings_Compare.f (a0 : ByteArray) (a1 : ByteArray) : Option (Int) := (bytealg_CompareString.f a0 a1).bind fun t394 => (some t394)
set_option maxHeartbeats 8000000 in
set_option maxRecDepth 100000 in
theorem strings_Compare.calls (a0 : ByteArray) (a1 : ByteArray) (r : Int) (w : World) (h : strings_Compare.f a0 a1 = some r) :
  Calls Tryd.prog 63 #[.string a0, .string a1] w fun e w' => e = .returned (.int .i64 r) ∧ Drawn0 w w' := by
 have H : ((bytealg_CompareString.f a0 a1).bind fun t394 => (some t394)) = some r := h
 clear h
 replace H := Option.bind_eq_some_iff.mp H
 obtain ⟨t394, A30, H⟩ := H
 (try dsimp only at H)
 have A3 := A0_.mk A30
 clear A30
 obtain rfl := Option.some.inj H
 go_enter Tryd.func63, Tryd.ntmps63
 go_wp2_with (first | ((with_reducible refine gC_ (f := 78) rfl ?_); refine goesL_ (some 7) rfl rfl Tryd.func78 (by kernel_rfl) rfl #[.string a0, .string a1] rfl mp_ ?_; (with_reducible refine (bytealg_CompareString.calls a0 a1 t394 _ A3.out).mono ?_); rintro e w' ⟨rfl, ⟨nd, rfl⟩⟩; refine ⟨_, rfl, ?_⟩))
 go_ret
 exact ⟨by first | rfl | (simp; done) | (simp [*]; done), by repeat (first | exact Drawn0.refl _ | apply Drawn0.step)⟩
def natural_Compare.f (k : Nat) (a0 : ByteArray) (a1 : ByteArray) : Option (Int) := (natural_Normalize.f k a0).bind fun t395 => ((natural_Normalize.f k a1).bind fun t396 => (if (t395.size : Int) = (t396.size : Int) then ((strings_Compare.f t395 t396).bind fun t397 => (some t397)) else ((natural_sign.f (wrap64 ((t395.size : Int) - (t396.size : Int)))).bind fun t398 => (some t398))))
theorem natural_Compare.mono : ∀ a0 a1 k, LeO (natural_Compare.f k a0 a1) (natural_Compare.f (k + 1) a0 a1) := by
 intro a0 a1 k
 unfold natural_Compare.f
 repeat' first
   | (with_reducible exact natural_Normalize.mono _ _)
   | (with_reducible exact LeO.refl _)
   | (with_reducible exact LeO.none _)
   | (with_reducible refine LeO.ite ?_ ?_)
   | (with_reducible refine LeO.bind ?_ (fun _ => ?_))
set_option maxHeartbeats 8000000 in
set_option maxRecDepth 100000 in
theorem natural_Compare.calls (k : Nat) (a0 : ByteArray) (a1 : ByteArray) (r : Int) (w : World) (h : natural_Compare.f k a0 a1 = some r) :
  Calls Tryd.prog 44 #[.string a0, .string a1] w fun e w' => e = .returned (.int .i64 r) ∧ Drawn0 w w' := by
 have H := h
 unfold natural_Compare.f at H
 clear h
 replace H := Option.bind_eq_some_iff.mp H
 obtain ⟨t395, A30, H⟩ := H
 (try dsimp only at H)
 have A3 := A0_.mk A30
 clear A30
 replace H := Option.bind_eq_some_iff.mp H
 obtain ⟨t396, A40, H⟩ := H
 (try dsimp only at H)
 have A4 := A0_.mk A40
 clear A40
 by_cases c5 : (t395.size : Int) = (t396.size : Int)
 ·rw [if_pos c5] at H
  have c5b0 : ((t395.size : Int) == (t396.size : Int)) = true := beq_iff_eq.mpr c5
  have c5b1 : ((t395.size : Int) != (t396.size : Int)) = false := bne_eq_false_iff_eq.mpr c5
  have c5b2 : (t395.size == t396.size) = true := by first | simpa using c5 | (simp at c5 ⊢; omega)
  clear c5
  replace H := Option.bind_eq_some_iff.mp H
  obtain ⟨t397, A60, H⟩ := H
  (try dsimp only at H)
  have A6 := A0_.mk A60
  clear A60
  obtain rfl := Option.some.inj H
  go_enter Tryd.func44, Tryd.ntmps44
  go_wp2_with (first | ((with_reducible refine gC_ (f := 61) rfl ?_); refine goesL_ (some 6) rfl rfl Tryd.func61 (by kernel_rfl) rfl #[.string a0] rfl mp_ ?_; (with_reducible refine (natural_Normalize.calls k a0 t395 _ A3.out).mono ?_); rintro e w' ⟨rfl, ⟨nd, rfl⟩⟩; refine ⟨_, rfl, ?_⟩) | ((with_reducible refine gC_ (f := 61) rfl ?_); refine goesL_ (some 8) rfl rfl Tryd.func61 (by kernel_rfl) rfl #[.string a1] rfl mp_ ?_; (with_reducible refine (natural_Normalize.calls k a1 t396 _ A4.out).mono ?_); rintro e w' ⟨rfl, ⟨nd, rfl⟩⟩; refine ⟨_, rfl, ?_⟩) | ((with_reducible refine gC_ (f := 63) rfl ?_); refine goesL_ (some 22) rfl rfl Tryd.func63 (by kernel_rfl) rfl #[.string t395, .string t396] rfl mp_ ?_; (with_reducible refine (strings_Compare.calls t395 t396 t397 _ A6.out).mono ?_); rintro e w' ⟨rfl, ⟨nd, rfl⟩⟩; refine ⟨_, rfl, ?_⟩))
  go_ret
  exact ⟨by first | rfl | (simp; done) | (simp [*]; done), by repeat (first | exact Drawn0.refl _ | apply Drawn0.step)⟩
 ·rw [if_neg c5] at H
  have c5b0 : ((t395.size : Int) == (t396.size : Int)) = false := beq_eq_false_iff_ne.mpr c5
  have c5b1 : ((t395.size : Int) != (t396.size : Int)) = true := bne_iff_ne.mpr c5
  have c5b2 : (t395.size == t396.size) = false := by first | simpa using c5 | (simp at c5 ⊢; omega)
  replace H := Option.bind_eq_some_iff.mp H
  obtain ⟨t398, A70, H⟩ := H
  (try dsimp only at H)
  have A7 := A0_.mk A70
  clear A70
  obtain rfl := Option.some.inj H
  go_enter Tryd.func44, Tryd.ntmps44
  go_wp2_with (first | ((with_reducible refine gC_ (f := 61) rfl ?_); refine goesL_ (some 6) rfl rfl Tryd.func61 (by kernel_rfl) rfl #[.string a0] rfl mp_ ?_; (with_reducible refine (natural_Normalize.calls k a0 t395 _ A3.out).mono ?_); rintro e w' ⟨rfl, ⟨nd, rfl⟩⟩; refine ⟨_, rfl, ?_⟩) | ((with_reducible refine gC_ (f := 61) rfl ?_); refine goesL_ (some 8) rfl rfl Tryd.func61 (by kernel_rfl) rfl #[.string a1] rfl mp_ ?_; (with_reducible refine (natural_Normalize.calls k a1 t396 _ A4.out).mono ?_); rintro e w' ⟨rfl, ⟨nd, rfl⟩⟩; refine ⟨_, rfl, ?_⟩) | ((with_reducible refine gC_ (f := 62) rfl ?_); refine goesL_ (some 19) rfl rfl Tryd.func62 (by kernel_rfl) rfl #[.int .i64 (wrap64 ((t395.size : Int) - (t396.size : Int)))] rfl mp_ ?_; (with_reducible refine (natural_sign.calls (wrap64 ((t395.size : Int) - (t396.size : Int))) t398 _ A7.out).mono ?_); rintro e w' ⟨rfl, ⟨nd, rfl⟩⟩; refine ⟨_, rfl, ?_⟩))
  go_ret
  exact ⟨by first | rfl | (simp; done) | (simp [*]; done), by repeat (first | exact Drawn0.refl _ | apply Drawn0.step)⟩
mutual
def natural_Multiply.l0 : Nat → List Int → List Int → List Int → Int → Int → Option (ByteArray)
 | 0, _, _, _, _, _ => none
 | k + 1, x6, x7, x24, x25, x26 => if x26 < x25 then (if 0 ≤ x26 then (if x26 < (x24.length : Int) then (natural_Multiply.l1 k x6 x7 x26 (rd x24 x26) 0 x24 x25 x26 x6 (x6.length : Int) 0) else (none)) else (none)) else ((natural_limbs_text.f k x7).bind fun t265 => (some t265))
def natural_Multiply.l1 : Nat → List Int → List Int → Int → Int → Int → List Int → Int → Int → List Int → Int → Int → Option (ByteArray)
 | 0, _, _, _, _, _, _, _, _, _, _, _ => none
 | k + 1, x6, x7, x8, x9, x10, x24, x25, x26, x31, x32, x33 => if x33 < x32 then (if 0 ≤ x33 then (if x33 < (x31.length : Int) then (if 0 ≤ (wrap64 (x8 + x33)) then (if (wrap64 (x8 + x33)) < (x7.length : Int) then (natural_Multiply.l1 k x6 (x7.set ((wrap64 (x8 + x33)) : Int).toNat ((IntKind.u64.wrap ((IntKind.u64.wrap ((IntKind.u64.wrap ((IntKind.u64.wrap (x9)) * (IntKind.u64.wrap (rd x31 x33)))) + (IntKind.u64.wrap (rd x7 (wrap64 (x8 + x33)))))) + x10)) % 4294967296)) x8 x9 ((IntKind.u64.wrap ((IntKind.u64.wrap ((IntKind.u64.wrap ((IntKind.u64.wrap (x9)) * (IntKind.u64.wrap (rd x31 x33)))) + (IntKind.u64.wrap (rd x7 (wrap64 (x8 + x33)))))) + x10)) / 4294967296) x24 x25 x26 x31 x32 (wrap64 (x33 + 1))) else (none)) else (none)) else (none)) else (none)) else (if 0 ≤ (wrap64 (x8 + (x6.length : Int))) then (if (wrap64 (x8 + (x6.length : Int))) < (x7.length : Int) then (natural_Multiply.l0 k x6 (x7.set ((wrap64 (x8 + (x6.length : Int))) : Int).toNat ((x10) % 4294967296)) x24 x25 (wrap64 (x26 + 1))) else (none)) else (none))
end
def natural_Multiply.f (k : Nat) (a0 : ByteArray) (a1 : ByteArray) : Option (ByteArray) := (natural_parse.f k a0).bind fun t256 => ((natural_parse.f k a1).bind fun t259 => (if 0 ≤ (wrap64 ((t256.length : Int) + (t259.length : Int))) then (if (wrap64 ((t256.length : Int) + (t259.length : Int)) : Int).toNat ≤ 70368744177664 then (natural_Multiply.l0 k t259 (List.replicate (wrap64 ((t256.length : Int) + (t259.length : Int)) : Int).toNat 0) t256 (t256.length : Int) 0) else (none)) else (none)))
theorem natural_Multiply.mono_l : ∀ k, (∀ y0 y1 y2 y3 y4, LeO (natural_Multiply.l0 k y0 y1 y2 y3 y4) (natural_Multiply.l0 (k + 1) y0 y1 y2 y3 y4)) ∧ (∀ y0 y1 y2 y3 y4 y5 y6 y7 y8 y9 y10, LeO (natural_Multiply.l1 k y0 y1 y2 y3 y4 y5 y6 y7 y8 y9 y10) (natural_Multiply.l1 (k + 1) y0 y1 y2 y3 y4 y5 y6 y7 y8 y9 y10))
 | 0 => ⟨fun _ _ _ _ _ r h => by simp [natural_Multiply.l0] at h, fun _ _ _ _ _ _ _ _ _ _ _ r h => by simp [natural_Multiply.l1] at h⟩
 | k + 1 => by
  obtain ⟨ih0, ih1⟩ := natural_Multiply.mono_l k
  refine ⟨?_, ?_⟩
  ·intro y0 y1 y2 y3 y4
   unfold natural_Multiply.l0
   repeat' first
   | (with_reducible exact ih0 _ _ _ _ _)
   | (with_reducible exact ih1 _ _ _ _ _ _ _ _ _ _ _)
   | (with_reducible exact natural_limbs_text.mono _ _)
   | (with_reducible exact natural_parse.mono _ _)
   | (with_reducible exact LeO.refl _)
   | (with_reducible exact LeO.none _)
   | (with_reducible refine LeO.ite ?_ ?_)
   | (with_reducible refine LeO.bind ?_ (fun _ => ?_))
  ·intro y0 y1 y2 y3 y4 y5 y6 y7 y8 y9 y10
   unfold natural_Multiply.l1
   repeat' first
   | (with_reducible exact ih0 _ _ _ _ _)
   | (with_reducible exact ih1 _ _ _ _ _ _ _ _ _ _ _)
   | (with_reducible exact natural_limbs_text.mono _ _)
   | (with_reducible exact natural_parse.mono _ _)
   | (with_reducible exact LeO.refl _)
   | (with_reducible exact LeO.none _)
   | (with_reducible refine LeO.ite ?_ ?_)
   | (with_reducible refine LeO.bind ?_ (fun _ => ?_))
theorem natural_Multiply.mono : ∀ a0 a1 k, LeO (natural_Multiply.f k a0 a1) (natural_Multiply.f (k + 1) a0 a1) := by
 intro a0 a1 k
 obtain ⟨ih0, ih1⟩ := natural_Multiply.mono_l k
 unfold natural_Multiply.f
 repeat' first
   | (with_reducible exact ih0 _ _ _ _ _)
   | (with_reducible exact ih1 _ _ _ _ _ _ _ _ _ _ _)
   | (with_reducible exact natural_limbs_text.mono _ _)
   | (with_reducible exact natural_parse.mono _ _)
   | (with_reducible exact LeO.refl _)
   | (with_reducible exact LeO.none _)
   | (with_reducible refine LeO.ite ?_ ?_)
   | (with_reducible refine LeO.bind ?_ (fun _ => ?_))
set_option maxHeartbeats 8000000 in
set_option maxRecDepth 100000 in
theorem natural_Multiply.calls (k : Nat) (a0 : ByteArray) (a1 : ByteArray) (r : ByteArray) (w : World) (h : natural_Multiply.f k a0 a1 = some r) :
  Calls Tryd.prog 45 #[.string a0, .string a1] w fun e w' => e = .returned (.string r) ∧ Below w.heap.size w w' := by
 have HB := A0_.mk (Below.refl w.heap.size w)
 have H := h
 unfold natural_Multiply.f at H
 clear h
 replace H := Option.bind_eq_some_iff.mp H
 obtain ⟨t256, A30, H⟩ := H
 (try dsimp only at H)
 have A3 := A0_.mk A30
 clear A30
 replace H := Option.bind_eq_some_iff.mp H
 obtain ⟨t259, A40, H⟩ := H
 (try dsimp only at H)
 have A4 := A0_.mk A40
 clear A40
 obtain ⟨ji5, hji5⟩ : ∃ j_ : Int, (wrap64 ((t256.length : Int) + (t259.length : Int))) = j_ := ⟨_, rfl⟩
 replace H : (if 0 ≤ (ji5) then (if (ji5 : Int).toNat ≤ 70368744177664 then (natural_Multiply.l0 k t259 (List.replicate (ji5 : Int).toNat 0) t256 (t256.length : Int) 0) else (none)) else (none)) = some r := by first | (rw [hji5] at H; exact H) | (simp only [hji5] at H ⊢; exact H)
 (try rw [hji5] at A3)
 (try rw [hji5] at A4)
 have hji5w : (IntKind.i64.wrap ((t256.length : Int) + (t259.length : Int))) = ji5 := (i64_w _).trans hji5
 by_cases c6 : 0 ≤ (ji5)
 ·rw [if_pos c6] at H
  have c6b0 := eq_true c6
  have c6b1 : decide (0 ≤ (ji5)) = true := decide_eq_true c6
  clear c6
  by_cases c7 : (ji5 : Int).toNat ≤ 70368744177664
  ·rw [if_pos c7] at H
   have c7b0 := eq_true c7
   have c7b1 : decide ((ji5 : Int).toNat ≤ 70368744177664) = true := decide_eq_true c7
   clear c7
   obtain ⟨y262, hy262⟩ : ∃ y_ : List Int, y_ = (List.replicate (ji5 : Int).toNat 0) := ⟨_, rfl⟩
   replace H : (natural_Multiply.l0 k t259 y262 t256 (t256.length : Int) 0) = some r := by first | (rw [hy262]; with_reducible exact H) | (have H2_ := (Option.bind_some _ _).symm.trans H; rw [hy262]; with_reducible exact H2_) | (have H2_ := (Option.bind_some _ _).symm.trans H; with_reducible exact H2_) | with_reducible exact H | (rw [hy262]; exact H) | exact H
   have Ny262 := A0_.mk hy262
   clear hy262
   have H' := A0_.mk H
   clear H
   go_enter Tryd.func45, Tryd.ntmps45
   go_wp2_with (first | ((with_reducible refine gC_ (f := 64) rfl ?_); refine goesL_ (some 15) rfl rfl Tryd.func64 (by kernel_rfl) rfl #[.string a0] rfl mp_ ?_; (with_reducible refine (natural_parse.calls k a0 t256 _ A3.out).mono ?_); rintro e w8 ⟨v257, rfl, ho0, hb⟩; refine ⟨_, rfl, ?_⟩; have n0_ := A0_.mk (Kd.R_lower ho0 (bZ_ (xB_ HB))); have n1_ := A0_.mk (bT_ (xB_ HB) hb); clear HB; have HO258 := n0_; have HB := n1_; clear n0_ n1_; (try clear hb); (try clear hb2); (try clear hk); (try clear hi); (try clear ho0)) | ((with_reducible refine gC_ (f := 64) rfl ?_); refine goesL_ (some 17) rfl rfl Tryd.func64 (by kernel_rfl) rfl #[.string a1] rfl mp_ ?_; (with_reducible refine (natural_parse.calls k a1 t259 _ A4.out).mono ?_); rintro e w9 ⟨v260, rfl, ho0, hb⟩; refine ⟨_, rfl, ?_⟩; have n0_ := A0_.mk (Kd.R_elder' (xR_ HO258.out) (Kd.R_base ho0) hb); have n1_ := A0_.mk (Kd.R_lower (Kd.R_new' ho0 (Kd.R_lt (xR_ HO258.out))) (bZ_ (xB_ HB))); have n2_ := A0_.mk (bT_ (xB_ HB) hb); clear HO258 HB; have HO258 := n0_; have HO261 := n1_; have HB := n2_; clear n0_ n1_ n2_; (try clear hb); (try clear hb2); (try clear hk); (try clear hi); (try clear ho0); obtain ⟨Ao10, co10, eo10⟩ := Kd.R_slice HO258.out; subst eo10; obtain ⟨Ao11, co11, eo11⟩ := Kd.R_slice HO261.out; subst eo11) | ((with_reducible refine gD_ (N := 23) rfl ?_); refine Kd.R_make (Kd.int .u32) _ 89 rfl (N := 23) rfl 87 _ _ rfl ji5 rfl rfl Tryd.underlying87 (.int .u32 0) 4 info89 rfl (by decide) (by omega) 0 (ok := fun _ => True) (okp := fun _ => True) rfl (fun _ hk => hk) trivial (of_decide_eq_true aS_) (Nat.le_trans (Nat.mul_le_mul_right _ (of_decide_eq_true aS_ : ji5.toNat ≤ 70368744177664)) (by omega)) (Below.refl _ _) (Nat.le_refl _) ?_; intro v263 w12 ho13 hb hg_ hnew_; clear hg_ hnew_; (first | rw [← Ny262.out] at ho13 | (simp only [Int.reduceToNat] at ho13; rw [← Ny262.out] at ho13)); have n0_ := A0_.mk (Kd.R_elder' (xR_ HO258.out) (Kd.R_base ho13) hb); have n1_ := A0_.mk (Kd.R_elder' (xR_ HO261.out) (Kd.R_base ho13) hb); have n2_ := A0_.mk (Kd.R_lower (Kd.R_new' (Kd.R_new' ho13 (Kd.R_lt (xR_ HO258.out))) (Kd.R_lt (xR_ HO261.out))) (bZ_ (xB_ HB))); have n3_ := A0_.mk (bT_ (xB_ HB) hb); clear HO258 HO261 HB; have HO258 := n0_; have HO261 := n1_; have HO264 := n2_; have HB := n3_; clear n0_ n1_ n2_ n3_; clear hb ho13))
   go_loopg [26] k (fun kq v26 w' => ∃ (x7_1 : List Int) (x26_1 : Int), v26 = .int .i64 x26_1 ∧ A0_ (natural_Multiply.l0 kq t259 x7_1 t256 (t256.length : Int) x26_1 = some r) ∧ A0_ (kq ≤ k) ∧ A0_ (Kd.R (Kd.int .u32) 89 w' w.heap.size (fun k_ => some k_ ≠ (v263 : Value).ownBlock ∧ some k_ ≠ ((.slice Ao10 t256.length co10) : Value).ownBlock) (.slice Ao11 t259.length co11) t259) ∧ A0_ (Kd.R (Kd.int .u32) 89 w' w.heap.size (fun k_ => some k_ ≠ ((.slice Ao11 t259.length co11) : Value).ownBlock ∧ some k_ ≠ ((.slice Ao10 t256.length co10) : Value).ownBlock) v263 x7_1) ∧ A0_ (Kd.R (Kd.int .u32) 89 w' w.heap.size (fun k_ => some k_ ≠ ((.slice Ao11 t259.length co11) : Value).ownBlock ∧ some k_ ≠ (v263 : Value).ownBlock) (.slice Ao10 t256.length co10) t256) ∧ A0_ (Below w.heap.size w w'))
   case atStart => exact ⟨(y262), (0), (by first | rfl | (simp; done) | (simp [*]; done)), H', ⟨Nat.le_refl _⟩, ⟨by (with_reducible repeat (first | apply Kd.R_alloc | apply Kd.R_drewN | apply Kd.R_drew)); exact Kd.R_mono HO261.out (fun _ hk => ⟨hk.2, hk.1.2⟩)⟩, ⟨by (with_reducible repeat (first | apply Kd.R_alloc | apply Kd.R_drewN | apply Kd.R_drew)); exact Kd.R_mono HO264.out (fun _ hk => ⟨hk.2, hk.1.2⟩)⟩, ⟨by (with_reducible repeat (first | apply Kd.R_alloc | apply Kd.R_drewN | apply Kd.R_drew)); exact Kd.R_mono HO258.out (fun _ hk => ⟨hk.1.2, hk.2⟩)⟩, ⟨xB_ HB⟩⟩
   case round =>
    clear H'
    try clear p2
    try clear c4
    try clear c6
    try clear c6b0
    try clear c6b1
    try clear p6
    try clear c7
    try clear c7b0
    try clear c7b1
    obtain ⟨x7_1, x26_1, rfl, HA, HK1, HO_6, HO_7, HO_24, HB⟩ := hrel
    cases gk with
    | zero => exact absurd HA.out (by simp [natural_Multiply.l0])
    | succ k1 =>
     have H := HA.out
     clear HA
     simp only [natural_Multiply.l0] at H
     by_cases c14 : x26_1 < (t256.length : Int)
     ·rw [if_pos c14] at H
      have c14b0 : decide (x26_1 < (t256.length : Int)) = true := decide_eq_true c14
      clear c14
      by_cases c15 : 0 ≤ x26_1
      ·rw [if_pos c15] at H
       have c15b0 : decide (0 ≤ x26_1) = true := decide_eq_true c15
       clear c15
       by_cases c16 : x26_1 < (t256.length : Int)
       ·rw [if_pos c16] at H
        have c16b0 : decide (x26_1 < (t256.length : Int)) = true := decide_eq_true c16
        clear c16
        have H' := A0_.mk H
        clear H
        have p266 : 0 ≤ (x26_1 : Int) := of_decide_eq_true aS_
        have q266 : x26_1 < (t256.length : Int) := of_decide_eq_true aS_
        obtain ⟨ad266, e266, hx266_0⟩ := Kd.at_int (Kd.R_reads' HO_24.out).2.2 x26_1 p266 q266
        cases e266
        replace p266 := eq_true p266
        replace q266 := eq_true q266
        go_wp2
        go_loopg [10, 33] k1 (fun kq v10 v33 w' => ∃ (x7_2 : List Int) (x10_2 : Int) (x33_2 : Int), v10 = .int .u64 x10_2 ∧ v33 = .int .i64 x33_2 ∧ A0_ (natural_Multiply.l1 kq t259 x7_2 x26_1 (rd t256 x26_1) x10_2 t256 (t256.length : Int) x26_1 t259 (t259.length : Int) x33_2 = some r) ∧ A0_ (kq ≤ k1) ∧ A0_ (Kd.R (Kd.int .u32) 89 w' w.heap.size (fun k_ => some k_ ≠ (v263 : Value).ownBlock ∧ some k_ ≠ ((.slice (some ad266) t256.length co10) : Value).ownBlock) (.slice Ao11 t259.length co11) t259) ∧ A0_ (Kd.R (Kd.int .u32) 89 w' w.heap.size (fun k_ => some k_ ≠ ((.slice Ao11 t259.length co11) : Value).ownBlock ∧ some k_ ≠ ((.slice (some ad266) t256.length co10) : Value).ownBlock ∧ some k_ ≠ ((.slice Ao11 t259.length co11) : Value).ownBlock) v263 x7_2) ∧ A0_ (Kd.R (Kd.int .u32) 89 w' w.heap.size (fun k_ => some k_ ≠ ((.slice Ao11 t259.length co11) : Value).ownBlock ∧ some k_ ≠ (v263 : Value).ownBlock ∧ some k_ ≠ ((.slice Ao11 t259.length co11) : Value).ownBlock) (.slice (some ad266) t256.length co10) t256) ∧ A0_ (Kd.R (Kd.int .u32) 89 w' w.heap.size (fun k_ => some k_ ≠ (v263 : Value).ownBlock ∧ some k_ ≠ ((.slice (some ad266) t256.length co10) : Value).ownBlock) (.slice Ao11 t259.length co11) t259) ∧ A0_ (Below w.heap.size w w'))
        case atStart => exact ⟨(x7_1), (0), (0), (by first | rfl | (simp; done) | (simp [*]; done)), (by first | rfl | (simp; done) | (simp [*]; done)), H', ⟨Nat.le_refl _⟩, ⟨by (with_reducible repeat (first | apply Kd.R_alloc | apply Kd.R_drewN | apply Kd.R_drew)); exact HO_6.out⟩, ⟨by (with_reducible repeat (first | apply Kd.R_alloc | apply Kd.R_drewN | apply Kd.R_drew)); exact Kd.R_mono HO_7.out (fun _ hk => ⟨hk.1, ⟨hk.2, hk.1⟩⟩)⟩, ⟨by (with_reducible repeat (first | apply Kd.R_alloc | apply Kd.R_drewN | apply Kd.R_drew)); exact Kd.R_mono HO_24.out (fun _ hk => ⟨hk.1, ⟨hk.2, hk.1⟩⟩)⟩, ⟨by (with_reducible repeat (first | apply Kd.R_alloc | apply Kd.R_drewN | apply Kd.R_drew)); exact HO_6.out⟩, ⟨xB_ HB⟩⟩
        case round =>
         clear H'
         try clear c1
         try clear p2
         try clear q2
         try clear hx2
         try clear c4
         try clear c6
         try clear c6b0
         try clear c6b1
         try clear p6
         try clear c7
         try clear c7b0
         try clear c7b1
         try clear c14
         try clear c14b0
         try clear c15
         try clear c15b0
         try clear c16
         try clear c16b0
         try clear hx266_0
         try clear p2
         try clear p266
         try clear p6
         try clear q266
         obtain ⟨x7_2, x10_2, x33_2, rfl, rfl, HA, HK2, HO_6, HO_7, HO_24, HO_31, HB⟩ := hrel
         cases gk with
         | zero => exact absurd HA.out (by simp [natural_Multiply.l1])
         | succ k2 =>
          have H := HA.out
          clear HA
          simp only [natural_Multiply.l1] at H
          by_cases c17 : x33_2 < (t259.length : Int)
          ·rw [if_pos c17] at H
           have c17b0 : decide (x33_2 < (t259.length : Int)) = true := decide_eq_true c17
           clear c17
           by_cases c18 : 0 ≤ x33_2
           ·rw [if_pos c18] at H
            have c18b0 : decide (0 ≤ x33_2) = true := decide_eq_true c18
            clear c18
            by_cases c19 : x33_2 < (t259.length : Int)
            ·rw [if_pos c19] at H
             have c19b0 : decide (x33_2 < (t259.length : Int)) = true := decide_eq_true c19
             clear c19
             obtain ⟨ji20, hji20⟩ : ∃ j_ : Int, (wrap64 (x26_1 + x33_2)) = j_ := ⟨_, rfl⟩
             replace H : (if 0 ≤ (ji20) then (if (ji20) < (x7_2.length : Int) then (natural_Multiply.l1 k2 t259 (x7_2.set ((ji20) : Int).toNat ((IntKind.u64.wrap ((IntKind.u64.wrap ((IntKind.u64.wrap ((IntKind.u64.wrap ((rd t256 x26_1))) * (IntKind.u64.wrap (rd t259 x33_2)))) + (IntKind.u64.wrap (rd x7_2 (ji20))))) + x10_2)) % 4294967296)) x26_1 (rd t256 x26_1) ((IntKind.u64.wrap ((IntKind.u64.wrap ((IntKind.u64.wrap ((IntKind.u64.wrap ((rd t256 x26_1))) * (IntKind.u64.wrap (rd t259 x33_2)))) + (IntKind.u64.wrap (rd x7_2 (ji20))))) + x10_2)) / 4294967296) t256 (t256.length : Int) x26_1 t259 (t259.length : Int) (wrap64 (x33_2 + 1))) else (none)) else (none)) = some r := by first | (rw [hji20] at H; exact H) | (simp only [hji20] at H ⊢; exact H)
             have hji20w : (IntKind.i64.wrap (x26_1 + x33_2)) = ji20 := (i64_w _).trans hji20
             by_cases c21 : 0 ≤ (ji20)
             ·rw [if_pos c21] at H
              have c21b0 : decide (0 ≤ (ji20)) = true := decide_eq_true c21
              clear c21
              by_cases c22 : (ji20) < (x7_2.length : Int)
              ·rw [if_pos c22] at H
               have c22b0 : decide ((ji20) < (x7_2.length : Int)) = true := decide_eq_true c22
               clear c22
               obtain ⟨y269, hy269⟩ : ∃ y_ : List Int, y_ = (x7_2.set ((ji20) : Int).toNat ((IntKind.u64.wrap ((IntKind.u64.wrap ((IntKind.u64.wrap ((IntKind.u64.wrap ((rd t256 x26_1))) * (IntKind.u64.wrap (rd t259 x33_2)))) + (IntKind.u64.wrap (rd x7_2 (ji20))))) + x10_2)) % 4294967296)) := ⟨_, rfl⟩
               replace H : (natural_Multiply.l1 k2 t259 y269 x26_1 (rd t256 x26_1) ((IntKind.u64.wrap ((IntKind.u64.wrap ((IntKind.u64.wrap ((IntKind.u64.wrap ((rd t256 x26_1))) * (IntKind.u64.wrap (rd t259 x33_2)))) + (IntKind.u64.wrap (rd x7_2 (ji20))))) + x10_2)) / 4294967296) t256 (t256.length : Int) x26_1 t259 (t259.length : Int) (wrap64 (x33_2 + 1))) = some r := by first | (rw [hy269]; with_reducible exact H) | (have H2_ := (Option.bind_some _ _).symm.trans H; rw [hy269]; with_reducible exact H2_) | (have H2_ := (Option.bind_some _ _).symm.trans H; with_reducible exact H2_) | with_reducible exact H | (rw [hy269]; exact H) | exact H
               have Ny269 := A0_.mk hy269
               clear hy269
               have H' := A0_.mk H
               clear H
               have p267 : 0 ≤ (x33_2 : Int) := of_decide_eq_true aS_
               have q267 : x33_2 < (t259.length : Int) := of_decide_eq_true aS_
               obtain ⟨ad267, e267, hx267_0⟩ := Kd.at_int (Kd.R_reads' HO_31.out).2.2 x33_2 p267 q267
               cases e267
               replace p267 := eq_true p267
               replace q267 := eq_true q267
               obtain ⟨Ao24, co24, eo24⟩ := Kd.R_slice HO_7.out
               subst eo24
               have p268 : 0 ≤ ((ji20) : Int) := of_decide_eq_true aS_
               have q268 : (ji20) < (x7_2.length : Int) := of_decide_eq_true aS_
               obtain ⟨ad268, e268, hx268_0⟩ := Kd.at_int (Kd.R_reads' HO_7.out).2.2 (ji20) p268 q268
               cases e268
               replace p268 := eq_true p268
               replace q268 := eq_true q268
               have p23 : 0 ≤ ((ji20) : Int) := of_decide_eq_true aS_
               have q23 : ((ji20) : Int) < ((x7_2.length : Int) : Int) := of_decide_eq_true aS_
               obtain ⟨go23, co23, eo23, gb23, gl23, cl23, HG23⟩ := Kd.R_form HO_7.out (by omega)
               (first | cases eo23 | (injection eo23 with ea_ en_ ec_; (first | subst ea_ | (injection ea_ with ea_; subst ea_)); subst ec_; clear en_))
               have GB23 := A0_.mk gb23
               have GG23 := A0_.mk HG23
               clear gb23 gl23 HG23
               (first | simp only [add_plain] at hx268_0 | skip)
               obtain ⟨hx23_0, hf23_0⟩ := Kd.R_celln 0 HO_7.out ((ji20) : Int) p23 q23
               replace p23 := eq_true p23
               replace q23 := eq_true q23
               have HP25 := Kd.R_putg HO_7.out ((ji20) : Int) ((IntKind.u64.wrap ((IntKind.u64.wrap ((IntKind.u64.wrap ((IntKind.u64.wrap ((rd t256 x26_1))) * (IntKind.u64.wrap (rd t259 x33_2)))) + (IntKind.u64.wrap (rd x7_2 (ji20))))) + x10_2)) % 4294967296)
               go_wp2_with (first | ((with_reducible refine gate_store (t := 89) (p := 59) rfl ?_); refine store_event (t := 89) (p := 59) (v := ?vo_w26) (w1 := (wr.setCell ⟨go23, ((ji20) : Int).toNat, none⟩ (.int .u32 ((IntKind.u64.wrap ((IntKind.u64.wrap ((IntKind.u64.wrap ((IntKind.u64.wrap ((rd t256 x26_1))) * (IntKind.u64.wrap (rd t259 x33_2)))) + (IntKind.u64.wrap (rd x7_2 (ji20))))) + x10_2)) % 4294967296)))) ?hg ?ho ?hn ?hr ?_; (case ho => rfl); (case hg => rfl); (case hn => rfl); (case hr => first | (go_simp; done) | (go_simp; rfl)); intro w26 hw; have hg : wr.grownBy w26 (some go23) := (by rw [hw]; exact HP25.2); have hp_ : Kd.R (Kd.int .u32) 89 w26 w.heap.size (fun k_ => some k_ ≠ (.slice (some ad267) t259.length co11 : Value).ownBlock ∧ some k_ ≠ (.slice (some ad266) t256.length co10 : Value).ownBlock ∧ some k_ ≠ (.slice (some ad267) t259.length co11 : Value).ownBlock) (.slice (some ⟨go23, 0, none⟩) x7_2.length co24) y269 := (by rw [hw, Ny269.out]; exact HP25.1); clear HP25; have n0_ := A0_.mk (Kd.R_after (v := (.slice (some ⟨go23, 0, none⟩) x7_2.length co24)) (v1 := (.slice (some ⟨go23, 0, none⟩) x7_2.length co24)) (ok := (fun k_ => some k_ ≠ (.slice (some ad266) t256.length co10 : Value).ownBlock)) (by (with_reducible repeat (first | apply Kd.R_alloc | apply Kd.R_drewN | apply Kd.R_drew)); exact Kd.R_mono HO_6.out (fun _ hk => ⟨hk.2, hk.1⟩)) hg (.inl rfl)); have n1_ := A0_.mk (hp_); have n2_ := A0_.mk (Kd.R_after (v := (.slice (some ⟨go23, 0, none⟩) x7_2.length co24)) (v1 := (.slice (some ⟨go23, 0, none⟩) x7_2.length co24)) (ok := (fun k_ => some k_ ≠ (.slice (some ad267) t259.length co11 : Value).ownBlock ∧ some k_ ≠ (.slice (some ad267) t259.length co11 : Value).ownBlock)) (by (with_reducible repeat (first | apply Kd.R_alloc | apply Kd.R_drewN | apply Kd.R_drew)); exact Kd.R_mono HO_24.out (fun _ hk => ⟨⟨hk.1, hk.2.2⟩, hk.2.1⟩)) hg (.inl rfl)); have n3_ := A0_.mk (Kd.R_after (v := (.slice (some ⟨go23, 0, none⟩) x7_2.length co24)) (v1 := (.slice (some ⟨go23, 0, none⟩) x7_2.length co24)) (ok := (fun k_ => some k_ ≠ (.slice (some ad266) t256.length co10 : Value).ownBlock)) (by (with_reducible repeat (first | apply Kd.R_alloc | apply Kd.R_drewN | apply Kd.R_drew)); exact Kd.R_mono HO_31.out (fun _ hk => ⟨hk.2, hk.1⟩)) hg (.inl rfl)); have n4_ := A0_.mk ((by rw [hw]; exact bS_ (HB.out) GB23.out : Below w.heap.size w w26)); clear HO_6 HO_7 HO_24 HO_31 HB; have HO_6 := n0_; have HO_7 := n1_; have HO_24 := n2_; have HO_31 := n3_; have HB := n4_; clear n0_ n1_ n2_ n3_ n4_; clear hg hw hp_))
               (try simp only [add_plain])
               go_roundg k2
               case measure => have := HK1.out; have := HK2.out; omega
               case rel => exact ⟨(y269), ((IntKind.u64.wrap ((IntKind.u64.wrap ((IntKind.u64.wrap ((IntKind.u64.wrap ((rd t256 x26_1))) * (IntKind.u64.wrap (rd t259 x33_2)))) + (IntKind.u64.wrap (rd x7_2 (ji20))))) + x10_2)) / 4294967296), (wrap64 (x33_2 + 1)), (by first | rfl | (simp; done) | (simp only [← hji20] <;> (first | rfl | simp)) | (simp [*]; done)), (by first | rfl | (simp; done) | (simp [*]; done)), H', ⟨by have := HK1.out; have := HK2.out; omega⟩, ⟨by (with_reducible repeat (first | apply Kd.R_alloc | apply Kd.R_drewN | apply Kd.R_drew)); exact Kd.R_mono HO_6.out (fun _ hk => ⟨hk.2, hk.1⟩)⟩, ⟨by (with_reducible repeat (first | apply Kd.R_alloc | apply Kd.R_drewN | apply Kd.R_drew)); exact HO_7.out⟩, ⟨by (with_reducible repeat (first | apply Kd.R_alloc | apply Kd.R_drewN | apply Kd.R_drew)); exact Kd.R_mono HO_24.out (fun _ hk => ⟨hk.1.1, ⟨hk.2, hk.1.2⟩⟩)⟩, ⟨by (with_reducible repeat (first | apply Kd.R_alloc | apply Kd.R_drewN | apply Kd.R_drew)); exact Kd.R_mono HO_31.out (fun _ hk => ⟨hk.2, hk.1⟩)⟩, ⟨xB_ HB⟩⟩
              ·rw [if_neg c22] at H
               exact absurd H (by simp)
             ·rw [if_neg c21] at H
              exact absurd H (by simp)
            ·rw [if_neg c19] at H
             exact absurd H (by simp)
           ·rw [if_neg c18] at H
            exact absurd H (by simp)
          ·rw [if_neg c17] at H
           have c17b0 : decide (x33_2 < (t259.length : Int)) = false := decide_eq_false c17
           clear c17
           obtain ⟨ji27, hji27⟩ : ∃ j_ : Int, (wrap64 (x26_1 + (t259.length : Int))) = j_ := ⟨_, rfl⟩
           replace H : (if 0 ≤ (ji27) then (if (ji27) < (x7_2.length : Int) then (natural_Multiply.l0 k2 t259 (x7_2.set ((ji27) : Int).toNat ((x10_2) % 4294967296)) t256 (t256.length : Int) (wrap64 (x26_1 + 1))) else (none)) else (none)) = some r := by first | (rw [hji27] at H; exact H) | (simp only [hji27] at H ⊢; exact H)
           have hji27w : (IntKind.i64.wrap (x26_1 + (t259.length : Int))) = ji27 := (i64_w _).trans hji27
           by_cases c28 : 0 ≤ (ji27)
           ·rw [if_pos c28] at H
            have c28b0 : decide (0 ≤ (ji27)) = true := decide_eq_true c28
            clear c28
            by_cases c29 : (ji27) < (x7_2.length : Int)
            ·rw [if_pos c29] at H
             have c29b0 : decide ((ji27) < (x7_2.length : Int)) = true := decide_eq_true c29
             clear c29
             obtain ⟨y270, hy270⟩ : ∃ y_ : List Int, y_ = (x7_2.set ((ji27) : Int).toNat ((x10_2) % 4294967296)) := ⟨_, rfl⟩
             replace H : (natural_Multiply.l0 k2 t259 y270 t256 (t256.length : Int) (wrap64 (x26_1 + 1))) = some r := by first | (rw [hy270]; with_reducible exact H) | (have H2_ := (Option.bind_some _ _).symm.trans H; rw [hy270]; with_reducible exact H2_) | (have H2_ := (Option.bind_some _ _).symm.trans H; with_reducible exact H2_) | with_reducible exact H | (rw [hy270]; exact H) | exact H
             have Ny270 := A0_.mk hy270
             clear hy270
             have H' := A0_.mk H
             clear H
             have p30 : 0 ≤ ((ji27) : Int) := of_decide_eq_true aS_
             have q30 : ((ji27) : Int) < ((x7_2.length : Int) : Int) := of_decide_eq_true aS_
             obtain ⟨go30, co30, eo30, gb30, gl30, cl30, HG30⟩ := Kd.R_form HO_7.out (by omega)
             (first | cases eo30 | (injection eo30 with ea_ en_ ec_; (first | subst ea_ | (injection ea_ with ea_; subst ea_)); subst ec_; clear en_))
             have GB30 := A0_.mk gb30
             have GG30 := A0_.mk HG30
             clear gb30 gl30 HG30
             obtain ⟨hx30_0, hf30_0⟩ := Kd.R_celln 0 HO_7.out ((ji27) : Int) p30 q30
             replace p30 := eq_true p30
             replace q30 := eq_true q30
             have HP31 := Kd.R_putg HO_7.out ((ji27) : Int) ((x10_2) % 4294967296)
             go_wp2_with (first | ((with_reducible refine gate_store (t := 89) (p := 70) rfl ?_); refine store_event (t := 89) (p := 70) (v := ?vo_w32) (w1 := (wr.setCell ⟨go30, ((ji27) : Int).toNat, none⟩ (.int .u32 ((x10_2) % 4294967296)))) ?hg ?ho ?hn ?hr ?_; (case ho => rfl); (case hg => rfl); (case hn => rfl); (case hr => first | (go_simp; done) | (go_simp; rfl)); intro w32 hw; have hg : wr.grownBy w32 (some go30) := (by rw [hw]; exact HP31.2); have hp_ : Kd.R (Kd.int .u32) 89 w32 w.heap.size (fun k_ => some k_ ≠ (.slice Ao11 t259.length co11 : Value).ownBlock ∧ some k_ ≠ (.slice (some ad266) t256.length co10 : Value).ownBlock ∧ some k_ ≠ (.slice Ao11 t259.length co11 : Value).ownBlock) (.slice (some ⟨go30, 0, none⟩) x7_2.length co30) y270 := (by rw [hw, Ny270.out]; exact HP31.1); clear HP31; have n0_ := A0_.mk (Kd.R_after (v := (.slice (some ⟨go30, 0, none⟩) x7_2.length co30)) (v1 := (.slice (some ⟨go30, 0, none⟩) x7_2.length co30)) (ok := (fun k_ => some k_ ≠ (.slice (some ad266) t256.length co10 : Value).ownBlock)) (by (with_reducible repeat (first | apply Kd.R_alloc | apply Kd.R_drewN | apply Kd.R_drew)); exact Kd.R_mono HO_6.out (fun _ hk => ⟨hk.2, hk.1⟩)) hg (.inl rfl)); have n1_ := A0_.mk (hp_); have n2_ := A0_.mk (Kd.R_after (v := (.slice (some ⟨go30, 0, none⟩) x7_2.length co30)) (v1 := (.slice (some ⟨go30, 0, none⟩) x7_2.length co30)) (ok := (fun k_ => some k_ ≠ (.slice Ao11 t259.length co11 : Value).ownBlock ∧ some k_ ≠ (.slice Ao11 t259.length co11 : Value).ownBlock)) (by (with_reducible repeat (first | apply Kd.R_alloc | apply Kd.R_drewN | apply Kd.R_drew)); exact Kd.R_mono HO_24.out (fun _ hk => ⟨⟨hk.1, hk.2.2⟩, hk.2.1⟩)) hg (.inl rfl)); have n3_ := A0_.mk (Kd.R_after (v := (.slice (some ⟨go30, 0, none⟩) x7_2.length co30)) (v1 := (.slice (some ⟨go30, 0, none⟩) x7_2.length co30)) (ok := (fun k_ => some k_ ≠ (.slice (some ad266) t256.length co10 : Value).ownBlock)) (by (with_reducible repeat (first | apply Kd.R_alloc | apply Kd.R_drewN | apply Kd.R_drew)); exact Kd.R_mono HO_31.out (fun _ hk => ⟨hk.2, hk.1⟩)) hg (.inl rfl)); have n4_ := A0_.mk ((by rw [hw]; exact bS_ (HB.out) GB30.out : Below w.heap.size w w32)); clear HO_6 HO_7 HO_24 HO_31 HB; have HO_6 := n0_; have HO_7 := n1_; have HO_24 := n2_; have HO_31 := n3_; have HB := n4_; clear n0_ n1_ n2_ n3_ n4_; clear hg hw hp_))
             (try simp only [add_plain])
             go_roundg k2
             case measure => have := HK1.out; have := HK2.out; omega
             case rel => exact ⟨(y270), (wrap64 (x26_1 + 1)), (by first | rfl | (simp; done) | (simp [*]; done)), H', ⟨by have := HK1.out; have := HK2.out; omega⟩, ⟨by (with_reducible repeat (first | apply Kd.R_alloc | apply Kd.R_drewN | apply Kd.R_drew)); exact Kd.R_mono HO_6.out (fun _ hk => ⟨hk.2, hk.1⟩)⟩, ⟨by (with_reducible repeat (first | apply Kd.R_alloc | apply Kd.R_drewN | apply Kd.R_drew)); exact Kd.R_mono HO_7.out (fun _ hk => ⟨hk.1, hk.2.1⟩)⟩, ⟨by (with_reducible repeat (first | apply Kd.R_alloc | apply Kd.R_drewN | apply Kd.R_drew)); exact Kd.R_mono HO_24.out (fun _ hk => ⟨hk.1.1, hk.2⟩)⟩, ⟨xB_ HB⟩⟩
            ·rw [if_neg c29] at H
             exact absurd H (by simp)
           ·rw [if_neg c28] at H
            exact absurd H (by simp)
       ·rw [if_neg c16] at H
        exact absurd H (by simp)
      ·rw [if_neg c15] at H
       exact absurd H (by simp)
     ·rw [if_neg c14] at H
      have c14b0 : decide (x26_1 < (t256.length : Int)) = false := decide_eq_false c14
      clear c14
      replace H := Option.bind_eq_some_iff.mp H
      obtain ⟨t265, A330, H⟩ := H
      (try dsimp only at H)
      have A33 := A0_.mk A330
      clear A330
      obtain rfl := Option.some.inj H
      obtain ⟨Ao34, co34, eo34⟩ := Kd.R_slice HO_7.out
      subst eo34
      go_wp2_with (first | ((with_reducible refine gC_ (f := 65) rfl ?_); refine goesL_ (some 73) rfl rfl Tryd.func65 (by kernel_rfl) rfl #[.slice Ao34 x7_1.length co34] rfl mp_ ?_; (with_reducible refine (natural_limbs_text.calls k1 _ _ x7_1 t265 _ ?side1 ?side2 A33.out).mono ?_); (case side1 => repeat (first | exact (Kd.R_reads' HO_7.out).2.2 | (with_reducible refine Kd.C_alloc ?_ _) | (with_reducible refine Kd.C_drewN ?_ _) | (with_reducible refine Kd.C_drew ?_))); (case side2 => exact (Kd.R_reads' HO_7.out).2.1); rintro e w35 ⟨rfl, hb⟩; refine ⟨_, rfl, ?_⟩; have n0_ := A0_.mk (Kd.R_below (xR_ HO_6.out) hb); have n1_ := A0_.mk (Kd.R_below (xR_ HO_7.out) hb); have n2_ := A0_.mk (Kd.R_below (xR_ HO_24.out) hb); have n3_ := A0_.mk (bT_ (xB_ HB) hb); clear HO_6 HO_7 HO_24 HB; have HO_6 := n0_; have HO_7 := n1_; have HO_24 := n2_; have HB := n3_; clear n0_ n1_ n2_ n3_; (try clear hb); (try clear hb2); (try clear hk); (try clear hi)))
      go_ret
      exact ⟨by first | rfl | (simp [errW_none, errW_some] <;> rfl) | (simp only [← hji5]; first | rfl | (simp [errW_none, errW_some] <;> rfl)) | (simp [*, errW_none, errW_some] <;> rfl), xB_ HB⟩
  ·rw [if_neg c7] at H
   exact absurd H (by simp)
 ·rw [if_neg c6] at H
  exact absurd H (by simp)
def rational_Valid.j0 : Nat → Bool → Bool → ByteArray → ByteArray → Option (Bool)
 | 0, _, _, _, _ => none
 | k + 1, x16, x236000, x236001, x236002 => if x16 = true then (some false) else (if x236001.toList = ([] : List UInt8) then (if x236000 = true then (some false) else (some (x236002.toList == ([] : List UInt8)))) else (if x236002.toList = ([] : List UInt8) then (some true) else (if x236002.toList = ([1] : List UInt8) then (some false) else ((natural_GCD.f k x236001 x236002).bind fun t238 => (some (t238.toList == ([1] : List UInt8)))))))
def rational_Valid.f (k : Nat) (a0_0 : Bool) (a0_1 : ByteArray) (a0_2 : ByteArray) : Option (Bool) := (natural_Normalize.f k a0_1).bind fun t236 => (if t236.toList = a0_1.toList then ((natural_Normalize.f k a0_2).bind fun t237 => (rational_Valid.j0 k (t237.toList != a0_2.toList) a0_0 a0_1 a0_2)) else (rational_Valid.j0 k true a0_0 a0_1 a0_2))
theorem rational_Valid.mono_l : ∀ k, (∀ y0 y1 y2 y3, LeO (rational_Valid.j0 k y0 y1 y2 y3) (rational_Valid.j0 (k + 1) y0 y1 y2 y3))
 | 0 => fun _ _ _ _ r h => by simp [rational_Valid.j0] at h
 | k + 1 => by
  have ih0 := rational_Valid.mono_l k
  ·intro y0 y1 y2 y3
   unfold rational_Valid.j0
   repeat' first
   | (with_reducible exact ih0 _ _ _ _)
   | (with_reducible exact natural_GCD.mono _ _ _)
   | (with_reducible exact natural_Normalize.mono _ _)
   | (with_reducible exact LeO.refl _)
   | (with_reducible exact LeO.none _)
   | (with_reducible refine LeO.ite ?_ ?_)
   | (with_reducible refine LeO.bind ?_ (fun _ => ?_))
theorem rational_Valid.mono : ∀ a0 a1 a2 k, LeO (rational_Valid.f k a0 a1 a2) (rational_Valid.f (k + 1) a0 a1 a2) := by
 intro a0 a1 a2 k
 have ih0 := rational_Valid.mono_l k
 unfold rational_Valid.f
 repeat' first
   | (with_reducible exact ih0 _ _ _ _)
   | (with_reducible exact natural_GCD.mono _ _ _)
   | (with_reducible exact natural_Normalize.mono _ _)
   | (with_reducible exact LeO.refl _)
   | (with_reducible exact LeO.none _)
   | (with_reducible refine LeO.ite ?_ ?_)
   | (with_reducible refine LeO.bind ?_ (fun _ => ?_))
set_option maxHeartbeats 8000000 in
set_option maxRecDepth 100000 in
theorem rational_Valid.calls (k : Nat) (a0_0 : Bool) (a0_1 : ByteArray) (a0_2 : ByteArray) (r : Bool) (w : World) (h : rational_Valid.f k a0_0 a0_1 a0_2 = some r) :
  Calls Tryd.prog 60 #[.agg #[.bool a0_0, .string a0_1, .string a0_2]] w fun e w' => e = .returned (.bool r) ∧ Below w.heap.size w w' := by
 have hu26 := Tryd.underlying26
 have HB := A0_.mk (Below.refl w.heap.size w)
 have H := h
 unfold rational_Valid.f at H
 clear h
 have HC2 := A0_.mk H
 clear H
 go_enter Tryd.func60, Tryd.ntmps60
 go_upto_region 1 with (first | ((with_reducible refine gD_ (N := 1) rfl ?_); refine bE_ ?hg (N := 1) ?hd (cs := #[.bool a0_0, .string a0_1, .string a0_2]) (t := 26) ?hr ?_; (case hd => rfl); (case hg => rfl); (case hr => first | (go_simp; done) | (go_simp; rfl)); intro gb235 hg w3 hbox hb; have n0_ := A0_.mk (bT_ (xB_ HB) hb); have n1_ := A0_.mk (hbox); have n2_ := A0_.mk ((by rw [hg]; exact (bZ_ (xB_ HB)) : w.heap.size ≤ gb235)); have n3_ := A0_.mk ((by rw [hg]; exact (bZ_ (xB_ HB)) : w.heap.size ≤ gb235)); clear HB; have HB := n0_; have BK235 := n1_; have GW235 := n2_; have GE235 := n3_; clear n0_ n1_ n2_ n3_; clear hb hbox hg))
 repeat (go_quiet (first | ((with_reducible refine gD_ (N := 1) rfl ?_); refine bE_ ?hg (N := 1) ?hd (cs := #[.bool a0_0, .string a0_1, .string a0_2]) (t := 26) ?hr ?_; (case hd => rfl); (case hg => rfl); (case hr => first | (go_simp; done) | (go_simp; rfl)); intro gb235 hg w3 hbox hb; have n0_ := A0_.mk (bT_ (xB_ HB) hb); have n1_ := A0_.mk (hbox); have n2_ := A0_.mk ((by rw [hg]; exact (bZ_ (xB_ HB)) : w.heap.size ≤ gb235)); have n3_ := A0_.mk ((by rw [hg]; exact (bZ_ (xB_ HB)) : w.heap.size ≤ gb235)); clear HB; have HB := n0_; have BK235 := n1_; have GW235 := n2_; have GE235 := n3_; clear n0_ n1_ n2_ n3_; clear hb hbox hg)); go_upto_region 1 with (first | ((with_reducible refine gD_ (N := 1) rfl ?_); refine bE_ ?hg (N := 1) ?hd (cs := #[.bool a0_0, .string a0_1, .string a0_2]) (t := 26) ?hr ?_; (case hd => rfl); (case hg => rfl); (case hr => first | (go_simp; done) | (go_simp; rfl)); intro gb235 hg w3 hbox hb; have n0_ := A0_.mk (bT_ (xB_ HB) hb); have n1_ := A0_.mk (hbox); have n2_ := A0_.mk ((by rw [hg]; exact (bZ_ (xB_ HB)) : w.heap.size ≤ gb235)); have n3_ := A0_.mk ((by rw [hg]; exact (bZ_ (xB_ HB)) : w.heap.size ≤ gb235)); clear HB; have HB := n0_; have BK235 := n1_; have GW235 := n2_; have GE235 := n3_; clear n0_ n1_ n2_ n3_; clear hb hbox hg)))
 (try simp only [Act.put, s1_, s2_, s3_])
 go_cut [16] (fun v16 wc => ∃ (kq : Nat) (x16_1 : Bool), v16 = .bool x16_1 ∧ A0_ (rational_Valid.j0 kq x16_1 a0_0 a0_1 a0_2 = some r) ∧ A0_ (kq ≤ k) ∧ A0_ (wc.heap[gb235]? = some (.cells #[.bool a0_0, .string a0_1, .string a0_2] 26 (0, 0))) ∧ A0_ (Below w.heap.size w wc))
 case first =>
  have H := HC2.out
  clear HC2
  replace H := Option.bind_eq_some_iff.mp H
  obtain ⟨t236, A40, H⟩ := H
  (try dsimp only at H)
  have A4 := A0_.mk A40
  clear A40
  by_cases c5 : t236.toList = a0_1.toList
  ·rw [if_pos c5] at H
   have c5b0 : (t236.toList == a0_1.toList) = true := beq_iff_eq.mpr c5
   have c5b1 : (t236.toList != a0_1.toList) = false := bne_eq_false_iff_eq.mpr c5
   clear c5
   (first | rw [c5b0] | rw [c5b1] | (simp only [i64_w, i32_w]; rw [c5b0]) | skip)
   replace H := Option.bind_eq_some_iff.mp H
   obtain ⟨t237, A60, H⟩ := H
   (try dsimp only at H)
   have A6 := A0_.mk A60
   clear A60
   have H' := A0_.mk H
   clear H
   have hcz7_0 : w3.cell? ⟨gb235, 0, none⟩ = some (.bool a0_0) := (kc_ BK235.out 0).trans rfl
   have hcz7_1 : w3.cell? ⟨gb235, 1, none⟩ = some (.string a0_1) := (kc_ BK235.out 1).trans rfl
   have hcz7_2 : w3.cell? ⟨gb235, 2, none⟩ = some (.string a0_2) := (kc_ BK235.out 2).trans rfl
   have hfz7_0 := kF_ BK235.out 0
   have hfz7_1 := kF_ BK235.out 1
   have hfz7_2 := kF_ BK235.out 2
   go_wp2_with (first | (go_at_call 61; (with_reducible refine (natural_Normalize.calls k a0_1 t236 _ A4.out).mono ?_); rintro e w' ⟨rfl, ⟨nd, rfl⟩⟩; (try first | exact ⟨rfl, _, World.drewN_drewN _ _ _⟩ | exact ⟨rfl, _, Eq.trans (World.drewN_drewN _ _ _) (congrArg (World.drewN _) (Nat.add_assoc _ _ _))⟩)) | (go_at_call 61; (with_reducible refine (natural_Normalize.calls k a0_2 t237 _ A6.out).mono ?_); rintro e w' ⟨rfl, ⟨nd, rfl⟩⟩; (try first | exact ⟨rfl, _, World.drewN_drewN _ _ _⟩ | exact ⟨rfl, _, Eq.trans (World.drewN_drewN _ _ _) (congrArg (World.drewN _) (Nat.add_assoc _ _ _))⟩)))
   repeat (go_quiet (first | (go_at_call 61; (with_reducible refine (natural_Normalize.calls k a0_1 t236 _ A4.out).mono ?_); rintro e w' ⟨rfl, ⟨nd, rfl⟩⟩; (try first | exact ⟨rfl, _, World.drewN_drewN _ _ _⟩ | exact ⟨rfl, _, Eq.trans (World.drewN_drewN _ _ _) (congrArg (World.drewN _) (Nat.add_assoc _ _ _))⟩)) | (go_at_call 61; (with_reducible refine (natural_Normalize.calls k a0_2 t237 _ A6.out).mono ?_); rintro e w' ⟨rfl, ⟨nd, rfl⟩⟩; (try first | exact ⟨rfl, _, World.drewN_drewN _ _ _⟩ | exact ⟨rfl, _, Eq.trans (World.drewN_drewN _ _ _) (congrArg (World.drewN _) (Nat.add_assoc _ _ _))⟩))); try go_wp2_with (first | (go_at_call 61; (with_reducible refine (natural_Normalize.calls k a0_1 t236 _ A4.out).mono ?_); rintro e w' ⟨rfl, ⟨nd, rfl⟩⟩; (try first | exact ⟨rfl, _, World.drewN_drewN _ _ _⟩ | exact ⟨rfl, _, Eq.trans (World.drewN_drewN _ _ _) (congrArg (World.drewN _) (Nat.add_assoc _ _ _))⟩)) | (go_at_call 61; (with_reducible refine (natural_Normalize.calls k a0_2 t237 _ A6.out).mono ?_); rintro e w' ⟨rfl, ⟨nd, rfl⟩⟩; (try first | exact ⟨rfl, _, World.drewN_drewN _ _ _⟩ | exact ⟨rfl, _, Eq.trans (World.drewN_drewN _ _ _) (congrArg (World.drewN _) (Nat.add_assoc _ _ _))⟩))))
   go_meet
   case rel => exact ⟨_, ((t237.toList != a0_2.toList)), (by first | rfl | (simp; done) | (simp [*]; done)), H', ⟨by first | omega | exact Nat.le_refl _⟩, ⟨by (with_reducible repeat (first | refine kN_ ?_ _ | refine kD_ ?_ | refine kA_ ?_ _)); exact BK235.out⟩, ⟨xB1_ HB GE235⟩⟩
  ·rw [if_neg c5] at H
   have c5b0 : (t236.toList == a0_1.toList) = false := beq_eq_false_iff_ne.mpr c5
   have c5b1 : (t236.toList != a0_1.toList) = true := bne_iff_ne.mpr c5
   (first | rw [c5b0] | rw [c5b1] | (simp only [i64_w, i32_w]; rw [c5b0]) | skip)
   have H' := A0_.mk H
   clear H
   have hcz8_0 : w3.cell? ⟨gb235, 0, none⟩ = some (.bool a0_0) := (kc_ BK235.out 0).trans rfl
   have hcz8_1 : w3.cell? ⟨gb235, 1, none⟩ = some (.string a0_1) := (kc_ BK235.out 1).trans rfl
   have hcz8_2 : w3.cell? ⟨gb235, 2, none⟩ = some (.string a0_2) := (kc_ BK235.out 2).trans rfl
   have hfz8_0 := kF_ BK235.out 0
   have hfz8_1 := kF_ BK235.out 1
   have hfz8_2 := kF_ BK235.out 2
   go_wp2_with (first | (go_at_call 61; (with_reducible refine (natural_Normalize.calls k a0_1 t236 _ A4.out).mono ?_); rintro e w' ⟨rfl, ⟨nd, rfl⟩⟩; (try first | exact ⟨rfl, _, World.drewN_drewN _ _ _⟩ | exact ⟨rfl, _, Eq.trans (World.drewN_drewN _ _ _) (congrArg (World.drewN _) (Nat.add_assoc _ _ _))⟩)))
   repeat (go_quiet (first | (go_at_call 61; (with_reducible refine (natural_Normalize.calls k a0_1 t236 _ A4.out).mono ?_); rintro e w' ⟨rfl, ⟨nd, rfl⟩⟩; (try first | exact ⟨rfl, _, World.drewN_drewN _ _ _⟩ | exact ⟨rfl, _, Eq.trans (World.drewN_drewN _ _ _) (congrArg (World.drewN _) (Nat.add_assoc _ _ _))⟩))); try go_wp2_with (first | (go_at_call 61; (with_reducible refine (natural_Normalize.calls k a0_1 t236 _ A4.out).mono ?_); rintro e w' ⟨rfl, ⟨nd, rfl⟩⟩; (try first | exact ⟨rfl, _, World.drewN_drewN _ _ _⟩ | exact ⟨rfl, _, Eq.trans (World.drewN_drewN _ _ _) (congrArg (World.drewN _) (Nat.add_assoc _ _ _))⟩))))
   go_meet
   case rel => exact ⟨_, (true), (by first | rfl | (simp; done) | (simp [*]; done)), H', ⟨by first | omega | exact Nat.le_refl _⟩, ⟨by (with_reducible repeat (first | refine kN_ ?_ _ | refine kD_ ?_ | refine kA_ ?_ _)); exact BK235.out⟩, ⟨xB1_ HB GE235⟩⟩
 case rest =>
  clear HC2
  try clear p2
  try clear c5
  try clear c5b0
  try clear c5b1
  try clear c6
  try clear hcz7_0
  try clear hcz7_1
  try clear hcz7_2
  try clear hcz8_0
  try clear hcz8_1
  try clear hcz8_2
  try clear hfz7_0
  try clear hfz7_1
  try clear hfz7_2
  try clear hfz8_0
  try clear hfz8_1
  try clear hfz8_2
  obtain ⟨kq, x16_1, rfl, HA, HJ1, BK235, HB⟩ := hcut
  cases kq with
  | zero => exact absurd HA.out (by simp [rational_Valid.j0])
  | succ kj1 =>
   have H := HA.out
   clear HA
   simp only [rational_Valid.j0] at H
   by_cases c9 : x16_1 = true
   ·subst c9
    have H1 : (some false) = some r := by rw [if_pos rfl] at H; exact H
    clear H
    have H := H1
    clear H1
    obtain rfl := Option.some.inj H
    go_wp2
    repeat (go_quiet (fail); try go_wp2)
    go_ret
    exact ⟨rE_, xB1_ HB GE235⟩
   ·replace c9 := Bool.eq_false_iff.mpr c9
    subst c9
    have H1 : (if a0_1.toList = ([] : List UInt8) then (if a0_0 = true then (some false) else (some (a0_2.toList == ([] : List UInt8)))) else (if a0_2.toList = ([] : List UInt8) then (some true) else (if a0_2.toList = ([1] : List UInt8) then (some false) else ((natural_GCD.f kj1 a0_1 a0_2).bind fun t238 => (some (t238.toList == ([1] : List UInt8))))))) = some r := by rw [if_neg (show ¬ (false = true) by decide)] at H; exact H
    clear H
    have H := H1
    clear H1
    by_cases c10 : a0_1.toList = ([] : List UInt8)
    ·rw [if_pos c10] at H
     have c10b0 : (a0_1.toList == ([] : List UInt8)) = true := beq_iff_eq.mpr c10
     have c10b1 : (a0_1.toList != ([] : List UInt8)) = false := bne_eq_false_iff_eq.mpr c10
     clear c10
     by_cases c11 : a0_0 = true
     ·subst c11
      have H1 : (some false) = some r := by rw [if_pos rfl] at H; exact H
      clear H
      have H := H1
      clear H1
      obtain rfl := Option.some.inj H
      have hcz12_0 : wc.cell? ⟨gb235, 0, none⟩ = some (.bool true) := (kc_ BK235.out 0).trans rfl
      have hcz12_1 : wc.cell? ⟨gb235, 1, none⟩ = some (.string a0_1) := (kc_ BK235.out 1).trans rfl
      have hcz12_2 : wc.cell? ⟨gb235, 2, none⟩ = some (.string a0_2) := (kc_ BK235.out 2).trans rfl
      have hfz12_0 := kF_ BK235.out 0
      have hfz12_1 := kF_ BK235.out 1
      have hfz12_2 := kF_ BK235.out 2
      go_wp2
      repeat (go_quiet (fail); try go_wp2)
      go_ret
      exact ⟨rE_, xB1_ HB GE235⟩
     ·replace c11 := Bool.eq_false_iff.mpr c11
      subst c11
      have H1 : (some (a0_2.toList == ([] : List UInt8))) = some r := by rw [if_neg (show ¬ (false = true) by decide)] at H; exact H
      clear H
      have H := H1
      clear H1
      obtain rfl := Option.some.inj H
      have hcz13_0 : wc.cell? ⟨gb235, 0, none⟩ = some (.bool false) := (kc_ BK235.out 0).trans rfl
      have hcz13_1 : wc.cell? ⟨gb235, 1, none⟩ = some (.string a0_1) := (kc_ BK235.out 1).trans rfl
      have hcz13_2 : wc.cell? ⟨gb235, 2, none⟩ = some (.string a0_2) := (kc_ BK235.out 2).trans rfl
      have hfz13_0 := kF_ BK235.out 0
      have hfz13_1 := kF_ BK235.out 1
      have hfz13_2 := kF_ BK235.out 2
      go_wp2
      repeat (go_quiet (fail); try go_wp2)
      go_ret
      exact ⟨rE_, xB1_ HB GE235⟩
    ·rw [if_neg c10] at H
     have c10b0 : (a0_1.toList == ([] : List UInt8)) = false := beq_eq_false_iff_ne.mpr c10
     have c10b1 : (a0_1.toList != ([] : List UInt8)) = true := bne_iff_ne.mpr c10
     by_cases c14 : a0_2.toList = ([] : List UInt8)
     ·rw [if_pos c14] at H
      have c14b0 : (a0_2.toList == ([] : List UInt8)) = true := beq_iff_eq.mpr c14
      have c14b1 : (a0_2.toList != ([] : List UInt8)) = false := bne_eq_false_iff_eq.mpr c14
      clear c14
      obtain rfl := Option.some.inj H
      have hcz15_0 : wc.cell? ⟨gb235, 0, none⟩ = some (.bool a0_0) := (kc_ BK235.out 0).trans rfl
      have hcz15_1 : wc.cell? ⟨gb235, 1, none⟩ = some (.string a0_1) := (kc_ BK235.out 1).trans rfl
      have hcz15_2 : wc.cell? ⟨gb235, 2, none⟩ = some (.string a0_2) := (kc_ BK235.out 2).trans rfl
      have hfz15_0 := kF_ BK235.out 0
      have hfz15_1 := kF_ BK235.out 1
      have hfz15_2 := kF_ BK235.out 2
      go_wp2
      repeat (go_quiet (fail); try go_wp2)
      go_ret
      exact ⟨rE_, xB1_ HB GE235⟩
     ·rw [if_neg c14] at H
      have c14b0 : (a0_2.toList == ([] : List UInt8)) = false := beq_eq_false_iff_ne.mpr c14
      have c14b1 : (a0_2.toList != ([] : List UInt8)) = true := bne_iff_ne.mpr c14
      by_cases c16 : a0_2.toList = ([1] : List UInt8)
      ·rw [if_pos c16] at H
       have c16b0 : (a0_2.toList == ([1] : List UInt8)) = true := beq_iff_eq.mpr c16
       have c16b1 : (a0_2.toList != ([1] : List UInt8)) = false := bne_eq_false_iff_eq.mpr c16
       clear c16
       obtain rfl := Option.some.inj H
       have hcz17_0 : wc.cell? ⟨gb235, 0, none⟩ = some (.bool a0_0) := (kc_ BK235.out 0).trans rfl
       have hcz17_1 : wc.cell? ⟨gb235, 1, none⟩ = some (.string a0_1) := (kc_ BK235.out 1).trans rfl
       have hcz17_2 : wc.cell? ⟨gb235, 2, none⟩ = some (.string a0_2) := (kc_ BK235.out 2).trans rfl
       have hfz17_0 := kF_ BK235.out 0
       have hfz17_1 := kF_ BK235.out 1
       have hfz17_2 := kF_ BK235.out 2
       go_wp2
       repeat (go_quiet (fail); try go_wp2)
       go_ret
       exact ⟨rE_, xB1_ HB GE235⟩
      ·rw [if_neg c16] at H
       have c16b0 : (a0_2.toList == ([1] : List UInt8)) = false := beq_eq_false_iff_ne.mpr c16
       have c16b1 : (a0_2.toList != ([1] : List UInt8)) = true := bne_iff_ne.mpr c16
       replace H := Option.bind_eq_some_iff.mp H
       obtain ⟨t238, A180, H⟩ := H
       (try dsimp only at H)
       have A18 := A0_.mk A180
       clear A180
       obtain rfl := Option.some.inj H
       have hcz19_0 : wc.cell? ⟨gb235, 0, none⟩ = some (.bool a0_0) := (kc_ BK235.out 0).trans rfl
       have hcz19_1 : wc.cell? ⟨gb235, 1, none⟩ = some (.string a0_1) := (kc_ BK235.out 1).trans rfl
       have hcz19_2 : wc.cell? ⟨gb235, 2, none⟩ = some (.string a0_2) := (kc_ BK235.out 2).trans rfl
       have hfz19_0 := kF_ BK235.out 0
       have hfz19_1 := kF_ BK235.out 1
       have hfz19_2 := kF_ BK235.out 2
       go_wp2_with (first | (go_at_call 70; (with_reducible refine (natural_GCD.calls kj1 a0_1 a0_2 t238 _ A18.out).mono ?_); rintro e w20 ⟨rfl, hb⟩; have n0_ := A0_.mk (kB_ (g := gb235) (o := .cells #[.bool a0_0, .string a0_1, .string a0_2] 26 (0, 0)) (xK_ BK235.out) hb); have n1_ := A0_.mk (bT_ (xB1_ HB GE235) hb); clear BK235 HB; have BK235 := n0_; have HB := n1_; clear n0_ n1_; (try clear hb); (try clear hb2); (try clear hk); (try clear hi)))
       repeat (go_quiet (first | (go_at_call 70; (with_reducible refine (natural_GCD.calls kj1 a0_1 a0_2 t238 _ A18.out).mono ?_); rintro e w20 ⟨rfl, hb⟩; have n0_ := A0_.mk (kB_ (g := gb235) (o := .cells #[.bool a0_0, .string a0_1, .string a0_2] 26 (0, 0)) (xK_ BK235.out) hb); have n1_ := A0_.mk (bT_ (xB1_ HB GE235) hb); clear BK235 HB; have BK235 := n0_; have HB := n1_; clear n0_ n1_; (try clear hb); (try clear hb2); (try clear hk); (try clear hi))); try go_wp2_with (first | (go_at_call 70; (with_reducible refine (natural_GCD.calls kj1 a0_1 a0_2 t238 _ A18.out).mono ?_); rintro e w20 ⟨rfl, hb⟩; have n0_ := A0_.mk (kB_ (g := gb235) (o := .cells #[.bool a0_0, .string a0_1, .string a0_2] 26 (0, 0)) (xK_ BK235.out) hb); have n1_ := A0_.mk (bT_ (xB1_ HB GE235) hb); clear BK235 HB; have BK235 := n0_; have HB := n1_; clear n0_ n1_; (try clear hb); (try clear hb2); (try clear hk); (try clear hi))))
       go_ret
       exact ⟨rE_, xB1_ HB GE235⟩
def rational_clean.f (k : Nat) (a0_0 : Bool) (a0_1 : ByteArray) (a0_2 : ByteArray) : Option (Bool × ByteArray × ByteArray) := (rational_Valid.f k a0_0 a0_1 a0_2).bind fun t241 => (if t241 = true then (some (a0_0, a0_1, a0_2)) else (some (false, (⟨#[]⟩ : ByteArray), (⟨#[]⟩ : ByteArray))))
theorem rational_clean.mono : ∀ a0 a1 a2 k, LeO (rational_clean.f k a0 a1 a2) (rational_clean.f (k + 1) a0 a1 a2) := by
 intro a0 a1 a2 k
 unfold rational_clean.f
 repeat' first
   | (with_reducible exact rational_Valid.mono _ _ _ _)
   | (with_reducible exact LeO.refl _)
   | (with_reducible exact LeO.none _)
   | (with_reducible refine LeO.ite ?_ ?_)
   | (with_reducible refine LeO.bind ?_ (fun _ => ?_))
set_option maxHeartbeats 8000000 in
set_option maxRecDepth 100000 in
theorem rational_clean.calls (k : Nat) (a0_0 : Bool) (a0_1 : ByteArray) (a0_2 : ByteArray) (r1 : Bool) (r2 : ByteArray) (r3 : ByteArray) (w : World) (h : rational_clean.f k a0_0 a0_1 a0_2 = some (r1, r2, r3)) :
  Calls Tryd.prog 43 #[.agg #[.bool a0_0, .string a0_1, .string a0_2]] w fun e w' => e = .returned (.agg #[.bool r1, .string r2, .string r3]) ∧ Below w.heap.size w w' := by
 have hu26 := Tryd.underlying26
 have HB := A0_.mk (Below.refl w.heap.size w)
 have H := h
 unfold rational_clean.f at H
 clear h
 replace H := Option.bind_eq_some_iff.mp H
 obtain ⟨t241, A20, H⟩ := H
 (try dsimp only at H)
 have A2 := A0_.mk A20
 clear A20
 by_cases c3 : t241 = true
 ·subst c3
  have H1 : (some (a0_0, a0_1, a0_2)) = some (r1, r2, r3) := by rw [if_pos rfl] at H; exact H
  clear H
  have H := H1
  clear H1
  simp only [Option.some.injEq, Prod.mk.injEq] at H
  obtain ⟨rfl, rfl, rfl⟩ := H
  go_enter Tryd.func43, Tryd.ntmps43
  go_wp2_with (first | ((with_reducible refine gD_ (N := 1) rfl ?_); refine bE_ ?hg (N := 1) ?hd (cs := #[.bool a0_0, .string a0_1, .string a0_2]) (t := 26) ?hr ?_; (case hd => rfl); (case hg => rfl); (case hr => first | (go_simp; done) | (go_simp; rfl)); intro gb239 hg w4 hbox hb; have n0_ := A0_.mk (bT_ (xB_ HB) hb); have n1_ := A0_.mk (hbox); have n2_ := A0_.mk ((by rw [hg]; exact (bZ_ (xB_ HB)) : w.heap.size ≤ gb239)); have n3_ := A0_.mk ((by rw [hg]; exact (bZ_ (xB_ HB)) : w.heap.size ≤ gb239)); clear HB; have HB := n0_; have BK239 := n1_; have GW239 := n2_; have GE239 := n3_; clear n0_ n1_ n2_ n3_; clear hb hbox hg) | ((with_reducible refine gD_ (N := 2) rfl ?_); refine bE_ ?hg (N := 2) ?hd (cs := #[.bool false, .string (⟨#[]⟩ : ByteArray), .string (⟨#[]⟩ : ByteArray)]) (t := 26) ?hr ?_; (case hd => rfl); (case hg => rfl); (case hr => first | (go_simp; done) | (go_simp; rfl)); intro gb240 hg w5 hbox hb; have n0_ := A0_.mk (kB_ (g := gb239) (o := .cells #[.bool a0_0, .string a0_1, .string a0_2] 26 (0, 0)) (xK_ BK239.out) hb); have n1_ := A0_.mk (bT_ (xB1_ HB GE239) hb); have n2_ := A0_.mk (hbox); have n3_ := A0_.mk ((by rw [hg]; exact (bZ_ (xB1_ HB GE239)) : w.heap.size ≤ gb240)); have n4_ := A0_.mk ((by rw [hg]; exact (bZ_ (xB1_ HB GE239)) : w.heap.size ≤ gb240)); have n5_ := A0_.mk ((by rw [hg]; exact Nat.ne_of_lt (blk_lt (g := gb239) (o := .cells #[.bool a0_0, .string a0_1, .string a0_2] 26 (0, 0)) (xK_ BK239.out)) : gb239 ≠ gb240)); have n6_ := A0_.mk ((by rw [hg]; exact Nat.ne_of_gt (blk_lt (g := gb239) (o := .cells #[.bool a0_0, .string a0_1, .string a0_2] 26 (0, 0)) (xK_ BK239.out)) : gb240 ≠ gb239)); clear BK239 HB; have BK239 := n0_; have HB := n1_; have BK240 := n2_; have GW240 := n3_; have GE240 := n4_; have NB239_240 := n5_; have NB240_239 := n6_; clear n0_ n1_ n2_ n3_ n4_ n5_ n6_; clear hb hbox hg; have hnb6 := NB239_240.out; have hnc6 := NB240_239.out; have hcz7_0 : w5.cell? ⟨gb239, 0, none⟩ = some (.bool a0_0) := (kc_ BK239.out 0).trans rfl; have hcz7_1 : w5.cell? ⟨gb239, 1, none⟩ = some (.string a0_1) := (kc_ BK239.out 1).trans rfl; have hcz7_2 : w5.cell? ⟨gb239, 2, none⟩ = some (.string a0_2) := (kc_ BK239.out 2).trans rfl; have hfz7_0 := kF_ BK239.out 0; have hfz7_1 := kF_ BK239.out 1; have hfz7_2 := kF_ BK239.out 2) | ((with_reducible refine gC_ (f := 60) rfl ?_); refine goesL_ (some 4) rfl rfl Tryd.func60 (by kernel_rfl) rfl #[.agg #[.bool a0_0, .string a0_1, .string a0_2]] rfl mp_ ?_; (with_reducible refine (rational_Valid.calls k a0_0 a0_1 a0_2 true _ A2.out).mono ?_); rintro e w8 ⟨rfl, hb⟩; refine ⟨_, rfl, ?_⟩; have n0_ := A0_.mk (kB_ (g := gb239) (o := .cells #[.bool a0_0, .string a0_1, .string a0_2] 26 (0, 0)) (xK_ BK239.out) hb); have n1_ := A0_.mk (kB_ (g := gb240) (o := .cells #[.bool false, .string (⟨#[]⟩ : ByteArray), .string (⟨#[]⟩ : ByteArray)] 26 (0, 0)) (xK_ BK240.out) hb); have n2_ := A0_.mk (bT_ (xB2_ HB GE239 GE240) hb); clear BK239 BK240 HB; have BK239 := n0_; have BK240 := n1_; have HB := n2_; clear n0_ n1_ n2_; (try clear hb); (try clear hb2); (try clear hk); (try clear hi); have hcz9_0 : w8.cell? ⟨gb239, 0, none⟩ = some (.bool a0_0) := (kc_ BK239.out 0).trans rfl; have hcz9_1 : w8.cell? ⟨gb239, 1, none⟩ = some (.string a0_1) := (kc_ BK239.out 1).trans rfl; have hcz9_2 : w8.cell? ⟨gb239, 2, none⟩ = some (.string a0_2) := (kc_ BK239.out 2).trans rfl; have hfz9_0 := kF_ BK239.out 0; have hfz9_1 := kF_ BK239.out 1; have hfz9_2 := kF_ BK239.out 2; have hcz10_0 : w8.cell? ⟨gb240, 0, none⟩ = some (.bool false) := (kc_ BK240.out 0).trans rfl; have hcz10_1 : w8.cell? ⟨gb240, 1, none⟩ = some (.string (⟨#[]⟩ : ByteArray)) := (kc_ BK240.out 1).trans rfl; have hcz10_2 : w8.cell? ⟨gb240, 2, none⟩ = some (.string (⟨#[]⟩ : ByteArray)) := (kc_ BK240.out 2).trans rfl; have hfz10_0 := kF_ BK240.out 0; have hfz10_1 := kF_ BK240.out 1; have hfz10_2 := kF_ BK240.out 2))
  refine bodyPost_ret (results_cell_row rfl _ _ gb240 26 #[.bool a0_0, .string a0_1, .string a0_2] (0, 0) _ rfl (by (with_reducible repeat (first | refine kN_ ?_ _ | refine kD_ ?_ | refine kA_ ?_ _)); refine kP_ (cs := #[.bool a0_0, .string a0_1, .string (⟨#[]⟩ : ByteArray)]) ?_ 2 _ rfl; (with_reducible repeat (first | refine kN_ ?_ _ | refine kD_ ?_ | refine kA_ ?_ _)); refine kP_ (cs := #[.bool a0_0, .string (⟨#[]⟩ : ByteArray), .string (⟨#[]⟩ : ByteArray)]) ?_ 1 _ rfl; (with_reducible repeat (first | refine kN_ ?_ _ | refine kD_ ?_ | refine kA_ ?_ _)); refine kP_ (cs := #[.bool false, .string (⟨#[]⟩ : ByteArray), .string (⟨#[]⟩ : ByteArray)]) ?_ 0 _ rfl; (with_reducible repeat (first | refine kN_ ?_ _ | refine kD_ ?_ | refine kA_ ?_ _)); exact BK240.out) Tryd.underlying26 rfl (by kernel_rfl)) rfl ?_
  exact ⟨rE_, xB2_ HB GE239 GE240⟩
 ·replace c3 := Bool.eq_false_iff.mpr c3
  subst c3
  have H1 : (some (false, (⟨#[]⟩ : ByteArray), (⟨#[]⟩ : ByteArray))) = some (r1, r2, r3) := by rw [if_neg (show ¬ (false = true) by decide)] at H; exact H
  clear H
  have H := H1
  clear H1
  simp only [Option.some.injEq, Prod.mk.injEq] at H
  obtain ⟨rfl, rfl, rfl⟩ := H
  go_enter Tryd.func43, Tryd.ntmps43
  go_wp2_with (first | ((with_reducible refine gD_ (N := 1) rfl ?_); refine bE_ ?hg (N := 1) ?hd (cs := #[.bool a0_0, .string a0_1, .string a0_2]) (t := 26) ?hr ?_; (case hd => rfl); (case hg => rfl); (case hr => first | (go_simp; done) | (go_simp; rfl)); intro gb239 hg w11 hbox hb; have n0_ := A0_.mk (bT_ (xB_ HB) hb); have n1_ := A0_.mk (hbox); have n2_ := A0_.mk ((by rw [hg]; exact (bZ_ (xB_ HB)) : w.heap.size ≤ gb239)); have n3_ := A0_.mk ((by rw [hg]; exact (bZ_ (xB_ HB)) : w.heap.size ≤ gb239)); clear HB; have HB := n0_; have BK239 := n1_; have GW239 := n2_; have GE239 := n3_; clear n0_ n1_ n2_ n3_; clear hb hbox hg) | ((with_reducible refine gD_ (N := 2) rfl ?_); refine bE_ ?hg (N := 2) ?hd (cs := #[.bool false, .string (⟨#[]⟩ : ByteArray), .string (⟨#[]⟩ : ByteArray)]) (t := 26) ?hr ?_; (case hd => rfl); (case hg => rfl); (case hr => first | (go_simp; done) | (go_simp; rfl)); intro gb240 hg w12 hbox hb; have n0_ := A0_.mk (kB_ (g := gb239) (o := .cells #[.bool a0_0, .string a0_1, .string a0_2] 26 (0, 0)) (xK_ BK239.out) hb); have n1_ := A0_.mk (bT_ (xB1_ HB GE239) hb); have n2_ := A0_.mk (hbox); have n3_ := A0_.mk ((by rw [hg]; exact (bZ_ (xB1_ HB GE239)) : w.heap.size ≤ gb240)); have n4_ := A0_.mk ((by rw [hg]; exact (bZ_ (xB1_ HB GE239)) : w.heap.size ≤ gb240)); have n5_ := A0_.mk ((by rw [hg]; exact Nat.ne_of_lt (blk_lt (g := gb239) (o := .cells #[.bool a0_0, .string a0_1, .string a0_2] 26 (0, 0)) (xK_ BK239.out)) : gb239 ≠ gb240)); have n6_ := A0_.mk ((by rw [hg]; exact Nat.ne_of_gt (blk_lt (g := gb239) (o := .cells #[.bool a0_0, .string a0_1, .string a0_2] 26 (0, 0)) (xK_ BK239.out)) : gb240 ≠ gb239)); clear BK239 HB; have BK239 := n0_; have HB := n1_; have BK240 := n2_; have GW240 := n3_; have GE240 := n4_; have NB239_240 := n5_; have NB240_239 := n6_; clear n0_ n1_ n2_ n3_ n4_ n5_ n6_; clear hb hbox hg; have hnb13 := NB239_240.out; have hnc13 := NB240_239.out; have hcz14_0 : w12.cell? ⟨gb239, 0, none⟩ = some (.bool a0_0) := (kc_ BK239.out 0).trans rfl; have hcz14_1 : w12.cell? ⟨gb239, 1, none⟩ = some (.string a0_1) := (kc_ BK239.out 1).trans rfl; have hcz14_2 : w12.cell? ⟨gb239, 2, none⟩ = some (.string a0_2) := (kc_ BK239.out 2).trans rfl; have hfz14_0 := kF_ BK239.out 0; have hfz14_1 := kF_ BK239.out 1; have hfz14_2 := kF_ BK239.out 2) | ((with_reducible refine gC_ (f := 60) rfl ?_); refine goesL_ (some 4) rfl rfl Tryd.func60 (by kernel_rfl) rfl #[.agg #[.bool a0_0, .string a0_1, .string a0_2]] rfl mp_ ?_; (with_reducible refine (rational_Valid.calls k a0_0 a0_1 a0_2 false _ A2.out).mono ?_); rintro e w15 ⟨rfl, hb⟩; refine ⟨_, rfl, ?_⟩; have n0_ := A0_.mk (kB_ (g := gb239) (o := .cells #[.bool a0_0, .string a0_1, .string a0_2] 26 (0, 0)) (xK_ BK239.out) hb); have n1_ := A0_.mk (kB_ (g := gb240) (o := .cells #[.bool false, .string (⟨#[]⟩ : ByteArray), .string (⟨#[]⟩ : ByteArray)] 26 (0, 0)) (xK_ BK240.out) hb); have n2_ := A0_.mk (bT_ (xB2_ HB GE239 GE240) hb); clear BK239 BK240 HB; have BK239 := n0_; have BK240 := n1_; have HB := n2_; clear n0_ n1_ n2_; (try clear hb); (try clear hb2); (try clear hk); (try clear hi); have hcz16_0 : w15.cell? ⟨gb240, 0, none⟩ = some (.bool false) := (kc_ BK240.out 0).trans rfl; have hcz16_1 : w15.cell? ⟨gb240, 1, none⟩ = some (.string (⟨#[]⟩ : ByteArray)) := (kc_ BK240.out 1).trans rfl; have hcz16_2 : w15.cell? ⟨gb240, 2, none⟩ = some (.string (⟨#[]⟩ : ByteArray)) := (kc_ BK240.out 2).trans rfl; have hfz16_0 := kF_ BK240.out 0; have hfz16_1 := kF_ BK240.out 1; have hfz16_2 := kF_ BK240.out 2))
  refine bodyPost_ret (results_cell_row rfl _ _ gb240 26 #[.bool false, .string (⟨#[]⟩ : ByteArray), .string (⟨#[]⟩ : ByteArray)] (0, 0) _ rfl (by (with_reducible repeat (first | refine kN_ ?_ _ | refine kD_ ?_ | refine kA_ ?_ _)); refine kP_ (cs := #[.bool false, .string (⟨#[]⟩ : ByteArray), .string (⟨#[]⟩ : ByteArray)]) ?_ 2 _ rfl; (with_reducible repeat (first | refine kN_ ?_ _ | refine kD_ ?_ | refine kA_ ?_ _)); refine kP_ (cs := #[.bool false, .string (⟨#[]⟩ : ByteArray), .string (⟨#[]⟩ : ByteArray)]) ?_ 1 _ rfl; (with_reducible repeat (first | refine kN_ ?_ _ | refine kD_ ?_ | refine kA_ ?_ _)); refine kP_ (cs := #[.bool false, .string (⟨#[]⟩ : ByteArray), .string (⟨#[]⟩ : ByteArray)]) ?_ 0 _ rfl; (with_reducible repeat (first | refine kN_ ?_ _ | refine kD_ ?_ | refine kA_ ?_ _)); exact BK240.out) Tryd.underlying26 rfl (by kernel_rfl)) rfl ?_
  exact ⟨rE_, xB2_ HB GE239 GE240⟩
def rational_den.f (a0_0 : Bool) (a0_1 : ByteArray) (a0_2 : ByteArray) : Option (ByteArray) := if a0_2.toList = ([] : List UInt8) then (some (⟨#[1]⟩ : ByteArray)) else (some a0_2)
set_option maxHeartbeats 8000000 in
set_option maxRecDepth 100000 in
theorem rational_den.calls (a0_0 : Bool) (a0_1 : ByteArray) (a0_2 : ByteArray) (r : ByteArray) (w : World) (h : rational_den.f a0_0 a0_1 a0_2 = some r) :
  Calls Tryd.prog 46 #[.agg #[.bool a0_0, .string a0_1, .string a0_2]] w fun e w' => e = .returned (.string r) ∧ Below w.heap.size w w' := by
 have hu26 := Tryd.underlying26
 have HB := A0_.mk (Below.refl w.heap.size w)
 have H := h
 unfold rational_den.f at H
 clear h
 by_cases c2 : a0_2.toList = ([] : List UInt8)
 ·rw [if_pos c2] at H
  have c2b0 : (a0_2.toList == ([] : List UInt8)) = true := beq_iff_eq.mpr c2
  have c2b1 : (a0_2.toList != ([] : List UInt8)) = false := bne_eq_false_iff_eq.mpr c2
  clear c2
  obtain rfl := Option.some.inj H
  go_enter Tryd.func46, Tryd.ntmps46
  go_wp2_with (first | ((with_reducible refine gD_ (N := 1) rfl ?_); refine bE_ ?hg (N := 1) ?hd (cs := #[.bool a0_0, .string a0_1, .string a0_2]) (t := 26) ?hr ?_; (case hd => rfl); (case hg => rfl); (case hr => first | (go_simp; done) | (go_simp; rfl)); intro gb271 hg w3 hbox hb; have n0_ := A0_.mk (bT_ (xB_ HB) hb); have n1_ := A0_.mk (hbox); have n2_ := A0_.mk ((by rw [hg]; exact (bZ_ (xB_ HB)) : w.heap.size ≤ gb271)); have n3_ := A0_.mk ((by rw [hg]; exact (bZ_ (xB_ HB)) : w.heap.size ≤ gb271)); clear HB; have HB := n0_; have BK271 := n1_; have GW271 := n2_; have GE271 := n3_; clear n0_ n1_ n2_ n3_; clear hb hbox hg; have hcz4_0 : w3.cell? ⟨gb271, 0, none⟩ = some (.bool a0_0) := (kc_ BK271.out 0).trans rfl; have hcz4_1 : w3.cell? ⟨gb271, 1, none⟩ = some (.string a0_1) := (kc_ BK271.out 1).trans rfl; have hcz4_2 : w3.cell? ⟨gb271, 2, none⟩ = some (.string a0_2) := (kc_ BK271.out 2).trans rfl; have hfz4_0 := kF_ BK271.out 0; have hfz4_1 := kF_ BK271.out 1; have hfz4_2 := kF_ BK271.out 2))
  go_ret
  exact ⟨rE_, xB1_ HB GE271⟩
 ·rw [if_neg c2] at H
  have c2b0 : (a0_2.toList == ([] : List UInt8)) = false := beq_eq_false_iff_ne.mpr c2
  have c2b1 : (a0_2.toList != ([] : List UInt8)) = true := bne_iff_ne.mpr c2
  obtain rfl := Option.some.inj H
  go_enter Tryd.func46, Tryd.ntmps46
  go_wp2_with (first | ((with_reducible refine gD_ (N := 1) rfl ?_); refine bE_ ?hg (N := 1) ?hd (cs := #[.bool a0_0, .string a0_1, .string a0_2]) (t := 26) ?hr ?_; (case hd => rfl); (case hg => rfl); (case hr => first | (go_simp; done) | (go_simp; rfl)); intro gb271 hg w5 hbox hb; have n0_ := A0_.mk (bT_ (xB_ HB) hb); have n1_ := A0_.mk (hbox); have n2_ := A0_.mk ((by rw [hg]; exact (bZ_ (xB_ HB)) : w.heap.size ≤ gb271)); have n3_ := A0_.mk ((by rw [hg]; exact (bZ_ (xB_ HB)) : w.heap.size ≤ gb271)); clear HB; have HB := n0_; have BK271 := n1_; have GW271 := n2_; have GE271 := n3_; clear n0_ n1_ n2_ n3_; clear hb hbox hg; have hcz6_0 : w5.cell? ⟨gb271, 0, none⟩ = some (.bool a0_0) := (kc_ BK271.out 0).trans rfl; have hcz6_1 : w5.cell? ⟨gb271, 1, none⟩ = some (.string a0_1) := (kc_ BK271.out 1).trans rfl; have hcz6_2 : w5.cell? ⟨gb271, 2, none⟩ = some (.string a0_2) := (kc_ BK271.out 2).trans rfl; have hfz6_0 := kF_ BK271.out 0; have hfz6_1 := kF_ BK271.out 1; have hfz6_2 := kF_ BK271.out 2))
  go_ret
  exact ⟨rE_, xB1_ HB GE271⟩
def rational_signOf.f (a0_0 : Bool) (a0_1 : ByteArray) (a0_2 : ByteArray) : Option (Int) := if a0_1.toList = ([] : List UInt8) then (some 0) else (if a0_0 = true then (some (-1)) else (some 1))
set_option maxHeartbeats 8000000 in
set_option maxRecDepth 100000 in
theorem rational_signOf.calls (a0_0 : Bool) (a0_1 : ByteArray) (a0_2 : ByteArray) (r : Int) (w : World) (h : rational_signOf.f a0_0 a0_1 a0_2 = some r) :
  Calls Tryd.prog 42 #[.agg #[.bool a0_0, .string a0_1, .string a0_2]] w fun e w' => e = .returned (.int .i64 r) ∧ Below w.heap.size w w' := by
 have hu26 := Tryd.underlying26
 have HB := A0_.mk (Below.refl w.heap.size w)
 have H := h
 unfold rational_signOf.f at H
 clear h
 by_cases c2 : a0_1.toList = ([] : List UInt8)
 ·rw [if_pos c2] at H
  have c2b0 : (a0_1.toList == ([] : List UInt8)) = true := beq_iff_eq.mpr c2
  have c2b1 : (a0_1.toList != ([] : List UInt8)) = false := bne_eq_false_iff_eq.mpr c2
  clear c2
  obtain rfl := Option.some.inj H
  go_enter Tryd.func42, Tryd.ntmps42
  go_wp2_with (first | ((with_reducible refine gD_ (N := 1) rfl ?_); refine bE_ ?hg (N := 1) ?hd (cs := #[.bool a0_0, .string a0_1, .string a0_2]) (t := 26) ?hr ?_; (case hd => rfl); (case hg => rfl); (case hr => first | (go_simp; done) | (go_simp; rfl)); intro gb108 hg w3 hbox hb; have n0_ := A0_.mk (bT_ (xB_ HB) hb); have n1_ := A0_.mk (hbox); have n2_ := A0_.mk ((by rw [hg]; exact (bZ_ (xB_ HB)) : w.heap.size ≤ gb108)); have n3_ := A0_.mk ((by rw [hg]; exact (bZ_ (xB_ HB)) : w.heap.size ≤ gb108)); clear HB; have HB := n0_; have BK108 := n1_; have GW108 := n2_; have GE108 := n3_; clear n0_ n1_ n2_ n3_; clear hb hbox hg; have hcz4_0 : w3.cell? ⟨gb108, 0, none⟩ = some (.bool a0_0) := (kc_ BK108.out 0).trans rfl; have hcz4_1 : w3.cell? ⟨gb108, 1, none⟩ = some (.string a0_1) := (kc_ BK108.out 1).trans rfl; have hcz4_2 : w3.cell? ⟨gb108, 2, none⟩ = some (.string a0_2) := (kc_ BK108.out 2).trans rfl; have hfz4_0 := kF_ BK108.out 0; have hfz4_1 := kF_ BK108.out 1; have hfz4_2 := kF_ BK108.out 2))
  go_ret
  exact ⟨rE_, xB1_ HB GE108⟩
 ·rw [if_neg c2] at H
  have c2b0 : (a0_1.toList == ([] : List UInt8)) = false := beq_eq_false_iff_ne.mpr c2
  have c2b1 : (a0_1.toList != ([] : List UInt8)) = true := bne_iff_ne.mpr c2
  by_cases c5 : a0_0 = true
  ·subst c5
   have H1 : (some (-1)) = some r := by rw [if_pos rfl] at H; exact H
   clear H
   have H := H1
   clear H1
   obtain rfl := Option.some.inj H
   go_enter Tryd.func42, Tryd.ntmps42
   go_wp2_with (first | ((with_reducible refine gD_ (N := 1) rfl ?_); refine bE_ ?hg (N := 1) ?hd (cs := #[.bool true, .string a0_1, .string a0_2]) (t := 26) ?hr ?_; (case hd => rfl); (case hg => rfl); (case hr => first | (go_simp; done) | (go_simp; rfl)); intro gb108 hg w6 hbox hb; have n0_ := A0_.mk (bT_ (xB_ HB) hb); have n1_ := A0_.mk (hbox); have n2_ := A0_.mk ((by rw [hg]; exact (bZ_ (xB_ HB)) : w.heap.size ≤ gb108)); have n3_ := A0_.mk ((by rw [hg]; exact (bZ_ (xB_ HB)) : w.heap.size ≤ gb108)); clear HB; have HB := n0_; have BK108 := n1_; have GW108 := n2_; have GE108 := n3_; clear n0_ n1_ n2_ n3_; clear hb hbox hg; have hcz7_0 : w6.cell? ⟨gb108, 0, none⟩ = some (.bool true) := (kc_ BK108.out 0).trans rfl; have hcz7_1 : w6.cell? ⟨gb108, 1, none⟩ = some (.string a0_1) := (kc_ BK108.out 1).trans rfl; have hcz7_2 : w6.cell? ⟨gb108, 2, none⟩ = some (.string a0_2) := (kc_ BK108.out 2).trans rfl; have hfz7_0 := kF_ BK108.out 0; have hfz7_1 := kF_ BK108.out 1; have hfz7_2 := kF_ BK108.out 2))
   go_ret
   exact ⟨rE_, xB1_ HB GE108⟩
  ·replace c5 := Bool.eq_false_iff.mpr c5
   subst c5
   have H1 : (some 1) = some r := by rw [if_neg (show ¬ (false = true) by decide)] at H; exact H
   clear H
   have H := H1
   clear H1
   obtain rfl := Option.some.inj H
   go_enter Tryd.func42, Tryd.ntmps42
   go_wp2_with (first | ((with_reducible refine gD_ (N := 1) rfl ?_); refine bE_ ?hg (N := 1) ?hd (cs := #[.bool false, .string a0_1, .string a0_2]) (t := 26) ?hr ?_; (case hd => rfl); (case hg => rfl); (case hr => first | (go_simp; done) | (go_simp; rfl)); intro gb108 hg w8 hbox hb; have n0_ := A0_.mk (bT_ (xB_ HB) hb); have n1_ := A0_.mk (hbox); have n2_ := A0_.mk ((by rw [hg]; exact (bZ_ (xB_ HB)) : w.heap.size ≤ gb108)); have n3_ := A0_.mk ((by rw [hg]; exact (bZ_ (xB_ HB)) : w.heap.size ≤ gb108)); clear HB; have HB := n0_; have BK108 := n1_; have GW108 := n2_; have GE108 := n3_; clear n0_ n1_ n2_ n3_; clear hb hbox hg; have hcz9_0 : w8.cell? ⟨gb108, 0, none⟩ = some (.bool false) := (kc_ BK108.out 0).trans rfl; have hcz9_1 : w8.cell? ⟨gb108, 1, none⟩ = some (.string a0_1) := (kc_ BK108.out 1).trans rfl; have hcz9_2 : w8.cell? ⟨gb108, 2, none⟩ = some (.string a0_2) := (kc_ BK108.out 2).trans rfl; have hfz9_0 := kF_ BK108.out 0; have hfz9_1 := kF_ BK108.out 1; have hfz9_2 := kF_ BK108.out 2))
   go_ret
   exact ⟨rE_, xB1_ HB GE108⟩
def rational_Compare.f (k : Nat) (a0_0 : Bool) (a0_1 : ByteArray) (a0_2 : ByteArray) (a1_0 : Bool) (a1_1 : ByteArray) (a1_2 : ByteArray) : Option (Int) := (rational_clean.f k a0_0 a0_1 a0_2).bind fun bt401 => ((rational_clean.f k a1_0 a1_1 a1_2).bind fun bt404 => ((rational_signOf.f bt401.1 bt401.2.1 bt401.2.2).bind fun t407 => ((rational_signOf.f bt404.1 bt404.2.1 bt404.2.2).bind fun t408 => (if t407 = t408 then ((rational_den.f bt404.1 bt404.2.1 bt404.2.2).bind fun t409 => ((natural_Multiply.f k bt401.2.1 t409).bind fun t410 => ((rational_den.f bt401.1 bt401.2.1 bt401.2.2).bind fun t411 => ((natural_Multiply.f k bt404.2.1 t411).bind fun t412 => ((natural_Compare.f k t410 t412).bind fun t413 => (if bt401.1 = true then (none) else (some t413))))))) else (if t407 < t408 then (some (-1)) else (some 1))))))
theorem rational_Compare.mono : ∀ a0 a1 a2 a3 a4 a5 k, LeO (rational_Compare.f k a0 a1 a2 a3 a4 a5) (rational_Compare.f (k + 1) a0 a1 a2 a3 a4 a5) := by
 intro a0 a1 a2 a3 a4 a5 k
 unfold rational_Compare.f
 repeat' first
   | (with_reducible exact natural_Compare.mono _ _ _)
   | (with_reducible exact natural_Multiply.mono _ _ _)
   | (with_reducible exact rational_clean.mono _ _ _ _)
   | (with_reducible exact LeO.refl _)
   | (with_reducible exact LeO.none _)
   | (with_reducible refine LeO.ite ?_ ?_)
   | (with_reducible refine LeO.bind ?_ (fun _ => ?_))
def rational_Compare.T7 : Bool × List (List Nat × List Nat) := (true, [([], []), ([0], [0]), ([], []), ([2], [2]), ([1, 3, 3], [1, 3]), ([], []), ([5], [5]), ([], []), ([7, 4], [7]), ([6, 8, 8], [6, 8]), ([4, 9, 9], [4, 9]), ([10, 10, 0, 1, 2, 3, 4, 5, 6, 7, 8, 9, 10], [10])])
def rational_Compare.B7 : List Nat := [0, 1, 0, 4, 15, 0, 32, 0, 159, 511, 1023, 2047]
theorem rational_Compare.tab7 : rtab .any (opsOf Tryd.f20 7) = rational_Compare.T7 := by kernel_rfl
theorem rational_Compare.bits7 : waitsOk rational_Compare.T7.2 rational_Compare.B7 = true := by kernel_rfl
set_option maxHeartbeats 8000000 in
set_option maxRecDepth 100000 in
theorem rational_Compare.calls (k : Nat) (a0_0 : Bool) (a0_1 : ByteArray) (a0_2 : ByteArray) (a1_0 : Bool) (a1_1 : ByteArray) (a1_2 : ByteArray) (r : Int) (w : World) (h : rational_Compare.f k a0_0 a0_1 a0_2 a1_0 a1_1 a1_2 = some r) :
  Calls Tryd.prog 20 #[.agg #[.bool a0_0, .string a0_1, .string a0_2], .agg #[.bool a1_0, .string a1_1, .string a1_2]] w fun e w' => e = .returned (.int .i64 r) ∧ Below w.heap.size w w' := by
 have hu26 := Tryd.underlying26
 have HB := A0_.mk (Below.refl w.heap.size w)
 have H := h
 unfold rational_Compare.f at H
 clear h
 replace H := Option.bind_eq_some_iff.mp H
 obtain ⟨⟨t401, t402, t403⟩, A30, H⟩ := H
 (try dsimp only at H)
 have A3 := A0_.mk A30
 clear A30
 replace H := Option.bind_eq_some_iff.mp H
 obtain ⟨⟨t404, t405, t406⟩, A40, H⟩ := H
 (try dsimp only at H)
 have A4 := A0_.mk A40
 clear A40
 replace H := Option.bind_eq_some_iff.mp H
 obtain ⟨t407, A50, H⟩ := H
 (try dsimp only at H)
 have A5 := A0_.mk A50
 clear A50
 replace H := Option.bind_eq_some_iff.mp H
 obtain ⟨t408, A60, H⟩ := H
 (try dsimp only at H)
 have A6 := A0_.mk A60
 clear A60
 by_cases c7 : t407 = t408
 ·rw [if_pos c7] at H
  have c7b0 : (t407 == t408) = true := beq_iff_eq.mpr c7
  have c7b1 : (t407 != t408) = false := bne_eq_false_iff_eq.mpr c7
  clear c7
  replace H := Option.bind_eq_some_iff.mp H
  obtain ⟨t409, A80, H⟩ := H
  (try dsimp only at H)
  have A8 := A0_.mk A80
  clear A80
  replace H := Option.bind_eq_some_iff.mp H
  obtain ⟨t410, A90, H⟩ := H
  (try dsimp only at H)
  have A9 := A0_.mk A90
  clear A90
  replace H := Option.bind_eq_some_iff.mp H
  obtain ⟨t411, A100, H⟩ := H
  (try dsimp only at H)
  have A10 := A0_.mk A100
  clear A100
  replace H := Option.bind_eq_some_iff.mp H
  obtain ⟨t412, A110, H⟩ := H
  (try dsimp only at H)
  have A11 := A0_.mk A110
  clear A110
  replace H := Option.bind_eq_some_iff.mp H
  obtain ⟨t413, A120, H⟩ := H
  (try dsimp only at H)
  have A12 := A0_.mk A120
  clear A120
  by_cases c13 : t401 = true
  ·subst c13
   have H1 : (none) = some r := by rw [if_pos rfl] at H; exact H
   clear H
   have H := H1
   clear H1
   exact absurd H (by simp)
  ·replace c13 := Bool.eq_false_iff.mpr c13
   subst c13
   have H1 : (some t413) = some r := by rw [if_neg (show ¬ (false = true) by decide)] at H; exact H
   clear H
   have H := H1
   clear H1
   obtain rfl := Option.some.inj H
   go_enter Tryd.func20, Tryd.ntmps20
   try go_wp2_with (first | ((with_reducible refine gD_ (N := 2) rfl ?_); refine bE_ ?hg (N := 2) ?hd (cs := #[.bool a0_0, .string a0_1, .string a0_2]) (t := 26) ?hr ?_; (case hd => rfl); (case hg => rfl); (case hr => first | (go_simp; done) | (go_simp; rfl)); intro gb399 hg w36 hbox hb; have n0_ := A0_.mk (bT_ (xB_ HB) hb); have n1_ := A0_.mk (hbox); have n2_ := A0_.mk ((by rw [hg]; exact (bZ_ (xB_ HB)) : w.heap.size ≤ gb399)); have n3_ := A0_.mk ((by rw [hg]; exact (bZ_ (xB_ HB)) : w.heap.size ≤ gb399)); clear HB; have HB := n0_; have BK399 := n1_; have GW399 := n2_; have GE399 := n3_; clear n0_ n1_ n2_ n3_; clear hb hbox hg) | ((with_reducible refine gD_ (N := 3) rfl ?_); refine bE_ ?hg (N := 3) ?hd (cs := #[.bool a1_0, .string a1_1, .string a1_2]) (t := 26) ?hr ?_; (case hd => rfl); (case hg => rfl); (case hr => first | (go_simp; done) | (go_simp; rfl)); intro gb400 hg w37 hbox hb; have n0_ := A0_.mk (kB_ (g := gb399) (o := .cells #[.bool a0_0, .string a0_1, .string a0_2] 26 (0, 0)) (xK_ BK399.out) hb); have n1_ := A0_.mk (bT_ (xB1_ HB GE399) hb); have n2_ := A0_.mk (hbox); have n3_ := A0_.mk ((by rw [hg]; exact (bZ_ (xB1_ HB GE399)) : w.heap.size ≤ gb400)); have n4_ := A0_.mk ((by rw [hg]; exact (bZ_ (xB1_ HB GE399)) : w.heap.size ≤ gb400)); have n5_ := A0_.mk ((by rw [hg]; exact Nat.ne_of_lt (blk_lt (g := gb399) (o := .cells #[.bool a0_0, .string a0_1, .string a0_2] 26 (0, 0)) (xK_ BK399.out)) : gb399 ≠ gb400)); have n6_ := A0_.mk ((by rw [hg]; exact Nat.ne_of_gt (blk_lt (g := gb399) (o := .cells #[.bool a0_0, .string a0_1, .string a0_2] 26 (0, 0)) (xK_ BK399.out)) : gb400 ≠ gb399)); clear BK399 HB; have BK399 := n0_; have HB := n1_; have BK400 := n2_; have GW400 := n3_; have GE400 := n4_; have NB399_400 := n5_; have NB400_399 := n6_; clear n0_ n1_ n2_ n3_ n4_ n5_ n6_; clear hb hbox hg))
   have n0_ := A0_.mk (kD_ BK399.out)
   have n1_ := A0_.mk (kD_ BK400.out)
   have n2_ := A0_.mk (b1_ HB.out)
   clear BK399
   clear BK400
   clear HB
   have BK399 := n0_
   have BK400 := n1_
   have HB := n2_
   clear n0_ n1_ n2_
   refine start_ (n := 6) (S := fun w' => w'.cell? ⟨gb399, 0, none⟩ = some (.bool a0_0) ∧ w'.cell? ⟨gb399, 1, none⟩ = some (.string a0_1) ∧ w'.cell? ⟨gb399, 2, none⟩ = some (.string a0_2) ∧ w'.cell? ⟨gb400, 0, none⟩ = some (.bool a1_0) ∧ w'.cell? ⟨gb400, 1, none⟩ = some (.string a1_1) ∧ w'.cell? ⟨gb400, 2, none⟩ = some (.string a1_2)) (ds := [4, 5]) #[false, false, false, false, false, false] (by kernel_rfl) rfl rfl ⟨(kc_ BK399.out 0).trans rfl, (kc_ BK399.out 1).trans rfl, (kc_ BK399.out 2).trans rfl, (kc_ BK400.out 0).trans rfl, (kc_ BK400.out 1).trans rfl, (kc_ BK400.out 2).trans rfl⟩ (fun hHeld => ?_)
   generalize w37.drew = w38 at BK399 BK400 HB hHeld ⊢
   refine take_ (i := 0) (N := some 8) (v := ?_) (a' := ?_) #[true, false, false, false, false, false] rfl rfl (by kernel_rfl) (fun _ _ _ h => h) (Or.inl ⟨by rfl, ?_⟩) hHeld ?_ ?_
   rotate_left
   ·rintro w' ⟨s0, s1, s2, s3, s4, s5⟩
    go_simp
    with_reducible rfl
   rotate_left
   ·simp only [Act.put, s1_, s2_, s3_, i64_w, i32_w]
    rfl
   refine take_ (i := 2) (N := some 10) (v := ?_) (a' := ?_) #[true, false, true, false, false, false] rfl rfl (by kernel_rfl) (fun _ _ _ h => h) (Or.inl ⟨by rfl, ?_⟩) hHeld ?_ ?_
   rotate_left
   ·rintro w' ⟨s0, s1, s2, s3, s4, s5⟩
    go_simp
    with_reducible rfl
   rotate_left
   ·simp only [Act.put, s1_, s2_, s3_, i64_w, i32_w]
    rfl
   refine one_ (i := 1) (N := some 9) #[true, true, true, false, false, false] rfl rfl (by kernel_rfl) (by decide) (fun K hK => ?_)
   refine goes_ Tryd.func43 (by kernel_rfl) rfl #[.agg #[.bool a0_0, .string a0_1, .string a0_2]] (by rfl) rfl rfl mp_ ?_
   with_reducible refine (rational_clean.calls k a0_0 a0_1 a0_2 false t402 t403 _ A3.out).mono ?_
   rintro e w39 ⟨rfl, hb⟩
   refine ⟨_, rfl, ?_⟩
   have n0_ := A0_.mk (kB_ (g := gb399) (o := .cells #[.bool a0_0, .string a0_1, .string a0_2] 26 (0, 0)) (xK_ BK399.out) hb)
   have n1_ := A0_.mk (kB_ (g := gb400) (o := .cells #[.bool a1_0, .string a1_1, .string a1_2] 26 (0, 0)) (xK_ BK400.out) hb)
   have n2_ := A0_.mk (bT_ (xB2_ HB GE399 GE400) hb)
   clear BK399
   clear BK400
   clear HB
   have BK399 := n0_
   have BK400 := n1_
   have HB := n2_
   clear n0_ n1_ n2_
   (try clear hb)
   (try clear hb2)
   (try clear hk)
   (try clear hi)
   refine hK.out _ _ ⟨(kc_ BK399.out 0).trans rfl, (kc_ BK399.out 1).trans rfl, (kc_ BK399.out 2).trans rfl, (kc_ BK400.out 0).trans rfl, (kc_ BK400.out 1).trans rfl, (kc_ BK400.out 2).trans rfl⟩ (fun hHeld => ?_)
   clear hK K
   refine norm_ (a' := ?_) ?_ ?_
   rotate_left
   ·show Act.put _ (some 9) _ = _
    simp only [Act.put, s1_, s2_, s3_, i64_w, i32_w]
    rfl
   refine one_ (i := 3) (N := some 11) #[true, true, true, true, false, false] rfl rfl (by kernel_rfl) (by decide) (fun K hK => ?_)
   refine goes_ Tryd.func43 (by kernel_rfl) rfl #[.agg #[.bool a1_0, .string a1_1, .string a1_2]] (by rfl) rfl rfl mp_ ?_
   with_reducible refine (rational_clean.calls k a1_0 a1_1 a1_2 t404 t405 t406 _ A4.out).mono ?_
   rintro e w40 ⟨rfl, hb⟩
   refine ⟨_, rfl, ?_⟩
   have n0_ := A0_.mk (kB_ (g := gb399) (o := .cells #[.bool a0_0, .string a0_1, .string a0_2] 26 (0, 0)) (xK_ BK399.out) hb)
   have n1_ := A0_.mk (kB_ (g := gb400) (o := .cells #[.bool a1_0, .string a1_1, .string a1_2] 26 (0, 0)) (xK_ BK400.out) hb)
   have n2_ := A0_.mk (bT_ (xB2_ HB GE399 GE400) hb)
   clear BK399
   clear BK400
   clear HB
   have BK399 := n0_
   have BK400 := n1_
   have HB := n2_
   clear n0_ n1_ n2_
   (try clear hb)
   (try clear hb2)
   (try clear hk)
   (try clear hi)
   refine hK.out _ _ ⟨(kc_ BK399.out 0).trans rfl, (kc_ BK399.out 1).trans rfl, (kc_ BK399.out 2).trans rfl, (kc_ BK400.out 0).trans rfl, (kc_ BK400.out 1).trans rfl, (kc_ BK400.out 2).trans rfl⟩ (fun hHeld => ?_)
   clear hK K
   refine norm_ (a' := ?_) ?_ ?_
   rotate_left
   ·show Act.put _ (some 11) _ = _
    simp only [Act.put, s1_, s2_, s3_, i64_w, i32_w]
    rfl
   refine last_ (i := 4) (N := none) #[true, true, true, true, true, false] rfl rfl (by kernel_rfl) (by decide) (fun K hK => ?_)
   have hs41 : w40.cell? ⟨gb399, 0, none⟩ = some (.bool a0_0) := (kc_ BK399.out 0).trans rfl
   have hfs41 := kF_ BK399.out 0
   have hns41_1 := NB400_399.out
   have hms41_1 := NB399_400.out
   have hs42 : w40.cell? ⟨gb399, 1, none⟩ = some (.string a0_1) := (kc_ BK399.out 1).trans rfl
   have hfs42 := kF_ BK399.out 1
   have hns42_1 := NB400_399.out
   have hms42_1 := NB399_400.out
   have hs43 : w40.cell? ⟨gb399, 2, none⟩ = some (.string a0_2) := (kc_ BK399.out 2).trans rfl
   have hfs43 := kF_ BK399.out 2
   have hns43_1 := NB400_399.out
   have hms43_1 := NB399_400.out
   refine skip_ (w1 := ?_) (by rfl) rfl ?_ ?_
   rotate_left
   ·go_simp
    rfl
   refine hK.out _ _ ?_
   clear hK K
   refine last_ (i := 5) (N := none) #[true, true, true, true, true, true] rfl rfl (by kernel_rfl) (by decide) (fun K hK => ?_)
   have hs44 : w40.cell? ⟨gb400, 0, none⟩ = some (.bool a1_0) := (kc_ BK400.out 0).trans rfl
   have hfs44 := kF_ BK400.out 0
   have hns44_0 := NB399_400.out
   have hms44_0 := NB400_399.out
   have hs45 : w40.cell? ⟨gb400, 1, none⟩ = some (.string a1_1) := (kc_ BK400.out 1).trans rfl
   have hfs45 := kF_ BK400.out 1
   have hns45_0 := NB399_400.out
   have hms45_0 := NB400_399.out
   have hs46 : w40.cell? ⟨gb400, 2, none⟩ = some (.string a1_2) := (kc_ BK400.out 2).trans rfl
   have hfs46 := kF_ BK400.out 2
   have hns46_0 := NB399_400.out
   have hms46_0 := NB400_399.out
   refine skip_ (w1 := ?_) (by rfl) rfl ?_ ?_
   rotate_left
   ·go_simp
    rfl
   refine hK.out _ _ ?_
   clear hK K
   refine done_ (by kernel_rfl) ?_
   try go_wp2
   have n0_ : A0_ (((((((w40.setCell ⟨gb399, 0, none⟩ (.bool false)).setCell ⟨gb399, 1, none⟩ (.string t402)).setCell ⟨gb399, 2, none⟩ (.string t403)).setCell ⟨gb400, 0, none⟩ (.bool t404)).setCell ⟨gb400, 1, none⟩ (.string t405)).setCell ⟨gb400, 2, none⟩ (.string t406)).heap[gb399]? = some (.cells #[.bool false, .string t402, .string t403] 26 (0, 0))) := ⟨by (with_reducible repeat (first | refine kN_ ?_ _ | refine kD_ ?_ | refine kA_ ?_ _)); refine blk_far ?_ NB399_400.out _; (with_reducible repeat (first | refine kN_ ?_ _ | refine kD_ ?_ | refine kA_ ?_ _)); refine blk_far ?_ NB399_400.out _; (with_reducible repeat (first | refine kN_ ?_ _ | refine kD_ ?_ | refine kA_ ?_ _)); refine blk_far ?_ NB399_400.out _; (with_reducible repeat (first | refine kN_ ?_ _ | refine kD_ ?_ | refine kA_ ?_ _)); refine kP_ (cs := #[.bool false, .string t402, .string a0_2]) ?_ 2 _ rfl; (with_reducible repeat (first | refine kN_ ?_ _ | refine kD_ ?_ | refine kA_ ?_ _)); refine kP_ (cs := #[.bool false, .string a0_1, .string a0_2]) ?_ 1 _ rfl; (with_reducible repeat (first | refine kN_ ?_ _ | refine kD_ ?_ | refine kA_ ?_ _)); refine kP_ (cs := #[.bool a0_0, .string a0_1, .string a0_2]) ?_ 0 _ rfl; (with_reducible repeat (first | refine kN_ ?_ _ | refine kD_ ?_ | refine kA_ ?_ _)); exact BK399.out⟩
   have n1_ : A0_ (((((((w40.setCell ⟨gb399, 0, none⟩ (.bool false)).setCell ⟨gb399, 1, none⟩ (.string t402)).setCell ⟨gb399, 2, none⟩ (.string t403)).setCell ⟨gb400, 0, none⟩ (.bool t404)).setCell ⟨gb400, 1, none⟩ (.string t405)).setCell ⟨gb400, 2, none⟩ (.string t406)).heap[gb400]? = some (.cells #[.bool t404, .string t405, .string t406] 26 (0, 0))) := ⟨by (with_reducible repeat (first | refine kN_ ?_ _ | refine kD_ ?_ | refine kA_ ?_ _)); refine kP_ (cs := #[.bool t404, .string t405, .string a1_2]) ?_ 2 _ rfl; (with_reducible repeat (first | refine kN_ ?_ _ | refine kD_ ?_ | refine kA_ ?_ _)); refine kP_ (cs := #[.bool t404, .string a1_1, .string a1_2]) ?_ 1 _ rfl; (with_reducible repeat (first | refine kN_ ?_ _ | refine kD_ ?_ | refine kA_ ?_ _)); refine kP_ (cs := #[.bool a1_0, .string a1_1, .string a1_2]) ?_ 0 _ rfl; (with_reducible repeat (first | refine kN_ ?_ _ | refine kD_ ?_ | refine kA_ ?_ _)); refine blk_far ?_ NB400_399.out _; (with_reducible repeat (first | refine kN_ ?_ _ | refine kD_ ?_ | refine kA_ ?_ _)); refine blk_far ?_ NB400_399.out _; (with_reducible repeat (first | refine kN_ ?_ _ | refine kD_ ?_ | refine kA_ ?_ _)); refine blk_far ?_ NB400_399.out _; (with_reducible repeat (first | refine kN_ ?_ _ | refine kD_ ?_ | refine kA_ ?_ _)); exact BK400.out⟩
   have n2_ : A0_ (Below w.heap.size w ((((((w40.setCell ⟨gb399, 0, none⟩ (.bool false)).setCell ⟨gb399, 1, none⟩ (.string t402)).setCell ⟨gb399, 2, none⟩ (.string t403)).setCell ⟨gb400, 0, none⟩ (.bool t404)).setCell ⟨gb400, 1, none⟩ (.string t405)).setCell ⟨gb400, 2, none⟩ (.string t406))) := ⟨xB2_ HB GE399 GE400⟩
   (try clear BK399)
   (try clear BK400)
   (try clear HB)
   generalize ((((((w40.setCell ⟨gb399, 0, none⟩ (.bool false)).setCell ⟨gb399, 1, none⟩ (.string t402)).setCell ⟨gb399, 2, none⟩ (.string t403)).setCell ⟨gb400, 0, none⟩ (.bool t404)).setCell ⟨gb400, 1, none⟩ (.string t405)).setCell ⟨gb400, 2, none⟩ (.string t406)) = w47 at n0_ n1_ n2_ ⊢
   have BK399 := n0_
   have BK400 := n1_
   have HB := n2_
   clear n0_ n1_ n2_
   have n0_ := A0_.mk (kD_ BK399.out)
   have n1_ := A0_.mk (kD_ BK400.out)
   have n2_ := A0_.mk (b1_ HB.out)
   clear BK399
   clear BK400
   clear HB
   have BK399 := n0_
   have BK400 := n1_
   have HB := n2_
   clear n0_ n1_ n2_
   refine start_ (n := 6) (S := fun w' => w'.cell? ⟨gb399, 0, none⟩ = some (.bool false) ∧ w'.cell? ⟨gb399, 1, none⟩ = some (.string t402) ∧ w'.cell? ⟨gb399, 2, none⟩ = some (.string t403) ∧ w'.cell? ⟨gb400, 0, none⟩ = some (.bool t404) ∧ w'.cell? ⟨gb400, 1, none⟩ = some (.string t405) ∧ w'.cell? ⟨gb400, 2, none⟩ = some (.string t406)) (ds := []) #[false, false, false, false, false, false] (by kernel_rfl) rfl rfl ⟨(kc_ BK399.out 0).trans rfl, (kc_ BK399.out 1).trans rfl, (kc_ BK399.out 2).trans rfl, (kc_ BK400.out 0).trans rfl, (kc_ BK400.out 1).trans rfl, (kc_ BK400.out 2).trans rfl⟩ (fun hHeld => ?_)
   generalize w47.drew = w48 at BK399 BK400 HB hHeld ⊢
   refine take_ (i := 0) (N := some 12) (v := ?_) (a' := ?_) #[true, false, false, false, false, false] rfl rfl (by kernel_rfl) (fun _ _ _ h => h) (Or.inl ⟨by rfl, ?_⟩) hHeld ?_ ?_
   rotate_left
   ·rintro w' ⟨s0, s1, s2, s3, s4, s5⟩
    go_simp
    with_reducible rfl
   rotate_left
   ·simp only [Act.put, s1_, s2_, s3_, i64_w, i32_w]
    rfl
   refine take_ (i := 2) (N := some 14) (v := ?_) (a' := ?_) #[true, false, true, false, false, false] rfl rfl (by kernel_rfl) (fun _ _ _ h => h) (Or.inl ⟨by rfl, ?_⟩) hHeld ?_ ?_
   rotate_left
   ·rintro w' ⟨s0, s1, s2, s3, s4, s5⟩
    go_simp
    with_reducible rfl
   rotate_left
   ·simp only [Act.put, s1_, s2_, s3_, i64_w, i32_w]
    rfl
   refine one_ (i := 1) (N := some 13) #[true, true, true, false, false, false] rfl rfl (by kernel_rfl) (by decide) (fun K hK => ?_)
   refine goes_ Tryd.func42 (by kernel_rfl) rfl #[.agg #[.bool false, .string t402, .string t403]] (by rfl) rfl rfl mp_ ?_
   with_reducible refine (rational_signOf.calls false t402 t403 t407 _ A5.out).mono ?_
   rintro e w49 ⟨rfl, hb⟩
   refine ⟨_, rfl, ?_⟩
   have n0_ := A0_.mk (kB_ (g := gb399) (o := .cells #[.bool false, .string t402, .string t403] 26 (0, 0)) (xK_ BK399.out) hb)
   have n1_ := A0_.mk (kB_ (g := gb400) (o := .cells #[.bool t404, .string t405, .string t406] 26 (0, 0)) (xK_ BK400.out) hb)
   have n2_ := A0_.mk (bT_ (xB2_ HB GE399 GE400) hb)
   clear BK399
   clear BK400
   clear HB
   have BK399 := n0_
   have BK400 := n1_
   have HB := n2_
   clear n0_ n1_ n2_
   (try clear hb)
   (try clear hb2)
   (try clear hk)
   (try clear hi)
   refine hK.out _ _ ⟨(kc_ BK399.out 0).trans rfl, (kc_ BK399.out 1).trans rfl, (kc_ BK399.out 2).trans rfl, (kc_ BK400.out 0).trans rfl, (kc_ BK400.out 1).trans rfl, (kc_ BK400.out 2).trans rfl⟩ (fun hHeld => ?_)
   clear hK K
   refine norm_ (a' := ?_) ?_ ?_
   rotate_left
   ·show Act.put _ (some 13) _ = _
    simp only [Act.put, s1_, s2_, s3_, i64_w, i32_w]
    rfl
   refine one_ (i := 3) (N := some 15) #[true, true, true, true, false, false] rfl rfl (by kernel_rfl) (by decide) (fun K hK => ?_)
   refine goes_ Tryd.func42 (by kernel_rfl) rfl #[.agg #[.bool t404, .string t405, .string t406]] (by rfl) rfl rfl mp_ ?_
   with_reducible refine (rational_signOf.calls t404 t405 t406 t408 _ A6.out).mono ?_
   rintro e w50 ⟨rfl, hb⟩
   refine ⟨_, rfl, ?_⟩
   have n0_ := A0_.mk (kB_ (g := gb399) (o := .cells #[.bool false, .string t402, .string t403] 26 (0, 0)) (xK_ BK399.out) hb)
   have n1_ := A0_.mk (kB_ (g := gb400) (o := .cells #[.bool t404, .string t405, .string t406] 26 (0, 0)) (xK_ BK400.out) hb)
   have n2_ := A0_.mk (bT_ (xB2_ HB GE399 GE400) hb)
   clear BK399
   clear BK400
   clear HB
   have BK399 := n0_
   have BK400 := n1_
   have HB := n2_
   clear n0_ n1_ n2_
   (try clear hb)
   (try clear hb2)
   (try clear hk)
   (try clear hi)
   refine hK.out _ _ ⟨(kc_ BK399.out 0).trans rfl, (kc_ BK399.out 1).trans rfl, (kc_ BK399.out 2).trans rfl, (kc_ BK400.out 0).trans rfl, (kc_ BK400.out 1).trans rfl, (kc_ BK400.out 2).trans rfl⟩ (fun hHeld => ?_)
   clear hK K
   refine norm_ (a' := ?_) ?_ ?_
   rotate_left
   ·show Act.put _ (some 15) _ = _
    simp only [Act.put, s1_, s2_, s3_, i64_w, i32_w]
    rfl
   refine pure_ (i := 4) (N := some 5) (v := ?_) (a' := ?_) #[true, true, true, true, true, false] rfl rfl (by kernel_rfl) (fun _ _ _ h => h) (Or.inl ⟨by rfl, ?_⟩) ?_ ?_
   rotate_left
   ·intro w'
    go_simp
    with_reducible rfl
   rotate_left
   ·simp only [Act.put, s1_, s2_, s3_, i64_w, i32_w]
    rfl
   refine pure_ (i := 5) (N := some 6) (v := ?_) (a' := ?_) #[true, true, true, true, true, true] rfl rfl (by kernel_rfl) (fun _ _ _ h => h) (Or.inl ⟨by rfl, ?_⟩) ?_ ?_
   rotate_left
   ·intro w'
    go_simp
    with_reducible rfl
   rotate_left
   ·simp only [Act.put, s1_, s2_, s3_, i64_w, i32_w]
    rfl
   refine done_ (by kernel_rfl) ?_
   try go_wp2
   have n0_ := A0_.mk (kD_ BK399.out)
   have n1_ := A0_.mk (kD_ BK400.out)
   have n2_ := A0_.mk (b1_ HB.out)
   clear BK399
   clear BK400
   clear HB
   have BK399 := n0_
   have BK400 := n1_
   have HB := n2_
   clear n0_ n1_ n2_
   refine start_ (n := 12) (S := fun w' => w'.cell? ⟨gb399, 0, none⟩ = some (.bool false) ∧ w'.cell? ⟨gb399, 1, none⟩ = some (.string t402) ∧ w'.cell? ⟨gb399, 2, none⟩ = some (.string t403) ∧ w'.cell? ⟨gb400, 0, none⟩ = some (.bool t404) ∧ w'.cell? ⟨gb400, 1, none⟩ = some (.string t405) ∧ w'.cell? ⟨gb400, 2, none⟩ = some (.string t406)) (ds := []) #[false, false, false, false, false, false, false, false, false, false, false, false] (by kernel_rfl) rfl rfl ⟨(kc_ BK399.out 0).trans rfl, (kc_ BK399.out 1).trans rfl, (kc_ BK399.out 2).trans rfl, (kc_ BK400.out 0).trans rfl, (kc_ BK400.out 1).trans rfl, (kc_ BK400.out 2).trans rfl⟩ (fun hHeld => ?_); refine with_tabW rational_Compare.tab7 rational_Compare.bits7 (fun HT_ HW_ => ?_)
   generalize w50.drew = w51 at BK399 BK400 HB hHeld ⊢
   refine pure_ (i := 0) (N := some 22) (v := ?_) (a' := ?_) #[true, false, false, false, false, false, false, false, false, false, false, false] rfl rfl (any_of HT_.out (by kernel_rfl)) (fun _ _ _ h => h) (Or.inl ⟨by rfl, ?_⟩) ?_ ?_
   rotate_left
   ·intro w'
    go_simp
    with_reducible rfl
   rotate_left
   ·simp only [Act.put, s1_, s2_, s3_, i64_w, i32_w]
    rfl
   refine pure_ (i := 5) (N := some 27) (v := ?_) (a' := ?_) #[true, false, false, false, false, true, false, false, false, false, false, false] rfl rfl (any_of HT_.out (by kernel_rfl)) (fun _ _ _ h => h) (Or.inl ⟨by rfl, ?_⟩) ?_ ?_
   rotate_left
   ·intro w'
    go_simp
    with_reducible rfl
   rotate_left
   ·simp only [Act.put, s1_, s2_, s3_, i64_w, i32_w]
    rfl
   refine take_ (i := 1) (N := some 23) (v := ?_) (a' := ?_) #[true, true, false, false, false, true, false, false, false, false, false, false] rfl rfl (take_ofW HT_.out HW_.out (by kernel_rfl)) (fun _ _ _ h => h) (Or.inl ⟨by rfl, ?_⟩) hHeld ?_ ?_
   rotate_left
   ·rintro w' ⟨s0, s1, s2, s3, s4, s5⟩
    go_simp
    with_reducible rfl
   rotate_left
   ·simp only [Act.put, s1_, s2_, s3_, i64_w, i32_w]
    rfl
   refine take_ (i := 2) (N := some 24) (v := ?_) (a' := ?_) #[true, true, true, false, false, true, false, false, false, false, false, false] rfl rfl (take_ofW HT_.out HW_.out (by kernel_rfl)) (fun _ _ _ h => h) (Or.inl ⟨by rfl, ?_⟩) hHeld ?_ ?_
   rotate_left
   ·rintro w' ⟨s0, s1, s2, s3, s4, s5⟩
    go_simp
    with_reducible rfl
   rotate_left
   ·simp only [Act.put, s1_, s2_, s3_, i64_w, i32_w]
    rfl
   refine take_ (i := 6) (N := some 28) (v := ?_) (a' := ?_) #[true, true, true, false, false, true, true, false, false, false, false, false] rfl rfl (take_ofW HT_.out HW_.out (by kernel_rfl)) (fun _ _ _ h => h) (Or.inl ⟨by rfl, ?_⟩) hHeld ?_ ?_
   rotate_left
   ·rintro w' ⟨s0, s1, s2, s3, s4, s5⟩
    go_simp
    with_reducible rfl
   rotate_left
   ·simp only [Act.put, s1_, s2_, s3_, i64_w, i32_w]
    rfl
   refine take_ (i := 7) (N := some 29) (v := ?_) (a' := ?_) #[true, true, true, false, false, true, true, true, false, false, false, false] rfl rfl (take_ofW HT_.out HW_.out (by kernel_rfl)) (fun _ _ _ h => h) (Or.inl ⟨by rfl, ?_⟩) hHeld ?_ ?_
   rotate_left
   ·rintro w' ⟨s0, s1, s2, s3, s4, s5⟩
    go_simp
    with_reducible rfl
   rotate_left
   ·simp only [Act.put, s1_, s2_, s3_, i64_w, i32_w]
    rfl
   refine one_ (i := 3) (N := some 25) #[true, true, true, true, false, true, true, true, false, false, false, false] rfl rfl (one_of HT_.out (by kernel_rfl)) (by decide) (fun K hK => ?_)
   refine goes_ Tryd.func46 (by kernel_rfl) rfl #[.agg #[.bool t404, .string t405, .string t406]] (by rfl) rfl rfl mp_ ?_
   with_reducible refine (rational_den.calls t404 t405 t406 t409 _ A8.out).mono ?_
   rintro e w52 ⟨rfl, hb⟩
   refine ⟨_, rfl, ?_⟩
   have n0_ := A0_.mk (kB_ (g := gb399) (o := .cells #[.bool false, .string t402, .string t403] 26 (0, 0)) (xK_ BK399.out) hb)
   have n1_ := A0_.mk (kB_ (g := gb400) (o := .cells #[.bool t404, .string t405, .string t406] 26 (0, 0)) (xK_ BK400.out) hb)
   have n2_ := A0_.mk (bT_ (xB2_ HB GE399 GE400) hb)
   clear BK399
   clear BK400
   clear HB
   have BK399 := n0_
   have BK400 := n1_
   have HB := n2_
   clear n0_ n1_ n2_
   (try clear hb)
   (try clear hb2)
   (try clear hk)
   (try clear hi)
   refine hK.out _ _ ⟨(kc_ BK399.out 0).trans rfl, (kc_ BK399.out 1).trans rfl, (kc_ BK399.out 2).trans rfl, (kc_ BK400.out 0).trans rfl, (kc_ BK400.out 1).trans rfl, (kc_ BK400.out 2).trans rfl⟩ (fun hHeld => ?_)
   clear hK K
   refine norm_ (a' := ?_) ?_ ?_
   rotate_left
   ·show Act.put _ (some 25) _ = _
    simp only [Act.put, s1_, s2_, s3_, i64_w, i32_w]
    rfl
   refine one_ (i := 4) (N := some 26) #[true, true, true, true, true, true, true, true, false, false, false, false] rfl rfl (one_of HT_.out (by kernel_rfl)) (by decide) (fun K hK => ?_)
   refine goes_ Tryd.func45 (by kernel_rfl) rfl #[.string t402, .string t409] (by rfl) rfl rfl mp_ ?_
   with_reducible refine (natural_Multiply.calls k t402 t409 t410 _ A9.out).mono ?_
   rintro e w53 ⟨rfl, hb⟩
   refine ⟨_, rfl, ?_⟩
   have n0_ := A0_.mk (kB_ (g := gb399) (o := .cells #[.bool false, .string t402, .string t403] 26 (0, 0)) (xK_ BK399.out) hb)
   have n1_ := A0_.mk (kB_ (g := gb400) (o := .cells #[.bool t404, .string t405, .string t406] 26 (0, 0)) (xK_ BK400.out) hb)
   have n2_ := A0_.mk (bT_ (xB2_ HB GE399 GE400) hb)
   clear BK399
   clear BK400
   clear HB
   have BK399 := n0_
   have BK400 := n1_
   have HB := n2_
   clear n0_ n1_ n2_
   (try clear hb)
   (try clear hb2)
   (try clear hk)
   (try clear hi)
   refine hK.out _ _ ⟨(kc_ BK399.out 0).trans rfl, (kc_ BK399.out 1).trans rfl, (kc_ BK399.out 2).trans rfl, (kc_ BK400.out 0).trans rfl, (kc_ BK400.out 1).trans rfl, (kc_ BK400.out 2).trans rfl⟩ (fun hHeld => ?_)
   clear hK K
   refine norm_ (a' := ?_) ?_ ?_
   rotate_left
   ·show Act.put _ (some 26) _ = _
    simp only [Act.put, s1_, s2_, s3_, i64_w, i32_w]
    rfl
   refine one_ (i := 8) (N := some 30) #[true, true, true, true, true, true, true, true, true, false, false, false] rfl rfl (one_of HT_.out (by kernel_rfl)) (by decide) (fun K hK => ?_)
   refine goes_ Tryd.func46 (by kernel_rfl) rfl #[.agg #[.bool false, .string t402, .string t403]] (by rfl) rfl rfl mp_ ?_
   with_reducible refine (rational_den.calls false t402 t403 t411 _ A10.out).mono ?_
   rintro e w54 ⟨rfl, hb⟩
   refine ⟨_, rfl, ?_⟩
   have n0_ := A0_.mk (kB_ (g := gb399) (o := .cells #[.bool false, .string t402, .string t403] 26 (0, 0)) (xK_ BK399.out) hb)
   have n1_ := A0_.mk (kB_ (g := gb400) (o := .cells #[.bool t404, .string t405, .string t406] 26 (0, 0)) (xK_ BK400.out) hb)
   have n2_ := A0_.mk (bT_ (xB2_ HB GE399 GE400) hb)
   clear BK399
   clear BK400
   clear HB
   have BK399 := n0_
   have BK400 := n1_
   have HB := n2_
   clear n0_ n1_ n2_
   (try clear hb)
   (try clear hb2)
   (try clear hk)
   (try clear hi)
   refine hK.out _ _ ⟨(kc_ BK399.out 0).trans rfl, (kc_ BK399.out 1).trans rfl, (kc_ BK399.out 2).trans rfl, (kc_ BK400.out 0).trans rfl, (kc_ BK400.out 1).trans rfl, (kc_ BK400.out 2).trans rfl⟩ (fun hHeld => ?_)
   clear hK K
   refine norm_ (a' := ?_) ?_ ?_
   rotate_left
   ·show Act.put _ (some 30) _ = _
    simp only [Act.put, s1_, s2_, s3_, i64_w, i32_w]
    rfl
   refine one_ (i := 9) (N := some 31) #[true, true, true, true, true, true, true, true, true, true, false, false] rfl rfl (one_of HT_.out (by kernel_rfl)) (by decide) (fun K hK => ?_)
   refine goes_ Tryd.func45 (by kernel_rfl) rfl #[.string t405, .string t411] (by rfl) rfl rfl mp_ ?_
   with_reducible refine (natural_Multiply.calls k t405 t411 t412 _ A11.out).mono ?_
   rintro e w55 ⟨rfl, hb⟩
   refine ⟨_, rfl, ?_⟩
   have n0_ := A0_.mk (kB_ (g := gb399) (o := .cells #[.bool false, .string t402, .string t403] 26 (0, 0)) (xK_ BK399.out) hb)
   have n1_ := A0_.mk (kB_ (g := gb400) (o := .cells #[.bool t404, .string t405, .string t406] 26 (0, 0)) (xK_ BK400.out) hb)
   have n2_ := A0_.mk (bT_ (xB2_ HB GE399 GE400) hb)
   clear BK399
   clear BK400
   clear HB
   have BK399 := n0_
   have BK400 := n1_
   have HB := n2_
   clear n0_ n1_ n2_
   (try clear hb)
   (try clear hb2)
   (try clear hk)
   (try clear hi)
   refine hK.out _ _ ⟨(kc_ BK399.out 0).trans rfl, (kc_ BK399.out 1).trans rfl, (kc_ BK399.out 2).trans rfl, (kc_ BK400.out 0).trans rfl, (kc_ BK400.out 1).trans rfl, (kc_ BK400.out 2).trans rfl⟩ (fun hHeld => ?_)
   clear hK K
   refine norm_ (a' := ?_) ?_ ?_
   rotate_left
   ·show Act.put _ (some 31) _ = _
    simp only [Act.put, s1_, s2_, s3_, i64_w, i32_w]
    rfl
   refine one_ (i := 10) (N := some 32) #[true, true, true, true, true, true, true, true, true, true, true, false] rfl rfl (one_of HT_.out (by kernel_rfl)) (by decide) (fun K hK => ?_)
   refine goes_ Tryd.func44 (by kernel_rfl) rfl #[.string t410, .string t412] (by rfl) rfl rfl mp_ ?_
   with_reducible refine (natural_Compare.calls k t410 t412 t413 _ A12.out).mono ?_
   rintro e w' ⟨rfl, ⟨nd, rfl⟩⟩
   refine ⟨_, rfl, ?_⟩
   refine hK.out _ _ ⟨(kc_ BK399.out 0).trans rfl, (kc_ BK399.out 1).trans rfl, (kc_ BK399.out 2).trans rfl, (kc_ BK400.out 0).trans rfl, (kc_ BK400.out 1).trans rfl, (kc_ BK400.out 2).trans rfl⟩ (fun hHeld => ?_)
   clear hK K
   refine norm_ (a' := ?_) ?_ ?_
   rotate_left
   ·show Act.put _ (some 32) _ = _
    simp only [Act.put, s1_, s2_, s3_, i64_w, i32_w]
    rfl
   refine pure_ (i := 11) (N := some 7) (v := ?_) (a' := ?_) #[true, true, true, true, true, true, true, true, true, true, true, true] rfl rfl (any_of HT_.out (by kernel_rfl)) (fun _ _ _ h => h) (Or.inl ⟨by rfl, ?_⟩) ?_ ?_
   rotate_left
   ·intro w'
    go_simp
    with_reducible rfl
   rotate_left
   ·simp only [Act.put, s1_, s2_, s3_, i64_w, i32_w]
    rfl
   refine done_ (done_of HT_.out (by kernel_rfl)) ?_
   have hnb56 := NB399_400.out
   have hnc56 := NB400_399.out
   have hcz57_0 : w55.cell? ⟨gb399, 0, none⟩ = some (.bool false) := (kc_ BK399.out 0).trans rfl
   have hcz57_1 : w55.cell? ⟨gb399, 1, none⟩ = some (.string t402) := (kc_ BK399.out 1).trans rfl
   have hcz57_2 : w55.cell? ⟨gb399, 2, none⟩ = some (.string t403) := (kc_ BK399.out 2).trans rfl
   have hfz57_0 := kF_ BK399.out 0
   have hfz57_1 := kF_ BK399.out 1
   have hfz57_2 := kF_ BK399.out 2
   try go_wp2
   go_ret
   exact ⟨rE_, xB2_ HB GE399 GE400⟩
 ·rw [if_neg c7] at H
  have c7b0 : (t407 == t408) = false := beq_eq_false_iff_ne.mpr c7
  have c7b1 : (t407 != t408) = true := bne_iff_ne.mpr c7
  by_cases c58 : t407 < t408
  ·rw [if_pos c58] at H
   have c58b0 : decide (t407 < t408) = true := decide_eq_true c58
   clear c58
   obtain rfl := Option.some.inj H
   go_enter Tryd.func20, Tryd.ntmps20
   try go_wp2_with (first | ((with_reducible refine gD_ (N := 2) rfl ?_); refine bE_ ?hg (N := 2) ?hd (cs := #[.bool a0_0, .string a0_1, .string a0_2]) (t := 26) ?hr ?_; (case hd => rfl); (case hg => rfl); (case hr => first | (go_simp; done) | (go_simp; rfl)); intro gb399 hg w59 hbox hb; have n0_ := A0_.mk (bT_ (xB_ HB) hb); have n1_ := A0_.mk (hbox); have n2_ := A0_.mk ((by rw [hg]; exact (bZ_ (xB_ HB)) : w.heap.size ≤ gb399)); have n3_ := A0_.mk ((by rw [hg]; exact (bZ_ (xB_ HB)) : w.heap.size ≤ gb399)); clear HB; have HB := n0_; have BK399 := n1_; have GW399 := n2_; have GE399 := n3_; clear n0_ n1_ n2_ n3_; clear hb hbox hg) | ((with_reducible refine gD_ (N := 3) rfl ?_); refine bE_ ?hg (N := 3) ?hd (cs := #[.bool a1_0, .string a1_1, .string a1_2]) (t := 26) ?hr ?_; (case hd => rfl); (case hg => rfl); (case hr => first | (go_simp; done) | (go_simp; rfl)); intro gb400 hg w60 hbox hb; have n0_ := A0_.mk (kB_ (g := gb399) (o := .cells #[.bool a0_0, .string a0_1, .string a0_2] 26 (0, 0)) (xK_ BK399.out) hb); have n1_ := A0_.mk (bT_ (xB1_ HB GE399) hb); have n2_ := A0_.mk (hbox); have n3_ := A0_.mk ((by rw [hg]; exact (bZ_ (xB1_ HB GE399)) : w.heap.size ≤ gb400)); have n4_ := A0_.mk ((by rw [hg]; exact (bZ_ (xB1_ HB GE399)) : w.heap.size ≤ gb400)); have n5_ := A0_.mk ((by rw [hg]; exact Nat.ne_of_lt (blk_lt (g := gb399) (o := .cells #[.bool a0_0, .string a0_1, .string a0_2] 26 (0, 0)) (xK_ BK399.out)) : gb399 ≠ gb400)); have n6_ := A0_.mk ((by rw [hg]; exact Nat.ne_of_gt (blk_lt (g := gb399) (o := .cells #[.bool a0_0, .string a0_1, .string a0_2] 26 (0, 0)) (xK_ BK399.out)) : gb400 ≠ gb399)); clear BK399 HB; have BK399 := n0_; have HB := n1_; have BK400 := n2_; have GW400 := n3_; have GE400 := n4_; have NB399_400 := n5_; have NB400_399 := n6_; clear n0_ n1_ n2_ n3_ n4_ n5_ n6_; clear hb hbox hg))
   have n0_ := A0_.mk (kD_ BK399.out)
   have n1_ := A0_.mk (kD_ BK400.out)
   have n2_ := A0_.mk (b1_ HB.out)
   clear BK399
   clear BK400
   clear HB
   have BK399 := n0_
   have BK400 := n1_
   have HB := n2_
   clear n0_ n1_ n2_
   refine start_ (n := 6) (S := fun w' => w'.cell? ⟨gb399, 0, none⟩ = some (.bool a0_0) ∧ w'.cell? ⟨gb399, 1, none⟩ = some (.string a0_1) ∧ w'.cell? ⟨gb399, 2, none⟩ = some (.string a0_2) ∧ w'.cell? ⟨gb400, 0, none⟩ = some (.bool a1_0) ∧ w'.cell? ⟨gb400, 1, none⟩ = some (.string a1_1) ∧ w'.cell? ⟨gb400, 2, none⟩ = some (.string a1_2)) (ds := [4, 5]) #[false, false, false, false, false, false] (by kernel_rfl) rfl rfl ⟨(kc_ BK399.out 0).trans rfl, (kc_ BK399.out 1).trans rfl, (kc_ BK399.out 2).trans rfl, (kc_ BK400.out 0).trans rfl, (kc_ BK400.out 1).trans rfl, (kc_ BK400.out 2).trans rfl⟩ (fun hHeld => ?_)
   generalize w60.drew = w61 at BK399 BK400 HB hHeld ⊢
   refine take_ (i := 0) (N := some 8) (v := ?_) (a' := ?_) #[true, false, false, false, false, false] rfl rfl (by kernel_rfl) (fun _ _ _ h => h) (Or.inl ⟨by rfl, ?_⟩) hHeld ?_ ?_
   rotate_left
   ·rintro w' ⟨s0, s1, s2, s3, s4, s5⟩
    go_simp
    with_reducible rfl
   rotate_left
   ·simp only [Act.put, s1_, s2_, s3_, i64_w, i32_w]
    rfl
   refine take_ (i := 2) (N := some 10) (v := ?_) (a' := ?_) #[true, false, true, false, false, false] rfl rfl (by kernel_rfl) (fun _ _ _ h => h) (Or.inl ⟨by rfl, ?_⟩) hHeld ?_ ?_
   rotate_left
   ·rintro w' ⟨s0, s1, s2, s3, s4, s5⟩
    go_simp
    with_reducible rfl
   rotate_left
   ·simp only [Act.put, s1_, s2_, s3_, i64_w, i32_w]
    rfl
   refine one_ (i := 1) (N := some 9) #[true, true, true, false, false, false] rfl rfl (by kernel_rfl) (by decide) (fun K hK => ?_)
   refine goes_ Tryd.func43 (by kernel_rfl) rfl #[.agg #[.bool a0_0, .string a0_1, .string a0_2]] (by rfl) rfl rfl mp_ ?_
   with_reducible refine (rational_clean.calls k a0_0 a0_1 a0_2 t401 t402 t403 _ A3.out).mono ?_
   rintro e w62 ⟨rfl, hb⟩
   refine ⟨_, rfl, ?_⟩
   have n0_ := A0_.mk (kB_ (g := gb399) (o := .cells #[.bool a0_0, .string a0_1, .string a0_2] 26 (0, 0)) (xK_ BK399.out) hb)
   have n1_ := A0_.mk (kB_ (g := gb400) (o := .cells #[.bool a1_0, .string a1_1, .string a1_2] 26 (0, 0)) (xK_ BK400.out) hb)
   have n2_ := A0_.mk (bT_ (xB2_ HB GE399 GE400) hb)
   clear BK399
   clear BK400
   clear HB
   have BK399 := n0_
   have BK400 := n1_
   have HB := n2_
   clear n0_ n1_ n2_
   (try clear hb)
   (try clear hb2)
   (try clear hk)
   (try clear hi)
   refine hK.out _ _ ⟨(kc_ BK399.out 0).trans rfl, (kc_ BK399.out 1).trans rfl, (kc_ BK399.out 2).trans rfl, (kc_ BK400.out 0).trans rfl, (kc_ BK400.out 1).trans rfl, (kc_ BK400.out 2).trans rfl⟩ (fun hHeld => ?_)
   clear hK K
   refine norm_ (a' := ?_) ?_ ?_
   rotate_left
   ·show Act.put _ (some 9) _ = _
    simp only [Act.put, s1_, s2_, s3_, i64_w, i32_w]
    rfl
   refine one_ (i := 3) (N := some 11) #[true, true, true, true, false, false] rfl rfl (by kernel_rfl) (by decide) (fun K hK => ?_)
   refine goes_ Tryd.func43 (by kernel_rfl) rfl #[.agg #[.bool a1_0, .string a1_1, .string a1_2]] (by rfl) rfl rfl mp_ ?_
   with_reducible refine (rational_clean.calls k a1_0 a1_1 a1_2 t404 t405 t406 _ A4.out).mono ?_
   rintro e w63 ⟨rfl, hb⟩
   refine ⟨_, rfl, ?_⟩
   have n0_ := A0_.mk (kB_ (g := gb399) (o := .cells #[.bool a0_0, .string a0_1, .string a0_2] 26 (0, 0)) (xK_ BK399.out) hb)
   have n1_ := A0_.mk (kB_ (g := gb400) (o := .cells #[.bool a1_0, .string a1_1, .string a1_2] 26 (0, 0)) (xK_ BK400.out) hb)
   have n2_ := A0_.mk (bT_ (xB2_ HB GE399 GE400) hb)
   clear BK399
   clear BK400
   clear HB
   have BK399 := n0_
   have BK400 := n1_
   have HB := n2_
   clear n0_ n1_ n2_
   (try clear hb)
   (try clear hb2)
   (try clear hk)
   (try clear hi)
   refine hK.out _ _ ⟨(kc_ BK399.out 0).trans rfl, (kc_ BK399.out 1).trans rfl, (kc_ BK399.out 2).trans rfl, (kc_ BK400.out 0).trans rfl, (kc_ BK400.out 1).trans rfl, (kc_ BK400.out 2).trans rfl⟩ (fun hHeld => ?_)
   clear hK K
   refine norm_ (a' := ?_) ?_ ?_
   rotate_left
   ·show Act.put _ (some 11) _ = _
    simp only [Act.put, s1_, s2_, s3_, i64_w, i32_w]
    rfl
   refine last_ (i := 4) (N := none) #[true, true, true, true, true, false] rfl rfl (by kernel_rfl) (by decide) (fun K hK => ?_)
   have hs64 : w63.cell? ⟨gb399, 0, none⟩ = some (.bool a0_0) := (kc_ BK399.out 0).trans rfl
   have hfs64 := kF_ BK399.out 0
   have hns64_1 := NB400_399.out
   have hms64_1 := NB399_400.out
   have hs65 : w63.cell? ⟨gb399, 1, none⟩ = some (.string a0_1) := (kc_ BK399.out 1).trans rfl
   have hfs65 := kF_ BK399.out 1
   have hns65_1 := NB400_399.out
   have hms65_1 := NB399_400.out
   have hs66 : w63.cell? ⟨gb399, 2, none⟩ = some (.string a0_2) := (kc_ BK399.out 2).trans rfl
   have hfs66 := kF_ BK399.out 2
   have hns66_1 := NB400_399.out
   have hms66_1 := NB399_400.out
   refine skip_ (w1 := ?_) (by rfl) rfl ?_ ?_
   rotate_left
   ·go_simp
    rfl
   refine hK.out _ _ ?_
   clear hK K
   refine last_ (i := 5) (N := none) #[true, true, true, true, true, true] rfl rfl (by kernel_rfl) (by decide) (fun K hK => ?_)
   have hs67 : w63.cell? ⟨gb400, 0, none⟩ = some (.bool a1_0) := (kc_ BK400.out 0).trans rfl
   have hfs67 := kF_ BK400.out 0
   have hns67_0 := NB399_400.out
   have hms67_0 := NB400_399.out
   have hs68 : w63.cell? ⟨gb400, 1, none⟩ = some (.string a1_1) := (kc_ BK400.out 1).trans rfl
   have hfs68 := kF_ BK400.out 1
   have hns68_0 := NB399_400.out
   have hms68_0 := NB400_399.out
   have hs69 : w63.cell? ⟨gb400, 2, none⟩ = some (.string a1_2) := (kc_ BK400.out 2).trans rfl
   have hfs69 := kF_ BK400.out 2
   have hns69_0 := NB399_400.out
   have hms69_0 := NB400_399.out
   refine skip_ (w1 := ?_) (by rfl) rfl ?_ ?_
   rotate_left
   ·go_simp
    rfl
   refine hK.out _ _ ?_
   clear hK K
   refine done_ (by kernel_rfl) ?_
   try go_wp2
   have n0_ : A0_ (((((((w63.setCell ⟨gb399, 0, none⟩ (.bool t401)).setCell ⟨gb399, 1, none⟩ (.string t402)).setCell ⟨gb399, 2, none⟩ (.string t403)).setCell ⟨gb400, 0, none⟩ (.bool t404)).setCell ⟨gb400, 1, none⟩ (.string t405)).setCell ⟨gb400, 2, none⟩ (.string t406)).heap[gb399]? = some (.cells #[.bool t401, .string t402, .string t403] 26 (0, 0))) := ⟨by (with_reducible repeat (first | refine kN_ ?_ _ | refine kD_ ?_ | refine kA_ ?_ _)); refine blk_far ?_ NB399_400.out _; (with_reducible repeat (first | refine kN_ ?_ _ | refine kD_ ?_ | refine kA_ ?_ _)); refine blk_far ?_ NB399_400.out _; (with_reducible repeat (first | refine kN_ ?_ _ | refine kD_ ?_ | refine kA_ ?_ _)); refine blk_far ?_ NB399_400.out _; (with_reducible repeat (first | refine kN_ ?_ _ | refine kD_ ?_ | refine kA_ ?_ _)); refine kP_ (cs := #[.bool t401, .string t402, .string a0_2]) ?_ 2 _ rfl; (with_reducible repeat (first | refine kN_ ?_ _ | refine kD_ ?_ | refine kA_ ?_ _)); refine kP_ (cs := #[.bool t401, .string a0_1, .string a0_2]) ?_ 1 _ rfl; (with_reducible repeat (first | refine kN_ ?_ _ | refine kD_ ?_ | refine kA_ ?_ _)); refine kP_ (cs := #[.bool a0_0, .string a0_1, .string a0_2]) ?_ 0 _ rfl; (with_reducible repeat (first | refine kN_ ?_ _ | refine kD_ ?_ | refine kA_ ?_ _)); exact BK399.out⟩
   have n1_ : A0_ (((((((w63.setCell ⟨gb399, 0, none⟩ (.bool t401)).setCell ⟨gb399, 1, none⟩ (.string t402)).setCell ⟨gb399, 2, none⟩ (.string t403)).setCell ⟨gb400, 0, none⟩ (.bool t404)).setCell ⟨gb400, 1, none⟩ (.string t405)).setCell ⟨gb400, 2, none⟩ (.string t406)).heap[gb400]? = some (.cells #[.bool t404, .string t405, .string t406] 26 (0, 0))) := ⟨by (with_reducible repeat (first | refine kN_ ?_ _ | refine kD_ ?_ | refine kA_ ?_ _)); refine kP_ (cs := #[.bool t404, .string t405, .string a1_2]) ?_ 2 _ rfl; (with_reducible repeat (first | refine kN_ ?_ _ | refine kD_ ?_ | refine kA_ ?_ _)); refine kP_ (cs := #[.bool t404, .string a1_1, .string a1_2]) ?_ 1 _ rfl; (with_reducible repeat (first | refine kN_ ?_ _ | refine kD_ ?_ | refine kA_ ?_ _)); refine kP_ (cs := #[.bool a1_0, .string a1_1, .string a1_2]) ?_ 0 _ rfl; (with_reducible repeat (first | refine kN_ ?_ _ | refine kD_ ?_ | refine kA_ ?_ _)); refine blk_far ?_ NB400_399.out _; (with_reducible repeat (first | refine kN_ ?_ _ | refine kD_ ?_ | refine kA_ ?_ _)); refine blk_far ?_ NB400_399.out _; (with_reducible repeat (first | refine kN_ ?_ _ | refine kD_ ?_ | refine kA_ ?_ _)); refine blk_far ?_ NB400_399.out _; (with_reducible repeat (first | refine kN_ ?_ _ | refine kD_ ?_ | refine kA_ ?_ _)); exact BK400.out⟩
   have n2_ : A0_ (Below w.heap.size w ((((((w63.setCell ⟨gb399, 0, none⟩ (.bool t401)).setCell ⟨gb399, 1, none⟩ (.string t402)).setCell ⟨gb399, 2, none⟩ (.string t403)).setCell ⟨gb400, 0, none⟩ (.bool t404)).setCell ⟨gb400, 1, none⟩ (.string t405)).setCell ⟨gb400, 2, none⟩ (.string t406))) := ⟨xB2_ HB GE399 GE400⟩
   (try clear BK399)
   (try clear BK400)
   (try clear HB)
   generalize ((((((w63.setCell ⟨gb399, 0, none⟩ (.bool t401)).setCell ⟨gb399, 1, none⟩ (.string t402)).setCell ⟨gb399, 2, none⟩ (.string t403)).setCell ⟨gb400, 0, none⟩ (.bool t404)).setCell ⟨gb400, 1, none⟩ (.string t405)).setCell ⟨gb400, 2, none⟩ (.string t406)) = w70 at n0_ n1_ n2_ ⊢
   have BK399 := n0_
   have BK400 := n1_
   have HB := n2_
   clear n0_ n1_ n2_
   have n0_ := A0_.mk (kD_ BK399.out)
   have n1_ := A0_.mk (kD_ BK400.out)
   have n2_ := A0_.mk (b1_ HB.out)
   clear BK399
   clear BK400
   clear HB
   have BK399 := n0_
   have BK400 := n1_
   have HB := n2_
   clear n0_ n1_ n2_
   refine start_ (n := 6) (S := fun w' => w'.cell? ⟨gb399, 0, none⟩ = some (.bool t401) ∧ w'.cell? ⟨gb399, 1, none⟩ = some (.string t402) ∧ w'.cell? ⟨gb399, 2, none⟩ = some (.string t403) ∧ w'.cell? ⟨gb400, 0, none⟩ = some (.bool t404) ∧ w'.cell? ⟨gb400, 1, none⟩ = some (.string t405) ∧ w'.cell? ⟨gb400, 2, none⟩ = some (.string t406)) (ds := []) #[false, false, false, false, false, false] (by kernel_rfl) rfl rfl ⟨(kc_ BK399.out 0).trans rfl, (kc_ BK399.out 1).trans rfl, (kc_ BK399.out 2).trans rfl, (kc_ BK400.out 0).trans rfl, (kc_ BK400.out 1).trans rfl, (kc_ BK400.out 2).trans rfl⟩ (fun hHeld => ?_)
   generalize w70.drew = w71 at BK399 BK400 HB hHeld ⊢
   refine take_ (i := 0) (N := some 12) (v := ?_) (a' := ?_) #[true, false, false, false, false, false] rfl rfl (by kernel_rfl) (fun _ _ _ h => h) (Or.inl ⟨by rfl, ?_⟩) hHeld ?_ ?_
   rotate_left
   ·rintro w' ⟨s0, s1, s2, s3, s4, s5⟩
    go_simp
    with_reducible rfl
   rotate_left
   ·simp only [Act.put, s1_, s2_, s3_, i64_w, i32_w]
    rfl
   refine take_ (i := 2) (N := some 14) (v := ?_) (a' := ?_) #[true, false, true, false, false, false] rfl rfl (by kernel_rfl) (fun _ _ _ h => h) (Or.inl ⟨by rfl, ?_⟩) hHeld ?_ ?_
   rotate_left
   ·rintro w' ⟨s0, s1, s2, s3, s4, s5⟩
    go_simp
    with_reducible rfl
   rotate_left
   ·simp only [Act.put, s1_, s2_, s3_, i64_w, i32_w]
    rfl
   refine one_ (i := 1) (N := some 13) #[true, true, true, false, false, false] rfl rfl (by kernel_rfl) (by decide) (fun K hK => ?_)
   refine goes_ Tryd.func42 (by kernel_rfl) rfl #[.agg #[.bool t401, .string t402, .string t403]] (by rfl) rfl rfl mp_ ?_
   with_reducible refine (rational_signOf.calls t401 t402 t403 t407 _ A5.out).mono ?_
   rintro e w72 ⟨rfl, hb⟩
   refine ⟨_, rfl, ?_⟩
   have n0_ := A0_.mk (kB_ (g := gb399) (o := .cells #[.bool t401, .string t402, .string t403] 26 (0, 0)) (xK_ BK399.out) hb)
   have n1_ := A0_.mk (kB_ (g := gb400) (o := .cells #[.bool t404, .string t405, .string t406] 26 (0, 0)) (xK_ BK400.out) hb)
   have n2_ := A0_.mk (bT_ (xB2_ HB GE399 GE400) hb)
   clear BK399
   clear BK400
   clear HB
   have BK399 := n0_
   have BK400 := n1_
   have HB := n2_
   clear n0_ n1_ n2_
   (try clear hb)
   (try clear hb2)
   (try clear hk)
   (try clear hi)
   refine hK.out _ _ ⟨(kc_ BK399.out 0).trans rfl, (kc_ BK399.out 1).trans rfl, (kc_ BK399.out 2).trans rfl, (kc_ BK400.out 0).trans rfl, (kc_ BK400.out 1).trans rfl, (kc_ BK400.out 2).trans rfl⟩ (fun hHeld => ?_)
   clear hK K
   refine norm_ (a' := ?_) ?_ ?_
   rotate_left
   ·show Act.put _ (some 13) _ = _
    simp only [Act.put, s1_, s2_, s3_, i64_w, i32_w]
    rfl
   refine one_ (i := 3) (N := some 15) #[true, true, true, true, false, false] rfl rfl (by kernel_rfl) (by decide) (fun K hK => ?_)
   refine goes_ Tryd.func42 (by kernel_rfl) rfl #[.agg #[.bool t404, .string t405, .string t406]] (by rfl) rfl rfl mp_ ?_
   with_reducible refine (rational_signOf.calls t404 t405 t406 t408 _ A6.out).mono ?_
   rintro e w73 ⟨rfl, hb⟩
   refine ⟨_, rfl, ?_⟩
   have n0_ := A0_.mk (kB_ (g := gb399) (o := .cells #[.bool t401, .string t402, .string t403] 26 (0, 0)) (xK_ BK399.out) hb)
   have n1_ := A0_.mk (kB_ (g := gb400) (o := .cells #[.bool t404, .string t405, .string t406] 26 (0, 0)) (xK_ BK400.out) hb)
   have n2_ := A0_.mk (bT_ (xB2_ HB GE399 GE400) hb)
   clear BK399
   clear BK400
   clear HB
   have BK399 := n0_
   have BK400 := n1_
   have HB := n2_
   clear n0_ n1_ n2_
   (try clear hb)
   (try clear hb2)
   (try clear hk)
   (try clear hi)
   refine hK.out _ _ ⟨(kc_ BK399.out 0).trans rfl, (kc_ BK399.out 1).trans rfl, (kc_ BK399.out 2).trans rfl, (kc_ BK400.out 0).trans rfl, (kc_ BK400.out 1).trans rfl, (kc_ BK400.out 2).trans rfl⟩ (fun hHeld => ?_)
   clear hK K
   refine norm_ (a' := ?_) ?_ ?_
   rotate_left
   ·show Act.put _ (some 15) _ = _
    simp only [Act.put, s1_, s2_, s3_, i64_w, i32_w]
    rfl
   refine pure_ (i := 4) (N := some 5) (v := ?_) (a' := ?_) #[true, true, true, true, true, false] rfl rfl (by kernel_rfl) (fun _ _ _ h => h) (Or.inl ⟨by rfl, ?_⟩) ?_ ?_
   rotate_left
   ·intro w'
    go_simp
    with_reducible rfl
   rotate_left
   ·simp only [Act.put, s1_, s2_, s3_, i64_w, i32_w]
    rfl
   refine pure_ (i := 5) (N := some 6) (v := ?_) (a' := ?_) #[true, true, true, true, true, true] rfl rfl (by kernel_rfl) (fun _ _ _ h => h) (Or.inl ⟨by rfl, ?_⟩) ?_ ?_
   rotate_left
   ·intro w'
    go_simp
    with_reducible rfl
   rotate_left
   ·simp only [Act.put, s1_, s2_, s3_, i64_w, i32_w]
    rfl
   refine done_ (by kernel_rfl) ?_
   try go_wp2
   go_ret
   exact ⟨rE_, xB2_ HB GE399 GE400⟩
  ·rw [if_neg c58] at H
   have c58b0 : decide (t407 < t408) = false := decide_eq_false c58
   clear c58
   obtain rfl := Option.some.inj H
   go_enter Tryd.func20, Tryd.ntmps20
   try go_wp2_with (first | ((with_reducible refine gD_ (N := 2) rfl ?_); refine bE_ ?hg (N := 2) ?hd (cs := #[.bool a0_0, .string a0_1, .string a0_2]) (t := 26) ?hr ?_; (case hd => rfl); (case hg => rfl); (case hr => first | (go_simp; done) | (go_simp; rfl)); intro gb399 hg w74 hbox hb; have n0_ := A0_.mk (bT_ (xB_ HB) hb); have n1_ := A0_.mk (hbox); have n2_ := A0_.mk ((by rw [hg]; exact (bZ_ (xB_ HB)) : w.heap.size ≤ gb399)); have n3_ := A0_.mk ((by rw [hg]; exact (bZ_ (xB_ HB)) : w.heap.size ≤ gb399)); clear HB; have HB := n0_; have BK399 := n1_; have GW399 := n2_; have GE399 := n3_; clear n0_ n1_ n2_ n3_; clear hb hbox hg) | ((with_reducible refine gD_ (N := 3) rfl ?_); refine bE_ ?hg (N := 3) ?hd (cs := #[.bool a1_0, .string a1_1, .string a1_2]) (t := 26) ?hr ?_; (case hd => rfl); (case hg => rfl); (case hr => first | (go_simp; done) | (go_simp; rfl)); intro gb400 hg w75 hbox hb; have n0_ := A0_.mk (kB_ (g := gb399) (o := .cells #[.bool a0_0, .string a0_1, .string a0_2] 26 (0, 0)) (xK_ BK399.out) hb); have n1_ := A0_.mk (bT_ (xB1_ HB GE399) hb); have n2_ := A0_.mk (hbox); have n3_ := A0_.mk ((by rw [hg]; exact (bZ_ (xB1_ HB GE399)) : w.heap.size ≤ gb400)); have n4_ := A0_.mk ((by rw [hg]; exact (bZ_ (xB1_ HB GE399)) : w.heap.size ≤ gb400)); have n5_ := A0_.mk ((by rw [hg]; exact Nat.ne_of_lt (blk_lt (g := gb399) (o := .cells #[.bool a0_0, .string a0_1, .string a0_2] 26 (0, 0)) (xK_ BK399.out)) : gb399 ≠ gb400)); have n6_ := A0_.mk ((by rw [hg]; exact Nat.ne_of_gt (blk_lt (g := gb399) (o := .cells #[.bool a0_0, .string a0_1, .string a0_2] 26 (0, 0)) (xK_ BK399.out)) : gb400 ≠ gb399)); clear BK399 HB; have BK399 := n0_; have HB := n1_; have BK400 := n2_; have GW400 := n3_; have GE400 := n4_; have NB399_400 := n5_; have NB400_399 := n6_; clear n0_ n1_ n2_ n3_ n4_ n5_ n6_; clear hb hbox hg))
   have n0_ := A0_.mk (kD_ BK399.out)
   have n1_ := A0_.mk (kD_ BK400.out)
   have n2_ := A0_.mk (b1_ HB.out)
   clear BK399
   clear BK400
   clear HB
   have BK399 := n0_
   have BK400 := n1_
   have HB := n2_
   clear n0_ n1_ n2_
   refine start_ (n := 6) (S := fun w' => w'.cell? ⟨gb399, 0, none⟩ = some (.bool a0_0) ∧ w'.cell? ⟨gb399, 1, none⟩ = some (.string a0_1) ∧ w'.cell? ⟨gb399, 2, none⟩ = some (.string a0_2) ∧ w'.cell? ⟨gb400, 0, none⟩ = some (.bool a1_0) ∧ w'.cell? ⟨gb400, 1, none⟩ = some (.string a1_1) ∧ w'.cell? ⟨gb400, 2, none⟩ = some (.string a1_2)) (ds := [4, 5]) #[false, false, false, false, false, false] (by kernel_rfl) rfl rfl ⟨(kc_ BK399.out 0).trans rfl, (kc_ BK399.out 1).trans rfl, (kc_ BK399.out 2).trans rfl, (kc_ BK400.out 0).trans rfl, (kc_ BK400.out 1).trans rfl, (kc_ BK400.out 2).trans rfl⟩ (fun hHeld => ?_)
   generalize w75.drew = w76 at BK399 BK400 HB hHeld ⊢
   refine take_ (i := 0) (N := some 8) (v := ?_) (a' := ?_) #[true, false, false, false, false, false] rfl rfl (by kernel_rfl) (fun _ _ _ h => h) (Or.inl ⟨by rfl, ?_⟩) hHeld ?_ ?_
   rotate_left
   ·rintro w' ⟨s0, s1, s2, s3, s4, s5⟩
    go_simp
    with_reducible rfl
   rotate_left
   ·simp only [Act.put, s1_, s2_, s3_, i64_w, i32_w]
    rfl
   refine take_ (i := 2) (N := some 10) (v := ?_) (a' := ?_) #[true, false, true, false, false, false] rfl rfl (by kernel_rfl) (fun _ _ _ h => h) (Or.inl ⟨by rfl, ?_⟩) hHeld ?_ ?_
   rotate_left
   ·rintro w' ⟨s0, s1, s2, s3, s4, s5⟩
    go_simp
    with_reducible rfl
   rotate_left
   ·simp only [Act.put, s1_, s2_, s3_, i64_w, i32_w]
    rfl
   refine one_ (i := 1) (N := some 9) #[true, true, true, false, false, false] rfl rfl (by kernel_rfl) (by decide) (fun K hK => ?_)
   refine goes_ Tryd.func43 (by kernel_rfl) rfl #[.agg #[.bool a0_0, .string a0_1, .string a0_2]] (by rfl) rfl rfl mp_ ?_
   with_reducible refine (rational_clean.calls k a0_0 a0_1 a0_2 t401 t402 t403 _ A3.out).mono ?_
   rintro e w77 ⟨rfl, hb⟩
   refine ⟨_, rfl, ?_⟩
   have n0_ := A0_.mk (kB_ (g := gb399) (o := .cells #[.bool a0_0, .string a0_1, .string a0_2] 26 (0, 0)) (xK_ BK399.out) hb)
   have n1_ := A0_.mk (kB_ (g := gb400) (o := .cells #[.bool a1_0, .string a1_1, .string a1_2] 26 (0, 0)) (xK_ BK400.out) hb)
   have n2_ := A0_.mk (bT_ (xB2_ HB GE399 GE400) hb)
   clear BK399
   clear BK400
   clear HB
   have BK399 := n0_
   have BK400 := n1_
   have HB := n2_
   clear n0_ n1_ n2_
   (try clear hb)
   (try clear hb2)
   (try clear hk)
   (try clear hi)
   refine hK.out _ _ ⟨(kc_ BK399.out 0).trans rfl, (kc_ BK399.out 1).trans rfl, (kc_ BK399.out 2).trans rfl, (kc_ BK400.out 0).trans rfl, (kc_ BK400.out 1).trans rfl, (kc_ BK400.out 2).trans rfl⟩ (fun hHeld => ?_)
   clear hK K
   refine norm_ (a' := ?_) ?_ ?_
   rotate_left
   ·show Act.put _ (some 9) _ = _
    simp only [Act.put, s1_, s2_, s3_, i64_w, i32_w]
    rfl
   refine one_ (i := 3) (N := some 11) #[true, true, true, true, false, false] rfl rfl (by kernel_rfl) (by decide) (fun K hK => ?_)
   refine goes_ Tryd.func43 (by kernel_rfl) rfl #[.agg #[.bool a1_0, .string a1_1, .string a1_2]] (by rfl) rfl rfl mp_ ?_
   with_reducible refine (rational_clean.calls k a1_0 a1_1 a1_2 t404 t405 t406 _ A4.out).mono ?_
   rintro e w78 ⟨rfl, hb⟩
   refine ⟨_, rfl, ?_⟩
   have n0_ := A0_.mk (kB_ (g := gb399) (o := .cells #[.bool a0_0, .string a0_1, .string a0_2] 26 (0, 0)) (xK_ BK399.out) hb)
   have n1_ := A0_.mk (kB_ (g := gb400) (o := .cells #[.bool a1_0, .string a1_1, .string a1_2] 26 (0, 0)) (xK_ BK400.out) hb)
   have n2_ := A0_.mk (bT_ (xB2_ HB GE399 GE400) hb)
   clear BK399
   clear BK400
   clear HB
   have BK399 := n0_
   have BK400 := n1_
   have HB := n2_
   clear n0_ n1_ n2_
   (try clear hb)
   (try clear hb2)
   (try clear hk)
   (try clear hi)
   refine hK.out _ _ ⟨(kc_ BK399.out 0).trans rfl, (kc_ BK399.out 1).trans rfl, (kc_ BK399.out 2).trans rfl, (kc_ BK400.out 0).trans rfl, (kc_ BK400.out 1).trans rfl, (kc_ BK400.out 2).trans rfl⟩ (fun hHeld => ?_)
   clear hK K
   refine norm_ (a' := ?_) ?_ ?_
   rotate_left
   ·show Act.put _ (some 11) _ = _
    simp only [Act.put, s1_, s2_, s3_, i64_w, i32_w]
    rfl
   refine last_ (i := 4) (N := none) #[true, true, true, true, true, false] rfl rfl (by kernel_rfl) (by decide) (fun K hK => ?_)
   have hs79 : w78.cell? ⟨gb399, 0, none⟩ = some (.bool a0_0) := (kc_ BK399.out 0).trans rfl
   have hfs79 := kF_ BK399.out 0
   have hns79_1 := NB400_399.out
   have hms79_1 := NB399_400.out
   have hs80 : w78.cell? ⟨gb399, 1, none⟩ = some (.string a0_1) := (kc_ BK399.out 1).trans rfl
   have hfs80 := kF_ BK399.out 1
   have hns80_1 := NB400_399.out
   have hms80_1 := NB399_400.out
   have hs81 : w78.cell? ⟨gb399, 2, none⟩ = some (.string a0_2) := (kc_ BK399.out 2).trans rfl
   have hfs81 := kF_ BK399.out 2
   have hns81_1 := NB400_399.out
   have hms81_1 := NB399_400.out
   refine skip_ (w1 := ?_) (by rfl) rfl ?_ ?_
   rotate_left
   ·go_simp
    rfl
   refine hK.out _ _ ?_
   clear hK K
   refine last_ (i := 5) (N := none) #[true, true, true, true, true, true] rfl rfl (by kernel_rfl) (by decide) (fun K hK => ?_)
   have hs82 : w78.cell? ⟨gb400, 0, none⟩ = some (.bool a1_0) := (kc_ BK400.out 0).trans rfl
   have hfs82 := kF_ BK400.out 0
   have hns82_0 := NB399_400.out
   have hms82_0 := NB400_399.out
   have hs83 : w78.cell? ⟨gb400, 1, none⟩ = some (.string a1_1) := (kc_ BK400.out 1).trans rfl
   have hfs83 := kF_ BK400.out 1
   have hns83_0 := NB399_400.out
   have hms83_0 := NB400_399.out
   have hs84 : w78.cell? ⟨gb400, 2, none⟩ = some (.string a1_2) := (kc_ BK400.out 2).trans rfl
   have hfs84 := kF_ BK400.out 2
   have hns84_0 := NB399_400.out
   have hms84_0 := NB400_399.out
   refine skip_ (w1 := ?_) (by rfl) rfl ?_ ?_
   rotate_left
   ·go_simp
    rfl
   refine hK.out _ _ ?_
   clear hK K
   refine done_ (by kernel_rfl) ?_
   try go_wp2
   have n0_ : A0_ (((((((w78.setCell ⟨gb399, 0, none⟩ (.bool t401)).setCell ⟨gb399, 1, none⟩ (.string t402)).setCell ⟨gb399, 2, none⟩ (.string t403)).setCell ⟨gb400, 0, none⟩ (.bool t404)).setCell ⟨gb400, 1, none⟩ (.string t405)).setCell ⟨gb400, 2, none⟩ (.string t406)).heap[gb399]? = some (.cells #[.bool t401, .string t402, .string t403] 26 (0, 0))) := ⟨by (with_reducible repeat (first | refine kN_ ?_ _ | refine kD_ ?_ | refine kA_ ?_ _)); refine blk_far ?_ NB399_400.out _; (with_reducible repeat (first | refine kN_ ?_ _ | refine kD_ ?_ | refine kA_ ?_ _)); refine blk_far ?_ NB399_400.out _; (with_reducible repeat (first | refine kN_ ?_ _ | refine kD_ ?_ | refine kA_ ?_ _)); refine blk_far ?_ NB399_400.out _; (with_reducible repeat (first | refine kN_ ?_ _ | refine kD_ ?_ | refine kA_ ?_ _)); refine kP_ (cs := #[.bool t401, .string t402, .string a0_2]) ?_ 2 _ rfl; (with_reducible repeat (first | refine kN_ ?_ _ | refine kD_ ?_ | refine kA_ ?_ _)); refine kP_ (cs := #[.bool t401, .string a0_1, .string a0_2]) ?_ 1 _ rfl; (with_reducible repeat (first | refine kN_ ?_ _ | refine kD_ ?_ | refine kA_ ?_ _)); refine kP_ (cs := #[.bool a0_0, .string a0_1, .string a0_2]) ?_ 0 _ rfl; (with_reducible repeat (first | refine kN_ ?_ _ | refine kD_ ?_ | refine kA_ ?_ _)); exact BK399.out⟩
   have n1_ : A0_ (((((((w78.setCell ⟨gb399, 0, none⟩ (.bool t401)).setCell ⟨gb399, 1, none⟩ (.string t402)).setCell ⟨gb399, 2, none⟩ (.string t403)).setCell ⟨gb400, 0, none⟩ (.bool t404)).setCell ⟨gb400, 1, none⟩ (.string t405)).setCell ⟨gb400, 2, none⟩ (.string t406)).heap[gb400]? = some (.cells #[.bool t404, .string t405, .string t406] 26 (0, 0))) := ⟨by (with_reducible repeat (first | refine kN_ ?_ _ | refine kD_ ?_ | refine kA_ ?_ _)); refine kP_ (cs := #[.bool t404, .string t405, .string a1_2]) ?_ 2 _ rfl; (with_reducible repeat (first | refine kN_ ?_ _ | refine kD_ ?_ | refine kA_ ?_ _)); refine kP_ (cs := #[.bool t404, .string a1_1, .string a1_2]) ?_ 1 _ rfl; (with_reducible repeat (first | refine kN_ ?_ _ | refine kD_ ?_ | refine kA_ ?_ _)); refine kP_ (cs := #[.bool a1_0, .string a1_1, .string a1_2]) ?_ 0 _ rfl; (with_reducible repeat (first | refine kN_ ?_ _ | refine kD_ ?_ | refine kA_ ?_ _)); refine blk_far ?_ NB400_399.out _; (with_reducible repeat (first | refine kN_ ?_ _ | refine kD_ ?_ | refine kA_ ?_ _)); refine blk_far ?_ NB400_399.out _; (with_reducible repeat (first | refine kN_ ?_ _ | refine kD_ ?_ | refine kA_ ?_ _)); refine blk_far ?_ NB400_399.out _; (with_reducible repeat (first | refine kN_ ?_ _ | refine kD_ ?_ | refine kA_ ?_ _)); exact BK400.out⟩
   have n2_ : A0_ (Below w.heap.size w ((((((w78.setCell ⟨gb399, 0, none⟩ (.bool t401)).setCell ⟨gb399, 1, none⟩ (.string t402)).setCell ⟨gb399, 2, none⟩ (.string t403)).setCell ⟨gb400, 0, none⟩ (.bool t404)).setCell ⟨gb400, 1, none⟩ (.string t405)).setCell ⟨gb400, 2, none⟩ (.string t406))) := ⟨xB2_ HB GE399 GE400⟩
   (try clear BK399)
   (try clear BK400)
   (try clear HB)
   generalize ((((((w78.setCell ⟨gb399, 0, none⟩ (.bool t401)).setCell ⟨gb399, 1, none⟩ (.string t402)).setCell ⟨gb399, 2, none⟩ (.string t403)).setCell ⟨gb400, 0, none⟩ (.bool t404)).setCell ⟨gb400, 1, none⟩ (.string t405)).setCell ⟨gb400, 2, none⟩ (.string t406)) = w85 at n0_ n1_ n2_ ⊢
   have BK399 := n0_
   have BK400 := n1_
   have HB := n2_
   clear n0_ n1_ n2_
   have n0_ := A0_.mk (kD_ BK399.out)
   have n1_ := A0_.mk (kD_ BK400.out)
   have n2_ := A0_.mk (b1_ HB.out)
   clear BK399
   clear BK400
   clear HB
   have BK399 := n0_
   have BK400 := n1_
   have HB := n2_
   clear n0_ n1_ n2_
   refine start_ (n := 6) (S := fun w' => w'.cell? ⟨gb399, 0, none⟩ = some (.bool t401) ∧ w'.cell? ⟨gb399, 1, none⟩ = some (.string t402) ∧ w'.cell? ⟨gb399, 2, none⟩ = some (.string t403) ∧ w'.cell? ⟨gb400, 0, none⟩ = some (.bool t404) ∧ w'.cell? ⟨gb400, 1, none⟩ = some (.string t405) ∧ w'.cell? ⟨gb400, 2, none⟩ = some (.string t406)) (ds := []) #[false, false, false, false, false, false] (by kernel_rfl) rfl rfl ⟨(kc_ BK399.out 0).trans rfl, (kc_ BK399.out 1).trans rfl, (kc_ BK399.out 2).trans rfl, (kc_ BK400.out 0).trans rfl, (kc_ BK400.out 1).trans rfl, (kc_ BK400.out 2).trans rfl⟩ (fun hHeld => ?_)
   generalize w85.drew = w86 at BK399 BK400 HB hHeld ⊢
   refine take_ (i := 0) (N := some 12) (v := ?_) (a' := ?_) #[true, false, false, false, false, false] rfl rfl (by kernel_rfl) (fun _ _ _ h => h) (Or.inl ⟨by rfl, ?_⟩) hHeld ?_ ?_
   rotate_left
   ·rintro w' ⟨s0, s1, s2, s3, s4, s5⟩
    go_simp
    with_reducible rfl
   rotate_left
   ·simp only [Act.put, s1_, s2_, s3_, i64_w, i32_w]
    rfl
   refine take_ (i := 2) (N := some 14) (v := ?_) (a' := ?_) #[true, false, true, false, false, false] rfl rfl (by kernel_rfl) (fun _ _ _ h => h) (Or.inl ⟨by rfl, ?_⟩) hHeld ?_ ?_
   rotate_left
   ·rintro w' ⟨s0, s1, s2, s3, s4, s5⟩
    go_simp
    with_reducible rfl
   rotate_left
   ·simp only [Act.put, s1_, s2_, s3_, i64_w, i32_w]
    rfl
   refine one_ (i := 1) (N := some 13) #[true, true, true, false, false, false] rfl rfl (by kernel_rfl) (by decide) (fun K hK => ?_)
   refine goes_ Tryd.func42 (by kernel_rfl) rfl #[.agg #[.bool t401, .string t402, .string t403]] (by rfl) rfl rfl mp_ ?_
   with_reducible refine (rational_signOf.calls t401 t402 t403 t407 _ A5.out).mono ?_
   rintro e w87 ⟨rfl, hb⟩
   refine ⟨_, rfl, ?_⟩
   have n0_ := A0_.mk (kB_ (g := gb399) (o := .cells #[.bool t401, .string t402, .string t403] 26 (0, 0)) (xK_ BK399.out) hb)
   have n1_ := A0_.mk (kB_ (g := gb400) (o := .cells #[.bool t404, .string t405, .string t406] 26 (0, 0)) (xK_ BK400.out) hb)
   have n2_ := A0_.mk (bT_ (xB2_ HB GE399 GE400) hb)
   clear BK399
   clear BK400
   clear HB
   have BK399 := n0_
   have BK400 := n1_
   have HB := n2_
   clear n0_ n1_ n2_
   (try clear hb)
   (try clear hb2)
   (try clear hk)
   (try clear hi)
   refine hK.out _ _ ⟨(kc_ BK399.out 0).trans rfl, (kc_ BK399.out 1).trans rfl, (kc_ BK399.out 2).trans rfl, (kc_ BK400.out 0).trans rfl, (kc_ BK400.out 1).trans rfl, (kc_ BK400.out 2).trans rfl⟩ (fun hHeld => ?_)
   clear hK K
   refine norm_ (a' := ?_) ?_ ?_
   rotate_left
   ·show Act.put _ (some 13) _ = _
    simp only [Act.put, s1_, s2_, s3_, i64_w, i32_w]
    rfl
   refine one_ (i := 3) (N := some 15) #[true, true, true, true, false, false] rfl rfl (by kernel_rfl) (by decide) (fun K hK => ?_)
   refine goes_ Tryd.func42 (by kernel_rfl) rfl #[.agg #[.bool t404, .string t405, .string t406]] (by rfl) rfl rfl mp_ ?_
   with_reducible refine (rational_signOf.calls t404 t405 t406 t408 _ A6.out).mono ?_
   rintro e w88 ⟨rfl, hb⟩
   refine ⟨_, rfl, ?_⟩
   have n0_ := A0_.mk (kB_ (g := gb399) (o := .cells #[.bool t401, .string t402, .string t403] 26 (0, 0)) (xK_ BK399.out) hb)
   have n1_ := A0_.mk (kB_ (g := gb400) (o := .cells #[.bool t404, .string t405, .string t406] 26 (0, 0)) (xK_ BK400.out) hb)
   have n2_ := A0_.mk (bT_ (xB2_ HB GE399 GE400) hb)
   clear BK399
   clear BK400
   clear HB
   have BK399 := n0_
   have BK400 := n1_
   have HB := n2_
   clear n0_ n1_ n2_
   (try clear hb)
   (try clear hb2)
   (try clear hk)
   (try clear hi)
   refine hK.out _ _ ⟨(kc_ BK399.out 0).trans rfl, (kc_ BK399.out 1).trans rfl, (kc_ BK399.out 2).trans rfl, (kc_ BK400.out 0).trans rfl, (kc_ BK400.out 1).trans rfl, (kc_ BK400.out 2).trans rfl⟩ (fun hHeld => ?_)
   clear hK K
   refine norm_ (a' := ?_) ?_ ?_
   rotate_left
   ·show Act.put _ (some 15) _ = _
    simp only [Act.put, s1_, s2_, s3_, i64_w, i32_w]
    rfl
   refine pure_ (i := 4) (N := some 5) (v := ?_) (a' := ?_) #[true, true, true, true, true, false] rfl rfl (by kernel_rfl) (fun _ _ _ h => h) (Or.inl ⟨by rfl, ?_⟩) ?_ ?_
   rotate_left
   ·intro w'
    go_simp
    with_reducible rfl
   rotate_left
   ·simp only [Act.put, s1_, s2_, s3_, i64_w, i32_w]
    rfl
   refine pure_ (i := 5) (N := some 6) (v := ?_) (a' := ?_) #[true, true, true, true, true, true] rfl rfl (by kernel_rfl) (fun _ _ _ h => h) (Or.inl ⟨by rfl, ?_⟩) ?_ ?_
   rotate_left
   ·intro w'
    go_simp
    with_reducible rfl
   rotate_left
   ·simp only [Act.put, s1_, s2_, s3_, i64_w, i32_w]
    rfl
   refine done_ (by kernel_rfl) ?_
   try go_wp2
   go_ret
   exact ⟨rE_, xB2_ HB GE399 GE400⟩
def rational_Min.f (k : Nat) (a0_0 : Bool) (a0_1 : ByteArray) (a0_2 : ByteArray) (a1_0 : Bool) (a1_1 : ByteArray) (a1_2 : ByteArray) : Option (Bool × ByteArray × ByteArray) := (rational_Compare.f k a0_0 a0_1 a0_2 a1_0 a1_1 a1_2).bind fun t417 => (if t417 ≤ 0 then ((rational_clean.f k a0_0 a0_1 a0_2).bind fun bt418 => (some (bt418.1, bt418.2.1, bt418.2.2))) else ((rational_clean.f k a1_0 a1_1 a1_2).bind fun bt421 => (some (bt421.1, bt421.2.1, bt421.2.2))))
theorem rational_Min.mono : ∀ a0 a1 a2 a3 a4 a5 k, LeO (rational_Min.f k a0 a1 a2 a3 a4 a5) (rational_Min.f (k + 1) a0 a1 a2 a3 a4 a5) := by
 intro a0 a1 a2 a3 a4 a5 k
 unfold rational_Min.f
 repeat' first
   | (with_reducible exact rational_Compare.mono _ _ _ _ _ _ _)
   | (with_reducible exact rational_clean.mono _ _ _ _)
   | (with_reducible exact LeO.refl _)
   | (with_reducible exact LeO.none _)
   | (with_reducible refine LeO.ite ?_ ?_)
   | (with_reducible refine LeO.bind ?_ (fun _ => ?_))
set_option maxHeartbeats 8000000 in
set_option maxRecDepth 100000 in
theorem rational_Min.calls (k : Nat) (a0_0 : Bool) (a0_1 : ByteArray) (a0_2 : ByteArray) (a1_0 : Bool) (a1_1 : ByteArray) (a1_2 : ByteArray) (r1 : Bool) (r2 : ByteArray) (r3 : ByteArray) (w : World) (h : rational_Min.f k a0_0 a0_1 a0_2 a1_0 a1_1 a1_2 = some (r1, r2, r3)) :
  Calls Tryd.prog 39 #[.agg #[.bool a0_0, .string a0_1, .string a0_2], .agg #[.bool a1_0, .string a1_1, .string a1_2]] w fun e w' => e = .returned (.agg #[.bool r1, .string r2, .string r3]) ∧ Below w.heap.size w w' := by
 have hu26 := Tryd.underlying26
 have HB := A0_.mk (Below.refl w.heap.size w)
 have H := h
 unfold rational_Min.f at H
 clear h
 replace H := Option.bind_eq_some_iff.mp H
 obtain ⟨t417, A30, H⟩ := H
 (try dsimp only at H)
 have A3 := A0_.mk A30
 clear A30
 by_cases c4 : t417 ≤ 0
 ·rw [if_pos c4] at H
  have c4b0 : decide (t417 ≤ 0) = true := decide_eq_true c4
  clear c4
  replace H := Option.bind_eq_some_iff.mp H
  obtain ⟨⟨t418, t419, t420⟩, A50, H⟩ := H
  (try dsimp only at H)
  have A5 := A0_.mk A50
  clear A50
  simp only [Option.some.injEq, Prod.mk.injEq] at H
  obtain ⟨rfl, rfl, rfl⟩ := H
  go_enter Tryd.func39, Tryd.ntmps39
  go_wp2_with (first | ((with_reducible refine gD_ (N := 2) rfl ?_); refine bE_ ?hg (N := 2) ?hd (cs := #[.bool a0_0, .string a0_1, .string a0_2]) (t := 26) ?hr ?_; (case hd => rfl); (case hg => rfl); (case hr => first | (go_simp; done) | (go_simp; rfl)); intro gb414 hg w6 hbox hb; have n0_ := A0_.mk (bT_ (xB_ HB) hb); have n1_ := A0_.mk (hbox); have n2_ := A0_.mk ((by rw [hg]; exact (bZ_ (xB_ HB)) : w.heap.size ≤ gb414)); have n3_ := A0_.mk ((by rw [hg]; exact (bZ_ (xB_ HB)) : w.heap.size ≤ gb414)); clear HB; have HB := n0_; have BK414 := n1_; have GW414 := n2_; have GE414 := n3_; clear n0_ n1_ n2_ n3_; clear hb hbox hg) | ((with_reducible refine gD_ (N := 3) rfl ?_); refine bE_ ?hg (N := 3) ?hd (cs := #[.bool a1_0, .string a1_1, .string a1_2]) (t := 26) ?hr ?_; (case hd => rfl); (case hg => rfl); (case hr => first | (go_simp; done) | (go_simp; rfl)); intro gb415 hg w7 hbox hb; have n0_ := A0_.mk (kB_ (g := gb414) (o := .cells #[.bool a0_0, .string a0_1, .string a0_2] 26 (0, 0)) (xK_ BK414.out) hb); have n1_ := A0_.mk (bT_ (xB1_ HB GE414) hb); have n2_ := A0_.mk (hbox); have n3_ := A0_.mk ((by rw [hg]; exact (bZ_ (xB1_ HB GE414)) : w.heap.size ≤ gb415)); have n4_ := A0_.mk ((by rw [hg]; exact (bZ_ (xB1_ HB GE414)) : w.heap.size ≤ gb415)); have n5_ := A0_.mk ((by rw [hg]; exact Nat.ne_of_lt (blk_lt (g := gb414) (o := .cells #[.bool a0_0, .string a0_1, .string a0_2] 26 (0, 0)) (xK_ BK414.out)) : gb414 ≠ gb415)); have n6_ := A0_.mk ((by rw [hg]; exact Nat.ne_of_gt (blk_lt (g := gb414) (o := .cells #[.bool a0_0, .string a0_1, .string a0_2] 26 (0, 0)) (xK_ BK414.out)) : gb415 ≠ gb414)); clear BK414 HB; have BK414 := n0_; have HB := n1_; have BK415 := n2_; have GW415 := n3_; have GE415 := n4_; have NB414_415 := n5_; have NB415_414 := n6_; clear n0_ n1_ n2_ n3_ n4_ n5_ n6_; clear hb hbox hg) | ((with_reducible refine gD_ (N := 4) rfl ?_); refine bE_ ?hg (N := 4) ?hd (cs := #[.bool false, .string (⟨#[]⟩ : ByteArray), .string (⟨#[]⟩ : ByteArray)]) (t := 26) ?hr ?_; (case hd => rfl); (case hg => rfl); (case hr => first | (go_simp; done) | (go_simp; rfl)); intro gb416 hg w8 hbox hb; have n0_ := A0_.mk (kB_ (g := gb414) (o := .cells #[.bool a0_0, .string a0_1, .string a0_2] 26 (0, 0)) (xK_ BK414.out) hb); have n1_ := A0_.mk (kB_ (g := gb415) (o := .cells #[.bool a1_0, .string a1_1, .string a1_2] 26 (0, 0)) (xK_ BK415.out) hb); have n2_ := A0_.mk (bT_ (xB2_ HB GE414 GE415) hb); have n3_ := A0_.mk (hbox); have n4_ := A0_.mk ((by rw [hg]; exact (bZ_ (xB2_ HB GE414 GE415)) : w.heap.size ≤ gb416)); have n5_ := A0_.mk ((by rw [hg]; exact (bZ_ (xB2_ HB GE414 GE415)) : w.heap.size ≤ gb416)); have n6_ := A0_.mk ((by rw [hg]; exact Nat.ne_of_lt (blk_lt (g := gb414) (o := .cells #[.bool a0_0, .string a0_1, .string a0_2] 26 (0, 0)) (xK_ BK414.out)) : gb414 ≠ gb416)); have n7_ := A0_.mk ((by rw [hg]; exact Nat.ne_of_gt (blk_lt (g := gb414) (o := .cells #[.bool a0_0, .string a0_1, .string a0_2] 26 (0, 0)) (xK_ BK414.out)) : gb416 ≠ gb414)); have n8_ := A0_.mk ((by rw [hg]; exact Nat.ne_of_lt (blk_lt (g := gb415) (o := .cells #[.bool a1_0, .string a1_1, .string a1_2] 26 (0, 0)) (xK_ BK415.out)) : gb415 ≠ gb416)); have n9_ := A0_.mk ((by rw [hg]; exact Nat.ne_of_gt (blk_lt (g := gb415) (o := .cells #[.bool a1_0, .string a1_1, .string a1_2] 26 (0, 0)) (xK_ BK415.out)) : gb416 ≠ gb415)); clear BK414 BK415 HB; have BK414 := n0_; have BK415 := n1_; have HB := n2_; have BK416 := n3_; have GW416 := n4_; have GE416 := n5_; have NB414_416 := n6_; have NB416_414 := n7_; have NB415_416 := n8_; have NB416_415 := n9_; clear n0_ n1_ n2_ n3_ n4_ n5_ n6_ n7_ n8_ n9_; clear hb hbox hg; have hnb9 := NB414_415.out; have hnc9 := NB415_414.out; have hnb10 := NB414_416.out; have hnc10 := NB416_414.out; have hcz11_0 : w8.cell? ⟨gb414, 0, none⟩ = some (.bool a0_0) := (kc_ BK414.out 0).trans rfl; have hcz11_1 : w8.cell? ⟨gb414, 1, none⟩ = some (.string a0_1) := (kc_ BK414.out 1).trans rfl; have hcz11_2 : w8.cell? ⟨gb414, 2, none⟩ = some (.string a0_2) := (kc_ BK414.out 2).trans rfl; have hfz11_0 := kF_ BK414.out 0; have hfz11_1 := kF_ BK414.out 1; have hfz11_2 := kF_ BK414.out 2; have hnb12 := NB415_416.out; have hnc12 := NB416_415.out; have hcz13_0 : w8.cell? ⟨gb415, 0, none⟩ = some (.bool a1_0) := (kc_ BK415.out 0).trans rfl; have hcz13_1 : w8.cell? ⟨gb415, 1, none⟩ = some (.string a1_1) := (kc_ BK415.out 1).trans rfl; have hcz13_2 : w8.cell? ⟨gb415, 2, none⟩ = some (.string a1_2) := (kc_ BK415.out 2).trans rfl; have hfz13_0 := kF_ BK415.out 0; have hfz13_1 := kF_ BK415.out 1; have hfz13_2 := kF_ BK415.out 2) | ((with_reducible refine gC_ (f := 20) rfl ?_); refine goesL_ (some 7) rfl rfl Tryd.func20 (by kernel_rfl) rfl #[.agg #[.bool a0_0, .string a0_1, .string a0_2], .agg #[.bool a1_0, .string a1_1, .string a1_2]] rfl mp_ ?_; (with_reducible refine (rational_Compare.calls k a0_0 a0_1 a0_2 a1_0 a1_1 a1_2 t417 _ A3.out).mono ?_); rintro e w14 ⟨rfl, hb⟩; refine ⟨_, rfl, ?_⟩; have n0_ := A0_.mk (kB_ (g := gb414) (o := .cells #[.bool a0_0, .string a0_1, .string a0_2] 26 (0, 0)) (xK_ BK414.out) hb); have n1_ := A0_.mk (kB_ (g := gb415) (o := .cells #[.bool a1_0, .string a1_1, .string a1_2] 26 (0, 0)) (xK_ BK415.out) hb); have n2_ := A0_.mk (kB_ (g := gb416) (o := .cells #[.bool false, .string (⟨#[]⟩ : ByteArray), .string (⟨#[]⟩ : ByteArray)] 26 (0, 0)) (xK_ BK416.out) hb); have n3_ := A0_.mk (bT_ (xB3_ HB GE414 GE415 GE416) hb); clear BK414 BK415 BK416 HB; have BK414 := n0_; have BK415 := n1_; have BK416 := n2_; have HB := n3_; clear n0_ n1_ n2_ n3_; (try clear hb); (try clear hb2); (try clear hk); (try clear hi); have hcz15_0 : w14.cell? ⟨gb414, 0, none⟩ = some (.bool a0_0) := (kc_ BK414.out 0).trans rfl; have hcz15_1 : w14.cell? ⟨gb414, 1, none⟩ = some (.string a0_1) := (kc_ BK414.out 1).trans rfl; have hcz15_2 : w14.cell? ⟨gb414, 2, none⟩ = some (.string a0_2) := (kc_ BK414.out 2).trans rfl; have hfz15_0 := kF_ BK414.out 0; have hfz15_1 := kF_ BK414.out 1; have hfz15_2 := kF_ BK414.out 2) | ((with_reducible refine gC_ (f := 43) rfl ?_); refine goesL_ (some 10) rfl rfl Tryd.func43 (by kernel_rfl) rfl #[.agg #[.bool a0_0, .string a0_1, .string a0_2]] rfl mp_ ?_; (with_reducible refine (rational_clean.calls k a0_0 a0_1 a0_2 t418 t419 t420 _ A5.out).mono ?_); rintro e w16 ⟨rfl, hb⟩; refine ⟨_, rfl, ?_⟩; have n0_ := A0_.mk (kB_ (g := gb414) (o := .cells #[.bool a0_0, .string a0_1, .string a0_2] 26 (0, 0)) (xK_ BK414.out) hb); have n1_ := A0_.mk (kB_ (g := gb415) (o := .cells #[.bool a1_0, .string a1_1, .string a1_2] 26 (0, 0)) (xK_ BK415.out) hb); have n2_ := A0_.mk (kB_ (g := gb416) (o := .cells #[.bool false, .string (⟨#[]⟩ : ByteArray), .string (⟨#[]⟩ : ByteArray)] 26 (0, 0)) (xK_ BK416.out) hb); have n3_ := A0_.mk (bT_ (xB3_ HB GE414 GE415 GE416) hb); clear BK414 BK415 BK416 HB; have BK414 := n0_; have BK415 := n1_; have BK416 := n2_; have HB := n3_; clear n0_ n1_ n2_ n3_; (try clear hb); (try clear hb2); (try clear hk); (try clear hi); have hcz17_0 : w16.cell? ⟨gb416, 0, none⟩ = some (.bool false) := (kc_ BK416.out 0).trans rfl; have hcz17_1 : w16.cell? ⟨gb416, 1, none⟩ = some (.string (⟨#[]⟩ : ByteArray)) := (kc_ BK416.out 1).trans rfl; have hcz17_2 : w16.cell? ⟨gb416, 2, none⟩ = some (.string (⟨#[]⟩ : ByteArray)) := (kc_ BK416.out 2).trans rfl; have hfz17_0 := kF_ BK416.out 0; have hfz17_1 := kF_ BK416.out 1; have hfz17_2 := kF_ BK416.out 2))
  refine bodyPost_ret (results_cell_row rfl _ _ gb416 26 #[.bool t418, .string t419, .string t420] (0, 0) _ rfl (by (with_reducible repeat (first | refine kN_ ?_ _ | refine kD_ ?_ | refine kA_ ?_ _)); refine kP_ (cs := #[.bool t418, .string t419, .string (⟨#[]⟩ : ByteArray)]) ?_ 2 _ rfl; (with_reducible repeat (first | refine kN_ ?_ _ | refine kD_ ?_ | refine kA_ ?_ _)); refine kP_ (cs := #[.bool t418, .string (⟨#[]⟩ : ByteArray), .string (⟨#[]⟩ : ByteArray)]) ?_ 1 _ rfl; (with_reducible repeat (first | refine kN_ ?_ _ | refine kD_ ?_ | refine kA_ ?_ _)); refine kP_ (cs := #[.bool false, .string (⟨#[]⟩ : ByteArray), .string (⟨#[]⟩ : ByteArray)]) ?_ 0 _ rfl; (with_reducible repeat (first | refine kN_ ?_ _ | refine kD_ ?_ | refine kA_ ?_ _)); exact BK416.out) Tryd.underlying26 rfl (by kernel_rfl)) rfl ?_
  exact ⟨rE_, xB3_ HB GE414 GE415 GE416⟩
 ·rw [if_neg c4] at H
  have c4b0 : decide (t417 ≤ 0) = false := decide_eq_false c4
  clear c4
  replace H := Option.bind_eq_some_iff.mp H
  obtain ⟨⟨t421, t422, t423⟩, A180, H⟩ := H
  (try dsimp only at H)
  have A18 := A0_.mk A180
  clear A180
  simp only [Option.some.injEq, Prod.mk.injEq] at H
  obtain ⟨rfl, rfl, rfl⟩ := H
  go_enter Tryd.func39, Tryd.ntmps39
  go_wp2_with (first | ((with_reducible refine gD_ (N := 2) rfl ?_); refine bE_ ?hg (N := 2) ?hd (cs := #[.bool a0_0, .string a0_1, .string a0_2]) (t := 26) ?hr ?_; (case hd => rfl); (case hg => rfl); (case hr => first | (go_simp; done) | (go_simp; rfl)); intro gb414 hg w19 hbox hb; have n0_ := A0_.mk (bT_ (xB_ HB) hb); have n1_ := A0_.mk (hbox); have n2_ := A0_.mk ((by rw [hg]; exact (bZ_ (xB_ HB)) : w.heap.size ≤ gb414)); have n3_ := A0_.mk ((by rw [hg]; exact (bZ_ (xB_ HB)) : w.heap.size ≤ gb414)); clear HB; have HB := n0_; have BK414 := n1_; have GW414 := n2_; have GE414 := n3_; clear n0_ n1_ n2_ n3_; clear hb hbox hg) | ((with_reducible refine gD_ (N := 3) rfl ?_); refine bE_ ?hg (N := 3) ?hd (cs := #[.bool a1_0, .string a1_1, .string a1_2]) (t := 26) ?hr ?_; (case hd => rfl); (case hg => rfl); (case hr => first | (go_simp; done) | (go_simp; rfl)); intro gb415 hg w20 hbox hb; have n0_ := A0_.mk (kB_ (g := gb414) (o := .cells #[.bool a0_0, .string a0_1, .string a0_2] 26 (0, 0)) (xK_ BK414.out) hb); have n1_ := A0_.mk (bT_ (xB1_ HB GE414) hb); have n2_ := A0_.mk (hbox); have n3_ := A0_.mk ((by rw [hg]; exact (bZ_ (xB1_ HB GE414)) : w.heap.size ≤ gb415)); have n4_ := A0_.mk ((by rw [hg]; exact (bZ_ (xB1_ HB GE414)) : w.heap.size ≤ gb415)); have n5_ := A0_.mk ((by rw [hg]; exact Nat.ne_of_lt (blk_lt (g := gb414) (o := .cells #[.bool a0_0, .string a0_1, .string a0_2] 26 (0, 0)) (xK_ BK414.out)) : gb414 ≠ gb415)); have n6_ := A0_.mk ((by rw [hg]; exact Nat.ne_of_gt (blk_lt (g := gb414) (o := .cells #[.bool a0_0, .string a0_1, .string a0_2] 26 (0, 0)) (xK_ BK414.out)) : gb415 ≠ gb414)); clear BK414 HB; have BK414 := n0_; have HB := n1_; have BK415 := n2_; have GW415 := n3_; have GE415 := n4_; have NB414_415 := n5_; have NB415_414 := n6_; clear n0_ n1_ n2_ n3_ n4_ n5_ n6_; clear hb hbox hg) | ((with_reducible refine gD_ (N := 4) rfl ?_); refine bE_ ?hg (N := 4) ?hd (cs := #[.bool false, .string (⟨#[]⟩ : ByteArray), .string (⟨#[]⟩ : ByteArray)]) (t := 26) ?hr ?_; (case hd => rfl); (case hg => rfl); (case hr => first | (go_simp; done) | (go_simp; rfl)); intro gb416 hg w21 hbox hb; have n0_ := A0_.mk (kB_ (g := gb414) (o := .cells #[.bool a0_0, .string a0_1, .string a0_2] 26 (0, 0)) (xK_ BK414.out) hb); have n1_ := A0_.mk (kB_ (g := gb415) (o := .cells #[.bool a1_0, .string a1_1, .string a1_2] 26 (0, 0)) (xK_ BK415.out) hb); have n2_ := A0_.mk (bT_ (xB2_ HB GE414 GE415) hb); have n3_ := A0_.mk (hbox); have n4_ := A0_.mk ((by rw [hg]; exact (bZ_ (xB2_ HB GE414 GE415)) : w.heap.size ≤ gb416)); have n5_ := A0_.mk ((by rw [hg]; exact (bZ_ (xB2_ HB GE414 GE415)) : w.heap.size ≤ gb416)); have n6_ := A0_.mk ((by rw [hg]; exact Nat.ne_of_lt (blk_lt (g := gb414) (o := .cells #[.bool a0_0, .string a0_1, .string a0_2] 26 (0, 0)) (xK_ BK414.out)) : gb414 ≠ gb416)); have n7_ := A0_.mk ((by rw [hg]; exact Nat.ne_of_gt (blk_lt (g := gb414) (o := .cells #[.bool a0_0, .string a0_1, .string a0_2] 26 (0, 0)) (xK_ BK414.out)) : gb416 ≠ gb414)); have n8_ := A0_.mk ((by rw [hg]; exact Nat.ne_of_lt (blk_lt (g := gb415) (o := .cells #[.bool a1_0, .string a1_1, .string a1_2] 26 (0, 0)) (xK_ BK415.out)) : gb415 ≠ gb416)); have n9_ := A0_.mk ((by rw [hg]; exact Nat.ne_of_gt (blk_lt (g := gb415) (o := .cells #[.bool a1_0, .string a1_1, .string a1_2] 26 (0, 0)) (xK_ BK415.out)) : gb416 ≠ gb415)); clear BK414 BK415 HB; have BK414 := n0_; have BK415 := n1_; have HB := n2_; have BK416 := n3_; have GW416 := n4_; have GE416 := n5_; have NB414_416 := n6_; have NB416_414 := n7_; have NB415_416 := n8_; have NB416_415 := n9_; clear n0_ n1_ n2_ n3_ n4_ n5_ n6_ n7_ n8_ n9_; clear hb hbox hg; have hnb22 := NB414_415.out; have hnc22 := NB415_414.out; have hnb23 := NB414_416.out; have hnc23 := NB416_414.out; have hcz24_0 : w21.cell? ⟨gb414, 0, none⟩ = some (.bool a0_0) := (kc_ BK414.out 0).trans rfl; have hcz24_1 : w21.cell? ⟨gb414, 1, none⟩ = some (.string a0_1) := (kc_ BK414.out 1).trans rfl; have hcz24_2 : w21.cell? ⟨gb414, 2, none⟩ = some (.string a0_2) := (kc_ BK414.out 2).trans rfl; have hfz24_0 := kF_ BK414.out 0; have hfz24_1 := kF_ BK414.out 1; have hfz24_2 := kF_ BK414.out 2; have hnb25 := NB415_416.out; have hnc25 := NB416_415.out; have hcz26_0 : w21.cell? ⟨gb415, 0, none⟩ = some (.bool a1_0) := (kc_ BK415.out 0).trans rfl; have hcz26_1 : w21.cell? ⟨gb415, 1, none⟩ = some (.string a1_1) := (kc_ BK415.out 1).trans rfl; have hcz26_2 : w21.cell? ⟨gb415, 2, none⟩ = some (.string a1_2) := (kc_ BK415.out 2).trans rfl; have hfz26_0 := kF_ BK415.out 0; have hfz26_1 := kF_ BK415.out 1; have hfz26_2 := kF_ BK415.out 2) | ((with_reducible refine gC_ (f := 20) rfl ?_); refine goesL_ (some 7) rfl rfl Tryd.func20 (by kernel_rfl) rfl #[.agg #[.bool a0_0, .string a0_1, .string a0_2], .agg #[.bool a1_0, .string a1_1, .string a1_2]] rfl mp_ ?_; (with_reducible refine (rational_Compare.calls k a0_0 a0_1 a0_2 a1_0 a1_1 a1_2 t417 _ A3.out).mono ?_); rintro e w27 ⟨rfl, hb⟩; refine ⟨_, rfl, ?_⟩; have n0_ := A0_.mk (kB_ (g := gb414) (o := .cells #[.bool a0_0, .string a0_1, .string a0_2] 26 (0, 0)) (xK_ BK414.out) hb); have n1_ := A0_.mk (kB_ (g := gb415) (o := .cells #[.bool a1_0, .string a1_1, .string a1_2] 26 (0, 0)) (xK_ BK415.out) hb); have n2_ := A0_.mk (kB_ (g := gb416) (o := .cells #[.bool false, .string (⟨#[]⟩ : ByteArray), .string (⟨#[]⟩ : ByteArray)] 26 (0, 0)) (xK_ BK416.out) hb); have n3_ := A0_.mk (bT_ (xB3_ HB GE414 GE415 GE416) hb); clear BK414 BK415 BK416 HB; have BK414 := n0_; have BK415 := n1_; have BK416 := n2_; have HB := n3_; clear n0_ n1_ n2_ n3_; (try clear hb); (try clear hb2); (try clear hk); (try clear hi); have hcz28_0 : w27.cell? ⟨gb415, 0, none⟩ = some (.bool a1_0) := (kc_ BK415.out 0).trans rfl; have hcz28_1 : w27.cell? ⟨gb415, 1, none⟩ = some (.string a1_1) := (kc_ BK415.out 1).trans rfl; have hcz28_2 : w27.cell? ⟨gb415, 2, none⟩ = some (.string a1_2) := (kc_ BK415.out 2).trans rfl; have hfz28_0 := kF_ BK415.out 0; have hfz28_1 := kF_ BK415.out 1; have hfz28_2 := kF_ BK415.out 2) | ((with_reducible refine gC_ (f := 43) rfl ?_); refine goesL_ (some 12) rfl rfl Tryd.func43 (by kernel_rfl) rfl #[.agg #[.bool a1_0, .string a1_1, .string a1_2]] rfl mp_ ?_; (with_reducible refine (rational_clean.calls k a1_0 a1_1 a1_2 t421 t422 t423 _ A18.out).mono ?_); rintro e w29 ⟨rfl, hb⟩; refine ⟨_, rfl, ?_⟩; have n0_ := A0_.mk (kB_ (g := gb414) (o := .cells #[.bool a0_0, .string a0_1, .string a0_2] 26 (0, 0)) (xK_ BK414.out) hb); have n1_ := A0_.mk (kB_ (g := gb415) (o := .cells #[.bool a1_0, .string a1_1, .string a1_2] 26 (0, 0)) (xK_ BK415.out) hb); have n2_ := A0_.mk (kB_ (g := gb416) (o := .cells #[.bool false, .string (⟨#[]⟩ : ByteArray), .string (⟨#[]⟩ : ByteArray)] 26 (0, 0)) (xK_ BK416.out) hb); have n3_ := A0_.mk (bT_ (xB3_ HB GE414 GE415 GE416) hb); clear BK414 BK415 BK416 HB; have BK414 := n0_; have BK415 := n1_; have BK416 := n2_; have HB := n3_; clear n0_ n1_ n2_ n3_; (try clear hb); (try clear hb2); (try clear hk); (try clear hi); have hcz30_0 : w29.cell? ⟨gb416, 0, none⟩ = some (.bool false) := (kc_ BK416.out 0).trans rfl; have hcz30_1 : w29.cell? ⟨gb416, 1, none⟩ = some (.string (⟨#[]⟩ : ByteArray)) := (kc_ BK416.out 1).trans rfl; have hcz30_2 : w29.cell? ⟨gb416, 2, none⟩ = some (.string (⟨#[]⟩ : ByteArray)) := (kc_ BK416.out 2).trans rfl; have hfz30_0 := kF_ BK416.out 0; have hfz30_1 := kF_ BK416.out 1; have hfz30_2 := kF_ BK416.out 2))
  refine bodyPost_ret (results_cell_row rfl _ _ gb416 26 #[.bool t421, .string t422, .string t423] (0, 0) _ rfl (by (with_reducible repeat (first | refine kN_ ?_ _ | refine kD_ ?_ | refine kA_ ?_ _)); refine kP_ (cs := #[.bool t421, .string t422, .string (⟨#[]⟩ : ByteArray)]) ?_ 2 _ rfl; (with_reducible repeat (first | refine kN_ ?_ _ | refine kD_ ?_ | refine kA_ ?_ _)); refine kP_ (cs := #[.bool t421, .string (⟨#[]⟩ : ByteArray), .string (⟨#[]⟩ : ByteArray)]) ?_ 1 _ rfl; (with_reducible repeat (first | refine kN_ ?_ _ | refine kD_ ?_ | refine kA_ ?_ _)); refine kP_ (cs := #[.bool false, .string (⟨#[]⟩ : ByteArray), .string (⟨#[]⟩ : ByteArray)]) ?_ 0 _ rfl; (with_reducible repeat (first | refine kN_ ?_ _ | refine kD_ ?_ | refine kA_ ?_ _)); exact BK416.out) Tryd.underlying26 rfl (by kernel_rfl)) rfl ?_
  exact ⟨rE_, xB3_ HB GE414 GE415 GE416⟩
def bits_Add32.f (a0 : Int) (a1 : Int) (a2 : Int) : Option (Int × Int) := some ((IntKind.u64.wrap ((IntKind.u64.wrap ((IntKind.u64.wrap (a0)) + (IntKind.u64.wrap (a1)))) + (IntKind.u64.wrap (a2)))) % 4294967296, ((IntKind.u64.wrap ((IntKind.u64.wrap ((IntKind.u64.wrap (a0)) + (IntKind.u64.wrap (a1)))) + (IntKind.u64.wrap (a2)))) / 4294967296) % 4294967296)
set_option maxHeartbeats 8000000 in
set_option maxRecDepth 100000 in
theorem bits_Add32.calls (a0 : Int) (a1 : Int) (a2 : Int) (r1 : Int) (r2 : Int) (w : World) (h : bits_Add32.f a0 a1 a2 = some (r1, r2)) :
  Calls Tryd.prog 80 #[.int .u32 a0, .int .u32 a1, .int .u32 a2] w fun e w' => e = .returned (.tuple #[.int .u32 r1, .int .u32 r2]) ∧ Drawn0 w w' := by
 have H := h
 unfold bits_Add32.f at H
 clear h
 simp only [Option.some.injEq, Prod.mk.injEq] at H
 obtain ⟨rfl, rfl⟩ := H
 go_enter Tryd.func80, Tryd.ntmps80
 go_wp2
 go_ret2
 exact ⟨by first | rfl | (simp; done) | (simp [*]; done), by repeat (first | exact Drawn0.refl _ | apply Drawn0.step)⟩
mutual
def natural_Add.j0 : Nat → List Int → List Int → Option (ByteArray)
 | 0, _, _ => none
 | k + 1, x5, x6 => if 0 ≤ (wrap64 ((x5.length : Int) + 1)) then (if (wrap64 ((x5.length : Int) + 1) : Int).toNat ≤ 70368744177664 then (natural_Add.l0 k x5 x6 (List.replicate (wrap64 ((x5.length : Int) + 1) : Int).toNat 0) 0 (x5.length : Int) 0) else (none)) else (none)
def natural_Add.l0 : Nat → List Int → List Int → List Int → Int → Int → Int → Option (ByteArray)
 | 0, _, _, _, _, _, _ => none
 | k + 1, x5, x6, x7, x8, x27, x28 => if x28 < x27 then (if x28 < (x6.length : Int) then (if 0 ≤ x28 then (if x28 < (x5.length : Int) then ((bits_Add32.f (rd x5 x28) (rd x6 x28) x8).bind fun bt307 => (if x28 < (x7.length : Int) then (natural_Add.l0 k x5 x6 (x7.set (x28 : Int).toNat bt307.1) bt307.2 x27 (wrap64 (x28 + 1))) else (none))) else (none)) else (none)) else (if 0 ≤ x28 then (if x28 < (x5.length : Int) then ((bits_Add32.f (rd x5 x28) 0 x8).bind fun bt311 => (if x28 < (x7.length : Int) then (natural_Add.l0 k x5 x6 (x7.set (x28 : Int).toNat bt311.1) bt311.2 x27 (wrap64 (x28 + 1))) else (none))) else (none)) else (none))) else (if 0 ≤ (x5.length : Int) then (if (x5.length : Int) < (x7.length : Int) then ((natural_limbs_text.f k (x7.set ((x5.length : Int) : Int).toNat x8)).bind fun t315 => (some t315)) else (none)) else (none))
end
def natural_Add.f (k : Nat) (a0 : ByteArray) (a1 : ByteArray) : Option (ByteArray) := (natural_parse.f k a0).bind fun t296 => ((natural_parse.f k a1).bind fun t299 => (if (t296.length : Int) < (t299.length : Int) then (natural_Add.j0 k t299 t296) else (natural_Add.j0 k t296 t299)))
theorem natural_Add.mono_l : ∀ k, (∀ y0 y1, LeO (natural_Add.j0 k y0 y1) (natural_Add.j0 (k + 1) y0 y1)) ∧ (∀ y0 y1 y2 y3 y4 y5, LeO (natural_Add.l0 k y0 y1 y2 y3 y4 y5) (natural_Add.l0 (k + 1) y0 y1 y2 y3 y4 y5))
 | 0 => ⟨fun _ _ r h => by simp [natural_Add.j0] at h, fun _ _ _ _ _ _ r h => by simp [natural_Add.l0] at h⟩
 | k + 1 => by
  obtain ⟨ih0, ih1⟩ := natural_Add.mono_l k
  refine ⟨?_, ?_⟩
  ·intro y0 y1
   unfold natural_Add.j0
   repeat' first
   | (with_reducible exact ih0 _ _)
   | (with_reducible exact ih1 _ _ _ _ _ _)
   | (with_reducible exact natural_limbs_text.mono _ _)
   | (with_reducible exact natural_parse.mono _ _)
   | (with_reducible exact LeO.refl _)
   | (with_reducible exact LeO.none _)
   | (with_reducible refine LeO.ite ?_ ?_)
   | (with_reducible refine LeO.bind ?_ (fun _ => ?_))
  ·intro y0 y1 y2 y3 y4 y5
   unfold natural_Add.l0
   repeat' first
   | (with_reducible exact ih0 _ _)
   | (with_reducible exact ih1 _ _ _ _ _ _)
   | (with_reducible exact natural_limbs_text.mono _ _)
   | (with_reducible exact natural_parse.mono _ _)
   | (with_reducible exact LeO.refl _)
   | (with_reducible exact LeO.none _)
   | (with_reducible refine LeO.ite ?_ ?_)
   | (with_reducible refine LeO.bind ?_ (fun _ => ?_))
theorem natural_Add.mono : ∀ a0 a1 k, LeO (natural_Add.f k a0 a1) (natural_Add.f (k + 1) a0 a1) := by
 intro a0 a1 k
 obtain ⟨ih0, ih1⟩ := natural_Add.mono_l k
 unfold natural_Add.f
 repeat' first
   | (with_reducible exact ih0 _ _)
   | (with_reducible exact ih1 _ _ _ _ _ _)
   | (with_reducible exact natural_limbs_text.mono _ _)
   | (with_reducible exact natural_parse.mono _ _)
   | (with_reducible exact LeO.refl _)
   | (with_reducible exact LeO.none _)
   | (with_reducible refine LeO.ite ?_ ?_)
   | (with_reducible refine LeO.bind ?_ (fun _ => ?_))
set_option maxHeartbeats 8000000 in
set_option maxRecDepth 100000 in
theorem natural_Add.calls (k : Nat) (a0 : ByteArray) (a1 : ByteArray) (r : ByteArray) (w : World) (h : natural_Add.f k a0 a1 = some r) :
  Calls Tryd.prog 66 #[.string a0, .string a1] w fun e w' => e = .returned (.string r) ∧ Below w.heap.size w w' := by
 have HB := A0_.mk (Below.refl w.heap.size w)
 have H := h
 unfold natural_Add.f at H
 clear h
 replace H := Option.bind_eq_some_iff.mp H
 obtain ⟨t296, A30, H⟩ := H
 (try dsimp only at H)
 have A3 := A0_.mk A30
 clear A30
 replace H := Option.bind_eq_some_iff.mp H
 obtain ⟨t299, A40, H⟩ := H
 (try dsimp only at H)
 have A4 := A0_.mk A40
 clear A40
 have HC5 := A0_.mk H
 clear H
 go_enter Tryd.func66, Tryd.ntmps66
 go_upto_if 19 with (first | ((with_reducible refine gC_ (f := 64) rfl ?_); refine goesL_ (some 12) rfl rfl Tryd.func64 (by kernel_rfl) rfl #[.string a0] rfl mp_ ?_; (with_reducible refine (natural_parse.calls k a0 t296 _ A3.out).mono ?_); rintro e w6 ⟨v297, rfl, ho0, hb⟩; refine ⟨_, rfl, ?_⟩; have n0_ := A0_.mk (Kd.R_lower ho0 (bZ_ (xB_ HB))); have n1_ := A0_.mk (bT_ (xB_ HB) hb); clear HB; have HO298 := n0_; have HB := n1_; clear n0_ n1_; (try clear hb); (try clear hb2); (try clear hk); (try clear hi); (try clear ho0)) | ((with_reducible refine gC_ (f := 64) rfl ?_); refine goesL_ (some 14) rfl rfl Tryd.func64 (by kernel_rfl) rfl #[.string a1] rfl mp_ ?_; (with_reducible refine (natural_parse.calls k a1 t299 _ A4.out).mono ?_); rintro e w7 ⟨v300, rfl, ho0, hb⟩; refine ⟨_, rfl, ?_⟩; have n0_ := A0_.mk (Kd.R_elder' (xR_ HO298.out) (Kd.R_base ho0) hb); have n1_ := A0_.mk (Kd.R_lower (Kd.R_new' ho0 (Kd.R_lt (xR_ HO298.out))) (bZ_ (xB_ HB))); have n2_ := A0_.mk (bT_ (xB_ HB) hb); clear HO298 HB; have HO298 := n0_; have HO301 := n1_; have HB := n2_; clear n0_ n1_ n2_; (try clear hb); (try clear hb2); (try clear hk); (try clear hi); (try clear ho0); obtain ⟨Ao8, co8, eo8⟩ := Kd.R_slice HO298.out; subst eo8; obtain ⟨Ao9, co9, eo9⟩ := Kd.R_slice HO301.out; subst eo9))
 (try simp only [Act.put, s1_, s2_, s3_])
 go_cut [5, 6] (fun v5 v6 wc => ∃ (kq : Nat) (x5_4 : List Int) (x6_4 : List Int), A0_ (natural_Add.j0 kq x5_4 x6_4 = some r) ∧ A0_ (kq ≤ k) ∧ A0_ (Kd.R (Kd.int .u32) 89 wc w.heap.size (fun k_ => some k_ ≠ (v6 : Value).ownBlock) v5 x5_4) ∧ A0_ (Kd.R (Kd.int .u32) 89 wc w.heap.size (fun k_ => some k_ ≠ (v5 : Value).ownBlock) v6 x6_4) ∧ A0_ (Below w.heap.size w wc))
 case first =>
  have H := HC5.out
  clear HC5
  by_cases c10 : (t296.length : Int) < (t299.length : Int)
  ·rw [if_pos c10] at H
   have c10b0 : decide ((t296.length : Int) < (t299.length : Int)) = true := decide_eq_true c10
   have c10b1 : decide (t296.length < t299.length) = true := decide_eq_true (Int.ofNat_lt.mp c10)
   clear c10
   (first | rw [c10b0] | rw [c10b1] | (simp only [i64_w, i32_w]; rw [c10b0]) | skip)
   have H' := A0_.mk H
   clear H
   go_wp2
   go_meet
   case rel => exact ⟨_, (t299), (t296), H', ⟨by first | omega | exact Nat.le_refl _⟩, ⟨by (with_reducible repeat (first | apply Kd.R_alloc | apply Kd.R_drewN | apply Kd.R_drew)); exact Kd.R_mono HO301.out (fun _ hk => hk.2)⟩, ⟨by (with_reducible repeat (first | apply Kd.R_alloc | apply Kd.R_drewN | apply Kd.R_drew)); exact Kd.R_mono HO298.out (fun _ hk => hk.2)⟩, ⟨xB_ HB⟩⟩
  ·rw [if_neg c10] at H
   have c10b0 : decide ((t296.length : Int) < (t299.length : Int)) = false := decide_eq_false c10
   have c10b1 : decide (t296.length < t299.length) = false := decide_eq_false (fun h => c10 (Int.ofNat_lt.mpr h))
   clear c10
   (first | rw [c10b0] | rw [c10b1] | (simp only [i64_w, i32_w]; rw [c10b0]) | skip)
   have H' := A0_.mk H
   clear H
   go_wp2
   go_meet
   case rel => exact ⟨_, (t296), (t299), H', ⟨by first | omega | exact Nat.le_refl _⟩, ⟨by (with_reducible repeat (first | apply Kd.R_alloc | apply Kd.R_drewN | apply Kd.R_drew)); exact Kd.R_mono HO298.out (fun _ hk => hk.2)⟩, ⟨by (with_reducible repeat (first | apply Kd.R_alloc | apply Kd.R_drewN | apply Kd.R_drew)); exact Kd.R_mono HO301.out (fun _ hk => hk.2)⟩, ⟨xB_ HB⟩⟩
 case rest =>
  clear HC5
  try clear c1
  try clear p2
  try clear c6
  try clear c10
  try clear c10b0
  try clear c10b1
  obtain ⟨kq, x5_4, x6_4, HA, HJ4, HO_5, HO_6, HB⟩ := hcut
  cases kq with
  | zero => exact absurd HA.out (by simp [natural_Add.j0])
  | succ kj4 =>
   have H := HA.out
   clear HA
   simp only [natural_Add.j0] at H
   obtain ⟨ji11, hji11⟩ : ∃ j_ : Int, (wrap64 ((x5_4.length : Int) + 1)) = j_ := ⟨_, rfl⟩
   replace H : (if 0 ≤ (ji11) then (if (ji11 : Int).toNat ≤ 70368744177664 then (natural_Add.l0 kj4 x5_4 x6_4 (List.replicate (ji11 : Int).toNat 0) 0 (x5_4.length : Int) 0) else (none)) else (none)) = some r := by first | (rw [hji11] at H; exact H) | (simp only [hji11] at H ⊢; exact H)
   have hji11w : (IntKind.i64.wrap ((x5_4.length : Int) + 1)) = ji11 := (i64_w _).trans hji11
   by_cases c12 : 0 ≤ (ji11)
   ·rw [if_pos c12] at H
    have c12b0 := eq_true c12
    have c12b1 : decide (0 ≤ (ji11)) = true := decide_eq_true c12
    clear c12
    by_cases c13 : (ji11 : Int).toNat ≤ 70368744177664
    ·rw [if_pos c13] at H
     have c13b0 := eq_true c13
     have c13b1 : decide ((ji11 : Int).toNat ≤ 70368744177664) = true := decide_eq_true c13
     clear c13
     obtain ⟨y302, hy302⟩ : ∃ y_ : List Int, y_ = (List.replicate (ji11 : Int).toNat 0) := ⟨_, rfl⟩
     replace H : (natural_Add.l0 kj4 x5_4 x6_4 y302 0 (x5_4.length : Int) 0) = some r := by first | (rw [hy302]; with_reducible exact H) | (have H2_ := (Option.bind_some _ _).symm.trans H; rw [hy302]; with_reducible exact H2_) | (have H2_ := (Option.bind_some _ _).symm.trans H; with_reducible exact H2_) | with_reducible exact H | (rw [hy302]; exact H) | exact H
     have Ny302 := A0_.mk hy302
     clear hy302
     have H' := A0_.mk H
     clear H
     obtain ⟨Ao14, co14, eo14⟩ := Kd.R_slice HO_5.out
     subst eo14
     go_wp2_with (first | ((with_reducible refine gD_ (N := 25) rfl ?_); refine Kd.R_make (Kd.int .u32) _ 89 rfl (N := 25) rfl 87 _ _ rfl ji11 rfl rfl Tryd.underlying87 (.int .u32 0) 4 info89 rfl (by decide) (by omega) 0 (ok := fun _ => True) (okp := fun _ => True) rfl (fun _ hk => hk) trivial (of_decide_eq_true aS_) (Nat.le_trans (Nat.mul_le_mul_right _ (of_decide_eq_true aS_ : ji11.toNat ≤ 70368744177664)) (by omega)) (Below.refl _ _) (Nat.le_refl _) ?_; intro v303 w15 ho16 hb hg_ hnew_; clear hg_ hnew_; (first | rw [← Ny302.out] at ho16 | (simp only [Int.reduceToNat] at ho16; rw [← Ny302.out] at ho16)); have n0_ := A0_.mk (Kd.R_elder' (xR_ HO_5.out) (Kd.R_base ho16) hb); have n1_ := A0_.mk (Kd.R_elder' (xR_ HO_6.out) (Kd.R_base ho16) hb); have n2_ := A0_.mk (Kd.R_lower (Kd.R_new' (Kd.R_new' ho16 (Kd.R_lt (xR_ HO_5.out))) (Kd.R_lt (xR_ HO_6.out))) (bZ_ (xB_ HB))); have n3_ := A0_.mk (bT_ (xB_ HB) hb); clear HO_5 HO_6 HB; have HO_5 := n0_; have HO_6 := n1_; have HO304 := n2_; have HB := n3_; clear n0_ n1_ n2_ n3_; clear hb ho16))
     go_loopg [8, 28] kj4 (fun kq v8 v28 w' => ∃ (x7_2 : List Int) (x8_2 : Int) (x28_2 : Int), v8 = .int .u32 x8_2 ∧ v28 = .int .i64 x28_2 ∧ A0_ (natural_Add.l0 kq x5_4 x6_4 x7_2 x8_2 (x5_4.length : Int) x28_2 = some r) ∧ A0_ (kq ≤ kj4) ∧ A0_ (Kd.R (Kd.int .u32) 89 w' w.heap.size (fun k_ => some k_ ≠ (u6 : Value).ownBlock ∧ some k_ ≠ (v303 : Value).ownBlock) (.slice Ao14 x5_4.length co14) x5_4) ∧ A0_ (Kd.R (Kd.int .u32) 89 w' w.heap.size (fun k_ => some k_ ≠ ((.slice Ao14 x5_4.length co14) : Value).ownBlock ∧ some k_ ≠ (v303 : Value).ownBlock) u6 x6_4) ∧ A0_ (Kd.R (Kd.int .u32) 89 w' w.heap.size (fun k_ => some k_ ≠ ((.slice Ao14 x5_4.length co14) : Value).ownBlock ∧ some k_ ≠ (u6 : Value).ownBlock) v303 x7_2) ∧ A0_ (Below w.heap.size w w'))
     case atStart => exact ⟨(y302), (0), (0), (by first | rfl | (simp; done) | (simp [*]; done)), (by first | rfl | (simp; done) | (simp [*]; done)), H', ⟨Nat.le_refl _⟩, ⟨by (with_reducible repeat (first | apply Kd.R_alloc | apply Kd.R_drewN | apply Kd.R_drew)); exact HO_5.out⟩, ⟨by (with_reducible repeat (first | apply Kd.R_alloc | apply Kd.R_drewN | apply Kd.R_drew)); exact HO_6.out⟩, ⟨by (with_reducible repeat (first | apply Kd.R_alloc | apply Kd.R_drewN | apply Kd.R_drew)); exact Kd.R_mono HO304.out (fun _ hk => ⟨hk.1.2, hk.2⟩)⟩, ⟨xB_ HB⟩⟩
     case round =>
      clear H'
      try clear c1
      try clear p2
      try clear c6
      try clear p6
      try clear c10
      try clear c10b0
      try clear c10b1
      try clear c12
      try clear c12b0
      try clear c12b1
      try clear c13
      try clear c13b0
      try clear c13b1
      try clear p2
      obtain ⟨x7_2, x8_2, x28_2, rfl, rfl, HA, HK2, HO_5, HO_6, HO_7, HB⟩ := hrel
      cases gk with
      | zero => exact absurd HA.out (by simp [natural_Add.l0])
      | succ k2 =>
       have H := HA.out
       clear HA
       simp only [natural_Add.l0] at H
       by_cases c17 : x28_2 < (x5_4.length : Int)
       ·rw [if_pos c17] at H
        have c17b0 : decide (x28_2 < (x5_4.length : Int)) = true := decide_eq_true c17
        clear c17
        by_cases c18 : x28_2 < (x6_4.length : Int)
        ·rw [if_pos c18] at H
         have c18b0 : decide (x28_2 < (x6_4.length : Int)) = true := decide_eq_true c18
         clear c18
         by_cases c19 : 0 ≤ x28_2
         ·rw [if_pos c19] at H
          have c19b0 : decide (0 ≤ x28_2) = true := decide_eq_true c19
          clear c19
          by_cases c20 : x28_2 < (x5_4.length : Int)
          ·rw [if_pos c20] at H
           have c20b0 : decide (x28_2 < (x5_4.length : Int)) = true := decide_eq_true c20
           clear c20
           replace H := Option.bind_eq_some_iff.mp H
           obtain ⟨⟨t307, t308⟩, A210, H⟩ := H
           (try dsimp only at H)
           have A21 := A0_.mk A210
           clear A210
           by_cases c22 : x28_2 < (x7_2.length : Int)
           ·rw [if_pos c22] at H
            have c22b0 : decide (x28_2 < (x7_2.length : Int)) = true := decide_eq_true c22
            clear c22
            obtain ⟨y309, hy309⟩ : ∃ y_ : List Int, y_ = (x7_2.set (x28_2 : Int).toNat t307) := ⟨_, rfl⟩
            replace H : (natural_Add.l0 k2 x5_4 x6_4 y309 t308 (x5_4.length : Int) (wrap64 (x28_2 + 1))) = some r := by first | (rw [hy309]; with_reducible exact H) | (have H2_ := (Option.bind_some _ _).symm.trans H; rw [hy309]; with_reducible exact H2_) | (have H2_ := (Option.bind_some _ _).symm.trans H; with_reducible exact H2_) | with_reducible exact H | (rw [hy309]; exact H) | exact H
            have Ny309 := A0_.mk hy309
            clear hy309
            have H' := A0_.mk H
            clear H
            obtain ⟨Ao24, co24, eo24⟩ := Kd.R_slice HO_6.out
            subst eo24
            have p305 : 0 ≤ (x28_2 : Int) := of_decide_eq_true aS_
            have q305 : x28_2 < (x6_4.length : Int) := of_decide_eq_true aS_
            obtain ⟨ad305, e305, hx305_0⟩ := Kd.at_int (Kd.R_reads' HO_6.out).2.2 x28_2 p305 q305
            cases e305
            replace p305 := eq_true p305
            replace q305 := eq_true q305
            have p306 : 0 ≤ (x28_2 : Int) := of_decide_eq_true aS_
            have q306 : x28_2 < (x5_4.length : Int) := of_decide_eq_true aS_
            obtain ⟨ad306, e306, hx306_0⟩ := Kd.at_int (Kd.R_reads' HO_5.out).2.2 x28_2 p306 q306
            cases e306
            replace p306 := eq_true p306
            replace q306 := eq_true q306
            go_wp2_with (first | ((with_reducible refine gC_ (f := 80) rfl ?_); refine goesL_ (some 48) rfl rfl Tryd.func80 (by kernel_rfl) rfl #[.int .u32 (rd x5_4 x28_2), .int .u32 (rd x6_4 x28_2), .int .u32 x8_2] rfl mp_ ?_; (with_reducible refine (bits_Add32.calls (rd x5_4 x28_2) (rd x6_4 x28_2) x8_2 t307 t308 _ A21.out).mono ?_); rintro e w' ⟨rfl, ⟨nd, rfl⟩⟩; refine ⟨_, rfl, ?_⟩; (try (rw [drewN_self wr]; generalize hq_ : World.drewN wr _ = wr; have n0_ : A0_ (Kd.R (Kd.int .u32) 89 wr w.heap.size (fun k_ => some k_ ≠ (.slice (some ad305) x6_4.length co24 : Value).ownBlock ∧ some k_ ≠ (v303 : Value).ownBlock) (.slice (some ad306) x5_4.length co14) x5_4) := ⟨by rw [← hq_]; exact (xR_ HO_5.out)⟩; have n1_ : A0_ (Kd.R (Kd.int .u32) 89 wr w.heap.size (fun k_ => some k_ ≠ (.slice (some ad306) x5_4.length co14 : Value).ownBlock ∧ some k_ ≠ (v303 : Value).ownBlock) (.slice (some ad305) x6_4.length co24) x6_4) := ⟨by rw [← hq_]; exact (xR_ HO_6.out)⟩; have n2_ : A0_ (Kd.R (Kd.int .u32) 89 wr w.heap.size (fun k_ => some k_ ≠ (.slice (some ad306) x5_4.length co14 : Value).ownBlock ∧ some k_ ≠ (.slice (some ad305) x6_4.length co24 : Value).ownBlock) v303 x7_2) := ⟨by rw [← hq_]; exact (xR_ HO_7.out)⟩; have n3_ : A0_ (Below w.heap.size w wr) := ⟨by rw [← hq_]; exact (xB_ HB)⟩; clear HO_5 HO_6 HO_7 HB hq_; have HO_5 := n0_; have HO_6 := n1_; have HO_7 := n2_; have HB := n3_; clear n0_ n1_ n2_ n3_)); have p23 : 0 ≤ (x28_2 : Int) := of_decide_eq_true aS_; have q23 : (x28_2 : Int) < ((x7_2.length : Int) : Int) := of_decide_eq_true aS_; obtain ⟨go23, co23, eo23, gb23, gl23, cl23, HG23⟩ := Kd.R_form HO_7.out (by omega); (first | cases eo23 | (injection eo23 with ea_ en_ ec_; (first | subst ea_ | (injection ea_ with ea_; subst ea_)); subst ec_; clear en_)); have GB23 := A0_.mk gb23; have GG23 := A0_.mk HG23; clear gb23 gl23 HG23; obtain ⟨hx23_0, hf23_0⟩ := Kd.R_celln 0 HO_7.out (x28_2 : Int) p23 q23; replace p23 := eq_true p23; replace q23 := eq_true q23; obtain ⟨hy25_, hz25_⟩ := Kd.R_celln 0 HO_7.out (x28_2 : Int) (of_decide_eq_true aS_) (of_decide_eq_true aS_); have HP25 := Kd.R_putg HO_7.out (x28_2 : Int) t307) | ((with_reducible refine gate_store (t := 89) (p := 51) rfl ?_); refine store_event (t := 89) (p := 51) (v := ?vo_w26) (w1 := (wr.setCell ⟨go23, (x28_2 : Int).toNat, none⟩ (.int .u32 t307))) ?hg ?ho ?hn ?hr ?_; (case ho => rfl); (case hg => rfl); (case hn => rfl); (case hr => first | (go_simp; done) | (go_simp; rfl)); intro w26 hw; have hg : wr.grownBy w26 (some go23) := (by rw [hw]; exact HP25.2); have hp_ : Kd.R (Kd.int .u32) 89 w26 w.heap.size (fun k_ => some k_ ≠ (.slice (some ad306) x5_4.length co14 : Value).ownBlock ∧ some k_ ≠ (.slice (some ad305) x6_4.length co24 : Value).ownBlock) (.slice (some ⟨go23, 0, none⟩) x7_2.length co23) y309 := (by rw [hw, Ny309.out]; exact HP25.1); clear HP25; have n0_ := A0_.mk (Kd.R_after (v := (.slice (some ⟨go23, 0, none⟩) x7_2.length co23)) (v1 := (.slice (some ⟨go23, 0, none⟩) x7_2.length co23)) (ok := (fun k_ => some k_ ≠ (.slice (some ad305) x6_4.length co24 : Value).ownBlock)) (xR_ HO_5.out) hg (.inl rfl)); have n1_ := A0_.mk (Kd.R_after (v := (.slice (some ⟨go23, 0, none⟩) x7_2.length co23)) (v1 := (.slice (some ⟨go23, 0, none⟩) x7_2.length co23)) (ok := (fun k_ => some k_ ≠ (.slice (some ad306) x5_4.length co14 : Value).ownBlock)) (xR_ HO_6.out) hg (.inl rfl)); have n2_ := A0_.mk (hp_); have n3_ := A0_.mk ((by rw [hw]; exact bS_ (HB.out) GB23.out : Below w.heap.size w w26)); clear HO_5 HO_6 HO_7 HB; have HO_5 := n0_; have HO_6 := n1_; have HO_7 := n2_; have HB := n3_; clear n0_ n1_ n2_ n3_; clear hg hw hp_))
            (try simp only [add_plain])
            go_roundg k2
            case measure => have := HJ4.out; have := HK2.out; omega
            case rel => exact ⟨(y309), (t308), (wrap64 (x28_2 + 1)), (by first | rfl | (simp; done) | (simp [*]; done)), (by first | rfl | (simp; done) | (simp [*]; done)), H', ⟨by have := HJ4.out; have := HK2.out; omega⟩, ⟨by (with_reducible repeat (first | apply Kd.R_alloc | apply Kd.R_drewN | apply Kd.R_drew)); exact HO_5.out⟩, ⟨by (with_reducible repeat (first | apply Kd.R_alloc | apply Kd.R_drewN | apply Kd.R_drew)); exact HO_6.out⟩, ⟨by (with_reducible repeat (first | apply Kd.R_alloc | apply Kd.R_drewN | apply Kd.R_drew)); exact HO_7.out⟩, ⟨xB_ HB⟩⟩
           ·rw [if_neg c22] at H
            exact absurd H (by simp)
          ·rw [if_neg c20] at H
           exact absurd H (by simp)
         ·rw [if_neg c19] at H
          exact absurd H (by simp)
        ·rw [if_neg c18] at H
         have c18b0 : decide (x28_2 < (x6_4.length : Int)) = false := decide_eq_false c18
         clear c18
         by_cases c27 : 0 ≤ x28_2
         ·rw [if_pos c27] at H
          have c27b0 : decide (0 ≤ x28_2) = true := decide_eq_true c27
          clear c27
          by_cases c28 : x28_2 < (x5_4.length : Int)
          ·rw [if_pos c28] at H
           have c28b0 : decide (x28_2 < (x5_4.length : Int)) = true := decide_eq_true c28
           clear c28
           replace H := Option.bind_eq_some_iff.mp H
           obtain ⟨⟨t311, t312⟩, A290, H⟩ := H
           (try dsimp only at H)
           have A29 := A0_.mk A290
           clear A290
           by_cases c30 : x28_2 < (x7_2.length : Int)
           ·rw [if_pos c30] at H
            have c30b0 : decide (x28_2 < (x7_2.length : Int)) = true := decide_eq_true c30
            clear c30
            obtain ⟨y313, hy313⟩ : ∃ y_ : List Int, y_ = (x7_2.set (x28_2 : Int).toNat t311) := ⟨_, rfl⟩
            replace H : (natural_Add.l0 k2 x5_4 x6_4 y313 t312 (x5_4.length : Int) (wrap64 (x28_2 + 1))) = some r := by first | (rw [hy313]; with_reducible exact H) | (have H2_ := (Option.bind_some _ _).symm.trans H; rw [hy313]; with_reducible exact H2_) | (have H2_ := (Option.bind_some _ _).symm.trans H; with_reducible exact H2_) | with_reducible exact H | (rw [hy313]; exact H) | exact H
            have Ny313 := A0_.mk hy313
            clear hy313
            have H' := A0_.mk H
            clear H
            obtain ⟨Ao32, co32, eo32⟩ := Kd.R_slice HO_6.out
            subst eo32
            have p310 : 0 ≤ (x28_2 : Int) := of_decide_eq_true aS_
            have q310 : x28_2 < (x5_4.length : Int) := of_decide_eq_true aS_
            obtain ⟨ad310, e310, hx310_0⟩ := Kd.at_int (Kd.R_reads' HO_5.out).2.2 x28_2 p310 q310
            cases e310
            replace p310 := eq_true p310
            replace q310 := eq_true q310
            go_wp2_with (first | ((with_reducible refine gC_ (f := 80) rfl ?_); refine goesL_ (some 48) rfl rfl Tryd.func80 (by kernel_rfl) rfl #[.int .u32 (rd x5_4 x28_2), .int .u32 0, .int .u32 x8_2] rfl mp_ ?_; (with_reducible refine (bits_Add32.calls (rd x5_4 x28_2) 0 x8_2 t311 t312 _ A29.out).mono ?_); rintro e w' ⟨rfl, ⟨nd, rfl⟩⟩; refine ⟨_, rfl, ?_⟩; (try (rw [drewN_self wr]; generalize hq_ : World.drewN wr _ = wr; have n0_ : A0_ (Kd.R (Kd.int .u32) 89 wr w.heap.size (fun k_ => some k_ ≠ (.slice Ao32 x6_4.length co32 : Value).ownBlock ∧ some k_ ≠ (v303 : Value).ownBlock) (.slice (some ad310) x5_4.length co14) x5_4) := ⟨by rw [← hq_]; exact (xR_ HO_5.out)⟩; have n1_ : A0_ (Kd.R (Kd.int .u32) 89 wr w.heap.size (fun k_ => some k_ ≠ (.slice (some ad310) x5_4.length co14 : Value).ownBlock ∧ some k_ ≠ (v303 : Value).ownBlock) (.slice Ao32 x6_4.length co32) x6_4) := ⟨by rw [← hq_]; exact (xR_ HO_6.out)⟩; have n2_ : A0_ (Kd.R (Kd.int .u32) 89 wr w.heap.size (fun k_ => some k_ ≠ (.slice (some ad310) x5_4.length co14 : Value).ownBlock ∧ some k_ ≠ (.slice Ao32 x6_4.length co32 : Value).ownBlock) v303 x7_2) := ⟨by rw [← hq_]; exact (xR_ HO_7.out)⟩; have n3_ : A0_ (Below w.heap.size w wr) := ⟨by rw [← hq_]; exact (xB_ HB)⟩; clear HO_5 HO_6 HO_7 HB hq_; have HO_5 := n0_; have HO_6 := n1_; have HO_7 := n2_; have HB := n3_; clear n0_ n1_ n2_ n3_)); have p31 : 0 ≤ (x28_2 : Int) := of_decide_eq_true aS_; have q31 : (x28_2 : Int) < ((x7_2.length : Int) : Int) := of_decide_eq_true aS_; obtain ⟨go31, co31, eo31, gb31, gl31, cl31, HG31⟩ := Kd.R_form HO_7.out (by omega); (first | cases eo31 | (injection eo31 with ea_ en_ ec_; (first | subst ea_ | (injection ea_ with ea_; subst ea_)); subst ec_; clear en_)); have GB31 := A0_.mk gb31; have GG31 := A0_.mk HG31; clear gb31 gl31 HG31; obtain ⟨hx31_0, hf31_0⟩ := Kd.R_celln 0 HO_7.out (x28_2 : Int) p31 q31; replace p31 := eq_true p31; replace q31 := eq_true q31; obtain ⟨hy33_, hz33_⟩ := Kd.R_celln 0 HO_7.out (x28_2 : Int) (of_decide_eq_true aS_) (of_decide_eq_true aS_); have HP33 := Kd.R_putg HO_7.out (x28_2 : Int) t311) | ((with_reducible refine gate_store (t := 89) (p := 51) rfl ?_); refine store_event (t := 89) (p := 51) (v := ?vo_w34) (w1 := (wr.setCell ⟨go31, (x28_2 : Int).toNat, none⟩ (.int .u32 t311))) ?hg ?ho ?hn ?hr ?_; (case ho => rfl); (case hg => rfl); (case hn => rfl); (case hr => first | (go_simp; done) | (go_simp; rfl)); intro w34 hw; have hg : wr.grownBy w34 (some go31) := (by rw [hw]; exact HP33.2); have hp_ : Kd.R (Kd.int .u32) 89 w34 w.heap.size (fun k_ => some k_ ≠ (.slice (some ad310) x5_4.length co14 : Value).ownBlock ∧ some k_ ≠ (.slice Ao32 x6_4.length co32 : Value).ownBlock) (.slice (some ⟨go31, 0, none⟩) x7_2.length co31) y313 := (by rw [hw, Ny313.out]; exact HP33.1); clear HP33; have n0_ := A0_.mk (Kd.R_after (v := (.slice (some ⟨go31, 0, none⟩) x7_2.length co31)) (v1 := (.slice (some ⟨go31, 0, none⟩) x7_2.length co31)) (ok := (fun k_ => some k_ ≠ (.slice Ao32 x6_4.length co32 : Value).ownBlock)) (xR_ HO_5.out) hg (.inl rfl)); have n1_ := A0_.mk (Kd.R_after (v := (.slice (some ⟨go31, 0, none⟩) x7_2.length co31)) (v1 := (.slice (some ⟨go31, 0, none⟩) x7_2.length co31)) (ok := (fun k_ => some k_ ≠ (.slice (some ad310) x5_4.length co14 : Value).ownBlock)) (xR_ HO_6.out) hg (.inl rfl)); have n2_ := A0_.mk (hp_); have n3_ := A0_.mk ((by rw [hw]; exact bS_ (HB.out) GB31.out : Below w.heap.size w w34)); clear HO_5 HO_6 HO_7 HB; have HO_5 := n0_; have HO_6 := n1_; have HO_7 := n2_; have HB := n3_; clear n0_ n1_ n2_ n3_; clear hg hw hp_))
            (try simp only [add_plain])
            go_roundg k2
            case measure => have := HJ4.out; have := HK2.out; omega
            case rel => exact ⟨(y313), (t312), (wrap64 (x28_2 + 1)), (by first | rfl | (simp; done) | (simp [*]; done)), (by first | rfl | (simp; done) | (simp [*]; done)), H', ⟨by have := HJ4.out; have := HK2.out; omega⟩, ⟨by (with_reducible repeat (first | apply Kd.R_alloc | apply Kd.R_drewN | apply Kd.R_drew)); exact HO_5.out⟩, ⟨by (with_reducible repeat (first | apply Kd.R_alloc | apply Kd.R_drewN | apply Kd.R_drew)); exact HO_6.out⟩, ⟨by (with_reducible repeat (first | apply Kd.R_alloc | apply Kd.R_drewN | apply Kd.R_drew)); exact HO_7.out⟩, ⟨xB_ HB⟩⟩
           ·rw [if_neg c30] at H
            exact absurd H (by simp)
          ·rw [if_neg c28] at H
           exact absurd H (by simp)
         ·rw [if_neg c27] at H
          exact absurd H (by simp)
       ·rw [if_neg c17] at H
        have c17b0 : decide (x28_2 < (x5_4.length : Int)) = false := decide_eq_false c17
        clear c17
        by_cases c35 : 0 ≤ (x5_4.length : Int)
        ·rw [if_pos c35] at H
         have c35b0 : decide (0 ≤ (x5_4.length : Int)) = true := decide_eq_true c35
         have c35b1 : decide (0 ≤ x5_4.length) = true := decide_eq_true (by omega)
         clear c35
         by_cases c36 : (x5_4.length : Int) < (x7_2.length : Int)
         ·rw [if_pos c36] at H
          have c36b0 : decide ((x5_4.length : Int) < (x7_2.length : Int)) = true := decide_eq_true c36
          have c36b1 : decide (x5_4.length < x7_2.length) = true := decide_eq_true (Int.ofNat_lt.mp c36)
          clear c36
          obtain ⟨y314, hy314⟩ : ∃ y_ : List Int, y_ = (x7_2.set ((x5_4.length : Int) : Int).toNat x8_2) := ⟨_, rfl⟩
          replace H : ((natural_limbs_text.f k2 y314).bind fun t315 => (some t315)) = some r := by first | (rw [hy314]; with_reducible exact H) | (have H2_ := (Option.bind_some _ _).symm.trans H; rw [hy314]; with_reducible exact H2_) | (have H2_ := (Option.bind_some _ _).symm.trans H; with_reducible exact H2_) | with_reducible exact H | (rw [hy314]; exact H) | exact H
          have Ny314 := A0_.mk hy314
          clear hy314
          replace H := Option.bind_eq_some_iff.mp H
          obtain ⟨t315, A380, H⟩ := H
          (try dsimp only at H)
          have A38 := A0_.mk A380
          clear A380
          obtain rfl := Option.some.inj H
          have p37 : 0 ≤ ((x5_4.length : Int) : Int) := of_decide_eq_true aS_
          have q37 : ((x5_4.length : Int) : Int) < ((x7_2.length : Int) : Int) := of_decide_eq_true aS_
          obtain ⟨go37, co37, eo37, gb37, gl37, cl37, HG37⟩ := Kd.R_form HO_7.out (by omega)
          (first | cases eo37 | (injection eo37 with ea_ en_ ec_; (first | subst ea_ | (injection ea_ with ea_; subst ea_)); subst ec_; clear en_))
          have GB37 := A0_.mk gb37
          have GG37 := A0_.mk HG37
          clear gb37 gl37 HG37
          obtain ⟨hx37_0, hf37_0⟩ := Kd.R_celln 0 HO_7.out ((x5_4.length : Int) : Int) p37 q37
          (try simp only [Int.toNat_natCast] at hx37_0 hf37_0)
          replace p37 := eq_true p37
          replace q37 := eq_true q37
          have HP39 := Kd.R_putg HO_7.out ((x5_4.length : Int) : Int) x8_2
          go_wp2_with (first | ((with_reducible refine gate_store (t := 89) (p := 57) rfl ?_); refine store_event (t := 89) (p := 57) (v := ?vo_w40) (w1 := (wr.setCell ⟨go37, ((x5_4.length : Int) : Int).toNat, none⟩ (.int .u32 x8_2))) ?hg ?ho ?hn ?hr ?_; (case ho => rfl); (case hg => rfl); (case hn => rfl); (case hr => first | (go_simp; done) | (go_simp; rfl)); intro w40 hw; have hg : wr.grownBy w40 (some go37) := (by rw [hw]; exact HP39.2); have hp_ : Kd.R (Kd.int .u32) 89 w40 w.heap.size (fun k_ => some k_ ≠ (.slice Ao14 x5_4.length co14 : Value).ownBlock ∧ some k_ ≠ (u6 : Value).ownBlock) (.slice (some ⟨go37, 0, none⟩) x7_2.length co37) y314 := (by rw [hw, Ny314.out]; exact HP39.1); clear HP39; have n0_ := A0_.mk (Kd.R_after (v := (.slice (some ⟨go37, 0, none⟩) x7_2.length co37)) (v1 := (.slice (some ⟨go37, 0, none⟩) x7_2.length co37)) (ok := (fun k_ => some k_ ≠ (u6 : Value).ownBlock)) (xR_ HO_5.out) hg (.inl rfl)); have n1_ := A0_.mk (Kd.R_after (v := (.slice (some ⟨go37, 0, none⟩) x7_2.length co37)) (v1 := (.slice (some ⟨go37, 0, none⟩) x7_2.length co37)) (ok := (fun k_ => some k_ ≠ (.slice Ao14 x5_4.length co14 : Value).ownBlock)) (xR_ HO_6.out) hg (.inl rfl)); have n2_ := A0_.mk (hp_); have n3_ := A0_.mk ((by rw [hw]; exact bS_ (HB.out) GB37.out : Below w.heap.size w w40)); clear HO_5 HO_6 HO_7 HB; have HO_5 := n0_; have HO_6 := n1_; have HO_7 := n2_; have HB := n3_; clear n0_ n1_ n2_ n3_; clear hg hw hp_) | ((with_reducible refine gC_ (f := 65) rfl ?_); refine goesL_ (some 59) rfl rfl Tryd.func65 (by kernel_rfl) rfl #[.slice (some ⟨go37, 0, none⟩) y314.length co37] rfl (by (try simp only [List.map_toArray, List.map_cons, List.map_nil]); first | done | (rw [show y314.length = x7_2.length from (Kd.R_reads' HO_7.out).1.symm] <;> rfl) | rfl | (simp only [List.length_drop, List.length_take]; rfl)) ?_; (with_reducible refine (natural_limbs_text.calls k2 _ _ y314 t315 _ ?side1 ?side2 A38.out).mono ?_); (case side1 => repeat (first | exact (Kd.R_reads' HO_7.out).2.2 | (with_reducible refine Kd.C_alloc ?_ _) | (with_reducible refine Kd.C_drewN ?_ _) | (with_reducible refine Kd.C_drew ?_))); (case side2 => rw [show y314.length = x7_2.length from (Kd.R_reads' HO_7.out).1.symm]; exact (Kd.R_reads' HO_7.out).2.1); rintro e w41 ⟨rfl, hb⟩; refine ⟨_, rfl, ?_⟩; have n0_ := A0_.mk (Kd.R_below (xR_ HO_5.out) hb); have n1_ := A0_.mk (Kd.R_below (xR_ HO_6.out) hb); have n2_ := A0_.mk (Kd.R_below (xR_ HO_7.out) hb); have n3_ := A0_.mk (bT_ (xB_ HB) hb); clear HO_5 HO_6 HO_7 HB; have HO_5 := n0_; have HO_6 := n1_; have HO_7 := n2_; have HB := n3_; clear n0_ n1_ n2_ n3_; (try clear hb); (try clear hb2); (try clear hk); (try clear hi)))
          go_ret
          exact ⟨by first | rfl | (simp [errW_none, errW_some] <;> rfl) | (simp only [← hji11]; first | rfl | (simp [errW_none, errW_some] <;> rfl)) | (simp [*, errW_none, errW_some] <;> rfl), xB_ HB⟩
         ·rw [if_neg c36] at H
          exact absurd H (by simp)
        ·rw [if_neg c35] at H
         exact absurd H (by simp)
    ·rw [if_neg c13] at H
     exact absurd H (by simp)
   ·rw [if_neg c12] at H
    exact absurd H (by simp)
def bits_Sub32.f (a0 : Int) (a1 : Int) (a2 : Int) : Option (Int × Int) := some ((((a0 - a1) % 4294967296) - a2) % 4294967296, (Go.bits .or .u32 (Go.bits .and .u32 (Go.bits .xor .u32 4294967295 a0) a1) (Go.bits .and .u32 (Go.bits .xor .u32 4294967295 (Go.bits .xor .u32 a0 a1)) ((((a0 - a1) % 4294967296) - a2) % 4294967296))) / 2147483648)
set_option maxHeartbeats 8000000 in
set_option maxRecDepth 100000 in
theorem bits_Sub32.calls (a0 : Int) (a1 : Int) (a2 : Int) (r1 : Int) (r2 : Int) (w : World) (h : bits_Sub32.f a0 a1 a2 = some (r1, r2)) :
  Calls Tryd.prog 101 #[.int .u32 a0, .int .u32 a1, .int .u32 a2] w fun e w' => e = .returned (.tuple #[.int .u32 r1, .int .u32 r2]) ∧ Drawn0 w w' := by
 have H := h
 unfold bits_Sub32.f at H
 clear h
 simp only [Option.some.injEq, Prod.mk.injEq] at H
 obtain ⟨rfl, rfl⟩ := H
 go_enter Tryd.func101, Tryd.ntmps101
 go_wp2
 go_ret2
 exact ⟨by first | rfl | (simp; done) | (simp [*]; done), by repeat (first | exact Drawn0.refl _ | apply Drawn0.step)⟩
def natural_subtract.l0 : Nat → List Int → List Int → List Int → Int → Int → Int → Option (List Int)
 | 0, _, _, _, _, _, _ => none
 | k + 1, x0, x1, x5, x6, x13, x14 => if x14 < x13 then (if x14 < (x1.length : Int) then (if 0 ≤ x14 then (if x14 < (x0.length : Int) then ((bits_Sub32.f (rd x0 x14) (rd x1 x14) x6).bind fun bt321 => (if x14 < (x5.length : Int) then (natural_subtract.l0 k x0 x1 (x5.set (x14 : Int).toNat bt321.1) bt321.2 x13 (wrap64 (x14 + 1))) else (none))) else (none)) else (none)) else (if 0 ≤ x14 then (if x14 < (x0.length : Int) then ((bits_Sub32.f (rd x0 x14) 0 x6).bind fun bt325 => (if x14 < (x5.length : Int) then (natural_subtract.l0 k x0 x1 (x5.set (x14 : Int).toNat bt325.1) bt325.2 x13 (wrap64 (x14 + 1))) else (none))) else (none)) else (none))) else ((natural_limbs_trim.f k x5).bind fun t328 => (some t328))
def natural_subtract.f (k : Nat) (l0 : List Int) (l1 : List Int) : Option (List Int) := if 0 ≤ (l0.length : Int) then (if ((l0.length : Int) : Int).toNat ≤ 70368744177664 then (natural_subtract.l0 k l0 l1 (List.replicate ((l0.length : Int) : Int).toNat 0) 0 (l0.length : Int) 0) else (none)) else (none)
theorem natural_subtract.mono_l : ∀ k, (∀ y0 y1 y2 y3 y4 y5, LeO (natural_subtract.l0 k y0 y1 y2 y3 y4 y5) (natural_subtract.l0 (k + 1) y0 y1 y2 y3 y4 y5))
 | 0 => fun _ _ _ _ _ _ r h => by simp [natural_subtract.l0] at h
 | k + 1 => by
  have ih0 := natural_subtract.mono_l k
  ·intro y0 y1 y2 y3 y4 y5
   unfold natural_subtract.l0
   repeat' first
   | (with_reducible exact ih0 _ _ _ _ _ _)
   | (with_reducible exact natural_limbs_trim.mono _ _)
   | (with_reducible exact LeO.refl _)
   | (with_reducible exact LeO.none _)
   | (with_reducible refine LeO.ite ?_ ?_)
   | (with_reducible refine LeO.bind ?_ (fun _ => ?_))
theorem natural_subtract.mono : ∀ a0 a1 k, LeO (natural_subtract.f k a0 a1) (natural_subtract.f (k + 1) a0 a1) := by
 intro a0 a1 k
 have ih0 := natural_subtract.mono_l k
 unfold natural_subtract.f
 repeat' first
   | (with_reducible exact ih0 _ _ _ _ _ _)
   | (with_reducible exact natural_limbs_trim.mono _ _)
   | (with_reducible exact LeO.refl _)
   | (with_reducible exact LeO.none _)
   | (with_reducible refine LeO.ite ?_ ?_)
   | (with_reducible refine LeO.bind ?_ (fun _ => ?_))
set_option maxHeartbeats 8000000 in
set_option maxRecDepth 100000 in
theorem natural_subtract.calls (k : Nat) (A0 : Option Addr) (c0 : Nat) (l0 : List Int) (A1 : Option Addr) (c1 : Nat) (l1 : List Int) (r : List Int) (w : World) (hr0 : Kd.C (Kd.int .u32) w A0 l0.length l0) (hc0 : l0.length ≤ c0) (hr1 : Kd.C (Kd.int .u32) w A1 l1.length l1) (hc1 : l1.length ≤ c1) (h : natural_subtract.f k l0 l1 = some r) :
  Calls Tryd.prog 82 #[.slice A0 l0.length c0, .slice A1 l1.length c1] w fun e w' => ∃ v0_ : Value, e = .returned (v0_) ∧ Kd.R (Kd.int .u32) 89 w' w.heap.size (fun _ => True) v0_ r ∧ Below w.heap.size w w' := by
 have HR0 := A0_.mk hr0
 have HC0 := A0_.mk hc0
 clear hr0 hc0
 have HR1 := A0_.mk hr1
 have HC1 := A0_.mk hc1
 clear hr1 hc1
 have HB := A0_.mk (Below.refl w.heap.size w)
 have H := h
 unfold natural_subtract.f at H
 clear h
 by_cases c3 : 0 ≤ (l0.length : Int)
 ·rw [if_pos c3] at H
  have c3b0 := eq_true c3
  have c3b1 : decide (0 ≤ (l0.length : Int)) = true := decide_eq_true c3
  clear c3
  by_cases c4 : ((l0.length : Int) : Int).toNat ≤ 70368744177664
  ·rw [if_pos c4] at H
   have c4b0 := eq_true c4
   have c4b1 : decide (((l0.length : Int) : Int).toNat ≤ 70368744177664) = true := decide_eq_true c4
   clear c4
   obtain ⟨y316, hy316⟩ : ∃ y_ : List Int, y_ = (List.replicate ((l0.length : Int) : Int).toNat 0) := ⟨_, rfl⟩
   replace H : (natural_subtract.l0 k l0 l1 y316 0 (l0.length : Int) 0) = some r := by first | (rw [hy316]; with_reducible exact H) | (have H2_ := (Option.bind_some _ _).symm.trans H; rw [hy316]; with_reducible exact H2_) | (have H2_ := (Option.bind_some _ _).symm.trans H; with_reducible exact H2_) | with_reducible exact H | (rw [hy316]; exact H) | exact H
   have Ny316 := A0_.mk hy316
   clear hy316
   have H' := A0_.mk H
   clear H
   go_enter Tryd.func82, Tryd.ntmps82
   go_wp2_with (first | ((with_reducible refine gD_ (N := 11) rfl ?_); refine Kd.R_make (Kd.int .u32) _ 89 rfl (N := 11) rfl 87 _ _ rfl (l0.length : Int) rfl rfl Tryd.underlying87 (.int .u32 0) 4 info89 rfl (by decide) (by omega) 0 (ok := fun _ => True) (okp := fun _ => True) rfl (fun _ hk => hk) trivial (of_decide_eq_true aS_) (Nat.le_trans (Nat.mul_le_mul_right _ (of_decide_eq_true aS_ : (l0.length : Int).toNat ≤ 70368744177664)) (by omega)) (Below.refl _ _) (Nat.le_refl _) ?_; intro v317 w5 ho6 hb hg_ hnew_; clear hg_ hnew_; (first | rw [← Ny316.out] at ho6 | (simp only [Int.reduceToNat] at ho6; rw [← Ny316.out] at ho6)); have n0_ := A0_.mk (Kd.R_lower ho6 (bZ_ (xB_ HB))); have n1_ := A0_.mk (bT_ (xB_ HB) hb); clear HB; have HO318 := n0_; have HB := n1_; clear n0_ n1_; clear hb ho6))
   go_loopg [6, 14] k (fun kq v6 v14 w' => ∃ (x5_1 : List Int) (x6_1 : Int) (x14_1 : Int), v6 = .int .u32 x6_1 ∧ v14 = .int .i64 x14_1 ∧ A0_ (natural_subtract.l0 kq l0 l1 x5_1 x6_1 (l0.length : Int) x14_1 = some r) ∧ A0_ (kq ≤ k) ∧ A0_ (Kd.R (Kd.int .u32) 89 w' w.heap.size (fun _ => True) v317 x5_1) ∧ A0_ (Below w.heap.size w w'))
   case atStart => exact ⟨(y316), (0), (0), (by first | rfl | (simp; done) | (simp [*]; done)), (by first | rfl | (simp; done) | (simp [*]; done)), H', ⟨Nat.le_refl _⟩, ⟨by (with_reducible repeat (first | apply Kd.R_alloc | apply Kd.R_drewN | apply Kd.R_drew)); exact HO318.out⟩, ⟨xB_ HB⟩⟩
   case round =>
    clear H'
    try clear c1
    try clear p2
    try clear c3
    try clear c3b0
    try clear c3b1
    try clear c4
    try clear c4b0
    try clear c4b1
    obtain ⟨x5_1, x6_1, x14_1, rfl, rfl, HA, HK1, HO_5, HB⟩ := hrel
    cases gk with
    | zero => exact absurd HA.out (by simp [natural_subtract.l0])
    | succ k1 =>
     have H := HA.out
     clear HA
     simp only [natural_subtract.l0] at H
     by_cases c7 : x14_1 < (l0.length : Int)
     ·rw [if_pos c7] at H
      have c7b0 : decide (x14_1 < (l0.length : Int)) = true := decide_eq_true c7
      clear c7
      by_cases c8 : x14_1 < (l1.length : Int)
      ·rw [if_pos c8] at H
       have c8b0 : decide (x14_1 < (l1.length : Int)) = true := decide_eq_true c8
       clear c8
       by_cases c9 : 0 ≤ x14_1
       ·rw [if_pos c9] at H
        have c9b0 : decide (0 ≤ x14_1) = true := decide_eq_true c9
        clear c9
        by_cases c10 : x14_1 < (l0.length : Int)
        ·rw [if_pos c10] at H
         have c10b0 : decide (x14_1 < (l0.length : Int)) = true := decide_eq_true c10
         clear c10
         replace H := Option.bind_eq_some_iff.mp H
         obtain ⟨⟨t321, t322⟩, A110, H⟩ := H
         (try dsimp only at H)
         have A11 := A0_.mk A110
         clear A110
         by_cases c12 : x14_1 < (x5_1.length : Int)
         ·rw [if_pos c12] at H
          have c12b0 : decide (x14_1 < (x5_1.length : Int)) = true := decide_eq_true c12
          clear c12
          obtain ⟨y323, hy323⟩ : ∃ y_ : List Int, y_ = (x5_1.set (x14_1 : Int).toNat t321) := ⟨_, rfl⟩
          replace H : (natural_subtract.l0 k1 l0 l1 y323 t322 (l0.length : Int) (wrap64 (x14_1 + 1))) = some r := by first | (rw [hy323]; with_reducible exact H) | (have H2_ := (Option.bind_some _ _).symm.trans H; rw [hy323]; with_reducible exact H2_) | (have H2_ := (Option.bind_some _ _).symm.trans H; with_reducible exact H2_) | with_reducible exact H | (rw [hy323]; exact H) | exact H
          have Ny323 := A0_.mk hy323
          clear hy323
          have H' := A0_.mk H
          clear H
          have p319 : 0 ≤ (x14_1 : Int) := of_decide_eq_true aS_
          have q319 : x14_1 < (l1.length : Int) := of_decide_eq_true aS_
          obtain ⟨ad319, e319, hx319_0⟩ := Kd.at_int HR1.out x14_1 p319 q319
          cases e319
          (try replace hx319_0 := (HB.out.cell (World.block_lt_of_cell? w _ hx319_0)).trans hx319_0)
          replace p319 := eq_true p319
          replace q319 := eq_true q319
          have p320 : 0 ≤ (x14_1 : Int) := of_decide_eq_true aS_
          have q320 : x14_1 < (l0.length : Int) := of_decide_eq_true aS_
          obtain ⟨ad320, e320, hx320_0⟩ := Kd.at_int HR0.out x14_1 p320 q320
          cases e320
          (try replace hx320_0 := (HB.out.cell (World.block_lt_of_cell? w _ hx320_0)).trans hx320_0)
          replace p320 := eq_true p320
          replace q320 := eq_true q320
          go_wp2_with (first | ((with_reducible refine gC_ (f := 101) rfl ?_); refine goesL_ (some 34) rfl rfl Tryd.func101 (by kernel_rfl) rfl #[.int .u32 (rd l0 x14_1), .int .u32 (rd l1 x14_1), .int .u32 x6_1] rfl mp_ ?_; (with_reducible refine (bits_Sub32.calls (rd l0 x14_1) (rd l1 x14_1) x6_1 t321 t322 _ A11.out).mono ?_); rintro e w' ⟨rfl, ⟨nd, rfl⟩⟩; refine ⟨_, rfl, ?_⟩; (try (rw [drewN_self wr]; generalize hq_ : World.drewN wr _ = wr; have n0_ : A0_ (Kd.R (Kd.int .u32) 89 wr w.heap.size (fun _ => True) v317 x5_1) := ⟨by rw [← hq_]; exact (xR_ HO_5.out)⟩; have n1_ : A0_ (Below w.heap.size w wr) := ⟨by rw [← hq_]; exact (xB_ HB)⟩; clear HO_5 HB hq_; have HO_5 := n0_; have HB := n1_; clear n0_ n1_)); have p13 : 0 ≤ (x14_1 : Int) := of_decide_eq_true aS_; have q13 : (x14_1 : Int) < ((x5_1.length : Int) : Int) := of_decide_eq_true aS_; obtain ⟨go13, co13, eo13, gb13, gl13, cl13, HG13⟩ := Kd.R_form HO_5.out (by omega); (first | cases eo13 | (injection eo13 with ea_ en_ ec_; (first | subst ea_ | (injection ea_ with ea_; subst ea_)); subst ec_; clear en_)); have GB13 := A0_.mk gb13; have GG13 := A0_.mk HG13; clear gb13 gl13 HG13; obtain ⟨hx13_0, hf13_0⟩ := Kd.R_celln 0 HO_5.out (x14_1 : Int) p13 q13; replace p13 := eq_true p13; replace q13 := eq_true q13; obtain ⟨hy14_, hz14_⟩ := Kd.R_celln 0 HO_5.out (x14_1 : Int) (of_decide_eq_true aS_) (of_decide_eq_true aS_); have HP14 := Kd.R_putg HO_5.out (x14_1 : Int) t321) | ((with_reducible refine gate_store (t := 89) (p := 37) rfl ?_); refine store_event (t := 89) (p := 37) (v := ?vo_w15) (w1 := (wr.setCell ⟨go13, (x14_1 : Int).toNat, none⟩ (.int .u32 t321))) ?hg ?ho ?hn ?hr ?_; (case ho => rfl); (case hg => rfl); (case hn => rfl); (case hr => first | (go_simp; done) | (go_simp; rfl)); intro w15 hw; have hg : wr.grownBy w15 (some go13) := (by rw [hw]; exact HP14.2); have hp_ : Kd.R (Kd.int .u32) 89 w15 w.heap.size (fun _ => True) (.slice (some ⟨go13, 0, none⟩) x5_1.length co13) y323 := (by rw [hw, Ny323.out]; exact HP14.1); clear HP14; have n0_ := A0_.mk (hp_); have n1_ := A0_.mk ((by rw [hw]; exact bS_ (HB.out) GB13.out : Below w.heap.size w w15)); clear HO_5 HB; have HO_5 := n0_; have HB := n1_; clear n0_ n1_; clear hg hw hp_))
          (try simp only [add_plain])
          go_roundg k1
          case measure => have := HK1.out; omega
          case rel => exact ⟨(y323), (t322), (wrap64 (x14_1 + 1)), (by first | rfl | (simp; done) | (simp [*]; done)), (by first | rfl | (simp; done) | (simp [*]; done)), H', ⟨by have := HK1.out; omega⟩, ⟨by (with_reducible repeat (first | apply Kd.R_alloc | apply Kd.R_drewN | apply Kd.R_drew)); exact HO_5.out⟩, ⟨xB_ HB⟩⟩
         ·rw [if_neg c12] at H
          exact absurd H (by simp)
        ·rw [if_neg c10] at H
         exact absurd H (by simp)
       ·rw [if_neg c9] at H
        exact absurd H (by simp)
      ·rw [if_neg c8] at H
       have c8b0 : decide (x14_1 < (l1.length : Int)) = false := decide_eq_false c8
       clear c8
       by_cases c16 : 0 ≤ x14_1
       ·rw [if_pos c16] at H
        have c16b0 : decide (0 ≤ x14_1) = true := decide_eq_true c16
        clear c16
        by_cases c17 : x14_1 < (l0.length : Int)
        ·rw [if_pos c17] at H
         have c17b0 : decide (x14_1 < (l0.length : Int)) = true := decide_eq_true c17
         clear c17
         replace H := Option.bind_eq_some_iff.mp H
         obtain ⟨⟨t325, t326⟩, A180, H⟩ := H
         (try dsimp only at H)
         have A18 := A0_.mk A180
         clear A180
         by_cases c19 : x14_1 < (x5_1.length : Int)
         ·rw [if_pos c19] at H
          have c19b0 : decide (x14_1 < (x5_1.length : Int)) = true := decide_eq_true c19
          clear c19
          obtain ⟨y327, hy327⟩ : ∃ y_ : List Int, y_ = (x5_1.set (x14_1 : Int).toNat t325) := ⟨_, rfl⟩
          replace H : (natural_subtract.l0 k1 l0 l1 y327 t326 (l0.length : Int) (wrap64 (x14_1 + 1))) = some r := by first | (rw [hy327]; with_reducible exact H) | (have H2_ := (Option.bind_some _ _).symm.trans H; rw [hy327]; with_reducible exact H2_) | (have H2_ := (Option.bind_some _ _).symm.trans H; with_reducible exact H2_) | with_reducible exact H | (rw [hy327]; exact H) | exact H
          have Ny327 := A0_.mk hy327
          clear hy327
          have H' := A0_.mk H
          clear H
          have p324 : 0 ≤ (x14_1 : Int) := of_decide_eq_true aS_
          have q324 : x14_1 < (l0.length : Int) := of_decide_eq_true aS_
          obtain ⟨ad324, e324, hx324_0⟩ := Kd.at_int HR0.out x14_1 p324 q324
          cases e324
          (try replace hx324_0 := (HB.out.cell (World.block_lt_of_cell? w _ hx324_0)).trans hx324_0)
          replace p324 := eq_true p324
          replace q324 := eq_true q324
          go_wp2_with (first | ((with_reducible refine gC_ (f := 101) rfl ?_); refine goesL_ (some 34) rfl rfl Tryd.func101 (by kernel_rfl) rfl #[.int .u32 (rd l0 x14_1), .int .u32 0, .int .u32 x6_1] rfl mp_ ?_; (with_reducible refine (bits_Sub32.calls (rd l0 x14_1) 0 x6_1 t325 t326 _ A18.out).mono ?_); rintro e w' ⟨rfl, ⟨nd, rfl⟩⟩; refine ⟨_, rfl, ?_⟩; (try (rw [drewN_self wr]; generalize hq_ : World.drewN wr _ = wr; have n0_ : A0_ (Kd.R (Kd.int .u32) 89 wr w.heap.size (fun _ => True) v317 x5_1) := ⟨by rw [← hq_]; exact (xR_ HO_5.out)⟩; have n1_ : A0_ (Below w.heap.size w wr) := ⟨by rw [← hq_]; exact (xB_ HB)⟩; clear HO_5 HB hq_; have HO_5 := n0_; have HB := n1_; clear n0_ n1_)); have p20 : 0 ≤ (x14_1 : Int) := of_decide_eq_true aS_; have q20 : (x14_1 : Int) < ((x5_1.length : Int) : Int) := of_decide_eq_true aS_; obtain ⟨go20, co20, eo20, gb20, gl20, cl20, HG20⟩ := Kd.R_form HO_5.out (by omega); (first | cases eo20 | (injection eo20 with ea_ en_ ec_; (first | subst ea_ | (injection ea_ with ea_; subst ea_)); subst ec_; clear en_)); have GB20 := A0_.mk gb20; have GG20 := A0_.mk HG20; clear gb20 gl20 HG20; obtain ⟨hx20_0, hf20_0⟩ := Kd.R_celln 0 HO_5.out (x14_1 : Int) p20 q20; replace p20 := eq_true p20; replace q20 := eq_true q20; obtain ⟨hy21_, hz21_⟩ := Kd.R_celln 0 HO_5.out (x14_1 : Int) (of_decide_eq_true aS_) (of_decide_eq_true aS_); have HP21 := Kd.R_putg HO_5.out (x14_1 : Int) t325) | ((with_reducible refine gate_store (t := 89) (p := 37) rfl ?_); refine store_event (t := 89) (p := 37) (v := ?vo_w22) (w1 := (wr.setCell ⟨go20, (x14_1 : Int).toNat, none⟩ (.int .u32 t325))) ?hg ?ho ?hn ?hr ?_; (case ho => rfl); (case hg => rfl); (case hn => rfl); (case hr => first | (go_simp; done) | (go_simp; rfl)); intro w22 hw; have hg : wr.grownBy w22 (some go20) := (by rw [hw]; exact HP21.2); have hp_ : Kd.R (Kd.int .u32) 89 w22 w.heap.size (fun _ => True) (.slice (some ⟨go20, 0, none⟩) x5_1.length co20) y327 := (by rw [hw, Ny327.out]; exact HP21.1); clear HP21; have n0_ := A0_.mk (hp_); have n1_ := A0_.mk ((by rw [hw]; exact bS_ (HB.out) GB20.out : Below w.heap.size w w22)); clear HO_5 HB; have HO_5 := n0_; have HB := n1_; clear n0_ n1_; clear hg hw hp_))
          (try simp only [add_plain])
          go_roundg k1
          case measure => have := HK1.out; omega
          case rel => exact ⟨(y327), (t326), (wrap64 (x14_1 + 1)), (by first | rfl | (simp; done) | (simp [*]; done)), (by first | rfl | (simp; done) | (simp [*]; done)), H', ⟨by have := HK1.out; omega⟩, ⟨by (with_reducible repeat (first | apply Kd.R_alloc | apply Kd.R_drewN | apply Kd.R_drew)); exact HO_5.out⟩, ⟨xB_ HB⟩⟩
         ·rw [if_neg c19] at H
          exact absurd H (by simp)
        ·rw [if_neg c17] at H
         exact absurd H (by simp)
       ·rw [if_neg c16] at H
        exact absurd H (by simp)
     ·rw [if_neg c7] at H
      have c7b0 : decide (x14_1 < (l0.length : Int)) = false := decide_eq_false c7
      clear c7
      replace H := Option.bind_eq_some_iff.mp H
      obtain ⟨t328, A230, H⟩ := H
      (try dsimp only at H)
      have A23 := A0_.mk A230
      clear A230
      obtain rfl := Option.some.inj H
      obtain ⟨Ao24, co24, eo24⟩ := Kd.R_slice HO_5.out
      subst eo24
      go_wp2_with (first | ((with_reducible refine gC_ (f := 79) rfl ?_); refine goesL_ (some 40) rfl rfl Tryd.func79 (by kernel_rfl) rfl #[.slice Ao24 x5_1.length co24] rfl mp_ ?_; (with_reducible refine (natural_limbs_trim.calls k1 (fun k_ => some k_ = (.slice Ao24 x5_1.length co24 : Value).ownBlock) (.slice Ao24 x5_1.length co24) x5_1 t328 w _ ?side1 ?side2 A23.out).mono ?_); (case side1 => repeat (first | (with_reducible first | exact HB.out | apply bA_ | apply pB_ | apply b1_) | exact HB.out)); (case side2 => exact Kd.R_tight rfl HO_5.out); rintro e w25 ⟨v329, rfl, ho0, hb, hkp⟩; refine ⟨_, rfl, ?_⟩; have n0_ := A0_.mk (Kd.R_mono (ok' := fun k_ => True) ho0 (fun k_ hk_ => trivial)); have n1_ := A0_.mk (hb); clear HB HO_5; have HO330 := n0_; have HB := n1_; clear n0_ n1_; (try clear hb); (try clear hkp); (try clear ho0)))
      go_ret
      exact ⟨_, rE_, by (with_reducible repeat (first | apply Kd.R_alloc | apply Kd.R_drewN | apply Kd.R_drew)); exact HO330.out, xB_ HB⟩
  ·rw [if_neg c4] at H
   exact absurd H (by simp)
 ·rw [if_neg c3] at H
  exact absurd H (by simp)
end Go.Proofs.YtnegkpnhjgimcaaDoor.C
end
