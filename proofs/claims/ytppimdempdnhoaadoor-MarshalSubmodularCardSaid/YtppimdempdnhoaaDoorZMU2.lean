/- A part of the proof of marshalSubmodular_card (see YtppimdempdnhoaaDoorZMU6): what the functions that it reaches compute, each by its contract. -/
import Derived.Lib.Bytealg
import Derived.Lib.Strings
import Derived.Lib.Walk
import Derived.Test.YtppimdempdnhoaaDoorZMU1
section
namespace Go.Proofs.YtppimdempdnhoaaDoor.C
set_option maxHeartbeats 8000000
set_option maxRecDepth 100000
open Go.RowKit Go.PrWords Go.PrLast Go.PrMore
attribute [local go_sem] max2_int min2_int max_two min_two max_three min_three max_four min_four
set_option linter.unusedVariables false
set_option linter.unusedSimpArgs false
mutual
def l0_Items.l0 : Nat → List (S46) → Int → List (S50) → Int → Option ((List (S50)))
 | 0, _, _, _, _ => none
 | k + 1, x0, x1, x5, x6 => if x6 < (x0.length : Int) then (l0_Items.j1 k x0 x1 x5 x6 (decide (x6 < 4))) else (l0_Items.j1 k x0 x1 x5 x6 false)
def l0_Items.j1 : Nat → List (S46) → Int → List (S50) → Int → Bool → Option ((List (S50)))
 | 0, _, _, _, _, _ => none
 | k + 1, x0, x1, x5, x6, x19 => if x19 = true then (if 0 ≤ x6 then (if x6 < (x0.length : Int) then ((l0_Amount.f k ((r46_ x0 x6).f0)).bind fun bt319 => ((l0_Whole.f k (wrap64 (Int.tmod ((r46_ x0 x6).f1) 4))).bind fun bt322 => (l0_Items.l1 k x0 x1 x5 x6 0 ((r46_ x0 x6).f0) ((r46_ x0 x6).f1) ((r46_ x0 x6).f2) ((r46_ x0 x6).f3) ((r46_ x0 x6).f4) ((r46_ x0 x6).f5) bt319.1 bt319.2.1 bt319.2.2 bt322.1 bt322.2.1 bt322.2.2 ([] : List (S52))))) else (none)) else (none)) else (some x5)
def l0_Items.l1 : Nat → List (S46) → Int → List (S50) → Int → Int → Int → Int → Int → Int → Int → Int → Bool → ByteArray → ByteArray → Bool → ByteArray → ByteArray → List (S52) → Option ((List (S50)))
 | 0, _, _, _, _, _, _, _, _, _, _, _, _, _, _, _, _, _, _ => none
 | k + 1, x0, x1, x5, x6, x9, x319000, x319001, x319002, x319003, x319004, x319005, x326000, x326001, x326002, x326003, x326004, x326005, x326006 => if x9 < 4 then (l0_Items.j3 k x0 x1 x5 x6 x9 (decide (x1 > 0)) x319000 x319001 x319002 x319003 x319004 x319005 x326000 x326001 x326002 x326003 x326004 x326005 x326006) else (l0_Items.j3 k x0 x1 x5 x6 x9 false x319000 x319001 x319002 x319003 x319004 x319005 x326000 x326001 x326002 x326003 x326004 x326005 x326006)
def l0_Items.j3 : Nat → List (S46) → Int → List (S50) → Int → Int → Bool → Int → Int → Int → Int → Int → Int → Bool → ByteArray → ByteArray → Bool → ByteArray → ByteArray → List (S52) → Option ((List (S50)))
 | 0, _, _, _, _, _, _, _, _, _, _, _, _, _, _, _, _, _, _, _ => none
 | k + 1, x0, x1, x5, x6, x9, x40, x319000, x319001, x319002, x319003, x319004, x319005, x326000, x326001, x326002, x326003, x326004, x326005, x326006 => if x40 = true then ((arr6_at.f x319000 x319001 x319002 x319003 x319004 x319005 (wrap64 (2 + x9))).bind fun t329 => (if (Int.tmod (wrap64 (t329)) 4) = 0 then (l0_Items.l1 k x0 x1 x5 x6 (wrap64 (x9 + 1)) x319000 x319001 x319002 x319003 x319004 x319005 x326000 x326001 x326002 x326003 x326004 x326005 x326006) else (if x1 = 0 then (none) else (if (Int.tmod (wrap64 (t329)) 4) = 1 then ((l0_Whole.f k (Int.tmod (wrap64 (Int.tdiv (wrap64 (t329)) 96)) 12)).bind fun bt331 => (if x326006.length < 2199023255552 then (l0_Items.l1 k x0 x1 x5 x6 (wrap64 (x9 + 1)) x319000 x319001 x319002 x319003 x319004 x319005 x326000 x326001 x326002 x326003 x326004 x326005 (x326006 ++ [(⟨Int.tmod (wrap64 (Int.tdiv (wrap64 (t329)) 4)) x1, Int.tmod (wrap64 (Int.tdiv (wrap64 (t329)) 32)) 3, true, (⟨bt331.1, bt331.2.1, bt331.2.2⟩ : S32)⟩ : S52)])) else (none))) else (if x326006.length < 2199023255552 then (l0_Items.l1 k x0 x1 x5 x6 (wrap64 (x9 + 1)) x319000 x319001 x319002 x319003 x319004 x319005 x326000 x326001 x326002 x326003 x326004 x326005 (x326006 ++ [(⟨Int.tmod (wrap64 (Int.tdiv (wrap64 (t329)) 4)) x1, Int.tmod (wrap64 (Int.tdiv (wrap64 (t329)) 32)) 3, false, (⟨false, (⟨#[]⟩ : ByteArray), (⟨#[]⟩ : ByteArray)⟩ : S32)⟩ : S52)])) else (none)))))) else (if x5.length < 1353245080339 then (l0_Items.l0 k x0 x1 (x5 ++ [(⟨(⟨x326000, x326001, x326002⟩ : S32), (⟨x326003, x326004, x326005⟩ : S32), x326006⟩ : S50)]) (wrap64 (x6 + 1))) else (none))
end
def l0_Items.f (k : Nat) (l0 : List (S46)) (a1 : Int) : Option ((List (S50))) := l0_Items.l0 k l0 a1 ([] : List (S50)) 0
def l0_Items.T6 : Bool × List (List Nat × List Nat) := (true, [([], []), ([0], [0]), ([1], [1]), ([], []), ([3], [3]), ([4], [4]), ([5], [5]), ([6, 2], [6]), ([2, 7], [2, 7]), ([], []), ([9, 8, 7, 0, 1, 2, 3, 4, 5, 6, 7, 8, 9], [8, 9])])
def l0_Items.B6 : List Nat := [0, 1, 3, 0, 8, 24, 56, 127, 255, 0, 1023]
theorem l0_Items.tab6 : rtab .any (opsOf Tryd.f7 6) = l0_Items.T6 := by kernel_rfl
theorem l0_Items.bits6 : waitsOk l0_Items.T6.2 l0_Items.B6 = true := by kernel_rfl
theorem l0_Items.calls (k : Nat) (A0 : Option Addr) (c0 : Nat) (l0 : List (S46)) (a1 : Int) (r : List (S50)) (w : World) (hr0 : Kd.C k46 w A0 l0.length l0) (hc0 : l0.length ≤ c0) (h : l0_Items.f k l0 a1 = some r) :
  Calls Tryd.prog 7 #[.slice A0 l0.length c0, .int .i64 a1] w fun e w' => ∃ v0_ : Value, e = .returned (v0_) ∧ Kd.S k50 50 w' w.heap.size (fun _ => True) v0_ r ∧ Below w.heap.size w w' := by
 have hu46 := Tryd.underlying46
 have hu50 := Tryd.underlying50
 have hu52 := Tryd.underlying52
 have hu32 := Tryd.underlying32
 have HR0 := mk_ hr0
 have HC0 := mk_ hc0
 clear hr0 hc0
 have HB := mk_ (Below.refl w.heap.size w)
 have H : (l0_Items.l0 k l0 a1 ([] : List (S50)) 0) = some r := h
 clear h
 have H' := mk_ H
 clear H
 go_enter Tryd.func7, Tryd.ntmps7
 go_wp2
 go_loopg [5, 6] k (fun kq v5 v6 w' => ∃ (wa : List (S50)) (aa : Int), v6 = .int .i64 aa ∧ A0_ (l0_Items.l0 kq l0 a1 wa aa = some r) ∧ A0_ (kq ≤ k) ∧ A0_ (Kd.S k50 50 w' w.heap.size (fun _ => True) v5 wa) ∧ A0_ (Below w.heap.size w w'))
 case atStart => exact ⟨(([] : List (S50))), (0), (rS_), H', ⟨Nat.le_refl _⟩, ⟨by first | exact Kd.S_nil _ _ _ _ _ | exact Kd.N_nil _ _ _ _ _ | exact Kd.V_nil _ _ _ _ _ | exact Kd.Q_nil _ _ _ _ _ | exact Kd.R_nil _ _ _ _ _⟩, ⟨xB_ HB⟩⟩
 case round =>
  clear H'
  obtain ⟨wa, aa, rfl, HA, HK1, ha, HB⟩ := hrel
  cases gk with
  | zero => exact absurd HA.out (by simp [l0_Items.l0])
  | succ k1 =>
   have H := HA.out
   clear HA
   simp only [l0_Items.l0] at H
   have HC3 := mk_ H
   clear H
   go_upto_region 3 with (fail)
   go_cut [19] (fun v19 wc => ∃ (kq : Nat) (Ka : Bool), v19 = .bool Ka ∧ A0_ (l0_Items.j1 kq l0 a1 wa aa Ka = some r) ∧ A0_ (kq ≤ k1) ∧ A0_ (Kd.S k50 50 wc w.heap.size (fun _ => True) u5 wa) ∧ A0_ (Below w.heap.size w wc))
   case first =>
    have H := HC3.out
    clear HC3
    replace H := iS_ H
    rcases H with ⟨c4, H⟩ | ⟨c4, H⟩
    ·have Ea := decide_eq_true c4
     clear c4
     (first | rw [Ea] | rw [gb] | (simp only [i6_, i3_]; rw [Ea]) | skip)
     have H' := mk_ H
     clear H
     go_wp2
     go_meet
     case rel => exact ⟨_, (decide (aa < 4)), (rS_), H', ⟨by have := HK1.out; first | omega | exact Nat.le_refl _⟩, ⟨by refine xs_ ?_; exact ha.out⟩, ⟨xB_ HB⟩⟩
    ·have Ea := decide_eq_false c4
     clear c4
     (first | rw [Ea] | rw [gb] | (simp only [i6_, i3_]; rw [Ea]) | skip)
     have H' := mk_ H
     clear H
     go_wp2
     go_meet
     case rel => exact ⟨_, (false), (rS_), H', ⟨by have := HK1.out; first | omega | exact Nat.le_refl _⟩, ⟨by refine xs_ ?_; exact ha.out⟩, ⟨xB_ HB⟩⟩
   case rest =>
    clear HC3
    obtain ⟨kq, Ka, rfl, HA, HJ2, ha, HB⟩ := hcut
    cases kq with
    | zero => exact absurd HA.out (by simp [l0_Items.j1])
    | succ kj2 =>
     have H := HA.out
     clear HA
     simp only [l0_Items.j1] at H
     replace H := iS_ H
     rcases H with ⟨c5, H⟩ | ⟨c5, H⟩
     ·subst c5
      replace H := iD_ H
      obtain ⟨Bb, H⟩ := H
      replace H := iD_ H
      obtain ⟨Cb, H⟩ := H
      replace H := oB_ H
      obtain ⟨⟨la, ma, na⟩, A8, H⟩ := H
      (try dsimp only at H)
      replace H := oB_ H
      obtain ⟨⟨oa, qa, ra⟩, A9, H⟩ := H
      (try dsimp only at H)
      have H' := mk_ H
      clear H
      have La : 0 ≤ (aa : Int) := oD_
      have Ma : aa < (l0.length : Int) := oD_
      obtain ⟨Db, ib, Na, Oa, Pa, Qa, Ra, Sa⟩ := at_T46 HR0.out aa La Ma
      cases ib
      (try replace Na := cT_ HB Na)
      (try replace Oa := cT_ HB Oa)
      (try replace Pa := cT_ HB Pa)
      (try replace Qa := cT_ HB Qa)
      (try replace Ra := cT_ HB Ra)
      (try replace Sa := cT_ HB Sa)
      replace La := eq_true La
      replace Ma := eq_true Ma
      try go_wp2_with (first | ((with_reducible refine gD_ (N := 7) rfl ?_); refine bX_ (N := 7) (cs := #[.int .u16 0, .int .u16 0, .int .u16 0, .int .u16 0, .int .u16 0, .int .u16 0]) (t := 46) ?_; intro fa hg w10 hbox hb; replace ha := mk_ (Kd.S_below (by refine xs_ ?_; exact ha.out) hb); have ba := mk_ (hbox); have Eb := mk_ (gZ_ hg (bZ_ (xB_ HB))); have ja := mk_ (gZ_ hg (bZ_ (xB_ HB))); replace HB := mk_ (bT_ (xB_ HB) hb); clear hb hbox hg; obtain ⟨Fb, Gb, Hb, Ib, Jb, Kb, Lb, Mb, Nb, Ob, Pb, Qb⟩ := kG6_ ba.out))
      have n0_ : A0_ (Kd.S k50 50 ((((((w10.setCell ⟨fa, 0, none⟩ (.int .u16 ((r46_ l0 aa).f0))).setCell ⟨fa, 1, none⟩ (.int .u16 ((r46_ l0 aa).f1))).setCell ⟨fa, 2, none⟩ (.int .u16 ((r46_ l0 aa).f2))).setCell ⟨fa, 3, none⟩ (.int .u16 ((r46_ l0 aa).f3))).setCell ⟨fa, 4, none⟩ (.int .u16 ((r46_ l0 aa).f4))).setCell ⟨fa, 5, none⟩ (.int .u16 ((r46_ l0 aa).f5))) w.heap.size (fun _ => True) u5 wa) := ⟨by refine xs_ ?_; exact Kd.S_mono (Kd.S_far (p := ⟨fa, 5, none⟩) (Kd.S_far (p := ⟨fa, 4, none⟩) (Kd.S_far (p := ⟨fa, 3, none⟩) (Kd.S_far (p := ⟨fa, 2, none⟩) (Kd.S_far (p := ⟨fa, 1, none⟩) (Kd.S_far (p := ⟨fa, 0, none⟩) (Kd.S_types ha.out ba.out (by decide)) (fun _ hk => hk.2) (.int .u16 ((r46_ l0 aa).f0))) (fun _ hk => hk.2) (.int .u16 ((r46_ l0 aa).f1))) (fun _ hk => hk.2) (.int .u16 ((r46_ l0 aa).f2))) (fun _ hk => hk.2) (.int .u16 ((r46_ l0 aa).f3))) (fun _ hk => hk.2) (.int .u16 ((r46_ l0 aa).f4))) (fun _ hk => hk.2) (.int .u16 ((r46_ l0 aa).f5))) (fun _ hk => trivial)⟩
      have n1_ : A0_ (((((((w10.setCell ⟨fa, 0, none⟩ (.int .u16 ((r46_ l0 aa).f0))).setCell ⟨fa, 1, none⟩ (.int .u16 ((r46_ l0 aa).f1))).setCell ⟨fa, 2, none⟩ (.int .u16 ((r46_ l0 aa).f2))).setCell ⟨fa, 3, none⟩ (.int .u16 ((r46_ l0 aa).f3))).setCell ⟨fa, 4, none⟩ (.int .u16 ((r46_ l0 aa).f4))).setCell ⟨fa, 5, none⟩ (.int .u16 ((r46_ l0 aa).f5))).heap[fa]? = some (.cells #[.int .u16 ((r46_ l0 aa).f0), .int .u16 ((r46_ l0 aa).f1), .int .u16 ((r46_ l0 aa).f2), .int .u16 ((r46_ l0 aa).f3), .int .u16 ((r46_ l0 aa).f4), .int .u16 ((r46_ l0 aa).f5)] 46 (0, 0))) := ⟨by refine xk_ ?_; refine kQ_ (cs := #[.int .u16 ((r46_ l0 aa).f0), .int .u16 ((r46_ l0 aa).f1), .int .u16 ((r46_ l0 aa).f2), .int .u16 ((r46_ l0 aa).f3), .int .u16 ((r46_ l0 aa).f4), .int .u16 0]) ?_ 5 _ rfl; refine kQ_ (cs := #[.int .u16 ((r46_ l0 aa).f0), .int .u16 ((r46_ l0 aa).f1), .int .u16 ((r46_ l0 aa).f2), .int .u16 ((r46_ l0 aa).f3), .int .u16 0, .int .u16 0]) ?_ 4 _ rfl; refine kQ_ (cs := #[.int .u16 ((r46_ l0 aa).f0), .int .u16 ((r46_ l0 aa).f1), .int .u16 ((r46_ l0 aa).f2), .int .u16 0, .int .u16 0, .int .u16 0]) ?_ 3 _ rfl; refine kQ_ (cs := #[.int .u16 ((r46_ l0 aa).f0), .int .u16 ((r46_ l0 aa).f1), .int .u16 0, .int .u16 0, .int .u16 0, .int .u16 0]) ?_ 2 _ rfl; refine kQ_ (cs := #[.int .u16 ((r46_ l0 aa).f0), .int .u16 0, .int .u16 0, .int .u16 0, .int .u16 0, .int .u16 0]) ?_ 1 _ rfl; refine kQ_ (cs := #[.int .u16 0, .int .u16 0, .int .u16 0, .int .u16 0, .int .u16 0, .int .u16 0]) ?_ 0 _ rfl; exact ba.out⟩
      have n2_ : A0_ (Below w.heap.size w ((((((w10.setCell ⟨fa, 0, none⟩ (.int .u16 ((r46_ l0 aa).f0))).setCell ⟨fa, 1, none⟩ (.int .u16 ((r46_ l0 aa).f1))).setCell ⟨fa, 2, none⟩ (.int .u16 ((r46_ l0 aa).f2))).setCell ⟨fa, 3, none⟩ (.int .u16 ((r46_ l0 aa).f3))).setCell ⟨fa, 4, none⟩ (.int .u16 ((r46_ l0 aa).f4))).setCell ⟨fa, 5, none⟩ (.int .u16 ((r46_ l0 aa).f5)))) := ⟨xB1_ HB ja⟩
      (try clear ha)
      (try clear ba)
      (try clear HB)
      generalize ((((((w10.setCell ⟨fa, 0, none⟩ (.int .u16 ((r46_ l0 aa).f0))).setCell ⟨fa, 1, none⟩ (.int .u16 ((r46_ l0 aa).f1))).setCell ⟨fa, 2, none⟩ (.int .u16 ((r46_ l0 aa).f2))).setCell ⟨fa, 3, none⟩ (.int .u16 ((r46_ l0 aa).f3))).setCell ⟨fa, 4, none⟩ (.int .u16 ((r46_ l0 aa).f4))).setCell ⟨fa, 5, none⟩ (.int .u16 ((r46_ l0 aa).f5))) = w12 at n0_ n1_ n2_ ⊢
      have ha := n0_
      have ba := n1_
      have HB := n2_
      clear n0_ n1_ n2_
      replace ha := mk_ (Kd.S_drew ha.out)
      replace ba := mk_ (kD_ ba.out)
      replace HB := mk_ (b1_ HB.out)
      refine start_ (n := 11) (S := fun w' => w'.cell? ⟨fa, 0, none⟩ = some (.int .u16 ((r46_ l0 aa).f0)) ∧ w'.cell? ⟨fa, 1, none⟩ = some (.int .u16 ((r46_ l0 aa).f1)) ∧ w'.cell? ⟨fa, 2, none⟩ = some (.int .u16 ((r46_ l0 aa).f2)) ∧ w'.cell? ⟨fa, 3, none⟩ = some (.int .u16 ((r46_ l0 aa).f3)) ∧ w'.cell? ⟨fa, 4, none⟩ = some (.int .u16 ((r46_ l0 aa).f4)) ∧ w'.cell? ⟨fa, 5, none⟩ = some (.int .u16 ((r46_ l0 aa).f5))) (ds := []) (tf_ 0 11) kr_ rfl rfl ⟨(kc_ ba.out 0).trans rfl, (kc_ ba.out 1).trans rfl, (kc_ ba.out 2).trans rfl, (kc_ ba.out 3).trans rfl, (kc_ ba.out 4).trans rfl, (kc_ ba.out 5).trans rfl⟩ (fun hHeld => ?_); refine with_tabW l0_Items.tab6 l0_Items.bits6 (fun HT_ HW_ => ?_)
      generalize w12.drew = w13 at ha ba HB hHeld ⊢
      refine pu_ (i := 0) (N := some 26) (v := ?_) (a' := ?_) (tf_ 1 10) rfl rfl (an_ HT_.out kr_) (fun _ _ _ h => h) (Or.inl ⟨by rfl, ?_⟩) ?_ ?_
      rotate_left
      ·intro w'
       go_simp
       with_reducible rfl
      rotate_left
      ·simp only [Act.put, s1_, s2_, s3_, i6_, i3_]
       rfl
      refine pu_ (i := 3) (N := some 29) (v := ?_) (a' := ?_) #[true, false, false, true, false, false, false, false, false, false, false] rfl rfl (an_ HT_.out kr_) (fun _ _ _ h => h) (Or.inl ⟨by rfl, ?_⟩) ?_ ?_
      rotate_left
      ·intro w'
       go_simp
       with_reducible rfl
      rotate_left
      ·simp only [Act.put, s1_, s2_, s3_, i6_, i3_]
       rfl
      refine take_ (i := 1) (N := some 27) (v := ?_) (a' := ?_) #[true, true, false, true, false, false, false, false, false, false, false] rfl rfl (tW_ HT_.out HW_.out kr_) (fun _ _ _ h => h) (Or.inl ⟨by rfl, ?_⟩) hHeld ?_ ?_
      rotate_left
      ·rintro w' ⟨s0, s1, s2, s3, s4, s5⟩
       go_simp
       with_reducible rfl
      rotate_left
      ·simp only [Act.put, s1_, s2_, s3_, i6_, i3_]
       rfl
      refine take_ (i := 4) (N := some 30) (v := ?_) (a' := ?_) #[true, true, false, true, true, false, false, false, false, false, false] rfl rfl (tW_ HT_.out HW_.out kr_) (fun _ _ _ h => h) (Or.inl ⟨by rfl, ?_⟩) hHeld ?_ ?_
      rotate_left
      ·rintro w' ⟨s0, s1, s2, s3, s4, s5⟩
       go_simp
       with_reducible rfl
      rotate_left
      ·simp only [Act.put, s1_, s2_, s3_, i6_, i3_]
       rfl
      refine pu_ (i := 5) (N := some 31) (v := ?_) (a' := ?_) #[true, true, false, true, true, true, false, false, false, false, false] rfl rfl (an_ HT_.out kr_) (fun _ _ _ h => h) (Or.inl ⟨by rfl, ?_⟩) ?_ ?_
      rotate_left
      ·intro w'
       go_simp
       with_reducible rfl
      rotate_left
      ·simp only [Act.put, s1_, s2_, s3_, i6_, i3_]
       rfl
      refine pu_ (i := 6) (N := some 32) (v := ?_) (a' := ?_) #[true, true, false, true, true, true, true, false, false, false, false] rfl rfl (an_ HT_.out kr_) (fun _ _ _ h => h) (Or.inl ⟨by rfl, ?_⟩) ?_ ?_
      rotate_left
      ·intro w'
       go_simp
       with_reducible rfl
      rotate_left
      ·simp only [Act.put, s1_, s2_, s3_, i6_, i3_]
       rfl
      refine join_ (σ := Nat) 1 (tf_ 10 1) (fun s_ => [(28, .agg #[.bool la, .string ma, .string na]), (33, .agg #[.bool oa, .string qa, .string ra]), (8, .pointer (some ⟨s_, 0, none⟩)), (34, .agg #[.bool la, .string ma, .string na, .bool oa, .string qa, .string ra, .slice none 0 0])]) (fun s_ w' => (w'.cell? ⟨fa, 0, none⟩ = some (.int .u16 ((r46_ l0 aa).f0)) ∧ w'.cell? ⟨fa, 1, none⟩ = some (.int .u16 ((r46_ l0 aa).f1)) ∧ w'.cell? ⟨fa, 2, none⟩ = some (.int .u16 ((r46_ l0 aa).f2)) ∧ w'.cell? ⟨fa, 3, none⟩ = some (.int .u16 ((r46_ l0 aa).f3)) ∧ w'.cell? ⟨fa, 4, none⟩ = some (.int .u16 ((r46_ l0 aa).f4)) ∧ w'.cell? ⟨fa, 5, none⟩ = some (.int .u16 ((r46_ l0 aa).f5))) ∧ (Kd.S k50 50 w' w.heap.size (fun k_ => k_ ≠ s_) u5 wa) ∧ (w'.heap[fa]? = some (.cells #[.int .u16 ((r46_ l0 aa).f0), .int .u16 ((r46_ l0 aa).f1), .int .u16 ((r46_ l0 aa).f2), .int .u16 ((r46_ l0 aa).f3), .int .u16 ((r46_ l0 aa).f4), .int .u16 ((r46_ l0 aa).f5)] 46 (0, 0))) ∧ (w'.heap[s_]? = some (.cells #[.bool false, .string (⟨#[]⟩ : ByteArray), .string (⟨#[]⟩ : ByteArray), .bool false, .string (⟨#[]⟩ : ByteArray), .string (⟨#[]⟩ : ByteArray), .slice none 0 0] 50 (0, 0))) ∧ (w.heap.size ≤ s_) ∧ (w.heap.size ≤ s_) ∧ (fa ≠ s_) ∧ (s_ ≠ fa) ∧ (Below w.heap.size w w')) ?_ ?_
      rotate_left
      ·intro hCont
       refine two_ (i := 2) (j := 9) (Ni := some 28) (Nj := some 8) (tf_ 7 4) #[true, true, false, true, true, true, true, false, false, true, false] rfl rfl rfl rfl (two_of HT_.out kr_) (by decide) (by decide) (fun K hK => ?_) (fun K hK => ?_)
       ·skip
        refine goes_ Tryd.func17 kr_ rfl #[.int .u16 ((r46_ l0 aa).f0)] (by rfl) rfl rfl mp_ ?_
        with_reducible refine (l0_Amount.calls kj2 ((r46_ l0 aa).f0) la ma na _ A8.out).mono ?_
        rintro e w14 ⟨rfl, hb⟩
        refine ⟨_, rfl, ?_⟩
        replace ha := mk_ (Kd.S_below (by refine xs_ ?_; exact ha.out) hb)
        replace ba := mk_ (kB_ (xK_ ba.out) hb)
        replace HB := mk_ (bT_ (xB1_ HB ja) hb)
        (try clear hb)
        (try clear hb2)
        (try clear hk)
        (try clear hi)
        refine hK.out _ _ ⟨(kc_ ba.out 0).trans rfl, (kc_ ba.out 1).trans rfl, (kc_ ba.out 2).trans rfl, (kc_ ba.out 3).trans rfl, (kc_ ba.out 4).trans rfl, (kc_ ba.out 5).trans rfl⟩ (fun hHeld => ?_)
        clear hK K
        refine norm_ (a' := ?_) ?_ ?_
        rotate_left
        ·show Act.put _ (some 28) _ = _
         simp only [Act.put, s1_, s2_, s3_, i6_, i3_]
         rfl
        refine two_ (i := 7) (j := 9) (Ni := some 33) (Nj := some 8) (tf_ 8 3) #[true, true, true, true, true, true, true, false, false, true, false] rfl rfl rfl rfl (two_of HT_.out kr_) (by decide) (by decide) (fun K hK => ?_) (fun K hK => ?_)
        ·skip
         refine goes_ Tryd.func18 kr_ rfl #[.int .i64 (wrap64 (Int.tmod ((r46_ l0 aa).f1) 4))] (by rfl) rfl rfl mp_ ?_
         with_reducible refine (l0_Whole.calls kj2 (wrap64 (Int.tmod ((r46_ l0 aa).f1) 4)) oa qa ra _ A9.out).mono ?_
         rintro e w15 ⟨rfl, hb⟩
         refine ⟨_, rfl, ?_⟩
         replace ha := mk_ (Kd.S_below (by refine xs_ ?_; exact ha.out) hb)
         replace ba := mk_ (kB_ (xK_ ba.out) hb)
         replace HB := mk_ (bT_ (xB1_ HB ja) hb)
         (try clear hb)
         (try clear hb2)
         (try clear hk)
         (try clear hi)
         refine hK.out _ _ ⟨(kc_ ba.out 0).trans rfl, (kc_ ba.out 1).trans rfl, (kc_ ba.out 2).trans rfl, (kc_ ba.out 3).trans rfl, (kc_ ba.out 4).trans rfl, (kc_ ba.out 5).trans rfl⟩ (fun hHeld => ?_)
         clear hK K
         refine norm_ (a' := ?_) ?_ ?_
         rotate_left
         ·show Act.put _ (some 33) _ = _
          simp only [Act.put, s1_, s2_, s3_, i6_, i3_]
          rfl
         refine pu_ (i := 8) (N := some 34) (v := ?_) (a' := ?_) (tf_ 9 2) rfl rfl (an_ HT_.out kr_) (fun _ _ _ h => h) (Or.inl ⟨by rfl, ?_⟩) ?_ ?_
         rotate_left
         ·intro w'
          go_simp
          with_reducible rfl
         rotate_left
         ·simp only [Act.put, s1_, s2_, s3_, i6_, i3_]
          rfl
         refine one_ (i := 9) (N := some 8) (tf_ 10 1) rfl rfl (one_of HT_.out kr_) (by decide) (fun K hK => ?_)
         refine box_step ?hg (N := 8) ?hd (cs := #[.bool false, .string (⟨#[]⟩ : ByteArray), .string (⟨#[]⟩ : ByteArray), .bool false, .string (⟨#[]⟩ : ByteArray), .string (⟨#[]⟩ : ByteArray), .slice none 0 0]) (t := 50) ?hr ?_; (case hd => rfl); (case hg => rfl); (case hr => first | (go_simp; done) | (go_simp; rfl))
         intro ca hg w16 hbox hb
         replace ha := mk_ (Kd.S_below (Kd.S_elderB (by refine xs_ ?_; exact ha.out) ca (Nat.le_of_eq hg.symm)) hb)
         have ga := mk_ (hbox)
         have Da := mk_ (gZ_ hg (bZ_ (xB1_ HB ja)))
         have ka := mk_ (gZ_ hg (bZ_ (xB1_ HB ja)))
         replace HB := mk_ (bT_ (xB1_ HB ja) hb)
         have ea := mk_ (gN_ hg (xK_ ba.out))
         have ua := mk_ (gM_ hg (xK_ ba.out))
         replace ba := mk_ (kB_ (xK_ ba.out) hb)
         clear hb hbox hg
         refine hK.out _ _ ⟨(kc_ ba.out 0).trans rfl, (kc_ ba.out 1).trans rfl, (kc_ ba.out 2).trans rfl, (kc_ ba.out 3).trans rfl, (kc_ ba.out 4).trans rfl, (kc_ ba.out 5).trans rfl⟩ (fun hHeld => ?_)
         clear hK K
         refine norm_ (a' := ?_) ?_ ?_
         rotate_left
         ·show Act.put _ (some 8) _ = _
          simp only [Act.put, s1_, s2_, s3_, i6_, i3_]
          rfl
         exact norm_ (by simp only [putAll, Act.put, s1_, s2_, s3_]) (hCont (ca) _ ⟨hHeld, (by refine xs_ ?_; exact Kd.S_mono ha.out (fun _ hk => hk.2)), (xK_ ba.out), (xK_ ga.out), Da.out, ka.out, ea.out, ua.out, (xB2_ HB ja ka)⟩)
        ·skip
         refine box_step ?hg (N := 8) ?hd (cs := #[.bool false, .string (⟨#[]⟩ : ByteArray), .string (⟨#[]⟩ : ByteArray), .bool false, .string (⟨#[]⟩ : ByteArray), .string (⟨#[]⟩ : ByteArray), .slice none 0 0]) (t := 50) ?hr ?_; (case hd => rfl); (case hg => rfl); (case hr => first | (go_simp; done) | (go_simp; rfl))
         intro ca hg w15 hbox hb
         replace ha := mk_ (Kd.S_below (Kd.S_elderB (by refine xs_ ?_; exact ha.out) ca (Nat.le_of_eq hg.symm)) hb)
         have ga := mk_ (hbox)
         have Da := mk_ (gZ_ hg (bZ_ (xB1_ HB ja)))
         have ka := mk_ (gZ_ hg (bZ_ (xB1_ HB ja)))
         replace HB := mk_ (bT_ (xB1_ HB ja) hb)
         have ea := mk_ (gN_ hg (xK_ ba.out))
         have ua := mk_ (gM_ hg (xK_ ba.out))
         replace ba := mk_ (kB_ (xK_ ba.out) hb)
         clear hb hbox hg
         refine hK.out _ _ ⟨(kc_ ba.out 0).trans rfl, (kc_ ba.out 1).trans rfl, (kc_ ba.out 2).trans rfl, (kc_ ba.out 3).trans rfl, (kc_ ba.out 4).trans rfl, (kc_ ba.out 5).trans rfl⟩ (fun hHeld => ?_)
         clear hK K
         refine norm_ (a' := ?_) ?_ ?_
         rotate_left
         ·show Act.put _ (some 8) _ = _
          simp only [Act.put, s1_, s2_, s3_, i6_, i3_]
          rfl
         refine one_ (i := 7) (N := some 33) #[true, true, true, true, true, true, true, true, false, true, false] rfl rfl (one_of HT_.out kr_) (by decide) (fun K hK => ?_)
         refine goes_ Tryd.func18 kr_ rfl #[.int .i64 (wrap64 (Int.tmod ((r46_ l0 aa).f1) 4))] (by rfl) rfl rfl mp_ ?_
         with_reducible refine (l0_Whole.calls kj2 (wrap64 (Int.tmod ((r46_ l0 aa).f1) 4)) oa qa ra _ A9.out).mono ?_
         rintro e w16 ⟨rfl, hb⟩
         refine ⟨_, rfl, ?_⟩
         replace ha := mk_ (Kd.S_below (by refine xs_ ?_; exact ha.out) hb)
         replace ba := mk_ (kB_ (xK_ ba.out) hb)
         replace ga := mk_ (kB_ (xK_ ga.out) hb)
         replace HB := mk_ (bT_ (xB2_ HB ja ka) hb)
         (try clear hb)
         (try clear hb2)
         (try clear hk)
         (try clear hi)
         refine hK.out _ _ ⟨(kc_ ba.out 0).trans rfl, (kc_ ba.out 1).trans rfl, (kc_ ba.out 2).trans rfl, (kc_ ba.out 3).trans rfl, (kc_ ba.out 4).trans rfl, (kc_ ba.out 5).trans rfl⟩ (fun hHeld => ?_)
         clear hK K
         refine norm_ (a' := ?_) ?_ ?_
         rotate_left
         ·show Act.put _ (some 33) _ = _
          simp only [Act.put, s1_, s2_, s3_, i6_, i3_]
          rfl
         refine pu_ (i := 8) (N := some 34) (v := ?_) (a' := ?_) (tf_ 10 1) rfl rfl (an_ HT_.out kr_) (fun _ _ _ h => h) (Or.inl ⟨by rfl, ?_⟩) ?_ ?_
         rotate_left
         ·intro w'
          go_simp
          with_reducible rfl
         rotate_left
         ·simp only [Act.put, s1_, s2_, s3_, i6_, i3_]
          rfl
         exact norm_ (by simp only [putAll, Act.put, s1_, s2_, s3_]) (hCont (ca) _ ⟨hHeld, (by refine xs_ ?_; exact Kd.S_mono ha.out (fun _ hk => hk.2)), (xK_ ba.out), (xK_ ga.out), Da.out, ka.out, ea.out, ua.out, (xB2_ HB ja ka)⟩)
       ·skip
        refine box_step ?hg (N := 8) ?hd (cs := #[.bool false, .string (⟨#[]⟩ : ByteArray), .string (⟨#[]⟩ : ByteArray), .bool false, .string (⟨#[]⟩ : ByteArray), .string (⟨#[]⟩ : ByteArray), .slice none 0 0]) (t := 50) ?hr ?_; (case hd => rfl); (case hg => rfl); (case hr => first | (go_simp; done) | (go_simp; rfl))
        intro ca hg w14 hbox hb
        replace ha := mk_ (Kd.S_below (Kd.S_elderB (by refine xs_ ?_; exact ha.out) ca (Nat.le_of_eq hg.symm)) hb)
        have ga := mk_ (hbox)
        have Da := mk_ (gZ_ hg (bZ_ (xB1_ HB ja)))
        have ka := mk_ (gZ_ hg (bZ_ (xB1_ HB ja)))
        replace HB := mk_ (bT_ (xB1_ HB ja) hb)
        have ea := mk_ (gN_ hg (xK_ ba.out))
        have ua := mk_ (gM_ hg (xK_ ba.out))
        replace ba := mk_ (kB_ (xK_ ba.out) hb)
        clear hb hbox hg
        refine hK.out _ _ ⟨(kc_ ba.out 0).trans rfl, (kc_ ba.out 1).trans rfl, (kc_ ba.out 2).trans rfl, (kc_ ba.out 3).trans rfl, (kc_ ba.out 4).trans rfl, (kc_ ba.out 5).trans rfl⟩ (fun hHeld => ?_)
        clear hK K
        refine norm_ (a' := ?_) ?_ ?_
        rotate_left
        ·show Act.put _ (some 8) _ = _
         simp only [Act.put, s1_, s2_, s3_, i6_, i3_]
         rfl
        refine one_ (i := 2) (N := some 28) #[true, true, true, true, true, true, true, false, false, true, false] rfl rfl (one_of HT_.out kr_) (by decide) (fun K hK => ?_)
        refine goes_ Tryd.func17 kr_ rfl #[.int .u16 ((r46_ l0 aa).f0)] (by rfl) rfl rfl mp_ ?_
        with_reducible refine (l0_Amount.calls kj2 ((r46_ l0 aa).f0) la ma na _ A8.out).mono ?_
        rintro e w15 ⟨rfl, hb⟩
        refine ⟨_, rfl, ?_⟩
        replace ha := mk_ (Kd.S_below (by refine xs_ ?_; exact ha.out) hb)
        replace ba := mk_ (kB_ (xK_ ba.out) hb)
        replace ga := mk_ (kB_ (xK_ ga.out) hb)
        replace HB := mk_ (bT_ (xB2_ HB ja ka) hb)
        (try clear hb)
        (try clear hb2)
        (try clear hk)
        (try clear hi)
        refine hK.out _ _ ⟨(kc_ ba.out 0).trans rfl, (kc_ ba.out 1).trans rfl, (kc_ ba.out 2).trans rfl, (kc_ ba.out 3).trans rfl, (kc_ ba.out 4).trans rfl, (kc_ ba.out 5).trans rfl⟩ (fun hHeld => ?_)
        clear hK K
        refine norm_ (a' := ?_) ?_ ?_
        rotate_left
        ·show Act.put _ (some 28) _ = _
         simp only [Act.put, s1_, s2_, s3_, i6_, i3_]
         rfl
        refine one_ (i := 7) (N := some 33) #[true, true, true, true, true, true, true, true, false, true, false] rfl rfl (one_of HT_.out kr_) (by decide) (fun K hK => ?_)
        refine goes_ Tryd.func18 kr_ rfl #[.int .i64 (wrap64 (Int.tmod ((r46_ l0 aa).f1) 4))] (by rfl) rfl rfl mp_ ?_
        with_reducible refine (l0_Whole.calls kj2 (wrap64 (Int.tmod ((r46_ l0 aa).f1) 4)) oa qa ra _ A9.out).mono ?_
        rintro e w16 ⟨rfl, hb⟩
        refine ⟨_, rfl, ?_⟩
        replace ha := mk_ (Kd.S_below (by refine xs_ ?_; exact ha.out) hb)
        replace ba := mk_ (kB_ (xK_ ba.out) hb)
        replace ga := mk_ (kB_ (xK_ ga.out) hb)
        replace HB := mk_ (bT_ (xB2_ HB ja ka) hb)
        (try clear hb)
        (try clear hb2)
        (try clear hk)
        (try clear hi)
        refine hK.out _ _ ⟨(kc_ ba.out 0).trans rfl, (kc_ ba.out 1).trans rfl, (kc_ ba.out 2).trans rfl, (kc_ ba.out 3).trans rfl, (kc_ ba.out 4).trans rfl, (kc_ ba.out 5).trans rfl⟩ (fun hHeld => ?_)
        clear hK K
        refine norm_ (a' := ?_) ?_ ?_
        rotate_left
        ·show Act.put _ (some 33) _ = _
         simp only [Act.put, s1_, s2_, s3_, i6_, i3_]
         rfl
        refine pu_ (i := 8) (N := some 34) (v := ?_) (a' := ?_) (tf_ 10 1) rfl rfl (an_ HT_.out kr_) (fun _ _ _ h => h) (Or.inl ⟨by rfl, ?_⟩) ?_ ?_
        rotate_left
        ·intro w'
         go_simp
         with_reducible rfl
        rotate_left
        ·simp only [Act.put, s1_, s2_, s3_, i6_, i3_]
         rfl
        exact norm_ (by simp only [putAll, Act.put, s1_, s2_, s3_]) (hCont (ca) _ ⟨hHeld, (by refine xs_ ?_; exact Kd.S_mono ha.out (fun _ hk => hk.2)), (xK_ ba.out), (xK_ ga.out), Da.out, ka.out, ea.out, ua.out, (xB2_ HB ja ka)⟩)
      rintro ca w17 ⟨hS_, h0_, h1_, h2_, h3_, h4_, h5_, h6_, h7_⟩
      replace ha : A0_ (Kd.S k50 50 w17 w.heap.size (fun k_ => k_ ≠ ca) u5 wa) := ⟨h0_⟩
      replace ba : A0_ (w17.heap[fa]? = some (.cells #[.int .u16 ((r46_ l0 aa).f0), .int .u16 ((r46_ l0 aa).f1), .int .u16 ((r46_ l0 aa).f2), .int .u16 ((r46_ l0 aa).f3), .int .u16 ((r46_ l0 aa).f4), .int .u16 ((r46_ l0 aa).f5)] 46 (0, 0))) := ⟨h1_⟩
      have ga : A0_ (w17.heap[ca]? = some (.cells #[.bool false, .string (⟨#[]⟩ : ByteArray), .string (⟨#[]⟩ : ByteArray), .bool false, .string (⟨#[]⟩ : ByteArray), .string (⟨#[]⟩ : ByteArray), .slice none 0 0] 50 (0, 0))) := ⟨h2_⟩
      have Da : A0_ (w.heap.size ≤ ca) := ⟨h3_⟩
      have ka : A0_ (w.heap.size ≤ ca) := ⟨h4_⟩
      have ea : A0_ (fa ≠ ca) := ⟨h5_⟩
      have ua : A0_ (ca ≠ fa) := ⟨h6_⟩
      replace HB : A0_ (Below w.heap.size w w17) := ⟨h7_⟩
      clear h0_ h1_ h2_ h3_ h4_ h5_ h6_ h7_
      have hHeld : w17.cell? ⟨fa, 0, none⟩ = some (.int .u16 ((r46_ l0 aa).f0)) ∧ w17.cell? ⟨fa, 1, none⟩ = some (.int .u16 ((r46_ l0 aa).f1)) ∧ w17.cell? ⟨fa, 2, none⟩ = some (.int .u16 ((r46_ l0 aa).f2)) ∧ w17.cell? ⟨fa, 3, none⟩ = some (.int .u16 ((r46_ l0 aa).f3)) ∧ w17.cell? ⟨fa, 4, none⟩ = some (.int .u16 ((r46_ l0 aa).f4)) ∧ w17.cell? ⟨fa, 5, none⟩ = some (.int .u16 ((r46_ l0 aa).f5)) := hS_
      refine norm_ (a' := ?_) ?_ ?_
      rotate_left
      ·simp only [putAll, Act.put, s1_, s2_, s3_]
       rfl
      refine one_ (i := 10) (N := none) (tf_ 11 0) rfl rfl (one_of HT_.out kr_) (by decide) (fun K hK => ?_)
      have Rb : w17.cell? ⟨ca, 0, none⟩ = some (.bool false) := (kc_ ga.out 0).trans rfl
      have hfs18 := kF_ ga.out 0
      have hns18_0 := ea.out
      have hms18_0 := ua.out
      have Sb : w17.cell? ⟨ca, 1, none⟩ = some (.string (⟨#[]⟩ : ByteArray)) := (kc_ ga.out 1).trans rfl
      have hfs19 := kF_ ga.out 1
      have hns19_0 := ea.out
      have hms19_0 := ua.out
      have Tb : w17.cell? ⟨ca, 2, none⟩ = some (.string (⟨#[]⟩ : ByteArray)) := (kc_ ga.out 2).trans rfl
      have hfs20 := kF_ ga.out 2
      have hns20_0 := ea.out
      have hms20_0 := ua.out
      have Ub : w17.cell? ⟨ca, 3, none⟩ = some (.bool false) := (kc_ ga.out 3).trans rfl
      have hfs21 := kF_ ga.out 3
      have hns21_0 := ea.out
      have hms21_0 := ua.out
      have Vb : w17.cell? ⟨ca, 4, none⟩ = some (.string (⟨#[]⟩ : ByteArray)) := (kc_ ga.out 4).trans rfl
      have hfs22 := kF_ ga.out 4
      have hns22_0 := ea.out
      have hms22_0 := ua.out
      have Wb : w17.cell? ⟨ca, 5, none⟩ = some (.string (⟨#[]⟩ : ByteArray)) := (kc_ ga.out 5).trans rfl
      have hfs23 := kF_ ga.out 5
      have hns23_0 := ea.out
      have hms23_0 := ua.out
      have Xb : w17.cell? ⟨ca, 6, none⟩ = some (.slice none 0 0) := (kc_ ga.out 6).trans rfl
      have hfs24 := kF_ ga.out 6
      have hns24_0 := ea.out
      have hms24_0 := ua.out
      refine skip_ (w1 := ?_) (by rfl) rfl ?_ ?_
      rotate_left
      ·go_simp
       rfl
      refine hK.out _ _ ⟨((cf_ (p := ⟨ca, _, none⟩) ea.out _).trans (((cf_ (p := ⟨ca, _, none⟩) ea.out _).trans (((cf_ (p := ⟨ca, _, none⟩) ea.out _).trans (((cf_ (p := ⟨ca, _, none⟩) ea.out _).trans (((cf_ (p := ⟨ca, _, none⟩) ea.out _).trans (((cf_ (p := ⟨ca, _, none⟩) ea.out _).trans (((cf_ (p := ⟨ca, _, none⟩) ea.out _).trans (hHeld.1)))))))))))))), ((cf_ (p := ⟨ca, _, none⟩) ea.out _).trans (((cf_ (p := ⟨ca, _, none⟩) ea.out _).trans (((cf_ (p := ⟨ca, _, none⟩) ea.out _).trans (((cf_ (p := ⟨ca, _, none⟩) ea.out _).trans (((cf_ (p := ⟨ca, _, none⟩) ea.out _).trans (((cf_ (p := ⟨ca, _, none⟩) ea.out _).trans (((cf_ (p := ⟨ca, _, none⟩) ea.out _).trans (hHeld.2.1)))))))))))))), ((cf_ (p := ⟨ca, _, none⟩) ea.out _).trans (((cf_ (p := ⟨ca, _, none⟩) ea.out _).trans (((cf_ (p := ⟨ca, _, none⟩) ea.out _).trans (((cf_ (p := ⟨ca, _, none⟩) ea.out _).trans (((cf_ (p := ⟨ca, _, none⟩) ea.out _).trans (((cf_ (p := ⟨ca, _, none⟩) ea.out _).trans (((cf_ (p := ⟨ca, _, none⟩) ea.out _).trans (hHeld.2.2.1)))))))))))))), ((cf_ (p := ⟨ca, _, none⟩) ea.out _).trans (((cf_ (p := ⟨ca, _, none⟩) ea.out _).trans (((cf_ (p := ⟨ca, _, none⟩) ea.out _).trans (((cf_ (p := ⟨ca, _, none⟩) ea.out _).trans (((cf_ (p := ⟨ca, _, none⟩) ea.out _).trans (((cf_ (p := ⟨ca, _, none⟩) ea.out _).trans (((cf_ (p := ⟨ca, _, none⟩) ea.out _).trans (hHeld.2.2.2.1)))))))))))))), ((cf_ (p := ⟨ca, _, none⟩) ea.out _).trans (((cf_ (p := ⟨ca, _, none⟩) ea.out _).trans (((cf_ (p := ⟨ca, _, none⟩) ea.out _).trans (((cf_ (p := ⟨ca, _, none⟩) ea.out _).trans (((cf_ (p := ⟨ca, _, none⟩) ea.out _).trans (((cf_ (p := ⟨ca, _, none⟩) ea.out _).trans (((cf_ (p := ⟨ca, _, none⟩) ea.out _).trans (hHeld.2.2.2.2.1)))))))))))))), ((cf_ (p := ⟨ca, _, none⟩) ea.out _).trans (((cf_ (p := ⟨ca, _, none⟩) ea.out _).trans (((cf_ (p := ⟨ca, _, none⟩) ea.out _).trans (((cf_ (p := ⟨ca, _, none⟩) ea.out _).trans (((cf_ (p := ⟨ca, _, none⟩) ea.out _).trans (((cf_ (p := ⟨ca, _, none⟩) ea.out _).trans (((cf_ (p := ⟨ca, _, none⟩) ea.out _).trans (hHeld.2.2.2.2.2))))))))))))))⟩ (fun hHeld => ?_)
      clear hK K
      refine done_ (done_of HT_.out kr_) ?_
      try go_wp2
      go_loopg [9] kj2 (fun kq v9 w' => ∃ (Aa : Int) (va : List (S52)) (u326006 : Value), v9 = .int .i64 Aa ∧ A0_ (l0_Items.l1 kq l0 a1 wa aa Aa ((r46_ l0 aa).f0) ((r46_ l0 aa).f1) ((r46_ l0 aa).f2) ((r46_ l0 aa).f3) ((r46_ l0 aa).f4) ((r46_ l0 aa).f5) la ma na oa qa ra va = some r) ∧ A0_ (kq ≤ kj2) ∧ A0_ (Kd.S k50 50 w' w.heap.size (fun k_ => some k_ ≠ (u326006 : Value).ownBlock ∧ k_ ≠ ca) u5 wa) ∧ A0_ (Kd.R k52 52 w' w.heap.size (fun _ => True) u326006 va) ∧ A0_ (w'.heap[fa]? = some (.cells #[.int .u16 ((r46_ l0 aa).f0), .int .u16 ((r46_ l0 aa).f1), .int .u16 ((r46_ l0 aa).f2), .int .u16 ((r46_ l0 aa).f3), .int .u16 ((r46_ l0 aa).f4), .int .u16 ((r46_ l0 aa).f5)] 46 (0, 0))) ∧ A0_ (w'.heap[ca]? = some (.cells #[.bool la, .string ma, .string na, .bool oa, .string qa, .string ra, u326006] 50 (0, 0))) ∧ A0_ (Below w.heap.size w w'))
      case atStart => exact ⟨(0), (([] : List (S52))), (.slice none 0 0), (rS_), H', ⟨Nat.le_refl _⟩, ⟨by refine xs_ ?_; exact Kd.S_mono (Kd.S_far (p := ⟨ca, 6, none⟩) (Kd.S_far (p := ⟨ca, 5, none⟩) (Kd.S_far (p := ⟨ca, 4, none⟩) (Kd.S_far (p := ⟨ca, 3, none⟩) (Kd.S_far (p := ⟨ca, 2, none⟩) (Kd.S_far (p := ⟨ca, 1, none⟩) (Kd.S_far (p := ⟨ca, 0, none⟩) (Kd.S_mono ha.out (fun k_ hk => (⟨hk, hk⟩ : _ ∧ k_ ≠ ca))) (fun _ hk => hk.2) (.bool la)) (fun _ hk => hk.2) (.string ma)) (fun _ hk => hk.2) (.string na)) (fun _ hk => hk.2) (.bool oa)) (fun _ hk => hk.2) (.string qa)) (fun _ hk => hk.2) (.string ra)) (fun _ hk => hk.2) (.slice none 0 0)) (fun _ hk => ⟨(by simp [Value.ownBlock]), hk.1⟩)⟩, ⟨by first | exact Kd.R_nil _ _ _ _ _ | exact Kd.N_nil _ _ _ _ _ | exact Kd.V_nil _ _ _ _ _ | exact Kd.Q_nil _ _ _ _ _ | exact Kd.S_nil _ _ _ _ _⟩, ⟨by refine xk_ ?_; refine bf_ ?_ ea.out _; refine xk_ ?_; refine bf_ ?_ ea.out _; refine xk_ ?_; refine bf_ ?_ ea.out _; refine xk_ ?_; refine bf_ ?_ ea.out _; refine xk_ ?_; refine bf_ ?_ ea.out _; refine xk_ ?_; refine bf_ ?_ ea.out _; refine xk_ ?_; refine bf_ ?_ ea.out _; refine xk_ ?_; exact ba.out⟩, ⟨by refine xk_ ?_; refine kQ_ (cs := #[.bool la, .string ma, .string na, .bool oa, .string qa, .string ra, .slice none 0 0]) ?_ 6 _ rfl; refine kQ_ (cs := #[.bool la, .string ma, .string na, .bool oa, .string qa, .string (⟨#[]⟩ : ByteArray), .slice none 0 0]) ?_ 5 _ rfl; refine kQ_ (cs := #[.bool la, .string ma, .string na, .bool oa, .string (⟨#[]⟩ : ByteArray), .string (⟨#[]⟩ : ByteArray), .slice none 0 0]) ?_ 4 _ rfl; refine kQ_ (cs := #[.bool la, .string ma, .string na, .bool false, .string (⟨#[]⟩ : ByteArray), .string (⟨#[]⟩ : ByteArray), .slice none 0 0]) ?_ 3 _ rfl; refine kQ_ (cs := #[.bool la, .string ma, .string (⟨#[]⟩ : ByteArray), .bool false, .string (⟨#[]⟩ : ByteArray), .string (⟨#[]⟩ : ByteArray), .slice none 0 0]) ?_ 2 _ rfl; refine kQ_ (cs := #[.bool la, .string (⟨#[]⟩ : ByteArray), .string (⟨#[]⟩ : ByteArray), .bool false, .string (⟨#[]⟩ : ByteArray), .string (⟨#[]⟩ : ByteArray), .slice none 0 0]) ?_ 1 _ rfl; refine kQ_ (cs := #[.bool false, .string (⟨#[]⟩ : ByteArray), .string (⟨#[]⟩ : ByteArray), .bool false, .string (⟨#[]⟩ : ByteArray), .string (⟨#[]⟩ : ByteArray), .slice none 0 0]) ?_ 0 _ rfl; exact ga.out⟩, ⟨xB2_ HB ja ka⟩⟩
      case round =>
       clear H'
       obtain ⟨Aa, va, u326006, rfl, HA, HK3, ha, pa, ba, ga, HB⟩ := hrel
       cases gk with
       | zero => exact absurd HA.out (by simp [l0_Items.l1])
       | succ k3 =>
        have H := HA.out
        clear HA
        simp only [l0_Items.l1] at H
        have HC25 := mk_ H
        clear H
        go_upto_region 8 with (fail)
        go_cut [40] (fun v40 wc => ∃ (kq : Nat) (Ta : Bool), v40 = .bool Ta ∧ A0_ (l0_Items.j3 kq l0 a1 wa aa Aa Ta ((r46_ l0 aa).f0) ((r46_ l0 aa).f1) ((r46_ l0 aa).f2) ((r46_ l0 aa).f3) ((r46_ l0 aa).f4) ((r46_ l0 aa).f5) la ma na oa qa ra va = some r) ∧ A0_ (kq ≤ k3) ∧ A0_ (Kd.S k50 50 wc w.heap.size (fun k_ => some k_ ≠ (u326006 : Value).ownBlock ∧ k_ ≠ ca) u5 wa) ∧ A0_ (Kd.R k52 52 wc w.heap.size (fun _ => True) u326006 va) ∧ A0_ (wc.heap[fa]? = some (.cells #[.int .u16 ((r46_ l0 aa).f0), .int .u16 ((r46_ l0 aa).f1), .int .u16 ((r46_ l0 aa).f2), .int .u16 ((r46_ l0 aa).f3), .int .u16 ((r46_ l0 aa).f4), .int .u16 ((r46_ l0 aa).f5)] 46 (0, 0))) ∧ A0_ (wc.heap[ca]? = some (.cells #[.bool la, .string ma, .string na, .bool oa, .string qa, .string ra, u326006] 50 (0, 0))) ∧ A0_ (Below w.heap.size w wc))
        case first =>
         have H := HC25.out
         clear HC25
         replace H := iS_ H
         rcases H with ⟨c26, H⟩ | ⟨c26, H⟩
         ·have Fa := decide_eq_true c26
          clear c26
          (first | rw [Fa] | rw [jb] | (simp only [i6_, i3_]; rw [Fa]) | skip)
          have H' := mk_ H
          clear H
          go_wp2
          go_meet
          case rel => exact ⟨_, (decide (a1 > 0)), (rS_), H', ⟨by have := HK1.out; have := HJ2.out; have := HK3.out; first | omega | exact Nat.le_refl _⟩, ⟨by refine xs_ ?_; exact ha.out⟩, ⟨by refine xr_ ?_; exact pa.out⟩, ⟨by refine xk_ ?_; exact ba.out⟩, ⟨by refine xk_ ?_; exact ga.out⟩, ⟨xB2_ HB ja ka⟩⟩
         ·have Fa := decide_eq_false c26
          clear c26
          (first | rw [Fa] | rw [jb] | (simp only [i6_, i3_]; rw [Fa]) | skip)
          have H' := mk_ H
          clear H
          go_wp2
          go_meet
          case rel => exact ⟨_, (false), (rS_), H', ⟨by have := HK1.out; have := HJ2.out; have := HK3.out; first | omega | exact Nat.le_refl _⟩, ⟨by refine xs_ ?_; exact ha.out⟩, ⟨by refine xr_ ?_; exact pa.out⟩, ⟨by refine xk_ ?_; exact ba.out⟩, ⟨by refine xk_ ?_; exact ga.out⟩, ⟨xB2_ HB ja ka⟩⟩
        case rest =>
         clear HC25
         obtain ⟨kq, Ta, rfl, HA, HJ24, ha, pa, ba, ga, HB⟩ := hcut
         cases kq with
         | zero => exact absurd HA.out (by simp [l0_Items.j3])
         | succ kj24 =>
          have H := HA.out
          clear HA
          simp only [l0_Items.j3] at H
          replace H := iS_ H
          rcases H with ⟨c27, H⟩ | ⟨c27, H⟩
          ·subst c27
           replace H := oB_ H
           obtain ⟨da, A28, H⟩ := H
           (try dsimp only at H)
           replace H := iS_ H
           rcases H with ⟨c29, H⟩ | ⟨c29, H⟩
           ·have kb := beq_iff_eq.mpr c29
            have mb := bne_eq_false_iff_eq.mpr c29
            clear c29
            have H' := mk_ H
            clear H
            have hnb30 := ea.out
            have hnc30 := ua.out
            obtain ⟨Yb, Zb, ac, bc, cc, dc, ec, fc, gc, hc, ic, jc⟩ := kG6_ ba.out
            obtain ⟨ji_, hji_⟩ : ∃ j_ : Int, wrap64 (2 + Aa) = j_ := ⟨_, rfl⟩
            obtain ⟨q0_, q1_, hv_⟩ := arr6_open A28.out
            rw [hji_] at q0_ q1_ hv_
            have db : wc.cell? ⟨fa, ji_.toNat, none⟩ = some (.int .u16 da) := (kc_ ba.out ji_.toNat).trans (cells6 q0_ q1_ hv_)
            clear hv_
            go_wp2_with (first | ((with_reducible refine gD_ (N := 45) rfl ?_); refine idx_arr rfl rfl rfl (g := fa) rfl (j := ji_) rfl (by first | exact hji_ | exact (i6_ _).trans hji_) 6 _ Tryd.underlying46 kr_ kr_ (by intro _; first | rfl | (go_simp; done) | (go_simp; rfl)) q0_ q1_ ?_))
            (try simp only [ap_])
            go_roundg kj24
            case measure => have := HK1.out; have := HJ2.out; have := HK3.out; have := HJ24.out; omega
            case rel => exact ⟨(wrap64 (Aa + 1)), (va), (u326006), (rS_), H', ⟨by have := HK1.out; have := HJ2.out; have := HK3.out; have := HJ24.out; omega⟩, ⟨by refine xs_ ?_; exact ha.out⟩, ⟨by refine xr_ ?_; exact pa.out⟩, ⟨by refine xk_ ?_; exact ba.out⟩, ⟨by refine xk_ ?_; exact ga.out⟩, ⟨xB2_ HB ja ka⟩⟩
           ·have kb := beq_eq_false_iff_ne.mpr c29
            have mb := bne_iff_ne.mpr c29
            replace H := iS_ H
            rcases H with ⟨c32, H⟩ | ⟨c32, H⟩
            ·exact absurd H (by simp)
            ·have kc := beq_eq_false_iff_ne.mpr c32
             have lc := bne_iff_ne.mpr c32
             replace H := iS_ H
             rcases H with ⟨c33, H⟩ | ⟨c33, H⟩
             ·have nb := beq_iff_eq.mpr c33
              have ob := bne_eq_false_iff_eq.mpr c33
              clear c33
              replace H := oB_ H
              obtain ⟨⟨xa, za, Ba⟩, A34, H⟩ := H
              (try dsimp only at H)
              replace H := iP_ H
              obtain ⟨c35, H⟩ := H
              have pb := mk_ c35
              clear c35
              obtain ⟨Ga, Ua⟩ : ∃ y_ : List (S52), y_ = (va ++ [(⟨Int.tmod (wrap64 (Int.tdiv (wrap64 (da)) 4)) a1, Int.tmod (wrap64 (Int.tdiv (wrap64 (da)) 32)) 3, true, (⟨xa, za, Ba⟩ : S32)⟩ : S52)]) := ⟨_, rfl⟩
              (first | rw [← Ua] at H | skip); (try with_reducible replace H := (Option.bind_some _ _).symm.trans H); (try dsimp only at H)
              have qb := mk_ Ua
              clear Ua
              have H' := mk_ H
              clear H
              have hnb36 := ea.out
              have hnc36 := ua.out
              obtain ⟨mc, nc, oc, pc, qc, rc, sc, tc, uc, vc, xc, yc⟩ := kG6_ ba.out
              obtain ⟨ji_, hji_⟩ : ∃ j_ : Int, wrap64 (2 + Aa) = j_ := ⟨_, rfl⟩
              obtain ⟨q0_, q1_, hv_⟩ := arr6_open A28.out
              rw [hji_] at q0_ q1_ hv_
              have db : wc.cell? ⟨fa, ji_.toNat, none⟩ = some (.int .u16 da) := (kc_ ba.out ji_.toNat).trans (cells6 q0_ q1_ hv_)
              clear hv_
              go_wp2_with (first | ((with_reducible refine gD_ (N := 45) rfl ?_); refine idx_arr rfl rfl rfl (g := fa) rfl (j := ji_) rfl (by first | exact hji_ | exact (i6_ _).trans hji_) 6 _ Tryd.underlying46 kr_ kr_ (by intro _; first | rfl | (go_simp; done) | (go_simp; rfl)) q0_ q1_ ?_) | ((with_reducible refine gD_ (N := 11) rfl ?_); refine bX_ (N := 11) (cs := #[.int .i64 0, .int .i64 0, .bool false, .bool false, .string (⟨#[]⟩ : ByteArray), .string (⟨#[]⟩ : ByteArray)]) (t := 52) ?_; intro ia hg w38 hbox hb; replace ha := mk_ (Kd.S_below (Kd.S_elderB (by refine xs_ ?_; exact ha.out) ia (Nat.le_of_eq hg.symm)) hb); replace pa := mk_ (Kd.rB_ (Kd.R_elderB (xR_ pa.out) ia (Nat.le_of_eq hg.symm)) hb); have ya := mk_ (hbox); have rb := mk_ (gZ_ hg (bZ_ (xB2_ HB ja ka))); have Ca := mk_ (gZ_ hg (bZ_ (xB2_ HB ja ka))); replace HB := mk_ (bT_ (xB2_ HB ja ka) hb); have sa := mk_ (gN_ hg (xK_ ba.out)); have Va := mk_ (gM_ hg (xK_ ba.out)); replace ba := mk_ (kB_ (xK_ ba.out) hb); have ta := mk_ (gN_ hg (xK_ ga.out)); have Wa := mk_ (gM_ hg (xK_ ga.out)); replace ga := mk_ (kB_ (xK_ ga.out) hb); clear hb hbox hg; have hnb39 := Va.out; have hnc39 := sa.out; have hnb40 := Wa.out; have hnc40 := ta.out; obtain ⟨zc, Ac, Bc, Cc, Dc, Ec, Fc, Gc, Hc, Ic, Jc, Kc⟩ := kG6_ ya.out) | ((with_reducible refine gC_ (f := 18) rfl ?_); refine gL_ (some 66) rfl rfl Tryd.func18 kr_ rfl #[.int .i64 (Int.tmod (wrap64 (Int.tdiv (wrap64 (da)) 96)) 12)] rfl mp_ ?_; (with_reducible refine (l0_Whole.calls kj24 (Int.tmod (wrap64 (Int.tdiv (wrap64 (da)) 96)) 12) xa za Ba _ A34.out).mono ?_); rintro e w42 ⟨rfl, hb⟩; refine ⟨_, rfl, ?_⟩; replace ha := mk_ (Kd.S_below (by refine xs_ ?_; exact (Kd.S_mono (Kd.S_far (p := ⟨ia, 2, none⟩) (Kd.S_far (p := ⟨ia, 5, none⟩) (Kd.S_far (p := ⟨ia, 4, none⟩) (Kd.S_far (p := ⟨ia, 3, none⟩) (Kd.S_far (p := ⟨ia, 2, none⟩) (Kd.S_far (p := ⟨ia, 1, none⟩) (Kd.S_far (p := ⟨ia, 0, none⟩) (Kd.S_mono ha.out (fun k_ hk => (⟨hk, hk.2⟩ : _ ∧ k_ ≠ ia))) (fun _ hk => hk.2) (.int .i64 (Int.tmod (wrap64 (Int.tdiv (wrap64 (da)) 4)) a1))) (fun _ hk => hk.2) (.int .i64 (Int.tmod (wrap64 (Int.tdiv (wrap64 (da)) 32)) 3))) (fun _ hk => hk.2) (.bool false)) (fun _ hk => hk.2) (.bool false)) (fun _ hk => hk.2) (.string (⟨#[]⟩ : ByteArray))) (fun _ hk => hk.2) (.string (⟨#[]⟩ : ByteArray))) (fun _ hk => hk.2) (.bool true)) (fun _ h_ => h_.1))) hb); replace pa := mk_ (Kd.rB_ (by refine xr_ ?_; exact (Kd.rM_ (Kd.rF_ (p := ⟨ia, 2, none⟩) (Kd.rF_ (p := ⟨ia, 5, none⟩) (Kd.rF_ (p := ⟨ia, 4, none⟩) (Kd.rF_ (p := ⟨ia, 3, none⟩) (Kd.rF_ (p := ⟨ia, 2, none⟩) (Kd.rF_ (p := ⟨ia, 1, none⟩) (Kd.rF_ (p := ⟨ia, 0, none⟩) (Kd.rM_ pa.out (fun k_ hk => (⟨hk, hk.2⟩ : _ ∧ k_ ≠ ia))) (fun _ hk => hk.2) (.int .i64 (Int.tmod (wrap64 (Int.tdiv (wrap64 (da)) 4)) a1))) (fun _ hk => hk.2) (.int .i64 (Int.tmod (wrap64 (Int.tdiv (wrap64 (da)) 32)) 3))) (fun _ hk => hk.2) (.bool false)) (fun _ hk => hk.2) (.bool false)) (fun _ hk => hk.2) (.string (⟨#[]⟩ : ByteArray))) (fun _ hk => hk.2) (.string (⟨#[]⟩ : ByteArray))) (fun _ hk => hk.2) (.bool true)) (fun _ h_ => h_.1))) hb); replace ba := mk_ (kB_ (g := fa) (o := .cells #[.int .u16 ((r46_ l0 aa).f0), .int .u16 ((r46_ l0 aa).f1), .int .u16 ((r46_ l0 aa).f2), .int .u16 ((r46_ l0 aa).f3), .int .u16 ((r46_ l0 aa).f4), .int .u16 ((r46_ l0 aa).f5)] 46 (0, 0)) (by refine xk_ ?_; refine bf_ ?_ sa.out _; refine xk_ ?_; refine bf_ ?_ sa.out _; refine xk_ ?_; refine bf_ ?_ sa.out _; refine xk_ ?_; refine bf_ ?_ sa.out _; refine xk_ ?_; refine bf_ ?_ sa.out _; refine xk_ ?_; refine bf_ ?_ sa.out _; refine xk_ ?_; refine bf_ ?_ sa.out _; refine xk_ ?_; exact ba.out) hb); replace ga := mk_ (kB_ (g := ca) (o := .cells #[.bool la, .string ma, .string na, .bool oa, .string qa, .string ra, u326006] 50 (0, 0)) (by refine xk_ ?_; refine bf_ ?_ ta.out _; refine xk_ ?_; refine bf_ ?_ ta.out _; refine xk_ ?_; refine bf_ ?_ ta.out _; refine xk_ ?_; refine bf_ ?_ ta.out _; refine xk_ ?_; refine bf_ ?_ ta.out _; refine xk_ ?_; refine bf_ ?_ ta.out _; refine xk_ ?_; refine bf_ ?_ ta.out _; refine xk_ ?_; exact ga.out) hb); replace ya := mk_ (kB_ (g := ia) (o := .cells #[.int .i64 (Int.tmod (wrap64 (Int.tdiv (wrap64 (da)) 4)) a1), .int .i64 (Int.tmod (wrap64 (Int.tdiv (wrap64 (da)) 32)) 3), .bool true, .bool false, .string (⟨#[]⟩ : ByteArray), .string (⟨#[]⟩ : ByteArray)] 52 (0, 0)) (by refine xk_ ?_; refine kP_ (cs := #[.int .i64 (Int.tmod (wrap64 (Int.tdiv (wrap64 (da)) 4)) a1), .int .i64 (Int.tmod (wrap64 (Int.tdiv (wrap64 (da)) 32)) 3), .bool false, .bool false, .string (⟨#[]⟩ : ByteArray), .string (⟨#[]⟩ : ByteArray)]) ?_ 2 _ rfl; refine xk_ ?_; refine kP_ (cs := #[.int .i64 (Int.tmod (wrap64 (Int.tdiv (wrap64 (da)) 4)) a1), .int .i64 (Int.tmod (wrap64 (Int.tdiv (wrap64 (da)) 32)) 3), .bool false, .bool false, .string (⟨#[]⟩ : ByteArray), .string (⟨#[]⟩ : ByteArray)]) ?_ 5 _ rfl; refine xk_ ?_; refine kP_ (cs := #[.int .i64 (Int.tmod (wrap64 (Int.tdiv (wrap64 (da)) 4)) a1), .int .i64 (Int.tmod (wrap64 (Int.tdiv (wrap64 (da)) 32)) 3), .bool false, .bool false, .string (⟨#[]⟩ : ByteArray), .string (⟨#[]⟩ : ByteArray)]) ?_ 4 _ rfl; refine xk_ ?_; refine kP_ (cs := #[.int .i64 (Int.tmod (wrap64 (Int.tdiv (wrap64 (da)) 4)) a1), .int .i64 (Int.tmod (wrap64 (Int.tdiv (wrap64 (da)) 32)) 3), .bool false, .bool false, .string (⟨#[]⟩ : ByteArray), .string (⟨#[]⟩ : ByteArray)]) ?_ 3 _ rfl; refine xk_ ?_; refine kP_ (cs := #[.int .i64 (Int.tmod (wrap64 (Int.tdiv (wrap64 (da)) 4)) a1), .int .i64 (Int.tmod (wrap64 (Int.tdiv (wrap64 (da)) 32)) 3), .bool false, .bool false, .string (⟨#[]⟩ : ByteArray), .string (⟨#[]⟩ : ByteArray)]) ?_ 2 _ rfl; refine xk_ ?_; refine kP_ (cs := #[.int .i64 (Int.tmod (wrap64 (Int.tdiv (wrap64 (da)) 4)) a1), .int .i64 0, .bool false, .bool false, .string (⟨#[]⟩ : ByteArray), .string (⟨#[]⟩ : ByteArray)]) ?_ 1 _ rfl; refine xk_ ?_; refine kQ_ (cs := #[.int .i64 0, .int .i64 0, .bool false, .bool false, .string (⟨#[]⟩ : ByteArray), .string (⟨#[]⟩ : ByteArray)]) ?_ 0 _ rfl; exact ya.out) hb); replace HB := mk_ (bT_ (xB3_ HB ja ka Ca) hb); obtain ⟨Lc, Mc, Nc, Oc, Pc, Qc, Rc, Sc, Tc, Uc, Vc, Wc⟩ := kG6_ ya.out; obtain ⟨Xc, Yc, Zc, ad, bd, cd, dd, ed, fd, id, jd, kd, ld, md⟩ := kG7_ ga.out) | ((with_reducible refine gate_builtin (b := .append) (xs := #[.tmp 69, .tmp 71]) rfl ?_); at_builtin; refine Kd.R_append k52 (w0 := w) w.heap.size rfl (.tmp 69) (.tmp 71) 48 52 (.agg #[(.int .i64 0), (.int .i64 0), (.bool false), (.bool false), (.string ⟨#[]⟩), (.string ⟨#[]⟩)]) 64 rfl Tryd.underlying48 info52 rfl (by decide) (by omega) u326006 va (⟨Int.tmod (wrap64 (Int.tdiv (wrap64 (da)) 4)) a1, Int.tmod (wrap64 (Int.tdiv (wrap64 (da)) 32)) 3, true, (⟨xa, za, Ba⟩ : S32)⟩ : S52) [.int .i64 (Int.tmod (wrap64 (Int.tdiv (wrap64 (da)) 4)) a1), .int .i64 (Int.tmod (wrap64 (Int.tdiv (wrap64 (da)) 32)) 3), .bool true, .bool xa, .string za, .string Ba] (fun k_ => k_ ≠ ia) (fun _ => False) rfl (by first | (go_simp; done) | (go_simp; rfl)) ?aP (fun _ hk => hk.elim) ?aF ?aO ?aB ?aS ?aL ?_; (case aP => exact k52_mkM _ _ _ (⟨Int.tmod (wrap64 (Int.tdiv (wrap64 (da)) 4)) a1, Int.tmod (wrap64 (Int.tdiv (wrap64 (da)) 32)) 3, true, (⟨xa, za, Ba⟩ : S32)⟩ : S52)); (case aB => exact (xB3_ HB ja ka Ca)); (case aF => exact (fun k_ hk => Kd.freshB (g := ia) (o := .cells #[.int .i64 (Int.tmod (wrap64 (Int.tdiv (wrap64 (da)) 4)) a1), .int .i64 (Int.tmod (wrap64 (Int.tdiv (wrap64 (da)) 32)) 3), .bool true, .bool xa, .string za, .string Ba] 52 (0, 0)) (by refine xk_ ?_; refine kP_ (cs := #[.int .i64 (Int.tmod (wrap64 (Int.tdiv (wrap64 (da)) 4)) a1), .int .i64 (Int.tmod (wrap64 (Int.tdiv (wrap64 (da)) 32)) 3), .bool true, .bool xa, .string za, .string (⟨#[]⟩ : ByteArray)]) ?_ 5 _ rfl; refine xk_ ?_; refine kP_ (cs := #[.int .i64 (Int.tmod (wrap64 (Int.tdiv (wrap64 (da)) 4)) a1), .int .i64 (Int.tmod (wrap64 (Int.tdiv (wrap64 (da)) 32)) 3), .bool true, .bool xa, .string (⟨#[]⟩ : ByteArray), .string (⟨#[]⟩ : ByteArray)]) ?_ 4 _ rfl; refine xk_ ?_; refine kP_ (cs := #[.int .i64 (Int.tmod (wrap64 (Int.tdiv (wrap64 (da)) 4)) a1), .int .i64 (Int.tmod (wrap64 (Int.tdiv (wrap64 (da)) 32)) 3), .bool true, .bool false, .string (⟨#[]⟩ : ByteArray), .string (⟨#[]⟩ : ByteArray)]) ?_ 3 _ rfl; refine xk_ ?_; exact ya.out) k_ hk)); (case aO => exact (by refine xr_ ?_; exact Kd.rM_ (Kd.rF_ (p := ⟨ia, 5, none⟩) (Kd.rF_ (p := ⟨ia, 4, none⟩) (Kd.rF_ (p := ⟨ia, 3, none⟩) (Kd.rM_ pa.out (fun k_ hk => (⟨hk, hk.2⟩ : _ ∧ k_ ≠ ia))) (fun _ hk => hk.2) (.bool xa)) (fun _ hk => hk.2) (.string za)) (fun _ hk => hk.2) (.string Ba)) (fun _ hk => hk.1.2))); (case aS => exact (bZ_ (xB3_ HB ja ka Ca))); (case aL => have := pb.out; omega); intro nd w45 ho hb hg hat; rw [← qb.out] at ho; replace ha := mk_ (Kd.S_after (ok := (fun k_ => k_ ≠ ca ∧ k_ ≠ ia)) (by refine xs_ ?_; exact Kd.S_mono (Kd.S_far (p := ⟨ia, 5, none⟩) (Kd.S_far (p := ⟨ia, 4, none⟩) (Kd.S_far (p := ⟨ia, 3, none⟩) (Kd.S_mono ha.out (fun k_ hk => (⟨hk, hk.2⟩ : _ ∧ k_ ≠ ia))) (fun _ hk => hk.2) (.bool xa)) (fun _ hk => hk.2) (.string za)) (fun _ hk => hk.2) (.string Ba)) (fun _ hk => ⟨⟨hk.1.1.2, hk.1.2⟩, hk.1.1.1⟩)) hg hat); replace ba := mk_ (blk_grown (g := fa) (o := .cells #[.int .u16 ((r46_ l0 aa).f0), .int .u16 ((r46_ l0 aa).f1), .int .u16 ((r46_ l0 aa).f2), .int .u16 ((r46_ l0 aa).f3), .int .u16 ((r46_ l0 aa).f4), .int .u16 ((r46_ l0 aa).f5)] 46 (0, 0)) (by refine xk_ ?_; refine bf_ ?_ sa.out _; refine xk_ ?_; refine bf_ ?_ sa.out _; refine xk_ ?_; refine bf_ ?_ sa.out _; refine xk_ ?_; exact ba.out) hg (Kd.R_ne pa.out ba.out (by decide))); replace ga := mk_ (blk_grown (g := ca) (o := .cells #[.bool la, .string ma, .string na, .bool oa, .string qa, .string ra, u326006] 50 (0, 0)) (by refine xk_ ?_; refine bf_ ?_ ta.out _; refine xk_ ?_; refine bf_ ?_ ta.out _; refine xk_ ?_; refine bf_ ?_ ta.out _; refine xk_ ?_; exact ga.out) hg (Kd.R_ne pa.out ga.out (by decide))); replace ya := mk_ (blk_grown (g := ia) (o := .cells #[.int .i64 (Int.tmod (wrap64 (Int.tdiv (wrap64 (da)) 4)) a1), .int .i64 (Int.tmod (wrap64 (Int.tdiv (wrap64 (da)) 32)) 3), .bool true, .bool xa, .string za, .string Ba] 52 (0, 0)) (by refine xk_ ?_; refine kP_ (cs := #[.int .i64 (Int.tmod (wrap64 (Int.tdiv (wrap64 (da)) 4)) a1), .int .i64 (Int.tmod (wrap64 (Int.tdiv (wrap64 (da)) 32)) 3), .bool true, .bool xa, .string za, .string (⟨#[]⟩ : ByteArray)]) ?_ 5 _ rfl; refine xk_ ?_; refine kP_ (cs := #[.int .i64 (Int.tmod (wrap64 (Int.tdiv (wrap64 (da)) 4)) a1), .int .i64 (Int.tmod (wrap64 (Int.tdiv (wrap64 (da)) 32)) 3), .bool true, .bool xa, .string (⟨#[]⟩ : ByteArray), .string (⟨#[]⟩ : ByteArray)]) ?_ 4 _ rfl; refine xk_ ?_; refine kP_ (cs := #[.int .i64 (Int.tmod (wrap64 (Int.tdiv (wrap64 (da)) 4)) a1), .int .i64 (Int.tmod (wrap64 (Int.tdiv (wrap64 (da)) 32)) 3), .bool true, .bool false, .string (⟨#[]⟩ : ByteArray), .string (⟨#[]⟩ : ByteArray)]) ?_ 3 _ rfl; refine xk_ ?_; exact ya.out) hg (Kd.R_away pa.out (fun _ hk => hk.2))); replace HB := mk_ (hb); have eb := mk_ (ho); clear pa; clear ho hb hg hat; obtain ⟨Xa, Ya, sb⟩ := Kd.rS_' eb.out; subst sb; obtain ⟨od, pd, qd, sd, td, ud, vd, wd, xd, yd, zd, Ad, Bd, Cd⟩ := kG7_ ga.out))
              (try simp only [ap_])
              go_roundg kj24
              case measure => have := HK1.out; have := HJ2.out; have := HK3.out; have := HJ24.out; omega
              case rel => exact ⟨(wrap64 (Aa + 1)), (Ga), (.slice Xa Ga.length Ya), (rS_), H', ⟨by have := HK1.out; have := HJ2.out; have := HK3.out; have := HJ24.out; omega⟩, ⟨by refine xs_ ?_; exact Kd.S_mono (Kd.S_far (p := ⟨ca, 6, none⟩) (Kd.S_mono ha.out (fun k_ hk => (⟨hk, hk.1.1⟩ : _ ∧ k_ ≠ ca))) (fun _ hk => hk.2) (.slice Xa Ga.length Ya)) (fun _ hk => ⟨hk.1.2, hk.1.1.1⟩)⟩, ⟨by refine xr_ ?_; exact Kd.rM_ (Kd.rF_ (p := ⟨ca, 6, none⟩) (Kd.R_types eb.out ga.out (by decide)) (fun _ hk => hk.2) (.slice Xa Ga.length Ya)) (fun _ hk => trivial)⟩, ⟨by refine xk_ ?_; refine bf_ ?_ ea.out _; refine xk_ ?_; exact ba.out⟩, ⟨by refine xk_ ?_; refine kQ_ (cs := #[.bool la, .string ma, .string na, .bool oa, .string qa, .string ra, u326006]) ?_ 6 _ rfl; exact ga.out⟩, ⟨xB3_ HB ja ka Ca⟩⟩
             ·have nb := beq_eq_false_iff_ne.mpr c33
              have ob := bne_iff_ne.mpr c33
              replace H := iP_ H
              obtain ⟨c48, H⟩ := H
              have tb := mk_ c48
              clear c48
              obtain ⟨Ha, Za⟩ : ∃ y_ : List (S52), y_ = (va ++ [(⟨Int.tmod (wrap64 (Int.tdiv (wrap64 (da)) 4)) a1, Int.tmod (wrap64 (Int.tdiv (wrap64 (da)) 32)) 3, false, (⟨false, (⟨#[]⟩ : ByteArray), (⟨#[]⟩ : ByteArray)⟩ : S32)⟩ : S52)]) := ⟨_, rfl⟩
              (first | rw [← Za] at H | skip); (try with_reducible replace H := (Option.bind_some _ _).symm.trans H); (try dsimp only at H)
              have ub := mk_ Za
              clear Za
              have H' := mk_ H
              clear H
              have hnb49 := ea.out
              have hnc49 := ua.out
              obtain ⟨Dd, Ed, Fd, Gd, Hd, Jd, Ld, Md, Nd, Od, Pd, Qd⟩ := kG6_ ba.out
              obtain ⟨ji_, hji_⟩ : ∃ j_ : Int, wrap64 (2 + Aa) = j_ := ⟨_, rfl⟩
              obtain ⟨q0_, q1_, hv_⟩ := arr6_open A28.out
              rw [hji_] at q0_ q1_ hv_
              have db : wc.cell? ⟨fa, ji_.toNat, none⟩ = some (.int .u16 da) := (kc_ ba.out ji_.toNat).trans (cells6 q0_ q1_ hv_)
              clear hv_
              go_wp2_with (first | ((with_reducible refine gD_ (N := 45) rfl ?_); refine idx_arr rfl rfl rfl (g := fa) rfl (j := ji_) rfl (by first | exact hji_ | exact (i6_ _).trans hji_) 6 _ Tryd.underlying46 kr_ kr_ (by intro _; first | rfl | (go_simp; done) | (go_simp; rfl)) q0_ q1_ ?_) | ((with_reducible refine gD_ (N := 11) rfl ?_); refine bX_ (N := 11) (cs := #[.int .i64 0, .int .i64 0, .bool false, .bool false, .string (⟨#[]⟩ : ByteArray), .string (⟨#[]⟩ : ByteArray)]) (t := 52) ?_; intro ia hg w51 hbox hb; replace ha := mk_ (Kd.S_below (Kd.S_elderB (by refine xs_ ?_; exact ha.out) ia (Nat.le_of_eq hg.symm)) hb); replace pa := mk_ (Kd.rB_ (Kd.R_elderB (xR_ pa.out) ia (Nat.le_of_eq hg.symm)) hb); have ya := mk_ (hbox); have rb := mk_ (gZ_ hg (bZ_ (xB2_ HB ja ka))); have Ca := mk_ (gZ_ hg (bZ_ (xB2_ HB ja ka))); replace HB := mk_ (bT_ (xB2_ HB ja ka) hb); have sa := mk_ (gN_ hg (xK_ ba.out)); have Va := mk_ (gM_ hg (xK_ ba.out)); replace ba := mk_ (kB_ (xK_ ba.out) hb); have ta := mk_ (gN_ hg (xK_ ga.out)); have Wa := mk_ (gM_ hg (xK_ ga.out)); replace ga := mk_ (kB_ (xK_ ga.out) hb); clear hb hbox hg; have hnb52 := Va.out; have hnc52 := sa.out; have hnb53 := Wa.out; have hnc53 := ta.out; obtain ⟨Rd, Sd, Td, Ud, Vd, Wd, Xd, Yd, Zd, ae, be, ce⟩ := kG6_ ya.out; obtain ⟨de, ee, fe, ge, he, ie, je, ke, le, me, ne, oe, pe, qe⟩ := kG7_ ga.out) | ((with_reducible refine gate_builtin (b := .append) (xs := #[.tmp 69, .tmp 71]) rfl ?_); at_builtin; refine Kd.R_append k52 (w0 := w) w.heap.size rfl (.tmp 69) (.tmp 71) 48 52 (.agg #[(.int .i64 0), (.int .i64 0), (.bool false), (.bool false), (.string ⟨#[]⟩), (.string ⟨#[]⟩)]) 64 rfl Tryd.underlying48 info52 rfl (by decide) (by omega) u326006 va (⟨Int.tmod (wrap64 (Int.tdiv (wrap64 (da)) 4)) a1, Int.tmod (wrap64 (Int.tdiv (wrap64 (da)) 32)) 3, false, (⟨false, (⟨#[]⟩ : ByteArray), (⟨#[]⟩ : ByteArray)⟩ : S32)⟩ : S52) [.int .i64 (Int.tmod (wrap64 (Int.tdiv (wrap64 (da)) 4)) a1), .int .i64 (Int.tmod (wrap64 (Int.tdiv (wrap64 (da)) 32)) 3), .bool false, .bool false, .string (⟨#[]⟩ : ByteArray), .string (⟨#[]⟩ : ByteArray)] (fun k_ => k_ ≠ ia) (fun _ => False) rfl (by first | (go_simp; done) | (go_simp; rfl)) ?aP (fun _ hk => hk.elim) ?aF ?aO ?aB ?aS ?aL ?_; (case aP => exact k52_mkM _ _ _ (⟨Int.tmod (wrap64 (Int.tdiv (wrap64 (da)) 4)) a1, Int.tmod (wrap64 (Int.tdiv (wrap64 (da)) 32)) 3, false, (⟨false, (⟨#[]⟩ : ByteArray), (⟨#[]⟩ : ByteArray)⟩ : S32)⟩ : S52)); (case aB => exact (xB3_ HB ja ka Ca)); (case aF => exact (fun k_ hk => Kd.freshB (g := ia) (o := .cells #[.int .i64 (Int.tmod (wrap64 (Int.tdiv (wrap64 (da)) 4)) a1), .int .i64 (Int.tmod (wrap64 (Int.tdiv (wrap64 (da)) 32)) 3), .bool false, .bool false, .string (⟨#[]⟩ : ByteArray), .string (⟨#[]⟩ : ByteArray)] 52 (0, 0)) (by refine xk_ ?_; refine kP_ (cs := #[.int .i64 (Int.tmod (wrap64 (Int.tdiv (wrap64 (da)) 4)) a1), .int .i64 (Int.tmod (wrap64 (Int.tdiv (wrap64 (da)) 32)) 3), .bool false, .bool false, .string (⟨#[]⟩ : ByteArray), .string (⟨#[]⟩ : ByteArray)]) ?_ 5 _ rfl; refine xk_ ?_; refine kP_ (cs := #[.int .i64 (Int.tmod (wrap64 (Int.tdiv (wrap64 (da)) 4)) a1), .int .i64 (Int.tmod (wrap64 (Int.tdiv (wrap64 (da)) 32)) 3), .bool false, .bool false, .string (⟨#[]⟩ : ByteArray), .string (⟨#[]⟩ : ByteArray)]) ?_ 4 _ rfl; refine xk_ ?_; refine kP_ (cs := #[.int .i64 (Int.tmod (wrap64 (Int.tdiv (wrap64 (da)) 4)) a1), .int .i64 (Int.tmod (wrap64 (Int.tdiv (wrap64 (da)) 32)) 3), .bool false, .bool false, .string (⟨#[]⟩ : ByteArray), .string (⟨#[]⟩ : ByteArray)]) ?_ 3 _ rfl; refine xk_ ?_; refine kP_ (cs := #[.int .i64 (Int.tmod (wrap64 (Int.tdiv (wrap64 (da)) 4)) a1), .int .i64 (Int.tmod (wrap64 (Int.tdiv (wrap64 (da)) 32)) 3), .bool false, .bool false, .string (⟨#[]⟩ : ByteArray), .string (⟨#[]⟩ : ByteArray)]) ?_ 2 _ rfl; refine xk_ ?_; refine kP_ (cs := #[.int .i64 (Int.tmod (wrap64 (Int.tdiv (wrap64 (da)) 4)) a1), .int .i64 0, .bool false, .bool false, .string (⟨#[]⟩ : ByteArray), .string (⟨#[]⟩ : ByteArray)]) ?_ 1 _ rfl; refine xk_ ?_; refine kQ_ (cs := #[.int .i64 0, .int .i64 0, .bool false, .bool false, .string (⟨#[]⟩ : ByteArray), .string (⟨#[]⟩ : ByteArray)]) ?_ 0 _ rfl; exact ya.out) k_ hk)); (case aO => exact (by refine xr_ ?_; exact Kd.rM_ (Kd.rF_ (p := ⟨ia, 5, none⟩) (Kd.rF_ (p := ⟨ia, 4, none⟩) (Kd.rF_ (p := ⟨ia, 3, none⟩) (Kd.rF_ (p := ⟨ia, 2, none⟩) (Kd.rF_ (p := ⟨ia, 1, none⟩) (Kd.rF_ (p := ⟨ia, 0, none⟩) (Kd.rM_ pa.out (fun k_ hk => (⟨hk, hk.2⟩ : _ ∧ k_ ≠ ia))) (fun _ hk => hk.2) (.int .i64 (Int.tmod (wrap64 (Int.tdiv (wrap64 (da)) 4)) a1))) (fun _ hk => hk.2) (.int .i64 (Int.tmod (wrap64 (Int.tdiv (wrap64 (da)) 32)) 3))) (fun _ hk => hk.2) (.bool false)) (fun _ hk => hk.2) (.bool false)) (fun _ hk => hk.2) (.string (⟨#[]⟩ : ByteArray))) (fun _ hk => hk.2) (.string (⟨#[]⟩ : ByteArray))) (fun _ hk => hk.1.2))); (case aS => exact (bZ_ (xB3_ HB ja ka Ca))); (case aL => have := tb.out; omega); intro re w56 ho hb hg hat; rw [← ub.out] at ho; replace ha := mk_ (Kd.S_after (ok := (fun k_ => k_ ≠ ca ∧ k_ ≠ ia)) (by refine xs_ ?_; exact Kd.S_mono (Kd.S_far (p := ⟨ia, 5, none⟩) (Kd.S_far (p := ⟨ia, 4, none⟩) (Kd.S_far (p := ⟨ia, 3, none⟩) (Kd.S_far (p := ⟨ia, 2, none⟩) (Kd.S_far (p := ⟨ia, 1, none⟩) (Kd.S_far (p := ⟨ia, 0, none⟩) (Kd.S_mono ha.out (fun k_ hk => (⟨hk, hk.2⟩ : _ ∧ k_ ≠ ia))) (fun _ hk => hk.2) (.int .i64 (Int.tmod (wrap64 (Int.tdiv (wrap64 (da)) 4)) a1))) (fun _ hk => hk.2) (.int .i64 (Int.tmod (wrap64 (Int.tdiv (wrap64 (da)) 32)) 3))) (fun _ hk => hk.2) (.bool false)) (fun _ hk => hk.2) (.bool false)) (fun _ hk => hk.2) (.string (⟨#[]⟩ : ByteArray))) (fun _ hk => hk.2) (.string (⟨#[]⟩ : ByteArray))) (fun _ hk => ⟨⟨hk.1.1.2, hk.1.2⟩, hk.1.1.1⟩)) hg hat); replace ba := mk_ (blk_grown (g := fa) (o := .cells #[.int .u16 ((r46_ l0 aa).f0), .int .u16 ((r46_ l0 aa).f1), .int .u16 ((r46_ l0 aa).f2), .int .u16 ((r46_ l0 aa).f3), .int .u16 ((r46_ l0 aa).f4), .int .u16 ((r46_ l0 aa).f5)] 46 (0, 0)) (by refine xk_ ?_; refine bf_ ?_ sa.out _; refine xk_ ?_; refine bf_ ?_ sa.out _; refine xk_ ?_; refine bf_ ?_ sa.out _; refine xk_ ?_; refine bf_ ?_ sa.out _; refine xk_ ?_; refine bf_ ?_ sa.out _; refine xk_ ?_; refine bf_ ?_ sa.out _; refine xk_ ?_; exact ba.out) hg (Kd.R_ne pa.out ba.out (by decide))); replace ga := mk_ (blk_grown (g := ca) (o := .cells #[.bool la, .string ma, .string na, .bool oa, .string qa, .string ra, u326006] 50 (0, 0)) (by refine xk_ ?_; refine bf_ ?_ ta.out _; refine xk_ ?_; refine bf_ ?_ ta.out _; refine xk_ ?_; refine bf_ ?_ ta.out _; refine xk_ ?_; refine bf_ ?_ ta.out _; refine xk_ ?_; refine bf_ ?_ ta.out _; refine xk_ ?_; refine bf_ ?_ ta.out _; refine xk_ ?_; exact ga.out) hg (Kd.R_ne pa.out ga.out (by decide))); replace ya := mk_ (blk_grown (g := ia) (o := .cells #[.int .i64 (Int.tmod (wrap64 (Int.tdiv (wrap64 (da)) 4)) a1), .int .i64 (Int.tmod (wrap64 (Int.tdiv (wrap64 (da)) 32)) 3), .bool false, .bool false, .string (⟨#[]⟩ : ByteArray), .string (⟨#[]⟩ : ByteArray)] 52 (0, 0)) (by refine xk_ ?_; refine kP_ (cs := #[.int .i64 (Int.tmod (wrap64 (Int.tdiv (wrap64 (da)) 4)) a1), .int .i64 (Int.tmod (wrap64 (Int.tdiv (wrap64 (da)) 32)) 3), .bool false, .bool false, .string (⟨#[]⟩ : ByteArray), .string (⟨#[]⟩ : ByteArray)]) ?_ 5 _ rfl; refine xk_ ?_; refine kP_ (cs := #[.int .i64 (Int.tmod (wrap64 (Int.tdiv (wrap64 (da)) 4)) a1), .int .i64 (Int.tmod (wrap64 (Int.tdiv (wrap64 (da)) 32)) 3), .bool false, .bool false, .string (⟨#[]⟩ : ByteArray), .string (⟨#[]⟩ : ByteArray)]) ?_ 4 _ rfl; refine xk_ ?_; refine kP_ (cs := #[.int .i64 (Int.tmod (wrap64 (Int.tdiv (wrap64 (da)) 4)) a1), .int .i64 (Int.tmod (wrap64 (Int.tdiv (wrap64 (da)) 32)) 3), .bool false, .bool false, .string (⟨#[]⟩ : ByteArray), .string (⟨#[]⟩ : ByteArray)]) ?_ 3 _ rfl; refine xk_ ?_; refine kP_ (cs := #[.int .i64 (Int.tmod (wrap64 (Int.tdiv (wrap64 (da)) 4)) a1), .int .i64 (Int.tmod (wrap64 (Int.tdiv (wrap64 (da)) 32)) 3), .bool false, .bool false, .string (⟨#[]⟩ : ByteArray), .string (⟨#[]⟩ : ByteArray)]) ?_ 2 _ rfl; refine xk_ ?_; refine kP_ (cs := #[.int .i64 (Int.tmod (wrap64 (Int.tdiv (wrap64 (da)) 4)) a1), .int .i64 0, .bool false, .bool false, .string (⟨#[]⟩ : ByteArray), .string (⟨#[]⟩ : ByteArray)]) ?_ 1 _ rfl; refine xk_ ?_; refine kQ_ (cs := #[.int .i64 0, .int .i64 0, .bool false, .bool false, .string (⟨#[]⟩ : ByteArray), .string (⟨#[]⟩ : ByteArray)]) ?_ 0 _ rfl; exact ya.out) hg (Kd.R_away pa.out (fun _ hk => hk.2))); replace HB := mk_ (hb); have fb := mk_ (ho); clear pa; clear ho hb hg hat; obtain ⟨ab, bb, vb⟩ := Kd.rS_' fb.out; subst vb; obtain ⟨se, te, ue, ve, we, xe, ye, ze, Ae, Be, Ce, De, Ee, Fe⟩ := kG7_ ga.out))
              (try simp only [ap_])
              go_roundg kj24
              case measure => have := HK1.out; have := HJ2.out; have := HK3.out; have := HJ24.out; omega
              case rel => exact ⟨(wrap64 (Aa + 1)), (Ha), (.slice ab Ha.length bb), (rS_), H', ⟨by have := HK1.out; have := HJ2.out; have := HK3.out; have := HJ24.out; omega⟩, ⟨by refine xs_ ?_; exact Kd.S_mono (Kd.S_far (p := ⟨ca, 6, none⟩) (Kd.S_mono ha.out (fun k_ hk => (⟨hk, hk.1.1⟩ : _ ∧ k_ ≠ ca))) (fun _ hk => hk.2) (.slice ab Ha.length bb)) (fun _ hk => ⟨hk.1.2, hk.1.1.1⟩)⟩, ⟨by refine xr_ ?_; exact Kd.rM_ (Kd.rF_ (p := ⟨ca, 6, none⟩) (Kd.R_types fb.out ga.out (by decide)) (fun _ hk => hk.2) (.slice ab Ha.length bb)) (fun _ hk => trivial)⟩, ⟨by refine xk_ ?_; refine bf_ ?_ ea.out _; refine xk_ ?_; exact ba.out⟩, ⟨by refine xk_ ?_; refine kQ_ (cs := #[.bool la, .string ma, .string na, .bool oa, .string qa, .string ra, u326006]) ?_ 6 _ rfl; exact ga.out⟩, ⟨xB3_ HB ja ka Ca⟩⟩
          ·replace c27 := Bool.eq_false_iff.mpr c27
           subst c27
           replace H := iP_ H
           obtain ⟨c59, H⟩ := H
           have wb := mk_ c59
           clear c59
           obtain ⟨xb, cb⟩ : ∃ y_ : List (S50), y_ = (wa ++ [(⟨(⟨la, ma, na⟩ : S32), (⟨oa, qa, ra⟩ : S32), va⟩ : S50)]) := ⟨_, rfl⟩
           (first | rw [← cb] at H | skip); (try with_reducible replace H := (Option.bind_some _ _).symm.trans H); (try dsimp only at H)
           have yb := mk_ cb
           clear cb
           have H' := mk_ H
           clear H
           have hnb60 := ua.out
           have hnc60 := ea.out
           obtain ⟨Ge, He, Ie, Je, Ke, Le, Me, Oe, Pe, Qe, Re, Se, Te, Ue⟩ := kG7_ ga.out
           obtain ⟨Ia, Ja, zb⟩ := Kd.rS_' pa.out
           subst zb
           go_wp2_with (first | ((with_reducible refine gate_builtin (b := .append) (xs := #[.tmp 74, .tmp 76]) rfl ?_); at_builtin; refine Kd.S_append k50 (w0 := w) w.heap.size rfl (.tmp 74) (.tmp 76) 26 50 (.agg #[(.bool false), (.string ⟨#[]⟩), (.string ⟨#[]⟩), (.bool false), (.string ⟨#[]⟩), (.string ⟨#[]⟩), (.slice none 0 0)]) 104 rfl Tryd.underlying26 info50 rfl (by decide) (by omega) u5 wa (⟨(⟨la, ma, na⟩ : S32), (⟨oa, qa, ra⟩ : S32), va⟩ : S50) [.bool la, .string ma, .string na, .bool oa, .string qa, .string ra, .slice Ia va.length Ja] (fun k_ => k_ ≠ ca) (fun k_ => some k_ = (.slice Ia va.length Ja : Value).ownBlock) rfl rfl ?aP (fun k_ hk_ => ((Kd.rM_ (ok' := fun k_ => ((fun k_ => k_ ≠ ca)) k_ ∧ some k_ ≠ (u5 : Value).ownBlock) (Kd.R_types (Kd.R_apart' (pa.out) (Kd.S_typed ha.out) (by decide)) ga.out (by decide)) (fun k_ hk => ⟨hk.2, hk.1.2⟩))).1 k_ hk_.symm) ?aF ?aO ?aB ?aS ?aL ?_; (case aP => exact k50_mkM _ _ _ (⟨(⟨la, ma, na⟩ : S32), (⟨oa, qa, ra⟩ : S32), va⟩ : S50) (Kd.rM_ (Kd.R_tight rfl (Kd.rM_ (ok' := fun k_ => ((fun k_ => k_ ≠ ca)) k_ ∧ some k_ ≠ (u5 : Value).ownBlock) (Kd.R_types (Kd.R_apart' (pa.out) (Kd.S_typed ha.out) (by decide)) ga.out (by decide)) (fun k_ hk => ⟨hk.2, hk.1.2⟩))) (fun _ h_ => h_))); (case aB => exact (xB2_ HB ja ka)); (case aF => exact (fun k_ hk => Kd.freshB (g := ca) (o := .cells #[.bool la, .string ma, .string na, .bool oa, .string qa, .string ra, .slice Ia va.length Ja] 50 (0, 0)) (xK_ ga.out) k_ hk)); (case aO => exact (by refine xs_ ?_; exact Kd.S_mono ha.out (fun k_ hk => ⟨hk.2, fun e_ => hk.1 e_⟩))); (case aS => exact (bZ_ (xB2_ HB ja ka))); (case aL => have := wb.out; omega); intro Ve w62 ho hb hg hat; rw [← yb.out] at ho; replace ba := mk_ (blk_grown (g := fa) (o := .cells #[.int .u16 ((r46_ l0 aa).f0), .int .u16 ((r46_ l0 aa).f1), .int .u16 ((r46_ l0 aa).f2), .int .u16 ((r46_ l0 aa).f3), .int .u16 ((r46_ l0 aa).f4), .int .u16 ((r46_ l0 aa).f5)] 46 (0, 0)) (xK_ ba.out) hg (Kd.S_ne ha.out ba.out (by decide))); replace ga := mk_ (blk_grown (g := ca) (o := .cells #[.bool la, .string ma, .string na, .bool oa, .string qa, .string ra, .slice Ia va.length Ja] 50 (0, 0)) (xK_ ga.out) hg (Kd.S_away ha.out (fun _ hk => hk.2))); replace HB := mk_ (hb); have Ab := mk_ (ho); clear ha pa; clear ho hb hg hat))
           (try simp only [ap_])
           go_roundg kj24
           case measure => have := HK1.out; have := HJ2.out; have := HK3.out; have := HJ24.out; omega
           case rel => exact ⟨(xb), (wrap64 (aa + 1)), (rS_), H', ⟨by have := HK1.out; have := HJ2.out; have := HK3.out; have := HJ24.out; omega⟩, ⟨by refine xs_ ?_; exact Kd.S_mono Ab.out (fun _ hk => trivial)⟩, ⟨xB2_ HB ja ka⟩⟩
     ·replace c5 := Bool.eq_false_iff.mpr c5
      subst c5
      obtain rfl := Option.some.inj H
      go_wp2
      go_ret
      exact ⟨_, rE_, by refine xs_ ?_; exact ha.out, xB_ HB⟩
def n_sign.f (a0 : Int) : Option (Int) := if a0 < 0 then (some (-1)) else (if a0 > 0 then (some 1) else (some 0))
theorem n_sign.calls (a0 : Int) (r : Int) (w : World) (h : n_sign.f a0 = some r) :
  Calls Tryd.prog 45 #[.int .i64 a0] w fun e w' => e = .returned (.int .i64 r) ∧ D0_ w w' := by
 have H := h
 unfold n_sign.f at H
 clear h
 replace H := iS_ H
 rcases H with ⟨c2, H⟩ | ⟨c2, H⟩
 ·have aa := decide_eq_true c2
  clear c2
  obtain rfl := Option.some.inj H
  go_enter Tryd.func45, Tryd.ntmps45
  go_wp2
  go_ret
  exact ⟨rS_, by repeat (first | exact D0_.refl _ | apply D0_.step)⟩
 ·have aa := decide_eq_false c2
  clear c2
  replace H := iS_ H
  rcases H with ⟨c3, H⟩ | ⟨c3, H⟩
  ·have ba := decide_eq_true c3
   clear c3
   obtain rfl := Option.some.inj H
   go_enter Tryd.func45, Tryd.ntmps45
   go_wp2
   go_ret
   exact ⟨rS_, by repeat (first | exact D0_.refl _ | apply D0_.step)⟩
  ·have ba := decide_eq_false c3
   clear c3
   obtain rfl := Option.some.inj H
   go_enter Tryd.func45, Tryd.ntmps45
   go_wp2
   go_ret
   exact ⟨rS_, by repeat (first | exact D0_.refl _ | apply D0_.step)⟩
def n_compare.l0 : Nat → List Int → List Int → Int → Option (Int)
 | 0, _, _, _ => none
 | k + 1, x0, x1, x5 => if x5 ≥ 0 then (if 0 ≤ x5 then (if x5 < (x0.length : Int) then (if x5 < (x1.length : Int) then (if (rd x0 x5) = (rd x1 x5) then (n_compare.l0 k x0 x1 (wrap64 (x5 - 1))) else (if (rd x0 x5) < (rd x1 x5) then (some (-1)) else (some 1))) else (none)) else (none)) else (none)) else (some 0)
def n_compare.f (k : Nat) (l0 : List Int) (l1 : List Int) : Option (Int) := if (l0.length : Int) = (l1.length : Int) then (n_compare.l0 k l0 l1 (wrap64 ((l0.length : Int) - 1))) else ((n_sign.f (wrap64 ((l0.length : Int) - (l1.length : Int)))).bind fun t363 => (some t363))
theorem n_compare.mono_l : ∀ k, (∀ y0 y1 y2, LeO (n_compare.l0 k y0 y1 y2) (n_compare.l0 (k + 1) y0 y1 y2))
 | 0 => fun _ _ _ r h => by simp [n_compare.l0] at h
 | k + 1 => by
  have ih0 := n_compare.mono_l k
  ·intro y0 y1 y2
   unfold n_compare.l0
   repeat' first
   | (with_reducible first | exact ih0 _ _ _ | exact LeO.refl _ | exact LeO.none _ | refine LeO.ite ?_ ?_ | refine LeO.bind ?_ (fun _ => ?_))
theorem n_compare.mono : ∀ a0 a1 k, LeO (n_compare.f k a0 a1) (n_compare.f (k + 1) a0 a1) := by
 intro a0 a1 k
 have ih0 := n_compare.mono_l k
 unfold n_compare.f
 repeat' first
   | (with_reducible first | exact ih0 _ _ _ | exact LeO.refl _ | exact LeO.none _ | refine LeO.ite ?_ ?_ | refine LeO.bind ?_ (fun _ => ?_))
theorem n_compare.calls (k : Nat) (A0 : Option Addr) (c0 : Nat) (l0 : List Int) (A1 : Option Addr) (c1 : Nat) (l1 : List Int) (r : Int) (w : World) (hr0 : Kd.C (Kd.int .u32) w A0 l0.length l0) (hc0 : l0.length ≤ c0) (hr1 : Kd.C (Kd.int .u32) w A1 l1.length l1) (hc1 : l1.length ≤ c1) (h : n_compare.f k l0 l1 = some r) :
  Calls Tryd.prog 59 #[.slice A0 l0.length c0, .slice A1 l1.length c1] w fun e w' => e = .returned (.int .i64 r) ∧ D0_ w w' := by
 have HR0 := mk_ hr0
 have HC0 := mk_ hc0
 clear hr0 hc0
 have HR1 := mk_ hr1
 have HC1 := mk_ hc1
 clear hr1 hc1
 have H := h
 unfold n_compare.f at H
 clear h
 replace H := iS_ H
 rcases H with ⟨c3, H⟩ | ⟨c3, H⟩
 ·have ua := beq_iff_eq.mpr c3
  have va := bne_eq_false_iff_eq.mpr c3
  have wa : (l0.length == l1.length) = true := by first | simpa using c3 | (simp at c3 ⊢; omega)
  clear c3
  have H' := mk_ H
  clear H
  go_enter Tryd.func59, Tryd.ntmps59
  go_wp2
  repeat (go_quiet (fail); try go_wp2)
  go_loopg [5] k (fun kq v5 w' => ∃ (aa : Int), v5 = .int .i64 aa ∧ A0_ (n_compare.l0 kq l0 l1 aa = some r) ∧ A0_ (kq ≤ k) ∧ D0_ w w')
  case atStart => exact ⟨(wrap64 ((l0.length : Int) - 1)), (rS_), H', ⟨Nat.le_refl _⟩, by repeat (first | exact D0_.refl _ | apply D0_.step)⟩
  case round =>
   clear H'
   obtain ⟨aa, rfl, HA, HK1, ⟨m1, rfl⟩⟩ := hrel
   cases gk with
   | zero => exact absurd HA.out (by simp [n_compare.l0])
   | succ k1 =>
    have H := HA.out
    clear HA
    simp only [n_compare.l0] at H
    replace H := iS_ H
    rcases H with ⟨c4, H⟩ | ⟨c4, H⟩
    ·have xa := decide_eq_true c4
     clear c4
     obtain ⟨Da, H⟩ := iD_ H
     obtain ⟨Ea, H⟩ := iD_ H
     obtain ⟨Fa, H⟩ := iD_ H
     replace H := iS_ H
     rcases H with ⟨c8, H⟩ | ⟨c8, H⟩
     ·have ya := beq_iff_eq.mpr c8
      have za := bne_eq_false_iff_eq.mpr c8
      clear c8
      have H' := mk_ H
      clear H
      have ba : 0 ≤ (aa : Int) := oD_
      have ca : aa < (l0.length : Int) := oD_
      obtain ⟨la, ja, sa⟩ := Kd.at_int HR0.out aa ba ca
      cases ja
      replace ba := eq_true ba
      replace ca := eq_true ca
      have da : 0 ≤ (aa : Int) := oD_
      have ea : aa < (l1.length : Int) := oD_
      obtain ⟨ma, ka, ta⟩ := Kd.at_int HR1.out aa da ea
      cases ka
      replace da := eq_true da
      replace ea := eq_true ea
      go_wp2
      repeat (go_quiet (fail); try go_wp2)
      (try simp only [ap_])
      go_roundg k1
      case measure => have := HK1.out; omega
      case rel => exact ⟨(wrap64 (aa - 1)), (rS_), H', ⟨by have := HK1.out; omega⟩, by repeat (first | exact D0_.refl _ | apply D0_.step)⟩
     ·have ya := beq_eq_false_iff_ne.mpr c8
      have za := bne_iff_ne.mpr c8
      replace H := iS_ H
      rcases H with ⟨c9, H⟩ | ⟨c9, H⟩
      ·have Aa := decide_eq_true c9
       clear c9
       obtain rfl := Option.some.inj H
       have ba : 0 ≤ (aa : Int) := oD_
       have ca : aa < (l0.length : Int) := oD_
       obtain ⟨la, ja, sa⟩ := Kd.at_int HR0.out aa ba ca
       cases ja
       replace ba := eq_true ba
       replace ca := eq_true ca
       have da : 0 ≤ (aa : Int) := oD_
       have ea : aa < (l1.length : Int) := oD_
       obtain ⟨ma, ka, ta⟩ := Kd.at_int HR1.out aa da ea
       cases ka
       replace da := eq_true da
       replace ea := eq_true ea
       have fa : 0 ≤ (aa : Int) := oD_
       have ga : aa < (l0.length : Int) := oD_
       obtain ⟨na, oa, Ba⟩ := Kd.at_int HR0.out aa fa ga
       obtain rfl : la = na := (by injection oa)
       replace fa := eq_true fa
       replace ga := eq_true ga
       have ha : 0 ≤ (aa : Int) := oD_
       have ia : aa < (l1.length : Int) := oD_
       obtain ⟨pa, qa, Ca⟩ := Kd.at_int HR1.out aa ha ia
       obtain rfl : ma = pa := (by injection qa)
       replace ha := eq_true ha
       replace ia := eq_true ia
       go_wp2
       repeat (go_quiet (fail); try go_wp2)
       go_ret
       exact ⟨rS_, by repeat (first | exact D0_.refl _ | apply D0_.step)⟩
      ·have Aa := decide_eq_false c9
       clear c9
       obtain rfl := Option.some.inj H
       have ba : 0 ≤ (aa : Int) := oD_
       have ca : aa < (l0.length : Int) := oD_
       obtain ⟨la, ja, sa⟩ := Kd.at_int HR0.out aa ba ca
       cases ja
       replace ba := eq_true ba
       replace ca := eq_true ca
       have da : 0 ≤ (aa : Int) := oD_
       have ea : aa < (l1.length : Int) := oD_
       obtain ⟨ma, ka, ta⟩ := Kd.at_int HR1.out aa da ea
       cases ka
       replace da := eq_true da
       replace ea := eq_true ea
       have fa : 0 ≤ (aa : Int) := oD_
       have ga : aa < (l0.length : Int) := oD_
       obtain ⟨na, oa, Ba⟩ := Kd.at_int HR0.out aa fa ga
       obtain rfl : la = na := (by injection oa)
       replace fa := eq_true fa
       replace ga := eq_true ga
       have ha : 0 ≤ (aa : Int) := oD_
       have ia : aa < (l1.length : Int) := oD_
       obtain ⟨pa, qa, Ca⟩ := Kd.at_int HR1.out aa ha ia
       obtain rfl : ma = pa := (by injection qa)
       replace ha := eq_true ha
       replace ia := eq_true ia
       go_wp2
       repeat (go_quiet (fail); try go_wp2)
       go_ret
       exact ⟨rS_, by repeat (first | exact D0_.refl _ | apply D0_.step)⟩
    ·have xa := decide_eq_false c4
     clear c4
     obtain rfl := Option.some.inj H
     go_wp2
     repeat (go_quiet (fail); try go_wp2)
     go_ret
     exact ⟨rS_, by repeat (first | exact D0_.refl _ | apply D0_.step)⟩
 ·have ua := beq_eq_false_iff_ne.mpr c3
  have va := bne_iff_ne.mpr c3
  have wa : (l0.length == l1.length) = false := by first | simpa using c3 | (simp at c3 ⊢; omega)
  obtain ⟨ra, A10, H⟩ := oB_ H
  (try dsimp only at H)
  obtain rfl := Option.some.inj H
  go_enter Tryd.func59, Tryd.ntmps59
  go_wp2_with (first | (go_at_call 45; (with_reducible refine (n_sign.calls (wrap64 ((l0.length : Int) - (l1.length : Int))) ra _ A10.out).mono ?_); rintro e w' ⟨rfl, ⟨nd, rfl⟩⟩; (try first | exact ⟨rfl, _, World.drewN_drewN _ _ _⟩ | exact ⟨rfl, _, Eq.trans (World.drewN_drewN _ _ _) (congrArg (World.drewN _) (Nat.add_assoc _ _ _))⟩)))
  repeat (go_quiet (first | (go_at_call 45; (with_reducible refine (n_sign.calls (wrap64 ((l0.length : Int) - (l1.length : Int))) ra _ A10.out).mono ?_); rintro e w' ⟨rfl, ⟨nd, rfl⟩⟩; (try first | exact ⟨rfl, _, World.drewN_drewN _ _ _⟩ | exact ⟨rfl, _, Eq.trans (World.drewN_drewN _ _ _) (congrArg (World.drewN _) (Nat.add_assoc _ _ _))⟩))); try go_wp2_with (first | (go_at_call 45; (with_reducible refine (n_sign.calls (wrap64 ((l0.length : Int) - (l1.length : Int))) ra _ A10.out).mono ?_); rintro e w' ⟨rfl, ⟨nd, rfl⟩⟩; (try first | exact ⟨rfl, _, World.drewN_drewN _ _ _⟩ | exact ⟨rfl, _, Eq.trans (World.drewN_drewN _ _ _) (congrArg (World.drewN _) (Nat.add_assoc _ _ _))⟩))))
  go_ret
  exact ⟨rS_, by repeat (first | exact D0_.refl _ | apply D0_.step)⟩
def n_limbs_trim.l0 : Nat → List Int → Int → Option (List Int)
 | 0, _, _ => none
 | k + 1, x0, x3 => if x3 > 0 then (if 0 ≤ (wrap64 (x3 - 1)) then (if (wrap64 (x3 - 1)) < (x0.length : Int) then (if (rd x0 (wrap64 (x3 - 1))) = 0 then (n_limbs_trim.l0 k x0 (wrap64 (x3 - 1))) else (if 0 ≤ x3 then (if x3 ≤ (x0.length : Int) then (some (x0.take (x3 : Int).toNat)) else (none)) else (none))) else (none)) else (none)) else (if 0 ≤ x3 then (if x3 ≤ (x0.length : Int) then (some (x0.take (x3 : Int).toNat)) else (none)) else (none))
def n_limbs_trim.f (k : Nat) (l0 : List Int) : Option (List Int) := n_limbs_trim.l0 k l0 (l0.length : Int)
theorem n_limbs_trim.mono_l : ∀ k, (∀ y0 y1, LeO (n_limbs_trim.l0 k y0 y1) (n_limbs_trim.l0 (k + 1) y0 y1))
 | 0 => fun _ _ r h => by simp [n_limbs_trim.l0] at h
 | k + 1 => by
  have ih0 := n_limbs_trim.mono_l k
  ·intro y0 y1
   unfold n_limbs_trim.l0
   repeat' first
   | (with_reducible first | exact ih0 _ _ | exact LeO.refl _ | exact LeO.none _ | refine LeO.ite ?_ ?_ | refine LeO.bind ?_ (fun _ => ?_))
theorem n_limbs_trim.mono : ∀ a0 k, LeO (n_limbs_trim.f k a0) (n_limbs_trim.f (k + 1) a0) := by
 intro a0 k
 have ih0 := n_limbs_trim.mono_l k
 unfold n_limbs_trim.f
 repeat' first
   | (with_reducible first | exact ih0 _ _ | exact LeO.refl _ | exact LeO.none _ | refine LeO.ite ?_ ?_ | refine LeO.bind ?_ (fun _ => ?_))
theorem n_limbs_trim.calls (k : Nat) (P0_ : Nat → Prop) (u9000_ : Value) (l0 : List Int) (r : List Int) (w0 w : World) (hB : Below w0.heap.size w0 w) (ho0 : Kd.R (Kd.int .u32) 80 w w0.heap.size P0_ u9000_ l0) (h : n_limbs_trim.f k l0 = some r) :
  Calls Tryd.prog 63 #[u9000_] w fun e w' => ∃ v0_ : Value, e = .returned (v0_) ∧ Kd.R (Kd.int .u32) 80 w' w0.heap.size (fun k_ => (P0_ k_ ∨ w.heap.size ≤ k_)) v0_ r ∧ Below w0.heap.size w0 w' ∧ Kept w w' (fun k_ => P0_ k_) := by
 have HO0 := mk_ (show Kd.R (Kd.int .u32) 80 w w0.heap.size (fun k_ => (P0_ k_ ∨ w.heap.size ≤ k_)) u9000_ l0 from Kd.rM_ ho0 (fun k_ hk => (.inl hk)))
 have HK := mk_ (Kept.refl w (fun k_ => P0_ k_))
 have HW0 := mk_ hB.size
 have HB := mk_ hB
 clear hB
 have H : (n_limbs_trim.l0 k l0 (l0.length : Int)) = some r := h
 clear h
 have H' := mk_ H
 clear H
 obtain ⟨Ao2, co2, eo2⟩ := Kd.rS_' HO0.out
 subst eo2
 go_enter Tryd.func63, Tryd.ntmps63
 go_wp2
 go_loopg [3] k (fun kq v3 w' => ∃ (aa : Int), v3 = .int .i64 aa ∧ A0_ (n_limbs_trim.l0 kq l0 aa = some r) ∧ A0_ (kq ≤ k) ∧ A0_ (Kd.R (Kd.int .u32) 80 w' w0.heap.size (fun k_ => (P0_ k_ ∨ w.heap.size ≤ k_)) (.slice Ao2 l0.length co2) l0) ∧ A0_ (Kept w w' (fun k_ => P0_ k_)) ∧ A0_ (Below w0.heap.size w0 w'))
 case atStart => exact ⟨((l0.length : Int)), (rS_), H', ⟨Nat.le_refl _⟩, ⟨by refine xr_ ?_; exact HO0.out⟩, ⟨xT0_ HK⟩, ⟨xB_ HB⟩⟩
 case round =>
  clear H'
  obtain ⟨aa, rfl, HA, HK1, ba, HK, HB⟩ := hrel
  cases gk with
  | zero => exact absurd HA.out (by simp [n_limbs_trim.l0])
  | succ k1 =>
   have H := HA.out
   clear HA
   simp only [n_limbs_trim.l0] at H
   replace H := iS_ H
   rcases H with ⟨c3, H⟩ | ⟨c3, H⟩
   ·have pa := decide_eq_true c3
    clear c3
    obtain ⟨ji4, ea⟩ : ∃ j_ : Int, (wrap64 (aa - 1)) = j_ := ⟨_, rfl⟩
    replace H : (if 0 ≤ (ji4) then (if (ji4) < (l0.length : Int) then (if (rd l0 (ji4)) = 0 then (n_limbs_trim.l0 k1 l0 ji4) else (if 0 ≤ aa then (if aa ≤ (l0.length : Int) then (some (l0.take (aa : Int).toNat)) else (none)) else (none))) else (none)) else (none)) = some r := by first | (rw [ea] at H; exact H) | (simp only [ea] at H ⊢; exact H)
    have xa : (IntKind.i64.wrap (aa - 1)) = ji4 := (i6_ _).trans ea
    obtain ⟨ya, H⟩ := iD_ H
    obtain ⟨za, H⟩ := iD_ H
    replace H := iS_ H
    rcases H with ⟨c7, H⟩ | ⟨c7, H⟩
    ·have qa := beq_iff_eq.mpr c7
     have ra := bne_eq_false_iff_eq.mpr c7
     clear c7
     have H' := mk_ H
     clear H
     have ca : 0 ≤ ((ji4) : Int) := oD_
     have da : (ji4) < (l0.length : Int) := oD_
     obtain ⟨ka, ha, sa⟩ := Kd.at_int (Kd.rr_' ba.out).2.2 (ji4) ca da
     cases ha
     replace ca := eq_true ca
     replace da := eq_true da
     go_wp2
     (try simp only [ap_])
     go_roundg k1
     case measure => have := HK1.out; omega
     case rel => exact ⟨(ji4), (by first | rfl | (simp; done) | (simp only [← ea] <;> (first | rfl | simp)) | (simp [*]; done)), H', ⟨by have := HK1.out; omega⟩, ⟨by refine xr_ ?_; exact ba.out⟩, ⟨xT0_ HK⟩, ⟨xB_ HB⟩⟩
    ·have qa := beq_eq_false_iff_ne.mpr c7
     have ra := bne_iff_ne.mpr c7
     obtain ⟨Aa, Ba, H⟩ := iE_ H
     obtain ⟨Ca, Da, H⟩ := iE_ H
     obtain ⟨ta, ia⟩ : ∃ y_ : List Int, y_ = (l0.take (aa : Int).toNat) := ⟨_, rfl⟩
     (first | rw [← ia] at H | skip); (try with_reducible replace H := (Option.bind_some _ _).symm.trans H); (try dsimp only at H)
     have la := mk_ ia
     clear ia
     obtain rfl := Option.some.inj H
     have ca : 0 ≤ ((ji4) : Int) := oD_
     have da : (ji4) < (l0.length : Int) := oD_
     obtain ⟨ka, ha, sa⟩ := Kd.at_int (Kd.rr_' ba.out).2.2 (ji4) ca da
     cases ha
     replace ca := eq_true ca
     replace da := eq_true da
     have q10 : (aa : Int) ≤ ((l0.length : Int) : Int) := oD_
     obtain ⟨i010, hi010, _, hsz10, _⟩ := info_parts info80
     have hcut10 := cut_to (P := Tryd.prog) 78 80 .i64 Tryd.underlying78 hi010 (some ka) l0.length co2 aa (oD_) q10 (Kd.rr_' ba.out).2.1
     have fa := Kd.R_take (m := (aa : Int).toNat) ba.out (by omega)
     have ma : ta.length = (aa : Int).toNat := (by rw [la.out, List.length_take]; omega)
     rw [← la.out] at fa
     rw [← ma] at fa hcut10
     clear ma hi010 hsz10 ba
     have ua := mk_ fa
     clear fa
     replace q10 := eq_true q10
     go_wp2
     go_ret
     exact ⟨_, by first | rfl | (simp [eN_', eS_] <;> rfl) | (simp only [← ea]; first | rfl | (simp [eN_', eS_] <;> rfl)) | (simp [*, eN_', eS_] <;> rfl), by refine xr_ ?_; exact ua.out, xB_ HB, xT0_ HK⟩
   ·have pa := decide_eq_false c3
    clear c3
    obtain ⟨Ea, Fa, H⟩ := iE_ H
    obtain ⟨Ga, Ha, H⟩ := iE_ H
    obtain ⟨va, ja⟩ : ∃ y_ : List Int, y_ = (l0.take (aa : Int).toNat) := ⟨_, rfl⟩
    (first | rw [← ja] at H | skip); (try with_reducible replace H := (Option.bind_some _ _).symm.trans H); (try dsimp only at H)
    have na := mk_ ja
    clear ja
    obtain rfl := Option.some.inj H
    have q13 : (aa : Int) ≤ ((l0.length : Int) : Int) := oD_
    obtain ⟨i013, hi013, _, hsz13, _⟩ := info_parts info80
    have hcut13 := cut_to (P := Tryd.prog) 78 80 .i64 Tryd.underlying78 hi013 Ao2 l0.length co2 aa (oD_) q13 (Kd.rr_' ba.out).2.1
    have ga := Kd.R_take (m := (aa : Int).toNat) ba.out (by omega)
    have oa : va.length = (aa : Int).toNat := (by rw [na.out, List.length_take]; omega)
    rw [← na.out] at ga
    rw [← oa] at ga hcut13
    clear oa hi013 hsz13 ba
    have wa := mk_ ga
    clear ga
    replace q13 := eq_true q13
    go_wp2
    go_ret
    exact ⟨_, rE_, by refine xr_ ?_; exact wa.out, xB_ HB, xT0_ HK⟩
def n_divideSmall.l0 : Nat → List Int → Int → List Int → Int → Int → Option (List Int × Int)
 | 0, _, _, _, _, _ => none
 | k + 1, x0, x1, x6, x7, x8 => if x8 ≥ 0 then (if 0 ≤ x8 then (if x8 < (x0.length : Int) then (if (IntKind.u64.wrap (x1)) = 0 then (none) else (if x8 < (x6.length : Int) then (n_divideSmall.l0 k x0 x1 (x6.set (x8 : Int).toNat ((IntKind.u64.wrap (Int.tdiv (Go.bits .or .u64 (IntKind.u64.wrap (x7 * 4294967296)) (IntKind.u64.wrap (rd x0 x8))) (IntKind.u64.wrap (x1)))) % 4294967296)) (Int.tmod (Go.bits .or .u64 (IntKind.u64.wrap (x7 * 4294967296)) (IntKind.u64.wrap (rd x0 x8))) (IntKind.u64.wrap (x1))) (wrap64 (x8 - 1))) else (none))) else (none)) else (none)) else ((n_limbs_trim.f k x6).bind fun t373 => (some (t373, (x7) % 4294967296)))
def n_divideSmall.f (k : Nat) (l0 : List Int) (a1 : Int) : Option (List Int × Int) := if 0 ≤ (l0.length : Int) then (if ((l0.length : Int) : Int).toNat ≤ 70368744177664 then (n_divideSmall.l0 k l0 a1 (List.replicate ((l0.length : Int) : Int).toNat 0) 0 (wrap64 ((l0.length : Int) - 1))) else (none)) else (none)
theorem n_divideSmall.mono_l : ∀ k, (∀ y0 y1 y2 y3 y4, LeO (n_divideSmall.l0 k y0 y1 y2 y3 y4) (n_divideSmall.l0 (k + 1) y0 y1 y2 y3 y4))
 | 0 => fun _ _ _ _ _ r h => by simp [n_divideSmall.l0] at h
 | k + 1 => by
  have ih0 := n_divideSmall.mono_l k
  ·intro y0 y1 y2 y3 y4
   unfold n_divideSmall.l0
   repeat' first
   | (with_reducible first | exact ih0 _ _ _ _ _ | exact n_limbs_trim.mono _ _ | exact LeO.refl _ | exact LeO.none _ | refine LeO.ite ?_ ?_ | refine LeO.bind ?_ (fun _ => ?_))
theorem n_divideSmall.mono : ∀ a0 a1 k, LeO (n_divideSmall.f k a0 a1) (n_divideSmall.f (k + 1) a0 a1) := by
 intro a0 a1 k
 have ih0 := n_divideSmall.mono_l k
 unfold n_divideSmall.f
 repeat' first
   | (with_reducible first | exact ih0 _ _ _ _ _ | exact n_limbs_trim.mono _ _ | exact LeO.refl _ | exact LeO.none _ | refine LeO.ite ?_ ?_ | refine LeO.bind ?_ (fun _ => ?_))
theorem n_divideSmall.calls (k : Nat) (A0 : Option Addr) (c0 : Nat) (l0 : List Int) (a1 : Int) (r1 : List Int) (r2 : Int) (w : World) (hr0 : Kd.C (Kd.int .u32) w A0 l0.length l0) (hc0 : l0.length ≤ c0) (h : n_divideSmall.f k l0 a1 = some (r1, r2)) :
  Calls Tryd.prog 81 #[.slice A0 l0.length c0, .int .u32 a1] w fun e w' => ∃ v0_ : Value, e = .returned (.tuple #[v0_, .int .u32 r2]) ∧ Kd.R (Kd.int .u32) 80 w' w.heap.size (fun _ => True) v0_ r1 ∧ Below w.heap.size w w' := by
 have HR0 := mk_ hr0
 have HC0 := mk_ hc0
 clear hr0 hc0
 have HB := mk_ (Below.refl w.heap.size w)
 have H := h
 unfold n_divideSmall.f at H
 clear h
 obtain ⟨Ba, Ca, H⟩ := iE_ H
 obtain ⟨Da, Ea, H⟩ := iE_ H
 obtain ⟨ra, ea⟩ : ∃ y_ : List Int, y_ = (List.replicate ((l0.length : Int) : Int).toNat 0) := ⟨_, rfl⟩
 (first | rw [← ea] at H | skip); (try with_reducible replace H := (Option.bind_some _ _).symm.trans H); (try dsimp only at H)
 have ma := mk_ ea
 clear ea
 have H' := mk_ H
 clear H
 go_enter Tryd.func81, Tryd.ntmps81
 go_wp2_with (first | ((with_reducible refine gD_ (N := 12) rfl ?_); refine Kd.R_make (Kd.int .u32) _ 80 rfl (N := 12) rfl 78 _ _ rfl (l0.length : Int) rfl rfl Tryd.underlying78 (.int .u32 0) 4 info80 rfl (by decide) (by omega) 0 (ok := fun _ => True) (okp := fun _ => True) rfl (fun _ hk => hk) trivial (oD_) (Nat.le_trans (Nat.mul_le_mul_right _ (oD_ : (l0.length : Int).toNat ≤ 70368744177664)) (by omega)) (Below.refl _ _) (Nat.le_refl _) ?_; intro sa w5 ho6 hb hg_ hnew_; clear hg_ hnew_; (first | rw [← ma.out] at ho6 | (simp only [Int.reduceToNat] at ho6; rw [← ma.out] at ho6)); have ta := mk_ (Kd.rL_ ho6 (bZ_ (xB_ HB))); replace HB := mk_ (bT_ (xB_ HB) hb); clear hb ho6))
 go_loopg [7, 8] k (fun kq v7 v8 w' => ∃ (ba : List Int) (da : Int) (aa : Int), v7 = .int .u64 da ∧ v8 = .int .i64 aa ∧ A0_ (n_divideSmall.l0 kq l0 a1 ba da aa = some (r1, r2)) ∧ A0_ (kq ≤ k) ∧ A0_ (Kd.R (Kd.int .u32) 80 w' w.heap.size (fun _ => True) sa ba) ∧ A0_ (Below w.heap.size w w'))
 case atStart => exact ⟨(ra), (0), (wrap64 ((l0.length : Int) - 1)), (rS_), (rS_), H', ⟨Nat.le_refl _⟩, ⟨by refine xr_ ?_; exact ta.out⟩, ⟨xB_ HB⟩⟩
 case round =>
  clear H'
  obtain ⟨ba, da, aa, rfl, rfl, HA, HK1, ca, HB⟩ := hrel
  cases gk with
  | zero => exact absurd HA.out (by simp [n_divideSmall.l0])
  | succ k1 =>
   have H := HA.out
   clear HA
   simp only [n_divideSmall.l0] at H
   replace H := iS_ H
   rcases H with ⟨c7, H⟩ | ⟨c7, H⟩
   ·have ua := decide_eq_true c7
    clear c7
    obtain ⟨Fa, H⟩ := iD_ H
    obtain ⟨Ga, H⟩ := iD_ H
    replace H := iS_ H
    rcases H with ⟨c10, H⟩ | ⟨c10, H⟩
    ·exact absurd H (by simp)
    ·have Ha := beq_eq_false_iff_ne.mpr c10
     have Ia := bne_iff_ne.mpr c10
     obtain ⟨Ja, H⟩ := iD_ H
     obtain ⟨na, fa⟩ : ∃ y_ : List Int, y_ = (ba.set (aa : Int).toNat ((IntKind.u64.wrap (Int.tdiv (Go.bits .or .u64 (IntKind.u64.wrap (da * 4294967296)) (IntKind.u64.wrap (rd l0 aa))) (IntKind.u64.wrap (a1)))) % 4294967296)) := ⟨_, rfl⟩
     (first | rw [← fa] at H | skip); (try with_reducible replace H := (Option.bind_some _ _).symm.trans H); (try dsimp only at H)
     have va := mk_ fa
     clear fa
     have H' := mk_ H
     clear H
     have ga : 0 ≤ (aa : Int) := oD_
     have ha : aa < (l0.length : Int) := oD_
     obtain ⟨Ka, wa, ia⟩ := Kd.at_int HR0.out aa ga ha
     cases wa
     (try replace ia := cT_ HB ia)
     replace ga := eq_true ga
     replace ha := eq_true ha
     have p12 : 0 ≤ (aa : Int) := oD_
     have q12 : (aa : Int) < ((ba.length : Int) : Int) := oD_
     obtain ⟨ja, xa, oa, pa, gl12, cl12, qa⟩ := Kd.R_form ca.out (by omega)
     (first | cases oa | (injection oa with ea_ en_ ec_; (first | subst ea_ | (injection ea_ with ea_; subst ea_)); subst ec_; clear en_))
     have GB12 := mk_ pa
     have GG12 := mk_ qa
     clear pa gl12 qa
     obtain ⟨La, Ma⟩ := Kd.R_celln 0 ca.out (aa : Int) p12 q12
     replace p12 := eq_true p12
     replace q12 := eq_true q12
     have HP13 := Kd.R_putg ca.out (aa : Int) ((IntKind.u64.wrap (Int.tdiv (Go.bits .or .u64 (IntKind.u64.wrap (da * 4294967296)) (IntKind.u64.wrap (rd l0 aa))) (IntKind.u64.wrap (a1)))) % 4294967296)
     go_wp2_with (first | ((with_reducible refine gate_store (t := 80) (p := 35) rfl ?_); refine store_event (t := 80) (p := 35) (v := ?vo_w14) (w1 := (wr.setCell ⟨ja, (aa : Int).toNat, none⟩ (.int .u32 ((IntKind.u64.wrap (Int.tdiv (Go.bits .or .u64 (IntKind.u64.wrap (da * 4294967296)) (IntKind.u64.wrap (rd l0 aa))) (IntKind.u64.wrap (a1)))) % 4294967296)))) ?hg ?ho ?hn ?hr ?_; (case ho => rfl); (case hg => rfl); (case hn => rfl); (case hr => first | (go_simp; done) | (go_simp; rfl)); intro w14 hw; have hg : wr.grownBy w14 (some ja) := (by rw [hw]; exact HP13.2); have hp_ : Kd.R (Kd.int .u32) 80 w14 w.heap.size (fun _ => True) (.slice (some ⟨ja, 0, none⟩) ba.length xa) na := (by rw [hw, va.out]; exact HP13.1); clear HP13; replace ca := mk_ (hp_); replace HB := mk_ ((by rw [hw]; exact bS_ (HB.out) GB12.out : Below w.heap.size w w14)); clear hg hw hp_))
     (try simp only [ap_])
     go_roundg k1
     case measure => have := HK1.out; omega
     case rel => exact ⟨(na), (Int.tmod (Go.bits .or .u64 (IntKind.u64.wrap (da * 4294967296)) (IntKind.u64.wrap (rd l0 aa))) (IntKind.u64.wrap (a1))), (wrap64 (aa - 1)), (rS_), (rS_), H', ⟨by have := HK1.out; omega⟩, ⟨by refine xr_ ?_; exact ca.out⟩, ⟨xB_ HB⟩⟩
   ·have ua := decide_eq_false c7
    clear c7
    obtain ⟨ya, A15, H⟩ := oB_ H
    (try dsimp only at H)
    simp only [Option.some.injEq, Prod.mk.injEq] at H
    obtain ⟨rfl, rfl⟩ := H
    obtain ⟨ka, la, za⟩ := Kd.rS_' ca.out
    subst za
    go_wp2_with (first | ((with_reducible refine gC_ (f := 63) rfl ?_); refine gL_ (some 41) rfl rfl Tryd.func63 kr_ rfl #[.slice ka ba.length la] rfl mp_ ?_; (with_reducible refine (n_limbs_trim.calls k1 (fun k_ => some k_ = (.slice ka ba.length la : Value).ownBlock) (.slice ka ba.length la) ba ya w _ ?side1 ?side2 A15.out).mono ?_); (case side1 => repeat (first | (with_reducible first | exact HB.out | apply bA_ | apply pB_ | apply b1_) | exact HB.out)); (case side2 => exact Kd.R_tight rfl ca.out); rintro e w17 ⟨Na, rfl, ho0, hb, hkp⟩; refine ⟨_, rfl, ?_⟩; have Aa := mk_ (Kd.rM_ (ok' := fun k_ => True) ho0 (fun k_ hk_ => trivial)); replace HB := mk_ (hb); clear ca))
    go_ret2
    exact ⟨_, rE_, by refine xr_ ?_; exact Aa.out, xB_ HB⟩
def n_divide.f (k : Nat) (l0 : List Int) (l1 : List Int) : Option (List Int × List Int) := (n_compare.f k l0 l1).bind fun t418 => (if t418 < 0 then (some (([] : List Int), l0)) else (if (l1.length : Int) = 1 then (if 0 < (l1.length : Int) then ((n_divideSmall.f k l0 (rd l1 0)).bind fun bt420 => ((n_limbs_trim.f k (([bt420.2] : List Int))).bind fun t427 => (some (bt420.1, t427)))) else (none)) else (none)))
theorem n_divide.mono : ∀ a0 a1 k, LeO (n_divide.f k a0 a1) (n_divide.f (k + 1) a0 a1) := by
 intro a0 a1 k
 unfold n_divide.f
 repeat' first
   | (with_reducible first | exact n_compare.mono _ _ _ | exact n_divideSmall.mono _ _ _ | exact n_limbs_trim.mono _ _ | exact LeO.refl _ | exact LeO.none _ | refine LeO.ite ?_ ?_ | refine LeO.bind ?_ (fun _ => ?_))
def n_divide.T15 : Bool × List (List Nat × List Nat) := (true, [([], []), ([0], [0]), ([], []), ([], []), ([2, 3], [2, 3]), ([], []), ([4, 5, 1], [4, 5]), ([1, 6, 0, 1], [1]), ([6, 7, 0, 1, 2, 3, 4, 5, 6, 7], [6])])
def n_divide.B15 : List Nat := [0, 1, 0, 0, 12, 0, 63, 127, 255]
theorem n_divide.calls (k : Nat) (P0_ : Nat → Prop) (u9000_ : Value) (l0 : List Int) (A1 : Option Addr) (c1 : Nat) (l1 : List Int) (r1 : List Int) (r2 : List Int) (w0 w : World) (hB : Below w0.heap.size w0 w) (ho0 : Kd.R (Kd.int .u32) 80 w w0.heap.size P0_ u9000_ l0) (hr1 : ∀ W_, Kept w W_ (fun k_ => P0_ k_) → Kd.C (Kd.int .u32) W_ A1 l1.length l1) (hc1 : l1.length ≤ c1) (h : n_divide.f k l0 l1 = some (r1, r2)) :
  Calls Tryd.prog 70 #[u9000_, .slice A1 l1.length c1] w fun e w' => ∃ v0_ v1_ : Value, e = .returned (.tuple #[v0_, v1_]) ∧ Kd.R (Kd.int .u32) 80 w' w0.heap.size (fun k_ => (P0_ k_ ∨ w.heap.size ≤ k_) ∧ some k_ ≠ (v1_ : Value).ownBlock) v0_ r1 ∧ Kd.R (Kd.int .u32) 80 w' w0.heap.size (fun k_ => (P0_ k_ ∨ w.heap.size ≤ k_) ∧ some k_ ≠ (v0_ : Value).ownBlock) v1_ r2 ∧ Below w0.heap.size w0 w' ∧ Kept w w' (fun k_ => P0_ k_) := by
 have HO0 := mk_ (show Kd.R (Kd.int .u32) 80 w w0.heap.size (fun k_ => (P0_ k_ ∨ w.heap.size ≤ k_)) u9000_ l0 from Kd.rM_ ho0 (fun k_ hk => (.inl hk)))
 have HR1 := mk_ hr1
 have HC1 := mk_ hc1
 clear hr1 hc1
 have HK := mk_ (Kept.refl w (fun k_ => P0_ k_))
 have HW0 := mk_ hB.size
 have HB := mk_ hB
 clear hB
 have H := h
 unfold n_divide.f at H
 clear h
 obtain ⟨ma, A3, H⟩ := oB_ H
 (try dsimp only at H)
 replace H := iS_ H
 rcases H with ⟨c4, H⟩ | ⟨c4, H⟩
 ·have ra := decide_eq_true c4
  clear c4
  simp only [Option.some.injEq, Prod.mk.injEq] at H
  obtain ⟨rfl, rfl⟩ := H
  obtain ⟨Ao5, co5, eo5⟩ := Kd.rS_' HO0.out
  subst eo5
  go_enter Tryd.func70, Tryd.ntmps70
  go_wp2_with (first | ((with_reducible refine gC_ (f := 59) rfl ?_); refine gL_ (some 16) rfl rfl Tryd.func59 kr_ rfl #[.slice Ao5 l0.length co5, .slice A1 l1.length c1] rfl mp_ ?_; (with_reducible refine (n_compare.calls k _ _ l0 _ _ l1 ma _ ?side1 ?side2 ?side3 HC1.out A3.out).mono ?_); (case side1 => repeat (first | exact (Kd.rr_' HO0.out).2.2 | (with_reducible refine Kd.C_alloc ?_ _) | (with_reducible refine Kd.C_drewN ?_ _) | (with_reducible refine Kd.C_drew ?_))); (case side2 => exact (Kd.rr_' HO0.out).2.1); (case side3 => exact Kd.C_kept_now HR1.out (xT0_ HK)); rintro e w' ⟨rfl, ⟨nd, rfl⟩⟩; refine ⟨_, rfl, ?_⟩))
  go_ret2
  exact ⟨_, _, rE_, by first | exact Kd.R_nil _ _ _ _ _ | exact Kd.N_nil _ _ _ _ _ | exact Kd.V_nil _ _ _ _ _ | exact Kd.Q_nil _ _ _ _ _ | exact Kd.S_nil _ _ _ _ _, by refine xr_ ?_; exact Kd.rM_ HO0.out (fun _ hk => ⟨hk, (by simp [Value.ownBlock])⟩), xB_ HB, xT0_ HK⟩
 ·have ra := decide_eq_false c4
  clear c4
  obtain ⟨c6, H⟩ := iP_ H
  have ya := beq_iff_eq.mpr c6
  have za := bne_eq_false_iff_eq.mpr c6
  clear c6
  obtain ⟨c7, H⟩ := iP_ H
  have Aa := decide_eq_true c7
  have Ba : decide (0 < l1.length) = true := decide_eq_true (by omega)
  clear c7
  obtain ⟨⟨sa, ca⟩, A8, H⟩ := oB_ H
  (try dsimp only at H)
  obtain ⟨ea, ha⟩ : ∃ y_ : List Int, y_ = (([ca] : List Int)) := ⟨_, rfl⟩
  (first | rw [← ha] at H | skip); (try with_reducible replace H := (Option.bind_some _ _).symm.trans H); (try dsimp only at H)
  have na := mk_ ha
  clear ha
  obtain ⟨ta, A9, H⟩ := oB_ H
  (try dsimp only at H)
  simp only [Option.some.injEq, Prod.mk.injEq] at H
  obtain ⟨rfl, rfl⟩ := H
  obtain ⟨fa, ga, ua⟩ := Kd.rS_' HO0.out
  subst ua
  go_enter Tryd.func70, Tryd.ntmps70
  go_wp2_with (first | ((with_reducible refine gC_ (f := 59) rfl ?_); refine gL_ (some 16) rfl rfl Tryd.func59 kr_ rfl #[.slice fa l0.length ga, .slice A1 l1.length c1] rfl mp_ ?_; (with_reducible refine (n_compare.calls k _ _ l0 _ _ l1 ma _ ?side1 ?side2 ?side3 HC1.out A3.out).mono ?_); (case side1 => repeat (first | exact (Kd.rr_' HO0.out).2.2 | (with_reducible refine Kd.C_alloc ?_ _) | (with_reducible refine Kd.C_drewN ?_ _) | (with_reducible refine Kd.C_drew ?_))); (case side2 => exact (Kd.rr_' HO0.out).2.1); (case side3 => exact Kd.C_kept_now HR1.out (xT0_ HK)); rintro e w' ⟨rfl, ⟨nd, rfl⟩⟩; refine ⟨_, rfl, ?_⟩; have ia : 0 ≤ (0 : Int) := (by omega); have ja : 0 < (l1.length : Int) := oD_; obtain ⟨Ca, va, oa⟩ := Kd.at_int (Kd.C_kept_now HR1.out HK.out) 0 ia ja; cases va; have Da : (0 < l1.length) = True := eq_true (by omega); (try rw [show ((0 : Int)).toNat = 0 from rfl] at oa); (try rw [Addr.add_zero'] at oa); replace ia := eq_true ia; replace ja := eq_true ja) | ((with_reducible refine gC_ (f := 81) rfl ?_); refine gL_ (some 27) rfl rfl Tryd.func81 kr_ rfl #[.slice fa l0.length ga, .int .u32 (rd l1 0)] rfl mp_ ?_; (with_reducible refine (n_divideSmall.calls k _ _ l0 (rd l1 0) sa ca _ ?side1 ?side2 A8.out).mono ?_); (case side1 => repeat (first | exact (Kd.rr_' HO0.out).2.2 | (with_reducible refine Kd.C_alloc ?_ _) | (with_reducible refine Kd.C_drewN ?_ _) | (with_reducible refine Kd.C_drew ?_))); (case side2 => exact (Kd.rr_' HO0.out).2.1); rintro e w11 ⟨pa, rfl, ho0, hb⟩; refine ⟨_, rfl, ?_⟩; have aa := mk_ (Kd.rL_ (Kd.R_new' (Kd.R_newM (M := fun k_ => (P0_ k_ ∨ w.heap.size ≤ k_)) ho0 (by first | exact HK.out.1 | exact (show Kept w _ (fun k_ => P0_ k_) from xT0_ HK).1) (fun k_ h_ => .inr h_)) (Kd.R_lt (xR_ HO0.out))) (bZ_ (xB_ HB))); replace HO0 := mk_ (Kd.R_elder' (xR_ HO0.out) (Kd.R_base ho0) hb); replace HK := mk_ (Kept.below (S := (fun k_ => P0_ k_)) (xT0_ HK) hb); replace HB := mk_ (bT_ (xB_ HB) hb)) | ((with_reducible refine gD_ (N := 32) rfl ?_); refine Kd.R_lit (Kd.int .u32) _ 80 ?hg (N := 32) ?hd (xs := ([ca] : List Int)) (inner := [.int .u32 ca]) (ok := fun _ => True) (okp := fun _ => True) ?hr ?hp (fun _ hk => hk) trivial (Below.refl _ _) (Nat.le_refl _) (by simp) ?_; (case hd => rfl); (case hg => rfl); (case hr => first | (go_simp; done) | (go_simp; rfl)); (case hp => exact (Reps.one (show Kd.M (Kd.int .u32) _ _ _ ca [.int .u32 ca] from rfl) (Reps.none _ _))); intro Ea w12 ba hb hg_ hnew_; clear hg_ hnew_; (first | rw [← na.out] at ba | (simp only [Int.reduceToNat] at ba; rw [← na.out] at ba)); have da := mk_ (Kd.rL_ (Kd.R_new' (Kd.R_new' (Kd.R_newM (M := fun k_ => (P0_ k_ ∨ w.heap.size ≤ k_)) ba (by first | exact HK.out.1 | exact (show Kept w _ (fun k_ => P0_ k_) from xT0_ HK).1) (fun k_ h_ => .inr h_)) (Kd.R_lt (xR_ HO0.out))) (Kd.R_lt (xR_ aa.out))) (bZ_ (xB_ HB))); replace HO0 := mk_ (Kd.R_elder' (xR_ HO0.out) (Kd.R_base ba) hb); replace aa := mk_ (Kd.R_elder' (xR_ aa.out) (Kd.R_base ba) hb); replace HK := mk_ (Kept.below (S := (fun k_ => P0_ k_)) (xT0_ HK) hb); replace HB := mk_ (bT_ (xB_ HB) hb); clear hb ba; obtain ⟨ka, la, wa⟩ := Kd.rS_' da.out; subst wa) | ((with_reducible refine gC_ (f := 63) rfl ?_); refine gL_ (some 33) rfl rfl Tryd.func63 kr_ rfl #[.slice ka ea.length la] rfl mp_ ?_; (with_reducible refine (n_limbs_trim.calls k (fun k_ => some k_ = (.slice ka ea.length la : Value).ownBlock) (.slice ka ea.length la) ea ta w0 _ ?side1 ?side2 A9.out).mono ?_); (case side1 => repeat (first | (with_reducible first | exact HB.out | apply bA_ | apply pB_ | apply b1_) | exact HB.out)); (case side2 => exact Kd.R_tight rfl da.out); rintro e w15 ⟨qa, rfl, ho0, hb, hkp⟩; refine ⟨_, rfl, ?_⟩; have xa := mk_ (Kd.rM_ (ok' := fun k_ => (P0_ k_ ∨ w.heap.size ≤ k_) ∧ some k_ ≠ (.slice fa l0.length ga : Value).ownBlock ∧ some k_ ≠ (pa : Value).ownBlock) ho0 (fun k_ hk_ => ⟨Or.elim hk_ (fun hs_ => (da.out.1 k_ (hs_).symm).1.1.1) (fun hn_ => (.inr (Nat.le_trans (by first | exact HK.out.1 | exact (show Kept w _ (fun k_ => P0_ k_) from xT0_ HK).1) hn_))), Or.elim hk_ (fun hs_ => fun e_ => (((HO0.out).1 k_ e_.symm).2) hs_) (fun hn_ => (Kd.fresh' (Kd.R_lt (xR_ HO0.out)) k_ hn_)), Or.elim hk_ (fun hs_ => fun e_ => (((aa.out).1 k_ e_.symm).2) hs_) (fun hn_ => (Kd.fresh' (Kd.R_lt (xR_ aa.out)) k_ hn_))⟩)); replace HO0 := mk_ (Kd.rM_ (ok' := fun k_ => (P0_ k_ ∨ w.heap.size ≤ k_) ∧ some k_ ≠ (pa : Value).ownBlock ∧ some k_ ≠ (qa : Value).ownBlock) (Kd.R_keptB (HO0.out) hkp (fun k_ hk_ hs_ => (hk_.2) hs_)) (fun k_ hk_ => ⟨hk_.1.1.1, hk_.1.1.2, fun e_ => Or.elim (ho0.1 k_ e_.symm) (fun hs_ => hk_.2.1 hs_) (fun hn_ => Nat.not_le.2 hk_.2.2 hn_)⟩)); replace aa := mk_ (Kd.rM_ (ok' := fun k_ => (P0_ k_ ∨ w.heap.size ≤ k_) ∧ some k_ ≠ (.slice fa l0.length ga : Value).ownBlock ∧ some k_ ≠ (qa : Value).ownBlock) (Kd.R_keptB (aa.out) hkp (fun k_ hk_ hs_ => (hk_.2) hs_)) (fun k_ hk_ => ⟨hk_.1.1.1.1, hk_.1.1.2, fun e_ => Or.elim (ho0.1 k_ e_.symm) (fun hs_ => hk_.2.1 hs_) (fun hn_ => Nat.not_le.2 hk_.2.2 hn_)⟩)); replace HK := mk_ (Kept.then_ (S := (fun k_ => P0_ k_)) (xT0_ HK) hkp (fun k_ hs_ => (fun e_ => (da.out.1 k_ e_.symm).1.1.1) hs_)); replace HB := mk_ (hb); clear da))
  go_ret2
  exact ⟨_, _, rE_, by refine xr_ ?_; exact Kd.rM_ aa.out (fun _ hk => ⟨hk.1, hk.2.2⟩), by refine xr_ ?_; exact Kd.rM_ xa.out (fun _ hk => ⟨hk.1, hk.2.2⟩), xB_ HB, xT0_ HK⟩
def st_trimLeftByte.l0 : Nat → ByteArray → Int → Option (ByteArray)
 | 0, _, _ => none
 | k + 1, x0, x1 => if (x0.size : Int) > 0 then (if 0 < (x0.size : Int) then (if (bt x0 0) = x1 then (if 1 ≤ (x0.size : Int) then (st_trimLeftByte.l0 k (x0.extract 1 x0.size) x1) else (none)) else (some x0)) else (none)) else (some x0)
def st_trimLeftByte.f (k : Nat) (a0 : ByteArray) (a1 : Int) : Option (ByteArray) := st_trimLeftByte.l0 k a0 a1
theorem st_trimLeftByte.mono_l : ∀ k, (∀ y0 y1, LeO (st_trimLeftByte.l0 k y0 y1) (st_trimLeftByte.l0 (k + 1) y0 y1))
 | 0 => fun _ _ r h => by simp [st_trimLeftByte.l0] at h
 | k + 1 => by
  have ih0 := st_trimLeftByte.mono_l k
  ·intro y0 y1
   unfold st_trimLeftByte.l0
   repeat' first
   | (with_reducible first | exact ih0 _ _ | exact LeO.refl _ | exact LeO.none _ | refine LeO.ite ?_ ?_ | refine LeO.bind ?_ (fun _ => ?_))
theorem st_trimLeftByte.mono : ∀ a0 a1 k, LeO (st_trimLeftByte.f k a0 a1) (st_trimLeftByte.f (k + 1) a0 a1) := by
 intro a0 a1 k
 have ih0 := st_trimLeftByte.mono_l k
 unfold st_trimLeftByte.f
 repeat' first
   | (with_reducible first | exact ih0 _ _ | exact LeO.refl _ | exact LeO.none _ | refine LeO.ite ?_ ?_ | refine LeO.bind ?_ (fun _ => ?_))
theorem st_trimLeftByte.calls (k : Nat) (a0 : ByteArray) (a1 : Int) (r : ByteArray) (w : World) (h : st_trimLeftByte.f k a0 a1 = some r) :
  Calls Tryd.prog 72 #[.string a0, .int .u8 a1] w fun e w' => e = .returned (.string r) ∧ D0_ w w' := by
 have H : (st_trimLeftByte.l0 k a0 a1) = some r := h
 clear h
 have H' := mk_ H
 clear H
 go_enter Tryd.func72, Tryd.ntmps72
 go_wp2
 go_loopg [0] k (fun kq v0 w' => ∃ (aa : ByteArray), v0 = .string aa ∧ A0_ (st_trimLeftByte.l0 kq aa a1 = some r) ∧ A0_ (kq ≤ k) ∧ D0_ w w')
 case atStart => exact ⟨(a0), (rS_), H', ⟨Nat.le_refl _⟩, by repeat (first | exact D0_.refl _ | apply D0_.step)⟩
 case round =>
  clear H'
  obtain ⟨aa, rfl, HA, HK1, ⟨m1, rfl⟩⟩ := hrel
  cases gk with
  | zero => exact absurd HA.out (by simp [st_trimLeftByte.l0])
  | succ k1 =>
   have H := HA.out
   clear HA
   simp only [st_trimLeftByte.l0] at H
   replace H := iS_ H
   rcases H with ⟨c3, H⟩ | ⟨c3, H⟩
   ·have ba := decide_eq_true c3
    have ca : decide (0 < aa.size) = true := decide_eq_true (by omega)
    clear c3
    obtain ⟨c4, H⟩ := iP_ H
    have fa := decide_eq_true c4
    have ga : decide (0 < aa.size) = true := decide_eq_true (by omega)
    clear c4
    replace H := iS_ H
    rcases H with ⟨c6, H⟩ | ⟨c6, H⟩
    ·have da := beq_iff_eq.mpr c6
     have ea := bne_eq_false_iff_eq.mpr c6
     clear c6
     obtain ⟨ha, ia, H⟩ := iE_ H
     have H' := mk_ H
     clear H
     have p5 : 0 ≤ (0 : Int) := (by omega)
     have q5 : 0 < aa.size := (by have : (0 : Int) < (aa.size : Int) := oD_; omega)
     have hx5 : ∀ h : 0 < aa.size, ((aa[0]'h).toNat : Int) = bt aa 0 := bt_at aa 0
     clear p5
     have qi5 : (0 < (aa.size : Int)) = True := eq_true (oD_)
     replace q5 := eq_true q5
     go_wp2
     (try simp only [ap_])
     go_roundg k1
     case measure => have := HK1.out; omega
     case rel => exact ⟨(aa.extract 1 aa.size), (rS_), H', ⟨by have := HK1.out; omega⟩, by repeat (first | exact D0_.refl _ | apply D0_.step)⟩
    ·have da := beq_eq_false_iff_ne.mpr c6
     have ea := bne_iff_ne.mpr c6
     obtain rfl := Option.some.inj H
     have p5 : 0 ≤ (0 : Int) := (by omega)
     have q5 : 0 < aa.size := (by have : (0 : Int) < (aa.size : Int) := oD_; omega)
     have hx5 : ∀ h : 0 < aa.size, ((aa[0]'h).toNat : Int) = bt aa 0 := bt_at aa 0
     clear p5
     have qi5 : (0 < (aa.size : Int)) = True := eq_true (oD_)
     replace q5 := eq_true q5
     go_wp2
     go_ret
     exact ⟨rS_, by repeat (first | exact D0_.refl _ | apply D0_.step)⟩
   ·have ba := decide_eq_false c3
    have ca : decide (0 < aa.size) = false := decide_eq_false (by omega)
    clear c3
    obtain rfl := Option.some.inj H
    go_wp2
    go_ret
    exact ⟨rS_, by repeat (first | exact D0_.refl _ | apply D0_.step)⟩
def st_TrimLeft.f (k : Nat) (a0 : ByteArray) (a1 : ByteArray) : Option (ByteArray) := if a1.toList = [0] then (if a0.toList = [] then some a0 else st_trimLeftByte.f k a0 0) else none
theorem st_TrimLeft.mono : ∀ a0 a1 k, LeO (st_TrimLeft.f k a0 a1) (st_TrimLeft.f (k + 1) a0 a1) := by
 intro a0 a1 k
 unfold st_TrimLeft.f
 refine LeO.ite (LeO.ite (LeO.refl _) ?_) (LeO.none _)
 exact st_trimLeftByte.mono _ _ _
theorem st_TrimLeft.calls (k : Nat) (a0 : ByteArray) (a1 : ByteArray) (r : ByteArray) (w : World) (h : st_TrimLeft.f k a0 a1 = some r) :
  Calls Tryd.prog 61 #[.string a0, .string a1] w fun e w' => e = .returned (.string r) ∧ D0_ w w' := by
 unfold st_TrimLeft.f at h
 by_cases h1 : a1.toList = [0]
 ·rw [if_pos h1] at h
  obtain rfl : a1 = (⟨#[0]⟩ : ByteArray) := by
   obtain ⟨⟨l⟩⟩ := a1
   simpa using h1
  clear h1
  by_cases hs : a0.toList = []
  ·rw [if_pos hs] at h
   obtain rfl : a0 = r := by injection h
   have hs1 : a0.toList.isEmpty = true := by rw [hs]; rfl
   clear h
   go_enter Tryd.func61, Tryd.ntmps61
   go_wp2
   go_ret
   exact ⟨rfl, D0_.refl _⟩
  ·rw [if_neg hs] at h
   have H := mk_ h
   have hs1 : a0.toList.isEmpty = false := by cases h2 : a0.toList with | nil => exact absurd h2 hs | cons _ _ => rfl
   clear h
   go_enter Tryd.func61, Tryd.ntmps61
   go_wp2_with (go_at_call 72; refine (st_trimLeftByte.calls k a0 0 r _ H.out).mono ?_; rintro e w' ⟨rfl, ⟨nd, rfl⟩⟩)
   go_ret
   exact ⟨rfl, by repeat (first | exact D0_.refl _ | apply D0_.step)⟩
 ·rw [if_neg h1] at h
  cases h
def n_Normalize.f (k : Nat) (a0 : ByteArray) : Option (ByteArray) := (st_TrimLeft.f k a0 (⟨#[0]⟩ : ByteArray)).bind fun t341 => (some t341)
theorem n_Normalize.mono : ∀ a0 k, LeO (n_Normalize.f k a0) (n_Normalize.f (k + 1) a0) := by
 intro a0 k
 unfold n_Normalize.f
 repeat' first
   | (with_reducible first | exact st_TrimLeft.mono _ _ _ | exact LeO.refl _ | exact LeO.none _ | refine LeO.ite ?_ ?_ | refine LeO.bind ?_ (fun _ => ?_))
theorem n_Normalize.calls (k : Nat) (a0 : ByteArray) (r : ByteArray) (w : World) (h : n_Normalize.f k a0 = some r) :
  Calls Tryd.prog 44 #[.string a0] w fun e w' => e = .returned (.string r) ∧ D0_ w w' := by
 have H := h
 unfold n_Normalize.f at H
 clear h
 obtain ⟨aa, A2, H⟩ := oB_ H
 (try dsimp only at H)
 obtain rfl := Option.some.inj H
 go_enter Tryd.func44, Tryd.ntmps44
 go_wp2_with (first | ((with_reducible refine gC_ (f := 61) rfl ?_); refine gL_ (some 4) rfl rfl Tryd.func61 kr_ rfl #[.string a0, .string (⟨#[0]⟩ : ByteArray)] rfl mp_ ?_; (with_reducible refine (st_TrimLeft.calls k a0 (⟨#[0]⟩ : ByteArray) aa _ A2.out).mono ?_); rintro e w' ⟨rfl, ⟨nd, rfl⟩⟩; refine ⟨_, rfl, ?_⟩))
 go_ret
 exact ⟨rS_, by repeat (first | exact D0_.refl _ | apply D0_.step)⟩
def n_limbs_text.l0 : Nat → List Int → List Int → Int → Int → Option (ByteArray)
 | 0, _, _, _, _ => none
 | k + 1, x0, x3, x10, x11 => if x11 < x10 then (if 0 ≤ (wrap64 (Int.tdiv x11 4)) then (if (wrap64 (Int.tdiv x11 4)) < (x0.length : Int) then (if 0 ≤ (wrap64 (8 * (Int.tmod x11 4))) then (if 0 ≤ (wrap64 ((wrap64 ((x3.length : Int) - 1)) - x11)) then (if (wrap64 ((wrap64 ((x3.length : Int) - 1)) - x11)) < (x3.length : Int) then (n_limbs_text.l0 k x0 (x3.set ((wrap64 ((wrap64 ((x3.length : Int) - 1)) - x11)) : Int).toNat ((shr .u32 (rd x0 (wrap64 (Int.tdiv x11 4))) (wrap64 (8 * (Int.tmod x11 4)))) % 256)) x10 (wrap64 (x11 + 1))) else (none)) else (none)) else (none)) else (none)) else (none)) else ((n_Normalize.f k (strOfNums x3)).bind fun t362 => (some t362))
def n_limbs_text.f (k : Nat) (l0 : List Int) : Option (ByteArray) := if 0 ≤ (wrap64 ((l0.length : Int) * 4)) then (if (wrap64 ((l0.length : Int) * 4) : Int).toNat ≤ 281474976710656 then ((some (List.replicate (wrap64 ((l0.length : Int) * 4) : Int).toNat 0 : List Int)).bind fun y357 => (n_limbs_text.l0 k l0 y357 (y357.length : Int) 0)) else (none)) else (none)
theorem n_limbs_text.mono_l : ∀ k, (∀ y0 y1 y2 y3, LeO (n_limbs_text.l0 k y0 y1 y2 y3) (n_limbs_text.l0 (k + 1) y0 y1 y2 y3))
 | 0 => fun _ _ _ _ r h => by simp [n_limbs_text.l0] at h
 | k + 1 => by
  have ih0 := n_limbs_text.mono_l k
  ·intro y0 y1 y2 y3
   unfold n_limbs_text.l0
   repeat' first
   | (with_reducible first | exact ih0 _ _ _ _ | exact n_Normalize.mono _ _ | exact LeO.refl _ | exact LeO.none _ | refine LeO.ite ?_ ?_ | refine LeO.bind ?_ (fun _ => ?_))
theorem n_limbs_text.mono : ∀ a0 k, LeO (n_limbs_text.f k a0) (n_limbs_text.f (k + 1) a0) := by
 intro a0 k
 have ih0 := n_limbs_text.mono_l k
 unfold n_limbs_text.f
 repeat' first
   | (with_reducible first | exact ih0 _ _ _ _ | exact n_Normalize.mono _ _ | exact LeO.refl _ | exact LeO.none _ | refine LeO.ite ?_ ?_ | refine LeO.bind ?_ (fun _ => ?_))
theorem n_limbs_text.calls (k : Nat) (A0 : Option Addr) (c0 : Nat) (l0 : List Int) (r : ByteArray) (w : World) (hr0 : Kd.C (Kd.int .u32) w A0 l0.length l0) (hc0 : l0.length ≤ c0) (h : n_limbs_text.f k l0 = some r) :
  Calls Tryd.prog 48 #[.slice A0 l0.length c0] w fun e w' => e = .returned (.string r) ∧ Below w.heap.size w w' := by
 have HR0 := mk_ hr0
 have HC0 := mk_ hc0
 clear hr0 hc0
 have HB := mk_ (Below.refl w.heap.size w)
 have H := h
 unfold n_limbs_text.f at H
 clear h
 obtain ⟨ji2, ia⟩ : ∃ j_ : Int, (wrap64 ((l0.length : Int) * 4)) = j_ := ⟨_, rfl⟩
 replace H : (if 0 ≤ (ji2) then (if (ji2 : Int).toNat ≤ 281474976710656 then ((some (List.replicate (ji2 : Int).toNat 0 : List Int)).bind fun ca => (n_limbs_text.l0 k l0 ca (ca.length : Int) 0)) else (none)) else (none)) = some r := by first | (rw [ia] at H; exact H) | (simp only [ia] at H ⊢; exact H)
 have Fa : (IntKind.i64.wrap ((l0.length : Int) * 4)) = ji2 := (i6_ _).trans ia
 obtain ⟨Ga, Ha, H⟩ := iE_ H
 obtain ⟨Ia, Ja, H⟩ := iE_ H
 obtain ⟨ca, ka⟩ : ∃ y_ : List Int, y_ = (List.replicate (ji2 : Int).toNat 0) := ⟨_, rfl⟩
 (first | rw [← ka] at H | skip); (try with_reducible replace H := (Option.bind_some _ _).symm.trans H); (try dsimp only at H)
 have ua := mk_ ka
 clear ka
 have H' := mk_ H
 clear H
 go_enter Tryd.func48, Tryd.ntmps48
 go_wp2_with (first | ((with_reducible refine gD_ (N := 8) rfl ?_); refine Kd.R_make (Kd.int .u8) _ 5 rfl (N := 8) rfl 97 _ _ rfl ji2 rfl rfl Tryd.underlying97 (.int .u8 0) 1 info5 rfl (by decide) (by omega) 0 (ok := fun _ => True) (okp := fun _ => True) rfl (fun _ hk => hk) trivial (oD_) (Nat.le_trans (Nat.mul_le_mul_right _ (oD_ : ji2.toNat ≤ 281474976710656)) (by omega)) (Below.refl _ _) (Nat.le_refl _) ?_; intro Ka w5 ho6 hb hg_ hnew_; clear hg_ hnew_; (first | rw [← ua.out] at ho6 | (simp only [Int.reduceToNat] at ho6; rw [← ua.out] at ho6)); have va := mk_ (Kd.rL_ ho6 (bZ_ (xB_ HB))); replace HB := mk_ (bT_ (xB_ HB) hb); clear hb ho6; obtain ⟨Ao7, co7, eo7⟩ := Kd.rS_' va.out; subst eo7))
 go_loopg [11] k (fun kq v11 w' => ∃ (aa : List Int) (ba : Int), v11 = .int .i64 ba ∧ A0_ (n_limbs_text.l0 kq l0 aa (ca.length : Int) ba = some r) ∧ A0_ (kq ≤ k) ∧ A0_ (Kd.R (Kd.int .u8) 5 w' w.heap.size (fun _ => True) (.slice Ao7 ca.length co7) aa) ∧ A0_ (Below w.heap.size w w'))
 case atStart => exact ⟨(ca), (0), (rS_), H', ⟨Nat.le_refl _⟩, ⟨by refine xr_ ?_; exact va.out⟩, ⟨xB_ HB⟩⟩
 case round =>
  clear H'
  obtain ⟨aa, ba, rfl, HA, HK1, ea, HB⟩ := hrel
  have fa := (Kd.rr_' ea.out).1
  rw [fa] at ea
  (try simp only [fa])
  cases gk with
  | zero => exact absurd HA.out (by simp [n_limbs_text.l0])
  | succ k1 =>
   have H := HA.out
   clear HA
   simp only [n_limbs_text.l0] at H
   replace H := iS_ H
   rcases H with ⟨c8, H⟩ | ⟨c8, H⟩
   ·have la := decide_eq_true c8
    (try (have c8h0 := la; simp only [fa] at c8h0))
    clear c8
    obtain ⟨ji9, ma⟩ : ∃ j_ : Int, (wrap64 (Int.tdiv ba 4)) = j_ := ⟨_, rfl⟩
    replace H : (if 0 ≤ (ji9) then (if (ji9) < (l0.length : Int) then (if 0 ≤ (wrap64 (8 * (Int.tmod ba 4))) then (if 0 ≤ (wrap64 ((wrap64 ((aa.length : Int) - 1)) - ba)) then (if (wrap64 ((wrap64 ((aa.length : Int) - 1)) - ba)) < (aa.length : Int) then (n_limbs_text.l0 k1 l0 (aa.set ((wrap64 ((wrap64 ((aa.length : Int) - 1)) - ba)) : Int).toNat ((shr .u32 (rd l0 (ji9)) (wrap64 (8 * (Int.tmod ba 4)))) % 256)) (ca.length : Int) (wrap64 (ba + 1))) else (none)) else (none)) else (none)) else (none)) else (none)) = some r := by first | (rw [ma] at H; exact H) | (simp only [ma] at H ⊢; exact H)
    have La : (IntKind.i64.wrap (Int.tdiv ba 4)) = ji9 := (i6_ _).trans ma
    obtain ⟨Ma, H⟩ := iD_ H
    obtain ⟨Aa, H⟩ := iD_ H
    (try (have c11h0 := Aa; simp only [fa] at c11h0))
    obtain ⟨ga, na⟩ : ∃ j_ : Int, (wrap64 (8 * (Int.tmod ba 4))) = j_ := ⟨_, rfl⟩
    replace H : (if 0 ≤ (ga) then (if 0 ≤ (wrap64 ((wrap64 ((aa.length : Int) - 1)) - ba)) then (if (wrap64 ((wrap64 ((aa.length : Int) - 1)) - ba)) < (aa.length : Int) then (n_limbs_text.l0 k1 l0 (aa.set ((wrap64 ((wrap64 ((aa.length : Int) - 1)) - ba)) : Int).toNat ((shr .u32 (rd l0 (ji9)) (ga)) % 256)) (ca.length : Int) (wrap64 (ba + 1))) else (none)) else (none)) else (none)) = some r := by first | (rw [na] at H; exact H) | (simp only [na] at H ⊢; exact H)
    have Na : (IntKind.i64.wrap (8 * (Int.tmod ba 4))) = ga := (i6_ _).trans na
    obtain ⟨Oa, Pa, H⟩ := iE_ H
    obtain ⟨ha, ja⟩ : ∃ j_ : Int, (shr .u32 (rd l0 (ji9)) (ga)) = j_ := ⟨_, rfl⟩
    replace H : (if 0 ≤ (wrap64 ((wrap64 ((aa.length : Int) - 1)) - ba)) then (if (wrap64 ((wrap64 ((aa.length : Int) - 1)) - ba)) < (aa.length : Int) then (n_limbs_text.l0 k1 l0 (aa.set ((wrap64 ((wrap64 ((aa.length : Int) - 1)) - ba)) : Int).toNat ((ha) % 256)) (ca.length : Int) (wrap64 (ba + 1))) else (none)) else (none)) = some r := by first | (rw [ja] at H; exact H) | (simp only [ja] at H ⊢; exact H)
    have Qa : ((rd l0 (ji9)) / 2 ^ min (ga).toNat 32) = ha := ja
    have hji14z : (ga) ≤ 32 → ((rd l0 (ji9)) / 2 ^ (ga).toNat) = ha := shr_small ja
    obtain ⟨da, oa⟩ : ∃ j_ : Int, (wrap64 ((wrap64 ((aa.length : Int) - 1)) - ba)) = j_ := ⟨_, rfl⟩
    replace H : (if 0 ≤ (da) then (if (da) < (aa.length : Int) then (n_limbs_text.l0 k1 l0 (aa.set ((da) : Int).toNat ((ha) % 256)) (ca.length : Int) (wrap64 (ba + 1))) else (none)) else (none)) = some r := by first | (rw [oa] at H; exact H) | (simp only [oa] at H ⊢; exact H)
    have Ra : (IntKind.i64.wrap ((wrap64 ((aa.length : Int) - 1)) - ba)) = da := (i6_ _).trans oa
    obtain ⟨Sa, H⟩ := iD_ H
    obtain ⟨Ba, H⟩ := iD_ H
    (try (have c17h0 := Ba; simp only [fa] at c17h0))
    obtain ⟨wa, pa⟩ : ∃ y_ : List Int, y_ = (aa.set ((da) : Int).toNat ((ha) % 256)) := ⟨_, rfl⟩
    (first | rw [← pa] at H | skip); (try with_reducible replace H := (Option.bind_some _ _).symm.trans H); (try dsimp only at H)
    have Ca := mk_ pa
    clear pa
    have H' := mk_ H
    clear H
    have qa : 0 ≤ ((ji9) : Int) := oD_
    have ra : (ji9) < (l0.length : Int) := oD_
    obtain ⟨Ta, Da, sa⟩ := Kd.at_int HR0.out (ji9) qa ra
    cases Da
    (try replace sa := cT_ HB sa)
    replace qa := eq_true qa
    replace ra := eq_true ra
    have p18 : 0 ≤ ((da) : Int) := oD_
    have q18 : ((da) : Int) < ((aa.length : Int) : Int) := oD_
    obtain ⟨ta, Ua, xa, ya, gl18, cl18, za⟩ := Kd.R_form ea.out (by omega)
    (first | cases xa | (injection xa with ea_ en_ ec_; (first | subst ea_ | (injection ea_ with ea_; subst ea_)); subst ec_; clear en_))
    have GB18 := mk_ ya
    have GG18 := mk_ za
    clear ya gl18 za
    obtain ⟨Va, Wa⟩ := Kd.R_celln 0 ea.out ((da) : Int) p18 q18
    replace p18 := eq_true p18
    replace q18 := eq_true q18
    have HP19 := Kd.R_putg ea.out ((da) : Int) ((ha) % 256)
    go_wp2_with (first | ((with_reducible refine gate_store (t := 5) (p := 30) rfl ?_); refine store_event (t := 5) (p := 30) (v := ?vo_w20) (w1 := (wr.setCell ⟨ta, ((da) : Int).toNat, none⟩ (.int .u8 ((ha) % 256)))) ?hg ?ho ?hn ?hr ?_; (case ho => rfl); (case hg => rfl); (case hn => rfl); (case hr => first | (go_simp; done) | (go_simp; rfl)); intro w20 hw; have hg : wr.grownBy w20 (some ta) := (by rw [hw]; exact HP19.2); have hp_ : Kd.R (Kd.int .u8) 5 w20 w.heap.size (fun _ => True) (.slice (some ⟨ta, 0, none⟩) aa.length co7) wa := (by rw [hw, Ca.out]; exact HP19.1); clear HP19; replace ea := mk_ (hp_); replace HB := mk_ ((by rw [hw]; exact bS_ (HB.out) GB18.out : Below w.heap.size w w20)); clear hg hw hp_))
    (try simp only [← fa])
    (try simp only [ap_])
    go_roundg k1
    case measure => have := HK1.out; omega
    case rel => exact ⟨(wa), (wrap64 (ba + 1)), (rS_), H', ⟨by have := HK1.out; omega⟩, ⟨by (try simp only [fa]); refine xr_ ?_; exact ea.out⟩, ⟨xB_ HB⟩⟩
   ·have la := decide_eq_false c8
    (try (have c8h0 := la; simp only [fa] at c8h0))
    clear c8
    obtain ⟨Ea, A21, H⟩ := oB_ H
    (try dsimp only at H)
    obtain rfl := Option.some.inj H
    have hcv22 := own_string (P := Tryd.prog) Tryd.underlying97 Tryd.underlying5 Tryd.underlying9 (Kd.own_of_R ea.out)
    go_wp2_with (first | ((with_reducible refine gC_ (f := 44) rfl ?_); refine gL_ (some 34) rfl rfl Tryd.func44 kr_ rfl #[.string (strOfNums aa)] rfl mp_ ?_; (with_reducible refine (n_Normalize.calls k1 (strOfNums aa) Ea _ A21.out).mono ?_); rintro e w' ⟨rfl, ⟨nd, rfl⟩⟩; refine ⟨_, rfl, ?_⟩))
    go_ret
    exact ⟨by first | rfl | (simp [eN_', eS_] <;> rfl) | (simp only [← ia]; first | rfl | (simp [eN_', eS_] <;> rfl)) | (simp [*, eN_', eS_] <;> rfl), xB_ HB⟩
def n_parse.l0 : Nat → ByteArray → List Int → Int → Int → Option (List Int)
 | 0, _, _, _, _ => none
 | k + 1, x0, x3, x12, x13 => if x13 < x12 then (if 0 ≤ (wrap64 (Int.tdiv x13 4)) then (if (wrap64 (Int.tdiv x13 4)) < (x3.length : Int) then (if 0 ≤ (wrap64 ((wrap64 ((x0.size : Int) - 1)) - x13)) then (if (wrap64 ((wrap64 ((x0.size : Int) - 1)) - x13)) < (x0.size : Int) then (if 0 ≤ (wrap64 (8 * (Int.tmod x13 4))) then (n_parse.l0 k x0 (x3.set ((wrap64 (Int.tdiv x13 4)) : Int).toNat (Go.bits .or .u32 (rd x3 (wrap64 (Int.tdiv x13 4))) (shl .u32 ((bt x0 (wrap64 ((wrap64 ((x0.size : Int) - 1)) - x13))) % 4294967296) (wrap64 (8 * (Int.tmod x13 4)))))) x12 (wrap64 (x13 + 1))) else (none)) else (none)) else (none)) else (none)) else (none)) else ((n_limbs_trim.f k x3).bind fun t354 => (some t354))
def n_parse.f (k : Nat) (a0 : ByteArray) : Option (List Int) := if 0 ≤ (wrap64 (Int.tdiv (wrap64 ((wrap64 ((a0.size : Int) + 4)) - 1)) 4)) then (if (wrap64 (Int.tdiv (wrap64 ((wrap64 ((a0.size : Int) + 4)) - 1)) 4) : Int).toNat ≤ 70368744177664 then (n_parse.l0 k a0 (List.replicate (wrap64 (Int.tdiv (wrap64 ((wrap64 ((a0.size : Int) + 4)) - 1)) 4) : Int).toNat 0) (a0.size : Int) 0) else (none)) else (none)
theorem n_parse.mono_l : ∀ k, (∀ y0 y1 y2 y3, LeO (n_parse.l0 k y0 y1 y2 y3) (n_parse.l0 (k + 1) y0 y1 y2 y3))
 | 0 => fun _ _ _ _ r h => by simp [n_parse.l0] at h
 | k + 1 => by
  have ih0 := n_parse.mono_l k
  ·intro y0 y1 y2 y3
   unfold n_parse.l0
   repeat' first
   | (with_reducible first | exact ih0 _ _ _ _ | exact n_limbs_trim.mono _ _ | exact LeO.refl _ | exact LeO.none _ | refine LeO.ite ?_ ?_ | refine LeO.bind ?_ (fun _ => ?_))
theorem n_parse.mono : ∀ a0 k, LeO (n_parse.f k a0) (n_parse.f (k + 1) a0) := by
 intro a0 k
 have ih0 := n_parse.mono_l k
 unfold n_parse.f
 repeat' first
   | (with_reducible first | exact ih0 _ _ _ _ | exact n_limbs_trim.mono _ _ | exact LeO.refl _ | exact LeO.none _ | refine LeO.ite ?_ ?_ | refine LeO.bind ?_ (fun _ => ?_))
def n_parse.T5 : Bool × List (List Nat × List Nat) := (true, [([], []), ([], []), ([1], [1]), ([0, 2], [0, 2]), ([3], [3]), ([], []), ([], []), ([6], [6]), ([7], [7]), ([], []), ([8, 9], [8, 9]), ([5, 10], [5, 10]), ([11], [11]), ([], []), ([13], [13]), ([14], [14]), ([12, 15], [12, 15]), ([4, 16], [4, 16]), ([0, 2, 0, 1, 2, 3, 4, 5, 6, 7, 8, 9, 10, 11, 12, 13, 14, 15, 16, 17], [0, 2]), ([18, 17, 0, 1, 2, 3, 4, 5, 6, 7, 8, 9, 10, 11, 12, 13, 14, 15, 16, 17], [17, 18])])
def n_parse.B5 : List Nat := [0, 0, 2, 7, 15, 0, 0, 64, 192, 0, 960, 2016, 4064, 0, 8192, 24576, 65504, 131071, 262143, 524287]
theorem n_parse.tab5 : rtab .any (opsOf Tryd.f47 5) = n_parse.T5 := by kernel_rfl
theorem n_parse.bits5 : waitsOk n_parse.T5.2 n_parse.B5 = true := by kernel_rfl
theorem n_parse.calls (k : Nat) (a0 : ByteArray) (r : List Int) (w : World) (h : n_parse.f k a0 = some r) :
  Calls Tryd.prog 47 #[.string a0] w fun e w' => ∃ v0_ : Value, e = .returned (v0_) ∧ Kd.R (Kd.int .u32) 80 w' w.heap.size (fun _ => True) v0_ r ∧ Below w.heap.size w w' := by
 have HB := mk_ (Below.refl w.heap.size w)
 have H := h
 unfold n_parse.f at H
 clear h
 obtain ⟨ji2, ga⟩ : ∃ j_ : Int, (wrap64 (Int.tdiv (wrap64 ((wrap64 ((a0.size : Int) + 4)) - 1)) 4)) = j_ := ⟨_, rfl⟩
 replace H : (if 0 ≤ (ji2) then (if (ji2 : Int).toNat ≤ 70368744177664 then (n_parse.l0 k a0 (List.replicate (ji2 : Int).toNat 0) (a0.size : Int) 0) else (none)) else (none)) = some r := by first | (rw [ga] at H; exact H) | (simp only [ga] at H ⊢; exact H)
 have Na : (IntKind.i64.wrap (Int.tdiv (wrap64 ((wrap64 ((a0.size : Int) + 4)) - 1)) 4)) = ji2 := (i6_ _).trans ga
 obtain ⟨Oa, Pa, H⟩ := iE_ H
 obtain ⟨Qa, Ra, H⟩ := iE_ H
 obtain ⟨ya, ia⟩ : ∃ y_ : List Int, y_ = (List.replicate (ji2 : Int).toNat 0) := ⟨_, rfl⟩
 (first | rw [← ia] at H | skip); (try with_reducible replace H := (Option.bind_some _ _).symm.trans H); (try dsimp only at H)
 have ta := mk_ ia
 clear ia
 have H' := mk_ H
 clear H
 go_enter Tryd.func47, Tryd.ntmps47
 go_wp2_with (first | ((with_reducible refine gD_ (N := 10) rfl ?_); refine Kd.R_make (Kd.int .u32) _ 80 rfl (N := 10) rfl 78 _ _ rfl ji2 rfl rfl Tryd.underlying78 (.int .u32 0) 4 info80 rfl (by decide) (by omega) 0 (ok := fun _ => True) (okp := fun _ => True) rfl (fun _ hk => hk) trivial (oD_) (Nat.le_trans (Nat.mul_le_mul_right _ (oD_ : ji2.toNat ≤ 70368744177664)) (by omega)) (Below.refl _ _) (Nat.le_refl _) ?_; intro za w5 ho6 hb hg_ hnew_; clear hg_ hnew_; (first | rw [← ta.out] at ho6 | (simp only [Int.reduceToNat] at ho6; rw [← ta.out] at ho6)); have Aa := mk_ (Kd.rL_ ho6 (bZ_ (xB_ HB))); replace HB := mk_ (bT_ (xB_ HB) hb); clear hb ho6))
 go_loopg [13] k (fun kq v13 w' => ∃ (aa : List Int) (ba : Int), v13 = .int .i64 ba ∧ A0_ (n_parse.l0 kq a0 aa (a0.size : Int) ba = some r) ∧ A0_ (kq ≤ k) ∧ A0_ (Kd.R (Kd.int .u32) 80 w' w.heap.size (fun _ => True) za aa) ∧ A0_ (Below w.heap.size w w'))
 case atStart => exact ⟨(ya), (0), (rS_), H', ⟨Nat.le_refl _⟩, ⟨by refine xr_ ?_; exact Aa.out⟩, ⟨xB_ HB⟩⟩
 case round =>
  clear H'
  obtain ⟨aa, ba, rfl, HA, HK1, da, HB⟩ := hrel
  cases gk with
  | zero => exact absurd HA.out (by simp [n_parse.l0])
  | succ k1 =>
   have H := HA.out
   clear HA
   simp only [n_parse.l0] at H
   replace H := iS_ H
   rcases H with ⟨c7, H⟩ | ⟨c7, H⟩
   ·have Ba := decide_eq_true c7
    clear c7
    obtain ⟨ji8, ja⟩ : ∃ j_ : Int, (wrap64 (Int.tdiv ba 4)) = j_ := ⟨_, rfl⟩
    replace H : (if 0 ≤ (ji8) then (if (ji8) < (aa.length : Int) then (if 0 ≤ (wrap64 ((wrap64 ((a0.size : Int) - 1)) - ba)) then (if (wrap64 ((wrap64 ((a0.size : Int) - 1)) - ba)) < (a0.size : Int) then (if 0 ≤ (wrap64 (8 * (Int.tmod ba 4))) then (n_parse.l0 k1 a0 (aa.set ((ji8) : Int).toNat (Go.bits .or .u32 (rd aa (ji8)) (shl .u32 ((bt a0 (wrap64 ((wrap64 ((a0.size : Int) - 1)) - ba))) % 4294967296) (wrap64 (8 * (Int.tmod ba 4)))))) (a0.size : Int) (wrap64 (ba + 1))) else (none)) else (none)) else (none)) else (none)) else (none)) = some r := by first | (rw [ja] at H; exact H) | (simp only [ja] at H ⊢; exact H)
    have Sa : (IntKind.i64.wrap (Int.tdiv ba 4)) = ji8 := (i6_ _).trans ja
    obtain ⟨Ta, H⟩ := iD_ H
    obtain ⟨Ua, H⟩ := iD_ H
    obtain ⟨ca, ka⟩ : ∃ j_ : Int, (wrap64 ((wrap64 ((a0.size : Int) - 1)) - ba)) = j_ := ⟨_, rfl⟩
    replace H : (if 0 ≤ (ca) then (if (ca) < (a0.size : Int) then (if 0 ≤ (wrap64 (8 * (Int.tmod ba 4))) then (n_parse.l0 k1 a0 (aa.set ((ji8) : Int).toNat (Go.bits .or .u32 (rd aa (ji8)) (shl .u32 ((bt a0 (ca)) % 4294967296) (wrap64 (8 * (Int.tmod ba 4)))))) (a0.size : Int) (wrap64 (ba + 1))) else (none)) else (none)) else (none)) = some r := by first | (rw [ka] at H; exact H) | (simp only [ka] at H ⊢; exact H)
    have Va : (IntKind.i64.wrap ((wrap64 ((a0.size : Int) - 1)) - ba)) = ca := (i6_ _).trans ka
    obtain ⟨Wa, H⟩ := iD_ H
    obtain ⟨Xa, H⟩ := iD_ H
    obtain ⟨ea, la⟩ : ∃ j_ : Int, (wrap64 (8 * (Int.tmod ba 4))) = j_ := ⟨_, rfl⟩
    replace H : (if 0 ≤ (ea) then (n_parse.l0 k1 a0 (aa.set ((ji8) : Int).toNat (Go.bits .or .u32 (rd aa (ji8)) (shl .u32 ((bt a0 (ca)) % 4294967296) (ea)))) (a0.size : Int) (wrap64 (ba + 1))) else (none)) = some r := by first | (rw [la] at H; exact H) | (simp only [la] at H ⊢; exact H)
    have Ya : (IntKind.i64.wrap (8 * (Int.tmod ba 4))) = ea := (i6_ _).trans la
    obtain ⟨Za, ab, H⟩ := iE_ H
    obtain ⟨fa, ha⟩ : ∃ j_ : Int, (shl .u32 ((bt a0 (ca)) % 4294967296) (ea)) = j_ := ⟨_, rfl⟩
    replace H : (n_parse.l0 k1 a0 (aa.set ((ji8) : Int).toNat (Go.bits .or .u32 (rd aa (ji8)) (fa))) (a0.size : Int) (wrap64 (ba + 1))) = some r := by first | (rw [ha] at H; exact H) | (simp only [ha] at H ⊢; exact H)
    have Ca : (IntKind.u32.wrap (((bt a0 (ca)) % 4294967296) * 2 ^ min (ea).toNat 32)) = fa := ha
    have hji17z : (ea) ≤ 32 → (IntKind.u32.wrap (((bt a0 (ca)) % 4294967296) * 2 ^ (ea).toNat)) = fa := shl_small ha
    have Da : (((bt a0 (ca)) % 4294967296) * 2 ^ min (ea).toNat 32) % 4294967296 = fa := by rw [← Ca]; simp [IntKind.wrap, IntKind.bits, IntKind.signed]
    obtain ⟨Ea, ma⟩ : ∃ y_ : List Int, y_ = (aa.set ((ji8) : Int).toNat (Go.bits .or .u32 (rd aa (ji8)) (fa))) := ⟨_, rfl⟩
    (first | rw [← ma] at H | skip); (try with_reducible replace H := (Option.bind_some _ _).symm.trans H); (try dsimp only at H)
    have Fa := mk_ ma
    clear ma
    have H' := mk_ H
    clear H
    try go_wp2
    replace da := mk_ (Kd.rD_ da.out)
    replace HB := mk_ (b1_ HB.out)
    obtain ⟨bb, cb, ua⟩ := Kd.rS_' da.out
    (first | subst ua | (injection ua with f1_ f2_ f3_; have f4_ := f1_.symm; have f5_ := f3_.symm; clear f1_ f2_ f3_; subst f4_; subst f5_))
    have na : 0 ≤ ((ji8) : Int) := oD_
    have oa : (ji8) < (aa.length : Int) := oD_
    obtain ⟨db, Ga, pa⟩ := Kd.at_int (Kd.rr_' da.out).2.2 (ji8) na oa
    cases Ga
    replace na := eq_true na
    replace oa := eq_true oa
    have p14 : 0 ≤ ((ca) : Int) := oD_
    have q14 : (ca) < (a0.size : Int) := oD_
    have eb := bt_at a0 (ca)
    replace p14 := eq_true p14
    replace q14 := eq_true q14
    have p18 : 0 ≤ ((ji8) : Int) := oD_
    have q18 : ((ji8) : Int) < ((aa.length : Int) : Int) := oD_
    obtain ⟨Ha, fb, va, wa, gl18, cl18, xa⟩ := Kd.R_form da.out (by omega)
    (first | cases va | (injection va with ea_ en_ ec_; (first | subst ea_ | (injection ea_ with ea_; subst ea_)); subst ec_; clear en_))
    have GB18 := mk_ wa
    have GG18 := mk_ xa
    clear wa gl18 xa
    (first | simp only [ap_] at pa | skip)
    obtain ⟨Ia, Ja⟩ := Kd.R_celln 0 da.out ((ji8) : Int) p18 q18
    replace p18 := eq_true p18
    replace q18 := eq_true q18
    have HP21 := Kd.R_putn da.out ((ji8) : Int) (Go.bits .or .u32 (rd aa (ji8)) (fa))
    rw [← Fa.out] at HP21
    have qa := mk_ HP21
    clear HP21
    refine start_ (n := 20) (S := fun w' => w'.cell? ⟨Ha, ((ji8)).toNat, none⟩ = some (.int .u32 (rd aa (ji8)))) (ds := [19]) (tf_ 0 20) kr_ rfl rfl (pa) (fun hHeld => ?_); refine with_tabW n_parse.tab5 n_parse.bits5 (fun HT_ HW_ => ?_)
    generalize wr.drew = w19 at da HB GG18 qa Ja Ia pa hHeld ⊢
    refine pu_ (i := 0) (N := some 16) (v := ?_) (a' := ?_) (tf_ 1 19) rfl rfl (an_ HT_.out kr_) (fun _ _ _ h => h) (Or.inl ⟨by rfl, ?_⟩) ?_ ?_
    rotate_left
    ·intro w'
     go_simp
     with_reducible rfl
    rotate_left
    ·simp only [Act.put, s1_, s2_, s3_, i6_, i3_]
     rfl
    refine pu_ (i := 1) (N := some 17) (v := ?_) (a' := ?_) (tf_ 2 18) rfl rfl (an_ HT_.out kr_) (fun _ _ _ h => h) (Or.inl ⟨by rfl, ?_⟩) ?_ ?_
    rotate_left
    ·intro w'
     go_simp
     with_reducible rfl
    rotate_left
    ·simp only [Act.put, s1_, s2_, s3_, i6_, i3_]
     rfl
    refine pu_ (i := 2) (N := some 18) (v := ?_) (a' := ?_) (tf_ 3 17) rfl rfl (an_ HT_.out kr_) (fun _ _ _ h => h) (Or.inl ⟨by rfl, ?_⟩) ?_ ?_
    rotate_left
    ·intro w'
     go_simp
     with_reducible rfl
    rotate_left
    ·simp only [Act.put, s1_, s2_, s3_, i6_, i3_]
     rfl
    refine pu_ (i := 3) (N := some 19) (v := ?_) (a' := ?_) (tf_ 4 16) rfl rfl (an_ HT_.out kr_) (fun _ _ _ h => h) (Or.inl ⟨by rfl, ?_⟩) ?_ ?_
    rotate_left
    ·intro w'
     go_simp
     with_reducible rfl
    rotate_left
    ·simp only [Act.put, s1_, s2_, s3_, i6_, i3_]
     rfl
    refine pu_ (i := 5) (N := some 21) (v := ?_) (a' := ?_) #[true, true, true, true, false, true, false, false, false, false, false, false, false, false, false, false, false, false, false, false] rfl rfl (an_ HT_.out kr_) (fun _ _ _ h => h) (Or.inl ⟨by rfl, ?_⟩) ?_ ?_
    rotate_left
    ·intro w'
     go_simp
     with_reducible rfl
    rotate_left
    ·simp only [Act.put, s1_, s2_, s3_, i6_, i3_]
     rfl
    refine pu_ (i := 6) (N := some 22) (v := ?_) (a' := ?_) #[true, true, true, true, false, true, true, false, false, false, false, false, false, false, false, false, false, false, false, false] rfl rfl (an_ HT_.out kr_) (fun _ _ _ h => h) (Or.inl ⟨by rfl, ?_⟩) ?_ ?_
    rotate_left
    ·intro w'
     go_simp
     with_reducible rfl
    rotate_left
    ·simp only [Act.put, s1_, s2_, s3_, i6_, i3_]
     rfl
    refine pu_ (i := 7) (N := some 23) (v := ?_) (a' := ?_) #[true, true, true, true, false, true, true, true, false, false, false, false, false, false, false, false, false, false, false, false] rfl rfl (an_ HT_.out kr_) (fun _ _ _ h => h) (Or.inl ⟨by rfl, ?_⟩) ?_ ?_
    rotate_left
    ·intro w'
     go_simp
     with_reducible rfl
    rotate_left
    ·simp only [Act.put, s1_, s2_, s3_, i6_, i3_]
     rfl
    refine pu_ (i := 8) (N := some 24) (v := ?_) (a' := ?_) #[true, true, true, true, false, true, true, true, true, false, false, false, false, false, false, false, false, false, false, false] rfl rfl (an_ HT_.out kr_) (fun _ _ _ h => h) (Or.inl ⟨by rfl, ?_⟩) ?_ ?_
    rotate_left
    ·intro w'
     go_simp
     with_reducible rfl
    rotate_left
    ·simp only [Act.put, s1_, s2_, s3_, i6_, i3_]
     rfl
    refine pu_ (i := 9) (N := some 25) (v := ?_) (a' := ?_) #[true, true, true, true, false, true, true, true, true, true, false, false, false, false, false, false, false, false, false, false] rfl rfl (an_ HT_.out kr_) (fun _ _ _ h => h) (Or.inl ⟨by rfl, ?_⟩) ?_ ?_
    rotate_left
    ·intro w'
     go_simp
     with_reducible rfl
    rotate_left
    ·simp only [Act.put, s1_, s2_, s3_, i6_, i3_]
     rfl
    refine pu_ (i := 10) (N := some 26) (v := ?_) (a' := ?_) #[true, true, true, true, false, true, true, true, true, true, true, false, false, false, false, false, false, false, false, false] rfl rfl (an_ HT_.out kr_) (fun _ _ _ h => h) (Or.inl ⟨by rfl, ?_⟩) ?_ ?_
    rotate_left
    ·intro w'
     go_simp
     with_reducible rfl
    rotate_left
    ·simp only [Act.put, s1_, s2_, s3_, i6_, i3_]
     rfl
    refine pu_ (i := 13) (N := some 29) (v := ?_) (a' := ?_) #[true, true, true, true, false, true, true, true, true, true, true, false, false, true, false, false, false, false, false, false] rfl rfl (an_ HT_.out kr_) (fun _ _ _ h => h) (Or.inl ⟨by rfl, ?_⟩) ?_ ?_
    rotate_left
    ·intro w'
     go_simp
     with_reducible rfl
    rotate_left
    ·simp only [Act.put, s1_, s2_, s3_, i6_, i3_]
     rfl
    refine pu_ (i := 14) (N := some 30) (v := ?_) (a' := ?_) #[true, true, true, true, false, true, true, true, true, true, true, false, false, true, true, false, false, false, false, false] rfl rfl (an_ HT_.out kr_) (fun _ _ _ h => h) (Or.inl ⟨by rfl, ?_⟩) ?_ ?_
    rotate_left
    ·intro w'
     go_simp
     with_reducible rfl
    rotate_left
    ·simp only [Act.put, s1_, s2_, s3_, i6_, i3_]
     rfl
    refine pu_ (i := 15) (N := some 31) (v := ?_) (a' := ?_) #[true, true, true, true, false, true, true, true, true, true, true, false, false, true, true, true, false, false, false, false] rfl rfl (an_ HT_.out kr_) (fun _ _ _ h => h) (Or.inl ⟨by rfl, ?_⟩) ?_ ?_
    rotate_left
    ·intro w'
     go_simp
     with_reducible rfl
    rotate_left
    ·simp only [Act.put, s1_, s2_, s3_, i6_, i3_]
     rfl
    refine take_ (i := 4) (N := some 20) (v := ?_) (a' := ?_) #[true, true, true, true, true, true, true, true, true, true, true, false, false, true, true, true, false, false, false, false] rfl rfl (tW_ HT_.out HW_.out kr_) (fun _ _ _ h => h) (Or.inl ⟨by rfl, ?_⟩) hHeld ?_ ?_
    rotate_left
    ·intro w' s0
     go_simp
     with_reducible rfl
    rotate_left
    ·simp only [Act.put, s1_, s2_, s3_, i6_, i3_]
     rfl
    refine take_ (i := 11) (N := some 27) (v := ?_) (a' := ?_) #[true, true, true, true, true, true, true, true, true, true, true, true, false, true, true, true, false, false, false, false] rfl rfl (tW_ HT_.out HW_.out kr_) (fun _ _ _ h => h) (Or.inl ⟨by rfl, ?_⟩) hHeld ?_ ?_
    rotate_left
    ·intro w' s0
     go_simp
     with_reducible rfl
    rotate_left
    ·simp only [Act.put, s1_, s2_, s3_, i6_, i3_]
     rfl
    refine pu_ (i := 12) (N := some 28) (v := ?_) (a' := ?_) (tf_ 16 4) rfl rfl (an_ HT_.out kr_) (fun _ _ _ h => h) (Or.inl ⟨by rfl, ?_⟩) ?_ ?_
    rotate_left
    ·intro w'
     go_simp
     with_reducible rfl
    rotate_left
    ·simp only [Act.put, s1_, s2_, s3_, i6_, i3_]
     rfl
    refine pu_ (i := 16) (N := some 32) (v := ?_) (a' := ?_) (tf_ 17 3) rfl rfl (an_ HT_.out kr_) (fun _ _ _ h => h) (Or.inl ⟨by rfl, ?_⟩) ?_ ?_
    rotate_left
    ·intro w'
     go_simp
     with_reducible rfl
    rotate_left
    ·simp only [Act.put, s1_, s2_, s3_, i6_, i3_]
     rfl
    refine pu_ (i := 17) (N := some 33) (v := ?_) (a' := ?_) (tf_ 18 2) rfl rfl (an_ HT_.out kr_) (fun _ _ _ h => h) (Or.inl ⟨by rfl, ?_⟩) ?_ ?_
    rotate_left
    ·intro w'
     go_simp
     with_reducible rfl
    rotate_left
    ·simp only [Act.put, s1_, s2_, s3_, i6_, i3_]
     rfl
    refine pu_ (i := 18) (N := some 34) (v := ?_) (a' := ?_) (tf_ 19 1) rfl rfl (an_ HT_.out kr_) (fun _ _ _ h => h) (Or.inl ⟨by rfl, ?_⟩) ?_ ?_
    rotate_left
    ·intro w'
     go_simp
     with_reducible rfl
    rotate_left
    ·simp only [Act.put, s1_, s2_, s3_, i6_, i3_]
     rfl
    refine last_ (i := 19) (N := none) (tf_ 20 0) rfl rfl (one_of HT_.out kr_) (by decide) (fun K hK => ?_)
    refine skip_ (w1 := ?_) (by rfl) rfl ?_ ?_
    rotate_left
    ·go_simp
     rfl
    refine hK.out _ _ ?_
    clear hK K
    refine done_ (done_of HT_.out kr_) ?_
    try go_wp2
    (try simp only [ap_])
    go_roundg k1
    case measure => have := HK1.out; omega
    case rel => exact ⟨(Ea), (wrap64 (ba + 1)), (rS_), H', ⟨by have := HK1.out; omega⟩, ⟨by (with_reducible repeat (first | apply Kd.R_alloc | apply Kd.rN_ | apply Kd.rD_)); first | exact qa.out | (rw [Da]; exact qa.out)⟩, ⟨xB1_ HB GB18⟩⟩
   ·have Ba := decide_eq_false c7
    clear c7
    obtain ⟨Ka, A22, H⟩ := oB_ H
    (try dsimp only at H)
    obtain rfl := Option.some.inj H
    obtain ⟨ra, sa, La⟩ := Kd.rS_' da.out
    subst La
    go_wp2_with (first | ((with_reducible refine gC_ (f := 63) rfl ?_); refine gL_ (some 37) rfl rfl Tryd.func63 kr_ rfl #[.slice ra aa.length sa] rfl mp_ ?_; (with_reducible refine (n_limbs_trim.calls k1 (fun k_ => some k_ = (.slice ra aa.length sa : Value).ownBlock) (.slice ra aa.length sa) aa Ka w _ ?side1 ?side2 A22.out).mono ?_); (case side1 => repeat (first | (with_reducible first | exact HB.out | apply bA_ | apply pB_ | apply b1_) | exact HB.out)); (case side2 => exact Kd.R_tight rfl da.out); rintro e w24 ⟨gb, rfl, ho0, hb, hkp⟩; refine ⟨_, rfl, ?_⟩; have Ma := mk_ (Kd.rM_ (ok' := fun k_ => True) ho0 (fun k_ hk_ => trivial)); replace HB := mk_ (hb); clear da))
    go_ret
    exact ⟨_, by first | rfl | (simp [eN_', eS_] <;> rfl) | (simp only [← ga]; first | rfl | (simp [eN_', eS_] <;> rfl)) | (simp [*, eN_', eS_] <;> rfl), by refine xr_ ?_; exact Ma.out, xB_ HB⟩
def n_GCD.l0 : Nat → List Int → List Int → Option (ByteArray)
 | 0, _, _ => none
 | k + 1, x5, x6 => if (x6.length : Int) > 0 then ((n_divide.f k x5 x6).bind fun bt459 => (n_GCD.l0 k x6 bt459.2)) else ((n_limbs_text.f k x5).bind fun t465 => (some t465))
def n_GCD.f (k : Nat) (a0 : ByteArray) (a1 : ByteArray) : Option (ByteArray) := (n_parse.f k a0).bind fun t453 => ((n_parse.f k a1).bind fun t456 => (n_GCD.l0 k t453 t456))
theorem n_GCD.mono_l : ∀ k, (∀ y0 y1, LeO (n_GCD.l0 k y0 y1) (n_GCD.l0 (k + 1) y0 y1))
 | 0 => fun _ _ r h => by simp [n_GCD.l0] at h
 | k + 1 => by
  have ih0 := n_GCD.mono_l k
  ·intro y0 y1
   unfold n_GCD.l0
   repeat' first
   | (with_reducible first | exact ih0 _ _ | exact n_divide.mono _ _ _ | exact n_limbs_text.mono _ _ | exact n_parse.mono _ _ | exact LeO.refl _ | exact LeO.none _ | refine LeO.ite ?_ ?_ | refine LeO.bind ?_ (fun _ => ?_))
theorem n_GCD.mono : ∀ a0 a1 k, LeO (n_GCD.f k a0 a1) (n_GCD.f (k + 1) a0 a1) := by
 intro a0 a1 k
 have ih0 := n_GCD.mono_l k
 unfold n_GCD.f
 repeat' first
   | (with_reducible first | exact ih0 _ _ | exact n_divide.mono _ _ _ | exact n_limbs_text.mono _ _ | exact n_parse.mono _ _ | exact LeO.refl _ | exact LeO.none _ | refine LeO.ite ?_ ?_ | refine LeO.bind ?_ (fun _ => ?_))
theorem n_GCD.calls (k : Nat) (a0 : ByteArray) (a1 : ByteArray) (r : ByteArray) (w : World) (h : n_GCD.f k a0 a1 = some r) :
  Calls Tryd.prog 56 #[.string a0, .string a1] w fun e w' => e = .returned (.string r) ∧ Below w.heap.size w w' := by
 have HB := mk_ (Below.refl w.heap.size w)
 have H := h
 unfold n_GCD.f at H
 clear h
 obtain ⟨ha, A3, H⟩ := oB_ H
 (try dsimp only at H)
 obtain ⟨ia, A4, H⟩ := oB_ H
 (try dsimp only at H)
 have H' := mk_ H
 clear H
 go_enter Tryd.func56, Tryd.ntmps56
 go_wp2_with (first | ((with_reducible refine gC_ (f := 47) rfl ?_); refine gL_ (some 10) rfl rfl Tryd.func47 kr_ rfl #[.string a0] rfl mp_ ?_; (with_reducible refine (n_parse.calls k a0 ha _ A3.out).mono ?_); rintro e w5 ⟨xa, rfl, ho0, hb⟩; refine ⟨_, rfl, ?_⟩; have ea := mk_ (Kd.rL_ ho0 (bZ_ (xB_ HB))); replace HB := mk_ (bT_ (xB_ HB) hb)) | ((with_reducible refine gC_ (f := 47) rfl ?_); refine gL_ (some 12) rfl rfl Tryd.func47 kr_ rfl #[.string a1] rfl mp_ ?_; (with_reducible refine (n_parse.calls k a1 ia _ A4.out).mono ?_); rintro e w6 ⟨ya, rfl, ho0, hb⟩; refine ⟨_, rfl, ?_⟩; have ma := mk_ (Kd.rL_ (Kd.R_new' ho0 (Kd.R_lt (xR_ ea.out))) (bZ_ (xB_ HB))); replace ea := mk_ (Kd.R_elder' (xR_ ea.out) (Kd.R_base ho0) hb); replace HB := mk_ (bT_ (xB_ HB) hb)))
 go_loopg [5, 6] k (fun kq v5 v6 w' => ∃ (ca : List Int) (ba : List Int), A0_ (n_GCD.l0 kq ca ba = some r) ∧ A0_ (kq ≤ k) ∧ A0_ (Kd.R (Kd.int .u32) 80 w' w.heap.size (fun k_ => some k_ ≠ (v6 : Value).ownBlock) v5 ca) ∧ A0_ (Kd.R (Kd.int .u32) 80 w' w.heap.size (fun k_ => some k_ ≠ (v5 : Value).ownBlock) v6 ba) ∧ A0_ (Below w.heap.size w w'))
 case atStart => exact ⟨(ha), (ia), H', ⟨Nat.le_refl _⟩, ⟨by refine xr_ ?_; exact Kd.rM_ ea.out (fun _ hk => hk.2)⟩, ⟨by refine xr_ ?_; exact Kd.rM_ ma.out (fun _ hk => hk.2)⟩, ⟨xB_ HB⟩⟩
 case round =>
  clear H'
  obtain ⟨ca, ba, HA, HK1, da, aa, HB⟩ := hrel
  cases gk with
  | zero => exact absurd HA.out (by simp [n_GCD.l0])
  | succ k1 =>
   have H := HA.out
   clear HA
   simp only [n_GCD.l0] at H
   replace H := iS_ H
   rcases H with ⟨c7, H⟩ | ⟨c7, H⟩
   ·have na := decide_eq_true c7
    have oa : decide (0 < ba.length) = true := decide_eq_true (by omega)
    clear c7
    obtain ⟨⟨pa, ja⟩, A8, H⟩ := oB_ H
    (try dsimp only at H)
    have H' := mk_ H
    clear H
    obtain ⟨Ao9, co9, eo9⟩ := Kd.rS_' aa.out
    subst eo9
    obtain ⟨fa, ga, qa⟩ := Kd.rS_' da.out
    subst qa
    go_wp2_with (first | ((with_reducible refine gC_ (f := 70) rfl ?_); refine gL_ (some 19) rfl rfl Tryd.func70 kr_ rfl #[.slice fa ca.length ga, .slice Ao9 ba.length co9] rfl mp_ ?_; (with_reducible refine (n_divide.calls k1 (fun k_ => some k_ = (.slice fa ca.length ga : Value).ownBlock) (.slice fa ca.length ga) ca _ _ ba pa ja w _ ?side1 ?side2 ?side3 ?side4 A8.out).mono ?_); (case side1 => repeat (first | (with_reducible first | exact HB.out | apply bA_ | apply pB_ | apply b1_) | exact HB.out)); (case side2 => exact Kd.R_tight rfl da.out); (case side3 => exact Kd.C_kept_own (aa.out) (fun k_ hk_ hs_ => (hk_) hs_)); (case side4 => exact (Kd.rr_' aa.out).2.1); rintro e w11 ⟨ka, la, rfl, ho0, ho1, hb, hkp⟩; refine ⟨_, rfl, ?_⟩; have za := mk_ (Kd.rM_ (ok' := fun k_ => some k_ ≠ (la : Value).ownBlock ∧ some k_ ≠ (.slice Ao9 ba.length co9 : Value).ownBlock) ho0 (fun k_ hk_ => ⟨hk_.2, Or.elim hk_.1 (fun hs_ => fun e_ => (((aa.out).1 k_ e_.symm)) hs_) (fun hn_ => (Kd.fresh' (Kd.R_lt (xR_ aa.out)) k_ hn_))⟩)); have ra := mk_ (Kd.rM_ (ok' := fun k_ => some k_ ≠ (ka : Value).ownBlock ∧ some k_ ≠ (.slice Ao9 ba.length co9 : Value).ownBlock) ho1 (fun k_ hk_ => ⟨hk_.2, Or.elim hk_.1 (fun hs_ => fun e_ => (((aa.out).1 k_ e_.symm)) hs_) (fun hn_ => (Kd.fresh' (Kd.R_lt (xR_ aa.out)) k_ hn_))⟩)); replace aa := mk_ (Kd.rM_ (ok' := fun k_ => some k_ ≠ (ka : Value).ownBlock ∧ some k_ ≠ (la : Value).ownBlock) (Kd.R_keptB (aa.out) hkp (fun k_ hk_ hs_ => (hk_) hs_)) (fun k_ hk_ => ⟨fun e_ => Or.elim (ho0.1 k_ e_.symm).1 (fun hs_ => hk_.2.1 hs_) (fun hn_ => Nat.not_le.2 hk_.2.2 hn_), fun e_ => Or.elim (ho1.1 k_ e_.symm).1 (fun hs_ => hk_.2.1 hs_) (fun hn_ => Nat.not_le.2 hk_.2.2 hn_)⟩)); replace HB := mk_ (hb); clear da))
    (try simp only [ap_])
    go_roundg k1
    case measure => have := HK1.out; omega
    case rel => exact ⟨(ba), (ja), H', ⟨by have := HK1.out; omega⟩, ⟨by refine xr_ ?_; exact Kd.rM_ aa.out (fun _ hk => hk.2)⟩, ⟨by refine xr_ ?_; exact Kd.rM_ ra.out (fun _ hk => hk.2)⟩, ⟨xB_ HB⟩⟩
   ·have na := decide_eq_false c7
    have oa : decide (0 < ba.length) = false := decide_eq_false (by omega)
    clear c7
    obtain ⟨sa, A12, H⟩ := oB_ H
    (try dsimp only at H)
    obtain rfl := Option.some.inj H
    obtain ⟨Aa, Ba, ta⟩ := Kd.rS_' aa.out
    subst ta
    obtain ⟨ua, va, wa⟩ := Kd.rS_' da.out
    subst wa
    go_wp2_with (first | ((with_reducible refine gC_ (f := 48) rfl ?_); refine gL_ (some 25) rfl rfl Tryd.func48 kr_ rfl #[.slice ua ca.length va] rfl mp_ ?_; (with_reducible refine (n_limbs_text.calls k1 _ _ ca sa _ ?side1 ?side2 A12.out).mono ?_); (case side1 => repeat (first | exact (Kd.rr_' da.out).2.2 | (with_reducible refine Kd.C_alloc ?_ _) | (with_reducible refine Kd.C_drewN ?_ _) | (with_reducible refine Kd.C_drew ?_))); (case side2 => exact (Kd.rr_' da.out).2.1); rintro e w15 ⟨rfl, hb⟩; refine ⟨_, rfl, ?_⟩; replace da := mk_ (Kd.rB_ (xR_ da.out) hb); replace aa := mk_ (Kd.rB_ (xR_ aa.out) hb); replace HB := mk_ (bT_ (xB_ HB) hb)))
    go_ret
    exact ⟨rE_, xB_ HB⟩
def q_Valid.j0 : Nat → Bool → Bool → ByteArray → ByteArray → Option (Bool)
 | 0, _, _, _, _ => none
 | k + 1, x16, x467000, x467001, x467002 => if x16 = true then (some false) else (if x467001.toList = ([] : List UInt8) then (if x467000 = true then (some false) else (some (x467002.toList == ([] : List UInt8)))) else (if x467002.toList = ([] : List UInt8) then (some true) else (if x467002.toList = ([1] : List UInt8) then (some false) else ((n_GCD.f k x467001 x467002).bind fun t469 => (some (t469.toList == ([1] : List UInt8)))))))
def q_Valid.f (k : Nat) (a0_0 : Bool) (a0_1 : ByteArray) (a0_2 : ByteArray) : Option (Bool) := (n_Normalize.f k a0_1).bind fun t467 => (if t467.toList = a0_1.toList then ((n_Normalize.f k a0_2).bind fun t468 => (q_Valid.j0 k (t468.toList != a0_2.toList) a0_0 a0_1 a0_2)) else (q_Valid.j0 k true a0_0 a0_1 a0_2))
theorem q_Valid.mono_l : ∀ k, (∀ y0 y1 y2 y3, LeO (q_Valid.j0 k y0 y1 y2 y3) (q_Valid.j0 (k + 1) y0 y1 y2 y3))
 | 0 => fun _ _ _ _ r h => by simp [q_Valid.j0] at h
 | k + 1 => by
  have ih0 := q_Valid.mono_l k
  ·intro y0 y1 y2 y3
   unfold q_Valid.j0
   repeat' first
   | (with_reducible first | exact ih0 _ _ _ _ | exact n_GCD.mono _ _ _ | exact n_Normalize.mono _ _ | exact LeO.refl _ | exact LeO.none _ | refine LeO.ite ?_ ?_ | refine LeO.bind ?_ (fun _ => ?_))
theorem q_Valid.mono : ∀ a0 a1 a2 k, LeO (q_Valid.f k a0 a1 a2) (q_Valid.f (k + 1) a0 a1 a2) := by
 intro a0 a1 a2 k
 have ih0 := q_Valid.mono_l k
 unfold q_Valid.f
 repeat' first
   | (with_reducible first | exact ih0 _ _ _ _ | exact n_GCD.mono _ _ _ | exact n_Normalize.mono _ _ | exact LeO.refl _ | exact LeO.none _ | refine LeO.ite ?_ ?_ | refine LeO.bind ?_ (fun _ => ?_))
theorem q_Valid.calls (k : Nat) (a0_0 : Bool) (a0_1 : ByteArray) (a0_2 : ByteArray) (r : Bool) (w : World) (h : q_Valid.f k a0_0 a0_1 a0_2 = some r) :
  Calls Tryd.prog 43 #[.agg #[.bool a0_0, .string a0_1, .string a0_2]] w fun e w' => e = .returned (.bool r) ∧ Below w.heap.size w w' := by
 have hu32 := Tryd.underlying32
 have HB := mk_ (Below.refl w.heap.size w)
 have H := h
 unfold q_Valid.f at H
 clear h
 have HC2 := mk_ H
 clear H
 go_enter Tryd.func43, Tryd.ntmps43
 go_upto_region 1 with (first | ((with_reducible refine gD_ (N := 1) rfl ?_); refine bE_ ?hg (N := 1) ?hd (cs := #[.bool a0_0, .string a0_1, .string a0_2]) (t := 32) ?hr ?_; (case hd => rfl); (case hg => rfl); (case hr => first | (go_simp; done) | (go_simp; rfl)); intro fa hg w3 hbox hb; have n0_ := mk_ (bT_ (xB_ HB) hb); have n1_ := mk_ (hbox); have n2_ := mk_ (gZ_ hg (bZ_ (xB_ HB))); have n3_ := mk_ (gZ_ hg (bZ_ (xB_ HB))); clear HB; have HB := n0_; have aa := n1_; have ja := n2_; have ba := n3_; clear n0_ n1_ n2_ n3_; clear hb hbox hg))
 repeat (go_quiet (first | ((with_reducible refine gD_ (N := 1) rfl ?_); refine bE_ ?hg (N := 1) ?hd (cs := #[.bool a0_0, .string a0_1, .string a0_2]) (t := 32) ?hr ?_; (case hd => rfl); (case hg => rfl); (case hr => first | (go_simp; done) | (go_simp; rfl)); intro fa hg w3 hbox hb; have n0_ := mk_ (bT_ (xB_ HB) hb); have n1_ := mk_ (hbox); have n2_ := mk_ (gZ_ hg (bZ_ (xB_ HB))); have n3_ := mk_ (gZ_ hg (bZ_ (xB_ HB))); clear HB; have HB := n0_; have aa := n1_; have ja := n2_; have ba := n3_; clear n0_ n1_ n2_ n3_; clear hb hbox hg)); go_upto_region 1 with (first | ((with_reducible refine gD_ (N := 1) rfl ?_); refine bE_ ?hg (N := 1) ?hd (cs := #[.bool a0_0, .string a0_1, .string a0_2]) (t := 32) ?hr ?_; (case hd => rfl); (case hg => rfl); (case hr => first | (go_simp; done) | (go_simp; rfl)); intro fa hg w3 hbox hb; have n0_ := mk_ (bT_ (xB_ HB) hb); have n1_ := mk_ (hbox); have n2_ := mk_ (gZ_ hg (bZ_ (xB_ HB))); have n3_ := mk_ (gZ_ hg (bZ_ (xB_ HB))); clear HB; have HB := n0_; have aa := n1_; have ja := n2_; have ba := n3_; clear n0_ n1_ n2_ n3_; clear hb hbox hg)))
 (try simp only [Act.put, s1_, s2_, s3_])
 go_cut [16] (fun v16 wc => ∃ (kq : Nat) (ga : Bool), v16 = .bool ga ∧ A0_ (q_Valid.j0 kq ga a0_0 a0_1 a0_2 = some r) ∧ A0_ (kq ≤ k) ∧ A0_ (wc.heap[fa]? = some (.cells #[.bool a0_0, .string a0_1, .string a0_2] 32 (0, 0))) ∧ A0_ (Below w.heap.size w wc))
 case first =>
  have H := HC2.out
  clear HC2
  replace H := oB_ H
  obtain ⟨ca, A4, H⟩ := H
  (try dsimp only at H)
  replace H := iS_ H
  rcases H with ⟨c5, H⟩ | ⟨c5, H⟩
  ·have da := beq_iff_eq.mpr c5
   have ha := bne_eq_false_iff_eq.mpr c5
   clear c5
   (first | rw [da] | rw [ha] | (simp only [i6_, i3_]; rw [da]) | skip)
   replace H := oB_ H
   obtain ⟨ea, A6, H⟩ := H
   (try dsimp only at H)
   have H' := mk_ H
   clear H
   obtain ⟨qa, ra, sa, ta, ua, va⟩ := kG3_ aa.out
   go_wp2_with (first | (go_at_call 44; (with_reducible refine (n_Normalize.calls k a0_1 ca _ A4.out).mono ?_); rintro e w' ⟨rfl, ⟨nd, rfl⟩⟩; (try first | exact ⟨rfl, _, World.drewN_drewN _ _ _⟩ | exact ⟨rfl, _, Eq.trans (World.drewN_drewN _ _ _) (congrArg (World.drewN _) (Nat.add_assoc _ _ _))⟩)) | (go_at_call 44; (with_reducible refine (n_Normalize.calls k a0_2 ea _ A6.out).mono ?_); rintro e w' ⟨rfl, ⟨nd, rfl⟩⟩; (try first | exact ⟨rfl, _, World.drewN_drewN _ _ _⟩ | exact ⟨rfl, _, Eq.trans (World.drewN_drewN _ _ _) (congrArg (World.drewN _) (Nat.add_assoc _ _ _))⟩)))
   repeat (go_quiet (first | (go_at_call 44; (with_reducible refine (n_Normalize.calls k a0_1 ca _ A4.out).mono ?_); rintro e w' ⟨rfl, ⟨nd, rfl⟩⟩; (try first | exact ⟨rfl, _, World.drewN_drewN _ _ _⟩ | exact ⟨rfl, _, Eq.trans (World.drewN_drewN _ _ _) (congrArg (World.drewN _) (Nat.add_assoc _ _ _))⟩)) | (go_at_call 44; (with_reducible refine (n_Normalize.calls k a0_2 ea _ A6.out).mono ?_); rintro e w' ⟨rfl, ⟨nd, rfl⟩⟩; (try first | exact ⟨rfl, _, World.drewN_drewN _ _ _⟩ | exact ⟨rfl, _, Eq.trans (World.drewN_drewN _ _ _) (congrArg (World.drewN _) (Nat.add_assoc _ _ _))⟩))); try go_wp2_with (first | (go_at_call 44; (with_reducible refine (n_Normalize.calls k a0_1 ca _ A4.out).mono ?_); rintro e w' ⟨rfl, ⟨nd, rfl⟩⟩; (try first | exact ⟨rfl, _, World.drewN_drewN _ _ _⟩ | exact ⟨rfl, _, Eq.trans (World.drewN_drewN _ _ _) (congrArg (World.drewN _) (Nat.add_assoc _ _ _))⟩)) | (go_at_call 44; (with_reducible refine (n_Normalize.calls k a0_2 ea _ A6.out).mono ?_); rintro e w' ⟨rfl, ⟨nd, rfl⟩⟩; (try first | exact ⟨rfl, _, World.drewN_drewN _ _ _⟩ | exact ⟨rfl, _, Eq.trans (World.drewN_drewN _ _ _) (congrArg (World.drewN _) (Nat.add_assoc _ _ _))⟩))))
   go_meet
   case rel => exact ⟨_, ((ea.toList != a0_2.toList)), (rS_), H', ⟨by first | omega | exact Nat.le_refl _⟩, ⟨by refine xk_ ?_; exact aa.out⟩, ⟨xB1_ HB ba⟩⟩
  ·have da := beq_eq_false_iff_ne.mpr c5
   have ha := bne_iff_ne.mpr c5
   (first | rw [da] | rw [ha] | (simp only [i6_, i3_]; rw [da]) | skip)
   have H' := mk_ H
   clear H
   obtain ⟨wa, xa, ya, za, Aa, Ba⟩ := kG3_ aa.out
   go_wp2_with (first | (go_at_call 44; (with_reducible refine (n_Normalize.calls k a0_1 ca _ A4.out).mono ?_); rintro e w' ⟨rfl, ⟨nd, rfl⟩⟩; (try first | exact ⟨rfl, _, World.drewN_drewN _ _ _⟩ | exact ⟨rfl, _, Eq.trans (World.drewN_drewN _ _ _) (congrArg (World.drewN _) (Nat.add_assoc _ _ _))⟩)))
   repeat (go_quiet (first | (go_at_call 44; (with_reducible refine (n_Normalize.calls k a0_1 ca _ A4.out).mono ?_); rintro e w' ⟨rfl, ⟨nd, rfl⟩⟩; (try first | exact ⟨rfl, _, World.drewN_drewN _ _ _⟩ | exact ⟨rfl, _, Eq.trans (World.drewN_drewN _ _ _) (congrArg (World.drewN _) (Nat.add_assoc _ _ _))⟩))); try go_wp2_with (first | (go_at_call 44; (with_reducible refine (n_Normalize.calls k a0_1 ca _ A4.out).mono ?_); rintro e w' ⟨rfl, ⟨nd, rfl⟩⟩; (try first | exact ⟨rfl, _, World.drewN_drewN _ _ _⟩ | exact ⟨rfl, _, Eq.trans (World.drewN_drewN _ _ _) (congrArg (World.drewN _) (Nat.add_assoc _ _ _))⟩))))
   go_meet
   case rel => exact ⟨_, (true), (rS_), H', ⟨by first | omega | exact Nat.le_refl _⟩, ⟨by refine xk_ ?_; exact aa.out⟩, ⟨xB1_ HB ba⟩⟩
 case rest =>
  clear HC2
  obtain ⟨kq, ga, rfl, HA, HJ1, aa, HB⟩ := hcut
  cases kq with
  | zero => exact absurd HA.out (by simp [q_Valid.j0])
  | succ kj1 =>
   have H := HA.out
   clear HA
   simp only [q_Valid.j0] at H
   replace H := iS_ H
   rcases H with ⟨c9, H⟩ | ⟨c9, H⟩
   ·subst c9
    obtain rfl := Option.some.inj H
    go_wp2
    repeat (go_quiet (fail); try go_wp2)
    go_ret
    exact ⟨rE_, xB1_ HB ba⟩
   ·replace c9 := Bool.eq_false_iff.mpr c9
    subst c9
    replace H := iS_ H
    rcases H with ⟨c10, H⟩ | ⟨c10, H⟩
    ·have ka := beq_iff_eq.mpr c10
     have la := bne_eq_false_iff_eq.mpr c10
     clear c10
     replace H := iS_ H
     rcases H with ⟨c11, H⟩ | ⟨c11, H⟩
     ·subst c11
      obtain rfl := Option.some.inj H
      obtain ⟨Ca, Da, Ea, Fa, Ga, Ha⟩ := kG3_ aa.out
      go_wp2
      repeat (go_quiet (fail); try go_wp2)
      go_ret
      exact ⟨rE_, xB1_ HB ba⟩
     ·replace c11 := Bool.eq_false_iff.mpr c11
      subst c11
      obtain rfl := Option.some.inj H
      obtain ⟨Ia, Ja, Ka, La, Ma, Na⟩ := kG3_ aa.out
      go_wp2
      repeat (go_quiet (fail); try go_wp2)
      go_ret
      exact ⟨rE_, xB1_ HB ba⟩
    ·have ka := beq_eq_false_iff_ne.mpr c10
     have la := bne_iff_ne.mpr c10
     replace H := iS_ H
     rcases H with ⟨c14, H⟩ | ⟨c14, H⟩
     ·have ma := beq_iff_eq.mpr c14
      have na := bne_eq_false_iff_eq.mpr c14
      clear c14
      obtain rfl := Option.some.inj H
      obtain ⟨Oa, Pa, Qa, Ra, Sa, Ta⟩ := kG3_ aa.out
      go_wp2
      repeat (go_quiet (fail); try go_wp2)
      go_ret
      exact ⟨rE_, xB1_ HB ba⟩
     ·have ma := beq_eq_false_iff_ne.mpr c14
      have na := bne_iff_ne.mpr c14
      replace H := iS_ H
      rcases H with ⟨c16, H⟩ | ⟨c16, H⟩
      ·have oa := beq_iff_eq.mpr c16
       have pa := bne_eq_false_iff_eq.mpr c16
       clear c16
       obtain rfl := Option.some.inj H
       obtain ⟨Ua, Va, Wa, Xa, Ya, Za⟩ := kG3_ aa.out
       go_wp2
       repeat (go_quiet (fail); try go_wp2)
       go_ret
       exact ⟨rE_, xB1_ HB ba⟩
      ·have oa := beq_eq_false_iff_ne.mpr c16
       have pa := bne_iff_ne.mpr c16
       replace H := oB_ H
       obtain ⟨ia, A18, H⟩ := H
       (try dsimp only at H)
       obtain rfl := Option.some.inj H
       obtain ⟨ab, bb, cb, db, eb, fb⟩ := kG3_ aa.out
       go_wp2_with (first | (go_at_call 56; (with_reducible refine (n_GCD.calls kj1 a0_1 a0_2 ia _ A18.out).mono ?_); rintro e w20 ⟨rfl, hb⟩; replace aa := mk_ (kB_ (xK_ aa.out) hb); replace HB := mk_ (bT_ (xB1_ HB ba) hb)))
       repeat (go_quiet (first | (go_at_call 56; (with_reducible refine (n_GCD.calls kj1 a0_1 a0_2 ia _ A18.out).mono ?_); rintro e w20 ⟨rfl, hb⟩; replace aa := mk_ (kB_ (xK_ aa.out) hb); replace HB := mk_ (bT_ (xB1_ HB ba) hb))); try go_wp2_with (first | (go_at_call 56; (with_reducible refine (n_GCD.calls kj1 a0_1 a0_2 ia _ A18.out).mono ?_); rintro e w20 ⟨rfl, hb⟩; replace aa := mk_ (kB_ (xK_ aa.out) hb); replace HB := mk_ (bT_ (xB1_ HB ba) hb))))
       go_ret
       exact ⟨rE_, xB1_ HB ba⟩
def q_clean.f (k : Nat) (a0_0 : Bool) (a0_1 : ByteArray) (a0_2 : ByteArray) : Option (Bool × ByteArray × ByteArray) := (q_Valid.f k a0_0 a0_1 a0_2).bind fun t472 => (if t472 = true then (some (a0_0, a0_1, a0_2)) else (some (false, (⟨#[]⟩ : ByteArray), (⟨#[]⟩ : ByteArray))))
theorem q_clean.mono : ∀ a0 a1 a2 k, LeO (q_clean.f k a0 a1 a2) (q_clean.f (k + 1) a0 a1 a2) := by
 intro a0 a1 a2 k
 unfold q_clean.f
 repeat' first
   | (with_reducible first | exact q_Valid.mono _ _ _ _ | exact LeO.refl _ | exact LeO.none _ | refine LeO.ite ?_ ?_ | refine LeO.bind ?_ (fun _ => ?_))
theorem q_clean.calls (k : Nat) (a0_0 : Bool) (a0_1 : ByteArray) (a0_2 : ByteArray) (r1 : Bool) (r2 : ByteArray) (r3 : ByteArray) (w : World) (h : q_clean.f k a0_0 a0_1 a0_2 = some (r1, r2, r3)) :
  Calls Tryd.prog 24 #[.agg #[.bool a0_0, .string a0_1, .string a0_2]] w fun e w' => e = .returned (.agg #[.bool r1, .string r2, .string r3]) ∧ Below w.heap.size w w' := by
 have hu32 := Tryd.underlying32
 have HB := mk_ (Below.refl w.heap.size w)
 have H := h
 unfold q_clean.f at H
 clear h
 replace H := oB_ H
 obtain ⟨ka, A2, H⟩ := H
 (try dsimp only at H)
 replace H := iS_ H
 rcases H with ⟨c3, H⟩ | ⟨c3, H⟩
 ·subst c3
  simp only [Option.some.injEq, Prod.mk.injEq] at H
  obtain ⟨rfl, rfl, rfl⟩ := H
  go_enter Tryd.func24, Tryd.ntmps24
  go_wp2_with (first | ((with_reducible refine gD_ (N := 1) rfl ?_); refine bX_ (N := 1) (cs := #[.bool a0_0, .string a0_1, .string a0_2]) (t := 32) ?_; intro ha hg w4 hbox hb; have aa := mk_ (hbox); have ia := mk_ (gZ_ hg (bZ_ (xB_ HB))); have ba := mk_ (gZ_ hg (bZ_ (xB_ HB))); replace HB := mk_ (bT_ (xB_ HB) hb); clear hb hbox hg) | ((with_reducible refine gD_ (N := 2) rfl ?_); refine bX_ (N := 2) (cs := zC_) (t := 32) ?_; intro ea hg w5 hbox hb; have ca := mk_ (hbox); have ja := mk_ (gZ_ hg (bZ_ (xB1_ HB ba))); have da := mk_ (gZ_ hg (bZ_ (xB1_ HB ba))); replace HB := mk_ (bT_ (xB1_ HB ba) hb); have fa := mk_ (gN_ hg (xK_ aa.out)); have ga := mk_ (gM_ hg (xK_ aa.out)); replace aa := mk_ (kB_ (xK_ aa.out) hb); clear hb hbox hg; have hnb6 := fa.out; have hnc6 := ga.out; obtain ⟨la, ma, na, oa, pa, qa⟩ := kG3_ aa.out) | ((with_reducible refine gC_ (f := 43) rfl ?_); refine gL_ (some 4) rfl rfl Tryd.func43 kr_ rfl #[.agg #[.bool a0_0, .string a0_1, .string a0_2]] rfl mp_ ?_; (with_reducible refine (q_Valid.calls k a0_0 a0_1 a0_2 true _ A2.out).mono ?_); rintro e w8 ⟨rfl, hb⟩; refine ⟨_, rfl, ?_⟩; replace aa := mk_ (kB_ (xK_ aa.out) hb); replace ca := mk_ (kB_ (xK_ ca.out) hb); replace HB := mk_ (bT_ (xB2_ HB ba da) hb); obtain ⟨ra, sa, ta, ua, va, wa⟩ := kG3_ aa.out; obtain ⟨xa, ya, za, Aa, Ba, Ca⟩ := kG3_ ca.out))
  refine bodyPost_ret (results_cell_row rfl _ _ ea 32 #[.bool a0_0, .string a0_1, .string a0_2] (0, 0) _ rfl (by refine xk_ ?_; refine kQ_ (cs := #[.bool a0_0, .string a0_1, .string (⟨#[]⟩ : ByteArray)]) ?_ 2 _ rfl; refine kQ_ (cs := #[.bool a0_0, .string (⟨#[]⟩ : ByteArray), .string (⟨#[]⟩ : ByteArray)]) ?_ 1 _ rfl; refine kQ_ (cs := zC_) ?_ 0 _ rfl; exact ca.out) Tryd.underlying32 rfl kr_) rfl ?_
  exact ⟨rE_, xB2_ HB ba da⟩
 ·replace c3 := Bool.eq_false_iff.mpr c3
  subst c3
  simp only [Option.some.injEq, Prod.mk.injEq] at H
  obtain ⟨rfl, rfl, rfl⟩ := H
  go_enter Tryd.func24, Tryd.ntmps24
  go_wp2_with (first | ((with_reducible refine gD_ (N := 1) rfl ?_); refine bX_ (N := 1) (cs := #[.bool a0_0, .string a0_1, .string a0_2]) (t := 32) ?_; intro ha hg w11 hbox hb; have aa := mk_ (hbox); have ia := mk_ (gZ_ hg (bZ_ (xB_ HB))); have ba := mk_ (gZ_ hg (bZ_ (xB_ HB))); replace HB := mk_ (bT_ (xB_ HB) hb); clear hb hbox hg) | ((with_reducible refine gD_ (N := 2) rfl ?_); refine bX_ (N := 2) (cs := zC_) (t := 32) ?_; intro ea hg w12 hbox hb; have ca := mk_ (hbox); have ja := mk_ (gZ_ hg (bZ_ (xB1_ HB ba))); have da := mk_ (gZ_ hg (bZ_ (xB1_ HB ba))); replace HB := mk_ (bT_ (xB1_ HB ba) hb); have fa := mk_ (gN_ hg (xK_ aa.out)); have ga := mk_ (gM_ hg (xK_ aa.out)); replace aa := mk_ (kB_ (xK_ aa.out) hb); clear hb hbox hg; have hnb13 := fa.out; have hnc13 := ga.out; obtain ⟨Da, Ea, Fa, Ga, Ha, Ia⟩ := kG3_ aa.out) | ((with_reducible refine gC_ (f := 43) rfl ?_); refine gL_ (some 4) rfl rfl Tryd.func43 kr_ rfl #[.agg #[.bool a0_0, .string a0_1, .string a0_2]] rfl mp_ ?_; (with_reducible refine (q_Valid.calls k a0_0 a0_1 a0_2 false _ A2.out).mono ?_); rintro e w15 ⟨rfl, hb⟩; refine ⟨_, rfl, ?_⟩; replace aa := mk_ (kB_ (xK_ aa.out) hb); replace ca := mk_ (kB_ (xK_ ca.out) hb); replace HB := mk_ (bT_ (xB2_ HB ba da) hb); obtain ⟨Ja, Ka, La, Ma, Na, Oa⟩ := kG3_ ca.out))
  refine bodyPost_ret (results_cell_row rfl _ _ ea 32 zC_ (0, 0) _ rfl (by refine xk_ ?_; refine kQ_ (cs := zC_) ?_ 2 _ rfl; refine kQ_ (cs := zC_) ?_ 1 _ rfl; refine kQ_ (cs := zC_) ?_ 0 _ rfl; exact ca.out) Tryd.underlying32 rfl kr_) rfl ?_
  exact ⟨rE_, xB2_ HB ba da⟩
def q_signOf.f (a0_0 : Bool) (a0_1 : ByteArray) (a0_2 : ByteArray) : Option (Int) := if a0_1.toList = ([] : List UInt8) then (some 0) else (if a0_0 = true then (some (-1)) else (some 1))
theorem q_signOf.calls (a0_0 : Bool) (a0_1 : ByteArray) (a0_2 : ByteArray) (r : Int) (w : World) (h : q_signOf.f a0_0 a0_1 a0_2 = some r) :
  Calls Tryd.prog 25 #[.agg #[.bool a0_0, .string a0_1, .string a0_2]] w fun e w' => e = .returned (.int .i64 r) ∧ Below w.heap.size w w' := by
 have hu32 := Tryd.underlying32
 have HB := mk_ (Below.refl w.heap.size w)
 have H := h
 unfold q_signOf.f at H
 clear h
 replace H := iS_ H
 rcases H with ⟨c2, H⟩ | ⟨c2, H⟩
 ·have ea := beq_iff_eq.mpr c2
  have fa := bne_eq_false_iff_eq.mpr c2
  clear c2
  obtain rfl := Option.some.inj H
  go_enter Tryd.func25, Tryd.ntmps25
  go_wp2_with (first | ((with_reducible refine gD_ (N := 1) rfl ?_); refine bX_ (N := 1) (cs := #[.bool a0_0, .string a0_1, .string a0_2]) (t := 32) ?_; intro ca hg w3 hbox hb; have aa := mk_ (hbox); have da := mk_ (gZ_ hg (bZ_ (xB_ HB))); have ba := mk_ (gZ_ hg (bZ_ (xB_ HB))); replace HB := mk_ (bT_ (xB_ HB) hb); clear hb hbox hg; obtain ⟨ga, ha, ia, ja, ka, la⟩ := kG3_ aa.out))
  go_ret
  exact ⟨rE_, xB1_ HB ba⟩
 ·have ea := beq_eq_false_iff_ne.mpr c2
  have fa := bne_iff_ne.mpr c2
  replace H := iS_ H
  rcases H with ⟨c5, H⟩ | ⟨c5, H⟩
  ·subst c5
   obtain rfl := Option.some.inj H
   go_enter Tryd.func25, Tryd.ntmps25
   go_wp2_with (first | ((with_reducible refine gD_ (N := 1) rfl ?_); refine bX_ (N := 1) (cs := #[.bool true, .string a0_1, .string a0_2]) (t := 32) ?_; intro ca hg w6 hbox hb; have aa := mk_ (hbox); have da := mk_ (gZ_ hg (bZ_ (xB_ HB))); have ba := mk_ (gZ_ hg (bZ_ (xB_ HB))); replace HB := mk_ (bT_ (xB_ HB) hb); clear hb hbox hg; obtain ⟨ma, na, oa, pa, qa, ra⟩ := kG3_ aa.out))
   go_ret
   exact ⟨rE_, xB1_ HB ba⟩
  ·replace c5 := Bool.eq_false_iff.mpr c5
   subst c5
   obtain rfl := Option.some.inj H
   go_enter Tryd.func25, Tryd.ntmps25
   go_wp2_with (first | ((with_reducible refine gD_ (N := 1) rfl ?_); refine bX_ (N := 1) (cs := #[.bool false, .string a0_1, .string a0_2]) (t := 32) ?_; intro ca hg w8 hbox hb; have aa := mk_ (hbox); have da := mk_ (gZ_ hg (bZ_ (xB_ HB))); have ba := mk_ (gZ_ hg (bZ_ (xB_ HB))); replace HB := mk_ (bT_ (xB_ HB) hb); clear hb hbox hg; obtain ⟨sa, ta, ua, va, wa, xa⟩ := kG3_ aa.out))
   go_ret
   exact ⟨rE_, xB1_ HB ba⟩
def q_Sign.f (k : Nat) (a0_0 : Bool) (a0_1 : ByteArray) (a0_2 : ByteArray) : Option (Int) := (q_clean.f k a0_0 a0_1 a0_2).bind fun bt475 => ((q_signOf.f bt475.1 bt475.2.1 bt475.2.2).bind fun t478 => (some t478))
theorem q_Sign.mono : ∀ a0 a1 a2 k, LeO (q_Sign.f k a0 a1 a2) (q_Sign.f (k + 1) a0 a1 a2) := by
 intro a0 a1 a2 k
 unfold q_Sign.f
 repeat' first
   | (with_reducible first | exact q_clean.mono _ _ _ _ | exact LeO.refl _ | exact LeO.none _ | refine LeO.ite ?_ ?_ | refine LeO.bind ?_ (fun _ => ?_))
theorem q_Sign.calls (k : Nat) (a0_0 : Bool) (a0_1 : ByteArray) (a0_2 : ByteArray) (r : Int) (w : World) (h : q_Sign.f k a0_0 a0_1 a0_2 = some r) :
  Calls Tryd.prog 38 #[.agg #[.bool a0_0, .string a0_1, .string a0_2]] w fun e w' => e = .returned (.int .i64 r) ∧ Below w.heap.size w w' := by
 have hu32 := Tryd.underlying32
 have HB := mk_ (Below.refl w.heap.size w)
 have H := h
 unfold q_Sign.f at H
 clear h
 obtain ⟨⟨ba, ca, da⟩, A2, H⟩ := oB_ H
 (try dsimp only at H)
 obtain ⟨fa, A3, H⟩ := oB_ H
 (try dsimp only at H)
 obtain rfl := Option.some.inj H
 go_enter Tryd.func38, Tryd.ntmps38
 go_wp2_with (first | ((with_reducible refine gD_ (N := 1) rfl ?_); refine bX_ (N := 1) (cs := #[.bool a0_0, .string a0_1, .string a0_2]) (t := 32) ?_; intro ga hg w4 hbox hb; have aa := mk_ (hbox); have ha := mk_ (gZ_ hg (bZ_ (xB_ HB))); have ea := mk_ (gZ_ hg (bZ_ (xB_ HB))); replace HB := mk_ (bT_ (xB_ HB) hb); clear hb hbox hg; obtain ⟨ia, ja, ka, la, ma, na⟩ := kG3_ aa.out) | ((with_reducible refine gC_ (f := 24) rfl ?_); refine gL_ (some 4) rfl rfl Tryd.func24 kr_ rfl #[.agg #[.bool a0_0, .string a0_1, .string a0_2]] rfl mp_ ?_; (with_reducible refine (q_clean.calls k a0_0 a0_1 a0_2 ba ca da _ A2.out).mono ?_); rintro e w6 ⟨rfl, hb⟩; refine ⟨_, rfl, ?_⟩; replace aa := mk_ (kB_ (xK_ aa.out) hb); replace HB := mk_ (bT_ (xB1_ HB ea) hb)) | ((with_reducible refine gC_ (f := 25) rfl ?_); refine gL_ (some 5) rfl rfl Tryd.func25 kr_ rfl #[.agg #[.bool ba, .string ca, .string da]] rfl mp_ ?_; (with_reducible refine (q_signOf.calls ba ca da fa _ A3.out).mono ?_); rintro e w7 ⟨rfl, hb⟩; refine ⟨_, rfl, ?_⟩; replace aa := mk_ (kB_ (xK_ aa.out) hb); replace HB := mk_ (bT_ (xB1_ HB ea) hb)))
 go_ret
 exact ⟨rE_, xB1_ HB ea⟩
def collateral_Check_1.f (k : Nat) (a0_0 : Bool) (a0_1 : ByteArray) (a0_2 : ByteArray) : Option (Bool) := (q_Sign.f k a0_0 a0_1 a0_2).bind fun t480 => (some (decide (t480 < 0)))
theorem collateral_Check_1.mono : ∀ a0 a1 a2 k, LeO (collateral_Check_1.f k a0 a1 a2) (collateral_Check_1.f (k + 1) a0 a1 a2) := by
 intro a0 a1 a2 k
 unfold collateral_Check_1.f
 repeat' first
   | (with_reducible first | exact q_Sign.mono _ _ _ _ | exact LeO.refl _ | exact LeO.none _ | refine LeO.ite ?_ ?_ | refine LeO.bind ?_ (fun _ => ?_))
theorem collateral_Check_1.calls (k : Nat) (a0_0 : Bool) (a0_1 : ByteArray) (a0_2 : ByteArray) (r : Bool) (w : World) (h : collateral_Check_1.f k a0_0 a0_1 a0_2 = some r) :
  Calls Tryd.prog 37 #[.agg #[.bool a0_0, .string a0_1, .string a0_2]] w fun e w' => e = .returned (.bool r) ∧ Below w.heap.size w w' := by
 have hu32 := Tryd.underlying32
 have HB := mk_ (Below.refl w.heap.size w)
 have H := h
 unfold collateral_Check_1.f at H
 clear h
 obtain ⟨ca, A2, H⟩ := oB_ H
 (try dsimp only at H)
 obtain rfl := Option.some.inj H
 go_enter Tryd.func37, Tryd.ntmps37
 go_wp2_with (first | ((with_reducible refine gD_ (N := 1) rfl ?_); refine bX_ (N := 1) (cs := #[.bool a0_0, .string a0_1, .string a0_2]) (t := 32) ?_; intro da hg w3 hbox hb; have aa := mk_ (hbox); have ea := mk_ (gZ_ hg (bZ_ (xB_ HB))); have ba := mk_ (gZ_ hg (bZ_ (xB_ HB))); replace HB := mk_ (bT_ (xB_ HB) hb); clear hb hbox hg; obtain ⟨fa, ga, ha, ia, ja, ka⟩ := kG3_ aa.out) | ((with_reducible refine gC_ (f := 38) rfl ?_); refine gL_ (some 4) rfl rfl Tryd.func38 kr_ rfl #[.agg #[.bool a0_0, .string a0_1, .string a0_2]] rfl mp_ ?_; (with_reducible refine (q_Sign.calls k a0_0 a0_1 a0_2 ca _ A2.out).mono ?_); rintro e w5 ⟨rfl, hb⟩; refine ⟨_, rfl, ?_⟩; replace aa := mk_ (kB_ (xK_ aa.out) hb); replace HB := mk_ (bT_ (xB1_ HB ba) hb)))
 go_ret
 exact ⟨rE_, xB1_ HB ba⟩
def slices_IndexFuncRat.l0 : Nat → List (S32) → Int → Int → Option (Int)
 | 0, _, _, _ => none
 | k + 1, x0, x7, x8 => if x8 < x7 then (if 0 ≤ x8 then (if x8 < (x0.length : Int) then ((collateral_Check_1.f k ((r32_ x0 x8).f0) ((r32_ x0 x8).f1) ((r32_ x0 x8).f2)).bind fun t482 => (if t482 = true then (some x8) else (slices_IndexFuncRat.l0 k x0 x7 (wrap64 (x8 + 1))))) else (none)) else (none)) else (some (-1))
def slices_IndexFuncRat.f (k : Nat) (l0 : List (S32)) : Option (Int) := slices_IndexFuncRat.l0 k l0 (l0.length : Int) 0
theorem slices_IndexFuncRat.mono_l : ∀ k, (∀ y0 y1 y2, LeO (slices_IndexFuncRat.l0 k y0 y1 y2) (slices_IndexFuncRat.l0 (k + 1) y0 y1 y2))
 | 0 => fun _ _ _ r h => by simp [slices_IndexFuncRat.l0] at h
 | k + 1 => by
  have ih0 := slices_IndexFuncRat.mono_l k
  ·intro y0 y1 y2
   unfold slices_IndexFuncRat.l0
   repeat' first
   | (with_reducible first | exact ih0 _ _ _ | exact collateral_Check_1.mono _ _ _ _ | exact LeO.refl _ | exact LeO.none _ | refine LeO.ite ?_ ?_ | refine LeO.bind ?_ (fun _ => ?_))
theorem slices_IndexFuncRat.mono : ∀ a0 k, LeO (slices_IndexFuncRat.f k a0) (slices_IndexFuncRat.f (k + 1) a0) := by
 intro a0 k
 have ih0 := slices_IndexFuncRat.mono_l k
 unfold slices_IndexFuncRat.f
 repeat' first
   | (with_reducible first | exact ih0 _ _ _ | exact collateral_Check_1.mono _ _ _ _ | exact LeO.refl _ | exact LeO.none _ | refine LeO.ite ?_ ?_ | refine LeO.bind ?_ (fun _ => ?_))
theorem slices_IndexFuncRat.calls (k : Nat) (A0 : Option Addr) (c0 : Nat) (l0 : List (S32)) (r : Int) (w : World) (hr0 : Kd.C k32 w A0 l0.length l0) (hc0 : l0.length ≤ c0) (h : slices_IndexFuncRat.f k l0 = some r) :
  Calls Tryd.prog 54 #[.slice A0 l0.length c0, .func (.func 37) #[] #[]] w fun e w' => e = .returned (.int .i64 r) ∧ Below w.heap.size w w' := by
 have hu32 := Tryd.underlying32
 have HR0 := mk_ hr0
 have HC0 := mk_ hc0
 clear hr0 hc0
 have HB := mk_ (Below.refl w.heap.size w)
 have H : (slices_IndexFuncRat.l0 k l0 (l0.length : Int) 0) = some r := h
 clear h
 have H' := mk_ H
 clear H
 go_enter Tryd.func54, Tryd.ntmps54
 go_wp2
 go_loopg [8] k (fun kq v8 w' => ∃ (aa : Int), v8 = .int .i64 aa ∧ A0_ (slices_IndexFuncRat.l0 kq l0 (l0.length : Int) aa = some r) ∧ A0_ (kq ≤ k) ∧ A0_ (Below w.heap.size w w'))
 case atStart => exact ⟨(0), (rS_), H', ⟨Nat.le_refl _⟩, ⟨xB_ HB⟩⟩
 case round =>
  clear H'
  obtain ⟨aa, rfl, HA, HK1, HB⟩ := hrel
  cases gk with
  | zero => exact absurd HA.out (by simp [slices_IndexFuncRat.l0])
  | succ k1 =>
   have H := HA.out
   clear HA
   simp only [slices_IndexFuncRat.l0] at H
   replace H := iS_ H
   rcases H with ⟨c2, H⟩ | ⟨c2, H⟩
   ·have ha := decide_eq_true c2
    clear c2
    replace H := iD_ H
    obtain ⟨ja, H⟩ := H
    replace H := iD_ H
    obtain ⟨ka, H⟩ := H
    replace H := oB_ H
    obtain ⟨la, A5, H⟩ := H
    (try dsimp only at H)
    replace H := iS_ H
    rcases H with ⟨c6, H⟩ | ⟨c6, H⟩
    ·subst c6
     obtain rfl := Option.some.inj H
     have ba : 0 ≤ (aa : Int) := oD_
     have ca : aa < (l0.length : Int) := oD_
     obtain ⟨ia, ga, da, ea, fa⟩ := at_T32 HR0.out aa ba ca
     cases ga
     (try replace da := cT_ HB da)
     (try replace ea := cT_ HB ea)
     (try replace fa := cT_ HB fa)
     replace ba := eq_true ba
     replace ca := eq_true ca
     go_wp2_with (first | ((with_reducible refine gD_ (N := 16) rfl ?_); refine goesV_ (some 16) rfl rfl Tryd.func37 kr_ rfl #[.agg #[.bool ((r32_ l0 aa).f0), .string ((r32_ l0 aa).f1), .string ((r32_ l0 aa).f2)]] rfl mp_ ?_; (with_reducible refine (collateral_Check_1.calls k1 ((r32_ l0 aa).f0) ((r32_ l0 aa).f1) ((r32_ l0 aa).f2) true _ A5.out).mono ?_); rintro e w7 ⟨rfl, hb⟩; refine ⟨_, rfl, ?_⟩; replace HB := mk_ (bT_ (xB_ HB) hb)))
     go_ret
     exact ⟨rE_, xB_ HB⟩
    ·replace c6 := Bool.eq_false_iff.mpr c6
     subst c6
     have H' := mk_ H
     clear H
     have ba : 0 ≤ (aa : Int) := oD_
     have ca : aa < (l0.length : Int) := oD_
     obtain ⟨ia, ga, da, ea, fa⟩ := at_T32 HR0.out aa ba ca
     cases ga
     (try replace da := cT_ HB da)
     (try replace ea := cT_ HB ea)
     (try replace fa := cT_ HB fa)
     replace ba := eq_true ba
     replace ca := eq_true ca
     go_wp2_with (first | ((with_reducible refine gD_ (N := 16) rfl ?_); refine goesV_ (some 16) rfl rfl Tryd.func37 kr_ rfl #[.agg #[.bool ((r32_ l0 aa).f0), .string ((r32_ l0 aa).f1), .string ((r32_ l0 aa).f2)]] rfl mp_ ?_; (with_reducible refine (collateral_Check_1.calls k1 ((r32_ l0 aa).f0) ((r32_ l0 aa).f1) ((r32_ l0 aa).f2) false _ A5.out).mono ?_); rintro e w8 ⟨rfl, hb⟩; refine ⟨_, rfl, ?_⟩; replace HB := mk_ (bT_ (xB_ HB) hb)))
     (try simp only [ap_])
     go_roundg k1
     case measure => have := HK1.out; omega
     case rel => exact ⟨(wrap64 (aa + 1)), (rS_), H', ⟨by have := HK1.out; omega⟩, ⟨xB_ HB⟩⟩
   ·have ha := decide_eq_false c2
    clear c2
    obtain rfl := Option.some.inj H
    go_wp2
    go_ret
    exact ⟨rE_, xB_ HB⟩
def slices_ContainsFuncRat.f (k : Nat) (l0 : List (S32)) : Option (Bool) := (slices_IndexFuncRat.f k l0).bind fun t483 => (some (decide (t483 ≥ 0)))
theorem slices_ContainsFuncRat.mono : ∀ a0 k, LeO (slices_ContainsFuncRat.f k a0) (slices_ContainsFuncRat.f (k + 1) a0) := by
 intro a0 k
 unfold slices_ContainsFuncRat.f
 repeat' first
   | (with_reducible first | exact slices_IndexFuncRat.mono _ _ | exact LeO.refl _ | exact LeO.none _ | refine LeO.ite ?_ ?_ | refine LeO.bind ?_ (fun _ => ?_))
theorem slices_ContainsFuncRat.calls (k : Nat) (A0 : Option Addr) (c0 : Nat) (l0 : List (S32)) (r : Bool) (w : World) (hr0 : Kd.C k32 w A0 l0.length l0) (hc0 : l0.length ≤ c0) (h : slices_ContainsFuncRat.f k l0 = some r) :
  Calls Tryd.prog 36 #[.slice A0 l0.length c0, .func (.func 37) #[] #[]] w fun e w' => e = .returned (.bool r) ∧ Below w.heap.size w w' := by
 have HR0 := mk_ hr0
 have HC0 := mk_ hc0
 clear hr0 hc0
 have HB := mk_ (Below.refl w.heap.size w)
 have H := h
 unfold slices_ContainsFuncRat.f at H
 clear h
 obtain ⟨aa, A2, H⟩ := oB_ H
 (try dsimp only at H)
 obtain rfl := Option.some.inj H
 go_enter Tryd.func36, Tryd.ntmps36
 go_wp2_with (first | ((with_reducible refine gC_ (f := 54) rfl ?_); refine gL_ (some 7) rfl rfl Tryd.func54 kr_ rfl #[.slice A0 l0.length c0, .func (.func 37) #[] #[]] rfl mp_ ?_; (with_reducible refine (slices_IndexFuncRat.calls k _ _ l0 aa _ (xC_ HR0.out) HC0.out A2.out).mono ?_); rintro e w3 ⟨rfl, hb⟩; refine ⟨_, rfl, ?_⟩; replace HB := mk_ (bT_ (xB_ HB) hb)))
 go_ret
 exact ⟨rE_, xB_ HB⟩
mutual
def collateral_Check.j0 : Nat → List (S50) → List (S32) → Bool → Option (Int)
 | 0, _, _, _ => none
 | k + 1, x0, x1, x16 => if x16 = true then (none) else ((slices_ContainsFuncRat.f k x1).bind fun t484 => (if t484 = true then (none) else (collateral_Check.l0 k x1 x0 (x0.length : Int) 0)))
def collateral_Check.l0 : Nat → List (S32) → List (S50) → Int → Int → Option (Int)
 | 0, _, _, _, _ => none
 | k + 1, x1, x19, x20, x21 => if x21 < x20 then (if 0 ≤ x21 then (if x21 < (x19.length : Int) then (if (((r50_ x19 x21).f2).length : Int) > 8 then (none) else ((q_Sign.f k ((r50_ x19 x21).f0.f0) ((r50_ x19 x21).f0.f1) ((r50_ x19 x21).f0.f2)).bind fun t487 => (if t487 < 0 then (collateral_Check.j2 k x1 x19 x20 x21 true ((r50_ x19 x21).f0.f0) ((r50_ x19 x21).f0.f1) ((r50_ x19 x21).f0.f2) ((r50_ x19 x21).f1.f0) ((r50_ x19 x21).f1.f1) ((r50_ x19 x21).f1.f2) ((r50_ x19 x21).f2)) else ((q_Sign.f k ((r50_ x19 x21).f1.f0) ((r50_ x19 x21).f1.f1) ((r50_ x19 x21).f1.f2)).bind fun t488 => (collateral_Check.j2 k x1 x19 x20 x21 (decide (t488 < 0)) ((r50_ x19 x21).f0.f0) ((r50_ x19 x21).f0.f1) ((r50_ x19 x21).f0.f2) ((r50_ x19 x21).f1.f0) ((r50_ x19 x21).f1.f1) ((r50_ x19 x21).f1.f2) ((r50_ x19 x21).f2)))))) else (none)) else (none)) else (some 0)
def collateral_Check.j2 : Nat → List (S32) → List (S50) → Int → Int → Bool → Bool → ByteArray → ByteArray → Bool → ByteArray → ByteArray → List (S52) → Option (Int)
 | 0, _, _, _, _, _, _, _, _, _, _, _, _ => none
 | k + 1, x1, x19, x20, x21, x38, x487000, x487001, x487002, x487003, x487004, x487005, x487006 => if x38 = true then (none) else (collateral_Check.l1 k x1 x19 x20 x21 x487006 (x487006.length : Int) 0)
def collateral_Check.l1 : Nat → List (S32) → List (S50) → Int → Int → List (S52) → Int → Int → Option (Int)
 | 0, _, _, _, _, _, _, _ => none
 | k + 1, x1, x19, x20, x21, x40, x41, x42 => if x42 < x41 then (if 0 ≤ x42 then (if x42 < (x40.length : Int) then (if ((r52_ x40 x42).f0) < 0 then (collateral_Check.j4 k x1 x19 x20 x21 x40 x41 x42 true ((r52_ x40 x42).f0) ((r52_ x40 x42).f1) ((r52_ x40 x42).f2) ((r52_ x40 x42).f3.f0) ((r52_ x40 x42).f3.f1) ((r52_ x40 x42).f3.f2)) else (collateral_Check.j4 k x1 x19 x20 x21 x40 x41 x42 (decide (((r52_ x40 x42).f0) ≥ (x1.length : Int))) ((r52_ x40 x42).f0) ((r52_ x40 x42).f1) ((r52_ x40 x42).f2) ((r52_ x40 x42).f3.f0) ((r52_ x40 x42).f3.f1) ((r52_ x40 x42).f3.f2))) else (none)) else (none)) else (collateral_Check.l0 k x1 x19 x20 (wrap64 (x21 + 1)))
def collateral_Check.j4 : Nat → List (S32) → List (S50) → Int → Int → List (S52) → Int → Int → Bool → Int → Int → Bool → Bool → ByteArray → ByteArray → Option (Int)
 | 0, _, _, _, _, _, _, _, _, _, _, _, _, _, _ => none
 | k + 1, x1, x19, x20, x21, x40, x41, x42, x55, x491000, x491001, x491002, x491003, x491004, x491005 => if x55 = true then (none) else (if x491002 = true then ((q_Sign.f k x491003 x491004 x491005).bind fun t491 => (if t491 < 0 then (none) else (collateral_Check.l1 k x1 x19 x20 x21 x40 x41 (wrap64 (x42 + 1))))) else (collateral_Check.l1 k x1 x19 x20 x21 x40 x41 (wrap64 (x42 + 1))))
end
def collateral_Check.f (k : Nat) (l0 : List (S50)) (l1 : List (S32)) : Option (Int) := if (l0.length : Int) > 8 then (collateral_Check.j0 k l0 l1 true) else (collateral_Check.j0 k l0 l1 (decide ((l1.length : Int) > 24)))
theorem collateral_Check.mono_l : ∀ k, (∀ y0 y1 y2, LeO (collateral_Check.j0 k y0 y1 y2) (collateral_Check.j0 (k + 1) y0 y1 y2)) ∧ (∀ y0 y1 y2 y3, LeO (collateral_Check.l0 k y0 y1 y2 y3) (collateral_Check.l0 (k + 1) y0 y1 y2 y3)) ∧ (∀ y0 y1 y2 y3 y4 y5 y6 y7 y8 y9 y10 y11, LeO (collateral_Check.j2 k y0 y1 y2 y3 y4 y5 y6 y7 y8 y9 y10 y11) (collateral_Check.j2 (k + 1) y0 y1 y2 y3 y4 y5 y6 y7 y8 y9 y10 y11)) ∧ (∀ y0 y1 y2 y3 y4 y5 y6, LeO (collateral_Check.l1 k y0 y1 y2 y3 y4 y5 y6) (collateral_Check.l1 (k + 1) y0 y1 y2 y3 y4 y5 y6)) ∧ (∀ y0 y1 y2 y3 y4 y5 y6 y7 y8 y9 y10 y11 y12 y13, LeO (collateral_Check.j4 k y0 y1 y2 y3 y4 y5 y6 y7 y8 y9 y10 y11 y12 y13) (collateral_Check.j4 (k + 1) y0 y1 y2 y3 y4 y5 y6 y7 y8 y9 y10 y11 y12 y13))
 | 0 => ⟨fun _ _ _ r h => by simp [collateral_Check.j0] at h, fun _ _ _ _ r h => by simp [collateral_Check.l0] at h, fun _ _ _ _ _ _ _ _ _ _ _ _ r h => by simp [collateral_Check.j2] at h, fun _ _ _ _ _ _ _ r h => by simp [collateral_Check.l1] at h, fun _ _ _ _ _ _ _ _ _ _ _ _ _ _ r h => by simp [collateral_Check.j4] at h⟩
 | k + 1 => by
  obtain ⟨ih0, ih1, ih2, ih3, ih4⟩ := collateral_Check.mono_l k
  refine ⟨?_, ?_, ?_, ?_, ?_⟩
  ·intro y0 y1 y2
   unfold collateral_Check.j0
   repeat' first
   | (with_reducible first | exact ih0 _ _ _ | exact ih1 _ _ _ _ | exact ih2 _ _ _ _ _ _ _ _ _ _ _ _ | exact ih3 _ _ _ _ _ _ _ | exact ih4 _ _ _ _ _ _ _ _ _ _ _ _ _ _ | exact q_Sign.mono _ _ _ _ | exact slices_ContainsFuncRat.mono _ _ | exact LeO.refl _ | exact LeO.none _ | refine LeO.ite ?_ ?_ | refine LeO.bind ?_ (fun _ => ?_))
  ·intro y0 y1 y2 y3
   unfold collateral_Check.l0
   repeat' first
   | (with_reducible first | exact ih0 _ _ _ | exact ih1 _ _ _ _ | exact ih2 _ _ _ _ _ _ _ _ _ _ _ _ | exact ih3 _ _ _ _ _ _ _ | exact ih4 _ _ _ _ _ _ _ _ _ _ _ _ _ _ | exact q_Sign.mono _ _ _ _ | exact slices_ContainsFuncRat.mono _ _ | exact LeO.refl _ | exact LeO.none _ | refine LeO.ite ?_ ?_ | refine LeO.bind ?_ (fun _ => ?_))
  ·intro y0 y1 y2 y3 y4 y5 y6 y7 y8 y9 y10 y11
   unfold collateral_Check.j2
   repeat' first
   | (with_reducible first | exact ih0 _ _ _ | exact ih1 _ _ _ _ | exact ih2 _ _ _ _ _ _ _ _ _ _ _ _ | exact ih3 _ _ _ _ _ _ _ | exact ih4 _ _ _ _ _ _ _ _ _ _ _ _ _ _ | exact q_Sign.mono _ _ _ _ | exact slices_ContainsFuncRat.mono _ _ | exact LeO.refl _ | exact LeO.none _ | refine LeO.ite ?_ ?_ | refine LeO.bind ?_ (fun _ => ?_))
  ·intro y0 y1 y2 y3 y4 y5 y6
   unfold collateral_Check.l1
   repeat' first
   | (with_reducible first | exact ih0 _ _ _ | exact ih1 _ _ _ _ | exact ih2 _ _ _ _ _ _ _ _ _ _ _ _ | exact ih3 _ _ _ _ _ _ _ | exact ih4 _ _ _ _ _ _ _ _ _ _ _ _ _ _ | exact q_Sign.mono _ _ _ _ | exact slices_ContainsFuncRat.mono _ _ | exact LeO.refl _ | exact LeO.none _ | refine LeO.ite ?_ ?_ | refine LeO.bind ?_ (fun _ => ?_))
  ·intro y0 y1 y2 y3 y4 y5 y6 y7 y8 y9 y10 y11 y12 y13
   unfold collateral_Check.j4
   repeat' first
   | (with_reducible first | exact ih0 _ _ _ | exact ih1 _ _ _ _ | exact ih2 _ _ _ _ _ _ _ _ _ _ _ _ | exact ih3 _ _ _ _ _ _ _ | exact ih4 _ _ _ _ _ _ _ _ _ _ _ _ _ _ | exact q_Sign.mono _ _ _ _ | exact slices_ContainsFuncRat.mono _ _ | exact LeO.refl _ | exact LeO.none _ | refine LeO.ite ?_ ?_ | refine LeO.bind ?_ (fun _ => ?_))
theorem collateral_Check.mono : ∀ a0 a1 k, LeO (collateral_Check.f k a0 a1) (collateral_Check.f (k + 1) a0 a1) := by
 intro a0 a1 k
 obtain ⟨ih0, ih1, ih2, ih3, ih4⟩ := collateral_Check.mono_l k
 unfold collateral_Check.f
 repeat' first
   | (with_reducible first | exact ih0 _ _ _ | exact ih1 _ _ _ _ | exact ih2 _ _ _ _ _ _ _ _ _ _ _ _ | exact ih3 _ _ _ _ _ _ _ | exact ih4 _ _ _ _ _ _ _ _ _ _ _ _ _ _ | exact q_Sign.mono _ _ _ _ | exact slices_ContainsFuncRat.mono _ _ | exact LeO.refl _ | exact LeO.none _ | refine LeO.ite ?_ ?_ | refine LeO.bind ?_ (fun _ => ?_))
theorem collateral_Check.calls (k : Nat) (A0 : Option Addr) (c0 : Nat) (l0 : List (S50)) (A1 : Option Addr) (c1 : Nat) (l1 : List (S32)) (r : Int) (w : World) (hr0 : Kd.C k50 w A0 l0.length l0) (hc0 : l0.length ≤ c0) (hr1 : Kd.C k32 w A1 l1.length l1) (hc1 : l1.length ≤ c1) (h : collateral_Check.f k l0 l1 = some r) :
  Calls Tryd.prog 19 #[.slice A0 l0.length c0, .slice A1 l1.length c1] w fun e w' => e = .returned (.int .i64 r) ∧ Below w.heap.size w w' := by
 have hu50 := Tryd.underlying50
 have hu32 := Tryd.underlying32
 have hu52 := Tryd.underlying52
 have HR0 := mk_ hr0
 have HC0 := mk_ hc0
 clear hr0 hc0
 have HR1 := mk_ hr1
 have HC1 := mk_ hc1
 clear hr1 hc1
 have HB := mk_ (Below.refl w.heap.size w)
 have H := h
 unfold collateral_Check.f at H
 clear h
 have HC3 := mk_ H
 clear H
 go_enter Tryd.func19, Tryd.ntmps19
 go_upto_region 1 with (fail)
 go_cut [16] (fun v16 wc => ∃ (kq : Nat) (pa : Bool), v16 = .bool pa ∧ A0_ (collateral_Check.j0 kq l0 l1 pa = some r) ∧ A0_ (kq ≤ k) ∧ A0_ (Below w.heap.size w wc))
 case first =>
  have H := HC3.out
  clear HC3
  replace H := iS_ H
  rcases H with ⟨c4, H⟩ | ⟨c4, H⟩
  ·have ia := decide_eq_true c4
   have qa : decide (8 < l0.length) = true := decide_eq_true (by omega)
   clear c4
   (first | rw [ia] | rw [qa] | (simp only [i6_, i3_]; rw [ia]) | skip)
   have H' := mk_ H
   clear H
   go_wp2
   go_meet
   case rel => exact ⟨_, (true), (rS_), H', ⟨by first | omega | exact Nat.le_refl _⟩, ⟨xB_ HB⟩⟩
  ·have ia := decide_eq_false c4
   have qa : decide (8 < l0.length) = false := decide_eq_false (by omega)
   clear c4
   (first | rw [ia] | rw [qa] | (simp only [i6_, i3_]; rw [ia]) | skip)
   have H' := mk_ H
   clear H
   go_wp2
   go_meet
   case rel => exact ⟨_, (decide ((l1.length : Int) > 24)), (rS_), H', ⟨by first | omega | exact Nat.le_refl _⟩, ⟨xB_ HB⟩⟩
 case rest =>
  clear HC3
  obtain ⟨kq, pa, rfl, HA, HJ2, HB⟩ := hcut
  cases kq with
  | zero => exact absurd HA.out (by simp [collateral_Check.j0])
  | succ kj2 =>
   have H := HA.out
   clear HA
   simp only [collateral_Check.j0] at H
   replace H := iS_ H
   rcases H with ⟨c5, H⟩ | ⟨c5, H⟩
   ·subst c5
    exact absurd H (by simp)
   ·replace c5 := Bool.eq_false_iff.mpr c5
    subst c5
    replace H := oB_ H
    obtain ⟨Za, A6, H⟩ := H
    (try dsimp only at H)
    replace H := iS_ H
    rcases H with ⟨c7, H⟩ | ⟨c7, H⟩
    ·subst c7
     exact absurd H (by simp)
    ·replace c7 := Bool.eq_false_iff.mpr c7
     subst c7
     have H' := mk_ H
     clear H
     go_wp2_with (first | ((with_reducible refine gC_ (f := 36) rfl ?_); refine gL_ (some 18) rfl rfl Tryd.func36 kr_ rfl #[.slice A1 l1.length c1, .func (.func 37) #[] #[]] rfl mp_ ?_; (with_reducible refine (slices_ContainsFuncRat.calls kj2 _ _ l1 false _ (xC_ (Kd.C_below HR1.out HB.out)) HC1.out A6.out).mono ?_); rintro e w9 ⟨rfl, hb⟩; refine ⟨_, rfl, ?_⟩; replace HB := mk_ (bT_ (xB_ HB) hb)))
     go_loopg [21] kj2 (fun kq v21 w' => ∃ (aa : Int), v21 = .int .i64 aa ∧ A0_ (collateral_Check.l0 kq l1 l0 (l0.length : Int) aa = some r) ∧ A0_ (kq ≤ kj2) ∧ A0_ (Below w.heap.size w w'))
     case atStart => exact ⟨(0), (rS_), H', ⟨Nat.le_refl _⟩, ⟨xB_ HB⟩⟩
     case round =>
      clear H'
      obtain ⟨aa, rfl, HA, HK2, HB⟩ := hrel
      cases gk with
      | zero => exact absurd HA.out (by simp [collateral_Check.l0])
      | succ k2 =>
       have H := HA.out
       clear HA
       simp only [collateral_Check.l0] at H
       replace H := iS_ H
       rcases H with ⟨c10, H⟩ | ⟨c10, H⟩
       ·have Na := decide_eq_true c10
        clear c10
        replace H := iD_ H
        obtain ⟨ab, H⟩ := H
        replace H := iD_ H
        obtain ⟨bb, H⟩ := H
        replace H := iS_ H
        rcases H with ⟨c13, H⟩ | ⟨c13, H⟩
        ·have Oa := decide_eq_true c13
         have Pa : decide (8 < ((r50_ l0 aa).f2).length) = true := decide_eq_true (by omega)
         clear c13
         exact absurd H (by simp)
        ·have Oa := decide_eq_false c13
         have Pa : decide (8 < ((r50_ l0 aa).f2).length) = false := decide_eq_false (by omega)
         clear c13
         have HC16 := mk_ H
         clear H
         have ra : 0 ≤ (aa : Int) := oD_
         have sa : aa < (l0.length : Int) := oD_
         obtain ⟨cb, oa, ja, Qa, ta, ua, va, wa, xa, ya, za, Ka, hi485_6⟩ := at_T50 HR0.out aa ra sa
         cases Qa
         (try replace ta := cT_ HB ta)
         (try replace ua := cT_ HB ua)
         (try replace va := cT_ HB va)
         (try replace wa := cT_ HB wa)
         (try replace xa := cT_ HB xa)
         (try replace ya := cT_ HB ya)
         (try replace za := cT_ HB za)
         have HR485_6 := mk_ hi485_6
         have HC485_6 := mk_ Ka
         clear hi485_6 Ka
         replace ra := eq_true ra
         replace sa := eq_true sa
         go_upto_region 10 with (first | ((with_reducible refine gD_ (N := 6) rfl ?_); (try (refine gate_guard (by rfl) ?_; dsimp only)); refine bE_ ?hg (N := 6) ?hd (cs := #[.bool false, .string (⟨#[]⟩ : ByteArray), .string (⟨#[]⟩ : ByteArray), .bool false, .string (⟨#[]⟩ : ByteArray), .string (⟨#[]⟩ : ByteArray), .slice none 0 0]) (t := 50) ?hr ?_; (case hd => rfl); (case hg => rfl); (case hr => first | (go_simp; done) | (go_simp; rfl)); intro ga hg w17 hbox hb; have n0_ := mk_ (bT_ (xB_ HB) hb); have n1_ := mk_ (hbox); have n2_ := mk_ (gZ_ hg (bZ_ (xB_ HB))); have n3_ := mk_ (gZ_ hg (bZ_ (xB_ HB))); clear HB; have HB := n0_; have ca := n1_; have db := n2_; have fa := n3_; clear n0_ n1_ n2_ n3_; clear hb hbox hg; have eb : w17.cell? ⟨ga, 0, none⟩ = some (.bool false) := (kc_ ca.out 0).trans rfl; have fb : w17.cell? ⟨ga, 1, none⟩ = some (.string (⟨#[]⟩ : ByteArray)) := (kc_ ca.out 1).trans rfl; have gb : w17.cell? ⟨ga, 2, none⟩ = some (.string (⟨#[]⟩ : ByteArray)) := (kc_ ca.out 2).trans rfl; have ib : w17.cell? ⟨ga, 3, none⟩ = some (.bool false) := (kc_ ca.out 3).trans rfl; have jb : w17.cell? ⟨ga, 4, none⟩ = some (.string (⟨#[]⟩ : ByteArray)) := (kc_ ca.out 4).trans rfl; have kb : w17.cell? ⟨ga, 5, none⟩ = some (.string (⟨#[]⟩ : ByteArray)) := (kc_ ca.out 5).trans rfl; have mb : w17.cell? ⟨ga, 6, none⟩ = some (.slice none 0 0) := (kc_ ca.out 6).trans rfl; have nb := kF_ ca.out 0; have ob := kF_ ca.out 1; have pb := kF_ ca.out 2; have qb := kF_ ca.out 3; have rb := kF_ ca.out 4; have sb := kF_ ca.out 5; have tb := kF_ ca.out 6))
         (try simp only [Act.put, s1_, s2_, s3_])
         go_cut [38] (fun v38 wc => ∃ (kq : Nat) (Aa : Bool), v38 = .bool Aa ∧ A0_ (collateral_Check.j2 kq l1 l0 (l0.length : Int) aa Aa ((r50_ l0 aa).f0.f0) ((r50_ l0 aa).f0.f1) ((r50_ l0 aa).f0.f2) ((r50_ l0 aa).f1.f0) ((r50_ l0 aa).f1.f1) ((r50_ l0 aa).f1.f2) ((r50_ l0 aa).f2) = some r) ∧ A0_ (kq ≤ k2) ∧ A0_ (wc.heap[ga]? = some (.cells #[.bool ((r50_ l0 aa).f0.f0), .string ((r50_ l0 aa).f0.f1), .string ((r50_ l0 aa).f0.f2), .bool ((r50_ l0 aa).f1.f0), .string ((r50_ l0 aa).f1.f1), .string ((r50_ l0 aa).f1.f2), (.slice oa ((r50_ l0 aa).f2).length ja)] 50 (0, 0))) ∧ A0_ (Below w.heap.size w wc))
         case first =>
          have H := HC16.out
          clear HC16
          replace H := oB_ H
          obtain ⟨La, A19, H⟩ := H
          (try dsimp only at H)
          replace H := iS_ H
          rcases H with ⟨c20, H⟩ | ⟨c20, H⟩
          ·have ka := decide_eq_true c20
           clear c20
           (first | rw [ka] | rw [Ra] | (simp only [i6_, i3_]; rw [ka]) | skip)
           have H' := mk_ H
           clear H
           obtain ⟨ub, vb, wb, xb, yb, zb, Ab, Bb, Cb, Db, Eb, Fb, Gb, Hb⟩ := kG7_ ca.out
           go_wp2_with (first | ((with_reducible refine gC_ (f := 38) rfl ?_); refine gL_ (some 31) rfl rfl Tryd.func38 kr_ rfl #[.agg #[.bool ((r50_ l0 aa).f0.f0), .string ((r50_ l0 aa).f0.f1), .string ((r50_ l0 aa).f0.f2)]] rfl mp_ ?_; (with_reducible refine (q_Sign.calls k2 ((r50_ l0 aa).f0.f0) ((r50_ l0 aa).f0.f1) ((r50_ l0 aa).f0.f2) La _ A19.out).mono ?_); rintro e w22 ⟨rfl, hb⟩; refine ⟨_, rfl, ?_⟩; replace ca := mk_ (kB_ (g := ga) (o := .cells #[.bool ((r50_ l0 aa).f0.f0), .string ((r50_ l0 aa).f0.f1), .string ((r50_ l0 aa).f0.f2), .bool ((r50_ l0 aa).f1.f0), .string ((r50_ l0 aa).f1.f1), .string ((r50_ l0 aa).f1.f2), .slice oa ((r50_ l0 aa).f2).length ja] 50 (0, 0)) (by refine xk_ ?_; refine kQ_ (cs := #[.bool ((r50_ l0 aa).f0.f0), .string ((r50_ l0 aa).f0.f1), .string ((r50_ l0 aa).f0.f2), .bool ((r50_ l0 aa).f1.f0), .string ((r50_ l0 aa).f1.f1), .string ((r50_ l0 aa).f1.f2), .slice none 0 0]) ?_ 6 _ rfl; refine kQ_ (cs := #[.bool ((r50_ l0 aa).f0.f0), .string ((r50_ l0 aa).f0.f1), .string ((r50_ l0 aa).f0.f2), .bool ((r50_ l0 aa).f1.f0), .string ((r50_ l0 aa).f1.f1), .string (⟨#[]⟩ : ByteArray), .slice none 0 0]) ?_ 5 _ rfl; refine kQ_ (cs := #[.bool ((r50_ l0 aa).f0.f0), .string ((r50_ l0 aa).f0.f1), .string ((r50_ l0 aa).f0.f2), .bool ((r50_ l0 aa).f1.f0), .string (⟨#[]⟩ : ByteArray), .string (⟨#[]⟩ : ByteArray), .slice none 0 0]) ?_ 4 _ rfl; refine kQ_ (cs := #[.bool ((r50_ l0 aa).f0.f0), .string ((r50_ l0 aa).f0.f1), .string ((r50_ l0 aa).f0.f2), .bool false, .string (⟨#[]⟩ : ByteArray), .string (⟨#[]⟩ : ByteArray), .slice none 0 0]) ?_ 3 _ rfl; refine kQ_ (cs := #[.bool ((r50_ l0 aa).f0.f0), .string ((r50_ l0 aa).f0.f1), .string (⟨#[]⟩ : ByteArray), .bool false, .string (⟨#[]⟩ : ByteArray), .string (⟨#[]⟩ : ByteArray), .slice none 0 0]) ?_ 2 _ rfl; refine kQ_ (cs := #[.bool ((r50_ l0 aa).f0.f0), .string (⟨#[]⟩ : ByteArray), .string (⟨#[]⟩ : ByteArray), .bool false, .string (⟨#[]⟩ : ByteArray), .string (⟨#[]⟩ : ByteArray), .slice none 0 0]) ?_ 1 _ rfl; refine kQ_ (cs := #[.bool false, .string (⟨#[]⟩ : ByteArray), .string (⟨#[]⟩ : ByteArray), .bool false, .string (⟨#[]⟩ : ByteArray), .string (⟨#[]⟩ : ByteArray), .slice none 0 0]) ?_ 0 _ rfl; exact ca.out) hb); replace HB := mk_ (bT_ (xB1_ HB fa) hb)))
           go_meet
           case rel => exact ⟨_, (true), (rS_), H', ⟨by have := HJ2.out; have := HK2.out; first | omega | exact Nat.le_refl _⟩, ⟨by refine xk_ ?_; exact ca.out⟩, ⟨xB1_ HB fa⟩⟩
          ·have ka := decide_eq_false c20
           clear c20
           (first | rw [ka] | rw [Ra] | (simp only [i6_, i3_]; rw [ka]) | skip)
           replace H := oB_ H
           obtain ⟨Ma, A23, H⟩ := H
           (try dsimp only at H)
           have H' := mk_ H
           clear H
           obtain ⟨Ib, Jb, Kb, Lb, Mb, Nb, Ob, Pb, Qb, Rb, Sb, Tb, Ub, Vb⟩ := kG7_ ca.out
           go_wp2_with (first | ((with_reducible refine gC_ (f := 38) rfl ?_); refine gL_ (some 31) rfl rfl Tryd.func38 kr_ rfl #[.agg #[.bool ((r50_ l0 aa).f0.f0), .string ((r50_ l0 aa).f0.f1), .string ((r50_ l0 aa).f0.f2)]] rfl mp_ ?_; (with_reducible refine (q_Sign.calls k2 ((r50_ l0 aa).f0.f0) ((r50_ l0 aa).f0.f1) ((r50_ l0 aa).f0.f2) La _ A19.out).mono ?_); rintro e w25 ⟨rfl, hb⟩; refine ⟨_, rfl, ?_⟩; replace ca := mk_ (kB_ (g := ga) (o := .cells #[.bool ((r50_ l0 aa).f0.f0), .string ((r50_ l0 aa).f0.f1), .string ((r50_ l0 aa).f0.f2), .bool ((r50_ l0 aa).f1.f0), .string ((r50_ l0 aa).f1.f1), .string ((r50_ l0 aa).f1.f2), .slice oa ((r50_ l0 aa).f2).length ja] 50 (0, 0)) (by refine xk_ ?_; refine kQ_ (cs := #[.bool ((r50_ l0 aa).f0.f0), .string ((r50_ l0 aa).f0.f1), .string ((r50_ l0 aa).f0.f2), .bool ((r50_ l0 aa).f1.f0), .string ((r50_ l0 aa).f1.f1), .string ((r50_ l0 aa).f1.f2), .slice none 0 0]) ?_ 6 _ rfl; refine kQ_ (cs := #[.bool ((r50_ l0 aa).f0.f0), .string ((r50_ l0 aa).f0.f1), .string ((r50_ l0 aa).f0.f2), .bool ((r50_ l0 aa).f1.f0), .string ((r50_ l0 aa).f1.f1), .string (⟨#[]⟩ : ByteArray), .slice none 0 0]) ?_ 5 _ rfl; refine kQ_ (cs := #[.bool ((r50_ l0 aa).f0.f0), .string ((r50_ l0 aa).f0.f1), .string ((r50_ l0 aa).f0.f2), .bool ((r50_ l0 aa).f1.f0), .string (⟨#[]⟩ : ByteArray), .string (⟨#[]⟩ : ByteArray), .slice none 0 0]) ?_ 4 _ rfl; refine kQ_ (cs := #[.bool ((r50_ l0 aa).f0.f0), .string ((r50_ l0 aa).f0.f1), .string ((r50_ l0 aa).f0.f2), .bool false, .string (⟨#[]⟩ : ByteArray), .string (⟨#[]⟩ : ByteArray), .slice none 0 0]) ?_ 3 _ rfl; refine kQ_ (cs := #[.bool ((r50_ l0 aa).f0.f0), .string ((r50_ l0 aa).f0.f1), .string (⟨#[]⟩ : ByteArray), .bool false, .string (⟨#[]⟩ : ByteArray), .string (⟨#[]⟩ : ByteArray), .slice none 0 0]) ?_ 2 _ rfl; refine kQ_ (cs := #[.bool ((r50_ l0 aa).f0.f0), .string (⟨#[]⟩ : ByteArray), .string (⟨#[]⟩ : ByteArray), .bool false, .string (⟨#[]⟩ : ByteArray), .string (⟨#[]⟩ : ByteArray), .slice none 0 0]) ?_ 1 _ rfl; refine kQ_ (cs := #[.bool false, .string (⟨#[]⟩ : ByteArray), .string (⟨#[]⟩ : ByteArray), .bool false, .string (⟨#[]⟩ : ByteArray), .string (⟨#[]⟩ : ByteArray), .slice none 0 0]) ?_ 0 _ rfl; exact ca.out) hb); replace HB := mk_ (bT_ (xB1_ HB fa) hb); obtain ⟨Wb, Xb, Yb, Zb, ac, bc, cc, dc, ec, fc, gc, hc, ic, jc⟩ := kG7_ ca.out) | (go_at_call 38; (with_reducible refine (q_Sign.calls k2 ((r50_ l0 aa).f1.f0) ((r50_ l0 aa).f1.f1) ((r50_ l0 aa).f1.f2) Ma _ A23.out).mono ?_); rintro e w27 ⟨rfl, hb⟩; replace ca := mk_ (kB_ (xK_ ca.out) hb); replace HB := mk_ (bT_ (xB1_ HB fa) hb)))
           go_meet
           case rel => exact ⟨_, (decide (Ma < 0)), (rS_), H', ⟨by have := HJ2.out; have := HK2.out; first | omega | exact Nat.le_refl _⟩, ⟨by refine xk_ ?_; exact ca.out⟩, ⟨xB1_ HB fa⟩⟩
         case rest =>
          clear HC16
          obtain ⟨kq, Aa, rfl, HA, HJ15, ca, HB⟩ := hcut
          cases kq with
          | zero => exact absurd HA.out (by simp [collateral_Check.j2])
          | succ kj15 =>
           have H := HA.out
           clear HA
           simp only [collateral_Check.j2] at H
           replace H := iS_ H
           rcases H with ⟨c28, H⟩ | ⟨c28, H⟩
           ·subst c28
            exact absurd H (by simp)
           ·replace c28 := Bool.eq_false_iff.mpr c28
            subst c28
            have H' := mk_ H
            clear H
            obtain ⟨kc, lc, mc, nc, oc, pc, qc, rc, sc, tc, uc, vc, xc, yc⟩ := kG7_ ca.out
            go_wp2
            go_loopg [42] kj15 (fun kq v42 w' => ∃ (ba : Int), v42 = .int .i64 ba ∧ A0_ (collateral_Check.l1 kq l1 l0 (l0.length : Int) aa ((r50_ l0 aa).f2) (((r50_ l0 aa).f2).length : Int) ba = some r) ∧ A0_ (kq ≤ kj15) ∧ A0_ (w'.heap[ga]? = some (.cells #[.bool ((r50_ l0 aa).f0.f0), .string ((r50_ l0 aa).f0.f1), .string ((r50_ l0 aa).f0.f2), .bool ((r50_ l0 aa).f1.f0), .string ((r50_ l0 aa).f1.f1), .string ((r50_ l0 aa).f1.f2), (.slice oa ((r50_ l0 aa).f2).length ja)] 50 (0, 0))) ∧ A0_ (Below w.heap.size w w'))
            case atStart => exact ⟨(0), (rS_), H', ⟨Nat.le_refl _⟩, ⟨by refine xk_ ?_; exact ca.out⟩, ⟨xB1_ HB fa⟩⟩
            case round =>
             clear H'
             obtain ⟨ba, rfl, HA, HK4, ca, HB⟩ := hrel
             cases gk with
             | zero => exact absurd HA.out (by simp [collateral_Check.l1])
             | succ k4 =>
              have H := HA.out
              clear HA
              simp only [collateral_Check.l1] at H
              replace H := iS_ H
              rcases H with ⟨c30, H⟩ | ⟨c30, H⟩
              ·have Sa := decide_eq_true c30
               clear c30
               replace H := iD_ H
               obtain ⟨zc, H⟩ := H
               replace H := iD_ H
               obtain ⟨Ac, H⟩ := H
               have HC33 := mk_ H
               clear H
               have Ba : 0 ≤ (ba : Int) := oD_
               have Ca : ba < (((r50_ l0 aa).f2).length : Int) := oD_
               obtain ⟨Ta, Ua, Da, Ea, Fa, Ga, Ha, Ia⟩ := at_T52 HR485_6.out ba Ba Ca
               cases Ua
               (try replace Da := cT_ HB Da)
               (try replace Ea := cT_ HB Ea)
               (try replace Fa := cT_ HB Fa)
               (try replace Ga := cT_ HB Ga)
               (try replace Ha := cT_ HB Ha)
               (try replace Ia := cT_ HB Ia)
               replace Ba := eq_true Ba
               replace Ca := eq_true Ca
               go_upto_region 15 with (first | ((with_reducible refine gD_ (N := 8) rfl ?_); (try (refine gate_guard (by rfl) ?_; dsimp only)); refine bE_ ?hg (N := 8) ?hd (cs := #[.int .i64 0, .int .i64 0, .bool false, .bool false, .string (⟨#[]⟩ : ByteArray), .string (⟨#[]⟩ : ByteArray)]) (t := 52) ?hr ?_; (case hd => rfl); (case hg => rfl); (case hr => first | (go_simp; done) | (go_simp; rfl)); intro ha hg w34 hbox hb; have n0_ := mk_ (kB_ (xK_ ca.out) hb); have n1_ := mk_ (bT_ (xB1_ HB fa) hb); have n2_ := mk_ (hbox); have n3_ := mk_ (gZ_ hg (bZ_ (xB1_ HB fa))); have n4_ := mk_ (gZ_ hg (bZ_ (xB1_ HB fa))); have n5_ := mk_ (gN_ hg (xK_ ca.out)); have n6_ := mk_ (gM_ hg (xK_ ca.out)); clear ca HB; have ca := n0_; have HB := n1_; have da := n2_; have Bc := n3_; have la := n4_; have ea := n5_; have ma := n6_; clear n0_ n1_ n2_ n3_ n4_ n5_ n6_; clear hb hbox hg; have hnb35 := ma.out; have hnc35 := ea.out; have Cc : w34.cell? ⟨ha, 0, none⟩ = some (.int .i64 0) := (kc_ da.out 0).trans rfl; have Dc : w34.cell? ⟨ha, 1, none⟩ = some (.int .i64 0) := (kc_ da.out 1).trans rfl; have Ec : w34.cell? ⟨ha, 2, none⟩ = some (.bool false) := (kc_ da.out 2).trans rfl; have Fc : w34.cell? ⟨ha, 3, none⟩ = some (.bool false) := (kc_ da.out 3).trans rfl; have Gc : w34.cell? ⟨ha, 4, none⟩ = some (.string (⟨#[]⟩ : ByteArray)) := (kc_ da.out 4).trans rfl; have Hc : w34.cell? ⟨ha, 5, none⟩ = some (.string (⟨#[]⟩ : ByteArray)) := (kc_ da.out 5).trans rfl; have Ic := kF_ da.out 0; have Jc := kF_ da.out 1; have Kc := kF_ da.out 2; have Lc := kF_ da.out 3; have Mc := kF_ da.out 4; have Nc := kF_ da.out 5))
               (try simp only [Act.put, s1_, s2_, s3_])
               go_cut [55] (fun v55 wc => ∃ (kq : Nat) (Ja : Bool), v55 = .bool Ja ∧ A0_ (collateral_Check.j4 kq l1 l0 (l0.length : Int) aa ((r50_ l0 aa).f2) (((r50_ l0 aa).f2).length : Int) ba Ja ((r52_ ((r50_ l0 aa).f2) ba).f0) ((r52_ ((r50_ l0 aa).f2) ba).f1) ((r52_ ((r50_ l0 aa).f2) ba).f2) ((r52_ ((r50_ l0 aa).f2) ba).f3.f0) ((r52_ ((r50_ l0 aa).f2) ba).f3.f1) ((r52_ ((r50_ l0 aa).f2) ba).f3.f2) = some r) ∧ A0_ (kq ≤ k4) ∧ A0_ (wc.heap[ga]? = some (.cells #[.bool ((r50_ l0 aa).f0.f0), .string ((r50_ l0 aa).f0.f1), .string ((r50_ l0 aa).f0.f2), .bool ((r50_ l0 aa).f1.f0), .string ((r50_ l0 aa).f1.f1), .string ((r50_ l0 aa).f1.f2), (.slice (some Ta) ((r50_ l0 aa).f2).length ja)] 50 (0, 0))) ∧ A0_ (wc.heap[ha]? = some (.cells #[.int .i64 ((r52_ ((r50_ l0 aa).f2) ba).f0), .int .i64 ((r52_ ((r50_ l0 aa).f2) ba).f1), .bool ((r52_ ((r50_ l0 aa).f2) ba).f2), .bool ((r52_ ((r50_ l0 aa).f2) ba).f3.f0), .string ((r52_ ((r50_ l0 aa).f2) ba).f3.f1), .string ((r52_ ((r50_ l0 aa).f2) ba).f3.f2)] 52 (0, 0))) ∧ A0_ (Below w.heap.size w wc))
               case first =>
                have H := HC33.out
                clear HC33
                replace H := iS_ H
                rcases H with ⟨c37, H⟩ | ⟨c37, H⟩
                ·have na := decide_eq_true c37
                 clear c37
                 (first | rw [na] | rw [Va] | (simp only [i6_, i3_]; rw [na]) | skip)
                 have H' := mk_ H
                 clear H
                 have hnb38 := ma.out
                 have hnc38 := ea.out
                 obtain ⟨Oc, Pc, Qc, Rc, Sc, Tc, Uc, Vc, Wc, Xc, Yc, Zc⟩ := kG6_ da.out
                 go_wp2
                 go_meet
                 case rel => exact ⟨_, (true), (rS_), H', ⟨by have := HJ2.out; have := HK2.out; have := HJ15.out; have := HK4.out; first | omega | exact Nat.le_refl _⟩, ⟨by refine xk_ ?_; refine bf_ ?_ ea.out _; refine xk_ ?_; refine bf_ ?_ ea.out _; refine xk_ ?_; refine bf_ ?_ ea.out _; refine xk_ ?_; refine bf_ ?_ ea.out _; refine xk_ ?_; refine bf_ ?_ ea.out _; refine xk_ ?_; refine bf_ ?_ ea.out _; refine xk_ ?_; exact ca.out⟩, ⟨by refine xk_ ?_; refine kP_ (cs := #[.int .i64 ((r52_ ((r50_ l0 aa).f2) ba).f0), .int .i64 ((r52_ ((r50_ l0 aa).f2) ba).f1), .bool ((r52_ ((r50_ l0 aa).f2) ba).f2), .bool ((r52_ ((r50_ l0 aa).f2) ba).f3.f0), .string ((r52_ ((r50_ l0 aa).f2) ba).f3.f1), .string (⟨#[]⟩ : ByteArray)]) ?_ 5 _ rfl; refine xk_ ?_; refine kP_ (cs := #[.int .i64 ((r52_ ((r50_ l0 aa).f2) ba).f0), .int .i64 ((r52_ ((r50_ l0 aa).f2) ba).f1), .bool ((r52_ ((r50_ l0 aa).f2) ba).f2), .bool ((r52_ ((r50_ l0 aa).f2) ba).f3.f0), .string (⟨#[]⟩ : ByteArray), .string (⟨#[]⟩ : ByteArray)]) ?_ 4 _ rfl; refine xk_ ?_; refine kP_ (cs := #[.int .i64 ((r52_ ((r50_ l0 aa).f2) ba).f0), .int .i64 ((r52_ ((r50_ l0 aa).f2) ba).f1), .bool ((r52_ ((r50_ l0 aa).f2) ba).f2), .bool false, .string (⟨#[]⟩ : ByteArray), .string (⟨#[]⟩ : ByteArray)]) ?_ 3 _ rfl; refine xk_ ?_; refine kP_ (cs := #[.int .i64 ((r52_ ((r50_ l0 aa).f2) ba).f0), .int .i64 ((r52_ ((r50_ l0 aa).f2) ba).f1), .bool false, .bool false, .string (⟨#[]⟩ : ByteArray), .string (⟨#[]⟩ : ByteArray)]) ?_ 2 _ rfl; refine xk_ ?_; refine kP_ (cs := #[.int .i64 ((r52_ ((r50_ l0 aa).f2) ba).f0), .int .i64 0, .bool false, .bool false, .string (⟨#[]⟩ : ByteArray), .string (⟨#[]⟩ : ByteArray)]) ?_ 1 _ rfl; refine xk_ ?_; refine kQ_ (cs := #[.int .i64 0, .int .i64 0, .bool false, .bool false, .string (⟨#[]⟩ : ByteArray), .string (⟨#[]⟩ : ByteArray)]) ?_ 0 _ rfl; exact da.out⟩, ⟨xB2_ HB fa la⟩⟩
                ·have na := decide_eq_false c37
                 clear c37
                 (first | rw [na] | rw [Va] | (simp only [i6_, i3_]; rw [na]) | skip)
                 have H' := mk_ H
                 clear H
                 have hnb40 := ma.out
                 have hnc40 := ea.out
                 obtain ⟨ad, bd, cd, dd, ed, fd, id, jd, kd, ld, md, nd⟩ := kG6_ da.out
                 go_wp2
                 go_meet
                 case rel => exact ⟨_, (decide (((r52_ ((r50_ l0 aa).f2) ba).f0) ≥ (l1.length : Int))), (rS_), H', ⟨by have := HJ2.out; have := HK2.out; have := HJ15.out; have := HK4.out; first | omega | exact Nat.le_refl _⟩, ⟨by refine xk_ ?_; refine bf_ ?_ ea.out _; refine xk_ ?_; refine bf_ ?_ ea.out _; refine xk_ ?_; refine bf_ ?_ ea.out _; refine xk_ ?_; refine bf_ ?_ ea.out _; refine xk_ ?_; refine bf_ ?_ ea.out _; refine xk_ ?_; refine bf_ ?_ ea.out _; refine xk_ ?_; exact ca.out⟩, ⟨by refine xk_ ?_; refine kP_ (cs := #[.int .i64 ((r52_ ((r50_ l0 aa).f2) ba).f0), .int .i64 ((r52_ ((r50_ l0 aa).f2) ba).f1), .bool ((r52_ ((r50_ l0 aa).f2) ba).f2), .bool ((r52_ ((r50_ l0 aa).f2) ba).f3.f0), .string ((r52_ ((r50_ l0 aa).f2) ba).f3.f1), .string (⟨#[]⟩ : ByteArray)]) ?_ 5 _ rfl; refine xk_ ?_; refine kP_ (cs := #[.int .i64 ((r52_ ((r50_ l0 aa).f2) ba).f0), .int .i64 ((r52_ ((r50_ l0 aa).f2) ba).f1), .bool ((r52_ ((r50_ l0 aa).f2) ba).f2), .bool ((r52_ ((r50_ l0 aa).f2) ba).f3.f0), .string (⟨#[]⟩ : ByteArray), .string (⟨#[]⟩ : ByteArray)]) ?_ 4 _ rfl; refine xk_ ?_; refine kP_ (cs := #[.int .i64 ((r52_ ((r50_ l0 aa).f2) ba).f0), .int .i64 ((r52_ ((r50_ l0 aa).f2) ba).f1), .bool ((r52_ ((r50_ l0 aa).f2) ba).f2), .bool false, .string (⟨#[]⟩ : ByteArray), .string (⟨#[]⟩ : ByteArray)]) ?_ 3 _ rfl; refine xk_ ?_; refine kP_ (cs := #[.int .i64 ((r52_ ((r50_ l0 aa).f2) ba).f0), .int .i64 ((r52_ ((r50_ l0 aa).f2) ba).f1), .bool false, .bool false, .string (⟨#[]⟩ : ByteArray), .string (⟨#[]⟩ : ByteArray)]) ?_ 2 _ rfl; refine xk_ ?_; refine kP_ (cs := #[.int .i64 ((r52_ ((r50_ l0 aa).f2) ba).f0), .int .i64 0, .bool false, .bool false, .string (⟨#[]⟩ : ByteArray), .string (⟨#[]⟩ : ByteArray)]) ?_ 1 _ rfl; refine xk_ ?_; refine kQ_ (cs := #[.int .i64 0, .int .i64 0, .bool false, .bool false, .string (⟨#[]⟩ : ByteArray), .string (⟨#[]⟩ : ByteArray)]) ?_ 0 _ rfl; exact da.out⟩, ⟨xB2_ HB fa la⟩⟩
               case rest =>
                clear HC33
                obtain ⟨kq, Ja, rfl, HA, HJ32, ca, da, HB⟩ := hcut
                cases kq with
                | zero => exact absurd HA.out (by simp [collateral_Check.j4])
                | succ kj32 =>
                 have H := HA.out
                 clear HA
                 simp only [collateral_Check.j4] at H
                 replace H := iS_ H
                 rcases H with ⟨c42, H⟩ | ⟨c42, H⟩
                 ·subst c42
                  exact absurd H (by simp)
                 ·replace c42 := Bool.eq_false_iff.mpr c42
                  subst c42
                  replace H := iS_ H
                  rcases H with ⟨c43, H⟩ | ⟨c43, H⟩
                  ·have Wa : ((r52_ ((r50_ l0 aa).f2) ba).f2) = true := c43
                   clear c43
                   replace H := oB_ H
                   obtain ⟨Xa, A44, H⟩ := H
                   (try dsimp only at H)
                   replace H := iS_ H
                   rcases H with ⟨c45, H⟩ | ⟨c45, H⟩
                   ·have Ya := decide_eq_true c45
                    clear c45
                    exact absurd H (by simp)
                   ·have Ya := decide_eq_false c45
                    clear c45
                    have H' := mk_ H
                    clear H
                    have hnb49 := ma.out
                    have hnc49 := ea.out
                    obtain ⟨od, pd, qd, sd, td, ud, vd, wd, xd, yd, zd, Ad⟩ := kG6_ da.out
                    go_wp2_with (first | (go_at_call 38; (with_reducible refine (q_Sign.calls kj32 ((r52_ ((r50_ l0 aa).f2) ba).f3.f0) ((r52_ ((r50_ l0 aa).f2) ba).f3.f1) ((r52_ ((r50_ l0 aa).f2) ba).f3.f2) Xa _ A44.out).mono ?_); rintro e w51 ⟨rfl, hb⟩; replace ca := mk_ (kB_ (xK_ ca.out) hb); replace da := mk_ (kB_ (xK_ da.out) hb); replace HB := mk_ (bT_ (xB2_ HB fa la) hb)))
                    (try simp only [ap_])
                    go_roundg kj32
                    case measure => have := HJ2.out; have := HK2.out; have := HJ15.out; have := HK4.out; have := HJ32.out; omega
                    case rel => exact ⟨(wrap64 (ba + 1)), (rS_), H', ⟨by have := HJ2.out; have := HK2.out; have := HJ15.out; have := HK4.out; have := HJ32.out; omega⟩, ⟨by refine xk_ ?_; exact ca.out⟩, ⟨xB2_ HB fa la⟩⟩
                  ·have Wa : ((r52_ ((r50_ l0 aa).f2) ba).f2) = false := by simpa using c43
                   clear c43
                   have H' := mk_ H
                   clear H
                   have hnb52 := ma.out
                   have hnc52 := ea.out
                   obtain ⟨Bd, Cd, Dd, Ed, Fd, Gd, Hd, Jd, Ld, Md, Nd, Od⟩ := kG6_ da.out
                   go_wp2
                   (try simp only [ap_])
                   go_roundg kj32
                   case measure => have := HJ2.out; have := HK2.out; have := HJ15.out; have := HK4.out; have := HJ32.out; omega
                   case rel => exact ⟨(wrap64 (ba + 1)), (rS_), H', ⟨by have := HJ2.out; have := HK2.out; have := HJ15.out; have := HK4.out; have := HJ32.out; omega⟩, ⟨by refine xk_ ?_; exact ca.out⟩, ⟨xB2_ HB fa la⟩⟩
              ·have Sa := decide_eq_false c30
               clear c30
               have H' := mk_ H
               clear H
               go_wp2
               (try simp only [ap_])
               go_roundg k4
               case measure => have := HJ2.out; have := HK2.out; have := HJ15.out; have := HK4.out; omega
               case rel => exact ⟨(wrap64 (aa + 1)), (rS_), H', ⟨by have := HJ2.out; have := HK2.out; have := HJ15.out; have := HK4.out; omega⟩, ⟨xB1_ HB fa⟩⟩
       ·have Na := decide_eq_false c10
        clear c10
        obtain rfl := Option.some.inj H
        go_wp2
        go_ret
        exact ⟨rE_, xB_ HB⟩
def ba_CompareString.f (a0 : ByteArray) (a1 : ByteArray) : Option (Int) := some (Lib.compareBytes a0.data.toList a1.data.toList)
theorem ba_CompareString.calls (a0 : ByteArray) (a1 : ByteArray) (r : Int) (w : World) (h : ba_CompareString.f a0 a1 = some r) :
  Calls Tryd.prog 62 #[.string a0, .string a1] w fun e w' => e = .returned (.int .i64 r) ∧ D0_ w w' := by
 obtain rfl : Lib.compareBytes a0.data.toList a1.data.toList = r := by injection h
 clear h
 go_enter Tryd.func62, Tryd.ntmps62
 go_wp2
 rw [run_callFunc_extern Tryd.func76 kr_ kr_ kr_ (e := Extern.BytealgCompare.compare) kr_, Lib.run_compareString]
 simp only [Result.andThen]
 rw [Oper.upon_value]
 go_wp2
 go_ret
 exact ⟨rfl, D0_.refl _⟩
def st_Compare.f (a0 : ByteArray) (a1 : ByteArray) : Option (Int) := (ba_CompareString.f a0 a1).bind fun t632 => (some t632)
theorem st_Compare.calls (a0 : ByteArray) (a1 : ByteArray) (r : Int) (w : World) (h : st_Compare.f a0 a1 = some r) :
  Calls Tryd.prog 46 #[.string a0, .string a1] w fun e w' => e = .returned (.int .i64 r) ∧ D0_ w w' := by
 have H : ((ba_CompareString.f a0 a1).bind fun aa => (some aa)) = some r := h
 clear h
 obtain ⟨aa, A3, H⟩ := oB_ H
 (try dsimp only at H)
 obtain rfl := Option.some.inj H
 go_enter Tryd.func46, Tryd.ntmps46
 go_wp2_with (first | ((with_reducible refine gC_ (f := 62) rfl ?_); refine gL_ (some 7) rfl rfl Tryd.func62 kr_ rfl #[.string a0, .string a1] rfl mp_ ?_; (with_reducible refine (ba_CompareString.calls a0 a1 aa _ A3.out).mono ?_); rintro e w' ⟨rfl, ⟨nd, rfl⟩⟩; refine ⟨_, rfl, ?_⟩))
 go_ret
 exact ⟨rS_, by repeat (first | exact D0_.refl _ | apply D0_.step)⟩
def n_Compare.f (k : Nat) (a0 : ByteArray) (a1 : ByteArray) : Option (Int) := (n_Normalize.f k a0).bind fun t633 => ((n_Normalize.f k a1).bind fun t634 => (if (t633.size : Int) = (t634.size : Int) then ((st_Compare.f t633 t634).bind fun t635 => (some t635)) else ((n_sign.f (wrap64 ((t633.size : Int) - (t634.size : Int)))).bind fun t636 => (some t636))))
theorem n_Compare.mono : ∀ a0 a1 k, LeO (n_Compare.f k a0 a1) (n_Compare.f (k + 1) a0 a1) := by
 intro a0 a1 k
 unfold n_Compare.f
 repeat' first
   | (with_reducible first | exact n_Normalize.mono _ _ | exact LeO.refl _ | exact LeO.none _ | refine LeO.ite ?_ ?_ | refine LeO.bind ?_ (fun _ => ?_))
theorem n_Compare.calls (k : Nat) (a0 : ByteArray) (a1 : ByteArray) (r : Int) (w : World) (h : n_Compare.f k a0 a1 = some r) :
  Calls Tryd.prog 26 #[.string a0, .string a1] w fun e w' => e = .returned (.int .i64 r) ∧ D0_ w w' := by
 have H := h
 unfold n_Compare.f at H
 clear h
 obtain ⟨aa, A3, H⟩ := oB_ H
 (try dsimp only at H)
 obtain ⟨ba, A4, H⟩ := oB_ H
 (try dsimp only at H)
 replace H := iS_ H
 rcases H with ⟨c5, H⟩ | ⟨c5, H⟩
 ·have ca := beq_iff_eq.mpr c5
  have da := bne_eq_false_iff_eq.mpr c5
  have ea : (aa.size == ba.size) = true := by first | simpa using c5 | (simp at c5 ⊢; omega)
  clear c5
  obtain ⟨fa, A6, H⟩ := oB_ H
  (try dsimp only at H)
  obtain rfl := Option.some.inj H
  go_enter Tryd.func26, Tryd.ntmps26
  go_wp2_with (first | ((with_reducible refine gC_ (f := 44) rfl ?_); refine gL_ (some 6) rfl rfl Tryd.func44 kr_ rfl #[.string a0] rfl mp_ ?_; (with_reducible refine (n_Normalize.calls k a0 aa _ A3.out).mono ?_); rintro e w' ⟨rfl, ⟨nd, rfl⟩⟩; refine ⟨_, rfl, ?_⟩) | ((with_reducible refine gC_ (f := 44) rfl ?_); refine gL_ (some 8) rfl rfl Tryd.func44 kr_ rfl #[.string a1] rfl mp_ ?_; (with_reducible refine (n_Normalize.calls k a1 ba _ A4.out).mono ?_); rintro e w' ⟨rfl, ⟨nd, rfl⟩⟩; refine ⟨_, rfl, ?_⟩) | ((with_reducible refine gC_ (f := 46) rfl ?_); refine gL_ (some 22) rfl rfl Tryd.func46 kr_ rfl #[.string aa, .string ba] rfl mp_ ?_; (with_reducible refine (st_Compare.calls aa ba fa _ A6.out).mono ?_); rintro e w' ⟨rfl, ⟨nd, rfl⟩⟩; refine ⟨_, rfl, ?_⟩))
  go_ret
  exact ⟨rS_, by repeat (first | exact D0_.refl _ | apply D0_.step)⟩
 ·have ca := beq_eq_false_iff_ne.mpr c5
  have da := bne_iff_ne.mpr c5
  have ea : (aa.size == ba.size) = false := by first | simpa using c5 | (simp at c5 ⊢; omega)
  obtain ⟨ga, A7, H⟩ := oB_ H
  (try dsimp only at H)
  obtain rfl := Option.some.inj H
  go_enter Tryd.func26, Tryd.ntmps26
  go_wp2_with (first | ((with_reducible refine gC_ (f := 44) rfl ?_); refine gL_ (some 6) rfl rfl Tryd.func44 kr_ rfl #[.string a0] rfl mp_ ?_; (with_reducible refine (n_Normalize.calls k a0 aa _ A3.out).mono ?_); rintro e w' ⟨rfl, ⟨nd, rfl⟩⟩; refine ⟨_, rfl, ?_⟩) | ((with_reducible refine gC_ (f := 44) rfl ?_); refine gL_ (some 8) rfl rfl Tryd.func44 kr_ rfl #[.string a1] rfl mp_ ?_; (with_reducible refine (n_Normalize.calls k a1 ba _ A4.out).mono ?_); rintro e w' ⟨rfl, ⟨nd, rfl⟩⟩; refine ⟨_, rfl, ?_⟩) | ((with_reducible refine gC_ (f := 45) rfl ?_); refine gL_ (some 19) rfl rfl Tryd.func45 kr_ rfl #[.int .i64 (wrap64 ((aa.size : Int) - (ba.size : Int)))] rfl mp_ ?_; (with_reducible refine (n_sign.calls (wrap64 ((aa.size : Int) - (ba.size : Int))) ga _ A7.out).mono ?_); rintro e w' ⟨rfl, ⟨nd, rfl⟩⟩; refine ⟨_, rfl, ?_⟩))
  go_ret
  exact ⟨rS_, by repeat (first | exact D0_.refl _ | apply D0_.step)⟩
mutual
def n_Multiply.l0 : Nat → List Int → List Int → List Int → Int → Int → Option (ByteArray)
 | 0, _, _, _, _, _ => none
 | k + 1, x6, x7, x24, x25, x26 => if x26 < x25 then (if 0 ≤ x26 then (if x26 < (x24.length : Int) then (n_Multiply.l1 k x6 x7 x26 (rd x24 x26) 0 x24 x25 x26 x6 (x6.length : Int) 0) else (none)) else (none)) else ((n_limbs_text.f k x7).bind fun t501 => (some t501))
def n_Multiply.l1 : Nat → List Int → List Int → Int → Int → Int → List Int → Int → Int → List Int → Int → Int → Option (ByteArray)
 | 0, _, _, _, _, _, _, _, _, _, _, _ => none
 | k + 1, x6, x7, x8, x9, x10, x24, x25, x26, x31, x32, x33 => if x33 < x32 then (if 0 ≤ x33 then (if x33 < (x31.length : Int) then (if 0 ≤ (wrap64 (x8 + x33)) then (if (wrap64 (x8 + x33)) < (x7.length : Int) then (n_Multiply.l1 k x6 (x7.set ((wrap64 (x8 + x33)) : Int).toNat ((IntKind.u64.wrap ((IntKind.u64.wrap ((IntKind.u64.wrap ((IntKind.u64.wrap (x9)) * (IntKind.u64.wrap (rd x31 x33)))) + (IntKind.u64.wrap (rd x7 (wrap64 (x8 + x33)))))) + x10)) % 4294967296)) x8 x9 ((IntKind.u64.wrap ((IntKind.u64.wrap ((IntKind.u64.wrap ((IntKind.u64.wrap (x9)) * (IntKind.u64.wrap (rd x31 x33)))) + (IntKind.u64.wrap (rd x7 (wrap64 (x8 + x33)))))) + x10)) / 4294967296) x24 x25 x26 x31 x32 (wrap64 (x33 + 1))) else (none)) else (none)) else (none)) else (none)) else (if 0 ≤ (wrap64 (x8 + (x6.length : Int))) then (if (wrap64 (x8 + (x6.length : Int))) < (x7.length : Int) then (n_Multiply.l0 k x6 (x7.set ((wrap64 (x8 + (x6.length : Int))) : Int).toNat ((x10) % 4294967296)) x24 x25 (wrap64 (x26 + 1))) else (none)) else (none))
end
def n_Multiply.f (k : Nat) (a0 : ByteArray) (a1 : ByteArray) : Option (ByteArray) := (n_parse.f k a0).bind fun t492 => ((n_parse.f k a1).bind fun t495 => (if 0 ≤ (wrap64 ((t492.length : Int) + (t495.length : Int))) then (if (wrap64 ((t492.length : Int) + (t495.length : Int)) : Int).toNat ≤ 70368744177664 then (n_Multiply.l0 k t495 (List.replicate (wrap64 ((t492.length : Int) + (t495.length : Int)) : Int).toNat 0) t492 (t492.length : Int) 0) else (none)) else (none)))
theorem n_Multiply.mono_l : ∀ k, (∀ y0 y1 y2 y3 y4, LeO (n_Multiply.l0 k y0 y1 y2 y3 y4) (n_Multiply.l0 (k + 1) y0 y1 y2 y3 y4)) ∧ (∀ y0 y1 y2 y3 y4 y5 y6 y7 y8 y9 y10, LeO (n_Multiply.l1 k y0 y1 y2 y3 y4 y5 y6 y7 y8 y9 y10) (n_Multiply.l1 (k + 1) y0 y1 y2 y3 y4 y5 y6 y7 y8 y9 y10))
 | 0 => ⟨fun _ _ _ _ _ r h => by simp [n_Multiply.l0] at h, fun _ _ _ _ _ _ _ _ _ _ _ r h => by simp [n_Multiply.l1] at h⟩
 | k + 1 => by
  obtain ⟨ih0, ih1⟩ := n_Multiply.mono_l k
  refine ⟨?_, ?_⟩
  ·intro y0 y1 y2 y3 y4
   unfold n_Multiply.l0
   repeat' first
   | (with_reducible first | exact ih0 _ _ _ _ _ | exact ih1 _ _ _ _ _ _ _ _ _ _ _ | exact n_limbs_text.mono _ _ | exact n_parse.mono _ _ | exact LeO.refl _ | exact LeO.none _ | refine LeO.ite ?_ ?_ | refine LeO.bind ?_ (fun _ => ?_))
  ·intro y0 y1 y2 y3 y4 y5 y6 y7 y8 y9 y10
   unfold n_Multiply.l1
   repeat' first
   | (with_reducible first | exact ih0 _ _ _ _ _ | exact ih1 _ _ _ _ _ _ _ _ _ _ _ | exact n_limbs_text.mono _ _ | exact n_parse.mono _ _ | exact LeO.refl _ | exact LeO.none _ | refine LeO.ite ?_ ?_ | refine LeO.bind ?_ (fun _ => ?_))
theorem n_Multiply.mono : ∀ a0 a1 k, LeO (n_Multiply.f k a0 a1) (n_Multiply.f (k + 1) a0 a1) := by
 intro a0 a1 k
 obtain ⟨ih0, ih1⟩ := n_Multiply.mono_l k
 unfold n_Multiply.f
 repeat' first
   | (with_reducible first | exact ih0 _ _ _ _ _ | exact ih1 _ _ _ _ _ _ _ _ _ _ _ | exact n_limbs_text.mono _ _ | exact n_parse.mono _ _ | exact LeO.refl _ | exact LeO.none _ | refine LeO.ite ?_ ?_ | refine LeO.bind ?_ (fun _ => ?_))
theorem n_Multiply.calls (k : Nat) (a0 : ByteArray) (a1 : ByteArray) (r : ByteArray) (w : World) (h : n_Multiply.f k a0 a1 = some r) :
  Calls Tryd.prog 27 #[.string a0, .string a1] w fun e w' => e = .returned (.string r) ∧ Below w.heap.size w w' := by
 have HB := mk_ (Below.refl w.heap.size w)
 have H := h
 unfold n_Multiply.f at H
 clear h
 obtain ⟨ba, A3, H⟩ := oB_ H
 (try dsimp only at H)
 obtain ⟨aa, A4, H⟩ := oB_ H
 (try dsimp only at H)
 obtain ⟨ji5, wa⟩ : ∃ j_ : Int, (wrap64 ((ba.length : Int) + (aa.length : Int))) = j_ := ⟨_, rfl⟩
 replace H : (if 0 ≤ (ji5) then (if (ji5 : Int).toNat ≤ 70368744177664 then (n_Multiply.l0 k aa (List.replicate (ji5 : Int).toNat 0) ba (ba.length : Int) 0) else (none)) else (none)) = some r := by first | (rw [wa] at H; exact H) | (simp only [wa] at H ⊢; exact H)
 (try rw [wa] at A3)
 (try rw [wa] at A4)
 have pb : (IntKind.i64.wrap ((ba.length : Int) + (aa.length : Int))) = ji5 := (i6_ _).trans wa
 obtain ⟨qb, rb, H⟩ := iE_ H
 obtain ⟨sb, tb, H⟩ := iE_ H
 obtain ⟨Wa, Ca⟩ : ∃ y_ : List Int, y_ = (List.replicate (ji5 : Int).toNat 0) := ⟨_, rfl⟩
 (first | rw [← Ca] at H | skip); (try with_reducible replace H := (Option.bind_some _ _).symm.trans H); (try dsimp only at H)
 have Na := mk_ Ca
 clear Ca
 have H' := mk_ H
 clear H
 go_enter Tryd.func27, Tryd.ntmps27
 go_wp2_with (first | ((with_reducible refine gC_ (f := 47) rfl ?_); refine gL_ (some 15) rfl rfl Tryd.func47 kr_ rfl #[.string a0] rfl mp_ ?_; (with_reducible refine (n_parse.calls k a0 ba _ A3.out).mono ?_); rintro e w8 ⟨ub, rfl, ho0, hb⟩; refine ⟨_, rfl, ?_⟩; have ra := mk_ (Kd.rL_ ho0 (bZ_ (xB_ HB))); replace HB := mk_ (bT_ (xB_ HB) hb)) | ((with_reducible refine gC_ (f := 47) rfl ?_); refine gL_ (some 17) rfl rfl Tryd.func47 kr_ rfl #[.string a1] rfl mp_ ?_; (with_reducible refine (n_parse.calls k a1 aa _ A4.out).mono ?_); rintro e w9 ⟨vb, rfl, ho0, hb⟩; refine ⟨_, rfl, ?_⟩; have za := mk_ (Kd.rL_ (Kd.R_new' ho0 (Kd.R_lt (xR_ ra.out))) (bZ_ (xB_ HB))); replace ra := mk_ (Kd.R_elder' (xR_ ra.out) (Kd.R_base ho0) hb); replace HB := mk_ (bT_ (xB_ HB) hb); obtain ⟨Da, ia, Xa⟩ := Kd.rS_' ra.out; subst Xa; obtain ⟨ja, ga, Ya⟩ := Kd.rS_' za.out; subst Ya) | ((with_reducible refine gD_ (N := 23) rfl ?_); refine Kd.R_make (Kd.int .u32) _ 80 rfl (N := 23) rfl 78 _ _ rfl ji5 rfl rfl Tryd.underlying78 (.int .u32 0) 4 info80 rfl (by decide) (by omega) 0 (ok := fun _ => True) (okp := fun _ => True) rfl (fun _ hk => hk) trivial (oD_) (Nat.le_trans (Nat.mul_le_mul_right _ (oD_ : ji5.toNat ≤ 70368744177664)) (by omega)) (Below.refl _ _) (Nat.le_refl _) ?_; intro sa w12 ta hb hg_ hnew_; clear hg_ hnew_; (first | rw [← Na.out] at ta | (simp only [Int.reduceToNat] at ta; rw [← Na.out] at ta)); have Za := mk_ (Kd.rL_ (Kd.R_new' (Kd.R_new' ta (Kd.R_lt (xR_ ra.out))) (Kd.R_lt (xR_ za.out))) (bZ_ (xB_ HB))); replace ra := mk_ (Kd.R_elder' (xR_ ra.out) (Kd.R_base ta) hb); replace za := mk_ (Kd.R_elder' (xR_ za.out) (Kd.R_base ta) hb); replace HB := mk_ (bT_ (xB_ HB) hb); clear hb ta))
 go_loopg [26] k (fun kq v26 w' => ∃ (xa : List Int) (da : Int), v26 = .int .i64 da ∧ A0_ (n_Multiply.l0 kq aa xa ba (ba.length : Int) da = some r) ∧ A0_ (kq ≤ k) ∧ A0_ (Kd.R (Kd.int .u32) 80 w' w.heap.size (fun k_ => some k_ ≠ (sa : Value).ownBlock ∧ some k_ ≠ ((.slice Da ba.length ia) : Value).ownBlock) (.slice ja aa.length ga) aa) ∧ A0_ (Kd.R (Kd.int .u32) 80 w' w.heap.size (fun k_ => some k_ ≠ ((.slice ja aa.length ga) : Value).ownBlock ∧ some k_ ≠ ((.slice Da ba.length ia) : Value).ownBlock) sa xa) ∧ A0_ (Kd.R (Kd.int .u32) 80 w' w.heap.size (fun k_ => some k_ ≠ ((.slice ja aa.length ga) : Value).ownBlock ∧ some k_ ≠ (sa : Value).ownBlock) (.slice Da ba.length ia) ba) ∧ A0_ (Below w.heap.size w w'))
 case atStart => exact ⟨(Wa), (0), (rS_), H', ⟨Nat.le_refl _⟩, ⟨by refine xr_ ?_; exact Kd.rM_ za.out (fun _ hk => ⟨hk.2, hk.1.2⟩)⟩, ⟨by refine xr_ ?_; exact Kd.rM_ Za.out (fun _ hk => ⟨hk.2, hk.1.2⟩)⟩, ⟨by refine xr_ ?_; exact Kd.rM_ ra.out (fun _ hk => ⟨hk.1.2, hk.2⟩)⟩, ⟨xB_ HB⟩⟩
 case round =>
  clear H'
  obtain ⟨xa, da, rfl, HA, HK1, la, ea, ma, HB⟩ := hrel
  cases gk with
  | zero => exact absurd HA.out (by simp [n_Multiply.l0])
  | succ k1 =>
   have H := HA.out
   clear HA
   simp only [n_Multiply.l0] at H
   replace H := iS_ H
   rcases H with ⟨c14, H⟩ | ⟨c14, H⟩
   ·have ab := decide_eq_true c14
    clear c14
    obtain ⟨wb, H⟩ := iD_ H
    obtain ⟨xb, H⟩ := iD_ H
    have H' := mk_ H
    clear H
    have Ea : 0 ≤ (da : Int) := oD_
    have Fa : da < (ba.length : Int) := oD_
    obtain ⟨na, bb, yb⟩ := Kd.at_int (Kd.rr_' ma.out).2.2 da Ea Fa
    cases bb
    replace Ea := eq_true Ea
    replace Fa := eq_true Fa
    go_wp2
    go_loopg [10, 33] k1 (fun kq v10 v33 w' => ∃ (ca : List Int) (ka : Int) (ha : Int), v10 = .int .u64 ka ∧ v33 = .int .i64 ha ∧ A0_ (n_Multiply.l1 kq aa ca da (rd ba da) ka ba (ba.length : Int) da aa (aa.length : Int) ha = some r) ∧ A0_ (kq ≤ k1) ∧ A0_ (Kd.R (Kd.int .u32) 80 w' w.heap.size (fun k_ => some k_ ≠ (sa : Value).ownBlock ∧ some k_ ≠ ((.slice (some na) ba.length ia) : Value).ownBlock) (.slice ja aa.length ga) aa) ∧ A0_ (Kd.R (Kd.int .u32) 80 w' w.heap.size (fun k_ => some k_ ≠ ((.slice ja aa.length ga) : Value).ownBlock ∧ some k_ ≠ ((.slice (some na) ba.length ia) : Value).ownBlock ∧ some k_ ≠ ((.slice ja aa.length ga) : Value).ownBlock) sa ca) ∧ A0_ (Kd.R (Kd.int .u32) 80 w' w.heap.size (fun k_ => some k_ ≠ ((.slice ja aa.length ga) : Value).ownBlock ∧ some k_ ≠ (sa : Value).ownBlock ∧ some k_ ≠ ((.slice ja aa.length ga) : Value).ownBlock) (.slice (some na) ba.length ia) ba) ∧ A0_ (Kd.R (Kd.int .u32) 80 w' w.heap.size (fun k_ => some k_ ≠ (sa : Value).ownBlock ∧ some k_ ≠ ((.slice (some na) ba.length ia) : Value).ownBlock) (.slice ja aa.length ga) aa) ∧ A0_ (Below w.heap.size w w'))
    case atStart => exact ⟨(xa), (0), (0), (rS_), (rS_), H', ⟨Nat.le_refl _⟩, ⟨by refine xr_ ?_; exact la.out⟩, ⟨by refine xr_ ?_; exact Kd.rM_ ea.out (fun _ hk => ⟨hk.1, ⟨hk.2, hk.1⟩⟩)⟩, ⟨by refine xr_ ?_; exact Kd.rM_ ma.out (fun _ hk => ⟨hk.1, ⟨hk.2, hk.1⟩⟩)⟩, ⟨by refine xr_ ?_; exact la.out⟩, ⟨xB_ HB⟩⟩
    case round =>
     clear H'
     obtain ⟨ca, ka, ha, rfl, rfl, HA, HK2, la, ea, ma, ya, HB⟩ := hrel
     cases gk with
     | zero => exact absurd HA.out (by simp [n_Multiply.l1])
     | succ k2 =>
      have H := HA.out
      clear HA
      simp only [n_Multiply.l1] at H
      replace H := iS_ H
      rcases H with ⟨c17, H⟩ | ⟨c17, H⟩
      ·have cb := decide_eq_true c17
       clear c17
       obtain ⟨zb, H⟩ := iD_ H
       obtain ⟨Ab, H⟩ := iD_ H
       obtain ⟨fa, Aa⟩ : ∃ j_ : Int, (wrap64 (da + ha)) = j_ := ⟨_, rfl⟩
       replace H : (if 0 ≤ (fa) then (if (fa) < (ca.length : Int) then (n_Multiply.l1 k2 aa (ca.set ((fa) : Int).toNat ((IntKind.u64.wrap ((IntKind.u64.wrap ((IntKind.u64.wrap ((IntKind.u64.wrap ((rd ba da))) * (IntKind.u64.wrap (rd aa ha)))) + (IntKind.u64.wrap (rd ca (fa))))) + ka)) % 4294967296)) da (rd ba da) ((IntKind.u64.wrap ((IntKind.u64.wrap ((IntKind.u64.wrap ((IntKind.u64.wrap ((rd ba da))) * (IntKind.u64.wrap (rd aa ha)))) + (IntKind.u64.wrap (rd ca (fa))))) + ka)) / 4294967296) ba (ba.length : Int) da aa (aa.length : Int) (wrap64 (ha + 1))) else (none)) else (none)) = some r := by first | (rw [Aa] at H; exact H) | (simp only [Aa] at H ⊢; exact H)
       have Bb : (IntKind.i64.wrap (da + ha)) = fa := (i6_ _).trans Aa
       obtain ⟨Cb, H⟩ := iD_ H
       obtain ⟨Db, H⟩ := iD_ H
       obtain ⟨Oa, Ga⟩ : ∃ y_ : List Int, y_ = (ca.set ((fa) : Int).toNat ((IntKind.u64.wrap ((IntKind.u64.wrap ((IntKind.u64.wrap ((IntKind.u64.wrap ((rd ba da))) * (IntKind.u64.wrap (rd aa ha)))) + (IntKind.u64.wrap (rd ca (fa))))) + ka)) % 4294967296)) := ⟨_, rfl⟩
       (first | rw [← Ga] at H | skip); (try with_reducible replace H := (Option.bind_some _ _).symm.trans H); (try dsimp only at H)
       have db := mk_ Ga
       clear Ga
       have H' := mk_ H
       clear H
       have Ha : 0 ≤ (ha : Int) := oD_
       have Ia : ha < (aa.length : Int) := oD_
       obtain ⟨Ba, eb, Eb⟩ := Kd.at_int (Kd.rr_' ya.out).2.2 ha Ha Ia
       cases eb
       replace Ha := eq_true Ha
       replace Ia := eq_true Ia
       obtain ⟨Fb, ua, fb⟩ := Kd.rS_' ea.out
       subst fb
       have Ja : 0 ≤ ((fa) : Int) := oD_
       have Ka : (fa) < (ca.length : Int) := oD_
       obtain ⟨Gb, gb, ib⟩ := Kd.at_int (Kd.rr_' ea.out).2.2 (fa) Ja Ka
       cases gb
       replace Ja := eq_true Ja
       replace Ka := eq_true Ka
       have p23 : 0 ≤ ((fa) : Int) := oD_
       have q23 : ((fa) : Int) < ((ca.length : Int) : Int) := oD_
       obtain ⟨pa, Hb, Pa, Qa, gl23, cl23, Ra⟩ := Kd.R_form ea.out (by omega)
       (first | cases Pa | (injection Pa with ea_ en_ ec_; (first | subst ea_ | (injection ea_ with ea_; subst ea_)); subst ec_; clear en_))
       have GB23 := mk_ Qa
       have GG23 := mk_ Ra
       clear Qa gl23 Ra
       (first | simp only [ap_] at ib | skip)
       obtain ⟨Ib, Jb⟩ := Kd.R_celln 0 ea.out ((fa) : Int) p23 q23
       replace p23 := eq_true p23
       replace q23 := eq_true q23
       have HP25 := Kd.R_putg ea.out ((fa) : Int) ((IntKind.u64.wrap ((IntKind.u64.wrap ((IntKind.u64.wrap ((IntKind.u64.wrap ((rd ba da))) * (IntKind.u64.wrap (rd aa ha)))) + (IntKind.u64.wrap (rd ca (fa))))) + ka)) % 4294967296)
       go_wp2_with (first | ((with_reducible refine gate_store (t := 80) (p := 59) rfl ?_); refine store_event (t := 80) (p := 59) (v := ?vo_w26) (w1 := (wr.setCell ⟨pa, ((fa) : Int).toNat, none⟩ (.int .u32 ((IntKind.u64.wrap ((IntKind.u64.wrap ((IntKind.u64.wrap ((IntKind.u64.wrap ((rd ba da))) * (IntKind.u64.wrap (rd aa ha)))) + (IntKind.u64.wrap (rd ca (fa))))) + ka)) % 4294967296)))) ?hg ?ho ?hn ?hr ?_; (case ho => rfl); (case hg => rfl); (case hn => rfl); (case hr => first | (go_simp; done) | (go_simp; rfl)); intro w26 hw; have hg : wr.grownBy w26 (some pa) := (by rw [hw]; exact HP25.2); have hp_ : Kd.R (Kd.int .u32) 80 w26 w.heap.size (fun k_ => some k_ ≠ (.slice (some Ba) aa.length ga : Value).ownBlock ∧ some k_ ≠ (.slice (some na) ba.length ia : Value).ownBlock ∧ some k_ ≠ (.slice (some Ba) aa.length ga : Value).ownBlock) (.slice (some ⟨pa, 0, none⟩) ca.length ua) Oa := (by rw [hw, db.out]; exact HP25.1); clear HP25; replace la := mk_ (Kd.R_after (v := (.slice (some ⟨pa, 0, none⟩) ca.length ua)) (v1 := (.slice (some ⟨pa, 0, none⟩) ca.length ua)) (ok := (fun k_ => some k_ ≠ (.slice (some na) ba.length ia : Value).ownBlock)) (by refine xr_ ?_; exact Kd.rM_ la.out (fun _ hk => ⟨hk.2, hk.1⟩)) hg (.inl rfl)); replace ea := mk_ (hp_); replace ma := mk_ (Kd.R_after (v := (.slice (some ⟨pa, 0, none⟩) ca.length ua)) (v1 := (.slice (some ⟨pa, 0, none⟩) ca.length ua)) (ok := (fun k_ => some k_ ≠ (.slice (some Ba) aa.length ga : Value).ownBlock ∧ some k_ ≠ (.slice (some Ba) aa.length ga : Value).ownBlock)) (by refine xr_ ?_; exact Kd.rM_ ma.out (fun _ hk => ⟨⟨hk.1, hk.2.2⟩, hk.2.1⟩)) hg (.inl rfl)); replace ya := mk_ (Kd.R_after (v := (.slice (some ⟨pa, 0, none⟩) ca.length ua)) (v1 := (.slice (some ⟨pa, 0, none⟩) ca.length ua)) (ok := (fun k_ => some k_ ≠ (.slice (some na) ba.length ia : Value).ownBlock)) (by refine xr_ ?_; exact Kd.rM_ ya.out (fun _ hk => ⟨hk.2, hk.1⟩)) hg (.inl rfl)); replace HB := mk_ ((by rw [hw]; exact bS_ (HB.out) GB23.out : Below w.heap.size w w26)); clear hg hw hp_))
       (try simp only [ap_])
       go_roundg k2
       case measure => have := HK1.out; have := HK2.out; omega
       case rel => exact ⟨(Oa), ((IntKind.u64.wrap ((IntKind.u64.wrap ((IntKind.u64.wrap ((IntKind.u64.wrap ((rd ba da))) * (IntKind.u64.wrap (rd aa ha)))) + (IntKind.u64.wrap (rd ca (fa))))) + ka)) / 4294967296), (wrap64 (ha + 1)), (by first | rfl | (simp; done) | (simp only [← Aa] <;> (first | rfl | simp)) | (simp [*]; done)), (rS_), H', ⟨by have := HK1.out; have := HK2.out; omega⟩, ⟨by refine xr_ ?_; exact Kd.rM_ la.out (fun _ hk => ⟨hk.2, hk.1⟩)⟩, ⟨by refine xr_ ?_; exact ea.out⟩, ⟨by refine xr_ ?_; exact Kd.rM_ ma.out (fun _ hk => ⟨hk.1.1, ⟨hk.2, hk.1.2⟩⟩)⟩, ⟨by refine xr_ ?_; exact Kd.rM_ ya.out (fun _ hk => ⟨hk.2, hk.1⟩)⟩, ⟨xB_ HB⟩⟩
      ·have cb := decide_eq_false c17
       clear c17
       obtain ⟨oa, La⟩ : ∃ j_ : Int, (wrap64 (da + (aa.length : Int))) = j_ := ⟨_, rfl⟩
       replace H : (if 0 ≤ (oa) then (if (oa) < (ca.length : Int) then (n_Multiply.l0 k2 aa (ca.set ((oa) : Int).toNat ((ka) % 4294967296)) ba (ba.length : Int) (wrap64 (da + 1))) else (none)) else (none)) = some r := by first | (rw [La] at H; exact H) | (simp only [La] at H ⊢; exact H)
       have Kb : (IntKind.i64.wrap (da + (aa.length : Int))) = oa := (i6_ _).trans La
       obtain ⟨Lb, H⟩ := iD_ H
       obtain ⟨Mb, H⟩ := iD_ H
       obtain ⟨Sa, Ma⟩ : ∃ y_ : List Int, y_ = (ca.set ((oa) : Int).toNat ((ka) % 4294967296)) := ⟨_, rfl⟩
       (first | rw [← Ma] at H | skip); (try with_reducible replace H := (Option.bind_some _ _).symm.trans H); (try dsimp only at H)
       have jb := mk_ Ma
       clear Ma
       have H' := mk_ H
       clear H
       have p30 : 0 ≤ ((oa) : Int) := oD_
       have q30 : ((oa) : Int) < ((ca.length : Int) : Int) := oD_
       obtain ⟨qa, va, Ta, Ua, gl30, cl30, Va⟩ := Kd.R_form ea.out (by omega)
       (first | cases Ta | (injection Ta with ea_ en_ ec_; (first | subst ea_ | (injection ea_ with ea_; subst ea_)); subst ec_; clear en_))
       have GB30 := mk_ Ua
       have GG30 := mk_ Va
       clear Ua gl30 Va
       obtain ⟨Nb, Ob⟩ := Kd.R_celln 0 ea.out ((oa) : Int) p30 q30
       replace p30 := eq_true p30
       replace q30 := eq_true q30
       have HP31 := Kd.R_putg ea.out ((oa) : Int) ((ka) % 4294967296)
       go_wp2_with (first | ((with_reducible refine gate_store (t := 80) (p := 70) rfl ?_); refine store_event (t := 80) (p := 70) (v := ?vo_w32) (w1 := (wr.setCell ⟨qa, ((oa) : Int).toNat, none⟩ (.int .u32 ((ka) % 4294967296)))) ?hg ?ho ?hn ?hr ?_; (case ho => rfl); (case hg => rfl); (case hn => rfl); (case hr => first | (go_simp; done) | (go_simp; rfl)); intro w32 hw; have hg : wr.grownBy w32 (some qa) := (by rw [hw]; exact HP31.2); have hp_ : Kd.R (Kd.int .u32) 80 w32 w.heap.size (fun k_ => some k_ ≠ (.slice ja aa.length ga : Value).ownBlock ∧ some k_ ≠ (.slice (some na) ba.length ia : Value).ownBlock ∧ some k_ ≠ (.slice ja aa.length ga : Value).ownBlock) (.slice (some ⟨qa, 0, none⟩) ca.length va) Sa := (by rw [hw, jb.out]; exact HP31.1); clear HP31; replace la := mk_ (Kd.R_after (v := (.slice (some ⟨qa, 0, none⟩) ca.length va)) (v1 := (.slice (some ⟨qa, 0, none⟩) ca.length va)) (ok := (fun k_ => some k_ ≠ (.slice (some na) ba.length ia : Value).ownBlock)) (by refine xr_ ?_; exact Kd.rM_ la.out (fun _ hk => ⟨hk.2, hk.1⟩)) hg (.inl rfl)); replace ea := mk_ (hp_); replace ma := mk_ (Kd.R_after (v := (.slice (some ⟨qa, 0, none⟩) ca.length va)) (v1 := (.slice (some ⟨qa, 0, none⟩) ca.length va)) (ok := (fun k_ => some k_ ≠ (.slice ja aa.length ga : Value).ownBlock ∧ some k_ ≠ (.slice ja aa.length ga : Value).ownBlock)) (by refine xr_ ?_; exact Kd.rM_ ma.out (fun _ hk => ⟨⟨hk.1, hk.2.2⟩, hk.2.1⟩)) hg (.inl rfl)); replace ya := mk_ (Kd.R_after (v := (.slice (some ⟨qa, 0, none⟩) ca.length va)) (v1 := (.slice (some ⟨qa, 0, none⟩) ca.length va)) (ok := (fun k_ => some k_ ≠ (.slice (some na) ba.length ia : Value).ownBlock)) (by refine xr_ ?_; exact Kd.rM_ ya.out (fun _ hk => ⟨hk.2, hk.1⟩)) hg (.inl rfl)); replace HB := mk_ ((by rw [hw]; exact bS_ (HB.out) GB30.out : Below w.heap.size w w32)); clear hg hw hp_))
       (try simp only [ap_])
       go_roundg k2
       case measure => have := HK1.out; have := HK2.out; omega
       case rel => exact ⟨(Sa), (wrap64 (da + 1)), (rS_), H', ⟨by have := HK1.out; have := HK2.out; omega⟩, ⟨by refine xr_ ?_; exact Kd.rM_ la.out (fun _ hk => ⟨hk.2, hk.1⟩)⟩, ⟨by refine xr_ ?_; exact Kd.rM_ ea.out (fun _ hk => ⟨hk.1, hk.2.1⟩)⟩, ⟨by refine xr_ ?_; exact Kd.rM_ ma.out (fun _ hk => ⟨hk.1.1, hk.2⟩)⟩, ⟨xB_ HB⟩⟩
   ·have ab := decide_eq_false c14
    clear c14
    obtain ⟨kb, A33, H⟩ := oB_ H
    (try dsimp only at H)
    obtain rfl := Option.some.inj H
    obtain ⟨mb, nb, ob⟩ := Kd.rS_' ea.out
    subst ob
    go_wp2_with (first | ((with_reducible refine gC_ (f := 48) rfl ?_); refine gL_ (some 73) rfl rfl Tryd.func48 kr_ rfl #[.slice mb xa.length nb] rfl mp_ ?_; (with_reducible refine (n_limbs_text.calls k1 _ _ xa kb _ ?side1 ?side2 A33.out).mono ?_); (case side1 => repeat (first | exact (Kd.rr_' ea.out).2.2 | (with_reducible refine Kd.C_alloc ?_ _) | (with_reducible refine Kd.C_drewN ?_ _) | (with_reducible refine Kd.C_drew ?_))); (case side2 => exact (Kd.rr_' ea.out).2.1); rintro e w35 ⟨rfl, hb⟩; refine ⟨_, rfl, ?_⟩; replace la := mk_ (Kd.rB_ (xR_ la.out) hb); replace ea := mk_ (Kd.rB_ (xR_ ea.out) hb); replace ma := mk_ (Kd.rB_ (xR_ ma.out) hb); replace HB := mk_ (bT_ (xB_ HB) hb)))
    go_ret
    exact ⟨by first | rfl | (simp [eN_', eS_] <;> rfl) | (simp only [← wa]; first | rfl | (simp [eN_', eS_] <;> rfl)) | (simp [*, eN_', eS_] <;> rfl), xB_ HB⟩
def q_den.f (a0_0 : Bool) (a0_1 : ByteArray) (a0_2 : ByteArray) : Option (ByteArray) := if a0_2.toList = ([] : List UInt8) then (some (⟨#[1]⟩ : ByteArray)) else (some a0_2)
theorem q_den.calls (a0_0 : Bool) (a0_1 : ByteArray) (a0_2 : ByteArray) (r : ByteArray) (w : World) (h : q_den.f a0_0 a0_1 a0_2 = some r) :
  Calls Tryd.prog 28 #[.agg #[.bool a0_0, .string a0_1, .string a0_2]] w fun e w' => e = .returned (.string r) ∧ Below w.heap.size w w' := by
 have hu32 := Tryd.underlying32
 have HB := mk_ (Below.refl w.heap.size w)
 have H := h
 unfold q_den.f at H
 clear h
 replace H := iS_ H
 rcases H with ⟨c2, H⟩ | ⟨c2, H⟩
 ·have ca := beq_iff_eq.mpr c2
  have da := bne_eq_false_iff_eq.mpr c2
  clear c2
  obtain rfl := Option.some.inj H
  go_enter Tryd.func28, Tryd.ntmps28
  go_wp2_with (first | ((with_reducible refine gD_ (N := 1) rfl ?_); refine bX_ (N := 1) (cs := #[.bool a0_0, .string a0_1, .string a0_2]) (t := 32) ?_; intro ea hg w3 hbox hb; have aa := mk_ (hbox); have fa := mk_ (gZ_ hg (bZ_ (xB_ HB))); have ba := mk_ (gZ_ hg (bZ_ (xB_ HB))); replace HB := mk_ (bT_ (xB_ HB) hb); clear hb hbox hg; obtain ⟨ga, ha, ia, ja, ka, la⟩ := kG3_ aa.out))
  go_ret
  exact ⟨rE_, xB1_ HB ba⟩
 ·have ca := beq_eq_false_iff_ne.mpr c2
  have da := bne_iff_ne.mpr c2
  obtain rfl := Option.some.inj H
  go_enter Tryd.func28, Tryd.ntmps28
  go_wp2_with (first | ((with_reducible refine gD_ (N := 1) rfl ?_); refine bX_ (N := 1) (cs := #[.bool a0_0, .string a0_1, .string a0_2]) (t := 32) ?_; intro ea hg w5 hbox hb; have aa := mk_ (hbox); have fa := mk_ (gZ_ hg (bZ_ (xB_ HB))); have ba := mk_ (gZ_ hg (bZ_ (xB_ HB))); replace HB := mk_ (bT_ (xB_ HB) hb); clear hb hbox hg; obtain ⟨ma, na, oa, pa, qa, ra⟩ := kG3_ aa.out))
  go_ret
  exact ⟨rE_, xB1_ HB ba⟩
def q_Compare.f (k : Nat) (a0_0 : Bool) (a0_1 : ByteArray) (a0_2 : ByteArray) (a1_0 : Bool) (a1_1 : ByteArray) (a1_2 : ByteArray) : Option (Int) := (q_clean.f k a0_0 a0_1 a0_2).bind fun bt639 => ((q_clean.f k a1_0 a1_1 a1_2).bind fun bt642 => ((q_signOf.f bt639.1 bt639.2.1 bt639.2.2).bind fun t645 => ((q_signOf.f bt642.1 bt642.2.1 bt642.2.2).bind fun t646 => (if t645 = t646 then ((q_den.f bt642.1 bt642.2.1 bt642.2.2).bind fun t647 => ((n_Multiply.f k bt639.2.1 t647).bind fun t648 => ((q_den.f bt639.1 bt639.2.1 bt639.2.2).bind fun t649 => ((n_Multiply.f k bt642.2.1 t649).bind fun t650 => ((n_Compare.f k t648 t650).bind fun t651 => (if bt639.1 = true then (none) else (some t651))))))) else (if t645 < t646 then (some (-1)) else (some 1))))))
theorem q_Compare.mono : ∀ a0 a1 a2 a3 a4 a5 k, LeO (q_Compare.f k a0 a1 a2 a3 a4 a5) (q_Compare.f (k + 1) a0 a1 a2 a3 a4 a5) := by
 intro a0 a1 a2 a3 a4 a5 k
 unfold q_Compare.f
 repeat' first
   | (with_reducible first | exact n_Compare.mono _ _ _ | exact n_Multiply.mono _ _ _ | exact q_clean.mono _ _ _ _ | exact LeO.refl _ | exact LeO.none _ | refine LeO.ite ?_ ?_ | refine LeO.bind ?_ (fun _ => ?_))
def q_Compare.T7 : Bool × List (List Nat × List Nat) := (true, [([], []), ([0], [0]), ([], []), ([2], [2]), ([1, 3, 3], [1, 3]), ([], []), ([5], [5]), ([], []), ([7, 4], [7]), ([6, 8, 8], [6, 8]), ([4, 9, 9], [4, 9]), ([10, 10, 0, 1, 2, 3, 4, 5, 6, 7, 8, 9, 10], [10])])
def q_Compare.B7 : List Nat := [0, 1, 0, 4, 15, 0, 32, 0, 159, 511, 1023, 2047]
theorem q_Compare.tab7 : rtab .any (opsOf Tryd.f11 7) = q_Compare.T7 := by kernel_rfl
theorem q_Compare.bits7 : waitsOk q_Compare.T7.2 q_Compare.B7 = true := by kernel_rfl
theorem q_Compare.calls (k : Nat) (a0_0 : Bool) (a0_1 : ByteArray) (a0_2 : ByteArray) (a1_0 : Bool) (a1_1 : ByteArray) (a1_2 : ByteArray) (r : Int) (w : World) (h : q_Compare.f k a0_0 a0_1 a0_2 a1_0 a1_1 a1_2 = some r) :
  Calls Tryd.prog 11 #[.agg #[.bool a0_0, .string a0_1, .string a0_2], .agg #[.bool a1_0, .string a1_1, .string a1_2]] w fun e w' => e = .returned (.int .i64 r) ∧ Below w.heap.size w w' := by
 have hu32 := Tryd.underlying32
 have HB := mk_ (Below.refl w.heap.size w)
 have H := h
 unfold q_Compare.f at H
 clear h
 replace H := oB_ H
 obtain ⟨⟨na, fa, ia⟩, A3, H⟩ := H
 (try dsimp only at H)
 replace H := oB_ H
 obtain ⟨⟨ea, ga, ja⟩, A4, H⟩ := H
 (try dsimp only at H)
 replace H := oB_ H
 obtain ⟨oa, A5, H⟩ := H
 (try dsimp only at H)
 replace H := oB_ H
 obtain ⟨pa, A6, H⟩ := H
 (try dsimp only at H)
 replace H := iS_ H
 rcases H with ⟨c7, H⟩ | ⟨c7, H⟩
 ·have wa := beq_iff_eq.mpr c7
  have xa := bne_eq_false_iff_eq.mpr c7
  clear c7
  replace H := oB_ H
  obtain ⟨qa, A8, H⟩ := H
  (try dsimp only at H)
  replace H := oB_ H
  obtain ⟨ra, A9, H⟩ := H
  (try dsimp only at H)
  replace H := oB_ H
  obtain ⟨sa, A10, H⟩ := H
  (try dsimp only at H)
  replace H := oB_ H
  obtain ⟨ta, A11, H⟩ := H
  (try dsimp only at H)
  replace H := oB_ H
  obtain ⟨ya, A12, H⟩ := H
  (try dsimp only at H)
  replace H := iS_ H
  rcases H with ⟨c13, H⟩ | ⟨c13, H⟩
  ·subst c13
   exact absurd H (by simp)
  ·replace c13 := Bool.eq_false_iff.mpr c13
   subst c13
   obtain rfl := Option.some.inj H
   go_enter Tryd.func11, Tryd.ntmps11
   try go_wp2_with (first | ((with_reducible refine gD_ (N := 2) rfl ?_); refine bX_ (N := 2) (cs := #[.bool a0_0, .string a0_1, .string a0_2]) (t := 32) ?_; intro ca hg w36 hbox hb; have aa := mk_ (hbox); have ua := mk_ (gZ_ hg (bZ_ (xB_ HB))); have ha := mk_ (gZ_ hg (bZ_ (xB_ HB))); replace HB := mk_ (bT_ (xB_ HB) hb); clear hb hbox hg) | ((with_reducible refine gD_ (N := 3) rfl ?_); refine bX_ (N := 3) (cs := #[.bool a1_0, .string a1_1, .string a1_2]) (t := 32) ?_; intro da hg w37 hbox hb; have ba := mk_ (hbox); have va := mk_ (gZ_ hg (bZ_ (xB1_ HB ha))); have ma := mk_ (gZ_ hg (bZ_ (xB1_ HB ha))); replace HB := mk_ (bT_ (xB1_ HB ha) hb); have ka := mk_ (gN_ hg (xK_ aa.out)); have la := mk_ (gM_ hg (xK_ aa.out)); replace aa := mk_ (kB_ (xK_ aa.out) hb); clear hb hbox hg))
   replace aa := mk_ (kD_ aa.out)
   replace ba := mk_ (kD_ ba.out)
   replace HB := mk_ (b1_ HB.out)
   refine start_ (n := 6) (S := fun w' => w'.cell? ⟨ca, 0, none⟩ = some (.bool a0_0) ∧ w'.cell? ⟨ca, 1, none⟩ = some (.string a0_1) ∧ w'.cell? ⟨ca, 2, none⟩ = some (.string a0_2) ∧ w'.cell? ⟨da, 0, none⟩ = some (.bool a1_0) ∧ w'.cell? ⟨da, 1, none⟩ = some (.string a1_1) ∧ w'.cell? ⟨da, 2, none⟩ = some (.string a1_2)) (ds := [4, 5]) (tf_ 0 6) kr_ rfl rfl ⟨(kc_ aa.out 0).trans rfl, (kc_ aa.out 1).trans rfl, (kc_ aa.out 2).trans rfl, (kc_ ba.out 0).trans rfl, (kc_ ba.out 1).trans rfl, (kc_ ba.out 2).trans rfl⟩ (fun hHeld => ?_)
   generalize w37.drew = w38 at aa ba HB hHeld ⊢
   refine take_ (i := 0) (N := some 8) (v := ?_) (a' := ?_) (tf_ 1 5) rfl rfl kr_ (fun _ _ _ h => h) (Or.inl ⟨by rfl, ?_⟩) hHeld ?_ ?_
   rotate_left
   ·rintro w' ⟨s0, s1, s2, s3, s4, s5⟩
    go_simp
    with_reducible rfl
   rotate_left
   ·simp only [Act.put, s1_, s2_, s3_, i6_, i3_]
    rfl
   refine take_ (i := 2) (N := some 10) (v := ?_) (a' := ?_) #[true, false, true, false, false, false] rfl rfl kr_ (fun _ _ _ h => h) (Or.inl ⟨by rfl, ?_⟩) hHeld ?_ ?_
   rotate_left
   ·rintro w' ⟨s0, s1, s2, s3, s4, s5⟩
    go_simp
    with_reducible rfl
   rotate_left
   ·simp only [Act.put, s1_, s2_, s3_, i6_, i3_]
    rfl
   refine one_ (i := 1) (N := some 9) (tf_ 3 3) rfl rfl kr_ (by decide) (fun K hK => ?_)
   refine goes_ Tryd.func24 kr_ rfl #[.agg #[.bool a0_0, .string a0_1, .string a0_2]] (by rfl) rfl rfl mp_ ?_
   with_reducible refine (q_clean.calls k a0_0 a0_1 a0_2 false fa ia _ A3.out).mono ?_
   rintro e w39 ⟨rfl, hb⟩
   refine ⟨_, rfl, ?_⟩
   replace aa := mk_ (kB_ (xK_ aa.out) hb)
   replace ba := mk_ (kB_ (xK_ ba.out) hb)
   replace HB := mk_ (bT_ (xB2_ HB ha ma) hb)
   (try clear hb)
   (try clear hb2)
   (try clear hk)
   (try clear hi)
   refine hK.out _ _ ⟨(kc_ aa.out 0).trans rfl, (kc_ aa.out 1).trans rfl, (kc_ aa.out 2).trans rfl, (kc_ ba.out 0).trans rfl, (kc_ ba.out 1).trans rfl, (kc_ ba.out 2).trans rfl⟩ (fun hHeld => ?_)
   clear hK K
   refine norm_ (a' := ?_) ?_ ?_
   rotate_left
   ·show Act.put _ (some 9) _ = _
    simp only [Act.put, s1_, s2_, s3_, i6_, i3_]
    rfl
   refine one_ (i := 3) (N := some 11) (tf_ 4 2) rfl rfl kr_ (by decide) (fun K hK => ?_)
   refine goes_ Tryd.func24 kr_ rfl #[.agg #[.bool a1_0, .string a1_1, .string a1_2]] (by rfl) rfl rfl mp_ ?_
   with_reducible refine (q_clean.calls k a1_0 a1_1 a1_2 ea ga ja _ A4.out).mono ?_
   rintro e w40 ⟨rfl, hb⟩
   refine ⟨_, rfl, ?_⟩
   replace aa := mk_ (kB_ (xK_ aa.out) hb)
   replace ba := mk_ (kB_ (xK_ ba.out) hb)
   replace HB := mk_ (bT_ (xB2_ HB ha ma) hb)
   (try clear hb)
   (try clear hb2)
   (try clear hk)
   (try clear hi)
   refine hK.out _ _ ⟨(kc_ aa.out 0).trans rfl, (kc_ aa.out 1).trans rfl, (kc_ aa.out 2).trans rfl, (kc_ ba.out 0).trans rfl, (kc_ ba.out 1).trans rfl, (kc_ ba.out 2).trans rfl⟩ (fun hHeld => ?_)
   clear hK K
   refine norm_ (a' := ?_) ?_ ?_
   rotate_left
   ·show Act.put _ (some 11) _ = _
    simp only [Act.put, s1_, s2_, s3_, i6_, i3_]
    rfl
   refine last_ (i := 4) (N := none) (tf_ 5 1) rfl rfl kr_ (by decide) (fun K hK => ?_)
   have Aa : w40.cell? ⟨ca, 0, none⟩ = some (.bool a0_0) := (kc_ aa.out 0).trans rfl
   have hfs41 := kF_ aa.out 0
   have hns41_1 := la.out
   have hms41_1 := ka.out
   have Ba : w40.cell? ⟨ca, 1, none⟩ = some (.string a0_1) := (kc_ aa.out 1).trans rfl
   have hfs42 := kF_ aa.out 1
   have hns42_1 := la.out
   have hms42_1 := ka.out
   have Ca : w40.cell? ⟨ca, 2, none⟩ = some (.string a0_2) := (kc_ aa.out 2).trans rfl
   have hfs43 := kF_ aa.out 2
   have hns43_1 := la.out
   have hms43_1 := ka.out
   refine skip_ (w1 := ?_) (by rfl) rfl ?_ ?_
   rotate_left
   ·go_simp
    rfl
   refine hK.out _ _ ?_
   clear hK K
   refine last_ (i := 5) (N := none) (tf_ 6 0) rfl rfl kr_ (by decide) (fun K hK => ?_)
   have Da : w40.cell? ⟨da, 0, none⟩ = some (.bool a1_0) := (kc_ ba.out 0).trans rfl
   have hfs44 := kF_ ba.out 0
   have hns44_0 := ka.out
   have hms44_0 := la.out
   have Ea : w40.cell? ⟨da, 1, none⟩ = some (.string a1_1) := (kc_ ba.out 1).trans rfl
   have hfs45 := kF_ ba.out 1
   have hns45_0 := ka.out
   have hms45_0 := la.out
   have Fa : w40.cell? ⟨da, 2, none⟩ = some (.string a1_2) := (kc_ ba.out 2).trans rfl
   have hfs46 := kF_ ba.out 2
   have hns46_0 := ka.out
   have hms46_0 := la.out
   refine skip_ (w1 := ?_) (by rfl) rfl ?_ ?_
   rotate_left
   ·go_simp
    rfl
   refine hK.out _ _ ?_
   clear hK K
   refine done_ kr_ ?_
   try go_wp2
   have n0_ : A0_ (((((((w40.setCell ⟨ca, 0, none⟩ (.bool false)).setCell ⟨ca, 1, none⟩ (.string fa)).setCell ⟨ca, 2, none⟩ (.string ia)).setCell ⟨da, 0, none⟩ (.bool ea)).setCell ⟨da, 1, none⟩ (.string ga)).setCell ⟨da, 2, none⟩ (.string ja)).heap[ca]? = some (.cells #[.bool false, .string fa, .string ia] 32 (0, 0))) := ⟨by refine xk_ ?_; refine bf_ ?_ ka.out _; refine xk_ ?_; refine bf_ ?_ ka.out _; refine xk_ ?_; refine bf_ ?_ ka.out _; refine xk_ ?_; refine kQ_ (cs := #[.bool false, .string fa, .string a0_2]) ?_ 2 _ rfl; refine kQ_ (cs := #[.bool false, .string a0_1, .string a0_2]) ?_ 1 _ rfl; refine kQ_ (cs := #[.bool a0_0, .string a0_1, .string a0_2]) ?_ 0 _ rfl; exact aa.out⟩
   have n1_ : A0_ (((((((w40.setCell ⟨ca, 0, none⟩ (.bool false)).setCell ⟨ca, 1, none⟩ (.string fa)).setCell ⟨ca, 2, none⟩ (.string ia)).setCell ⟨da, 0, none⟩ (.bool ea)).setCell ⟨da, 1, none⟩ (.string ga)).setCell ⟨da, 2, none⟩ (.string ja)).heap[da]? = some (.cells #[.bool ea, .string ga, .string ja] 32 (0, 0))) := ⟨by refine xk_ ?_; refine kQ_ (cs := #[.bool ea, .string ga, .string a1_2]) ?_ 2 _ rfl; refine kQ_ (cs := #[.bool ea, .string a1_1, .string a1_2]) ?_ 1 _ rfl; refine kQ_ (cs := #[.bool a1_0, .string a1_1, .string a1_2]) ?_ 0 _ rfl; refine bf_ ?_ la.out _; refine xk_ ?_; refine bf_ ?_ la.out _; refine xk_ ?_; refine bf_ ?_ la.out _; refine xk_ ?_; exact ba.out⟩
   have n2_ : A0_ (Below w.heap.size w ((((((w40.setCell ⟨ca, 0, none⟩ (.bool false)).setCell ⟨ca, 1, none⟩ (.string fa)).setCell ⟨ca, 2, none⟩ (.string ia)).setCell ⟨da, 0, none⟩ (.bool ea)).setCell ⟨da, 1, none⟩ (.string ga)).setCell ⟨da, 2, none⟩ (.string ja))) := ⟨xB2_ HB ha ma⟩
   (try clear aa)
   (try clear ba)
   (try clear HB)
   generalize ((((((w40.setCell ⟨ca, 0, none⟩ (.bool false)).setCell ⟨ca, 1, none⟩ (.string fa)).setCell ⟨ca, 2, none⟩ (.string ia)).setCell ⟨da, 0, none⟩ (.bool ea)).setCell ⟨da, 1, none⟩ (.string ga)).setCell ⟨da, 2, none⟩ (.string ja)) = w47 at n0_ n1_ n2_ ⊢
   have aa := n0_
   have ba := n1_
   have HB := n2_
   clear n0_ n1_ n2_
   replace aa := mk_ (kD_ aa.out)
   replace ba := mk_ (kD_ ba.out)
   replace HB := mk_ (b1_ HB.out)
   refine start_ (n := 6) (S := fun w' => w'.cell? ⟨ca, 0, none⟩ = some (.bool false) ∧ w'.cell? ⟨ca, 1, none⟩ = some (.string fa) ∧ w'.cell? ⟨ca, 2, none⟩ = some (.string ia) ∧ w'.cell? ⟨da, 0, none⟩ = some (.bool ea) ∧ w'.cell? ⟨da, 1, none⟩ = some (.string ga) ∧ w'.cell? ⟨da, 2, none⟩ = some (.string ja)) (ds := []) (tf_ 0 6) kr_ rfl rfl ⟨(kc_ aa.out 0).trans rfl, (kc_ aa.out 1).trans rfl, (kc_ aa.out 2).trans rfl, (kc_ ba.out 0).trans rfl, (kc_ ba.out 1).trans rfl, (kc_ ba.out 2).trans rfl⟩ (fun hHeld => ?_)
   generalize w47.drew = w48 at aa ba HB hHeld ⊢
   refine take_ (i := 0) (N := some 12) (v := ?_) (a' := ?_) (tf_ 1 5) rfl rfl kr_ (fun _ _ _ h => h) (Or.inl ⟨by rfl, ?_⟩) hHeld ?_ ?_
   rotate_left
   ·rintro w' ⟨s0, s1, s2, s3, s4, s5⟩
    go_simp
    with_reducible rfl
   rotate_left
   ·simp only [Act.put, s1_, s2_, s3_, i6_, i3_]
    rfl
   refine take_ (i := 2) (N := some 14) (v := ?_) (a' := ?_) #[true, false, true, false, false, false] rfl rfl kr_ (fun _ _ _ h => h) (Or.inl ⟨by rfl, ?_⟩) hHeld ?_ ?_
   rotate_left
   ·rintro w' ⟨s0, s1, s2, s3, s4, s5⟩
    go_simp
    with_reducible rfl
   rotate_left
   ·simp only [Act.put, s1_, s2_, s3_, i6_, i3_]
    rfl
   refine one_ (i := 1) (N := some 13) (tf_ 3 3) rfl rfl kr_ (by decide) (fun K hK => ?_)
   refine goes_ Tryd.func25 kr_ rfl #[.agg #[.bool false, .string fa, .string ia]] (by rfl) rfl rfl mp_ ?_
   with_reducible refine (q_signOf.calls false fa ia oa _ A5.out).mono ?_
   rintro e w49 ⟨rfl, hb⟩
   refine ⟨_, rfl, ?_⟩
   replace aa := mk_ (kB_ (xK_ aa.out) hb)
   replace ba := mk_ (kB_ (xK_ ba.out) hb)
   replace HB := mk_ (bT_ (xB2_ HB ha ma) hb)
   (try clear hb)
   (try clear hb2)
   (try clear hk)
   (try clear hi)
   refine hK.out _ _ ⟨(kc_ aa.out 0).trans rfl, (kc_ aa.out 1).trans rfl, (kc_ aa.out 2).trans rfl, (kc_ ba.out 0).trans rfl, (kc_ ba.out 1).trans rfl, (kc_ ba.out 2).trans rfl⟩ (fun hHeld => ?_)
   clear hK K
   refine norm_ (a' := ?_) ?_ ?_
   rotate_left
   ·show Act.put _ (some 13) _ = _
    simp only [Act.put, s1_, s2_, s3_, i6_, i3_]
    rfl
   refine one_ (i := 3) (N := some 15) (tf_ 4 2) rfl rfl kr_ (by decide) (fun K hK => ?_)
   refine goes_ Tryd.func25 kr_ rfl #[.agg #[.bool ea, .string ga, .string ja]] (by rfl) rfl rfl mp_ ?_
   with_reducible refine (q_signOf.calls ea ga ja pa _ A6.out).mono ?_
   rintro e w50 ⟨rfl, hb⟩
   refine ⟨_, rfl, ?_⟩
   replace aa := mk_ (kB_ (xK_ aa.out) hb)
   replace ba := mk_ (kB_ (xK_ ba.out) hb)
   replace HB := mk_ (bT_ (xB2_ HB ha ma) hb)
   (try clear hb)
   (try clear hb2)
   (try clear hk)
   (try clear hi)
   refine hK.out _ _ ⟨(kc_ aa.out 0).trans rfl, (kc_ aa.out 1).trans rfl, (kc_ aa.out 2).trans rfl, (kc_ ba.out 0).trans rfl, (kc_ ba.out 1).trans rfl, (kc_ ba.out 2).trans rfl⟩ (fun hHeld => ?_)
   clear hK K
   refine norm_ (a' := ?_) ?_ ?_
   rotate_left
   ·show Act.put _ (some 15) _ = _
    simp only [Act.put, s1_, s2_, s3_, i6_, i3_]
    rfl
   refine pu_ (i := 4) (N := some 5) (v := ?_) (a' := ?_) (tf_ 5 1) rfl rfl kr_ (fun _ _ _ h => h) (Or.inl ⟨by rfl, ?_⟩) ?_ ?_
   rotate_left
   ·intro w'
    go_simp
    with_reducible rfl
   rotate_left
   ·simp only [Act.put, s1_, s2_, s3_, i6_, i3_]
    rfl
   refine pu_ (i := 5) (N := some 6) (v := ?_) (a' := ?_) (tf_ 6 0) rfl rfl kr_ (fun _ _ _ h => h) (Or.inl ⟨by rfl, ?_⟩) ?_ ?_
   rotate_left
   ·intro w'
    go_simp
    with_reducible rfl
   rotate_left
   ·simp only [Act.put, s1_, s2_, s3_, i6_, i3_]
    rfl
   refine done_ kr_ ?_
   try go_wp2
   replace aa := mk_ (kD_ aa.out)
   replace ba := mk_ (kD_ ba.out)
   replace HB := mk_ (b1_ HB.out)
   refine start_ (n := 12) (S := fun w' => w'.cell? ⟨ca, 0, none⟩ = some (.bool false) ∧ w'.cell? ⟨ca, 1, none⟩ = some (.string fa) ∧ w'.cell? ⟨ca, 2, none⟩ = some (.string ia) ∧ w'.cell? ⟨da, 0, none⟩ = some (.bool ea) ∧ w'.cell? ⟨da, 1, none⟩ = some (.string ga) ∧ w'.cell? ⟨da, 2, none⟩ = some (.string ja)) (ds := []) (tf_ 0 12) kr_ rfl rfl ⟨(kc_ aa.out 0).trans rfl, (kc_ aa.out 1).trans rfl, (kc_ aa.out 2).trans rfl, (kc_ ba.out 0).trans rfl, (kc_ ba.out 1).trans rfl, (kc_ ba.out 2).trans rfl⟩ (fun hHeld => ?_); refine with_tabW q_Compare.tab7 q_Compare.bits7 (fun HT_ HW_ => ?_)
   generalize w50.drew = w51 at aa ba HB hHeld ⊢
   refine pu_ (i := 0) (N := some 22) (v := ?_) (a' := ?_) (tf_ 1 11) rfl rfl (an_ HT_.out kr_) (fun _ _ _ h => h) (Or.inl ⟨by rfl, ?_⟩) ?_ ?_
   rotate_left
   ·intro w'
    go_simp
    with_reducible rfl
   rotate_left
   ·simp only [Act.put, s1_, s2_, s3_, i6_, i3_]
    rfl
   refine pu_ (i := 5) (N := some 27) (v := ?_) (a' := ?_) #[true, false, false, false, false, true, false, false, false, false, false, false] rfl rfl (an_ HT_.out kr_) (fun _ _ _ h => h) (Or.inl ⟨by rfl, ?_⟩) ?_ ?_
   rotate_left
   ·intro w'
    go_simp
    with_reducible rfl
   rotate_left
   ·simp only [Act.put, s1_, s2_, s3_, i6_, i3_]
    rfl
   refine take_ (i := 1) (N := some 23) (v := ?_) (a' := ?_) #[true, true, false, false, false, true, false, false, false, false, false, false] rfl rfl (tW_ HT_.out HW_.out kr_) (fun _ _ _ h => h) (Or.inl ⟨by rfl, ?_⟩) hHeld ?_ ?_
   rotate_left
   ·rintro w' ⟨s0, s1, s2, s3, s4, s5⟩
    go_simp
    with_reducible rfl
   rotate_left
   ·simp only [Act.put, s1_, s2_, s3_, i6_, i3_]
    rfl
   refine take_ (i := 2) (N := some 24) (v := ?_) (a' := ?_) #[true, true, true, false, false, true, false, false, false, false, false, false] rfl rfl (tW_ HT_.out HW_.out kr_) (fun _ _ _ h => h) (Or.inl ⟨by rfl, ?_⟩) hHeld ?_ ?_
   rotate_left
   ·rintro w' ⟨s0, s1, s2, s3, s4, s5⟩
    go_simp
    with_reducible rfl
   rotate_left
   ·simp only [Act.put, s1_, s2_, s3_, i6_, i3_]
    rfl
   refine take_ (i := 6) (N := some 28) (v := ?_) (a' := ?_) #[true, true, true, false, false, true, true, false, false, false, false, false] rfl rfl (tW_ HT_.out HW_.out kr_) (fun _ _ _ h => h) (Or.inl ⟨by rfl, ?_⟩) hHeld ?_ ?_
   rotate_left
   ·rintro w' ⟨s0, s1, s2, s3, s4, s5⟩
    go_simp
    with_reducible rfl
   rotate_left
   ·simp only [Act.put, s1_, s2_, s3_, i6_, i3_]
    rfl
   refine take_ (i := 7) (N := some 29) (v := ?_) (a' := ?_) #[true, true, true, false, false, true, true, true, false, false, false, false] rfl rfl (tW_ HT_.out HW_.out kr_) (fun _ _ _ h => h) (Or.inl ⟨by rfl, ?_⟩) hHeld ?_ ?_
   rotate_left
   ·rintro w' ⟨s0, s1, s2, s3, s4, s5⟩
    go_simp
    with_reducible rfl
   rotate_left
   ·simp only [Act.put, s1_, s2_, s3_, i6_, i3_]
    rfl
   refine one_ (i := 3) (N := some 25) #[true, true, true, true, false, true, true, true, false, false, false, false] rfl rfl (one_of HT_.out kr_) (by decide) (fun K hK => ?_)
   refine goes_ Tryd.func28 kr_ rfl #[.agg #[.bool ea, .string ga, .string ja]] (by rfl) rfl rfl mp_ ?_
   with_reducible refine (q_den.calls ea ga ja qa _ A8.out).mono ?_
   rintro e w52 ⟨rfl, hb⟩
   refine ⟨_, rfl, ?_⟩
   replace aa := mk_ (kB_ (xK_ aa.out) hb)
   replace ba := mk_ (kB_ (xK_ ba.out) hb)
   replace HB := mk_ (bT_ (xB2_ HB ha ma) hb)
   (try clear hb)
   (try clear hb2)
   (try clear hk)
   (try clear hi)
   refine hK.out _ _ ⟨(kc_ aa.out 0).trans rfl, (kc_ aa.out 1).trans rfl, (kc_ aa.out 2).trans rfl, (kc_ ba.out 0).trans rfl, (kc_ ba.out 1).trans rfl, (kc_ ba.out 2).trans rfl⟩ (fun hHeld => ?_)
   clear hK K
   refine norm_ (a' := ?_) ?_ ?_
   rotate_left
   ·show Act.put _ (some 25) _ = _
    simp only [Act.put, s1_, s2_, s3_, i6_, i3_]
    rfl
   refine one_ (i := 4) (N := some 26) (tf_ 8 4) rfl rfl (one_of HT_.out kr_) (by decide) (fun K hK => ?_)
   refine goes_ Tryd.func27 kr_ rfl #[.string fa, .string qa] (by rfl) rfl rfl mp_ ?_
   with_reducible refine (n_Multiply.calls k fa qa ra _ A9.out).mono ?_
   rintro e w53 ⟨rfl, hb⟩
   refine ⟨_, rfl, ?_⟩
   replace aa := mk_ (kB_ (xK_ aa.out) hb)
   replace ba := mk_ (kB_ (xK_ ba.out) hb)
   replace HB := mk_ (bT_ (xB2_ HB ha ma) hb)
   (try clear hb)
   (try clear hb2)
   (try clear hk)
   (try clear hi)
   refine hK.out _ _ ⟨(kc_ aa.out 0).trans rfl, (kc_ aa.out 1).trans rfl, (kc_ aa.out 2).trans rfl, (kc_ ba.out 0).trans rfl, (kc_ ba.out 1).trans rfl, (kc_ ba.out 2).trans rfl⟩ (fun hHeld => ?_)
   clear hK K
   refine norm_ (a' := ?_) ?_ ?_
   rotate_left
   ·show Act.put _ (some 26) _ = _
    simp only [Act.put, s1_, s2_, s3_, i6_, i3_]
    rfl
   refine one_ (i := 8) (N := some 30) (tf_ 9 3) rfl rfl (one_of HT_.out kr_) (by decide) (fun K hK => ?_)
   refine goes_ Tryd.func28 kr_ rfl #[.agg #[.bool false, .string fa, .string ia]] (by rfl) rfl rfl mp_ ?_
   with_reducible refine (q_den.calls false fa ia sa _ A10.out).mono ?_
   rintro e w54 ⟨rfl, hb⟩
   refine ⟨_, rfl, ?_⟩
   replace aa := mk_ (kB_ (xK_ aa.out) hb)
   replace ba := mk_ (kB_ (xK_ ba.out) hb)
   replace HB := mk_ (bT_ (xB2_ HB ha ma) hb)
   (try clear hb)
   (try clear hb2)
   (try clear hk)
   (try clear hi)
   refine hK.out _ _ ⟨(kc_ aa.out 0).trans rfl, (kc_ aa.out 1).trans rfl, (kc_ aa.out 2).trans rfl, (kc_ ba.out 0).trans rfl, (kc_ ba.out 1).trans rfl, (kc_ ba.out 2).trans rfl⟩ (fun hHeld => ?_)
   clear hK K
   refine norm_ (a' := ?_) ?_ ?_
   rotate_left
   ·show Act.put _ (some 30) _ = _
    simp only [Act.put, s1_, s2_, s3_, i6_, i3_]
    rfl
   refine one_ (i := 9) (N := some 31) (tf_ 10 2) rfl rfl (one_of HT_.out kr_) (by decide) (fun K hK => ?_)
   refine goes_ Tryd.func27 kr_ rfl #[.string ga, .string sa] (by rfl) rfl rfl mp_ ?_
   with_reducible refine (n_Multiply.calls k ga sa ta _ A11.out).mono ?_
   rintro e w55 ⟨rfl, hb⟩
   refine ⟨_, rfl, ?_⟩
   replace aa := mk_ (kB_ (xK_ aa.out) hb)
   replace ba := mk_ (kB_ (xK_ ba.out) hb)
   replace HB := mk_ (bT_ (xB2_ HB ha ma) hb)
   (try clear hb)
   (try clear hb2)
   (try clear hk)
   (try clear hi)
   refine hK.out _ _ ⟨(kc_ aa.out 0).trans rfl, (kc_ aa.out 1).trans rfl, (kc_ aa.out 2).trans rfl, (kc_ ba.out 0).trans rfl, (kc_ ba.out 1).trans rfl, (kc_ ba.out 2).trans rfl⟩ (fun hHeld => ?_)
   clear hK K
   refine norm_ (a' := ?_) ?_ ?_
   rotate_left
   ·show Act.put _ (some 31) _ = _
    simp only [Act.put, s1_, s2_, s3_, i6_, i3_]
    rfl
   refine one_ (i := 10) (N := some 32) (tf_ 11 1) rfl rfl (one_of HT_.out kr_) (by decide) (fun K hK => ?_)
   refine goes_ Tryd.func26 kr_ rfl #[.string ra, .string ta] (by rfl) rfl rfl mp_ ?_
   with_reducible refine (n_Compare.calls k ra ta ya _ A12.out).mono ?_
   rintro e w' ⟨rfl, ⟨nd, rfl⟩⟩
   refine ⟨_, rfl, ?_⟩
   refine hK.out _ _ ⟨(kc_ aa.out 0).trans rfl, (kc_ aa.out 1).trans rfl, (kc_ aa.out 2).trans rfl, (kc_ ba.out 0).trans rfl, (kc_ ba.out 1).trans rfl, (kc_ ba.out 2).trans rfl⟩ (fun hHeld => ?_)
   clear hK K
   refine norm_ (a' := ?_) ?_ ?_
   rotate_left
   ·show Act.put _ (some 32) _ = _
    simp only [Act.put, s1_, s2_, s3_, i6_, i3_]
    rfl
   refine pu_ (i := 11) (N := some 7) (v := ?_) (a' := ?_) (tf_ 12 0) rfl rfl (an_ HT_.out kr_) (fun _ _ _ h => h) (Or.inl ⟨by rfl, ?_⟩) ?_ ?_
   rotate_left
   ·intro w'
    go_simp
    with_reducible rfl
   rotate_left
   ·simp only [Act.put, s1_, s2_, s3_, i6_, i3_]
    rfl
   refine done_ (done_of HT_.out kr_) ?_
   have hnb56 := ka.out
   have hnc56 := la.out
   obtain ⟨Ga, Ha, Ia, Ja, Ka, La⟩ := kG3_ aa.out
   try go_wp2
   go_ret
   exact ⟨rE_, xB2_ HB ha ma⟩
 ·have wa := beq_eq_false_iff_ne.mpr c7
  have xa := bne_iff_ne.mpr c7
  replace H := iS_ H
  rcases H with ⟨c58, H⟩ | ⟨c58, H⟩
  ·have za := decide_eq_true c58
   clear c58
   obtain rfl := Option.some.inj H
   go_enter Tryd.func11, Tryd.ntmps11
   try go_wp2_with (first | ((with_reducible refine gD_ (N := 2) rfl ?_); refine bX_ (N := 2) (cs := #[.bool a0_0, .string a0_1, .string a0_2]) (t := 32) ?_; intro ca hg w59 hbox hb; have aa := mk_ (hbox); have ua := mk_ (gZ_ hg (bZ_ (xB_ HB))); have ha := mk_ (gZ_ hg (bZ_ (xB_ HB))); replace HB := mk_ (bT_ (xB_ HB) hb); clear hb hbox hg) | ((with_reducible refine gD_ (N := 3) rfl ?_); refine bX_ (N := 3) (cs := #[.bool a1_0, .string a1_1, .string a1_2]) (t := 32) ?_; intro da hg w60 hbox hb; have ba := mk_ (hbox); have va := mk_ (gZ_ hg (bZ_ (xB1_ HB ha))); have ma := mk_ (gZ_ hg (bZ_ (xB1_ HB ha))); replace HB := mk_ (bT_ (xB1_ HB ha) hb); have ka := mk_ (gN_ hg (xK_ aa.out)); have la := mk_ (gM_ hg (xK_ aa.out)); replace aa := mk_ (kB_ (xK_ aa.out) hb); clear hb hbox hg))
   replace aa := mk_ (kD_ aa.out)
   replace ba := mk_ (kD_ ba.out)
   replace HB := mk_ (b1_ HB.out)
   refine start_ (n := 6) (S := fun w' => w'.cell? ⟨ca, 0, none⟩ = some (.bool a0_0) ∧ w'.cell? ⟨ca, 1, none⟩ = some (.string a0_1) ∧ w'.cell? ⟨ca, 2, none⟩ = some (.string a0_2) ∧ w'.cell? ⟨da, 0, none⟩ = some (.bool a1_0) ∧ w'.cell? ⟨da, 1, none⟩ = some (.string a1_1) ∧ w'.cell? ⟨da, 2, none⟩ = some (.string a1_2)) (ds := [4, 5]) (tf_ 0 6) kr_ rfl rfl ⟨(kc_ aa.out 0).trans rfl, (kc_ aa.out 1).trans rfl, (kc_ aa.out 2).trans rfl, (kc_ ba.out 0).trans rfl, (kc_ ba.out 1).trans rfl, (kc_ ba.out 2).trans rfl⟩ (fun hHeld => ?_)
   generalize w60.drew = w61 at aa ba HB hHeld ⊢
   refine take_ (i := 0) (N := some 8) (v := ?_) (a' := ?_) (tf_ 1 5) rfl rfl kr_ (fun _ _ _ h => h) (Or.inl ⟨by rfl, ?_⟩) hHeld ?_ ?_
   rotate_left
   ·rintro w' ⟨s0, s1, s2, s3, s4, s5⟩
    go_simp
    with_reducible rfl
   rotate_left
   ·simp only [Act.put, s1_, s2_, s3_, i6_, i3_]
    rfl
   refine take_ (i := 2) (N := some 10) (v := ?_) (a' := ?_) #[true, false, true, false, false, false] rfl rfl kr_ (fun _ _ _ h => h) (Or.inl ⟨by rfl, ?_⟩) hHeld ?_ ?_
   rotate_left
   ·rintro w' ⟨s0, s1, s2, s3, s4, s5⟩
    go_simp
    with_reducible rfl
   rotate_left
   ·simp only [Act.put, s1_, s2_, s3_, i6_, i3_]
    rfl
   refine one_ (i := 1) (N := some 9) (tf_ 3 3) rfl rfl kr_ (by decide) (fun K hK => ?_)
   refine goes_ Tryd.func24 kr_ rfl #[.agg #[.bool a0_0, .string a0_1, .string a0_2]] (by rfl) rfl rfl mp_ ?_
   with_reducible refine (q_clean.calls k a0_0 a0_1 a0_2 na fa ia _ A3.out).mono ?_
   rintro e w62 ⟨rfl, hb⟩
   refine ⟨_, rfl, ?_⟩
   replace aa := mk_ (kB_ (xK_ aa.out) hb)
   replace ba := mk_ (kB_ (xK_ ba.out) hb)
   replace HB := mk_ (bT_ (xB2_ HB ha ma) hb)
   (try clear hb)
   (try clear hb2)
   (try clear hk)
   (try clear hi)
   refine hK.out _ _ ⟨(kc_ aa.out 0).trans rfl, (kc_ aa.out 1).trans rfl, (kc_ aa.out 2).trans rfl, (kc_ ba.out 0).trans rfl, (kc_ ba.out 1).trans rfl, (kc_ ba.out 2).trans rfl⟩ (fun hHeld => ?_)
   clear hK K
   refine norm_ (a' := ?_) ?_ ?_
   rotate_left
   ·show Act.put _ (some 9) _ = _
    simp only [Act.put, s1_, s2_, s3_, i6_, i3_]
    rfl
   refine one_ (i := 3) (N := some 11) (tf_ 4 2) rfl rfl kr_ (by decide) (fun K hK => ?_)
   refine goes_ Tryd.func24 kr_ rfl #[.agg #[.bool a1_0, .string a1_1, .string a1_2]] (by rfl) rfl rfl mp_ ?_
   with_reducible refine (q_clean.calls k a1_0 a1_1 a1_2 ea ga ja _ A4.out).mono ?_
   rintro e w63 ⟨rfl, hb⟩
   refine ⟨_, rfl, ?_⟩
   replace aa := mk_ (kB_ (xK_ aa.out) hb)
   replace ba := mk_ (kB_ (xK_ ba.out) hb)
   replace HB := mk_ (bT_ (xB2_ HB ha ma) hb)
   (try clear hb)
   (try clear hb2)
   (try clear hk)
   (try clear hi)
   refine hK.out _ _ ⟨(kc_ aa.out 0).trans rfl, (kc_ aa.out 1).trans rfl, (kc_ aa.out 2).trans rfl, (kc_ ba.out 0).trans rfl, (kc_ ba.out 1).trans rfl, (kc_ ba.out 2).trans rfl⟩ (fun hHeld => ?_)
   clear hK K
   refine norm_ (a' := ?_) ?_ ?_
   rotate_left
   ·show Act.put _ (some 11) _ = _
    simp only [Act.put, s1_, s2_, s3_, i6_, i3_]
    rfl
   refine last_ (i := 4) (N := none) (tf_ 5 1) rfl rfl kr_ (by decide) (fun K hK => ?_)
   have Ma : w63.cell? ⟨ca, 0, none⟩ = some (.bool a0_0) := (kc_ aa.out 0).trans rfl
   have hfs64 := kF_ aa.out 0
   have hns64_1 := la.out
   have hms64_1 := ka.out
   have Na : w63.cell? ⟨ca, 1, none⟩ = some (.string a0_1) := (kc_ aa.out 1).trans rfl
   have hfs65 := kF_ aa.out 1
   have hns65_1 := la.out
   have hms65_1 := ka.out
   have Oa : w63.cell? ⟨ca, 2, none⟩ = some (.string a0_2) := (kc_ aa.out 2).trans rfl
   have hfs66 := kF_ aa.out 2
   have hns66_1 := la.out
   have hms66_1 := ka.out
   refine skip_ (w1 := ?_) (by rfl) rfl ?_ ?_
   rotate_left
   ·go_simp
    rfl
   refine hK.out _ _ ?_
   clear hK K
   refine last_ (i := 5) (N := none) (tf_ 6 0) rfl rfl kr_ (by decide) (fun K hK => ?_)
   have Pa : w63.cell? ⟨da, 0, none⟩ = some (.bool a1_0) := (kc_ ba.out 0).trans rfl
   have hfs67 := kF_ ba.out 0
   have hns67_0 := ka.out
   have hms67_0 := la.out
   have Qa : w63.cell? ⟨da, 1, none⟩ = some (.string a1_1) := (kc_ ba.out 1).trans rfl
   have hfs68 := kF_ ba.out 1
   have hns68_0 := ka.out
   have hms68_0 := la.out
   have Ra : w63.cell? ⟨da, 2, none⟩ = some (.string a1_2) := (kc_ ba.out 2).trans rfl
   have hfs69 := kF_ ba.out 2
   have hns69_0 := ka.out
   have hms69_0 := la.out
   refine skip_ (w1 := ?_) (by rfl) rfl ?_ ?_
   rotate_left
   ·go_simp
    rfl
   refine hK.out _ _ ?_
   clear hK K
   refine done_ kr_ ?_
   try go_wp2
   have n0_ : A0_ (((((((w63.setCell ⟨ca, 0, none⟩ (.bool na)).setCell ⟨ca, 1, none⟩ (.string fa)).setCell ⟨ca, 2, none⟩ (.string ia)).setCell ⟨da, 0, none⟩ (.bool ea)).setCell ⟨da, 1, none⟩ (.string ga)).setCell ⟨da, 2, none⟩ (.string ja)).heap[ca]? = some (.cells #[.bool na, .string fa, .string ia] 32 (0, 0))) := ⟨by refine xk_ ?_; refine bf_ ?_ ka.out _; refine xk_ ?_; refine bf_ ?_ ka.out _; refine xk_ ?_; refine bf_ ?_ ka.out _; refine xk_ ?_; refine kQ_ (cs := #[.bool na, .string fa, .string a0_2]) ?_ 2 _ rfl; refine kQ_ (cs := #[.bool na, .string a0_1, .string a0_2]) ?_ 1 _ rfl; refine kQ_ (cs := #[.bool a0_0, .string a0_1, .string a0_2]) ?_ 0 _ rfl; exact aa.out⟩
   have n1_ : A0_ (((((((w63.setCell ⟨ca, 0, none⟩ (.bool na)).setCell ⟨ca, 1, none⟩ (.string fa)).setCell ⟨ca, 2, none⟩ (.string ia)).setCell ⟨da, 0, none⟩ (.bool ea)).setCell ⟨da, 1, none⟩ (.string ga)).setCell ⟨da, 2, none⟩ (.string ja)).heap[da]? = some (.cells #[.bool ea, .string ga, .string ja] 32 (0, 0))) := ⟨by refine xk_ ?_; refine kQ_ (cs := #[.bool ea, .string ga, .string a1_2]) ?_ 2 _ rfl; refine kQ_ (cs := #[.bool ea, .string a1_1, .string a1_2]) ?_ 1 _ rfl; refine kQ_ (cs := #[.bool a1_0, .string a1_1, .string a1_2]) ?_ 0 _ rfl; refine bf_ ?_ la.out _; refine xk_ ?_; refine bf_ ?_ la.out _; refine xk_ ?_; refine bf_ ?_ la.out _; refine xk_ ?_; exact ba.out⟩
   have n2_ : A0_ (Below w.heap.size w ((((((w63.setCell ⟨ca, 0, none⟩ (.bool na)).setCell ⟨ca, 1, none⟩ (.string fa)).setCell ⟨ca, 2, none⟩ (.string ia)).setCell ⟨da, 0, none⟩ (.bool ea)).setCell ⟨da, 1, none⟩ (.string ga)).setCell ⟨da, 2, none⟩ (.string ja))) := ⟨xB2_ HB ha ma⟩
   (try clear aa)
   (try clear ba)
   (try clear HB)
   generalize ((((((w63.setCell ⟨ca, 0, none⟩ (.bool na)).setCell ⟨ca, 1, none⟩ (.string fa)).setCell ⟨ca, 2, none⟩ (.string ia)).setCell ⟨da, 0, none⟩ (.bool ea)).setCell ⟨da, 1, none⟩ (.string ga)).setCell ⟨da, 2, none⟩ (.string ja)) = w70 at n0_ n1_ n2_ ⊢
   have aa := n0_
   have ba := n1_
   have HB := n2_
   clear n0_ n1_ n2_
   replace aa := mk_ (kD_ aa.out)
   replace ba := mk_ (kD_ ba.out)
   replace HB := mk_ (b1_ HB.out)
   refine start_ (n := 6) (S := fun w' => w'.cell? ⟨ca, 0, none⟩ = some (.bool na) ∧ w'.cell? ⟨ca, 1, none⟩ = some (.string fa) ∧ w'.cell? ⟨ca, 2, none⟩ = some (.string ia) ∧ w'.cell? ⟨da, 0, none⟩ = some (.bool ea) ∧ w'.cell? ⟨da, 1, none⟩ = some (.string ga) ∧ w'.cell? ⟨da, 2, none⟩ = some (.string ja)) (ds := []) (tf_ 0 6) kr_ rfl rfl ⟨(kc_ aa.out 0).trans rfl, (kc_ aa.out 1).trans rfl, (kc_ aa.out 2).trans rfl, (kc_ ba.out 0).trans rfl, (kc_ ba.out 1).trans rfl, (kc_ ba.out 2).trans rfl⟩ (fun hHeld => ?_)
   generalize w70.drew = w71 at aa ba HB hHeld ⊢
   refine take_ (i := 0) (N := some 12) (v := ?_) (a' := ?_) (tf_ 1 5) rfl rfl kr_ (fun _ _ _ h => h) (Or.inl ⟨by rfl, ?_⟩) hHeld ?_ ?_
   rotate_left
   ·rintro w' ⟨s0, s1, s2, s3, s4, s5⟩
    go_simp
    with_reducible rfl
   rotate_left
   ·simp only [Act.put, s1_, s2_, s3_, i6_, i3_]
    rfl
   refine take_ (i := 2) (N := some 14) (v := ?_) (a' := ?_) #[true, false, true, false, false, false] rfl rfl kr_ (fun _ _ _ h => h) (Or.inl ⟨by rfl, ?_⟩) hHeld ?_ ?_
   rotate_left
   ·rintro w' ⟨s0, s1, s2, s3, s4, s5⟩
    go_simp
    with_reducible rfl
   rotate_left
   ·simp only [Act.put, s1_, s2_, s3_, i6_, i3_]
    rfl
   refine one_ (i := 1) (N := some 13) (tf_ 3 3) rfl rfl kr_ (by decide) (fun K hK => ?_)
   refine goes_ Tryd.func25 kr_ rfl #[.agg #[.bool na, .string fa, .string ia]] (by rfl) rfl rfl mp_ ?_
   with_reducible refine (q_signOf.calls na fa ia oa _ A5.out).mono ?_
   rintro e w72 ⟨rfl, hb⟩
   refine ⟨_, rfl, ?_⟩
   replace aa := mk_ (kB_ (xK_ aa.out) hb)
   replace ba := mk_ (kB_ (xK_ ba.out) hb)
   replace HB := mk_ (bT_ (xB2_ HB ha ma) hb)
   (try clear hb)
   (try clear hb2)
   (try clear hk)
   (try clear hi)
   refine hK.out _ _ ⟨(kc_ aa.out 0).trans rfl, (kc_ aa.out 1).trans rfl, (kc_ aa.out 2).trans rfl, (kc_ ba.out 0).trans rfl, (kc_ ba.out 1).trans rfl, (kc_ ba.out 2).trans rfl⟩ (fun hHeld => ?_)
   clear hK K
   refine norm_ (a' := ?_) ?_ ?_
   rotate_left
   ·show Act.put _ (some 13) _ = _
    simp only [Act.put, s1_, s2_, s3_, i6_, i3_]
    rfl
   refine one_ (i := 3) (N := some 15) (tf_ 4 2) rfl rfl kr_ (by decide) (fun K hK => ?_)
   refine goes_ Tryd.func25 kr_ rfl #[.agg #[.bool ea, .string ga, .string ja]] (by rfl) rfl rfl mp_ ?_
   with_reducible refine (q_signOf.calls ea ga ja pa _ A6.out).mono ?_
   rintro e w73 ⟨rfl, hb⟩
   refine ⟨_, rfl, ?_⟩
   replace aa := mk_ (kB_ (xK_ aa.out) hb)
   replace ba := mk_ (kB_ (xK_ ba.out) hb)
   replace HB := mk_ (bT_ (xB2_ HB ha ma) hb)
   (try clear hb)
   (try clear hb2)
   (try clear hk)
   (try clear hi)
   refine hK.out _ _ ⟨(kc_ aa.out 0).trans rfl, (kc_ aa.out 1).trans rfl, (kc_ aa.out 2).trans rfl, (kc_ ba.out 0).trans rfl, (kc_ ba.out 1).trans rfl, (kc_ ba.out 2).trans rfl⟩ (fun hHeld => ?_)
   clear hK K
   refine norm_ (a' := ?_) ?_ ?_
   rotate_left
   ·show Act.put _ (some 15) _ = _
    simp only [Act.put, s1_, s2_, s3_, i6_, i3_]
    rfl
   refine pu_ (i := 4) (N := some 5) (v := ?_) (a' := ?_) (tf_ 5 1) rfl rfl kr_ (fun _ _ _ h => h) (Or.inl ⟨by rfl, ?_⟩) ?_ ?_
   rotate_left
   ·intro w'
    go_simp
    with_reducible rfl
   rotate_left
   ·simp only [Act.put, s1_, s2_, s3_, i6_, i3_]
    rfl
   refine pu_ (i := 5) (N := some 6) (v := ?_) (a' := ?_) (tf_ 6 0) rfl rfl kr_ (fun _ _ _ h => h) (Or.inl ⟨by rfl, ?_⟩) ?_ ?_
   rotate_left
   ·intro w'
    go_simp
    with_reducible rfl
   rotate_left
   ·simp only [Act.put, s1_, s2_, s3_, i6_, i3_]
    rfl
   refine done_ kr_ ?_
   try go_wp2
   go_ret
   exact ⟨rE_, xB2_ HB ha ma⟩
  ·have za := decide_eq_false c58
   clear c58
   obtain rfl := Option.some.inj H
   go_enter Tryd.func11, Tryd.ntmps11
   try go_wp2_with (first | ((with_reducible refine gD_ (N := 2) rfl ?_); refine bX_ (N := 2) (cs := #[.bool a0_0, .string a0_1, .string a0_2]) (t := 32) ?_; intro ca hg w74 hbox hb; have aa := mk_ (hbox); have ua := mk_ (gZ_ hg (bZ_ (xB_ HB))); have ha := mk_ (gZ_ hg (bZ_ (xB_ HB))); replace HB := mk_ (bT_ (xB_ HB) hb); clear hb hbox hg) | ((with_reducible refine gD_ (N := 3) rfl ?_); refine bX_ (N := 3) (cs := #[.bool a1_0, .string a1_1, .string a1_2]) (t := 32) ?_; intro da hg w75 hbox hb; have ba := mk_ (hbox); have va := mk_ (gZ_ hg (bZ_ (xB1_ HB ha))); have ma := mk_ (gZ_ hg (bZ_ (xB1_ HB ha))); replace HB := mk_ (bT_ (xB1_ HB ha) hb); have ka := mk_ (gN_ hg (xK_ aa.out)); have la := mk_ (gM_ hg (xK_ aa.out)); replace aa := mk_ (kB_ (xK_ aa.out) hb); clear hb hbox hg))
   replace aa := mk_ (kD_ aa.out)
   replace ba := mk_ (kD_ ba.out)
   replace HB := mk_ (b1_ HB.out)
   refine start_ (n := 6) (S := fun w' => w'.cell? ⟨ca, 0, none⟩ = some (.bool a0_0) ∧ w'.cell? ⟨ca, 1, none⟩ = some (.string a0_1) ∧ w'.cell? ⟨ca, 2, none⟩ = some (.string a0_2) ∧ w'.cell? ⟨da, 0, none⟩ = some (.bool a1_0) ∧ w'.cell? ⟨da, 1, none⟩ = some (.string a1_1) ∧ w'.cell? ⟨da, 2, none⟩ = some (.string a1_2)) (ds := [4, 5]) (tf_ 0 6) kr_ rfl rfl ⟨(kc_ aa.out 0).trans rfl, (kc_ aa.out 1).trans rfl, (kc_ aa.out 2).trans rfl, (kc_ ba.out 0).trans rfl, (kc_ ba.out 1).trans rfl, (kc_ ba.out 2).trans rfl⟩ (fun hHeld => ?_)
   generalize w75.drew = w76 at aa ba HB hHeld ⊢
   refine take_ (i := 0) (N := some 8) (v := ?_) (a' := ?_) (tf_ 1 5) rfl rfl kr_ (fun _ _ _ h => h) (Or.inl ⟨by rfl, ?_⟩) hHeld ?_ ?_
   rotate_left
   ·rintro w' ⟨s0, s1, s2, s3, s4, s5⟩
    go_simp
    with_reducible rfl
   rotate_left
   ·simp only [Act.put, s1_, s2_, s3_, i6_, i3_]
    rfl
   refine take_ (i := 2) (N := some 10) (v := ?_) (a' := ?_) #[true, false, true, false, false, false] rfl rfl kr_ (fun _ _ _ h => h) (Or.inl ⟨by rfl, ?_⟩) hHeld ?_ ?_
   rotate_left
   ·rintro w' ⟨s0, s1, s2, s3, s4, s5⟩
    go_simp
    with_reducible rfl
   rotate_left
   ·simp only [Act.put, s1_, s2_, s3_, i6_, i3_]
    rfl
   refine one_ (i := 1) (N := some 9) (tf_ 3 3) rfl rfl kr_ (by decide) (fun K hK => ?_)
   refine goes_ Tryd.func24 kr_ rfl #[.agg #[.bool a0_0, .string a0_1, .string a0_2]] (by rfl) rfl rfl mp_ ?_
   with_reducible refine (q_clean.calls k a0_0 a0_1 a0_2 na fa ia _ A3.out).mono ?_
   rintro e w77 ⟨rfl, hb⟩
   refine ⟨_, rfl, ?_⟩
   replace aa := mk_ (kB_ (xK_ aa.out) hb)
   replace ba := mk_ (kB_ (xK_ ba.out) hb)
   replace HB := mk_ (bT_ (xB2_ HB ha ma) hb)
   (try clear hb)
   (try clear hb2)
   (try clear hk)
   (try clear hi)
   refine hK.out _ _ ⟨(kc_ aa.out 0).trans rfl, (kc_ aa.out 1).trans rfl, (kc_ aa.out 2).trans rfl, (kc_ ba.out 0).trans rfl, (kc_ ba.out 1).trans rfl, (kc_ ba.out 2).trans rfl⟩ (fun hHeld => ?_)
   clear hK K
   refine norm_ (a' := ?_) ?_ ?_
   rotate_left
   ·show Act.put _ (some 9) _ = _
    simp only [Act.put, s1_, s2_, s3_, i6_, i3_]
    rfl
   refine one_ (i := 3) (N := some 11) (tf_ 4 2) rfl rfl kr_ (by decide) (fun K hK => ?_)
   refine goes_ Tryd.func24 kr_ rfl #[.agg #[.bool a1_0, .string a1_1, .string a1_2]] (by rfl) rfl rfl mp_ ?_
   with_reducible refine (q_clean.calls k a1_0 a1_1 a1_2 ea ga ja _ A4.out).mono ?_
   rintro e w78 ⟨rfl, hb⟩
   refine ⟨_, rfl, ?_⟩
   replace aa := mk_ (kB_ (xK_ aa.out) hb)
   replace ba := mk_ (kB_ (xK_ ba.out) hb)
   replace HB := mk_ (bT_ (xB2_ HB ha ma) hb)
   (try clear hb)
   (try clear hb2)
   (try clear hk)
   (try clear hi)
   refine hK.out _ _ ⟨(kc_ aa.out 0).trans rfl, (kc_ aa.out 1).trans rfl, (kc_ aa.out 2).trans rfl, (kc_ ba.out 0).trans rfl, (kc_ ba.out 1).trans rfl, (kc_ ba.out 2).trans rfl⟩ (fun hHeld => ?_)
   clear hK K
   refine norm_ (a' := ?_) ?_ ?_
   rotate_left
   ·show Act.put _ (some 11) _ = _
    simp only [Act.put, s1_, s2_, s3_, i6_, i3_]
    rfl
   refine last_ (i := 4) (N := none) (tf_ 5 1) rfl rfl kr_ (by decide) (fun K hK => ?_)
   have Sa : w78.cell? ⟨ca, 0, none⟩ = some (.bool a0_0) := (kc_ aa.out 0).trans rfl
   have hfs79 := kF_ aa.out 0
   have hns79_1 := la.out
   have hms79_1 := ka.out
   have Ta : w78.cell? ⟨ca, 1, none⟩ = some (.string a0_1) := (kc_ aa.out 1).trans rfl
   have hfs80 := kF_ aa.out 1
   have hns80_1 := la.out
   have hms80_1 := ka.out
   have Ua : w78.cell? ⟨ca, 2, none⟩ = some (.string a0_2) := (kc_ aa.out 2).trans rfl
   have hfs81 := kF_ aa.out 2
   have hns81_1 := la.out
   have hms81_1 := ka.out
   refine skip_ (w1 := ?_) (by rfl) rfl ?_ ?_
   rotate_left
   ·go_simp
    rfl
   refine hK.out _ _ ?_
   clear hK K
   refine last_ (i := 5) (N := none) (tf_ 6 0) rfl rfl kr_ (by decide) (fun K hK => ?_)
   have Va : w78.cell? ⟨da, 0, none⟩ = some (.bool a1_0) := (kc_ ba.out 0).trans rfl
   have hfs82 := kF_ ba.out 0
   have hns82_0 := ka.out
   have hms82_0 := la.out
   have Wa : w78.cell? ⟨da, 1, none⟩ = some (.string a1_1) := (kc_ ba.out 1).trans rfl
   have hfs83 := kF_ ba.out 1
   have hns83_0 := ka.out
   have hms83_0 := la.out
   have Xa : w78.cell? ⟨da, 2, none⟩ = some (.string a1_2) := (kc_ ba.out 2).trans rfl
   have hfs84 := kF_ ba.out 2
   have hns84_0 := ka.out
   have hms84_0 := la.out
   refine skip_ (w1 := ?_) (by rfl) rfl ?_ ?_
   rotate_left
   ·go_simp
    rfl
   refine hK.out _ _ ?_
   clear hK K
   refine done_ kr_ ?_
   try go_wp2
   have n0_ : A0_ (((((((w78.setCell ⟨ca, 0, none⟩ (.bool na)).setCell ⟨ca, 1, none⟩ (.string fa)).setCell ⟨ca, 2, none⟩ (.string ia)).setCell ⟨da, 0, none⟩ (.bool ea)).setCell ⟨da, 1, none⟩ (.string ga)).setCell ⟨da, 2, none⟩ (.string ja)).heap[ca]? = some (.cells #[.bool na, .string fa, .string ia] 32 (0, 0))) := ⟨by refine xk_ ?_; refine bf_ ?_ ka.out _; refine xk_ ?_; refine bf_ ?_ ka.out _; refine xk_ ?_; refine bf_ ?_ ka.out _; refine xk_ ?_; refine kQ_ (cs := #[.bool na, .string fa, .string a0_2]) ?_ 2 _ rfl; refine kQ_ (cs := #[.bool na, .string a0_1, .string a0_2]) ?_ 1 _ rfl; refine kQ_ (cs := #[.bool a0_0, .string a0_1, .string a0_2]) ?_ 0 _ rfl; exact aa.out⟩
   have n1_ : A0_ (((((((w78.setCell ⟨ca, 0, none⟩ (.bool na)).setCell ⟨ca, 1, none⟩ (.string fa)).setCell ⟨ca, 2, none⟩ (.string ia)).setCell ⟨da, 0, none⟩ (.bool ea)).setCell ⟨da, 1, none⟩ (.string ga)).setCell ⟨da, 2, none⟩ (.string ja)).heap[da]? = some (.cells #[.bool ea, .string ga, .string ja] 32 (0, 0))) := ⟨by refine xk_ ?_; refine kQ_ (cs := #[.bool ea, .string ga, .string a1_2]) ?_ 2 _ rfl; refine kQ_ (cs := #[.bool ea, .string a1_1, .string a1_2]) ?_ 1 _ rfl; refine kQ_ (cs := #[.bool a1_0, .string a1_1, .string a1_2]) ?_ 0 _ rfl; refine bf_ ?_ la.out _; refine xk_ ?_; refine bf_ ?_ la.out _; refine xk_ ?_; refine bf_ ?_ la.out _; refine xk_ ?_; exact ba.out⟩
   have n2_ : A0_ (Below w.heap.size w ((((((w78.setCell ⟨ca, 0, none⟩ (.bool na)).setCell ⟨ca, 1, none⟩ (.string fa)).setCell ⟨ca, 2, none⟩ (.string ia)).setCell ⟨da, 0, none⟩ (.bool ea)).setCell ⟨da, 1, none⟩ (.string ga)).setCell ⟨da, 2, none⟩ (.string ja))) := ⟨xB2_ HB ha ma⟩
   (try clear aa)
   (try clear ba)
   (try clear HB)
   generalize ((((((w78.setCell ⟨ca, 0, none⟩ (.bool na)).setCell ⟨ca, 1, none⟩ (.string fa)).setCell ⟨ca, 2, none⟩ (.string ia)).setCell ⟨da, 0, none⟩ (.bool ea)).setCell ⟨da, 1, none⟩ (.string ga)).setCell ⟨da, 2, none⟩ (.string ja)) = w85 at n0_ n1_ n2_ ⊢
   have aa := n0_
   have ba := n1_
   have HB := n2_
   clear n0_ n1_ n2_
   replace aa := mk_ (kD_ aa.out)
   replace ba := mk_ (kD_ ba.out)
   replace HB := mk_ (b1_ HB.out)
   refine start_ (n := 6) (S := fun w' => w'.cell? ⟨ca, 0, none⟩ = some (.bool na) ∧ w'.cell? ⟨ca, 1, none⟩ = some (.string fa) ∧ w'.cell? ⟨ca, 2, none⟩ = some (.string ia) ∧ w'.cell? ⟨da, 0, none⟩ = some (.bool ea) ∧ w'.cell? ⟨da, 1, none⟩ = some (.string ga) ∧ w'.cell? ⟨da, 2, none⟩ = some (.string ja)) (ds := []) (tf_ 0 6) kr_ rfl rfl ⟨(kc_ aa.out 0).trans rfl, (kc_ aa.out 1).trans rfl, (kc_ aa.out 2).trans rfl, (kc_ ba.out 0).trans rfl, (kc_ ba.out 1).trans rfl, (kc_ ba.out 2).trans rfl⟩ (fun hHeld => ?_)
   generalize w85.drew = w86 at aa ba HB hHeld ⊢
   refine take_ (i := 0) (N := some 12) (v := ?_) (a' := ?_) (tf_ 1 5) rfl rfl kr_ (fun _ _ _ h => h) (Or.inl ⟨by rfl, ?_⟩) hHeld ?_ ?_
   rotate_left
   ·rintro w' ⟨s0, s1, s2, s3, s4, s5⟩
    go_simp
    with_reducible rfl
   rotate_left
   ·simp only [Act.put, s1_, s2_, s3_, i6_, i3_]
    rfl
   refine take_ (i := 2) (N := some 14) (v := ?_) (a' := ?_) #[true, false, true, false, false, false] rfl rfl kr_ (fun _ _ _ h => h) (Or.inl ⟨by rfl, ?_⟩) hHeld ?_ ?_
   rotate_left
   ·rintro w' ⟨s0, s1, s2, s3, s4, s5⟩
    go_simp
    with_reducible rfl
   rotate_left
   ·simp only [Act.put, s1_, s2_, s3_, i6_, i3_]
    rfl
   refine one_ (i := 1) (N := some 13) (tf_ 3 3) rfl rfl kr_ (by decide) (fun K hK => ?_)
   refine goes_ Tryd.func25 kr_ rfl #[.agg #[.bool na, .string fa, .string ia]] (by rfl) rfl rfl mp_ ?_
   with_reducible refine (q_signOf.calls na fa ia oa _ A5.out).mono ?_
   rintro e w87 ⟨rfl, hb⟩
   refine ⟨_, rfl, ?_⟩
   replace aa := mk_ (kB_ (xK_ aa.out) hb)
   replace ba := mk_ (kB_ (xK_ ba.out) hb)
   replace HB := mk_ (bT_ (xB2_ HB ha ma) hb)
   (try clear hb)
   (try clear hb2)
   (try clear hk)
   (try clear hi)
   refine hK.out _ _ ⟨(kc_ aa.out 0).trans rfl, (kc_ aa.out 1).trans rfl, (kc_ aa.out 2).trans rfl, (kc_ ba.out 0).trans rfl, (kc_ ba.out 1).trans rfl, (kc_ ba.out 2).trans rfl⟩ (fun hHeld => ?_)
   clear hK K
   refine norm_ (a' := ?_) ?_ ?_
   rotate_left
   ·show Act.put _ (some 13) _ = _
    simp only [Act.put, s1_, s2_, s3_, i6_, i3_]
    rfl
   refine one_ (i := 3) (N := some 15) (tf_ 4 2) rfl rfl kr_ (by decide) (fun K hK => ?_)
   refine goes_ Tryd.func25 kr_ rfl #[.agg #[.bool ea, .string ga, .string ja]] (by rfl) rfl rfl mp_ ?_
   with_reducible refine (q_signOf.calls ea ga ja pa _ A6.out).mono ?_
   rintro e w88 ⟨rfl, hb⟩
   refine ⟨_, rfl, ?_⟩
   replace aa := mk_ (kB_ (xK_ aa.out) hb)
   replace ba := mk_ (kB_ (xK_ ba.out) hb)
   replace HB := mk_ (bT_ (xB2_ HB ha ma) hb)
   (try clear hb)
   (try clear hb2)
   (try clear hk)
   (try clear hi)
   refine hK.out _ _ ⟨(kc_ aa.out 0).trans rfl, (kc_ aa.out 1).trans rfl, (kc_ aa.out 2).trans rfl, (kc_ ba.out 0).trans rfl, (kc_ ba.out 1).trans rfl, (kc_ ba.out 2).trans rfl⟩ (fun hHeld => ?_)
   clear hK K
   refine norm_ (a' := ?_) ?_ ?_
   rotate_left
   ·show Act.put _ (some 15) _ = _
    simp only [Act.put, s1_, s2_, s3_, i6_, i3_]
    rfl
   refine pu_ (i := 4) (N := some 5) (v := ?_) (a' := ?_) (tf_ 5 1) rfl rfl kr_ (fun _ _ _ h => h) (Or.inl ⟨by rfl, ?_⟩) ?_ ?_
   rotate_left
   ·intro w'
    go_simp
    with_reducible rfl
   rotate_left
   ·simp only [Act.put, s1_, s2_, s3_, i6_, i3_]
    rfl
   refine pu_ (i := 5) (N := some 6) (v := ?_) (a' := ?_) (tf_ 6 0) rfl rfl kr_ (fun _ _ _ h => h) (Or.inl ⟨by rfl, ?_⟩) ?_ ?_
   rotate_left
   ·intro w'
    go_simp
    with_reducible rfl
   rotate_left
   ·simp only [Act.put, s1_, s2_, s3_, i6_, i3_]
    rfl
   refine done_ kr_ ?_
   try go_wp2
   go_ret
   exact ⟨rE_, xB2_ HB ha ma⟩
end Go.Proofs.YtppimdempdnhoaaDoor.C
end
