/- A part of the proof of setoffOneSided_card (see YtnegkpnhjgimcaaDoorZSP5): what the functions that it reaches compute, each by its contract. -/
import Derived.Sort.WalkA
import Derived.Shelf.SlSortCmp.Insertion
import Derived.LoopN
import Derived.Test.YtnegkpnhjgimcaaDoorZSP2
section
namespace Go.Proofs.YtnegkpnhjgimcaaDoor
namespace C
set_option maxHeartbeats 8000000
set_option maxRecDepth 100000
open Go.RowKit Go.PrWords Go.PrLast Go.PrMore
attribute [local go_sem] max2_int min2_int max_two min_two max_three min_three max_four min_four
set_option linter.unusedVariables false
set_option linter.unusedSimpArgs false
def so_amounts.l0 : Nat → List (S26) → List (S28) → Int → Int → Option ((List (S26)))
 | 0, _, _, _, _ => none
 | k + 1, x3, x9, x10, x11 => if x11 < x10 then (if 0 ≤ x11 then (if x11 < (x9.length : Int) then ((q_Add.f k ((r28_ x9 x11).f2.f0) ((r28_ x9 x11).f2.f1) ((r28_ x9 x11).f2.f2) false (⟨#[]⟩ : ByteArray) (⟨#[]⟩ : ByteArray)).bind fun bt384 => (if x11 < (x3.length : Int) then (so_amounts.l0 k (x3.set (x11 : Int).toNat (⟨bt384.1, bt384.2.1, bt384.2.2⟩ : S26)) x9 x10 (wrap64 (x11 + 1))) else (none))) else (none)) else (none)) else (some x3)
def so_amounts.f (k : Nat) (l0 : List (S28)) : Option ((List (S26))) := if 0 ≤ (l0.length : Int) then (if ((l0.length : Int) : Int).toNat ≤ 7036874417766 then (so_amounts.l0 k (List.replicate ((l0.length : Int) : Int).toNat z26) l0 (l0.length : Int) 0) else (none)) else (none)
theorem so_amounts.mono_l : ∀ k, (∀ y0 y1 y2 y3, LeO (so_amounts.l0 k y0 y1 y2 y3) (so_amounts.l0 (k + 1) y0 y1 y2 y3))
 | 0 => fun _ _ _ _ r h => by simp [so_amounts.l0] at h
 | k + 1 => by
  have ih0 := so_amounts.mono_l k
  ·intro y0 y1 y2 y3
   unfold so_amounts.l0
   repeat' first
   | (with_reducible first | exact ih0 _ _ _ _ | exact q_Add.mono _ _ _ _ _ _ _ | exact LeO.refl _ | exact LeO.none _ | refine LeO.ite ?_ ?_ | refine LeO.bind ?_ (fun _ => ?_))
theorem so_amounts.mono : ∀ a0 k, LeO (so_amounts.f k a0) (so_amounts.f (k + 1) a0) := by
 intro a0 k
 have ih0 := so_amounts.mono_l k
 unfold so_amounts.f
 repeat' first
   | (with_reducible first | exact ih0 _ _ _ _ | exact q_Add.mono _ _ _ _ _ _ _ | exact LeO.refl _ | exact LeO.none _ | refine LeO.ite ?_ ?_ | refine LeO.bind ?_ (fun _ => ?_))
theorem so_amounts.calls (k : Nat) (A0 : Option Addr) (c0 : Nat) (l0 : List (S28)) (r : List (S26)) (w : World) (hr0 : Kd.C k28 w A0 l0.length l0) (hc0 : l0.length ≤ c0) (h : so_amounts.f k l0 = some r) :
  Calls Tryd.prog 37 #[.slice A0 l0.length c0] w fun e w' => ∃ v0_ : Value, e = .returned (v0_) ∧ Kd.R k26 26 w' w.heap.size (fun _ => True) v0_ r ∧ Below w.heap.size w w' := by
 have hu28 := Tryd.underlying28
 have hu26 := Tryd.underlying26
 have HR0 := A0_.mk hr0
 have HC0 := A0_.mk hc0
 clear hr0 hc0
 have HB := A0_.mk (Below.refl w.heap.size w)
 have H := h
 unfold so_amounts.f at H
 clear h
 by_cases c2 : 0 ≤ (l0.length : Int)
 rotate_left
 ·rw [if_neg c2] at H
  exact absurd H (by simp)
 rw [if_pos c2] at H
 have Da := eq_true c2
 have Ea : decide (0 ≤ (l0.length : Int)) = true := decide_eq_true c2
 clear c2
 by_cases c3 : ((l0.length : Int) : Int).toNat ≤ 7036874417766
 rotate_left
 ·rw [if_neg c3] at H
  exact absurd H (by simp)
 rw [if_pos c3] at H
 have Fa := eq_true c3
 have Ga : decide (((l0.length : Int) : Int).toNat ≤ 7036874417766) = true := decide_eq_true c3
 clear c3
 obtain ⟨wa, ja⟩ : ∃ y_ : List (S26), y_ = (List.replicate ((l0.length : Int) : Int).toNat z26) := ⟨_, rfl⟩
 replace H : (so_amounts.l0 k wa l0 (l0.length : Int) 0) = some r := by first | (rw [ja]; with_reducible exact H) | (have H2_ := (Option.bind_some _ _).symm.trans H; rw [ja]; with_reducible exact H2_) | (have H2_ := (Option.bind_some _ _).symm.trans H; with_reducible exact H2_) | with_reducible exact H | (rw [ja]; exact H) | exact H
 have xa := A0_.mk ja
 clear ja
 have H' := A0_.mk H
 clear H
 go_enter Tryd.func37, Tryd.ntmps37
 go_wp2_with (first | ((with_reducible refine gD_ (N := 8) rfl ?_); refine Kd.R_make k26 _ 26 rfl (N := 8) rfl 37 _ _ rfl (l0.length : Int) rfl rfl Tryd.underlying37 (.agg #[(.bool false), (.string ⟨#[]⟩), (.string ⟨#[]⟩)]) 40 info26 rfl (by decide) (by omega) z26 (ok := fun _ => True) (okp := fun _ => True) (k26_mkM _ _ _ z26 ) (fun _ hk => hk) trivial (oD_) (Nat.le_trans (Nat.mul_le_mul_right _ (oD_ : (l0.length : Int).toNat ≤ 7036874417766)) (by omega)) (Below.refl _ _) (Nat.le_refl _) ?_; intro Ha w4 ho5 hb hg_ hnew_; clear hg_ hnew_; (first | rw [← xa.out] at ho5 | (simp only [Int.reduceToNat] at ho5; rw [← xa.out] at ho5)); have n0_ := A0_.mk (Kd.rL_ ho5 (bZ_ (xB_ HB))); have n1_ := A0_.mk (bT_ (xB_ HB) hb); clear HB; have Ia := n0_; have HB := n1_; clear n0_ n1_; clear hb ho5))
 go_loopg [11] k (fun kq v11 w' => ∃ (ea : List (S26)) (aa : Int), v11 = .int .i64 aa ∧ A0_ (so_amounts.l0 kq ea l0 (l0.length : Int) aa = some r) ∧ A0_ (kq ≤ k) ∧ A0_ (Kd.R k26 26 w' w.heap.size (fun _ => True) Ha ea) ∧ A0_ (Below w.heap.size w w'))
 case atStart => exact ⟨(wa), (0), (rS_), H', ⟨Nat.le_refl _⟩, ⟨by (with_reducible repeat (first | apply Kd.R_alloc | apply Kd.rN_ | apply Kd.rD_)); exact Ia.out⟩, ⟨xB_ HB⟩⟩
 case round =>
  clear H'
  try clear c2
  try clear Da
  try clear Ea
  try clear p2
  try clear c3
  try clear Fa
  try clear Ga
  obtain ⟨ea, aa, rfl, HA, HK1, da, HB⟩ := hrel
  cases gk with
  | zero => exact absurd HA.out (by simp [so_amounts.l0])
  | succ k1 =>
   have H := HA.out
   clear HA
   simp only [so_amounts.l0] at H
   by_cases c6 : aa < (l0.length : Int)
   ·rw [if_pos c6] at H
    have Ja : decide (aa < (l0.length : Int)) = true := decide_eq_true c6
    clear c6
    by_cases c7 : 0 ≤ aa
    rotate_left
    ·rw [if_neg c7] at H
     exact absurd H (by simp)
    rw [if_pos c7] at H
    have Sa : decide (0 ≤ aa) = true := decide_eq_true c7
    clear c7
    by_cases c8 : aa < (l0.length : Int)
    rotate_left
    ·rw [if_neg c8] at H
     exact absurd H (by simp)
    rw [if_pos c8] at H
    have Ta : decide (aa < (l0.length : Int)) = true := decide_eq_true c8
    clear c8
    obtain ⟨⟨ga, ha, ia⟩, A9, H⟩ := oB_ H
    (try dsimp only at H)
    by_cases c10 : aa < (ea.length : Int)
    rotate_left
    ·rw [if_neg c10] at H
     exact absurd H (by simp)
    rw [if_pos c10] at H
    have Ua : decide (aa < (ea.length : Int)) = true := decide_eq_true c10
    clear c10
    obtain ⟨la, ka⟩ : ∃ y_ : List (S26), y_ = (ea.set (aa : Int).toNat (⟨ga, ha, ia⟩ : S26)) := ⟨_, rfl⟩
    replace H : (so_amounts.l0 k1 la l0 (l0.length : Int) (wrap64 (aa + 1))) = some r := by first | (rw [ka]; with_reducible exact H) | (have H2_ := (Option.bind_some _ _).symm.trans H; rw [ka]; with_reducible exact H2_) | (have H2_ := (Option.bind_some _ _).symm.trans H; with_reducible exact H2_) | with_reducible exact H | (rw [ka]; exact H) | exact H
    have Ka := A0_.mk ka
    clear ka
    have H' := A0_.mk H
    clear H
    have ma : 0 ≤ (aa : Int) := oD_
    have na : aa < (l0.length : Int) := oD_
    obtain ⟨Va, La, oa, pa, qa, ra, sa, ta, ua, va⟩ := at_T28 HR0.out aa ma na
    cases La
    (try replace oa := cT_ HB oa)
    (try replace pa := cT_ HB pa)
    (try replace qa := cT_ HB qa)
    (try replace ra := cT_ HB ra)
    (try replace sa := cT_ HB sa)
    (try replace ta := cT_ HB ta)
    (try replace ua := cT_ HB ua)
    (try replace va := cT_ HB va)
    replace ma := eq_true ma
    replace na := eq_true na
    go_wp2_with (first | ((with_reducible refine gD_ (N := 5) rfl ?_); refine bE_ ?hg (N := 5) ?hd (cs := #[.int .i64 0, .int .i64 0, .bool false, .string (⟨#[]⟩ : ByteArray), .string (⟨#[]⟩ : ByteArray), .int .i64 0, .int .i64 0, .bool false]) (t := 28) ?hr ?_; (case hd => rfl); (case hg => rfl); (case hr => first | (go_simp; done) | (go_simp; rfl)); intro ca hg w12 hbox hb; have n0_ := A0_.mk (Kd.rB_ (xR_ da.out) hb); have n1_ := A0_.mk (bT_ (xB_ HB) hb); have n2_ := A0_.mk (hbox); have n3_ := A0_.mk ((by rw [hg]; exact (bZ_ (xB_ HB)) : w.heap.size ≤ ca)); have n4_ := A0_.mk ((by rw [hg]; exact (bZ_ (xB_ HB)) : w.heap.size ≤ ca)); clear da HB; have da := n0_; have HB := n1_; have ba := n2_; have Wa := n3_; have ya := n4_; clear n0_ n1_ n2_ n3_ n4_; clear hb hbox hg; have Xa : w12.cell? ⟨ca, 0, none⟩ = some (.int .i64 0) := (kc_ ba.out 0).trans rfl; have Ya : w12.cell? ⟨ca, 1, none⟩ = some (.int .i64 0) := (kc_ ba.out 1).trans rfl; have Za : w12.cell? ⟨ca, 2, none⟩ = some (.bool false) := (kc_ ba.out 2).trans rfl; have ab : w12.cell? ⟨ca, 3, none⟩ = some (.string (⟨#[]⟩ : ByteArray)) := (kc_ ba.out 3).trans rfl; have bb : w12.cell? ⟨ca, 4, none⟩ = some (.string (⟨#[]⟩ : ByteArray)) := (kc_ ba.out 4).trans rfl; have cb : w12.cell? ⟨ca, 5, none⟩ = some (.int .i64 0) := (kc_ ba.out 5).trans rfl; have db : w12.cell? ⟨ca, 6, none⟩ = some (.int .i64 0) := (kc_ ba.out 6).trans rfl; have eb : w12.cell? ⟨ca, 7, none⟩ = some (.bool false) := (kc_ ba.out 7).trans rfl; have fb := kF_ ba.out 0; have gb := kF_ ba.out 1; have ib := kF_ ba.out 2; have jb := kF_ ba.out 3; have kb := kF_ ba.out 4; have mb := kF_ ba.out 5; have nb := kF_ ba.out 6; have ob := kF_ ba.out 7) | ((with_reducible refine gC_ (f := 24) rfl ?_); refine gL_ (some 21) rfl rfl Tryd.func24 kr_ rfl #[.agg #[.bool ((r28_ l0 aa).f2.f0), .string ((r28_ l0 aa).f2.f1), .string ((r28_ l0 aa).f2.f2)], .agg zC_] rfl mp_ ?_; (with_reducible refine (q_Add.calls k1 ((r28_ l0 aa).f2.f0) ((r28_ l0 aa).f2.f1) ((r28_ l0 aa).f2.f2) false (⟨#[]⟩ : ByteArray) (⟨#[]⟩ : ByteArray) ga ha ia _ A9.out).mono ?_); rintro e w14 ⟨rfl, hb⟩; refine ⟨_, rfl, ?_⟩; have n0_ := A0_.mk (Kd.rB_ (by (with_reducible repeat (first | apply Kd.R_alloc | apply Kd.rN_ | apply Kd.rD_)); exact (Kd.rM_ (Kd.rF_ (p := ⟨ca, 7, none⟩) (Kd.rF_ (p := ⟨ca, 6, none⟩) (Kd.rF_ (p := ⟨ca, 5, none⟩) (Kd.rF_ (p := ⟨ca, 4, none⟩) (Kd.rF_ (p := ⟨ca, 3, none⟩) (Kd.rF_ (p := ⟨ca, 2, none⟩) (Kd.rF_ (p := ⟨ca, 1, none⟩) (Kd.rF_ (p := ⟨ca, 0, none⟩) (Kd.R_types da.out ba.out (by decide)) (fun _ hk => hk.2) (.int .i64 ((r28_ l0 aa).f0))) (fun _ hk => hk.2) (.int .i64 ((r28_ l0 aa).f1))) (fun _ hk => hk.2) (.bool ((r28_ l0 aa).f2.f0))) (fun _ hk => hk.2) (.string ((r28_ l0 aa).f2.f1))) (fun _ hk => hk.2) (.string ((r28_ l0 aa).f2.f2))) (fun _ hk => hk.2) (.int .i64 ((r28_ l0 aa).f3))) (fun _ hk => hk.2) (.int .i64 ((r28_ l0 aa).f4))) (fun _ hk => hk.2) (.bool ((r28_ l0 aa).f5))) (fun _ h_ => h_.1))) hb); have n1_ := A0_.mk (kB_ (g := ca) (o := .cells #[.int .i64 ((r28_ l0 aa).f0), .int .i64 ((r28_ l0 aa).f1), .bool ((r28_ l0 aa).f2.f0), .string ((r28_ l0 aa).f2.f1), .string ((r28_ l0 aa).f2.f2), .int .i64 ((r28_ l0 aa).f3), .int .i64 ((r28_ l0 aa).f4), .bool ((r28_ l0 aa).f5)] 28 (0, 0)) (by (with_reducible repeat (first | apply kN_ | apply kD_ | apply kA_)); refine kP_ (cs := #[.int .i64 ((r28_ l0 aa).f0), .int .i64 ((r28_ l0 aa).f1), .bool ((r28_ l0 aa).f2.f0), .string ((r28_ l0 aa).f2.f1), .string ((r28_ l0 aa).f2.f2), .int .i64 ((r28_ l0 aa).f3), .int .i64 ((r28_ l0 aa).f4), .bool false]) ?_ 7 _ rfl; (with_reducible repeat (first | apply kN_ | apply kD_ | apply kA_)); refine kP_ (cs := #[.int .i64 ((r28_ l0 aa).f0), .int .i64 ((r28_ l0 aa).f1), .bool ((r28_ l0 aa).f2.f0), .string ((r28_ l0 aa).f2.f1), .string ((r28_ l0 aa).f2.f2), .int .i64 ((r28_ l0 aa).f3), .int .i64 0, .bool false]) ?_ 6 _ rfl; (with_reducible repeat (first | apply kN_ | apply kD_ | apply kA_)); refine kP_ (cs := #[.int .i64 ((r28_ l0 aa).f0), .int .i64 ((r28_ l0 aa).f1), .bool ((r28_ l0 aa).f2.f0), .string ((r28_ l0 aa).f2.f1), .string ((r28_ l0 aa).f2.f2), .int .i64 0, .int .i64 0, .bool false]) ?_ 5 _ rfl; (with_reducible repeat (first | apply kN_ | apply kD_ | apply kA_)); refine kP_ (cs := #[.int .i64 ((r28_ l0 aa).f0), .int .i64 ((r28_ l0 aa).f1), .bool ((r28_ l0 aa).f2.f0), .string ((r28_ l0 aa).f2.f1), .string (⟨#[]⟩ : ByteArray), .int .i64 0, .int .i64 0, .bool false]) ?_ 4 _ rfl; (with_reducible repeat (first | apply kN_ | apply kD_ | apply kA_)); refine kP_ (cs := #[.int .i64 ((r28_ l0 aa).f0), .int .i64 ((r28_ l0 aa).f1), .bool ((r28_ l0 aa).f2.f0), .string (⟨#[]⟩ : ByteArray), .string (⟨#[]⟩ : ByteArray), .int .i64 0, .int .i64 0, .bool false]) ?_ 3 _ rfl; (with_reducible repeat (first | apply kN_ | apply kD_ | apply kA_)); refine kP_ (cs := #[.int .i64 ((r28_ l0 aa).f0), .int .i64 ((r28_ l0 aa).f1), .bool false, .string (⟨#[]⟩ : ByteArray), .string (⟨#[]⟩ : ByteArray), .int .i64 0, .int .i64 0, .bool false]) ?_ 2 _ rfl; (with_reducible repeat (first | apply kN_ | apply kD_ | apply kA_)); refine kP_ (cs := #[.int .i64 ((r28_ l0 aa).f0), .int .i64 0, .bool false, .string (⟨#[]⟩ : ByteArray), .string (⟨#[]⟩ : ByteArray), .int .i64 0, .int .i64 0, .bool false]) ?_ 1 _ rfl; (with_reducible repeat (first | apply kN_ | apply kD_ | apply kA_)); refine kP_ (cs := #[.int .i64 0, .int .i64 0, .bool false, .string (⟨#[]⟩ : ByteArray), .string (⟨#[]⟩ : ByteArray), .int .i64 0, .int .i64 0, .bool false]) ?_ 0 _ rfl; (with_reducible repeat (first | apply kN_ | apply kD_ | apply kA_)); exact ba.out) hb); have n2_ := A0_.mk (bT_ (xB1_ HB ya) hb); clear da ba HB; have da := n0_; have ba := n1_; have HB := n2_; clear n0_ n1_ n2_; (try clear hb); (try clear hb2); (try clear hk); (try clear hi); have p11 : 0 ≤ (aa : Int) := oD_; have q11 : (aa : Int) < ((ea.length : Int) : Int) := oD_; obtain ⟨fa, za, Aa, Ba, gl11, cl11, Ca⟩ := Kd.R_form da.out (by omega); (first | cases Aa | (injection Aa with ea_ en_ ec_; (first | subst ea_ | (injection ea_ with ea_; subst ea_)); subst ec_; clear en_)); have GB11 := A0_.mk Ba; have GG11 := A0_.mk Ca; clear Ba gl11 Ca; obtain ⟨ce11, hcl11, hM11, hcc11, hfr11⟩ := Kd.R_elem da.out z26 (aa : Int) p11 q11; obtain rfl := k26_openM hM11; have pb : w14.cell? ⟨fa, (aa : Int).toNat * 3, none⟩ = some (.bool ((r26_ ea aa).f0)) := hcc11 0 _ rfl; have qb : w14.cell? ⟨fa, (aa : Int).toNat * 3 + 1, none⟩ = some (.string ((r26_ ea aa).f1)) := hcc11 1 _ rfl; have rb : w14.cell? ⟨fa, (aa : Int).toNat * 3 + 2, none⟩ = some (.string ((r26_ ea aa).f2)) := hcc11 2 _ rfl; have sb : w14.frozen? ⟨fa, (aa : Int).toNat * 3, none⟩ = false := hfr11 0; have tb : w14.frozen? ⟨fa, (aa : Int).toNat * 3 + 1, none⟩ = false := hfr11 1; have ub : w14.frozen? ⟨fa, (aa : Int).toNat * 3 + 2, none⟩ = false := hfr11 2; clear hcl11 hcc11 hfr11 hM11; replace p11 := eq_true p11; replace q11 := eq_true q11; have HX15 := A0_.mk (show Kd.R k26 26 w14 w.heap.size (fun _ => True) (.slice (some ⟨fa, 0, none⟩) ea.length za) ea from (xR_ da.out)); obtain ⟨ce15, hcl15, hM15, hcc15, hfr15⟩ := Kd.R_elem HX15.out z26 (aa : Int) (oD_) (by have h_ : (aa : Int) < ((ea.length : Int) : Int) := oD_; first | exact h_ | (have e_ := (Kd.rr_' da.out).1; omega) | simpa using h_); obtain rfl := k26_openM hM15; have HP15 := Kd.R_seg HX15.out (aa : Int) (oD_) (by have h_ : (aa : Int) < ((ea.length : Int) : Int) := oD_; first | exact h_ | (have e_ := (Kd.rr_' da.out).1; omega) | simpa using h_) (seg := [.bool ga, .string ha, .string ia]) (j := 0) hcl15 hcc15 (show 3 ≤ 3 from by decide) (x' := (⟨ga, ha, ia⟩ : S26)) (k26_mkM _ _ _ (⟨ga, ha, ia⟩ : S26) ) (fun _ hk => hk); have Ma := hcc15 0 _ rfl; (try simp only [show (k26).sz = 3 from rfl, Nat.mul_one, Nat.add_zero] at Ma); have Na := hfr15 0; (try simp only [show (k26).sz = 3 from rfl, Nat.mul_one, Nat.add_zero] at Na); have Oa := hcc15 1 _ rfl; (try simp only [show (k26).sz = 3 from rfl, Nat.mul_one, Nat.add_zero] at Oa); have Pa := hfr15 1; (try simp only [show (k26).sz = 3 from rfl, Nat.mul_one, Nat.add_zero] at Pa); have Qa := hcc15 2 _ rfl; (try simp only [show (k26).sz = 3 from rfl, Nat.mul_one, Nat.add_zero] at Qa); have Ra := hfr15 2; (try simp only [show (k26).sz = 3 from rfl, Nat.mul_one, Nat.add_zero] at Ra); clear hcl15 hcc15 hfr15 hM15) | ((with_reducible refine gate_store (t := 26) (p := 22) rfl ?_); refine store_event (t := 26) (p := 22) (v := ?vo_w16) (w1 := (((w14.setCell ⟨fa, (aa : Int).toNat * 3, none⟩ (.bool ga)).setCell ⟨fa, (aa : Int).toNat * 3 + 1, none⟩ (.string ha)).setCell ⟨fa, (aa : Int).toNat * 3 + 2, none⟩ (.string ia))) ?hg ?ho ?hn ?hr ?_; (case ho => rfl); (case hg => rfl); (case hn => rfl); (case hr => first | (go_simp; done) | (go_simp; rfl)); intro w16 hw; have hg : w14.grownBy w16 (some fa) := (by rw [hw]; exact HP15.2); have hp_ : Kd.R k26 26 w16 w.heap.size (fun _ => True) (.slice (some ⟨fa, 0, none⟩) ea.length za) la := (by rw [hw, Ka.out]; exact HP15.1); clear HP15; have n0_ := A0_.mk (hp_); have n1_ := A0_.mk (blk_grown (g := ca) (o := .cells #[.int .i64 ((r28_ l0 aa).f0), .int .i64 ((r28_ l0 aa).f1), .bool ((r28_ l0 aa).f2.f0), .string ((r28_ l0 aa).f2.f1), .string ((r28_ l0 aa).f2.f2), .int .i64 ((r28_ l0 aa).f3), .int .i64 ((r28_ l0 aa).f4), .bool ((r28_ l0 aa).f5)] 28 (0, 0)) (xK_ ba.out) hg (Kd.R_ne da.out ba.out (by decide))); have n2_ := A0_.mk ((by rw [hw]; exact bS_ (bS_ (bS_ (HB.out) GB11.out) GB11.out) GB11.out : Below w.heap.size w w16)); clear da ba HB; have da := n0_; have ba := n1_; have HB := n2_; clear n0_ n1_ n2_; clear hg hw hp_))
    (try simp only [ap_])
    go_roundg k1
    case measure => have := HK1.out; omega
    case rel => exact ⟨(la), (wrap64 (aa + 1)), (rS_), H', ⟨by have := HK1.out; omega⟩, ⟨by (with_reducible repeat (first | apply Kd.R_alloc | apply Kd.rN_ | apply Kd.rD_)); exact da.out⟩, ⟨xB1_ HB ya⟩⟩
   ·rw [if_neg c6] at H
    have Ja : decide (aa < (l0.length : Int)) = false := decide_eq_false c6
    clear c6
    obtain rfl := Option.some.inj H
    go_wp2
    go_ret
    exact ⟨_, rE_, by (with_reducible repeat (first | apply Kd.R_alloc | apply Kd.rN_ | apply Kd.rD_)); exact da.out, xB_ HB⟩
def q_Sign.f (k : Nat) (a0_0 : Bool) (a0_1 : ByteArray) (a0_2 : ByteArray) : Option (Int) := (q_clean.f k a0_0 a0_1 a0_2).bind fun bt243 => ((q_signOf.f bt243.1 bt243.2.1 bt243.2.2).bind fun t246 => (some t246))
theorem q_Sign.mono : ∀ a0 a1 a2 k, LeO (q_Sign.f k a0 a1 a2) (q_Sign.f (k + 1) a0 a1 a2) := by
 intro a0 a1 a2 k
 unfold q_Sign.f
 repeat' first
   | (with_reducible first | exact q_clean.mono _ _ _ _ | exact LeO.refl _ | exact LeO.none _ | refine LeO.ite ?_ ?_ | refine LeO.bind ?_ (fun _ => ?_))
theorem q_Sign.calls (k : Nat) (a0_0 : Bool) (a0_1 : ByteArray) (a0_2 : ByteArray) (r : Int) (w : World) (h : q_Sign.f k a0_0 a0_1 a0_2 = some r) :
  Calls Tryd.prog 19 #[.agg #[.bool a0_0, .string a0_1, .string a0_2]] w fun e w' => e = .returned (.int .i64 r) ∧ Below w.heap.size w w' := by
 have hu26 := Tryd.underlying26
 have HB := A0_.mk (Below.refl w.heap.size w)
 have H := h
 unfold q_Sign.f at H
 clear h
 obtain ⟨⟨ca, da, ea⟩, A2, H⟩ := oB_ H
 (try dsimp only at H)
 obtain ⟨ga, A3, H⟩ := oB_ H
 (try dsimp only at H)
 obtain rfl := Option.some.inj H
 go_enter Tryd.func19, Tryd.ntmps19
 go_wp2_with (first | ((with_reducible refine gD_ (N := 1) rfl ?_); refine bE_ ?hg (N := 1) ?hd (cs := #[.bool a0_0, .string a0_1, .string a0_2]) (t := 26) ?hr ?_; (case hd => rfl); (case hg => rfl); (case hr => first | (go_simp; done) | (go_simp; rfl)); intro ba hg w4 hbox hb; have n0_ := A0_.mk (bT_ (xB_ HB) hb); have n1_ := A0_.mk (hbox); have n2_ := A0_.mk ((by rw [hg]; exact (bZ_ (xB_ HB)) : w.heap.size ≤ ba)); have n3_ := A0_.mk ((by rw [hg]; exact (bZ_ (xB_ HB)) : w.heap.size ≤ ba)); clear HB; have HB := n0_; have aa := n1_; have ha := n2_; have fa := n3_; clear n0_ n1_ n2_ n3_; clear hb hbox hg; have ia : w4.cell? ⟨ba, 0, none⟩ = some (.bool a0_0) := (kc_ aa.out 0).trans rfl; have ja : w4.cell? ⟨ba, 1, none⟩ = some (.string a0_1) := (kc_ aa.out 1).trans rfl; have ka : w4.cell? ⟨ba, 2, none⟩ = some (.string a0_2) := (kc_ aa.out 2).trans rfl; have la := kF_ aa.out 0; have ma := kF_ aa.out 1; have na := kF_ aa.out 2) | ((with_reducible refine gC_ (f := 43) rfl ?_); refine gL_ (some 4) rfl rfl Tryd.func43 kr_ rfl #[.agg #[.bool a0_0, .string a0_1, .string a0_2]] rfl mp_ ?_; (with_reducible refine (q_clean.calls k a0_0 a0_1 a0_2 ca da ea _ A2.out).mono ?_); rintro e w6 ⟨rfl, hb⟩; refine ⟨_, rfl, ?_⟩; have n0_ := A0_.mk (kB_ (g := ba) (o := .cells #[.bool a0_0, .string a0_1, .string a0_2] 26 (0, 0)) (xK_ aa.out) hb); have n1_ := A0_.mk (bT_ (xB1_ HB fa) hb); clear aa HB; have aa := n0_; have HB := n1_; clear n0_ n1_; (try clear hb); (try clear hb2); (try clear hk); (try clear hi)) | ((with_reducible refine gC_ (f := 42) rfl ?_); refine gL_ (some 5) rfl rfl Tryd.func42 kr_ rfl #[.agg #[.bool ca, .string da, .string ea]] rfl mp_ ?_; (with_reducible refine (q_signOf.calls ca da ea ga _ A3.out).mono ?_); rintro e w7 ⟨rfl, hb⟩; refine ⟨_, rfl, ?_⟩; have n0_ := A0_.mk (kB_ (g := ba) (o := .cells #[.bool a0_0, .string a0_1, .string a0_2] 26 (0, 0)) (xK_ aa.out) hb); have n1_ := A0_.mk (bT_ (xB1_ HB fa) hb); clear aa HB; have aa := n0_; have HB := n1_; clear n0_ n1_; (try clear hb); (try clear hb2); (try clear hk); (try clear hi)))
 go_ret
 exact ⟨rE_, xB1_ HB fa⟩
def so_isDay.f (a0 : Int) : Option (Bool) := if a0 ≥ 0 then (some (decide (a0 ≤ 1048576))) else (some false)
theorem so_isDay.calls (a0 : Int) (r : Bool) (w : World) (h : so_isDay.f a0 = some r) :
  Calls Tryd.prog 30 #[.int .i64 a0] w fun e w' => e = .returned (.bool r) ∧ D0_ w w' := by
 have H : (if a0 ≥ 0 then (some (decide (a0 ≤ 1048576))) else (some false)) = some r := h
 clear h
 by_cases c2 : a0 ≥ 0
 ·rw [if_pos c2] at H
  have aa : decide (0 ≤ a0) = true := decide_eq_true c2
  clear c2
  obtain rfl := Option.some.inj H
  go_enter Tryd.func30, Tryd.ntmps30
  go_wp2
  go_ret
  exact ⟨rS_, by repeat (first | exact D0_.refl _ | apply D0_.step)⟩
 ·rw [if_neg c2] at H
  have aa : decide (0 ≤ a0) = false := decide_eq_false c2
  clear c2
  obtain rfl := Option.some.inj H
  go_enter Tryd.func30, Tryd.ntmps30
  go_wp2
  go_ret
  exact ⟨rS_, by repeat (first | exact D0_.refl _ | apply D0_.step)⟩
def so_pair.f (a0 : Int) (a1 : Int) (a2 : Int) : Option (Bool) := if a1 ≥ 0 then (if a1 < a0 then (if a2 ≥ 0 then (if a2 < a0 then (some (a1 != a2)) else (some false)) else (some false)) else (some false)) else (some false)
theorem so_pair.calls (a0 : Int) (a1 : Int) (a2 : Int) (r : Bool) (w : World) (h : so_pair.f a0 a1 a2 = some r) :
  Calls Tryd.prog 32 #[.int .i64 a0, .int .i64 a1, .int .i64 a2] w fun e w' => e = .returned (.bool r) ∧ D0_ w w' := by
 have H := h
 unfold so_pair.f at H
 clear h
 by_cases c4 : a1 ≥ 0
 ·rw [if_pos c4] at H
  have aa : decide (0 ≤ a1) = true := decide_eq_true c4
  clear c4
  by_cases c5 : a1 < a0
  ·rw [if_pos c5] at H
   have ba : decide (a1 < a0) = true := decide_eq_true c5
   clear c5
   by_cases c6 : a2 ≥ 0
   ·rw [if_pos c6] at H
    have ca : decide (0 ≤ a2) = true := decide_eq_true c6
    clear c6
    by_cases c7 : a2 < a0
    ·rw [if_pos c7] at H
     have da : decide (a2 < a0) = true := decide_eq_true c7
     clear c7
     obtain rfl := Option.some.inj H
     go_enter Tryd.func32, Tryd.ntmps32
     go_wp2
     go_ret
     exact ⟨rS_, by repeat (first | exact D0_.refl _ | apply D0_.step)⟩
    ·rw [if_neg c7] at H
     have da : decide (a2 < a0) = false := decide_eq_false c7
     clear c7
     obtain rfl := Option.some.inj H
     go_enter Tryd.func32, Tryd.ntmps32
     go_wp2
     go_ret
     exact ⟨rS_, by repeat (first | exact D0_.refl _ | apply D0_.step)⟩
   ·rw [if_neg c6] at H
    have ca : decide (0 ≤ a2) = false := decide_eq_false c6
    clear c6
    obtain rfl := Option.some.inj H
    go_enter Tryd.func32, Tryd.ntmps32
    go_wp2
    go_ret
    exact ⟨rS_, by repeat (first | exact D0_.refl _ | apply D0_.step)⟩
  ·rw [if_neg c5] at H
   have ba : decide (a1 < a0) = false := decide_eq_false c5
   clear c5
   obtain rfl := Option.some.inj H
   go_enter Tryd.func32, Tryd.ntmps32
   go_wp2
   go_ret
   exact ⟨rS_, by repeat (first | exact D0_.refl _ | apply D0_.step)⟩
 ·rw [if_neg c4] at H
  have aa : decide (0 ≤ a1) = false := decide_eq_false c4
  clear c4
  obtain rfl := Option.some.inj H
  go_enter Tryd.func32, Tryd.ntmps32
  go_wp2
  go_ret
  exact ⟨rS_, by repeat (first | exact D0_.refl _ | apply D0_.step)⟩
mutual
def so_Check.j0 : Nat → Int → List (S28) → Bool → Option (Int)
 | 0, _, _, _ => none
 | k + 1, x0, x1, x7 => if x7 = true then (none) else (if (x1.length : Int) > 64 then (none) else (so_Check.l0 k x0 x1 (x1.length : Int) 0))
def so_Check.l0 : Nat → Int → List (S28) → Int → Int → Option (Int)
 | 0, _, _, _, _ => none
 | k + 1, x0, x18, x19, x20 => if x20 < x19 then (if 0 ≤ x20 then (if x20 < (x18.length : Int) then ((so_pair.f x0 ((r28_ x18 x20).f0) ((r28_ x18 x20).f1)).bind fun t249 => (if t249 = true then ((q_Sign.f k ((r28_ x18 x20).f2.f0) ((r28_ x18 x20).f2.f1) ((r28_ x18 x20).f2.f2)).bind fun t250 => (if t250 < 0 then (none) else ((so_isDay.f ((r28_ x18 x20).f3)).bind fun t251 => (if t251 = true then ((so_isDay.f ((r28_ x18 x20).f4)).bind fun t252 => (so_Check.j2 k x0 x18 x19 x20 (!t252) ((r28_ x18 x20).f0) ((r28_ x18 x20).f1) ((r28_ x18 x20).f2.f0) ((r28_ x18 x20).f2.f1) ((r28_ x18 x20).f2.f2) ((r28_ x18 x20).f3) ((r28_ x18 x20).f4) ((r28_ x18 x20).f5))) else (so_Check.j2 k x0 x18 x19 x20 true ((r28_ x18 x20).f0) ((r28_ x18 x20).f1) ((r28_ x18 x20).f2.f0) ((r28_ x18 x20).f2.f1) ((r28_ x18 x20).f2.f2) ((r28_ x18 x20).f3) ((r28_ x18 x20).f4) ((r28_ x18 x20).f5)))))) else (none))) else (none)) else (none)) else (some 0)
def so_Check.j2 : Nat → Int → List (S28) → Int → Int → Bool → Int → Int → Bool → ByteArray → ByteArray → Int → Int → Bool → Option (Int)
 | 0, _, _, _, _, _, _, _, _, _, _, _, _, _ => none
 | k + 1, x0, x18, x19, x20, x37, x249000, x249001, x249002, x249003, x249004, x249005, x249006, x249007 => if x37 = true then (none) else (if x249006 < x249005 then (none) else (so_Check.l0 k x0 x18 x19 (wrap64 (x20 + 1))))
end
def so_Check.f (k : Nat) (a0 : Int) (l1 : List (S28)) : Option (Int) := if a0 < 0 then (so_Check.j0 k a0 l1 true) else (so_Check.j0 k a0 l1 (decide (a0 > 32)))
theorem so_Check.mono_l : ∀ k, (∀ y0 y1 y2, LeO (so_Check.j0 k y0 y1 y2) (so_Check.j0 (k + 1) y0 y1 y2)) ∧ (∀ y0 y1 y2 y3, LeO (so_Check.l0 k y0 y1 y2 y3) (so_Check.l0 (k + 1) y0 y1 y2 y3)) ∧ (∀ y0 y1 y2 y3 y4 y5 y6 y7 y8 y9 y10 y11 y12, LeO (so_Check.j2 k y0 y1 y2 y3 y4 y5 y6 y7 y8 y9 y10 y11 y12) (so_Check.j2 (k + 1) y0 y1 y2 y3 y4 y5 y6 y7 y8 y9 y10 y11 y12))
 | 0 => ⟨fun _ _ _ r h => by simp [so_Check.j0] at h, fun _ _ _ _ r h => by simp [so_Check.l0] at h, fun _ _ _ _ _ _ _ _ _ _ _ _ _ r h => by simp [so_Check.j2] at h⟩
 | k + 1 => by
  obtain ⟨ih0, ih1, ih2⟩ := so_Check.mono_l k
  refine ⟨?_, ?_, ?_⟩
  ·intro y0 y1 y2
   unfold so_Check.j0
   repeat' first
   | (with_reducible first | exact ih0 _ _ _ | exact ih1 _ _ _ _ | exact ih2 _ _ _ _ _ _ _ _ _ _ _ _ _ | exact q_Sign.mono _ _ _ _ | exact LeO.refl _ | exact LeO.none _ | refine LeO.ite ?_ ?_ | refine LeO.bind ?_ (fun _ => ?_))
  ·intro y0 y1 y2 y3
   unfold so_Check.l0
   repeat' first
   | (with_reducible first | exact ih0 _ _ _ | exact ih1 _ _ _ _ | exact ih2 _ _ _ _ _ _ _ _ _ _ _ _ _ | exact q_Sign.mono _ _ _ _ | exact LeO.refl _ | exact LeO.none _ | refine LeO.ite ?_ ?_ | refine LeO.bind ?_ (fun _ => ?_))
  ·intro y0 y1 y2 y3 y4 y5 y6 y7 y8 y9 y10 y11 y12
   unfold so_Check.j2
   repeat' first
   | (with_reducible first | exact ih0 _ _ _ | exact ih1 _ _ _ _ | exact ih2 _ _ _ _ _ _ _ _ _ _ _ _ _ | exact q_Sign.mono _ _ _ _ | exact LeO.refl _ | exact LeO.none _ | refine LeO.ite ?_ ?_ | refine LeO.bind ?_ (fun _ => ?_))
theorem so_Check.mono : ∀ a0 a1 k, LeO (so_Check.f k a0 a1) (so_Check.f (k + 1) a0 a1) := by
 intro a0 a1 k
 obtain ⟨ih0, ih1, ih2⟩ := so_Check.mono_l k
 unfold so_Check.f
 repeat' first
   | (with_reducible first | exact ih0 _ _ _ | exact ih1 _ _ _ _ | exact ih2 _ _ _ _ _ _ _ _ _ _ _ _ _ | exact q_Sign.mono _ _ _ _ | exact LeO.refl _ | exact LeO.none _ | refine LeO.ite ?_ ?_ | refine LeO.bind ?_ (fun _ => ?_))
theorem so_Check.calls (k : Nat) (a0 : Int) (A1 : Option Addr) (c1 : Nat) (l1 : List (S28)) (r : Int) (w : World) (hr1 : Kd.C k28 w A1 l1.length l1) (hc1 : l1.length ≤ c1) (h : so_Check.f k a0 l1 = some r) :
  Calls Tryd.prog 15 #[.int .i64 a0, .slice A1 l1.length c1] w fun e w' => e = .returned (.int .i64 r) ∧ Below w.heap.size w w' := by
 have hu28 := Tryd.underlying28
 have hu26 := Tryd.underlying26
 have HR1 := A0_.mk hr1
 have HC1 := A0_.mk hc1
 clear hr1 hc1
 have HB := A0_.mk (Below.refl w.heap.size w)
 have H := h
 unfold so_Check.f at H
 clear h
 have HC3 := A0_.mk H
 clear H
 go_enter Tryd.func15, Tryd.ntmps15
 go_upto_region 1 with (fail)
 go_cut [7] (fun v7 wc => ∃ (kq : Nat) (ga : Bool), v7 = .bool ga ∧ A0_ (so_Check.j0 kq a0 l1 ga = some r) ∧ A0_ (kq ≤ k) ∧ A0_ (Below w.heap.size w wc))
 case first =>
  have H := HC3.out
  clear HC3
  by_cases c4 : a0 < 0
  ·rw [if_pos c4] at H
   have da : decide (a0 < 0) = true := decide_eq_true c4
   clear c4
   (first | rw [da] | rw [ha] | (simp only [i6_, i3_]; rw [da]) | skip)
   have H' := A0_.mk H
   clear H
   go_wp2
   go_meet
   case rel => exact ⟨_, (true), (rS_), H', ⟨by first | omega | exact Nat.le_refl _⟩, ⟨xB_ HB⟩⟩
  ·rw [if_neg c4] at H
   have da : decide (a0 < 0) = false := decide_eq_false c4
   clear c4
   (first | rw [da] | rw [ha] | (simp only [i6_, i3_]; rw [da]) | skip)
   have H' := A0_.mk H
   clear H
   go_wp2
   go_meet
   case rel => exact ⟨_, (decide (a0 > 32)), (rS_), H', ⟨by first | omega | exact Nat.le_refl _⟩, ⟨xB_ HB⟩⟩
 case rest =>
  clear HC3
  try clear c1
  try clear p2
  try clear c4
  try clear da
  try clear ha
  obtain ⟨kq, ga, rfl, HA, HJ2, HB⟩ := hcut
  cases kq with
  | zero => exact absurd HA.out (by simp [so_Check.j0])
  | succ kj2 =>
   have H := HA.out
   clear HA
   simp only [so_Check.j0] at H
   by_cases c5 : ga = true
   ·subst c5
    have H1 : (none) = some r := by rw [if_pos rfl] at H; exact H
    clear H
    have H := H1
    clear H1
    exact absurd H (by simp)
   ·replace c5 := Bool.eq_false_iff.mpr c5
    subst c5
    have H1 : (if (l1.length : Int) > 64 then (none) else (so_Check.l0 kj2 a0 l1 (l1.length : Int) 0)) = some r := by rw [if_neg (show ¬ (false = true) by decide)] at H; exact H
    clear H
    have H := H1
    clear H1
    by_cases c6 : (l1.length : Int) > 64
    ·rw [if_pos c6] at H
     have ua : decide (64 < (l1.length : Int)) = true := decide_eq_true c6
     have va : decide (64 < l1.length) = true := decide_eq_true (by omega)
     clear c6
     exact absurd H (by simp)
    ·rw [if_neg c6] at H
     have ua : decide (64 < (l1.length : Int)) = false := decide_eq_false c6
     have va : decide (64 < l1.length) = false := decide_eq_false (by omega)
     clear c6
     have H' := A0_.mk H
     clear H
     go_wp2
     go_loopg [20] kj2 (fun kq v20 w' => ∃ (aa : Int), v20 = .int .i64 aa ∧ A0_ (so_Check.l0 kq a0 l1 (l1.length : Int) aa = some r) ∧ A0_ (kq ≤ kj2) ∧ A0_ (Below w.heap.size w w'))
     case atStart => exact ⟨(0), (rS_), H', ⟨Nat.le_refl _⟩, ⟨xB_ HB⟩⟩
     case round =>
      clear H'
      try clear c1
      try clear p2
      try clear c4
      try clear da
      try clear ha
      try clear c5
      try clear c6
      try clear ua
      try clear va
      try clear p2
      obtain ⟨aa, rfl, HA, HK2, HB⟩ := hrel
      cases gk with
      | zero => exact absurd HA.out (by simp [so_Check.l0])
      | succ k2 =>
       have H := HA.out
       clear HA
       simp only [so_Check.l0] at H
       by_cases c7 : aa < (l1.length : Int)
       ·rw [if_pos c7] at H
        have xa : decide (aa < (l1.length : Int)) = true := decide_eq_true c7
        clear c7
        by_cases c8 : 0 ≤ aa
        rotate_left
        ·rw [if_neg c8] at H
         exact absurd H (by simp)
        rw [if_pos c8] at H
        have za : decide (0 ≤ aa) = true := decide_eq_true c8
        clear c8
        by_cases c9 : aa < (l1.length : Int)
        rotate_left
        ·rw [if_neg c9] at H
         exact absurd H (by simp)
        rw [if_pos c9] at H
        have Aa : decide (aa < (l1.length : Int)) = true := decide_eq_true c9
        clear c9
        obtain ⟨Ba, A10, H⟩ := oB_ H
        (try dsimp only at H)
        by_cases c11 : Ba = true
        ·subst c11
         have H1 : ((q_Sign.f k2 ((r28_ l1 aa).f2.f0) ((r28_ l1 aa).f2.f1) ((r28_ l1 aa).f2.f2)).bind fun ea => (if ea < 0 then (none) else ((so_isDay.f ((r28_ l1 aa).f3)).bind fun wa => (if wa = true then ((so_isDay.f ((r28_ l1 aa).f4)).bind fun fa => (so_Check.j2 k2 a0 l1 (l1.length : Int) aa (!fa) ((r28_ l1 aa).f0) ((r28_ l1 aa).f1) ((r28_ l1 aa).f2.f0) ((r28_ l1 aa).f2.f1) ((r28_ l1 aa).f2.f2) ((r28_ l1 aa).f3) ((r28_ l1 aa).f4) ((r28_ l1 aa).f5))) else (so_Check.j2 k2 a0 l1 (l1.length : Int) aa true ((r28_ l1 aa).f0) ((r28_ l1 aa).f1) ((r28_ l1 aa).f2.f0) ((r28_ l1 aa).f2.f1) ((r28_ l1 aa).f2.f2) ((r28_ l1 aa).f3) ((r28_ l1 aa).f4) ((r28_ l1 aa).f5)))))) = some r := by rw [if_pos rfl] at H; exact H
         clear H
         have H := H1
         clear H1
         obtain ⟨ea, A12, H⟩ := oB_ H
         (try dsimp only at H)
         by_cases c13 : ea < 0
         ·rw [if_pos c13] at H
          have ya : decide (ea < 0) = true := decide_eq_true c13
          clear c13
          exact absurd H (by simp)
         ·rw [if_neg c13] at H
          have ya : decide (ea < 0) = false := decide_eq_false c13
          clear c13
          have HC17 := A0_.mk H
          clear H
          have ia : 0 ≤ (aa : Int) := oD_
          have ja : aa < (l1.length : Int) := oD_
          obtain ⟨Cb, Ca, ka, la, ma, na, oa, pa, qa, ra⟩ := at_T28 HR1.out aa ia ja
          cases Ca
          (try replace ka := cT_ HB ka)
          (try replace la := cT_ HB la)
          (try replace ma := cT_ HB ma)
          (try replace na := cT_ HB na)
          (try replace oa := cT_ HB oa)
          (try replace pa := cT_ HB pa)
          (try replace qa := cT_ HB qa)
          (try replace ra := cT_ HB ra)
          replace ia := eq_true ia
          replace ja := eq_true ja
          go_upto_region 12 with (first | ((with_reducible refine gD_ (N := 6) rfl ?_); refine bE_ ?hg (N := 6) ?hd (cs := #[.int .i64 0, .int .i64 0, .bool false, .string (⟨#[]⟩ : ByteArray), .string (⟨#[]⟩ : ByteArray), .int .i64 0, .int .i64 0, .bool false]) (t := 28) ?hr ?_; (case hd => rfl); (case hg => rfl); (case hr => first | (go_simp; done) | (go_simp; rfl)); intro ca hg w18 hbox hb; have n0_ := A0_.mk (bT_ (xB_ HB) hb); have n1_ := A0_.mk (hbox); have n2_ := A0_.mk ((by rw [hg]; exact (bZ_ (xB_ HB)) : w.heap.size ≤ ca)); have n3_ := A0_.mk ((by rw [hg]; exact (bZ_ (xB_ HB)) : w.heap.size ≤ ca)); clear HB; have HB := n0_; have ba := n1_; have Db := n2_; have sa := n3_; clear n0_ n1_ n2_ n3_; clear hb hbox hg; have Da : w18.cell? ⟨ca, 0, none⟩ = some (.int .i64 0) := (kc_ ba.out 0).trans rfl; have Ea : w18.cell? ⟨ca, 1, none⟩ = some (.int .i64 0) := (kc_ ba.out 1).trans rfl; have Fa : w18.cell? ⟨ca, 2, none⟩ = some (.bool false) := (kc_ ba.out 2).trans rfl; have Ga : w18.cell? ⟨ca, 3, none⟩ = some (.string (⟨#[]⟩ : ByteArray)) := (kc_ ba.out 3).trans rfl; have Ha : w18.cell? ⟨ca, 4, none⟩ = some (.string (⟨#[]⟩ : ByteArray)) := (kc_ ba.out 4).trans rfl; have Ia : w18.cell? ⟨ca, 5, none⟩ = some (.int .i64 0) := (kc_ ba.out 5).trans rfl; have Ja : w18.cell? ⟨ca, 6, none⟩ = some (.int .i64 0) := (kc_ ba.out 6).trans rfl; have Ka : w18.cell? ⟨ca, 7, none⟩ = some (.bool false) := (kc_ ba.out 7).trans rfl; have La := kF_ ba.out 0; have Ma := kF_ ba.out 1; have Na := kF_ ba.out 2; have Oa := kF_ ba.out 3; have Pa := kF_ ba.out 4; have Qa := kF_ ba.out 5; have Ra := kF_ ba.out 6; have Sa := kF_ ba.out 7) | ((with_reducible refine gC_ (f := 32) rfl ?_); refine gL_ (some 30) rfl rfl Tryd.func32 kr_ rfl #[.int .i64 a0, .int .i64 ((r28_ l1 aa).f0), .int .i64 ((r28_ l1 aa).f1)] rfl mp_ ?_; (with_reducible refine (so_pair.calls a0 ((r28_ l1 aa).f0) ((r28_ l1 aa).f1) true _ A10.out).mono ?_); rintro e w' ⟨rfl, ⟨nd, rfl⟩⟩; refine ⟨_, rfl, ?_⟩) | ((with_reducible refine gC_ (f := 19) rfl ?_); refine gL_ (some 35) rfl rfl Tryd.func19 kr_ rfl #[.agg #[.bool ((r28_ l1 aa).f2.f0), .string ((r28_ l1 aa).f2.f1), .string ((r28_ l1 aa).f2.f2)]] rfl mp_ ?_; (with_reducible refine (q_Sign.calls k2 ((r28_ l1 aa).f2.f0) ((r28_ l1 aa).f2.f1) ((r28_ l1 aa).f2.f2) ea _ A12.out).mono ?_); rintro e w20 ⟨rfl, hb⟩; refine ⟨_, rfl, ?_⟩; have n0_ := A0_.mk (kB_ (g := ca) (o := .cells #[.int .i64 ((r28_ l1 aa).f0), .int .i64 ((r28_ l1 aa).f1), .bool ((r28_ l1 aa).f2.f0), .string ((r28_ l1 aa).f2.f1), .string ((r28_ l1 aa).f2.f2), .int .i64 ((r28_ l1 aa).f3), .int .i64 ((r28_ l1 aa).f4), .bool ((r28_ l1 aa).f5)] 28 (0, 0)) (by (with_reducible repeat (first | apply kN_ | apply kD_ | apply kA_)); refine kP_ (cs := #[.int .i64 ((r28_ l1 aa).f0), .int .i64 ((r28_ l1 aa).f1), .bool ((r28_ l1 aa).f2.f0), .string ((r28_ l1 aa).f2.f1), .string ((r28_ l1 aa).f2.f2), .int .i64 ((r28_ l1 aa).f3), .int .i64 ((r28_ l1 aa).f4), .bool false]) ?_ 7 _ rfl; (with_reducible repeat (first | apply kN_ | apply kD_ | apply kA_)); refine kP_ (cs := #[.int .i64 ((r28_ l1 aa).f0), .int .i64 ((r28_ l1 aa).f1), .bool ((r28_ l1 aa).f2.f0), .string ((r28_ l1 aa).f2.f1), .string ((r28_ l1 aa).f2.f2), .int .i64 ((r28_ l1 aa).f3), .int .i64 0, .bool false]) ?_ 6 _ rfl; (with_reducible repeat (first | apply kN_ | apply kD_ | apply kA_)); refine kP_ (cs := #[.int .i64 ((r28_ l1 aa).f0), .int .i64 ((r28_ l1 aa).f1), .bool ((r28_ l1 aa).f2.f0), .string ((r28_ l1 aa).f2.f1), .string ((r28_ l1 aa).f2.f2), .int .i64 0, .int .i64 0, .bool false]) ?_ 5 _ rfl; (with_reducible repeat (first | apply kN_ | apply kD_ | apply kA_)); refine kP_ (cs := #[.int .i64 ((r28_ l1 aa).f0), .int .i64 ((r28_ l1 aa).f1), .bool ((r28_ l1 aa).f2.f0), .string ((r28_ l1 aa).f2.f1), .string (⟨#[]⟩ : ByteArray), .int .i64 0, .int .i64 0, .bool false]) ?_ 4 _ rfl; (with_reducible repeat (first | apply kN_ | apply kD_ | apply kA_)); refine kP_ (cs := #[.int .i64 ((r28_ l1 aa).f0), .int .i64 ((r28_ l1 aa).f1), .bool ((r28_ l1 aa).f2.f0), .string (⟨#[]⟩ : ByteArray), .string (⟨#[]⟩ : ByteArray), .int .i64 0, .int .i64 0, .bool false]) ?_ 3 _ rfl; (with_reducible repeat (first | apply kN_ | apply kD_ | apply kA_)); refine kP_ (cs := #[.int .i64 ((r28_ l1 aa).f0), .int .i64 ((r28_ l1 aa).f1), .bool false, .string (⟨#[]⟩ : ByteArray), .string (⟨#[]⟩ : ByteArray), .int .i64 0, .int .i64 0, .bool false]) ?_ 2 _ rfl; (with_reducible repeat (first | apply kN_ | apply kD_ | apply kA_)); refine kP_ (cs := #[.int .i64 ((r28_ l1 aa).f0), .int .i64 0, .bool false, .string (⟨#[]⟩ : ByteArray), .string (⟨#[]⟩ : ByteArray), .int .i64 0, .int .i64 0, .bool false]) ?_ 1 _ rfl; (with_reducible repeat (first | apply kN_ | apply kD_ | apply kA_)); refine kP_ (cs := #[.int .i64 0, .int .i64 0, .bool false, .string (⟨#[]⟩ : ByteArray), .string (⟨#[]⟩ : ByteArray), .int .i64 0, .int .i64 0, .bool false]) ?_ 0 _ rfl; (with_reducible repeat (first | apply kN_ | apply kD_ | apply kA_)); exact ba.out) hb); have n1_ := A0_.mk (bT_ (xB1_ HB sa) hb); clear ba HB; have ba := n0_; have HB := n1_; clear n0_ n1_; (try clear hb); (try clear hb2); (try clear hk); (try clear hi)))
          (try simp only [Act.put, s1_, s2_, s3_])
          go_cut [37] (fun v37 wc => ∃ (kq : Nat) (ta : Bool), v37 = .bool ta ∧ A0_ (so_Check.j2 kq a0 l1 (l1.length : Int) aa ta ((r28_ l1 aa).f0) ((r28_ l1 aa).f1) ((r28_ l1 aa).f2.f0) ((r28_ l1 aa).f2.f1) ((r28_ l1 aa).f2.f2) ((r28_ l1 aa).f3) ((r28_ l1 aa).f4) ((r28_ l1 aa).f5) = some r) ∧ A0_ (kq ≤ k2) ∧ A0_ (wc.heap[ca]? = some (.cells #[.int .i64 ((r28_ l1 aa).f0), .int .i64 ((r28_ l1 aa).f1), .bool ((r28_ l1 aa).f2.f0), .string ((r28_ l1 aa).f2.f1), .string ((r28_ l1 aa).f2.f2), .int .i64 ((r28_ l1 aa).f3), .int .i64 ((r28_ l1 aa).f4), .bool ((r28_ l1 aa).f5)] 28 (0, 0))) ∧ A0_ (Below w.heap.size w wc))
          case first =>
           have H := HC17.out
           clear HC17
           obtain ⟨wa, A21, H⟩ := oB_ H
           (try dsimp only at H)
           by_cases c22 : wa = true
           ·subst c22
            have H1 : ((so_isDay.f ((r28_ l1 aa).f4)).bind fun fa => (so_Check.j2 k2 a0 l1 (l1.length : Int) aa (!fa) ((r28_ l1 aa).f0) ((r28_ l1 aa).f1) ((r28_ l1 aa).f2.f0) ((r28_ l1 aa).f2.f1) ((r28_ l1 aa).f2.f2) ((r28_ l1 aa).f3) ((r28_ l1 aa).f4) ((r28_ l1 aa).f5))) = some r := by rw [if_pos rfl] at H; exact H
            clear H
            have H := H1
            clear H1
            obtain ⟨fa, A23, H⟩ := oB_ H
            (try dsimp only at H)
            have H' := A0_.mk H
            clear H
            have Ta : w20.cell? ⟨ca, 0, none⟩ = some (.int .i64 ((r28_ l1 aa).f0)) := (kc_ ba.out 0).trans rfl
            have Ua : w20.cell? ⟨ca, 1, none⟩ = some (.int .i64 ((r28_ l1 aa).f1)) := (kc_ ba.out 1).trans rfl
            have Va : w20.cell? ⟨ca, 2, none⟩ = some (.bool ((r28_ l1 aa).f2.f0)) := (kc_ ba.out 2).trans rfl
            have Wa : w20.cell? ⟨ca, 3, none⟩ = some (.string ((r28_ l1 aa).f2.f1)) := (kc_ ba.out 3).trans rfl
            have Xa : w20.cell? ⟨ca, 4, none⟩ = some (.string ((r28_ l1 aa).f2.f2)) := (kc_ ba.out 4).trans rfl
            have Ya : w20.cell? ⟨ca, 5, none⟩ = some (.int .i64 ((r28_ l1 aa).f3)) := (kc_ ba.out 5).trans rfl
            have Za : w20.cell? ⟨ca, 6, none⟩ = some (.int .i64 ((r28_ l1 aa).f4)) := (kc_ ba.out 6).trans rfl
            have ab : w20.cell? ⟨ca, 7, none⟩ = some (.bool ((r28_ l1 aa).f5)) := (kc_ ba.out 7).trans rfl
            have bb := kF_ ba.out 0
            have cb := kF_ ba.out 1
            have db := kF_ ba.out 2
            have eb := kF_ ba.out 3
            have fb := kF_ ba.out 4
            have gb := kF_ ba.out 5
            have ib := kF_ ba.out 6
            have jb := kF_ ba.out 7
            go_wp2_with (first | ((with_reducible refine gC_ (f := 30) rfl ?_); refine gL_ (some 40) rfl rfl Tryd.func30 kr_ rfl #[.int .i64 ((r28_ l1 aa).f3)] rfl mp_ ?_; (with_reducible refine (so_isDay.calls ((r28_ l1 aa).f3) true _ A21.out).mono ?_); rintro e w' ⟨rfl, ⟨nd, rfl⟩⟩; refine ⟨_, rfl, ?_⟩) | (go_at_call 30; (with_reducible refine (so_isDay.calls ((r28_ l1 aa).f4) fa _ A23.out).mono ?_); rintro e w' ⟨rfl, ⟨nd, rfl⟩⟩))
            go_meet
            case rel => exact ⟨_, (!fa), (rS_), H', ⟨by have := HJ2.out; have := HK2.out; first | omega | exact Nat.le_refl _⟩, ⟨by (with_reducible repeat (first | apply kN_ | apply kD_ | apply kA_)); exact ba.out⟩, ⟨xB1_ HB sa⟩⟩
           ·replace c22 := Bool.eq_false_iff.mpr c22
            subst c22
            have H1 : (so_Check.j2 k2 a0 l1 (l1.length : Int) aa true ((r28_ l1 aa).f0) ((r28_ l1 aa).f1) ((r28_ l1 aa).f2.f0) ((r28_ l1 aa).f2.f1) ((r28_ l1 aa).f2.f2) ((r28_ l1 aa).f3) ((r28_ l1 aa).f4) ((r28_ l1 aa).f5)) = some r := by rw [if_neg (show ¬ (false = true) by decide)] at H; exact H
            clear H
            have H := H1
            clear H1
            have H' := A0_.mk H
            clear H
            have kb : w20.cell? ⟨ca, 0, none⟩ = some (.int .i64 ((r28_ l1 aa).f0)) := (kc_ ba.out 0).trans rfl
            have mb : w20.cell? ⟨ca, 1, none⟩ = some (.int .i64 ((r28_ l1 aa).f1)) := (kc_ ba.out 1).trans rfl
            have nb : w20.cell? ⟨ca, 2, none⟩ = some (.bool ((r28_ l1 aa).f2.f0)) := (kc_ ba.out 2).trans rfl
            have ob : w20.cell? ⟨ca, 3, none⟩ = some (.string ((r28_ l1 aa).f2.f1)) := (kc_ ba.out 3).trans rfl
            have pb : w20.cell? ⟨ca, 4, none⟩ = some (.string ((r28_ l1 aa).f2.f2)) := (kc_ ba.out 4).trans rfl
            have qb : w20.cell? ⟨ca, 5, none⟩ = some (.int .i64 ((r28_ l1 aa).f3)) := (kc_ ba.out 5).trans rfl
            have rb : w20.cell? ⟨ca, 6, none⟩ = some (.int .i64 ((r28_ l1 aa).f4)) := (kc_ ba.out 6).trans rfl
            have sb : w20.cell? ⟨ca, 7, none⟩ = some (.bool ((r28_ l1 aa).f5)) := (kc_ ba.out 7).trans rfl
            have tb := kF_ ba.out 0
            have ub := kF_ ba.out 1
            have vb := kF_ ba.out 2
            have wb := kF_ ba.out 3
            have xb := kF_ ba.out 4
            have yb := kF_ ba.out 5
            have zb := kF_ ba.out 6
            have Ab := kF_ ba.out 7
            go_wp2_with (first | ((with_reducible refine gC_ (f := 30) rfl ?_); refine gL_ (some 40) rfl rfl Tryd.func30 kr_ rfl #[.int .i64 ((r28_ l1 aa).f3)] rfl mp_ ?_; (with_reducible refine (so_isDay.calls ((r28_ l1 aa).f3) false _ A21.out).mono ?_); rintro e w' ⟨rfl, ⟨nd, rfl⟩⟩; refine ⟨_, rfl, ?_⟩))
            go_meet
            case rel => exact ⟨_, (true), (rS_), H', ⟨by have := HJ2.out; have := HK2.out; first | omega | exact Nat.le_refl _⟩, ⟨by (with_reducible repeat (first | apply kN_ | apply kD_ | apply kA_)); exact ba.out⟩, ⟨xB1_ HB sa⟩⟩
          case rest =>
           clear HC17
           try clear c1
           try clear c2
           try clear p2
           try clear q2
           try clear hx2
           try clear c3
           try clear c4
           try clear da
           try clear ha
           try clear c5
           try clear c6
           try clear ua
           try clear va
           try clear c7
           try clear xa
           try clear c8
           try clear za
           try clear c9
           try clear Aa
           try clear c11
           try clear c13
           try clear ya
           try clear c15
           try clear c19
           try clear c22
           try clear p24
           try clear q24
           try clear Eb
           try clear Fb
           try clear Gb
           try clear Hb
           try clear Ib
           try clear Jb
           try clear Kb
           try clear Lb
           try clear Mb
           try clear Da
           try clear Ea
           try clear Fa
           try clear Ga
           try clear Ha
           try clear Ia
           try clear Ja
           try clear Ka
           try clear Ta
           try clear Ua
           try clear Va
           try clear Wa
           try clear Xa
           try clear Ya
           try clear Za
           try clear ab
           try clear kb
           try clear mb
           try clear nb
           try clear ob
           try clear pb
           try clear qb
           try clear rb
           try clear sb
           try clear Nb
           try clear Ob
           try clear Pb
           try clear Qb
           try clear Rb
           try clear Sb
           try clear Tb
           try clear Ub
           try clear La
           try clear Ma
           try clear Na
           try clear Oa
           try clear Pa
           try clear Qa
           try clear Ra
           try clear Sa
           try clear bb
           try clear cb
           try clear db
           try clear eb
           try clear fb
           try clear gb
           try clear ib
           try clear jb
           try clear tb
           try clear ub
           try clear vb
           try clear wb
           try clear xb
           try clear yb
           try clear zb
           try clear Ab
           try clear ka
           try clear la
           try clear ma
           try clear na
           try clear oa
           try clear pa
           try clear qa
           try clear ra
           try clear p2
           try clear ia
           try clear ja
           obtain ⟨kq, ta, rfl, HA, HJ16, ba, HB⟩ := hcut
           cases kq with
           | zero => exact absurd HA.out (by simp [so_Check.j2])
           | succ kj16 =>
            have H := HA.out
            clear HA
            simp only [so_Check.j2] at H
            by_cases c26 : ta = true
            ·subst c26
             have H1 : (none) = some r := by rw [if_pos rfl] at H; exact H
             clear H
             have H := H1
             clear H1
             exact absurd H (by simp)
            ·replace c26 := Bool.eq_false_iff.mpr c26
             subst c26
             have H1 : (if ((r28_ l1 aa).f4) < ((r28_ l1 aa).f3) then (none) else (so_Check.l0 kj16 a0 l1 (l1.length : Int) (wrap64 (aa + 1)))) = some r := by rw [if_neg (show ¬ (false = true) by decide)] at H; exact H
             clear H
             have H := H1
             clear H1
             by_cases c27 : ((r28_ l1 aa).f4) < ((r28_ l1 aa).f3)
             ·rw [if_pos c27] at H
              have Bb : decide (((r28_ l1 aa).f4) < ((r28_ l1 aa).f3)) = true := decide_eq_true c27
              clear c27
              exact absurd H (by simp)
             ·rw [if_neg c27] at H
              have Bb : decide (((r28_ l1 aa).f4) < ((r28_ l1 aa).f3)) = false := decide_eq_false c27
              clear c27
              have H' := A0_.mk H
              clear H
              have Vb : wc.cell? ⟨ca, 0, none⟩ = some (.int .i64 ((r28_ l1 aa).f0)) := (kc_ ba.out 0).trans rfl
              have Wb : wc.cell? ⟨ca, 1, none⟩ = some (.int .i64 ((r28_ l1 aa).f1)) := (kc_ ba.out 1).trans rfl
              have Xb : wc.cell? ⟨ca, 2, none⟩ = some (.bool ((r28_ l1 aa).f2.f0)) := (kc_ ba.out 2).trans rfl
              have Yb : wc.cell? ⟨ca, 3, none⟩ = some (.string ((r28_ l1 aa).f2.f1)) := (kc_ ba.out 3).trans rfl
              have Zb : wc.cell? ⟨ca, 4, none⟩ = some (.string ((r28_ l1 aa).f2.f2)) := (kc_ ba.out 4).trans rfl
              have ac : wc.cell? ⟨ca, 5, none⟩ = some (.int .i64 ((r28_ l1 aa).f3)) := (kc_ ba.out 5).trans rfl
              have bc : wc.cell? ⟨ca, 6, none⟩ = some (.int .i64 ((r28_ l1 aa).f4)) := (kc_ ba.out 6).trans rfl
              have cc : wc.cell? ⟨ca, 7, none⟩ = some (.bool ((r28_ l1 aa).f5)) := (kc_ ba.out 7).trans rfl
              have dc := kF_ ba.out 0
              have ec := kF_ ba.out 1
              have fc := kF_ ba.out 2
              have gc := kF_ ba.out 3
              have hc := kF_ ba.out 4
              have ic := kF_ ba.out 5
              have jc := kF_ ba.out 6
              have kc := kF_ ba.out 7
              go_wp2
              (try simp only [ap_])
              go_roundg kj16
              case measure => have := HJ2.out; have := HK2.out; have := HJ16.out; omega
              case rel => exact ⟨(wrap64 (aa + 1)), (rS_), H', ⟨by have := HJ2.out; have := HK2.out; have := HJ16.out; omega⟩, ⟨xB1_ HB sa⟩⟩
        ·replace c11 := Bool.eq_false_iff.mpr c11
         subst c11
         have H1 : (none) = some r := by rw [if_neg (show ¬ (false = true) by decide)] at H; exact H
         clear H
         have H := H1
         clear H1
         exact absurd H (by simp)
       ·rw [if_neg c7] at H
        have xa : decide (aa < (l1.length : Int)) = false := decide_eq_false c7
        clear c7
        obtain rfl := Option.some.inj H
        go_wp2
        go_ret
        exact ⟨rE_, xB_ HB⟩
def so_check.f (k : Nat) (a0 : Int) (l1 : List (S28)) (a2 : Int) (a3 : Int) : Option (Int) := (so_Check.f k a0 l1).bind fun t253 => (if t253 = 0 then ((so_isDay.f a2).bind fun t254 => (if t254 = true then ((so_isDay.f a3).bind fun t255 => (if t255 = true then (some 0) else (none))) else (none))) else (none))
theorem so_check.mono : ∀ a0 a1 a2 a3 k, LeO (so_check.f k a0 a1 a2 a3) (so_check.f (k + 1) a0 a1 a2 a3) := by
 intro a0 a1 a2 a3 k
 unfold so_check.f
 repeat' first
   | (with_reducible first | exact so_Check.mono _ _ _ | exact LeO.refl _ | exact LeO.none _ | refine LeO.ite ?_ ?_ | refine LeO.bind ?_ (fun _ => ?_))
theorem so_check.calls (k : Nat) (a0 : Int) (A1 : Option Addr) (c1 : Nat) (l1 : List (S28)) (a2 : Int) (a3 : Int) (r : Int) (w : World) (hr1 : Kd.C k28 w A1 l1.length l1) (hc1 : l1.length ≤ c1) (h : so_check.f k a0 l1 a2 a3 = some r) :
  Calls Tryd.prog 36 #[.int .i64 a0, .slice A1 l1.length c1, .int .i64 a2, .int .i64 a3] w fun e w' => e = .returned (.int .i64 r) ∧ Below w.heap.size w w' := by
 have HR1 := A0_.mk hr1
 have HC1 := A0_.mk hc1
 clear hr1 hc1
 have HB := A0_.mk (Below.refl w.heap.size w)
 have H := h
 unfold so_check.f at H
 clear h
 obtain ⟨aa, A5, H⟩ := oB_ H
 (try dsimp only at H)
 by_cases c6 : aa = 0
 ·rw [if_pos c6] at H
  have ca : (aa == 0) = true := beq_iff_eq.mpr c6
  have da : (aa != 0) = false := bne_eq_false_iff_eq.mpr c6
  clear c6
  obtain ⟨ea, A7, H⟩ := oB_ H
  (try dsimp only at H)
  by_cases c8 : ea = true
  ·subst c8
   have H1 : ((so_isDay.f a3).bind fun ba => (if ba = true then (some 0) else (none))) = some r := by rw [if_pos rfl] at H; exact H
   clear H
   have H := H1
   clear H1
   obtain ⟨ba, A9, H⟩ := oB_ H
   (try dsimp only at H)
   by_cases c10 : ba = true
   ·subst c10
    have H1 : (some 0) = some r := by rw [if_pos rfl] at H; exact H
    clear H
    have H := H1
    clear H1
    obtain rfl := Option.some.inj H
    go_enter Tryd.func36, Tryd.ntmps36
    go_wp2_with (first | ((with_reducible refine gC_ (f := 15) rfl ?_); refine gL_ (some 12) rfl rfl Tryd.func15 kr_ rfl #[.int .i64 a0, .slice A1 l1.length c1] rfl mp_ ?_; (with_reducible refine (so_Check.calls k a0 _ _ l1 aa _ ?side1 ?side2 A5.out).mono ?_); (case side1 => repeat (first | exact HR1.out | (with_reducible refine Kd.C_alloc ?_ _) | (with_reducible refine Kd.C_drewN ?_ _) | (with_reducible refine Kd.C_drew ?_))); (case side2 => exact HC1.out); rintro e w11 ⟨rfl, hb⟩; refine ⟨_, rfl, ?_⟩; have n0_ := A0_.mk (bT_ (xB_ HB) hb); clear HB; have HB := n0_; clear n0_; (try clear hb); (try clear hb2); (try clear hk); (try clear hi)) | ((with_reducible refine gC_ (f := 30) rfl ?_); refine gL_ (some 17) rfl rfl Tryd.func30 kr_ rfl #[.int .i64 a2] rfl mp_ ?_; (with_reducible refine (so_isDay.calls a2 true _ A7.out).mono ?_); rintro e w' ⟨rfl, ⟨nd, rfl⟩⟩; refine ⟨_, rfl, ?_⟩) | (go_at_call 30; (with_reducible refine (so_isDay.calls a3 true _ A9.out).mono ?_); rintro e w' ⟨rfl, ⟨nd, rfl⟩⟩))
    go_ret
    exact ⟨rE_, xB_ HB⟩
   ·replace c10 := Bool.eq_false_iff.mpr c10
    subst c10
    have H1 : (none) = some r := by rw [if_neg (show ¬ (false = true) by decide)] at H; exact H
    clear H
    have H := H1
    clear H1
    exact absurd H (by simp)
  ·replace c8 := Bool.eq_false_iff.mpr c8
   subst c8
   have H1 : (none) = some r := by rw [if_neg (show ¬ (false = true) by decide)] at H; exact H
   clear H
   have H := H1
   clear H1
   exact absurd H (by simp)
 ·rw [if_neg c6] at H
  have ca : (aa == 0) = false := beq_eq_false_iff_ne.mpr c6
  have da : (aa != 0) = true := bne_iff_ne.mpr c6
  exact absurd H (by simp)
def so_Eligible.f (a0_0 : Int) (a0_1 : Int) (a0_2 : Bool) (a0_3 : ByteArray) (a0_4 : ByteArray) (a0_5 : Int) (a0_6 : Int) (a0_7 : Bool) (a1 : Int) (a2 : Int) : Option (Bool) := (so_isDay.f a1).bind fun t106 => (if t106 = true then ((so_isDay.f a2).bind fun t107 => (if t107 = true then (if a0_7 = true then (some false) else (if a0_5 ≤ a1 then (if a0_6 = a0_5 then (some true) else (some (decide (a0_6 < (wrap64 (a1 - a2)))))) else (some false))) else (some false))) else (some false))
theorem so_Eligible.calls (a0_0 : Int) (a0_1 : Int) (a0_2 : Bool) (a0_3 : ByteArray) (a0_4 : ByteArray) (a0_5 : Int) (a0_6 : Int) (a0_7 : Bool) (a1 : Int) (a2 : Int) (r : Bool) (w : World) (h : so_Eligible.f a0_0 a0_1 a0_2 a0_3 a0_4 a0_5 a0_6 a0_7 a1 a2 = some r) :
  Calls Tryd.prog 13 #[.agg #[.int .i64 a0_0, .int .i64 a0_1, .bool a0_2, .string a0_3, .string a0_4, .int .i64 a0_5, .int .i64 a0_6, .bool a0_7], .int .i64 a1, .int .i64 a2] w fun e w' => e = .returned (.bool r) ∧ Below w.heap.size w w' := by
 have hu28 := Tryd.underlying28
 have HB := A0_.mk (Below.refl w.heap.size w)
 have H := h
 unfold so_Eligible.f at H
 clear h
 obtain ⟨fa, A4, H⟩ := oB_ H
 (try dsimp only at H)
 by_cases c5 : fa = true
 ·subst c5
  have H1 : ((so_isDay.f a2).bind fun ea => (if ea = true then (if a0_7 = true then (some false) else (if a0_5 ≤ a1 then (if a0_6 = a0_5 then (some true) else (some (decide (a0_6 < (wrap64 (a1 - a2)))))) else (some false))) else (some false))) = some r := by rw [if_pos rfl] at H; exact H
  clear H
  have H := H1
  clear H1
  obtain ⟨ea, A6, H⟩ := oB_ H
  (try dsimp only at H)
  by_cases c7 : ea = true
  ·subst c7
   have H1 : (if a0_7 = true then (some false) else (if a0_5 ≤ a1 then (if a0_6 = a0_5 then (some true) else (some (decide (a0_6 < (wrap64 (a1 - a2)))))) else (some false))) = some r := by rw [if_pos rfl] at H; exact H
   clear H
   have H := H1
   clear H1
   by_cases c8 : a0_7 = true
   ·subst c8
    have H1 : (some false) = some r := by rw [if_pos rfl] at H; exact H
    clear H
    have H := H1
    clear H1
    obtain rfl := Option.some.inj H
    go_enter Tryd.func13, Tryd.ntmps13
    go_wp2_with (first | ((with_reducible refine gD_ (N := 3) rfl ?_); refine bE_ ?hg (N := 3) ?hd (cs := #[.int .i64 a0_0, .int .i64 a0_1, .bool a0_2, .string a0_3, .string a0_4, .int .i64 a0_5, .int .i64 a0_6, .bool true]) (t := 28) ?hr ?_; (case hd => rfl); (case hg => rfl); (case hr => first | (go_simp; done) | (go_simp; rfl)); intro ba hg w9 hbox hb; have n0_ := A0_.mk (bT_ (xB_ HB) hb); have n1_ := A0_.mk (hbox); have n2_ := A0_.mk ((by rw [hg]; exact (bZ_ (xB_ HB)) : w.heap.size ≤ ba)); have n3_ := A0_.mk ((by rw [hg]; exact (bZ_ (xB_ HB)) : w.heap.size ≤ ba)); clear HB; have HB := n0_; have aa := n1_; have da := n2_; have ca := n3_; clear n0_ n1_ n2_ n3_; clear hb hbox hg) | ((with_reducible refine gC_ (f := 30) rfl ?_); refine gL_ (some 8) rfl rfl Tryd.func30 kr_ rfl #[.int .i64 a1] rfl mp_ ?_; (with_reducible refine (so_isDay.calls a1 true _ A4.out).mono ?_); rintro e w' ⟨rfl, ⟨nd, rfl⟩⟩; refine ⟨_, rfl, ?_⟩) | (go_at_call 30; (with_reducible refine (so_isDay.calls a2 true _ A6.out).mono ?_); rintro e w' ⟨rfl, ⟨nd, rfl⟩⟩; have ja : w9.cell? ⟨ba, 0, none⟩ = some (.int .i64 a0_0) := (kc_ aa.out 0).trans rfl; have ka : w9.cell? ⟨ba, 1, none⟩ = some (.int .i64 a0_1) := (kc_ aa.out 1).trans rfl; have la : w9.cell? ⟨ba, 2, none⟩ = some (.bool a0_2) := (kc_ aa.out 2).trans rfl; have ma : w9.cell? ⟨ba, 3, none⟩ = some (.string a0_3) := (kc_ aa.out 3).trans rfl; have na : w9.cell? ⟨ba, 4, none⟩ = some (.string a0_4) := (kc_ aa.out 4).trans rfl; have oa : w9.cell? ⟨ba, 5, none⟩ = some (.int .i64 a0_5) := (kc_ aa.out 5).trans rfl; have pa : w9.cell? ⟨ba, 6, none⟩ = some (.int .i64 a0_6) := (kc_ aa.out 6).trans rfl; have qa : w9.cell? ⟨ba, 7, none⟩ = some (.bool true) := (kc_ aa.out 7).trans rfl; have ra := kF_ aa.out 0; have sa := kF_ aa.out 1; have ta := kF_ aa.out 2; have ua := kF_ aa.out 3; have va := kF_ aa.out 4; have wa := kF_ aa.out 5; have xa := kF_ aa.out 6; have ya := kF_ aa.out 7))
    go_ret
    exact ⟨rE_, xB1_ HB ca⟩
   ·replace c8 := Bool.eq_false_iff.mpr c8
    subst c8
    have H1 : (if a0_5 ≤ a1 then (if a0_6 = a0_5 then (some true) else (some (decide (a0_6 < (wrap64 (a1 - a2)))))) else (some false)) = some r := by rw [if_neg (show ¬ (false = true) by decide)] at H; exact H
    clear H
    have H := H1
    clear H1
    by_cases c11 : a0_5 ≤ a1
    ·rw [if_pos c11] at H
     have ga : decide (a0_5 ≤ a1) = true := decide_eq_true c11
     clear c11
     by_cases c12 : a0_6 = a0_5
     ·rw [if_pos c12] at H
      have ha : (a0_6 == a0_5) = true := beq_iff_eq.mpr c12
      have ia : (a0_6 != a0_5) = false := bne_eq_false_iff_eq.mpr c12
      clear c12
      obtain rfl := Option.some.inj H
      go_enter Tryd.func13, Tryd.ntmps13
      go_wp2_with (first | ((with_reducible refine gD_ (N := 3) rfl ?_); refine bE_ ?hg (N := 3) ?hd (cs := #[.int .i64 a0_0, .int .i64 a0_1, .bool a0_2, .string a0_3, .string a0_4, .int .i64 a0_5, .int .i64 a0_6, .bool false]) (t := 28) ?hr ?_; (case hd => rfl); (case hg => rfl); (case hr => first | (go_simp; done) | (go_simp; rfl)); intro ba hg w13 hbox hb; have n0_ := A0_.mk (bT_ (xB_ HB) hb); have n1_ := A0_.mk (hbox); have n2_ := A0_.mk ((by rw [hg]; exact (bZ_ (xB_ HB)) : w.heap.size ≤ ba)); have n3_ := A0_.mk ((by rw [hg]; exact (bZ_ (xB_ HB)) : w.heap.size ≤ ba)); clear HB; have HB := n0_; have aa := n1_; have da := n2_; have ca := n3_; clear n0_ n1_ n2_ n3_; clear hb hbox hg) | ((with_reducible refine gC_ (f := 30) rfl ?_); refine gL_ (some 8) rfl rfl Tryd.func30 kr_ rfl #[.int .i64 a1] rfl mp_ ?_; (with_reducible refine (so_isDay.calls a1 true _ A4.out).mono ?_); rintro e w' ⟨rfl, ⟨nd, rfl⟩⟩; refine ⟨_, rfl, ?_⟩) | (go_at_call 30; (with_reducible refine (so_isDay.calls a2 true _ A6.out).mono ?_); rintro e w' ⟨rfl, ⟨nd, rfl⟩⟩; have za : w13.cell? ⟨ba, 0, none⟩ = some (.int .i64 a0_0) := (kc_ aa.out 0).trans rfl; have Aa : w13.cell? ⟨ba, 1, none⟩ = some (.int .i64 a0_1) := (kc_ aa.out 1).trans rfl; have Ba : w13.cell? ⟨ba, 2, none⟩ = some (.bool a0_2) := (kc_ aa.out 2).trans rfl; have Ca : w13.cell? ⟨ba, 3, none⟩ = some (.string a0_3) := (kc_ aa.out 3).trans rfl; have Da : w13.cell? ⟨ba, 4, none⟩ = some (.string a0_4) := (kc_ aa.out 4).trans rfl; have Ea : w13.cell? ⟨ba, 5, none⟩ = some (.int .i64 a0_5) := (kc_ aa.out 5).trans rfl; have Fa : w13.cell? ⟨ba, 6, none⟩ = some (.int .i64 a0_6) := (kc_ aa.out 6).trans rfl; have Ga : w13.cell? ⟨ba, 7, none⟩ = some (.bool false) := (kc_ aa.out 7).trans rfl; have Ha := kF_ aa.out 0; have Ia := kF_ aa.out 1; have Ja := kF_ aa.out 2; have Ka := kF_ aa.out 3; have La := kF_ aa.out 4; have Ma := kF_ aa.out 5; have Na := kF_ aa.out 6; have Oa := kF_ aa.out 7))
      go_ret
      exact ⟨rE_, xB1_ HB ca⟩
     ·rw [if_neg c12] at H
      have ha : (a0_6 == a0_5) = false := beq_eq_false_iff_ne.mpr c12
      have ia : (a0_6 != a0_5) = true := bne_iff_ne.mpr c12
      obtain rfl := Option.some.inj H
      go_enter Tryd.func13, Tryd.ntmps13
      go_wp2_with (first | ((with_reducible refine gD_ (N := 3) rfl ?_); refine bE_ ?hg (N := 3) ?hd (cs := #[.int .i64 a0_0, .int .i64 a0_1, .bool a0_2, .string a0_3, .string a0_4, .int .i64 a0_5, .int .i64 a0_6, .bool false]) (t := 28) ?hr ?_; (case hd => rfl); (case hg => rfl); (case hr => first | (go_simp; done) | (go_simp; rfl)); intro ba hg w15 hbox hb; have n0_ := A0_.mk (bT_ (xB_ HB) hb); have n1_ := A0_.mk (hbox); have n2_ := A0_.mk ((by rw [hg]; exact (bZ_ (xB_ HB)) : w.heap.size ≤ ba)); have n3_ := A0_.mk ((by rw [hg]; exact (bZ_ (xB_ HB)) : w.heap.size ≤ ba)); clear HB; have HB := n0_; have aa := n1_; have da := n2_; have ca := n3_; clear n0_ n1_ n2_ n3_; clear hb hbox hg) | ((with_reducible refine gC_ (f := 30) rfl ?_); refine gL_ (some 8) rfl rfl Tryd.func30 kr_ rfl #[.int .i64 a1] rfl mp_ ?_; (with_reducible refine (so_isDay.calls a1 true _ A4.out).mono ?_); rintro e w' ⟨rfl, ⟨nd, rfl⟩⟩; refine ⟨_, rfl, ?_⟩) | (go_at_call 30; (with_reducible refine (so_isDay.calls a2 true _ A6.out).mono ?_); rintro e w' ⟨rfl, ⟨nd, rfl⟩⟩; have Pa : w15.cell? ⟨ba, 0, none⟩ = some (.int .i64 a0_0) := (kc_ aa.out 0).trans rfl; have Qa : w15.cell? ⟨ba, 1, none⟩ = some (.int .i64 a0_1) := (kc_ aa.out 1).trans rfl; have Ra : w15.cell? ⟨ba, 2, none⟩ = some (.bool a0_2) := (kc_ aa.out 2).trans rfl; have Sa : w15.cell? ⟨ba, 3, none⟩ = some (.string a0_3) := (kc_ aa.out 3).trans rfl; have Ta : w15.cell? ⟨ba, 4, none⟩ = some (.string a0_4) := (kc_ aa.out 4).trans rfl; have Ua : w15.cell? ⟨ba, 5, none⟩ = some (.int .i64 a0_5) := (kc_ aa.out 5).trans rfl; have Va : w15.cell? ⟨ba, 6, none⟩ = some (.int .i64 a0_6) := (kc_ aa.out 6).trans rfl; have Wa : w15.cell? ⟨ba, 7, none⟩ = some (.bool false) := (kc_ aa.out 7).trans rfl; have Xa := kF_ aa.out 0; have Ya := kF_ aa.out 1; have Za := kF_ aa.out 2; have ab := kF_ aa.out 3; have bb := kF_ aa.out 4; have cb := kF_ aa.out 5; have db := kF_ aa.out 6; have eb := kF_ aa.out 7))
      go_ret
      exact ⟨rE_, xB1_ HB ca⟩
    ·rw [if_neg c11] at H
     have ga : decide (a0_5 ≤ a1) = false := decide_eq_false c11
     clear c11
     obtain rfl := Option.some.inj H
     go_enter Tryd.func13, Tryd.ntmps13
     go_wp2_with (first | ((with_reducible refine gD_ (N := 3) rfl ?_); refine bE_ ?hg (N := 3) ?hd (cs := #[.int .i64 a0_0, .int .i64 a0_1, .bool a0_2, .string a0_3, .string a0_4, .int .i64 a0_5, .int .i64 a0_6, .bool false]) (t := 28) ?hr ?_; (case hd => rfl); (case hg => rfl); (case hr => first | (go_simp; done) | (go_simp; rfl)); intro ba hg w17 hbox hb; have n0_ := A0_.mk (bT_ (xB_ HB) hb); have n1_ := A0_.mk (hbox); have n2_ := A0_.mk ((by rw [hg]; exact (bZ_ (xB_ HB)) : w.heap.size ≤ ba)); have n3_ := A0_.mk ((by rw [hg]; exact (bZ_ (xB_ HB)) : w.heap.size ≤ ba)); clear HB; have HB := n0_; have aa := n1_; have da := n2_; have ca := n3_; clear n0_ n1_ n2_ n3_; clear hb hbox hg) | ((with_reducible refine gC_ (f := 30) rfl ?_); refine gL_ (some 8) rfl rfl Tryd.func30 kr_ rfl #[.int .i64 a1] rfl mp_ ?_; (with_reducible refine (so_isDay.calls a1 true _ A4.out).mono ?_); rintro e w' ⟨rfl, ⟨nd, rfl⟩⟩; refine ⟨_, rfl, ?_⟩) | (go_at_call 30; (with_reducible refine (so_isDay.calls a2 true _ A6.out).mono ?_); rintro e w' ⟨rfl, ⟨nd, rfl⟩⟩; have fb : w17.cell? ⟨ba, 0, none⟩ = some (.int .i64 a0_0) := (kc_ aa.out 0).trans rfl; have gb : w17.cell? ⟨ba, 1, none⟩ = some (.int .i64 a0_1) := (kc_ aa.out 1).trans rfl; have ib : w17.cell? ⟨ba, 2, none⟩ = some (.bool a0_2) := (kc_ aa.out 2).trans rfl; have jb : w17.cell? ⟨ba, 3, none⟩ = some (.string a0_3) := (kc_ aa.out 3).trans rfl; have kb : w17.cell? ⟨ba, 4, none⟩ = some (.string a0_4) := (kc_ aa.out 4).trans rfl; have mb : w17.cell? ⟨ba, 5, none⟩ = some (.int .i64 a0_5) := (kc_ aa.out 5).trans rfl; have nb : w17.cell? ⟨ba, 6, none⟩ = some (.int .i64 a0_6) := (kc_ aa.out 6).trans rfl; have ob : w17.cell? ⟨ba, 7, none⟩ = some (.bool false) := (kc_ aa.out 7).trans rfl; have pb := kF_ aa.out 0; have qb := kF_ aa.out 1; have rb := kF_ aa.out 2; have sb := kF_ aa.out 3; have tb := kF_ aa.out 4; have ub := kF_ aa.out 5; have vb := kF_ aa.out 6; have wb := kF_ aa.out 7))
     go_ret
     exact ⟨rE_, xB1_ HB ca⟩
  ·replace c7 := Bool.eq_false_iff.mpr c7
   subst c7
   have H1 : (some false) = some r := by rw [if_neg (show ¬ (false = true) by decide)] at H; exact H
   clear H
   have H := H1
   clear H1
   obtain rfl := Option.some.inj H
   go_enter Tryd.func13, Tryd.ntmps13
   go_wp2_with (first | ((with_reducible refine gD_ (N := 3) rfl ?_); refine bE_ ?hg (N := 3) ?hd (cs := #[.int .i64 a0_0, .int .i64 a0_1, .bool a0_2, .string a0_3, .string a0_4, .int .i64 a0_5, .int .i64 a0_6, .bool a0_7]) (t := 28) ?hr ?_; (case hd => rfl); (case hg => rfl); (case hr => first | (go_simp; done) | (go_simp; rfl)); intro ba hg w19 hbox hb; have n0_ := A0_.mk (bT_ (xB_ HB) hb); have n1_ := A0_.mk (hbox); have n2_ := A0_.mk ((by rw [hg]; exact (bZ_ (xB_ HB)) : w.heap.size ≤ ba)); have n3_ := A0_.mk ((by rw [hg]; exact (bZ_ (xB_ HB)) : w.heap.size ≤ ba)); clear HB; have HB := n0_; have aa := n1_; have da := n2_; have ca := n3_; clear n0_ n1_ n2_ n3_; clear hb hbox hg) | ((with_reducible refine gC_ (f := 30) rfl ?_); refine gL_ (some 8) rfl rfl Tryd.func30 kr_ rfl #[.int .i64 a1] rfl mp_ ?_; (with_reducible refine (so_isDay.calls a1 true _ A4.out).mono ?_); rintro e w' ⟨rfl, ⟨nd, rfl⟩⟩; refine ⟨_, rfl, ?_⟩) | (go_at_call 30; (with_reducible refine (so_isDay.calls a2 false _ A6.out).mono ?_); rintro e w' ⟨rfl, ⟨nd, rfl⟩⟩))
   go_ret
   exact ⟨rE_, xB1_ HB ca⟩
 ·replace c5 := Bool.eq_false_iff.mpr c5
  subst c5
  have H1 : (some false) = some r := by rw [if_neg (show ¬ (false = true) by decide)] at H; exact H
  clear H
  have H := H1
  clear H1
  obtain rfl := Option.some.inj H
  go_enter Tryd.func13, Tryd.ntmps13
  go_wp2_with (first | ((with_reducible refine gD_ (N := 3) rfl ?_); refine bE_ ?hg (N := 3) ?hd (cs := #[.int .i64 a0_0, .int .i64 a0_1, .bool a0_2, .string a0_3, .string a0_4, .int .i64 a0_5, .int .i64 a0_6, .bool a0_7]) (t := 28) ?hr ?_; (case hd => rfl); (case hg => rfl); (case hr => first | (go_simp; done) | (go_simp; rfl)); intro ba hg w20 hbox hb; have n0_ := A0_.mk (bT_ (xB_ HB) hb); have n1_ := A0_.mk (hbox); have n2_ := A0_.mk ((by rw [hg]; exact (bZ_ (xB_ HB)) : w.heap.size ≤ ba)); have n3_ := A0_.mk ((by rw [hg]; exact (bZ_ (xB_ HB)) : w.heap.size ≤ ba)); clear HB; have HB := n0_; have aa := n1_; have da := n2_; have ca := n3_; clear n0_ n1_ n2_ n3_; clear hb hbox hg) | ((with_reducible refine gC_ (f := 30) rfl ?_); refine gL_ (some 8) rfl rfl Tryd.func30 kr_ rfl #[.int .i64 a1] rfl mp_ ?_; (with_reducible refine (so_isDay.calls a1 false _ A4.out).mono ?_); rintro e w' ⟨rfl, ⟨nd, rfl⟩⟩; refine ⟨_, rfl, ?_⟩))
  go_ret
  exact ⟨rE_, xB1_ HB ca⟩
end C
end Go.Proofs.YtnegkpnhjgimcaaDoor
end
section
set_option linter.unusedVariables false
set_option linter.unusedSimpArgs false
namespace Go.Proofs.YtnegkpnhjgimcaaDoor
namespace C
open Go.Sort
def insR {α : Type} (lt : α → α → Bool) (x : α) : List α → List α
 | [] => [x]
 | y :: ys => if lt x y = true then y :: insR lt x ys else x :: y :: ys
def isortR {α : Type} (lt : α → α → Bool) : List α → List α → List α
 | acc, [] => acc
 | acc, x :: xs => isortR lt (insR lt x acc) xs
def isort {α : Type} (lt : α → α → Bool) (l : List α) : List α := (isortR lt [] l).reverse
theorem insR_map {α β : Type} (f : α → β) (lt : β → β → Bool) (x : α) (l : List α) : insR lt (f x) (l.map f) = (insR (fun x y => lt (f x) (f y)) x l).map f := by
 induction l with
 | nil => rfl
 | cons y ys ih =>
  simp only [List.map_cons, insR]
  by_cases h : lt (f x) (f y) = true
  ·rw [if_pos h, if_pos h, ih]; rfl
  ·rw [if_neg h, if_neg h]; rfl
theorem isortR_map {α β : Type} (f : α → β) (lt : β → β → Bool) (l : List α) : ∀ acc : List α, isortR lt (acc.map f) (l.map f) = (isortR (fun x y => lt (f x) (f y)) acc l).map f := by
 induction l with
 | nil => intro acc; rfl
 | cons x xs ih => intro acc; simp only [List.map_cons, isortR]; rw [insR_map, ih]
theorem isort_map {α β : Type} (f : α → β) (lt : β → β → Bool) (l : List α) : isort lt (l.map f) = (isort (fun x y => lt (f x) (f y)) l).map f := by
 unfold isort
 rw [List.map_reverse, ← isortR_map f lt l []]; rfl
theorem insR_length {α : Type} (lt : α → α → Bool) (x : α) (l : List α) : (insR lt x l).length = l.length + 1 := by
 induction l with
 | nil => rfl
 | cons y ys ih =>
  simp only [insR]
  split
  ·simp [ih]
  ·rfl
theorem isortR_length {α : Type} (lt : α → α → Bool) (l : List α) : ∀ acc : List α, (isortR lt acc l).length = acc.length + l.length := by
 induction l with
 | nil => intro acc; rfl
 | cons x xs ih => intro acc; rw [isortR, ih, insR_length]; simp; omega
theorem isort_length {α : Type} (lt : α → α → Bool) (l : List α) : (isort lt l).length = l.length := by
 unfold isort
 rw [List.length_reverse, isortR_length]; simp
section
variable {α : Type} [Inhabited α]
theorem swp_list (r : List α) (y x : α) (rest : List α) : swp (r ++ y :: x :: rest).toArray (r.length + 1) r.length = (r ++ x :: y :: rest).toArray := by
 have h1 : (r ++ y :: x :: rest).toArray[r.length]! = y := by simp
 have h2 : (r ++ y :: x :: rest).toArray[r.length + 1]! = x := by simp
 unfold swp
 rw [h1, h2]
 apply Array.ext'
 simp [List.set_append]
theorem insInner_list (lt : α → α → Bool) (x : α) (acc : List α) : ∀ rest : List α, insInner lt 0 acc.length (acc.reverse ++ x :: rest).toArray = ((insR lt x acc).reverse ++ rest).toArray := by
 induction acc with
 | nil => intro rest; show insInner lt 0 0 (x :: rest).toArray = _; rw [insInner_stop lt 0 0 _ (.inl (Nat.le_refl _))]; rfl
 | cons y ys ih =>
  intro rest
  have e : (y :: ys).reverse ++ x :: rest = ys.reverse ++ y :: x :: rest := by simp
  have h1 : (ys.reverse ++ y :: x :: rest).toArray[ys.length]! = y := by simp
  have h2 : (ys.reverse ++ y :: x :: rest).toArray[ys.length + 1]! = x := by simp
  rw [e]
  by_cases h : lt x y = true
  ·rw [insInner_go lt _ _ _ (by simp) (by rw [List.length_cons, Nat.add_sub_cancel, h1, h2]; exact h)]
   have h3 := swp_list ys.reverse y x rest
   rw [List.length_reverse] at h3
   rw [List.length_cons, Nat.add_sub_cancel, h3, ih]
   simp [insR, h]
  ·rw [insInner_stop lt _ _ _ (.inr (by rw [List.length_cons, Nat.add_sub_cancel, h1, h2]; exact Bool.eq_false_iff.2 h))]
   simp [insR, h]
theorem insOuter_list (lt : α → α → Bool) (l : List α) : ∀ acc : List α, insOuter lt 0 (acc.length + l.length) acc.length (acc.reverse ++ l).toArray = (isortR lt acc l).reverse.toArray := by
 induction l with
 | nil => intro acc; rw [insOuter_stop lt _ _ _ _ (by simp)]; simp [isortR]
 | cons x xs ih =>
  intro acc
  rw [insOuter_go lt _ _ _ _ (by simp), insInner_list]
  have h := ih (insR lt x acc)
  rw [insR_length] at h
  rw [isortR, ← h]
  congr 1
  simp; omega
theorem insertionSort_list (lt : α → α → Bool) (d : Array α) : (insertionSort lt d 0 d.size).toList = isort lt d.toList := by
 obtain ⟨l⟩ := d
 unfold insertionSort isort
 cases l with
 | nil => rw [insOuter_stop lt _ _ _ _ (by simp)]; rfl
 | cons x xs =>
  have h := insOuter_list lt xs [x]
  simp only [List.length_cons, List.length_nil, List.reverse_cons, List.reverse_nil, List.nil_append, List.singleton_append] at h
  have e : isortR lt [] (x :: xs) = isortR lt [x] xs := rfl
  rw [e, show ((x :: xs).toArray).size = 0 + 1 + xs.length by simp; omega, h]
end
end C
namespace C
open Go.Shelf Go.RowKit Go.Lib Go.Sort Go.PrWords Go.PrLast Go.PrMore
def sort_ren : Go.Shelf.Ren := ⟨fun | 20 => 94 | n => n, fun | 22 => 63 | 24 => 3 | 25 => 83 | n => n, fun n => n⟩
theorem sortL : SlLaysF.n20 Tryd.prog sort_ren where
 mixed := by kernel_rfl
 f20 := ⟨ "slices.insertionSortCmpFunc[int]", by decide, Tryd.func94.trans (congrArg some (by kernel_rfl))⟩
 t0 := Tryd.underlying0
 a0 := Tryd.isAgg0
 z0 := Tryd.sizeOf0
 v0 := Tryd.zeroValue0
 t3 := Tryd.underlying3
 a3 := Tryd.isAgg3
 z3 := Tryd.sizeOf3
 v3 := Tryd.zeroValue3
 t4 := Tryd.underlying4
 a4 := Tryd.isAgg4
 z4 := Tryd.sizeOf4
 v4 := Tryd.zeroValue4
 t22 := Tryd.underlying63
 a22 := Tryd.isAgg63
 z22 := Tryd.sizeOf63
 v22 := Tryd.zeroValue63
 a24 := Tryd.isAgg3
 z24 := Tryd.sizeOf3
 t25 := Tryd.underlying83
 a25 := Tryd.isAgg83
 z25 := Tryd.sizeOf83
 v25 := Tryd.zeroValue83
theorem below_row {β : Type} [Inhabited β] (enc : β → Value) (w : World) (base g m : Nat) (d : Array β) (os : Array Obj) (hb : base ≤ g) (hw : base ≤ w.heap.size) : Go.RowKit.Below base w (grow (putRow enc (Sort.ahead w m) g 0 d) os) := by
 refine ⟨rfl, rfl, rfl, ?_, fun k hk => ?_⟩
 ·show w.heap.size ≤ (w.heap.modify g _ ++ os).size
  simp
 ·show (w.heap.modify g _ ++ os)[k]? = _
  rw [Array.getElem?_append_left (by simp; omega), Array.getElem?_modify, if_neg (by omega)]
theorem below_row0 {β : Type} [Inhabited β] (enc : β → Value) (w : World) (base g m : Nat) (d : Array β) (hb : base ≤ g) : Go.RowKit.Below base w ((putRow enc w g 0 d).drewN m) := by
 refine ⟨rfl, rfl, rfl, ?_, fun k hk => ?_⟩
 ·show w.heap.size ≤ (w.heap.modify g _).size
  simp
 ·show (w.heap.modify g _)[k]? = _
  rw [Array.getElem?_modify, if_neg (by omega)]
theorem R_row {β : Type} [Inhabited β] (enc : β → Value) (d : Array β) {W : World} {e base g cap : Nat} {ok : Nat → Prop} {xs ys : List Int} (h : (Kd.int .i64).R e W base ok (.slice (some ⟨g, 0, none⟩) xs.length cap) xs) (hd : d.toList.map enc = ys.map (Value.int .i64)) (hl : ys.length = xs.length) (m : Nat) :
  (Kd.int .i64).R e ((putRow enc W g 0 d).drewN m) base ok (.slice (some ⟨g, 0, none⟩) ys.length cap) ys := by
 have hds : d.size = ys.length := by have := congrArg List.length hd; simpa using this
 obtain ⟨hlen, hcase⟩ := Kd.own_of_R h
 have hok := h.1
 rcases hcase with ⟨hv, _⟩ | ⟨g', cap', cur, hv, hb, hh, hle, hmax, hsz, htake⟩
 ·cases hv
 ·injection hv with h1 h2 h3
  injection h1 with h1
  injection h1 with h1 _ _
  subst h1
  subst h3
  refine Kd.R_of_own ⟨by simp [encs], .inr ⟨g, cap, putCells enc 0 d cur, rfl, hb, ?_, by omega, hmax, by simp [putCells, hsz], ?_⟩⟩ hok
  ·show (W.heap.modify g _)[g]? = _
   rw [Array.getElem?_modify, if_pos rfl, hh]
   rfl
  ·apply List.ext_getElem?
   intro k
   have hlx : xs.length ≤ cur.size := by rw [hsz]; omega
   by_cases hk : k < ys.length
   ·rw [List.getElem?_take_of_lt (by omega)]
    have hc : k < cur.size := by omega
    have e1 : d.toList[k]? = some d[k]! := by rw [Array.getElem?_toList, getElem!_pos d k (by omega), Array.getElem?_eq_getElem (by omega)]
    have e2 : (ys.map (Value.int .i64))[k]? = some (enc d[k]!) := by rw [← hd, List.getElem?_map, e1]; rfl
    show _ = (ys.map (Value.int .i64))[k]?
    rw [e2]
    simp [putCells, Array.getElem?_mapIdx, hc, hds, hk]
   ·rw [List.getElem?_eq_none (by rw [List.length_take]; omega), List.getElem?_eq_none (by simp [encs]; omega)]
def CmpOk (g : Nat) (cb : Array Value) (cmp : Int → Int → Int) (xs : List Int) (base : Nat) (w : World) : Prop :=
 ∀ x ∈ xs, ∀ y ∈ xs, ∀ W, Go.RowKit.Below base w W → Calls Tryd.prog g (#[.int .i64 x, .int .i64 y] ++ cb) W fun e w' => e = .returned (.int .i64 (cmp x y)) ∧ ∃ q, w' = W.drewN q
theorem insertion_calls (g : Nat) (cb : Array Value) (cmp : Int → Int → Int) (eg : ∀ args w, (callFunc g args).run Tryd.prog w = .ok (.enter g args) w) {w : World} {base gb cap : Nat} {ok : Nat → Prop} {xs : List Int} (hR : (Kd.int .i64).R 3 w base ok (.slice (some ⟨gb, 0, none⟩) xs.length cap) xs) (hne : xs ≠ []) (hn : xs.length ≤ 19) (hbase : base ≤ w.heap.size) (hcmp : CmpOk g cb cmp xs base w) :
  Calls Tryd.prog 94 #[.slice (some ⟨gb, 0, none⟩) xs.length cap, .int .i64 0, .int .i64 xs.length, .func (.func g) #[] cb] w fun e w' =>
   e = .returned (.tuple #[]) ∧ (Kd.int .i64).R 3 w' base ok (.slice (some ⟨gb, 0, none⟩) xs.length cap) (isort (fun x y => decide (cmp x y < 0)) xs) ∧ Go.RowKit.Below base w w' := by
 have hi : Inhabited {x // x ∈ xs} := ⟨⟨xs.head hne, List.head_mem hne⟩⟩
 have hpos : 0 < xs.length := List.length_pos_iff.2 hne
 have hbg : base ≤ gb := Kd.R_base hR gb rfl
 obtain ⟨d, hde⟩ : ∃ d : Array {x // x ∈ xs}, d = xs.attach.toArray := ⟨_, rfl⟩
 have hd : d.size = xs.length := by rw [hde]; simp
 have hv : d.toList.map (·.val) = xs := by rw [hde]; simp
 have hx : ∀ j, j < d.size → (d[j]!).val = rdOf 0 xs j := by
  intro j hj
  have e1 : (d.toList.map (·.val))[j]? = some (d[j]!).val := by rw [List.getElem?_map, Array.getElem?_toList, getElem!_pos d j hj, Array.getElem?_eq_getElem hj]; rfl
  unfold rdOf
  rw [hv] at e1
  rw [List.getD_eq_getElem?_getD, Int.toNat_natCast, e1]; rfl
 have hH : Holds (fun x : {x // x ∈ xs} => Value.int .i64 x.val) w gb 0 d := by
  intro j hj
  have := Kd.R_cell (0 : Int) hR (j : Int) (by omega) (by omega)
  show w.cell? _ = some (Value.int .i64 (d[j]!).val) ∧ _
  rw [hx j hj, Nat.zero_add]
  simpa using this
 have hC : CmpReads Tryd.prog g cb (fun x : {x // x ∈ xs} => Value.int .i64 x.val) (fun x y => cmp x.val y.val) gb 0 d.size w := by
  intro m os dk hdk x y
  exact hcmp x.val x.property y.val y.property _ (below_row _ w base gb m dk os hbg hbase)
 have hS := Any.insertionSortCmpFunc_one sortL (fun x : {x // x ∈ xs} => Value.int .i64 x.val) (fun _ => rfl) (fun x y => cmp x.val y.val) g cb gb 0 cap 0 d.size d w eg hC hH (Nat.zero_le _) (Nat.le_refl _) (by omega)
 rw [hd] at hS
 refine Calls.mono hS ?_
 rintro e w' ⟨he, m, rfl⟩
 have hl : (isort (fun x y => decide (cmp x y < 0)) xs).length = xs.length := isort_length _ _
 refine ⟨he, ?_, below_row0 _ _ _ _ _ _ hbg⟩
 have := R_row (fun x : {x // x ∈ xs} => Value.int .i64 x.val) (Sort.insertionSort (ltOf fun x y => cmp x.val y.val) d 0 xs.length) (ys := isort (fun x y => decide (cmp x y < 0)) xs) hR (by
  rw [← hd, insertionSort_list]
  have h2 := isort_map (fun x : {x // x ∈ xs} => x.val) (fun x y => decide (cmp x y < 0)) d.toList
  rw [hv] at h2
  rw [h2, List.map_map]
  rfl) hl m
 rw [hl] at this
 exact this
end C
namespace C
open Go.Shelf Go.RowKit Go.Lib Go.PrWords Go.PrLast Go.PrMore
set_option maxHeartbeats 4000000 in
set_option maxRecDepth 100000 in
theorem insertion_empty (A : Option Addr) (c : Nat) (v : Value) (w : World) :
  Calls Tryd.prog 94 #[.slice A 0 c, .int .i64 0, .int .i64 0, v] w fun e w' => e = .returned (.tuple #[]) ∧ ∃ n, w' = w.drewN n := by
 go_enter Tryd.func94, Tryd.ntmps94
 go_wp2
 go_loopg [8] 0 (fun g1 vi wr => vi = .int .i64 1 ∧ wr = w)
 case atStart => exact ⟨rfl, rfl⟩
 case round =>
  obtain ⟨rfl, rfl⟩ := hrel
  have c0 : decide ((1 : Int) < 0) = false := by decide
  go_wp2
  go_end0
  exact ⟨rfl, 0, rfl⟩
set_option maxHeartbeats 4000000 in
set_option maxRecDepth 100000 in
theorem stable_calls (A : Option Addr) (n c : Nat) (v : Value) (Q : Ending → World → Prop) (w : World) (hn : n ≤ 19)
  (h : Calls Tryd.prog 94 #[.slice A n c, .int .i64 0, .int .i64 n, v] w fun e w' => e = .returned (.tuple #[]) ∧ Q e w') :
  Calls Tryd.prog 76 #[.slice A n c, .int .i64 n, v] w fun e w' => e = .returned (.tuple #[]) ∧ Q e w' := by
 have c0 : decide ((20 : Int) ≤ (n : Int)) = false := decide_eq_false (by omega)
 have c1 : decide ((20 : Int) < (n : Int)) = false := decide_eq_false (by omega)
 have c2 : ¬ (20 : Int) ≤ (n : Int) := by omega
 have c3 : ¬ (20 : Int) < (n : Int) := by omega
 have H := A0_.mk h
 clear h
 go_enter Tryd.func76, Tryd.ntmps76
 go_wp2
 refine wp_loop_rounds 1 ?_
 rw [rounds_succ]
 go_wp2_with (go_at_call 94; refine H.out.mono ?_; rintro e w' ⟨rfl, hq⟩)
 refine wp_loop_rounds 1 ?_
 rw [rounds_succ]
 go_wp2
 go_end0
 exact ⟨rfl, hq⟩
set_option maxHeartbeats 4000000 in
set_option maxRecDepth 100000 in
theorem sortStable_calls (g : Nat) (cb : Array Value) (cmp : Int → Int → Int) (eg : ∀ args w, (callFunc g args).run Tryd.prog w = .ok (.enter g args) w) {w : World} {base n c : Nat} {A : Option Addr} {ok : Nat → Prop} {xs : List Int} (hR : (Kd.int .i64).R 3 w base ok (.slice A n c) xs) (hn : xs.length ≤ 19) (hbase : base ≤ w.heap.size) (hcmp : CmpOk g cb cmp xs base w) :
  Calls Tryd.prog 58 #[.slice A n c, .func (.func g) #[] cb] w fun e w' => e = .returned (.tuple #[]) ∧ (Kd.int .i64).R 3 w' base ok (.slice A n c) (isort (fun x y => decide (cmp x y < 0)) xs) ∧ Below base w w' := by
 have hlen : n = xs.length := (Kd.rr_' hR).1
 subst hlen
 have h := stable_calls A xs.length c (.func (.func g) #[] cb) (fun e w' => (Kd.int .i64).R 3 w' base ok (.slice A xs.length c) (isort (fun x y => decide (cmp x y < 0)) xs) ∧ Below base w w') w hn (by
  by_cases hne : xs = []
  ·subst hne
   refine Calls.mono (insertion_empty A c (.func (.func g) #[] cb) w) ?_
   rintro e w' ⟨rfl, m, rfl⟩
   exact ⟨rfl, Kd.rN_ hR m, pB_ (Below.refl _ _) m⟩
  ·obtain ⟨gb, cap, hv, _⟩ := Kd.R_form hR (List.length_pos_iff.2 hne)
   injection hv with h1 _ h3
   subst h1
   subst h3
   exact insertion_calls g cb cmp eg hR hne hn hbase hcmp)
 have H := A0_.mk h
 clear h hR hcmp
 go_enter Tryd.func58, Tryd.ntmps58
 go_wp2_with (go_at_call 76; refine H.out.mono ?_; rintro e w' ⟨rfl, hq⟩)
 go_end0
 exact ⟨rfl, hq⟩
end C
namespace C
open Go.Shelf Go.RowKit Go.Lib Go.PrWords Go.PrLast Go.PrMore
def eligible_cmp (l : List S28) (x y : Int) : Int := wrap64 ((r28_ l x).f3 - (r28_ l y).f3)
theorem eligible_enters : ∀ args w, (callFunc 59 args).run Tryd.prog w = .ok (.enter 59 args) w := enters_of Tryd.func59 (by kernel_rfl) rfl
set_option maxHeartbeats 4000000 in
set_option maxRecDepth 100000 in
theorem eligible_cmp_calls (A0 : Option Addr) (c0 B : Nat) (l0 : List S28) (x y : Int) (w : World) (hr0 : Kd.C k28 w A0 l0.length l0) (hb : w.cell? ⟨B, 0, none⟩ = some (.slice A0 l0.length c0)) (hx : 0 ≤ x ∧ x < (l0.length : Int)) (hy : 0 ≤ y ∧ y < (l0.length : Int)) :
  Calls Tryd.prog 59 (#[.int .i64 x, .int .i64 y] ++ #[.pointer (some ⟨B, 0, none⟩)]) w fun e w' => e = .returned (.int .i64 (eligible_cmp l0 x y)) ∧ ∃ q, w' = w.drewN q := by
 have hu := Tryd.underlying28
 obtain ⟨ad, e1, hx0, hx1, hx2, hx3, hx4, hx5, hx6, hx7⟩ := at_T28 hr0 x hx.1 hx.2
 obtain ⟨ad', e2, hy0, hy1, hy2, hy3, hy4, hy5, hy6, hy7⟩ := at_T28 hr0 y hy.1 hy.2
 cases e1
 cases e2
 have p1 : decide (0 ≤ x) = true := decide_eq_true hx.1
 have p2 : decide (x < (l0.length : Int)) = true := decide_eq_true hx.2
 have p3 : decide (0 ≤ y) = true := decide_eq_true hy.1
 have p4 : decide (y < (l0.length : Int)) = true := decide_eq_true hy.2
 have q1 := eq_true hx.1
 have q2 := eq_true hx.2
 have q3 := eq_true hy.1
 have q4 := eq_true hy.2
 clear hx0 hx1 hx2 hx3 hx4 hx6 hx7 hy0 hy1 hy2 hy3 hy4 hy6 hy7
 have e0 : (#[.int .i64 x, .int .i64 y] ++ #[.pointer (some ⟨B, 0, none⟩)] : Array Value) = #[.int .i64 x, .int .i64 y, .pointer (some ⟨B, 0, none⟩)] := rfl
 rw [e0]
 go_enter Tryd.func59, Tryd.ntmps59
 go_wp2
 go_quiet (fail)
 go_wp2
 go_ret
 exact ⟨rfl, _, rfl⟩
end C
end Go.Proofs.YtnegkpnhjgimcaaDoor
end
section
namespace Go.Proofs.YtnegkpnhjgimcaaDoor
namespace C
set_option maxHeartbeats 8000000
set_option maxRecDepth 100000
open Go.RowKit Go.PrWords Go.PrLast Go.PrMore
attribute [local go_sem] max2_int min2_int max_two min_two max_three min_three max_four min_four
set_option linter.unusedVariables false
set_option linter.unusedSimpArgs false
def so_eligible.l0 : Nat → Int → Int → Int → Int → List Int → List (S28) → Int → Int → Option (List Int)
 | 0, _, _, _, _, _, _, _, _ => none
 | k + 1, x1, x2, x3, x4, x11, x14, x15, x16 => if x16 < x15 then (if 0 ≤ x16 then (if x16 < (x14.length : Int) then (if ((r28_ x14 x16).f0) = x3 then (if ((r28_ x14 x16).f1) = x4 then ((so_Eligible.f ((r28_ x14 x16).f0) ((r28_ x14 x16).f1) ((r28_ x14 x16).f2.f0) ((r28_ x14 x16).f2.f1) ((r28_ x14 x16).f2.f2) ((r28_ x14 x16).f3) ((r28_ x14 x16).f4) ((r28_ x14 x16).f5) x1 x2).bind fun t390 => (if t390 = true then (if x11.length < 17592186044416 then (so_eligible.l0 k x1 x2 x3 x4 (x11 ++ [x16]) x14 x15 (wrap64 (x16 + 1))) else (none)) else (so_eligible.l0 k x1 x2 x3 x4 x11 x14 x15 (wrap64 (x16 + 1))))) else (so_eligible.l0 k x1 x2 x3 x4 x11 x14 x15 (wrap64 (x16 + 1)))) else (so_eligible.l0 k x1 x2 x3 x4 x11 x14 x15 (wrap64 (x16 + 1)))) else (none)) else (none)) else (some x11)
def so_eligible.f (k : Nat) (l0 : List (S28)) (a1 : Int) (a2 : Int) (a3 : Int) (a4 : Int) : Option (List Int) := (so_eligible.l0 k a1 a2 a3 a4 ([] : List Int) l0 (l0.length : Int) 0).bind fun out => if out.length ≤ 19 ∧ out.all (fun x => decide (0 ≤ x ∧ x < (l0.length : Int))) = true then some (isort (fun x y => decide (eligible_cmp l0 x y < 0)) out) else none
theorem so_eligible.mono_l : ∀ k, (∀ y0 y1 y2 y3 y4 y5 y6 y7, LeO (so_eligible.l0 k y0 y1 y2 y3 y4 y5 y6 y7) (so_eligible.l0 (k + 1) y0 y1 y2 y3 y4 y5 y6 y7))
 | 0 => fun _ _ _ _ _ _ _ _ r h => by simp [so_eligible.l0] at h
 | k + 1 => by
  have ih0 := so_eligible.mono_l k
  ·intro y0 y1 y2 y3 y4 y5 y6 y7
   unfold so_eligible.l0
   repeat' first
   | (with_reducible first | exact ih0 _ _ _ _ _ _ _ _ | exact LeO.refl _ | exact LeO.none _ | refine LeO.ite ?_ ?_ | refine LeO.bind ?_ (fun _ => ?_))
theorem so_eligible.mono : ∀ a0 a1 a2 a3 a4 k, LeO (so_eligible.f k a0 a1 a2 a3 a4) (so_eligible.f (k + 1) a0 a1 a2 a3 a4) := by
 intro a0 a1 a2 a3 a4 k
 have ih0 := so_eligible.mono_l k
 unfold so_eligible.f
 repeat' first
   | (with_reducible first | exact ih0 _ _ _ _ _ _ _ _ | exact LeO.refl _ | exact LeO.none _ | refine LeO.ite ?_ ?_ | refine LeO.bind ?_ (fun _ => ?_))
theorem so_eligible.calls (k : Nat) (A0 : Option Addr) (c0 : Nat) (l0 : List (S28)) (a1 : Int) (a2 : Int) (a3 : Int) (a4 : Int) (r : List Int) (w : World) (hr0 : Kd.C k28 w A0 l0.length l0) (hc0 : l0.length ≤ c0) (h : so_eligible.f k l0 a1 a2 a3 a4 = some r) :
  Calls Tryd.prog 38 #[.slice A0 l0.length c0, .int .i64 a1, .int .i64 a2, .int .i64 a3, .int .i64 a4] w fun e w' => ∃ v0_ : Value, e = .returned (v0_) ∧ Kd.R (Kd.int .i64) 3 w' w.heap.size (fun _ => True) v0_ r ∧ Below w.heap.size w w' := by
 have hu28 := Tryd.underlying28
 have HR0 := A0_.mk hr0
 have HC0 := A0_.mk hc0
 clear hr0 hc0
 have HB := A0_.mk (Below.refl w.heap.size w)
 obtain ⟨ro, H, hs_⟩ := Option.bind_eq_some_iff.mp (show ((so_eligible.l0 k a1 a2 a3 a4 ([] : List Int) l0 (l0.length : Int) 0).bind fun out => if out.length ≤ 19 ∧ out.all (fun x => decide (0 ≤ x ∧ x < (l0.length : Int))) = true then some (isort (fun x y => decide (eligible_cmp l0 x y < 0)) out) else none) = some r from h)
 clear h
 have HS := A0_.mk hs_
 clear hs_
 have H' := A0_.mk H
 clear H
 go_enter Tryd.func38, Tryd.ntmps38
 go_wp2
 obtain ⟨W1, hW1⟩ : ∃ W_, w.alloc (.cells #[.slice A0 l0.length c0] 22) = W_ := ⟨_, rfl⟩
 have hbx : W1.cell? ⟨w.heap.size, 0, none⟩ = some (.slice A0 l0.length c0) := by rw [← hW1]; exact World.cell?_alloc_at _ _ _ _ rfl
 have hB1 : Below w.heap.size w W1 := by rw [← hW1]; exact bA_ (Below.refl _ _) _
 have hsz1 : W1.heap.size = w.heap.size + 1 := by rw [← hW1]; exact Array.size_push _
 rw [hW1]
 clear hW1
 replace HR0 := A0_.mk (Kd.C_below HR0.out hB1)
 replace HB := A0_.mk (Below.refl W1.heap.size W1)
 have HBX := A0_.mk hbx
 have HB1 := A0_.mk hB1
 have HSZ := A0_.mk hsz1
 clear hbx hB1 hsz1
 go_loopg [11, 16] k (fun kq v11 v16 w' => ∃ (ea : List Int) (aa : Int), v16 = .int .i64 aa ∧ A0_ (so_eligible.l0 kq a1 a2 a3 a4 ea l0 (l0.length : Int) aa = some ro) ∧ A0_ (kq ≤ k) ∧ A0_ (Kd.R (Kd.int .i64) 3 w' W1.heap.size (fun _ => True) v11 ea) ∧ A0_ (Below W1.heap.size W1 w'))
 case atStart => exact ⟨(([] : List Int)), (0), (rS_), H', ⟨Nat.le_refl _⟩, ⟨by first | exact Kd.R_nil _ _ _ _ _ | exact Kd.N_nil _ _ _ _ _ | exact Kd.V_nil _ _ _ _ _ | exact Kd.Q_nil _ _ _ _ _ | exact Kd.S_nil _ _ _ _ _⟩, ⟨xB_ HB⟩⟩
 case round =>
  clear H'
  try clear p2
  try clear c3
  obtain ⟨ea, aa, rfl, HA, HK1, da, HB⟩ := hrel
  cases gk with
  | zero => exact absurd HA.out (by simp [so_eligible.l0])
  | succ k1 =>
   have H := HA.out
   clear HA
   simp only [so_eligible.l0] at H
   by_cases c6 : aa < (l0.length : Int)
   ·rw [if_pos c6] at H
    have va : decide (aa < (l0.length : Int)) = true := decide_eq_true c6
    clear c6
    by_cases c7 : 0 ≤ aa
    rotate_left
    ·rw [if_neg c7] at H
     exact absurd H (by simp)
    rw [if_pos c7] at H
    have Ea : decide (0 ≤ aa) = true := decide_eq_true c7
    clear c7
    by_cases c8 : aa < (l0.length : Int)
    rotate_left
    ·rw [if_neg c8] at H
     exact absurd H (by simp)
    rw [if_pos c8] at H
    have Fa : decide (aa < (l0.length : Int)) = true := decide_eq_true c8
    clear c8
    by_cases c9 : ((r28_ l0 aa).f0) = a3
    ·rw [if_pos c9] at H
     have wa : (((r28_ l0 aa).f0) == a3) = true := beq_iff_eq.mpr c9
     have xa : (((r28_ l0 aa).f0) != a3) = false := bne_eq_false_iff_eq.mpr c9
     clear c9
     by_cases c10 : ((r28_ l0 aa).f1) = a4
     ·rw [if_pos c10] at H
      have ya : (((r28_ l0 aa).f1) == a4) = true := beq_iff_eq.mpr c10
      have za : (((r28_ l0 aa).f1) != a4) = false := bne_eq_false_iff_eq.mpr c10
      clear c10
      obtain ⟨Aa, A11, H⟩ := oB_ H
      (try dsimp only at H)
      by_cases c12 : Aa = true
      ·subst c12
       have H1 : (if ea.length < 17592186044416 then (so_eligible.l0 k1 a1 a2 a3 a4 (ea ++ [aa]) l0 (l0.length : Int) (wrap64 (aa + 1))) else (none)) = some ro := by rw [if_pos rfl] at H; exact H
       clear H
       have H := H1
       clear H1
       by_cases c13 : ea.length < 17592186044416
       rotate_left
       ·rw [if_neg c13] at H
        exact absurd H (by simp)
       rw [if_pos c13] at H
       have Ba := A0_.mk c13
       clear c13
       obtain ⟨ua, ra⟩ : ∃ y_ : List Int, y_ = (ea ++ [aa]) := ⟨_, rfl⟩
       replace H : (so_eligible.l0 k1 a1 a2 a3 a4 ua l0 (l0.length : Int) (wrap64 (aa + 1))) = some ro := by first | (rw [ra]; with_reducible exact H) | (have H2_ := (Option.bind_some _ _).symm.trans H; rw [ra]; with_reducible exact H2_) | (have H2_ := (Option.bind_some _ _).symm.trans H; with_reducible exact H2_) | with_reducible exact H | (rw [ra]; exact H) | exact H
       have Ca := A0_.mk ra
       clear ra
       have H' := A0_.mk H
       clear H
       have fa : 0 ≤ (aa : Int) := oD_
       have ga : aa < (l0.length : Int) := oD_
       obtain ⟨sa, qa, ha, ia, ja, ka, la, ma, na, oa⟩ := at_T28 HR0.out aa fa ga
       cases qa
       (try replace ha := cT_ HB ha)
       (try replace ia := cT_ HB ia)
       (try replace ja := cT_ HB ja)
       (try replace ka := cT_ HB ka)
       (try replace la := cT_ HB la)
       (try replace ma := cT_ HB ma)
       (try replace na := cT_ HB na)
       (try replace oa := cT_ HB oa)
       replace fa := eq_true fa
       replace ga := eq_true ga
       go_wp2_with (first | ((with_reducible refine gD_ (N := 13) rfl ?_); refine bE_ ?hg (N := 13) ?hd (cs := #[.int .i64 0, .int .i64 0, .bool false, .string (⟨#[]⟩ : ByteArray), .string (⟨#[]⟩ : ByteArray), .int .i64 0, .int .i64 0, .bool false]) (t := 28) ?hr ?_; (case hd => rfl); (case hg => rfl); (case hr => first | (go_simp; done) | (go_simp; rfl)); intro ca hg w14 hbox hb; have n0_ := A0_.mk (Kd.rB_ (xR_ da.out) hb); have n1_ := A0_.mk (bT_ (xB_ HB) hb); have n2_ := A0_.mk (hbox); have n3_ := A0_.mk ((by rw [hg]; exact (bZ_ (xB_ HB)) : W1.heap.size ≤ ca)); have n4_ := A0_.mk ((by rw [hg]; exact (bZ_ (xB_ HB)) : W1.heap.size ≤ ca)); clear da HB; have da := n0_; have HB := n1_; have ba := n2_; have ta := n3_; have pa := n4_; clear n0_ n1_ n2_ n3_ n4_; clear hb hbox hg; have Ga : w14.cell? ⟨ca, 0, none⟩ = some (.int .i64 0) := (kc_ ba.out 0).trans rfl; have Ha : w14.cell? ⟨ca, 1, none⟩ = some (.int .i64 0) := (kc_ ba.out 1).trans rfl; have Ia : w14.cell? ⟨ca, 2, none⟩ = some (.bool false) := (kc_ ba.out 2).trans rfl; have Ja : w14.cell? ⟨ca, 3, none⟩ = some (.string (⟨#[]⟩ : ByteArray)) := (kc_ ba.out 3).trans rfl; have Ka : w14.cell? ⟨ca, 4, none⟩ = some (.string (⟨#[]⟩ : ByteArray)) := (kc_ ba.out 4).trans rfl; have La : w14.cell? ⟨ca, 5, none⟩ = some (.int .i64 0) := (kc_ ba.out 5).trans rfl; have Ma : w14.cell? ⟨ca, 6, none⟩ = some (.int .i64 0) := (kc_ ba.out 6).trans rfl; have Na : w14.cell? ⟨ca, 7, none⟩ = some (.bool false) := (kc_ ba.out 7).trans rfl; have Oa := kF_ ba.out 0; have Pa := kF_ ba.out 1; have Qa := kF_ ba.out 2; have Ra := kF_ ba.out 3; have Sa := kF_ ba.out 4; have Ta := kF_ ba.out 5; have Ua := kF_ ba.out 6; have Va := kF_ ba.out 7) | (go_at_call 13; (with_reducible refine (so_Eligible.calls ((r28_ l0 aa).f0) ((r28_ l0 aa).f1) ((r28_ l0 aa).f2.f0) ((r28_ l0 aa).f2.f1) ((r28_ l0 aa).f2.f2) ((r28_ l0 aa).f3) ((r28_ l0 aa).f4) ((r28_ l0 aa).f5) a1 a2 true _ A11.out).mono ?_); rintro e w16 ⟨rfl, hb⟩; have n0_ := A0_.mk (Kd.rB_ (by (with_reducible repeat (first | apply Kd.R_alloc | apply Kd.rN_ | apply Kd.rD_)); exact (Kd.rM_ (Kd.rF_ (p := ⟨ca, 7, none⟩) (Kd.rF_ (p := ⟨ca, 6, none⟩) (Kd.rF_ (p := ⟨ca, 5, none⟩) (Kd.rF_ (p := ⟨ca, 4, none⟩) (Kd.rF_ (p := ⟨ca, 3, none⟩) (Kd.rF_ (p := ⟨ca, 2, none⟩) (Kd.rF_ (p := ⟨ca, 1, none⟩) (Kd.rF_ (p := ⟨ca, 0, none⟩) (Kd.R_types da.out ba.out (by decide)) (fun _ hk => hk.2) (.int .i64 ((r28_ l0 aa).f0))) (fun _ hk => hk.2) (.int .i64 ((r28_ l0 aa).f1))) (fun _ hk => hk.2) (.bool ((r28_ l0 aa).f2.f0))) (fun _ hk => hk.2) (.string ((r28_ l0 aa).f2.f1))) (fun _ hk => hk.2) (.string ((r28_ l0 aa).f2.f2))) (fun _ hk => hk.2) (.int .i64 ((r28_ l0 aa).f3))) (fun _ hk => hk.2) (.int .i64 ((r28_ l0 aa).f4))) (fun _ hk => hk.2) (.bool ((r28_ l0 aa).f5))) (fun _ h_ => h_.1))) hb); have n1_ := A0_.mk (kB_ (g := ca) (o := .cells #[.int .i64 ((r28_ l0 aa).f0), .int .i64 ((r28_ l0 aa).f1), .bool ((r28_ l0 aa).f2.f0), .string ((r28_ l0 aa).f2.f1), .string ((r28_ l0 aa).f2.f2), .int .i64 ((r28_ l0 aa).f3), .int .i64 ((r28_ l0 aa).f4), .bool ((r28_ l0 aa).f5)] 28 (0, 0)) (by (with_reducible repeat (first | apply kN_ | apply kD_ | apply kA_)); refine kP_ (cs := #[.int .i64 ((r28_ l0 aa).f0), .int .i64 ((r28_ l0 aa).f1), .bool ((r28_ l0 aa).f2.f0), .string ((r28_ l0 aa).f2.f1), .string ((r28_ l0 aa).f2.f2), .int .i64 ((r28_ l0 aa).f3), .int .i64 ((r28_ l0 aa).f4), .bool false]) ?_ 7 _ rfl; (with_reducible repeat (first | apply kN_ | apply kD_ | apply kA_)); refine kP_ (cs := #[.int .i64 ((r28_ l0 aa).f0), .int .i64 ((r28_ l0 aa).f1), .bool ((r28_ l0 aa).f2.f0), .string ((r28_ l0 aa).f2.f1), .string ((r28_ l0 aa).f2.f2), .int .i64 ((r28_ l0 aa).f3), .int .i64 0, .bool false]) ?_ 6 _ rfl; (with_reducible repeat (first | apply kN_ | apply kD_ | apply kA_)); refine kP_ (cs := #[.int .i64 ((r28_ l0 aa).f0), .int .i64 ((r28_ l0 aa).f1), .bool ((r28_ l0 aa).f2.f0), .string ((r28_ l0 aa).f2.f1), .string ((r28_ l0 aa).f2.f2), .int .i64 0, .int .i64 0, .bool false]) ?_ 5 _ rfl; (with_reducible repeat (first | apply kN_ | apply kD_ | apply kA_)); refine kP_ (cs := #[.int .i64 ((r28_ l0 aa).f0), .int .i64 ((r28_ l0 aa).f1), .bool ((r28_ l0 aa).f2.f0), .string ((r28_ l0 aa).f2.f1), .string (⟨#[]⟩ : ByteArray), .int .i64 0, .int .i64 0, .bool false]) ?_ 4 _ rfl; (with_reducible repeat (first | apply kN_ | apply kD_ | apply kA_)); refine kP_ (cs := #[.int .i64 ((r28_ l0 aa).f0), .int .i64 ((r28_ l0 aa).f1), .bool ((r28_ l0 aa).f2.f0), .string (⟨#[]⟩ : ByteArray), .string (⟨#[]⟩ : ByteArray), .int .i64 0, .int .i64 0, .bool false]) ?_ 3 _ rfl; (with_reducible repeat (first | apply kN_ | apply kD_ | apply kA_)); refine kP_ (cs := #[.int .i64 ((r28_ l0 aa).f0), .int .i64 ((r28_ l0 aa).f1), .bool false, .string (⟨#[]⟩ : ByteArray), .string (⟨#[]⟩ : ByteArray), .int .i64 0, .int .i64 0, .bool false]) ?_ 2 _ rfl; (with_reducible repeat (first | apply kN_ | apply kD_ | apply kA_)); refine kP_ (cs := #[.int .i64 ((r28_ l0 aa).f0), .int .i64 0, .bool false, .string (⟨#[]⟩ : ByteArray), .string (⟨#[]⟩ : ByteArray), .int .i64 0, .int .i64 0, .bool false]) ?_ 1 _ rfl; (with_reducible repeat (first | apply kN_ | apply kD_ | apply kA_)); refine kP_ (cs := #[.int .i64 0, .int .i64 0, .bool false, .string (⟨#[]⟩ : ByteArray), .string (⟨#[]⟩ : ByteArray), .int .i64 0, .int .i64 0, .bool false]) ?_ 0 _ rfl; (with_reducible repeat (first | apply kN_ | apply kD_ | apply kA_)); exact ba.out) hb); have n2_ := A0_.mk (bT_ (xB1_ HB pa) hb); clear da ba HB; have da := n0_; have ba := n1_; have HB := n2_; clear n0_ n1_ n2_; (try clear hb); (try clear hb2); (try clear hk); (try clear hi)) | ((with_reducible refine gate_builtin (b := .append) (xs := #[.tmp 37, .tmp 39]) rfl ?_); at_builtin; refine Kd.R_append (Kd.int .i64) (w0 := W1) W1.heap.size rfl (.tmp 37) (.tmp 39) 63 3 (.int .i64 0) 8 rfl Tryd.underlying63 info3 rfl (by decide) (by omega) u11 ea aa [.int .i64 aa] (fun _ => True) (fun _ => False) rfl rfl ?aP (fun _ hk => hk.elim) ?aF ?aO ?aB ?aS ?aL ?_; (case aP => exact rfl); (case aB => exact (xB1_ HB pa)); (case aF => exact (fun _ _ => trivial)); (case aO => exact (xR_ da.out)); (case aS => exact (bZ_ (xB1_ HB pa))); (case aL => have := Ba.out; omega); intro Wa w17 ho hb hg hat; rw [← Ca.out] at ho; have n0_ := A0_.mk (blk_grown (g := ca) (o := .cells #[.int .i64 ((r28_ l0 aa).f0), .int .i64 ((r28_ l0 aa).f1), .bool ((r28_ l0 aa).f2.f0), .string ((r28_ l0 aa).f2.f1), .string ((r28_ l0 aa).f2.f2), .int .i64 ((r28_ l0 aa).f3), .int .i64 ((r28_ l0 aa).f4), .bool ((r28_ l0 aa).f5)] 28 (0, 0)) (xK_ ba.out) hg (Kd.R_ne da.out ba.out (by decide))); have n1_ := A0_.mk (hb); have n2_ := A0_.mk (ho); clear ba HB da; have ba := n0_; have HB := n1_; have Da := n2_; clear n0_ n1_ n2_; clear ho hb hg hat))
       (try simp only [ap_])
       go_roundg k1
       case measure => have := HK1.out; omega
       case rel => exact ⟨(ua), (wrap64 (aa + 1)), (rS_), H', ⟨by have := HK1.out; omega⟩, ⟨by (with_reducible repeat (first | apply Kd.R_alloc | apply Kd.rN_ | apply Kd.rD_)); exact Da.out⟩, ⟨xB1_ HB pa⟩⟩
      ·replace c12 := Bool.eq_false_iff.mpr c12
       subst c12
       have H1 : (so_eligible.l0 k1 a1 a2 a3 a4 ea l0 (l0.length : Int) (wrap64 (aa + 1))) = some ro := by rw [if_neg (show ¬ (false = true) by decide)] at H; exact H
       clear H
       have H := H1
       clear H1
       have H' := A0_.mk H
       clear H
       have fa : 0 ≤ (aa : Int) := oD_
       have ga : aa < (l0.length : Int) := oD_
       obtain ⟨sa, qa, ha, ia, ja, ka, la, ma, na, oa⟩ := at_T28 HR0.out aa fa ga
       cases qa
       (try replace ha := cT_ HB ha)
       (try replace ia := cT_ HB ia)
       (try replace ja := cT_ HB ja)
       (try replace ka := cT_ HB ka)
       (try replace la := cT_ HB la)
       (try replace ma := cT_ HB ma)
       (try replace na := cT_ HB na)
       (try replace oa := cT_ HB oa)
       replace fa := eq_true fa
       replace ga := eq_true ga
       go_wp2_with (first | ((with_reducible refine gD_ (N := 13) rfl ?_); refine bE_ ?hg (N := 13) ?hd (cs := #[.int .i64 0, .int .i64 0, .bool false, .string (⟨#[]⟩ : ByteArray), .string (⟨#[]⟩ : ByteArray), .int .i64 0, .int .i64 0, .bool false]) (t := 28) ?hr ?_; (case hd => rfl); (case hg => rfl); (case hr => first | (go_simp; done) | (go_simp; rfl)); intro ca hg w18 hbox hb; have n0_ := A0_.mk (Kd.rB_ (xR_ da.out) hb); have n1_ := A0_.mk (bT_ (xB_ HB) hb); have n2_ := A0_.mk (hbox); have n3_ := A0_.mk ((by rw [hg]; exact (bZ_ (xB_ HB)) : W1.heap.size ≤ ca)); have n4_ := A0_.mk ((by rw [hg]; exact (bZ_ (xB_ HB)) : W1.heap.size ≤ ca)); clear da HB; have da := n0_; have HB := n1_; have ba := n2_; have ta := n3_; have pa := n4_; clear n0_ n1_ n2_ n3_ n4_; clear hb hbox hg; have Xa : w18.cell? ⟨ca, 0, none⟩ = some (.int .i64 0) := (kc_ ba.out 0).trans rfl; have Ya : w18.cell? ⟨ca, 1, none⟩ = some (.int .i64 0) := (kc_ ba.out 1).trans rfl; have Za : w18.cell? ⟨ca, 2, none⟩ = some (.bool false) := (kc_ ba.out 2).trans rfl; have ab : w18.cell? ⟨ca, 3, none⟩ = some (.string (⟨#[]⟩ : ByteArray)) := (kc_ ba.out 3).trans rfl; have bb : w18.cell? ⟨ca, 4, none⟩ = some (.string (⟨#[]⟩ : ByteArray)) := (kc_ ba.out 4).trans rfl; have cb : w18.cell? ⟨ca, 5, none⟩ = some (.int .i64 0) := (kc_ ba.out 5).trans rfl; have db : w18.cell? ⟨ca, 6, none⟩ = some (.int .i64 0) := (kc_ ba.out 6).trans rfl; have eb : w18.cell? ⟨ca, 7, none⟩ = some (.bool false) := (kc_ ba.out 7).trans rfl; have fb := kF_ ba.out 0; have gb := kF_ ba.out 1; have ib := kF_ ba.out 2; have jb := kF_ ba.out 3; have kb := kF_ ba.out 4; have mb := kF_ ba.out 5; have nb := kF_ ba.out 6; have ob := kF_ ba.out 7) | (go_at_call 13; (with_reducible refine (so_Eligible.calls ((r28_ l0 aa).f0) ((r28_ l0 aa).f1) ((r28_ l0 aa).f2.f0) ((r28_ l0 aa).f2.f1) ((r28_ l0 aa).f2.f2) ((r28_ l0 aa).f3) ((r28_ l0 aa).f4) ((r28_ l0 aa).f5) a1 a2 false _ A11.out).mono ?_); rintro e w20 ⟨rfl, hb⟩; have n0_ := A0_.mk (Kd.rB_ (by (with_reducible repeat (first | apply Kd.R_alloc | apply Kd.rN_ | apply Kd.rD_)); exact (Kd.rM_ (Kd.rF_ (p := ⟨ca, 7, none⟩) (Kd.rF_ (p := ⟨ca, 6, none⟩) (Kd.rF_ (p := ⟨ca, 5, none⟩) (Kd.rF_ (p := ⟨ca, 4, none⟩) (Kd.rF_ (p := ⟨ca, 3, none⟩) (Kd.rF_ (p := ⟨ca, 2, none⟩) (Kd.rF_ (p := ⟨ca, 1, none⟩) (Kd.rF_ (p := ⟨ca, 0, none⟩) (Kd.R_types da.out ba.out (by decide)) (fun _ hk => hk.2) (.int .i64 ((r28_ l0 aa).f0))) (fun _ hk => hk.2) (.int .i64 ((r28_ l0 aa).f1))) (fun _ hk => hk.2) (.bool ((r28_ l0 aa).f2.f0))) (fun _ hk => hk.2) (.string ((r28_ l0 aa).f2.f1))) (fun _ hk => hk.2) (.string ((r28_ l0 aa).f2.f2))) (fun _ hk => hk.2) (.int .i64 ((r28_ l0 aa).f3))) (fun _ hk => hk.2) (.int .i64 ((r28_ l0 aa).f4))) (fun _ hk => hk.2) (.bool ((r28_ l0 aa).f5))) (fun _ h_ => h_.1))) hb); have n1_ := A0_.mk (kB_ (g := ca) (o := .cells #[.int .i64 ((r28_ l0 aa).f0), .int .i64 ((r28_ l0 aa).f1), .bool ((r28_ l0 aa).f2.f0), .string ((r28_ l0 aa).f2.f1), .string ((r28_ l0 aa).f2.f2), .int .i64 ((r28_ l0 aa).f3), .int .i64 ((r28_ l0 aa).f4), .bool ((r28_ l0 aa).f5)] 28 (0, 0)) (by (with_reducible repeat (first | apply kN_ | apply kD_ | apply kA_)); refine kP_ (cs := #[.int .i64 ((r28_ l0 aa).f0), .int .i64 ((r28_ l0 aa).f1), .bool ((r28_ l0 aa).f2.f0), .string ((r28_ l0 aa).f2.f1), .string ((r28_ l0 aa).f2.f2), .int .i64 ((r28_ l0 aa).f3), .int .i64 ((r28_ l0 aa).f4), .bool false]) ?_ 7 _ rfl; (with_reducible repeat (first | apply kN_ | apply kD_ | apply kA_)); refine kP_ (cs := #[.int .i64 ((r28_ l0 aa).f0), .int .i64 ((r28_ l0 aa).f1), .bool ((r28_ l0 aa).f2.f0), .string ((r28_ l0 aa).f2.f1), .string ((r28_ l0 aa).f2.f2), .int .i64 ((r28_ l0 aa).f3), .int .i64 0, .bool false]) ?_ 6 _ rfl; (with_reducible repeat (first | apply kN_ | apply kD_ | apply kA_)); refine kP_ (cs := #[.int .i64 ((r28_ l0 aa).f0), .int .i64 ((r28_ l0 aa).f1), .bool ((r28_ l0 aa).f2.f0), .string ((r28_ l0 aa).f2.f1), .string ((r28_ l0 aa).f2.f2), .int .i64 0, .int .i64 0, .bool false]) ?_ 5 _ rfl; (with_reducible repeat (first | apply kN_ | apply kD_ | apply kA_)); refine kP_ (cs := #[.int .i64 ((r28_ l0 aa).f0), .int .i64 ((r28_ l0 aa).f1), .bool ((r28_ l0 aa).f2.f0), .string ((r28_ l0 aa).f2.f1), .string (⟨#[]⟩ : ByteArray), .int .i64 0, .int .i64 0, .bool false]) ?_ 4 _ rfl; (with_reducible repeat (first | apply kN_ | apply kD_ | apply kA_)); refine kP_ (cs := #[.int .i64 ((r28_ l0 aa).f0), .int .i64 ((r28_ l0 aa).f1), .bool ((r28_ l0 aa).f2.f0), .string (⟨#[]⟩ : ByteArray), .string (⟨#[]⟩ : ByteArray), .int .i64 0, .int .i64 0, .bool false]) ?_ 3 _ rfl; (with_reducible repeat (first | apply kN_ | apply kD_ | apply kA_)); refine kP_ (cs := #[.int .i64 ((r28_ l0 aa).f0), .int .i64 ((r28_ l0 aa).f1), .bool false, .string (⟨#[]⟩ : ByteArray), .string (⟨#[]⟩ : ByteArray), .int .i64 0, .int .i64 0, .bool false]) ?_ 2 _ rfl; (with_reducible repeat (first | apply kN_ | apply kD_ | apply kA_)); refine kP_ (cs := #[.int .i64 ((r28_ l0 aa).f0), .int .i64 0, .bool false, .string (⟨#[]⟩ : ByteArray), .string (⟨#[]⟩ : ByteArray), .int .i64 0, .int .i64 0, .bool false]) ?_ 1 _ rfl; (with_reducible repeat (first | apply kN_ | apply kD_ | apply kA_)); refine kP_ (cs := #[.int .i64 0, .int .i64 0, .bool false, .string (⟨#[]⟩ : ByteArray), .string (⟨#[]⟩ : ByteArray), .int .i64 0, .int .i64 0, .bool false]) ?_ 0 _ rfl; (with_reducible repeat (first | apply kN_ | apply kD_ | apply kA_)); exact ba.out) hb); have n2_ := A0_.mk (bT_ (xB1_ HB pa) hb); clear da ba HB; have da := n0_; have ba := n1_; have HB := n2_; clear n0_ n1_ n2_; (try clear hb); (try clear hb2); (try clear hk); (try clear hi)))
       (try simp only [ap_])
       go_roundg k1
       case measure => have := HK1.out; omega
       case rel => exact ⟨(ea), (wrap64 (aa + 1)), (rS_), H', ⟨by have := HK1.out; omega⟩, ⟨by (with_reducible repeat (first | apply Kd.R_alloc | apply Kd.rN_ | apply Kd.rD_)); exact da.out⟩, ⟨xB1_ HB pa⟩⟩
     ·rw [if_neg c10] at H
      have ya : (((r28_ l0 aa).f1) == a4) = false := beq_eq_false_iff_ne.mpr c10
      have za : (((r28_ l0 aa).f1) != a4) = true := bne_iff_ne.mpr c10
      have H' := A0_.mk H
      clear H
      have fa : 0 ≤ (aa : Int) := oD_
      have ga : aa < (l0.length : Int) := oD_
      obtain ⟨sa, qa, ha, ia, ja, ka, la, ma, na, oa⟩ := at_T28 HR0.out aa fa ga
      cases qa
      (try replace ha := cT_ HB ha)
      (try replace ia := cT_ HB ia)
      (try replace ja := cT_ HB ja)
      (try replace ka := cT_ HB ka)
      (try replace la := cT_ HB la)
      (try replace ma := cT_ HB ma)
      (try replace na := cT_ HB na)
      (try replace oa := cT_ HB oa)
      replace fa := eq_true fa
      replace ga := eq_true ga
      go_wp2_with (first | ((with_reducible refine gD_ (N := 13) rfl ?_); refine bE_ ?hg (N := 13) ?hd (cs := #[.int .i64 0, .int .i64 0, .bool false, .string (⟨#[]⟩ : ByteArray), .string (⟨#[]⟩ : ByteArray), .int .i64 0, .int .i64 0, .bool false]) (t := 28) ?hr ?_; (case hd => rfl); (case hg => rfl); (case hr => first | (go_simp; done) | (go_simp; rfl)); intro ca hg w21 hbox hb; have n0_ := A0_.mk (Kd.rB_ (xR_ da.out) hb); have n1_ := A0_.mk (bT_ (xB_ HB) hb); have n2_ := A0_.mk (hbox); have n3_ := A0_.mk ((by rw [hg]; exact (bZ_ (xB_ HB)) : W1.heap.size ≤ ca)); have n4_ := A0_.mk ((by rw [hg]; exact (bZ_ (xB_ HB)) : W1.heap.size ≤ ca)); clear da HB; have da := n0_; have HB := n1_; have ba := n2_; have ta := n3_; have pa := n4_; clear n0_ n1_ n2_ n3_ n4_; clear hb hbox hg; have pb : w21.cell? ⟨ca, 0, none⟩ = some (.int .i64 0) := (kc_ ba.out 0).trans rfl; have qb : w21.cell? ⟨ca, 1, none⟩ = some (.int .i64 0) := (kc_ ba.out 1).trans rfl; have rb : w21.cell? ⟨ca, 2, none⟩ = some (.bool false) := (kc_ ba.out 2).trans rfl; have sb : w21.cell? ⟨ca, 3, none⟩ = some (.string (⟨#[]⟩ : ByteArray)) := (kc_ ba.out 3).trans rfl; have tb : w21.cell? ⟨ca, 4, none⟩ = some (.string (⟨#[]⟩ : ByteArray)) := (kc_ ba.out 4).trans rfl; have ub : w21.cell? ⟨ca, 5, none⟩ = some (.int .i64 0) := (kc_ ba.out 5).trans rfl; have vb : w21.cell? ⟨ca, 6, none⟩ = some (.int .i64 0) := (kc_ ba.out 6).trans rfl; have wb : w21.cell? ⟨ca, 7, none⟩ = some (.bool false) := (kc_ ba.out 7).trans rfl; have xb := kF_ ba.out 0; have yb := kF_ ba.out 1; have zb := kF_ ba.out 2; have Ab := kF_ ba.out 3; have Bb := kF_ ba.out 4; have Cb := kF_ ba.out 5; have Db := kF_ ba.out 6; have Eb := kF_ ba.out 7))
      (try simp only [ap_])
      go_roundg k1
      case measure => have := HK1.out; omega
      case rel => exact ⟨(ea), (wrap64 (aa + 1)), (rS_), H', ⟨by have := HK1.out; omega⟩, ⟨by (with_reducible repeat (first | apply Kd.R_alloc | apply Kd.rN_ | apply Kd.rD_)); exact Kd.rM_ (Kd.rF_ (p := ⟨ca, 7, none⟩) (Kd.rF_ (p := ⟨ca, 6, none⟩) (Kd.rF_ (p := ⟨ca, 5, none⟩) (Kd.rF_ (p := ⟨ca, 4, none⟩) (Kd.rF_ (p := ⟨ca, 3, none⟩) (Kd.rF_ (p := ⟨ca, 2, none⟩) (Kd.rF_ (p := ⟨ca, 1, none⟩) (Kd.rF_ (p := ⟨ca, 0, none⟩) (Kd.R_types da.out ba.out (by decide)) (fun _ hk => hk.2) (.int .i64 ((r28_ l0 aa).f0))) (fun _ hk => hk.2) (.int .i64 ((r28_ l0 aa).f1))) (fun _ hk => hk.2) (.bool ((r28_ l0 aa).f2.f0))) (fun _ hk => hk.2) (.string ((r28_ l0 aa).f2.f1))) (fun _ hk => hk.2) (.string ((r28_ l0 aa).f2.f2))) (fun _ hk => hk.2) (.int .i64 ((r28_ l0 aa).f3))) (fun _ hk => hk.2) (.int .i64 ((r28_ l0 aa).f4))) (fun _ hk => hk.2) (.bool ((r28_ l0 aa).f5))) (fun _ hk => trivial)⟩, ⟨xB1_ HB pa⟩⟩
    ·rw [if_neg c9] at H
     have wa : (((r28_ l0 aa).f0) == a3) = false := beq_eq_false_iff_ne.mpr c9
     have xa : (((r28_ l0 aa).f0) != a3) = true := bne_iff_ne.mpr c9
     have H' := A0_.mk H
     clear H
     have fa : 0 ≤ (aa : Int) := oD_
     have ga : aa < (l0.length : Int) := oD_
     obtain ⟨sa, qa, ha, ia, ja, ka, la, ma, na, oa⟩ := at_T28 HR0.out aa fa ga
     cases qa
     (try replace ha := cT_ HB ha)
     (try replace ia := cT_ HB ia)
     (try replace ja := cT_ HB ja)
     (try replace ka := cT_ HB ka)
     (try replace la := cT_ HB la)
     (try replace ma := cT_ HB ma)
     (try replace na := cT_ HB na)
     (try replace oa := cT_ HB oa)
     replace fa := eq_true fa
     replace ga := eq_true ga
     go_wp2_with (first | ((with_reducible refine gD_ (N := 13) rfl ?_); refine bE_ ?hg (N := 13) ?hd (cs := #[.int .i64 0, .int .i64 0, .bool false, .string (⟨#[]⟩ : ByteArray), .string (⟨#[]⟩ : ByteArray), .int .i64 0, .int .i64 0, .bool false]) (t := 28) ?hr ?_; (case hd => rfl); (case hg => rfl); (case hr => first | (go_simp; done) | (go_simp; rfl)); intro ca hg w23 hbox hb; have n0_ := A0_.mk (Kd.rB_ (xR_ da.out) hb); have n1_ := A0_.mk (bT_ (xB_ HB) hb); have n2_ := A0_.mk (hbox); have n3_ := A0_.mk ((by rw [hg]; exact (bZ_ (xB_ HB)) : W1.heap.size ≤ ca)); have n4_ := A0_.mk ((by rw [hg]; exact (bZ_ (xB_ HB)) : W1.heap.size ≤ ca)); clear da HB; have da := n0_; have HB := n1_; have ba := n2_; have ta := n3_; have pa := n4_; clear n0_ n1_ n2_ n3_ n4_; clear hb hbox hg; have Fb : w23.cell? ⟨ca, 0, none⟩ = some (.int .i64 0) := (kc_ ba.out 0).trans rfl; have Gb : w23.cell? ⟨ca, 1, none⟩ = some (.int .i64 0) := (kc_ ba.out 1).trans rfl; have Hb : w23.cell? ⟨ca, 2, none⟩ = some (.bool false) := (kc_ ba.out 2).trans rfl; have Ib : w23.cell? ⟨ca, 3, none⟩ = some (.string (⟨#[]⟩ : ByteArray)) := (kc_ ba.out 3).trans rfl; have Jb : w23.cell? ⟨ca, 4, none⟩ = some (.string (⟨#[]⟩ : ByteArray)) := (kc_ ba.out 4).trans rfl; have Kb : w23.cell? ⟨ca, 5, none⟩ = some (.int .i64 0) := (kc_ ba.out 5).trans rfl; have Lb : w23.cell? ⟨ca, 6, none⟩ = some (.int .i64 0) := (kc_ ba.out 6).trans rfl; have Mb : w23.cell? ⟨ca, 7, none⟩ = some (.bool false) := (kc_ ba.out 7).trans rfl; have Nb := kF_ ba.out 0; have Ob := kF_ ba.out 1; have Pb := kF_ ba.out 2; have Qb := kF_ ba.out 3; have Rb := kF_ ba.out 4; have Sb := kF_ ba.out 5; have Tb := kF_ ba.out 6; have Ub := kF_ ba.out 7))
     (try simp only [ap_])
     go_roundg k1
     case measure => have := HK1.out; omega
     case rel => exact ⟨(ea), (wrap64 (aa + 1)), (rS_), H', ⟨by have := HK1.out; omega⟩, ⟨by (with_reducible repeat (first | apply Kd.R_alloc | apply Kd.rN_ | apply Kd.rD_)); exact Kd.rM_ (Kd.rF_ (p := ⟨ca, 7, none⟩) (Kd.rF_ (p := ⟨ca, 6, none⟩) (Kd.rF_ (p := ⟨ca, 5, none⟩) (Kd.rF_ (p := ⟨ca, 4, none⟩) (Kd.rF_ (p := ⟨ca, 3, none⟩) (Kd.rF_ (p := ⟨ca, 2, none⟩) (Kd.rF_ (p := ⟨ca, 1, none⟩) (Kd.rF_ (p := ⟨ca, 0, none⟩) (Kd.R_types da.out ba.out (by decide)) (fun _ hk => hk.2) (.int .i64 ((r28_ l0 aa).f0))) (fun _ hk => hk.2) (.int .i64 ((r28_ l0 aa).f1))) (fun _ hk => hk.2) (.bool ((r28_ l0 aa).f2.f0))) (fun _ hk => hk.2) (.string ((r28_ l0 aa).f2.f1))) (fun _ hk => hk.2) (.string ((r28_ l0 aa).f2.f2))) (fun _ hk => hk.2) (.int .i64 ((r28_ l0 aa).f3))) (fun _ hk => hk.2) (.int .i64 ((r28_ l0 aa).f4))) (fun _ hk => hk.2) (.bool ((r28_ l0 aa).f5))) (fun _ hk => trivial)⟩, ⟨xB1_ HB pa⟩⟩
   ·rw [if_neg c6] at H
    have va : decide (aa < (l0.length : Int)) = false := decide_eq_false c6
    clear c6
    obtain rfl := Option.some.inj H
    have hs_ := HS.out
    by_cases hc_ : ea.length ≤ 19 ∧ ea.all (fun x => decide (0 ≤ x ∧ x < (l0.length : Int))) = true
    ·rw [if_pos hc_] at hs_
     obtain rfl := Option.some.inj hs_
     obtain ⟨hlen_, hin0_⟩ := hc_
     have hin_ : ∀ x ∈ ea, 0 ≤ x ∧ x < (l0.length : Int) := fun x hx => of_decide_eq_true (List.all_eq_true.mp hin0_ x hx)
     clear hs_ hin0_
     obtain ⟨Ao_, co_, eo_⟩ := Kd.rS_' da.out
     subst eo_
     have hbxlt_ := World.block_lt_of_cell? W1 _ HBX.out
     have hcmp_ : CmpOk 59 #[.pointer (some ⟨w.heap.size, 0, none⟩)] (eligible_cmp l0) ea W1.heap.size wr := fun x hx y hy W hW => eligible_cmp_calls A0 c0 w.heap.size l0 x y W (Kd.C_below HR0.out (HB.out.trans hW)) (((HB.out.trans hW).cell hbxlt_).trans HBX.out) (hin_ x hx) (hin_ y hy)
     have HSS := A0_.mk (sortStable_calls 59 _ _ eligible_enters da.out hlen_ HB.out.size hcmp_)
     clear hcmp_ hin_ hlen_ hbxlt_
     have hmf : ∀ (fn : Fn) (first cap : Array Value) (w : World), (Instr.makeFunc fn first cap).run Tryd.prog w = .ok (.func fn first cap) w := fun _ _ _ _ => rfl
     go_wp2_with (go_at_call 58; refine HSS.out.mono ?_; rintro e w2 ⟨rfl, hrs, hbs⟩)
     go_ret
     exact ⟨_, rfl, Kd.rL_ hrs (by have := HSZ.out; omega), HB1.out.trans ((HB.out.trans hbs).mono (by have := HSZ.out; omega))⟩
    ·rw [if_neg hc_] at hs_
     exact absurd hs_ (by simp)
theorem bne_nil_isEmpty (l : List UInt8) : (l != ([] : List UInt8)) = !l.isEmpty := by cases l <;> rfl
def q_negate.f (a0_0 : Bool) (a0_1 : ByteArray) (a0_2 : ByteArray) : Option (Bool × ByteArray × ByteArray) := if a0_0 = true then (some (false, a0_1, a0_2)) else (some ((a0_1.toList != ([] : List UInt8)), a0_1, a0_2))
theorem q_negate.calls (a0_0 : Bool) (a0_1 : ByteArray) (a0_2 : ByteArray) (r1 : Bool) (r2 : ByteArray) (r3 : ByteArray) (w : World) (h : q_negate.f a0_0 a0_1 a0_2 = some (r1, r2, r3)) :
  Calls Tryd.prog 48 #[.agg #[.bool a0_0, .string a0_1, .string a0_2]] w fun e w' => e = .returned (.agg #[.bool r1, .string r2, .string r3]) ∧ Below w.heap.size w w' := by
 have hu26 := Tryd.underlying26
 have HB := A0_.mk (Below.refl w.heap.size w)
 have H := h
 unfold q_negate.f at H
 clear h
 by_cases c2 : a0_0 = true
 ·subst c2
  have H1 : (some (false, a0_1, a0_2)) = some (r1, r2, r3) := by rw [if_pos rfl] at H; exact H
  clear H
  have H := H1
  clear H1
  simp only [Option.some.injEq, Prod.mk.injEq] at H
  obtain ⟨rfl, rfl, rfl⟩ := H
  go_enter Tryd.func48, Tryd.ntmps48
  go_wp2_with (first | ((with_reducible refine gD_ (N := 1) rfl ?_); refine bE_ ?hg (N := 1) ?hd (cs := #[.bool true, .string a0_1, .string a0_2]) (t := 26) ?hr ?_; (case hd => rfl); (case hg => rfl); (case hr => first | (go_simp; done) | (go_simp; rfl)); intro ba hg w3 hbox hb; have n0_ := A0_.mk (bT_ (xB_ HB) hb); have n1_ := A0_.mk (hbox); have n2_ := A0_.mk ((by rw [hg]; exact (bZ_ (xB_ HB)) : w.heap.size ≤ ba)); have n3_ := A0_.mk ((by rw [hg]; exact (bZ_ (xB_ HB)) : w.heap.size ≤ ba)); clear HB; have HB := n0_; have aa := n1_; have ia := n2_; have ea := n3_; clear n0_ n1_ n2_ n3_; clear hb hbox hg) | ((with_reducible refine gD_ (N := 2) rfl ?_); refine bE_ ?hg (N := 2) ?hd (cs := zC_) (t := 26) ?hr ?_; (case hd => rfl); (case hg => rfl); (case hr => first | (go_simp; done) | (go_simp; rfl)); intro ca hg w4 hbox hb; have n0_ := A0_.mk (kB_ (g := ba) (o := .cells #[.bool true, .string a0_1, .string a0_2] 26 (0, 0)) (xK_ aa.out) hb); have n1_ := A0_.mk (bT_ (xB1_ HB ea) hb); have n2_ := A0_.mk (hbox); have n3_ := A0_.mk ((by rw [hg]; exact (bZ_ (xB1_ HB ea)) : w.heap.size ≤ ca)); have n4_ := A0_.mk ((by rw [hg]; exact (bZ_ (xB1_ HB ea)) : w.heap.size ≤ ca)); have n5_ := A0_.mk ((by rw [hg]; exact Nat.ne_of_lt (blk_lt (g := ba) (o := .cells #[.bool true, .string a0_1, .string a0_2] 26 (0, 0)) (xK_ aa.out)) : ba ≠ ca)); have n6_ := A0_.mk ((by rw [hg]; exact Nat.ne_of_gt (blk_lt (g := ba) (o := .cells #[.bool true, .string a0_1, .string a0_2] 26 (0, 0)) (xK_ aa.out)) : ca ≠ ba)); clear aa HB; have aa := n0_; have HB := n1_; have da := n2_; have ja := n3_; have ga := n4_; have ha := n5_; have fa := n6_; clear n0_ n1_ n2_ n3_ n4_ n5_ n6_; clear hb hbox hg; have hnb5 := ha.out; have hnc5 := fa.out; have ka : w4.cell? ⟨ba, 0, none⟩ = some (.bool true) := (kc_ aa.out 0).trans rfl; have la : w4.cell? ⟨ba, 1, none⟩ = some (.string a0_1) := (kc_ aa.out 1).trans rfl; have ma : w4.cell? ⟨ba, 2, none⟩ = some (.string a0_2) := (kc_ aa.out 2).trans rfl; have na := kF_ aa.out 0; have oa := kF_ aa.out 1; have pa := kF_ aa.out 2; have qa : w4.cell? ⟨ca, 0, none⟩ = some (.bool false) := (kc_ da.out 0).trans rfl; have ra : w4.cell? ⟨ca, 1, none⟩ = some (.string (⟨#[]⟩ : ByteArray)) := (kc_ da.out 1).trans rfl; have sa : w4.cell? ⟨ca, 2, none⟩ = some (.string (⟨#[]⟩ : ByteArray)) := (kc_ da.out 2).trans rfl; have ta := kF_ da.out 0; have ua := kF_ da.out 1; have va := kF_ da.out 2))
  refine bodyPost_ret (results_cell_row rfl _ _ ca 26 #[.bool false, .string a0_1, .string a0_2] (0, 0) _ rfl (by (with_reducible repeat (first | apply kN_ | apply kD_ | apply kA_)); refine kP_ (cs := #[.bool false, .string a0_1, .string (⟨#[]⟩ : ByteArray)]) ?_ 2 _ rfl; (with_reducible repeat (first | apply kN_ | apply kD_ | apply kA_)); refine kP_ (cs := zC_) ?_ 1 _ rfl; (with_reducible repeat (first | apply kN_ | apply kD_ | apply kA_)); refine kP_ (cs := zC_) ?_ 0 _ rfl; (with_reducible repeat (first | apply kN_ | apply kD_ | apply kA_)); refine bf_ ?_ fa.out _; (with_reducible repeat (first | apply kN_ | apply kD_ | apply kA_)); exact da.out) Tryd.underlying26 rfl kr_) rfl ?_
  exact ⟨rE_, xB2_ HB ea ga⟩
 ·replace c2 := Bool.eq_false_iff.mpr c2
  subst c2
  have H1 : (some ((a0_1.toList != ([] : List UInt8)), a0_1, a0_2)) = some (r1, r2, r3) := by rw [if_neg (show ¬ (false = true) by decide)] at H; exact H
  clear H
  have H := H1
  clear H1
  simp only [Option.some.injEq, Prod.mk.injEq] at H
  obtain ⟨rfl, rfl, rfl⟩ := H
  go_enter Tryd.func48, Tryd.ntmps48
  go_wp2_with (first | ((with_reducible refine gD_ (N := 1) rfl ?_); refine bE_ ?hg (N := 1) ?hd (cs := #[.bool false, .string a0_1, .string a0_2]) (t := 26) ?hr ?_; (case hd => rfl); (case hg => rfl); (case hr => first | (go_simp; done) | (go_simp; rfl)); intro ba hg w8 hbox hb; have n0_ := A0_.mk (bT_ (xB_ HB) hb); have n1_ := A0_.mk (hbox); have n2_ := A0_.mk ((by rw [hg]; exact (bZ_ (xB_ HB)) : w.heap.size ≤ ba)); have n3_ := A0_.mk ((by rw [hg]; exact (bZ_ (xB_ HB)) : w.heap.size ≤ ba)); clear HB; have HB := n0_; have aa := n1_; have ia := n2_; have ea := n3_; clear n0_ n1_ n2_ n3_; clear hb hbox hg) | ((with_reducible refine gD_ (N := 2) rfl ?_); refine bE_ ?hg (N := 2) ?hd (cs := zC_) (t := 26) ?hr ?_; (case hd => rfl); (case hg => rfl); (case hr => first | (go_simp; done) | (go_simp; rfl)); intro ca hg w9 hbox hb; have n0_ := A0_.mk (kB_ (g := ba) (o := .cells #[.bool false, .string a0_1, .string a0_2] 26 (0, 0)) (xK_ aa.out) hb); have n1_ := A0_.mk (bT_ (xB1_ HB ea) hb); have n2_ := A0_.mk (hbox); have n3_ := A0_.mk ((by rw [hg]; exact (bZ_ (xB1_ HB ea)) : w.heap.size ≤ ca)); have n4_ := A0_.mk ((by rw [hg]; exact (bZ_ (xB1_ HB ea)) : w.heap.size ≤ ca)); have n5_ := A0_.mk ((by rw [hg]; exact Nat.ne_of_lt (blk_lt (g := ba) (o := .cells #[.bool false, .string a0_1, .string a0_2] 26 (0, 0)) (xK_ aa.out)) : ba ≠ ca)); have n6_ := A0_.mk ((by rw [hg]; exact Nat.ne_of_gt (blk_lt (g := ba) (o := .cells #[.bool false, .string a0_1, .string a0_2] 26 (0, 0)) (xK_ aa.out)) : ca ≠ ba)); clear aa HB; have aa := n0_; have HB := n1_; have da := n2_; have ja := n3_; have ga := n4_; have ha := n5_; have fa := n6_; clear n0_ n1_ n2_ n3_ n4_ n5_ n6_; clear hb hbox hg; have hnb10 := ha.out; have hnc10 := fa.out; have wa : w9.cell? ⟨ba, 0, none⟩ = some (.bool false) := (kc_ aa.out 0).trans rfl; have xa : w9.cell? ⟨ba, 1, none⟩ = some (.string a0_1) := (kc_ aa.out 1).trans rfl; have ya : w9.cell? ⟨ba, 2, none⟩ = some (.string a0_2) := (kc_ aa.out 2).trans rfl; have za := kF_ aa.out 0; have Aa := kF_ aa.out 1; have Ba := kF_ aa.out 2; have Ca : w9.cell? ⟨ca, 0, none⟩ = some (.bool false) := (kc_ da.out 0).trans rfl; have Da : w9.cell? ⟨ca, 1, none⟩ = some (.string (⟨#[]⟩ : ByteArray)) := (kc_ da.out 1).trans rfl; have Ea : w9.cell? ⟨ca, 2, none⟩ = some (.string (⟨#[]⟩ : ByteArray)) := (kc_ da.out 2).trans rfl; have Fa := kF_ da.out 0; have Ga := kF_ da.out 1; have Ha := kF_ da.out 2))
  simp only [bne_nil_isEmpty]
  refine bodyPost_ret (results_cell_row rfl _ _ ca 26 #[.bool (!a0_1.toList.isEmpty), .string a0_1, .string a0_2] (0, 0) _ rfl (by (with_reducible repeat (first | apply kN_ | apply kD_ | apply kA_)); refine kP_ (cs := #[.bool (!a0_1.toList.isEmpty), .string a0_1, .string (⟨#[]⟩ : ByteArray)]) ?_ 2 _ rfl; (with_reducible repeat (first | apply kN_ | apply kD_ | apply kA_)); refine kP_ (cs := #[.bool (!a0_1.toList.isEmpty), .string (⟨#[]⟩ : ByteArray), .string (⟨#[]⟩ : ByteArray)]) ?_ 1 _ rfl; (with_reducible repeat (first | apply kN_ | apply kD_ | apply kA_)); refine kP_ (cs := zC_) ?_ 0 _ rfl; (with_reducible repeat (first | apply kN_ | apply kD_ | apply kA_)); refine bf_ ?_ fa.out _; (with_reducible repeat (first | apply kN_ | apply kD_ | apply kA_)); exact da.out) Tryd.underlying26 rfl kr_) rfl ?_
  exact ⟨rE_, xB2_ HB ea ga⟩
def q_Subtract.f (k : Nat) (a0_0 : Bool) (a0_1 : ByteArray) (a0_2 : ByteArray) (a1_0 : Bool) (a1_1 : ByteArray) (a1_2 : ByteArray) : Option (Bool × ByteArray × ByteArray) := (q_clean.f k a0_0 a0_1 a0_2).bind fun bt436 => ((q_clean.f k a1_0 a1_1 a1_2).bind fun bt439 => ((q_negate.f bt439.1 bt439.2.1 bt439.2.2).bind fun bt442 => ((q_add.f k bt436.1 bt436.2.1 bt436.2.2 bt442.1 bt442.2.1 bt442.2.2).bind fun bt445 => (some (bt445.1, bt445.2.1, bt445.2.2)))))
theorem q_Subtract.mono : ∀ a0 a1 a2 a3 a4 a5 k, LeO (q_Subtract.f k a0 a1 a2 a3 a4 a5) (q_Subtract.f (k + 1) a0 a1 a2 a3 a4 a5) := by
 intro a0 a1 a2 a3 a4 a5 k
 unfold q_Subtract.f
 repeat' first
   | (with_reducible first | exact q_add.mono _ _ _ _ _ _ _ | exact q_clean.mono _ _ _ _ | exact LeO.refl _ | exact LeO.none _ | refine LeO.ite ?_ ?_ | refine LeO.bind ?_ (fun _ => ?_))
theorem q_Subtract.calls (k : Nat) (a0_0 : Bool) (a0_1 : ByteArray) (a0_2 : ByteArray) (a1_0 : Bool) (a1_1 : ByteArray) (a1_2 : ByteArray) (r1 : Bool) (r2 : ByteArray) (r3 : ByteArray) (w : World) (h : q_Subtract.f k a0_0 a0_1 a0_2 a1_0 a1_1 a1_2 = some (r1, r2, r3)) :
  Calls Tryd.prog 25 #[.agg #[.bool a0_0, .string a0_1, .string a0_2], .agg #[.bool a1_0, .string a1_1, .string a1_2]] w fun e w' => e = .returned (.agg #[.bool r1, .string r2, .string r3]) ∧ Below w.heap.size w w' := by
 have hu26 := Tryd.underlying26
 have HB := A0_.mk (Below.refl w.heap.size w)
 have H := h
 unfold q_Subtract.f at H
 clear h
 obtain ⟨⟨ma, na, oa⟩, A3, H⟩ := oB_ H
 (try dsimp only at H)
 obtain ⟨⟨pa, qa, ra⟩, A4, H⟩ := oB_ H
 (try dsimp only at H)
 obtain ⟨⟨sa, ta, ua⟩, A5, H⟩ := oB_ H
 (try dsimp only at H)
 obtain ⟨⟨la, va, ya⟩, A6, H⟩ := oB_ H
 (try dsimp only at H)
 simp only [Option.some.injEq, Prod.mk.injEq] at H
 obtain ⟨rfl, rfl, rfl⟩ := H
 go_enter Tryd.func25, Tryd.ntmps25
 try go_wp2_with (first | ((with_reducible refine gD_ (N := 2) rfl ?_); refine bE_ ?hg (N := 2) ?hd (cs := #[.bool a0_0, .string a0_1, .string a0_2]) (t := 26) ?hr ?_; (case hd => rfl); (case hg => rfl); (case hr => first | (go_simp; done) | (go_simp; rfl)); intro ea hg w7 hbox hb; have n0_ := A0_.mk (bT_ (xB_ HB) hb); have n1_ := A0_.mk (hbox); have n2_ := A0_.mk ((by rw [hg]; exact (bZ_ (xB_ HB)) : w.heap.size ≤ ea)); have n3_ := A0_.mk ((by rw [hg]; exact (bZ_ (xB_ HB)) : w.heap.size ≤ ea)); clear HB; have HB := n0_; have aa := n1_; have za := n2_; have ia := n3_; clear n0_ n1_ n2_ n3_; clear hb hbox hg) | ((with_reducible refine gD_ (N := 3) rfl ?_); refine bE_ ?hg (N := 3) ?hd (cs := #[.bool a1_0, .string a1_1, .string a1_2]) (t := 26) ?hr ?_; (case hd => rfl); (case hg => rfl); (case hr => first | (go_simp; done) | (go_simp; rfl)); intro fa hg w8 hbox hb; have n0_ := A0_.mk (kB_ (g := ea) (o := .cells #[.bool a0_0, .string a0_1, .string a0_2] 26 (0, 0)) (xK_ aa.out) hb); have n1_ := A0_.mk (bT_ (xB1_ HB ia) hb); have n2_ := A0_.mk (hbox); have n3_ := A0_.mk ((by rw [hg]; exact (bZ_ (xB1_ HB ia)) : w.heap.size ≤ fa)); have n4_ := A0_.mk ((by rw [hg]; exact (bZ_ (xB1_ HB ia)) : w.heap.size ≤ fa)); have n5_ := A0_.mk ((by rw [hg]; exact Nat.ne_of_lt (blk_lt (g := ea) (o := .cells #[.bool a0_0, .string a0_1, .string a0_2] 26 (0, 0)) (xK_ aa.out)) : ea ≠ fa)); have n6_ := A0_.mk ((by rw [hg]; exact Nat.ne_of_gt (blk_lt (g := ea) (o := .cells #[.bool a0_0, .string a0_1, .string a0_2] 26 (0, 0)) (xK_ aa.out)) : fa ≠ ea)); clear aa HB; have aa := n0_; have HB := n1_; have ba := n2_; have Aa := n3_; have ja := n4_; have Ba := n5_; have Ca := n6_; clear n0_ n1_ n2_ n3_ n4_ n5_ n6_; clear hb hbox hg) | ((with_reducible refine gD_ (N := 4) rfl ?_); refine bE_ ?hg (N := 4) ?hd (cs := zC_) (t := 26) ?hr ?_; (case hd => rfl); (case hg => rfl); (case hr => first | (go_simp; done) | (go_simp; rfl)); intro ca hg w9 hbox hb; have n0_ := A0_.mk (kB_ (g := ea) (o := .cells #[.bool a0_0, .string a0_1, .string a0_2] 26 (0, 0)) (xK_ aa.out) hb); have n1_ := A0_.mk (kB_ (g := fa) (o := .cells #[.bool a1_0, .string a1_1, .string a1_2] 26 (0, 0)) (xK_ ba.out) hb); have n2_ := A0_.mk (bT_ (xB2_ HB ia ja) hb); have n3_ := A0_.mk (hbox); have n4_ := A0_.mk ((by rw [hg]; exact (bZ_ (xB2_ HB ia ja)) : w.heap.size ≤ ca)); have n5_ := A0_.mk ((by rw [hg]; exact (bZ_ (xB2_ HB ia ja)) : w.heap.size ≤ ca)); have n6_ := A0_.mk ((by rw [hg]; exact Nat.ne_of_lt (blk_lt (g := ea) (o := .cells #[.bool a0_0, .string a0_1, .string a0_2] 26 (0, 0)) (xK_ aa.out)) : ea ≠ ca)); have n7_ := A0_.mk ((by rw [hg]; exact Nat.ne_of_gt (blk_lt (g := ea) (o := .cells #[.bool a0_0, .string a0_1, .string a0_2] 26 (0, 0)) (xK_ aa.out)) : ca ≠ ea)); have n8_ := A0_.mk ((by rw [hg]; exact Nat.ne_of_lt (blk_lt (g := fa) (o := .cells #[.bool a1_0, .string a1_1, .string a1_2] 26 (0, 0)) (xK_ ba.out)) : fa ≠ ca)); have n9_ := A0_.mk ((by rw [hg]; exact Nat.ne_of_gt (blk_lt (g := fa) (o := .cells #[.bool a1_0, .string a1_1, .string a1_2] 26 (0, 0)) (xK_ ba.out)) : ca ≠ fa)); clear aa ba HB; have aa := n0_; have ba := n1_; have HB := n2_; have da := n3_; have Da := n4_; have ka := n5_; have ga := n6_; have wa := n7_; have ha := n8_; have xa := n9_; clear n0_ n1_ n2_ n3_ n4_ n5_ n6_ n7_ n8_ n9_; clear hb hbox hg))
 have n0_ := A0_.mk (kD_ aa.out)
 have n1_ := A0_.mk (kD_ ba.out)
 have n2_ := A0_.mk (kD_ da.out)
 have n3_ := A0_.mk (b1_ HB.out)
 clear aa
 clear ba
 clear da
 clear HB
 have aa := n0_
 have ba := n1_
 have da := n2_
 have HB := n3_
 clear n0_ n1_ n2_ n3_
 refine start_ (n := 7) (S := fun w' => w'.cell? ⟨ea, 0, none⟩ = some (.bool a0_0) ∧ w'.cell? ⟨ea, 1, none⟩ = some (.string a0_1) ∧ w'.cell? ⟨ea, 2, none⟩ = some (.string a0_2) ∧ w'.cell? ⟨fa, 0, none⟩ = some (.bool a1_0) ∧ w'.cell? ⟨fa, 1, none⟩ = some (.string a1_1) ∧ w'.cell? ⟨fa, 2, none⟩ = some (.string a1_2)) (ds := []) #[false, false, false, false, false, false, false] kr_ rfl rfl ⟨(kc_ aa.out 0).trans rfl, (kc_ aa.out 1).trans rfl, (kc_ aa.out 2).trans rfl, (kc_ ba.out 0).trans rfl, (kc_ ba.out 1).trans rfl, (kc_ ba.out 2).trans rfl⟩ (fun hHeld => ?_)
 generalize w9.drew = w10 at aa ba da HB hHeld ⊢
 refine take_ (i := 0) (N := some 5) (v := ?_) (a' := ?_) #[true, false, false, false, false, false, false] rfl rfl kr_ (fun _ _ _ h => h) (Or.inl ⟨by rfl, ?_⟩) hHeld ?_ ?_
 rotate_left
 ·rintro w' ⟨s0, s1, s2, s3, s4, s5⟩
  go_simp
  with_reducible rfl
 rotate_left
 ·simp only [Act.put, s1_, s2_, s3_, i6_, i3_]
  rfl
 refine take_ (i := 2) (N := some 7) (v := ?_) (a' := ?_) #[true, false, true, false, false, false, false] rfl rfl kr_ (fun _ _ _ h => h) (Or.inl ⟨by rfl, ?_⟩) hHeld ?_ ?_
 rotate_left
 ·rintro w' ⟨s0, s1, s2, s3, s4, s5⟩
  go_simp
  with_reducible rfl
 rotate_left
 ·simp only [Act.put, s1_, s2_, s3_, i6_, i3_]
  rfl
 refine one_ (i := 1) (N := some 6) #[true, true, true, false, false, false, false] rfl rfl kr_ (by decide) (fun K hK => ?_)
 refine goes_ Tryd.func43 kr_ rfl #[.agg #[.bool a0_0, .string a0_1, .string a0_2]] (by rfl) rfl rfl mp_ ?_
 with_reducible refine (q_clean.calls k a0_0 a0_1 a0_2 ma na oa _ A3.out).mono ?_
 rintro e w11 ⟨rfl, hb⟩
 refine ⟨_, rfl, ?_⟩
 have n0_ := A0_.mk (kB_ (g := ea) (o := .cells #[.bool a0_0, .string a0_1, .string a0_2] 26 (0, 0)) (xK_ aa.out) hb)
 have n1_ := A0_.mk (kB_ (g := fa) (o := .cells #[.bool a1_0, .string a1_1, .string a1_2] 26 (0, 0)) (xK_ ba.out) hb)
 have n2_ := A0_.mk (kB_ (g := ca) (o := .cells zC_ 26 (0, 0)) (xK_ da.out) hb)
 have n3_ := A0_.mk (bT_ (xB3_ HB ia ja ka) hb)
 clear aa
 clear ba
 clear da
 clear HB
 have aa := n0_
 have ba := n1_
 have da := n2_
 have HB := n3_
 clear n0_ n1_ n2_ n3_
 (try clear hb)
 (try clear hb2)
 (try clear hk)
 (try clear hi)
 refine hK.out _ _ ⟨(kc_ aa.out 0).trans rfl, (kc_ aa.out 1).trans rfl, (kc_ aa.out 2).trans rfl, (kc_ ba.out 0).trans rfl, (kc_ ba.out 1).trans rfl, (kc_ ba.out 2).trans rfl⟩ (fun hHeld => ?_)
 clear hK K
 refine norm_ (a' := ?_) ?_ ?_
 rotate_left
 ·show Act.put _ (some 6) _ = _
  simp only [Act.put, s1_, s2_, s3_, i6_, i3_]
  rfl
 refine one_ (i := 3) (N := some 8) #[true, true, true, true, false, false, false] rfl rfl kr_ (by decide) (fun K hK => ?_)
 refine goes_ Tryd.func43 kr_ rfl #[.agg #[.bool a1_0, .string a1_1, .string a1_2]] (by rfl) rfl rfl mp_ ?_
 with_reducible refine (q_clean.calls k a1_0 a1_1 a1_2 pa qa ra _ A4.out).mono ?_
 rintro e w12 ⟨rfl, hb⟩
 refine ⟨_, rfl, ?_⟩
 have n0_ := A0_.mk (kB_ (g := ea) (o := .cells #[.bool a0_0, .string a0_1, .string a0_2] 26 (0, 0)) (xK_ aa.out) hb)
 have n1_ := A0_.mk (kB_ (g := fa) (o := .cells #[.bool a1_0, .string a1_1, .string a1_2] 26 (0, 0)) (xK_ ba.out) hb)
 have n2_ := A0_.mk (kB_ (g := ca) (o := .cells zC_ 26 (0, 0)) (xK_ da.out) hb)
 have n3_ := A0_.mk (bT_ (xB3_ HB ia ja ka) hb)
 clear aa
 clear ba
 clear da
 clear HB
 have aa := n0_
 have ba := n1_
 have da := n2_
 have HB := n3_
 clear n0_ n1_ n2_ n3_
 (try clear hb)
 (try clear hb2)
 (try clear hk)
 (try clear hi)
 refine hK.out _ _ ⟨(kc_ aa.out 0).trans rfl, (kc_ aa.out 1).trans rfl, (kc_ aa.out 2).trans rfl, (kc_ ba.out 0).trans rfl, (kc_ ba.out 1).trans rfl, (kc_ ba.out 2).trans rfl⟩ (fun hHeld => ?_)
 clear hK K
 refine norm_ (a' := ?_) ?_ ?_
 rotate_left
 ·show Act.put _ (some 8) _ = _
  simp only [Act.put, s1_, s2_, s3_, i6_, i3_]
  rfl
 refine one_ (i := 4) (N := some 9) #[true, true, true, true, true, false, false] rfl rfl kr_ (by decide) (fun K hK => ?_)
 refine goes_ Tryd.func48 kr_ rfl #[.agg #[.bool pa, .string qa, .string ra]] (by rfl) rfl rfl mp_ ?_
 with_reducible refine (q_negate.calls pa qa ra sa ta ua _ A5.out).mono ?_
 rintro e w13 ⟨rfl, hb⟩
 refine ⟨_, rfl, ?_⟩
 have n0_ := A0_.mk (kB_ (g := ea) (o := .cells #[.bool a0_0, .string a0_1, .string a0_2] 26 (0, 0)) (xK_ aa.out) hb)
 have n1_ := A0_.mk (kB_ (g := fa) (o := .cells #[.bool a1_0, .string a1_1, .string a1_2] 26 (0, 0)) (xK_ ba.out) hb)
 have n2_ := A0_.mk (kB_ (g := ca) (o := .cells zC_ 26 (0, 0)) (xK_ da.out) hb)
 have n3_ := A0_.mk (bT_ (xB3_ HB ia ja ka) hb)
 clear aa
 clear ba
 clear da
 clear HB
 have aa := n0_
 have ba := n1_
 have da := n2_
 have HB := n3_
 clear n0_ n1_ n2_ n3_
 (try clear hb)
 (try clear hb2)
 (try clear hk)
 (try clear hi)
 refine hK.out _ _ ⟨(kc_ aa.out 0).trans rfl, (kc_ aa.out 1).trans rfl, (kc_ aa.out 2).trans rfl, (kc_ ba.out 0).trans rfl, (kc_ ba.out 1).trans rfl, (kc_ ba.out 2).trans rfl⟩ (fun hHeld => ?_)
 clear hK K
 refine norm_ (a' := ?_) ?_ ?_
 rotate_left
 ·show Act.put _ (some 9) _ = _
  simp only [Act.put, s1_, s2_, s3_, i6_, i3_]
  rfl
 refine one_ (i := 5) (N := some 10) #[true, true, true, true, true, true, false] rfl rfl kr_ (by decide) (fun K hK => ?_)
 refine goes_ Tryd.func47 kr_ rfl #[.agg #[.bool ma, .string na, .string oa], .agg #[.bool sa, .string ta, .string ua]] (by rfl) rfl rfl mp_ ?_
 with_reducible refine (q_add.calls k ma na oa sa ta ua la va ya _ A6.out).mono ?_
 rintro e w14 ⟨rfl, hb⟩
 refine ⟨_, rfl, ?_⟩
 have n0_ := A0_.mk (kB_ (g := ea) (o := .cells #[.bool a0_0, .string a0_1, .string a0_2] 26 (0, 0)) (xK_ aa.out) hb)
 have n1_ := A0_.mk (kB_ (g := fa) (o := .cells #[.bool a1_0, .string a1_1, .string a1_2] 26 (0, 0)) (xK_ ba.out) hb)
 have n2_ := A0_.mk (kB_ (g := ca) (o := .cells zC_ 26 (0, 0)) (xK_ da.out) hb)
 have n3_ := A0_.mk (bT_ (xB3_ HB ia ja ka) hb)
 clear aa
 clear ba
 clear da
 clear HB
 have aa := n0_
 have ba := n1_
 have da := n2_
 have HB := n3_
 clear n0_ n1_ n2_ n3_
 (try clear hb)
 (try clear hb2)
 (try clear hk)
 (try clear hi)
 refine hK.out _ _ ⟨(kc_ aa.out 0).trans rfl, (kc_ aa.out 1).trans rfl, (kc_ aa.out 2).trans rfl, (kc_ ba.out 0).trans rfl, (kc_ ba.out 1).trans rfl, (kc_ ba.out 2).trans rfl⟩ (fun hHeld => ?_)
 clear hK K
 refine norm_ (a' := ?_) ?_ ?_
 rotate_left
 ·show Act.put _ (some 10) _ = _
  simp only [Act.put, s1_, s2_, s3_, i6_, i3_]
  rfl
 refine one_ (i := 6) (N := none) #[true, true, true, true, true, true, true] rfl rfl kr_ (by decide) (fun K hK => ?_)
 have Ea : w14.cell? ⟨ca, 0, none⟩ = some (.bool false) := (kc_ da.out 0).trans rfl
 have hfs15 := kF_ da.out 0
 have hns15_0 := ga.out
 have hns15_1 := ha.out
 have hms15_0 := wa.out
 have hms15_1 := xa.out
 have Fa : w14.cell? ⟨ca, 1, none⟩ = some (.string (⟨#[]⟩ : ByteArray)) := (kc_ da.out 1).trans rfl
 have hfs16 := kF_ da.out 1
 have hns16_0 := ga.out
 have hns16_1 := ha.out
 have hms16_0 := wa.out
 have hms16_1 := xa.out
 have Ga : w14.cell? ⟨ca, 2, none⟩ = some (.string (⟨#[]⟩ : ByteArray)) := (kc_ da.out 2).trans rfl
 have hfs17 := kF_ da.out 2
 have hns17_0 := ga.out
 have hns17_1 := ha.out
 have hms17_0 := wa.out
 have hms17_1 := xa.out
 refine skip_ (w1 := ?_) (by rfl) rfl ?_ ?_
 rotate_left
 ·go_simp
  rfl
 refine hK.out _ _ ⟨((cf_ (p := ⟨ca, _, none⟩) ga.out _).trans (((cf_ (p := ⟨ca, _, none⟩) ga.out _).trans (((cf_ (p := ⟨ca, _, none⟩) ga.out _).trans (hHeld.1)))))), ((cf_ (p := ⟨ca, _, none⟩) ga.out _).trans (((cf_ (p := ⟨ca, _, none⟩) ga.out _).trans (((cf_ (p := ⟨ca, _, none⟩) ga.out _).trans (hHeld.2.1)))))), ((cf_ (p := ⟨ca, _, none⟩) ga.out _).trans (((cf_ (p := ⟨ca, _, none⟩) ga.out _).trans (((cf_ (p := ⟨ca, _, none⟩) ga.out _).trans (hHeld.2.2.1)))))), ((cf_ (p := ⟨ca, _, none⟩) ha.out _).trans (((cf_ (p := ⟨ca, _, none⟩) ha.out _).trans (((cf_ (p := ⟨ca, _, none⟩) ha.out _).trans (hHeld.2.2.2.1)))))), ((cf_ (p := ⟨ca, _, none⟩) ha.out _).trans (((cf_ (p := ⟨ca, _, none⟩) ha.out _).trans (((cf_ (p := ⟨ca, _, none⟩) ha.out _).trans (hHeld.2.2.2.2.1)))))), ((cf_ (p := ⟨ca, _, none⟩) ha.out _).trans (((cf_ (p := ⟨ca, _, none⟩) ha.out _).trans (((cf_ (p := ⟨ca, _, none⟩) ha.out _).trans (hHeld.2.2.2.2.2))))))⟩ (fun hHeld => ?_)
 clear hK K
 refine done_ kr_ ?_
 try go_wp2
 refine bodyPost_ret (results_cell_row rfl _ _ ca 26 #[.bool la, .string va, .string ya] (0, 0) _ rfl (by (with_reducible repeat (first | apply kN_ | apply kD_ | apply kA_)); refine kP_ (cs := #[.bool la, .string va, .string (⟨#[]⟩ : ByteArray)]) ?_ 2 _ rfl; (with_reducible repeat (first | apply kN_ | apply kD_ | apply kA_)); refine kP_ (cs := #[.bool la, .string (⟨#[]⟩ : ByteArray), .string (⟨#[]⟩ : ByteArray)]) ?_ 1 _ rfl; (with_reducible repeat (first | apply kN_ | apply kD_ | apply kA_)); refine kP_ (cs := zC_) ?_ 0 _ rfl; (with_reducible repeat (first | apply kN_ | apply kD_ | apply kA_)); exact da.out) Tryd.underlying26 rfl kr_) rfl ?_
 exact ⟨rE_, xB3_ HB ia ja ka⟩
def so_reduce.l0 : Nat → List (S26) → List Int → Int → Int → Bool → ByteArray → ByteArray → Option ((List (S26)))
 | 0, _, _, _, _, _, _, _ => none
 | k + 1, x0, x9, x10, x11, x449000, x449001, x449002 => if x11 < x10 then (if 0 ≤ x11 then (if x11 < (x9.length : Int) then (if 0 ≤ (rd x9 x11) then (if (rd x9 x11) < (x0.length : Int) then ((q_Min.f k ((r26_ x0 (rd x9 x11)).f0) ((r26_ x0 (rd x9 x11)).f1) ((r26_ x0 (rd x9 x11)).f2) x449000 x449001 x449002).bind fun bt451 => ((q_Subtract.f k ((r26_ x0 (rd x9 x11)).f0) ((r26_ x0 (rd x9 x11)).f1) ((r26_ x0 (rd x9 x11)).f2) bt451.1 bt451.2.1 bt451.2.2).bind fun bt456 => ((q_Subtract.f k x449000 x449001 x449002 bt451.1 bt451.2.1 bt451.2.2).bind fun bt460 => (so_reduce.l0 k (x0.set ((rd x9 x11) : Int).toNat (⟨bt456.1, bt456.2.1, bt456.2.2⟩ : S26)) x9 x10 (wrap64 (x11 + 1)) bt460.1 bt460.2.1 bt460.2.2)))) else (none)) else (none)) else (none)) else (none)) else (some x0)
def so_reduce.f (k : Nat) (l0 : List (S26)) (l1 : List Int) (a2_0 : Bool) (a2_1 : ByteArray) (a2_2 : ByteArray) : Option ((List (S26))) := so_reduce.l0 k l0 l1 (l1.length : Int) 0 a2_0 a2_1 a2_2
theorem so_reduce.mono_l : ∀ k, (∀ y0 y1 y2 y3 y4 y5 y6, LeO (so_reduce.l0 k y0 y1 y2 y3 y4 y5 y6) (so_reduce.l0 (k + 1) y0 y1 y2 y3 y4 y5 y6))
 | 0 => fun _ _ _ _ _ _ _ r h => by simp [so_reduce.l0] at h
 | k + 1 => by
  have ih0 := so_reduce.mono_l k
  ·intro y0 y1 y2 y3 y4 y5 y6
   unfold so_reduce.l0
   repeat' first
   | (with_reducible first | exact ih0 _ _ _ _ _ _ _ | exact q_Min.mono _ _ _ _ _ _ _ | exact q_Subtract.mono _ _ _ _ _ _ _ | exact LeO.refl _ | exact LeO.none _ | refine LeO.ite ?_ ?_ | refine LeO.bind ?_ (fun _ => ?_))
theorem so_reduce.mono : ∀ a0 a1 a2 a3 a4 k, LeO (so_reduce.f k a0 a1 a2 a3 a4) (so_reduce.f (k + 1) a0 a1 a2 a3 a4) := by
 intro a0 a1 a2 a3 a4 k
 have ih0 := so_reduce.mono_l k
 unfold so_reduce.f
 repeat' first
   | (with_reducible first | exact ih0 _ _ _ _ _ _ _ | exact q_Min.mono _ _ _ _ _ _ _ | exact q_Subtract.mono _ _ _ _ _ _ _ | exact LeO.refl _ | exact LeO.none _ | refine LeO.ite ?_ ?_ | refine LeO.bind ?_ (fun _ => ?_))
def so_reduce.T4 : Bool × List (List Nat × List Nat) := (true, [([], []), ([], []), ([0, 1], [0, 1]), ([2], [2]), ([], []), ([3, 4], [3, 4]), ([], []), ([6, 5, 5, 0, 1, 2, 3, 4, 5, 6], [5, 6])])
def so_reduce.B4 : List Nat := [0, 0, 3, 7, 0, 31, 0, 127]
theorem so_reduce.tab4 : rtab .any (opsOf Tryd.f41 4) = so_reduce.T4 := by kernel_rfl
theorem so_reduce.bits4 : waitsOk so_reduce.T4.2 so_reduce.B4 = true := by kernel_rfl
def so_reduce.T5 : Bool × List (List Nat × List Nat) := (true, [([], []), ([], []), ([], []), ([], []), ([2, 3], [2, 3]), ([4], [4]), ([], []), ([5, 6], [5, 6]), ([0, 1, 0, 1, 2, 3, 4, 5, 6, 7], [0, 1]), ([8, 7, 7, 0, 1, 2, 3, 4, 5, 6, 7], [7, 8])])
def so_reduce.B5 : List Nat := [0, 0, 0, 0, 12, 28, 0, 124, 255, 511]
theorem so_reduce.tab5 : rtab .any (opsOf Tryd.f41 5) = so_reduce.T5 := by kernel_rfl
theorem so_reduce.bits5 : waitsOk so_reduce.T5.2 so_reduce.B5 = true := by kernel_rfl
theorem so_reduce.calls (k : Nat) (P0_ : Nat → Prop) (u9000_ : Value) (l0 : List (S26)) (A1 : Option Addr) (c1 : Nat) (l1 : List Int) (a2_0 : Bool) (a2_1 : ByteArray) (a2_2 : ByteArray) (r : List (S26)) (w0 w : World) (hB : Below w0.heap.size w0 w) (ho0 : Kd.R k26 26 w w0.heap.size P0_ u9000_ l0) (hr1 : ∀ W_, Kept w W_ (fun k_ => P0_ k_) → Kd.C (Kd.int .i64) W_ A1 l1.length l1) (hc1 : l1.length ≤ c1) (h : so_reduce.f k l0 l1 a2_0 a2_1 a2_2 = some r) :
  Calls Tryd.prog 41 #[u9000_, .slice A1 l1.length c1, .agg #[.bool a2_0, .string a2_1, .string a2_2]] w fun e w' => e = .returned (.tuple #[]) ∧ Kd.R k26 26 w' w0.heap.size (fun k_ => (P0_ k_ ∨ w.heap.size ≤ k_)) u9000_ r ∧ Below w0.heap.size w0 w' ∧ Kept w w' (fun k_ => P0_ k_) := by
 have hu26 := Tryd.underlying26
 have HO0 := A0_.mk (show Kd.R k26 26 w w0.heap.size (fun k_ => (P0_ k_ ∨ w.heap.size ≤ k_)) u9000_ l0 from Kd.rM_ ho0 (fun k_ hk => (.inl hk)))
 have HR1 := A0_.mk hr1
 have HC1 := A0_.mk hc1
 clear hr1 hc1
 have HK := A0_.mk (Kept.refl w (fun k_ => P0_ k_))
 have HW0 := A0_.mk hB.size
 have HB := A0_.mk hB
 clear hB
 have H : (so_reduce.l0 k l0 l1 (l1.length : Int) 0 a2_0 a2_1 a2_2) = some r := h
 clear h
 have H' := A0_.mk H
 clear H
 go_enter Tryd.func41, Tryd.ntmps41
 go_wp2_with (first | ((with_reducible refine gD_ (N := 5) rfl ?_); refine bE_ ?hg (N := 5) ?hd (cs := #[.bool a2_0, .string a2_1, .string a2_2]) (t := 26) ?hr ?_; (case hd => rfl); (case hg => rfl); (case hr => first | (go_simp; done) | (go_simp; rfl)); intro fa hg w4 hbox hb; have n0_ := A0_.mk (Kd.rB_ (Kd.R_elderB (xR_ HO0.out) fa (Nat.le_of_eq hg.symm)) hb); have n1_ := A0_.mk (Kept.below (S := (fun k_ => P0_ k_)) (by repeat (first | (with_reducible first | exact HK.out | apply Kept.alloc | apply Kept.drewN | apply Kept.drew) | exact HK.out)) hb); have n2_ := A0_.mk (bT_ (xB_ HB) hb); have n3_ := A0_.mk (hbox); have n4_ := A0_.mk ((by rw [hg]; exact (by first | exact HK.out.1 | exact (show Kept w _ (fun k_ => P0_ k_) from by repeat (first | (with_reducible first | exact HK.out | apply Kept.alloc | apply Kept.drewN | apply Kept.drew) | exact HK.out)).1) : w.heap.size ≤ fa)); have n5_ := A0_.mk ((by rw [hg]; exact (bZ_ (xB_ HB)) : w0.heap.size ≤ fa)); clear HO0 HK HB; have HO0 := n0_; have HK := n1_; have HB := n2_; have da := n3_; have qa := n4_; have ra := n5_; clear n0_ n1_ n2_ n3_ n4_ n5_; clear hb hbox hg))
 go_loopg [11] k (fun kq v11 w' => ∃ (ea : List (S26)) (aa : Int) (ja : Bool) (ia : ByteArray) (ha : ByteArray), v11 = .int .i64 aa ∧ A0_ (so_reduce.l0 kq ea l1 (l1.length : Int) aa ja ia ha = some r) ∧ A0_ (kq ≤ k) ∧ A0_ (Kd.R k26 26 w' w0.heap.size (fun k_ => (P0_ k_ ∨ w.heap.size ≤ k_) ∧ k_ ≠ fa) u9000_ ea) ∧ A0_ (w'.heap[fa]? = some (.cells #[.bool ja, .string ia, .string ha] 26 (0, 0))) ∧ A0_ (Kept w w' (fun k_ => P0_ k_)) ∧ A0_ (Below w0.heap.size w0 w'))
 case atStart => exact ⟨(l0), (0), (a2_0), (a2_1), (a2_2), (rS_), H', ⟨Nat.le_refl _⟩, ⟨by (with_reducible repeat (first | apply Kd.R_alloc | apply Kd.rN_ | apply Kd.rD_)); exact HO0.out⟩, ⟨by (with_reducible repeat (first | apply kN_ | apply kD_ | apply kA_)); exact da.out⟩, ⟨by repeat (first | (with_reducible first | exact HK.out | apply Kept.alloc | apply Kept.drewN | apply Kept.drew | refine Kept.setCell ?_ (.inr qa.out) _) | exact HK.out)⟩, ⟨xB1_ HB ra⟩⟩
 case round =>
  clear H'
  try clear c1
  try clear p2
  try clear c4
  obtain ⟨ea, aa, ja, ia, ha, rfl, HA, HK1, ba, da, HK, HB⟩ := hrel
  cases gk with
  | zero => exact absurd HA.out (by simp [so_reduce.l0])
  | succ k1 =>
   have H := HA.out
   clear HA
   simp only [so_reduce.l0] at H
   by_cases c5 : aa < (l1.length : Int)
   ·rw [if_pos c5] at H
    have Va : decide (aa < (l1.length : Int)) = true := decide_eq_true c5
    clear c5
    by_cases c6 : 0 ≤ aa
    rotate_left
    ·rw [if_neg c6] at H
     exact absurd H (by simp)
    rw [if_pos c6] at H
    have cb : decide (0 ≤ aa) = true := decide_eq_true c6
    clear c6
    by_cases c7 : aa < (l1.length : Int)
    rotate_left
    ·rw [if_neg c7] at H
     exact absurd H (by simp)
    rw [if_pos c7] at H
    have db : decide (aa < (l1.length : Int)) = true := decide_eq_true c7
    clear c7
    by_cases c8 : 0 ≤ (rd l1 aa)
    rotate_left
    ·rw [if_neg c8] at H
     exact absurd H (by simp)
    rw [if_pos c8] at H
    have eb : decide (0 ≤ (rd l1 aa)) = true := decide_eq_true c8
    clear c8
    by_cases c9 : (rd l1 aa) < (ea.length : Int)
    rotate_left
    ·rw [if_neg c9] at H
     exact absurd H (by simp)
    rw [if_pos c9] at H
    have fb : decide ((rd l1 aa) < (ea.length : Int)) = true := decide_eq_true c9
    clear c9
    obtain ⟨⟨ma, na, oa⟩, A10, H⟩ := oB_ H
    (try dsimp only at H)
    obtain ⟨⟨ua, va, wa⟩, A11, H⟩ := oB_ H
    (try dsimp only at H)
    obtain ⟨Ca, ya⟩ : ∃ y_ : List (S26), y_ = (ea.set ((rd l1 aa) : Int).toNat (⟨ua, va, wa⟩ : S26)) := ⟨_, rfl⟩
    replace H : ((q_Subtract.f k1 ja ia ha ma na oa).bind fun Da => (so_reduce.l0 k1 Ca l1 (l1.length : Int) (wrap64 (aa + 1)) Da.1 Da.2.1 Da.2.2)) = some r := by first | (rw [ya]; with_reducible exact H) | (have H2_ := (Option.bind_some _ _).symm.trans H; rw [ya]; with_reducible exact H2_) | (have H2_ := (Option.bind_some _ _).symm.trans H; with_reducible exact H2_) | with_reducible exact H | (rw [ya]; exact H) | exact H
    have Wa := A0_.mk ya
    clear ya
    obtain ⟨⟨za, Aa, Ea⟩, A13, H⟩ := oB_ H
    (try dsimp only at H)
    have H' := A0_.mk H
    clear H
    have Fa : 0 ≤ (aa : Int) := oD_
    have Ga : aa < (l1.length : Int) := oD_
    obtain ⟨gb, Xa, ib⟩ := Kd.at_int (Kd.C_kept_now HR1.out HK.out) aa Fa Ga
    cases Xa
    replace Fa := eq_true Fa
    replace Ga := eq_true Ga
    try go_wp2
    have n0_ := A0_.mk (Kd.rD_ ba.out)
    have n1_ := A0_.mk (kD_ da.out)
    have n2_ := A0_.mk (Kept.drew HK.out)
    have n3_ := A0_.mk (b1_ HB.out)
    clear ba
    clear da
    clear HK
    clear HB
    have ba := n0_
    have da := n1_
    have HK := n2_
    have HB := n3_
    clear n0_ n1_ n2_ n3_
    obtain ⟨jb, Ba, Ra⟩ := Kd.rS_' ba.out
    (first | subst Ra | (injection Ra with f1_ f2_ f3_; have f4_ := f1_.symm; have f5_ := f3_.symm; clear f1_ f2_ f3_; subst f4_; subst f5_))
    have Ha : 0 ≤ ((rd l1 aa) : Int) := oD_
    have Ia : (rd l1 aa) < (ea.length : Int) := oD_
    obtain ⟨la, Ya, Ja, Ka, La⟩ := at_T26 (Kd.rr_' ba.out).2.2 (rd l1 aa) Ha Ia
    cases Ya
    replace Ha := eq_true Ha
    replace Ia := eq_true Ia
    refine start_ (n := 8) (S := fun w' => w'.cell? ⟨fa, 0, none⟩ = some (.bool ja) ∧ w'.cell? ⟨fa, 1, none⟩ = some (.string ia) ∧ w'.cell? ⟨fa, 2, none⟩ = some (.string ha) ∧ w'.cell? (la.add (((rd l1 aa)).toNat * 3)) = some (.bool ((r26_ ea (rd l1 aa)).f0)) ∧ w'.cell? ⟨(la.add (((rd l1 aa)).toNat * 3)).block, (la.add (((rd l1 aa)).toNat * 3)).off + 1, none⟩ = some (.string ((r26_ ea (rd l1 aa)).f1)) ∧ w'.cell? ⟨(la.add (((rd l1 aa)).toNat * 3)).block, (la.add (((rd l1 aa)).toNat * 3)).off + 2, none⟩ = some (.string ((r26_ ea (rd l1 aa)).f2))) (ds := []) #[false, false, false, false, false, false, false, false] kr_ rfl rfl ⟨(kc_ da.out 0).trans rfl, (kc_ da.out 1).trans rfl, (kc_ da.out 2).trans rfl, Ja, Ka, La⟩ (fun hHeld => ?_); refine with_tabW so_reduce.tab4 so_reduce.bits4 (fun HT_ HW_ => ?_)
    generalize wr.drew = w14 at ba da HK HB Ja Ka La hHeld ⊢
    refine pu_ (i := 0) (N := some 15) (v := ?_) (a' := ?_) #[true, false, false, false, false, false, false, false] rfl rfl (an_ HT_.out kr_) (fun _ _ _ h => h) (Or.inl ⟨by rfl, ?_⟩) ?_ ?_
    rotate_left
    ·intro w'
     go_simp
     with_reducible rfl
    rotate_left
    ·simp only [Act.put, s1_, s2_, s3_, i6_, i3_]
     rfl
    refine pu_ (i := 1) (N := some 16) (v := ?_) (a' := ?_) #[true, true, false, false, false, false, false, false] rfl rfl (an_ HT_.out kr_) (fun _ _ _ h => h) (Or.inl ⟨by rfl, ?_⟩) ?_ ?_
    rotate_left
    ·intro w'
     go_simp
     with_reducible rfl
    rotate_left
    ·simp only [Act.put, s1_, s2_, s3_, i6_, i3_]
     rfl
    refine pu_ (i := 2) (N := some 17) (v := ?_) (a' := ?_) #[true, true, true, false, false, false, false, false] rfl rfl (an_ HT_.out kr_) (fun _ _ _ h => h) (Or.inl ⟨by rfl, ?_⟩) ?_ ?_
    rotate_left
    ·intro w'
     go_simp
     with_reducible rfl
    rotate_left
    ·simp only [Act.put, s1_, s2_, s3_, i6_, i3_]
     rfl
    refine take_ (i := 3) (N := some 18) (v := ?_) (a' := ?_) #[true, true, true, true, false, false, false, false] rfl rfl (tW_ HT_.out HW_.out kr_) (fun _ _ _ h => h) (Or.inl ⟨by rfl, ?_⟩) hHeld ?_ ?_
    rotate_left
    ·rintro w' ⟨s0, s1, s2, s3, s4, s5⟩
     go_simp
     with_reducible rfl
    rotate_left
    ·simp only [Act.put, s1_, s2_, s3_, i6_, i3_]
     rfl
    refine take_ (i := 4) (N := some 19) (v := ?_) (a' := ?_) #[true, true, true, true, true, false, false, false] rfl rfl (tW_ HT_.out HW_.out kr_) (fun _ _ _ h => h) (Or.inl ⟨by rfl, ?_⟩) hHeld ?_ ?_
    rotate_left
    ·rintro w' ⟨s0, s1, s2, s3, s4, s5⟩
     go_simp
     with_reducible rfl
    rotate_left
    ·simp only [Act.put, s1_, s2_, s3_, i6_, i3_]
     rfl
    refine join_ (σ := Nat) 1 #[true, true, true, true, true, true, true, false] (fun s_ => [(20, .agg #[.bool ma, .string na, .string oa]), (8, .pointer (some ⟨s_, 0, none⟩))]) (fun s_ w' => (w'.cell? ⟨fa, 0, none⟩ = some (.bool ja) ∧ w'.cell? ⟨fa, 1, none⟩ = some (.string ia) ∧ w'.cell? ⟨fa, 2, none⟩ = some (.string ha) ∧ w'.cell? (la.add (((rd l1 aa)).toNat * 3)) = some (.bool ((r26_ ea (rd l1 aa)).f0)) ∧ w'.cell? ⟨(la.add (((rd l1 aa)).toNat * 3)).block, (la.add (((rd l1 aa)).toNat * 3)).off + 1, none⟩ = some (.string ((r26_ ea (rd l1 aa)).f1)) ∧ w'.cell? ⟨(la.add (((rd l1 aa)).toNat * 3)).block, (la.add (((rd l1 aa)).toNat * 3)).off + 2, none⟩ = some (.string ((r26_ ea (rd l1 aa)).f2))) ∧ (Kd.R k26 26 w' w0.heap.size (fun k_ => (P0_ k_ ∨ w.heap.size ≤ k_) ∧ k_ ≠ fa ∧ k_ ≠ s_) (.slice (some la) ea.length Ba) ea) ∧ (w'.heap[fa]? = some (.cells #[.bool ja, .string ia, .string ha] 26 (0, 0))) ∧ (w'.heap[s_]? = some (.cells zC_ 26 (0, 0))) ∧ (w.heap.size ≤ s_) ∧ (w0.heap.size ≤ s_) ∧ (fa ≠ s_) ∧ (s_ ≠ fa) ∧ (Kept w w' (fun k_ => P0_ k_)) ∧ (Below w0.heap.size w0 w')) ?_ ?_
    rotate_left
    ·intro hCont
     refine two_ (i := 5) (j := 6) (Ni := some 20) (Nj := some 8) #[true, true, true, true, true, true, false, false] #[true, true, true, true, true, false, true, false] rfl rfl rfl rfl (two_of HT_.out kr_) (by decide) (by decide) (fun K hK => ?_) (fun K hK => ?_)
     ·skip
      refine goes_ Tryd.func39 kr_ rfl #[.agg #[.bool ((r26_ ea (rd l1 aa)).f0), .string ((r26_ ea (rd l1 aa)).f1), .string ((r26_ ea (rd l1 aa)).f2)], .agg #[.bool ja, .string ia, .string ha]] (by rfl) rfl rfl mp_ ?_
      with_reducible refine (q_Min.calls k1 ((r26_ ea (rd l1 aa)).f0) ((r26_ ea (rd l1 aa)).f1) ((r26_ ea (rd l1 aa)).f2) ja ia ha ma na oa _ A10.out).mono ?_
      rintro e w16 ⟨rfl, hb⟩
      have HS3_ := (hb.cell (World.block_lt_of_cell? _ _ (hHeld.2.2.2.1))).trans (hHeld.2.2.2.1)
      have HS4_ := (hb.cell (World.block_lt_of_cell? _ _ (hHeld.2.2.2.2.1))).trans (hHeld.2.2.2.2.1)
      have HS5_ := (hb.cell (World.block_lt_of_cell? _ _ (hHeld.2.2.2.2.2))).trans (hHeld.2.2.2.2.2)
      refine ⟨_, rfl, ?_⟩
      have n0_ := A0_.mk (Kd.rB_ (xR_ ba.out) hb)
      have n1_ := A0_.mk (kB_ (g := fa) (o := .cells #[.bool ja, .string ia, .string ha] 26 (0, 0)) (xK_ da.out) hb)
      have n2_ := A0_.mk (Kept.below (S := (fun k_ => P0_ k_)) (by repeat (first | (with_reducible first | exact HK.out | apply Kept.alloc | apply Kept.drewN | apply Kept.drew | refine Kept.setCell ?_ (.inr qa.out) _) | exact HK.out)) hb)
      have n3_ := A0_.mk (bT_ (xB1_ HB ra) hb)
      clear ba
      clear da
      clear HK
      clear HB
      have ba := n0_
      have da := n1_
      have HK := n2_
      have HB := n3_
      clear n0_ n1_ n2_ n3_
      (try clear hb)
      (try clear hb2)
      (try clear hk)
      (try clear hi)
      refine hK.out _ _ ⟨(kc_ da.out 0).trans rfl, (kc_ da.out 1).trans rfl, (kc_ da.out 2).trans rfl, HS3_, HS4_, HS5_⟩ (fun hHeld => ?_)
      clear hK K
      refine norm_ (a' := ?_) ?_ ?_
      rotate_left
      ·show Act.put _ (some 20) _ = _
       simp only [Act.put, s1_, s2_, s3_, i6_, i3_]
       rfl
      refine one_ (i := 6) (N := some 8) #[true, true, true, true, true, true, true, false] rfl rfl (one_of HT_.out kr_) (by decide) (fun K hK => ?_)
      refine box_step ?hg (N := 8) ?hd (cs := zC_) (t := 26) ?hr ?_; (case hd => rfl); (case hg => rfl); (case hr => first | (go_simp; done) | (go_simp; rfl))
      intro ca hg w17 hbox hb
      have HS3_ := (hb.cell (World.block_lt_of_cell? _ _ (hHeld.2.2.2.1))).trans (hHeld.2.2.2.1)
      have HS4_ := (hb.cell (World.block_lt_of_cell? _ _ (hHeld.2.2.2.2.1))).trans (hHeld.2.2.2.2.1)
      have HS5_ := (hb.cell (World.block_lt_of_cell? _ _ (hHeld.2.2.2.2.2))).trans (hHeld.2.2.2.2.2)
      have n0_ := A0_.mk (Kd.rB_ (Kd.R_elderB (xR_ ba.out) ca (Nat.le_of_eq hg.symm)) hb)
      have n1_ := A0_.mk (kB_ (g := fa) (o := .cells #[.bool ja, .string ia, .string ha] 26 (0, 0)) (xK_ da.out) hb)
      have n2_ := A0_.mk (Kept.below (S := (fun k_ => P0_ k_)) (by repeat (first | (with_reducible first | exact HK.out | apply Kept.alloc | apply Kept.drewN | apply Kept.drew | refine Kept.setCell ?_ (.inr qa.out) _) | exact HK.out)) hb)
      have n3_ := A0_.mk (bT_ (xB1_ HB ra) hb)
      have n4_ := A0_.mk (hbox)
      have n5_ := A0_.mk ((by rw [hg]; exact (by first | exact HK.out.1 | exact (show Kept w _ (fun k_ => P0_ k_) from by repeat (first | (with_reducible first | exact HK.out | apply Kept.alloc | apply Kept.drewN | apply Kept.drew | refine Kept.setCell ?_ (.inr qa.out) _) | exact HK.out)).1) : w.heap.size ≤ ca))
      have n6_ := A0_.mk ((by rw [hg]; exact (bZ_ (xB1_ HB ra)) : w0.heap.size ≤ ca))
      have n7_ := A0_.mk ((by rw [hg]; exact Nat.ne_of_lt (blk_lt (g := fa) (o := .cells #[.bool ja, .string ia, .string ha] 26 (0, 0)) (xK_ da.out)) : fa ≠ ca))
      have n8_ := A0_.mk ((by rw [hg]; exact Nat.ne_of_gt (blk_lt (g := fa) (o := .cells #[.bool ja, .string ia, .string ha] 26 (0, 0)) (xK_ da.out)) : ca ≠ fa))
      clear ba
      clear da
      clear HK
      clear HB
      have ba := n0_
      have da := n1_
      have HK := n2_
      have HB := n3_
      have ga := n4_
      have sa := n5_
      have ta := n6_
      have pa := n7_
      have xa := n8_
      clear n0_ n1_ n2_ n3_ n4_ n5_ n6_ n7_ n8_
      clear hb hbox hg
      refine hK.out _ _ ⟨(kc_ da.out 0).trans rfl, (kc_ da.out 1).trans rfl, (kc_ da.out 2).trans rfl, HS3_, HS4_, HS5_⟩ (fun hHeld => ?_)
      clear hK K
      refine norm_ (a' := ?_) ?_ ?_
      rotate_left
      ·show Act.put _ (some 8) _ = _
       simp only [Act.put, s1_, s2_, s3_, i6_, i3_]
       rfl
      exact norm_ (by simp only [putAll, Act.put, s1_, s2_, s3_]) (hCont (ca) _ ⟨hHeld, (by (with_reducible repeat (first | apply Kd.R_alloc | apply Kd.rN_ | apply Kd.rD_)); exact Kd.rM_ ba.out (fun _ hk => ⟨hk.1.1, ⟨hk.1.2, hk.2⟩⟩)), (xK_ da.out), (xK_ ga.out), sa.out, ta.out, pa.out, xa.out, (by repeat (first | (with_reducible first | exact HK.out | apply Kept.alloc | apply Kept.drewN | apply Kept.drew | refine Kept.setCell ?_ (.inr qa.out) _ | refine Kept.setCell ?_ (.inr sa.out) _) | exact HK.out)), (xB2_ HB ra ta)⟩)
     ·skip
      refine box_step ?hg (N := 8) ?hd (cs := zC_) (t := 26) ?hr ?_; (case hd => rfl); (case hg => rfl); (case hr => first | (go_simp; done) | (go_simp; rfl))
      intro ca hg w16 hbox hb
      have HS3_ := (hb.cell (World.block_lt_of_cell? _ _ (hHeld.2.2.2.1))).trans (hHeld.2.2.2.1)
      have HS4_ := (hb.cell (World.block_lt_of_cell? _ _ (hHeld.2.2.2.2.1))).trans (hHeld.2.2.2.2.1)
      have HS5_ := (hb.cell (World.block_lt_of_cell? _ _ (hHeld.2.2.2.2.2))).trans (hHeld.2.2.2.2.2)
      have n0_ := A0_.mk (Kd.rB_ (Kd.R_elderB (xR_ ba.out) ca (Nat.le_of_eq hg.symm)) hb)
      have n1_ := A0_.mk (kB_ (g := fa) (o := .cells #[.bool ja, .string ia, .string ha] 26 (0, 0)) (xK_ da.out) hb)
      have n2_ := A0_.mk (Kept.below (S := (fun k_ => P0_ k_)) (by repeat (first | (with_reducible first | exact HK.out | apply Kept.alloc | apply Kept.drewN | apply Kept.drew | refine Kept.setCell ?_ (.inr qa.out) _) | exact HK.out)) hb)
      have n3_ := A0_.mk (bT_ (xB1_ HB ra) hb)
      have n4_ := A0_.mk (hbox)
      have n5_ := A0_.mk ((by rw [hg]; exact (by first | exact HK.out.1 | exact (show Kept w _ (fun k_ => P0_ k_) from by repeat (first | (with_reducible first | exact HK.out | apply Kept.alloc | apply Kept.drewN | apply Kept.drew | refine Kept.setCell ?_ (.inr qa.out) _) | exact HK.out)).1) : w.heap.size ≤ ca))
      have n6_ := A0_.mk ((by rw [hg]; exact (bZ_ (xB1_ HB ra)) : w0.heap.size ≤ ca))
      have n7_ := A0_.mk ((by rw [hg]; exact Nat.ne_of_lt (blk_lt (g := fa) (o := .cells #[.bool ja, .string ia, .string ha] 26 (0, 0)) (xK_ da.out)) : fa ≠ ca))
      have n8_ := A0_.mk ((by rw [hg]; exact Nat.ne_of_gt (blk_lt (g := fa) (o := .cells #[.bool ja, .string ia, .string ha] 26 (0, 0)) (xK_ da.out)) : ca ≠ fa))
      clear ba
      clear da
      clear HK
      clear HB
      have ba := n0_
      have da := n1_
      have HK := n2_
      have HB := n3_
      have ga := n4_
      have sa := n5_
      have ta := n6_
      have pa := n7_
      have xa := n8_
      clear n0_ n1_ n2_ n3_ n4_ n5_ n6_ n7_ n8_
      clear hb hbox hg
      refine hK.out _ _ ⟨(kc_ da.out 0).trans rfl, (kc_ da.out 1).trans rfl, (kc_ da.out 2).trans rfl, HS3_, HS4_, HS5_⟩ (fun hHeld => ?_)
      clear hK K
      refine norm_ (a' := ?_) ?_ ?_
      rotate_left
      ·show Act.put _ (some 8) _ = _
       simp only [Act.put, s1_, s2_, s3_, i6_, i3_]
       rfl
      refine one_ (i := 5) (N := some 20) #[true, true, true, true, true, true, true, false] rfl rfl (one_of HT_.out kr_) (by decide) (fun K hK => ?_)
      refine goes_ Tryd.func39 kr_ rfl #[.agg #[.bool ((r26_ ea (rd l1 aa)).f0), .string ((r26_ ea (rd l1 aa)).f1), .string ((r26_ ea (rd l1 aa)).f2)], .agg #[.bool ja, .string ia, .string ha]] (by rfl) rfl rfl mp_ ?_
      with_reducible refine (q_Min.calls k1 ((r26_ ea (rd l1 aa)).f0) ((r26_ ea (rd l1 aa)).f1) ((r26_ ea (rd l1 aa)).f2) ja ia ha ma na oa _ A10.out).mono ?_
      rintro e w17 ⟨rfl, hb⟩
      have HS3_ := (hb.cell (World.block_lt_of_cell? _ _ (hHeld.2.2.2.1))).trans (hHeld.2.2.2.1)
      have HS4_ := (hb.cell (World.block_lt_of_cell? _ _ (hHeld.2.2.2.2.1))).trans (hHeld.2.2.2.2.1)
      have HS5_ := (hb.cell (World.block_lt_of_cell? _ _ (hHeld.2.2.2.2.2))).trans (hHeld.2.2.2.2.2)
      refine ⟨_, rfl, ?_⟩
      have n0_ := A0_.mk (Kd.rB_ (xR_ ba.out) hb)
      have n1_ := A0_.mk (kB_ (g := fa) (o := .cells #[.bool ja, .string ia, .string ha] 26 (0, 0)) (xK_ da.out) hb)
      have n2_ := A0_.mk (kB_ (g := ca) (o := .cells zC_ 26 (0, 0)) (xK_ ga.out) hb)
      have n3_ := A0_.mk (Kept.below (S := (fun k_ => P0_ k_)) (by repeat (first | (with_reducible first | exact HK.out | apply Kept.alloc | apply Kept.drewN | apply Kept.drew | refine Kept.setCell ?_ (.inr qa.out) _ | refine Kept.setCell ?_ (.inr sa.out) _) | exact HK.out)) hb)
      have n4_ := A0_.mk (bT_ (xB2_ HB ra ta) hb)
      clear ba
      clear da
      clear ga
      clear HK
      clear HB
      have ba := n0_
      have da := n1_
      have ga := n2_
      have HK := n3_
      have HB := n4_
      clear n0_ n1_ n2_ n3_ n4_
      (try clear hb)
      (try clear hb2)
      (try clear hk)
      (try clear hi)
      refine hK.out _ _ ⟨(kc_ da.out 0).trans rfl, (kc_ da.out 1).trans rfl, (kc_ da.out 2).trans rfl, HS3_, HS4_, HS5_⟩ (fun hHeld => ?_)
      clear hK K
      refine norm_ (a' := ?_) ?_ ?_
      rotate_left
      ·show Act.put _ (some 20) _ = _
       simp only [Act.put, s1_, s2_, s3_, i6_, i3_]
       rfl
      exact norm_ (by simp only [putAll, Act.put, s1_, s2_, s3_]) (hCont (ca) _ ⟨hHeld, (by (with_reducible repeat (first | apply Kd.R_alloc | apply Kd.rN_ | apply Kd.rD_)); exact Kd.rM_ ba.out (fun _ hk => ⟨hk.1.1, ⟨hk.1.2, hk.2⟩⟩)), (xK_ da.out), (xK_ ga.out), sa.out, ta.out, pa.out, xa.out, (by repeat (first | (with_reducible first | exact HK.out | apply Kept.alloc | apply Kept.drewN | apply Kept.drew | refine Kept.setCell ?_ (.inr qa.out) _ | refine Kept.setCell ?_ (.inr sa.out) _) | exact HK.out)), (xB2_ HB ra ta)⟩)
    rintro ca w18 ⟨hS_, h0_, h1_, h2_, h3_, h4_, h5_, h6_, h7_, h8_⟩
    have n0_ : A0_ (Kd.R k26 26 w18 w0.heap.size (fun k_ => (P0_ k_ ∨ w.heap.size ≤ k_) ∧ k_ ≠ fa ∧ k_ ≠ ca) (.slice (some la) ea.length Ba) ea) := ⟨h0_⟩
    have n1_ : A0_ (w18.heap[fa]? = some (.cells #[.bool ja, .string ia, .string ha] 26 (0, 0))) := ⟨h1_⟩
    have n2_ : A0_ (w18.heap[ca]? = some (.cells zC_ 26 (0, 0))) := ⟨h2_⟩
    have n3_ : A0_ (w.heap.size ≤ ca) := ⟨h3_⟩
    have n4_ : A0_ (w0.heap.size ≤ ca) := ⟨h4_⟩
    have n5_ : A0_ (fa ≠ ca) := ⟨h5_⟩
    have n6_ : A0_ (ca ≠ fa) := ⟨h6_⟩
    have n7_ : A0_ (Kept w w18 (fun k_ => P0_ k_)) := ⟨h7_⟩
    have n8_ : A0_ (Below w0.heap.size w0 w18) := ⟨h8_⟩
    clear ba
    clear da
    clear HK
    clear HB
    clear h0_ h1_ h2_ h3_ h4_ h5_ h6_ h7_ h8_
    have ba := n0_
    have da := n1_
    have ga := n2_
    have sa := n3_
    have ta := n4_
    have pa := n5_
    have xa := n6_
    have HK := n7_
    have HB := n8_
    clear n0_ n1_ n2_ n3_ n4_ n5_ n6_ n7_ n8_
    have hHeld : w18.cell? ⟨fa, 0, none⟩ = some (.bool ja) ∧ w18.cell? ⟨fa, 1, none⟩ = some (.string ia) ∧ w18.cell? ⟨fa, 2, none⟩ = some (.string ha) ∧ w18.cell? (la.add (((rd l1 aa)).toNat * 3)) = some (.bool ((r26_ ea (rd l1 aa)).f0)) ∧ w18.cell? ⟨(la.add (((rd l1 aa)).toNat * 3)).block, (la.add (((rd l1 aa)).toNat * 3)).off + 1, none⟩ = some (.string ((r26_ ea (rd l1 aa)).f1)) ∧ w18.cell? ⟨(la.add (((rd l1 aa)).toNat * 3)).block, (la.add (((rd l1 aa)).toNat * 3)).off + 2, none⟩ = some (.string ((r26_ ea (rd l1 aa)).f2)) := hS_
    refine norm_ (a' := ?_) ?_ ?_
    rotate_left
    ·simp only [putAll, Act.put, s1_, s2_, s3_]
     rfl
    refine one_ (i := 7) (N := none) #[true, true, true, true, true, true, true, true] rfl rfl (one_of HT_.out kr_) (by decide) (fun K hK => ?_)
    have kb : w18.cell? ⟨ca, 0, none⟩ = some (.bool false) := (kc_ ga.out 0).trans rfl
    have hfs19 := kF_ ga.out 0
    have hns19_0 := pa.out
    have hms19_0 := xa.out
    have mb : w18.cell? ⟨ca, 1, none⟩ = some (.string (⟨#[]⟩ : ByteArray)) := (kc_ ga.out 1).trans rfl
    have hfs20 := kF_ ga.out 1
    have hns20_0 := pa.out
    have hms20_0 := xa.out
    have nb : w18.cell? ⟨ca, 2, none⟩ = some (.string (⟨#[]⟩ : ByteArray)) := (kc_ ga.out 2).trans rfl
    have hfs21 := kF_ ga.out 2
    have hns21_0 := pa.out
    have hms21_0 := xa.out
    refine skip_ (w1 := ?_) (by rfl) rfl ?_ ?_
    rotate_left
    ·go_simp
     rfl
    refine hK.out _ _ ⟨((cf_ (p := ⟨ca, _, none⟩) pa.out _).trans (((cf_ (p := ⟨ca, _, none⟩) pa.out _).trans (((cf_ (p := ⟨ca, _, none⟩) pa.out _).trans (hHeld.1)))))), ((cf_ (p := ⟨ca, _, none⟩) pa.out _).trans (((cf_ (p := ⟨ca, _, none⟩) pa.out _).trans (((cf_ (p := ⟨ca, _, none⟩) pa.out _).trans (hHeld.2.1)))))), ((cf_ (p := ⟨ca, _, none⟩) pa.out _).trans (((cf_ (p := ⟨ca, _, none⟩) pa.out _).trans (((cf_ (p := ⟨ca, _, none⟩) pa.out _).trans (hHeld.2.2.1)))))), ((cf_ (p := ⟨ca, _, none⟩) (by first | exact Kd.ob_ (Kd.R_away ba.out (fun _ hk => hk.2.2)) | (rw [ab_]; exact Kd.ob_ (Kd.R_away ba.out (fun _ hk => hk.2.2))) | (show (Addr.add _ _).block ≠ _; rw [ab_]; exact Kd.ob_ (Kd.R_away ba.out (fun _ hk => hk.2.2))) | (dsimp only; exact Kd.ob_ (Kd.R_away ba.out (fun _ hk => hk.2.2)))) _).trans (((cf_ (p := ⟨ca, _, none⟩) (by first | exact Kd.ob_ (Kd.R_away ba.out (fun _ hk => hk.2.2)) | (rw [ab_]; exact Kd.ob_ (Kd.R_away ba.out (fun _ hk => hk.2.2))) | (show (Addr.add _ _).block ≠ _; rw [ab_]; exact Kd.ob_ (Kd.R_away ba.out (fun _ hk => hk.2.2))) | (dsimp only; exact Kd.ob_ (Kd.R_away ba.out (fun _ hk => hk.2.2)))) _).trans (((cf_ (p := ⟨ca, _, none⟩) (by first | exact Kd.ob_ (Kd.R_away ba.out (fun _ hk => hk.2.2)) | (rw [ab_]; exact Kd.ob_ (Kd.R_away ba.out (fun _ hk => hk.2.2))) | (show (Addr.add _ _).block ≠ _; rw [ab_]; exact Kd.ob_ (Kd.R_away ba.out (fun _ hk => hk.2.2))) | (dsimp only; exact Kd.ob_ (Kd.R_away ba.out (fun _ hk => hk.2.2)))) _).trans (hHeld.2.2.2.1)))))), ((cf_ (p := ⟨ca, _, none⟩) (by first | exact Kd.ob_ (Kd.R_away ba.out (fun _ hk => hk.2.2)) | (rw [ab_]; exact Kd.ob_ (Kd.R_away ba.out (fun _ hk => hk.2.2))) | (show (Addr.add _ _).block ≠ _; rw [ab_]; exact Kd.ob_ (Kd.R_away ba.out (fun _ hk => hk.2.2))) | (dsimp only; exact Kd.ob_ (Kd.R_away ba.out (fun _ hk => hk.2.2)))) _).trans (((cf_ (p := ⟨ca, _, none⟩) (by first | exact Kd.ob_ (Kd.R_away ba.out (fun _ hk => hk.2.2)) | (rw [ab_]; exact Kd.ob_ (Kd.R_away ba.out (fun _ hk => hk.2.2))) | (show (Addr.add _ _).block ≠ _; rw [ab_]; exact Kd.ob_ (Kd.R_away ba.out (fun _ hk => hk.2.2))) | (dsimp only; exact Kd.ob_ (Kd.R_away ba.out (fun _ hk => hk.2.2)))) _).trans (((cf_ (p := ⟨ca, _, none⟩) (by first | exact Kd.ob_ (Kd.R_away ba.out (fun _ hk => hk.2.2)) | (rw [ab_]; exact Kd.ob_ (Kd.R_away ba.out (fun _ hk => hk.2.2))) | (show (Addr.add _ _).block ≠ _; rw [ab_]; exact Kd.ob_ (Kd.R_away ba.out (fun _ hk => hk.2.2))) | (dsimp only; exact Kd.ob_ (Kd.R_away ba.out (fun _ hk => hk.2.2)))) _).trans (hHeld.2.2.2.2.1)))))), ((cf_ (p := ⟨ca, _, none⟩) (by first | exact Kd.ob_ (Kd.R_away ba.out (fun _ hk => hk.2.2)) | (rw [ab_]; exact Kd.ob_ (Kd.R_away ba.out (fun _ hk => hk.2.2))) | (show (Addr.add _ _).block ≠ _; rw [ab_]; exact Kd.ob_ (Kd.R_away ba.out (fun _ hk => hk.2.2))) | (dsimp only; exact Kd.ob_ (Kd.R_away ba.out (fun _ hk => hk.2.2)))) _).trans (((cf_ (p := ⟨ca, _, none⟩) (by first | exact Kd.ob_ (Kd.R_away ba.out (fun _ hk => hk.2.2)) | (rw [ab_]; exact Kd.ob_ (Kd.R_away ba.out (fun _ hk => hk.2.2))) | (show (Addr.add _ _).block ≠ _; rw [ab_]; exact Kd.ob_ (Kd.R_away ba.out (fun _ hk => hk.2.2))) | (dsimp only; exact Kd.ob_ (Kd.R_away ba.out (fun _ hk => hk.2.2)))) _).trans (((cf_ (p := ⟨ca, _, none⟩) (by first | exact Kd.ob_ (Kd.R_away ba.out (fun _ hk => hk.2.2)) | (rw [ab_]; exact Kd.ob_ (Kd.R_away ba.out (fun _ hk => hk.2.2))) | (show (Addr.add _ _).block ≠ _; rw [ab_]; exact Kd.ob_ (Kd.R_away ba.out (fun _ hk => hk.2.2))) | (dsimp only; exact Kd.ob_ (Kd.R_away ba.out (fun _ hk => hk.2.2)))) _).trans (hHeld.2.2.2.2.2))))))⟩ (fun hHeld => ?_)
    clear hK K
    refine done_ (done_of HT_.out kr_) ?_
    try go_wp2
    have n0_ : A0_ (Kd.R k26 26 (((w18.setCell ⟨ca, 0, none⟩ (.bool ma)).setCell ⟨ca, 1, none⟩ (.string na)).setCell ⟨ca, 2, none⟩ (.string oa)) w0.heap.size (fun k_ => (P0_ k_ ∨ w.heap.size ≤ k_) ∧ k_ ≠ fa ∧ k_ ≠ ca) (.slice (some la) ea.length Ba) ea) := ⟨by (with_reducible repeat (first | apply Kd.R_alloc | apply Kd.rN_ | apply Kd.rD_)); exact Kd.rM_ (Kd.rF_ (p := ⟨ca, 2, none⟩) (Kd.rF_ (p := ⟨ca, 1, none⟩) (Kd.rF_ (p := ⟨ca, 0, none⟩) (Kd.rM_ ba.out (fun k_ hk => (⟨hk, hk.2.2⟩ : _ ∧ k_ ≠ ca))) (fun _ hk => hk.2) (.bool ma)) (fun _ hk => hk.2) (.string na)) (fun _ hk => hk.2) (.string oa)) (fun _ hk => ⟨hk.1.1, ⟨hk.1.2.1, hk.1.2.2⟩⟩)⟩
    have n1_ : A0_ ((((w18.setCell ⟨ca, 0, none⟩ (.bool ma)).setCell ⟨ca, 1, none⟩ (.string na)).setCell ⟨ca, 2, none⟩ (.string oa)).heap[fa]? = some (.cells #[.bool ja, .string ia, .string ha] 26 (0, 0))) := ⟨by (with_reducible repeat (first | apply kN_ | apply kD_ | apply kA_)); refine bf_ ?_ pa.out _; (with_reducible repeat (first | apply kN_ | apply kD_ | apply kA_)); refine bf_ ?_ pa.out _; (with_reducible repeat (first | apply kN_ | apply kD_ | apply kA_)); refine bf_ ?_ pa.out _; (with_reducible repeat (first | apply kN_ | apply kD_ | apply kA_)); exact da.out⟩
    have n2_ : A0_ ((((w18.setCell ⟨ca, 0, none⟩ (.bool ma)).setCell ⟨ca, 1, none⟩ (.string na)).setCell ⟨ca, 2, none⟩ (.string oa)).heap[ca]? = some (.cells #[.bool ma, .string na, .string oa] 26 (0, 0))) := ⟨by (with_reducible repeat (first | apply kN_ | apply kD_ | apply kA_)); refine kP_ (cs := #[.bool ma, .string na, .string (⟨#[]⟩ : ByteArray)]) ?_ 2 _ rfl; (with_reducible repeat (first | apply kN_ | apply kD_ | apply kA_)); refine kP_ (cs := #[.bool ma, .string (⟨#[]⟩ : ByteArray), .string (⟨#[]⟩ : ByteArray)]) ?_ 1 _ rfl; (with_reducible repeat (first | apply kN_ | apply kD_ | apply kA_)); refine kP_ (cs := zC_) ?_ 0 _ rfl; (with_reducible repeat (first | apply kN_ | apply kD_ | apply kA_)); exact ga.out⟩
    have n3_ : A0_ (Kept w (((w18.setCell ⟨ca, 0, none⟩ (.bool ma)).setCell ⟨ca, 1, none⟩ (.string na)).setCell ⟨ca, 2, none⟩ (.string oa)) (fun k_ => P0_ k_)) := ⟨by repeat (first | (with_reducible first | exact HK.out | apply Kept.alloc | apply Kept.drewN | apply Kept.drew | refine Kept.setCell ?_ (.inr qa.out) _ | refine Kept.setCell ?_ (.inr sa.out) _) | exact HK.out)⟩
    have n4_ : A0_ (Below w0.heap.size w0 (((w18.setCell ⟨ca, 0, none⟩ (.bool ma)).setCell ⟨ca, 1, none⟩ (.string na)).setCell ⟨ca, 2, none⟩ (.string oa))) := ⟨xB2_ HB ra ta⟩
    (try clear ba)
    (try clear da)
    (try clear ga)
    (try clear HK)
    (try clear HB)
    generalize (((w18.setCell ⟨ca, 0, none⟩ (.bool ma)).setCell ⟨ca, 1, none⟩ (.string na)).setCell ⟨ca, 2, none⟩ (.string oa)) = w22 at n0_ n1_ n2_ n3_ n4_ ⊢
    have ba := n0_
    have da := n1_
    have ga := n2_
    have HK := n3_
    have HB := n4_
    clear n0_ n1_ n2_ n3_ n4_
    have n0_ := A0_.mk (Kd.rD_ ba.out)
    have n1_ := A0_.mk (kD_ da.out)
    have n2_ := A0_.mk (kD_ ga.out)
    have n3_ := A0_.mk (Kept.drew HK.out)
    have n4_ := A0_.mk (b1_ HB.out)
    clear ba
    clear da
    clear ga
    clear HK
    clear HB
    have ba := n0_
    have da := n1_
    have ga := n2_
    have HK := n3_
    have HB := n4_
    clear n0_ n1_ n2_ n3_ n4_
    have Ma : 0 ≤ ((rd l1 aa) : Int) := oD_
    have Na : (rd l1 aa) < (ea.length : Int) := oD_
    obtain ⟨Za, ab, Oa, Pa, Qa⟩ := at_T26 (Kd.rr_' ba.out).2.2 (rd l1 aa) Ma Na
    obtain rfl : la = Za := (by injection ab)
    replace Ma := eq_true Ma
    replace Na := eq_true Na
    refine start_ (n := 10) (S := fun w' => w'.cell? ⟨ca, 0, none⟩ = some (.bool ma) ∧ w'.cell? ⟨ca, 1, none⟩ = some (.string na) ∧ w'.cell? ⟨ca, 2, none⟩ = some (.string oa) ∧ w'.cell? (la.add (((rd l1 aa)).toNat * 3)) = some (.bool ((r26_ ea (rd l1 aa)).f0)) ∧ w'.cell? ⟨(la.add (((rd l1 aa)).toNat * 3)).block, (la.add (((rd l1 aa)).toNat * 3)).off + 1, none⟩ = some (.string ((r26_ ea (rd l1 aa)).f1)) ∧ w'.cell? ⟨(la.add (((rd l1 aa)).toNat * 3)).block, (la.add (((rd l1 aa)).toNat * 3)).off + 2, none⟩ = some (.string ((r26_ ea (rd l1 aa)).f2))) (ds := [9]) #[false, false, false, false, false, false, false, false, false, false] kr_ rfl rfl ⟨(kc_ ga.out 0).trans rfl, (kc_ ga.out 1).trans rfl, (kc_ ga.out 2).trans rfl, Oa, Pa, Qa⟩ (fun hHeld => ?_); refine with_tabW so_reduce.tab5 so_reduce.bits5 (fun HT_ HW_ => ?_)
    generalize w22.drew = w23 at ba da ga HK HB Oa Pa Qa hHeld ⊢
    refine pu_ (i := 0) (N := some 21) (v := ?_) (a' := ?_) #[true, false, false, false, false, false, false, false, false, false] rfl rfl (an_ HT_.out kr_) (fun _ _ _ h => h) (Or.inl ⟨by rfl, ?_⟩) ?_ ?_
    rotate_left
    ·intro w'
     go_simp
     with_reducible rfl
    rotate_left
    ·simp only [Act.put, s1_, s2_, s3_, i6_, i3_]
     rfl
    refine pu_ (i := 1) (N := some 22) (v := ?_) (a' := ?_) #[true, true, false, false, false, false, false, false, false, false] rfl rfl (an_ HT_.out kr_) (fun _ _ _ h => h) (Or.inl ⟨by rfl, ?_⟩) ?_ ?_
    rotate_left
    ·intro w'
     go_simp
     with_reducible rfl
    rotate_left
    ·simp only [Act.put, s1_, s2_, s3_, i6_, i3_]
     rfl
    refine pu_ (i := 2) (N := some 23) (v := ?_) (a' := ?_) #[true, true, true, false, false, false, false, false, false, false] rfl rfl (an_ HT_.out kr_) (fun _ _ _ h => h) (Or.inl ⟨by rfl, ?_⟩) ?_ ?_
    rotate_left
    ·intro w'
     go_simp
     with_reducible rfl
    rotate_left
    ·simp only [Act.put, s1_, s2_, s3_, i6_, i3_]
     rfl
    refine pu_ (i := 3) (N := some 24) (v := ?_) (a' := ?_) #[true, true, true, true, false, false, false, false, false, false] rfl rfl (an_ HT_.out kr_) (fun _ _ _ h => h) (Or.inl ⟨by rfl, ?_⟩) ?_ ?_
    rotate_left
    ·intro w'
     go_simp
     with_reducible rfl
    rotate_left
    ·simp only [Act.put, s1_, s2_, s3_, i6_, i3_]
     rfl
    refine pu_ (i := 4) (N := some 25) (v := ?_) (a' := ?_) #[true, true, true, true, true, false, false, false, false, false] rfl rfl (an_ HT_.out kr_) (fun _ _ _ h => h) (Or.inl ⟨by rfl, ?_⟩) ?_ ?_
    rotate_left
    ·intro w'
     go_simp
     with_reducible rfl
    rotate_left
    ·simp only [Act.put, s1_, s2_, s3_, i6_, i3_]
     rfl
    refine take_ (i := 5) (N := some 26) (v := ?_) (a' := ?_) #[true, true, true, true, true, true, false, false, false, false] rfl rfl (tW_ HT_.out HW_.out kr_) (fun _ _ _ h => h) (Or.inl ⟨by rfl, ?_⟩) hHeld ?_ ?_
    rotate_left
    ·rintro w' ⟨s0, s1, s2, s3, s4, s5⟩
     go_simp
     with_reducible rfl
    rotate_left
    ·simp only [Act.put, s1_, s2_, s3_, i6_, i3_]
     rfl
    refine take_ (i := 6) (N := some 27) (v := ?_) (a' := ?_) #[true, true, true, true, true, true, true, false, false, false] rfl rfl (tW_ HT_.out HW_.out kr_) (fun _ _ _ h => h) (Or.inl ⟨by rfl, ?_⟩) hHeld ?_ ?_
    rotate_left
    ·rintro w' ⟨s0, s1, s2, s3, s4, s5⟩
     go_simp
     with_reducible rfl
    rotate_left
    ·simp only [Act.put, s1_, s2_, s3_, i6_, i3_]
     rfl
    refine one_ (i := 7) (N := some 28) #[true, true, true, true, true, true, true, true, false, false] rfl rfl (one_of HT_.out kr_) (by decide) (fun K hK => ?_)
    refine goes_ Tryd.func25 kr_ rfl #[.agg #[.bool ((r26_ ea (rd l1 aa)).f0), .string ((r26_ ea (rd l1 aa)).f1), .string ((r26_ ea (rd l1 aa)).f2)], .agg #[.bool ma, .string na, .string oa]] (by rfl) rfl rfl mp_ ?_
    with_reducible refine (q_Subtract.calls k1 ((r26_ ea (rd l1 aa)).f0) ((r26_ ea (rd l1 aa)).f1) ((r26_ ea (rd l1 aa)).f2) ma na oa ua va wa _ A11.out).mono ?_
    rintro e w24 ⟨rfl, hb⟩
    have HS3_ := (hb.cell (World.block_lt_of_cell? _ _ (hHeld.2.2.2.1))).trans (hHeld.2.2.2.1)
    have HS4_ := (hb.cell (World.block_lt_of_cell? _ _ (hHeld.2.2.2.2.1))).trans (hHeld.2.2.2.2.1)
    have HS5_ := (hb.cell (World.block_lt_of_cell? _ _ (hHeld.2.2.2.2.2))).trans (hHeld.2.2.2.2.2)
    refine ⟨_, rfl, ?_⟩
    have n0_ := A0_.mk (Kd.rB_ (xR_ ba.out) hb)
    have n1_ := A0_.mk (kB_ (g := fa) (o := .cells #[.bool ja, .string ia, .string ha] 26 (0, 0)) (xK_ da.out) hb)
    have n2_ := A0_.mk (kB_ (g := ca) (o := .cells #[.bool ma, .string na, .string oa] 26 (0, 0)) (xK_ ga.out) hb)
    have n3_ := A0_.mk (Kept.below (S := (fun k_ => P0_ k_)) (by repeat (first | (with_reducible first | exact HK.out | apply Kept.alloc | apply Kept.drewN | apply Kept.drew | refine Kept.setCell ?_ (.inr qa.out) _ | refine Kept.setCell ?_ (.inr sa.out) _) | exact HK.out)) hb)
    have n4_ := A0_.mk (bT_ (xB2_ HB ra ta) hb)
    clear ba
    clear da
    clear ga
    clear HK
    clear HB
    have ba := n0_
    have da := n1_
    have ga := n2_
    have HK := n3_
    have HB := n4_
    clear n0_ n1_ n2_ n3_ n4_
    (try clear hb)
    (try clear hb2)
    (try clear hk)
    (try clear hi)
    have p12 : 0 ≤ ((rd l1 aa) : Int) := oD_
    have q12 : ((rd l1 aa) : Int) < ((ea.length : Int) : Int) := oD_
    obtain ⟨ka, ob, Sa, Ta, gl12, cl12, Ua⟩ := Kd.R_form ba.out (by omega)
    (first | cases Sa | (injection Sa with ea_ en_ ec_; (first | subst ea_ | (injection ea_ with ea_; subst ea_)); subst ec_; clear en_))
    have GB12 := A0_.mk Ta
    have GG12 := A0_.mk Ua
    clear Ta gl12 Ua
    have HMgo12 := A0_.mk (show (P0_ ka ∨ w.heap.size ≤ ka) from (ba.out.1 _ rfl).1)
    (first | simp only [ap_] at Ja | skip)
    (first | simp only [ap_] at Ka | skip)
    (first | simp only [ap_] at La | skip)
    (first | simp only [ap_] at Oa | skip)
    (first | simp only [ap_] at Pa | skip)
    (first | simp only [ap_] at Qa | skip)
    obtain ⟨ce12, hcl12, hM12, hcc12, hfr12⟩ := Kd.R_elem ba.out z26 ((rd l1 aa) : Int) p12 q12
    obtain rfl := k26_openM hM12
    have pb : World.cell? _ ⟨ka, ((rd l1 aa) : Int).toNat * 3, none⟩ = some (.bool ((r26_ ea (rd l1 aa)).f0)) := hcc12 0 _ rfl
    have qb : World.cell? _ ⟨ka, ((rd l1 aa) : Int).toNat * 3 + 1, none⟩ = some (.string ((r26_ ea (rd l1 aa)).f1)) := hcc12 1 _ rfl
    have rb : World.cell? _ ⟨ka, ((rd l1 aa) : Int).toNat * 3 + 2, none⟩ = some (.string ((r26_ ea (rd l1 aa)).f2)) := hcc12 2 _ rfl
    have sb : World.frozen? _ ⟨ka, ((rd l1 aa) : Int).toNat * 3, none⟩ = false := hfr12 0
    have tb : World.frozen? _ ⟨ka, ((rd l1 aa) : Int).toNat * 3 + 1, none⟩ = false := hfr12 1
    have ub : World.frozen? _ ⟨ka, ((rd l1 aa) : Int).toNat * 3 + 2, none⟩ = false := hfr12 2
    clear hcl12 hcc12 hfr12 hM12
    replace p12 := eq_true p12
    replace q12 := eq_true q12
    obtain ⟨ce25, hcl25, hM25, hcc25, hfr25⟩ := Kd.R_elem ba.out z26 ((rd l1 aa) : Int) (oD_) (by have h_ : ((rd l1 aa) : Int) < ((ea.length : Int) : Int) := oD_; first | exact h_ | (have e_ := (Kd.rr_' ba.out).1; omega) | simpa using h_)
    obtain rfl := k26_openM hM25
    have HP25 := (Kd.R_seg ba.out ((rd l1 aa) : Int) (oD_) (by have h_ : ((rd l1 aa) : Int) < ((ea.length : Int) : Int) := oD_; first | exact h_ | (have e_ := (Kd.rr_' ba.out).1; omega) | simpa using h_) (seg := [.bool ua, .string va, .string wa]) (j := 0) hcl25 hcc25 (show 3 ≤ 3 from by decide) (x' := (⟨ua, va, wa⟩ : S26)) (k26_mkM _ _ _ (⟨ua, va, wa⟩ : S26) ) (fun _ hk => hk)).1
    rw [← Wa.out] at HP25
    have bb := A0_.mk HP25
    clear hcl25 hcc25 hfr25 hM25 HP25
    refine hK.out _ _ ⟨(kc_ ga.out 0).trans rfl, (kc_ ga.out 1).trans rfl, (kc_ ga.out 2).trans rfl, HS3_, HS4_, HS5_⟩ (fun hHeld => ?_)
    clear hK K
    refine norm_ (a' := ?_) ?_ ?_
    rotate_left
    ·show Act.put _ (some 28) _ = _
     simp only [Act.put, s1_, s2_, s3_, i6_, i3_]
     rfl
    refine pu_ (i := 8) (N := some 29) (v := ?_) (a' := ?_) #[true, true, true, true, true, true, true, true, true, false] rfl rfl (an_ HT_.out kr_) (fun _ _ _ h => h) (Or.inl ⟨by rfl, ?_⟩) ?_ ?_
    rotate_left
    ·intro w'
     go_simp
     with_reducible rfl
    rotate_left
    ·simp only [Act.put, s1_, s2_, s3_, i6_, i3_]
     rfl
    refine last_ (i := 9) (N := none) #[true, true, true, true, true, true, true, true, true, true] rfl rfl (one_of HT_.out kr_) (by decide) (fun K hK => ?_)
    refine skip_ (w1 := ?_) (by rfl) rfl ?_ ?_
    rotate_left
    ·go_simp
     rfl
    refine hK.out _ _ ?_
    clear hK K
    refine done_ (done_of HT_.out kr_) ?_
    have n0_ : A0_ (Kd.R k26 26 (((w24.setCell ⟨ka, ((rd l1 aa) : Int).toNat * 3, none⟩ (.bool ua)).setCell ⟨ka, ((rd l1 aa) : Int).toNat * 3 + 1, none⟩ (.string va)).setCell ⟨ka, ((rd l1 aa) : Int).toNat * 3 + 2, none⟩ (.string wa)) w0.heap.size (fun k_ => (P0_ k_ ∨ w.heap.size ≤ k_) ∧ k_ ≠ fa ∧ k_ ≠ ca) (.slice (some ⟨ka, 0, none⟩) ea.length Ba) Ca) := ⟨by (with_reducible repeat (first | apply Kd.R_alloc | apply Kd.rN_ | apply Kd.rD_)); exact bb.out⟩
    have n1_ : A0_ ((((w24.setCell ⟨ka, ((rd l1 aa) : Int).toNat * 3, none⟩ (.bool ua)).setCell ⟨ka, ((rd l1 aa) : Int).toNat * 3 + 1, none⟩ (.string va)).setCell ⟨ka, ((rd l1 aa) : Int).toNat * 3 + 2, none⟩ (.string wa)).heap[fa]? = some (.cells #[.bool ja, .string ia, .string ha] 26 (0, 0))) := ⟨by (with_reducible repeat (first | apply kN_ | apply kD_ | apply kA_)); refine bf_ ?_ (by have h_ := Kd.R_away ba.out (fun _ hk => hk.2.1); intro e_; exact h_ (by rw [e_]; rfl)) _; (with_reducible repeat (first | apply kN_ | apply kD_ | apply kA_)); refine bf_ ?_ (by have h_ := Kd.R_away ba.out (fun _ hk => hk.2.1); intro e_; exact h_ (by rw [e_]; rfl)) _; (with_reducible repeat (first | apply kN_ | apply kD_ | apply kA_)); refine bf_ ?_ (by have h_ := Kd.R_away ba.out (fun _ hk => hk.2.1); intro e_; exact h_ (by rw [e_]; rfl)) _; (with_reducible repeat (first | apply kN_ | apply kD_ | apply kA_)); exact da.out⟩
    have n2_ : A0_ ((((w24.setCell ⟨ka, ((rd l1 aa) : Int).toNat * 3, none⟩ (.bool ua)).setCell ⟨ka, ((rd l1 aa) : Int).toNat * 3 + 1, none⟩ (.string va)).setCell ⟨ka, ((rd l1 aa) : Int).toNat * 3 + 2, none⟩ (.string wa)).heap[ca]? = some (.cells #[.bool ma, .string na, .string oa] 26 (0, 0))) := ⟨by (with_reducible repeat (first | apply kN_ | apply kD_ | apply kA_)); refine bf_ ?_ (by have h_ := Kd.R_away ba.out (fun _ hk => hk.2.2); intro e_; exact h_ (by rw [e_]; rfl)) _; (with_reducible repeat (first | apply kN_ | apply kD_ | apply kA_)); refine bf_ ?_ (by have h_ := Kd.R_away ba.out (fun _ hk => hk.2.2); intro e_; exact h_ (by rw [e_]; rfl)) _; (with_reducible repeat (first | apply kN_ | apply kD_ | apply kA_)); refine bf_ ?_ (by have h_ := Kd.R_away ba.out (fun _ hk => hk.2.2); intro e_; exact h_ (by rw [e_]; rfl)) _; (with_reducible repeat (first | apply kN_ | apply kD_ | apply kA_)); exact ga.out⟩
    have n3_ : A0_ (Kept w (((w24.setCell ⟨ka, ((rd l1 aa) : Int).toNat * 3, none⟩ (.bool ua)).setCell ⟨ka, ((rd l1 aa) : Int).toNat * 3 + 1, none⟩ (.string va)).setCell ⟨ka, ((rd l1 aa) : Int).toNat * 3 + 2, none⟩ (.string wa)) (fun k_ => P0_ k_)) := ⟨by repeat (first | (with_reducible first | exact HK.out | apply Kept.alloc | apply Kept.drewN | apply Kept.drew | refine Kept.setCell ?_ HMgo12.out _ | refine Kept.setCell ?_ HMgo12.out _ | refine Kept.setCell ?_ HMgo12.out _ | refine Kept.setCell ?_ (.inr qa.out) _ | refine Kept.setCell ?_ (.inr sa.out) _) | exact HK.out)⟩
    have n4_ : A0_ (Below w0.heap.size w0 (((w24.setCell ⟨ka, ((rd l1 aa) : Int).toNat * 3, none⟩ (.bool ua)).setCell ⟨ka, ((rd l1 aa) : Int).toNat * 3 + 1, none⟩ (.string va)).setCell ⟨ka, ((rd l1 aa) : Int).toNat * 3 + 2, none⟩ (.string wa))) := ⟨xB5_ HB GB12 GB12 GB12 ra ta⟩
    (try clear ba)
    (try clear da)
    (try clear ga)
    (try clear HK)
    (try clear HB)
    generalize (((w24.setCell ⟨ka, ((rd l1 aa) : Int).toNat * 3, none⟩ (.bool ua)).setCell ⟨ka, ((rd l1 aa) : Int).toNat * 3 + 1, none⟩ (.string va)).setCell ⟨ka, ((rd l1 aa) : Int).toNat * 3 + 2, none⟩ (.string wa)) = w26 at n0_ n1_ n2_ n3_ n4_ ⊢
    have ba := n0_
    have da := n1_
    have ga := n2_
    have HK := n3_
    have HB := n4_
    clear n0_ n1_ n2_ n3_ n4_
    have hnb27 := pa.out
    have hnc27 := xa.out
    have vb : w26.cell? ⟨fa, 0, none⟩ = some (.bool ja) := (kc_ da.out 0).trans rfl
    have wb : w26.cell? ⟨fa, 1, none⟩ = some (.string ia) := (kc_ da.out 1).trans rfl
    have xb : w26.cell? ⟨fa, 2, none⟩ = some (.string ha) := (kc_ da.out 2).trans rfl
    have yb := kF_ da.out 0
    have zb := kF_ da.out 1
    have Ab := kF_ da.out 2
    have Bb : w26.cell? ⟨ca, 0, none⟩ = some (.bool ma) := (kc_ ga.out 0).trans rfl
    have Cb : w26.cell? ⟨ca, 1, none⟩ = some (.string na) := (kc_ ga.out 1).trans rfl
    have Db : w26.cell? ⟨ca, 2, none⟩ = some (.string oa) := (kc_ ga.out 2).trans rfl
    have Eb := kF_ ga.out 0
    have Fb := kF_ ga.out 1
    have Gb := kF_ ga.out 2
    try go_wp2_with (first | ((with_reducible refine gC_ (f := 25) rfl ?_); refine gL_ (some 32) rfl rfl Tryd.func25 kr_ rfl #[.agg #[.bool ja, .string ia, .string ha], .agg #[.bool ma, .string na, .string oa]] rfl mp_ ?_; (with_reducible refine (q_Subtract.calls k1 ja ia ha ma na oa za Aa Ea _ A13.out).mono ?_); rintro e w30 ⟨rfl, hb⟩; refine ⟨_, rfl, ?_⟩; have n0_ := A0_.mk (Kd.rB_ (xR_ ba.out) hb); have n1_ := A0_.mk (kB_ (g := fa) (o := .cells #[.bool ja, .string ia, .string ha] 26 (0, 0)) (xK_ da.out) hb); have n2_ := A0_.mk (kB_ (g := ca) (o := .cells #[.bool ma, .string na, .string oa] 26 (0, 0)) (xK_ ga.out) hb); have n3_ := A0_.mk (Kept.below (S := (fun k_ => P0_ k_)) (by repeat (first | (with_reducible first | exact HK.out | apply Kept.alloc | apply Kept.drewN | apply Kept.drew | refine Kept.setCell ?_ (.inr qa.out) _ | refine Kept.setCell ?_ (.inr sa.out) _) | exact HK.out)) hb); have n4_ := A0_.mk (bT_ (xB2_ HB ra ta) hb); clear ba da ga HK HB; have ba := n0_; have da := n1_; have ga := n2_; have HK := n3_; have HB := n4_; clear n0_ n1_ n2_ n3_ n4_; (try clear hb); (try clear hb2); (try clear hk); (try clear hi); have Hb : w30.cell? ⟨fa, 0, none⟩ = some (.bool ja) := (kc_ da.out 0).trans rfl; have Ib : w30.cell? ⟨fa, 1, none⟩ = some (.string ia) := (kc_ da.out 1).trans rfl; have Jb : w30.cell? ⟨fa, 2, none⟩ = some (.string ha) := (kc_ da.out 2).trans rfl; have Kb := kF_ da.out 0; have Lb := kF_ da.out 1; have Mb := kF_ da.out 2))
    (try simp only [ap_])
    go_roundg k1
    case measure => have := HK1.out; omega
    case rel => exact ⟨(Ca), (wrap64 (aa + 1)), (za), (Aa), (Ea), (rS_), H', ⟨by have := HK1.out; omega⟩, ⟨by (with_reducible repeat (first | apply Kd.R_alloc | apply Kd.rN_ | apply Kd.rD_)); exact Kd.rM_ (Kd.rF_ (p := ⟨fa, 2, none⟩) (Kd.rF_ (p := ⟨fa, 1, none⟩) (Kd.rF_ (p := ⟨fa, 0, none⟩) (Kd.rM_ ba.out (fun k_ hk => (⟨hk, hk.2.1⟩ : _ ∧ k_ ≠ fa))) (fun _ hk => hk.2) (.bool za)) (fun _ hk => hk.2) (.string Aa)) (fun _ hk => hk.2) (.string Ea)) (fun _ hk => ⟨hk.1.1, hk.1.2.1⟩)⟩, ⟨by (with_reducible repeat (first | apply kN_ | apply kD_ | apply kA_)); refine kP_ (cs := #[.bool za, .string Aa, .string ha]) ?_ 2 _ rfl; (with_reducible repeat (first | apply kN_ | apply kD_ | apply kA_)); refine kP_ (cs := #[.bool za, .string ia, .string ha]) ?_ 1 _ rfl; (with_reducible repeat (first | apply kN_ | apply kD_ | apply kA_)); refine kP_ (cs := #[.bool ja, .string ia, .string ha]) ?_ 0 _ rfl; (with_reducible repeat (first | apply kN_ | apply kD_ | apply kA_)); exact da.out⟩, ⟨by repeat (first | (with_reducible first | exact HK.out | apply Kept.alloc | apply Kept.drewN | apply Kept.drew | refine Kept.setCell ?_ (.inr qa.out) _ | refine Kept.setCell ?_ (.inr sa.out) _) | exact HK.out)⟩, ⟨xB2_ HB ra ta⟩⟩
   ·rw [if_neg c5] at H
    have Va : decide (aa < (l1.length : Int)) = false := decide_eq_false c5
    clear c5
    obtain rfl := Option.some.inj H
    go_wp2
    first | go_end0 | ((try simp only [Exit.inBlock, Exit.then]); refine bodyPost_ret (results_none rfl _ _ _) rfl ?_)
    exact ⟨rE_, by (with_reducible repeat (first | apply Kd.R_alloc | apply Kd.rN_ | apply Kd.rD_)); exact Kd.rM_ ba.out (fun _ hk => hk.1), xB1_ HB ra, by repeat (first | (with_reducible first | exact HK.out | apply Kept.alloc | apply Kept.drewN | apply Kept.drew | refine Kept.setCell ?_ (.inr qa.out) _) | exact HK.out)⟩
def so_total.l0 : Nat → List (S26) → List Int → Int → Int → Bool → ByteArray → ByteArray → Option (Bool × ByteArray × ByteArray)
 | 0, _, _, _, _, _, _, _ => none
 | k + 1, x0, x9, x10, x11, x426000, x426001, x426002 => if x11 < x10 then (if 0 ≤ x11 then (if x11 < (x9.length : Int) then (if 0 ≤ (rd x9 x11) then (if (rd x9 x11) < (x0.length : Int) then ((q_Add.f k x426000 x426001 x426002 ((r26_ x0 (rd x9 x11)).f0) ((r26_ x0 (rd x9 x11)).f1) ((r26_ x0 (rd x9 x11)).f2)).bind fun bt428 => (so_total.l0 k x0 x9 x10 (wrap64 (x11 + 1)) bt428.1 bt428.2.1 bt428.2.2)) else (none)) else (none)) else (none)) else (none)) else (some (x426000, x426001, x426002))
def so_total.f (k : Nat) (l0 : List (S26)) (l1 : List Int) : Option (Bool × ByteArray × ByteArray) := so_total.l0 k l0 l1 (l1.length : Int) 0 false (⟨#[]⟩ : ByteArray) (⟨#[]⟩ : ByteArray)
theorem so_total.mono_l : ∀ k, (∀ y0 y1 y2 y3 y4 y5 y6, LeO (so_total.l0 k y0 y1 y2 y3 y4 y5 y6) (so_total.l0 (k + 1) y0 y1 y2 y3 y4 y5 y6))
 | 0 => fun _ _ _ _ _ _ _ r h => by simp [so_total.l0] at h
 | k + 1 => by
  have ih0 := so_total.mono_l k
  ·intro y0 y1 y2 y3 y4 y5 y6
   unfold so_total.l0
   repeat' first
   | (with_reducible first | exact ih0 _ _ _ _ _ _ _ | exact q_Add.mono _ _ _ _ _ _ _ | exact LeO.refl _ | exact LeO.none _ | refine LeO.ite ?_ ?_ | refine LeO.bind ?_ (fun _ => ?_))
theorem so_total.mono : ∀ a0 a1 k, LeO (so_total.f k a0 a1) (so_total.f (k + 1) a0 a1) := by
 intro a0 a1 k
 have ih0 := so_total.mono_l k
 unfold so_total.f
 repeat' first
   | (with_reducible first | exact ih0 _ _ _ _ _ _ _ | exact q_Add.mono _ _ _ _ _ _ _ | exact LeO.refl _ | exact LeO.none _ | refine LeO.ite ?_ ?_ | refine LeO.bind ?_ (fun _ => ?_))
theorem so_total.calls (k : Nat) (A0 : Option Addr) (c0 : Nat) (l0 : List (S26)) (A1 : Option Addr) (c1 : Nat) (l1 : List Int) (r1 : Bool) (r2 : ByteArray) (r3 : ByteArray) (w : World) (hr0 : Kd.C k26 w A0 l0.length l0) (hc0 : l0.length ≤ c0) (hr1 : Kd.C (Kd.int .i64) w A1 l1.length l1) (hc1 : l1.length ≤ c1) (h : so_total.f k l0 l1 = some (r1, r2, r3)) :
  Calls Tryd.prog 40 #[.slice A0 l0.length c0, .slice A1 l1.length c1] w fun e w' => e = .returned (.agg #[.bool r1, .string r2, .string r3]) ∧ Below w.heap.size w w' := by
 have hu26 := Tryd.underlying26
 have HR0 := A0_.mk hr0
 have HC0 := A0_.mk hc0
 clear hr0 hc0
 have HR1 := A0_.mk hr1
 have HC1 := A0_.mk hc1
 clear hr1 hc1
 have HB := A0_.mk (Below.refl w.heap.size w)
 have H := h
 unfold so_total.f at H
 clear h
 have H' := A0_.mk H
 clear H
 go_enter Tryd.func40, Tryd.ntmps40
 go_wp2_with (first | ((with_reducible refine gD_ (N := 4) rfl ?_); refine bE_ ?hg (N := 4) ?hd (cs := zC_) (t := 26) ?hr ?_; (case hd => rfl); (case hg => rfl); (case hr => first | (go_simp; done) | (go_simp; rfl)); intro ea hg w3 hbox hb; have n0_ := A0_.mk (bT_ (xB_ HB) hb); have n1_ := A0_.mk (hbox); have n2_ := A0_.mk ((by rw [hg]; exact (bZ_ (xB_ HB)) : w.heap.size ≤ ea)); have n3_ := A0_.mk ((by rw [hg]; exact (bZ_ (xB_ HB)) : w.heap.size ≤ ea)); clear HB; have HB := n0_; have ca := n1_; have Ha := n2_; have ja := n3_; clear n0_ n1_ n2_ n3_; clear hb hbox hg) | ((with_reducible refine gD_ (N := 5) rfl ?_); refine bE_ ?hg (N := 5) ?hd (cs := zC_) (t := 26) ?hr ?_; (case hd => rfl); (case hg => rfl); (case hr => first | (go_simp; done) | (go_simp; rfl)); intro da hg w4 hbox hb; have n0_ := A0_.mk (kB_ (g := ea) (o := .cells zC_ 26 (0, 0)) (xK_ ca.out) hb); have n1_ := A0_.mk (bT_ (xB1_ HB ja) hb); have n2_ := A0_.mk (hbox); have n3_ := A0_.mk ((by rw [hg]; exact (bZ_ (xB1_ HB ja)) : w.heap.size ≤ da)); have n4_ := A0_.mk ((by rw [hg]; exact (bZ_ (xB1_ HB ja)) : w.heap.size ≤ da)); have n5_ := A0_.mk ((by rw [hg]; exact Nat.ne_of_lt (blk_lt (g := ea) (o := .cells zC_ 26 (0, 0)) (xK_ ca.out)) : ea ≠ da)); have n6_ := A0_.mk ((by rw [hg]; exact Nat.ne_of_gt (blk_lt (g := ea) (o := .cells zC_ 26 (0, 0)) (xK_ ca.out)) : da ≠ ea)); clear ca HB; have ca := n0_; have HB := n1_; have ba := n2_; have Ia := n3_; have pa := n4_; have ia := n5_; have ka := n6_; clear n0_ n1_ n2_ n3_ n4_ n5_ n6_; clear hb hbox hg; have hnb5 := ka.out; have hnc5 := ia.out; have ya : w4.cell? ⟨da, 0, none⟩ = some (.bool false) := (kc_ ba.out 0).trans rfl; have za : w4.cell? ⟨da, 1, none⟩ = some (.string (⟨#[]⟩ : ByteArray)) := (kc_ ba.out 1).trans rfl; have Aa : w4.cell? ⟨da, 2, none⟩ = some (.string (⟨#[]⟩ : ByteArray)) := (kc_ ba.out 2).trans rfl; have Ba := kF_ ba.out 0; have Ca := kF_ ba.out 1; have Da := kF_ ba.out 2))
 go_loopg [11] k (fun kq v11 w' => ∃ (aa : Int) (fa : Bool) (ga : ByteArray) (ha : ByteArray), v11 = .int .i64 aa ∧ A0_ (so_total.l0 kq l0 l1 (l1.length : Int) aa fa ga ha = some (r1, r2, r3)) ∧ A0_ (kq ≤ k) ∧ A0_ (w'.heap[ea]? = some (.cells zC_ 26 (0, 0))) ∧ A0_ (w'.heap[da]? = some (.cells #[.bool fa, .string ga, .string ha] 26 (0, 0))) ∧ A0_ (Below w.heap.size w w'))
 case atStart => exact ⟨(0), (false), ((⟨#[]⟩ : ByteArray)), ((⟨#[]⟩ : ByteArray)), (rS_), H', ⟨Nat.le_refl _⟩, ⟨by (with_reducible repeat (first | apply kN_ | apply kD_ | apply kA_)); refine bf_ ?_ ia.out _; (with_reducible repeat (first | apply kN_ | apply kD_ | apply kA_)); refine bf_ ?_ ia.out _; (with_reducible repeat (first | apply kN_ | apply kD_ | apply kA_)); refine bf_ ?_ ia.out _; (with_reducible repeat (first | apply kN_ | apply kD_ | apply kA_)); exact ca.out⟩, ⟨by (with_reducible repeat (first | apply kN_ | apply kD_ | apply kA_)); refine kP_ (cs := zC_) ?_ 2 _ rfl; (with_reducible repeat (first | apply kN_ | apply kD_ | apply kA_)); refine kP_ (cs := zC_) ?_ 1 _ rfl; (with_reducible repeat (first | apply kN_ | apply kD_ | apply kA_)); refine kP_ (cs := zC_) ?_ 0 _ rfl; (with_reducible repeat (first | apply kN_ | apply kD_ | apply kA_)); exact ba.out⟩, ⟨xB2_ HB ja pa⟩⟩
 case round =>
  clear H'
  try clear c1
  try clear p2
  try clear c4
  try clear c5
  try clear ya
  try clear za
  try clear Aa
  try clear Ba
  try clear Ca
  try clear Da
  obtain ⟨aa, fa, ga, ha, rfl, HA, HK1, ca, ba, HB⟩ := hrel
  cases gk with
  | zero => exact absurd HA.out (by simp [so_total.l0])
  | succ k1 =>
   have H := HA.out
   clear HA
   simp only [so_total.l0] at H
   by_cases c7 : aa < (l1.length : Int)
   ·rw [if_pos c7] at H
    have Ea : decide (aa < (l1.length : Int)) = true := decide_eq_true c7
    clear c7
    by_cases c8 : 0 ≤ aa
    rotate_left
    ·rw [if_neg c8] at H
     exact absurd H (by simp)
    rw [if_pos c8] at H
    have Ja : decide (0 ≤ aa) = true := decide_eq_true c8
    clear c8
    by_cases c9 : aa < (l1.length : Int)
    rotate_left
    ·rw [if_neg c9] at H
     exact absurd H (by simp)
    rw [if_pos c9] at H
    have Ka : decide (aa < (l1.length : Int)) = true := decide_eq_true c9
    clear c9
    by_cases c10 : 0 ≤ (rd l1 aa)
    rotate_left
    ·rw [if_neg c10] at H
     exact absurd H (by simp)
    rw [if_pos c10] at H
    have La : decide (0 ≤ (rd l1 aa)) = true := decide_eq_true c10
    clear c10
    by_cases c11 : (rd l1 aa) < (l0.length : Int)
    rotate_left
    ·rw [if_neg c11] at H
     exact absurd H (by simp)
    rw [if_pos c11] at H
    have Ma : decide ((rd l1 aa) < (l0.length : Int)) = true := decide_eq_true c11
    clear c11
    obtain ⟨⟨qa, ra, xa⟩, A12, H⟩ := oB_ H
    (try dsimp only at H)
    have H' := A0_.mk H
    clear H
    have sa : 0 ≤ (aa : Int) := oD_
    have ta : aa < (l1.length : Int) := oD_
    obtain ⟨Na, Fa, ua⟩ := Kd.at_int HR1.out aa sa ta
    cases Fa
    (try replace ua := cT_ HB ua)
    replace sa := eq_true sa
    replace ta := eq_true ta
    try go_wp2
    have n0_ := A0_.mk (kD_ ca.out)
    have n1_ := A0_.mk (kD_ ba.out)
    have n2_ := A0_.mk (b1_ HB.out)
    clear ca
    clear ba
    clear HB
    have ca := n0_
    have ba := n1_
    have HB := n2_
    clear n0_ n1_ n2_
    have va : 0 ≤ ((rd l1 aa) : Int) := oD_
    have wa : (rd l1 aa) < (l0.length : Int) := oD_
    obtain ⟨la, Ga, ma, na, oa⟩ := at_T26 HR0.out (rd l1 aa) va wa
    have hw427_2 := oa
    have hw427_1 := na
    have hw427_0 := ma
    cases Ga
    (try replace ma := cT_ HB ma)
    (try replace na := cT_ HB na)
    (try replace oa := cT_ HB oa)
    replace va := eq_true va
    replace wa := eq_true wa
    refine start_ (n := 7) (S := fun w' => w'.cell? ⟨da, 0, none⟩ = some (.bool fa) ∧ w'.cell? ⟨da, 1, none⟩ = some (.string ga) ∧ w'.cell? ⟨da, 2, none⟩ = some (.string ha) ∧ w'.cell? (la.add (((rd l1 aa)).toNat * 3)) = some (.bool ((r26_ l0 (rd l1 aa)).f0)) ∧ w'.cell? ⟨(la.add (((rd l1 aa)).toNat * 3)).block, (la.add (((rd l1 aa)).toNat * 3)).off + 1, none⟩ = some (.string ((r26_ l0 (rd l1 aa)).f1)) ∧ w'.cell? ⟨(la.add (((rd l1 aa)).toNat * 3)).block, (la.add (((rd l1 aa)).toNat * 3)).off + 2, none⟩ = some (.string ((r26_ l0 (rd l1 aa)).f2))) (ds := [6]) #[false, false, false, false, false, false, false] kr_ rfl rfl ⟨(kc_ ba.out 0).trans rfl, (kc_ ba.out 1).trans rfl, (kc_ ba.out 2).trans rfl, (cT_ HB hw427_0), (cT_ HB hw427_1), (cT_ HB hw427_2)⟩ (fun hHeld => ?_)
    generalize wr.drew = w13 at ca ba HB ma na oa hHeld ⊢
    refine pu_ (i := 1) (N := some 16) (v := ?_) (a' := ?_) #[false, true, false, false, false, false, false] rfl rfl kr_ (fun _ _ _ h => h) (Or.inl ⟨by rfl, ?_⟩) ?_ ?_
    rotate_left
    ·intro w'
     go_simp
     with_reducible rfl
    rotate_left
    ·simp only [Act.put, s1_, s2_, s3_, i6_, i3_]
     rfl
    refine pu_ (i := 2) (N := some 17) (v := ?_) (a' := ?_) #[false, true, true, false, false, false, false] rfl rfl kr_ (fun _ _ _ h => h) (Or.inl ⟨by rfl, ?_⟩) ?_ ?_
    rotate_left
    ·intro w'
     go_simp
     with_reducible rfl
    rotate_left
    ·simp only [Act.put, s1_, s2_, s3_, i6_, i3_]
     rfl
    refine pu_ (i := 3) (N := some 18) (v := ?_) (a' := ?_) #[false, true, true, true, false, false, false] rfl rfl kr_ (fun _ _ _ h => h) (Or.inl ⟨by rfl, ?_⟩) ?_ ?_
    rotate_left
    ·intro w'
     go_simp
     with_reducible rfl
    rotate_left
    ·simp only [Act.put, s1_, s2_, s3_, i6_, i3_]
     rfl
    refine take_ (i := 0) (N := some 15) (v := ?_) (a' := ?_) #[true, true, true, true, false, false, false] rfl rfl kr_ (fun _ _ _ h => h) (Or.inl ⟨by rfl, ?_⟩) hHeld ?_ ?_
    rotate_left
    ·rintro w' ⟨s0, s1, s2, s3, s4, s5⟩
     go_simp
     with_reducible rfl
    rotate_left
    ·simp only [Act.put, s1_, s2_, s3_, i6_, i3_]
     rfl
    refine take_ (i := 4) (N := some 19) (v := ?_) (a' := ?_) #[true, true, true, true, true, false, false] rfl rfl kr_ (fun _ _ _ h => h) (Or.inl ⟨by rfl, ?_⟩) hHeld ?_ ?_
    rotate_left
    ·rintro w' ⟨s0, s1, s2, s3, s4, s5⟩
     go_simp
     with_reducible rfl
    rotate_left
    ·simp only [Act.put, s1_, s2_, s3_, i6_, i3_]
     rfl
    refine one_ (i := 5) (N := some 20) #[true, true, true, true, true, true, false] rfl rfl kr_ (by decide) (fun K hK => ?_)
    refine goes_ Tryd.func24 kr_ rfl #[.agg #[.bool fa, .string ga, .string ha], .agg #[.bool ((r26_ l0 (rd l1 aa)).f0), .string ((r26_ l0 (rd l1 aa)).f1), .string ((r26_ l0 (rd l1 aa)).f2)]] (by rfl) rfl rfl mp_ ?_
    with_reducible refine (q_Add.calls k1 fa ga ha ((r26_ l0 (rd l1 aa)).f0) ((r26_ l0 (rd l1 aa)).f1) ((r26_ l0 (rd l1 aa)).f2) qa ra xa _ A12.out).mono ?_
    rintro e w14 ⟨rfl, hb⟩
    refine ⟨_, rfl, ?_⟩
    have n0_ := A0_.mk (kB_ (g := ea) (o := .cells zC_ 26 (0, 0)) (xK_ ca.out) hb)
    have n1_ := A0_.mk (kB_ (g := da) (o := .cells #[.bool fa, .string ga, .string ha] 26 (0, 0)) (xK_ ba.out) hb)
    have n2_ := A0_.mk (bT_ (xB2_ HB ja pa) hb)
    clear ca
    clear ba
    clear HB
    have ca := n0_
    have ba := n1_
    have HB := n2_
    clear n0_ n1_ n2_
    (try clear hb)
    (try clear hb2)
    (try clear hk)
    (try clear hi)
    refine hK.out _ _ ⟨(kc_ ba.out 0).trans rfl, (kc_ ba.out 1).trans rfl, (kc_ ba.out 2).trans rfl, (cT_ HB hw427_0), (cT_ HB hw427_1), (cT_ HB hw427_2)⟩ (fun hHeld => ?_)
    clear hK K
    refine norm_ (a' := ?_) ?_ ?_
    rotate_left
    ·show Act.put _ (some 20) _ = _
     simp only [Act.put, s1_, s2_, s3_, i6_, i3_]
     rfl
    refine last_ (i := 6) (N := none) #[true, true, true, true, true, true, true] rfl rfl kr_ (by decide) (fun K hK => ?_)
    have Oa : w14.cell? ⟨da, 0, none⟩ = some (.bool fa) := (kc_ ba.out 0).trans rfl
    have hfs15 := kF_ ba.out 0
    have hns15_0 := ia.out
    have hms15_0 := ka.out
    have Pa : w14.cell? ⟨da, 1, none⟩ = some (.string ga) := (kc_ ba.out 1).trans rfl
    have hfs16 := kF_ ba.out 1
    have hns16_0 := ia.out
    have hms16_0 := ka.out
    have Qa : w14.cell? ⟨da, 2, none⟩ = some (.string ha) := (kc_ ba.out 2).trans rfl
    have hfs17 := kF_ ba.out 2
    have hns17_0 := ia.out
    have hms17_0 := ka.out
    refine skip_ (w1 := ?_) (by rfl) rfl ?_ ?_
    rotate_left
    ·go_simp
     rfl
    refine hK.out _ _ ?_
    clear hK K
    refine done_ kr_ ?_
    try go_wp2
    (try simp only [ap_])
    go_roundg k1
    case measure => have := HK1.out; omega
    case rel => exact ⟨(wrap64 (aa + 1)), (qa), (ra), (xa), (rS_), H', ⟨by have := HK1.out; omega⟩, ⟨by (with_reducible repeat (first | apply kN_ | apply kD_ | apply kA_)); refine bf_ ?_ ia.out _; (with_reducible repeat (first | apply kN_ | apply kD_ | apply kA_)); refine bf_ ?_ ia.out _; (with_reducible repeat (first | apply kN_ | apply kD_ | apply kA_)); refine bf_ ?_ ia.out _; (with_reducible repeat (first | apply kN_ | apply kD_ | apply kA_)); exact ca.out⟩, ⟨by (with_reducible repeat (first | apply kN_ | apply kD_ | apply kA_)); refine kP_ (cs := #[.bool qa, .string ra, .string ha]) ?_ 2 _ rfl; (with_reducible repeat (first | apply kN_ | apply kD_ | apply kA_)); refine kP_ (cs := #[.bool qa, .string ga, .string ha]) ?_ 1 _ rfl; (with_reducible repeat (first | apply kN_ | apply kD_ | apply kA_)); refine kP_ (cs := #[.bool fa, .string ga, .string ha]) ?_ 0 _ rfl; (with_reducible repeat (first | apply kN_ | apply kD_ | apply kA_)); exact ba.out⟩, ⟨xB2_ HB ja pa⟩⟩
   ·rw [if_neg c7] at H
    have Ea : decide (aa < (l1.length : Int)) = false := decide_eq_false c7
    clear c7
    simp only [Option.some.injEq, Prod.mk.injEq] at H
    obtain ⟨rfl, rfl, rfl⟩ := H
    have hnb18 := ka.out
    have hnc18 := ia.out
    have Ra : wr.cell? ⟨da, 0, none⟩ = some (.bool fa) := (kc_ ba.out 0).trans rfl
    have Sa : wr.cell? ⟨da, 1, none⟩ = some (.string ga) := (kc_ ba.out 1).trans rfl
    have Ta : wr.cell? ⟨da, 2, none⟩ = some (.string ha) := (kc_ ba.out 2).trans rfl
    have Ua := kF_ ba.out 0
    have Va := kF_ ba.out 1
    have Wa := kF_ ba.out 2
    have Xa : wr.cell? ⟨ea, 0, none⟩ = some (.bool false) := (kc_ ca.out 0).trans rfl
    have Ya : wr.cell? ⟨ea, 1, none⟩ = some (.string (⟨#[]⟩ : ByteArray)) := (kc_ ca.out 1).trans rfl
    have Za : wr.cell? ⟨ea, 2, none⟩ = some (.string (⟨#[]⟩ : ByteArray)) := (kc_ ca.out 2).trans rfl
    have ab := kF_ ca.out 0
    have bb := kF_ ca.out 1
    have cb := kF_ ca.out 2
    go_wp2
    refine bodyPost_ret (results_cell_row rfl _ _ ea 26 #[.bool fa, .string ga, .string ha] (0, 0) _ rfl (by (with_reducible repeat (first | apply kN_ | apply kD_ | apply kA_)); refine kP_ (cs := #[.bool fa, .string ga, .string (⟨#[]⟩ : ByteArray)]) ?_ 2 _ rfl; (with_reducible repeat (first | apply kN_ | apply kD_ | apply kA_)); refine kP_ (cs := #[.bool fa, .string (⟨#[]⟩ : ByteArray), .string (⟨#[]⟩ : ByteArray)]) ?_ 1 _ rfl; (with_reducible repeat (first | apply kN_ | apply kD_ | apply kA_)); refine kP_ (cs := zC_) ?_ 0 _ rfl; (with_reducible repeat (first | apply kN_ | apply kD_ | apply kA_)); exact ca.out) Tryd.underlying26 rfl kr_) rfl ?_
    exact ⟨rE_, xB2_ HB ja pa⟩
mutual
def so_Apply.l0 : Nat → List (S28) → Int → Int → List (S26) → Int → Int → Option ((List (S26)) × Int)
 | 0, _, _, _, _, _, _ => none
 | k + 1, x1, x2, x3, x11, x27, x28 => if x28 < x27 then (so_Apply.l1 k x1 x2 x3 x11 x28 x27 x28 x28 0) else (some (x11, 0))
def so_Apply.l1 : Nat → List (S28) → Int → Int → List (S26) → Int → Int → Int → Int → Int → Option ((List (S26)) × Int)
 | 0, _, _, _, _, _, _, _, _, _ => none
 | k + 1, x1, x2, x3, x11, x12, x27, x28, x31, x32 => if x32 < x31 then ((so_eligible.f k x1 x2 x3 x12 x32).bind fun t467 => ((so_eligible.f k x1 x2 x3 x32 x12).bind fun t470 => ((so_total.f k x11 t467).bind fun bt473 => ((so_total.f k x11 t470).bind fun bt476 => ((q_Min.f k bt473.1 bt473.2.1 bt473.2.2 bt476.1 bt476.2.1 bt476.2.2).bind fun bt479 => ((so_reduce.f k x11 t467 bt479.1 bt479.2.1 bt479.2.2).bind fun t483 => ((so_reduce.f k t483 t470 bt479.1 bt479.2.1 bt479.2.2).bind fun t484 => (so_Apply.l1 k x1 x2 x3 t484 x12 x27 x28 x31 (wrap64 (x32 + 1)))))))))) else (so_Apply.l0 k x1 x2 x3 x11 x27 (wrap64 (x28 + 1)))
end
def so_Apply.f (k : Nat) (a0 : Int) (l1 : List (S28)) (a2 : Int) (a3 : Int) : Option ((List (S26)) × Int) := (so_check.f k a0 l1 a2 a3).bind fun t463 => (if t463 = 0 then ((so_amounts.f k l1).bind fun t464 => (so_Apply.l0 k l1 a2 a3 t464 a0 0)) else (none))
theorem so_Apply.mono_l : ∀ k, (∀ y0 y1 y2 y3 y4 y5, LeO (so_Apply.l0 k y0 y1 y2 y3 y4 y5) (so_Apply.l0 (k + 1) y0 y1 y2 y3 y4 y5)) ∧ (∀ y0 y1 y2 y3 y4 y5 y6 y7 y8, LeO (so_Apply.l1 k y0 y1 y2 y3 y4 y5 y6 y7 y8) (so_Apply.l1 (k + 1) y0 y1 y2 y3 y4 y5 y6 y7 y8))
 | 0 => ⟨fun _ _ _ _ _ _ r h => by simp [so_Apply.l0] at h, fun _ _ _ _ _ _ _ _ _ r h => by simp [so_Apply.l1] at h⟩
 | k + 1 => by
  obtain ⟨ih0, ih1⟩ := so_Apply.mono_l k
  refine ⟨?_, ?_⟩
  ·intro y0 y1 y2 y3 y4 y5
   unfold so_Apply.l0
   repeat' first
   | (with_reducible first | exact ih0 _ _ _ _ _ _ | exact ih1 _ _ _ _ _ _ _ _ _ | exact q_Min.mono _ _ _ _ _ _ _ | exact so_amounts.mono _ _ | exact so_check.mono _ _ _ _ _ | exact so_eligible.mono _ _ _ _ _ _ | exact so_reduce.mono _ _ _ _ _ _ | exact so_total.mono _ _ _ | exact LeO.refl _ | exact LeO.none _ | refine LeO.ite ?_ ?_ | refine LeO.bind ?_ (fun _ => ?_))
  ·intro y0 y1 y2 y3 y4 y5 y6 y7 y8
   unfold so_Apply.l1
   repeat' first
   | (with_reducible first | exact ih0 _ _ _ _ _ _ | exact ih1 _ _ _ _ _ _ _ _ _ | exact q_Min.mono _ _ _ _ _ _ _ | exact so_amounts.mono _ _ | exact so_check.mono _ _ _ _ _ | exact so_eligible.mono _ _ _ _ _ _ | exact so_reduce.mono _ _ _ _ _ _ | exact so_total.mono _ _ _ | exact LeO.refl _ | exact LeO.none _ | refine LeO.ite ?_ ?_ | refine LeO.bind ?_ (fun _ => ?_))
theorem so_Apply.mono : ∀ a0 a1 a2 a3 k, LeO (so_Apply.f k a0 a1 a2 a3) (so_Apply.f (k + 1) a0 a1 a2 a3) := by
 intro a0 a1 a2 a3 k
 obtain ⟨ih0, ih1⟩ := so_Apply.mono_l k
 unfold so_Apply.f
 repeat' first
   | (with_reducible first | exact ih0 _ _ _ _ _ _ | exact ih1 _ _ _ _ _ _ _ _ _ | exact q_Min.mono _ _ _ _ _ _ _ | exact so_amounts.mono _ _ | exact so_check.mono _ _ _ _ _ | exact so_eligible.mono _ _ _ _ _ _ | exact so_reduce.mono _ _ _ _ _ _ | exact so_total.mono _ _ _ | exact LeO.refl _ | exact LeO.none _ | refine LeO.ite ?_ ?_ | refine LeO.bind ?_ (fun _ => ?_))
theorem so_Apply.calls (k : Nat) (a0 : Int) (A1 : Option Addr) (c1 : Nat) (l1 : List (S28)) (a2 : Int) (a3 : Int) (r1 : List (S26)) (r2 : Int) (w : World) (hr1 : Kd.C k28 w A1 l1.length l1) (hc1 : l1.length ≤ c1) (h : so_Apply.f k a0 l1 a2 a3 = some (r1, r2)) :
  Calls Tryd.prog 18 #[.int .i64 a0, .slice A1 l1.length c1, .int .i64 a2, .int .i64 a3] w fun e w' => ∃ v0_ : Value, e = .returned (.tuple #[v0_, .int .i64 r2]) ∧ Kd.R k26 26 w' w.heap.size (fun _ => True) v0_ r1 ∧ Below w.heap.size w w' := by
 have hu26 := Tryd.underlying26
 have HR1 := A0_.mk hr1
 have HC1 := A0_.mk hc1
 clear hr1 hc1
 have HB := A0_.mk (Below.refl w.heap.size w)
 have H := h
 unfold so_Apply.f at H
 clear h
 obtain ⟨pa, A5, H⟩ := oB_ H
 (try dsimp only at H)
 by_cases c6 : pa = 0
 ·rw [if_pos c6] at H
  have wa : (pa == 0) = true := beq_iff_eq.mpr c6
  have xa : (pa != 0) = false := bne_eq_false_iff_eq.mpr c6
  clear c6
  obtain ⟨Ea, A7, H⟩ := oB_ H
  (try dsimp only at H)
  have H' := A0_.mk H
  clear H
  go_enter Tryd.func18, Tryd.ntmps18
  go_wp2_with (first | ((with_reducible refine gC_ (f := 36) rfl ?_); refine gL_ (some 21) rfl rfl Tryd.func36 kr_ rfl #[.int .i64 a0, .slice A1 l1.length c1, .int .i64 a2, .int .i64 a3] rfl mp_ ?_; (with_reducible refine (so_check.calls k a0 _ _ l1 a2 a3 pa _ ?side1 ?side2 A5.out).mono ?_); (case side1 => repeat (first | exact HR1.out | (with_reducible refine Kd.C_alloc ?_ _) | (with_reducible refine Kd.C_drewN ?_ _) | (with_reducible refine Kd.C_drew ?_))); (case side2 => exact HC1.out); rintro e w8 ⟨rfl, hb⟩; refine ⟨_, rfl, ?_⟩; have n0_ := A0_.mk (bT_ (xB_ HB) hb); clear HB; have HB := n0_; clear n0_; (try clear hb); (try clear hb2); (try clear hk); (try clear hi)) | ((with_reducible refine gC_ (f := 37) rfl ?_); refine gL_ (some 26) rfl rfl Tryd.func37 kr_ rfl #[.slice A1 l1.length c1] rfl mp_ ?_; (with_reducible refine (so_amounts.calls k _ _ l1 Ea _ ?side1 ?side2 A7.out).mono ?_); (case side1 => repeat (first | exact (Kd.C_below HR1.out HB.out) | (with_reducible refine Kd.C_alloc ?_ _) | (with_reducible refine Kd.C_drewN ?_ _) | (with_reducible refine Kd.C_drew ?_))); (case side2 => exact HC1.out); rintro e w9 ⟨Fa, rfl, ho0, hb⟩; refine ⟨_, rfl, ?_⟩; have n0_ := A0_.mk (Kd.rL_ ho0 (bZ_ (xB_ HB))); have n1_ := A0_.mk (bT_ (xB_ HB) hb); clear HB; have Ja := n0_; have HB := n1_; clear n0_ n1_; (try clear hb); (try clear hb2); (try clear hk); (try clear hi); (try clear ho0)))
  go_loopg [28] k (fun kq v28 w' => ∃ (ua : List (S26)) (fa : Int), v28 = .int .i64 fa ∧ A0_ (so_Apply.l0 kq l1 a2 a3 ua a0 fa = some (r1, r2)) ∧ A0_ (kq ≤ k) ∧ A0_ (Kd.R k26 26 w' w.heap.size (fun _ => True) Fa ua) ∧ A0_ (Below w.heap.size w w'))
  case atStart => exact ⟨(Ea), (0), (rS_), H', ⟨Nat.le_refl _⟩, ⟨by (with_reducible repeat (first | apply Kd.R_alloc | apply Kd.rN_ | apply Kd.rD_)); exact Ja.out⟩, ⟨xB_ HB⟩⟩
  case round =>
   clear H'
   try clear c1
   try clear p2
   try clear c3
   try clear c6
   try clear wa
   try clear xa
   obtain ⟨ua, fa, rfl, HA, HK1, aa, HB⟩ := hrel
   cases gk with
   | zero => exact absurd HA.out (by simp [so_Apply.l0])
   | succ k1 =>
    have H := HA.out
    clear HA
    simp only [so_Apply.l0] at H
    by_cases c10 : fa < a0
    ·rw [if_pos c10] at H
     have Ga : decide (fa < a0) = true := decide_eq_true c10
     clear c10
     have H' := A0_.mk H
     clear H
     go_wp2
     go_loopg [32] k1 (fun kq v32 w' => ∃ (ga : List (S26)) (ka : Int), v32 = .int .i64 ka ∧ A0_ (so_Apply.l1 kq l1 a2 a3 ga fa a0 fa fa ka = some (r1, r2)) ∧ A0_ (kq ≤ k1) ∧ A0_ (Kd.R k26 26 w' w.heap.size (fun _ => True) Fa ga) ∧ A0_ (Below w.heap.size w w'))
     case atStart => exact ⟨(ua), (0), (rS_), H', ⟨Nat.le_refl _⟩, ⟨by (with_reducible repeat (first | apply Kd.R_alloc | apply Kd.rN_ | apply Kd.rD_)); exact aa.out⟩, ⟨xB_ HB⟩⟩
     case round =>
      clear H'
      try clear c1
      try clear p2
      try clear c3
      try clear c6
      try clear wa
      try clear xa
      try clear c10
      try clear Ga
      try clear p2
      obtain ⟨ga, ka, rfl, HA, HK2, aa, HB⟩ := hrel
      cases gk with
      | zero => exact absurd HA.out (by simp [so_Apply.l1])
      | succ k2 =>
       have H := HA.out
       clear HA
       simp only [so_Apply.l1] at H
       by_cases c11 : ka < fa
       ·rw [if_pos c11] at H
        have Ka : decide (ka < fa) = true := decide_eq_true c11
        clear c11
        obtain ⟨la, A12, H⟩ := oB_ H
        (try dsimp only at H)
        obtain ⟨ma, A13, H⟩ := oB_ H
        (try dsimp only at H)
        obtain ⟨⟨ya, za, Aa⟩, A14, H⟩ := oB_ H
        (try dsimp only at H)
        obtain ⟨⟨Ba, Ca, Da⟩, A15, H⟩ := oB_ H
        (try dsimp only at H)
        obtain ⟨⟨ha, ia, ja⟩, A16, H⟩ := oB_ H
        (try dsimp only at H)
        obtain ⟨Ha, A17, H⟩ := oB_ H
        (try dsimp only at H)
        obtain ⟨Ia, A18, H⟩ := oB_ H
        (try dsimp only at H)
        have H' := A0_.mk H
        clear H
        go_wp2_with (first | ((with_reducible refine gC_ (f := 38) rfl ?_); refine gL_ (some 40) rfl rfl Tryd.func38 kr_ rfl #[.slice A1 l1.length c1, .int .i64 a2, .int .i64 a3, .int .i64 fa, .int .i64 ka] rfl mp_ ?_; (with_reducible refine (so_eligible.calls k2 _ _ l1 a2 a3 fa ka la _ ?side1 ?side2 A12.out).mono ?_); (case side1 => repeat (first | exact (Kd.C_below HR1.out HB.out) | (with_reducible refine Kd.C_alloc ?_ _) | (with_reducible refine Kd.C_drewN ?_ _) | (with_reducible refine Kd.C_drew ?_))); (case side2 => exact HC1.out); rintro e w19 ⟨Oa, rfl, ho0, hb⟩; refine ⟨_, rfl, ?_⟩; have n0_ := A0_.mk (Kd.rB_ (xR_ aa.out) hb); have n1_ := A0_.mk (Kd.rL_ ho0 (bZ_ (xB_ HB))); have n2_ := A0_.mk (bT_ (xB_ HB) hb); clear aa HB; have aa := n0_; have ba := n1_; have HB := n2_; clear n0_ n1_ n2_; (try clear hb); (try clear hb2); (try clear hk); (try clear hi); (try clear ho0)) | ((with_reducible refine gC_ (f := 38) rfl ?_); refine gL_ (some 46) rfl rfl Tryd.func38 kr_ rfl #[.slice A1 l1.length c1, .int .i64 a2, .int .i64 a3, .int .i64 ka, .int .i64 fa] rfl mp_ ?_; (with_reducible refine (so_eligible.calls k2 _ _ l1 a2 a3 ka fa ma _ ?side1 ?side2 A13.out).mono ?_); (case side1 => repeat (first | exact (Kd.C_below HR1.out HB.out) | (with_reducible refine Kd.C_alloc ?_ _) | (with_reducible refine Kd.C_drewN ?_ _) | (with_reducible refine Kd.C_drew ?_))); (case side2 => exact HC1.out); rintro e w20 ⟨Pa, rfl, ho0, hb⟩; refine ⟨_, rfl, ?_⟩; have n0_ := A0_.mk (Kd.rB_ (xR_ aa.out) hb); have n1_ := A0_.mk (Kd.R_elder' (xR_ ba.out) (Kd.R_base ho0) hb); have n2_ := A0_.mk (Kd.rL_ (Kd.R_new' ho0 (Kd.R_lt (xR_ ba.out))) (bZ_ (xB_ HB))); have n3_ := A0_.mk (bT_ (xB_ HB) hb); clear aa ba HB; have aa := n0_; have ba := n1_; have ea := n2_; have HB := n3_; clear n0_ n1_ n2_ n3_; (try clear hb); (try clear hb2); (try clear hk); (try clear hi); (try clear ho0); obtain ⟨na, oa, La⟩ := Kd.rS_' aa.out; subst La; obtain ⟨qa, ra, Ma⟩ := Kd.rS_' ba.out; subst Ma) | ((with_reducible refine gC_ (f := 40) rfl ?_); refine gL_ (some 49) rfl rfl Tryd.func40 kr_ rfl #[.slice na ga.length oa, .slice qa la.length ra] rfl mp_ ?_; (with_reducible refine (so_total.calls k2 _ _ ga _ _ la ya za Aa _ ?side1 ?side2 ?side3 ?side4 A14.out).mono ?_); (case side1 => repeat (first | exact (Kd.rr_' aa.out).2.2 | (with_reducible refine Kd.C_alloc ?_ _) | (with_reducible refine Kd.C_drewN ?_ _) | (with_reducible refine Kd.C_drew ?_))); (case side2 => exact (Kd.rr_' aa.out).2.1); (case side3 => repeat (first | exact (Kd.rr_' ba.out).2.2 | (with_reducible refine Kd.C_alloc ?_ _) | (with_reducible refine Kd.C_drewN ?_ _) | (with_reducible refine Kd.C_drew ?_))); (case side4 => exact (Kd.rr_' ba.out).2.1); rintro e w23 ⟨rfl, hb⟩; refine ⟨_, rfl, ?_⟩; have n0_ := A0_.mk (Kd.rB_ (xR_ aa.out) hb); have n1_ := A0_.mk (Kd.rB_ (xR_ ba.out) hb); have n2_ := A0_.mk (Kd.rB_ (xR_ ea.out) hb); have n3_ := A0_.mk (bT_ (xB_ HB) hb); clear aa ba ea HB; have aa := n0_; have ba := n1_; have ea := n2_; have HB := n3_; clear n0_ n1_ n2_ n3_; (try clear hb); (try clear hb2); (try clear hk); (try clear hi); obtain ⟨sa, ta, Na⟩ := Kd.rS_' ea.out; subst Na) | ((with_reducible refine gC_ (f := 40) rfl ?_); refine gL_ (some 52) rfl rfl Tryd.func40 kr_ rfl #[.slice na ga.length oa, .slice sa ma.length ta] rfl mp_ ?_; (with_reducible refine (so_total.calls k2 _ _ ga _ _ ma Ba Ca Da _ ?side1 ?side2 ?side3 ?side4 A15.out).mono ?_); (case side1 => repeat (first | exact (Kd.rr_' aa.out).2.2 | (with_reducible refine Kd.C_alloc ?_ _) | (with_reducible refine Kd.C_drewN ?_ _) | (with_reducible refine Kd.C_drew ?_))); (case side2 => exact (Kd.rr_' aa.out).2.1); (case side3 => repeat (first | exact (Kd.rr_' ea.out).2.2 | (with_reducible refine Kd.C_alloc ?_ _) | (with_reducible refine Kd.C_drewN ?_ _) | (with_reducible refine Kd.C_drew ?_))); (case side4 => exact (Kd.rr_' ea.out).2.1); rintro e w25 ⟨rfl, hb⟩; refine ⟨_, rfl, ?_⟩; have n0_ := A0_.mk (Kd.rB_ (xR_ aa.out) hb); have n1_ := A0_.mk (Kd.rB_ (xR_ ba.out) hb); have n2_ := A0_.mk (Kd.rB_ (xR_ ea.out) hb); have n3_ := A0_.mk (bT_ (xB_ HB) hb); clear aa ba ea HB; have aa := n0_; have ba := n1_; have ea := n2_; have HB := n3_; clear n0_ n1_ n2_ n3_; (try clear hb); (try clear hb2); (try clear hk); (try clear hi)) | ((with_reducible refine gC_ (f := 39) rfl ?_); refine gL_ (some 53) rfl rfl Tryd.func39 kr_ rfl #[.agg #[.bool ya, .string za, .string Aa], .agg #[.bool Ba, .string Ca, .string Da]] rfl mp_ ?_; (with_reducible refine (q_Min.calls k2 ya za Aa Ba Ca Da ha ia ja _ A16.out).mono ?_); rintro e w26 ⟨rfl, hb⟩; refine ⟨_, rfl, ?_⟩; have n0_ := A0_.mk (Kd.rB_ (xR_ aa.out) hb); have n1_ := A0_.mk (Kd.rB_ (xR_ ba.out) hb); have n2_ := A0_.mk (Kd.rB_ (xR_ ea.out) hb); have n3_ := A0_.mk (bT_ (xB_ HB) hb); clear aa ba ea HB; have aa := n0_; have ba := n1_; have ea := n2_; have HB := n3_; clear n0_ n1_ n2_ n3_; (try clear hb); (try clear hb2); (try clear hk); (try clear hi)) | ((with_reducible refine gD_ (N := 16) rfl ?_); refine bE_ ?hg (N := 16) ?hd (cs := zC_) (t := 26) ?hr ?_; (case hd => rfl); (case hg => rfl); (case hr => first | (go_simp; done) | (go_simp; rfl)); intro da hg w27 hbox hb; have n0_ := A0_.mk (Kd.rB_ (Kd.R_elderB (xR_ aa.out) da (Nat.le_of_eq hg.symm)) hb); have n1_ := A0_.mk (Kd.rB_ (xR_ ba.out) hb); have n2_ := A0_.mk (Kd.rB_ (xR_ ea.out) hb); have n3_ := A0_.mk (bT_ (xB_ HB) hb); have n4_ := A0_.mk (hbox); have n5_ := A0_.mk ((by rw [hg]; exact (bZ_ (xB_ HB)) : w.heap.size ≤ da)); have n6_ := A0_.mk ((by rw [hg]; exact (bZ_ (xB_ HB)) : w.heap.size ≤ da)); clear aa ba ea HB; have aa := n0_; have ba := n1_; have ea := n2_; have HB := n3_; have ca := n4_; have Qa := n5_; have va := n6_; clear n0_ n1_ n2_ n3_ n4_ n5_ n6_; clear hb hbox hg; have Ra : w27.cell? ⟨da, 0, none⟩ = some (.bool false) := (kc_ ca.out 0).trans rfl; have Sa : w27.cell? ⟨da, 1, none⟩ = some (.string (⟨#[]⟩ : ByteArray)) := (kc_ ca.out 1).trans rfl; have Ta : w27.cell? ⟨da, 2, none⟩ = some (.string (⟨#[]⟩ : ByteArray)) := (kc_ ca.out 2).trans rfl; have Ua := kF_ ca.out 0; have Va := kF_ ca.out 1; have Wa := kF_ ca.out 2) | ((with_reducible refine gate_store (t := 26) (p := 16) rfl ?_); refine store_event (t := 26) (p := 16) (v := ?vo_w29) (w1 := (((w27.setCell ⟨da, 0, none⟩ (.bool ha)).setCell ⟨da, 1, none⟩ (.string ia)).setCell ⟨da, 2, none⟩ (.string ja))) ?hg ?ho ?hn ?hr ?_; (case ho => rfl); (case hg => rfl); (case hn => rfl); (case hr => first | (go_simp; done) | (go_simp; rfl)); intro w29 hw; have n0_ : A0_ (Kd.R k26 26 w29 w.heap.size (fun k_ => k_ ≠ da) (.slice na ga.length oa) ga) := ⟨(by rw [hw]; exact (by (with_reducible repeat (first | apply Kd.R_alloc | apply Kd.rN_ | apply Kd.rD_)); exact Kd.rM_ (Kd.rF_ (p := ⟨da, 2, none⟩) (Kd.rF_ (p := ⟨da, 1, none⟩) (Kd.rF_ (p := ⟨da, 0, none⟩) (Kd.rM_ aa.out (fun k_ hk => (⟨hk, hk.2⟩ : _ ∧ k_ ≠ da))) (fun _ hk => hk.2) (.bool ha)) (fun _ hk => hk.2) (.string ia)) (fun _ hk => hk.2) (.string ja)) (fun _ hk => hk.1.2)))⟩; have n1_ : A0_ (Kd.R (Kd.int .i64) 3 w29 w.heap.size (fun k_ => some k_ ≠ (.slice sa ma.length ta : Value).ownBlock) (.slice qa la.length ra) la) := ⟨(by rw [hw]; exact (by (with_reducible repeat (first | apply Kd.R_alloc | apply Kd.rN_ | apply Kd.rD_)); exact Kd.rM_ (Kd.rF_ (p := ⟨da, 2, none⟩) (Kd.rF_ (p := ⟨da, 1, none⟩) (Kd.rF_ (p := ⟨da, 0, none⟩) (Kd.R_types ba.out ca.out (by decide)) (fun _ hk => hk.2) (.bool ha)) (fun _ hk => hk.2) (.string ia)) (fun _ hk => hk.2) (.string ja)) (fun _ hk => hk.1.2)))⟩; have n2_ : A0_ (Kd.R (Kd.int .i64) 3 w29 w.heap.size (fun k_ => some k_ ≠ (.slice qa la.length ra : Value).ownBlock) (.slice sa ma.length ta) ma) := ⟨(by rw [hw]; exact (by (with_reducible repeat (first | apply Kd.R_alloc | apply Kd.rN_ | apply Kd.rD_)); exact Kd.rM_ (Kd.rF_ (p := ⟨da, 2, none⟩) (Kd.rF_ (p := ⟨da, 1, none⟩) (Kd.rF_ (p := ⟨da, 0, none⟩) (Kd.R_types ea.out ca.out (by decide)) (fun _ hk => hk.2) (.bool ha)) (fun _ hk => hk.2) (.string ia)) (fun _ hk => hk.2) (.string ja)) (fun _ hk => hk.1.2)))⟩; have n3_ : A0_ (w29.heap[da]? = some (.cells #[.bool ha, .string ia, .string ja] 26 (0, 0))) := ⟨(by rw [hw]; exact (by (with_reducible repeat (first | apply kN_ | apply kD_ | apply kA_)); refine kP_ (cs := #[.bool ha, .string ia, .string (⟨#[]⟩ : ByteArray)]) ?_ 2 _ rfl; (with_reducible repeat (first | apply kN_ | apply kD_ | apply kA_)); refine kP_ (cs := #[.bool ha, .string (⟨#[]⟩ : ByteArray), .string (⟨#[]⟩ : ByteArray)]) ?_ 1 _ rfl; (with_reducible repeat (first | apply kN_ | apply kD_ | apply kA_)); refine kP_ (cs := zC_) ?_ 0 _ rfl; (with_reducible repeat (first | apply kN_ | apply kD_ | apply kA_)); exact ca.out))⟩; have n4_ : A0_ (Below w.heap.size w w29) := ⟨(by rw [hw]; exact (xB1_ HB va))⟩; clear hw aa ba ea ca HB; have aa := n0_; have ba := n1_; have ea := n2_; have ca := n3_; have HB := n4_; clear n0_ n1_ n2_ n3_ n4_; have Xa : w29.cell? ⟨da, 0, none⟩ = some (.bool ha) := (kc_ ca.out 0).trans rfl; have Ya : w29.cell? ⟨da, 1, none⟩ = some (.string ia) := (kc_ ca.out 1).trans rfl; have Za : w29.cell? ⟨da, 2, none⟩ = some (.string ja) := (kc_ ca.out 2).trans rfl; have ab := kF_ ca.out 0; have bb := kF_ ca.out 1; have cb := kF_ ca.out 2) | ((with_reducible refine gC_ (f := 41) rfl ?_); refine gL_ (some 57) rfl rfl Tryd.func41 kr_ rfl #[.slice na ga.length oa, .slice qa la.length ra, .agg #[.bool ha, .string ia, .string ja]] rfl mp_ ?_; (with_reducible refine (so_reduce.calls k2 (fun k_ => some k_ = (.slice na ga.length oa : Value).ownBlock) (.slice na ga.length oa) ga _ _ la ha ia ja Ha w _ ?side1 ?side2 ?side3 ?side4 A17.out).mono ?_); (case side1 => repeat (first | (with_reducible first | exact HB.out | apply bA_ | apply pB_ | apply b1_ | refine bS_ ?_ va.out) | exact HB.out)); (case side2 => exact Kd.R_tight rfl aa.out); (case side3 => exact Kd.C_kept_own ((Kd.R_apart' ba.out (Kd.R_typed aa.out) (by decide))) (fun k_ hk_ hs_ => (hk_.2) hs_)); (case side4 => exact (Kd.rr_' ba.out).2.1); rintro e w31 ⟨rfl, hy0, hb, hkp⟩; refine ⟨_, rfl, ?_⟩; have n0_ := A0_.mk (Kd.R_reok rfl hy0 (fun k_ e_ => aa.out.1 k_ e_)); have n1_ := A0_.mk (Kd.rM_ (ok' := fun k_ => some k_ ≠ (.slice sa ma.length ta : Value).ownBlock) (Kd.R_keptB ((Kd.R_apart' ba.out (Kd.R_typed aa.out) (by decide))) hkp (fun k_ hk_ hs_ => (hk_.2) hs_)) (fun k_ hk_ => hk_.1.1)); have n2_ := A0_.mk (Kd.rM_ (ok' := fun k_ => some k_ ≠ (.slice qa la.length ra : Value).ownBlock) (Kd.R_keptB ((Kd.R_apart' ea.out (Kd.R_typed aa.out) (by decide))) hkp (fun k_ hk_ hs_ => (hk_.2) hs_)) (fun k_ hk_ => hk_.1.1)); have n3_ := A0_.mk (blk_kept (xK_ ca.out) hkp (fun hs_ => (fun e_ => (Kd.R_away aa.out (fun _ hk => hk)) e_) hs_)); have n4_ := A0_.mk (hb); clear aa ba ea ca HB; have aa := n0_; have ba := n1_; have ea := n2_; have ca := n3_; have HB := n4_; clear n0_ n1_ n2_ n3_ n4_; (try clear hb); (try clear hkp); (try clear hy0); have db : w31.cell? ⟨da, 0, none⟩ = some (.bool ha) := (kc_ ca.out 0).trans rfl; have eb : w31.cell? ⟨da, 1, none⟩ = some (.string ia) := (kc_ ca.out 1).trans rfl; have fb : w31.cell? ⟨da, 2, none⟩ = some (.string ja) := (kc_ ca.out 2).trans rfl; have gb := kF_ ca.out 0; have ib := kF_ ca.out 1; have jb := kF_ ca.out 2) | ((with_reducible refine gC_ (f := 41) rfl ?_); refine gL_ (some 61) rfl rfl Tryd.func41 kr_ rfl #[.slice na ga.length oa, .slice sa ma.length ta, .agg #[.bool ha, .string ia, .string ja]] rfl mp_ ?_; (with_reducible refine (so_reduce.calls k2 (fun k_ => some k_ = (.slice na ga.length oa : Value).ownBlock) (.slice na ga.length oa) Ha _ _ ma ha ia ja Ia w _ ?side1 ?side2 ?side3 ?side4 A18.out).mono ?_); (case side1 => repeat (first | (with_reducible first | exact HB.out | apply bA_ | apply pB_ | apply b1_ | refine bS_ ?_ va.out) | exact HB.out)); (case side2 => exact Kd.R_tight rfl aa.out); (case side3 => exact Kd.C_kept_own ((Kd.R_apart' ea.out (Kd.R_typed aa.out) (by decide))) (fun k_ hk_ hs_ => (hk_.2) hs_)); (case side4 => exact (Kd.rr_' ea.out).2.1); rintro e w33 ⟨rfl, hy0, hb, hkp⟩; refine ⟨_, rfl, ?_⟩; have n0_ := A0_.mk (Kd.R_reok rfl hy0 (fun k_ e_ => aa.out.1 k_ e_)); have n1_ := A0_.mk (Kd.rM_ (ok' := fun k_ => some k_ ≠ (.slice sa ma.length ta : Value).ownBlock) (Kd.R_keptB ((Kd.R_apart' ba.out (Kd.R_typed aa.out) (by decide))) hkp (fun k_ hk_ hs_ => (hk_.2) hs_)) (fun k_ hk_ => hk_.1.1)); have n2_ := A0_.mk (Kd.rM_ (ok' := fun k_ => some k_ ≠ (.slice qa la.length ra : Value).ownBlock) (Kd.R_keptB ((Kd.R_apart' ea.out (Kd.R_typed aa.out) (by decide))) hkp (fun k_ hk_ hs_ => (hk_.2) hs_)) (fun k_ hk_ => hk_.1.1)); have n3_ := A0_.mk (blk_kept (xK_ ca.out) hkp (fun hs_ => (fun e_ => (Kd.R_away aa.out (fun _ hk => hk)) e_) hs_)); have n4_ := A0_.mk (hb); clear aa ba ea ca HB; have aa := n0_; have ba := n1_; have ea := n2_; have ca := n3_; have HB := n4_; clear n0_ n1_ n2_ n3_ n4_; (try clear hb); (try clear hkp); (try clear hy0)))
        (try simp only [ap_])
        go_roundg k2
        case measure => have := HK1.out; have := HK2.out; omega
        case rel => exact ⟨(Ia), (wrap64 (ka + 1)), (rS_), H', ⟨by have := HK1.out; have := HK2.out; omega⟩, ⟨by (with_reducible repeat (first | apply Kd.R_alloc | apply Kd.rN_ | apply Kd.rD_)); exact Kd.rM_ aa.out (fun _ hk => trivial)⟩, ⟨xB1_ HB va⟩⟩
       ·rw [if_neg c11] at H
        have Ka : decide (ka < fa) = false := decide_eq_false c11
        clear c11
        have H' := A0_.mk H
        clear H
        go_wp2
        (try simp only [ap_])
        go_roundg k2
        case measure => have := HK1.out; have := HK2.out; omega
        case rel => exact ⟨(ga), (wrap64 (fa + 1)), (rS_), H', ⟨by have := HK1.out; have := HK2.out; omega⟩, ⟨by (with_reducible repeat (first | apply Kd.R_alloc | apply Kd.rN_ | apply Kd.rD_)); exact aa.out⟩, ⟨xB_ HB⟩⟩
    ·rw [if_neg c10] at H
     have Ga : decide (fa < a0) = false := decide_eq_false c10
     clear c10
     simp only [Option.some.injEq, Prod.mk.injEq] at H
     obtain ⟨rfl, rfl⟩ := H
     go_wp2
     go_ret2
     exact ⟨_, rE_, by (with_reducible repeat (first | apply Kd.R_alloc | apply Kd.rN_ | apply Kd.rD_)); exact aa.out, xB_ HB⟩
 ·rw [if_neg c6] at H
  have wa : (pa == 0) = false := beq_eq_false_iff_ne.mpr c6
  have xa : (pa != 0) = true := bne_iff_ne.mpr c6
  exact absurd H (by simp)
end C
end Go.Proofs.YtnegkpnhjgimcaaDoor
end
section
namespace Go.Proofs.YtnegkpnhjgimcaaDoor
namespace C
open Go.RowKit Go.PrWords Go.PrLast Go.PrMore
attribute [local go_sem] max2_int min2_int max_two min_two max_three min_three max_four min_four
set_option linter.unusedVariables false
set_option linter.unusedSimpArgs false
theorem eqA26 (d : Nat) (w : World) (x0 y0 : Bool) (x1 y1 : ByteArray) (x2 y2 : ByteArray) :
    (Op.equalIn (d + 2) 26 (.agg #[.bool x0, .string x1, .string x2]) (.agg #[.bool y0, .string y1, .string y2])).run Tryd.prog w = .ok (x0 == y0 && (x1.toList == y1.toList && (x2.toList == y2.toList))) w := by
  refine eqA_of Tryd.underlying26 (by kernel_rfl) ?_
  refine eqf_cons (by rfl) (by go_simp; rfl) (by go_simp; rfl) (by go_simp) ?_
  refine eqf_cons (by rfl) (by go_simp; rfl) (by go_simp; rfl) (by go_simp) ?_
  exact eqf_last (by rfl) (by go_simp; rfl) (by go_simp; rfl) (by go_simp)
end C
end Go.Proofs.YtnegkpnhjgimcaaDoor
end
section
namespace Go.Proofs.YtnegkpnhjgimcaaDoor
namespace C
set_option maxHeartbeats 8000000
set_option maxRecDepth 100000
open Go.RowKit Go.PrWords Go.PrLast Go.PrMore
attribute [local go_sem] max2_int min2_int max_two min_two max_three min_three max_four min_four
set_option linter.unusedVariables false
set_option linter.unusedSimpArgs false
attribute [local go_sem high] eqA26
def l14_awake.f (k : Nat)  : Option (Bool) := (q_Int.f k 30).bind fun bt496 => ((q_Int.f k 20).bind fun bt499 => ((q_Int.f k 25).bind fun bt502 => ((so_Apply.f k 2 (([(⟨0, 1, (⟨bt496.1, bt496.2.1, bt496.2.2⟩ : S26), 5, 5, false⟩ : S28), (⟨0, 1, (⟨bt499.1, bt499.2.1, bt499.2.2⟩ : S26), 3, 3, false⟩ : S28), (⟨1, 0, (⟨bt502.1, bt502.2.1, bt502.2.2⟩ : S26), 9, 9, false⟩ : S28)] : List (S28))) 100 10).bind fun bt508 => ((so_Eligible.f 0 0 false (⟨#[]⟩ : ByteArray) (⟨#[]⟩ : ByteArray) 50 95 false 100 10).bind fun t512 => (if bt508.2 = 0 then (if (bt508.1.length : Int) = 3 then (if 0 < (bt508.1.length : Int) then ((q_Int.f k 25).bind fun bt514 => (if (((r26_ bt508.1 0).f0) == bt514.1 && ((((r26_ bt508.1 0).f1).toList) == bt514.2.1.toList && ((((r26_ bt508.1 0).f2).toList) == bt514.2.2.toList))) = true then (if 1 < (bt508.1.length : Int) then ((q_Int.f k 0).bind fun bt518 => (if (((r26_ bt508.1 1).f0) == bt518.1 && ((((r26_ bt508.1 1).f1).toList) == bt518.2.1.toList && ((((r26_ bt508.1 1).f2).toList) == bt518.2.2.toList))) = true then (if 2 < (bt508.1.length : Int) then ((q_Int.f k 0).bind fun bt522 => (if (((r26_ bt508.1 2).f0) == bt522.1 && ((((r26_ bt508.1 2).f1).toList) == bt522.2.1.toList && ((((r26_ bt508.1 2).f2).toList) == bt522.2.2.toList))) = true then (some (!t512)) else (none))) else (none)) else (none))) else (none)) else (none))) else (none)) else (none)) else (none))))))
theorem l14_awake.mono : ∀ k, LeO (l14_awake.f k ) (l14_awake.f (k + 1) ) := by
 intro  k
 unfold l14_awake.f
 repeat' first
   | (with_reducible first | exact q_Int.mono _ _ | exact so_Apply.mono _ _ _ _ _ | exact LeO.refl _ | exact LeO.none _ | refine LeO.ite ?_ ?_ | refine LeO.bind ?_ (fun _ => ?_))
def l14_awake.T4 : Bool × List (List Nat × List Nat) := (true, [([], []), ([0], [0]), ([1], [1]), ([2], [2]), ([3, 2], [2, 3]), ([4, 2], [2, 4]), ([2, 5], [2, 5]), ([6, 2], [6]), ([7], [7]), ([8, 7], [7, 8]), ([9, 7], [7, 9]), ([7, 7], [7]), ([10, 11, 7], [7, 10, 11]), ([7, 12], [7, 12]), ([13, 11], [13]), ([14], [14]), ([15, 14], [14, 15]), ([16, 14], [14, 16]), ([14, 14], [14]), ([17, 18, 14], [14, 17, 18]), ([14, 19], [14, 19]), ([20, 18], [20]), ([21], [21]), ([22, 21], [21, 22]), ([23, 21], [21, 23]), ([21, 21], [21]), ([24, 25, 21], [21, 24, 25]), ([21, 26], [21, 26]), ([27, 25], [27]), ([28], [28]), ([29, 28], [28, 29]), ([28, 30], [28, 30]), ([31, 28, 0, 1, 2, 3, 4, 5, 6, 7, 8, 9, 10, 11, 12, 13, 14, 15, 16, 17, 18, 19, 20, 21, 22, 23, 24, 25, 26, 27, 28, 29, 30, 31], [31])])
def l14_awake.B4 : List Nat := [0, 1, 3, 7, 15, 31, 63, 127, 255, 511, 1023, 255, 4095, 8191, 16383, 32767, 65535, 131071, 32767, 524287, 1048575, 2097151, 4194303, 8388607, 16777215, 4194303, 67108863, 134217727, 268435455, 536870911, 1073741823, 2147483647, 4294967295]
theorem l14_awake.tab4 : rtab .any (opsOf Tryd.f12 4) = l14_awake.T4 := by kernel_rfl
theorem l14_awake.bits4 : waitsOk l14_awake.T4.2 l14_awake.B4 = true := by kernel_rfl
theorem l14_awake.calls (k : Nat)  (r : Bool) (w : World) (h : l14_awake.f k  = some r) :
  Calls Tryd.prog 12 #[] w fun e w' => e = .returned (.bool r) ∧ Below w.heap.size w w' := by
 have hu28 := Tryd.underlying28
 have hu26 := Tryd.underlying26
 have HB := A0_.mk (Below.refl w.heap.size w)
 have H := h
 unfold l14_awake.f at H
 clear h
 obtain ⟨⟨fa, ga, ha⟩, A1, H⟩ := oB_ H
 (try dsimp only at H)
 obtain ⟨⟨ia, ja, ka⟩, A2, H⟩ := oB_ H
 (try dsimp only at H)
 obtain ⟨⟨la, ma, na⟩, A3, H⟩ := oB_ H
 (try dsimp only at H)
 obtain ⟨Ja, oa⟩ : ∃ y_ : List (S28), y_ = (([(⟨0, 1, (⟨fa, ga, ha⟩ : S26), 5, 5, false⟩ : S28), (⟨0, 1, (⟨ia, ja, ka⟩ : S26), 3, 3, false⟩ : S28), (⟨1, 0, (⟨la, ma, na⟩ : S26), 9, 9, false⟩ : S28)] : List (S28))) := ⟨_, rfl⟩
 replace H : ((so_Apply.f k 2 Ja 100 10).bind fun ea => ((so_Eligible.f 0 0 false (⟨#[]⟩ : ByteArray) (⟨#[]⟩ : ByteArray) 50 95 false 100 10).bind fun Ka => (if ea.2 = 0 then (if (ea.1.length : Int) = 3 then (if 0 < (ea.1.length : Int) then ((q_Int.f k 25).bind fun La => (if (((r26_ ea.1 0).f0) == La.1 && ((((r26_ ea.1 0).f1).toList) == La.2.1.toList && ((((r26_ ea.1 0).f2).toList) == La.2.2.toList))) = true then (if 1 < (ea.1.length : Int) then ((q_Int.f k 0).bind fun Ma => (if (((r26_ ea.1 1).f0) == Ma.1 && ((((r26_ ea.1 1).f1).toList) == Ma.2.1.toList && ((((r26_ ea.1 1).f2).toList) == Ma.2.2.toList))) = true then (if 2 < (ea.1.length : Int) then ((q_Int.f k 0).bind fun Na => (if (((r26_ ea.1 2).f0) == Na.1 && ((((r26_ ea.1 2).f1).toList) == Na.2.1.toList && ((((r26_ ea.1 2).f2).toList) == Na.2.2.toList))) = true then (some (!Ka)) else (none))) else (none)) else (none))) else (none)) else (none))) else (none)) else (none)) else (none)))) = some r := by first | (rw [oa]; with_reducible exact H) | (have H2_ := (Option.bind_some _ _).symm.trans H; rw [oa]; with_reducible exact H2_) | (have H2_ := (Option.bind_some _ _).symm.trans H; with_reducible exact H2_) | with_reducible exact H | (rw [oa]; exact H) | exact H
 have Ua := A0_.mk oa
 clear oa
 obtain ⟨⟨aa, Ia⟩, A4, H⟩ := oB_ H
 (try dsimp only at H)
 obtain ⟨Ka, A5, H⟩ := oB_ H
 (try dsimp only at H)
 by_cases c6 : Ia = 0
 rotate_left
 ·rw [if_neg c6] at H
  exact absurd H (by simp)
 rw [if_pos c6] at H
 have eb : (Ia == 0) = true := beq_iff_eq.mpr c6
 have fb : (Ia != 0) = false := bne_eq_false_iff_eq.mpr c6
 clear c6
 by_cases c7 : (aa.length : Int) = 3
 rotate_left
 ·rw [if_neg c7] at H
  exact absurd H (by simp)
 rw [if_pos c7] at H
 have gb : ((aa.length : Int) == 3) = true := beq_iff_eq.mpr c7
 have ib : ((aa.length : Int) != 3) = false := bne_eq_false_iff_eq.mpr c7
 clear c7
 by_cases c8 : 0 < (aa.length : Int)
 rotate_left
 ·rw [if_neg c8] at H
  exact absurd H (by simp)
 rw [if_pos c8] at H
 have jb : decide (0 < (aa.length : Int)) = true := decide_eq_true c8
 have kb : decide (0 < aa.length) = true := decide_eq_true (by omega)
 clear c8
 obtain ⟨⟨pa, qa, ra⟩, A9, H⟩ := oB_ H
 (try dsimp only at H)
 by_cases c10 : (((r26_ aa 0).f0) == pa && ((((r26_ aa 0).f1).toList) == qa.toList && ((((r26_ aa 0).f2).toList) == ra.toList))) = true
 rotate_left
 ·rw [if_neg c10] at H
  exact absurd H (by simp)
 rw [if_pos c10] at H
 have mb : (((r26_ aa 0).f0) == pa && ((((r26_ aa 0).f1).toList) == qa.toList && ((((r26_ aa 0).f2).toList) == ra.toList))) = true := c10
 (try (have nb : decide (((r26_ aa 0).f0) = pa && ((((r26_ aa 0).f1).toList) == qa.toList && ((((r26_ aa 0).f2).toList) == ra.toList))) = true := by simpa using c10))
 (try (have ob : (((r26_ aa 0).f0) == pa && ((((r26_ aa 0).f1).toList) == qa.toList && ((((r26_ aa 0).f2).toList) == ra.toList))) = true := by simpa using c10))
 clear c10
 by_cases c11 : 1 < (aa.length : Int)
 rotate_left
 ·rw [if_neg c11] at H
  exact absurd H (by simp)
 rw [if_pos c11] at H
 have pb : decide (1 < (aa.length : Int)) = true := decide_eq_true c11
 have qb : decide (1 < aa.length) = true := decide_eq_true (by omega)
 clear c11
 obtain ⟨⟨sa, ta, ua⟩, A12, H⟩ := oB_ H
 (try dsimp only at H)
 by_cases c13 : (((r26_ aa 1).f0) == sa && ((((r26_ aa 1).f1).toList) == ta.toList && ((((r26_ aa 1).f2).toList) == ua.toList))) = true
 rotate_left
 ·rw [if_neg c13] at H
  exact absurd H (by simp)
 rw [if_pos c13] at H
 have rb : (((r26_ aa 1).f0) == sa && ((((r26_ aa 1).f1).toList) == ta.toList && ((((r26_ aa 1).f2).toList) == ua.toList))) = true := c13
 (try (have sb : decide (((r26_ aa 1).f0) = sa && ((((r26_ aa 1).f1).toList) == ta.toList && ((((r26_ aa 1).f2).toList) == ua.toList))) = true := by simpa using c13))
 (try (have tb : (((r26_ aa 1).f0) == sa && ((((r26_ aa 1).f1).toList) == ta.toList && ((((r26_ aa 1).f2).toList) == ua.toList))) = true := by simpa using c13))
 clear c13
 by_cases c14 : 2 < (aa.length : Int)
 rotate_left
 ·rw [if_neg c14] at H
  exact absurd H (by simp)
 rw [if_pos c14] at H
 have ub : decide (2 < (aa.length : Int)) = true := decide_eq_true c14
 have vb : decide (2 < aa.length) = true := decide_eq_true (by omega)
 clear c14
 obtain ⟨⟨va, wa, xa⟩, A15, H⟩ := oB_ H
 (try dsimp only at H)
 by_cases c16 : (((r26_ aa 2).f0) == va && ((((r26_ aa 2).f1).toList) == wa.toList && ((((r26_ aa 2).f2).toList) == xa.toList))) = true
 rotate_left
 ·rw [if_neg c16] at H
  exact absurd H (by simp)
 rw [if_pos c16] at H
 have wb : (((r26_ aa 2).f0) == va && ((((r26_ aa 2).f1).toList) == wa.toList && ((((r26_ aa 2).f2).toList) == xa.toList))) = true := c16
 (try (have xb : decide (((r26_ aa 2).f0) = va && ((((r26_ aa 2).f1).toList) == wa.toList && ((((r26_ aa 2).f2).toList) == xa.toList))) = true := by simpa using c16))
 (try (have yb : (((r26_ aa 2).f0) == va && ((((r26_ aa 2).f1).toList) == wa.toList && ((((r26_ aa 2).f2).toList) == xa.toList))) = true := by simpa using c16))
 clear c16
 obtain rfl := Option.some.inj H
 go_enter Tryd.func12, Tryd.ntmps12
 try go_wp2_with (first | ((with_reducible refine gC_ (f := 29) rfl ?_); refine gL_ (some 5) rfl rfl Tryd.func29 kr_ rfl #[.int .i64 30] rfl mp_ ?_; (with_reducible refine (q_Int.calls k 30 fa ga ha _ A1.out).mono ?_); rintro e w17 ⟨rfl, hb⟩; refine ⟨_, rfl, ?_⟩; have n0_ := A0_.mk (bT_ (xB_ HB) hb); clear HB; have HB := n0_; clear n0_; (try clear hb); (try clear hb2); (try clear hk); (try clear hi)) | ((with_reducible refine gC_ (f := 29) rfl ?_); refine gL_ (some 7) rfl rfl Tryd.func29 kr_ rfl #[.int .i64 20] rfl mp_ ?_; (with_reducible refine (q_Int.calls k 20 ia ja ka _ A2.out).mono ?_); rintro e w18 ⟨rfl, hb⟩; refine ⟨_, rfl, ?_⟩; have n0_ := A0_.mk (bT_ (xB_ HB) hb); clear HB; have HB := n0_; clear n0_; (try clear hb); (try clear hb2); (try clear hk); (try clear hi)) | ((with_reducible refine gC_ (f := 29) rfl ?_); refine gL_ (some 9) rfl rfl Tryd.func29 kr_ rfl #[.int .i64 25] rfl mp_ ?_; (with_reducible refine (q_Int.calls k 25 la ma na _ A3.out).mono ?_); rintro e w19 ⟨rfl, hb⟩; refine ⟨_, rfl, ?_⟩; have n0_ := A0_.mk (bT_ (xB_ HB) hb); clear HB; have HB := n0_; clear n0_; (try clear hb); (try clear hb2); (try clear hk); (try clear hi)) | ((with_reducible refine gD_ (N := 11) rfl ?_); (try (refine gate_guard (by rfl) ?_; dsimp only)); refine Kd.R_lit k28 _ 28 ?hg (N := 11) ?hd (xs := ([(⟨0, 1, (⟨fa, ga, ha⟩ : S26), 5, 5, false⟩ : S28), (⟨0, 1, (⟨ia, ja, ka⟩ : S26), 3, 3, false⟩ : S28), (⟨1, 0, (⟨la, ma, na⟩ : S26), 9, 9, false⟩ : S28)] : List (S28))) (inner := [.int .i64 0, .int .i64 1, .bool fa, .string ga, .string ha, .int .i64 5, .int .i64 5, .bool false, .int .i64 0, .int .i64 1, .bool ia, .string ja, .string ka, .int .i64 3, .int .i64 3, .bool false, .int .i64 1, .int .i64 0, .bool la, .string ma, .string na, .int .i64 9, .int .i64 9, .bool false]) (ok := fun _ => True) (okp := fun _ => True) ?hr ?hp (fun _ hk => hk) trivial (Below.refl _ _) (Nat.le_refl _) (by simp) ?_; (case hd => rfl); (case hg => rfl); (case hr => first | (go_simp; done) | (go_simp; rfl)); (case hp => exact (Reps.c8 (show Kd.M k28 _ _ _ (⟨0, 1, (⟨fa, ga, ha⟩ : S26), 5, 5, false⟩ : S28) [.int .i64 0, .int .i64 1, .bool fa, .string ga, .string ha, .int .i64 5, .int .i64 5, .bool false] from (k28_mkM _ _ _ (⟨0, 1, (⟨fa, ga, ha⟩ : S26), 5, 5, false⟩ : S28) )) (Reps.c8 (show Kd.M k28 _ _ _ (⟨0, 1, (⟨ia, ja, ka⟩ : S26), 3, 3, false⟩ : S28) [.int .i64 0, .int .i64 1, .bool ia, .string ja, .string ka, .int .i64 3, .int .i64 3, .bool false] from (k28_mkM _ _ _ (⟨0, 1, (⟨ia, ja, ka⟩ : S26), 3, 3, false⟩ : S28) )) (Reps.c8 (show Kd.M k28 _ _ _ (⟨1, 0, (⟨la, ma, na⟩ : S26), 9, 9, false⟩ : S28) [.int .i64 1, .int .i64 0, .bool la, .string ma, .string na, .int .i64 9, .int .i64 9, .bool false] from (k28_mkM _ _ _ (⟨1, 0, (⟨la, ma, na⟩ : S26), 9, 9, false⟩ : S28) )) (Reps.none _ _))))); intro zb w20 ya hb hg_ hnew_; clear hg_ hnew_; (first | rw [← Ua.out] at ya | (simp only [Int.reduceToNat] at ya; rw [← Ua.out] at ya)); have n0_ := A0_.mk (Kd.rL_ ya (bZ_ (xB_ HB))); have n1_ := A0_.mk (bT_ (xB_ HB) hb); clear HB; have ba := n0_; have HB := n1_; clear n0_ n1_; clear hb ya; obtain ⟨Wa, Xa, Ya⟩ := Kd.rS_' ba.out; subst Ya) | ((with_reducible refine gC_ (f := 18) rfl ?_); refine gL_ (some 14) rfl rfl Tryd.func18 kr_ rfl #[.int .i64 2, .slice Wa Ja.length Xa, .int .i64 100, .int .i64 10] rfl mp_ ?_; (with_reducible refine (so_Apply.calls k 2 _ _ Ja 100 10 aa Ia _ ?side1 ?side2 A4.out).mono ?_); (case side1 => repeat (first | exact (Kd.rr_' ba.out).2.2 | (with_reducible refine Kd.C_alloc ?_ _) | (with_reducible refine Kd.C_drewN ?_ _) | (with_reducible refine Kd.C_drew ?_))); (case side2 => exact (Kd.rr_' ba.out).2.1); rintro e w23 ⟨Ab, rfl, ho0, hb⟩; refine ⟨_, rfl, ?_⟩; have n0_ := A0_.mk (Kd.rB_ (xR_ ba.out) hb); have n1_ := A0_.mk (Kd.rL_ ho0 (bZ_ (xB_ HB))); have n2_ := A0_.mk (bT_ (xB_ HB) hb); clear ba HB; have ba := n0_; have ca := n1_; have HB := n2_; clear n0_ n1_ n2_; (try clear hb); (try clear hb2); (try clear hk); (try clear hi); (try clear ho0)) | ((with_reducible refine gC_ (f := 13) rfl ?_); refine gL_ (some 18) rfl rfl Tryd.func13 kr_ rfl #[.agg #[.int .i64 0, .int .i64 0, .bool false, .string (⟨#[]⟩ : ByteArray), .string (⟨#[]⟩ : ByteArray), .int .i64 50, .int .i64 95, .bool false], .int .i64 100, .int .i64 10] rfl mp_ ?_; (with_reducible refine (so_Eligible.calls 0 0 false (⟨#[]⟩ : ByteArray) (⟨#[]⟩ : ByteArray) 50 95 false 100 10 Ka _ A5.out).mono ?_); rintro e w24 ⟨rfl, hb⟩; refine ⟨_, rfl, ?_⟩; have n0_ := A0_.mk (Kd.rB_ (xR_ ba.out) hb); have n1_ := A0_.mk (Kd.rB_ (xR_ ca.out) hb); have n2_ := A0_.mk (bT_ (xB_ HB) hb); clear ba ca HB; have ba := n0_; have ca := n1_; have HB := n2_; clear n0_ n1_ n2_; (try clear hb); (try clear hb2); (try clear hk); (try clear hi)))
 have n0_ := A0_.mk (Kd.rD_ ba.out)
 have n1_ := A0_.mk (Kd.rD_ ca.out)
 have n2_ := A0_.mk (b1_ HB.out)
 clear ba
 clear ca
 clear HB
 have ba := n0_
 have ca := n1_
 have HB := n2_
 clear n0_ n1_ n2_
 obtain ⟨Bb, Cb, Va⟩ := Kd.rS_' ca.out
 (first | subst Va | (injection Va with f1_ f2_ f3_; have f4_ := f1_.symm; have f5_ := f3_.symm; clear f1_ f2_ f3_; subst f4_; subst f5_))
 have Oa : 0 ≤ (0 : Int) := (by omega)
 have Pa : 0 < (aa.length : Int) := oD_
 obtain ⟨da, Za, za, Aa, Ba⟩ := at_T26 (Kd.rr_' ca.out).2.2 0 Oa Pa
 cases Za
 have Db : (0 < aa.length) = True := eq_true (by omega)
 (try rw [show ((0 : Int)).toNat = 0 from rfl] at za)
 (try rw [show 0 * 3 = 0 from rfl] at za)
 (try rw [Addr.add_zero'] at za)
 (try rw [show ((0 : Int)).toNat = 0 from rfl] at Aa)
 (try rw [show 0 * 3 = 0 from rfl] at Aa)
 (try rw [Addr.add_zero'] at Aa)
 (try rw [show ((0 : Int)).toNat = 0 from rfl] at Ba)
 (try rw [show 0 * 3 = 0 from rfl] at Ba)
 (try rw [Addr.add_zero'] at Ba)
 replace Oa := eq_true Oa
 replace Pa := eq_true Pa
 have Qa : 0 ≤ (1 : Int) := (by omega)
 have Ra : 1 < (aa.length : Int) := oD_
 obtain ⟨ab, bb, Ca, Da, Ea⟩ := at_T26 (Kd.rr_' ca.out).2.2 1 Qa Ra
 obtain rfl : da = ab := (by injection bb)
 (try simp only [show (1 : Int).toNat = 1 from rfl, Nat.reduceMul, Nat.reduceEqDiff, Go.Addr.add, ↓reduceIte] at Ca)
 (try simp only [show (1 : Int).toNat = 1 from rfl, Nat.reduceMul, Nat.reduceEqDiff, Go.Addr.add, ↓reduceIte] at Da)
 (try simp only [show (1 : Int).toNat = 1 from rfl, Nat.reduceMul, Nat.reduceEqDiff, Go.Addr.add, ↓reduceIte] at Ea)
 have Eb : (1 < aa.length) = True := eq_true (by omega)
 (try rw [show ((1 : Int)).toNat = 1 from rfl] at Ca)
 (try rw [show 1 * 3 = 3 from rfl] at Ca)
 (try rw [show ((1 : Int)).toNat = 1 from rfl] at Da)
 (try rw [show 1 * 3 = 3 from rfl] at Da)
 (try rw [show ((1 : Int)).toNat = 1 from rfl] at Ea)
 (try rw [show 1 * 3 = 3 from rfl] at Ea)
 replace Qa := eq_true Qa
 replace Ra := eq_true Ra
 have Sa : 0 ≤ (2 : Int) := (by omega)
 have Ta : 2 < (aa.length : Int) := oD_
 obtain ⟨cb, db, Fa, Ga, Ha⟩ := at_T26 (Kd.rr_' ca.out).2.2 2 Sa Ta
 obtain rfl : da = cb := (by injection db)
 (try simp only [show (2 : Int).toNat = 2 from rfl, Nat.reduceMul, Nat.reduceEqDiff, Go.Addr.add, ↓reduceIte] at Fa)
 (try simp only [show (2 : Int).toNat = 2 from rfl, Nat.reduceMul, Nat.reduceEqDiff, Go.Addr.add, ↓reduceIte] at Ga)
 (try simp only [show (2 : Int).toNat = 2 from rfl, Nat.reduceMul, Nat.reduceEqDiff, Go.Addr.add, ↓reduceIte] at Ha)
 have Fb : (2 < aa.length) = True := eq_true (by omega)
 (try rw [show ((2 : Int)).toNat = 2 from rfl] at Fa)
 (try rw [show 2 * 3 = 6 from rfl] at Fa)
 (try rw [show ((2 : Int)).toNat = 2 from rfl] at Ga)
 (try rw [show 2 * 3 = 6 from rfl] at Ga)
 (try rw [show ((2 : Int)).toNat = 2 from rfl] at Ha)
 (try rw [show 2 * 3 = 6 from rfl] at Ha)
 replace Sa := eq_true Sa
 replace Ta := eq_true Ta
 refine start_ (n := 33) (S := fun w' => w'.cell? da = some (.bool ((r26_ aa 0).f0)) ∧ w'.cell? ⟨da.block, da.off + 1, none⟩ = some (.string ((r26_ aa 0).f1)) ∧ w'.cell? ⟨da.block, da.off + 2, none⟩ = some (.string ((r26_ aa 0).f2)) ∧ w'.cell? ⟨da.block, da.off + 3, none⟩ = some (.bool ((r26_ aa 1).f0)) ∧ w'.cell? ⟨da.block, da.off + 3 + 1, none⟩ = some (.string ((r26_ aa 1).f1)) ∧ w'.cell? ⟨da.block, da.off + 3 + 2, none⟩ = some (.string ((r26_ aa 1).f2)) ∧ w'.cell? ⟨da.block, da.off + 6, none⟩ = some (.bool ((r26_ aa 2).f0)) ∧ w'.cell? ⟨da.block, da.off + 6 + 1, none⟩ = some (.string ((r26_ aa 2).f1)) ∧ w'.cell? ⟨da.block, da.off + 6 + 2, none⟩ = some (.string ((r26_ aa 2).f2))) (ds := []) #[false, false, false, false, false, false, false, false, false, false, false, false, false, false, false, false, false, false, false, false, false, false, false, false, false, false, false, false, false, false, false, false, false] kr_ rfl rfl ⟨za, Aa, Ba, Ca, Da, Ea, Fa, Ga, Ha⟩ (fun hHeld => ?_); refine with_tabW l14_awake.tab4 l14_awake.bits4 (fun HT_ HW_ => ?_)
 generalize w24.drew = w25 at ba ca HB za Aa Ba Ca Da Ea Fa Ga Ha hHeld ⊢
 refine pu_ (i := 0) (N := some 19) (v := ?_) (a' := ?_) #[true, false, false, false, false, false, false, false, false, false, false, false, false, false, false, false, false, false, false, false, false, false, false, false, false, false, false, false, false, false, false, false, false] rfl rfl (an_ HT_.out kr_) (fun _ _ _ h => h) (Or.inl ⟨by rfl, ?_⟩) ?_ ?_
 rotate_left
 ·intro w'
  go_simp
  with_reducible rfl
 rotate_left
 ·simp only [Act.put, s1_, s2_, s3_, i6_, i3_]
  rfl
 refine pu_ (i := 1) (N := some 20) (v := ?_) (a' := ?_) #[true, true, false, false, false, false, false, false, false, false, false, false, false, false, false, false, false, false, false, false, false, false, false, false, false, false, false, false, false, false, false, false, false] rfl rfl (an_ HT_.out kr_) (fun _ _ _ h => h) (Or.inl ⟨by rfl, ?_⟩) ?_ ?_
 rotate_left
 ·intro w'
  go_simp
  with_reducible rfl
 rotate_left
 ·simp only [Act.put, s1_, s2_, s3_, i6_, i3_]
  rfl
 refine pu_ (i := 2) (N := some 21) (v := ?_) (a' := ?_) #[true, true, true, false, false, false, false, false, false, false, false, false, false, false, false, false, false, false, false, false, false, false, false, false, false, false, false, false, false, false, false, false, false] rfl rfl (an_ HT_.out kr_) (fun _ _ _ h => h) (Or.inl ⟨by rfl, ?_⟩) ?_ ?_
 rotate_left
 ·intro w'
  go_simp
  with_reducible rfl
 rotate_left
 ·simp only [Act.put, s1_, s2_, s3_, i6_, i3_]
  rfl
 refine pu_ (i := 3) (N := some 22) (v := ?_) (a' := ?_) #[true, true, true, true, false, false, false, false, false, false, false, false, false, false, false, false, false, false, false, false, false, false, false, false, false, false, false, false, false, false, false, false, false] rfl rfl (an_ HT_.out kr_) (fun _ _ _ h => h) (Or.inl ⟨by rfl, ?_⟩) ?_ ?_
 rotate_left
 ·intro w'
  go_simp
  with_reducible rfl
 rotate_left
 ·simp only [Act.put, s1_, s2_, s3_, i6_, i3_]
  rfl
 refine pu_ (i := 4) (N := some 23) (v := ?_) (a' := ?_) #[true, true, true, true, true, false, false, false, false, false, false, false, false, false, false, false, false, false, false, false, false, false, false, false, false, false, false, false, false, false, false, false, false] rfl rfl (an_ HT_.out kr_) (fun _ _ _ h => h) (Or.inl ⟨by rfl, ?_⟩) ?_ ?_
 rotate_left
 ·intro w'
  go_simp
  with_reducible rfl
 rotate_left
 ·simp only [Act.put, s1_, s2_, s3_, i6_, i3_]
  rfl
 refine pu_ (i := 5) (N := some 24) (v := ?_) (a' := ?_) #[true, true, true, true, true, true, false, false, false, false, false, false, false, false, false, false, false, false, false, false, false, false, false, false, false, false, false, false, false, false, false, false, false] rfl rfl (an_ HT_.out kr_) (fun _ _ _ h => h) (Or.inl ⟨by rfl, ?_⟩) ?_ ?_
 rotate_left
 ·intro w'
  go_simp
  with_reducible rfl
 rotate_left
 ·simp only [Act.put, s1_, s2_, s3_, i6_, i3_]
  rfl
 refine pu_ (i := 6) (N := some 25) (v := ?_) (a' := ?_) #[true, true, true, true, true, true, true, false, false, false, false, false, false, false, false, false, false, false, false, false, false, false, false, false, false, false, false, false, false, false, false, false, false] rfl rfl (an_ HT_.out kr_) (fun _ _ _ h => h) (Or.inl ⟨by rfl, ?_⟩) ?_ ?_
 rotate_left
 ·intro w'
  go_simp
  with_reducible rfl
 rotate_left
 ·simp only [Act.put, s1_, s2_, s3_, i6_, i3_]
  rfl
 refine pu_ (i := 7) (N := some 26) (v := ?_) (a' := ?_) #[true, true, true, true, true, true, true, true, false, false, false, false, false, false, false, false, false, false, false, false, false, false, false, false, false, false, false, false, false, false, false, false, false] rfl rfl (an_ HT_.out kr_) (fun _ _ _ h => h) (Or.inl ⟨by rfl, ?_⟩) ?_ ?_
 rotate_left
 ·intro w'
  go_simp
  with_reducible rfl
 rotate_left
 ·simp only [Act.put, s1_, s2_, s3_, i6_, i3_]
  rfl
 refine pu_ (i := 8) (N := some 27) (v := ?_) (a' := ?_) #[true, true, true, true, true, true, true, true, true, false, false, false, false, false, false, false, false, false, false, false, false, false, false, false, false, false, false, false, false, false, false, false, false] rfl rfl (an_ HT_.out kr_) (fun _ _ _ h => h) (Or.inl ⟨by rfl, ?_⟩) ?_ ?_
 rotate_left
 ·intro w'
  go_simp
  with_reducible rfl
 rotate_left
 ·simp only [Act.put, s1_, s2_, s3_, i6_, i3_]
  rfl
 refine pu_ (i := 9) (N := some 28) (v := ?_) (a' := ?_) #[true, true, true, true, true, true, true, true, true, true, false, false, false, false, false, false, false, false, false, false, false, false, false, false, false, false, false, false, false, false, false, false, false] rfl rfl (an_ HT_.out kr_) (fun _ _ _ h => h) (Or.inl ⟨by rfl, ?_⟩) ?_ ?_
 rotate_left
 ·intro w'
  go_simp
  with_reducible rfl
 rotate_left
 ·simp only [Act.put, s1_, s2_, s3_, i6_, i3_]
  rfl
 refine take_ (i := 10) (N := some 29) (v := ?_) (a' := ?_) #[true, true, true, true, true, true, true, true, true, true, true, false, false, false, false, false, false, false, false, false, false, false, false, false, false, false, false, false, false, false, false, false, false] rfl rfl (tW_ HT_.out HW_.out kr_) (fun _ _ _ h => h) (Or.inl ⟨by rfl, ?_⟩) hHeld ?_ ?_
 rotate_left
 ·rintro w' ⟨s0, s1, s2, s3, s4, s5, s6, s7, s8⟩
  go_simp
  with_reducible rfl
 rotate_left
 ·simp only [Act.put, s1_, s2_, s3_, i6_, i3_]
  rfl
 refine one_ (i := 11) (N := some 30) #[true, true, true, true, true, true, true, true, true, true, true, true, false, false, false, false, false, false, false, false, false, false, false, false, false, false, false, false, false, false, false, false, false] rfl rfl (one_of HT_.out kr_) (by decide) (fun K hK => ?_)
 refine goes_ Tryd.func29 kr_ rfl #[.int .i64 25] (by rfl) rfl rfl mp_ ?_
 with_reducible refine (q_Int.calls k 25 pa qa ra _ A9.out).mono ?_
 rintro e w27 ⟨rfl, hb⟩
 have HS0_ := (hb.cell (World.block_lt_of_cell? _ _ (hHeld.1))).trans (hHeld.1)
 have HS1_ := (hb.cell (World.block_lt_of_cell? _ _ (hHeld.2.1))).trans (hHeld.2.1)
 have HS2_ := (hb.cell (World.block_lt_of_cell? _ _ (hHeld.2.2.1))).trans (hHeld.2.2.1)
 have HS3_ := (hb.cell (World.block_lt_of_cell? _ _ (hHeld.2.2.2.1))).trans (hHeld.2.2.2.1)
 have HS4_ := (hb.cell (World.block_lt_of_cell? _ _ (hHeld.2.2.2.2.1))).trans (hHeld.2.2.2.2.1)
 have HS5_ := (hb.cell (World.block_lt_of_cell? _ _ (hHeld.2.2.2.2.2.1))).trans (hHeld.2.2.2.2.2.1)
 have HS6_ := (hb.cell (World.block_lt_of_cell? _ _ (hHeld.2.2.2.2.2.2.1))).trans (hHeld.2.2.2.2.2.2.1)
 have HS7_ := (hb.cell (World.block_lt_of_cell? _ _ (hHeld.2.2.2.2.2.2.2.1))).trans (hHeld.2.2.2.2.2.2.2.1)
 have HS8_ := (hb.cell (World.block_lt_of_cell? _ _ (hHeld.2.2.2.2.2.2.2.2))).trans (hHeld.2.2.2.2.2.2.2.2)
 refine ⟨_, rfl, ?_⟩
 have n0_ := A0_.mk (Kd.rB_ (xR_ ba.out) hb)
 have n1_ := A0_.mk (Kd.rB_ (xR_ ca.out) hb)
 have n2_ := A0_.mk (bT_ (xB_ HB) hb)
 clear ba
 clear ca
 clear HB
 have ba := n0_
 have ca := n1_
 have HB := n2_
 clear n0_ n1_ n2_
 (try clear hb)
 (try clear hb2)
 (try clear hk)
 (try clear hi)
 refine hK.out _ _ ⟨HS0_, HS1_, HS2_, HS3_, HS4_, HS5_, HS6_, HS7_, HS8_⟩ (fun hHeld => ?_)
 clear hK K
 refine norm_ (a' := ?_) ?_ ?_
 rotate_left
 ·show Act.put _ (some 30) _ = _
  simp only [Act.put, s1_, s2_, s3_, i6_, i3_]
  rfl
 refine pu_ (i := 12) (N := some 31) (v := ?_) (a' := ?_) #[true, true, true, true, true, true, true, true, true, true, true, true, true, false, false, false, false, false, false, false, false, false, false, false, false, false, false, false, false, false, false, false, false] rfl rfl (an_ HT_.out kr_) (fun _ _ _ h => h) (Or.inl ⟨by rfl, ?_⟩) ?_ ?_
 rotate_left
 ·intro w'
  go_simp
  with_reducible rfl
 rotate_left
 ·simp only [Act.put, s1_, s2_, s3_, i6_, i3_]
  rfl
 refine pu_ (i := 13) (N := some 32) (v := ?_) (a' := ?_) #[true, true, true, true, true, true, true, true, true, true, true, true, true, true, false, false, false, false, false, false, false, false, false, false, false, false, false, false, false, false, false, false, false] rfl rfl (an_ HT_.out kr_) (fun _ _ _ h => h) (Or.inl ⟨by rfl, ?_⟩) ?_ ?_
 rotate_left
 ·intro w'
  go_simp
  with_reducible rfl
 rotate_left
 ·simp only [Act.put, s1_, s2_, s3_, i6_, i3_]
  rfl
 refine pu_ (i := 14) (N := some 33) (v := ?_) (a' := ?_) #[true, true, true, true, true, true, true, true, true, true, true, true, true, true, true, false, false, false, false, false, false, false, false, false, false, false, false, false, false, false, false, false, false] rfl rfl (an_ HT_.out kr_) (fun _ _ _ h => h) (Or.inl ⟨by rfl, ?_⟩) ?_ ?_
 rotate_left
 ·intro w'
  go_simp
  with_reducible rfl
 rotate_left
 ·simp only [Act.put, s1_, s2_, s3_, i6_, i3_]
  rfl
 refine pu_ (i := 15) (N := some 34) (v := ?_) (a' := ?_) #[true, true, true, true, true, true, true, true, true, true, true, true, true, true, true, true, false, false, false, false, false, false, false, false, false, false, false, false, false, false, false, false, false] rfl rfl (an_ HT_.out kr_) (fun _ _ _ h => h) (Or.inl ⟨by rfl, ?_⟩) ?_ ?_
 rotate_left
 ·intro w'
  go_simp
  with_reducible rfl
 rotate_left
 ·simp only [Act.put, s1_, s2_, s3_, i6_, i3_]
  rfl
 refine pu_ (i := 16) (N := some 35) (v := ?_) (a' := ?_) #[true, true, true, true, true, true, true, true, true, true, true, true, true, true, true, true, true, false, false, false, false, false, false, false, false, false, false, false, false, false, false, false, false] rfl rfl (an_ HT_.out kr_) (fun _ _ _ h => h) (Or.inl ⟨by rfl, ?_⟩) ?_ ?_
 rotate_left
 ·intro w'
  go_simp
  with_reducible rfl
 rotate_left
 ·simp only [Act.put, s1_, s2_, s3_, i6_, i3_]
  rfl
 refine take_ (i := 17) (N := some 36) (v := ?_) (a' := ?_) #[true, true, true, true, true, true, true, true, true, true, true, true, true, true, true, true, true, true, false, false, false, false, false, false, false, false, false, false, false, false, false, false, false] rfl rfl (tW_ HT_.out HW_.out kr_) (fun _ _ _ h => h) (Or.inl ⟨by rfl, ?_⟩) hHeld ?_ ?_
 rotate_left
 ·rintro w' ⟨s0, s1, s2, s3, s4, s5, s6, s7, s8⟩
  go_simp
  with_reducible rfl
 rotate_left
 ·simp only [Act.put, s1_, s2_, s3_, i6_, i3_]
  rfl
 refine one_ (i := 18) (N := some 37) #[true, true, true, true, true, true, true, true, true, true, true, true, true, true, true, true, true, true, true, false, false, false, false, false, false, false, false, false, false, false, false, false, false] rfl rfl (one_of HT_.out kr_) (by decide) (fun K hK => ?_)
 refine goes_ Tryd.func29 kr_ rfl #[.int .i64 0] (by rfl) rfl rfl mp_ ?_
 with_reducible refine (q_Int.calls k 0 sa ta ua _ A12.out).mono ?_
 rintro e w28 ⟨rfl, hb⟩
 have HS0_ := (hb.cell (World.block_lt_of_cell? _ _ (hHeld.1))).trans (hHeld.1)
 have HS1_ := (hb.cell (World.block_lt_of_cell? _ _ (hHeld.2.1))).trans (hHeld.2.1)
 have HS2_ := (hb.cell (World.block_lt_of_cell? _ _ (hHeld.2.2.1))).trans (hHeld.2.2.1)
 have HS3_ := (hb.cell (World.block_lt_of_cell? _ _ (hHeld.2.2.2.1))).trans (hHeld.2.2.2.1)
 have HS4_ := (hb.cell (World.block_lt_of_cell? _ _ (hHeld.2.2.2.2.1))).trans (hHeld.2.2.2.2.1)
 have HS5_ := (hb.cell (World.block_lt_of_cell? _ _ (hHeld.2.2.2.2.2.1))).trans (hHeld.2.2.2.2.2.1)
 have HS6_ := (hb.cell (World.block_lt_of_cell? _ _ (hHeld.2.2.2.2.2.2.1))).trans (hHeld.2.2.2.2.2.2.1)
 have HS7_ := (hb.cell (World.block_lt_of_cell? _ _ (hHeld.2.2.2.2.2.2.2.1))).trans (hHeld.2.2.2.2.2.2.2.1)
 have HS8_ := (hb.cell (World.block_lt_of_cell? _ _ (hHeld.2.2.2.2.2.2.2.2))).trans (hHeld.2.2.2.2.2.2.2.2)
 refine ⟨_, rfl, ?_⟩
 have n0_ := A0_.mk (Kd.rB_ (xR_ ba.out) hb)
 have n1_ := A0_.mk (Kd.rB_ (xR_ ca.out) hb)
 have n2_ := A0_.mk (bT_ (xB_ HB) hb)
 clear ba
 clear ca
 clear HB
 have ba := n0_
 have ca := n1_
 have HB := n2_
 clear n0_ n1_ n2_
 (try clear hb)
 (try clear hb2)
 (try clear hk)
 (try clear hi)
 refine hK.out _ _ ⟨HS0_, HS1_, HS2_, HS3_, HS4_, HS5_, HS6_, HS7_, HS8_⟩ (fun hHeld => ?_)
 clear hK K
 refine norm_ (a' := ?_) ?_ ?_
 rotate_left
 ·show Act.put _ (some 37) _ = _
  simp only [Act.put, s1_, s2_, s3_, i6_, i3_]
  rfl
 refine pu_ (i := 19) (N := some 38) (v := ?_) (a' := ?_) #[true, true, true, true, true, true, true, true, true, true, true, true, true, true, true, true, true, true, true, true, false, false, false, false, false, false, false, false, false, false, false, false, false] rfl rfl (an_ HT_.out kr_) (fun _ _ _ h => h) (Or.inl ⟨by rfl, ?_⟩) ?_ ?_
 rotate_left
 ·intro w'
  go_simp
  with_reducible rfl
 rotate_left
 ·simp only [Act.put, s1_, s2_, s3_, i6_, i3_]
  rfl
 refine pu_ (i := 20) (N := some 39) (v := ?_) (a' := ?_) #[true, true, true, true, true, true, true, true, true, true, true, true, true, true, true, true, true, true, true, true, true, false, false, false, false, false, false, false, false, false, false, false, false] rfl rfl (an_ HT_.out kr_) (fun _ _ _ h => h) (Or.inl ⟨by rfl, ?_⟩) ?_ ?_
 rotate_left
 ·intro w'
  go_simp
  with_reducible rfl
 rotate_left
 ·simp only [Act.put, s1_, s2_, s3_, i6_, i3_]
  rfl
 refine pu_ (i := 21) (N := some 40) (v := ?_) (a' := ?_) #[true, true, true, true, true, true, true, true, true, true, true, true, true, true, true, true, true, true, true, true, true, true, false, false, false, false, false, false, false, false, false, false, false] rfl rfl (an_ HT_.out kr_) (fun _ _ _ h => h) (Or.inl ⟨by rfl, ?_⟩) ?_ ?_
 rotate_left
 ·intro w'
  go_simp
  with_reducible rfl
 rotate_left
 ·simp only [Act.put, s1_, s2_, s3_, i6_, i3_]
  rfl
 refine pu_ (i := 22) (N := some 41) (v := ?_) (a' := ?_) #[true, true, true, true, true, true, true, true, true, true, true, true, true, true, true, true, true, true, true, true, true, true, true, false, false, false, false, false, false, false, false, false, false] rfl rfl (an_ HT_.out kr_) (fun _ _ _ h => h) (Or.inl ⟨by rfl, ?_⟩) ?_ ?_
 rotate_left
 ·intro w'
  go_simp
  with_reducible rfl
 rotate_left
 ·simp only [Act.put, s1_, s2_, s3_, i6_, i3_]
  rfl
 refine pu_ (i := 23) (N := some 42) (v := ?_) (a' := ?_) #[true, true, true, true, true, true, true, true, true, true, true, true, true, true, true, true, true, true, true, true, true, true, true, true, false, false, false, false, false, false, false, false, false] rfl rfl (an_ HT_.out kr_) (fun _ _ _ h => h) (Or.inl ⟨by rfl, ?_⟩) ?_ ?_
 rotate_left
 ·intro w'
  go_simp
  with_reducible rfl
 rotate_left
 ·simp only [Act.put, s1_, s2_, s3_, i6_, i3_]
  rfl
 refine take_ (i := 24) (N := some 43) (v := ?_) (a' := ?_) #[true, true, true, true, true, true, true, true, true, true, true, true, true, true, true, true, true, true, true, true, true, true, true, true, true, false, false, false, false, false, false, false, false] rfl rfl (tW_ HT_.out HW_.out kr_) (fun _ _ _ h => h) (Or.inl ⟨by rfl, ?_⟩) hHeld ?_ ?_
 rotate_left
 ·rintro w' ⟨s0, s1, s2, s3, s4, s5, s6, s7, s8⟩
  go_simp
  with_reducible rfl
 rotate_left
 ·simp only [Act.put, s1_, s2_, s3_, i6_, i3_]
  rfl
 refine one_ (i := 25) (N := some 44) #[true, true, true, true, true, true, true, true, true, true, true, true, true, true, true, true, true, true, true, true, true, true, true, true, true, true, false, false, false, false, false, false, false] rfl rfl (one_of HT_.out kr_) (by decide) (fun K hK => ?_)
 refine goes_ Tryd.func29 kr_ rfl #[.int .i64 0] (by rfl) rfl rfl mp_ ?_
 with_reducible refine (q_Int.calls k 0 va wa xa _ A15.out).mono ?_
 rintro e w29 ⟨rfl, hb⟩
 have HS0_ := (hb.cell (World.block_lt_of_cell? _ _ (hHeld.1))).trans (hHeld.1)
 have HS1_ := (hb.cell (World.block_lt_of_cell? _ _ (hHeld.2.1))).trans (hHeld.2.1)
 have HS2_ := (hb.cell (World.block_lt_of_cell? _ _ (hHeld.2.2.1))).trans (hHeld.2.2.1)
 have HS3_ := (hb.cell (World.block_lt_of_cell? _ _ (hHeld.2.2.2.1))).trans (hHeld.2.2.2.1)
 have HS4_ := (hb.cell (World.block_lt_of_cell? _ _ (hHeld.2.2.2.2.1))).trans (hHeld.2.2.2.2.1)
 have HS5_ := (hb.cell (World.block_lt_of_cell? _ _ (hHeld.2.2.2.2.2.1))).trans (hHeld.2.2.2.2.2.1)
 have HS6_ := (hb.cell (World.block_lt_of_cell? _ _ (hHeld.2.2.2.2.2.2.1))).trans (hHeld.2.2.2.2.2.2.1)
 have HS7_ := (hb.cell (World.block_lt_of_cell? _ _ (hHeld.2.2.2.2.2.2.2.1))).trans (hHeld.2.2.2.2.2.2.2.1)
 have HS8_ := (hb.cell (World.block_lt_of_cell? _ _ (hHeld.2.2.2.2.2.2.2.2))).trans (hHeld.2.2.2.2.2.2.2.2)
 refine ⟨_, rfl, ?_⟩
 have n0_ := A0_.mk (Kd.rB_ (xR_ ba.out) hb)
 have n1_ := A0_.mk (Kd.rB_ (xR_ ca.out) hb)
 have n2_ := A0_.mk (bT_ (xB_ HB) hb)
 clear ba
 clear ca
 clear HB
 have ba := n0_
 have ca := n1_
 have HB := n2_
 clear n0_ n1_ n2_
 (try clear hb)
 (try clear hb2)
 (try clear hk)
 (try clear hi)
 refine hK.out _ _ ⟨HS0_, HS1_, HS2_, HS3_, HS4_, HS5_, HS6_, HS7_, HS8_⟩ (fun hHeld => ?_)
 clear hK K
 refine norm_ (a' := ?_) ?_ ?_
 rotate_left
 ·show Act.put _ (some 44) _ = _
  simp only [Act.put, s1_, s2_, s3_, i6_, i3_]
  rfl
 refine pu_ (i := 26) (N := some 45) (v := ?_) (a' := ?_) #[true, true, true, true, true, true, true, true, true, true, true, true, true, true, true, true, true, true, true, true, true, true, true, true, true, true, true, false, false, false, false, false, false] rfl rfl (an_ HT_.out kr_) (fun _ _ _ h => h) (Or.inl ⟨by rfl, ?_⟩) ?_ ?_
 rotate_left
 ·intro w'
  go_simp
  with_reducible rfl
 rotate_left
 ·simp only [Act.put, s1_, s2_, s3_, i6_, i3_]
  rfl
 refine pu_ (i := 27) (N := some 46) (v := ?_) (a' := ?_) #[true, true, true, true, true, true, true, true, true, true, true, true, true, true, true, true, true, true, true, true, true, true, true, true, true, true, true, true, false, false, false, false, false] rfl rfl (an_ HT_.out kr_) (fun _ _ _ h => h) (Or.inl ⟨by rfl, ?_⟩) ?_ ?_
 rotate_left
 ·intro w'
  go_simp
  with_reducible rfl
 rotate_left
 ·simp only [Act.put, s1_, s2_, s3_, i6_, i3_]
  rfl
 refine pu_ (i := 28) (N := some 47) (v := ?_) (a' := ?_) #[true, true, true, true, true, true, true, true, true, true, true, true, true, true, true, true, true, true, true, true, true, true, true, true, true, true, true, true, true, false, false, false, false] rfl rfl (an_ HT_.out kr_) (fun _ _ _ h => h) (Or.inl ⟨by rfl, ?_⟩) ?_ ?_
 rotate_left
 ·intro w'
  go_simp
  with_reducible rfl
 rotate_left
 ·simp only [Act.put, s1_, s2_, s3_, i6_, i3_]
  rfl
 refine pu_ (i := 29) (N := some 48) (v := ?_) (a' := ?_) #[true, true, true, true, true, true, true, true, true, true, true, true, true, true, true, true, true, true, true, true, true, true, true, true, true, true, true, true, true, true, false, false, false] rfl rfl (an_ HT_.out kr_) (fun _ _ _ h => h) (Or.inl ⟨by rfl, ?_⟩) ?_ ?_
 rotate_left
 ·intro w'
  go_simp
  with_reducible rfl
 rotate_left
 ·simp only [Act.put, s1_, s2_, s3_, i6_, i3_]
  rfl
 refine pu_ (i := 30) (N := some 49) (v := ?_) (a' := ?_) #[true, true, true, true, true, true, true, true, true, true, true, true, true, true, true, true, true, true, true, true, true, true, true, true, true, true, true, true, true, true, true, false, false] rfl rfl (an_ HT_.out kr_) (fun _ _ _ h => h) (Or.inl ⟨by rfl, ?_⟩) ?_ ?_
 rotate_left
 ·intro w'
  go_simp
  with_reducible rfl
 rotate_left
 ·simp only [Act.put, s1_, s2_, s3_, i6_, i3_]
  rfl
 refine pu_ (i := 31) (N := some 50) (v := ?_) (a' := ?_) #[true, true, true, true, true, true, true, true, true, true, true, true, true, true, true, true, true, true, true, true, true, true, true, true, true, true, true, true, true, true, true, true, false] rfl rfl (an_ HT_.out kr_) (fun _ _ _ h => h) (Or.inl ⟨by rfl, ?_⟩) ?_ ?_
 rotate_left
 ·intro w'
  go_simp
  with_reducible rfl
 rotate_left
 ·simp only [Act.put, s1_, s2_, s3_, i6_, i3_]
  rfl
 refine pu_ (i := 32) (N := some 0) (v := ?_) (a' := ?_) #[true, true, true, true, true, true, true, true, true, true, true, true, true, true, true, true, true, true, true, true, true, true, true, true, true, true, true, true, true, true, true, true, true] rfl rfl (an_ HT_.out kr_) (fun _ _ _ h => h) (Or.inl ⟨by rfl, ?_⟩) ?_ ?_
 rotate_left
 ·intro w'
  go_simp
  with_reducible rfl
 rotate_left
 ·simp only [Act.put, s1_, s2_, s3_, i6_, i3_]
  rfl
 refine done_ (done_of HT_.out kr_) ?_
 try go_wp2
 go_ret
 exact ⟨rE_, xB_ HB⟩
end C
end Go.Proofs.YtnegkpnhjgimcaaDoor
end
section
namespace Go.Proofs.YtnegkpnhjgimcaaDoor
namespace C
set_option maxHeartbeats 8000000
set_option maxRecDepth 100000
open Go.RowKit Go.PrWords Go.PrLast Go.PrMore
attribute [local go_sem] max2_int min2_int max_two min_two max_three min_three max_four min_four
set_option linter.unusedVariables false
set_option linter.unusedSimpArgs false
def so_Amount.f (k : Nat) (a0 : Int) (l1 : List (S28)) (a2 : Int) (a3 : Int) (a4 : Int) (a5 : Int) : Option (Bool × ByteArray × ByteArray × Int) := (so_check.f k a0 l1 a2 a3).bind fun t885 => (if t885 = 0 then ((so_pair.f a0 a4 a5).bind fun t886 => (if t886 = true then ((so_amounts.f k l1).bind fun t887 => ((so_eligible.f k l1 a2 a3 a4 a5).bind fun t890 => ((so_total.f k t887 t890).bind fun bt893 => ((so_eligible.f k l1 a2 a3 a5 a4).bind fun t896 => ((so_total.f k t887 t896).bind fun bt899 => ((q_Min.f k bt893.1 bt893.2.1 bt893.2.2 bt899.1 bt899.2.1 bt899.2.2).bind fun bt902 => (some (bt902.1, bt902.2.1, bt902.2.2, 0)))))))) else (some (false, (⟨#[]⟩ : ByteArray), (⟨#[]⟩ : ByteArray), 14)))) else (some (false, (⟨#[]⟩ : ByteArray), (⟨#[]⟩ : ByteArray), t885)))
theorem so_Amount.calls (k : Nat) (a0 : Int) (A1 : Option Addr) (c1 : Nat) (l1 : List (S28)) (a2 : Int) (a3 : Int) (a4 : Int) (a5 : Int) (r1 : Bool) (r2 : ByteArray) (r3 : ByteArray) (r4 : Int) (w : World) (hr1 : Kd.C k28 w A1 l1.length l1) (hc1 : l1.length ≤ c1) (h : so_Amount.f k a0 l1 a2 a3 a4 a5 = some (r1, r2, r3, r4)) :
  Calls Tryd.prog 23 #[.int .i64 a0, .slice A1 l1.length c1, .int .i64 a2, .int .i64 a3, .int .i64 a4, .int .i64 a5] w fun e w' => e = .returned (.tuple #[.agg #[.bool r1, .string r2, .string r3], .int .i64 r4]) ∧ Below w.heap.size w w' := by
 have hu26 := Tryd.underlying26
 have HR1 := A0_.mk hr1
 have HC1 := A0_.mk hc1
 clear hr1 hc1
 have HB := A0_.mk (Below.refl w.heap.size w)
 have H := h
 unfold so_Amount.f at H
 clear h
 obtain ⟨ga, A7, H⟩ := oB_ H
 (try dsimp only at H)
 by_cases c8 : ga = 0
 ·rw [if_pos c8] at H
  have za : (ga == 0) = true := beq_iff_eq.mpr c8
  have Aa : (ga != 0) = false := bne_eq_false_iff_eq.mpr c8
  clear c8
  obtain ⟨Ba, A9, H⟩ := oB_ H
  (try dsimp only at H)
  by_cases c10 : Ba = true
  ·subst c10
   have H1 : ((so_amounts.f k l1).bind fun ha => ((so_eligible.f k l1 a2 a3 a4 a5).bind fun ia => ((so_total.f k ha ia).bind fun la => ((so_eligible.f k l1 a2 a3 a5 a4).bind fun ja => ((so_total.f k ha ja).bind fun ma => ((q_Min.f k la.1 la.2.1 la.2.2 ma.1 ma.2.1 ma.2.2).bind fun na => (some (na.1, na.2.1, na.2.2, 0)))))))) = some (r1, r2, r3, r4) := by rw [if_pos rfl] at H; exact H
   clear H
   have H := H1
   clear H1
   obtain ⟨ha, A11, H⟩ := oB_ H
   (try dsimp only at H)
   obtain ⟨ia, A12, H⟩ := oB_ H
   (try dsimp only at H)
   obtain ⟨⟨oa, pa, qa⟩, A13, H⟩ := oB_ H
   (try dsimp only at H)
   obtain ⟨ja, A14, H⟩ := oB_ H
   (try dsimp only at H)
   obtain ⟨⟨ra, sa, ta⟩, A15, H⟩ := oB_ H
   (try dsimp only at H)
   obtain ⟨⟨ka, ua, va⟩, A16, H⟩ := oB_ H
   (try dsimp only at H)
   simp only [Option.some.injEq, Prod.mk.injEq] at H
   obtain ⟨rfl, rfl, rfl, rfl⟩ := H
   go_enter Tryd.func23, Tryd.ntmps23
   go_wp2_with (first | ((with_reducible refine gD_ (N := 12) rfl ?_); refine bE_ ?hg (N := 12) ?hd (cs := zC_) (t := 26) ?hr ?_; (case hd => rfl); (case hg => rfl); (case hr => first | (go_simp; done) | (go_simp; rfl)); intro ba hg w17 hbox hb; have n0_ := A0_.mk (bT_ (xB_ HB) hb); have n1_ := A0_.mk (hbox); have n2_ := A0_.mk ((by rw [hg]; exact (bZ_ (xB_ HB)) : w.heap.size ≤ ba)); have n3_ := A0_.mk ((by rw [hg]; exact (bZ_ (xB_ HB)) : w.heap.size ≤ ba)); clear HB; have HB := n0_; have aa := n1_; have wa := n2_; have da := n3_; clear n0_ n1_ n2_ n3_; clear hb hbox hg) | ((with_reducible refine gC_ (f := 36) rfl ?_); refine gL_ (some 20) rfl rfl Tryd.func36 kr_ rfl #[.int .i64 a0, .slice A1 l1.length c1, .int .i64 a2, .int .i64 a3] rfl mp_ ?_; (with_reducible refine (so_check.calls k a0 _ _ l1 a2 a3 ga _ ?side1 ?side2 A7.out).mono ?_); (case side1 => repeat (first | exact (Kd.C_below HR1.out HB.out) | (with_reducible refine Kd.C_alloc ?_ _) | (with_reducible refine Kd.C_drewN ?_ _) | (with_reducible refine Kd.C_drew ?_))); (case side2 => exact HC1.out); rintro e w18 ⟨rfl, hb⟩; refine ⟨_, rfl, ?_⟩; have n0_ := A0_.mk (kB_ (g := ba) (o := .cells zC_ 26 (0, 0)) (xK_ aa.out) hb); have n1_ := A0_.mk (bT_ (xB1_ HB da) hb); clear aa HB; have aa := n0_; have HB := n1_; clear n0_ n1_; (try clear hb); (try clear hb2); (try clear hk); (try clear hi)) | ((with_reducible refine gC_ (f := 32) rfl ?_); refine gL_ (some 28) rfl rfl Tryd.func32 kr_ rfl #[.int .i64 a0, .int .i64 a4, .int .i64 a5] rfl mp_ ?_; (with_reducible refine (so_pair.calls a0 a4 a5 true _ A9.out).mono ?_); rintro e w' ⟨rfl, ⟨nd, rfl⟩⟩; refine ⟨_, rfl, ?_⟩; (try (rw [drewN_self w18]; generalize hq_ : World.drewN w18 _ = w18; have n0_ : A0_ (w18.heap[ba]? = some (.cells zC_ 26 (0, 0))) := ⟨by rw [← hq_]; exact (xK_ aa.out)⟩; have n1_ : A0_ (Below w.heap.size w w18) := ⟨by rw [← hq_]; exact (xB1_ HB da)⟩; clear aa HB hq_; have aa := n0_; have HB := n1_; clear n0_ n1_))) | ((with_reducible refine gC_ (f := 37) rfl ?_); refine gL_ (some 32) rfl rfl Tryd.func37 kr_ rfl #[.slice A1 l1.length c1] rfl mp_ ?_; (with_reducible refine (so_amounts.calls k _ _ l1 ha _ ?side1 ?side2 A11.out).mono ?_); (case side1 => repeat (first | exact (Kd.C_below HR1.out HB.out) | (with_reducible refine Kd.C_alloc ?_ _) | (with_reducible refine Kd.C_drewN ?_ _) | (with_reducible refine Kd.C_drew ?_))); (case side2 => exact HC1.out); rintro e w19 ⟨Ja, rfl, ho0, hb⟩; refine ⟨_, rfl, ?_⟩; have n0_ := A0_.mk (Kd.rL_ (Kd.R_newB ho0 (g := ba) (o := .cells zC_ 26 (0, 0)) (xK_ aa.out)) (bZ_ (xB1_ HB da))); have n1_ := A0_.mk (kB_ (g := ba) (o := .cells zC_ 26 (0, 0)) (xK_ aa.out) hb); have n2_ := A0_.mk (bT_ (xB1_ HB da) hb); clear aa HB; have ca := n0_; have aa := n1_; have HB := n2_; clear n0_ n1_ n2_; (try clear hb); (try clear hb2); (try clear hk); (try clear hi); (try clear ho0)) | ((with_reducible refine gC_ (f := 38) rfl ?_); refine gL_ (some 39) rfl rfl Tryd.func38 kr_ rfl #[.slice A1 l1.length c1, .int .i64 a2, .int .i64 a3, .int .i64 a4, .int .i64 a5] rfl mp_ ?_; (with_reducible refine (so_eligible.calls k _ _ l1 a2 a3 a4 a5 ia _ ?side1 ?side2 A12.out).mono ?_); (case side1 => repeat (first | exact (Kd.C_below HR1.out HB.out) | (with_reducible refine Kd.C_alloc ?_ _) | (with_reducible refine Kd.C_drewN ?_ _) | (with_reducible refine Kd.C_drew ?_))); (case side2 => exact HC1.out); rintro e w20 ⟨Ka, rfl, ho0, hb⟩; refine ⟨_, rfl, ?_⟩; have n0_ := A0_.mk (Kd.rB_ (xR_ ca.out) hb); have n1_ := A0_.mk (Kd.rL_ ho0 (bZ_ (xB1_ HB da))); have n2_ := A0_.mk (kB_ (g := ba) (o := .cells zC_ 26 (0, 0)) (xK_ aa.out) hb); have n3_ := A0_.mk (bT_ (xB1_ HB da) hb); clear ca aa HB; have ca := n0_; have ea := n1_; have aa := n2_; have HB := n3_; clear n0_ n1_ n2_ n3_; (try clear hb); (try clear hb2); (try clear hk); (try clear hi); (try clear ho0); obtain ⟨xa, ya, Ca⟩ := Kd.rS_' ca.out; subst Ca; obtain ⟨Da, Ea, Fa⟩ := Kd.rS_' ea.out; subst Fa) | ((with_reducible refine gC_ (f := 40) rfl ?_); refine gL_ (some 40) rfl rfl Tryd.func40 kr_ rfl #[.slice xa ha.length ya, .slice Da ia.length Ea] rfl mp_ ?_; (with_reducible refine (so_total.calls k _ _ ha _ _ ia oa pa qa _ ?side1 ?side2 ?side3 ?side4 A13.out).mono ?_); (case side1 => repeat (first | exact (Kd.rr_' ca.out).2.2 | (with_reducible refine Kd.C_alloc ?_ _) | (with_reducible refine Kd.C_drewN ?_ _) | (with_reducible refine Kd.C_drew ?_))); (case side2 => exact (Kd.rr_' ca.out).2.1); (case side3 => repeat (first | exact (Kd.rr_' ea.out).2.2 | (with_reducible refine Kd.C_alloc ?_ _) | (with_reducible refine Kd.C_drewN ?_ _) | (with_reducible refine Kd.C_drew ?_))); (case side4 => exact (Kd.rr_' ea.out).2.1); rintro e w23 ⟨rfl, hb⟩; refine ⟨_, rfl, ?_⟩; have n0_ := A0_.mk (Kd.rB_ (xR_ ca.out) hb); have n1_ := A0_.mk (Kd.rB_ (xR_ ea.out) hb); have n2_ := A0_.mk (kB_ (g := ba) (o := .cells zC_ 26 (0, 0)) (xK_ aa.out) hb); have n3_ := A0_.mk (bT_ (xB1_ HB da) hb); clear ca ea aa HB; have ca := n0_; have ea := n1_; have aa := n2_; have HB := n3_; clear n0_ n1_ n2_ n3_; (try clear hb); (try clear hb2); (try clear hk); (try clear hi)) | ((with_reducible refine gC_ (f := 38) rfl ?_); refine gL_ (some 47) rfl rfl Tryd.func38 kr_ rfl #[.slice A1 l1.length c1, .int .i64 a2, .int .i64 a3, .int .i64 a5, .int .i64 a4] rfl mp_ ?_; (with_reducible refine (so_eligible.calls k _ _ l1 a2 a3 a5 a4 ja _ ?side1 ?side2 A14.out).mono ?_); (case side1 => repeat (first | exact (Kd.C_below HR1.out HB.out) | (with_reducible refine Kd.C_alloc ?_ _) | (with_reducible refine Kd.C_drewN ?_ _) | (with_reducible refine Kd.C_drew ?_))); (case side2 => exact HC1.out); rintro e w24 ⟨La, rfl, ho0, hb⟩; refine ⟨_, rfl, ?_⟩; have n0_ := A0_.mk (Kd.rB_ (xR_ ca.out) hb); have n1_ := A0_.mk (Kd.R_elder' (xR_ ea.out) (Kd.R_base ho0) hb); have n2_ := A0_.mk (Kd.rL_ (Kd.R_new' ho0 (Kd.R_lt (xR_ ea.out))) (bZ_ (xB1_ HB da))); have n3_ := A0_.mk (kB_ (g := ba) (o := .cells zC_ 26 (0, 0)) (xK_ aa.out) hb); have n4_ := A0_.mk (bT_ (xB1_ HB da) hb); clear ca ea aa HB; have ca := n0_; have ea := n1_; have fa := n2_; have aa := n3_; have HB := n4_; clear n0_ n1_ n2_ n3_ n4_; (try clear hb); (try clear hb2); (try clear hk); (try clear hi); (try clear ho0); obtain ⟨Ga, Ha, Ia⟩ := Kd.rS_' fa.out; subst Ia) | ((with_reducible refine gC_ (f := 40) rfl ?_); refine gL_ (some 48) rfl rfl Tryd.func40 kr_ rfl #[.slice xa ha.length ya, .slice Ga ja.length Ha] rfl mp_ ?_; (with_reducible refine (so_total.calls k _ _ ha _ _ ja ra sa ta _ ?side1 ?side2 ?side3 ?side4 A15.out).mono ?_); (case side1 => repeat (first | exact (Kd.rr_' ca.out).2.2 | (with_reducible refine Kd.C_alloc ?_ _) | (with_reducible refine Kd.C_drewN ?_ _) | (with_reducible refine Kd.C_drew ?_))); (case side2 => exact (Kd.rr_' ca.out).2.1); (case side3 => repeat (first | exact (Kd.rr_' fa.out).2.2 | (with_reducible refine Kd.C_alloc ?_ _) | (with_reducible refine Kd.C_drewN ?_ _) | (with_reducible refine Kd.C_drew ?_))); (case side4 => exact (Kd.rr_' fa.out).2.1); rintro e w26 ⟨rfl, hb⟩; refine ⟨_, rfl, ?_⟩; have n0_ := A0_.mk (Kd.rB_ (xR_ ca.out) hb); have n1_ := A0_.mk (Kd.rB_ (xR_ ea.out) hb); have n2_ := A0_.mk (Kd.rB_ (xR_ fa.out) hb); have n3_ := A0_.mk (kB_ (g := ba) (o := .cells zC_ 26 (0, 0)) (xK_ aa.out) hb); have n4_ := A0_.mk (bT_ (xB1_ HB da) hb); clear ca ea fa aa HB; have ca := n0_; have ea := n1_; have fa := n2_; have aa := n3_; have HB := n4_; clear n0_ n1_ n2_ n3_ n4_; (try clear hb); (try clear hb2); (try clear hk); (try clear hi)) | ((with_reducible refine gC_ (f := 39) rfl ?_); refine gL_ (some 49) rfl rfl Tryd.func39 kr_ rfl #[.agg #[.bool oa, .string pa, .string qa], .agg #[.bool ra, .string sa, .string ta]] rfl mp_ ?_; (with_reducible refine (q_Min.calls k oa pa qa ra sa ta ka ua va _ A16.out).mono ?_); rintro e w27 ⟨rfl, hb⟩; refine ⟨_, rfl, ?_⟩; have n0_ := A0_.mk (Kd.rB_ (xR_ ca.out) hb); have n1_ := A0_.mk (Kd.rB_ (xR_ ea.out) hb); have n2_ := A0_.mk (Kd.rB_ (xR_ fa.out) hb); have n3_ := A0_.mk (kB_ (g := ba) (o := .cells zC_ 26 (0, 0)) (xK_ aa.out) hb); have n4_ := A0_.mk (bT_ (xB1_ HB da) hb); clear ca ea fa aa HB; have ca := n0_; have ea := n1_; have fa := n2_; have aa := n3_; have HB := n4_; clear n0_ n1_ n2_ n3_ n4_; (try clear hb); (try clear hb2); (try clear hk); (try clear hi); have Ma : w27.cell? ⟨ba, 0, none⟩ = some (.bool false) := (kc_ aa.out 0).trans rfl; have Na : w27.cell? ⟨ba, 1, none⟩ = some (.string (⟨#[]⟩ : ByteArray)) := (kc_ aa.out 1).trans rfl; have Oa : w27.cell? ⟨ba, 2, none⟩ = some (.string (⟨#[]⟩ : ByteArray)) := (kc_ aa.out 2).trans rfl; have Pa := kF_ aa.out 0; have Qa := kF_ aa.out 1; have Ra := kF_ aa.out 2))
   refine bodyPost_ret (results_ct rfl _ _ ba 26 #[.bool ka, .string ua, .string va] (0, 0) _ rfl (by (with_reducible repeat (first | apply kN_ | apply kD_ | apply kA_)); refine kP_ (cs := #[.bool ka, .string ua, .string (⟨#[]⟩ : ByteArray)]) ?_ 2 _ rfl; (with_reducible repeat (first | apply kN_ | apply kD_ | apply kA_)); refine kP_ (cs := #[.bool ka, .string (⟨#[]⟩ : ByteArray), .string (⟨#[]⟩ : ByteArray)]) ?_ 1 _ rfl; (with_reducible repeat (first | apply kN_ | apply kD_ | apply kA_)); refine kP_ (cs := zC_) ?_ 0 _ rfl; (with_reducible repeat (first | apply kN_ | apply kD_ | apply kA_)); exact aa.out) Tryd.underlying26 rfl kr_) rfl ?_
   exact ⟨rE_, xB1_ HB da⟩
  ·replace c10 := Bool.eq_false_iff.mpr c10
   subst c10
   have H1 : (some (false, (⟨#[]⟩ : ByteArray), (⟨#[]⟩ : ByteArray), 14)) = some (r1, r2, r3, r4) := by rw [if_neg (show ¬ (false = true) by decide)] at H; exact H
   clear H
   have H := H1
   clear H1
   simp only [Option.some.injEq, Prod.mk.injEq] at H
   obtain ⟨rfl, rfl, rfl, rfl⟩ := H
   go_enter Tryd.func23, Tryd.ntmps23
   go_wp2_with (first | ((with_reducible refine gD_ (N := 12) rfl ?_); refine bE_ ?hg (N := 12) ?hd (cs := zC_) (t := 26) ?hr ?_; (case hd => rfl); (case hg => rfl); (case hr => first | (go_simp; done) | (go_simp; rfl)); intro ba hg w29 hbox hb; have n0_ := A0_.mk (bT_ (xB_ HB) hb); have n1_ := A0_.mk (hbox); have n2_ := A0_.mk ((by rw [hg]; exact (bZ_ (xB_ HB)) : w.heap.size ≤ ba)); have n3_ := A0_.mk ((by rw [hg]; exact (bZ_ (xB_ HB)) : w.heap.size ≤ ba)); clear HB; have HB := n0_; have aa := n1_; have wa := n2_; have da := n3_; clear n0_ n1_ n2_ n3_; clear hb hbox hg) | ((with_reducible refine gC_ (f := 36) rfl ?_); refine gL_ (some 20) rfl rfl Tryd.func36 kr_ rfl #[.int .i64 a0, .slice A1 l1.length c1, .int .i64 a2, .int .i64 a3] rfl mp_ ?_; (with_reducible refine (so_check.calls k a0 _ _ l1 a2 a3 ga _ ?side1 ?side2 A7.out).mono ?_); (case side1 => repeat (first | exact (Kd.C_below HR1.out HB.out) | (with_reducible refine Kd.C_alloc ?_ _) | (with_reducible refine Kd.C_drewN ?_ _) | (with_reducible refine Kd.C_drew ?_))); (case side2 => exact HC1.out); rintro e w30 ⟨rfl, hb⟩; refine ⟨_, rfl, ?_⟩; have n0_ := A0_.mk (kB_ (g := ba) (o := .cells zC_ 26 (0, 0)) (xK_ aa.out) hb); have n1_ := A0_.mk (bT_ (xB1_ HB da) hb); clear aa HB; have aa := n0_; have HB := n1_; clear n0_ n1_; (try clear hb); (try clear hb2); (try clear hk); (try clear hi)) | ((with_reducible refine gC_ (f := 32) rfl ?_); refine gL_ (some 28) rfl rfl Tryd.func32 kr_ rfl #[.int .i64 a0, .int .i64 a4, .int .i64 a5] rfl mp_ ?_; (with_reducible refine (so_pair.calls a0 a4 a5 false _ A9.out).mono ?_); rintro e w' ⟨rfl, ⟨nd, rfl⟩⟩; refine ⟨_, rfl, ?_⟩; (try (rw [drewN_self w30]; generalize hq_ : World.drewN w30 _ = w30; have n0_ : A0_ (w30.heap[ba]? = some (.cells zC_ 26 (0, 0))) := ⟨by rw [← hq_]; exact (xK_ aa.out)⟩; have n1_ : A0_ (Below w.heap.size w w30) := ⟨by rw [← hq_]; exact (xB1_ HB da)⟩; clear aa HB hq_; have aa := n0_; have HB := n1_; clear n0_ n1_)); have Sa : w30.cell? ⟨ba, 0, none⟩ = some (.bool false) := (kc_ aa.out 0).trans rfl; have Ta : w30.cell? ⟨ba, 1, none⟩ = some (.string (⟨#[]⟩ : ByteArray)) := (kc_ aa.out 1).trans rfl; have Ua : w30.cell? ⟨ba, 2, none⟩ = some (.string (⟨#[]⟩ : ByteArray)) := (kc_ aa.out 2).trans rfl; have Va := kF_ aa.out 0; have Wa := kF_ aa.out 1; have Xa := kF_ aa.out 2))
   refine bodyPost_ret (results_ct rfl _ _ ba 26 zC_ (0, 0) _ rfl (by (with_reducible repeat (first | apply kN_ | apply kD_ | apply kA_)); refine kP_ (cs := zC_) ?_ 2 _ rfl; (with_reducible repeat (first | apply kN_ | apply kD_ | apply kA_)); refine kP_ (cs := zC_) ?_ 1 _ rfl; (with_reducible repeat (first | apply kN_ | apply kD_ | apply kA_)); refine kP_ (cs := zC_) ?_ 0 _ rfl; (with_reducible repeat (first | apply kN_ | apply kD_ | apply kA_)); exact aa.out) Tryd.underlying26 rfl kr_) rfl ?_
   exact ⟨rE_, xB1_ HB da⟩
 ·rw [if_neg c8] at H
  have za : (ga == 0) = false := beq_eq_false_iff_ne.mpr c8
  have Aa : (ga != 0) = true := bne_iff_ne.mpr c8
  simp only [Option.some.injEq, Prod.mk.injEq] at H
  obtain ⟨rfl, rfl, rfl, rfl⟩ := H
  go_enter Tryd.func23, Tryd.ntmps23
  go_wp2_with (first | ((with_reducible refine gD_ (N := 12) rfl ?_); refine bE_ ?hg (N := 12) ?hd (cs := zC_) (t := 26) ?hr ?_; (case hd => rfl); (case hg => rfl); (case hr => first | (go_simp; done) | (go_simp; rfl)); intro ba hg w32 hbox hb; have n0_ := A0_.mk (bT_ (xB_ HB) hb); have n1_ := A0_.mk (hbox); have n2_ := A0_.mk ((by rw [hg]; exact (bZ_ (xB_ HB)) : w.heap.size ≤ ba)); have n3_ := A0_.mk ((by rw [hg]; exact (bZ_ (xB_ HB)) : w.heap.size ≤ ba)); clear HB; have HB := n0_; have aa := n1_; have wa := n2_; have da := n3_; clear n0_ n1_ n2_ n3_; clear hb hbox hg) | ((with_reducible refine gC_ (f := 36) rfl ?_); refine gL_ (some 20) rfl rfl Tryd.func36 kr_ rfl #[.int .i64 a0, .slice A1 l1.length c1, .int .i64 a2, .int .i64 a3] rfl mp_ ?_; (with_reducible refine (so_check.calls k a0 _ _ l1 a2 a3 ga _ ?side1 ?side2 A7.out).mono ?_); (case side1 => repeat (first | exact (Kd.C_below HR1.out HB.out) | (with_reducible refine Kd.C_alloc ?_ _) | (with_reducible refine Kd.C_drewN ?_ _) | (with_reducible refine Kd.C_drew ?_))); (case side2 => exact HC1.out); rintro e w33 ⟨rfl, hb⟩; refine ⟨_, rfl, ?_⟩; have n0_ := A0_.mk (kB_ (g := ba) (o := .cells zC_ 26 (0, 0)) (xK_ aa.out) hb); have n1_ := A0_.mk (bT_ (xB1_ HB da) hb); clear aa HB; have aa := n0_; have HB := n1_; clear n0_ n1_; (try clear hb); (try clear hb2); (try clear hk); (try clear hi); have Ya : w33.cell? ⟨ba, 0, none⟩ = some (.bool false) := (kc_ aa.out 0).trans rfl; have Za : w33.cell? ⟨ba, 1, none⟩ = some (.string (⟨#[]⟩ : ByteArray)) := (kc_ aa.out 1).trans rfl; have ab : w33.cell? ⟨ba, 2, none⟩ = some (.string (⟨#[]⟩ : ByteArray)) := (kc_ aa.out 2).trans rfl; have bb := kF_ aa.out 0; have cb := kF_ aa.out 1; have db := kF_ aa.out 2))
  refine bodyPost_ret (results_ct rfl _ _ ba 26 zC_ (0, 0) _ rfl (by (with_reducible repeat (first | apply kN_ | apply kD_ | apply kA_)); refine kP_ (cs := zC_) ?_ 2 _ rfl; (with_reducible repeat (first | apply kN_ | apply kD_ | apply kA_)); refine kP_ (cs := zC_) ?_ 1 _ rfl; (with_reducible repeat (first | apply kN_ | apply kD_ | apply kA_)); refine kP_ (cs := zC_) ?_ 0 _ rfl; (with_reducible repeat (first | apply kN_ | apply kD_ | apply kA_)); exact aa.out) Tryd.underlying26 rfl kr_) rfl ?_
  exact ⟨rE_, xB1_ HB da⟩
end C
end Go.Proofs.YtnegkpnhjgimcaaDoor
end
