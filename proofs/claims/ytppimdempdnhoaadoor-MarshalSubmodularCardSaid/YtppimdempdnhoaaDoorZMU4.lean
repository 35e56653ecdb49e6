/- A part of the proof of marshalSubmodular_card (see YtppimdempdnhoaaDoorZMU6): what the functions that it reaches compute, each by its contract. -/
import Derived.Test.YtppimdempdnhoaaDoorZMU3
section
namespace Go.Proofs.YtppimdempdnhoaaDoor.C
set_option maxHeartbeats 8000000
set_option maxRecDepth 100000
open Go.RowKit Go.PrWords Go.PrLast Go.PrMore
attribute [local go_sem] max2_int min2_int max_two min_two max_three min_three max_four min_four
set_option linter.unusedVariables false
set_option linter.unusedSimpArgs false
mutual
def marshal_Greedy.l0 : Nat → List (S32) → Int → Int → List (S32) → List (S32) → List Int → Option ((List (S32)) × Int)
 | 0, _, _, _, _, _, _ => none
 | k + 1, x8, x25, x26, x784000, x784001, x784002 => if x26 < x25 then (marshal_Greedy.l1 k x8 x26 x25 x26 (x784000.length : Int) 0 x784000 x784001 x784002) else (some (x8, 0))
def marshal_Greedy.l1 : Nat → List (S32) → Int → Int → Int → Int → Int → List (S32) → List (S32) → List Int → Option ((List (S32)) × Int)
 | 0, _, _, _, _, _, _, _, _, _ => none
 | k + 1, x8, x9, x25, x26, x31, x32, x784000, x784001, x784002 => if x32 < x31 then (if 0 ≤ x9 then (if x9 < (x784002.length : Int) then (if 0 ≤ x32 then (if (Go.bits .and .u64 (rd x784002 x9) (shl .u64 1 x32)) = 0 then (marshal_Greedy.l1 k x8 x9 x25 x26 x31 (wrap64 (x32 + 1)) x784000 x784001 x784002) else (if x9 < (x784001.length : Int) then (if x9 < (x8.length : Int) then ((q_Subtract.f k ((r32_ x784001 x9).f0) ((r32_ x784001 x9).f1) ((r32_ x784001 x9).f2) ((r32_ x8 x9).f0) ((r32_ x8 x9).f1) ((r32_ x8 x9).f2)).bind fun bt790 => (if x32 < (x784000.length : Int) then ((q_Min.f k bt790.1 bt790.2.1 bt790.2.2 ((r32_ x784000 x32).f0) ((r32_ x784000 x32).f1) ((r32_ x784000 x32).f2)).bind fun bt794 => ((q_Add.f k ((r32_ x8 x9).f0) ((r32_ x8 x9).f1) ((r32_ x8 x9).f2) bt794.1 bt794.2.1 bt794.2.2).bind fun bt799 => ((q_Subtract.f k ((r32_ x784000 x32).f0) ((r32_ x784000 x32).f1) ((r32_ x784000 x32).f2) bt794.1 bt794.2.1 bt794.2.2).bind fun bt804 => (marshal_Greedy.l1 k (x8.set (x9 : Int).toNat (⟨bt799.1, bt799.2.1, bt799.2.2⟩ : S32)) x9 x25 x26 x31 (wrap64 (x32 + 1)) (x784000.set (x32 : Int).toNat (⟨bt804.1, bt804.2.1, bt804.2.2⟩ : S32)) x784001 x784002)))) else (none))) else (none)) else (none))) else (none)) else (none)) else (none)) else (marshal_Greedy.l0 k x8 x25 (wrap64 (x26 + 1)) x784000 x784001 x784002)
end
def marshal_Greedy.f (k : Nat) (l0 : List (S50)) (l1 : List (S32)) : Option ((List (S32)) × Int) := (collateral_Check.f k l0 l1).bind fun t773 => (if t773 = 0 then ((marshal_build.f k l0 l1).bind fun bt774 => (if 0 ≤ (l1.length : Int) then (if ((l1.length : Int) : Int).toNat ≤ 7036874417766 then ((some (List.replicate ((l1.length : Int) : Int).toNat z32 : List (S32))).bind fun y784 => (marshal_Greedy.l0 k y784 (y784.length : Int) 0 bt774.1 bt774.2.1 bt774.2.2)) else (none)) else (none))) else (none))
theorem marshal_Greedy.mono_l : ∀ k, (∀ y0 y1 y2 y3 y4 y5, LeO (marshal_Greedy.l0 k y0 y1 y2 y3 y4 y5) (marshal_Greedy.l0 (k + 1) y0 y1 y2 y3 y4 y5)) ∧ (∀ y0 y1 y2 y3 y4 y5 y6 y7 y8, LeO (marshal_Greedy.l1 k y0 y1 y2 y3 y4 y5 y6 y7 y8) (marshal_Greedy.l1 (k + 1) y0 y1 y2 y3 y4 y5 y6 y7 y8))
 | 0 => ⟨fun _ _ _ _ _ _ r h => by simp [marshal_Greedy.l0] at h, fun _ _ _ _ _ _ _ _ _ r h => by simp [marshal_Greedy.l1] at h⟩
 | k + 1 => by
  obtain ⟨ih0, ih1⟩ := marshal_Greedy.mono_l k
  refine ⟨?_, ?_⟩
  ·intro y0 y1 y2 y3 y4 y5
   unfold marshal_Greedy.l0
   repeat' first
   | (with_reducible first | exact ih0 _ _ _ _ _ _ | exact ih1 _ _ _ _ _ _ _ _ _ | exact collateral_Check.mono _ _ _ | exact marshal_build.mono _ _ _ | exact q_Add.mono _ _ _ _ _ _ _ | exact q_Min.mono _ _ _ _ _ _ _ | exact q_Subtract.mono _ _ _ _ _ _ _ | exact LeO.refl _ | exact LeO.none _ | refine LeO.ite ?_ ?_ | refine LeO.bind ?_ (fun _ => ?_))
  ·intro y0 y1 y2 y3 y4 y5 y6 y7 y8
   unfold marshal_Greedy.l1
   repeat' first
   | (with_reducible first | exact ih0 _ _ _ _ _ _ | exact ih1 _ _ _ _ _ _ _ _ _ | exact collateral_Check.mono _ _ _ | exact marshal_build.mono _ _ _ | exact q_Add.mono _ _ _ _ _ _ _ | exact q_Min.mono _ _ _ _ _ _ _ | exact q_Subtract.mono _ _ _ _ _ _ _ | exact LeO.refl _ | exact LeO.none _ | refine LeO.ite ?_ ?_ | refine LeO.bind ?_ (fun _ => ?_))
theorem marshal_Greedy.mono : ∀ a0 a1 k, LeO (marshal_Greedy.f k a0 a1) (marshal_Greedy.f (k + 1) a0 a1) := by
 intro a0 a1 k
 obtain ⟨ih0, ih1⟩ := marshal_Greedy.mono_l k
 unfold marshal_Greedy.f
 repeat' first
   | (with_reducible first | exact ih0 _ _ _ _ _ _ | exact ih1 _ _ _ _ _ _ _ _ _ | exact collateral_Check.mono _ _ _ | exact marshal_build.mono _ _ _ | exact q_Add.mono _ _ _ _ _ _ _ | exact q_Min.mono _ _ _ _ _ _ _ | exact q_Subtract.mono _ _ _ _ _ _ _ | exact LeO.refl _ | exact LeO.none _ | refine LeO.ite ?_ ?_ | refine LeO.bind ?_ (fun _ => ?_))
def marshal_Greedy.T12 : Bool × List (List Nat × List Nat) := (true, [([], []), ([0], [0]), ([], []), ([1, 2], [1, 2]), ([3], [3]), ([], []), ([5], [5]), ([4, 6], [4, 6]), ([7], [7])])
def marshal_Greedy.B12 : List Nat := [0, 1, 0, 7, 15, 0, 32, 127, 255]
theorem marshal_Greedy.tab12 : rtab .any (opsOf Tryd.f9 12) = marshal_Greedy.T12 := by kernel_rfl
theorem marshal_Greedy.bits12 : waitsOk marshal_Greedy.T12.2 marshal_Greedy.B12 = true := by kernel_rfl
def marshal_Greedy.T13 : Bool × List (List Nat × List Nat) := (true, [([], []), ([0], [0]), ([], []), ([1, 2], [1, 2]), ([3], [3]), ([], []), ([], []), ([5, 6], [5, 6]), ([7], [7]), ([4, 8], [4, 8]), ([], []), ([10], [10]), ([], []), ([11, 12], [11, 12]), ([13], [13]), ([9, 14, 9], [9, 14]), ([], []), ([16, 15, 15, 0, 1, 2, 3, 4, 5, 6, 7, 8, 9, 10, 11, 12, 13, 14, 15, 16], [15, 16])])
def marshal_Greedy.B13 : List Nat := [0, 1, 0, 7, 15, 0, 0, 96, 224, 511, 0, 1024, 0, 7168, 15360, 32767, 0, 131071]
theorem marshal_Greedy.tab13 : rtab .any (opsOf Tryd.f9 13) = marshal_Greedy.T13 := by kernel_rfl
theorem marshal_Greedy.bits13 : waitsOk marshal_Greedy.T13.2 marshal_Greedy.B13 = true := by kernel_rfl
def marshal_Greedy.T14 : Bool × List (List Nat × List Nat) := (true, [([], []), ([], []), ([], []), ([], []), ([2, 3], [2, 3]), ([4], [4]), ([], []), ([5, 6], [5, 6]), ([0, 1, 0, 1, 2, 3, 4, 5, 6, 7], [0, 1]), ([8, 7, 7, 0, 1, 2, 3, 4, 5, 6, 7], [7, 8])])
def marshal_Greedy.B14 : List Nat := [0, 0, 0, 0, 12, 28, 0, 124, 255, 511]
theorem marshal_Greedy.tab14 : rtab .any (opsOf Tryd.f9 14) = marshal_Greedy.T14 := by kernel_rfl
theorem marshal_Greedy.bits14 : waitsOk marshal_Greedy.T14.2 marshal_Greedy.B14 = true := by kernel_rfl
def marshal_Greedy.T15 : Bool × List (List Nat × List Nat) := (true, [([], []), ([0], [0]), ([], []), ([], []), ([3], [3]), ([], []), ([4, 5], [4, 5]), ([6], [6]), ([], []), ([7, 8], [7, 8]), ([1, 2, 0, 1, 2, 3, 4, 5, 6, 7, 8, 9], [1, 2]), ([10, 9, 9, 0, 1, 2, 3, 4, 5, 6, 7, 8, 9], [9, 10])])
def marshal_Greedy.B15 : List Nat := [0, 1, 0, 0, 8, 0, 56, 120, 0, 504, 1023, 2047]
theorem marshal_Greedy.tab15 : rtab .any (opsOf Tryd.f9 15) = marshal_Greedy.T15 := by kernel_rfl
theorem marshal_Greedy.bits15 : waitsOk marshal_Greedy.T15.2 marshal_Greedy.B15 = true := by kernel_rfl
theorem marshal_Greedy.calls (k : Nat) (A0 : Option Addr) (c0 : Nat) (l0 : List (S50)) (A1 : Option Addr) (c1 : Nat) (l1 : List (S32)) (r1 : List (S32)) (r2 : Int) (w : World) (hr0 : Kd.C k50 w A0 l0.length l0) (hc0 : l0.length ≤ c0) (hr1 : Kd.C k32 w A1 l1.length l1) (hc1 : l1.length ≤ c1) (h : marshal_Greedy.f k l0 l1 = some (r1, r2)) :
  Calls Tryd.prog 9 #[.slice A0 l0.length c0, .slice A1 l1.length c1] w fun e w' => ∃ v0_ : Value, e = .returned (.tuple #[v0_, .int .i64 r2]) ∧ Kd.R k32 32 w' w.heap.size (fun _ => True) v0_ r1 ∧ Below w.heap.size w w' := by
 have hu56 := Tryd.underlying56
 have hu32 := Tryd.underlying32
 have HR0 := mk_ hr0
 have HC0 := mk_ hc0
 clear hr0 hc0
 have HR1 := mk_ hr1
 have HC1 := mk_ hc1
 clear hr1 hc1
 have HB := mk_ (Below.refl w.heap.size w)
 have H := h
 unfold marshal_Greedy.f at H
 clear h
 obtain ⟨jc, A3, H⟩ := oB_ H
 (try dsimp only at H)
 replace H := iS_ H
 rcases H with ⟨c4, H⟩ | ⟨c4, H⟩
 ·have kc := beq_iff_eq.mpr c4
  have lc := bne_eq_false_iff_eq.mpr c4
  clear c4
  obtain ⟨⟨Ja, Ka, pa⟩, A5, H⟩ := oB_ H
  (try dsimp only at H)
  obtain ⟨Lc, Mc, H⟩ := iE_ H
  obtain ⟨Nc, Oc, H⟩ := iE_ H
  obtain ⟨Sa, pb⟩ : ∃ y_ : List (S32), y_ = (List.replicate ((l1.length : Int) : Int).toNat z32) := ⟨_, rfl⟩
  (first | rw [← pb] at H | skip); (try with_reducible replace H := (Option.bind_some _ _).symm.trans H); (try dsimp only at H)
  have Ub := mk_ pb
  clear pb
  have H' := mk_ H
  clear H
  go_enter Tryd.func9, Tryd.ntmps9
  go_wp2_with (first | ((with_reducible refine gC_ (f := 19) rfl ?_); refine gL_ (some 14) rfl rfl Tryd.func19 kr_ rfl #[.slice A0 l0.length c0, .slice A1 l1.length c1] rfl mp_ ?_; (with_reducible refine (collateral_Check.calls k _ _ l0 _ _ l1 jc _ (xC_ HR0.out) HC0.out (xC_ HR1.out) HC1.out A3.out).mono ?_); rintro e w8 ⟨rfl, hb⟩; refine ⟨_, rfl, ?_⟩; replace HB := mk_ (bT_ (xB_ HB) hb)) | ((with_reducible refine gC_ (f := 20) rfl ?_); refine gL_ (some 20) rfl rfl Tryd.func20 kr_ rfl #[.slice A0 l0.length c0, .slice A1 l1.length c1] rfl mp_ ?_; (with_reducible refine (marshal_build.calls k _ _ l0 _ _ l1 Ja Ka pa _ (xC_ (Kd.C_below HR0.out HB.out)) HC0.out (xC_ (Kd.C_below HR1.out HB.out)) HC1.out A5.out).mono ?_); rintro e w9 ⟨Pc, Qc, Rc, rfl, ho0, ho1, ho2, hb⟩; refine ⟨_, rfl, ?_⟩; have Za := mk_ (Kd.rL_ ho0 (bZ_ (xB_ HB))); have ab := mk_ (Kd.rL_ ho1 (bZ_ (xB_ HB))); have fb := mk_ (Kd.rL_ ho2 (bZ_ (xB_ HB))); replace HB := mk_ (bT_ (xB_ HB) hb)) | ((with_reducible refine gD_ (N := 7) rfl ?_); refine bX_ (N := 7) (cs := #[.slice none 0 0, .slice none 0 0, .slice none 0 0]) (t := 56) ?_; intro ma hg w10 hbox hb; replace Za := mk_ (Kd.rB_ (xR_ Za.out) hb); replace ab := mk_ (Kd.rB_ (xR_ ab.out) hb); replace fb := mk_ (Kd.rB_ (xR_ fb.out) hb); have ca := mk_ (hbox); have Sc := mk_ (gZ_ hg (bZ_ (xB_ HB))); have ua := mk_ (gZ_ hg (bZ_ (xB_ HB))); replace HB := mk_ (bT_ (xB_ HB) hb); clear hb hbox hg; obtain ⟨Ma, Na, mc⟩ := Kd.rS_' Za.out; subst mc; obtain ⟨Tc, Uc, Vc, Wc, Xc, Yc⟩ := kG3_ ca.out; obtain ⟨Ta, Ua, nc⟩ := Kd.rS_' ab.out; subst nc; obtain ⟨La, xa, oc⟩ := Kd.rS_' fb.out; subst oc) | ((with_reducible refine gD_ (N := 23) rfl ?_); refine Kd.R_make k32 _ 32 rfl (N := 23) rfl 24 _ _ rfl (l1.length : Int) rfl rfl Tryd.underlying24 (.agg #[(.bool false), (.string ⟨#[]⟩), (.string ⟨#[]⟩)]) 40 info32 rfl (by decide) (by omega) z32 (ok := fun _ => True) (okp := fun _ => True) (k32_mkM _ _ _ z32 ) (fun _ hk => hk) trivial (oD_) (Nat.le_trans (Nat.mul_le_mul_right _ (oD_ : (l1.length : Int).toNat ≤ 7036874417766)) (by omega)) (Below.refl _ _) (Nat.le_refl _) ?_; intro Zc w15 bb hb hg_ hnew_; clear hg_ hnew_; (first | rw [← Ub.out] at bb | (simp only [Int.reduceToNat] at bb; rw [← Ub.out] at bb)); replace fb := mk_ (Kd.rB_ (by refine xr_ ?_; exact (Kd.rM_ (Kd.rF_ (p := ⟨ma, 2, none⟩) (Kd.rF_ (p := ⟨ma, 1, none⟩) (Kd.rF_ (p := ⟨ma, 0, none⟩) (Kd.R_types fb.out ca.out (by decide)) (fun _ hk => hk.2) (.slice Ma Ja.length Na)) (fun _ hk => hk.2) (.slice Ta Ka.length Ua)) (fun _ hk => hk.2) (.slice La pa.length xa)) (fun _ h_ => h_.1))) hb); have Vb := mk_ (Kd.rL_ (Kd.R_new' (Kd.R_new' bb (Kd.R_lt (by refine xr_ ?_; exact (Kd.rM_ (Kd.rF_ (p := ⟨ma, 2, none⟩) (Kd.rF_ (p := ⟨ma, 1, none⟩) (Kd.rF_ (p := ⟨ma, 0, none⟩) (Kd.R_types Za.out ca.out (by decide)) (fun _ hk => hk.2) (.slice Ma Ja.length Na)) (fun _ hk => hk.2) (.slice Ta Ka.length Ua)) (fun _ hk => hk.2) (.slice La pa.length xa)) (fun _ h_ => h_.1))))) (Kd.R_lt (by refine xr_ ?_; exact (Kd.rM_ (Kd.rF_ (p := ⟨ma, 2, none⟩) (Kd.rF_ (p := ⟨ma, 1, none⟩) (Kd.rF_ (p := ⟨ma, 0, none⟩) (Kd.R_types ab.out ca.out (by decide)) (fun _ hk => hk.2) (.slice Ma Ja.length Na)) (fun _ hk => hk.2) (.slice Ta Ka.length Ua)) (fun _ hk => hk.2) (.slice La pa.length xa)) (fun _ h_ => h_.1))))) (bZ_ (xB1_ HB ua))); replace Za := mk_ (Kd.R_elder' (by refine xr_ ?_; exact (Kd.rM_ (Kd.rF_ (p := ⟨ma, 2, none⟩) (Kd.rF_ (p := ⟨ma, 1, none⟩) (Kd.rF_ (p := ⟨ma, 0, none⟩) (Kd.R_types Za.out ca.out (by decide)) (fun _ hk => hk.2) (.slice Ma Ja.length Na)) (fun _ hk => hk.2) (.slice Ta Ka.length Ua)) (fun _ hk => hk.2) (.slice La pa.length xa)) (fun _ h_ => h_.1))) (Kd.R_base bb) hb); replace ab := mk_ (Kd.R_elder' (by refine xr_ ?_; exact (Kd.rM_ (Kd.rF_ (p := ⟨ma, 2, none⟩) (Kd.rF_ (p := ⟨ma, 1, none⟩) (Kd.rF_ (p := ⟨ma, 0, none⟩) (Kd.R_types ab.out ca.out (by decide)) (fun _ hk => hk.2) (.slice Ma Ja.length Na)) (fun _ hk => hk.2) (.slice Ta Ka.length Ua)) (fun _ hk => hk.2) (.slice La pa.length xa)) (fun _ h_ => h_.1))) (Kd.R_base bb) hb); replace ca := mk_ (kB_ (g := ma) (o := .cells #[.slice Ma Ja.length Na, .slice Ta Ka.length Ua, .slice La pa.length xa] 56 (0, 0)) (by refine xk_ ?_; refine kQ_ (cs := #[.slice Ma Ja.length Na, .slice Ta Ka.length Ua, .slice none 0 0]) ?_ 2 _ rfl; refine kQ_ (cs := #[.slice Ma Ja.length Na, .slice none 0 0, .slice none 0 0]) ?_ 1 _ rfl; refine kQ_ (cs := #[.slice none 0 0, .slice none 0 0, .slice none 0 0]) ?_ 0 _ rfl; exact ca.out) hb); replace HB := mk_ (bT_ (xB1_ HB ua) hb); clear hb bb; obtain ⟨gb, Ca, pc⟩ := Kd.rS_' Vb.out; subst pc))
  go_loopg [26] k (fun kq v26 w' => ∃ (cb : List (S32)) (aa : Int) (Va : List (S32)) (nb : List (S32)) (u784000 : Value) (u784001 : Value), v26 = .int .i64 aa ∧ A0_ (marshal_Greedy.l0 kq cb (Sa.length : Int) aa Va nb pa = some (r1, r2)) ∧ A0_ (kq ≤ k) ∧ A0_ (Kd.R k32 32 w' w.heap.size (fun k_ => some k_ ≠ (u784000 : Value).ownBlock ∧ some k_ ≠ (u784001 : Value).ownBlock) (.slice gb Sa.length Ca) cb) ∧ A0_ (Kd.R k32 32 w' w.heap.size (fun k_ => some k_ ≠ ((.slice gb Sa.length Ca) : Value).ownBlock ∧ some k_ ≠ (u784001 : Value).ownBlock) u784000 Va) ∧ A0_ (Kd.R k32 32 w' w.heap.size (fun k_ => some k_ ≠ ((.slice gb Sa.length Ca) : Value).ownBlock ∧ some k_ ≠ (u784000 : Value).ownBlock) u784001 nb) ∧ A0_ (Kd.R (Kd.int .u64) 59 w' w.heap.size (fun _ => True) (.slice La pa.length xa) pa) ∧ A0_ (w'.heap[ma]? = some (.cells #[u784000, u784001, (.slice La pa.length xa)] 56 (0, 0))) ∧ A0_ (Below w.heap.size w w'))
  case atStart => exact ⟨(Sa), (0), (Ja), (Ka), (.slice Ma Ja.length Na), (.slice Ta Ka.length Ua), (rS_), H', ⟨Nat.le_refl _⟩, ⟨by refine xr_ ?_; exact Kd.rM_ Vb.out (fun _ hk => ⟨hk.1.2, hk.2⟩)⟩, ⟨by refine xr_ ?_; exact Kd.rM_ Za.out (fun _ hk => ⟨hk.2, hk.1⟩)⟩, ⟨by refine xr_ ?_; exact Kd.rM_ ab.out (fun _ hk => ⟨hk.2, hk.1⟩)⟩, ⟨by refine xr_ ?_; exact fb.out⟩, ⟨by refine xk_ ?_; exact ca.out⟩, ⟨xB1_ HB ua⟩⟩
  case round =>
   clear H'
   obtain ⟨cb, aa, Va, nb, u784000, u784001, rfl, HA, HK1, ea, fa, ga, ka, ca, HB⟩ := hrel
   have ra := (Kd.rr_' ea.out).1
   rw [ra] at ea
   (try simp only [ra])
   (try simp only [ra] at ca)
   (try simp only [ra] at fa)
   (try simp only [ra] at ga)
   (try simp only [ra] at ka)
   cases gk with
   | zero => exact absurd HA.out (by simp [marshal_Greedy.l0])
   | succ k1 =>
    have H := HA.out
    clear HA
    simp only [marshal_Greedy.l0] at H
    replace H := iS_ H
    rcases H with ⟨c18, H⟩ | ⟨c18, H⟩
    ·have qb := decide_eq_true c18
     (try (have c18h0 := qb; simp only [ra] at c18h0))
     clear c18
     have H' := mk_ H
     clear H
     obtain ⟨ad, bd, cd, dd, ed, fd⟩ := kG3_ ca.out
     obtain ⟨qc, rc, sc⟩ := Kd.rS_' fa.out
     subst sc
     go_wp2
     go_loopg [32] k1 (fun kq v32 w' => ∃ (ia : List (S32)) (da : Int) (ha : List (S32)) (ja : List (S32)) (u784000 : Value) (u784001 : Value), v32 = .int .i64 da ∧ A0_ (marshal_Greedy.l1 kq ia aa (Sa.length : Int) aa (Va.length : Int) da ha ja pa = some (r1, r2)) ∧ A0_ (kq ≤ k1) ∧ A0_ (Kd.R k32 32 w' w.heap.size (fun k_ => some k_ ≠ (u784000 : Value).ownBlock ∧ some k_ ≠ (u784001 : Value).ownBlock) (.slice gb cb.length Ca) ia) ∧ A0_ (Kd.R k32 32 w' w.heap.size (fun k_ => some k_ ≠ ((.slice gb cb.length Ca) : Value).ownBlock ∧ some k_ ≠ (u784001 : Value).ownBlock) u784000 ha) ∧ A0_ (Kd.R k32 32 w' w.heap.size (fun k_ => some k_ ≠ ((.slice gb cb.length Ca) : Value).ownBlock ∧ some k_ ≠ (u784000 : Value).ownBlock) u784001 ja) ∧ A0_ (Kd.R (Kd.int .u64) 59 w' w.heap.size (fun _ => True) (.slice La pa.length xa) pa) ∧ A0_ (w'.heap[ma]? = some (.cells #[u784000, u784001, (.slice La pa.length xa)] 56 (0, 0))) ∧ A0_ (Below w.heap.size w w'))
     case atStart => exact ⟨(cb), (0), (Va), (nb), (.slice qc Va.length rc), (u784001), (rS_), H', ⟨Nat.le_refl _⟩, ⟨by (try simp only [ra]); refine xr_ ?_; exact ea.out⟩, ⟨by (try simp only [ra]); refine xr_ ?_; exact fa.out⟩, ⟨by (try simp only [ra]); refine xr_ ?_; exact ga.out⟩, ⟨by (try simp only [ra]); refine xr_ ?_; exact ka.out⟩, ⟨by (try simp only [ra]); refine xk_ ?_; exact ca.out⟩, ⟨xB1_ HB ua⟩⟩
     case round =>
      clear H'
      obtain ⟨ia, da, ha, ja, u784000, u784001, rfl, HA, HK2, ea, fa, ga, ka, ca, HB⟩ := hrel
      have sa := (Kd.rr_' ea.out).1
      rw [sa] at ea
      (try simp only [sa])
      (try simp only [sa] at ca)
      (try simp only [sa] at fa)
      (try simp only [sa] at ga)
      (try simp only [sa] at ka)
      cases gk with
      | zero => exact absurd HA.out (by simp [marshal_Greedy.l1])
      | succ k2 =>
       have H := HA.out
       clear HA
       simp only [marshal_Greedy.l1] at H
       replace H := iS_ H
       rcases H with ⟨c21, H⟩ | ⟨c21, H⟩
       ·have rb := decide_eq_true c21
        (try (have c21h0 := rb; simp only [ra, sa] at c21h0))
        clear c21
        obtain ⟨id, H⟩ := iD_ H
        obtain ⟨tc, H⟩ := iD_ H
        (try (have c23h0 := tc; simp only [ra, sa] at c23h0))
        obtain ⟨jd, kd, H⟩ := iE_ H
        obtain ⟨kb, ob⟩ : ∃ j_ : Int, (shl .u64 1 da) = j_ := ⟨_, rfl⟩
        replace H : (if (Go.bits .and .u64 (rd pa aa) (kb)) = 0 then (marshal_Greedy.l1 k2 ia aa (Sa.length : Int) aa (Va.length : Int) (wrap64 (da + 1)) ha ja pa) else (if aa < (ja.length : Int) then (if aa < (ia.length : Int) then ((q_Subtract.f k2 ((r32_ ja aa).f0) ((r32_ ja aa).f1) ((r32_ ja aa).f2) ((r32_ ia aa).f0) ((r32_ ia aa).f1) ((r32_ ia aa).f2)).bind fun sb => (if da < (ha.length : Int) then ((q_Min.f k2 sb.1 sb.2.1 sb.2.2 ((r32_ ha da).f0) ((r32_ ha da).f1) ((r32_ ha da).f2)).bind fun ib => ((q_Add.f k2 ((r32_ ia aa).f0) ((r32_ ia aa).f1) ((r32_ ia aa).f2) ib.1 ib.2.1 ib.2.2).bind fun tb => ((q_Subtract.f k2 ((r32_ ha da).f0) ((r32_ ha da).f1) ((r32_ ha da).f2) ib.1 ib.2.1 ib.2.2).bind fun ub => (marshal_Greedy.l1 k2 (ia.set (aa : Int).toNat (⟨tb.1, tb.2.1, tb.2.2⟩ : S32)) aa (Sa.length : Int) aa (Va.length : Int) (wrap64 (da + 1)) (ha.set (da : Int).toNat (⟨ub.1, ub.2.1, ub.2.2⟩ : S32)) ja pa)))) else (none))) else (none)) else (none))) = some (r1, r2) := by first | (rw [ob] at H; exact H) | (simp only [ob] at H ⊢; exact H)
        have uc : (IntKind.u64.wrap (1 * 2 ^ min da.toNat 64)) = kb := ob
        have hji25z : da ≤ 64 → (IntKind.u64.wrap (1 * 2 ^ da.toNat)) = kb := shl_small ob
        have hji25u : (IntKind.u64.wrap (2 ^ min da.toNat 64)) = kb := by have h_ := uc; rw [Int.one_mul] at h_; exact h_
        have ld : da ≤ 64 → (IntKind.u64.wrap (2 ^ da.toNat)) = kb := fun hle_ => by have h_ := hji25z hle_; rw [Int.one_mul] at h_; exact h_
        replace H := iS_ H
        rcases H with ⟨c26, H⟩ | ⟨c26, H⟩
        ·have vc := beq_iff_eq.mpr c26
         have wc := bne_eq_false_iff_eq.mpr c26
         clear c26
         have H' := mk_ H
         clear H
         try go_wp2
         replace ea := mk_ (Kd.rD_ ea.out)
         replace fa := mk_ (Kd.rD_ fa.out)
         replace ga := mk_ (Kd.rD_ ga.out)
         replace ka := mk_ (Kd.rD_ ka.out)
         replace ca := mk_ (kD_ ca.out)
         replace HB := mk_ (b1_ HB.out)
         have db : 0 ≤ (aa : Int) := oD_
         have eb : aa < (pa.length : Int) := oD_
         obtain ⟨Ea, vb, mb⟩ := Kd.at_int (Kd.rr_' ka.out).2.2 aa db eb
         cases vb
         replace db := eq_true db
         replace eb := eq_true eb
         refine start_ (n := 9) (S := fun w' => w'.cell? ⟨ma, 0, none⟩ = some (u784000) ∧ w'.cell? ⟨ma, 1, none⟩ = some (u784001) ∧ w'.cell? ⟨ma, 2, none⟩ = some (.slice (some Ea) pa.length xa) ∧ w'.cell? (Ea.add (aa).toNat) = some (.int .u64 (rd pa aa))) (ds := []) (tf_ 0 9) kr_ rfl rfl ⟨(kc_ ca.out 0).trans rfl, (kc_ ca.out 1).trans rfl, (kc_ ca.out 2).trans rfl, mb⟩ (fun hHeld => ?_); refine with_tabW marshal_Greedy.tab12 marshal_Greedy.bits12 (fun HT_ HW_ => ?_)
         generalize wr.drew = w27 at ea fa ga ka ca HB mb hHeld ⊢
         refine pu_ (i := 0) (N := some 35) (v := ?_) (a' := ?_) (tf_ 1 8) rfl rfl (an_ HT_.out kr_) (fun _ _ _ h => h) (Or.inl ⟨by rfl, ?_⟩) ?_ ?_
         rotate_left
         ·intro w'
          go_simp
          with_reducible rfl
         rotate_left
         ·simp only [Act.put, s1_, s2_, s3_, i6_, i3_]
          rfl
         refine pu_ (i := 2) (N := some 37) (v := ?_) (a' := ?_) #[true, false, true, false, false, false, false, false, false] rfl rfl (an_ HT_.out kr_) (fun _ _ _ h => h) (Or.inl ⟨by rfl, ?_⟩) ?_ ?_
         rotate_left
         ·intro w'
          go_simp
          with_reducible rfl
         rotate_left
         ·simp only [Act.put, s1_, s2_, s3_, i6_, i3_]
          rfl
         refine pu_ (i := 5) (N := some 40) (v := ?_) (a' := ?_) #[true, false, true, false, false, true, false, false, false] rfl rfl (an_ HT_.out kr_) (fun _ _ _ h => h) (Or.inl ⟨by rfl, ?_⟩) ?_ ?_
         rotate_left
         ·intro w'
          go_simp
          with_reducible rfl
         rotate_left
         ·simp only [Act.put, s1_, s2_, s3_, i6_, i3_]
          rfl
         refine pu_ (i := 6) (N := some 41) (v := ?_) (a' := ?_) #[true, false, true, false, false, true, true, false, false] rfl rfl (an_ HT_.out kr_) (fun _ _ _ h => h) (Or.inl ⟨by rfl, ?_⟩) ?_ ?_
         rotate_left
         ·intro w'
          go_simp
          with_reducible rfl
         rotate_left
         ·simp only [Act.put, s1_, s2_, s3_, i6_, i3_]
          rfl
         refine take_ (i := 1) (N := some 36) (v := ?_) (a' := ?_) #[true, true, true, false, false, true, true, false, false] rfl rfl (tW_ HT_.out HW_.out kr_) (fun _ _ _ h => h) (Or.inl ⟨by rfl, ?_⟩) hHeld ?_ ?_
         rotate_left
         ·rintro w' ⟨s0, s1, s2, s3⟩
          go_simp
          with_reducible rfl
         rotate_left
         ·simp only [Act.put, s1_, s2_, s3_, i6_, i3_]
          rfl
         refine pu_ (i := 3) (N := some 38) (v := ?_) (a' := ?_) #[true, true, true, true, false, true, true, false, false] rfl rfl (an_ HT_.out kr_) (fun _ _ _ h => h) (Or.inl ⟨by rfl, ?_⟩) ?_ ?_
         rotate_left
         ·intro w'
          go_simp
          with_reducible rfl
         rotate_left
         ·simp only [Act.put, s1_, s2_, s3_, i6_, i3_]
          rfl
         refine take_ (i := 4) (N := some 39) (v := ?_) (a' := ?_) (tf_ 7 2) rfl rfl (tW_ HT_.out HW_.out kr_) (fun _ _ _ h => h) (Or.inl ⟨by rfl, ?_⟩) hHeld ?_ ?_
         rotate_left
         ·rintro w' ⟨s0, s1, s2, s3⟩
          go_simp
          with_reducible rfl
         rotate_left
         ·simp only [Act.put, s1_, s2_, s3_, i6_, i3_]
          rfl
         refine pu_ (i := 7) (N := some 42) (v := ?_) (a' := ?_) (tf_ 8 1) rfl rfl (an_ HT_.out kr_) (fun _ _ _ h => h) (Or.inl ⟨by rfl, ?_⟩) ?_ ?_
         rotate_left
         ·intro w'
          go_simp
          with_reducible rfl
         rotate_left
         ·simp only [Act.put, s1_, s2_, s3_, i6_, i3_]
          rfl
         refine pu_ (i := 8) (N := some 43) (v := ?_) (a' := ?_) (tf_ 9 0) rfl rfl (an_ HT_.out kr_) (fun _ _ _ h => h) (Or.inl ⟨by rfl, ?_⟩) ?_ ?_
         rotate_left
         ·intro w'
          go_simp
          with_reducible rfl
         rotate_left
         ·simp only [Act.put, s1_, s2_, s3_, i6_, i3_]
          rfl
         refine done_ (done_of HT_.out kr_) ?_
         try go_wp2
         (try simp only [← sa])
         (try simp only [ap_])
         go_roundg k2
         case measure => have := HK1.out; have := HK2.out; omega
         case rel => exact ⟨(ia), (wrap64 (da + 1)), (ha), (ja), (u784000), (u784001), (rS_), H', ⟨by have := HK1.out; have := HK2.out; omega⟩, ⟨by (try simp only [ra]); (try simp only [sa]); refine xr_ ?_; exact ea.out⟩, ⟨by (try simp only [ra]); (try simp only [sa]); refine xr_ ?_; exact fa.out⟩, ⟨by (try simp only [ra]); (try simp only [sa]); refine xr_ ?_; exact ga.out⟩, ⟨by (try simp only [ra]); (try simp only [sa]); refine xr_ ?_; exact ka.out⟩, ⟨by (try simp only [ra]); (try simp only [sa]); refine xk_ ?_; exact ca.out⟩, ⟨xB1_ HB ua⟩⟩
        ·have vc := beq_eq_false_iff_ne.mpr c26
         have wc := bne_iff_ne.mpr c26
         obtain ⟨xc, H⟩ := iD_ H
         (try (have c28h0 := xc; simp only [ra, sa] at c28h0))
         obtain ⟨yc, H⟩ := iD_ H
         (try (have c29h0 := yc; simp only [ra, sa] at c29h0))
         obtain ⟨⟨Oa, Pa, Qa⟩, A30, H⟩ := oB_ H
         (try dsimp only at H)
         obtain ⟨zc, H⟩ := iD_ H
         (try (have c31h0 := zc; simp only [ra, sa] at c31h0))
         obtain ⟨⟨va, wa, ya⟩, A32, H⟩ := oB_ H
         (try dsimp only at H)
         obtain ⟨⟨Ga, Ha, Ia⟩, A33, H⟩ := oB_ H
         (try dsimp only at H)
         obtain ⟨Wb, wb⟩ : ∃ y_ : List (S32), y_ = (ia.set (aa : Int).toNat (⟨Ga, Ha, Ia⟩ : S32)) := ⟨_, rfl⟩
         (first | rw [← wb] at H | skip); (try with_reducible replace H := (Option.bind_some _ _).symm.trans H); (try dsimp only at H)
         have Ac := mk_ wb
         clear wb
         obtain ⟨⟨Wa, Xa, Ya⟩, A35, H⟩ := oB_ H
         (try dsimp only at H)
         obtain ⟨Bc, xb⟩ : ∃ y_ : List (S32), y_ = (ha.set (da : Int).toNat (⟨Wa, Xa, Ya⟩ : S32)) := ⟨_, rfl⟩
         (first | rw [← xb] at H | skip); (try with_reducible replace H := (Option.bind_some _ _).symm.trans H); (try dsimp only at H)
         have Cc := mk_ xb
         clear xb
         have H' := mk_ H
         clear H
         try go_wp2
         replace ea := mk_ (Kd.rD_ ea.out)
         replace fa := mk_ (Kd.rD_ fa.out)
         replace ga := mk_ (Kd.rD_ ga.out)
         replace ka := mk_ (Kd.rD_ ka.out)
         replace ca := mk_ (kD_ ca.out)
         replace HB := mk_ (b1_ HB.out)
         have db : 0 ≤ (aa : Int) := oD_
         have eb : aa < (pa.length : Int) := oD_
         obtain ⟨Ea, vb, mb⟩ := Kd.at_int (Kd.rr_' ka.out).2.2 aa db eb
         cases vb
         replace db := eq_true db
         replace eb := eq_true eb
         refine start_ (n := 9) (S := fun w' => w'.cell? ⟨ma, 0, none⟩ = some (u784000) ∧ w'.cell? ⟨ma, 1, none⟩ = some (u784001) ∧ w'.cell? ⟨ma, 2, none⟩ = some (.slice (some Ea) pa.length xa) ∧ w'.cell? (Ea.add (aa).toNat) = some (.int .u64 (rd pa aa))) (ds := []) (tf_ 0 9) kr_ rfl rfl ⟨(kc_ ca.out 0).trans rfl, (kc_ ca.out 1).trans rfl, (kc_ ca.out 2).trans rfl, mb⟩ (fun hHeld => ?_); refine with_tabW marshal_Greedy.tab12 marshal_Greedy.bits12 (fun HT_ HW_ => ?_)
         generalize wr.drew = w37 at ea fa ga ka ca HB mb hHeld ⊢
         refine pu_ (i := 0) (N := some 35) (v := ?_) (a' := ?_) (tf_ 1 8) rfl rfl (an_ HT_.out kr_) (fun _ _ _ h => h) (Or.inl ⟨by rfl, ?_⟩) ?_ ?_
         rotate_left
         ·intro w'
          go_simp
          with_reducible rfl
         rotate_left
         ·simp only [Act.put, s1_, s2_, s3_, i6_, i3_]
          rfl
         refine pu_ (i := 2) (N := some 37) (v := ?_) (a' := ?_) #[true, false, true, false, false, false, false, false, false] rfl rfl (an_ HT_.out kr_) (fun _ _ _ h => h) (Or.inl ⟨by rfl, ?_⟩) ?_ ?_
         rotate_left
         ·intro w'
          go_simp
          with_reducible rfl
         rotate_left
         ·simp only [Act.put, s1_, s2_, s3_, i6_, i3_]
          rfl
         refine pu_ (i := 5) (N := some 40) (v := ?_) (a' := ?_) #[true, false, true, false, false, true, false, false, false] rfl rfl (an_ HT_.out kr_) (fun _ _ _ h => h) (Or.inl ⟨by rfl, ?_⟩) ?_ ?_
         rotate_left
         ·intro w'
          go_simp
          with_reducible rfl
         rotate_left
         ·simp only [Act.put, s1_, s2_, s3_, i6_, i3_]
          rfl
         refine pu_ (i := 6) (N := some 41) (v := ?_) (a' := ?_) #[true, false, true, false, false, true, true, false, false] rfl rfl (an_ HT_.out kr_) (fun _ _ _ h => h) (Or.inl ⟨by rfl, ?_⟩) ?_ ?_
         rotate_left
         ·intro w'
          go_simp
          with_reducible rfl
         rotate_left
         ·simp only [Act.put, s1_, s2_, s3_, i6_, i3_]
          rfl
         refine take_ (i := 1) (N := some 36) (v := ?_) (a' := ?_) #[true, true, true, false, false, true, true, false, false] rfl rfl (tW_ HT_.out HW_.out kr_) (fun _ _ _ h => h) (Or.inl ⟨by rfl, ?_⟩) hHeld ?_ ?_
         rotate_left
         ·rintro w' ⟨s0, s1, s2, s3⟩
          go_simp
          with_reducible rfl
         rotate_left
         ·simp only [Act.put, s1_, s2_, s3_, i6_, i3_]
          rfl
         refine pu_ (i := 3) (N := some 38) (v := ?_) (a' := ?_) #[true, true, true, true, false, true, true, false, false] rfl rfl (an_ HT_.out kr_) (fun _ _ _ h => h) (Or.inl ⟨by rfl, ?_⟩) ?_ ?_
         rotate_left
         ·intro w'
          go_simp
          with_reducible rfl
         rotate_left
         ·simp only [Act.put, s1_, s2_, s3_, i6_, i3_]
          rfl
         refine take_ (i := 4) (N := some 39) (v := ?_) (a' := ?_) (tf_ 7 2) rfl rfl (tW_ HT_.out HW_.out kr_) (fun _ _ _ h => h) (Or.inl ⟨by rfl, ?_⟩) hHeld ?_ ?_
         rotate_left
         ·rintro w' ⟨s0, s1, s2, s3⟩
          go_simp
          with_reducible rfl
         rotate_left
         ·simp only [Act.put, s1_, s2_, s3_, i6_, i3_]
          rfl
         refine pu_ (i := 7) (N := some 42) (v := ?_) (a' := ?_) (tf_ 8 1) rfl rfl (an_ HT_.out kr_) (fun _ _ _ h => h) (Or.inl ⟨by rfl, ?_⟩) ?_ ?_
         rotate_left
         ·intro w'
          go_simp
          with_reducible rfl
         rotate_left
         ·simp only [Act.put, s1_, s2_, s3_, i6_, i3_]
          rfl
         refine pu_ (i := 8) (N := some 43) (v := ?_) (a' := ?_) (tf_ 9 0) rfl rfl (an_ HT_.out kr_) (fun _ _ _ h => h) (Or.inl ⟨by rfl, ?_⟩) ?_ ?_
         rotate_left
         ·intro w'
          go_simp
          with_reducible rfl
         rotate_left
         ·simp only [Act.put, s1_, s2_, s3_, i6_, i3_]
          rfl
         refine done_ (done_of HT_.out kr_) ?_
         try go_wp2
         replace ea := mk_ (Kd.rD_ ea.out)
         replace fa := mk_ (Kd.rD_ fa.out)
         replace ga := mk_ (Kd.rD_ ga.out)
         replace ka := mk_ (Kd.rD_ ka.out)
         replace ca := mk_ (kD_ ca.out)
         replace HB := mk_ (b1_ HB.out)
         obtain ⟨md, za, Xb⟩ := Kd.rS_' ga.out
         (first | subst Xb | (injection Xb with f1_ f2_ f3_; have f4_ := f1_.symm; have f5_ := f3_.symm; clear f1_ f2_ f3_; subst f4_; subst f5_))
         have yb : 0 ≤ (aa : Int) := oD_
         have zb : aa < (ja.length : Int) := oD_
         obtain ⟨qa, Dc, Yb, Zb, ac⟩ := at_T32 (Kd.rr_' ga.out).2.2 aa yb zb
         cases Dc
         replace yb := eq_true yb
         replace zb := eq_true zb
         have Ab : 0 ≤ (aa : Int) := oD_
         have Bb : aa < (ia.length : Int) := oD_
         obtain ⟨ta, Ec, Cb, Db, Eb⟩ := at_T32 (Kd.rr_' ea.out).2.2 aa Ab Bb
         cases Ec
         replace Ab := eq_true Ab
         replace Bb := eq_true Bb
         obtain ⟨nd, Aa, bc⟩ := Kd.rS_' fa.out
         (first | subst bc | (injection bc with f1_ f2_ f3_; have f4_ := f1_.symm; have f5_ := f3_.symm; clear f1_ f2_ f3_; subst f4_; subst f5_))
         have Fb : 0 ≤ (da : Int) := oD_
         have Gb : da < (ha.length : Int) := oD_
         obtain ⟨oa, Fc, Hb, Ib, Jb⟩ := at_T32 (Kd.rr_' fa.out).2.2 da Fb Gb
         cases Fc
         replace Fb := eq_true Fb
         replace Gb := eq_true Gb
         refine start_ (n := 18) (S := fun w' => w'.cell? ⟨ma, 0, none⟩ = some (.slice (some oa) ha.length Aa) ∧ w'.cell? ⟨ma, 1, none⟩ = some (.slice (some qa) ja.length za) ∧ w'.cell? ⟨ma, 2, none⟩ = some (.slice (some Ea) pa.length xa) ∧ w'.cell? (qa.add ((aa).toNat * 3)) = some (.bool ((r32_ ja aa).f0)) ∧ w'.cell? ⟨(qa.add ((aa).toNat * 3)).block, (qa.add ((aa).toNat * 3)).off + 1, none⟩ = some (.string ((r32_ ja aa).f1)) ∧ w'.cell? ⟨(qa.add ((aa).toNat * 3)).block, (qa.add ((aa).toNat * 3)).off + 2, none⟩ = some (.string ((r32_ ja aa).f2)) ∧ w'.cell? (ta.add ((aa).toNat * 3)) = some (.bool ((r32_ ia aa).f0)) ∧ w'.cell? ⟨(ta.add ((aa).toNat * 3)).block, (ta.add ((aa).toNat * 3)).off + 1, none⟩ = some (.string ((r32_ ia aa).f1)) ∧ w'.cell? ⟨(ta.add ((aa).toNat * 3)).block, (ta.add ((aa).toNat * 3)).off + 2, none⟩ = some (.string ((r32_ ia aa).f2)) ∧ w'.cell? (oa.add ((da).toNat * 3)) = some (.bool ((r32_ ha da).f0)) ∧ w'.cell? ⟨(oa.add ((da).toNat * 3)).block, (oa.add ((da).toNat * 3)).off + 1, none⟩ = some (.string ((r32_ ha da).f1)) ∧ w'.cell? ⟨(oa.add ((da).toNat * 3)).block, (oa.add ((da).toNat * 3)).off + 2, none⟩ = some (.string ((r32_ ha da).f2))) (ds := []) (tf_ 0 18) kr_ rfl rfl ⟨(kc_ ca.out 0).trans rfl, (kc_ ca.out 1).trans rfl, (kc_ ca.out 2).trans rfl, Yb, Zb, ac, Cb, Db, Eb, Hb, Ib, Jb⟩ (fun hHeld => ?_); refine with_tabW marshal_Greedy.tab13 marshal_Greedy.bits13 (fun HT_ HW_ => ?_)
         generalize w37.drew = w38 at ea fa ga ka ca HB Yb Zb ac Cb Db Eb Hb Ib Jb hHeld ⊢
         refine pu_ (i := 0) (N := some 44) (v := ?_) (a' := ?_) (tf_ 1 17) rfl rfl (an_ HT_.out kr_) (fun _ _ _ h => h) (Or.inl ⟨by rfl, ?_⟩) ?_ ?_
         rotate_left
         ·intro w'
          go_simp
          with_reducible rfl
         rotate_left
         ·simp only [Act.put, s1_, s2_, s3_, i6_, i3_]
          rfl
         refine pu_ (i := 2) (N := some 46) (v := ?_) (a' := ?_) #[true, false, true, false, false, false, false, false, false, false, false, false, false, false, false, false, false, false] rfl rfl (an_ HT_.out kr_) (fun _ _ _ h => h) (Or.inl ⟨by rfl, ?_⟩) ?_ ?_
         rotate_left
         ·intro w'
          go_simp
          with_reducible rfl
         rotate_left
         ·simp only [Act.put, s1_, s2_, s3_, i6_, i3_]
          rfl
         refine pu_ (i := 5) (N := some 49) (v := ?_) (a' := ?_) #[true, false, true, false, false, true, false, false, false, false, false, false, false, false, false, false, false, false] rfl rfl (an_ HT_.out kr_) (fun _ _ _ h => h) (Or.inl ⟨by rfl, ?_⟩) ?_ ?_
         rotate_left
         ·intro w'
          go_simp
          with_reducible rfl
         rotate_left
         ·simp only [Act.put, s1_, s2_, s3_, i6_, i3_]
          rfl
         refine pu_ (i := 6) (N := some 50) (v := ?_) (a' := ?_) #[true, false, true, false, false, true, true, false, false, false, false, false, false, false, false, false, false, false] rfl rfl (an_ HT_.out kr_) (fun _ _ _ h => h) (Or.inl ⟨by rfl, ?_⟩) ?_ ?_
         rotate_left
         ·intro w'
          go_simp
          with_reducible rfl
         rotate_left
         ·simp only [Act.put, s1_, s2_, s3_, i6_, i3_]
          rfl
         refine pu_ (i := 7) (N := some 51) (v := ?_) (a' := ?_) #[true, false, true, false, false, true, true, true, false, false, false, false, false, false, false, false, false, false] rfl rfl (an_ HT_.out kr_) (fun _ _ _ h => h) (Or.inl ⟨by rfl, ?_⟩) ?_ ?_
         rotate_left
         ·intro w'
          go_simp
          with_reducible rfl
         rotate_left
         ·simp only [Act.put, s1_, s2_, s3_, i6_, i3_]
          rfl
         refine pu_ (i := 10) (N := some 54) (v := ?_) (a' := ?_) #[true, false, true, false, false, true, true, true, false, false, true, false, false, false, false, false, false, false] rfl rfl (an_ HT_.out kr_) (fun _ _ _ h => h) (Or.inl ⟨by rfl, ?_⟩) ?_ ?_
         rotate_left
         ·intro w'
          go_simp
          with_reducible rfl
         rotate_left
         ·simp only [Act.put, s1_, s2_, s3_, i6_, i3_]
          rfl
         refine pu_ (i := 12) (N := some 56) (v := ?_) (a' := ?_) #[true, false, true, false, false, true, true, true, false, false, true, false, true, false, false, false, false, false] rfl rfl (an_ HT_.out kr_) (fun _ _ _ h => h) (Or.inl ⟨by rfl, ?_⟩) ?_ ?_
         rotate_left
         ·intro w'
          go_simp
          with_reducible rfl
         rotate_left
         ·simp only [Act.put, s1_, s2_, s3_, i6_, i3_]
          rfl
         refine take_ (i := 1) (N := some 45) (v := ?_) (a' := ?_) #[true, true, true, false, false, true, true, true, false, false, true, false, true, false, false, false, false, false] rfl rfl (tW_ HT_.out HW_.out kr_) (fun _ _ _ h => h) (Or.inl ⟨by rfl, ?_⟩) hHeld ?_ ?_
         rotate_left
         ·rintro w' ⟨s0, s1, s2, s3, s4, s5, s6, s7, s8, s9, s10, s11⟩
          go_simp
          with_reducible rfl
         rotate_left
         ·simp only [Act.put, s1_, s2_, s3_, i6_, i3_]
          rfl
         refine pu_ (i := 3) (N := some 47) (v := ?_) (a' := ?_) #[true, true, true, true, false, true, true, true, false, false, true, false, true, false, false, false, false, false] rfl rfl (an_ HT_.out kr_) (fun _ _ _ h => h) (Or.inl ⟨by rfl, ?_⟩) ?_ ?_
         rotate_left
         ·intro w'
          go_simp
          with_reducible rfl
         rotate_left
         ·simp only [Act.put, s1_, s2_, s3_, i6_, i3_]
          rfl
         refine take_ (i := 4) (N := some 48) (v := ?_) (a' := ?_) #[true, true, true, true, true, true, true, true, false, false, true, false, true, false, false, false, false, false] rfl rfl (tW_ HT_.out HW_.out kr_) (fun _ _ _ h => h) (Or.inl ⟨by rfl, ?_⟩) hHeld ?_ ?_
         rotate_left
         ·rintro w' ⟨s0, s1, s2, s3, s4, s5, s6, s7, s8, s9, s10, s11⟩
          go_simp
          with_reducible rfl
         rotate_left
         ·simp only [Act.put, s1_, s2_, s3_, i6_, i3_]
          rfl
         refine take_ (i := 8) (N := some 52) (v := ?_) (a' := ?_) #[true, true, true, true, true, true, true, true, true, false, true, false, true, false, false, false, false, false] rfl rfl (tW_ HT_.out HW_.out kr_) (fun _ _ _ h => h) (Or.inl ⟨by rfl, ?_⟩) hHeld ?_ ?_
         rotate_left
         ·rintro w' ⟨s0, s1, s2, s3, s4, s5, s6, s7, s8, s9, s10, s11⟩
          go_simp
          with_reducible rfl
         rotate_left
         ·simp only [Act.put, s1_, s2_, s3_, i6_, i3_]
          rfl
         refine take_ (i := 11) (N := some 55) (v := ?_) (a' := ?_) #[true, true, true, true, true, true, true, true, true, false, true, true, true, false, false, false, false, false] rfl rfl (tW_ HT_.out HW_.out kr_) (fun _ _ _ h => h) (Or.inl ⟨by rfl, ?_⟩) hHeld ?_ ?_
         rotate_left
         ·rintro w' ⟨s0, s1, s2, s3, s4, s5, s6, s7, s8, s9, s10, s11⟩
          go_simp
          with_reducible rfl
         rotate_left
         ·simp only [Act.put, s1_, s2_, s3_, i6_, i3_]
          rfl
         refine pu_ (i := 13) (N := some 57) (v := ?_) (a' := ?_) #[true, true, true, true, true, true, true, true, true, false, true, true, true, true, false, false, false, false] rfl rfl (an_ HT_.out kr_) (fun _ _ _ h => h) (Or.inl ⟨by rfl, ?_⟩) ?_ ?_
         rotate_left
         ·intro w'
          go_simp
          with_reducible rfl
         rotate_left
         ·simp only [Act.put, s1_, s2_, s3_, i6_, i3_]
          rfl
         refine take_ (i := 14) (N := some 58) (v := ?_) (a' := ?_) #[true, true, true, true, true, true, true, true, true, false, true, true, true, true, true, false, false, false] rfl rfl (tW_ HT_.out HW_.out kr_) (fun _ _ _ h => h) (Or.inl ⟨by rfl, ?_⟩) hHeld ?_ ?_
         rotate_left
         ·rintro w' ⟨s0, s1, s2, s3, s4, s5, s6, s7, s8, s9, s10, s11⟩
          go_simp
          with_reducible rfl
         rotate_left
         ·simp only [Act.put, s1_, s2_, s3_, i6_, i3_]
          rfl
         refine join_ (σ := Nat) 1 (tf_ 17 1) (fun s_ => [(53, .agg #[.bool Oa, .string Pa, .string Qa]), (59, .agg #[.bool va, .string wa, .string ya]), (11, .pointer (some ⟨s_, 0, none⟩))]) (fun s_ w' => (w'.cell? ⟨ma, 0, none⟩ = some (.slice (some oa) ha.length Aa) ∧ w'.cell? ⟨ma, 1, none⟩ = some (.slice (some qa) ja.length za) ∧ w'.cell? ⟨ma, 2, none⟩ = some (.slice (some Ea) pa.length xa) ∧ w'.cell? (qa.add ((aa).toNat * 3)) = some (.bool ((r32_ ja aa).f0)) ∧ w'.cell? ⟨(qa.add ((aa).toNat * 3)).block, (qa.add ((aa).toNat * 3)).off + 1, none⟩ = some (.string ((r32_ ja aa).f1)) ∧ w'.cell? ⟨(qa.add ((aa).toNat * 3)).block, (qa.add ((aa).toNat * 3)).off + 2, none⟩ = some (.string ((r32_ ja aa).f2)) ∧ w'.cell? (ta.add ((aa).toNat * 3)) = some (.bool ((r32_ ia aa).f0)) ∧ w'.cell? ⟨(ta.add ((aa).toNat * 3)).block, (ta.add ((aa).toNat * 3)).off + 1, none⟩ = some (.string ((r32_ ia aa).f1)) ∧ w'.cell? ⟨(ta.add ((aa).toNat * 3)).block, (ta.add ((aa).toNat * 3)).off + 2, none⟩ = some (.string ((r32_ ia aa).f2)) ∧ w'.cell? (oa.add ((da).toNat * 3)) = some (.bool ((r32_ ha da).f0)) ∧ w'.cell? ⟨(oa.add ((da).toNat * 3)).block, (oa.add ((da).toNat * 3)).off + 1, none⟩ = some (.string ((r32_ ha da).f1)) ∧ w'.cell? ⟨(oa.add ((da).toNat * 3)).block, (oa.add ((da).toNat * 3)).off + 2, none⟩ = some (.string ((r32_ ha da).f2))) ∧ (Kd.R k32 32 w' w.heap.size (fun k_ => some k_ ≠ (.slice (some qa) ja.length za : Value).ownBlock ∧ some k_ ≠ (.slice (some ta) ia.length Ca : Value).ownBlock ∧ k_ ≠ s_) (.slice (some oa) ha.length Aa) ha) ∧ (Kd.R k32 32 w' w.heap.size (fun k_ => some k_ ≠ (.slice (some oa) ha.length Aa : Value).ownBlock ∧ some k_ ≠ (.slice (some ta) ia.length Ca : Value).ownBlock ∧ k_ ≠ s_) (.slice (some qa) ja.length za) ja) ∧ (Kd.R (Kd.int .u64) 59 w' w.heap.size (fun _ => True) (.slice (some Ea) pa.length xa) pa) ∧ (Kd.R k32 32 w' w.heap.size (fun k_ => some k_ ≠ (.slice (some oa) ha.length Aa : Value).ownBlock ∧ some k_ ≠ (.slice (some qa) ja.length za : Value).ownBlock ∧ k_ ≠ s_) (.slice (some ta) ia.length Ca) ia) ∧ (w'.heap[ma]? = some (.cells #[.slice (some oa) ha.length Aa, .slice (some qa) ja.length za, .slice (some Ea) pa.length xa] 56 (0, 0))) ∧ (w'.heap[s_]? = some (.cells zC_ 32 (0, 0))) ∧ (w.heap.size ≤ s_) ∧ (w.heap.size ≤ s_) ∧ (ma ≠ s_) ∧ (s_ ≠ ma) ∧ (Below w.heap.size w w')) ?_ ?_
         rotate_left
         ·intro hCont
          refine two_ (i := 9) (j := 16) (Ni := some 53) (Nj := some 11) (tf_ 15 3) #[true, true, true, true, true, true, true, true, true, false, true, true, true, true, true, false, true, false] rfl rfl rfl rfl (two_of HT_.out kr_) (by decide) (by decide) (fun K hK => ?_) (fun K hK => ?_)
          ·skip
           refine goes_ Tryd.func15 kr_ rfl #[.agg #[.bool ((r32_ ja aa).f0), .string ((r32_ ja aa).f1), .string ((r32_ ja aa).f2)], .agg #[.bool ((r32_ ia aa).f0), .string ((r32_ ia aa).f1), .string ((r32_ ia aa).f2)]] (by rfl) rfl rfl mp_ ?_
           with_reducible refine (q_Subtract.calls k2 ((r32_ ja aa).f0) ((r32_ ja aa).f1) ((r32_ ja aa).f2) ((r32_ ia aa).f0) ((r32_ ia aa).f1) ((r32_ ia aa).f2) Oa Pa Qa _ A30.out).mono ?_
           rintro e w41 ⟨rfl, hb⟩
           have HS3_ := (hb.cell (World.block_lt_of_cell? _ _ (hHeld.2.2.2.1))).trans (hHeld.2.2.2.1)
           have HS4_ := (hb.cell (World.block_lt_of_cell? _ _ (hHeld.2.2.2.2.1))).trans (hHeld.2.2.2.2.1)
           have HS5_ := (hb.cell (World.block_lt_of_cell? _ _ (hHeld.2.2.2.2.2.1))).trans (hHeld.2.2.2.2.2.1)
           have HS6_ := (hb.cell (World.block_lt_of_cell? _ _ (hHeld.2.2.2.2.2.2.1))).trans (hHeld.2.2.2.2.2.2.1)
           have HS7_ := (hb.cell (World.block_lt_of_cell? _ _ (hHeld.2.2.2.2.2.2.2.1))).trans (hHeld.2.2.2.2.2.2.2.1)
           have HS8_ := (hb.cell (World.block_lt_of_cell? _ _ (hHeld.2.2.2.2.2.2.2.2.1))).trans (hHeld.2.2.2.2.2.2.2.2.1)
           have HS9_ := (hb.cell (World.block_lt_of_cell? _ _ (hHeld.2.2.2.2.2.2.2.2.2.1))).trans (hHeld.2.2.2.2.2.2.2.2.2.1)
           have HS10_ := (hb.cell (World.block_lt_of_cell? _ _ (hHeld.2.2.2.2.2.2.2.2.2.2.1))).trans (hHeld.2.2.2.2.2.2.2.2.2.2.1)
           have HS11_ := (hb.cell (World.block_lt_of_cell? _ _ (hHeld.2.2.2.2.2.2.2.2.2.2.2))).trans (hHeld.2.2.2.2.2.2.2.2.2.2.2)
           refine ⟨_, rfl, ?_⟩
           replace ea := mk_ (Kd.rB_ (xR_ ea.out) hb)
           replace fa := mk_ (Kd.rB_ (xR_ fa.out) hb)
           replace ga := mk_ (Kd.rB_ (xR_ ga.out) hb)
           replace ka := mk_ (Kd.rB_ (xR_ ka.out) hb)
           replace ca := mk_ (kB_ (xK_ ca.out) hb)
           replace HB := mk_ (bT_ (xB1_ HB ua) hb)
           (try clear hb)
           (try clear hb2)
           (try clear hk)
           (try clear hi)
           refine hK.out _ _ ⟨(kc_ ca.out 0).trans rfl, (kc_ ca.out 1).trans rfl, (kc_ ca.out 2).trans rfl, HS3_, HS4_, HS5_, HS6_, HS7_, HS8_, HS9_, HS10_, HS11_⟩ (fun hHeld => ?_)
           clear hK K
           refine norm_ (a' := ?_) ?_ ?_
           rotate_left
           ·show Act.put _ (some 53) _ = _
            simp only [Act.put, s1_, s2_, s3_, i6_, i3_]
            rfl
           refine two_ (i := 15) (j := 16) (Ni := some 59) (Nj := some 11) (tf_ 16 2) #[true, true, true, true, true, true, true, true, true, true, true, true, true, true, true, false, true, false] rfl rfl rfl rfl (two_of HT_.out kr_) (by decide) (by decide) (fun K hK => ?_) (fun K hK => ?_)
           ·skip
            refine goes_ Tryd.func22 kr_ rfl #[.agg #[.bool Oa, .string Pa, .string Qa], .agg #[.bool ((r32_ ha da).f0), .string ((r32_ ha da).f1), .string ((r32_ ha da).f2)]] (by rfl) rfl rfl mp_ ?_
            with_reducible refine (q_Min.calls k2 Oa Pa Qa ((r32_ ha da).f0) ((r32_ ha da).f1) ((r32_ ha da).f2) va wa ya _ A32.out).mono ?_
            rintro e w42 ⟨rfl, hb⟩
            have HS3_ := (hb.cell (World.block_lt_of_cell? _ _ (hHeld.2.2.2.1))).trans (hHeld.2.2.2.1)
            have HS4_ := (hb.cell (World.block_lt_of_cell? _ _ (hHeld.2.2.2.2.1))).trans (hHeld.2.2.2.2.1)
            have HS5_ := (hb.cell (World.block_lt_of_cell? _ _ (hHeld.2.2.2.2.2.1))).trans (hHeld.2.2.2.2.2.1)
            have HS6_ := (hb.cell (World.block_lt_of_cell? _ _ (hHeld.2.2.2.2.2.2.1))).trans (hHeld.2.2.2.2.2.2.1)
            have HS7_ := (hb.cell (World.block_lt_of_cell? _ _ (hHeld.2.2.2.2.2.2.2.1))).trans (hHeld.2.2.2.2.2.2.2.1)
            have HS8_ := (hb.cell (World.block_lt_of_cell? _ _ (hHeld.2.2.2.2.2.2.2.2.1))).trans (hHeld.2.2.2.2.2.2.2.2.1)
            have HS9_ := (hb.cell (World.block_lt_of_cell? _ _ (hHeld.2.2.2.2.2.2.2.2.2.1))).trans (hHeld.2.2.2.2.2.2.2.2.2.1)
            have HS10_ := (hb.cell (World.block_lt_of_cell? _ _ (hHeld.2.2.2.2.2.2.2.2.2.2.1))).trans (hHeld.2.2.2.2.2.2.2.2.2.2.1)
            have HS11_ := (hb.cell (World.block_lt_of_cell? _ _ (hHeld.2.2.2.2.2.2.2.2.2.2.2))).trans (hHeld.2.2.2.2.2.2.2.2.2.2.2)
            refine ⟨_, rfl, ?_⟩
            replace ea := mk_ (Kd.rB_ (xR_ ea.out) hb)
            replace fa := mk_ (Kd.rB_ (xR_ fa.out) hb)
            replace ga := mk_ (Kd.rB_ (xR_ ga.out) hb)
            replace ka := mk_ (Kd.rB_ (xR_ ka.out) hb)
            replace ca := mk_ (kB_ (xK_ ca.out) hb)
            replace HB := mk_ (bT_ (xB1_ HB ua) hb)
            (try clear hb)
            (try clear hb2)
            (try clear hk)
            (try clear hi)
            refine hK.out _ _ ⟨(kc_ ca.out 0).trans rfl, (kc_ ca.out 1).trans rfl, (kc_ ca.out 2).trans rfl, HS3_, HS4_, HS5_, HS6_, HS7_, HS8_, HS9_, HS10_, HS11_⟩ (fun hHeld => ?_)
            clear hK K
            refine norm_ (a' := ?_) ?_ ?_
            rotate_left
            ·show Act.put _ (some 59) _ = _
             simp only [Act.put, s1_, s2_, s3_, i6_, i3_]
             rfl
            refine one_ (i := 16) (N := some 11) (tf_ 17 1) rfl rfl (one_of HT_.out kr_) (by decide) (fun K hK => ?_)
            refine box_step ?hg (N := 11) ?hd (cs := zC_) (t := 32) ?hr ?_; (case hd => rfl); (case hg => rfl); (case hr => first | (go_simp; done) | (go_simp; rfl))
            intro ba hg w43 hbox hb
            have HS3_ := (hb.cell (World.block_lt_of_cell? _ _ (hHeld.2.2.2.1))).trans (hHeld.2.2.2.1)
            have HS4_ := (hb.cell (World.block_lt_of_cell? _ _ (hHeld.2.2.2.2.1))).trans (hHeld.2.2.2.2.1)
            have HS5_ := (hb.cell (World.block_lt_of_cell? _ _ (hHeld.2.2.2.2.2.1))).trans (hHeld.2.2.2.2.2.1)
            have HS6_ := (hb.cell (World.block_lt_of_cell? _ _ (hHeld.2.2.2.2.2.2.1))).trans (hHeld.2.2.2.2.2.2.1)
            have HS7_ := (hb.cell (World.block_lt_of_cell? _ _ (hHeld.2.2.2.2.2.2.2.1))).trans (hHeld.2.2.2.2.2.2.2.1)
            have HS8_ := (hb.cell (World.block_lt_of_cell? _ _ (hHeld.2.2.2.2.2.2.2.2.1))).trans (hHeld.2.2.2.2.2.2.2.2.1)
            have HS9_ := (hb.cell (World.block_lt_of_cell? _ _ (hHeld.2.2.2.2.2.2.2.2.2.1))).trans (hHeld.2.2.2.2.2.2.2.2.2.1)
            have HS10_ := (hb.cell (World.block_lt_of_cell? _ _ (hHeld.2.2.2.2.2.2.2.2.2.2.1))).trans (hHeld.2.2.2.2.2.2.2.2.2.2.1)
            have HS11_ := (hb.cell (World.block_lt_of_cell? _ _ (hHeld.2.2.2.2.2.2.2.2.2.2.2))).trans (hHeld.2.2.2.2.2.2.2.2.2.2.2)
            replace ea := mk_ (Kd.rB_ (Kd.R_elderB (xR_ ea.out) ba (Nat.le_of_eq hg.symm)) hb)
            replace fa := mk_ (Kd.rB_ (Kd.R_elderB (xR_ fa.out) ba (Nat.le_of_eq hg.symm)) hb)
            replace ga := mk_ (Kd.rB_ (Kd.R_elderB (xR_ ga.out) ba (Nat.le_of_eq hg.symm)) hb)
            replace ka := mk_ (Kd.rB_ (xR_ ka.out) hb)
            have la := mk_ (hbox)
            have jb := mk_ (gZ_ hg (bZ_ (xB1_ HB ua)))
            have Fa := mk_ (gZ_ hg (bZ_ (xB1_ HB ua)))
            replace HB := mk_ (bT_ (xB1_ HB ua) hb)
            have Ba := mk_ (gN_ hg (xK_ ca.out))
            have Ra := mk_ (gM_ hg (xK_ ca.out))
            replace ca := mk_ (kB_ (xK_ ca.out) hb)
            clear hb hbox hg
            refine hK.out _ _ ⟨(kc_ ca.out 0).trans rfl, (kc_ ca.out 1).trans rfl, (kc_ ca.out 2).trans rfl, HS3_, HS4_, HS5_, HS6_, HS7_, HS8_, HS9_, HS10_, HS11_⟩ (fun hHeld => ?_)
            clear hK K
            refine norm_ (a' := ?_) ?_ ?_
            rotate_left
            ·show Act.put _ (some 11) _ = _
             simp only [Act.put, s1_, s2_, s3_, i6_, i3_]
             rfl
            exact norm_ (by simp only [putAll, Act.put, s1_, s2_, s3_]) (hCont (ba) _ ⟨hHeld, (by refine xr_ ?_; exact Kd.rM_ fa.out (fun _ hk => ⟨hk.1.2, ⟨hk.1.1, hk.2⟩⟩)), (by refine xr_ ?_; exact Kd.rM_ ga.out (fun _ hk => ⟨hk.1.2, ⟨hk.1.1, hk.2⟩⟩)), (xR_ ka.out), (by refine xr_ ?_; exact Kd.rM_ ea.out (fun _ hk => ⟨hk.1.1, ⟨hk.1.2, hk.2⟩⟩)), (xK_ ca.out), (xK_ la.out), jb.out, Fa.out, Ba.out, Ra.out, (xB2_ HB ua Fa)⟩)
           ·skip
            refine box_step ?hg (N := 11) ?hd (cs := zC_) (t := 32) ?hr ?_; (case hd => rfl); (case hg => rfl); (case hr => first | (go_simp; done) | (go_simp; rfl))
            intro ba hg w42 hbox hb
            have HS3_ := (hb.cell (World.block_lt_of_cell? _ _ (hHeld.2.2.2.1))).trans (hHeld.2.2.2.1)
            have HS4_ := (hb.cell (World.block_lt_of_cell? _ _ (hHeld.2.2.2.2.1))).trans (hHeld.2.2.2.2.1)
            have HS5_ := (hb.cell (World.block_lt_of_cell? _ _ (hHeld.2.2.2.2.2.1))).trans (hHeld.2.2.2.2.2.1)
            have HS6_ := (hb.cell (World.block_lt_of_cell? _ _ (hHeld.2.2.2.2.2.2.1))).trans (hHeld.2.2.2.2.2.2.1)
            have HS7_ := (hb.cell (World.block_lt_of_cell? _ _ (hHeld.2.2.2.2.2.2.2.1))).trans (hHeld.2.2.2.2.2.2.2.1)
            have HS8_ := (hb.cell (World.block_lt_of_cell? _ _ (hHeld.2.2.2.2.2.2.2.2.1))).trans (hHeld.2.2.2.2.2.2.2.2.1)
            have HS9_ := (hb.cell (World.block_lt_of_cell? _ _ (hHeld.2.2.2.2.2.2.2.2.2.1))).trans (hHeld.2.2.2.2.2.2.2.2.2.1)
            have HS10_ := (hb.cell (World.block_lt_of_cell? _ _ (hHeld.2.2.2.2.2.2.2.2.2.2.1))).trans (hHeld.2.2.2.2.2.2.2.2.2.2.1)
            have HS11_ := (hb.cell (World.block_lt_of_cell? _ _ (hHeld.2.2.2.2.2.2.2.2.2.2.2))).trans (hHeld.2.2.2.2.2.2.2.2.2.2.2)
            replace ea := mk_ (Kd.rB_ (Kd.R_elderB (xR_ ea.out) ba (Nat.le_of_eq hg.symm)) hb)
            replace fa := mk_ (Kd.rB_ (Kd.R_elderB (xR_ fa.out) ba (Nat.le_of_eq hg.symm)) hb)
            replace ga := mk_ (Kd.rB_ (Kd.R_elderB (xR_ ga.out) ba (Nat.le_of_eq hg.symm)) hb)
            replace ka := mk_ (Kd.rB_ (xR_ ka.out) hb)
            have la := mk_ (hbox)
            have jb := mk_ (gZ_ hg (bZ_ (xB1_ HB ua)))
            have Fa := mk_ (gZ_ hg (bZ_ (xB1_ HB ua)))
            replace HB := mk_ (bT_ (xB1_ HB ua) hb)
            have Ba := mk_ (gN_ hg (xK_ ca.out))
            have Ra := mk_ (gM_ hg (xK_ ca.out))
            replace ca := mk_ (kB_ (xK_ ca.out) hb)
            clear hb hbox hg
            refine hK.out _ _ ⟨(kc_ ca.out 0).trans rfl, (kc_ ca.out 1).trans rfl, (kc_ ca.out 2).trans rfl, HS3_, HS4_, HS5_, HS6_, HS7_, HS8_, HS9_, HS10_, HS11_⟩ (fun hHeld => ?_)
            clear hK K
            refine norm_ (a' := ?_) ?_ ?_
            rotate_left
            ·show Act.put _ (some 11) _ = _
             simp only [Act.put, s1_, s2_, s3_, i6_, i3_]
             rfl
            refine one_ (i := 15) (N := some 59) (tf_ 17 1) rfl rfl (one_of HT_.out kr_) (by decide) (fun K hK => ?_)
            refine goes_ Tryd.func22 kr_ rfl #[.agg #[.bool Oa, .string Pa, .string Qa], .agg #[.bool ((r32_ ha da).f0), .string ((r32_ ha da).f1), .string ((r32_ ha da).f2)]] (by rfl) rfl rfl mp_ ?_
            with_reducible refine (q_Min.calls k2 Oa Pa Qa ((r32_ ha da).f0) ((r32_ ha da).f1) ((r32_ ha da).f2) va wa ya _ A32.out).mono ?_
            rintro e w43 ⟨rfl, hb⟩
            have HS3_ := (hb.cell (World.block_lt_of_cell? _ _ (hHeld.2.2.2.1))).trans (hHeld.2.2.2.1)
            have HS4_ := (hb.cell (World.block_lt_of_cell? _ _ (hHeld.2.2.2.2.1))).trans (hHeld.2.2.2.2.1)
            have HS5_ := (hb.cell (World.block_lt_of_cell? _ _ (hHeld.2.2.2.2.2.1))).trans (hHeld.2.2.2.2.2.1)
            have HS6_ := (hb.cell (World.block_lt_of_cell? _ _ (hHeld.2.2.2.2.2.2.1))).trans (hHeld.2.2.2.2.2.2.1)
            have HS7_ := (hb.cell (World.block_lt_of_cell? _ _ (hHeld.2.2.2.2.2.2.2.1))).trans (hHeld.2.2.2.2.2.2.2.1)
            have HS8_ := (hb.cell (World.block_lt_of_cell? _ _ (hHeld.2.2.2.2.2.2.2.2.1))).trans (hHeld.2.2.2.2.2.2.2.2.1)
            have HS9_ := (hb.cell (World.block_lt_of_cell? _ _ (hHeld.2.2.2.2.2.2.2.2.2.1))).trans (hHeld.2.2.2.2.2.2.2.2.2.1)
            have HS10_ := (hb.cell (World.block_lt_of_cell? _ _ (hHeld.2.2.2.2.2.2.2.2.2.2.1))).trans (hHeld.2.2.2.2.2.2.2.2.2.2.1)
            have HS11_ := (hb.cell (World.block_lt_of_cell? _ _ (hHeld.2.2.2.2.2.2.2.2.2.2.2))).trans (hHeld.2.2.2.2.2.2.2.2.2.2.2)
            refine ⟨_, rfl, ?_⟩
            replace ea := mk_ (Kd.rB_ (xR_ ea.out) hb)
            replace fa := mk_ (Kd.rB_ (xR_ fa.out) hb)
            replace ga := mk_ (Kd.rB_ (xR_ ga.out) hb)
            replace ka := mk_ (Kd.rB_ (xR_ ka.out) hb)
            replace ca := mk_ (kB_ (xK_ ca.out) hb)
            replace la := mk_ (kB_ (xK_ la.out) hb)
            replace HB := mk_ (bT_ (xB2_ HB ua Fa) hb)
            (try clear hb)
            (try clear hb2)
            (try clear hk)
            (try clear hi)
            refine hK.out _ _ ⟨(kc_ ca.out 0).trans rfl, (kc_ ca.out 1).trans rfl, (kc_ ca.out 2).trans rfl, HS3_, HS4_, HS5_, HS6_, HS7_, HS8_, HS9_, HS10_, HS11_⟩ (fun hHeld => ?_)
            clear hK K
            refine norm_ (a' := ?_) ?_ ?_
            rotate_left
            ·show Act.put _ (some 59) _ = _
             simp only [Act.put, s1_, s2_, s3_, i6_, i3_]
             rfl
            exact norm_ (by simp only [putAll, Act.put, s1_, s2_, s3_]) (hCont (ba) _ ⟨hHeld, (by refine xr_ ?_; exact Kd.rM_ fa.out (fun _ hk => ⟨hk.1.2, ⟨hk.1.1, hk.2⟩⟩)), (by refine xr_ ?_; exact Kd.rM_ ga.out (fun _ hk => ⟨hk.1.2, ⟨hk.1.1, hk.2⟩⟩)), (xR_ ka.out), (by refine xr_ ?_; exact Kd.rM_ ea.out (fun _ hk => ⟨hk.1.1, ⟨hk.1.2, hk.2⟩⟩)), (xK_ ca.out), (xK_ la.out), jb.out, Fa.out, Ba.out, Ra.out, (xB2_ HB ua Fa)⟩)
          ·skip
           refine box_step ?hg (N := 11) ?hd (cs := zC_) (t := 32) ?hr ?_; (case hd => rfl); (case hg => rfl); (case hr => first | (go_simp; done) | (go_simp; rfl))
           intro ba hg w41 hbox hb
           have HS3_ := (hb.cell (World.block_lt_of_cell? _ _ (hHeld.2.2.2.1))).trans (hHeld.2.2.2.1)
           have HS4_ := (hb.cell (World.block_lt_of_cell? _ _ (hHeld.2.2.2.2.1))).trans (hHeld.2.2.2.2.1)
           have HS5_ := (hb.cell (World.block_lt_of_cell? _ _ (hHeld.2.2.2.2.2.1))).trans (hHeld.2.2.2.2.2.1)
           have HS6_ := (hb.cell (World.block_lt_of_cell? _ _ (hHeld.2.2.2.2.2.2.1))).trans (hHeld.2.2.2.2.2.2.1)
           have HS7_ := (hb.cell (World.block_lt_of_cell? _ _ (hHeld.2.2.2.2.2.2.2.1))).trans (hHeld.2.2.2.2.2.2.2.1)
           have HS8_ := (hb.cell (World.block_lt_of_cell? _ _ (hHeld.2.2.2.2.2.2.2.2.1))).trans (hHeld.2.2.2.2.2.2.2.2.1)
           have HS9_ := (hb.cell (World.block_lt_of_cell? _ _ (hHeld.2.2.2.2.2.2.2.2.2.1))).trans (hHeld.2.2.2.2.2.2.2.2.2.1)
           have HS10_ := (hb.cell (World.block_lt_of_cell? _ _ (hHeld.2.2.2.2.2.2.2.2.2.2.1))).trans (hHeld.2.2.2.2.2.2.2.2.2.2.1)
           have HS11_ := (hb.cell (World.block_lt_of_cell? _ _ (hHeld.2.2.2.2.2.2.2.2.2.2.2))).trans (hHeld.2.2.2.2.2.2.2.2.2.2.2)
           replace ea := mk_ (Kd.rB_ (Kd.R_elderB (xR_ ea.out) ba (Nat.le_of_eq hg.symm)) hb)
           replace fa := mk_ (Kd.rB_ (Kd.R_elderB (xR_ fa.out) ba (Nat.le_of_eq hg.symm)) hb)
           replace ga := mk_ (Kd.rB_ (Kd.R_elderB (xR_ ga.out) ba (Nat.le_of_eq hg.symm)) hb)
           replace ka := mk_ (Kd.rB_ (xR_ ka.out) hb)
           have la := mk_ (hbox)
           have jb := mk_ (gZ_ hg (bZ_ (xB1_ HB ua)))
           have Fa := mk_ (gZ_ hg (bZ_ (xB1_ HB ua)))
           replace HB := mk_ (bT_ (xB1_ HB ua) hb)
           have Ba := mk_ (gN_ hg (xK_ ca.out))
           have Ra := mk_ (gM_ hg (xK_ ca.out))
           replace ca := mk_ (kB_ (xK_ ca.out) hb)
           clear hb hbox hg
           refine hK.out _ _ ⟨(kc_ ca.out 0).trans rfl, (kc_ ca.out 1).trans rfl, (kc_ ca.out 2).trans rfl, HS3_, HS4_, HS5_, HS6_, HS7_, HS8_, HS9_, HS10_, HS11_⟩ (fun hHeld => ?_)
           clear hK K
           refine norm_ (a' := ?_) ?_ ?_
           rotate_left
           ·show Act.put _ (some 11) _ = _
            simp only [Act.put, s1_, s2_, s3_, i6_, i3_]
            rfl
           refine one_ (i := 9) (N := some 53) #[true, true, true, true, true, true, true, true, true, true, true, true, true, true, true, false, true, false] rfl rfl (one_of HT_.out kr_) (by decide) (fun K hK => ?_)
           refine goes_ Tryd.func15 kr_ rfl #[.agg #[.bool ((r32_ ja aa).f0), .string ((r32_ ja aa).f1), .string ((r32_ ja aa).f2)], .agg #[.bool ((r32_ ia aa).f0), .string ((r32_ ia aa).f1), .string ((r32_ ia aa).f2)]] (by rfl) rfl rfl mp_ ?_
           with_reducible refine (q_Subtract.calls k2 ((r32_ ja aa).f0) ((r32_ ja aa).f1) ((r32_ ja aa).f2) ((r32_ ia aa).f0) ((r32_ ia aa).f1) ((r32_ ia aa).f2) Oa Pa Qa _ A30.out).mono ?_
           rintro e w42 ⟨rfl, hb⟩
           have HS3_ := (hb.cell (World.block_lt_of_cell? _ _ (hHeld.2.2.2.1))).trans (hHeld.2.2.2.1)
           have HS4_ := (hb.cell (World.block_lt_of_cell? _ _ (hHeld.2.2.2.2.1))).trans (hHeld.2.2.2.2.1)
           have HS5_ := (hb.cell (World.block_lt_of_cell? _ _ (hHeld.2.2.2.2.2.1))).trans (hHeld.2.2.2.2.2.1)
           have HS6_ := (hb.cell (World.block_lt_of_cell? _ _ (hHeld.2.2.2.2.2.2.1))).trans (hHeld.2.2.2.2.2.2.1)
           have HS7_ := (hb.cell (World.block_lt_of_cell? _ _ (hHeld.2.2.2.2.2.2.2.1))).trans (hHeld.2.2.2.2.2.2.2.1)
           have HS8_ := (hb.cell (World.block_lt_of_cell? _ _ (hHeld.2.2.2.2.2.2.2.2.1))).trans (hHeld.2.2.2.2.2.2.2.2.1)
           have HS9_ := (hb.cell (World.block_lt_of_cell? _ _ (hHeld.2.2.2.2.2.2.2.2.2.1))).trans (hHeld.2.2.2.2.2.2.2.2.2.1)
           have HS10_ := (hb.cell (World.block_lt_of_cell? _ _ (hHeld.2.2.2.2.2.2.2.2.2.2.1))).trans (hHeld.2.2.2.2.2.2.2.2.2.2.1)
           have HS11_ := (hb.cell (World.block_lt_of_cell? _ _ (hHeld.2.2.2.2.2.2.2.2.2.2.2))).trans (hHeld.2.2.2.2.2.2.2.2.2.2.2)
           refine ⟨_, rfl, ?_⟩
           replace ea := mk_ (Kd.rB_ (xR_ ea.out) hb)
           replace fa := mk_ (Kd.rB_ (xR_ fa.out) hb)
           replace ga := mk_ (Kd.rB_ (xR_ ga.out) hb)
           replace ka := mk_ (Kd.rB_ (xR_ ka.out) hb)
           replace ca := mk_ (kB_ (xK_ ca.out) hb)
           replace la := mk_ (kB_ (xK_ la.out) hb)
           replace HB := mk_ (bT_ (xB2_ HB ua Fa) hb)
           (try clear hb)
           (try clear hb2)
           (try clear hk)
           (try clear hi)
           refine hK.out _ _ ⟨(kc_ ca.out 0).trans rfl, (kc_ ca.out 1).trans rfl, (kc_ ca.out 2).trans rfl, HS3_, HS4_, HS5_, HS6_, HS7_, HS8_, HS9_, HS10_, HS11_⟩ (fun hHeld => ?_)
           clear hK K
           refine norm_ (a' := ?_) ?_ ?_
           rotate_left
           ·show Act.put _ (some 53) _ = _
            simp only [Act.put, s1_, s2_, s3_, i6_, i3_]
            rfl
           refine one_ (i := 15) (N := some 59) (tf_ 17 1) rfl rfl (one_of HT_.out kr_) (by decide) (fun K hK => ?_)
           refine goes_ Tryd.func22 kr_ rfl #[.agg #[.bool Oa, .string Pa, .string Qa], .agg #[.bool ((r32_ ha da).f0), .string ((r32_ ha da).f1), .string ((r32_ ha da).f2)]] (by rfl) rfl rfl mp_ ?_
           with_reducible refine (q_Min.calls k2 Oa Pa Qa ((r32_ ha da).f0) ((r32_ ha da).f1) ((r32_ ha da).f2) va wa ya _ A32.out).mono ?_
           rintro e w43 ⟨rfl, hb⟩
           have HS3_ := (hb.cell (World.block_lt_of_cell? _ _ (hHeld.2.2.2.1))).trans (hHeld.2.2.2.1)
           have HS4_ := (hb.cell (World.block_lt_of_cell? _ _ (hHeld.2.2.2.2.1))).trans (hHeld.2.2.2.2.1)
           have HS5_ := (hb.cell (World.block_lt_of_cell? _ _ (hHeld.2.2.2.2.2.1))).trans (hHeld.2.2.2.2.2.1)
           have HS6_ := (hb.cell (World.block_lt_of_cell? _ _ (hHeld.2.2.2.2.2.2.1))).trans (hHeld.2.2.2.2.2.2.1)
           have HS7_ := (hb.cell (World.block_lt_of_cell? _ _ (hHeld.2.2.2.2.2.2.2.1))).trans (hHeld.2.2.2.2.2.2.2.1)
           have HS8_ := (hb.cell (World.block_lt_of_cell? _ _ (hHeld.2.2.2.2.2.2.2.2.1))).trans (hHeld.2.2.2.2.2.2.2.2.1)
           have HS9_ := (hb.cell (World.block_lt_of_cell? _ _ (hHeld.2.2.2.2.2.2.2.2.2.1))).trans (hHeld.2.2.2.2.2.2.2.2.2.1)
           have HS10_ := (hb.cell (World.block_lt_of_cell? _ _ (hHeld.2.2.2.2.2.2.2.2.2.2.1))).trans (hHeld.2.2.2.2.2.2.2.2.2.2.1)
           have HS11_ := (hb.cell (World.block_lt_of_cell? _ _ (hHeld.2.2.2.2.2.2.2.2.2.2.2))).trans (hHeld.2.2.2.2.2.2.2.2.2.2.2)
           refine ⟨_, rfl, ?_⟩
           replace ea := mk_ (Kd.rB_ (xR_ ea.out) hb)
           replace fa := mk_ (Kd.rB_ (xR_ fa.out) hb)
           replace ga := mk_ (Kd.rB_ (xR_ ga.out) hb)
           replace ka := mk_ (Kd.rB_ (xR_ ka.out) hb)
           replace ca := mk_ (kB_ (xK_ ca.out) hb)
           replace la := mk_ (kB_ (xK_ la.out) hb)
           replace HB := mk_ (bT_ (xB2_ HB ua Fa) hb)
           (try clear hb)
           (try clear hb2)
           (try clear hk)
           (try clear hi)
           refine hK.out _ _ ⟨(kc_ ca.out 0).trans rfl, (kc_ ca.out 1).trans rfl, (kc_ ca.out 2).trans rfl, HS3_, HS4_, HS5_, HS6_, HS7_, HS8_, HS9_, HS10_, HS11_⟩ (fun hHeld => ?_)
           clear hK K
           refine norm_ (a' := ?_) ?_ ?_
           rotate_left
           ·show Act.put _ (some 59) _ = _
            simp only [Act.put, s1_, s2_, s3_, i6_, i3_]
            rfl
           exact norm_ (by simp only [putAll, Act.put, s1_, s2_, s3_]) (hCont (ba) _ ⟨hHeld, (by refine xr_ ?_; exact Kd.rM_ fa.out (fun _ hk => ⟨hk.1.2, ⟨hk.1.1, hk.2⟩⟩)), (by refine xr_ ?_; exact Kd.rM_ ga.out (fun _ hk => ⟨hk.1.2, ⟨hk.1.1, hk.2⟩⟩)), (xR_ ka.out), (by refine xr_ ?_; exact Kd.rM_ ea.out (fun _ hk => ⟨hk.1.1, ⟨hk.1.2, hk.2⟩⟩)), (xK_ ca.out), (xK_ la.out), jb.out, Fa.out, Ba.out, Ra.out, (xB2_ HB ua Fa)⟩)
         rintro ba w44 ⟨hS_, h0_, h1_, h2_, h3_, h4_, h5_, h6_, h7_, h8_, h9_, h10_⟩
         replace fa : A0_ (Kd.R k32 32 w44 w.heap.size (fun k_ => some k_ ≠ (.slice (some qa) ja.length za : Value).ownBlock ∧ some k_ ≠ (.slice (some ta) ia.length Ca : Value).ownBlock ∧ k_ ≠ ba) (.slice (some oa) ha.length Aa) ha) := ⟨h0_⟩
         replace ga : A0_ (Kd.R k32 32 w44 w.heap.size (fun k_ => some k_ ≠ (.slice (some oa) ha.length Aa : Value).ownBlock ∧ some k_ ≠ (.slice (some ta) ia.length Ca : Value).ownBlock ∧ k_ ≠ ba) (.slice (some qa) ja.length za) ja) := ⟨h1_⟩
         replace ka : A0_ (Kd.R (Kd.int .u64) 59 w44 w.heap.size (fun _ => True) (.slice (some Ea) pa.length xa) pa) := ⟨h2_⟩
         replace ea : A0_ (Kd.R k32 32 w44 w.heap.size (fun k_ => some k_ ≠ (.slice (some oa) ha.length Aa : Value).ownBlock ∧ some k_ ≠ (.slice (some qa) ja.length za : Value).ownBlock ∧ k_ ≠ ba) (.slice (some ta) ia.length Ca) ia) := ⟨h3_⟩
         replace ca : A0_ (w44.heap[ma]? = some (.cells #[.slice (some oa) ha.length Aa, .slice (some qa) ja.length za, .slice (some Ea) pa.length xa] 56 (0, 0))) := ⟨h4_⟩
         have la : A0_ (w44.heap[ba]? = some (.cells zC_ 32 (0, 0))) := ⟨h5_⟩
         have jb : A0_ (w.heap.size ≤ ba) := ⟨h6_⟩
         have Fa : A0_ (w.heap.size ≤ ba) := ⟨h7_⟩
         have Ba : A0_ (ma ≠ ba) := ⟨h8_⟩
         have Ra : A0_ (ba ≠ ma) := ⟨h9_⟩
         replace HB : A0_ (Below w.heap.size w w44) := ⟨h10_⟩
         clear h0_ h1_ h2_ h3_ h4_ h5_ h6_ h7_ h8_ h9_ h10_
         have hHeld : w44.cell? ⟨ma, 0, none⟩ = some (.slice (some oa) ha.length Aa) ∧ w44.cell? ⟨ma, 1, none⟩ = some (.slice (some qa) ja.length za) ∧ w44.cell? ⟨ma, 2, none⟩ = some (.slice (some Ea) pa.length xa) ∧ w44.cell? (qa.add ((aa).toNat * 3)) = some (.bool ((r32_ ja aa).f0)) ∧ w44.cell? ⟨(qa.add ((aa).toNat * 3)).block, (qa.add ((aa).toNat * 3)).off + 1, none⟩ = some (.string ((r32_ ja aa).f1)) ∧ w44.cell? ⟨(qa.add ((aa).toNat * 3)).block, (qa.add ((aa).toNat * 3)).off + 2, none⟩ = some (.string ((r32_ ja aa).f2)) ∧ w44.cell? (ta.add ((aa).toNat * 3)) = some (.bool ((r32_ ia aa).f0)) ∧ w44.cell? ⟨(ta.add ((aa).toNat * 3)).block, (ta.add ((aa).toNat * 3)).off + 1, none⟩ = some (.string ((r32_ ia aa).f1)) ∧ w44.cell? ⟨(ta.add ((aa).toNat * 3)).block, (ta.add ((aa).toNat * 3)).off + 2, none⟩ = some (.string ((r32_ ia aa).f2)) ∧ w44.cell? (oa.add ((da).toNat * 3)) = some (.bool ((r32_ ha da).f0)) ∧ w44.cell? ⟨(oa.add ((da).toNat * 3)).block, (oa.add ((da).toNat * 3)).off + 1, none⟩ = some (.string ((r32_ ha da).f1)) ∧ w44.cell? ⟨(oa.add ((da).toNat * 3)).block, (oa.add ((da).toNat * 3)).off + 2, none⟩ = some (.string ((r32_ ha da).f2)) := hS_
         refine norm_ (a' := ?_) ?_ ?_
         rotate_left
         ·simp only [putAll, Act.put, s1_, s2_, s3_]
          rfl
         refine one_ (i := 17) (N := none) (tf_ 18 0) rfl rfl (one_of HT_.out kr_) (by decide) (fun K hK => ?_)
         have od : w44.cell? ⟨ba, 0, none⟩ = some (.bool false) := (kc_ la.out 0).trans rfl
         have hfs45 := kF_ la.out 0
         have hns45_0 := Ba.out
         have hms45_0 := Ra.out
         have pd : w44.cell? ⟨ba, 1, none⟩ = some (.string (⟨#[]⟩ : ByteArray)) := (kc_ la.out 1).trans rfl
         have hfs46 := kF_ la.out 1
         have hns46_0 := Ba.out
         have hms46_0 := Ra.out
         have qd : w44.cell? ⟨ba, 2, none⟩ = some (.string (⟨#[]⟩ : ByteArray)) := (kc_ la.out 2).trans rfl
         have hfs47 := kF_ la.out 2
         have hns47_0 := Ba.out
         have hms47_0 := Ra.out
         refine skip_ (w1 := ?_) (by rfl) rfl ?_ ?_
         rotate_left
         ·go_simp
          rfl
         refine hK.out _ _ ⟨((cf_ (p := ⟨ba, _, none⟩) Ba.out _).trans (((cf_ (p := ⟨ba, _, none⟩) Ba.out _).trans (((cf_ (p := ⟨ba, _, none⟩) Ba.out _).trans (hHeld.1)))))), ((cf_ (p := ⟨ba, _, none⟩) Ba.out _).trans (((cf_ (p := ⟨ba, _, none⟩) Ba.out _).trans (((cf_ (p := ⟨ba, _, none⟩) Ba.out _).trans (hHeld.2.1)))))), ((cf_ (p := ⟨ba, _, none⟩) Ba.out _).trans (((cf_ (p := ⟨ba, _, none⟩) Ba.out _).trans (((cf_ (p := ⟨ba, _, none⟩) Ba.out _).trans (hHeld.2.2.1)))))), ((cf_ (p := ⟨ba, _, none⟩) (by first | exact Kd.ob_ (Kd.R_away ga.out (fun _ hk => hk.2.2)) | (rw [ab_]; exact Kd.ob_ (Kd.R_away ga.out (fun _ hk => hk.2.2))) | (show (Addr.add _ _).block ≠ _; rw [ab_]; exact Kd.ob_ (Kd.R_away ga.out (fun _ hk => hk.2.2))) | (dsimp only; exact Kd.ob_ (Kd.R_away ga.out (fun _ hk => hk.2.2)))) _).trans (((cf_ (p := ⟨ba, _, none⟩) (by first | exact Kd.ob_ (Kd.R_away ga.out (fun _ hk => hk.2.2)) | (rw [ab_]; exact Kd.ob_ (Kd.R_away ga.out (fun _ hk => hk.2.2))) | (show (Addr.add _ _).block ≠ _; rw [ab_]; exact Kd.ob_ (Kd.R_away ga.out (fun _ hk => hk.2.2))) | (dsimp only; exact Kd.ob_ (Kd.R_away ga.out (fun _ hk => hk.2.2)))) _).trans (((cf_ (p := ⟨ba, _, none⟩) (by first | exact Kd.ob_ (Kd.R_away ga.out (fun _ hk => hk.2.2)) | (rw [ab_]; exact Kd.ob_ (Kd.R_away ga.out (fun _ hk => hk.2.2))) | (show (Addr.add _ _).block ≠ _; rw [ab_]; exact Kd.ob_ (Kd.R_away ga.out (fun _ hk => hk.2.2))) | (dsimp only; exact Kd.ob_ (Kd.R_away ga.out (fun _ hk => hk.2.2)))) _).trans (hHeld.2.2.2.1)))))), ((cf_ (p := ⟨ba, _, none⟩) (by first | exact Kd.ob_ (Kd.R_away ga.out (fun _ hk => hk.2.2)) | (rw [ab_]; exact Kd.ob_ (Kd.R_away ga.out (fun _ hk => hk.2.2))) | (show (Addr.add _ _).block ≠ _; rw [ab_]; exact Kd.ob_ (Kd.R_away ga.out (fun _ hk => hk.2.2))) | (dsimp only; exact Kd.ob_ (Kd.R_away ga.out (fun _ hk => hk.2.2)))) _).trans (((cf_ (p := ⟨ba, _, none⟩) (by first | exact Kd.ob_ (Kd.R_away ga.out (fun _ hk => hk.2.2)) | (rw [ab_]; exact Kd.ob_ (Kd.R_away ga.out (fun _ hk => hk.2.2))) | (show (Addr.add _ _).block ≠ _; rw [ab_]; exact Kd.ob_ (Kd.R_away ga.out (fun _ hk => hk.2.2))) | (dsimp only; exact Kd.ob_ (Kd.R_away ga.out (fun _ hk => hk.2.2)))) _).trans (((cf_ (p := ⟨ba, _, none⟩) (by first | exact Kd.ob_ (Kd.R_away ga.out (fun _ hk => hk.2.2)) | (rw [ab_]; exact Kd.ob_ (Kd.R_away ga.out (fun _ hk => hk.2.2))) | (show (Addr.add _ _).block ≠ _; rw [ab_]; exact Kd.ob_ (Kd.R_away ga.out (fun _ hk => hk.2.2))) | (dsimp only; exact Kd.ob_ (Kd.R_away ga.out (fun _ hk => hk.2.2)))) _).trans (hHeld.2.2.2.2.1)))))), ((cf_ (p := ⟨ba, _, none⟩) (by first | exact Kd.ob_ (Kd.R_away ga.out (fun _ hk => hk.2.2)) | (rw [ab_]; exact Kd.ob_ (Kd.R_away ga.out (fun _ hk => hk.2.2))) | (show (Addr.add _ _).block ≠ _; rw [ab_]; exact Kd.ob_ (Kd.R_away ga.out (fun _ hk => hk.2.2))) | (dsimp only; exact Kd.ob_ (Kd.R_away ga.out (fun _ hk => hk.2.2)))) _).trans (((cf_ (p := ⟨ba, _, none⟩) (by first | exact Kd.ob_ (Kd.R_away ga.out (fun _ hk => hk.2.2)) | (rw [ab_]; exact Kd.ob_ (Kd.R_away ga.out (fun _ hk => hk.2.2))) | (show (Addr.add _ _).block ≠ _; rw [ab_]; exact Kd.ob_ (Kd.R_away ga.out (fun _ hk => hk.2.2))) | (dsimp only; exact Kd.ob_ (Kd.R_away ga.out (fun _ hk => hk.2.2)))) _).trans (((cf_ (p := ⟨ba, _, none⟩) (by first | exact Kd.ob_ (Kd.R_away ga.out (fun _ hk => hk.2.2)) | (rw [ab_]; exact Kd.ob_ (Kd.R_away ga.out (fun _ hk => hk.2.2))) | (show (Addr.add _ _).block ≠ _; rw [ab_]; exact Kd.ob_ (Kd.R_away ga.out (fun _ hk => hk.2.2))) | (dsimp only; exact Kd.ob_ (Kd.R_away ga.out (fun _ hk => hk.2.2)))) _).trans (hHeld.2.2.2.2.2.1)))))), ((cf_ (p := ⟨ba, _, none⟩) (by first | exact Kd.ob_ (Kd.R_away ea.out (fun _ hk => hk.2.2)) | (rw [ab_]; exact Kd.ob_ (Kd.R_away ea.out (fun _ hk => hk.2.2))) | (show (Addr.add _ _).block ≠ _; rw [ab_]; exact Kd.ob_ (Kd.R_away ea.out (fun _ hk => hk.2.2))) | (dsimp only; exact Kd.ob_ (Kd.R_away ea.out (fun _ hk => hk.2.2)))) _).trans (((cf_ (p := ⟨ba, _, none⟩) (by first | exact Kd.ob_ (Kd.R_away ea.out (fun _ hk => hk.2.2)) | (rw [ab_]; exact Kd.ob_ (Kd.R_away ea.out (fun _ hk => hk.2.2))) | (show (Addr.add _ _).block ≠ _; rw [ab_]; exact Kd.ob_ (Kd.R_away ea.out (fun _ hk => hk.2.2))) | (dsimp only; exact Kd.ob_ (Kd.R_away ea.out (fun _ hk => hk.2.2)))) _).trans (((cf_ (p := ⟨ba, _, none⟩) (by first | exact Kd.ob_ (Kd.R_away ea.out (fun _ hk => hk.2.2)) | (rw [ab_]; exact Kd.ob_ (Kd.R_away ea.out (fun _ hk => hk.2.2))) | (show (Addr.add _ _).block ≠ _; rw [ab_]; exact Kd.ob_ (Kd.R_away ea.out (fun _ hk => hk.2.2))) | (dsimp only; exact Kd.ob_ (Kd.R_away ea.out (fun _ hk => hk.2.2)))) _).trans (hHeld.2.2.2.2.2.2.1)))))), ((cf_ (p := ⟨ba, _, none⟩) (by first | exact Kd.ob_ (Kd.R_away ea.out (fun _ hk => hk.2.2)) | (rw [ab_]; exact Kd.ob_ (Kd.R_away ea.out (fun _ hk => hk.2.2))) | (show (Addr.add _ _).block ≠ _; rw [ab_]; exact Kd.ob_ (Kd.R_away ea.out (fun _ hk => hk.2.2))) | (dsimp only; exact Kd.ob_ (Kd.R_away ea.out (fun _ hk => hk.2.2)))) _).trans (((cf_ (p := ⟨ba, _, none⟩) (by first | exact Kd.ob_ (Kd.R_away ea.out (fun _ hk => hk.2.2)) | (rw [ab_]; exact Kd.ob_ (Kd.R_away ea.out (fun _ hk => hk.2.2))) | (show (Addr.add _ _).block ≠ _; rw [ab_]; exact Kd.ob_ (Kd.R_away ea.out (fun _ hk => hk.2.2))) | (dsimp only; exact Kd.ob_ (Kd.R_away ea.out (fun _ hk => hk.2.2)))) _).trans (((cf_ (p := ⟨ba, _, none⟩) (by first | exact Kd.ob_ (Kd.R_away ea.out (fun _ hk => hk.2.2)) | (rw [ab_]; exact Kd.ob_ (Kd.R_away ea.out (fun _ hk => hk.2.2))) | (show (Addr.add _ _).block ≠ _; rw [ab_]; exact Kd.ob_ (Kd.R_away ea.out (fun _ hk => hk.2.2))) | (dsimp only; exact Kd.ob_ (Kd.R_away ea.out (fun _ hk => hk.2.2)))) _).trans (hHeld.2.2.2.2.2.2.2.1)))))), ((cf_ (p := ⟨ba, _, none⟩) (by first | exact Kd.ob_ (Kd.R_away ea.out (fun _ hk => hk.2.2)) | (rw [ab_]; exact Kd.ob_ (Kd.R_away ea.out (fun _ hk => hk.2.2))) | (show (Addr.add _ _).block ≠ _; rw [ab_]; exact Kd.ob_ (Kd.R_away ea.out (fun _ hk => hk.2.2))) | (dsimp only; exact Kd.ob_ (Kd.R_away ea.out (fun _ hk => hk.2.2)))) _).trans (((cf_ (p := ⟨ba, _, none⟩) (by first | exact Kd.ob_ (Kd.R_away ea.out (fun _ hk => hk.2.2)) | (rw [ab_]; exact Kd.ob_ (Kd.R_away ea.out (fun _ hk => hk.2.2))) | (show (Addr.add _ _).block ≠ _; rw [ab_]; exact Kd.ob_ (Kd.R_away ea.out (fun _ hk => hk.2.2))) | (dsimp only; exact Kd.ob_ (Kd.R_away ea.out (fun _ hk => hk.2.2)))) _).trans (((cf_ (p := ⟨ba, _, none⟩) (by first | exact Kd.ob_ (Kd.R_away ea.out (fun _ hk => hk.2.2)) | (rw [ab_]; exact Kd.ob_ (Kd.R_away ea.out (fun _ hk => hk.2.2))) | (show (Addr.add _ _).block ≠ _; rw [ab_]; exact Kd.ob_ (Kd.R_away ea.out (fun _ hk => hk.2.2))) | (dsimp only; exact Kd.ob_ (Kd.R_away ea.out (fun _ hk => hk.2.2)))) _).trans (hHeld.2.2.2.2.2.2.2.2.1)))))), ((cf_ (p := ⟨ba, _, none⟩) (by first | exact Kd.ob_ (Kd.R_away fa.out (fun _ hk => hk.2.2)) | (rw [ab_]; exact Kd.ob_ (Kd.R_away fa.out (fun _ hk => hk.2.2))) | (show (Addr.add _ _).block ≠ _; rw [ab_]; exact Kd.ob_ (Kd.R_away fa.out (fun _ hk => hk.2.2))) | (dsimp only; exact Kd.ob_ (Kd.R_away fa.out (fun _ hk => hk.2.2)))) _).trans (((cf_ (p := ⟨ba, _, none⟩) (by first | exact Kd.ob_ (Kd.R_away fa.out (fun _ hk => hk.2.2)) | (rw [ab_]; exact Kd.ob_ (Kd.R_away fa.out (fun _ hk => hk.2.2))) | (show (Addr.add _ _).block ≠ _; rw [ab_]; exact Kd.ob_ (Kd.R_away fa.out (fun _ hk => hk.2.2))) | (dsimp only; exact Kd.ob_ (Kd.R_away fa.out (fun _ hk => hk.2.2)))) _).trans (((cf_ (p := ⟨ba, _, none⟩) (by first | exact Kd.ob_ (Kd.R_away fa.out (fun _ hk => hk.2.2)) | (rw [ab_]; exact Kd.ob_ (Kd.R_away fa.out (fun _ hk => hk.2.2))) | (show (Addr.add _ _).block ≠ _; rw [ab_]; exact Kd.ob_ (Kd.R_away fa.out (fun _ hk => hk.2.2))) | (dsimp only; exact Kd.ob_ (Kd.R_away fa.out (fun _ hk => hk.2.2)))) _).trans (hHeld.2.2.2.2.2.2.2.2.2.1)))))), ((cf_ (p := ⟨ba, _, none⟩) (by first | exact Kd.ob_ (Kd.R_away fa.out (fun _ hk => hk.2.2)) | (rw [ab_]; exact Kd.ob_ (Kd.R_away fa.out (fun _ hk => hk.2.2))) | (show (Addr.add _ _).block ≠ _; rw [ab_]; exact Kd.ob_ (Kd.R_away fa.out (fun _ hk => hk.2.2))) | (dsimp only; exact Kd.ob_ (Kd.R_away fa.out (fun _ hk => hk.2.2)))) _).trans (((cf_ (p := ⟨ba, _, none⟩) (by first | exact Kd.ob_ (Kd.R_away fa.out (fun _ hk => hk.2.2)) | (rw [ab_]; exact Kd.ob_ (Kd.R_away fa.out (fun _ hk => hk.2.2))) | (show (Addr.add _ _).block ≠ _; rw [ab_]; exact Kd.ob_ (Kd.R_away fa.out (fun _ hk => hk.2.2))) | (dsimp only; exact Kd.ob_ (Kd.R_away fa.out (fun _ hk => hk.2.2)))) _).trans (((cf_ (p := ⟨ba, _, none⟩) (by first | exact Kd.ob_ (Kd.R_away fa.out (fun _ hk => hk.2.2)) | (rw [ab_]; exact Kd.ob_ (Kd.R_away fa.out (fun _ hk => hk.2.2))) | (show (Addr.add _ _).block ≠ _; rw [ab_]; exact Kd.ob_ (Kd.R_away fa.out (fun _ hk => hk.2.2))) | (dsimp only; exact Kd.ob_ (Kd.R_away fa.out (fun _ hk => hk.2.2)))) _).trans (hHeld.2.2.2.2.2.2.2.2.2.2.1)))))), ((cf_ (p := ⟨ba, _, none⟩) (by first | exact Kd.ob_ (Kd.R_away fa.out (fun _ hk => hk.2.2)) | (rw [ab_]; exact Kd.ob_ (Kd.R_away fa.out (fun _ hk => hk.2.2))) | (show (Addr.add _ _).block ≠ _; rw [ab_]; exact Kd.ob_ (Kd.R_away fa.out (fun _ hk => hk.2.2))) | (dsimp only; exact Kd.ob_ (Kd.R_away fa.out (fun _ hk => hk.2.2)))) _).trans (((cf_ (p := ⟨ba, _, none⟩) (by first | exact Kd.ob_ (Kd.R_away fa.out (fun _ hk => hk.2.2)) | (rw [ab_]; exact Kd.ob_ (Kd.R_away fa.out (fun _ hk => hk.2.2))) | (show (Addr.add _ _).block ≠ _; rw [ab_]; exact Kd.ob_ (Kd.R_away fa.out (fun _ hk => hk.2.2))) | (dsimp only; exact Kd.ob_ (Kd.R_away fa.out (fun _ hk => hk.2.2)))) _).trans (((cf_ (p := ⟨ba, _, none⟩) (by first | exact Kd.ob_ (Kd.R_away fa.out (fun _ hk => hk.2.2)) | (rw [ab_]; exact Kd.ob_ (Kd.R_away fa.out (fun _ hk => hk.2.2))) | (show (Addr.add _ _).block ≠ _; rw [ab_]; exact Kd.ob_ (Kd.R_away fa.out (fun _ hk => hk.2.2))) | (dsimp only; exact Kd.ob_ (Kd.R_away fa.out (fun _ hk => hk.2.2)))) _).trans (hHeld.2.2.2.2.2.2.2.2.2.2.2))))))⟩ (fun hHeld => ?_)
         clear hK K
         refine done_ (done_of HT_.out kr_) ?_
         try go_wp2
         have n0_ : A0_ (Kd.R k32 32 (((w44.setCell ⟨ba, 0, none⟩ (.bool va)).setCell ⟨ba, 1, none⟩ (.string wa)).setCell ⟨ba, 2, none⟩ (.string ya)) w.heap.size (fun k_ => some k_ ≠ (.slice (some oa) ha.length Aa : Value).ownBlock ∧ some k_ ≠ (.slice (some qa) ja.length za : Value).ownBlock ∧ k_ ≠ ba) (.slice (some ta) ia.length Ca) ia) := ⟨by refine xr_ ?_; exact Kd.rM_ (Kd.rF_ (p := ⟨ba, 2, none⟩) (Kd.rF_ (p := ⟨ba, 1, none⟩) (Kd.rF_ (p := ⟨ba, 0, none⟩) (Kd.rM_ ea.out (fun k_ hk => (⟨hk, hk.2.2⟩ : _ ∧ k_ ≠ ba))) (fun _ hk => hk.2) (.bool va)) (fun _ hk => hk.2) (.string wa)) (fun _ hk => hk.2) (.string ya)) (fun _ hk => ⟨hk.1.1, ⟨hk.1.2.1, hk.1.2.2⟩⟩)⟩
         have n1_ : A0_ (Kd.R k32 32 (((w44.setCell ⟨ba, 0, none⟩ (.bool va)).setCell ⟨ba, 1, none⟩ (.string wa)).setCell ⟨ba, 2, none⟩ (.string ya)) w.heap.size (fun k_ => some k_ ≠ (.slice (some ta) ia.length Ca : Value).ownBlock ∧ some k_ ≠ (.slice (some qa) ja.length za : Value).ownBlock ∧ k_ ≠ ba) (.slice (some oa) ha.length Aa) ha) := ⟨by refine xr_ ?_; exact Kd.rM_ (Kd.rF_ (p := ⟨ba, 2, none⟩) (Kd.rF_ (p := ⟨ba, 1, none⟩) (Kd.rF_ (p := ⟨ba, 0, none⟩) (Kd.rM_ fa.out (fun k_ hk => (⟨hk, hk.2.2⟩ : _ ∧ k_ ≠ ba))) (fun _ hk => hk.2) (.bool va)) (fun _ hk => hk.2) (.string wa)) (fun _ hk => hk.2) (.string ya)) (fun _ hk => ⟨hk.1.2.1, ⟨hk.1.1, hk.1.2.2⟩⟩)⟩
         have n2_ : A0_ (Kd.R k32 32 (((w44.setCell ⟨ba, 0, none⟩ (.bool va)).setCell ⟨ba, 1, none⟩ (.string wa)).setCell ⟨ba, 2, none⟩ (.string ya)) w.heap.size (fun k_ => some k_ ≠ (.slice (some ta) ia.length Ca : Value).ownBlock ∧ some k_ ≠ (.slice (some oa) ha.length Aa : Value).ownBlock ∧ k_ ≠ ba) (.slice (some qa) ja.length za) ja) := ⟨by refine xr_ ?_; exact Kd.rM_ (Kd.rF_ (p := ⟨ba, 2, none⟩) (Kd.rF_ (p := ⟨ba, 1, none⟩) (Kd.rF_ (p := ⟨ba, 0, none⟩) (Kd.rM_ ga.out (fun k_ hk => (⟨hk, hk.2.2⟩ : _ ∧ k_ ≠ ba))) (fun _ hk => hk.2) (.bool va)) (fun _ hk => hk.2) (.string wa)) (fun _ hk => hk.2) (.string ya)) (fun _ hk => ⟨hk.1.2.1, ⟨hk.1.1, hk.1.2.2⟩⟩)⟩
         have n3_ : A0_ (Kd.R (Kd.int .u64) 59 (((w44.setCell ⟨ba, 0, none⟩ (.bool va)).setCell ⟨ba, 1, none⟩ (.string wa)).setCell ⟨ba, 2, none⟩ (.string ya)) w.heap.size (fun _ => True) (.slice (some Ea) pa.length xa) pa) := ⟨by refine xr_ ?_; exact Kd.rM_ (Kd.rF_ (p := ⟨ba, 2, none⟩) (Kd.rF_ (p := ⟨ba, 1, none⟩) (Kd.rF_ (p := ⟨ba, 0, none⟩) (Kd.R_types ka.out la.out (by decide)) (fun _ hk => hk.2) (.bool va)) (fun _ hk => hk.2) (.string wa)) (fun _ hk => hk.2) (.string ya)) (fun _ hk => trivial)⟩
         have n4_ : A0_ ((((w44.setCell ⟨ba, 0, none⟩ (.bool va)).setCell ⟨ba, 1, none⟩ (.string wa)).setCell ⟨ba, 2, none⟩ (.string ya)).heap[ma]? = some (.cells #[.slice (some oa) ha.length Aa, .slice (some qa) ja.length za, .slice (some Ea) pa.length xa] 56 (0, 0))) := ⟨by refine xk_ ?_; refine bf_ ?_ Ba.out _; refine xk_ ?_; refine bf_ ?_ Ba.out _; refine xk_ ?_; refine bf_ ?_ Ba.out _; refine xk_ ?_; exact ca.out⟩
         have n5_ : A0_ ((((w44.setCell ⟨ba, 0, none⟩ (.bool va)).setCell ⟨ba, 1, none⟩ (.string wa)).setCell ⟨ba, 2, none⟩ (.string ya)).heap[ba]? = some (.cells #[.bool va, .string wa, .string ya] 32 (0, 0))) := ⟨by refine xk_ ?_; refine kQ_ (cs := #[.bool va, .string wa, .string (⟨#[]⟩ : ByteArray)]) ?_ 2 _ rfl; refine kQ_ (cs := #[.bool va, .string (⟨#[]⟩ : ByteArray), .string (⟨#[]⟩ : ByteArray)]) ?_ 1 _ rfl; refine kQ_ (cs := zC_) ?_ 0 _ rfl; exact la.out⟩
         have n6_ : A0_ (Below w.heap.size w (((w44.setCell ⟨ba, 0, none⟩ (.bool va)).setCell ⟨ba, 1, none⟩ (.string wa)).setCell ⟨ba, 2, none⟩ (.string ya))) := ⟨xB2_ HB ua Fa⟩
         (try clear ea)
         (try clear fa)
         (try clear ga)
         (try clear ka)
         (try clear ca)
         (try clear la)
         (try clear HB)
         generalize (((w44.setCell ⟨ba, 0, none⟩ (.bool va)).setCell ⟨ba, 1, none⟩ (.string wa)).setCell ⟨ba, 2, none⟩ (.string ya)) = w48 at n0_ n1_ n2_ n3_ n4_ n5_ n6_ ⊢
         have ea := n0_
         have fa := n1_
         have ga := n2_
         have ka := n3_
         have ca := n4_
         have la := n5_
         have HB := n6_
         clear n0_ n1_ n2_ n3_ n4_ n5_ n6_
         replace ea := mk_ (Kd.rD_ ea.out)
         replace fa := mk_ (Kd.rD_ fa.out)
         replace ga := mk_ (Kd.rD_ ga.out)
         replace ka := mk_ (Kd.rD_ ka.out)
         replace ca := mk_ (kD_ ca.out)
         replace la := mk_ (kD_ la.out)
         replace HB := mk_ (b1_ HB.out)
         have Kb : 0 ≤ (aa : Int) := oD_
         have Lb : aa < (ia.length : Int) := oD_
         obtain ⟨Gc, Hc, Mb, Nb, Ob⟩ := at_T32 (Kd.rr_' ea.out).2.2 aa Kb Lb
         obtain rfl : ta = Gc := (by injection Hc)
         replace Kb := eq_true Kb
         replace Lb := eq_true Lb
         refine start_ (n := 10) (S := fun w' => w'.cell? ⟨ba, 0, none⟩ = some (.bool va) ∧ w'.cell? ⟨ba, 1, none⟩ = some (.string wa) ∧ w'.cell? ⟨ba, 2, none⟩ = some (.string ya) ∧ w'.cell? (ta.add ((aa).toNat * 3)) = some (.bool ((r32_ ia aa).f0)) ∧ w'.cell? ⟨(ta.add ((aa).toNat * 3)).block, (ta.add ((aa).toNat * 3)).off + 1, none⟩ = some (.string ((r32_ ia aa).f1)) ∧ w'.cell? ⟨(ta.add ((aa).toNat * 3)).block, (ta.add ((aa).toNat * 3)).off + 2, none⟩ = some (.string ((r32_ ia aa).f2))) (ds := [9]) (tf_ 0 10) kr_ rfl rfl ⟨(kc_ la.out 0).trans rfl, (kc_ la.out 1).trans rfl, (kc_ la.out 2).trans rfl, Mb, Nb, Ob⟩ (fun hHeld => ?_); refine with_tabW marshal_Greedy.tab14 marshal_Greedy.bits14 (fun HT_ HW_ => ?_)
         generalize w48.drew = w49 at ea fa ga ka ca la HB Mb Nb Ob hHeld ⊢
         refine pu_ (i := 0) (N := some 60) (v := ?_) (a' := ?_) (tf_ 1 9) rfl rfl (an_ HT_.out kr_) (fun _ _ _ h => h) (Or.inl ⟨by rfl, ?_⟩) ?_ ?_
         rotate_left
         ·intro w'
          go_simp
          with_reducible rfl
         rotate_left
         ·simp only [Act.put, s1_, s2_, s3_, i6_, i3_]
          rfl
         refine pu_ (i := 1) (N := some 61) (v := ?_) (a' := ?_) (tf_ 2 8) rfl rfl (an_ HT_.out kr_) (fun _ _ _ h => h) (Or.inl ⟨by rfl, ?_⟩) ?_ ?_
         rotate_left
         ·intro w'
          go_simp
          with_reducible rfl
         rotate_left
         ·simp only [Act.put, s1_, s2_, s3_, i6_, i3_]
          rfl
         refine pu_ (i := 2) (N := some 62) (v := ?_) (a' := ?_) (tf_ 3 7) rfl rfl (an_ HT_.out kr_) (fun _ _ _ h => h) (Or.inl ⟨by rfl, ?_⟩) ?_ ?_
         rotate_left
         ·intro w'
          go_simp
          with_reducible rfl
         rotate_left
         ·simp only [Act.put, s1_, s2_, s3_, i6_, i3_]
          rfl
         refine pu_ (i := 3) (N := some 63) (v := ?_) (a' := ?_) (tf_ 4 6) rfl rfl (an_ HT_.out kr_) (fun _ _ _ h => h) (Or.inl ⟨by rfl, ?_⟩) ?_ ?_
         rotate_left
         ·intro w'
          go_simp
          with_reducible rfl
         rotate_left
         ·simp only [Act.put, s1_, s2_, s3_, i6_, i3_]
          rfl
         refine pu_ (i := 4) (N := some 64) (v := ?_) (a' := ?_) (tf_ 5 5) rfl rfl (an_ HT_.out kr_) (fun _ _ _ h => h) (Or.inl ⟨by rfl, ?_⟩) ?_ ?_
         rotate_left
         ·intro w'
          go_simp
          with_reducible rfl
         rotate_left
         ·simp only [Act.put, s1_, s2_, s3_, i6_, i3_]
          rfl
         refine take_ (i := 5) (N := some 65) (v := ?_) (a' := ?_) (tf_ 6 4) rfl rfl (tW_ HT_.out HW_.out kr_) (fun _ _ _ h => h) (Or.inl ⟨by rfl, ?_⟩) hHeld ?_ ?_
         rotate_left
         ·rintro w' ⟨s0, s1, s2, s3, s4, s5⟩
          go_simp
          with_reducible rfl
         rotate_left
         ·simp only [Act.put, s1_, s2_, s3_, i6_, i3_]
          rfl
         refine take_ (i := 6) (N := some 66) (v := ?_) (a' := ?_) (tf_ 7 3) rfl rfl (tW_ HT_.out HW_.out kr_) (fun _ _ _ h => h) (Or.inl ⟨by rfl, ?_⟩) hHeld ?_ ?_
         rotate_left
         ·rintro w' ⟨s0, s1, s2, s3, s4, s5⟩
          go_simp
          with_reducible rfl
         rotate_left
         ·simp only [Act.put, s1_, s2_, s3_, i6_, i3_]
          rfl
         refine one_ (i := 7) (N := some 67) (tf_ 8 2) rfl rfl (one_of HT_.out kr_) (by decide) (fun K hK => ?_)
         refine goes_ Tryd.func10 kr_ rfl #[.agg #[.bool ((r32_ ia aa).f0), .string ((r32_ ia aa).f1), .string ((r32_ ia aa).f2)], .agg #[.bool va, .string wa, .string ya]] (by rfl) rfl rfl mp_ ?_
         with_reducible refine (q_Add.calls k2 ((r32_ ia aa).f0) ((r32_ ia aa).f1) ((r32_ ia aa).f2) va wa ya Ga Ha Ia _ A33.out).mono ?_
         rintro e w50 ⟨rfl, hb⟩
         have HS3_ := (hb.cell (World.block_lt_of_cell? _ _ (hHeld.2.2.2.1))).trans (hHeld.2.2.2.1)
         have HS4_ := (hb.cell (World.block_lt_of_cell? _ _ (hHeld.2.2.2.2.1))).trans (hHeld.2.2.2.2.1)
         have HS5_ := (hb.cell (World.block_lt_of_cell? _ _ (hHeld.2.2.2.2.2))).trans (hHeld.2.2.2.2.2)
         refine ⟨_, rfl, ?_⟩
         replace ea := mk_ (Kd.rB_ (xR_ ea.out) hb)
         replace fa := mk_ (Kd.rB_ (xR_ fa.out) hb)
         replace ga := mk_ (Kd.rB_ (xR_ ga.out) hb)
         replace ka := mk_ (Kd.rB_ (xR_ ka.out) hb)
         replace ca := mk_ (kB_ (xK_ ca.out) hb)
         replace la := mk_ (kB_ (xK_ la.out) hb)
         replace HB := mk_ (bT_ (xB2_ HB ua Fa) hb)
         (try clear hb)
         (try clear hb2)
         (try clear hk)
         (try clear hi)
         have p34 : 0 ≤ (aa : Int) := oD_
         have q34 : (aa : Int) < ((ia.length : Int) : Int) := oD_
         obtain ⟨na, sd, cc, dc, gl34, cl34, ec⟩ := Kd.R_form ea.out (by omega)
         (first | cases cc | (injection cc with ea_ en_ ec_; (first | subst ea_ | (injection ea_ with ea_; subst ea_)); subst ec_; clear en_))
         have GB34 := mk_ dc
         have GG34 := mk_ ec
         clear dc gl34 ec
         (first | simp only [ap_] at Cb | skip)
         (first | simp only [ap_] at Db | skip)
         (first | simp only [ap_] at Eb | skip)
         (first | simp only [ap_] at Mb | skip)
         (first | simp only [ap_] at Nb | skip)
         (first | simp only [ap_] at Ob | skip)
         obtain ⟨ce34, hcl34, hM34, hcc34, hfr34⟩ := Kd.R_elem ea.out z32 (aa : Int) p34 q34
         obtain rfl := k32_openM hM34
         have td : World.cell? _ ⟨na, (aa : Int).toNat * 3, none⟩ = some (.bool ((r32_ ia aa).f0)) := hcc34 0 _ rfl
         have ud : World.cell? _ ⟨na, (aa : Int).toNat * 3 + 1, none⟩ = some (.string ((r32_ ia aa).f1)) := hcc34 1 _ rfl
         have vd : World.cell? _ ⟨na, (aa : Int).toNat * 3 + 2, none⟩ = some (.string ((r32_ ia aa).f2)) := hcc34 2 _ rfl
         have wd : World.frozen? _ ⟨na, (aa : Int).toNat * 3, none⟩ = false := hfr34 0
         have xd : World.frozen? _ ⟨na, (aa : Int).toNat * 3 + 1, none⟩ = false := hfr34 1
         have yd : World.frozen? _ ⟨na, (aa : Int).toNat * 3 + 2, none⟩ = false := hfr34 2
         clear hcl34 hcc34 hfr34 hM34
         replace p34 := eq_true p34
         replace q34 := eq_true q34
         obtain ⟨ce51, hcl51, hM51, hcc51, hfr51⟩ := Kd.R_elem ea.out z32 (aa : Int) (oD_) (by have h_ : (aa : Int) < ((ia.length : Int) : Int) := oD_; first | exact h_ | (have e_ := (Kd.rr_' ea.out).1; omega) | simpa using h_)
         obtain rfl := k32_openM hM51
         have HP51 := (Kd.R_seg ea.out (aa : Int) (oD_) (by have h_ : (aa : Int) < ((ia.length : Int) : Int) := oD_; first | exact h_ | (have e_ := (Kd.rr_' ea.out).1; omega) | simpa using h_) (seg := [.bool Ga, .string Ha, .string Ia]) (j := 0) hcl51 hcc51 (show 3 ≤ 3 from by decide) (x' := (⟨Ga, Ha, Ia⟩ : S32)) (k32_mkM _ _ _ (⟨Ga, Ha, Ia⟩ : S32) ) (fun _ hk => hk)).1
         rw [← Ac.out] at HP51
         have fc := mk_ HP51
         clear hcl51 hcc51 hfr51 hM51 HP51
         refine hK.out _ _ ⟨(kc_ la.out 0).trans rfl, (kc_ la.out 1).trans rfl, (kc_ la.out 2).trans rfl, HS3_, HS4_, HS5_⟩ (fun hHeld => ?_)
         clear hK K
         refine norm_ (a' := ?_) ?_ ?_
         rotate_left
         ·show Act.put _ (some 67) _ = _
          simp only [Act.put, s1_, s2_, s3_, i6_, i3_]
          rfl
         refine pu_ (i := 8) (N := some 68) (v := ?_) (a' := ?_) (tf_ 9 1) rfl rfl (an_ HT_.out kr_) (fun _ _ _ h => h) (Or.inl ⟨by rfl, ?_⟩) ?_ ?_
         rotate_left
         ·intro w'
          go_simp
          with_reducible rfl
         rotate_left
         ·simp only [Act.put, s1_, s2_, s3_, i6_, i3_]
          rfl
         refine last_ (i := 9) (N := none) (tf_ 10 0) rfl rfl (one_of HT_.out kr_) (by decide) (fun K hK => ?_)
         refine skip_ (w1 := ?_) (by rfl) rfl ?_ ?_
         rotate_left
         ·go_simp
          rfl
         refine hK.out _ _ ?_
         clear hK K
         refine done_ (done_of HT_.out kr_) ?_
         try go_wp2
         have n0_ : A0_ (Kd.R k32 32 (((w50.setCell ⟨na, (aa : Int).toNat * 3, none⟩ (.bool Ga)).setCell ⟨na, (aa : Int).toNat * 3 + 1, none⟩ (.string Ha)).setCell ⟨na, (aa : Int).toNat * 3 + 2, none⟩ (.string Ia)) w.heap.size (fun k_ => some k_ ≠ (.slice (some oa) ha.length Aa : Value).ownBlock ∧ some k_ ≠ (.slice (some qa) ja.length za : Value).ownBlock ∧ k_ ≠ ba) (.slice (some ⟨na, 0, none⟩) ia.length Ca) Wb) := ⟨by refine xr_ ?_; exact fc.out⟩
         have n1_ : A0_ (Kd.R k32 32 (((w50.setCell ⟨na, (aa : Int).toNat * 3, none⟩ (.bool Ga)).setCell ⟨na, (aa : Int).toNat * 3 + 1, none⟩ (.string Ha)).setCell ⟨na, (aa : Int).toNat * 3 + 2, none⟩ (.string Ia)) w.heap.size (fun k_ => some k_ ≠ (.slice (some ⟨na, 0, none⟩) ia.length Ca : Value).ownBlock ∧ some k_ ≠ (.slice (some qa) ja.length za : Value).ownBlock ∧ k_ ≠ ba) (.slice (some oa) ha.length Aa) ha) := ⟨by refine xr_ ?_; exact Kd.rM_ (Kd.rF_ (p := ⟨na, (aa : Int).toNat * 3 + 2, none⟩) (Kd.rF_ (p := ⟨na, (aa : Int).toNat * 3 + 1, none⟩) (Kd.rF_ (p := ⟨na, (aa : Int).toNat * 3, none⟩) (Kd.rM_ fa.out (fun k_ hk => (⟨hk, fun e_ => hk.1 (by rw [e_]; rfl)⟩ : _ ∧ k_ ≠ na))) (fun _ hk => hk.2) (.bool Ga)) (fun _ hk => hk.2) (.string Ha)) (fun _ hk => hk.2) (.string Ia)) (fun _ hk => ⟨hk.1.1, ⟨hk.1.2.1, hk.1.2.2⟩⟩)⟩
         have n2_ : A0_ (Kd.R k32 32 (((w50.setCell ⟨na, (aa : Int).toNat * 3, none⟩ (.bool Ga)).setCell ⟨na, (aa : Int).toNat * 3 + 1, none⟩ (.string Ha)).setCell ⟨na, (aa : Int).toNat * 3 + 2, none⟩ (.string Ia)) w.heap.size (fun k_ => some k_ ≠ (.slice (some ⟨na, 0, none⟩) ia.length Ca : Value).ownBlock ∧ some k_ ≠ (.slice (some oa) ha.length Aa : Value).ownBlock ∧ k_ ≠ ba) (.slice (some qa) ja.length za) ja) := ⟨by refine xr_ ?_; exact Kd.rM_ (Kd.rF_ (p := ⟨na, (aa : Int).toNat * 3 + 2, none⟩) (Kd.rF_ (p := ⟨na, (aa : Int).toNat * 3 + 1, none⟩) (Kd.rF_ (p := ⟨na, (aa : Int).toNat * 3, none⟩) (Kd.rM_ ga.out (fun k_ hk => (⟨hk, fun e_ => hk.1 (by rw [e_]; rfl)⟩ : _ ∧ k_ ≠ na))) (fun _ hk => hk.2) (.bool Ga)) (fun _ hk => hk.2) (.string Ha)) (fun _ hk => hk.2) (.string Ia)) (fun _ hk => ⟨hk.1.1, ⟨hk.1.2.1, hk.1.2.2⟩⟩)⟩
         have n3_ : A0_ (Kd.R (Kd.int .u64) 59 (((w50.setCell ⟨na, (aa : Int).toNat * 3, none⟩ (.bool Ga)).setCell ⟨na, (aa : Int).toNat * 3 + 1, none⟩ (.string Ha)).setCell ⟨na, (aa : Int).toNat * 3 + 2, none⟩ (.string Ia)) w.heap.size (fun _ => True) (.slice (some Ea) pa.length xa) pa) := ⟨by refine xr_ ?_; exact Kd.rM_ (Kd.rF_ (p := ⟨na, (aa : Int).toNat * 3 + 2, none⟩) (Kd.rF_ (p := ⟨na, (aa : Int).toNat * 3 + 1, none⟩) (Kd.rF_ (p := ⟨na, (aa : Int).toNat * 3, none⟩) (Kd.R_types ka.out GG34.out (by decide)) (fun _ hk => hk.2) (.bool Ga)) (fun _ hk => hk.2) (.string Ha)) (fun _ hk => hk.2) (.string Ia)) (fun _ hk => trivial)⟩
         have n4_ : A0_ ((((w50.setCell ⟨na, (aa : Int).toNat * 3, none⟩ (.bool Ga)).setCell ⟨na, (aa : Int).toNat * 3 + 1, none⟩ (.string Ha)).setCell ⟨na, (aa : Int).toNat * 3 + 2, none⟩ (.string Ia)).heap[ma]? = some (.cells #[.slice (some oa) ha.length Aa, .slice (some qa) ja.length za, .slice (some Ea) pa.length xa] 56 (0, 0))) := ⟨by refine xk_ ?_; refine bf_ ?_ (by have h_ := Kd.R_ne ea.out ca.out (by decide); intro e_; exact h_ (by rw [e_]; rfl)) _; refine xk_ ?_; refine bf_ ?_ (by have h_ := Kd.R_ne ea.out ca.out (by decide); intro e_; exact h_ (by rw [e_]; rfl)) _; refine xk_ ?_; refine bf_ ?_ (by have h_ := Kd.R_ne ea.out ca.out (by decide); intro e_; exact h_ (by rw [e_]; rfl)) _; refine xk_ ?_; exact ca.out⟩
         have n5_ : A0_ ((((w50.setCell ⟨na, (aa : Int).toNat * 3, none⟩ (.bool Ga)).setCell ⟨na, (aa : Int).toNat * 3 + 1, none⟩ (.string Ha)).setCell ⟨na, (aa : Int).toNat * 3 + 2, none⟩ (.string Ia)).heap[ba]? = some (.cells #[.bool va, .string wa, .string ya] 32 (0, 0))) := ⟨by refine xk_ ?_; refine bf_ ?_ (by have h_ := Kd.R_away ea.out (fun _ hk => hk.2.2); intro e_; exact h_ (by rw [e_]; rfl)) _; refine xk_ ?_; refine bf_ ?_ (by have h_ := Kd.R_away ea.out (fun _ hk => hk.2.2); intro e_; exact h_ (by rw [e_]; rfl)) _; refine xk_ ?_; refine bf_ ?_ (by have h_ := Kd.R_away ea.out (fun _ hk => hk.2.2); intro e_; exact h_ (by rw [e_]; rfl)) _; refine xk_ ?_; exact la.out⟩
         have n6_ : A0_ (Below w.heap.size w (((w50.setCell ⟨na, (aa : Int).toNat * 3, none⟩ (.bool Ga)).setCell ⟨na, (aa : Int).toNat * 3 + 1, none⟩ (.string Ha)).setCell ⟨na, (aa : Int).toNat * 3 + 2, none⟩ (.string Ia))) := ⟨xB5_ HB GB34 GB34 GB34 ua Fa⟩
         (try clear ea)
         (try clear fa)
         (try clear ga)
         (try clear ka)
         (try clear ca)
         (try clear la)
         (try clear HB)
         generalize (((w50.setCell ⟨na, (aa : Int).toNat * 3, none⟩ (.bool Ga)).setCell ⟨na, (aa : Int).toNat * 3 + 1, none⟩ (.string Ha)).setCell ⟨na, (aa : Int).toNat * 3 + 2, none⟩ (.string Ia)) = w52 at n0_ n1_ n2_ n3_ n4_ n5_ n6_ ⊢
         have ea := n0_
         have fa := n1_
         have ga := n2_
         have ka := n3_
         have ca := n4_
         have la := n5_
         have HB := n6_
         clear n0_ n1_ n2_ n3_ n4_ n5_ n6_
         replace ea := mk_ (Kd.rD_ ea.out)
         replace fa := mk_ (Kd.rD_ fa.out)
         replace ga := mk_ (Kd.rD_ ga.out)
         replace ka := mk_ (Kd.rD_ ka.out)
         replace ca := mk_ (kD_ ca.out)
         replace la := mk_ (kD_ la.out)
         replace HB := mk_ (b1_ HB.out)
         have Pb : 0 ≤ (da : Int) := oD_
         have Qb : da < (ha.length : Int) := oD_
         obtain ⟨Ic, Jc, Rb, Sb, Tb⟩ := at_T32 (Kd.rr_' fa.out).2.2 da Pb Qb
         obtain rfl : oa = Ic := (by injection Jc)
         replace Pb := eq_true Pb
         replace Qb := eq_true Qb
         refine start_ (n := 12) (S := fun w' => w'.cell? ⟨ma, 0, none⟩ = some (.slice (some oa) ha.length Aa) ∧ w'.cell? ⟨ma, 1, none⟩ = some (.slice (some qa) ja.length za) ∧ w'.cell? ⟨ma, 2, none⟩ = some (.slice (some Ea) pa.length xa) ∧ w'.cell? ⟨ba, 0, none⟩ = some (.bool va) ∧ w'.cell? ⟨ba, 1, none⟩ = some (.string wa) ∧ w'.cell? ⟨ba, 2, none⟩ = some (.string ya) ∧ w'.cell? (oa.add ((da).toNat * 3)) = some (.bool ((r32_ ha da).f0)) ∧ w'.cell? ⟨(oa.add ((da).toNat * 3)).block, (oa.add ((da).toNat * 3)).off + 1, none⟩ = some (.string ((r32_ ha da).f1)) ∧ w'.cell? ⟨(oa.add ((da).toNat * 3)).block, (oa.add ((da).toNat * 3)).off + 2, none⟩ = some (.string ((r32_ ha da).f2))) (ds := [11]) (tf_ 0 12) kr_ rfl rfl ⟨(kc_ ca.out 0).trans rfl, (kc_ ca.out 1).trans rfl, (kc_ ca.out 2).trans rfl, (kc_ la.out 0).trans rfl, (kc_ la.out 1).trans rfl, (kc_ la.out 2).trans rfl, Rb, Sb, Tb⟩ (fun hHeld => ?_); refine with_tabW marshal_Greedy.tab15 marshal_Greedy.bits15 (fun HT_ HW_ => ?_)
         generalize w52.drew = w53 at ea fa ga ka ca la HB fc Rb Sb Tb hHeld ⊢
         refine pu_ (i := 0) (N := some 69) (v := ?_) (a' := ?_) (tf_ 1 11) rfl rfl (an_ HT_.out kr_) (fun _ _ _ h => h) (Or.inl ⟨by rfl, ?_⟩) ?_ ?_
         rotate_left
         ·intro w'
          go_simp
          with_reducible rfl
         rotate_left
         ·simp only [Act.put, s1_, s2_, s3_, i6_, i3_]
          rfl
         refine pu_ (i := 2) (N := some 71) (v := ?_) (a' := ?_) #[true, false, true, false, false, false, false, false, false, false, false, false] rfl rfl (an_ HT_.out kr_) (fun _ _ _ h => h) (Or.inl ⟨by rfl, ?_⟩) ?_ ?_
         rotate_left
         ·intro w'
          go_simp
          with_reducible rfl
         rotate_left
         ·simp only [Act.put, s1_, s2_, s3_, i6_, i3_]
          rfl
         refine pu_ (i := 3) (N := some 72) (v := ?_) (a' := ?_) #[true, false, true, true, false, false, false, false, false, false, false, false] rfl rfl (an_ HT_.out kr_) (fun _ _ _ h => h) (Or.inl ⟨by rfl, ?_⟩) ?_ ?_
         rotate_left
         ·intro w'
          go_simp
          with_reducible rfl
         rotate_left
         ·simp only [Act.put, s1_, s2_, s3_, i6_, i3_]
          rfl
         refine pu_ (i := 5) (N := some 74) (v := ?_) (a' := ?_) #[true, false, true, true, false, true, false, false, false, false, false, false] rfl rfl (an_ HT_.out kr_) (fun _ _ _ h => h) (Or.inl ⟨by rfl, ?_⟩) ?_ ?_
         rotate_left
         ·intro w'
          go_simp
          with_reducible rfl
         rotate_left
         ·simp only [Act.put, s1_, s2_, s3_, i6_, i3_]
          rfl
         refine take_ (i := 1) (N := some 70) (v := ?_) (a' := ?_) #[true, true, true, true, false, true, false, false, false, false, false, false] rfl rfl (tW_ HT_.out HW_.out kr_) (fun _ _ _ h => h) (Or.inl ⟨by rfl, ?_⟩) hHeld ?_ ?_
         rotate_left
         ·rintro w' ⟨s0, s1, s2, s3, s4, s5, s6, s7, s8⟩
          go_simp
          with_reducible rfl
         rotate_left
         ·simp only [Act.put, s1_, s2_, s3_, i6_, i3_]
          rfl
         refine take_ (i := 4) (N := some 73) (v := ?_) (a' := ?_) (tf_ 6 6) rfl rfl (tW_ HT_.out HW_.out kr_) (fun _ _ _ h => h) (Or.inl ⟨by rfl, ?_⟩) hHeld ?_ ?_
         rotate_left
         ·rintro w' ⟨s0, s1, s2, s3, s4, s5, s6, s7, s8⟩
          go_simp
          with_reducible rfl
         rotate_left
         ·simp only [Act.put, s1_, s2_, s3_, i6_, i3_]
          rfl
         refine pu_ (i := 6) (N := some 75) (v := ?_) (a' := ?_) (tf_ 7 5) rfl rfl (an_ HT_.out kr_) (fun _ _ _ h => h) (Or.inl ⟨by rfl, ?_⟩) ?_ ?_
         rotate_left
         ·intro w'
          go_simp
          with_reducible rfl
         rotate_left
         ·simp only [Act.put, s1_, s2_, s3_, i6_, i3_]
          rfl
         refine take_ (i := 7) (N := some 76) (v := ?_) (a' := ?_) (tf_ 8 4) rfl rfl (tW_ HT_.out HW_.out kr_) (fun _ _ _ h => h) (Or.inl ⟨by rfl, ?_⟩) hHeld ?_ ?_
         rotate_left
         ·rintro w' ⟨s0, s1, s2, s3, s4, s5, s6, s7, s8⟩
          go_simp
          with_reducible rfl
         rotate_left
         ·simp only [Act.put, s1_, s2_, s3_, i6_, i3_]
          rfl
         refine take_ (i := 8) (N := some 77) (v := ?_) (a' := ?_) (tf_ 9 3) rfl rfl (tW_ HT_.out HW_.out kr_) (fun _ _ _ h => h) (Or.inl ⟨by rfl, ?_⟩) hHeld ?_ ?_
         rotate_left
         ·rintro w' ⟨s0, s1, s2, s3, s4, s5, s6, s7, s8⟩
          go_simp
          with_reducible rfl
         rotate_left
         ·simp only [Act.put, s1_, s2_, s3_, i6_, i3_]
          rfl
         refine one_ (i := 9) (N := some 78) (tf_ 10 2) rfl rfl (one_of HT_.out kr_) (by decide) (fun K hK => ?_)
         refine goes_ Tryd.func15 kr_ rfl #[.agg #[.bool ((r32_ ha da).f0), .string ((r32_ ha da).f1), .string ((r32_ ha da).f2)], .agg #[.bool va, .string wa, .string ya]] (by rfl) rfl rfl mp_ ?_
         with_reducible refine (q_Subtract.calls k2 ((r32_ ha da).f0) ((r32_ ha da).f1) ((r32_ ha da).f2) va wa ya Wa Xa Ya _ A35.out).mono ?_
         rintro e w54 ⟨rfl, hb⟩
         have HS6_ := (hb.cell (World.block_lt_of_cell? _ _ (hHeld.2.2.2.2.2.2.1))).trans (hHeld.2.2.2.2.2.2.1)
         have HS7_ := (hb.cell (World.block_lt_of_cell? _ _ (hHeld.2.2.2.2.2.2.2.1))).trans (hHeld.2.2.2.2.2.2.2.1)
         have HS8_ := (hb.cell (World.block_lt_of_cell? _ _ (hHeld.2.2.2.2.2.2.2.2))).trans (hHeld.2.2.2.2.2.2.2.2)
         refine ⟨_, rfl, ?_⟩
         replace ea := mk_ (Kd.rB_ (xR_ ea.out) hb)
         replace fa := mk_ (Kd.rB_ (xR_ fa.out) hb)
         replace ga := mk_ (Kd.rB_ (xR_ ga.out) hb)
         replace ka := mk_ (Kd.rB_ (xR_ ka.out) hb)
         replace ca := mk_ (kB_ (xK_ ca.out) hb)
         replace la := mk_ (kB_ (xK_ la.out) hb)
         replace HB := mk_ (bT_ (xB2_ HB ua Fa) hb)
         (try clear hb)
         (try clear hb2)
         (try clear hk)
         (try clear hi)
         have p36 : 0 ≤ (da : Int) := oD_
         have q36 : (da : Int) < ((ha.length : Int) : Int) := oD_
         obtain ⟨Da, zd, gc, hc, gl36, cl36, ic⟩ := Kd.R_form fa.out (by omega)
         (first | cases gc | (injection gc with ea_ en_ ec_; (first | subst ea_ | (injection ea_ with ea_; subst ea_)); subst ec_; clear en_))
         have GB36 := mk_ hc
         have GG36 := mk_ ic
         clear hc gl36 ic
         (first | simp only [ap_] at Hb | skip)
         (first | simp only [ap_] at Ib | skip)
         (first | simp only [ap_] at Jb | skip)
         (first | simp only [ap_] at Rb | skip)
         (first | simp only [ap_] at Sb | skip)
         (first | simp only [ap_] at Tb | skip)
         obtain ⟨ce36, hcl36, hM36, hcc36, hfr36⟩ := Kd.R_elem fa.out z32 (da : Int) p36 q36
         obtain rfl := k32_openM hM36
         have Ad : World.cell? _ ⟨Da, (da : Int).toNat * 3, none⟩ = some (.bool ((r32_ ha da).f0)) := hcc36 0 _ rfl
         have Bd : World.cell? _ ⟨Da, (da : Int).toNat * 3 + 1, none⟩ = some (.string ((r32_ ha da).f1)) := hcc36 1 _ rfl
         have Cd : World.cell? _ ⟨Da, (da : Int).toNat * 3 + 2, none⟩ = some (.string ((r32_ ha da).f2)) := hcc36 2 _ rfl
         have Dd : World.frozen? _ ⟨Da, (da : Int).toNat * 3, none⟩ = false := hfr36 0
         have Ed : World.frozen? _ ⟨Da, (da : Int).toNat * 3 + 1, none⟩ = false := hfr36 1
         have Fd : World.frozen? _ ⟨Da, (da : Int).toNat * 3 + 2, none⟩ = false := hfr36 2
         clear hcl36 hcc36 hfr36 hM36
         replace p36 := eq_true p36
         replace q36 := eq_true q36
         obtain ⟨ce55, hcl55, hM55, hcc55, hfr55⟩ := Kd.R_elem fa.out z32 (da : Int) (oD_) (by have h_ : (da : Int) < ((ha.length : Int) : Int) := oD_; first | exact h_ | (have e_ := (Kd.rr_' fa.out).1; omega) | simpa using h_)
         obtain rfl := k32_openM hM55
         have HP55 := (Kd.R_seg fa.out (da : Int) (oD_) (by have h_ : (da : Int) < ((ha.length : Int) : Int) := oD_; first | exact h_ | (have e_ := (Kd.rr_' fa.out).1; omega) | simpa using h_) (seg := [.bool Wa, .string Xa, .string Ya]) (j := 0) hcl55 hcc55 (show 3 ≤ 3 from by decide) (x' := (⟨Wa, Xa, Ya⟩ : S32)) (k32_mkM _ _ _ (⟨Wa, Xa, Ya⟩ : S32) ) (fun _ hk => hk)).1
         rw [← Cc.out] at HP55
         have Kc := mk_ HP55
         clear hcl55 hcc55 hfr55 hM55 HP55
         refine hK.out _ _ ⟨(kc_ ca.out 0).trans rfl, (kc_ ca.out 1).trans rfl, (kc_ ca.out 2).trans rfl, (kc_ la.out 0).trans rfl, (kc_ la.out 1).trans rfl, (kc_ la.out 2).trans rfl, HS6_, HS7_, HS8_⟩ (fun hHeld => ?_)
         clear hK K
         refine norm_ (a' := ?_) ?_ ?_
         rotate_left
         ·show Act.put _ (some 78) _ = _
          simp only [Act.put, s1_, s2_, s3_, i6_, i3_]
          rfl
         refine pu_ (i := 10) (N := some 79) (v := ?_) (a' := ?_) (tf_ 11 1) rfl rfl (an_ HT_.out kr_) (fun _ _ _ h => h) (Or.inl ⟨by rfl, ?_⟩) ?_ ?_
         rotate_left
         ·intro w'
          go_simp
          with_reducible rfl
         rotate_left
         ·simp only [Act.put, s1_, s2_, s3_, i6_, i3_]
          rfl
         refine last_ (i := 11) (N := none) (tf_ 12 0) rfl rfl (one_of HT_.out kr_) (by decide) (fun K hK => ?_)
         refine skip_ (w1 := ?_) (by rfl) rfl ?_ ?_
         rotate_left
         ·go_simp
          rfl
         refine hK.out _ _ ?_
         clear hK K
         refine done_ (done_of HT_.out kr_) ?_
         try go_wp2
         (try simp only [← sa])
         (try simp only [ap_])
         go_roundg k2
         case measure => have := HK1.out; have := HK2.out; omega
         case rel => exact ⟨(Wb), (wrap64 (da + 1)), (Bc), (ja), (.slice (some ⟨Da, 0, none⟩) ha.length Aa), (.slice (some qa) ja.length za), (rS_), H', ⟨by have := HK1.out; have := HK2.out; omega⟩, ⟨by (try simp only [ra]); (try simp only [sa]); refine xr_ ?_; exact Kd.rM_ (Kd.rF_ (p := ⟨Da, (da : Int).toNat * 3 + 2, none⟩) (Kd.rF_ (p := ⟨Da, (da : Int).toNat * 3 + 1, none⟩) (Kd.rF_ (p := ⟨Da, (da : Int).toNat * 3, none⟩) (Kd.rM_ ea.out (fun k_ hk => (⟨hk, fun e_ => hk.1 (by rw [e_]; rfl)⟩ : _ ∧ k_ ≠ Da))) (fun _ hk => hk.2) (.bool Wa)) (fun _ hk => hk.2) (.string Xa)) (fun _ hk => hk.2) (.string Ya)) (fun _ hk => ⟨hk.1.1, hk.1.2.1⟩)⟩, ⟨by (try simp only [ra]); (try simp only [sa]); refine xr_ ?_; exact Kd.rM_ Kc.out (fun _ hk => ⟨hk.1, hk.2.1⟩)⟩, ⟨by (try simp only [ra]); (try simp only [sa]); refine xr_ ?_; exact Kd.rM_ (Kd.rF_ (p := ⟨Da, (da : Int).toNat * 3 + 2, none⟩) (Kd.rF_ (p := ⟨Da, (da : Int).toNat * 3 + 1, none⟩) (Kd.rF_ (p := ⟨Da, (da : Int).toNat * 3, none⟩) (Kd.rM_ ga.out (fun k_ hk => (⟨hk, fun e_ => hk.2.1 (by rw [e_]; rfl)⟩ : _ ∧ k_ ≠ Da))) (fun _ hk => hk.2) (.bool Wa)) (fun _ hk => hk.2) (.string Xa)) (fun _ hk => hk.2) (.string Ya)) (fun _ hk => ⟨hk.1.1, hk.1.2.1⟩)⟩, ⟨by (try simp only [ra]); (try simp only [sa]); refine xr_ ?_; exact Kd.rM_ (Kd.rF_ (p := ⟨Da, (da : Int).toNat * 3 + 2, none⟩) (Kd.rF_ (p := ⟨Da, (da : Int).toNat * 3 + 1, none⟩) (Kd.rF_ (p := ⟨Da, (da : Int).toNat * 3, none⟩) (Kd.R_types ka.out GG36.out (by decide)) (fun _ hk => hk.2) (.bool Wa)) (fun _ hk => hk.2) (.string Xa)) (fun _ hk => hk.2) (.string Ya)) (fun _ hk => trivial)⟩, ⟨by (try simp only [ra]); (try simp only [sa]); refine xk_ ?_; refine bf_ ?_ (by have h_ := Kd.R_ne fa.out ca.out (by decide); intro e_; exact h_ (by rw [e_]; rfl)) _; refine xk_ ?_; refine bf_ ?_ (by have h_ := Kd.R_ne fa.out ca.out (by decide); intro e_; exact h_ (by rw [e_]; rfl)) _; refine xk_ ?_; refine bf_ ?_ (by have h_ := Kd.R_ne fa.out ca.out (by decide); intro e_; exact h_ (by rw [e_]; rfl)) _; refine xk_ ?_; exact ca.out⟩, ⟨xB5_ HB GB36 GB36 GB36 ua Fa⟩⟩
       ·have rb := decide_eq_false c21
        (try (have c21h0 := rb; simp only [ra, sa] at c21h0))
        clear c21
        have H' := mk_ H
        clear H
        go_wp2
        (try simp only [← ra, ← sa])
        (try simp only [ap_])
        go_roundg k2
        case measure => have := HK1.out; have := HK2.out; omega
        case rel => exact ⟨(ia), (wrap64 (aa + 1)), (ha), (ja), (u784000), (u784001), (rS_), H', ⟨by have := HK1.out; have := HK2.out; omega⟩, ⟨by (try simp only [ra]); (try simp only [sa]); refine xr_ ?_; exact ea.out⟩, ⟨by (try simp only [ra]); (try simp only [sa]); refine xr_ ?_; exact fa.out⟩, ⟨by (try simp only [ra]); (try simp only [sa]); refine xr_ ?_; exact ga.out⟩, ⟨by (try simp only [ra]); (try simp only [sa]); refine xr_ ?_; exact ka.out⟩, ⟨by (try simp only [ra]); (try simp only [sa]); refine xk_ ?_; exact ca.out⟩, ⟨xB1_ HB ua⟩⟩
    ·have qb := decide_eq_false c18
     (try (have c18h0 := qb; simp only [ra] at c18h0))
     clear c18
     simp only [Option.some.injEq, Prod.mk.injEq] at H
     obtain ⟨rfl, rfl⟩ := H
     go_wp2
     go_ret2
     exact ⟨_, rE_, by refine xr_ ?_; exact Kd.rM_ ea.out (fun _ hk => trivial), xB1_ HB ua⟩
 ·have kc := beq_eq_false_iff_ne.mpr c4
  have lc := bne_iff_ne.mpr c4
  exact absurd H (by simp)
def marshal_least.l0 : Nat → List (S32) → Int → Int → Bool → ByteArray → ByteArray → Option (Bool × ByteArray × ByteArray)
 | 0, _, _, _, _, _, _ => none
 | k + 1, x9, x10, x11, x738000, x738001, x738002 => if x11 < x10 then (if 0 ≤ x11 then (if x11 < (x9.length : Int) then ((q_Min.f k x738000 x738001 x738002 ((r32_ x9 x11).f0) ((r32_ x9 x11).f1) ((r32_ x9 x11).f2)).bind fun bt740 => (marshal_least.l0 k x9 x10 (wrap64 (x11 + 1)) bt740.1 bt740.2.1 bt740.2.2)) else (none)) else (none)) else (some (x738000, x738001, x738002))
def marshal_least.f (k : Nat) (l0 : List (S32)) : Option (Bool × ByteArray × ByteArray) := if 0 < (l0.length : Int) then (marshal_least.l0 k l0 (l0.length : Int) 0 ((r32_ l0 0).f0) ((r32_ l0 0).f1) ((r32_ l0 0).f2)) else (none)
theorem marshal_least.mono_l : ∀ k, (∀ y0 y1 y2 y3 y4 y5, LeO (marshal_least.l0 k y0 y1 y2 y3 y4 y5) (marshal_least.l0 (k + 1) y0 y1 y2 y3 y4 y5))
 | 0 => fun _ _ _ _ _ _ r h => by simp [marshal_least.l0] at h
 | k + 1 => by
  have ih0 := marshal_least.mono_l k
  ·intro y0 y1 y2 y3 y4 y5
   unfold marshal_least.l0
   repeat' first
   | (with_reducible first | exact ih0 _ _ _ _ _ _ | exact q_Min.mono _ _ _ _ _ _ _ | exact LeO.refl _ | exact LeO.none _ | refine LeO.ite ?_ ?_ | refine LeO.bind ?_ (fun _ => ?_))
theorem marshal_least.mono : ∀ a0 k, LeO (marshal_least.f k a0) (marshal_least.f (k + 1) a0) := by
 intro a0 k
 have ih0 := marshal_least.mono_l k
 unfold marshal_least.f
 repeat' first
   | (with_reducible first | exact ih0 _ _ _ _ _ _ | exact q_Min.mono _ _ _ _ _ _ _ | exact LeO.refl _ | exact LeO.none _ | refine LeO.ite ?_ ?_ | refine LeO.bind ?_ (fun _ => ?_))
theorem marshal_least.calls (k : Nat) (A0 : Option Addr) (c0 : Nat) (l0 : List (S32)) (r1 : Bool) (r2 : ByteArray) (r3 : ByteArray) (w : World) (hr0 : Kd.C k32 w A0 l0.length l0) (hc0 : l0.length ≤ c0) (h : marshal_least.f k l0 = some (r1, r2, r3)) :
  Calls Tryd.prog 32 #[.slice A0 l0.length c0] w fun e w' => e = .returned (.agg #[.bool r1, .string r2, .string r3]) ∧ Below w.heap.size w w' := by
 have hu32 := Tryd.underlying32
 have HR0 := mk_ hr0
 have HC0 := mk_ hc0
 clear hr0 hc0
 have HB := mk_ (Below.refl w.heap.size w)
 have H := h
 unfold marshal_least.f at H
 clear h
 obtain ⟨c2, H⟩ := iP_ H
 have La := decide_eq_true c2
 have Ma : decide (0 < l0.length) = true := decide_eq_true (by omega)
 clear c2
 have H' := mk_ H
 clear H
 go_enter Tryd.func32, Tryd.ntmps32
 go_wp2_with (first | ((with_reducible refine gD_ (N := 2) rfl ?_); refine bX_ (N := 2) (cs := zC_) (t := 32) ?_; intro pa hg w3 hbox hb; have ba := mk_ (hbox); have Na := mk_ (gZ_ hg (bZ_ (xB_ HB))); have da := mk_ (gZ_ hg (bZ_ (xB_ HB))); replace HB := mk_ (bT_ (xB_ HB) hb); clear hb hbox hg; have qa : 0 ≤ (0 : Int) := (by omega); have ra : 0 < (l0.length : Int) := oD_; obtain ⟨Da, Ea, ja, ka, la⟩ := at_T32 HR0.out 0 qa ra; cases Ea; have Oa : (0 < l0.length) = True := eq_true (by omega); (try rw [show ((0 : Int)).toNat = 0 from rfl] at ja); (try rw [show 0 * 3 = 0 from rfl] at ja); (try rw [Addr.add_zero'] at ja); (try rw [show ((0 : Int)).toNat = 0 from rfl] at ka); (try rw [show 0 * 3 = 0 from rfl] at ka); (try rw [Addr.add_zero'] at ka); (try rw [show ((0 : Int)).toNat = 0 from rfl] at la); (try rw [show 0 * 3 = 0 from rfl] at la); (try rw [Addr.add_zero'] at la); (try replace ja := cT_ HB ja); (try replace ka := cT_ HB ka); (try replace la := cT_ HB la); replace qa := eq_true qa; replace ra := eq_true ra) | ((with_reducible refine gD_ (N := 3) rfl ?_); refine bX_ (N := 3) (cs := zC_) (t := 32) ?_; intro Aa hg w4 hbox hb; have ca := mk_ (hbox); have Pa := mk_ (gZ_ hg (bZ_ (xB1_ HB da))); have ia := mk_ (gZ_ hg (bZ_ (xB1_ HB da))); replace HB := mk_ (bT_ (xB1_ HB da) hb); have ha := mk_ (gN_ hg (xK_ ba.out)); have sa := mk_ (gM_ hg (xK_ ba.out)); replace ba := mk_ (kB_ (xK_ ba.out) hb); clear hb hbox hg; have hnb5 := sa.out; have hnc5 := ha.out; obtain ⟨Qa, Ra, Sa, Ta, Ua, Va⟩ := kG3_ ca.out))
 go_loopg [11] k (fun kq v11 w' => ∃ (aa : Int) (ea : Bool) (fa : ByteArray) (ga : ByteArray), v11 = .int .i64 aa ∧ A0_ (marshal_least.l0 kq l0 (l0.length : Int) aa ea fa ga = some (r1, r2, r3)) ∧ A0_ (kq ≤ k) ∧ A0_ (w'.heap[pa]? = some (.cells zC_ 32 (0, 0))) ∧ A0_ (w'.heap[Aa]? = some (.cells #[.bool ea, .string fa, .string ga] 32 (0, 0))) ∧ A0_ (Below w.heap.size w w'))
 case atStart => exact ⟨(0), ((r32_ l0 0).f0), ((r32_ l0 0).f1), ((r32_ l0 0).f2), (rS_), H', ⟨Nat.le_refl _⟩, ⟨by refine xk_ ?_; refine bf_ ?_ ha.out _; refine xk_ ?_; refine bf_ ?_ ha.out _; refine xk_ ?_; refine bf_ ?_ ha.out _; refine xk_ ?_; exact ba.out⟩, ⟨by refine xk_ ?_; refine kQ_ (cs := #[.bool ((r32_ l0 0).f0), .string ((r32_ l0 0).f1), .string (⟨#[]⟩ : ByteArray)]) ?_ 2 _ rfl; refine kQ_ (cs := #[.bool ((r32_ l0 0).f0), .string (⟨#[]⟩ : ByteArray), .string (⟨#[]⟩ : ByteArray)]) ?_ 1 _ rfl; refine kQ_ (cs := zC_) ?_ 0 _ rfl; exact ca.out⟩, ⟨xB2_ HB da ia⟩⟩
 case round =>
  clear H'
  obtain ⟨aa, ea, fa, ga, rfl, HA, HK1, ba, ca, HB⟩ := hrel
  cases gk with
  | zero => exact absurd HA.out (by simp [marshal_least.l0])
  | succ k1 =>
   have H := HA.out
   clear HA
   simp only [marshal_least.l0] at H
   replace H := iS_ H
   rcases H with ⟨c7, H⟩ | ⟨c7, H⟩
   ·have Fa := decide_eq_true c7
    clear c7
    obtain ⟨Wa, H⟩ := iD_ H
    obtain ⟨Xa, H⟩ := iD_ H
    obtain ⟨⟨ma, ta, Ba⟩, A10, H⟩ := oB_ H
    (try dsimp only at H)
    have H' := mk_ H
    clear H
    have ua : 0 ≤ (aa : Int) := oD_
    have va : aa < (l0.length : Int) := oD_
    obtain ⟨Ga, Ha, wa, xa, ya⟩ := at_T32 HR0.out aa ua va
    obtain rfl : Da = Ga := (by injection Ha)
    (try replace wa := cT_ HB wa)
    (try replace xa := cT_ HB xa)
    (try replace ya := cT_ HB ya)
    replace ua := eq_true ua
    replace va := eq_true va
    go_wp2_with (first | ((with_reducible refine gD_ (N := 5) rfl ?_); refine bX_ (N := 5) (cs := zC_) (t := 32) ?_; intro Ia hg w11 hbox hb; have za := mk_ (hbox); have Ya := mk_ (gZ_ hg (bZ_ (xB2_ HB da ia))); have Ca := mk_ (gZ_ hg (bZ_ (xB2_ HB da ia))); replace HB := mk_ (bT_ (xB2_ HB da ia) hb); have na := mk_ (gN_ hg (xK_ ba.out)); have Ja := mk_ (gM_ hg (xK_ ba.out)); replace ba := mk_ (kB_ (xK_ ba.out) hb); have oa := mk_ (gN_ hg (xK_ ca.out)); have Ka := mk_ (gM_ hg (xK_ ca.out)); replace ca := mk_ (kB_ (xK_ ca.out) hb); clear hb hbox hg; have hnb12 := Ja.out; have hnc12 := na.out; have hnb13 := Ka.out; have hnc13 := oa.out; obtain ⟨Za, ab, bb, cb, db, eb⟩ := kG3_ za.out; have hnb15 := sa.out; have hnc15 := ha.out; obtain ⟨fb, gb, ib, jb, kb, mb⟩ := kG3_ ca.out) | ((with_reducible refine gC_ (f := 22) rfl ?_); refine gL_ (some 17) rfl rfl Tryd.func22 kr_ rfl #[.agg #[.bool ea, .string fa, .string ga], .agg #[.bool ((r32_ l0 aa).f0), .string ((r32_ l0 aa).f1), .string ((r32_ l0 aa).f2)]] rfl mp_ ?_; (with_reducible refine (q_Min.calls k1 ea fa ga ((r32_ l0 aa).f0) ((r32_ l0 aa).f1) ((r32_ l0 aa).f2) ma ta Ba _ A10.out).mono ?_); rintro e w17 ⟨rfl, hb⟩; refine ⟨_, rfl, ?_⟩; replace ba := mk_ (kB_ (g := pa) (o := .cells zC_ 32 (0, 0)) (by refine xk_ ?_; refine bf_ ?_ na.out _; refine xk_ ?_; refine bf_ ?_ na.out _; refine xk_ ?_; refine bf_ ?_ na.out _; refine xk_ ?_; exact ba.out) hb); replace ca := mk_ (kB_ (g := Aa) (o := .cells #[.bool ea, .string fa, .string ga] 32 (0, 0)) (by refine xk_ ?_; refine bf_ ?_ oa.out _; refine xk_ ?_; refine bf_ ?_ oa.out _; refine xk_ ?_; refine bf_ ?_ oa.out _; refine xk_ ?_; exact ca.out) hb); replace za := mk_ (kB_ (g := Ia) (o := .cells #[.bool ((r32_ l0 aa).f0), .string ((r32_ l0 aa).f1), .string ((r32_ l0 aa).f2)] 32 (0, 0)) (by refine xk_ ?_; refine kQ_ (cs := #[.bool ((r32_ l0 aa).f0), .string ((r32_ l0 aa).f1), .string (⟨#[]⟩ : ByteArray)]) ?_ 2 _ rfl; refine kQ_ (cs := #[.bool ((r32_ l0 aa).f0), .string (⟨#[]⟩ : ByteArray), .string (⟨#[]⟩ : ByteArray)]) ?_ 1 _ rfl; refine kQ_ (cs := zC_) ?_ 0 _ rfl; exact za.out) hb); replace HB := mk_ (bT_ (xB3_ HB da ia Ca) hb); obtain ⟨nb, ob, pb, qb, rb, sb⟩ := kG3_ ca.out))
    (try simp only [ap_])
    go_roundg k1
    case measure => have := HK1.out; omega
    case rel => exact ⟨(wrap64 (aa + 1)), (ma), (ta), (Ba), (rS_), H', ⟨by have := HK1.out; omega⟩, ⟨by refine xk_ ?_; refine bf_ ?_ ha.out _; refine xk_ ?_; refine bf_ ?_ ha.out _; refine xk_ ?_; refine bf_ ?_ ha.out _; refine xk_ ?_; exact ba.out⟩, ⟨by refine xk_ ?_; refine kQ_ (cs := #[.bool ma, .string ta, .string ga]) ?_ 2 _ rfl; refine kQ_ (cs := #[.bool ma, .string fa, .string ga]) ?_ 1 _ rfl; refine kQ_ (cs := #[.bool ea, .string fa, .string ga]) ?_ 0 _ rfl; exact ca.out⟩, ⟨xB3_ HB da ia Ca⟩⟩
   ·have Fa := decide_eq_false c7
    clear c7
    simp only [Option.some.injEq, Prod.mk.injEq] at H
    obtain ⟨rfl, rfl, rfl⟩ := H
    have hnb19 := sa.out
    have hnc19 := ha.out
    obtain ⟨tb, ub, vb, wb, xb, yb⟩ := kG3_ ca.out
    obtain ⟨zb, Ab, Bb, Cb, Db, Eb⟩ := kG3_ ba.out
    go_wp2
    refine bodyPost_ret (results_cell_row rfl _ _ pa 32 #[.bool ea, .string fa, .string ga] (0, 0) _ rfl (by refine xk_ ?_; refine kQ_ (cs := #[.bool ea, .string fa, .string (⟨#[]⟩ : ByteArray)]) ?_ 2 _ rfl; refine kQ_ (cs := #[.bool ea, .string (⟨#[]⟩ : ByteArray), .string (⟨#[]⟩ : ByteArray)]) ?_ 1 _ rfl; refine kQ_ (cs := zC_) ?_ 0 _ rfl; exact ba.out) Tryd.underlying32 rfl kr_) rfl ?_
    exact ⟨rE_, xB2_ HB da ia⟩
def marshal_network_add.l0 : Nat → List (S32) → Int → Int → Int → List (S32) → List (S32) → List Int → Option ((List (S32)))
 | 0, _, _, _, _, _, _, _ => none
 | k + 1, x1, x2, x8, x9, x718000, x718001, x718002 => if x9 < x8 then (if 0 ≤ x2 then (if x2 < (x718002.length : Int) then (if (Go.bits .andNot .u64 (rd x718002 x2) (IntKind.u64.wrap (x9))) = 0 then (marshal_network_add.l0 k x1 x2 x8 (wrap64 (x9 + 1)) x718000 x718001 x718002) else (if 0 ≤ x9 then (if x9 < (x1.length : Int) then (if x2 < (x718001.length : Int) then ((q_Add.f k ((r32_ x1 x9).f0) ((r32_ x1 x9).f1) ((r32_ x1 x9).f2) ((r32_ x718001 x2).f0) ((r32_ x718001 x2).f1) ((r32_ x718001 x2).f2)).bind fun bt721 => (marshal_network_add.l0 k (x1.set (x9 : Int).toNat (⟨bt721.1, bt721.2.1, bt721.2.2⟩ : S32)) x2 x8 (wrap64 (x9 + 1)) x718000 x718001 x718002)) else (none)) else (none)) else (none))) else (none)) else (none)) else (some x1)
def marshal_network_add.f (k : Nat) (l0_0 : List (S32)) (l0_1 : List (S32)) (l0_2 : List Int) (l1 : List (S32)) (a2 : Int) : Option ((List (S32))) := marshal_network_add.l0 k l1 a2 (l1.length : Int) 0 l0_0 l0_1 l0_2
theorem marshal_network_add.mono_l : ∀ k, (∀ y0 y1 y2 y3 y4 y5 y6, LeO (marshal_network_add.l0 k y0 y1 y2 y3 y4 y5 y6) (marshal_network_add.l0 (k + 1) y0 y1 y2 y3 y4 y5 y6))
 | 0 => fun _ _ _ _ _ _ _ r h => by simp [marshal_network_add.l0] at h
 | k + 1 => by
  have ih0 := marshal_network_add.mono_l k
  ·intro y0 y1 y2 y3 y4 y5 y6
   unfold marshal_network_add.l0
   repeat' first
   | (with_reducible first | exact ih0 _ _ _ _ _ _ _ | exact q_Add.mono _ _ _ _ _ _ _ | exact LeO.refl _ | exact LeO.none _ | refine LeO.ite ?_ ?_ | refine LeO.bind ?_ (fun _ => ?_))
theorem marshal_network_add.mono : ∀ a0 a1 a2 a3 a4 k, LeO (marshal_network_add.f k a0 a1 a2 a3 a4) (marshal_network_add.f (k + 1) a0 a1 a2 a3 a4) := by
 intro a0 a1 a2 a3 a4 k
 have ih0 := marshal_network_add.mono_l k
 unfold marshal_network_add.f
 repeat' first
   | (with_reducible first | exact ih0 _ _ _ _ _ _ _ | exact q_Add.mono _ _ _ _ _ _ _ | exact LeO.refl _ | exact LeO.none _ | refine LeO.ite ?_ ?_ | refine LeO.bind ?_ (fun _ => ?_))
def marshal_network_add.T5 : Bool × List (List Nat × List Nat) := (true, [([], []), ([], []), ([], []), ([], []), ([2, 3], [2, 3]), ([4], [4]), ([], []), ([6], [6]), ([], []), ([7, 8], [7, 8]), ([9], [9]), ([5, 10], [5, 10]), ([0, 1, 0, 1, 2, 3, 4, 5, 6, 7, 8, 9, 10, 11], [0, 1]), ([12, 11, 11, 0, 1, 2, 3, 4, 5, 6, 7, 8, 9, 10, 11], [11, 12])])
def marshal_network_add.B5 : List Nat := [0, 0, 0, 0, 12, 28, 0, 64, 0, 448, 960, 2044, 4095, 8191]
theorem marshal_network_add.tab5 : rtab .any (opsOf Tryd.f31 5) = marshal_network_add.T5 := by kernel_rfl
theorem marshal_network_add.bits5 : waitsOk marshal_network_add.T5.2 marshal_network_add.B5 = true := by kernel_rfl
theorem marshal_network_add.calls (k : Nat) (A0_0 : Option Addr) (c0_0 : Nat) (l0_0 : List (S32)) (A0_1 : Option Addr) (c0_1 : Nat) (l0_1 : List (S32)) (A0_2 : Option Addr) (c0_2 : Nat) (l0_2 : List Int) (P1_ : Nat → Prop) (u9000_ : Value) (l1 : List (S32)) (a2 : Int) (r : List (S32)) (w0 w : World) (hB : Below w0.heap.size w0 w) (hr0_0 : ∀ W_, Kept w W_ (fun k_ => P1_ k_) → Kd.C k32 W_ A0_0 l0_0.length l0_0) (hc0_0 : l0_0.length ≤ c0_0) (hr0_1 : ∀ W_, Kept w W_ (fun k_ => P1_ k_) → Kd.C k32 W_ A0_1 l0_1.length l0_1) (hc0_1 : l0_1.length ≤ c0_1) (hr0_2 : ∀ W_, Kept w W_ (fun k_ => P1_ k_) → Kd.C (Kd.int .u64) W_ A0_2 l0_2.length l0_2) (hc0_2 : l0_2.length ≤ c0_2) (ho1 : Kd.R k32 32 w w0.heap.size P1_ u9000_ l1) (h : marshal_network_add.f k l0_0 l0_1 l0_2 l1 a2 = some r) :
  Calls Tryd.prog 31 #[.agg #[.slice A0_0 l0_0.length c0_0, .slice A0_1 l0_1.length c0_1, .slice A0_2 l0_2.length c0_2], u9000_, .int .i64 a2] w fun e w' => e = .returned (.tuple #[]) ∧ Kd.R k32 32 w' w0.heap.size (fun k_ => (P1_ k_ ∨ w.heap.size ≤ k_)) u9000_ r ∧ Below w0.heap.size w0 w' ∧ Kept w w' (fun k_ => P1_ k_) := by
 have hu56 := Tryd.underlying56
 have hu32 := Tryd.underlying32
 have HR0_0 := mk_ hr0_0
 have HC0_0 := mk_ hc0_0
 clear hr0_0 hc0_0
 have HR0_1 := mk_ hr0_1
 have HC0_1 := mk_ hc0_1
 clear hr0_1 hc0_1
 have HR0_2 := mk_ hr0_2
 have HC0_2 := mk_ hc0_2
 clear hr0_2 hc0_2
 have HO1 := mk_ (show Kd.R k32 32 w w0.heap.size (fun k_ => (P1_ k_ ∨ w.heap.size ≤ k_)) u9000_ l1 from Kd.rM_ ho1 (fun k_ hk => (.inl hk)))
 have HK := mk_ (Kept.refl w (fun k_ => P1_ k_))
 have HW0 := mk_ hB.size
 have HB := mk_ hB
 clear hB
 have H := h
 unfold marshal_network_add.f at H
 clear h
 have H' := mk_ H
 clear H
 go_enter Tryd.func31, Tryd.ntmps31
 go_wp2_with (first | ((with_reducible refine gD_ (N := 3) rfl ?_); refine bX_ (N := 3) (cs := #[.slice A0_0 l0_0.length c0_0, .slice A0_1 l0_1.length c0_1, .slice A0_2 l0_2.length c0_2]) (t := 56) ?_; intro ja hg w4 hbox hb; replace HO1 := mk_ (Kd.rB_ (xR_ HO1.out) hb); have ba := mk_ (hbox); have ka := mk_ ((by rw [hg]; exact (by first | exact HK.out.1 | exact (show Kept w _ (fun k_ => P1_ k_) from xT0_ HK).1) : w.heap.size ≤ ja)); replace HK := mk_ (Kept.below (S := (fun k_ => P1_ k_)) (xT0_ HK) hb); have la := mk_ (gZ_ hg (bZ_ (xB_ HB))); replace HB := mk_ (bT_ (xB_ HB) hb); clear hb hbox hg; obtain ⟨Ao5, co5, eo5⟩ := Kd.rS_' HO1.out; subst eo5))
 go_loopg [9] k (fun kq v9 w' => ∃ (ca : List (S32)) (aa : Int), v9 = .int .i64 aa ∧ A0_ (marshal_network_add.l0 kq ca a2 (l1.length : Int) aa l0_0 l0_1 l0_2 = some r) ∧ A0_ (kq ≤ k) ∧ A0_ (Kd.R k32 32 w' w0.heap.size (fun k_ => (P1_ k_ ∨ w.heap.size ≤ k_)) (.slice Ao5 l1.length co5) ca) ∧ A0_ (w'.heap[ja]? = some (.cells #[(.slice A0_0 l0_0.length c0_0), (.slice A0_1 l0_1.length c0_1), (.slice A0_2 l0_2.length c0_2)] 56 (0, 0))) ∧ A0_ (Kept w w' (fun k_ => P1_ k_)) ∧ A0_ (Below w0.heap.size w0 w'))
 case atStart => exact ⟨(l1), (0), (rS_), H', ⟨Nat.le_refl _⟩, ⟨by refine xr_ ?_; exact HO1.out⟩, ⟨by refine xk_ ?_; exact ba.out⟩, ⟨xT1_ HK ka⟩, ⟨xB1_ HB la⟩⟩
 case round =>
  clear H'
  obtain ⟨ca, aa, rfl, HA, HK1, da, ba, HK, HB⟩ := hrel
  have ea := (Kd.rr_' da.out).1
  rw [ea] at da
  (try simp only [ea])
  (try simp only [ea] at ba)
  cases gk with
  | zero => exact absurd HA.out (by simp [marshal_network_add.l0])
  | succ k1 =>
   have H := HA.out
   clear HA
   simp only [marshal_network_add.l0] at H
   replace H := iS_ H
   rcases H with ⟨c6, H⟩ | ⟨c6, H⟩
   ·have qa := decide_eq_true c6
    (try (have c6h0 := qa; simp only [ea] at c6h0))
    clear c6
    obtain ⟨Sa, H⟩ := iD_ H
    obtain ⟨Ha, H⟩ := iD_ H
    (try (have c8h0 := Ha; simp only [ea] at c8h0))
    replace H := iS_ H
    rcases H with ⟨c9, H⟩ | ⟨c9, H⟩
    ·have Ia := beq_iff_eq.mpr c9
     have Ja := bne_eq_false_iff_eq.mpr c9
     clear c9
     have H' := mk_ H
     clear H
     obtain ⟨Ta, Ua, Va, Wa, Xa, Ya⟩ := kG3_ ba.out
     have ga : 0 ≤ (a2 : Int) := oD_
     have ha : a2 < (l0_2.length : Int) := oD_
     obtain ⟨Da, ra, Ka⟩ := Kd.at_int (Kd.C_kept_now HR0_2.out HK.out) a2 ga ha
     cases ra
     replace ga := eq_true ga
     replace ha := eq_true ha
     go_wp2
     (try simp only [← ea])
     (try simp only [ap_])
     go_roundg k1
     case measure => have := HK1.out; omega
     case rel => exact ⟨(ca), (wrap64 (aa + 1)), (rS_), H', ⟨by have := HK1.out; omega⟩, ⟨by (try simp only [ea]); refine xr_ ?_; exact da.out⟩, ⟨by (try simp only [ea]); refine xk_ ?_; exact ba.out⟩, ⟨xT1_ HK ka⟩, ⟨xB1_ HB la⟩⟩
    ·have Ia := beq_eq_false_iff_ne.mpr c9
     have Ja := bne_iff_ne.mpr c9
     obtain ⟨Za, H⟩ := iD_ H
     obtain ⟨La, H⟩ := iD_ H
     (try (have c12h0 := La; simp only [ea] at c12h0))
     obtain ⟨Ma, H⟩ := iD_ H
     (try (have c13h0 := Ma; simp only [ea] at c13h0))
     obtain ⟨⟨ma, na, oa⟩, A14, H⟩ := oB_ H
     (try dsimp only at H)
     obtain ⟨Na, sa⟩ : ∃ y_ : List (S32), y_ = (ca.set (aa : Int).toNat (⟨ma, na, oa⟩ : S32)) := ⟨_, rfl⟩
     (first | rw [← sa] at H | skip); (try with_reducible replace H := (Option.bind_some _ _).symm.trans H); (try dsimp only at H)
     have Oa := mk_ sa
     clear sa
     have H' := mk_ H
     clear H
     obtain ⟨ab, bb, cb, db, eb, fb⟩ := kG3_ ba.out
     have ga : 0 ≤ (a2 : Int) := oD_
     have ha : a2 < (l0_2.length : Int) := oD_
     obtain ⟨Da, ra, Ka⟩ := Kd.at_int (Kd.C_kept_now HR0_2.out HK.out) a2 ga ha
     cases ra
     replace ga := eq_true ga
     replace ha := eq_true ha
     try go_wp2
     replace da := mk_ (Kd.rD_ da.out)
     replace ba := mk_ (kD_ ba.out)
     replace HK := mk_ (Kept.drew HK.out)
     replace HB := mk_ (b1_ HB.out)
     have ta : 0 ≤ (aa : Int) := oD_
     have ua : aa < (ca.length : Int) := oD_
     obtain ⟨pa, Pa, va, wa, xa⟩ := at_T32 (Kd.rr_' da.out).2.2 aa ta ua
     cases Pa
     replace ta := eq_true ta
     replace ua := eq_true ua
     have ya : 0 ≤ (a2 : Int) := oD_
     have za : a2 < (l0_1.length : Int) := oD_
     obtain ⟨ia, Qa, Aa, Ba, Ca⟩ := at_T32 (Kd.C_kept_now HR0_1.out HK.out) a2 ya za
     have hw720_2 := Ca
     have hw720_1 := Ba
     have hw720_0 := Aa
     cases Qa
     replace ya := eq_true ya
     replace za := eq_true za
     refine start_ (n := 14) (S := fun w' => w'.cell? ⟨ja, 0, none⟩ = some (.slice A0_0 l0_0.length c0_0) ∧ w'.cell? ⟨ja, 1, none⟩ = some (.slice (some ia) l0_1.length c0_1) ∧ w'.cell? ⟨ja, 2, none⟩ = some (.slice (some Da) l0_2.length c0_2) ∧ w'.cell? (pa.add ((aa).toNat * 3)) = some (.bool ((r32_ ca aa).f0)) ∧ w'.cell? ⟨(pa.add ((aa).toNat * 3)).block, (pa.add ((aa).toNat * 3)).off + 1, none⟩ = some (.string ((r32_ ca aa).f1)) ∧ w'.cell? ⟨(pa.add ((aa).toNat * 3)).block, (pa.add ((aa).toNat * 3)).off + 2, none⟩ = some (.string ((r32_ ca aa).f2)) ∧ w'.cell? (ia.add ((a2).toNat * 3)) = some (.bool ((r32_ l0_1 a2).f0)) ∧ w'.cell? ⟨(ia.add ((a2).toNat * 3)).block, (ia.add ((a2).toNat * 3)).off + 1, none⟩ = some (.string ((r32_ l0_1 a2).f1)) ∧ w'.cell? ⟨(ia.add ((a2).toNat * 3)).block, (ia.add ((a2).toNat * 3)).off + 2, none⟩ = some (.string ((r32_ l0_1 a2).f2))) (ds := [13]) (tf_ 0 14) kr_ rfl rfl ⟨(kc_ ba.out 0).trans rfl, (kc_ ba.out 1).trans rfl, (kc_ ba.out 2).trans rfl, va, wa, xa, Aa, Ba, Ca⟩ (fun hHeld => ?_); refine with_tabW marshal_network_add.tab5 marshal_network_add.bits5 (fun HT_ HW_ => ?_)
     generalize wr.drew = w17 at da ba HK HB va wa xa Aa Ba Ca hHeld ⊢
     refine pu_ (i := 0) (N := some 21) (v := ?_) (a' := ?_) (tf_ 1 13) rfl rfl (an_ HT_.out kr_) (fun _ _ _ h => h) (Or.inl ⟨by rfl, ?_⟩) ?_ ?_
     rotate_left
     ·intro w'
      go_simp
      with_reducible rfl
     rotate_left
     ·simp only [Act.put, s1_, s2_, s3_, i6_, i3_]
      rfl
     refine pu_ (i := 1) (N := some 22) (v := ?_) (a' := ?_) (tf_ 2 12) rfl rfl (an_ HT_.out kr_) (fun _ _ _ h => h) (Or.inl ⟨by rfl, ?_⟩) ?_ ?_
     rotate_left
     ·intro w'
      go_simp
      with_reducible rfl
     rotate_left
     ·simp only [Act.put, s1_, s2_, s3_, i6_, i3_]
      rfl
     refine pu_ (i := 2) (N := some 23) (v := ?_) (a' := ?_) (tf_ 3 11) rfl rfl (an_ HT_.out kr_) (fun _ _ _ h => h) (Or.inl ⟨by rfl, ?_⟩) ?_ ?_
     rotate_left
     ·intro w'
      go_simp
      with_reducible rfl
     rotate_left
     ·simp only [Act.put, s1_, s2_, s3_, i6_, i3_]
      rfl
     refine pu_ (i := 3) (N := some 24) (v := ?_) (a' := ?_) (tf_ 4 10) rfl rfl (an_ HT_.out kr_) (fun _ _ _ h => h) (Or.inl ⟨by rfl, ?_⟩) ?_ ?_
     rotate_left
     ·intro w'
      go_simp
      with_reducible rfl
     rotate_left
     ·simp only [Act.put, s1_, s2_, s3_, i6_, i3_]
      rfl
     refine pu_ (i := 4) (N := some 25) (v := ?_) (a' := ?_) (tf_ 5 9) rfl rfl (an_ HT_.out kr_) (fun _ _ _ h => h) (Or.inl ⟨by rfl, ?_⟩) ?_ ?_
     rotate_left
     ·intro w'
      go_simp
      with_reducible rfl
     rotate_left
     ·simp only [Act.put, s1_, s2_, s3_, i6_, i3_]
      rfl
     refine pu_ (i := 6) (N := some 27) (v := ?_) (a' := ?_) #[true, true, true, true, true, false, true, false, false, false, false, false, false, false] rfl rfl (an_ HT_.out kr_) (fun _ _ _ h => h) (Or.inl ⟨by rfl, ?_⟩) ?_ ?_
     rotate_left
     ·intro w'
      go_simp
      with_reducible rfl
     rotate_left
     ·simp only [Act.put, s1_, s2_, s3_, i6_, i3_]
      rfl
     refine pu_ (i := 8) (N := some 29) (v := ?_) (a' := ?_) #[true, true, true, true, true, false, true, false, true, false, false, false, false, false] rfl rfl (an_ HT_.out kr_) (fun _ _ _ h => h) (Or.inl ⟨by rfl, ?_⟩) ?_ ?_
     rotate_left
     ·intro w'
      go_simp
      with_reducible rfl
     rotate_left
     ·simp only [Act.put, s1_, s2_, s3_, i6_, i3_]
      rfl
     refine take_ (i := 5) (N := some 26) (v := ?_) (a' := ?_) #[true, true, true, true, true, true, true, false, true, false, false, false, false, false] rfl rfl (tW_ HT_.out HW_.out kr_) (fun _ _ _ h => h) (Or.inl ⟨by rfl, ?_⟩) hHeld ?_ ?_
     rotate_left
     ·rintro w' ⟨s0, s1, s2, s3, s4, s5, s6, s7, s8⟩
      go_simp
      with_reducible rfl
     rotate_left
     ·simp only [Act.put, s1_, s2_, s3_, i6_, i3_]
      rfl
     refine take_ (i := 7) (N := some 28) (v := ?_) (a' := ?_) (tf_ 9 5) rfl rfl (tW_ HT_.out HW_.out kr_) (fun _ _ _ h => h) (Or.inl ⟨by rfl, ?_⟩) hHeld ?_ ?_
     rotate_left
     ·rintro w' ⟨s0, s1, s2, s3, s4, s5, s6, s7, s8⟩
      go_simp
      with_reducible rfl
     rotate_left
     ·simp only [Act.put, s1_, s2_, s3_, i6_, i3_]
      rfl
     refine pu_ (i := 9) (N := some 30) (v := ?_) (a' := ?_) (tf_ 10 4) rfl rfl (an_ HT_.out kr_) (fun _ _ _ h => h) (Or.inl ⟨by rfl, ?_⟩) ?_ ?_
     rotate_left
     ·intro w'
      go_simp
      with_reducible rfl
     rotate_left
     ·simp only [Act.put, s1_, s2_, s3_, i6_, i3_]
      rfl
     refine take_ (i := 10) (N := some 31) (v := ?_) (a' := ?_) (tf_ 11 3) rfl rfl (tW_ HT_.out HW_.out kr_) (fun _ _ _ h => h) (Or.inl ⟨by rfl, ?_⟩) hHeld ?_ ?_
     rotate_left
     ·rintro w' ⟨s0, s1, s2, s3, s4, s5, s6, s7, s8⟩
      go_simp
      with_reducible rfl
     rotate_left
     ·simp only [Act.put, s1_, s2_, s3_, i6_, i3_]
      rfl
     refine one_ (i := 11) (N := some 32) (tf_ 12 2) rfl rfl (one_of HT_.out kr_) (by decide) (fun K hK => ?_)
     refine goes_ Tryd.func10 kr_ rfl #[.agg #[.bool ((r32_ ca aa).f0), .string ((r32_ ca aa).f1), .string ((r32_ ca aa).f2)], .agg #[.bool ((r32_ l0_1 a2).f0), .string ((r32_ l0_1 a2).f1), .string ((r32_ l0_1 a2).f2)]] (by rfl) rfl rfl mp_ ?_
     with_reducible refine (q_Add.calls k1 ((r32_ ca aa).f0) ((r32_ ca aa).f1) ((r32_ ca aa).f2) ((r32_ l0_1 a2).f0) ((r32_ l0_1 a2).f1) ((r32_ l0_1 a2).f2) ma na oa _ A14.out).mono ?_
     rintro e w18 ⟨rfl, hb⟩
     have HS3_ := (hb.cell (World.block_lt_of_cell? _ _ (hHeld.2.2.2.1))).trans (hHeld.2.2.2.1)
     have HS4_ := (hb.cell (World.block_lt_of_cell? _ _ (hHeld.2.2.2.2.1))).trans (hHeld.2.2.2.2.1)
     have HS5_ := (hb.cell (World.block_lt_of_cell? _ _ (hHeld.2.2.2.2.2.1))).trans (hHeld.2.2.2.2.2.1)
     have HS6_ := (hb.cell (World.block_lt_of_cell? _ _ (hHeld.2.2.2.2.2.2.1))).trans (hHeld.2.2.2.2.2.2.1)
     have HS7_ := (hb.cell (World.block_lt_of_cell? _ _ (hHeld.2.2.2.2.2.2.2.1))).trans (hHeld.2.2.2.2.2.2.2.1)
     have HS8_ := (hb.cell (World.block_lt_of_cell? _ _ (hHeld.2.2.2.2.2.2.2.2))).trans (hHeld.2.2.2.2.2.2.2.2)
     refine ⟨_, rfl, ?_⟩
     replace da := mk_ (Kd.rB_ (xR_ da.out) hb)
     replace ba := mk_ (kB_ (xK_ ba.out) hb)
     replace HK := mk_ (Kept.below (S := (fun k_ => P1_ k_)) (xT1_ HK ka) hb)
     replace HB := mk_ (bT_ (xB1_ HB la) hb)
     (try clear hb)
     (try clear hb2)
     (try clear hk)
     (try clear hi)
     have p15 : 0 ≤ (aa : Int) := oD_
     have q15 : (aa : Int) < ((ca.length : Int) : Int) := oD_
     obtain ⟨fa, gb, Ea, Fa, gl15, cl15, Ga⟩ := Kd.R_form da.out (by omega)
     (first | cases Ea | (injection Ea with ea_ en_ ec_; (first | subst ea_ | (injection ea_ with ea_; subst ea_)); subst ec_; clear en_))
     have GB15 := mk_ Fa
     have GG15 := mk_ Ga
     clear Fa gl15 Ga
     have HMgo15 := mk_ (show (P1_ fa ∨ w.heap.size ≤ fa) from (da.out.1 _ rfl))
     (first | simp only [ap_] at va | skip)
     (first | simp only [ap_] at wa | skip)
     (first | simp only [ap_] at xa | skip)
     obtain ⟨ce15, hcl15, hM15, hcc15, hfr15⟩ := Kd.R_elem da.out z32 (aa : Int) p15 q15
     obtain rfl := k32_openM hM15
     have ib : World.cell? _ ⟨fa, (aa : Int).toNat * 3, none⟩ = some (.bool ((r32_ ca aa).f0)) := hcc15 0 _ rfl
     have jb : World.cell? _ ⟨fa, (aa : Int).toNat * 3 + 1, none⟩ = some (.string ((r32_ ca aa).f1)) := hcc15 1 _ rfl
     have kb : World.cell? _ ⟨fa, (aa : Int).toNat * 3 + 2, none⟩ = some (.string ((r32_ ca aa).f2)) := hcc15 2 _ rfl
     have mb : World.frozen? _ ⟨fa, (aa : Int).toNat * 3, none⟩ = false := hfr15 0
     have nb : World.frozen? _ ⟨fa, (aa : Int).toNat * 3 + 1, none⟩ = false := hfr15 1
     have ob : World.frozen? _ ⟨fa, (aa : Int).toNat * 3 + 2, none⟩ = false := hfr15 2
     clear hcl15 hcc15 hfr15 hM15
     replace p15 := eq_true p15
     replace q15 := eq_true q15
     obtain ⟨ce19, hcl19, hM19, hcc19, hfr19⟩ := Kd.R_elem da.out z32 (aa : Int) (oD_) (by have h_ : (aa : Int) < ((ca.length : Int) : Int) := oD_; first | exact h_ | (have e_ := (Kd.rr_' da.out).1; omega) | simpa using h_)
     obtain rfl := k32_openM hM19
     have HP19 := (Kd.R_seg da.out (aa : Int) (oD_) (by have h_ : (aa : Int) < ((ca.length : Int) : Int) := oD_; first | exact h_ | (have e_ := (Kd.rr_' da.out).1; omega) | simpa using h_) (seg := [.bool ma, .string na, .string oa]) (j := 0) hcl19 hcc19 (show 3 ≤ 3 from by decide) (x' := (⟨ma, na, oa⟩ : S32)) (k32_mkM _ _ _ (⟨ma, na, oa⟩ : S32) ) (fun _ hk => hk)).1
     rw [← Oa.out] at HP19
     have Ra := mk_ HP19
     clear hcl19 hcc19 hfr19 hM19 HP19
     refine hK.out _ _ ⟨(kc_ ba.out 0).trans rfl, (kc_ ba.out 1).trans rfl, (kc_ ba.out 2).trans rfl, HS3_, HS4_, HS5_, HS6_, HS7_, HS8_⟩ (fun hHeld => ?_)
     clear hK K
     refine norm_ (a' := ?_) ?_ ?_
     rotate_left
     ·show Act.put _ (some 32) _ = _
      simp only [Act.put, s1_, s2_, s3_, i6_, i3_]
      rfl
     refine pu_ (i := 12) (N := some 33) (v := ?_) (a' := ?_) (tf_ 13 1) rfl rfl (an_ HT_.out kr_) (fun _ _ _ h => h) (Or.inl ⟨by rfl, ?_⟩) ?_ ?_
     rotate_left
     ·intro w'
      go_simp
      with_reducible rfl
     rotate_left
     ·simp only [Act.put, s1_, s2_, s3_, i6_, i3_]
      rfl
     refine last_ (i := 13) (N := none) (tf_ 14 0) rfl rfl (one_of HT_.out kr_) (by decide) (fun K hK => ?_)
     refine skip_ (w1 := ?_) (by rfl) rfl ?_ ?_
     rotate_left
     ·go_simp
      rfl
     refine hK.out _ _ ?_
     clear hK K
     refine done_ (done_of HT_.out kr_) ?_
     try go_wp2
     (try simp only [← ea])
     (try simp only [ap_])
     go_roundg k1
     case measure => have := HK1.out; omega
     case rel => exact ⟨(Na), (wrap64 (aa + 1)), (rS_), H', ⟨by have := HK1.out; omega⟩, ⟨by (try simp only [ea]); refine xr_ ?_; exact Ra.out⟩, ⟨by (try simp only [ea]); refine xk_ ?_; refine bf_ ?_ (by have h_ := Kd.R_ne da.out ba.out (by decide); intro e_; exact h_ (by rw [e_]; rfl)) _; refine xk_ ?_; refine bf_ ?_ (by have h_ := Kd.R_ne da.out ba.out (by decide); intro e_; exact h_ (by rw [e_]; rfl)) _; refine xk_ ?_; refine bf_ ?_ (by have h_ := Kd.R_ne da.out ba.out (by decide); intro e_; exact h_ (by rw [e_]; rfl)) _; refine xk_ ?_; exact ba.out⟩, ⟨by repeat (first | (with_reducible first | exact HK.out | apply Kept.alloc | apply Kept.drewN | apply Kept.drew | refine Kept.setCell ?_ HMgo15.out _ | refine Kept.setCell ?_ HMgo15.out _ | refine Kept.setCell ?_ HMgo15.out _ | refine Kept.setCell ?_ (.inr ka.out) _) | exact HK.out)⟩, ⟨xB4_ HB GB15 GB15 GB15 la⟩⟩
   ·have qa := decide_eq_false c6
    (try (have c6h0 := qa; simp only [ea] at c6h0))
    clear c6
    obtain rfl := Option.some.inj H
    go_wp2
    first | go_end0 | ((try simp only [Exit.inBlock, Exit.then]); refine bodyPost_ret (results_none rfl _ _ _) rfl ?_)
    exact ⟨rE_, (by first | exact (xR_ da.out) | (simp only [ea]; exact (xR_ da.out))), xB1_ HB la, xT1_ HK ka⟩
def marshal_network_cuts.l0 : Nat → List (S32) → Int → List (S32) → List (S32) → List Int → Option ((List (S32)))
 | 0, _, _, _, _, _ => none
 | k + 1, x3, x4, x707000, x707001, x707002 => if x4 < (x3.length : Int) then (if 0 ≤ (Go.bits .and .i64 x4 (wrap64 (x4 - 1))) then (if (Go.bits .and .i64 x4 (wrap64 (x4 - 1))) < (x3.length : Int) then ((bits_TrailingZeros.f (IntKind.u64.wrap (x4))).bind fun t711 => (if 0 ≤ t711 then (if t711 < (x707000.length : Int) then ((q_Add.f k ((r32_ x3 (Go.bits .and .i64 x4 (wrap64 (x4 - 1)))).f0) ((r32_ x3 (Go.bits .and .i64 x4 (wrap64 (x4 - 1)))).f1) ((r32_ x3 (Go.bits .and .i64 x4 (wrap64 (x4 - 1)))).f2) ((r32_ x707000 t711).f0) ((r32_ x707000 t711).f1) ((r32_ x707000 t711).f2)).bind fun bt713 => (if 0 ≤ x4 then (marshal_network_cuts.l0 k (x3.set (x4 : Int).toNat (⟨bt713.1, bt713.2.1, bt713.2.2⟩ : S32)) (wrap64 (x4 + 1)) x707000 x707001 x707002) else (none))) else (none)) else (none))) else (none)) else (none)) else (some x3)
def marshal_network_cuts.f (k : Nat) (l0_0 : List (S32)) (l0_1 : List (S32)) (l0_2 : List Int) : Option ((List (S32))) := if 0 ≤ (shl .i64 1 (l0_0.length : Int)) then (if (shl .i64 1 (l0_0.length : Int) : Int).toNat ≤ 7036874417766 then (marshal_network_cuts.l0 k (List.replicate (shl .i64 1 (l0_0.length : Int) : Int).toNat z32) 1 l0_0 l0_1 l0_2) else (none)) else (none)
theorem marshal_network_cuts.mono_l : ∀ k, (∀ y0 y1 y2 y3 y4, LeO (marshal_network_cuts.l0 k y0 y1 y2 y3 y4) (marshal_network_cuts.l0 (k + 1) y0 y1 y2 y3 y4))
 | 0 => fun _ _ _ _ _ r h => by simp [marshal_network_cuts.l0] at h
 | k + 1 => by
  have ih0 := marshal_network_cuts.mono_l k
  ·intro y0 y1 y2 y3 y4
   unfold marshal_network_cuts.l0
   repeat' first
   | (with_reducible first | exact ih0 _ _ _ _ _ | exact q_Add.mono _ _ _ _ _ _ _ | exact LeO.refl _ | exact LeO.none _ | refine LeO.ite ?_ ?_ | refine LeO.bind ?_ (fun _ => ?_))
theorem marshal_network_cuts.mono : ∀ a0 a1 a2 k, LeO (marshal_network_cuts.f k a0 a1 a2) (marshal_network_cuts.f (k + 1) a0 a1 a2) := by
 intro a0 a1 a2 k
 have ih0 := marshal_network_cuts.mono_l k
 unfold marshal_network_cuts.f
 repeat' first
   | (with_reducible first | exact ih0 _ _ _ _ _ | exact q_Add.mono _ _ _ _ _ _ _ | exact LeO.refl _ | exact LeO.none _ | refine LeO.ite ?_ ?_ | refine LeO.bind ?_ (fun _ => ?_))
def marshal_network_cuts.T5 : Bool × List (List Nat × List Nat) := (true, [([], []), ([], []), ([], []), ([], []), ([], []), ([4], [4]), ([3, 5], [3, 5]), ([2, 6], [2, 6]), ([7], [7]), ([], []), ([9], [9]), ([], []), ([11], [11]), ([12], [12]), ([10, 13], [10, 13]), ([14], [14]), ([8, 15, 13], [8, 15]), ([0, 1, 0, 1, 2, 3, 4, 5, 6, 7, 8, 9, 10, 11, 12, 13, 14, 15, 16], [0, 1]), ([17, 16, 16, 0, 1, 2, 3, 4, 5, 6, 7, 8, 9, 10, 11, 12, 13, 14, 15, 16], [16, 17])])
def marshal_network_cuts.B5 : List Nat := [0, 0, 0, 0, 0, 16, 56, 124, 252, 0, 512, 0, 2048, 6144, 15872, 32256, 65532, 131071, 262143]
theorem marshal_network_cuts.tab5 : rtab .any (opsOf Tryd.f30 5) = marshal_network_cuts.T5 := by kernel_rfl
theorem marshal_network_cuts.bits5 : waitsOk marshal_network_cuts.T5.2 marshal_network_cuts.B5 = true := by kernel_rfl
theorem marshal_network_cuts.calls (k : Nat) (A0_0 : Option Addr) (c0_0 : Nat) (l0_0 : List (S32)) (A0_1 : Option Addr) (c0_1 : Nat) (l0_1 : List (S32)) (A0_2 : Option Addr) (c0_2 : Nat) (l0_2 : List Int) (r : List (S32)) (w : World) (hr0_0 : Kd.C k32 w A0_0 l0_0.length l0_0) (hc0_0 : l0_0.length ≤ c0_0) (hr0_1 : Kd.C k32 w A0_1 l0_1.length l0_1) (hc0_1 : l0_1.length ≤ c0_1) (hr0_2 : Kd.C (Kd.int .u64) w A0_2 l0_2.length l0_2) (hc0_2 : l0_2.length ≤ c0_2) (h : marshal_network_cuts.f k l0_0 l0_1 l0_2 = some r) (hT : TzT w) :
  Calls Tryd.prog 30 #[.agg #[.slice A0_0 l0_0.length c0_0, .slice A0_1 l0_1.length c0_1, .slice A0_2 l0_2.length c0_2]] w fun e w' => ∃ v0_ : Value, e = .returned (v0_) ∧ Kd.R k32 32 w' w.heap.size (fun _ => True) v0_ r ∧ Below w.heap.size w w' := by
 have HT := mk_ hT
 clear hT
 have hu56 := Tryd.underlying56
 have hu32 := Tryd.underlying32
 have HR0_0 := mk_ hr0_0
 have HC0_0 := mk_ hc0_0
 clear hr0_0 hc0_0
 have HR0_1 := mk_ hr0_1
 have HC0_1 := mk_ hc0_1
 clear hr0_1 hc0_1
 have HR0_2 := mk_ hr0_2
 have HC0_2 := mk_ hc0_2
 clear hr0_2 hc0_2
 have HB := mk_ (Below.refl w.heap.size w)
 have H := h
 unfold marshal_network_cuts.f at H
 clear h
 obtain ⟨ji2, ja⟩ : ∃ j_ : Int, (shl .i64 1 (l0_0.length : Int)) = j_ := ⟨_, rfl⟩
 replace H : (if 0 ≤ (ji2) then (if (ji2 : Int).toNat ≤ 7036874417766 then (marshal_network_cuts.l0 k (List.replicate (ji2 : Int).toNat z32) 1 l0_0 l0_1 l0_2) else (none)) else (none)) = some r := by first | (rw [ja] at H; exact H) | (simp only [ja] at H ⊢; exact H)
 have sa : (IntKind.i64.wrap (1 * 2 ^ min (l0_0.length : Int).toNat 64)) = ji2 := ja
 have hji2z : (l0_0.length : Int) ≤ 64 → (IntKind.i64.wrap (1 * 2 ^ (l0_0.length : Int).toNat)) = ji2 := shl_small ja
 have hji2p : (IntKind.i64.wrap (1 * 2 ^ min l0_0.length 64)) = ji2 := sa
 have hji2q : (l0_0.length : Int) ≤ 64 → (IntKind.i64.wrap (1 * 2 ^ l0_0.length)) = ji2 := hji2z
 have hji2r : (IntKind.i64.wrap (2 ^ min l0_0.length 64)) = ji2 := by have h_ := hji2p; rw [Int.one_mul] at h_; exact h_
 have hji2s : (l0_0.length : Int) ≤ 64 → (IntKind.i64.wrap (2 ^ l0_0.length)) = ji2 := fun hle_ => by have h_ := hji2q hle_; rw [Int.one_mul] at h_; exact h_
 have hji2u : (IntKind.i64.wrap (2 ^ min (l0_0.length : Int).toNat 64)) = ji2 := by have h_ := sa; rw [Int.one_mul] at h_; exact h_
 have Ta : (l0_0.length : Int) ≤ 64 → (IntKind.i64.wrap (2 ^ (l0_0.length : Int).toNat)) = ji2 := fun hle_ => by have h_ := hji2z hle_; rw [Int.one_mul] at h_; exact h_
 have hji2y : (wrap64 (1 * 2 ^ min (l0_0.length : Int).toNat 64)) = ji2 := (i6_ _).symm.trans sa
 have hji2x : (l0_0.length : Int) ≤ 64 → (wrap64 (1 * 2 ^ (l0_0.length : Int).toNat)) = ji2 := fun h_ => (i6_ _).symm.trans (hji2z h_)
 obtain ⟨Ua, Va, H⟩ := iE_ H
 obtain ⟨Wa, Xa, H⟩ := iE_ H
 obtain ⟨Ia, ta⟩ : ∃ y_ : List (S32), y_ = (List.replicate (ji2 : Int).toNat z32) := ⟨_, rfl⟩
 (first | rw [← ta] at H | skip); (try with_reducible replace H := (Option.bind_some _ _).symm.trans H); (try dsimp only at H)
 have Ea := mk_ ta
 clear ta
 have H' := mk_ H
 clear H
 go_enter Tryd.func30, Tryd.ntmps30
 go_wp2_with (first | ((with_reducible refine gD_ (N := 1) rfl ?_); refine bX_ (N := 1) (cs := #[.slice A0_0 l0_0.length c0_0, .slice A0_1 l0_1.length c0_1, .slice A0_2 l0_2.length c0_2]) (t := 56) ?_; intro ra hg w5 hbox hb; have da := mk_ (hbox); have Ya := mk_ (gZ_ hg (bZ_ (xB_ HB))); have ga := mk_ (gZ_ hg (bZ_ (xB_ HB))); replace HB := mk_ (bT_ (xB_ HB) hb); clear hb hbox hg; obtain ⟨Za, ab, bb, cb, db, eb⟩ := kG3_ da.out) | ((with_reducible refine gD_ (N := 9) rfl ?_); refine Kd.R_make k32 _ 32 rfl (N := 9) rfl 24 _ _ rfl ji2 rfl rfl Tryd.underlying24 (.agg #[(.bool false), (.string ⟨#[]⟩), (.string ⟨#[]⟩)]) 40 info32 rfl (by decide) (by omega) z32 (ok := fun _ => True) (okp := fun _ => True) (k32_mkM _ _ _ z32 ) (fun _ hk => hk) trivial (oD_) (Nat.le_trans (Nat.mul_le_mul_right _ (oD_ : ji2.toNat ≤ 7036874417766)) (by omega)) (Below.refl _ _) (Nat.le_refl _) ?_; intro Ja w7 ho8 hb hg_ hnew_; clear hg_ hnew_; (first | rw [← Ea.out] at ho8 | (simp only [Int.reduceToNat] at ho8; rw [← Ea.out] at ho8)); have Ka := mk_ (Kd.rL_ ho8 (bZ_ (xB1_ HB ga))); replace da := mk_ (kB_ (xK_ da.out) hb); replace HB := mk_ (bT_ (xB1_ HB ga) hb); clear hb ho8))
 go_loopg [4] k (fun kq v4 w' => ∃ (ba : List (S32)) (aa : Int), v4 = .int .i64 aa ∧ A0_ (marshal_network_cuts.l0 kq ba aa l0_0 l0_1 l0_2 = some r) ∧ A0_ (kq ≤ k) ∧ A0_ (Kd.R k32 32 w' w.heap.size (fun _ => True) Ja ba) ∧ A0_ (w'.heap[ra]? = some (.cells #[(.slice A0_0 l0_0.length c0_0), (.slice A0_1 l0_1.length c0_1), (.slice A0_2 l0_2.length c0_2)] 56 (0, 0))) ∧ A0_ (Below w.heap.size w w'))
 case atStart => exact ⟨(Ia), (1), (rS_), H', ⟨Nat.le_refl _⟩, ⟨by refine xr_ ?_; exact Ka.out⟩, ⟨by refine xk_ ?_; exact da.out⟩, ⟨xB1_ HB ga⟩⟩
 case round =>
  clear H'
  obtain ⟨ba, aa, rfl, HA, HK1, fa, da, HB⟩ := hrel
  cases gk with
  | zero => exact absurd HA.out (by simp [marshal_network_cuts.l0])
  | succ k1 =>
   have H := HA.out
   clear HA
   simp only [marshal_network_cuts.l0] at H
   replace H := iS_ H
   rcases H with ⟨c9, H⟩ | ⟨c9, H⟩
   ·have La := decide_eq_true c9
    clear c9
    obtain ⟨ea, ua⟩ : ∃ j_ : Int, (Go.bits .and .i64 aa (wrap64 (aa - 1))) = j_ := ⟨_, rfl⟩
    replace H : (if 0 ≤ (ea) then (if (ea) < (ba.length : Int) then ((bits_TrailingZeros.f (IntKind.u64.wrap (aa))).bind fun ca => (if 0 ≤ ca then (if ca < (l0_0.length : Int) then ((q_Add.f k1 ((r32_ ba (ea)).f0) ((r32_ ba (ea)).f1) ((r32_ ba (ea)).f2) ((r32_ l0_0 ca).f0) ((r32_ l0_0 ca).f1) ((r32_ l0_0 ca).f2)).bind fun va => (if 0 ≤ aa then (marshal_network_cuts.l0 k1 (ba.set (aa : Int).toNat (⟨va.1, va.2.1, va.2.2⟩ : S32)) (wrap64 (aa + 1)) l0_0 l0_1 l0_2) else (none))) else (none)) else (none))) else (none)) else (none)) = some r := by first | (rw [ua] at H; exact H) | (simp only [ua] at H ⊢; exact H)
    obtain ⟨fb, H⟩ := iD_ H
    obtain ⟨gb, H⟩ := iD_ H
    obtain ⟨ca, A13, H⟩ := oB_ H
    (try dsimp only at H)
    obtain ⟨ib, H⟩ := iD_ H
    obtain ⟨jb, H⟩ := iD_ H
    obtain ⟨⟨ka, la, ma⟩, A16, H⟩ := oB_ H
    (try dsimp only at H)
    obtain ⟨kb, H⟩ := iD_ H
    obtain ⟨Ma, wa⟩ : ∃ y_ : List (S32), y_ = (ba.set (aa : Int).toNat (⟨ka, la, ma⟩ : S32)) := ⟨_, rfl⟩
    (first | rw [← wa] at H | skip); (try with_reducible replace H := (Option.bind_some _ _).symm.trans H); (try dsimp only at H)
    have Na := mk_ wa
    clear wa
    have H' := mk_ H
    clear H
    obtain ⟨mb, nb, Oa⟩ := Kd.rS_' fa.out
    subst Oa
    try go_wp2
    replace fa := mk_ (Kd.rD_ fa.out)
    replace da := mk_ (kD_ da.out)
    replace HB := mk_ (b1_ HB.out)
    have xa : 0 ≤ ((ea) : Int) := oD_
    have ya : (ea) < (ba.length : Int) := oD_
    obtain ⟨na, Pa, za, Aa, Ba⟩ := at_T32 (Kd.rr_' fa.out).2.2 (ea) xa ya
    cases Pa
    replace xa := eq_true xa
    replace ya := eq_true ya
    have Ca : 0 ≤ (ca : Int) := oD_
    have Da : ca < (l0_0.length : Int) := oD_
    obtain ⟨ha, Qa, oa, pa, qa⟩ := at_T32 HR0_0.out ca Ca Da
    have hw712_2 := qa
    have hw712_1 := pa
    have hw712_0 := oa
    cases Qa
    (try replace oa := cT_ HB oa)
    (try replace pa := cT_ HB pa)
    (try replace qa := cT_ HB qa)
    replace Ca := eq_true Ca
    replace Da := eq_true Da
    refine start_ (n := 19) (S := fun w' => w'.cell? ⟨ra, 0, none⟩ = some (.slice (some ha) l0_0.length c0_0) ∧ w'.cell? ⟨ra, 1, none⟩ = some (.slice A0_1 l0_1.length c0_1) ∧ w'.cell? ⟨ra, 2, none⟩ = some (.slice A0_2 l0_2.length c0_2) ∧ w'.cell? (na.add (((ea)).toNat * 3)) = some (.bool ((r32_ ba (ea)).f0)) ∧ w'.cell? ⟨(na.add (((ea)).toNat * 3)).block, (na.add (((ea)).toNat * 3)).off + 1, none⟩ = some (.string ((r32_ ba (ea)).f1)) ∧ w'.cell? ⟨(na.add (((ea)).toNat * 3)).block, (na.add (((ea)).toNat * 3)).off + 2, none⟩ = some (.string ((r32_ ba (ea)).f2)) ∧ w'.cell? (ha.add ((ca).toNat * 3)) = some (.bool ((r32_ l0_0 ca).f0)) ∧ w'.cell? ⟨(ha.add ((ca).toNat * 3)).block, (ha.add ((ca).toNat * 3)).off + 1, none⟩ = some (.string ((r32_ l0_0 ca).f1)) ∧ w'.cell? ⟨(ha.add ((ca).toNat * 3)).block, (ha.add ((ca).toNat * 3)).off + 2, none⟩ = some (.string ((r32_ l0_0 ca).f2))) (ds := [18]) (tf_ 0 19) kr_ rfl rfl ⟨(kc_ da.out 0).trans rfl, (kc_ da.out 1).trans rfl, (kc_ da.out 2).trans rfl, za, Aa, Ba, (cT_ HB hw712_0), (cT_ HB hw712_1), (cT_ HB hw712_2)⟩ (fun hHeld => ?_); refine with_tabW marshal_network_cuts.tab5 marshal_network_cuts.bits5 (fun HT_ HW_ => ?_)
    generalize wr.drew = w20 at fa da HB za Aa Ba oa pa qa hHeld ⊢
    refine pu_ (i := 0) (N := some 16) (v := ?_) (a' := ?_) (tf_ 1 18) rfl rfl (an_ HT_.out kr_) (fun _ _ _ h => h) (Or.inl ⟨by rfl, ?_⟩) ?_ ?_
    rotate_left
    ·intro w'
     go_simp
     with_reducible rfl
    rotate_left
    ·simp only [Act.put, s1_, s2_, s3_, i6_, i3_]
     rfl
    refine pu_ (i := 1) (N := some 17) (v := ?_) (a' := ?_) (tf_ 2 17) rfl rfl (an_ HT_.out kr_) (fun _ _ _ h => h) (Or.inl ⟨by rfl, ?_⟩) ?_ ?_
    rotate_left
    ·intro w'
     go_simp
     with_reducible rfl
    rotate_left
    ·simp only [Act.put, s1_, s2_, s3_, i6_, i3_]
     rfl
    refine pu_ (i := 2) (N := some 18) (v := ?_) (a' := ?_) (tf_ 3 16) rfl rfl (an_ HT_.out kr_) (fun _ _ _ h => h) (Or.inl ⟨by rfl, ?_⟩) ?_ ?_
    rotate_left
    ·intro w'
     go_simp
     with_reducible rfl
    rotate_left
    ·simp only [Act.put, s1_, s2_, s3_, i6_, i3_]
     rfl
    refine pu_ (i := 3) (N := some 19) (v := ?_) (a' := ?_) (tf_ 4 15) rfl rfl (an_ HT_.out kr_) (fun _ _ _ h => h) (Or.inl ⟨by rfl, ?_⟩) ?_ ?_
    rotate_left
    ·intro w'
     go_simp
     with_reducible rfl
    rotate_left
    ·simp only [Act.put, s1_, s2_, s3_, i6_, i3_]
     rfl
    refine pu_ (i := 4) (N := some 20) (v := ?_) (a' := ?_) (tf_ 5 14) rfl rfl (an_ HT_.out kr_) (fun _ _ _ h => h) (Or.inl ⟨by rfl, ?_⟩) ?_ ?_
    rotate_left
    ·intro w'
     go_simp
     with_reducible rfl
    rotate_left
    ·simp only [Act.put, s1_, s2_, s3_, i6_, i3_]
     rfl
    refine pu_ (i := 5) (N := some 21) (v := ?_) (a' := ?_) (tf_ 6 13) rfl rfl (an_ HT_.out kr_) (fun _ _ _ h => h) (Or.inl ⟨by rfl, ?_⟩) ?_ ?_
    rotate_left
    ·intro w'
     go_simp
     with_reducible rfl
    rotate_left
    ·simp only [Act.put, s1_, s2_, s3_, i6_, i3_]
     rfl
    refine pu_ (i := 6) (N := some 22) (v := ?_) (a' := ?_) (tf_ 7 12) rfl rfl (an_ HT_.out kr_) (fun _ _ _ h => h) (Or.inl ⟨by rfl, ?_⟩) ?_ ?_
    rotate_left
    ·intro w'
     go_simp
     with_reducible rfl
    rotate_left
    ·simp only [Act.put, s1_, s2_, s3_, i6_, i3_]
     rfl
    refine pu_ (i := 7) (N := some 23) (v := ?_) (a' := ?_) (tf_ 8 11) rfl rfl (an_ HT_.out kr_) (fun _ _ _ h => h) (Or.inl ⟨by rfl, ?_⟩) ?_ ?_
    rotate_left
    ·intro w'
     go_simp
     with_reducible rfl
    rotate_left
    ·simp only [Act.put, s1_, s2_, s3_, i6_, i3_]
     rfl
    refine pu_ (i := 9) (N := some 25) (v := ?_) (a' := ?_) #[true, true, true, true, true, true, true, true, false, true, false, false, false, false, false, false, false, false, false] rfl rfl (an_ HT_.out kr_) (fun _ _ _ h => h) (Or.inl ⟨by rfl, ?_⟩) ?_ ?_
    rotate_left
    ·intro w'
     go_simp
     with_reducible rfl
    rotate_left
    ·simp only [Act.put, s1_, s2_, s3_, i6_, i3_]
     rfl
    refine pu_ (i := 11) (N := some 27) (v := ?_) (a' := ?_) #[true, true, true, true, true, true, true, true, false, true, false, true, false, false, false, false, false, false, false] rfl rfl (an_ HT_.out kr_) (fun _ _ _ h => h) (Or.inl ⟨by rfl, ?_⟩) ?_ ?_
    rotate_left
    ·intro w'
     go_simp
     with_reducible rfl
    rotate_left
    ·simp only [Act.put, s1_, s2_, s3_, i6_, i3_]
     rfl
    refine pu_ (i := 12) (N := some 28) (v := ?_) (a' := ?_) #[true, true, true, true, true, true, true, true, false, true, false, true, true, false, false, false, false, false, false] rfl rfl (an_ HT_.out kr_) (fun _ _ _ h => h) (Or.inl ⟨by rfl, ?_⟩) ?_ ?_
    rotate_left
    ·intro w'
     go_simp
     with_reducible rfl
    rotate_left
    ·simp only [Act.put, s1_, s2_, s3_, i6_, i3_]
     rfl
    refine take_ (i := 8) (N := some 24) (v := ?_) (a' := ?_) #[true, true, true, true, true, true, true, true, true, true, false, true, true, false, false, false, false, false, false] rfl rfl (tW_ HT_.out HW_.out kr_) (fun _ _ _ h => h) (Or.inl ⟨by rfl, ?_⟩) hHeld ?_ ?_
    rotate_left
    ·rintro w' ⟨s0, s1, s2, s3, s4, s5, s6, s7, s8⟩
     go_simp
     with_reducible rfl
    rotate_left
    ·simp only [Act.put, s1_, s2_, s3_, i6_, i3_]
     rfl
    refine take_ (i := 10) (N := some 26) (v := ?_) (a' := ?_) (tf_ 13 6) rfl rfl (tW_ HT_.out HW_.out kr_) (fun _ _ _ h => h) (Or.inl ⟨by rfl, ?_⟩) hHeld ?_ ?_
    rotate_left
    ·rintro w' ⟨s0, s1, s2, s3, s4, s5, s6, s7, s8⟩
     go_simp
     with_reducible rfl
    rotate_left
    ·simp only [Act.put, s1_, s2_, s3_, i6_, i3_]
     rfl
    refine one_ (i := 13) (N := some 29) (tf_ 14 5) rfl rfl (one_of HT_.out kr_) (by decide) (fun K hK => ?_)
    refine goes_ Tryd.func50 kr_ rfl #[.int .u64 (IntKind.u64.wrap (aa))] (by rfl) rfl rfl mp_ ?_
    with_reducible refine (bits_TrailingZeros.calls (IntKind.u64.wrap (aa)) ca _ A13.out (TzT.below HT.out (Nat.le_refl _) (xB_ HB))).mono ?_
    rintro e w' ⟨rfl, ⟨nd, rfl⟩⟩
    refine ⟨_, rfl, ?_⟩
    refine hK.out _ _ ⟨(kc_ da.out 0).trans rfl, (kc_ da.out 1).trans rfl, (kc_ da.out 2).trans rfl, hHeld.2.2.2.1, hHeld.2.2.2.2.1, hHeld.2.2.2.2.2.1, (cT_ HB hw712_0), (cT_ HB hw712_1), (cT_ HB hw712_2)⟩ (fun hHeld => ?_)
    clear hK K
    refine norm_ (a' := ?_) ?_ ?_
    rotate_left
    ·show Act.put _ (some 29) _ = _
     simp only [Act.put, s1_, s2_, s3_, i6_, i3_]
     rfl
    refine pu_ (i := 14) (N := some 30) (v := ?_) (a' := ?_) (tf_ 15 4) rfl rfl (an_ HT_.out kr_) (fun _ _ _ h => h) (Or.inl ⟨by rfl, ?_⟩) ?_ ?_
    rotate_left
    ·intro w'
     go_simp
     with_reducible rfl
    rotate_left
    ·simp only [Act.put, s1_, s2_, s3_, i6_, i3_]
     rfl
    refine take_ (i := 15) (N := some 31) (v := ?_) (a' := ?_) (tf_ 16 3) rfl rfl (tW_ HT_.out HW_.out kr_) (fun _ _ _ h => h) (Or.inl ⟨by rfl, ?_⟩) hHeld ?_ ?_
    rotate_left
    ·rintro w' ⟨s0, s1, s2, s3, s4, s5, s6, s7, s8⟩
     go_simp
     with_reducible rfl
    rotate_left
    ·simp only [Act.put, s1_, s2_, s3_, i6_, i3_]
     rfl
    refine one_ (i := 16) (N := some 32) (tf_ 17 2) rfl rfl (one_of HT_.out kr_) (by decide) (fun K hK => ?_)
    refine goes_ Tryd.func10 kr_ rfl #[.agg #[.bool ((r32_ ba (ea)).f0), .string ((r32_ ba (ea)).f1), .string ((r32_ ba (ea)).f2)], .agg #[.bool ((r32_ l0_0 ca).f0), .string ((r32_ l0_0 ca).f1), .string ((r32_ l0_0 ca).f2)]] (by rfl) rfl rfl (by (try simp only [List.map_toArray, List.map_cons, List.map_nil]); first | done | (simp only [ua]; rfl) | rfl | (simp only [List.length_drop, List.length_take]; rfl)) ?_
    with_reducible refine (q_Add.calls k1 ((r32_ ba (ea)).f0) ((r32_ ba (ea)).f1) ((r32_ ba (ea)).f2) ((r32_ l0_0 ca).f0) ((r32_ l0_0 ca).f1) ((r32_ l0_0 ca).f2) ka la ma _ A16.out).mono ?_
    rintro e w21 ⟨rfl, hb⟩
    have HS3_ := (hb.cell (World.block_lt_of_cell? _ _ (hHeld.2.2.2.1))).trans (hHeld.2.2.2.1)
    have HS4_ := (hb.cell (World.block_lt_of_cell? _ _ (hHeld.2.2.2.2.1))).trans (hHeld.2.2.2.2.1)
    have HS5_ := (hb.cell (World.block_lt_of_cell? _ _ (hHeld.2.2.2.2.2.1))).trans (hHeld.2.2.2.2.2.1)
    refine ⟨_, rfl, ?_⟩
    replace fa := mk_ (Kd.rB_ (xR_ fa.out) hb)
    replace da := mk_ (kB_ (xK_ da.out) hb)
    replace HB := mk_ (bT_ (xB1_ HB ga) hb)
    (try clear hb)
    (try clear hb2)
    (try clear hk)
    (try clear hi)
    have p18 : 0 ≤ (aa : Int) := oD_
    have q18 : (aa : Int) < ((ba.length : Int) : Int) := oD_
    obtain ⟨ia, ob, Fa, Ga, gl18, cl18, Ha⟩ := Kd.R_form fa.out (by omega)
    (first | cases Fa | (injection Fa with ea_ en_ ec_; (first | subst ea_ | (injection ea_ with ea_; subst ea_)); subst ec_; clear en_))
    have GB18 := mk_ Ga
    have GG18 := mk_ Ha
    clear Ga gl18 Ha
    (first | simp only [ap_] at za | skip)
    (first | simp only [ap_] at Aa | skip)
    (first | simp only [ap_] at Ba | skip)
    obtain ⟨ce18, hcl18, hM18, hcc18, hfr18⟩ := Kd.R_elem fa.out z32 (aa : Int) p18 q18
    obtain rfl := k32_openM hM18
    have pb : World.cell? _ ⟨ia, (aa : Int).toNat * 3, none⟩ = some (.bool ((r32_ ba aa).f0)) := hcc18 0 _ rfl
    have qb : World.cell? _ ⟨ia, (aa : Int).toNat * 3 + 1, none⟩ = some (.string ((r32_ ba aa).f1)) := hcc18 1 _ rfl
    have rb : World.cell? _ ⟨ia, (aa : Int).toNat * 3 + 2, none⟩ = some (.string ((r32_ ba aa).f2)) := hcc18 2 _ rfl
    have sb : World.frozen? _ ⟨ia, (aa : Int).toNat * 3, none⟩ = false := hfr18 0
    have tb : World.frozen? _ ⟨ia, (aa : Int).toNat * 3 + 1, none⟩ = false := hfr18 1
    have ub : World.frozen? _ ⟨ia, (aa : Int).toNat * 3 + 2, none⟩ = false := hfr18 2
    clear hcl18 hcc18 hfr18 hM18
    replace p18 := eq_true p18
    replace q18 := eq_true q18
    obtain ⟨ce22, hcl22, hM22, hcc22, hfr22⟩ := Kd.R_elem fa.out z32 (aa : Int) (oD_) (by have h_ : (aa : Int) < ((ba.length : Int) : Int) := oD_; first | exact h_ | (have e_ := (Kd.rr_' fa.out).1; omega) | simpa using h_)
    obtain rfl := k32_openM hM22
    have HP22 := (Kd.R_seg fa.out (aa : Int) (oD_) (by have h_ : (aa : Int) < ((ba.length : Int) : Int) := oD_; first | exact h_ | (have e_ := (Kd.rr_' fa.out).1; omega) | simpa using h_) (seg := [.bool ka, .string la, .string ma]) (j := 0) hcl22 hcc22 (show 3 ≤ 3 from by decide) (x' := (⟨ka, la, ma⟩ : S32)) (k32_mkM _ _ _ (⟨ka, la, ma⟩ : S32) ) (fun _ hk => hk)).1
    rw [← Na.out] at HP22
    have Ra := mk_ HP22
    clear hcl22 hcc22 hfr22 hM22 HP22
    refine hK.out _ _ ⟨(kc_ da.out 0).trans rfl, (kc_ da.out 1).trans rfl, (kc_ da.out 2).trans rfl, HS3_, HS4_, HS5_, (cT_ HB hw712_0), (cT_ HB hw712_1), (cT_ HB hw712_2)⟩ (fun hHeld => ?_)
    clear hK K
    refine norm_ (a' := ?_) ?_ ?_
    rotate_left
    ·show Act.put _ (some 32) _ = _
     simp only [Act.put, s1_, s2_, s3_, i6_, i3_]
     rfl
    refine pu_ (i := 17) (N := some 33) (v := ?_) (a' := ?_) (tf_ 18 1) rfl rfl (an_ HT_.out kr_) (fun _ _ _ h => h) (Or.inl ⟨by rfl, ?_⟩) ?_ ?_
    rotate_left
    ·intro w'
     go_simp
     with_reducible rfl
    rotate_left
    ·simp only [Act.put, s1_, s2_, s3_, i6_, i3_]
     rfl
    refine last_ (i := 18) (N := none) (tf_ 19 0) rfl rfl (one_of HT_.out kr_) (by decide) (fun K hK => ?_)
    refine skip_ (w1 := ?_) (by rfl) rfl ?_ ?_
    rotate_left
    ·go_simp
     rfl
    refine hK.out _ _ ?_
    clear hK K
    refine done_ (done_of HT_.out kr_) ?_
    try go_wp2
    (try simp only [ap_])
    go_roundg k1
    case measure => have := HK1.out; omega
    case rel => exact ⟨(Ma), (wrap64 (aa + 1)), (rS_), H', ⟨by have := HK1.out; omega⟩, ⟨by refine xr_ ?_; exact Ra.out⟩, ⟨by refine xk_ ?_; refine bf_ ?_ (by have h_ := Kd.R_ne fa.out da.out (by decide); intro e_; exact h_ (by rw [e_]; rfl)) _; refine xk_ ?_; refine bf_ ?_ (by have h_ := Kd.R_ne fa.out da.out (by decide); intro e_; exact h_ (by rw [e_]; rfl)) _; refine xk_ ?_; refine bf_ ?_ (by have h_ := Kd.R_ne fa.out da.out (by decide); intro e_; exact h_ (by rw [e_]; rfl)) _; refine xk_ ?_; exact da.out⟩, ⟨xB4_ HB GB18 GB18 GB18 ga⟩⟩
   ·have La := decide_eq_false c9
    clear c9
    obtain rfl := Option.some.inj H
    obtain ⟨vb, wb, Sa⟩ := Kd.rS_' fa.out
    subst Sa
    go_wp2
    go_ret
    exact ⟨_, by first | rfl | (simp [eN_', eS_] <;> rfl) | (simp only [← ja]; first | rfl | (simp [eN_', eS_] <;> rfl)) | (simp [*, eN_', eS_] <;> rfl), by refine xr_ ?_; exact fa.out, xB1_ HB ga⟩
def marshal_network_totals.l0 : Nat → List (S32) → List (S32) → Int → Int → List (S32) → List (S32) → List Int → Bool → ByteArray → ByteArray → Option ((List (S32)))
 | 0, _, _, _, _, _, _, _, _, _, _ => none
 | k + 1, x3, x4, x16, x17, x744000, x744001, x744002, x751000, x751001, x751002 => if x17 < x16 then ((marshal_network_add.f k x744000 x744001 x744002 x4 x17).bind fun t751 => ((marshal_least.f k t751).bind fun bt752 => ((q_Subtract.f k bt752.1 bt752.2.1 bt752.2.2 x751000 x751001 x751002).bind fun bt756 => (if 0 ≤ x17 then (if x17 < (x3.length : Int) then (marshal_network_totals.l0 k (x3.set (x17 : Int).toNat (⟨bt756.1, bt756.2.1, bt756.2.2⟩ : S32)) t751 x16 (wrap64 (x17 + 1)) x744000 x744001 x744002 bt752.1 bt752.2.1 bt752.2.2) else (none)) else (none))))) else (some x3)
def marshal_network_totals.f (k : Nat) (l0_0 : List (S32)) (l0_1 : List (S32)) (l0_2 : List Int) : Option ((List (S32))) := if 0 ≤ (l0_1.length : Int) then (if ((l0_1.length : Int) : Int).toNat ≤ 7036874417766 then ((some (List.replicate ((l0_1.length : Int) : Int).toNat z32 : List (S32))).bind fun y744 => ((marshal_network_cuts.f k l0_0 l0_1 l0_2).bind fun t747 => (marshal_network_totals.l0 k y744 t747 (y744.length : Int) 0 l0_0 l0_1 l0_2 false (⟨#[]⟩ : ByteArray) (⟨#[]⟩ : ByteArray)))) else (none)) else (none)
theorem marshal_network_totals.mono_l : ∀ k, (∀ y0 y1 y2 y3 y4 y5 y6 y7 y8 y9, LeO (marshal_network_totals.l0 k y0 y1 y2 y3 y4 y5 y6 y7 y8 y9) (marshal_network_totals.l0 (k + 1) y0 y1 y2 y3 y4 y5 y6 y7 y8 y9))
 | 0 => fun _ _ _ _ _ _ _ _ _ _ r h => by simp [marshal_network_totals.l0] at h
 | k + 1 => by
  have ih0 := marshal_network_totals.mono_l k
  ·intro y0 y1 y2 y3 y4 y5 y6 y7 y8 y9
   unfold marshal_network_totals.l0
   repeat' first
   | (with_reducible first | exact ih0 _ _ _ _ _ _ _ _ _ _ | exact marshal_least.mono _ _ | exact marshal_network_add.mono _ _ _ _ _ _ | exact marshal_network_cuts.mono _ _ _ _ | exact q_Subtract.mono _ _ _ _ _ _ _ | exact LeO.refl _ | exact LeO.none _ | refine LeO.ite ?_ ?_ | refine LeO.bind ?_ (fun _ => ?_))
theorem marshal_network_totals.mono : ∀ a0 a1 a2 k, LeO (marshal_network_totals.f k a0 a1 a2) (marshal_network_totals.f (k + 1) a0 a1 a2) := by
 intro a0 a1 a2 k
 have ih0 := marshal_network_totals.mono_l k
 unfold marshal_network_totals.f
 repeat' first
   | (with_reducible first | exact ih0 _ _ _ _ _ _ _ _ _ _ | exact marshal_least.mono _ _ | exact marshal_network_add.mono _ _ _ _ _ _ | exact marshal_network_cuts.mono _ _ _ _ | exact q_Subtract.mono _ _ _ _ _ _ _ | exact LeO.refl _ | exact LeO.none _ | refine LeO.ite ?_ ?_ | refine LeO.bind ?_ (fun _ => ?_))
theorem marshal_network_totals.calls (k : Nat) (A0_0 : Option Addr) (c0_0 : Nat) (l0_0 : List (S32)) (A0_1 : Option Addr) (c0_1 : Nat) (l0_1 : List (S32)) (A0_2 : Option Addr) (c0_2 : Nat) (l0_2 : List Int) (r : List (S32)) (w : World) (hr0_0 : Kd.C k32 w A0_0 l0_0.length l0_0) (hc0_0 : l0_0.length ≤ c0_0) (hr0_1 : Kd.C k32 w A0_1 l0_1.length l0_1) (hc0_1 : l0_1.length ≤ c0_1) (hr0_2 : Kd.C (Kd.int .u64) w A0_2 l0_2.length l0_2) (hc0_2 : l0_2.length ≤ c0_2) (h : marshal_network_totals.f k l0_0 l0_1 l0_2 = some r) (hT : TzT w) :
  Calls Tryd.prog 21 #[.agg #[.slice A0_0 l0_0.length c0_0, .slice A0_1 l0_1.length c0_1, .slice A0_2 l0_2.length c0_2]] w fun e w' => ∃ v0_ : Value, e = .returned (v0_) ∧ Kd.R k32 32 w' w.heap.size (fun _ => True) v0_ r ∧ Below w.heap.size w w' := by
 have HT := mk_ hT
 clear hT
 have hu56 := Tryd.underlying56
 have hu32 := Tryd.underlying32
 have HR0_0 := mk_ hr0_0
 have HC0_0 := mk_ hc0_0
 clear hr0_0 hc0_0
 have HR0_1 := mk_ hr0_1
 have HC0_1 := mk_ hc0_1
 clear hr0_1 hc0_1
 have HR0_2 := mk_ hr0_2
 have HC0_2 := mk_ hc0_2
 clear hr0_2 hc0_2
 have HB := mk_ (Below.refl w.heap.size w)
 have H := h
 unfold marshal_network_totals.f at H
 clear h
 obtain ⟨ib, jb, H⟩ := iE_ H
 obtain ⟨kb, mb, H⟩ := iE_ H
 obtain ⟨Da, Ga⟩ : ∃ y_ : List (S32), y_ = (List.replicate ((l0_1.length : Int) : Int).toNat z32) := ⟨_, rfl⟩
 (first | rw [← Ga] at H | skip); (try with_reducible replace H := (Option.bind_some _ _).symm.trans H); (try dsimp only at H)
 have La := mk_ Ga
 clear Ga
 obtain ⟨Ma, A4, H⟩ := oB_ H
 (try dsimp only at H)
 have H' := mk_ H
 clear H
 go_enter Tryd.func21, Tryd.ntmps21
 go_wp2_with (first | ((with_reducible refine gD_ (N := 1) rfl ?_); refine bX_ (N := 1) (cs := #[.slice A0_0 l0_0.length c0_0, .slice A0_1 l0_1.length c0_1, .slice A0_2 l0_2.length c0_2]) (t := 56) ?_; intro Ha hg w5 hbox hb; have aa := mk_ (hbox); have nb := mk_ (gZ_ hg (bZ_ (xB_ HB))); have fa := mk_ (gZ_ hg (bZ_ (xB_ HB))); replace HB := mk_ (bT_ (xB_ HB) hb); clear hb hbox hg; obtain ⟨ob, pb, qb, rb, sb, tb⟩ := kG3_ aa.out) | ((with_reducible refine gD_ (N := 11) rfl ?_); refine Kd.R_make k32 _ 32 rfl (N := 11) rfl 24 _ _ rfl (l0_1.length : Int) rfl rfl Tryd.underlying24 (.agg #[(.bool false), (.string ⟨#[]⟩), (.string ⟨#[]⟩)]) 40 info32 rfl (by decide) (by omega) z32 (ok := fun _ => True) (okp := fun _ => True) (k32_mkM _ _ _ z32 ) (fun _ hk => hk) trivial (oD_) (Nat.le_trans (Nat.mul_le_mul_right _ (oD_ : (l0_1.length : Int).toNat ≤ 7036874417766)) (by omega)) (Below.refl _ _) (Nat.le_refl _) ?_; intro ub w7 ho8 hb hg_ hnew_; clear hg_ hnew_; (first | rw [← La.out] at ho8 | (simp only [Int.reduceToNat] at ho8; rw [← La.out] at ho8)); have wa := mk_ (Kd.rL_ ho8 (bZ_ (xB1_ HB fa))); replace aa := mk_ (kB_ (xK_ aa.out) hb); replace HB := mk_ (bT_ (xB1_ HB fa) hb); clear hb ho8; obtain ⟨vb, wb, xb, yb, zb, Ab⟩ := kG3_ aa.out) | ((with_reducible refine gC_ (f := 30) rfl ?_); refine gL_ (some 13) rfl rfl Tryd.func30 kr_ rfl #[.agg #[.slice A0_0 l0_0.length c0_0, .slice A0_1 l0_1.length c0_1, .slice A0_2 l0_2.length c0_2]] rfl mp_ ?_; (with_reducible refine (marshal_network_cuts.calls k _ _ l0_0 _ _ l0_1 _ _ l0_2 Ma _ (xC_ (Kd.C_below HR0_0.out HB.out)) HC0_0.out (xC_ (Kd.C_below HR0_1.out HB.out)) HC0_1.out (xC_ (Kd.C_below HR0_2.out HB.out)) HC0_2.out A4.out (TzT.below HT.out (Nat.le_refl _) (xB_ HB))).mono ?_); rintro e w10 ⟨Na, rfl, ho0, hb⟩; refine ⟨_, rfl, ?_⟩; have Ia := mk_ (Kd.rL_ (Kd.R_new' ho0 (Kd.R_lt (xR_ wa.out))) (bZ_ (xB1_ HB fa))); replace wa := mk_ (Kd.R_elder' (xR_ wa.out) (Kd.R_base ho0) hb); replace aa := mk_ (kB_ (xK_ aa.out) hb); replace HB := mk_ (bT_ (xB1_ HB fa) hb)) | ((with_reducible refine gD_ (N := 5) rfl ?_); refine bX_ (N := 5) (cs := zC_) (t := 32) ?_; intro ba hg w11 hbox hb; replace wa := mk_ (Kd.rB_ (Kd.R_elderB (xR_ wa.out) ba (Nat.le_of_eq hg.symm)) hb); replace Ia := mk_ (Kd.rB_ (Kd.R_elderB (xR_ Ia.out) ba (Nat.le_of_eq hg.symm)) hb); have ga := mk_ (hbox); have Bb := mk_ (gZ_ hg (bZ_ (xB1_ HB fa))); have na := mk_ (gZ_ hg (bZ_ (xB1_ HB fa))); replace HB := mk_ (bT_ (xB1_ HB fa) hb); have sa := mk_ (gN_ hg (xK_ aa.out)); have Oa := mk_ (gM_ hg (xK_ aa.out)); replace aa := mk_ (kB_ (xK_ aa.out) hb); clear hb hbox hg; have hnb12 := Oa.out; have hnc12 := sa.out; obtain ⟨Cb, Db, Eb, Fb, Gb, Hb⟩ := kG3_ ga.out; obtain ⟨Pa, xa, Va⟩ := Kd.rS_' wa.out; subst Va))
 go_loopg [17] k (fun kq v17 w' => ∃ (ia : List (S32)) (la : List (S32)) (ca : Int) (ta : Bool) (ra : ByteArray) (pa : ByteArray), v17 = .int .i64 ca ∧ A0_ (marshal_network_totals.l0 kq ia la (Da.length : Int) ca l0_0 l0_1 l0_2 ta ra pa = some r) ∧ A0_ (kq ≤ k) ∧ A0_ (Kd.R k32 32 w' w.heap.size (fun k_ => some k_ ≠ (Na : Value).ownBlock ∧ k_ ≠ ba) (.slice Pa Da.length xa) ia) ∧ A0_ (Kd.R k32 32 w' w.heap.size (fun k_ => some k_ ≠ ((.slice Pa Da.length xa) : Value).ownBlock ∧ k_ ≠ ba) Na la) ∧ A0_ (w'.heap[Ha]? = some (.cells #[(.slice A0_0 l0_0.length c0_0), (.slice A0_1 l0_1.length c0_1), (.slice A0_2 l0_2.length c0_2)] 56 (0, 0))) ∧ A0_ (w'.heap[ba]? = some (.cells #[.bool ta, .string ra, .string pa] 32 (0, 0))) ∧ A0_ (Below w.heap.size w w'))
 case atStart => exact ⟨(Da), (Ma), (0), (false), ((⟨#[]⟩ : ByteArray)), ((⟨#[]⟩ : ByteArray)), (rS_), H', ⟨Nat.le_refl _⟩, ⟨by refine xr_ ?_; exact Kd.rM_ (Kd.rF_ (p := ⟨ba, 2, none⟩) (Kd.rF_ (p := ⟨ba, 1, none⟩) (Kd.rF_ (p := ⟨ba, 0, none⟩) (Kd.rM_ wa.out (fun k_ hk => (⟨hk, hk.2⟩ : _ ∧ k_ ≠ ba))) (fun _ hk => hk.2) (.bool false)) (fun _ hk => hk.2) (.string (⟨#[]⟩ : ByteArray))) (fun _ hk => hk.2) (.string (⟨#[]⟩ : ByteArray))) (fun _ hk => ⟨hk.1.1.2, hk.1.2⟩)⟩, ⟨by refine xr_ ?_; exact Kd.rM_ (Kd.rF_ (p := ⟨ba, 2, none⟩) (Kd.rF_ (p := ⟨ba, 1, none⟩) (Kd.rF_ (p := ⟨ba, 0, none⟩) (Kd.rM_ Ia.out (fun k_ hk => (⟨hk, hk.2⟩ : _ ∧ k_ ≠ ba))) (fun _ hk => hk.2) (.bool false)) (fun _ hk => hk.2) (.string (⟨#[]⟩ : ByteArray))) (fun _ hk => hk.2) (.string (⟨#[]⟩ : ByteArray))) (fun _ hk => ⟨hk.1.1.2, hk.1.2⟩)⟩, ⟨by refine xk_ ?_; refine bf_ ?_ sa.out _; refine xk_ ?_; refine bf_ ?_ sa.out _; refine xk_ ?_; refine bf_ ?_ sa.out _; refine xk_ ?_; exact aa.out⟩, ⟨by refine xk_ ?_; refine kQ_ (cs := zC_) ?_ 2 _ rfl; refine kQ_ (cs := zC_) ?_ 1 _ rfl; refine kQ_ (cs := zC_) ?_ 0 _ rfl; exact ga.out⟩, ⟨xB2_ HB fa na⟩⟩
 case round =>
  clear H'
  obtain ⟨ia, la, ca, ta, ra, pa, rfl, HA, HK1, da, ea, aa, ga, HB⟩ := hrel
  have ma := (Kd.rr_' da.out).1
  rw [ma] at da
  (try simp only [ma])
  (try simp only [ma] at aa)
  (try simp only [ma] at ga)
  (try simp only [ma] at ea)
  cases gk with
  | zero => exact absurd HA.out (by simp [marshal_network_totals.l0])
  | succ k1 =>
   have H := HA.out
   clear HA
   simp only [marshal_network_totals.l0] at H
   replace H := iS_ H
   rcases H with ⟨c15, H⟩ | ⟨c15, H⟩
   ·have Ja := decide_eq_true c15
    (try (have c15h0 := Ja; simp only [ma] at c15h0))
    clear c15
    obtain ⟨ya, A16, H⟩ := oB_ H
    (try dsimp only at H)
    obtain ⟨⟨ja, oa, qa⟩, A17, H⟩ := oB_ H
    (try dsimp only at H)
    obtain ⟨⟨za, Aa, Ba⟩, A18, H⟩ := oB_ H
    (try dsimp only at H)
    obtain ⟨Ib, H⟩ := iD_ H
    obtain ⟨Wa, H⟩ := iD_ H
    (try (have c20h0 := Wa; simp only [ma] at c20h0))
    obtain ⟨Qa, Ka⟩ : ∃ y_ : List (S32), y_ = (ia.set (ca : Int).toNat (⟨za, Aa, Ba⟩ : S32)) := ⟨_, rfl⟩
    (first | rw [← Ka] at H | skip); (try with_reducible replace H := (Option.bind_some _ _).symm.trans H); (try dsimp only at H)
    have Xa := mk_ Ka
    clear Ka
    have H' := mk_ H
    clear H
    have hnb22 := sa.out
    have hnc22 := Oa.out
    obtain ⟨Jb, Kb, Lb, Mb, Nb, Ob⟩ := kG3_ aa.out
    obtain ⟨ua, va, Ya⟩ := Kd.rS_' ea.out
    subst Ya
    go_wp2_with (first | ((with_reducible refine gC_ (f := 31) rfl ?_); refine gL_ (some 23) rfl rfl Tryd.func31 kr_ rfl #[.agg #[.slice A0_0 l0_0.length c0_0, .slice A0_1 l0_1.length c0_1, .slice A0_2 l0_2.length c0_2], .slice ua la.length va, .int .i64 ca] rfl mp_ ?_; (with_reducible refine (marshal_network_add.calls k1 _ _ l0_0 _ _ l0_1 _ _ l0_2 (fun k_ => some k_ = (.slice ua la.length va : Value).ownBlock) (.slice ua la.length va) la ca ya w _ ?side1 ?side2 HC0_0.out ?side4 HC0_1.out ?side6 HC0_2.out ?side8 A16.out).mono ?_); (case side1 => repeat (first | (with_reducible first | exact HB.out | apply bA_ | apply pB_ | apply b1_ | refine bS_ ?_ fa.out | refine bS_ ?_ na.out) | exact HB.out)); (case side2 => exact Kd.C_kept_came k32_heap HR0_0.out (xB2_ HB fa na) (fun k_ hs_ => (fun e_ => Kd.R_base ea.out k_ e_.symm) hs_)); (case side4 => exact Kd.C_kept_came k32_heap HR0_1.out (xB2_ HB fa na) (fun k_ hs_ => (fun e_ => Kd.R_base ea.out k_ e_.symm) hs_)); (case side6 => exact Kd.C_kept_came (Kd.heap_int .u64) HR0_2.out (xB2_ HB fa na) (fun k_ hs_ => (fun e_ => Kd.R_base ea.out k_ e_.symm) hs_)); (case side8 => exact Kd.R_tight rfl ea.out); rintro e w25 ⟨rfl, hy0, hb, hkp⟩; refine ⟨_, rfl, ?_⟩; replace da := mk_ (Kd.rM_ (ok' := fun k_ => some k_ ≠ (.slice ua la.length va : Value).ownBlock ∧ k_ ≠ ba) (Kd.R_keptB (da.out) hkp (fun k_ hk_ hs_ => (hk_.1) hs_)) (fun k_ hk_ => ⟨hk_.1.1, hk_.1.2⟩)); replace aa := mk_ (blk_kept (xK_ aa.out) hkp (fun hs_ => (fun e_ => (Kd.R_ne ea.out aa.out (by decide)) e_) hs_)); replace ga := mk_ (blk_kept (xK_ ga.out) hkp (fun hs_ => (fun e_ => (Kd.R_away ea.out (fun _ hk => hk.2)) e_) hs_)); replace ea := mk_ (Kd.R_reok rfl hy0 (fun k_ e_ => ea.out.1 k_ e_)); replace HB := mk_ (hb)) | ((with_reducible refine gC_ (f := 32) rfl ?_); refine gL_ (some 25) rfl rfl Tryd.func32 kr_ rfl #[.slice ua ya.length va] rfl (by (try simp only [List.map_toArray, List.map_cons, List.map_nil]); first | done | (rw [show ya.length = la.length from (Kd.rr_' ea.out).1.symm] <;> rfl) | rfl | (simp only [List.length_drop, List.length_take]; rfl)) ?_; (with_reducible refine (marshal_least.calls k1 _ _ ya ja oa qa _ ?side1 ?side2 A17.out).mono ?_); (case side1 => repeat (first | exact (Kd.rr_' ea.out).2.2 | (with_reducible refine Kd.C_alloc ?_ _) | (with_reducible refine Kd.C_drewN ?_ _) | (with_reducible refine Kd.C_drew ?_))); (case side2 => rw [show ya.length = la.length from (Kd.rr_' ea.out).1.symm]; exact (Kd.rr_' ea.out).2.1); rintro e w26 ⟨rfl, hb⟩; refine ⟨_, rfl, ?_⟩; replace da := mk_ (Kd.rB_ (xR_ da.out) hb); replace ea := mk_ (Kd.rB_ (xR_ ea.out) hb); replace aa := mk_ (kB_ (xK_ aa.out) hb); replace ga := mk_ (kB_ (xK_ ga.out) hb); replace HB := mk_ (bT_ (xB2_ HB fa na) hb)) | ((with_reducible refine gD_ (N := 7) rfl ?_); refine bX_ (N := 7) (cs := zC_) (t := 32) ?_; intro ha hg w27 hbox hb; replace da := mk_ (Kd.rB_ (Kd.R_elderB (xR_ da.out) ha (Nat.le_of_eq hg.symm)) hb); replace ea := mk_ (Kd.rB_ (Kd.R_elderB (xR_ ea.out) ha (Nat.le_of_eq hg.symm)) hb); have Ca := mk_ (hbox); have Pb := mk_ (gZ_ hg (bZ_ (xB2_ HB fa na))); have Ra := mk_ (gZ_ hg (bZ_ (xB2_ HB fa na))); replace HB := mk_ (bT_ (xB2_ HB fa na) hb); have Ea := mk_ (gN_ hg (xK_ aa.out)); have Za := mk_ (gM_ hg (xK_ aa.out)); replace aa := mk_ (kB_ (xK_ aa.out) hb); have Fa := mk_ (gN_ hg (xK_ ga.out)); have ab := mk_ (gM_ hg (xK_ ga.out)); replace ga := mk_ (kB_ (xK_ ga.out) hb); clear hb hbox hg; have hnb28 := Za.out; have hnc28 := Ea.out; have hnb29 := ab.out; have hnc29 := Fa.out; obtain ⟨Qb, Rb, Sb, Tb, Ub, Vb⟩ := kG3_ Ca.out; obtain ⟨Wb, Xb, Yb, Zb, ac, bc⟩ := kG3_ ga.out) | ((with_reducible refine gC_ (f := 15) rfl ?_); refine gL_ (some 30) rfl rfl Tryd.func15 kr_ rfl #[.agg #[.bool ja, .string oa, .string qa], .agg #[.bool ta, .string ra, .string pa]] rfl mp_ ?_; (with_reducible refine (q_Subtract.calls k1 ja oa qa ta ra pa za Aa Ba _ A18.out).mono ?_); rintro e w32 ⟨rfl, hb⟩; refine ⟨_, rfl, ?_⟩; replace da := mk_ (Kd.rB_ (by refine xr_ ?_; exact (Kd.rM_ (Kd.rF_ (p := ⟨ha, 2, none⟩) (Kd.rF_ (p := ⟨ha, 1, none⟩) (Kd.rF_ (p := ⟨ha, 0, none⟩) (Kd.rM_ da.out (fun k_ hk => (⟨hk, hk.2⟩ : _ ∧ k_ ≠ ha))) (fun _ hk => hk.2) (.bool ja)) (fun _ hk => hk.2) (.string oa)) (fun _ hk => hk.2) (.string qa)) (fun _ h_ => h_.1))) hb); replace ea := mk_ (Kd.rB_ (by refine xr_ ?_; exact (Kd.rM_ (Kd.rF_ (p := ⟨ha, 2, none⟩) (Kd.rF_ (p := ⟨ha, 1, none⟩) (Kd.rF_ (p := ⟨ha, 0, none⟩) (Kd.rM_ ea.out (fun k_ hk => (⟨hk, hk.2⟩ : _ ∧ k_ ≠ ha))) (fun _ hk => hk.2) (.bool ja)) (fun _ hk => hk.2) (.string oa)) (fun _ hk => hk.2) (.string qa)) (fun _ h_ => h_.1))) hb); replace aa := mk_ (kB_ (g := Ha) (o := .cells #[.slice A0_0 l0_0.length c0_0, .slice A0_1 l0_1.length c0_1, .slice A0_2 l0_2.length c0_2] 56 (0, 0)) (by refine xk_ ?_; refine bf_ ?_ Ea.out _; refine xk_ ?_; refine bf_ ?_ Ea.out _; refine xk_ ?_; refine bf_ ?_ Ea.out _; refine xk_ ?_; exact aa.out) hb); replace ga := mk_ (kB_ (g := ba) (o := .cells #[.bool ta, .string ra, .string pa] 32 (0, 0)) (by refine xk_ ?_; refine bf_ ?_ Fa.out _; refine xk_ ?_; refine bf_ ?_ Fa.out _; refine xk_ ?_; refine bf_ ?_ Fa.out _; refine xk_ ?_; exact ga.out) hb); replace Ca := mk_ (kB_ (g := ha) (o := .cells #[.bool ja, .string oa, .string qa] 32 (0, 0)) (by refine xk_ ?_; refine kQ_ (cs := #[.bool ja, .string oa, .string (⟨#[]⟩ : ByteArray)]) ?_ 2 _ rfl; refine kQ_ (cs := #[.bool ja, .string (⟨#[]⟩ : ByteArray), .string (⟨#[]⟩ : ByteArray)]) ?_ 1 _ rfl; refine kQ_ (cs := zC_) ?_ 0 _ rfl; exact Ca.out) hb); replace HB := mk_ (bT_ (xB3_ HB fa na Ra) hb); have p21 : 0 ≤ (ca : Int) := oD_; have q21 : (ca : Int) < ((ia.length : Int) : Int) := oD_; obtain ⟨ka, cc, Sa, Ta, gl21, cl21, Ua⟩ := Kd.R_form da.out (by omega); (first | cases Sa | (injection Sa with ea_ en_ ec_; (first | subst ea_ | (injection ea_ with ea_; subst ea_)); subst ec_; clear en_)); have GB21 := mk_ Ta; have GG21 := mk_ Ua; clear Ta gl21 Ua; obtain ⟨ce21, hcl21, hM21, hcc21, hfr21⟩ := Kd.R_elem da.out z32 (ca : Int) p21 q21; obtain rfl := k32_openM hM21; have dc : w32.cell? ⟨ka, (ca : Int).toNat * 3, none⟩ = some (.bool ((r32_ ia ca).f0)) := hcc21 0 _ rfl; have ec : w32.cell? ⟨ka, (ca : Int).toNat * 3 + 1, none⟩ = some (.string ((r32_ ia ca).f1)) := hcc21 1 _ rfl; have fc : w32.cell? ⟨ka, (ca : Int).toNat * 3 + 2, none⟩ = some (.string ((r32_ ia ca).f2)) := hcc21 2 _ rfl; have gc : w32.frozen? ⟨ka, (ca : Int).toNat * 3, none⟩ = false := hfr21 0; have hc : w32.frozen? ⟨ka, (ca : Int).toNat * 3 + 1, none⟩ = false := hfr21 1; have ic : w32.frozen? ⟨ka, (ca : Int).toNat * 3 + 2, none⟩ = false := hfr21 2; clear hcl21 hcc21 hfr21 hM21; replace p21 := eq_true p21; replace q21 := eq_true q21; have n_ := mk_ (Kd.rM_ (ok' := (fun k_ => some k_ ≠ (.slice ua la.length va : Value).ownBlock ∧ k_ ≠ ba ∧ k_ ≠ ha)) da.out (fun k_ hk => ⟨hk.1.1, ⟨hk.1.2, hk.2⟩⟩)); clear da; have da := n_; clear n_; have HX33 := mk_ (show Kd.R k32 32 w32 w.heap.size (fun k_ => some k_ ≠ (.slice ua la.length va : Value).ownBlock ∧ k_ ≠ ba ∧ k_ ≠ ha) (.slice (some ⟨ka, 0, none⟩) ia.length xa) ia from (xR_ da.out)); obtain ⟨ce33, hcl33, hM33, hcc33, hfr33⟩ := Kd.R_elem HX33.out z32 (ca : Int) (oD_) (by have h_ : (ca : Int) < ((ia.length : Int) : Int) := oD_; first | exact h_ | (have e_ := (Kd.rr_' da.out).1; omega) | simpa using h_); obtain rfl := k32_openM hM33; have HP33 := Kd.R_seg HX33.out (ca : Int) (oD_) (by have h_ : (ca : Int) < ((ia.length : Int) : Int) := oD_; first | exact h_ | (have e_ := (Kd.rr_' da.out).1; omega) | simpa using h_) (seg := [.bool za, .string Aa, .string Ba]) (j := 0) hcl33 hcc33 (show 3 ≤ 3 from by decide) (x' := (⟨za, Aa, Ba⟩ : S32)) (k32_mkM _ _ _ (⟨za, Aa, Ba⟩ : S32) ) (fun _ hk => hk); have bb := hcc33 0 _ rfl; (try simp only [show (k32).sz = 3 from rfl, Nat.mul_one, Nat.add_zero] at bb); have cb := hfr33 0; (try simp only [show (k32).sz = 3 from rfl, Nat.mul_one, Nat.add_zero] at cb); have db := hcc33 1 _ rfl; (try simp only [show (k32).sz = 3 from rfl, Nat.mul_one, Nat.add_zero] at db); have eb := hfr33 1; (try simp only [show (k32).sz = 3 from rfl, Nat.mul_one, Nat.add_zero] at eb); have fb := hcc33 2 _ rfl; (try simp only [show (k32).sz = 3 from rfl, Nat.mul_one, Nat.add_zero] at fb); have gb := hfr33 2; (try simp only [show (k32).sz = 3 from rfl, Nat.mul_one, Nat.add_zero] at gb); clear hcl33 hcc33 hfr33 hM33) | ((with_reducible refine gate_store (t := 32) (p := 31) rfl ?_); refine store_event (t := 32) (p := 31) (v := ?vo_w34) (w1 := (((w32.setCell ⟨ka, (ca : Int).toNat * 3, none⟩ (.bool za)).setCell ⟨ka, (ca : Int).toNat * 3 + 1, none⟩ (.string Aa)).setCell ⟨ka, (ca : Int).toNat * 3 + 2, none⟩ (.string Ba))) ?hg ?ho ?hn ?hr ?_; (case ho => rfl); (case hg => rfl); (case hn => rfl); (case hr => first | (go_simp; done) | (go_simp; rfl)); intro w34 hw; have hg : w32.grownBy w34 (some ka) := (by rw [hw]; exact HP33.2); have hp_ : Kd.R k32 32 w34 w.heap.size (fun k_ => some k_ ≠ (.slice ua la.length va : Value).ownBlock ∧ k_ ≠ ba ∧ k_ ≠ ha) (.slice (some ⟨ka, 0, none⟩) ia.length xa) Qa := (by rw [hw, Xa.out]; exact HP33.1); clear HP33; replace ea := mk_ (Kd.R_after (v := (.slice (some ⟨ka, 0, none⟩) ia.length xa)) (v1 := (.slice (some ⟨ka, 0, none⟩) ia.length xa)) (ok := (fun k_ => k_ ≠ ba ∧ k_ ≠ ha)) (by refine xr_ ?_; exact Kd.rM_ ea.out (fun _ hk => ⟨⟨hk.1.2, hk.2⟩, hk.1.1⟩)) hg (.inl rfl)); replace aa := mk_ (blk_grown (g := Ha) (o := .cells #[.slice A0_0 l0_0.length c0_0, .slice A0_1 l0_1.length c0_1, .slice A0_2 l0_2.length c0_2] 56 (0, 0)) (xK_ aa.out) hg (Kd.R_ne da.out aa.out (by decide))); replace ga := mk_ (blk_grown (g := ba) (o := .cells #[.bool ta, .string ra, .string pa] 32 (0, 0)) (xK_ ga.out) hg (Kd.R_away da.out (fun _ hk => hk.2.1))); replace Ca := mk_ (blk_grown (g := ha) (o := .cells #[.bool ja, .string oa, .string qa] 32 (0, 0)) (xK_ Ca.out) hg (Kd.R_away da.out (fun _ hk => hk.2.2))); replace da := mk_ (hp_); replace HB := mk_ ((by rw [hw]; exact bS_ (bS_ (bS_ (HB.out) GB21.out) GB21.out) GB21.out : Below w.heap.size w w34)); clear hg hw hp_; obtain ⟨jc, kc, lc, mc, nc, oc⟩ := kG3_ Ca.out; obtain ⟨pc, qc, rc, sc, tc, uc⟩ := kG3_ ga.out))
    (try simp only [← ma])
    (try simp only [ap_])
    go_roundg k1
    case measure => have := HK1.out; omega
    case rel => exact ⟨(Qa), (ya), (wrap64 (ca + 1)), (ja), (oa), (qa), (rS_), H', ⟨by have := HK1.out; omega⟩, ⟨by (try simp only [ma]); refine xr_ ?_; exact Kd.rM_ (Kd.rF_ (p := ⟨ba, 2, none⟩) (Kd.rF_ (p := ⟨ba, 1, none⟩) (Kd.rF_ (p := ⟨ba, 0, none⟩) (Kd.rM_ da.out (fun k_ hk => (⟨hk, hk.2.1⟩ : _ ∧ k_ ≠ ba))) (fun _ hk => hk.2) (.bool ja)) (fun _ hk => hk.2) (.string oa)) (fun _ hk => hk.2) (.string qa)) (fun _ hk => ⟨hk.1.1, hk.1.2.1⟩)⟩, ⟨by (try simp only [ma]); refine xr_ ?_; exact Kd.rM_ (Kd.rF_ (p := ⟨ba, 2, none⟩) (Kd.rF_ (p := ⟨ba, 1, none⟩) (Kd.rF_ (p := ⟨ba, 0, none⟩) (Kd.rM_ ea.out (fun k_ hk => (⟨hk, hk.1.1⟩ : _ ∧ k_ ≠ ba))) (fun _ hk => hk.2) (.bool ja)) (fun _ hk => hk.2) (.string oa)) (fun _ hk => hk.2) (.string qa)) (fun _ hk => ⟨hk.1.2, hk.1.1.1⟩)⟩, ⟨by (try simp only [ma]); refine xk_ ?_; refine bf_ ?_ sa.out _; refine xk_ ?_; refine bf_ ?_ sa.out _; refine xk_ ?_; refine bf_ ?_ sa.out _; refine xk_ ?_; exact aa.out⟩, ⟨by (try simp only [ma]); refine xk_ ?_; refine kQ_ (cs := #[.bool ja, .string oa, .string pa]) ?_ 2 _ rfl; refine kQ_ (cs := #[.bool ja, .string ra, .string pa]) ?_ 1 _ rfl; refine kQ_ (cs := #[.bool ta, .string ra, .string pa]) ?_ 0 _ rfl; exact ga.out⟩, ⟨xB3_ HB fa na Ra⟩⟩
   ·have Ja := decide_eq_false c15
    (try (have c15h0 := Ja; simp only [ma] at c15h0))
    clear c15
    obtain rfl := Option.some.inj H
    go_wp2
    go_ret
    exact ⟨_, rE_, by refine xr_ ?_; exact Kd.rM_ da.out (fun _ hk => trivial), xB2_ HB fa na⟩
def marshal_Totals.f (k : Nat) (l0 : List (S50)) (l1 : List (S32)) : Option ((List (S32)) × Int) := (collateral_Check.f k l0 l1).bind fun t760 => (if t760 = 0 then ((marshal_build.f k l0 l1).bind fun bt761 => ((marshal_network_totals.f k bt761.1 bt761.2.1 bt761.2.2).bind fun t770 => (some (t770, 0)))) else (none))
theorem marshal_Totals.mono : ∀ a0 a1 k, LeO (marshal_Totals.f k a0 a1) (marshal_Totals.f (k + 1) a0 a1) := by
 intro a0 a1 k
 unfold marshal_Totals.f
 repeat' first
   | (with_reducible first | exact collateral_Check.mono _ _ _ | exact marshal_build.mono _ _ _ | exact marshal_network_totals.mono _ _ _ _ | exact LeO.refl _ | exact LeO.none _ | refine LeO.ite ?_ ?_ | refine LeO.bind ?_ (fun _ => ?_))
theorem marshal_Totals.calls (k : Nat) (A0 : Option Addr) (c0 : Nat) (l0 : List (S50)) (A1 : Option Addr) (c1 : Nat) (l1 : List (S32)) (r1 : List (S32)) (r2 : Int) (w : World) (hr0 : Kd.C k50 w A0 l0.length l0) (hc0 : l0.length ≤ c0) (hr1 : Kd.C k32 w A1 l1.length l1) (hc1 : l1.length ≤ c1) (h : marshal_Totals.f k l0 l1 = some (r1, r2)) (hT : TzT w) :
  Calls Tryd.prog 8 #[.slice A0 l0.length c0, .slice A1 l1.length c1] w fun e w' => ∃ v0_ : Value, e = .returned (.tuple #[v0_, .int .i64 r2]) ∧ Kd.R k32 32 w' w.heap.size (fun _ => True) v0_ r1 ∧ Below w.heap.size w w' := by
 have HT := mk_ hT
 clear hT
 have HR0 := mk_ hr0
 have HC0 := mk_ hc0
 clear hr0 hc0
 have HR1 := mk_ hr1
 have HC1 := mk_ hc1
 clear hr1 hc1
 have HB := mk_ (Below.refl w.heap.size w)
 have H := h
 unfold marshal_Totals.f at H
 clear h
 obtain ⟨ga, A3, H⟩ := oB_ H
 (try dsimp only at H)
 replace H := iS_ H
 rcases H with ⟨c4, H⟩ | ⟨c4, H⟩
 ·have ha := beq_iff_eq.mpr c4
  have ia := bne_eq_false_iff_eq.mpr c4
  clear c4
  obtain ⟨⟨da, ea, fa⟩, A5, H⟩ := oB_ H
  (try dsimp only at H)
  obtain ⟨ja, A6, H⟩ := oB_ H
  (try dsimp only at H)
  simp only [Option.some.injEq, Prod.mk.injEq] at H
  obtain ⟨rfl, rfl⟩ := H
  go_enter Tryd.func8, Tryd.ntmps8
  go_wp2_with (first | ((with_reducible refine gC_ (f := 19) rfl ?_); refine gL_ (some 9) rfl rfl Tryd.func19 kr_ rfl #[.slice A0 l0.length c0, .slice A1 l1.length c1] rfl mp_ ?_; (with_reducible refine (collateral_Check.calls k _ _ l0 _ _ l1 ga _ (xC_ HR0.out) HC0.out (xC_ HR1.out) HC1.out A3.out).mono ?_); rintro e w7 ⟨rfl, hb⟩; refine ⟨_, rfl, ?_⟩; replace HB := mk_ (bT_ (xB_ HB) hb)) | ((with_reducible refine gC_ (f := 20) rfl ?_); refine gL_ (some 15) rfl rfl Tryd.func20 kr_ rfl #[.slice A0 l0.length c0, .slice A1 l1.length c1] rfl mp_ ?_; (with_reducible refine (marshal_build.calls k _ _ l0 _ _ l1 da ea fa _ (xC_ (Kd.C_below HR0.out HB.out)) HC0.out (xC_ (Kd.C_below HR1.out HB.out)) HC1.out A5.out).mono ?_); rintro e w8 ⟨ra, sa, ta, rfl, ho0, ho1, ho2, hb⟩; refine ⟨_, rfl, ?_⟩; have aa := mk_ (Kd.rL_ ho0 (bZ_ (xB_ HB))); have ba := mk_ (Kd.rL_ ho1 (bZ_ (xB_ HB))); have ca := mk_ (Kd.rL_ ho2 (bZ_ (xB_ HB))); replace HB := mk_ (bT_ (xB_ HB) hb); obtain ⟨Ao9, co9, eo9⟩ := Kd.rS_' aa.out; subst eo9; obtain ⟨ka, la, ma⟩ := Kd.rS_' ba.out; subst ma; obtain ⟨na, oa, pa⟩ := Kd.rS_' ca.out; subst pa) | ((with_reducible refine gC_ (f := 21) rfl ?_); refine gL_ (some 16) rfl rfl Tryd.func21 kr_ rfl #[.agg #[.slice Ao9 da.length co9, .slice ka ea.length la, .slice na fa.length oa]] rfl mp_ ?_; (with_reducible refine (marshal_network_totals.calls k _ _ da _ _ ea _ _ fa ja _ ?side1 ?side2 ?side3 ?side4 ?side5 ?side6 A6.out (TzT.below HT.out (Nat.le_refl _) (xB_ HB))).mono ?_); (case side1 => repeat (first | exact (Kd.rr_' aa.out).2.2 | (with_reducible refine Kd.C_alloc ?_ _) | (with_reducible refine Kd.C_drewN ?_ _) | (with_reducible refine Kd.C_drew ?_))); (case side2 => exact (Kd.rr_' aa.out).2.1); (case side3 => repeat (first | exact (Kd.rr_' ba.out).2.2 | (with_reducible refine Kd.C_alloc ?_ _) | (with_reducible refine Kd.C_drewN ?_ _) | (with_reducible refine Kd.C_drew ?_))); (case side4 => exact (Kd.rr_' ba.out).2.1); (case side5 => repeat (first | exact (Kd.rr_' ca.out).2.2 | (with_reducible refine Kd.C_alloc ?_ _) | (with_reducible refine Kd.C_drewN ?_ _) | (with_reducible refine Kd.C_drew ?_))); (case side6 => exact (Kd.rr_' ca.out).2.1); rintro e w12 ⟨ua, rfl, ho0, hb⟩; refine ⟨_, rfl, ?_⟩; replace ca := mk_ (Kd.rB_ (xR_ ca.out) hb); have qa := mk_ (Kd.rL_ (Kd.R_new' (Kd.R_new' ho0 (Kd.R_lt (xR_ aa.out))) (Kd.R_lt (xR_ ba.out))) (bZ_ (xB_ HB))); replace aa := mk_ (Kd.R_elder' (xR_ aa.out) (Kd.R_base ho0) hb); replace ba := mk_ (Kd.R_elder' (xR_ ba.out) (Kd.R_base ho0) hb); replace HB := mk_ (bT_ (xB_ HB) hb)))
  go_ret2
  exact ⟨_, rE_, by refine xr_ ?_; exact Kd.rM_ qa.out (fun _ hk => trivial), xB_ HB⟩
 ·have ha := beq_eq_false_iff_ne.mpr c4
  have ia := bne_iff_ne.mpr c4
  exact absurd H (by simp)
def n_FromUint.f (k : Nat) (a0 : Int) : Option (ByteArray) := (n_limbs_text.f k (([(a0) % 4294967296, (a0 / 4294967296) % 4294967296] : List Int))).bind fun t811 => (some t811)
theorem n_FromUint.mono : ∀ a0 k, LeO (n_FromUint.f k a0) (n_FromUint.f (k + 1) a0) := by
 intro a0 k
 unfold n_FromUint.f
 repeat' first
   | (with_reducible first | exact n_limbs_text.mono _ _ | exact LeO.refl _ | exact LeO.none _ | refine LeO.ite ?_ ?_ | refine LeO.bind ?_ (fun _ => ?_))
theorem n_FromUint.calls (k : Nat) (a0 : Int) (r : ByteArray) (w : World) (h : n_FromUint.f k a0 = some r) :
  Calls Tryd.prog 64 #[.int .u64 a0] w fun e w' => e = .returned (.string r) ∧ Below w.heap.size w w' := by
 have HB := mk_ (Below.refl w.heap.size w)
 have H := h
 unfold n_FromUint.f at H
 clear h
 obtain ⟨ca, ba⟩ : ∃ y_ : List Int, y_ = (([(a0) % 4294967296, (a0 / 4294967296) % 4294967296] : List Int)) := ⟨_, rfl⟩
 (first | rw [← ba] at H | skip); (try with_reducible replace H := (Option.bind_some _ _).symm.trans H); (try dsimp only at H)
 have da := mk_ ba
 clear ba
 obtain ⟨ea, A2, H⟩ := oB_ H
 (try dsimp only at H)
 obtain rfl := Option.some.inj H
 go_enter Tryd.func64, Tryd.ntmps64
 go_wp2_with (first | ((with_reducible refine gD_ (N := 8) rfl ?_); refine Kd.R_lit (Kd.int .u32) _ 80 ?hg (N := 8) ?hd (xs := ([(a0) % 4294967296, (a0 / 4294967296) % 4294967296] : List Int)) (inner := [.int .u32 ((a0) % 4294967296), .int .u32 ((a0 / 4294967296) % 4294967296)]) (ok := fun _ => True) (okp := fun _ => True) ?hr ?hp (fun _ hk => hk) trivial (Below.refl _ _) (Nat.le_refl _) (by simp) ?_; (case hd => rfl); (case hg => rfl); (case hr => first | (go_simp; done) | (go_simp; rfl)); (case hp => exact (Reps.one (show Kd.M (Kd.int .u32) _ _ _ ((a0) % 4294967296) [.int .u32 ((a0) % 4294967296)] from rfl) (Reps.one (show Kd.M (Kd.int .u32) _ _ _ ((a0 / 4294967296) % 4294967296) [.int .u32 ((a0 / 4294967296) % 4294967296)] from rfl) (Reps.none _ _)))); intro fa w3 ho4 hb hg_ hnew_; clear hg_ hnew_; (first | rw [← da.out] at ho4 | (simp only [Int.reduceToNat] at ho4; rw [← da.out] at ho4)); have aa := mk_ (Kd.rL_ ho4 (bZ_ (xB_ HB))); replace HB := mk_ (bT_ (xB_ HB) hb); clear hb ho4; obtain ⟨Ao5, co5, eo5⟩ := Kd.rS_' aa.out; subst eo5) | ((with_reducible refine gC_ (f := 48) rfl ?_); refine gL_ (some 9) rfl rfl Tryd.func48 kr_ rfl #[.slice Ao5 ca.length co5] rfl mp_ ?_; (with_reducible refine (n_limbs_text.calls k _ _ ca ea _ ?side1 ?side2 A2.out).mono ?_); (case side1 => repeat (first | exact (Kd.rr_' aa.out).2.2 | (with_reducible refine Kd.C_alloc ?_ _) | (with_reducible refine Kd.C_drewN ?_ _) | (with_reducible refine Kd.C_drew ?_))); (case side2 => exact (Kd.rr_' aa.out).2.1); rintro e w6 ⟨rfl, hb⟩; refine ⟨_, rfl, ?_⟩; replace aa := mk_ (Kd.rB_ (xR_ aa.out) hb); replace HB := mk_ (bT_ (xB_ HB) hb)))
 go_ret
 exact ⟨rE_, xB_ HB⟩
def q_magnitude.f (k : Nat) (a0 : Int) : Option (ByteArray) := if a0 < 0 then ((n_FromUint.f k (IntKind.u64.wrap (-(IntKind.u64.wrap (a0))))).bind fun t812 => (some t812)) else ((n_FromUint.f k (IntKind.u64.wrap (a0))).bind fun t813 => (some t813))
theorem q_magnitude.mono : ∀ a0 k, LeO (q_magnitude.f k a0) (q_magnitude.f (k + 1) a0) := by
 intro a0 k
 unfold q_magnitude.f
 repeat' first
   | (with_reducible first | exact n_FromUint.mono _ _ | exact LeO.refl _ | exact LeO.none _ | refine LeO.ite ?_ ?_ | refine LeO.bind ?_ (fun _ => ?_))
theorem q_magnitude.calls (k : Nat) (a0 : Int) (r : ByteArray) (w : World) (h : q_magnitude.f k a0 = some r) :
  Calls Tryd.prog 49 #[.int .i64 a0] w fun e w' => e = .returned (.string r) ∧ Below w.heap.size w w' := by
 have HB := mk_ (Below.refl w.heap.size w)
 have H := h
 unfold q_magnitude.f at H
 clear h
 replace H := iS_ H
 rcases H with ⟨c2, H⟩ | ⟨c2, H⟩
 ·have aa := decide_eq_true c2
  clear c2
  obtain ⟨ba, A3, H⟩ := oB_ H
  (try dsimp only at H)
  obtain rfl := Option.some.inj H
  go_enter Tryd.func49, Tryd.ntmps49
  go_wp2_with (first | ((with_reducible refine gC_ (f := 64) rfl ?_); refine gL_ (some 8) rfl rfl Tryd.func64 kr_ rfl #[.int .u64 (IntKind.u64.wrap (-(IntKind.u64.wrap (a0))))] rfl mp_ ?_; (with_reducible refine (n_FromUint.calls k (IntKind.u64.wrap (-(IntKind.u64.wrap (a0)))) ba _ A3.out).mono ?_); rintro e w4 ⟨rfl, hb⟩; refine ⟨_, rfl, ?_⟩; replace HB := mk_ (bT_ (xB_ HB) hb)))
  go_ret
  exact ⟨rE_, xB_ HB⟩
 ·have aa := decide_eq_false c2
  clear c2
  obtain ⟨ca, A5, H⟩ := oB_ H
  (try dsimp only at H)
  obtain rfl := Option.some.inj H
  go_enter Tryd.func49, Tryd.ntmps49
  go_wp2_with (first | ((with_reducible refine gC_ (f := 64) rfl ?_); refine gL_ (some 11) rfl rfl Tryd.func64 kr_ rfl #[.int .u64 (IntKind.u64.wrap (a0))] rfl mp_ ?_; (with_reducible refine (n_FromUint.calls k (IntKind.u64.wrap (a0)) ca _ A5.out).mono ?_); rintro e w6 ⟨rfl, hb⟩; refine ⟨_, rfl, ?_⟩; replace HB := mk_ (bT_ (xB_ HB) hb)))
  go_ret
  exact ⟨rE_, xB_ HB⟩
def q_Int.f (k : Nat) (a0 : Int) : Option (Bool × ByteArray × ByteArray) := (q_magnitude.f k a0).bind fun t815 => ((q_reduced.f k (decide (a0 < 0)) t815 (⟨#[1]⟩ : ByteArray)).bind fun bt816 => (some (bt816.1, bt816.2.1, bt816.2.2)))
theorem q_Int.mono : ∀ a0 k, LeO (q_Int.f k a0) (q_Int.f (k + 1) a0) := by
 intro a0 k
 unfold q_Int.f
 repeat' first
   | (with_reducible first | exact q_magnitude.mono _ _ | exact q_reduced.mono _ _ _ _ | exact LeO.refl _ | exact LeO.none _ | refine LeO.ite ?_ ?_ | refine LeO.bind ?_ (fun _ => ?_))
theorem q_Int.calls (k : Nat) (a0 : Int) (r1 : Bool) (r2 : ByteArray) (r3 : ByteArray) (w : World) (h : q_Int.f k a0 = some (r1, r2, r3)) :
  Calls Tryd.prog 29 #[.int .i64 a0] w fun e w' => e = .returned (.agg #[.bool r1, .string r2, .string r3]) ∧ Below w.heap.size w w' := by
 have hu32 := Tryd.underlying32
 have HB := mk_ (Below.refl w.heap.size w)
 have H := h
 unfold q_Int.f at H
 clear h
 obtain ⟨ca, A2, H⟩ := oB_ H
 (try dsimp only at H)
 obtain ⟨⟨ba, da, fa⟩, A3, H⟩ := oB_ H
 (try dsimp only at H)
 simp only [Option.some.injEq, Prod.mk.injEq] at H
 obtain ⟨rfl, rfl, rfl⟩ := H
 go_enter Tryd.func29, Tryd.ntmps29
 go_wp2_with (first | ((with_reducible refine gD_ (N := 2) rfl ?_); refine bX_ (N := 2) (cs := zC_) (t := 32) ?_; intro ga hg w4 hbox hb; have aa := mk_ (hbox); have ha := mk_ (gZ_ hg (bZ_ (xB_ HB))); have ea := mk_ (gZ_ hg (bZ_ (xB_ HB))); replace HB := mk_ (bT_ (xB_ HB) hb); clear hb hbox hg) | ((with_reducible refine gC_ (f := 49) rfl ?_); refine gL_ (some 6) rfl rfl Tryd.func49 kr_ rfl #[.int .i64 a0] rfl mp_ ?_; (with_reducible refine (q_magnitude.calls k a0 ca _ A2.out).mono ?_); rintro e w5 ⟨rfl, hb⟩; refine ⟨_, rfl, ?_⟩; replace aa := mk_ (kB_ (xK_ aa.out) hb); replace HB := mk_ (bT_ (xB1_ HB ea) hb)) | ((with_reducible refine gC_ (f := 40) rfl ?_); refine gL_ (some 7) rfl rfl Tryd.func40 kr_ rfl #[.bool (decide (a0 < 0)), .string ca, .string (⟨#[1]⟩ : ByteArray)] rfl mp_ ?_; (with_reducible refine (q_reduced.calls k (decide (a0 < 0)) ca (⟨#[1]⟩ : ByteArray) ba da fa _ A3.out).mono ?_); rintro e w6 ⟨rfl, hb⟩; refine ⟨_, rfl, ?_⟩; replace aa := mk_ (kB_ (xK_ aa.out) hb); replace HB := mk_ (bT_ (xB1_ HB ea) hb); obtain ⟨ia, ja, ka, la, ma, na⟩ := kG3_ aa.out))
 refine bodyPost_ret (results_cell_row rfl _ _ ga 32 #[.bool ba, .string da, .string fa] (0, 0) _ rfl (by refine xk_ ?_; refine kQ_ (cs := #[.bool ba, .string da, .string (⟨#[]⟩ : ByteArray)]) ?_ 2 _ rfl; refine kQ_ (cs := #[.bool ba, .string (⟨#[]⟩ : ByteArray), .string (⟨#[]⟩ : ByteArray)]) ?_ 1 _ rfl; refine kQ_ (cs := zC_) ?_ 0 _ rfl; exact aa.out) Tryd.underlying32 rfl kr_) rfl ?_
 exact ⟨rE_, xB1_ HB ea⟩
end Go.Proofs.YtppimdempdnhoaaDoor.C
end
section
namespace Go.Proofs.YtppimdempdnhoaaDoor.C
open Go.RowKit Go.PrWords Go.PrLast Go.PrMore
attribute [local go_sem] max2_int min2_int max_two min_two max_three min_three max_four min_four
set_option linter.unusedVariables false
set_option linter.unusedSimpArgs false
theorem eqA32 (d : Nat) (w : World) (x0 y0 : Bool) (x1 y1 : ByteArray) (x2 y2 : ByteArray) :
    (Op.equalIn (d + 2) 32 (.agg #[.bool x0, .string x1, .string x2]) (.agg #[.bool y0, .string y1, .string y2])).run Tryd.prog w = .ok (x0 == y0 && (x1.toList == y1.toList && (x2.toList == y2.toList))) w := by
  refine eqA_of Tryd.underlying32 (by kernel_rfl) ?_
  refine eqf_cons (by rfl) (by go_simp; rfl) (by go_simp; rfl) (by go_simp) ?_
  refine eqf_cons (by rfl) (by go_simp; rfl) (by go_simp; rfl) (by go_simp) ?_
  exact eqf_last (by rfl) (by go_simp; rfl) (by go_simp; rfl) (by go_simp)
end Go.Proofs.YtppimdempdnhoaaDoor.C
end
section
namespace Go.Proofs.YtppimdempdnhoaaDoor.C
set_option maxHeartbeats 8000000
set_option maxRecDepth 100000
open Go.RowKit Go.PrWords Go.PrLast Go.PrMore
attribute [local go_sem] max2_int min2_int max_two min_two max_three min_three max_four min_four
set_option linter.unusedVariables false
set_option linter.unusedSimpArgs false
attribute [local go_sem high] eqA32
def insolvencylaw16_awake.f (k : Nat)  : Option (Bool) := (q_Int.f k 50).bind fun bt819 => ((q_Int.f k 50).bind fun bt825 => ((some (([(⟨(⟨bt819.1, bt819.2.1, bt819.2.2⟩ : S32), (⟨false, (⟨#[]⟩ : ByteArray), (⟨#[]⟩ : ByteArray)⟩ : S32), (([(⟨0, 0, false, (⟨false, (⟨#[]⟩ : ByteArray), (⟨#[]⟩ : ByteArray)⟩ : S32)⟩ : S52), (⟨1, 0, false, (⟨false, (⟨#[]⟩ : ByteArray), (⟨#[]⟩ : ByteArray)⟩ : S32)⟩ : S52)] : List (S52)))⟩ : S50), (⟨(⟨bt825.1, bt825.2.1, bt825.2.2⟩ : S32), (⟨false, (⟨#[]⟩ : ByteArray), (⟨#[]⟩ : ByteArray)⟩ : S32), (([(⟨0, 0, false, (⟨false, (⟨#[]⟩ : ByteArray), (⟨#[]⟩ : ByteArray)⟩ : S32)⟩ : S52)] : List (S52)))⟩ : S50)] : List (S50)) : List (S50))).bind fun y831 => ((q_Int.f k 50).bind fun bt834 => ((q_Int.f k 50).bind fun bt837 => ((some (([(⟨bt834.1, bt834.2.1, bt834.2.2⟩ : S32), (⟨bt837.1, bt837.2.1, bt837.2.2⟩ : S32)] : List (S32)) : List (S32))).bind fun y840 => ((marshal_Totals.f k y831 y840).bind fun bt843 => ((marshal_Greedy.f k y831 y840).bind fun bt847 => (if bt843.2 = 0 then (if (bt843.1.length : Int) = 2 then (if 0 < (bt843.1.length : Int) then ((q_Int.f k 50).bind fun bt852 => (if (((r32_ bt843.1 0).f0) == bt852.1 && ((((r32_ bt843.1 0).f1).toList) == bt852.2.1.toList && ((((r32_ bt843.1 0).f2).toList) == bt852.2.2.toList))) = true then (if 1 < (bt843.1.length : Int) then ((q_Int.f k 50).bind fun bt856 => (if (((r32_ bt843.1 1).f0) == bt856.1 && ((((r32_ bt843.1 1).f1).toList) == bt856.2.1.toList && ((((r32_ bt843.1 1).f2).toList) == bt856.2.2.toList))) = true then (if bt847.2 = 0 then (if (bt847.1.length : Int) = 2 then (if 0 < (bt847.1.length : Int) then ((q_Int.f k 50).bind fun bt860 => (if (((r32_ bt847.1 0).f0) == bt860.1 && ((((r32_ bt847.1 0).f1).toList) == bt860.2.1.toList && ((((r32_ bt847.1 0).f2).toList) == bt860.2.2.toList))) = true then (if 1 < (bt847.1.length : Int) then ((q_Int.f k 0).bind fun bt864 => (some (((r32_ bt847.1 1).f0) == bt864.1 && ((((r32_ bt847.1 1).f1).toList) == bt864.2.1.toList && ((((r32_ bt847.1 1).f2).toList) == bt864.2.2.toList))))) else (none)) else (none))) else (none)) else (none)) else (none)) else (none))) else (none)) else (none))) else (none)) else (none)) else (none)))))))))
theorem insolvencylaw16_awake.mono : ∀ k, LeO (insolvencylaw16_awake.f k ) (insolvencylaw16_awake.f (k + 1) ) := by
 intro  k
 unfold insolvencylaw16_awake.f
 repeat' first
   | (with_reducible first | exact marshal_Greedy.mono _ _ _ | exact marshal_Totals.mono _ _ _ | exact q_Int.mono _ _ | exact LeO.refl _ | exact LeO.none _ | refine LeO.ite ?_ ?_ | refine LeO.bind ?_ (fun _ => ?_))
def insolvencylaw16_awake.T5 : Bool × List (List Nat × List Nat) := (true, [([], []), ([0], [0]), ([1], [1]), ([2], [2]), ([3, 2], [2, 3]), ([4, 2], [2, 4]), ([2, 5], [2, 5]), ([6, 2], [6]), ([7], [7]), ([8, 7], [7, 8]), ([9, 7], [7, 9]), ([7, 7], [7]), ([10, 11, 7], [7, 10, 11]), ([7, 12], [7, 12]), ([13, 11], [13]), ([14], [14]), ([15, 14], [14, 15]), ([16, 14], [14, 16]), ([14, 14], [14]), ([17, 18, 14], [14, 17, 18]), ([14, 19], [14, 19]), ([20, 18], [20]), ([21], [21]), ([22, 21], [21, 22]), ([21, 23], [21, 23]), ([24, 21], [24]), ([25], [25]), ([26, 25], [25, 26]), ([27, 25], [25, 27]), ([25, 28], [25, 28]), ([29, 25], [29]), ([30], [30]), ([31, 30], [30, 31]), ([32, 30], [30, 32]), ([30, 30], [30]), ([33, 34, 30], [30, 33, 34]), ([30, 35], [30, 35]), ([36, 34], [36]), ([37], [37]), ([38, 37], [37, 38]), ([39, 37], [37, 39]), ([37, 37], [37]), ([40, 41, 37], [37, 40, 41]), ([37, 42], [37, 42]), ([43, 41, 0, 1, 2, 3, 4, 5, 6, 7, 8, 9, 10, 11, 12, 13, 14, 15, 16, 17, 18, 19, 20, 21, 22, 23, 24, 25, 26, 27, 28, 29, 30, 31, 32, 33, 34, 35, 36, 37, 38, 39, 40, 41, 42, 43], [43])])
def insolvencylaw16_awake.B5 : List Nat := [0, 1, 3, 7, 15, 31, 63, 127, 255, 511, 1023, 255, 4095, 8191, 16383, 32767, 65535, 131071, 32767, 524287, 1048575, 2097151, 4194303, 8388607, 16777215, 33554431, 67108863, 134217727, 268435455, 536870911, 1073741823, 2147483647, 4294967295, 8589934591, 2147483647, 34359738367, 68719476735, 137438953471, 274877906943, 549755813887, 1099511627775, 274877906943, 4398046511103, 8796093022207, 17592186044415]
theorem insolvencylaw16_awake.tab5 : rtab .any (opsOf Tryd.f12 5) = insolvencylaw16_awake.T5 := by kernel_rfl
theorem insolvencylaw16_awake.bits5 : waitsOk insolvencylaw16_awake.T5.2 insolvencylaw16_awake.B5 = true := by kernel_rfl
theorem insolvencylaw16_awake.calls (k : Nat)  (r : Bool) (w : World) (h : insolvencylaw16_awake.f k  = some r) (hT : TzT w) :
  Calls Tryd.prog 12 #[] w fun e w' => e = .returned (.bool r) ∧ Below w.heap.size w w' := by
 have HT := mk_ hT
 clear hT
 have hu52 := Tryd.underlying52
 have hu50 := Tryd.underlying50
 have hu32 := Tryd.underlying32
 have HB := mk_ (Below.refl w.heap.size w)
 have H := h
 unfold insolvencylaw16_awake.f at H
 clear h
 obtain ⟨⟨ja, ka, la⟩, A1, H⟩ := oB_ H
 (try dsimp only at H)
 obtain ⟨va, Za⟩ : ∃ y_ : List (S52), y_ = (([(⟨0, 0, false, (⟨false, (⟨#[]⟩ : ByteArray), (⟨#[]⟩ : ByteArray)⟩ : S32)⟩ : S52), (⟨1, 0, false, (⟨false, (⟨#[]⟩ : ByteArray), (⟨#[]⟩ : ByteArray)⟩ : S32)⟩ : S52)] : List (S52))) := ⟨_, rfl⟩
 (first | rw [← Za] at H | skip); (try with_reducible replace H := (Option.bind_some _ _).symm.trans H); (try dsimp only at H)
 have nb := mk_ Za
 clear Za
 obtain ⟨⟨ma, na, oa⟩, A2, H⟩ := oB_ H
 (try dsimp only at H)
 obtain ⟨wa, ab⟩ : ∃ y_ : List (S52), y_ = (([(⟨0, 0, false, (⟨false, (⟨#[]⟩ : ByteArray), (⟨#[]⟩ : ByteArray)⟩ : S32)⟩ : S52)] : List (S52))) := ⟨_, rfl⟩
 (first | rw [← ab] at H | skip); (try with_reducible replace H := (Option.bind_some _ _).symm.trans H); (try dsimp only at H)
 have ob := mk_ ab
 clear ab
 obtain ⟨Na, bb⟩ : ∃ y_ : List (S50), y_ = (([(⟨(⟨ja, ka, la⟩ : S32), (⟨false, (⟨#[]⟩ : ByteArray), (⟨#[]⟩ : ByteArray)⟩ : S32), va⟩ : S50), (⟨(⟨ma, na, oa⟩ : S32), (⟨false, (⟨#[]⟩ : ByteArray), (⟨#[]⟩ : ByteArray)⟩ : S32), wa⟩ : S50)] : List (S50))) := ⟨_, rfl⟩
 (first | rw [← bb] at H | skip); (try with_reducible replace H := (Option.bind_some _ _).symm.trans H); (try dsimp only at H)
 have pb := mk_ bb
 clear bb
 obtain ⟨⟨pa, qa, ra⟩, A3, H⟩ := oB_ H
 (try dsimp only at H)
 obtain ⟨⟨sa, ta, ua⟩, A4, H⟩ := oB_ H
 (try dsimp only at H)
 obtain ⟨Oa, cb⟩ : ∃ y_ : List (S32), y_ = (([(⟨pa, qa, ra⟩ : S32), (⟨sa, ta, ua⟩ : S32)] : List (S32))) := ⟨_, rfl⟩
 (first | rw [← cb] at H | skip); (try with_reducible replace H := (Option.bind_some _ _).symm.trans H); (try dsimp only at H)
 have qb := mk_ cb
 clear cb
 obtain ⟨⟨aa, Bb⟩, A5, H⟩ := oB_ H
 (try dsimp only at H)
 obtain ⟨⟨ca, Cb⟩, A6, H⟩ := oB_ H
 (try dsimp only at H)
 obtain ⟨c7, H⟩ := iP_ H
 have Qb := beq_iff_eq.mpr c7
 have Rb := bne_eq_false_iff_eq.mpr c7
 clear c7
 obtain ⟨c8, H⟩ := iP_ H
 have Sb := beq_iff_eq.mpr c8
 have Tb := bne_eq_false_iff_eq.mpr c8
 clear c8
 obtain ⟨c9, H⟩ := iP_ H
 have Ub := decide_eq_true c9
 have Vb : decide (0 < aa.length) = true := decide_eq_true (by omega)
 clear c9
 obtain ⟨⟨Pa, Qa, Ra⟩, A10, H⟩ := oB_ H
 (try dsimp only at H)
 obtain ⟨c11, H⟩ := iP_ H
 have Wb : (((r32_ aa 0).f0) == Pa && ((((r32_ aa 0).f1).toList) == Qa.toList && ((((r32_ aa 0).f2).toList) == Ra.toList))) = true := c11
 (try (have Xb : decide (((r32_ aa 0).f0) = Pa && ((((r32_ aa 0).f1).toList) == Qa.toList && ((((r32_ aa 0).f2).toList) == Ra.toList))) = true := by simpa using c11))
 (try (have Yb : (((r32_ aa 0).f0) == Pa && ((((r32_ aa 0).f1).toList) == Qa.toList && ((((r32_ aa 0).f2).toList) == Ra.toList))) = true := by simpa using c11))
 clear c11
 obtain ⟨c12, H⟩ := iP_ H
 have Zb := decide_eq_true c12
 have ac : decide (1 < aa.length) = true := decide_eq_true (by omega)
 clear c12
 obtain ⟨⟨Sa, Ta, Ua⟩, A13, H⟩ := oB_ H
 (try dsimp only at H)
 obtain ⟨c14, H⟩ := iP_ H
 have bc : (((r32_ aa 1).f0) == Sa && ((((r32_ aa 1).f1).toList) == Ta.toList && ((((r32_ aa 1).f2).toList) == Ua.toList))) = true := c14
 (try (have cc : decide (((r32_ aa 1).f0) = Sa && ((((r32_ aa 1).f1).toList) == Ta.toList && ((((r32_ aa 1).f2).toList) == Ua.toList))) = true := by simpa using c14))
 (try (have dc : (((r32_ aa 1).f0) == Sa && ((((r32_ aa 1).f1).toList) == Ta.toList && ((((r32_ aa 1).f2).toList) == Ua.toList))) = true := by simpa using c14))
 clear c14
 obtain ⟨c15, H⟩ := iP_ H
 have ec := beq_iff_eq.mpr c15
 have fc := bne_eq_false_iff_eq.mpr c15
 clear c15
 obtain ⟨c16, H⟩ := iP_ H
 have gc := beq_iff_eq.mpr c16
 have hc := bne_eq_false_iff_eq.mpr c16
 clear c16
 obtain ⟨c17, H⟩ := iP_ H
 have ic := decide_eq_true c17
 have jc : decide (0 < ca.length) = true := decide_eq_true (by omega)
 clear c17
 obtain ⟨⟨Va, Wa, Xa⟩, A18, H⟩ := oB_ H
 (try dsimp only at H)
 obtain ⟨c19, H⟩ := iP_ H
 have kc : (((r32_ ca 0).f0) == Va && ((((r32_ ca 0).f1).toList) == Wa.toList && ((((r32_ ca 0).f2).toList) == Xa.toList))) = true := c19
 (try (have lc : decide (((r32_ ca 0).f0) = Va && ((((r32_ ca 0).f1).toList) == Wa.toList && ((((r32_ ca 0).f2).toList) == Xa.toList))) = true := by simpa using c19))
 (try (have mc : (((r32_ ca 0).f0) == Va && ((((r32_ ca 0).f1).toList) == Wa.toList && ((((r32_ ca 0).f2).toList) == Xa.toList))) = true := by simpa using c19))
 clear c19
 obtain ⟨c20, H⟩ := iP_ H
 have nc := decide_eq_true c20
 have oc : decide (1 < ca.length) = true := decide_eq_true (by omega)
 clear c20
 obtain ⟨⟨Db, Eb, Fb⟩, A21, H⟩ := oB_ H
 (try dsimp only at H)
 obtain rfl := Option.some.inj H
 go_enter Tryd.func12, Tryd.ntmps12
 try go_wp2_with (first | ((with_reducible refine gC_ (f := 29) rfl ?_); refine gL_ (some 7) rfl rfl Tryd.func29 kr_ rfl #[.int .i64 50] rfl mp_ ?_; (with_reducible refine (q_Int.calls k 50 ja ka la _ A1.out).mono ?_); rintro e w22 ⟨rfl, hb⟩; refine ⟨_, rfl, ?_⟩; replace HB := mk_ (bT_ (xB_ HB) hb)) | ((with_reducible refine gD_ (N := 10) rfl ?_); (try (refine gate_guard (by rfl) ?_; dsimp only)); refine Kd.R_lit k52 _ 52 ?hg (N := 10) ?hd (xs := ([(⟨0, 0, false, (⟨false, (⟨#[]⟩ : ByteArray), (⟨#[]⟩ : ByteArray)⟩ : S32)⟩ : S52), (⟨1, 0, false, (⟨false, (⟨#[]⟩ : ByteArray), (⟨#[]⟩ : ByteArray)⟩ : S32)⟩ : S52)] : List (S52))) (inner := [.int .i64 0, .int .i64 0, .bool false, .bool false, .string (⟨#[]⟩ : ByteArray), .string (⟨#[]⟩ : ByteArray), .int .i64 1, .int .i64 0, .bool false, .bool false, .string (⟨#[]⟩ : ByteArray), .string (⟨#[]⟩ : ByteArray)]) (ok := fun _ => True) (okp := fun _ => True) ?hr ?hp (fun _ hk => hk) trivial (Below.refl _ _) (Nat.le_refl _) (by simp) ?_; (case hd => rfl); (case hg => rfl); (case hr => first | (go_simp; done) | (go_simp; rfl)); (case hp => exact (Reps.c6 (show Kd.M k52 _ _ _ (⟨0, 0, false, (⟨false, (⟨#[]⟩ : ByteArray), (⟨#[]⟩ : ByteArray)⟩ : S32)⟩ : S52) [.int .i64 0, .int .i64 0, .bool false, .bool false, .string (⟨#[]⟩ : ByteArray), .string (⟨#[]⟩ : ByteArray)] from (k52_mkM _ _ _ (⟨0, 0, false, (⟨false, (⟨#[]⟩ : ByteArray), (⟨#[]⟩ : ByteArray)⟩ : S32)⟩ : S52) )) (Reps.c6 (show Kd.M k52 _ _ _ (⟨1, 0, false, (⟨false, (⟨#[]⟩ : ByteArray), (⟨#[]⟩ : ByteArray)⟩ : S32)⟩ : S52) [.int .i64 1, .int .i64 0, .bool false, .bool false, .string (⟨#[]⟩ : ByteArray), .string (⟨#[]⟩ : ByteArray)] from (k52_mkM _ _ _ (⟨1, 0, false, (⟨false, (⟨#[]⟩ : ByteArray), (⟨#[]⟩ : ByteArray)⟩ : S32)⟩ : S52) )) (Reps.none _ _)))); intro pc w23 za hb hg_ hnew_; clear hg_ hnew_; (first | rw [← nb.out] at za | (simp only [Int.reduceToNat] at za; rw [← nb.out] at za)); have ia := mk_ (Kd.rL_ za (bZ_ (xB_ HB))); replace HB := mk_ (bT_ (xB_ HB) hb); clear hb za; obtain ⟨rb, sb, Gb⟩ := Kd.rS_' ia.out; subst Gb) | ((with_reducible refine gC_ (f := 29) rfl ?_); refine gL_ (some 12) rfl rfl Tryd.func29 kr_ rfl #[.int .i64 50] rfl mp_ ?_; (with_reducible refine (q_Int.calls k 50 ma na oa _ A2.out).mono ?_); rintro e w26 ⟨rfl, hb⟩; refine ⟨_, rfl, ?_⟩; replace ia := mk_ (Kd.rB_ (xR_ ia.out) hb); replace HB := mk_ (bT_ (xB_ HB) hb)) | ((with_reducible refine gD_ (N := 14) rfl ?_); (try (refine gate_guard (by rfl) ?_; dsimp only)); refine Kd.R_lit k52 _ 52 ?hg (N := 14) ?hd (xs := ([(⟨0, 0, false, (⟨false, (⟨#[]⟩ : ByteArray), (⟨#[]⟩ : ByteArray)⟩ : S32)⟩ : S52)] : List (S52))) (inner := [.int .i64 0, .int .i64 0, .bool false, .bool false, .string (⟨#[]⟩ : ByteArray), .string (⟨#[]⟩ : ByteArray)]) (ok := fun _ => True) (okp := fun _ => True) ?hr ?hp (fun _ hk => hk) trivial (Below.refl _ _) (Nat.le_refl _) (by simp) ?_; (case hd => rfl); (case hg => rfl); (case hr => first | (go_simp; done) | (go_simp; rfl)); (case hp => exact (Reps.c6 (show Kd.M k52 _ _ _ (⟨0, 0, false, (⟨false, (⟨#[]⟩ : ByteArray), (⟨#[]⟩ : ByteArray)⟩ : S32)⟩ : S52) [.int .i64 0, .int .i64 0, .bool false, .bool false, .string (⟨#[]⟩ : ByteArray), .string (⟨#[]⟩ : ByteArray)] from (k52_mkM _ _ _ (⟨0, 0, false, (⟨false, (⟨#[]⟩ : ByteArray), (⟨#[]⟩ : ByteArray)⟩ : S32)⟩ : S52) )) (Reps.none _ _))); intro qc w27 xa hb hg_ hnew_; clear hg_ hnew_; (first | rw [← ob.out] at xa | (simp only [Int.reduceToNat] at xa; rw [← ob.out] at xa)); have Ya := mk_ (Kd.rL_ (Kd.R_new' xa (Kd.R_lt (xR_ ia.out))) (bZ_ (xB_ HB))); replace ia := mk_ (Kd.R_elder' (xR_ ia.out) (Kd.R_base xa) hb); replace HB := mk_ (bT_ (xB_ HB) hb); clear hb xa; obtain ⟨tb, ub, Hb⟩ := Kd.rS_' Ya.out; subst Hb) | ((with_reducible refine gD_ (N := 16) rfl ?_); (try (refine gate_guard (by rfl) ?_; dsimp only)); refine Kd.N_lit k50 _ 50 ?hg (N' := 16) ?hd (xs := ([(⟨(⟨ja, ka, la⟩ : S32), (⟨false, (⟨#[]⟩ : ByteArray), (⟨#[]⟩ : ByteArray)⟩ : S32), va⟩ : S50), (⟨(⟨ma, na, oa⟩ : S32), (⟨false, (⟨#[]⟩ : ByteArray), (⟨#[]⟩ : ByteArray)⟩ : S32), wa⟩ : S50)] : List (S50))) (inner := [.bool ja, .string ka, .string la, .bool false, .string (⟨#[]⟩ : ByteArray), .string (⟨#[]⟩ : ByteArray), .slice rb va.length sb, .bool ma, .string na, .string oa, .bool false, .string (⟨#[]⟩ : ByteArray), .string (⟨#[]⟩ : ByteArray), .slice tb wa.length ub]) (ok := (fun _ => True)) (okp := (fun _ => True)) ?hr ?hp (fun _ hk => hk) ((show ∀ k_, w27.heap.size ≤ k_ → (fun _ => True) k_ from fun k_ hk => trivial) _ (Nat.le_refl _)) (Below.refl _ _) (Nat.le_refl _) (by simp) ?_; (case hd => rfl); (case hg => rfl); (case hr => first | (go_simp; done) | (go_simp; rfl)); (case hp => exact (Reps.c7 (show Kd.FK k50 _ _ (⟨(⟨ja, ka, la⟩ : S32), (⟨false, (⟨#[]⟩ : ByteArray), (⟨#[]⟩ : ByteArray)⟩ : S32), va⟩ : S50) [.bool ja, .string ka, .string la, .bool false, .string (⟨#[]⟩ : ByteArray), .string (⟨#[]⟩ : ByteArray), .slice rb va.length sb] from (k50_mkF _ _ (⟨(⟨ja, ka, la⟩ : S32), (⟨false, (⟨#[]⟩ : ByteArray), (⟨#[]⟩ : ByteArray)⟩ : S32), va⟩ : S50) (Kd.rr_' (Kd.rM_ (ok' := (fun _ => True)) (ia.out) (fun k_ hk => trivial))).2.1 (Kd.R_F (Kd.rM_ (ok' := (fun _ => True)) (ia.out) (fun k_ hk => trivial))))) (Reps.c7 (show Kd.FK k50 _ _ (⟨(⟨ma, na, oa⟩ : S32), (⟨false, (⟨#[]⟩ : ByteArray), (⟨#[]⟩ : ByteArray)⟩ : S32), wa⟩ : S50) [.bool ma, .string na, .string oa, .bool false, .string (⟨#[]⟩ : ByteArray), .string (⟨#[]⟩ : ByteArray), .slice tb wa.length ub] from (k50_mkF _ _ (⟨(⟨ma, na, oa⟩ : S32), (⟨false, (⟨#[]⟩ : ByteArray), (⟨#[]⟩ : ByteArray)⟩ : S32), wa⟩ : S50) (Kd.rr_' (Kd.rM_ (ok' := (fun _ => True)) (Ya.out) (fun k_ hk => trivial))).2.1 (Kd.R_F (Kd.rM_ (ok' := (fun _ => True)) (Ya.out) (fun k_ hk => trivial))))) (Reps.none _ _)))); intro rc w30 Aa hb hg_ hnew_; clear hg_ hnew_; (first | rw [← pb.out] at Aa | (simp only [Int.reduceToNat] at Aa; rw [← pb.out] at Aa)); have ba := mk_ (Kd.N_lower Aa (bZ_ (xB_ HB))); replace HB := mk_ (bT_ (xB_ HB) hb); clear ia Ya; clear hb Aa) | ((with_reducible refine gC_ (f := 29) rfl ?_); refine gL_ (some 17) rfl rfl Tryd.func29 kr_ rfl #[.int .i64 50] rfl mp_ ?_; (with_reducible refine (q_Int.calls k 50 pa qa ra _ A3.out).mono ?_); rintro e w32 ⟨rfl, hb⟩; refine ⟨_, rfl, ?_⟩; replace ba := mk_ (Kd.N_below (by (with_reducible repeat (first | apply Kd.N_alloc | apply Kd.N_drewN | apply Kd.N_drew)); exact ba.out) hb); replace HB := mk_ (bT_ (xB_ HB) hb)) | ((with_reducible refine gC_ (f := 29) rfl ?_); refine gL_ (some 18) rfl rfl Tryd.func29 kr_ rfl #[.int .i64 50] rfl mp_ ?_; (with_reducible refine (q_Int.calls k 50 sa ta ua _ A4.out).mono ?_); rintro e w33 ⟨rfl, hb⟩; refine ⟨_, rfl, ?_⟩; replace ba := mk_ (Kd.N_below (by (with_reducible repeat (first | apply Kd.N_alloc | apply Kd.N_drewN | apply Kd.N_drew)); exact ba.out) hb); replace HB := mk_ (bT_ (xB_ HB) hb)) | ((with_reducible refine gD_ (N := 19) rfl ?_); (try (refine gate_guard (by rfl) ?_; dsimp only)); refine Kd.R_lit k32 _ 32 ?hg (N := 19) ?hd (xs := ([(⟨pa, qa, ra⟩ : S32), (⟨sa, ta, ua⟩ : S32)] : List (S32))) (inner := [.bool pa, .string qa, .string ra, .bool sa, .string ta, .string ua]) (ok := fun _ => True) (okp := fun _ => True) ?hr ?hp (fun _ hk => hk) trivial (Below.refl _ _) (Nat.le_refl _) (by simp) ?_; (case hd => rfl); (case hg => rfl); (case hr => first | (go_simp; done) | (go_simp; rfl)); (case hp => exact (Reps.c3 (show Kd.M k32 _ _ _ (⟨pa, qa, ra⟩ : S32) [.bool pa, .string qa, .string ra] from (k32_mkM _ _ _ (⟨pa, qa, ra⟩ : S32) )) (Reps.c3 (show Kd.M k32 _ _ _ (⟨sa, ta, ua⟩ : S32) [.bool sa, .string ta, .string ua] from (k32_mkM _ _ _ (⟨sa, ta, ua⟩ : S32) )) (Reps.none _ _)))); intro sc w34 ya hb hg_ hnew_; clear hg_ hnew_; (first | rw [← qb.out] at ya | (simp only [Int.reduceToNat] at ya; rw [← qb.out] at ya)); replace ba := mk_ (Kd.N_elder' (by (with_reducible repeat (first | apply Kd.N_alloc | apply Kd.N_drewN | apply Kd.N_drew)); exact ba.out) (Kd.R_base ya) hb); have da := mk_ (Kd.rL_ ya (bZ_ (xB_ HB))); replace HB := mk_ (bT_ (xB_ HB) hb); clear hb ya; obtain ⟨vb, wb, Ib⟩ := Kd.N_slice ba.out; subst Ib; obtain ⟨xb, yb, Jb⟩ := Kd.rS_' da.out; subst Jb) | ((with_reducible refine gC_ (f := 8) rfl ?_); refine gL_ (some 23) rfl rfl Tryd.func8 kr_ rfl #[.slice vb Na.length wb, .slice xb Oa.length yb] rfl mp_ ?_; (with_reducible refine (marshal_Totals.calls k _ _ Na _ _ Oa aa Bb _ ?side1 ?side2 ?side3 ?side4 A5.out (TzT.below HT.out (Nat.le_refl _) (xB_ HB))).mono ?_); (case side1 => repeat (first | exact (Kd.N_reads' ba.out).2.2 | (with_reducible refine Kd.C_alloc ?_ _) | (with_reducible refine Kd.C_drewN ?_ _) | (with_reducible refine Kd.C_drew ?_))); (case side2 => exact (Kd.N_reads' ba.out).2.1); (case side3 => repeat (first | exact (Kd.rr_' da.out).2.2 | (with_reducible refine Kd.C_alloc ?_ _) | (with_reducible refine Kd.C_drewN ?_ _) | (with_reducible refine Kd.C_drew ?_))); (case side4 => exact (Kd.rr_' da.out).2.1); rintro e w38 ⟨tc, rfl, ho0, hb⟩; refine ⟨_, rfl, ?_⟩; replace ba := mk_ (Kd.N_elder' (by (with_reducible repeat (first | apply Kd.N_alloc | apply Kd.N_drewN | apply Kd.N_drew)); exact ba.out) (Kd.R_base ho0) hb); have ea := mk_ (Kd.rL_ (Kd.R_new' ho0 (Kd.R_lt (xR_ da.out))) (bZ_ (xB_ HB))); replace da := mk_ (Kd.R_elder' (xR_ da.out) (Kd.R_base ho0) hb); replace HB := mk_ (bT_ (xB_ HB) hb)) | ((with_reducible refine gC_ (f := 9) rfl ?_); refine gL_ (some 29) rfl rfl Tryd.func9 kr_ rfl #[.slice vb Na.length wb, .slice xb Oa.length yb] rfl mp_ ?_; (with_reducible refine (marshal_Greedy.calls k _ _ Na _ _ Oa ca Cb _ ?side1 ?side2 ?side3 ?side4 A6.out).mono ?_); (case side1 => repeat (first | exact (Kd.N_reads' ba.out).2.2 | (with_reducible refine Kd.C_alloc ?_ _) | (with_reducible refine Kd.C_drewN ?_ _) | (with_reducible refine Kd.C_drew ?_))); (case side2 => exact (Kd.N_reads' ba.out).2.1); (case side3 => repeat (first | exact (Kd.rr_' da.out).2.2 | (with_reducible refine Kd.C_alloc ?_ _) | (with_reducible refine Kd.C_drewN ?_ _) | (with_reducible refine Kd.C_drew ?_))); (case side4 => exact (Kd.rr_' da.out).2.1); rintro e w39 ⟨uc, rfl, ho0, hb⟩; refine ⟨_, rfl, ?_⟩; replace ba := mk_ (Kd.N_elder' (by (with_reducible repeat (first | apply Kd.N_alloc | apply Kd.N_drewN | apply Kd.N_drew)); exact ba.out) (Kd.R_base ho0) hb); have fa := mk_ (Kd.rL_ (Kd.R_new' (Kd.R_new' ho0 (Kd.R_lt (xR_ da.out))) (Kd.R_lt (xR_ ea.out))) (bZ_ (xB_ HB))); replace da := mk_ (Kd.R_elder' (xR_ da.out) (Kd.R_base ho0) hb); replace ea := mk_ (Kd.R_elder' (xR_ ea.out) (Kd.R_base ho0) hb); replace HB := mk_ (bT_ (xB_ HB) hb)))
 replace ba := mk_ (Kd.N_drew ba.out)
 replace da := mk_ (Kd.rD_ da.out)
 replace ea := mk_ (Kd.rD_ ea.out)
 replace fa := mk_ (Kd.rD_ fa.out)
 replace HB := mk_ (b1_ HB.out)
 obtain ⟨vc, wc, zb⟩ := Kd.rS_' ea.out
 (first | subst zb | (injection zb with f1_ f2_ f3_; have f4_ := f1_.symm; have f5_ := f3_.symm; clear f1_ f2_ f3_; subst f4_; subst f5_))
 have db : 0 ≤ (0 : Int) := (by omega)
 have eb : 0 < (aa.length : Int) := oD_
 (try (obtain ⟨AoX_, coX_, eoX_⟩ := Kd.rS_' ea.out; subst eoX_))
 obtain ⟨ga, Kb, Ba, Ca, Da⟩ := at_T32 (Kd.rr_' ea.out).2.2 0 db eb
 cases Kb
 have xc : (0 < aa.length) = True := eq_true (by omega)
 (try rw [show ((0 : Int)).toNat = 0 from rfl] at Ba)
 (try rw [show 0 * 3 = 0 from rfl] at Ba)
 (try rw [Addr.add_zero'] at Ba)
 (try rw [show ((0 : Int)).toNat = 0 from rfl] at Ca)
 (try rw [show 0 * 3 = 0 from rfl] at Ca)
 (try rw [Addr.add_zero'] at Ca)
 (try rw [show ((0 : Int)).toNat = 0 from rfl] at Da)
 (try rw [show 0 * 3 = 0 from rfl] at Da)
 (try rw [Addr.add_zero'] at Da)
 replace db := eq_true db
 replace eb := eq_true eb
 have fb : 0 ≤ (1 : Int) := (by omega)
 have gb : 1 < (aa.length : Int) := oD_
 (try (obtain ⟨AoX_, coX_, eoX_⟩ := Kd.rS_' ea.out; subst eoX_))
 obtain ⟨Lb, Mb, Ea, Fa, Ga⟩ := at_T32 (Kd.rr_' ea.out).2.2 1 fb gb
 obtain rfl : ga = Lb := (by injection Mb)
 (try simp only [show (1 : Int).toNat = 1 from rfl, Nat.reduceMul, Nat.reduceEqDiff, Go.Addr.add, ↓reduceIte] at Ea)
 (try simp only [show (1 : Int).toNat = 1 from rfl, Nat.reduceMul, Nat.reduceEqDiff, Go.Addr.add, ↓reduceIte] at Fa)
 (try simp only [show (1 : Int).toNat = 1 from rfl, Nat.reduceMul, Nat.reduceEqDiff, Go.Addr.add, ↓reduceIte] at Ga)
 have yc : (1 < aa.length) = True := eq_true (by omega)
 (try rw [show ((1 : Int)).toNat = 1 from rfl] at Ea)
 (try rw [show 1 * 3 = 3 from rfl] at Ea)
 (try rw [show ((1 : Int)).toNat = 1 from rfl] at Fa)
 (try rw [show 1 * 3 = 3 from rfl] at Fa)
 (try rw [show ((1 : Int)).toNat = 1 from rfl] at Ga)
 (try rw [show 1 * 3 = 3 from rfl] at Ga)
 replace fb := eq_true fb
 replace gb := eq_true gb
 have ib : 0 ≤ (0 : Int) := (by omega)
 have jb : 0 < (ca.length : Int) := oD_
 (try (obtain ⟨AoX_, coX_, eoX_⟩ := Kd.rS_' fa.out; subst eoX_))
 obtain ⟨ha, Nb, Ha, Ia, Ja⟩ := at_T32 (Kd.rr_' fa.out).2.2 0 ib jb
 cases Nb
 have zc : (0 < ca.length) = True := eq_true (by omega)
 (try rw [show ((0 : Int)).toNat = 0 from rfl] at Ha)
 (try rw [show 0 * 3 = 0 from rfl] at Ha)
 (try rw [Addr.add_zero'] at Ha)
 (try rw [show ((0 : Int)).toNat = 0 from rfl] at Ia)
 (try rw [show 0 * 3 = 0 from rfl] at Ia)
 (try rw [Addr.add_zero'] at Ia)
 (try rw [show ((0 : Int)).toNat = 0 from rfl] at Ja)
 (try rw [show 0 * 3 = 0 from rfl] at Ja)
 (try rw [Addr.add_zero'] at Ja)
 replace ib := eq_true ib
 replace jb := eq_true jb
 have kb : 0 ≤ (1 : Int) := (by omega)
 have mb : 1 < (ca.length : Int) := oD_
 (try (obtain ⟨AoX_, coX_, eoX_⟩ := Kd.rS_' fa.out; subst eoX_))
 obtain ⟨Ob, Pb, Ka, La, Ma⟩ := at_T32 (Kd.rr_' fa.out).2.2 1 kb mb
 obtain rfl : ha = Ob := (by injection Pb)
 (try simp only [show (1 : Int).toNat = 1 from rfl, Nat.reduceMul, Nat.reduceEqDiff, Go.Addr.add, ↓reduceIte] at Ka)
 (try simp only [show (1 : Int).toNat = 1 from rfl, Nat.reduceMul, Nat.reduceEqDiff, Go.Addr.add, ↓reduceIte] at La)
 (try simp only [show (1 : Int).toNat = 1 from rfl, Nat.reduceMul, Nat.reduceEqDiff, Go.Addr.add, ↓reduceIte] at Ma)
 have Ac : (1 < ca.length) = True := eq_true (by omega)
 (try rw [show ((1 : Int)).toNat = 1 from rfl] at Ka)
 (try rw [show 1 * 3 = 3 from rfl] at Ka)
 (try rw [show ((1 : Int)).toNat = 1 from rfl] at La)
 (try rw [show 1 * 3 = 3 from rfl] at La)
 (try rw [show ((1 : Int)).toNat = 1 from rfl] at Ma)
 (try rw [show 1 * 3 = 3 from rfl] at Ma)
 replace kb := eq_true kb
 replace mb := eq_true mb
 refine start_ (n := 45) (S := fun w' => w'.cell? ga = some (.bool ((r32_ aa 0).f0)) ∧ w'.cell? ⟨ga.block, ga.off + 1, none⟩ = some (.string ((r32_ aa 0).f1)) ∧ w'.cell? ⟨ga.block, ga.off + 2, none⟩ = some (.string ((r32_ aa 0).f2)) ∧ w'.cell? ⟨ga.block, ga.off + 3, none⟩ = some (.bool ((r32_ aa 1).f0)) ∧ w'.cell? ⟨ga.block, ga.off + 3 + 1, none⟩ = some (.string ((r32_ aa 1).f1)) ∧ w'.cell? ⟨ga.block, ga.off + 3 + 2, none⟩ = some (.string ((r32_ aa 1).f2)) ∧ w'.cell? ha = some (.bool ((r32_ ca 0).f0)) ∧ w'.cell? ⟨ha.block, ha.off + 1, none⟩ = some (.string ((r32_ ca 0).f1)) ∧ w'.cell? ⟨ha.block, ha.off + 2, none⟩ = some (.string ((r32_ ca 0).f2)) ∧ w'.cell? ⟨ha.block, ha.off + 3, none⟩ = some (.bool ((r32_ ca 1).f0)) ∧ w'.cell? ⟨ha.block, ha.off + 3 + 1, none⟩ = some (.string ((r32_ ca 1).f1)) ∧ w'.cell? ⟨ha.block, ha.off + 3 + 2, none⟩ = some (.string ((r32_ ca 1).f2))) (ds := []) (tf_ 0 45) kr_ rfl rfl ⟨Ba, Ca, Da, Ea, Fa, Ga, Ha, Ia, Ja, Ka, La, Ma⟩ (fun hHeld => ?_); refine with_tabW insolvencylaw16_awake.tab5 insolvencylaw16_awake.bits5 (fun HT_ HW_ => ?_)
 generalize w39.drew = w40 at ba da ea fa HB Ba Ca Da Ea Fa Ga Ha Ia Ja Ka La Ma hHeld ⊢
 refine pu_ (i := 0) (N := some 32) (v := ?_) (a' := ?_) (tf_ 1 44) rfl rfl (an_ HT_.out kr_) (fun _ _ _ h => h) (Or.inl ⟨by rfl, ?_⟩) ?_ ?_
 rotate_left
 ·intro w'
  go_simp
  with_reducible rfl
 rotate_left
 ·simp only [Act.put, s1_, s2_, s3_, i6_, i3_]
  rfl
 refine pu_ (i := 1) (N := some 33) (v := ?_) (a' := ?_) (tf_ 2 43) rfl rfl (an_ HT_.out kr_) (fun _ _ _ h => h) (Or.inl ⟨by rfl, ?_⟩) ?_ ?_
 rotate_left
 ·intro w'
  go_simp
  with_reducible rfl
 rotate_left
 ·simp only [Act.put, s1_, s2_, s3_, i6_, i3_]
  rfl
 refine pu_ (i := 2) (N := some 34) (v := ?_) (a' := ?_) (tf_ 3 42) rfl rfl (an_ HT_.out kr_) (fun _ _ _ h => h) (Or.inl ⟨by rfl, ?_⟩) ?_ ?_
 rotate_left
 ·intro w'
  go_simp
  with_reducible rfl
 rotate_left
 ·simp only [Act.put, s1_, s2_, s3_, i6_, i3_]
  rfl
 refine pu_ (i := 3) (N := some 35) (v := ?_) (a' := ?_) (tf_ 4 41) rfl rfl (an_ HT_.out kr_) (fun _ _ _ h => h) (Or.inl ⟨by rfl, ?_⟩) ?_ ?_
 rotate_left
 ·intro w'
  go_simp
  with_reducible rfl
 rotate_left
 ·simp only [Act.put, s1_, s2_, s3_, i6_, i3_]
  rfl
 refine pu_ (i := 4) (N := some 36) (v := ?_) (a' := ?_) (tf_ 5 40) rfl rfl (an_ HT_.out kr_) (fun _ _ _ h => h) (Or.inl ⟨by rfl, ?_⟩) ?_ ?_
 rotate_left
 ·intro w'
  go_simp
  with_reducible rfl
 rotate_left
 ·simp only [Act.put, s1_, s2_, s3_, i6_, i3_]
  rfl
 refine pu_ (i := 5) (N := some 37) (v := ?_) (a' := ?_) (tf_ 6 39) rfl rfl (an_ HT_.out kr_) (fun _ _ _ h => h) (Or.inl ⟨by rfl, ?_⟩) ?_ ?_
 rotate_left
 ·intro w'
  go_simp
  with_reducible rfl
 rotate_left
 ·simp only [Act.put, s1_, s2_, s3_, i6_, i3_]
  rfl
 refine pu_ (i := 6) (N := some 38) (v := ?_) (a' := ?_) (tf_ 7 38) rfl rfl (an_ HT_.out kr_) (fun _ _ _ h => h) (Or.inl ⟨by rfl, ?_⟩) ?_ ?_
 rotate_left
 ·intro w'
  go_simp
  with_reducible rfl
 rotate_left
 ·simp only [Act.put, s1_, s2_, s3_, i6_, i3_]
  rfl
 refine pu_ (i := 7) (N := some 39) (v := ?_) (a' := ?_) (tf_ 8 37) rfl rfl (an_ HT_.out kr_) (fun _ _ _ h => h) (Or.inl ⟨by rfl, ?_⟩) ?_ ?_
 rotate_left
 ·intro w'
  go_simp
  with_reducible rfl
 rotate_left
 ·simp only [Act.put, s1_, s2_, s3_, i6_, i3_]
  rfl
 refine pu_ (i := 8) (N := some 40) (v := ?_) (a' := ?_) (tf_ 9 36) rfl rfl (an_ HT_.out kr_) (fun _ _ _ h => h) (Or.inl ⟨by rfl, ?_⟩) ?_ ?_
 rotate_left
 ·intro w'
  go_simp
  with_reducible rfl
 rotate_left
 ·simp only [Act.put, s1_, s2_, s3_, i6_, i3_]
  rfl
 refine pu_ (i := 9) (N := some 41) (v := ?_) (a' := ?_) (tf_ 10 35) rfl rfl (an_ HT_.out kr_) (fun _ _ _ h => h) (Or.inl ⟨by rfl, ?_⟩) ?_ ?_
 rotate_left
 ·intro w'
  go_simp
  with_reducible rfl
 rotate_left
 ·simp only [Act.put, s1_, s2_, s3_, i6_, i3_]
  rfl
 refine take_ (i := 10) (N := some 42) (v := ?_) (a' := ?_) (tf_ 11 34) rfl rfl (tW_ HT_.out HW_.out kr_) (fun _ _ _ h => h) (Or.inl ⟨by rfl, ?_⟩) hHeld ?_ ?_
 rotate_left
 ·rintro w' ⟨s0, s1, s2, s3, s4, s5, s6, s7, s8, s9, s10, s11⟩
  go_simp
  with_reducible rfl
 rotate_left
 ·simp only [Act.put, s1_, s2_, s3_, i6_, i3_]
  rfl
 refine one_ (i := 11) (N := some 43) (tf_ 12 33) rfl rfl (one_of HT_.out kr_) (by decide) (fun K hK => ?_)
 refine goes_ Tryd.func29 kr_ rfl #[.int .i64 50] (by rfl) rfl rfl mp_ ?_
 with_reducible refine (q_Int.calls k 50 Pa Qa Ra _ A10.out).mono ?_
 rintro e w42 ⟨rfl, hb⟩
 have HS0_ := (hb.cell (World.block_lt_of_cell? _ _ (hHeld.1))).trans (hHeld.1)
 have HS1_ := (hb.cell (World.block_lt_of_cell? _ _ (hHeld.2.1))).trans (hHeld.2.1)
 have HS2_ := (hb.cell (World.block_lt_of_cell? _ _ (hHeld.2.2.1))).trans (hHeld.2.2.1)
 have HS3_ := (hb.cell (World.block_lt_of_cell? _ _ (hHeld.2.2.2.1))).trans (hHeld.2.2.2.1)
 have HS4_ := (hb.cell (World.block_lt_of_cell? _ _ (hHeld.2.2.2.2.1))).trans (hHeld.2.2.2.2.1)
 have HS5_ := (hb.cell (World.block_lt_of_cell? _ _ (hHeld.2.2.2.2.2.1))).trans (hHeld.2.2.2.2.2.1)
 have HS6_ := (hb.cell (World.block_lt_of_cell? _ _ (hHeld.2.2.2.2.2.2.1))).trans (hHeld.2.2.2.2.2.2.1)
 have HS7_ := (hb.cell (World.block_lt_of_cell? _ _ (hHeld.2.2.2.2.2.2.2.1))).trans (hHeld.2.2.2.2.2.2.2.1)
 have HS8_ := (hb.cell (World.block_lt_of_cell? _ _ (hHeld.2.2.2.2.2.2.2.2.1))).trans (hHeld.2.2.2.2.2.2.2.2.1)
 have HS9_ := (hb.cell (World.block_lt_of_cell? _ _ (hHeld.2.2.2.2.2.2.2.2.2.1))).trans (hHeld.2.2.2.2.2.2.2.2.2.1)
 have HS10_ := (hb.cell (World.block_lt_of_cell? _ _ (hHeld.2.2.2.2.2.2.2.2.2.2.1))).trans (hHeld.2.2.2.2.2.2.2.2.2.2.1)
 have HS11_ := (hb.cell (World.block_lt_of_cell? _ _ (hHeld.2.2.2.2.2.2.2.2.2.2.2))).trans (hHeld.2.2.2.2.2.2.2.2.2.2.2)
 refine ⟨_, rfl, ?_⟩
 replace ba := mk_ (Kd.N_below (by (with_reducible repeat (first | apply Kd.N_alloc | apply Kd.N_drewN | apply Kd.N_drew)); exact ba.out) hb)
 replace da := mk_ (Kd.rB_ (xR_ da.out) hb)
 replace ea := mk_ (Kd.rB_ (xR_ ea.out) hb)
 replace fa := mk_ (Kd.rB_ (xR_ fa.out) hb)
 replace HB := mk_ (bT_ (xB_ HB) hb)
 (try clear hb)
 (try clear hb2)
 (try clear hk)
 (try clear hi)
 refine hK.out _ _ ⟨HS0_, HS1_, HS2_, HS3_, HS4_, HS5_, HS6_, HS7_, HS8_, HS9_, HS10_, HS11_⟩ (fun hHeld => ?_)
 clear hK K
 refine norm_ (a' := ?_) ?_ ?_
 rotate_left
 ·show Act.put _ (some 43) _ = _
  simp only [Act.put, s1_, s2_, s3_, i6_, i3_]
  rfl
 refine pu_ (i := 12) (N := some 44) (v := ?_) (a' := ?_) (tf_ 13 32) rfl rfl (an_ HT_.out kr_) (fun _ _ _ h => h) (Or.inl ⟨by rfl, ?_⟩) ?_ ?_
 rotate_left
 ·intro w'
  go_simp
  with_reducible rfl
 rotate_left
 ·simp only [Act.put, s1_, s2_, s3_, i6_, i3_]
  rfl
 refine pu_ (i := 13) (N := some 45) (v := ?_) (a' := ?_) (tf_ 14 31) rfl rfl (an_ HT_.out kr_) (fun _ _ _ h => h) (Or.inl ⟨by rfl, ?_⟩) ?_ ?_
 rotate_left
 ·intro w'
  go_simp
  with_reducible rfl
 rotate_left
 ·simp only [Act.put, s1_, s2_, s3_, i6_, i3_]
  rfl
 refine pu_ (i := 14) (N := some 46) (v := ?_) (a' := ?_) (tf_ 15 30) rfl rfl (an_ HT_.out kr_) (fun _ _ _ h => h) (Or.inl ⟨by rfl, ?_⟩) ?_ ?_
 rotate_left
 ·intro w'
  go_simp
  with_reducible rfl
 rotate_left
 ·simp only [Act.put, s1_, s2_, s3_, i6_, i3_]
  rfl
 refine pu_ (i := 15) (N := some 47) (v := ?_) (a' := ?_) (tf_ 16 29) rfl rfl (an_ HT_.out kr_) (fun _ _ _ h => h) (Or.inl ⟨by rfl, ?_⟩) ?_ ?_
 rotate_left
 ·intro w'
  go_simp
  with_reducible rfl
 rotate_left
 ·simp only [Act.put, s1_, s2_, s3_, i6_, i3_]
  rfl
 refine pu_ (i := 16) (N := some 48) (v := ?_) (a' := ?_) (tf_ 17 28) rfl rfl (an_ HT_.out kr_) (fun _ _ _ h => h) (Or.inl ⟨by rfl, ?_⟩) ?_ ?_
 rotate_left
 ·intro w'
  go_simp
  with_reducible rfl
 rotate_left
 ·simp only [Act.put, s1_, s2_, s3_, i6_, i3_]
  rfl
 refine take_ (i := 17) (N := some 49) (v := ?_) (a' := ?_) (tf_ 18 27) rfl rfl (tW_ HT_.out HW_.out kr_) (fun _ _ _ h => h) (Or.inl ⟨by rfl, ?_⟩) hHeld ?_ ?_
 rotate_left
 ·rintro w' ⟨s0, s1, s2, s3, s4, s5, s6, s7, s8, s9, s10, s11⟩
  go_simp
  with_reducible rfl
 rotate_left
 ·simp only [Act.put, s1_, s2_, s3_, i6_, i3_]
  rfl
 refine one_ (i := 18) (N := some 50) (tf_ 19 26) rfl rfl (one_of HT_.out kr_) (by decide) (fun K hK => ?_)
 refine goes_ Tryd.func29 kr_ rfl #[.int .i64 50] (by rfl) rfl rfl mp_ ?_
 with_reducible refine (q_Int.calls k 50 Sa Ta Ua _ A13.out).mono ?_
 rintro e w43 ⟨rfl, hb⟩
 have HS0_ := (hb.cell (World.block_lt_of_cell? _ _ (hHeld.1))).trans (hHeld.1)
 have HS1_ := (hb.cell (World.block_lt_of_cell? _ _ (hHeld.2.1))).trans (hHeld.2.1)
 have HS2_ := (hb.cell (World.block_lt_of_cell? _ _ (hHeld.2.2.1))).trans (hHeld.2.2.1)
 have HS3_ := (hb.cell (World.block_lt_of_cell? _ _ (hHeld.2.2.2.1))).trans (hHeld.2.2.2.1)
 have HS4_ := (hb.cell (World.block_lt_of_cell? _ _ (hHeld.2.2.2.2.1))).trans (hHeld.2.2.2.2.1)
 have HS5_ := (hb.cell (World.block_lt_of_cell? _ _ (hHeld.2.2.2.2.2.1))).trans (hHeld.2.2.2.2.2.1)
 have HS6_ := (hb.cell (World.block_lt_of_cell? _ _ (hHeld.2.2.2.2.2.2.1))).trans (hHeld.2.2.2.2.2.2.1)
 have HS7_ := (hb.cell (World.block_lt_of_cell? _ _ (hHeld.2.2.2.2.2.2.2.1))).trans (hHeld.2.2.2.2.2.2.2.1)
 have HS8_ := (hb.cell (World.block_lt_of_cell? _ _ (hHeld.2.2.2.2.2.2.2.2.1))).trans (hHeld.2.2.2.2.2.2.2.2.1)
 have HS9_ := (hb.cell (World.block_lt_of_cell? _ _ (hHeld.2.2.2.2.2.2.2.2.2.1))).trans (hHeld.2.2.2.2.2.2.2.2.2.1)
 have HS10_ := (hb.cell (World.block_lt_of_cell? _ _ (hHeld.2.2.2.2.2.2.2.2.2.2.1))).trans (hHeld.2.2.2.2.2.2.2.2.2.2.1)
 have HS11_ := (hb.cell (World.block_lt_of_cell? _ _ (hHeld.2.2.2.2.2.2.2.2.2.2.2))).trans (hHeld.2.2.2.2.2.2.2.2.2.2.2)
 refine ⟨_, rfl, ?_⟩
 replace ba := mk_ (Kd.N_below (by (with_reducible repeat (first | apply Kd.N_alloc | apply Kd.N_drewN | apply Kd.N_drew)); exact ba.out) hb)
 replace da := mk_ (Kd.rB_ (xR_ da.out) hb)
 replace ea := mk_ (Kd.rB_ (xR_ ea.out) hb)
 replace fa := mk_ (Kd.rB_ (xR_ fa.out) hb)
 replace HB := mk_ (bT_ (xB_ HB) hb)
 (try clear hb)
 (try clear hb2)
 (try clear hk)
 (try clear hi)
 obtain ⟨Bc, Cc, Ab⟩ := Kd.rS_' fa.out
 (first | subst Ab | (injection Ab with f1_ f2_ f3_; have f4_ := f1_.symm; have f5_ := f3_.symm; clear f1_ f2_ f3_; subst f4_; subst f5_))
 refine hK.out _ _ ⟨HS0_, HS1_, HS2_, HS3_, HS4_, HS5_, HS6_, HS7_, HS8_, HS9_, HS10_, HS11_⟩ (fun hHeld => ?_)
 clear hK K
 refine norm_ (a' := ?_) ?_ ?_
 rotate_left
 ·show Act.put _ (some 50) _ = _
  simp only [Act.put, s1_, s2_, s3_, i6_, i3_]
  rfl
 refine pu_ (i := 19) (N := some 51) (v := ?_) (a' := ?_) (tf_ 20 25) rfl rfl (an_ HT_.out kr_) (fun _ _ _ h => h) (Or.inl ⟨by rfl, ?_⟩) ?_ ?_
 rotate_left
 ·intro w'
  go_simp
  with_reducible rfl
 rotate_left
 ·simp only [Act.put, s1_, s2_, s3_, i6_, i3_]
  rfl
 refine pu_ (i := 20) (N := some 52) (v := ?_) (a' := ?_) (tf_ 21 24) rfl rfl (an_ HT_.out kr_) (fun _ _ _ h => h) (Or.inl ⟨by rfl, ?_⟩) ?_ ?_
 rotate_left
 ·intro w'
  go_simp
  with_reducible rfl
 rotate_left
 ·simp only [Act.put, s1_, s2_, s3_, i6_, i3_]
  rfl
 refine pu_ (i := 21) (N := some 53) (v := ?_) (a' := ?_) (tf_ 22 23) rfl rfl (an_ HT_.out kr_) (fun _ _ _ h => h) (Or.inl ⟨by rfl, ?_⟩) ?_ ?_
 rotate_left
 ·intro w'
  go_simp
  with_reducible rfl
 rotate_left
 ·simp only [Act.put, s1_, s2_, s3_, i6_, i3_]
  rfl
 refine pu_ (i := 22) (N := some 54) (v := ?_) (a' := ?_) (tf_ 23 22) rfl rfl (an_ HT_.out kr_) (fun _ _ _ h => h) (Or.inl ⟨by rfl, ?_⟩) ?_ ?_
 rotate_left
 ·intro w'
  go_simp
  with_reducible rfl
 rotate_left
 ·simp only [Act.put, s1_, s2_, s3_, i6_, i3_]
  rfl
 refine pu_ (i := 23) (N := some 55) (v := ?_) (a' := ?_) (tf_ 24 21) rfl rfl (an_ HT_.out kr_) (fun _ _ _ h => h) (Or.inl ⟨by rfl, ?_⟩) ?_ ?_
 rotate_left
 ·intro w'
  go_simp
  with_reducible rfl
 rotate_left
 ·simp only [Act.put, s1_, s2_, s3_, i6_, i3_]
  rfl
 refine pu_ (i := 24) (N := some 56) (v := ?_) (a' := ?_) (tf_ 25 20) rfl rfl (an_ HT_.out kr_) (fun _ _ _ h => h) (Or.inl ⟨by rfl, ?_⟩) ?_ ?_
 rotate_left
 ·intro w'
  go_simp
  with_reducible rfl
 rotate_left
 ·simp only [Act.put, s1_, s2_, s3_, i6_, i3_]
  rfl
 refine pu_ (i := 25) (N := some 57) (v := ?_) (a' := ?_) (tf_ 26 19) rfl rfl (an_ HT_.out kr_) (fun _ _ _ h => h) (Or.inl ⟨by rfl, ?_⟩) ?_ ?_
 rotate_left
 ·intro w'
  go_simp
  with_reducible rfl
 rotate_left
 ·simp only [Act.put, s1_, s2_, s3_, i6_, i3_]
  rfl
 refine pu_ (i := 26) (N := some 58) (v := ?_) (a' := ?_) (tf_ 27 18) rfl rfl (an_ HT_.out kr_) (fun _ _ _ h => h) (Or.inl ⟨by rfl, ?_⟩) ?_ ?_
 rotate_left
 ·intro w'
  go_simp
  with_reducible rfl
 rotate_left
 ·simp only [Act.put, s1_, s2_, s3_, i6_, i3_]
  rfl
 refine pu_ (i := 27) (N := some 59) (v := ?_) (a' := ?_) (tf_ 28 17) rfl rfl (an_ HT_.out kr_) (fun _ _ _ h => h) (Or.inl ⟨by rfl, ?_⟩) ?_ ?_
 rotate_left
 ·intro w'
  go_simp
  with_reducible rfl
 rotate_left
 ·simp only [Act.put, s1_, s2_, s3_, i6_, i3_]
  rfl
 refine pu_ (i := 28) (N := some 60) (v := ?_) (a' := ?_) (tf_ 29 16) rfl rfl (an_ HT_.out kr_) (fun _ _ _ h => h) (Or.inl ⟨by rfl, ?_⟩) ?_ ?_
 rotate_left
 ·intro w'
  go_simp
  with_reducible rfl
 rotate_left
 ·simp only [Act.put, s1_, s2_, s3_, i6_, i3_]
  rfl
 refine pu_ (i := 29) (N := some 61) (v := ?_) (a' := ?_) (tf_ 30 15) rfl rfl (an_ HT_.out kr_) (fun _ _ _ h => h) (Or.inl ⟨by rfl, ?_⟩) ?_ ?_
 rotate_left
 ·intro w'
  go_simp
  with_reducible rfl
 rotate_left
 ·simp only [Act.put, s1_, s2_, s3_, i6_, i3_]
  rfl
 refine pu_ (i := 30) (N := some 62) (v := ?_) (a' := ?_) (tf_ 31 14) rfl rfl (an_ HT_.out kr_) (fun _ _ _ h => h) (Or.inl ⟨by rfl, ?_⟩) ?_ ?_
 rotate_left
 ·intro w'
  go_simp
  with_reducible rfl
 rotate_left
 ·simp only [Act.put, s1_, s2_, s3_, i6_, i3_]
  rfl
 refine pu_ (i := 31) (N := some 63) (v := ?_) (a' := ?_) (tf_ 32 13) rfl rfl (an_ HT_.out kr_) (fun _ _ _ h => h) (Or.inl ⟨by rfl, ?_⟩) ?_ ?_
 rotate_left
 ·intro w'
  go_simp
  with_reducible rfl
 rotate_left
 ·simp only [Act.put, s1_, s2_, s3_, i6_, i3_]
  rfl
 refine pu_ (i := 32) (N := some 64) (v := ?_) (a' := ?_) (tf_ 33 12) rfl rfl (an_ HT_.out kr_) (fun _ _ _ h => h) (Or.inl ⟨by rfl, ?_⟩) ?_ ?_
 rotate_left
 ·intro w'
  go_simp
  with_reducible rfl
 rotate_left
 ·simp only [Act.put, s1_, s2_, s3_, i6_, i3_]
  rfl
 refine take_ (i := 33) (N := some 65) (v := ?_) (a' := ?_) (tf_ 34 11) rfl rfl (tW_ HT_.out HW_.out kr_) (fun _ _ _ h => h) (Or.inl ⟨by rfl, ?_⟩) hHeld ?_ ?_
 rotate_left
 ·rintro w' ⟨s0, s1, s2, s3, s4, s5, s6, s7, s8, s9, s10, s11⟩
  go_simp
  with_reducible rfl
 rotate_left
 ·simp only [Act.put, s1_, s2_, s3_, i6_, i3_]
  rfl
 refine one_ (i := 34) (N := some 66) (tf_ 35 10) rfl rfl (one_of HT_.out kr_) (by decide) (fun K hK => ?_)
 refine goes_ Tryd.func29 kr_ rfl #[.int .i64 50] (by rfl) rfl rfl mp_ ?_
 with_reducible refine (q_Int.calls k 50 Va Wa Xa _ A18.out).mono ?_
 rintro e w45 ⟨rfl, hb⟩
 have HS0_ := (hb.cell (World.block_lt_of_cell? _ _ (hHeld.1))).trans (hHeld.1)
 have HS1_ := (hb.cell (World.block_lt_of_cell? _ _ (hHeld.2.1))).trans (hHeld.2.1)
 have HS2_ := (hb.cell (World.block_lt_of_cell? _ _ (hHeld.2.2.1))).trans (hHeld.2.2.1)
 have HS3_ := (hb.cell (World.block_lt_of_cell? _ _ (hHeld.2.2.2.1))).trans (hHeld.2.2.2.1)
 have HS4_ := (hb.cell (World.block_lt_of_cell? _ _ (hHeld.2.2.2.2.1))).trans (hHeld.2.2.2.2.1)
 have HS5_ := (hb.cell (World.block_lt_of_cell? _ _ (hHeld.2.2.2.2.2.1))).trans (hHeld.2.2.2.2.2.1)
 have HS6_ := (hb.cell (World.block_lt_of_cell? _ _ (hHeld.2.2.2.2.2.2.1))).trans (hHeld.2.2.2.2.2.2.1)
 have HS7_ := (hb.cell (World.block_lt_of_cell? _ _ (hHeld.2.2.2.2.2.2.2.1))).trans (hHeld.2.2.2.2.2.2.2.1)
 have HS8_ := (hb.cell (World.block_lt_of_cell? _ _ (hHeld.2.2.2.2.2.2.2.2.1))).trans (hHeld.2.2.2.2.2.2.2.2.1)
 have HS9_ := (hb.cell (World.block_lt_of_cell? _ _ (hHeld.2.2.2.2.2.2.2.2.2.1))).trans (hHeld.2.2.2.2.2.2.2.2.2.1)
 have HS10_ := (hb.cell (World.block_lt_of_cell? _ _ (hHeld.2.2.2.2.2.2.2.2.2.2.1))).trans (hHeld.2.2.2.2.2.2.2.2.2.2.1)
 have HS11_ := (hb.cell (World.block_lt_of_cell? _ _ (hHeld.2.2.2.2.2.2.2.2.2.2.2))).trans (hHeld.2.2.2.2.2.2.2.2.2.2.2)
 refine ⟨_, rfl, ?_⟩
 replace ba := mk_ (Kd.N_below (by (with_reducible repeat (first | apply Kd.N_alloc | apply Kd.N_drewN | apply Kd.N_drew)); exact ba.out) hb)
 replace da := mk_ (Kd.rB_ (xR_ da.out) hb)
 replace ea := mk_ (Kd.rB_ (xR_ ea.out) hb)
 replace fa := mk_ (Kd.rB_ (xR_ fa.out) hb)
 replace HB := mk_ (bT_ (xB_ HB) hb)
 (try clear hb)
 (try clear hb2)
 (try clear hk)
 (try clear hi)
 refine hK.out _ _ ⟨HS0_, HS1_, HS2_, HS3_, HS4_, HS5_, HS6_, HS7_, HS8_, HS9_, HS10_, HS11_⟩ (fun hHeld => ?_)
 clear hK K
 refine norm_ (a' := ?_) ?_ ?_
 rotate_left
 ·show Act.put _ (some 66) _ = _
  simp only [Act.put, s1_, s2_, s3_, i6_, i3_]
  rfl
 refine pu_ (i := 35) (N := some 67) (v := ?_) (a' := ?_) (tf_ 36 9) rfl rfl (an_ HT_.out kr_) (fun _ _ _ h => h) (Or.inl ⟨by rfl, ?_⟩) ?_ ?_
 rotate_left
 ·intro w'
  go_simp
  with_reducible rfl
 rotate_left
 ·simp only [Act.put, s1_, s2_, s3_, i6_, i3_]
  rfl
 refine pu_ (i := 36) (N := some 68) (v := ?_) (a' := ?_) (tf_ 37 8) rfl rfl (an_ HT_.out kr_) (fun _ _ _ h => h) (Or.inl ⟨by rfl, ?_⟩) ?_ ?_
 rotate_left
 ·intro w'
  go_simp
  with_reducible rfl
 rotate_left
 ·simp only [Act.put, s1_, s2_, s3_, i6_, i3_]
  rfl
 refine pu_ (i := 37) (N := some 69) (v := ?_) (a' := ?_) (tf_ 38 7) rfl rfl (an_ HT_.out kr_) (fun _ _ _ h => h) (Or.inl ⟨by rfl, ?_⟩) ?_ ?_
 rotate_left
 ·intro w'
  go_simp
  with_reducible rfl
 rotate_left
 ·simp only [Act.put, s1_, s2_, s3_, i6_, i3_]
  rfl
 refine pu_ (i := 38) (N := some 70) (v := ?_) (a' := ?_) (tf_ 39 6) rfl rfl (an_ HT_.out kr_) (fun _ _ _ h => h) (Or.inl ⟨by rfl, ?_⟩) ?_ ?_
 rotate_left
 ·intro w'
  go_simp
  with_reducible rfl
 rotate_left
 ·simp only [Act.put, s1_, s2_, s3_, i6_, i3_]
  rfl
 refine pu_ (i := 39) (N := some 71) (v := ?_) (a' := ?_) (tf_ 40 5) rfl rfl (an_ HT_.out kr_) (fun _ _ _ h => h) (Or.inl ⟨by rfl, ?_⟩) ?_ ?_
 rotate_left
 ·intro w'
  go_simp
  with_reducible rfl
 rotate_left
 ·simp only [Act.put, s1_, s2_, s3_, i6_, i3_]
  rfl
 refine take_ (i := 40) (N := some 72) (v := ?_) (a' := ?_) (tf_ 41 4) rfl rfl (tW_ HT_.out HW_.out kr_) (fun _ _ _ h => h) (Or.inl ⟨by rfl, ?_⟩) hHeld ?_ ?_
 rotate_left
 ·rintro w' ⟨s0, s1, s2, s3, s4, s5, s6, s7, s8, s9, s10, s11⟩
  go_simp
  with_reducible rfl
 rotate_left
 ·simp only [Act.put, s1_, s2_, s3_, i6_, i3_]
  rfl
 refine one_ (i := 41) (N := some 73) (tf_ 42 3) rfl rfl (one_of HT_.out kr_) (by decide) (fun K hK => ?_)
 refine goes_ Tryd.func29 kr_ rfl #[.int .i64 0] (by rfl) rfl rfl mp_ ?_
 with_reducible refine (q_Int.calls k 0 Db Eb Fb _ A21.out).mono ?_
 rintro e w46 ⟨rfl, hb⟩
 have HS0_ := (hb.cell (World.block_lt_of_cell? _ _ (hHeld.1))).trans (hHeld.1)
 have HS1_ := (hb.cell (World.block_lt_of_cell? _ _ (hHeld.2.1))).trans (hHeld.2.1)
 have HS2_ := (hb.cell (World.block_lt_of_cell? _ _ (hHeld.2.2.1))).trans (hHeld.2.2.1)
 have HS3_ := (hb.cell (World.block_lt_of_cell? _ _ (hHeld.2.2.2.1))).trans (hHeld.2.2.2.1)
 have HS4_ := (hb.cell (World.block_lt_of_cell? _ _ (hHeld.2.2.2.2.1))).trans (hHeld.2.2.2.2.1)
 have HS5_ := (hb.cell (World.block_lt_of_cell? _ _ (hHeld.2.2.2.2.2.1))).trans (hHeld.2.2.2.2.2.1)
 have HS6_ := (hb.cell (World.block_lt_of_cell? _ _ (hHeld.2.2.2.2.2.2.1))).trans (hHeld.2.2.2.2.2.2.1)
 have HS7_ := (hb.cell (World.block_lt_of_cell? _ _ (hHeld.2.2.2.2.2.2.2.1))).trans (hHeld.2.2.2.2.2.2.2.1)
 have HS8_ := (hb.cell (World.block_lt_of_cell? _ _ (hHeld.2.2.2.2.2.2.2.2.1))).trans (hHeld.2.2.2.2.2.2.2.2.1)
 have HS9_ := (hb.cell (World.block_lt_of_cell? _ _ (hHeld.2.2.2.2.2.2.2.2.2.1))).trans (hHeld.2.2.2.2.2.2.2.2.2.1)
 have HS10_ := (hb.cell (World.block_lt_of_cell? _ _ (hHeld.2.2.2.2.2.2.2.2.2.2.1))).trans (hHeld.2.2.2.2.2.2.2.2.2.2.1)
 have HS11_ := (hb.cell (World.block_lt_of_cell? _ _ (hHeld.2.2.2.2.2.2.2.2.2.2.2))).trans (hHeld.2.2.2.2.2.2.2.2.2.2.2)
 refine ⟨_, rfl, ?_⟩
 replace ba := mk_ (Kd.N_below (by (with_reducible repeat (first | apply Kd.N_alloc | apply Kd.N_drewN | apply Kd.N_drew)); exact ba.out) hb)
 replace da := mk_ (Kd.rB_ (xR_ da.out) hb)
 replace ea := mk_ (Kd.rB_ (xR_ ea.out) hb)
 replace fa := mk_ (Kd.rB_ (xR_ fa.out) hb)
 replace HB := mk_ (bT_ (xB_ HB) hb)
 (try clear hb)
 (try clear hb2)
 (try clear hk)
 (try clear hi)
 refine hK.out _ _ ⟨HS0_, HS1_, HS2_, HS3_, HS4_, HS5_, HS6_, HS7_, HS8_, HS9_, HS10_, HS11_⟩ (fun hHeld => ?_)
 clear hK K
 refine norm_ (a' := ?_) ?_ ?_
 rotate_left
 ·show Act.put _ (some 73) _ = _
  simp only [Act.put, s1_, s2_, s3_, i6_, i3_]
  rfl
 refine pu_ (i := 42) (N := some 74) (v := ?_) (a' := ?_) (tf_ 43 2) rfl rfl (an_ HT_.out kr_) (fun _ _ _ h => h) (Or.inl ⟨by rfl, ?_⟩) ?_ ?_
 rotate_left
 ·intro w'
  go_simp
  with_reducible rfl
 rotate_left
 ·simp only [Act.put, s1_, s2_, s3_, i6_, i3_]
  rfl
 refine pu_ (i := 43) (N := some 75) (v := ?_) (a' := ?_) (tf_ 44 1) rfl rfl (an_ HT_.out kr_) (fun _ _ _ h => h) (Or.inl ⟨by rfl, ?_⟩) ?_ ?_
 rotate_left
 ·intro w'
  go_simp
  with_reducible rfl
 rotate_left
 ·simp only [Act.put, s1_, s2_, s3_, i6_, i3_]
  rfl
 refine pu_ (i := 44) (N := some 0) (v := ?_) (a' := ?_) (tf_ 45 0) rfl rfl (an_ HT_.out kr_) (fun _ _ _ h => h) (Or.inl ⟨by rfl, ?_⟩) ?_ ?_
 rotate_left
 ·intro w'
  go_simp
  with_reducible rfl
 rotate_left
 ·simp only [Act.put, s1_, s2_, s3_, i6_, i3_]
  rfl
 refine done_ (done_of HT_.out kr_) ?_
 try go_wp2
 go_ret
 exact ⟨rE_, xB_ HB⟩
end Go.Proofs.YtppimdempdnhoaaDoor.C
end
