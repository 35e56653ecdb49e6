/- A part of the proof of marshalSubmodular_card (see YtppimdempdnhoaaDoorZMU6): what the functions that it reaches compute, each by its contract. -/
import Derived.Laws.BitsLemmas
import Derived.Test.YtppimdempdnhoaaDoorZMU4
section
namespace Go.Proofs.YtppimdempdnhoaaDoor.C
set_option maxHeartbeats 8000000
set_option maxRecDepth 100000
open Go.RowKit Go.PrWords Go.PrLast Go.PrMore
attribute [local go_sem] max2_int min2_int max_two min_two max_three min_three max_four min_four
set_option linter.unusedVariables false
set_option linter.unusedSimpArgs false
def insolvencylaw16_set.l0 : Nat → Int → Int → List Int → Int → Option (List Int)
 | 0, _, _, _, _ => none
 | k + 1, x0, x1, x5, x6 => if x6 < x1 then (if 0 ≤ (IntKind.u64.wrap (x6)) then (if (Go.bits .and .u8 (shr .u8 x0 (IntKind.u64.wrap (x6))) 1) = 1 then (if x5.length < 17592186044416 then (insolvencylaw16_set.l0 k x0 x1 (x5 ++ [x6]) (wrap64 (x6 + 1))) else (none)) else (insolvencylaw16_set.l0 k x0 x1 x5 (wrap64 (x6 + 1)))) else (none)) else (some x5)
def insolvencylaw16_set.f (k : Nat) (a0 : Int) (a1 : Int) : Option (List Int) := insolvencylaw16_set.l0 k a0 a1 ([] : List Int) 0
theorem insolvencylaw16_set.calls (k : Nat) (a0 : Int) (a1 : Int) (r : List Int) (w : World) (h : insolvencylaw16_set.f k a0 a1 = some r) :
  Calls Tryd.prog 14 #[.int .u8 a0, .int .i64 a1] w fun e w' => ∃ v0_ : Value, e = .returned (v0_) ∧ Kd.R (Kd.int .i64) 3 w' w.heap.size (fun _ => True) v0_ r ∧ Below w.heap.size w w' := by
 have HB := mk_ (Below.refl w.heap.size w)
 have H : (insolvencylaw16_set.l0 k a0 a1 ([] : List Int) 0) = some r := h
 clear h
 have H' := mk_ H
 clear H
 go_enter Tryd.func14, Tryd.ntmps14
 go_wp2
 go_loopg [5, 6] k (fun kq v5 v6 w' => ∃ (ba : List Int) (aa : Int), v6 = .int .i64 aa ∧ A0_ (insolvencylaw16_set.l0 kq a0 a1 ba aa = some r) ∧ A0_ (kq ≤ k) ∧ A0_ (Kd.R (Kd.int .i64) 3 w' w.heap.size (fun _ => True) v5 ba) ∧ A0_ (Below w.heap.size w w'))
 case atStart => exact ⟨(([] : List Int)), (0), (rS_), H', ⟨Nat.le_refl _⟩, ⟨by first | exact Kd.R_nil _ _ _ _ _ | exact Kd.N_nil _ _ _ _ _ | exact Kd.V_nil _ _ _ _ _ | exact Kd.Q_nil _ _ _ _ _ | exact Kd.S_nil _ _ _ _ _⟩, ⟨xB_ HB⟩⟩
 case round =>
  clear H'
  obtain ⟨ba, aa, rfl, HA, HK1, ca, HB⟩ := hrel
  cases gk with
  | zero => exact absurd HA.out (by simp [insolvencylaw16_set.l0])
  | succ k1 =>
   have H := HA.out
   clear HA
   simp only [insolvencylaw16_set.l0] at H
   replace H := iS_ H
   rcases H with ⟨c3, H⟩ | ⟨c3, H⟩
   ·have ga := decide_eq_true c3
    clear c3
    obtain ⟨ji4, fa⟩ : ∃ j_ : Int, (IntKind.u64.wrap (aa)) = j_ := ⟨_, rfl⟩
    replace H : (if 0 ≤ (ji4) then (if (Go.bits .and .u8 (shr .u8 a0 (ji4)) 1) = 1 then (if ba.length < 17592186044416 then (insolvencylaw16_set.l0 k1 a0 a1 (ba ++ [aa]) (wrap64 (aa + 1))) else (none)) else (insolvencylaw16_set.l0 k1 a0 a1 ba (wrap64 (aa + 1)))) else (none)) = some r := by first | (rw [fa] at H; exact H) | (simp only [fa] at H ⊢; exact H)
    obtain ⟨na, oa, H⟩ := iE_ H
    obtain ⟨ji6, da⟩ : ∃ j_ : Int, (shr .u8 a0 (ji4)) = j_ := ⟨_, rfl⟩
    replace H : (if (Go.bits .and .u8 (ji6) 1) = 1 then (if ba.length < 17592186044416 then (insolvencylaw16_set.l0 k1 a0 a1 (ba ++ [aa]) (wrap64 (aa + 1))) else (none)) else (insolvencylaw16_set.l0 k1 a0 a1 ba (wrap64 (aa + 1)))) = some r := by first | (rw [da] at H; exact H) | (simp only [da] at H ⊢; exact H)
    have pa : (a0 / 2 ^ min (ji4).toNat 8) = ji6 := da
    have hji6z : (ji4) ≤ 8 → (a0 / 2 ^ (ji4).toNat) = ji6 := shr_small da
    replace H := iS_ H
    rcases H with ⟨c7, H⟩ | ⟨c7, H⟩
    ·have ha := beq_iff_eq.mpr c7
     have ia := bne_eq_false_iff_eq.mpr c7
     clear c7
     obtain ⟨c8, H⟩ := iP_ H
     have ja := mk_ c8
     clear c8
     obtain ⟨ka, ea⟩ : ∃ y_ : List Int, y_ = (ba ++ [aa]) := ⟨_, rfl⟩
     (first | rw [← ea] at H | skip); (try with_reducible replace H := (Option.bind_some _ _).symm.trans H); (try dsimp only at H)
     have la := mk_ ea
     clear ea
     have H' := mk_ H
     clear H
     go_wp2_with (first | ((with_reducible refine gate_builtin (b := .append) (xs := #[.tmp 18, .tmp 20]) rfl ?_); at_builtin; refine Kd.R_append (Kd.int .i64) (w0 := w) w.heap.size rfl (.tmp 18) (.tmp 20) 39 3 (.int .i64 0) 8 rfl Tryd.underlying39 info3 rfl (by decide) (by omega) u5 ba aa [.int .i64 aa] (fun _ => True) (fun _ => False) rfl rfl ?aP (fun _ hk => hk.elim) ?aF ?aO ?aB ?aS ?aL ?_; (case aP => exact rfl); (case aB => exact (xB_ HB)); (case aF => exact (fun _ _ => trivial)); (case aO => exact (xR_ ca.out)); (case aS => exact (bZ_ (xB_ HB))); (case aL => have := ja.out; omega); intro qa w9 ho hb hg hat; rw [← la.out] at ho; replace HB := mk_ (hb); have ma := mk_ (ho); clear ca; clear ho hb hg hat))
     (try simp only [ap_])
     go_roundg k1
     case measure => have := HK1.out; omega
     case rel => exact ⟨(ka), (wrap64 (aa + 1)), (rS_), H', ⟨by have := HK1.out; omega⟩, ⟨by refine xr_ ?_; exact ma.out⟩, ⟨xB_ HB⟩⟩
    ·have ha := beq_eq_false_iff_ne.mpr c7
     have ia := bne_iff_ne.mpr c7
     have H' := mk_ H
     clear H
     go_wp2
     (try simp only [ap_])
     go_roundg k1
     case measure => have := HK1.out; omega
     case rel => exact ⟨(ba), (wrap64 (aa + 1)), (rS_), H', ⟨by have := HK1.out; omega⟩, ⟨by refine xr_ ?_; exact ca.out⟩, ⟨xB_ HB⟩⟩
   ·have ga := decide_eq_false c3
    clear c3
    obtain rfl := Option.some.inj H
    go_wp2
    go_ret
    exact ⟨_, rE_, by refine xr_ ?_; exact ca.out, xB_ HB⟩
mutual
def marshal_Capacity.l0 : Nat → List (S50) → List (S32) → List Bool → List Int → Int → Int → Option (Bool × ByteArray × ByteArray × Int)
 | 0, _, _, _, _, _, _ => none
 | k + 1, x0, x1, x9, x26, x27, x28 => if x28 < x27 then (if 0 ≤ x28 then (if x28 < (x26.length : Int) then (if (rd x26 x28) < 0 then (none) else (if (rd x26 x28) ≥ (x1.length : Int) then (none) else (if 0 ≤ (rd x26 x28) then (if (rd x26 x28) < (x9.length : Int) then (marshal_Capacity.l0 k x0 x1 (x9.set ((rd x26 x28) : Int).toNat true) x26 x27 (wrap64 (x28 + 1))) else (none)) else (none)))) else (none)) else (none)) else ((marshal_build.f k x0 x1).bind fun bt900 => ((marshal_network_cuts.f k bt900.1 bt900.2.1 bt900.2.2).bind fun t910 => (marshal_Capacity.l1 k t910 x9 (x9.length : Int) 0 bt900.1 bt900.2.1 bt900.2.2)))
def marshal_Capacity.l1 : Nat → List (S32) → List Bool → Int → Int → List (S32) → List (S32) → List Int → Option (Bool × ByteArray × ByteArray × Int)
 | 0, _, _, _, _, _, _, _ => none
 | k + 1, x13, x50, x51, x52, x910000, x910001, x910002 => if x52 < x51 then (if 0 ≤ x52 then (if x52 < (x50.length : Int) then (if rdOf false x50 x52 = true then ((marshal_network_add.f k x910000 x910001 x910002 x13 x52).bind fun t914 => (marshal_Capacity.l1 k t914 x50 x51 (wrap64 (x52 + 1)) x910000 x910001 x910002)) else (marshal_Capacity.l1 k x13 x50 x51 (wrap64 (x52 + 1)) x910000 x910001 x910002)) else (none)) else (none)) else ((marshal_least.f k x13).bind fun bt915 => (some (bt915.1, bt915.2.1, bt915.2.2, 0)))
end
def marshal_Capacity.f (k : Nat) (l0 : List (S50)) (l1 : List (S32)) (l2 : List Int) : Option (Bool × ByteArray × ByteArray × Int) := (collateral_Check.f k l0 l1).bind fun t894 => (if t894 = 0 then (if 0 ≤ (l1.length : Int) then (if ((l1.length : Int) : Int).toNat ≤ 281474976710656 then (marshal_Capacity.l0 k l0 l1 (List.replicate ((l1.length : Int) : Int).toNat false) l2 (l2.length : Int) 0) else (none)) else (none)) else (none))
theorem marshal_Capacity.calls (k : Nat) (A0 : Option Addr) (c0 : Nat) (l0 : List (S50)) (A1 : Option Addr) (c1 : Nat) (l1 : List (S32)) (A2 : Option Addr) (c2 : Nat) (l2 : List Int) (r1 : Bool) (r2 : ByteArray) (r3 : ByteArray) (r4 : Int) (w : World) (hr0 : Kd.C k50 w A0 l0.length l0) (hc0 : l0.length ≤ c0) (hr1 : Kd.C k32 w A1 l1.length l1) (hc1 : l1.length ≤ c1) (hr2 : Kd.C (Kd.int .i64) w A2 l2.length l2) (hc2 : l2.length ≤ c2) (h : marshal_Capacity.f k l0 l1 l2 = some (r1, r2, r3, r4)) (hT : TzT w) :
  Calls Tryd.prog 13 #[.slice A0 l0.length c0, .slice A1 l1.length c1, .slice A2 l2.length c2] w fun e w' => e = .returned (.tuple #[.agg #[.bool r1, .string r2, .string r3], .int .i64 r4]) ∧ Below w.heap.size w w' := by
 have HT := mk_ hT
 clear hT
 have hu32 := Tryd.underlying32
 have hu56 := Tryd.underlying56
 have HR0 := mk_ hr0
 have HC0 := mk_ hc0
 clear hr0 hc0
 have HR1 := mk_ hr1
 have HC1 := mk_ hc1
 clear hr1 hc1
 have HR2 := mk_ hr2
 have HC2 := mk_ hc2
 clear hr2 hc2
 have HB := mk_ (Below.refl w.heap.size w)
 have H := h
 unfold marshal_Capacity.f at H
 clear h
 replace H := oB_ H
 obtain ⟨fb, A4, H⟩ := H
 (try dsimp only at H)
 replace H := iS_ H
 rcases H with ⟨c5, H⟩ | ⟨c5, H⟩
 ·have gb := beq_iff_eq.mpr c5
  have ib := bne_eq_false_iff_eq.mpr c5
  clear c5
  replace H := iE_ H
  obtain ⟨Gb, Hb, H⟩ := H
  replace H := iE_ H
  obtain ⟨Ib, Jb, H⟩ := H
  obtain ⟨jb, Na⟩ : ∃ y_ : List Bool, y_ = (List.replicate ((l1.length : Int) : Int).toNat false) := ⟨_, rfl⟩
  (first | rw [← Na] at H | skip); (try with_reducible replace H := (Option.bind_some _ _).symm.trans H); (try dsimp only at H)
  have Ya := mk_ Na
  clear Na
  have H' := mk_ H
  clear H
  go_enter Tryd.func13, Tryd.ntmps13
  go_wp2_with (first | ((with_reducible refine gD_ (N := 6) rfl ?_); (try (refine gate_guard (by rfl) ?_; dsimp only)); refine bX_ (N := 6) (cs := zC_) (t := 32) ?_; intro oa hg w8 hbox hb; have aa := mk_ (hbox); have Kb := mk_ (gZ_ hg (bZ_ (xB_ HB))); have ga := mk_ (gZ_ hg (bZ_ (xB_ HB))); replace HB := mk_ (bT_ (xB_ HB) hb); clear hb hbox hg) | ((with_reducible refine gC_ (f := 19) rfl ?_); refine gL_ (some 18) rfl rfl Tryd.func19 kr_ rfl #[.slice A0 l0.length c0, .slice A1 l1.length c1] rfl mp_ ?_; (with_reducible refine (collateral_Check.calls k _ _ l0 _ _ l1 fb _ (xC_ (Kd.C_below HR0.out HB.out)) HC0.out (xC_ (Kd.C_below HR1.out HB.out)) HC1.out A4.out).mono ?_); rintro e w9 ⟨rfl, hb⟩; refine ⟨_, rfl, ?_⟩; replace aa := mk_ (kB_ (xK_ aa.out) hb); replace HB := mk_ (bT_ (xB1_ HB ga) hb)) | ((with_reducible refine gD_ (N := 25) rfl ?_); (try (refine gate_guard (by rfl) ?_; dsimp only)); refine Kd.R_make Kd.bool _ 4 rfl (N := 25) rfl 66 _ _ rfl (l1.length : Int) rfl rfl Tryd.underlying66 (.bool false) 1 info4 rfl (by decide) (by omega) false (ok := fun _ => True) (okp := fun _ => True) rfl (fun _ hk => hk) trivial (oD_) (Nat.le_trans (Nat.mul_le_mul_right _ (oD_ : (l1.length : Int).toNat ≤ 281474976710656)) (by omega)) (Below.refl _ _) (Nat.le_refl _) ?_; intro kb w10 Ia hb hg_ hnew_; clear hg_ hnew_; (first | rw [← Ya.out] at Ia | (simp only [Int.reduceToNat] at Ia; rw [← Ya.out] at Ia)); have mb := mk_ (Kd.rL_ Ia (bZ_ (xB1_ HB ga))); replace aa := mk_ (kB_ (xK_ aa.out) hb); replace HB := mk_ (bT_ (xB1_ HB ga) hb); clear hb Ia))
  go_loopg [28] k (fun kq v28 w' => ∃ (la : List Bool) (ta : Int) (wa : Bool) (va : ByteArray) (ua : ByteArray), v28 = .int .i64 ta ∧ A0_ (marshal_Capacity.l0 kq l0 l1 la l2 (l2.length : Int) ta = some (r1, r2, r3, r4)) ∧ A0_ (kq ≤ k) ∧ A0_ (Kd.R Kd.bool 4 w' w.heap.size (fun _ => True) kb la) ∧ A0_ (w'.heap[oa]? = some (.cells #[.bool wa, .string va, .string ua] 32 (0, 0))) ∧ A0_ (Below w.heap.size w w'))
  case atStart => exact ⟨(jb), (0), (false), ((⟨#[]⟩ : ByteArray)), ((⟨#[]⟩ : ByteArray)), (rS_), H', ⟨Nat.le_refl _⟩, ⟨by refine xr_ ?_; exact mb.out⟩, ⟨by refine xk_ ?_; exact aa.out⟩, ⟨xB1_ HB ga⟩⟩
  case round =>
   clear H'
   obtain ⟨la, ta, wa, va, ua, rfl, HA, HK1, qa, aa, HB⟩ := hrel
   cases gk with
   | zero => exact absurd HA.out (by simp [marshal_Capacity.l0])
   | succ k1 =>
    have H := HA.out
    clear HA
    simp only [marshal_Capacity.l0] at H
    replace H := iS_ H
    rcases H with ⟨c12, H⟩ | ⟨c12, H⟩
    ·have nb := decide_eq_true c12
     clear c12
     replace H := iD_ H
     obtain ⟨Lb, H⟩ := H
     replace H := iD_ H
     obtain ⟨Mb, H⟩ := H
     replace H := iS_ H
     rcases H with ⟨c15, H⟩ | ⟨c15, H⟩
     ·have ob := decide_eq_true c15
      clear c15
      exact absurd H (by simp)
     ·have ob := decide_eq_false c15
      clear c15
      replace H := iS_ H
      rcases H with ⟨c17, H⟩ | ⟨c17, H⟩
      ·have pb := decide_eq_true c17
       clear c17
       exact absurd H (by simp)
      ·have pb := decide_eq_false c17
       clear c17
       replace H := iD_ H
       obtain ⟨Nb, H⟩ := H
       replace H := iD_ H
       obtain ⟨Ob, H⟩ := H
       obtain ⟨Za, Oa⟩ : ∃ y_ : List Bool, y_ = (la.set ((rd l2 ta) : Int).toNat true) := ⟨_, rfl⟩
       (first | rw [← Oa] at H | skip); (try with_reducible replace H := (Option.bind_some _ _).symm.trans H); (try dsimp only at H)
       have qb := mk_ Oa
       clear Oa
       have H' := mk_ H
       clear H
       have Pa : 0 ≤ (ta : Int) := oD_
       have Qa : ta < (l2.length : Int) := oD_
       obtain ⟨Pb, rb, Ra⟩ := Kd.at_int HR2.out ta Pa Qa
       cases rb
       (try replace Ra := cT_ HB Ra)
       replace Pa := eq_true Pa
       replace Qa := eq_true Qa
       have p21 : 0 ≤ ((rd l2 ta) : Int) := oD_
       have q21 : ((rd l2 ta) : Int) < ((la.length : Int) : Int) := oD_
       obtain ⟨Sa, sb, ab, bb, gl21, cl21, cb⟩ := Kd.R_form qa.out (by omega)
       (first | cases ab | (injection ab with ea_ en_ ec_; (first | subst ea_ | (injection ea_ with ea_; subst ea_)); subst ec_; clear en_))
       have GB21 := mk_ bb
       have GG21 := mk_ cb
       clear bb gl21 cb
       obtain ⟨Qb, Rb⟩ := Kd.R_celln false qa.out ((rd l2 ta) : Int) p21 q21
       replace p21 := eq_true p21
       replace q21 := eq_true q21
       have HP22 := Kd.R_putg qa.out ((rd l2 ta) : Int) true
       go_wp2_with (first | ((with_reducible refine gate_store (t := 4) (p := 43) rfl ?_); refine store_event (t := 4) (p := 43) (v := ?vo_w23) (w1 := (wr.setCell ⟨Sa, ((rd l2 ta) : Int).toNat, none⟩ (.bool true))) ?hg ?ho ?hn ?hr ?_; (case ho => rfl); (case hg => rfl); (case hn => rfl); (case hr => first | (go_simp; done) | (go_simp; rfl)); intro w23 hw; have hg : wr.grownBy w23 (some Sa) := (by rw [hw]; exact HP22.2); have hp_ : Kd.R Kd.bool 4 w23 w.heap.size (fun _ => True) (.slice (some ⟨Sa, 0, none⟩) la.length sb) Za := (by rw [hw, qb.out]; exact HP22.1); clear HP22; replace aa := mk_ (blk_grown (g := oa) (o := .cells #[.bool wa, .string va, .string ua] 32 (0, 0)) (xK_ aa.out) hg (Kd.R_ne qa.out aa.out (by decide))); replace qa := mk_ (hp_); replace HB := mk_ ((by rw [hw]; exact bS_ (HB.out) GB21.out : Below w.heap.size w w23)); clear hg hw hp_))
       (try simp only [ap_])
       go_roundg k1
       case measure => have := HK1.out; omega
       case rel => exact ⟨(Za), (wrap64 (ta + 1)), (wa), (va), (ua), (rS_), H', ⟨by have := HK1.out; omega⟩, ⟨by refine xr_ ?_; exact qa.out⟩, ⟨by refine xk_ ?_; exact aa.out⟩, ⟨xB1_ HB ga⟩⟩
    ·have nb := decide_eq_false c12
     clear c12
     replace H := oB_ H
     obtain ⟨⟨ba, da, ea⟩, A24, H⟩ := H
     (try dsimp only at H)
     replace H := oB_ H
     obtain ⟨db, A25, H⟩ := H
     (try dsimp only at H)
     have H' := mk_ H
     clear H
     go_wp2_with (first | ((with_reducible refine gC_ (f := 20) rfl ?_); refine gL_ (some 47) rfl rfl Tryd.func20 kr_ rfl #[.slice A0 l0.length c0, .slice A1 l1.length c1] rfl mp_ ?_; (with_reducible refine (marshal_build.calls k1 _ _ l0 _ _ l1 ba da ea _ (xC_ (Kd.C_below HR0.out HB.out)) HC0.out (xC_ (Kd.C_below HR1.out HB.out)) HC1.out A24.out).mono ?_); rintro e w26 ⟨Sb, Tb, Ub, rfl, ho0, ho1, ho2, hb⟩; refine ⟨_, rfl, ?_⟩; replace qa := mk_ (Kd.rB_ (xR_ qa.out) hb); have xa := mk_ (Kd.rL_ (Kd.R_newB ho0 (g := oa) (o := .cells #[.bool wa, .string va, .string ua] 32 (0, 0)) (xK_ aa.out)) (bZ_ (xB1_ HB ga))); have ya := mk_ (Kd.rL_ (Kd.R_newB ho1 (g := oa) (o := .cells #[.bool wa, .string va, .string ua] 32 (0, 0)) (xK_ aa.out)) (bZ_ (xB1_ HB ga))); have Ba := mk_ (Kd.rL_ ho2 (bZ_ (xB1_ HB ga))); replace aa := mk_ (kB_ (xK_ aa.out) hb); replace HB := mk_ (bT_ (xB1_ HB ga) hb)) | ((with_reducible refine gD_ (N := 12) rfl ?_); (try (refine gate_guard (by rfl) ?_; dsimp only)); refine bX_ (N := 12) (cs := #[.slice none 0 0, .slice none 0 0, .slice none 0 0]) (t := 56) ?_; intro ca hg w27 hbox hb; replace qa := mk_ (Kd.rB_ (xR_ qa.out) hb); replace xa := mk_ (Kd.rB_ (xR_ xa.out) hb); replace ya := mk_ (Kd.rB_ (xR_ ya.out) hb); replace Ba := mk_ (Kd.rB_ (xR_ Ba.out) hb); have fa := mk_ (hbox); have Vb := mk_ (gZ_ hg (bZ_ (xB1_ HB ga))); have za := mk_ (gZ_ hg (bZ_ (xB1_ HB ga))); replace HB := mk_ (bT_ (xB1_ HB ga) hb); have Aa := mk_ (gN_ hg (xK_ aa.out)); have Ta := mk_ (gM_ hg (xK_ aa.out)); replace aa := mk_ (kB_ (xK_ aa.out) hb); clear hb hbox hg; obtain ⟨ia, ha, tb⟩ := Kd.rS_' xa.out; subst tb; have hnb29 := Ta.out; have hnc29 := Aa.out; obtain ⟨Wb, Xb, Yb, Zb, ac, bc⟩ := kG3_ fa.out; obtain ⟨ka, ja, ub⟩ := Kd.rS_' ya.out; subst ub; obtain ⟨ra, pa, vb⟩ := Kd.rS_' Ba.out; subst vb) | ((with_reducible refine gC_ (f := 30) rfl ?_); refine gL_ (some 49) rfl rfl Tryd.func30 kr_ rfl #[.agg #[.slice ia ba.length ha, .slice ka da.length ja, .slice ra ea.length pa]] rfl mp_ ?_; (with_reducible refine (marshal_network_cuts.calls k1 _ _ ba _ _ da _ _ ea db _ ?side1 ?side2 ?side3 ?side4 ?side5 ?side6 A25.out (TzT.below HT.out (Nat.le_refl _) (xB2_ HB ga za))).mono ?_); (case side1 => refine (Kd.rr_' (e := 32) (base := w.heap.size) (ok := fun k_ => (some k_ ≠ (.slice ka da.length ja : Value).ownBlock ∧ k_ ≠ oa)) (n := ba.length) (c := ha) ?_).2.2; exact (by refine xr_ ?_; exact (Kd.rM_ (Kd.rF_ (p := ⟨ca, 2, none⟩) (Kd.rF_ (p := ⟨ca, 1, none⟩) (Kd.rF_ (p := ⟨ca, 0, none⟩) (Kd.R_types xa.out fa.out (by decide)) (fun _ hk => hk.2) (.slice ia ba.length ha)) (fun _ hk => hk.2) (.slice ka da.length ja)) (fun _ hk => hk.2) (.slice ra ea.length pa)) (fun _ h_ => h_.1)))); (case side2 => exact (Kd.rr_' xa.out).2.1); (case side3 => refine (Kd.rr_' (e := 32) (base := w.heap.size) (ok := fun k_ => (some k_ ≠ (.slice ia ba.length ha : Value).ownBlock ∧ k_ ≠ oa)) (n := da.length) (c := ja) ?_).2.2; exact (by refine xr_ ?_; exact (Kd.rM_ (Kd.rF_ (p := ⟨ca, 2, none⟩) (Kd.rF_ (p := ⟨ca, 1, none⟩) (Kd.rF_ (p := ⟨ca, 0, none⟩) (Kd.R_types ya.out fa.out (by decide)) (fun _ hk => hk.2) (.slice ia ba.length ha)) (fun _ hk => hk.2) (.slice ka da.length ja)) (fun _ hk => hk.2) (.slice ra ea.length pa)) (fun _ h_ => h_.1)))); (case side4 => exact (Kd.rr_' ya.out).2.1); (case side5 => refine (Kd.rr_' (e := 59) (base := w.heap.size) (ok := fun k_ => True) (n := ea.length) (c := pa) ?_).2.2; exact (by refine xr_ ?_; exact (Kd.rM_ (Kd.rF_ (p := ⟨ca, 2, none⟩) (Kd.rF_ (p := ⟨ca, 1, none⟩) (Kd.rF_ (p := ⟨ca, 0, none⟩) (Kd.R_types Ba.out fa.out (by decide)) (fun _ hk => hk.2) (.slice ia ba.length ha)) (fun _ hk => hk.2) (.slice ka da.length ja)) (fun _ hk => hk.2) (.slice ra ea.length pa)) (fun _ h_ => h_.1)))); (case side6 => exact (Kd.rr_' Ba.out).2.1); rintro e w33 ⟨Ua, rfl, ho0, hb⟩; refine ⟨_, rfl, ?_⟩; replace qa := mk_ (Kd.rB_ (by refine xr_ ?_; exact (Kd.rM_ (Kd.rF_ (p := ⟨ca, 2, none⟩) (Kd.rF_ (p := ⟨ca, 1, none⟩) (Kd.rF_ (p := ⟨ca, 0, none⟩) (Kd.R_types qa.out fa.out (by decide)) (fun _ hk => hk.2) (.slice ia ba.length ha)) (fun _ hk => hk.2) (.slice ka da.length ja)) (fun _ hk => hk.2) (.slice ra ea.length pa)) (fun _ h_ => h_.1))) hb); replace Ba := mk_ (Kd.rB_ (by refine xr_ ?_; exact (Kd.rM_ (Kd.rF_ (p := ⟨ca, 2, none⟩) (Kd.rF_ (p := ⟨ca, 1, none⟩) (Kd.rF_ (p := ⟨ca, 0, none⟩) (Kd.R_types Ba.out fa.out (by decide)) (fun _ hk => hk.2) (.slice ia ba.length ha)) (fun _ hk => hk.2) (.slice ka da.length ja)) (fun _ hk => hk.2) (.slice ra ea.length pa)) (fun _ h_ => h_.1))) hb); have wb := mk_ (Kd.rL_ (Kd.R_newB (Kd.R_new' (Kd.R_new' ho0 (Kd.R_lt (by refine xr_ ?_; exact (Kd.rM_ (Kd.rF_ (p := ⟨ca, 2, none⟩) (Kd.rF_ (p := ⟨ca, 1, none⟩) (Kd.rF_ (p := ⟨ca, 0, none⟩) (Kd.R_types xa.out fa.out (by decide)) (fun _ hk => hk.2) (.slice ia ba.length ha)) (fun _ hk => hk.2) (.slice ka da.length ja)) (fun _ hk => hk.2) (.slice ra ea.length pa)) (fun _ h_ => h_.1))))) (Kd.R_lt (by refine xr_ ?_; exact (Kd.rM_ (Kd.rF_ (p := ⟨ca, 2, none⟩) (Kd.rF_ (p := ⟨ca, 1, none⟩) (Kd.rF_ (p := ⟨ca, 0, none⟩) (Kd.R_types ya.out fa.out (by decide)) (fun _ hk => hk.2) (.slice ia ba.length ha)) (fun _ hk => hk.2) (.slice ka da.length ja)) (fun _ hk => hk.2) (.slice ra ea.length pa)) (fun _ h_ => h_.1))))) (g := oa) (o := .cells #[.bool wa, .string va, .string ua] 32 (0, 0)) (by refine xk_ ?_; refine bf_ ?_ Aa.out _; refine xk_ ?_; refine bf_ ?_ Aa.out _; refine xk_ ?_; refine bf_ ?_ Aa.out _; refine xk_ ?_; exact aa.out)) (bZ_ (xB2_ HB ga za))); replace xa := mk_ (Kd.R_elder' (by refine xr_ ?_; exact (Kd.rM_ (Kd.rF_ (p := ⟨ca, 2, none⟩) (Kd.rF_ (p := ⟨ca, 1, none⟩) (Kd.rF_ (p := ⟨ca, 0, none⟩) (Kd.R_types xa.out fa.out (by decide)) (fun _ hk => hk.2) (.slice ia ba.length ha)) (fun _ hk => hk.2) (.slice ka da.length ja)) (fun _ hk => hk.2) (.slice ra ea.length pa)) (fun _ h_ => h_.1))) (Kd.R_base ho0) hb); replace ya := mk_ (Kd.R_elder' (by refine xr_ ?_; exact (Kd.rM_ (Kd.rF_ (p := ⟨ca, 2, none⟩) (Kd.rF_ (p := ⟨ca, 1, none⟩) (Kd.rF_ (p := ⟨ca, 0, none⟩) (Kd.R_types ya.out fa.out (by decide)) (fun _ hk => hk.2) (.slice ia ba.length ha)) (fun _ hk => hk.2) (.slice ka da.length ja)) (fun _ hk => hk.2) (.slice ra ea.length pa)) (fun _ h_ => h_.1))) (Kd.R_base ho0) hb); replace aa := mk_ (kB_ (g := oa) (o := .cells #[.bool wa, .string va, .string ua] 32 (0, 0)) (by refine xk_ ?_; refine bf_ ?_ Aa.out _; refine xk_ ?_; refine bf_ ?_ Aa.out _; refine xk_ ?_; refine bf_ ?_ Aa.out _; refine xk_ ?_; exact aa.out) hb); replace fa := mk_ (kB_ (g := ca) (o := .cells #[.slice ia ba.length ha, .slice ka da.length ja, .slice ra ea.length pa] 56 (0, 0)) (by refine xk_ ?_; refine kQ_ (cs := #[.slice ia ba.length ha, .slice ka da.length ja, .slice none 0 0]) ?_ 2 _ rfl; refine kQ_ (cs := #[.slice ia ba.length ha, .slice none 0 0, .slice none 0 0]) ?_ 1 _ rfl; refine kQ_ (cs := #[.slice none 0 0, .slice none 0 0, .slice none 0 0]) ?_ 0 _ rfl; exact fa.out) hb); replace HB := mk_ (bT_ (xB2_ HB ga za) hb); obtain ⟨xb, yb, zb⟩ := Kd.rS_' qa.out; subst zb))
     go_loopg [52] k1 (fun kq v52 w' => ∃ (sa : List (S32)) (ma : Int), v52 = .int .i64 ma ∧ A0_ (marshal_Capacity.l1 kq sa la (la.length : Int) ma ba da ea = some (r1, r2, r3, r4)) ∧ A0_ (kq ≤ k1) ∧ A0_ (Kd.R k32 32 w' w.heap.size (fun k_ => some k_ ≠ ((.slice ia ba.length ha) : Value).ownBlock ∧ some k_ ≠ ((.slice ka da.length ja) : Value).ownBlock ∧ k_ ≠ oa) Ua sa) ∧ A0_ (Kd.R Kd.bool 4 w' w.heap.size (fun _ => True) (.slice xb la.length yb) la) ∧ A0_ (Kd.R k32 32 w' w.heap.size (fun k_ => some k_ ≠ (Ua : Value).ownBlock ∧ some k_ ≠ ((.slice ka da.length ja) : Value).ownBlock ∧ k_ ≠ oa) (.slice ia ba.length ha) ba) ∧ A0_ (Kd.R k32 32 w' w.heap.size (fun k_ => some k_ ≠ (Ua : Value).ownBlock ∧ some k_ ≠ ((.slice ia ba.length ha) : Value).ownBlock ∧ k_ ≠ oa) (.slice ka da.length ja) da) ∧ A0_ (Kd.R (Kd.int .u64) 59 w' w.heap.size (fun _ => True) (.slice ra ea.length pa) ea) ∧ A0_ (w'.heap[oa]? = some (.cells #[.bool wa, .string va, .string ua] 32 (0, 0))) ∧ A0_ (w'.heap[ca]? = some (.cells #[(.slice ia ba.length ha), (.slice ka da.length ja), (.slice ra ea.length pa)] 56 (0, 0))) ∧ A0_ (Below w.heap.size w w'))
     case atStart => exact ⟨(db), (0), (rS_), H', ⟨Nat.le_refl _⟩, ⟨by refine xr_ ?_; exact Kd.rM_ wb.out (fun _ hk => ⟨hk.1.1.2, ⟨hk.1.2, hk.2⟩⟩)⟩, ⟨by refine xr_ ?_; exact qa.out⟩, ⟨by refine xr_ ?_; exact Kd.rM_ xa.out (fun _ hk => ⟨hk.2, ⟨hk.1.1, hk.1.2⟩⟩)⟩, ⟨by refine xr_ ?_; exact Kd.rM_ ya.out (fun _ hk => ⟨hk.2, ⟨hk.1.1, hk.1.2⟩⟩)⟩, ⟨by refine xr_ ?_; exact Ba.out⟩, ⟨by refine xk_ ?_; exact aa.out⟩, ⟨by refine xk_ ?_; exact fa.out⟩, ⟨xB2_ HB ga za⟩⟩
     case round =>
      clear H'
      obtain ⟨sa, ma, rfl, HA, HK2, na, Ca, Da, Ea, Fa, aa, fa, HB⟩ := hrel
      cases gk with
      | zero => exact absurd HA.out (by simp [marshal_Capacity.l1])
      | succ k2 =>
       have H := HA.out
       clear HA
       simp only [marshal_Capacity.l1] at H
       replace H := iS_ H
       rcases H with ⟨c35, H⟩ | ⟨c35, H⟩
       ·have Ab := decide_eq_true c35
        clear c35
        replace H := iD_ H
        obtain ⟨cc, H⟩ := H
        replace H := iD_ H
        obtain ⟨dc, H⟩ := H
        obtain ⟨bq38, hbq38⟩ : ∃ b_ : Bool, b_ = (rdOf false la ma) := ⟨_, rfl⟩
        replace H : (if bq38 = true then ((marshal_network_add.f k2 ba da ea sa ma).bind fun La => (marshal_Capacity.l1 k2 La la (la.length : Int) (wrap64 (ma + 1)) ba da ea)) else (marshal_Capacity.l1 k2 sa la (la.length : Int) (wrap64 (ma + 1)) ba da ea)) = some (r1, r2, r3, r4) := by rw [← hbq38] at H; exact H
        have Nbq38 := mk_ hbq38
        clear hbq38
        replace H := iS_ H
        rcases H with ⟨c39, H⟩ | ⟨c39, H⟩
        ·subst c39
         replace H := oB_ H
         obtain ⟨La, A40, H⟩ := H
         (try dsimp only at H)
         have H' := mk_ H
         clear H
         have Ga : 0 ≤ (ma : Int) := oD_
         have Ha : ma < (la.length : Int) := oD_
         obtain ⟨Bb, Va, Wa⟩ := Kd.at_bool (Kd.rr_' Ca.out).2.2 ma Ga Ha
         (try rw [← Nbq38.out] at Wa)
         cases Va
         replace Ga := eq_true Ga
         replace Ha := eq_true Ha
         have hnb41 := Ta.out
         have hnc41 := Aa.out
         obtain ⟨ec, fc, gc, hc, ic, jc⟩ := kG3_ fa.out
         obtain ⟨Ja, Ka, Cb⟩ := Kd.rS_' na.out
         subst Cb
         go_wp2_with (first | ((with_reducible refine gC_ (f := 31) rfl ?_); refine gL_ (some 61) rfl rfl Tryd.func31 kr_ rfl #[.agg #[.slice ia ba.length ha, .slice ka da.length ja, .slice ra ea.length pa], .slice Ja sa.length Ka, .int .i64 ma] rfl mp_ ?_; (with_reducible refine (marshal_network_add.calls k2 _ _ ba _ _ da _ _ ea (fun k_ => some k_ = (.slice Ja sa.length Ka : Value).ownBlock) (.slice Ja sa.length Ka) sa ma La w _ ?side1 ?side2 ?side3 ?side4 ?side5 ?side6 ?side7 ?side8 A40.out).mono ?_); (case side1 => repeat (first | (with_reducible first | exact HB.out | apply bA_ | apply pB_ | apply b1_ | refine bS_ ?_ ga.out | refine bS_ ?_ za.out) | exact HB.out)); (case side2 => exact Kd.C_kept_own (Da.out) (fun k_ hk_ hs_ => (hk_.1) hs_)); (case side3 => exact (Kd.rr_' Da.out).2.1); (case side4 => exact Kd.C_kept_own (Ea.out) (fun k_ hk_ hs_ => (hk_.1) hs_)); (case side5 => exact (Kd.rr_' Ea.out).2.1); (case side6 => exact Kd.C_kept_own ((Kd.R_apart' Fa.out (Kd.R_typed na.out) (by decide))) (fun k_ hk_ hs_ => (hk_.2) hs_)); (case side7 => exact (Kd.rr_' Fa.out).2.1); (case side8 => exact Kd.R_tight rfl na.out); rintro e w44 ⟨rfl, hy0, hb, hkp⟩; refine ⟨_, rfl, ?_⟩; replace Ca := mk_ (Kd.rM_ (ok' := fun k_ => True) (Kd.R_keptB ((Kd.R_apart' Ca.out (Kd.R_typed na.out) (by decide))) hkp (fun k_ hk_ hs_ => (hk_.2) hs_)) (fun k_ hk_ => trivial)); replace Da := mk_ (Kd.rM_ (ok' := fun k_ => some k_ ≠ (.slice Ja sa.length Ka : Value).ownBlock ∧ some k_ ≠ (.slice ka da.length ja : Value).ownBlock ∧ k_ ≠ oa) (Kd.R_keptB (Da.out) hkp (fun k_ hk_ hs_ => (hk_.1) hs_)) (fun k_ hk_ => ⟨hk_.1.1, hk_.1.2.1, hk_.1.2.2⟩)); replace Ea := mk_ (Kd.rM_ (ok' := fun k_ => some k_ ≠ (.slice Ja sa.length Ka : Value).ownBlock ∧ some k_ ≠ (.slice ia ba.length ha : Value).ownBlock ∧ k_ ≠ oa) (Kd.R_keptB (Ea.out) hkp (fun k_ hk_ hs_ => (hk_.1) hs_)) (fun k_ hk_ => ⟨hk_.1.1, hk_.1.2.1, hk_.1.2.2⟩)); replace Fa := mk_ (Kd.rM_ (ok' := fun k_ => True) (Kd.R_keptB ((Kd.R_apart' Fa.out (Kd.R_typed na.out) (by decide))) hkp (fun k_ hk_ hs_ => (hk_.2) hs_)) (fun k_ hk_ => trivial)); replace aa := mk_ (blk_kept (xK_ aa.out) hkp (fun hs_ => (fun e_ => (Kd.R_away na.out (fun _ hk => hk.2.2)) e_) hs_)); replace fa := mk_ (blk_kept (xK_ fa.out) hkp (fun hs_ => (fun e_ => (Kd.R_ne na.out fa.out (by decide)) e_) hs_)); replace na := mk_ (Kd.R_reok rfl hy0 (fun k_ e_ => na.out.1 k_ e_)); replace HB := mk_ (hb)))
         (try simp only [ap_])
         go_roundg k2
         case measure => have := HK1.out; have := HK2.out; omega
         case rel => exact ⟨(La), (wrap64 (ma + 1)), (rS_), H', ⟨by have := HK1.out; have := HK2.out; omega⟩, ⟨by refine xr_ ?_; exact na.out⟩, ⟨by refine xr_ ?_; exact Ca.out⟩, ⟨by refine xr_ ?_; exact Da.out⟩, ⟨by refine xr_ ?_; exact Ea.out⟩, ⟨by refine xr_ ?_; exact Fa.out⟩, ⟨by refine xk_ ?_; exact aa.out⟩, ⟨by refine xk_ ?_; exact fa.out⟩, ⟨xB2_ HB ga za⟩⟩
        ·replace c39 := Bool.eq_false_iff.mpr c39
         subst c39
         have H' := mk_ H
         clear H
         have Ga : 0 ≤ (ma : Int) := oD_
         have Ha : ma < (la.length : Int) := oD_
         obtain ⟨Bb, Va, Wa⟩ := Kd.at_bool (Kd.rr_' Ca.out).2.2 ma Ga Ha
         (try rw [← Nbq38.out] at Wa)
         cases Va
         replace Ga := eq_true Ga
         replace Ha := eq_true Ha
         go_wp2
         (try simp only [ap_])
         go_roundg k2
         case measure => have := HK1.out; have := HK2.out; omega
         case rel => exact ⟨(sa), (wrap64 (ma + 1)), (rS_), H', ⟨by have := HK1.out; have := HK2.out; omega⟩, ⟨by refine xr_ ?_; exact na.out⟩, ⟨by refine xr_ ?_; exact Ca.out⟩, ⟨by refine xr_ ?_; exact Da.out⟩, ⟨by refine xr_ ?_; exact Ea.out⟩, ⟨by refine xr_ ?_; exact Fa.out⟩, ⟨by refine xk_ ?_; exact aa.out⟩, ⟨by refine xk_ ?_; exact fa.out⟩, ⟨xB2_ HB ga za⟩⟩
       ·have Ab := decide_eq_false c35
        clear c35
        replace H := oB_ H
        obtain ⟨⟨Ma, Xa, eb⟩, A45, H⟩ := H
        (try dsimp only at H)
        simp only [Option.some.injEq, Prod.mk.injEq] at H
        obtain ⟨rfl, rfl, rfl, rfl⟩ := H
        obtain ⟨Db, Eb, Fb⟩ := Kd.rS_' na.out
        subst Fb
        go_wp2_with (first | ((with_reducible refine gC_ (f := 32) rfl ?_); refine gL_ (some 64) rfl rfl Tryd.func32 kr_ rfl #[.slice Db sa.length Eb] rfl mp_ ?_; (with_reducible refine (marshal_least.calls k2 _ _ sa Ma Xa eb _ ?side1 ?side2 A45.out).mono ?_); (case side1 => repeat (first | exact (Kd.rr_' na.out).2.2 | (with_reducible refine Kd.C_alloc ?_ _) | (with_reducible refine Kd.C_drewN ?_ _) | (with_reducible refine Kd.C_drew ?_))); (case side2 => exact (Kd.rr_' na.out).2.1); rintro e w47 ⟨rfl, hb⟩; refine ⟨_, rfl, ?_⟩; replace na := mk_ (Kd.rB_ (xR_ na.out) hb); replace Ca := mk_ (Kd.rB_ (xR_ Ca.out) hb); replace Da := mk_ (Kd.rB_ (xR_ Da.out) hb); replace Ea := mk_ (Kd.rB_ (xR_ Ea.out) hb); replace Fa := mk_ (Kd.rB_ (xR_ Fa.out) hb); replace aa := mk_ (kB_ (xK_ aa.out) hb); replace fa := mk_ (kB_ (xK_ fa.out) hb); replace HB := mk_ (bT_ (xB2_ HB ga za) hb); have hnb48 := Aa.out; have hnc48 := Ta.out; obtain ⟨kc, lc, mc, nc, oc, pc⟩ := kG3_ aa.out))
        refine bodyPost_ret (results_ct rfl _ _ oa 32 #[.bool Ma, .string Xa, .string eb] (0, 0) _ rfl (by refine xk_ ?_; refine kQ_ (cs := #[.bool Ma, .string Xa, .string ua]) ?_ 2 _ rfl; refine kQ_ (cs := #[.bool Ma, .string va, .string ua]) ?_ 1 _ rfl; refine kQ_ (cs := #[.bool wa, .string va, .string ua]) ?_ 0 _ rfl; exact aa.out) Tryd.underlying32 rfl kr_) rfl ?_
        exact ⟨rE_, xB2_ HB ga za⟩
 ·have gb := beq_eq_false_iff_ne.mpr c5
  have ib := bne_iff_ne.mpr c5
  exact absurd H (by simp)
def insolvencylaw16_MarshalSubmodular.j0 : Nat → Bool → Bool → ByteArray → ByteArray → Bool → ByteArray → ByteArray → Bool → ByteArray → ByteArray → Bool → ByteArray → ByteArray → Option (Bool)
 | 0, _, _, _, _, _, _, _, _, _, _, _, _, _ => none
 | k + 1, x22, x936000, x936001, x936002, x947000, x947001, x947002, x955000, x955001, x955002, x966000, x966001, x966002 => (insolvencylaw16_awake.f k).bind fun t966 => (if t966 = true then (if x22 = true then ((q_Subtract.f k x947000 x947001 x947002 x936000 x936001 x936002).bind fun bt967 => ((q_Subtract.f k x966000 x966001 x966002 x955000 x955001 x955002).bind fun bt970 => ((q_Compare.f k bt967.1 bt967.2.1 bt967.2.2 bt970.1 bt970.2.1 bt970.2.2).bind fun t973 => (if t973 ≥ 0 then ((q_Compare.f k x936000 x936001 x936002 x955000 x955001 x955002).bind fun t974 => (some (decide (t974 ≤ 0)))) else (none))))) else (none)) else (none))
def insolvencylaw16_MarshalSubmodular.f (k : Nat) (l0 : List (S46)) (l1 : List Int) (a2 : Int) (a3 : Int) (a4 : Int) : Option (Bool) := (l0_Amounts.f k l1 6).bind fun t921 => (if (t921.length : Int) = 0 then ((insolvencylaw16_awake.f k).bind fun t924 => (some t924)) else ((l0_Items.f k l0 (t921.length : Int)).bind fun t925 => ((insolvencylaw16_set.f k a2 (t921.length : Int)).bind fun t928 => ((marshal_Capacity.f k t925 t921 t928).bind fun bt931 => ((insolvencylaw16_set.f k a2 (t921.length : Int)).bind fun t936 => (if t936.length < 17592186044416 then ((marshal_Capacity.f k t925 t921 (t936 ++ [Int.tmod (wrap64 (a4)) (t921.length : Int)])).bind fun bt942 => ((insolvencylaw16_set.f k (Go.bits .or .u8 a2 a3) (t921.length : Int)).bind fun t947 => ((marshal_Capacity.f k t925 t921 t947).bind fun bt950 => ((insolvencylaw16_set.f k (Go.bits .or .u8 a2 a3) (t921.length : Int)).bind fun t955 => (if t955.length < 17592186044416 then ((marshal_Capacity.f k t925 t921 (t955 ++ [Int.tmod (wrap64 (a4)) (t921.length : Int)])).bind fun bt961 => (if bt931.2.2.2 = 0 then (if bt942.2.2.2 = 0 then (if bt950.2.2.2 = 0 then (insolvencylaw16_MarshalSubmodular.j0 k (bt961.2.2.2 == 0) bt931.1 bt931.2.1 bt931.2.2.1 bt942.1 bt942.2.1 bt942.2.2.1 bt950.1 bt950.2.1 bt950.2.2.1 bt961.1 bt961.2.1 bt961.2.2.1) else (insolvencylaw16_MarshalSubmodular.j0 k false bt931.1 bt931.2.1 bt931.2.2.1 bt942.1 bt942.2.1 bt942.2.2.1 bt950.1 bt950.2.1 bt950.2.2.1 bt961.1 bt961.2.1 bt961.2.2.1)) else (insolvencylaw16_MarshalSubmodular.j0 k false bt931.1 bt931.2.1 bt931.2.2.1 bt942.1 bt942.2.1 bt942.2.2.1 bt950.1 bt950.2.1 bt950.2.2.1 bt961.1 bt961.2.1 bt961.2.2.1)) else (insolvencylaw16_MarshalSubmodular.j0 k false bt931.1 bt931.2.1 bt931.2.2.1 bt942.1 bt942.2.1 bt942.2.2.1 bt950.1 bt950.2.1 bt950.2.2.1 bt961.1 bt961.2.1 bt961.2.2.1))) else (none)))))) else (none)))))))
def insolvencylaw16_MarshalSubmodular.T11 : Bool × List (List Nat × List Nat) := (true, [([], []), ([0, 0], [0]), ([1], [1]), ([1, 2], [1, 2]), ([3, 1], [3]), ([4], [4]), ([4], [4]), ([5, 6, 4, 4], [4, 5, 6]), ([4], [4]), ([4], [4]), ([8, 9, 7, 4], [4, 8, 9]), ([7, 10, 10, 4], [4, 7, 10]), ([11, 4], [4, 11]), ([4, 12], [4, 12]), ([13, 11], [13]), ([14], [14]), ([14], [14]), ([15, 16, 14, 14], [14, 15, 16]), ([17, 14], [14, 17]), ([14, 18], [14, 18]), ([19, 17, 0, 1, 2, 3, 4, 5, 6, 7, 8, 9, 10, 11, 12, 13, 14, 15, 16, 17, 18, 19], [19])])
def insolvencylaw16_MarshalSubmodular.B11 : List Nat := [0, 1, 3, 7, 15, 31, 31, 127, 31, 31, 1023, 2047, 4095, 8191, 16383, 32767, 32767, 131071, 262143, 524287, 1048575]
theorem insolvencylaw16_MarshalSubmodular.tab11 : rtab .any (opsOf Tryd.f4 11) = insolvencylaw16_MarshalSubmodular.T11 := by kernel_rfl
theorem insolvencylaw16_MarshalSubmodular.bits11 : waitsOk insolvencylaw16_MarshalSubmodular.T11.2 insolvencylaw16_MarshalSubmodular.B11 = true := by kernel_rfl
theorem insolvencylaw16_MarshalSubmodular.calls (k : Nat) (A0 : Option Addr) (c0 : Nat) (l0 : List (S46)) (A1 : Option Addr) (c1 : Nat) (l1 : List Int) (a2 : Int) (a3 : Int) (a4 : Int) (r : Bool) (w : World) (hr0 : Kd.C k46 w A0 l0.length l0) (hc0 : l0.length ≤ c0) (hr1 : Kd.C (Kd.int .u16) w A1 l1.length l1) (hc1 : l1.length ≤ c1) (h : insolvencylaw16_MarshalSubmodular.f k l0 l1 a2 a3 a4 = some r) (hT : TzT w) :
  Calls Tryd.prog 4 #[.slice A0 l0.length c0, .slice A1 l1.length c1, .int .u8 a2, .int .u8 a3, .int .u8 a4] w fun e w' => e = .returned (.bool r) ∧ Below w.heap.size w w' := by
 have HT := mk_ hT
 clear hT
 have hu32 := Tryd.underlying32
 have HR0 := mk_ hr0
 have HC0 := mk_ hc0
 clear hr0 hc0
 have HR1 := mk_ hr1
 have HC1 := mk_ hc1
 clear hr1 hc1
 have HB := mk_ (Below.refl w.heap.size w)
 have H := h
 unfold insolvencylaw16_MarshalSubmodular.f at H
 clear h
 replace H := oB_ H
 obtain ⟨la, A6, H⟩ := H
 (try dsimp only at H)
 replace H := iS_ H
 rcases H with ⟨c7, H⟩ | ⟨c7, H⟩
 ·have Bb := beq_iff_eq.mpr c7
  have Cb := bne_eq_false_iff_eq.mpr c7
  clear c7
  replace H := oB_ H
  obtain ⟨Db, A8, H⟩ := H
  (try dsimp only at H)
  obtain rfl := Option.some.inj H
  go_enter Tryd.func4, Tryd.ntmps4
  go_wp2_with (first | ((with_reducible refine gC_ (f := 6) rfl ?_); refine gL_ (some 24) rfl rfl Tryd.func6 kr_ rfl #[.slice A1 l1.length c1, .int .i64 6] rfl mp_ ?_; (with_reducible refine (l0_Amounts.calls k _ _ l1 6 la _ (xC_ HR1.out) HC1.out A6.out).mono ?_); rintro e w9 ⟨Eb, rfl, ho0, hb⟩; refine ⟨_, rfl, ?_⟩; have da := mk_ (Kd.rL_ ho0 (bZ_ (xB_ HB))); replace HB := mk_ (bT_ (xB_ HB) hb); obtain ⟨kc, lc, Fb⟩ := Kd.rS_' da.out; subst Fb) | ((with_reducible refine gC_ (f := 12) rfl ?_); refine gL_ (some 28) rfl rfl Tryd.func12 kr_ rfl #[] rfl mp_ ?_; (with_reducible refine (insolvencylaw16_awake.calls k  Db _ A8.out (TzT.below HT.out (Nat.le_refl _) (xB_ HB))).mono ?_); rintro e w11 ⟨rfl, hb⟩; refine ⟨_, rfl, ?_⟩; replace da := mk_ (Kd.rB_ (xR_ da.out) hb); replace HB := mk_ (bT_ (xB_ HB) hb)))
  go_ret
  exact ⟨rE_, xB_ HB⟩
 ·have Bb := beq_eq_false_iff_ne.mpr c7
  have Cb := bne_iff_ne.mpr c7
  have mc : ¬ (la = []) := fun h_ => c7 (by rw [h_]; rfl)
  replace H := oB_ H
  obtain ⟨Fa, A12, H⟩ := H
  (try dsimp only at H)
  replace H := oB_ H
  obtain ⟨Ja, A13, H⟩ := H
  (try dsimp only at H)
  replace H := oB_ H
  obtain ⟨⟨ra, ta, va, Gb⟩, A14, H⟩ := H
  (try dsimp only at H)
  replace H := oB_ H
  obtain ⟨ib, A15, H⟩ := H
  (try dsimp only at H)
  replace H := iP_ H
  obtain ⟨c16, H⟩ := H
  have Hb := mk_ c16
  clear c16
  obtain ⟨Na, jb⟩ : ∃ y_ : List Int, y_ = (ib ++ [Int.tmod (wrap64 (a4)) (la.length : Int)]) := ⟨_, rfl⟩
  (first | rw [← jb] at H | skip); (try with_reducible replace H := (Option.bind_some _ _).symm.trans H); (try dsimp only at H)
  have Ib := mk_ jb
  clear jb
  replace H := oB_ H
  obtain ⟨⟨wa, xa, ya, Jb⟩, A17, H⟩ := H
  (try dsimp only at H)
  replace H := oB_ H
  obtain ⟨La, A18, H⟩ := H
  (try dsimp only at H)
  replace H := oB_ H
  obtain ⟨⟨pa, sa, ua, Kb⟩, A19, H⟩ := H
  (try dsimp only at H)
  replace H := oB_ H
  obtain ⟨kb, A20, H⟩ := H
  (try dsimp only at H)
  replace H := iP_ H
  obtain ⟨c21, H⟩ := H
  have Lb := mk_ c21
  clear c21
  obtain ⟨vb, mb⟩ : ∃ y_ : List Int, y_ = (kb ++ [Int.tmod (wrap64 (a4)) (la.length : Int)]) := ⟨_, rfl⟩
  (first | rw [← mb] at H | skip); (try with_reducible replace H := (Option.bind_some _ _).symm.trans H); (try dsimp only at H)
  have Mb := mk_ mb
  clear mb
  replace H := oB_ H
  obtain ⟨⟨za, Ea, Ma, wb⟩, A22, H⟩ := H
  (try dsimp only at H)
  have HC23 := mk_ H
  clear H
  go_enter Tryd.func4, Tryd.ntmps4
  go_upto_region 10 with (first | ((with_reducible refine gC_ (f := 6) rfl ?_); refine gL_ (some 24) rfl rfl Tryd.func6 kr_ rfl #[.slice A1 l1.length c1, .int .i64 6] rfl mp_ ?_; (with_reducible refine (l0_Amounts.calls k _ _ l1 6 la _ ?side1 ?side2 A6.out).mono ?_); (case side1 => repeat (first | exact HR1.out | (with_reducible refine Kd.C_alloc ?_ _) | (with_reducible refine Kd.C_drewN ?_ _) | (with_reducible refine Kd.C_drew ?_))); (case side2 => exact HC1.out); rintro e w24 ⟨Eb, rfl, ho0, hb⟩; refine ⟨_, rfl, ?_⟩; have n0_ := mk_ (Kd.rL_ ho0 (bZ_ (xB_ HB))); have n1_ := mk_ (bT_ (xB_ HB) hb); clear HB; have da := n0_; have HB := n1_; clear n0_ n1_; (try clear hb); (try clear hb2); (try clear hk); (try clear hi); (try clear ho0); obtain ⟨Wa, Xa, Nb⟩ := Kd.rS_' da.out; subst Nb) | ((with_reducible refine gC_ (f := 7) rfl ?_); refine gL_ (some 32) rfl rfl Tryd.func7 kr_ rfl #[.slice A0 l0.length c0, .int .i64 (la.length : Int)] rfl mp_ ?_; (with_reducible refine (l0_Items.calls k _ _ l0 (la.length : Int) Fa _ ?side1 ?side2 A12.out).mono ?_); (case side1 => repeat (first | exact (Kd.C_below HR0.out HB.out) | (with_reducible refine Kd.C_alloc ?_ _) | (with_reducible refine Kd.C_drewN ?_ _) | (with_reducible refine Kd.C_drew ?_))); (case side2 => exact HC0.out); rintro e w26 ⟨nc, rfl, ho0, hb⟩; refine ⟨_, rfl, ?_⟩; have n0_ := mk_ (Kd.rB_ (xR_ da.out) hb); have n1_ := mk_ (Kd.S_lower ho0 (bZ_ (xB_ HB))); have n2_ := mk_ (bT_ (xB_ HB) hb); clear da HB; have da := n0_; have ea := n1_; have HB := n2_; clear n0_ n1_ n2_; (try clear hb); (try clear hb2); (try clear hk); (try clear hi); (try clear ho0)) | ((with_reducible refine gC_ (f := 14) rfl ?_); refine gL_ (some 44) rfl rfl Tryd.func14 kr_ rfl #[.int .u8 a2, .int .i64 (la.length : Int)] rfl mp_ ?_; (with_reducible refine (insolvencylaw16_set.calls k a2 (la.length : Int) Ja _ A13.out).mono ?_); rintro e w27 ⟨oc, rfl, ho0, hb⟩; refine ⟨_, rfl, ?_⟩; have n0_ := mk_ (Kd.rB_ (xR_ da.out) hb); have n1_ := mk_ (Kd.S_below (by refine xs_ ?_; exact ea.out) hb); have n2_ := mk_ (Kd.rL_ ho0 (bZ_ (xB_ HB))); have n3_ := mk_ (bT_ (xB_ HB) hb); clear da ea HB; have da := n0_; have ea := n1_; have fa := n2_; have HB := n3_; clear n0_ n1_ n2_ n3_; (try clear hb); (try clear hb2); (try clear hk); (try clear hi); (try clear ho0); obtain ⟨Ya, Za, Ob⟩ := Kd.S_slice ea.out; subst Ob; obtain ⟨Oa, Pa, Pb⟩ := Kd.rS_' fa.out; subst Pb) | ((with_reducible refine gC_ (f := 13) rfl ?_); refine gL_ (some 45) rfl rfl Tryd.func13 kr_ rfl #[.slice Ya Fa.length Za, .slice Wa la.length Xa, .slice Oa Ja.length Pa] rfl mp_ ?_; (with_reducible refine (marshal_Capacity.calls k _ _ Fa _ _ la _ _ Ja ra ta va Gb _ ?side1 ?side2 ?side3 ?side4 ?side5 ?side6 A14.out (TzT.below HT.out (Nat.le_refl _) (xB_ HB))).mono ?_); (case side1 => repeat (first | exact (Kd.S_reads' ea.out).2.2 | (with_reducible refine Kd.C_alloc ?_ _) | (with_reducible refine Kd.C_drewN ?_ _) | (with_reducible refine Kd.C_drew ?_))); (case side2 => exact (Kd.S_reads' ea.out).2.1); (case side3 => repeat (first | exact (Kd.rr_' da.out).2.2 | (with_reducible refine Kd.C_alloc ?_ _) | (with_reducible refine Kd.C_drewN ?_ _) | (with_reducible refine Kd.C_drew ?_))); (case side4 => exact (Kd.rr_' da.out).2.1); (case side5 => repeat (first | exact (Kd.rr_' fa.out).2.2 | (with_reducible refine Kd.C_alloc ?_ _) | (with_reducible refine Kd.C_drewN ?_ _) | (with_reducible refine Kd.C_drew ?_))); (case side6 => exact (Kd.rr_' fa.out).2.1); rintro e w30 ⟨rfl, hb⟩; refine ⟨_, rfl, ?_⟩; have n0_ := mk_ (Kd.rB_ (xR_ da.out) hb); have n1_ := mk_ (Kd.S_below (by refine xs_ ?_; exact ea.out) hb); have n2_ := mk_ (Kd.rB_ (xR_ fa.out) hb); have n3_ := mk_ (bT_ (xB_ HB) hb); clear da ea fa HB; have da := n0_; have ea := n1_; have fa := n2_; have HB := n3_; clear n0_ n1_ n2_ n3_; (try clear hb); (try clear hb2); (try clear hk); (try clear hi)) | ((with_reducible refine gD_ (N := 14) rfl ?_); refine bE_ ?hg (N := 14) ?hd (cs := zC_) (t := 32) ?hr ?_; (case hd => rfl); (case hg => rfl); (case hr => first | (go_simp; done) | (go_simp; rfl)); intro na hg w31 hbox hb; have n0_ := mk_ (Kd.rB_ (Kd.R_elderB (xR_ da.out) na (Nat.le_of_eq hg.symm)) hb); have n1_ := mk_ (Kd.S_below (by refine xs_ ?_; exact ea.out) hb); have n2_ := mk_ (Kd.rB_ (xR_ fa.out) hb); have n3_ := mk_ (bT_ (xB_ HB) hb); have n4_ := mk_ (hbox); have n5_ := mk_ (gZ_ hg (bZ_ (xB_ HB))); have n6_ := mk_ (gZ_ hg (bZ_ (xB_ HB))); clear da ea fa HB; have da := n0_; have ea := n1_; have fa := n2_; have HB := n3_; have aa := n4_; have pc := n5_; have ha := n6_; clear n0_ n1_ n2_ n3_ n4_ n5_ n6_; clear hb hbox hg; have qc : w31.cell? ⟨na, 0, none⟩ = some (.bool false) := (kc_ aa.out 0).trans rfl; have rc : w31.cell? ⟨na, 1, none⟩ = some (.string (⟨#[]⟩ : ByteArray)) := (kc_ aa.out 1).trans rfl; have sc : w31.cell? ⟨na, 2, none⟩ = some (.string (⟨#[]⟩ : ByteArray)) := (kc_ aa.out 2).trans rfl; have tc := kF_ aa.out 0; have uc := kF_ aa.out 1; have vc := kF_ aa.out 2) | ((with_reducible refine gC_ (f := 14) rfl ?_); refine gL_ (some 54) rfl rfl Tryd.func14 kr_ rfl #[.int .u8 a2, .int .i64 (la.length : Int)] rfl mp_ ?_; (with_reducible refine (insolvencylaw16_set.calls k a2 (la.length : Int) ib _ A15.out).mono ?_); rintro e w33 ⟨Qb, rfl, ho0, hb⟩; refine ⟨_, rfl, ?_⟩; have n0_ := mk_ (Kd.rB_ (by refine xr_ ?_; exact (Kd.rM_ (Kd.rF_ (p := ⟨na, 2, none⟩) (Kd.rF_ (p := ⟨na, 1, none⟩) (Kd.rF_ (p := ⟨na, 0, none⟩) (Kd.rM_ da.out (fun k_ hk => (⟨hk, hk.2⟩ : _ ∧ k_ ≠ na))) (fun _ hk => hk.2) (.bool ra)) (fun _ hk => hk.2) (.string ta)) (fun _ hk => hk.2) (.string va)) (fun _ h_ => h_.1))) hb); have n1_ := mk_ (Kd.S_below (by refine xs_ ?_; exact (Kd.S_mono (Kd.S_far (p := ⟨na, 2, none⟩) (Kd.S_far (p := ⟨na, 1, none⟩) (Kd.S_far (p := ⟨na, 0, none⟩) (Kd.S_types ea.out aa.out (by decide)) (fun _ hk => hk.2) (.bool ra)) (fun _ hk => hk.2) (.string ta)) (fun _ hk => hk.2) (.string va)) (fun _ h_ => h_.1))) hb); have n2_ := mk_ (Kd.R_elder' (by refine xr_ ?_; exact (Kd.rM_ (Kd.rF_ (p := ⟨na, 2, none⟩) (Kd.rF_ (p := ⟨na, 1, none⟩) (Kd.rF_ (p := ⟨na, 0, none⟩) (Kd.R_types fa.out aa.out (by decide)) (fun _ hk => hk.2) (.bool ra)) (fun _ hk => hk.2) (.string ta)) (fun _ hk => hk.2) (.string va)) (fun _ h_ => h_.1))) (Kd.R_base ho0) hb); have n3_ := mk_ (Kd.rL_ (Kd.R_new' ho0 (Kd.R_lt (by refine xr_ ?_; exact (Kd.rM_ (Kd.rF_ (p := ⟨na, 2, none⟩) (Kd.rF_ (p := ⟨na, 1, none⟩) (Kd.rF_ (p := ⟨na, 0, none⟩) (Kd.R_types fa.out aa.out (by decide)) (fun _ hk => hk.2) (.bool ra)) (fun _ hk => hk.2) (.string ta)) (fun _ hk => hk.2) (.string va)) (fun _ h_ => h_.1))))) (bZ_ (xB1_ HB ha))); have n4_ := mk_ (kB_ (g := na) (o := .cells #[.bool ra, .string ta, .string va] 32 (0, 0)) (by refine xk_ ?_; refine kQ_ (cs := #[.bool ra, .string ta, .string (⟨#[]⟩ : ByteArray)]) ?_ 2 _ rfl; refine kQ_ (cs := #[.bool ra, .string (⟨#[]⟩ : ByteArray), .string (⟨#[]⟩ : ByteArray)]) ?_ 1 _ rfl; refine kQ_ (cs := zC_) ?_ 0 _ rfl; exact aa.out) hb); have n5_ := mk_ (bT_ (xB1_ HB ha) hb); clear da ea fa aa HB; have da := n0_; have ea := n1_; have fa := n2_; have Qa := n3_; have aa := n4_; have HB := n5_; clear n0_ n1_ n2_ n3_ n4_ n5_; (try clear hb); (try clear hb2); (try clear hk); (try clear hi); (try clear ho0)) | ((with_reducible refine gate_builtin (b := .append) (xs := #[.tmp 54, .tmp 56]) rfl ?_); at_builtin; refine Kd.R_append (Kd.int .i64) (w0 := w) w.heap.size rfl (.tmp 54) (.tmp 56) 39 3 (.int .i64 0) 8 rfl Tryd.underlying39 info3 rfl (by decide) (by omega) Qb ib (Int.tmod (wrap64 (a4)) (la.length : Int)) [.int .i64 (Int.tmod (wrap64 (a4)) (la.length : Int))] (fun k_ => some k_ ≠ (.slice Oa Ja.length Pa : Value).ownBlock) (fun _ => False) rfl rfl ?aP (fun _ hk => hk.elim) ?aF ?aO ?aB ?aS ?aL ?_; (case aP => exact rfl); (case aB => exact (xB1_ HB ha)); (case aF => exact (fun k_ hk => Kd.fresh' (Kd.R_lt (xR_ fa.out)) k_ hk)); (case aO => exact (by refine xr_ ?_; exact Kd.rM_ Qa.out (fun _ hk => hk.2))); (case aS => exact (bZ_ (xB1_ HB ha))); (case aL => have := Hb.out; omega); intro xc w34 ho hb hg hat; rw [← Ib.out] at ho; have n0_ := mk_ (Kd.R_over' (xR_ da.out) (Kd.R_typed (xR_ Qa.out)) (by decide) hg); have n1_ := mk_ (Kd.S_over' (by refine xs_ ?_; exact ea.out) (Kd.R_typed (xR_ Qa.out)) (by decide) hg); have n2_ := mk_ (Kd.R_after (ok := (fun _ => True)) (xR_ fa.out) hg hat); have n3_ := mk_ (blk_grown (g := na) (o := .cells #[.bool ra, .string ta, .string va] 32 (0, 0)) (xK_ aa.out) hg (Kd.R_ne Qa.out aa.out (by decide))); have n4_ := mk_ (hb); have n5_ := mk_ (ho); clear da ea fa aa HB Qa; have da := n0_; have ea := n1_; have fa := n2_; have aa := n3_; have HB := n4_; have ja := n5_; clear n0_ n1_ n2_ n3_ n4_ n5_; clear ho hb hg hat; obtain ⟨ab, bb, Rb⟩ := Kd.rS_' ja.out; subst Rb) | ((with_reducible refine gC_ (f := 13) rfl ?_); refine gL_ (some 58) rfl rfl Tryd.func13 kr_ rfl #[.slice Ya Fa.length Za, .slice Wa la.length Xa, .slice ab Na.length bb] rfl mp_ ?_; (with_reducible refine (marshal_Capacity.calls k _ _ Fa _ _ la _ _ Na wa xa ya Jb _ ?side1 ?side2 ?side3 ?side4 ?side5 ?side6 A17.out (TzT.below HT.out (Nat.le_refl _) (xB1_ HB ha))).mono ?_); (case side1 => repeat (first | exact (Kd.S_reads' ea.out).2.2 | (with_reducible refine Kd.C_alloc ?_ _) | (with_reducible refine Kd.C_drewN ?_ _) | (with_reducible refine Kd.C_drew ?_))); (case side2 => exact (Kd.S_reads' ea.out).2.1); (case side3 => repeat (first | exact (Kd.rr_' da.out).2.2 | (with_reducible refine Kd.C_alloc ?_ _) | (with_reducible refine Kd.C_drewN ?_ _) | (with_reducible refine Kd.C_drew ?_))); (case side4 => exact (Kd.rr_' da.out).2.1); (case side5 => repeat (first | exact (Kd.rr_' ja.out).2.2 | (with_reducible refine Kd.C_alloc ?_ _) | (with_reducible refine Kd.C_drewN ?_ _) | (with_reducible refine Kd.C_drew ?_))); (case side6 => exact (Kd.rr_' ja.out).2.1); rintro e w36 ⟨rfl, hb⟩; refine ⟨_, rfl, ?_⟩; have n0_ := mk_ (Kd.rB_ (xR_ da.out) hb); have n1_ := mk_ (Kd.S_below (by refine xs_ ?_; exact ea.out) hb); have n2_ := mk_ (Kd.rB_ (xR_ fa.out) hb); have n3_ := mk_ (Kd.rB_ (xR_ ja.out) hb); have n4_ := mk_ (kB_ (xK_ aa.out) hb); have n5_ := mk_ (bT_ (xB1_ HB ha) hb); clear da ea fa ja aa HB; have da := n0_; have ea := n1_; have fa := n2_; have ja := n3_; have aa := n4_; have HB := n5_; clear n0_ n1_ n2_ n3_ n4_ n5_; (try clear hb); (try clear hb2); (try clear hk); (try clear hi)) | ((with_reducible refine gD_ (N := 16) rfl ?_); refine bE_ ?hg (N := 16) ?hd (cs := zC_) (t := 32) ?hr ?_; (case hd => rfl); (case hg => rfl); (case hr => first | (go_simp; done) | (go_simp; rfl)); intro ka hg w37 hbox hb; have n0_ := mk_ (Kd.rB_ (Kd.R_elderB (xR_ da.out) ka (Nat.le_of_eq hg.symm)) hb); have n1_ := mk_ (Kd.S_below (by refine xs_ ?_; exact ea.out) hb); have n2_ := mk_ (Kd.rB_ (xR_ fa.out) hb); have n3_ := mk_ (Kd.rB_ (xR_ ja.out) hb); have n4_ := mk_ (kB_ (xK_ aa.out) hb); have n5_ := mk_ (bT_ (xB1_ HB ha) hb); have n6_ := mk_ (hbox); have n7_ := mk_ (gZ_ hg (bZ_ (xB1_ HB ha))); have n8_ := mk_ (gZ_ hg (bZ_ (xB1_ HB ha))); have n9_ := mk_ (gN_ hg (xK_ aa.out)); have Ha := mk_ (gM_ hg (xK_ aa.out)); clear da ea fa ja aa HB; have da := n0_; have ea := n1_; have fa := n2_; have ja := n3_; have aa := n4_; have HB := n5_; have ba := n6_; have yc := n7_; have ma := n8_; have cb := n9_; have Sb := Ha; clear n0_ n1_ n2_ n3_ n4_ n5_ n6_ n7_ n8_ n9_ Ha; clear hb hbox hg; have hnb38 := Sb.out; have hnc38 := cb.out; have zc : w37.cell? ⟨ka, 0, none⟩ = some (.bool false) := (kc_ ba.out 0).trans rfl; have Ac : w37.cell? ⟨ka, 1, none⟩ = some (.string (⟨#[]⟩ : ByteArray)) := (kc_ ba.out 1).trans rfl; have Bc : w37.cell? ⟨ka, 2, none⟩ = some (.string (⟨#[]⟩ : ByteArray)) := (kc_ ba.out 2).trans rfl; have Cc := kF_ ba.out 0; have Dc := kF_ ba.out 1; have Ec := kF_ ba.out 2) | ((with_reducible refine gC_ (f := 14) rfl ?_); refine gL_ (some 69) rfl rfl Tryd.func14 kr_ rfl #[.int .u8 (Go.bits .or .u8 a2 a3), .int .i64 (la.length : Int)] rfl mp_ ?_; (with_reducible refine (insolvencylaw16_set.calls k (Go.bits .or .u8 a2 a3) (la.length : Int) La _ A18.out).mono ?_); rintro e w40 ⟨Fc, rfl, ho0, hb⟩; refine ⟨_, rfl, ?_⟩; have n0_ := mk_ (Kd.rB_ (by refine xr_ ?_; exact (Kd.rM_ (Kd.rF_ (p := ⟨ka, 2, none⟩) (Kd.rF_ (p := ⟨ka, 1, none⟩) (Kd.rF_ (p := ⟨ka, 0, none⟩) (Kd.rM_ da.out (fun k_ hk => (⟨hk, hk.2⟩ : _ ∧ k_ ≠ ka))) (fun _ hk => hk.2) (.bool wa)) (fun _ hk => hk.2) (.string xa)) (fun _ hk => hk.2) (.string ya)) (fun _ h_ => h_.1))) hb); have n1_ := mk_ (Kd.S_below (by refine xs_ ?_; exact (Kd.S_mono (Kd.S_far (p := ⟨ka, 2, none⟩) (Kd.S_far (p := ⟨ka, 1, none⟩) (Kd.S_far (p := ⟨ka, 0, none⟩) (Kd.S_types ea.out ba.out (by decide)) (fun _ hk => hk.2) (.bool wa)) (fun _ hk => hk.2) (.string xa)) (fun _ hk => hk.2) (.string ya)) (fun _ h_ => h_.1))) hb); have n2_ := mk_ (Kd.R_elder' (by refine xr_ ?_; exact (Kd.rM_ (Kd.rF_ (p := ⟨ka, 2, none⟩) (Kd.rF_ (p := ⟨ka, 1, none⟩) (Kd.rF_ (p := ⟨ka, 0, none⟩) (Kd.R_types fa.out ba.out (by decide)) (fun _ hk => hk.2) (.bool wa)) (fun _ hk => hk.2) (.string xa)) (fun _ hk => hk.2) (.string ya)) (fun _ h_ => h_.1))) (Kd.R_base ho0) hb); have n3_ := mk_ (Kd.R_elder' (by refine xr_ ?_; exact (Kd.rM_ (Kd.rF_ (p := ⟨ka, 2, none⟩) (Kd.rF_ (p := ⟨ka, 1, none⟩) (Kd.rF_ (p := ⟨ka, 0, none⟩) (Kd.R_types ja.out ba.out (by decide)) (fun _ hk => hk.2) (.bool wa)) (fun _ hk => hk.2) (.string xa)) (fun _ hk => hk.2) (.string ya)) (fun _ h_ => h_.1))) (Kd.R_base ho0) hb); have n4_ := mk_ (Kd.rL_ (Kd.R_new' (Kd.R_new' ho0 (Kd.R_lt (by refine xr_ ?_; exact (Kd.rM_ (Kd.rF_ (p := ⟨ka, 2, none⟩) (Kd.rF_ (p := ⟨ka, 1, none⟩) (Kd.rF_ (p := ⟨ka, 0, none⟩) (Kd.R_types fa.out ba.out (by decide)) (fun _ hk => hk.2) (.bool wa)) (fun _ hk => hk.2) (.string xa)) (fun _ hk => hk.2) (.string ya)) (fun _ h_ => h_.1))))) (Kd.R_lt (by refine xr_ ?_; exact (Kd.rM_ (Kd.rF_ (p := ⟨ka, 2, none⟩) (Kd.rF_ (p := ⟨ka, 1, none⟩) (Kd.rF_ (p := ⟨ka, 0, none⟩) (Kd.R_types ja.out ba.out (by decide)) (fun _ hk => hk.2) (.bool wa)) (fun _ hk => hk.2) (.string xa)) (fun _ hk => hk.2) (.string ya)) (fun _ h_ => h_.1))))) (bZ_ (xB2_ HB ha ma))); have n5_ := mk_ (kB_ (g := na) (o := .cells #[.bool ra, .string ta, .string va] 32 (0, 0)) (by refine xk_ ?_; refine bf_ ?_ cb.out _; refine xk_ ?_; refine bf_ ?_ cb.out _; refine xk_ ?_; refine bf_ ?_ cb.out _; refine xk_ ?_; exact aa.out) hb); have n6_ := mk_ (kB_ (g := ka) (o := .cells #[.bool wa, .string xa, .string ya] 32 (0, 0)) (by refine xk_ ?_; refine kQ_ (cs := #[.bool wa, .string xa, .string (⟨#[]⟩ : ByteArray)]) ?_ 2 _ rfl; refine kQ_ (cs := #[.bool wa, .string (⟨#[]⟩ : ByteArray), .string (⟨#[]⟩ : ByteArray)]) ?_ 1 _ rfl; refine kQ_ (cs := zC_) ?_ 0 _ rfl; exact ba.out) hb); have n7_ := mk_ (bT_ (xB2_ HB ha ma) hb); clear da ea fa ja aa ba HB; have da := n0_; have ea := n1_; have fa := n2_; have ja := n3_; have oa := n4_; have aa := n5_; have ba := n6_; have HB := n7_; clear n0_ n1_ n2_ n3_ n4_ n5_ n6_ n7_; (try clear hb); (try clear hb2); (try clear hk); (try clear hi); (try clear ho0); obtain ⟨db, eb, Tb⟩ := Kd.rS_' oa.out; subst Tb) | ((with_reducible refine gC_ (f := 13) rfl ?_); refine gL_ (some 70) rfl rfl Tryd.func13 kr_ rfl #[.slice Ya Fa.length Za, .slice Wa la.length Xa, .slice db La.length eb] rfl mp_ ?_; (with_reducible refine (marshal_Capacity.calls k _ _ Fa _ _ la _ _ La pa sa ua Kb _ ?side1 ?side2 ?side3 ?side4 ?side5 ?side6 A19.out (TzT.below HT.out (Nat.le_refl _) (xB2_ HB ha ma))).mono ?_); (case side1 => repeat (first | exact (Kd.S_reads' ea.out).2.2 | (with_reducible refine Kd.C_alloc ?_ _) | (with_reducible refine Kd.C_drewN ?_ _) | (with_reducible refine Kd.C_drew ?_))); (case side2 => exact (Kd.S_reads' ea.out).2.1); (case side3 => repeat (first | exact (Kd.rr_' da.out).2.2 | (with_reducible refine Kd.C_alloc ?_ _) | (with_reducible refine Kd.C_drewN ?_ _) | (with_reducible refine Kd.C_drew ?_))); (case side4 => exact (Kd.rr_' da.out).2.1); (case side5 => repeat (first | exact (Kd.rr_' oa.out).2.2 | (with_reducible refine Kd.C_alloc ?_ _) | (with_reducible refine Kd.C_drewN ?_ _) | (with_reducible refine Kd.C_drew ?_))); (case side6 => exact (Kd.rr_' oa.out).2.1); rintro e w42 ⟨rfl, hb⟩; refine ⟨_, rfl, ?_⟩; have n0_ := mk_ (Kd.rB_ (xR_ da.out) hb); have n1_ := mk_ (Kd.S_below (by refine xs_ ?_; exact ea.out) hb); have n2_ := mk_ (Kd.rB_ (xR_ fa.out) hb); have n3_ := mk_ (Kd.rB_ (xR_ ja.out) hb); have n4_ := mk_ (Kd.rB_ (xR_ oa.out) hb); have n5_ := mk_ (kB_ (xK_ aa.out) hb); have n6_ := mk_ (kB_ (xK_ ba.out) hb); have n7_ := mk_ (bT_ (xB2_ HB ha ma) hb); clear da ea fa ja oa aa ba HB; have da := n0_; have ea := n1_; have fa := n2_; have ja := n3_; have oa := n4_; have aa := n5_; have ba := n6_; have HB := n7_; clear n0_ n1_ n2_ n3_ n4_ n5_ n6_ n7_; (try clear hb); (try clear hb2); (try clear hk); (try clear hi)) | ((with_reducible refine gD_ (N := 18) rfl ?_); refine bE_ ?hg (N := 18) ?hd (cs := zC_) (t := 32) ?hr ?_; (case hd => rfl); (case hg => rfl); (case hr => first | (go_simp; done) | (go_simp; rfl)); intro ia hg w43 hbox hb; have n0_ := mk_ (Kd.rB_ (Kd.R_elderB (xR_ da.out) ia (Nat.le_of_eq hg.symm)) hb); have n1_ := mk_ (Kd.S_below (by refine xs_ ?_; exact ea.out) hb); have n2_ := mk_ (Kd.rB_ (xR_ fa.out) hb); have n3_ := mk_ (Kd.rB_ (xR_ ja.out) hb); have n4_ := mk_ (Kd.rB_ (xR_ oa.out) hb); have n5_ := mk_ (kB_ (xK_ aa.out) hb); have n6_ := mk_ (kB_ (xK_ ba.out) hb); have n7_ := mk_ (bT_ (xB2_ HB ha ma) hb); have n8_ := mk_ (hbox); have n9_ := mk_ (gZ_ hg (bZ_ (xB2_ HB ha ma))); have Ha := mk_ (gZ_ hg (bZ_ (xB2_ HB ha ma))); have Ra := mk_ (gN_ hg (xK_ aa.out)); have Sa := mk_ (gM_ hg (xK_ aa.out)); have Ta := mk_ (gN_ hg (xK_ ba.out)); have Ua := mk_ (gM_ hg (xK_ ba.out)); clear da ea fa ja oa aa ba HB; have da := n0_; have ea := n1_; have fa := n2_; have ja := n3_; have oa := n4_; have aa := n5_; have ba := n6_; have HB := n7_; have ca := n8_; have Gc := n9_; have qa := Ha; have fb := Ra; have Ub := Sa; have gb := Ta; have Vb := Ua; clear n0_ n1_ n2_ n3_ n4_ n5_ n6_ n7_ n8_ n9_ Ha Ra Sa Ta Ua; clear hb hbox hg; have hnb44 := Ub.out; have hnc44 := fb.out; have hnb45 := Vb.out; have hnc45 := gb.out; have Hc : w43.cell? ⟨ia, 0, none⟩ = some (.bool false) := (kc_ ca.out 0).trans rfl; have Ic : w43.cell? ⟨ia, 1, none⟩ = some (.string (⟨#[]⟩ : ByteArray)) := (kc_ ca.out 1).trans rfl; have Jc : w43.cell? ⟨ia, 2, none⟩ = some (.string (⟨#[]⟩ : ByteArray)) := (kc_ ca.out 2).trans rfl; have Kc := kF_ ca.out 0; have Lc := kF_ ca.out 1; have Mc := kF_ ca.out 2) | ((with_reducible refine gC_ (f := 14) rfl ?_); refine gL_ (some 81) rfl rfl Tryd.func14 kr_ rfl #[.int .u8 (Go.bits .or .u8 a2 a3), .int .i64 (la.length : Int)] rfl mp_ ?_; (with_reducible refine (insolvencylaw16_set.calls k (Go.bits .or .u8 a2 a3) (la.length : Int) kb _ A20.out).mono ?_); rintro e w47 ⟨Wb, rfl, ho0, hb⟩; refine ⟨_, rfl, ?_⟩; have n0_ := mk_ (Kd.rB_ (by refine xr_ ?_; exact (Kd.rM_ (Kd.rF_ (p := ⟨ia, 2, none⟩) (Kd.rF_ (p := ⟨ia, 1, none⟩) (Kd.rF_ (p := ⟨ia, 0, none⟩) (Kd.rM_ da.out (fun k_ hk => (⟨hk, hk.2⟩ : _ ∧ k_ ≠ ia))) (fun _ hk => hk.2) (.bool pa)) (fun _ hk => hk.2) (.string sa)) (fun _ hk => hk.2) (.string ua)) (fun _ h_ => h_.1))) hb); have n1_ := mk_ (Kd.S_below (by refine xs_ ?_; exact (Kd.S_mono (Kd.S_far (p := ⟨ia, 2, none⟩) (Kd.S_far (p := ⟨ia, 1, none⟩) (Kd.S_far (p := ⟨ia, 0, none⟩) (Kd.S_types ea.out ca.out (by decide)) (fun _ hk => hk.2) (.bool pa)) (fun _ hk => hk.2) (.string sa)) (fun _ hk => hk.2) (.string ua)) (fun _ h_ => h_.1))) hb); have n2_ := mk_ (Kd.R_elder' (by refine xr_ ?_; exact (Kd.rM_ (Kd.rF_ (p := ⟨ia, 2, none⟩) (Kd.rF_ (p := ⟨ia, 1, none⟩) (Kd.rF_ (p := ⟨ia, 0, none⟩) (Kd.R_types fa.out ca.out (by decide)) (fun _ hk => hk.2) (.bool pa)) (fun _ hk => hk.2) (.string sa)) (fun _ hk => hk.2) (.string ua)) (fun _ h_ => h_.1))) (Kd.R_base ho0) hb); have n3_ := mk_ (Kd.R_elder' (by refine xr_ ?_; exact (Kd.rM_ (Kd.rF_ (p := ⟨ia, 2, none⟩) (Kd.rF_ (p := ⟨ia, 1, none⟩) (Kd.rF_ (p := ⟨ia, 0, none⟩) (Kd.R_types ja.out ca.out (by decide)) (fun _ hk => hk.2) (.bool pa)) (fun _ hk => hk.2) (.string sa)) (fun _ hk => hk.2) (.string ua)) (fun _ h_ => h_.1))) (Kd.R_base ho0) hb); have n4_ := mk_ (Kd.R_elder' (by refine xr_ ?_; exact (Kd.rM_ (Kd.rF_ (p := ⟨ia, 2, none⟩) (Kd.rF_ (p := ⟨ia, 1, none⟩) (Kd.rF_ (p := ⟨ia, 0, none⟩) (Kd.R_types oa.out ca.out (by decide)) (fun _ hk => hk.2) (.bool pa)) (fun _ hk => hk.2) (.string sa)) (fun _ hk => hk.2) (.string ua)) (fun _ h_ => h_.1))) (Kd.R_base ho0) hb); have n5_ := mk_ (Kd.rL_ (Kd.R_new' (Kd.R_new' (Kd.R_new' ho0 (Kd.R_lt (by refine xr_ ?_; exact (Kd.rM_ (Kd.rF_ (p := ⟨ia, 2, none⟩) (Kd.rF_ (p := ⟨ia, 1, none⟩) (Kd.rF_ (p := ⟨ia, 0, none⟩) (Kd.R_types fa.out ca.out (by decide)) (fun _ hk => hk.2) (.bool pa)) (fun _ hk => hk.2) (.string sa)) (fun _ hk => hk.2) (.string ua)) (fun _ h_ => h_.1))))) (Kd.R_lt (by refine xr_ ?_; exact (Kd.rM_ (Kd.rF_ (p := ⟨ia, 2, none⟩) (Kd.rF_ (p := ⟨ia, 1, none⟩) (Kd.rF_ (p := ⟨ia, 0, none⟩) (Kd.R_types ja.out ca.out (by decide)) (fun _ hk => hk.2) (.bool pa)) (fun _ hk => hk.2) (.string sa)) (fun _ hk => hk.2) (.string ua)) (fun _ h_ => h_.1))))) (Kd.R_lt (by refine xr_ ?_; exact (Kd.rM_ (Kd.rF_ (p := ⟨ia, 2, none⟩) (Kd.rF_ (p := ⟨ia, 1, none⟩) (Kd.rF_ (p := ⟨ia, 0, none⟩) (Kd.R_types oa.out ca.out (by decide)) (fun _ hk => hk.2) (.bool pa)) (fun _ hk => hk.2) (.string sa)) (fun _ hk => hk.2) (.string ua)) (fun _ h_ => h_.1))))) (bZ_ (xB3_ HB ha ma qa))); have n6_ := mk_ (kB_ (g := na) (o := .cells #[.bool ra, .string ta, .string va] 32 (0, 0)) (by refine xk_ ?_; refine bf_ ?_ fb.out _; refine xk_ ?_; refine bf_ ?_ fb.out _; refine xk_ ?_; refine bf_ ?_ fb.out _; refine xk_ ?_; exact aa.out) hb); have n7_ := mk_ (kB_ (g := ka) (o := .cells #[.bool wa, .string xa, .string ya] 32 (0, 0)) (by refine xk_ ?_; refine bf_ ?_ gb.out _; refine xk_ ?_; refine bf_ ?_ gb.out _; refine xk_ ?_; refine bf_ ?_ gb.out _; refine xk_ ?_; exact ba.out) hb); have n8_ := mk_ (kB_ (g := ia) (o := .cells #[.bool pa, .string sa, .string ua] 32 (0, 0)) (by refine xk_ ?_; refine kQ_ (cs := #[.bool pa, .string sa, .string (⟨#[]⟩ : ByteArray)]) ?_ 2 _ rfl; refine kQ_ (cs := #[.bool pa, .string (⟨#[]⟩ : ByteArray), .string (⟨#[]⟩ : ByteArray)]) ?_ 1 _ rfl; refine kQ_ (cs := zC_) ?_ 0 _ rfl; exact ca.out) hb); have n9_ := mk_ (bT_ (xB3_ HB ha ma qa) hb); clear da ea fa ja oa aa ba ca HB; have da := n0_; have ea := n1_; have fa := n2_; have ja := n3_; have oa := n4_; have Ka := n5_; have aa := n6_; have ba := n7_; have ca := n8_; have HB := n9_; clear n0_ n1_ n2_ n3_ n4_ n5_ n6_ n7_ n8_ n9_; (try clear hb); (try clear hb2); (try clear hk); (try clear hi); (try clear ho0)) | ((with_reducible refine gate_builtin (b := .append) (xs := #[.tmp 81, .tmp 83]) rfl ?_); at_builtin; refine Kd.R_append (Kd.int .i64) (w0 := w) w.heap.size rfl (.tmp 81) (.tmp 83) 39 3 (.int .i64 0) 8 rfl Tryd.underlying39 info3 rfl (by decide) (by omega) Wb kb (Int.tmod (wrap64 (a4)) (la.length : Int)) [.int .i64 (Int.tmod (wrap64 (a4)) (la.length : Int))] (fun k_ => some k_ ≠ (.slice Oa Ja.length Pa : Value).ownBlock ∧ some k_ ≠ (.slice ab Na.length bb : Value).ownBlock ∧ some k_ ≠ (.slice db La.length eb : Value).ownBlock) (fun _ => False) rfl rfl ?aP (fun _ hk => hk.elim) ?aF ?aO ?aB ?aS ?aL ?_; (case aP => exact rfl); (case aB => exact (xB3_ HB ha ma qa)); (case aF => exact (fun k_ hk => ⟨Kd.fresh' (Kd.R_lt (xR_ fa.out)) k_ hk, Kd.fresh' (Kd.R_lt (xR_ ja.out)) k_ hk, Kd.fresh' (Kd.R_lt (xR_ oa.out)) k_ hk⟩)); (case aO => exact (by refine xr_ ?_; exact Kd.rM_ Ka.out (fun _ hk => ⟨hk.1.1.2, ⟨hk.1.2, hk.2⟩⟩))); (case aS => exact (bZ_ (xB3_ HB ha ma qa))); (case aL => have := Lb.out; omega); intro Nc w48 ho hb hg hat; rw [← Mb.out] at ho; have n0_ := mk_ (Kd.R_over' (xR_ da.out) (Kd.R_typed (xR_ Ka.out)) (by decide) hg); have n1_ := mk_ (Kd.S_over' (by refine xs_ ?_; exact ea.out) (Kd.R_typed (xR_ Ka.out)) (by decide) hg); have n2_ := mk_ (Kd.R_after (ok := (fun k_ => some k_ ≠ (.slice ab Na.length bb : Value).ownBlock ∧ some k_ ≠ (.slice db La.length eb : Value).ownBlock)) (by refine xr_ ?_; exact Kd.rM_ fa.out (fun _ hk => ⟨⟨hk.1.1.2, hk.1.2⟩, hk.2⟩)) hg hat); have n3_ := mk_ (blk_grown (g := na) (o := .cells #[.bool ra, .string ta, .string va] 32 (0, 0)) (xK_ aa.out) hg (Kd.R_ne Ka.out aa.out (by decide))); have n4_ := mk_ (Kd.R_after (ok := (fun k_ => some k_ ≠ (.slice Oa Ja.length Pa : Value).ownBlock ∧ some k_ ≠ (.slice db La.length eb : Value).ownBlock)) (xR_ ja.out) hg hat); have n5_ := mk_ (blk_grown (g := ka) (o := .cells #[.bool wa, .string xa, .string ya] 32 (0, 0)) (xK_ ba.out) hg (Kd.R_ne Ka.out ba.out (by decide))); have n6_ := mk_ (Kd.R_after (ok := (fun k_ => some k_ ≠ (.slice Oa Ja.length Pa : Value).ownBlock ∧ some k_ ≠ (.slice ab Na.length bb : Value).ownBlock)) (by refine xr_ ?_; exact Kd.rM_ oa.out (fun _ hk => ⟨⟨hk.1.1.2, hk.1.2⟩, hk.2⟩)) hg hat); have n7_ := mk_ (blk_grown (g := ia) (o := .cells #[.bool pa, .string sa, .string ua] 32 (0, 0)) (xK_ ca.out) hg (Kd.R_ne Ka.out ca.out (by decide))); have n8_ := mk_ (hb); have n9_ := mk_ (ho); clear da ea fa aa ja ba oa ca HB Ka; have da := n0_; have ea := n1_; have fa := n2_; have aa := n3_; have ja := n4_; have ba := n5_; have oa := n6_; have ca := n7_; have HB := n8_; have Ga := n9_; clear n0_ n1_ n2_ n3_ n4_ n5_ n6_ n7_ n8_ n9_; clear ho hb hg hat; obtain ⟨Xb, Yb, Zb⟩ := Kd.rS_' Ga.out; subst Zb) | ((with_reducible refine gC_ (f := 13) rfl ?_); refine gL_ (some 85) rfl rfl Tryd.func13 kr_ rfl #[.slice Ya Fa.length Za, .slice Wa la.length Xa, .slice Xb vb.length Yb] rfl mp_ ?_; (with_reducible refine (marshal_Capacity.calls k _ _ Fa _ _ la _ _ vb za Ea Ma wb _ ?side1 ?side2 ?side3 ?side4 ?side5 ?side6 A22.out (TzT.below HT.out (Nat.le_refl _) (xB3_ HB ha ma qa))).mono ?_); (case side1 => repeat (first | exact (Kd.S_reads' ea.out).2.2 | (with_reducible refine Kd.C_alloc ?_ _) | (with_reducible refine Kd.C_drewN ?_ _) | (with_reducible refine Kd.C_drew ?_))); (case side2 => exact (Kd.S_reads' ea.out).2.1); (case side3 => repeat (first | exact (Kd.rr_' da.out).2.2 | (with_reducible refine Kd.C_alloc ?_ _) | (with_reducible refine Kd.C_drewN ?_ _) | (with_reducible refine Kd.C_drew ?_))); (case side4 => exact (Kd.rr_' da.out).2.1); (case side5 => repeat (first | exact (Kd.rr_' Ga.out).2.2 | (with_reducible refine Kd.C_alloc ?_ _) | (with_reducible refine Kd.C_drewN ?_ _) | (with_reducible refine Kd.C_drew ?_))); (case side6 => exact (Kd.rr_' Ga.out).2.1); rintro e w50 ⟨rfl, hb⟩; refine ⟨_, rfl, ?_⟩; have n0_ := mk_ (Kd.rB_ (xR_ da.out) hb); have n1_ := mk_ (Kd.S_below (by refine xs_ ?_; exact ea.out) hb); have n2_ := mk_ (Kd.rB_ (xR_ fa.out) hb); have n3_ := mk_ (Kd.rB_ (xR_ ja.out) hb); have n4_ := mk_ (Kd.rB_ (xR_ oa.out) hb); have n5_ := mk_ (Kd.rB_ (xR_ Ga.out) hb); have n6_ := mk_ (kB_ (xK_ aa.out) hb); have n7_ := mk_ (kB_ (xK_ ba.out) hb); have n8_ := mk_ (kB_ (xK_ ca.out) hb); have n9_ := mk_ (bT_ (xB3_ HB ha ma qa) hb); clear da ea fa ja oa Ga aa ba ca HB; have da := n0_; have ea := n1_; have fa := n2_; have ja := n3_; have oa := n4_; have Ga := n5_; have aa := n6_; have ba := n7_; have ca := n8_; have HB := n9_; clear n0_ n1_ n2_ n3_ n4_ n5_ n6_ n7_ n8_ n9_; (try clear hb); (try clear hb2); (try clear hk); (try clear hi)) | ((with_reducible refine gD_ (N := 20) rfl ?_); refine bE_ ?hg (N := 20) ?hd (cs := zC_) (t := 32) ?hr ?_; (case hd => rfl); (case hg => rfl); (case hr => first | (go_simp; done) | (go_simp; rfl)); intro Ia hg w51 hbox hb; have n0_ := mk_ (Kd.rB_ (Kd.R_elderB (xR_ da.out) Ia (Nat.le_of_eq hg.symm)) hb); have n1_ := mk_ (Kd.S_below (by refine xs_ ?_; exact ea.out) hb); have n2_ := mk_ (Kd.rB_ (xR_ fa.out) hb); have n3_ := mk_ (Kd.rB_ (xR_ ja.out) hb); have n4_ := mk_ (Kd.rB_ (xR_ oa.out) hb); have n5_ := mk_ (Kd.rB_ (xR_ Ga.out) hb); have n6_ := mk_ (kB_ (xK_ aa.out) hb); have n7_ := mk_ (kB_ (xK_ ba.out) hb); have n8_ := mk_ (kB_ (xK_ ca.out) hb); have n9_ := mk_ (bT_ (xB3_ HB ha ma qa) hb); have Ha := mk_ (hbox); have Ra := mk_ (gZ_ hg (bZ_ (xB3_ HB ha ma qa))); have Sa := mk_ (gZ_ hg (bZ_ (xB3_ HB ha ma qa))); have Ta := mk_ (gN_ hg (xK_ aa.out)); have Ua := mk_ (gM_ hg (xK_ aa.out)); have xb := mk_ (gN_ hg (xK_ ba.out)); have yb := mk_ (gM_ hg (xK_ ba.out)); have zb := mk_ (gN_ hg (xK_ ca.out)); have Ab := mk_ (gM_ hg (xK_ ca.out)); clear da ea fa ja oa Ga aa ba ca HB; have da := n0_; have ea := n1_; have fa := n2_; have ja := n3_; have oa := n4_; have Ga := n5_; have aa := n6_; have ba := n7_; have ca := n8_; have HB := n9_; have ga := Ha; have Oc := Ra; have Da := Sa; have Aa := Ta; have ac := Ua; have Ba := xb; have bc := yb; have Ca := zb; have cc := Ab; clear n0_ n1_ n2_ n3_ n4_ n5_ n6_ n7_ n8_ n9_ Ha Ra Sa Ta Ua xb yb zb Ab; clear hb hbox hg; have hnb52 := ac.out; have hnc52 := Aa.out; have hnb53 := bc.out; have hnc53 := Ba.out; have hnb54 := cc.out; have hnc54 := Ca.out; have Pc : w51.cell? ⟨Ia, 0, none⟩ = some (.bool false) := (kc_ ga.out 0).trans rfl; have Qc : w51.cell? ⟨Ia, 1, none⟩ = some (.string (⟨#[]⟩ : ByteArray)) := (kc_ ga.out 1).trans rfl; have Rc : w51.cell? ⟨Ia, 2, none⟩ = some (.string (⟨#[]⟩ : ByteArray)) := (kc_ ga.out 2).trans rfl; have Sc := kF_ ga.out 0; have Tc := kF_ ga.out 1; have Uc := kF_ ga.out 2))
  (try simp only [Act.put, s1_, s2_, s3_])
  go_cut [22] (fun v22 wc => ∃ (kq : Nat) (nb : Bool), v22 = .bool nb ∧ A0_ (insolvencylaw16_MarshalSubmodular.j0 kq nb ra ta va wa xa ya pa sa ua za Ea Ma = some r) ∧ A0_ (kq ≤ k) ∧ A0_ (wc.heap[na]? = some (.cells #[.bool ra, .string ta, .string va] 32 (0, 0))) ∧ A0_ (wc.heap[ka]? = some (.cells #[.bool wa, .string xa, .string ya] 32 (0, 0))) ∧ A0_ (wc.heap[ia]? = some (.cells #[.bool pa, .string sa, .string ua] 32 (0, 0))) ∧ A0_ (wc.heap[Ia]? = some (.cells #[.bool za, .string Ea, .string Ma] 32 (0, 0))) ∧ A0_ (Below w.heap.size w wc))
  case first =>
   have H := HC23.out
   clear HC23
   replace H := iS_ H
   rcases H with ⟨c56, H⟩ | ⟨c56, H⟩
   ·have Va := beq_iff_eq.mpr c56
    have ob := bne_eq_false_iff_eq.mpr c56
    clear c56
    (first | rw [Va] | rw [ob] | (simp only [i6_, i3_]; rw [Va]) | skip)
    replace H := iS_ H
    rcases H with ⟨c57, H⟩ | ⟨c57, H⟩
    ·have dc := beq_iff_eq.mpr c57
     have ec := bne_eq_false_iff_eq.mpr c57
     clear c57
     replace H := iS_ H
     rcases H with ⟨c58, H⟩ | ⟨c58, H⟩
     ·have fc := beq_iff_eq.mpr c58
      have gc := bne_eq_false_iff_eq.mpr c58
      clear c58
      have H' := mk_ H
      clear H
      go_wp2
      go_meet
      case rel => exact ⟨_, ((wb == 0)), (rS_), H', ⟨by first | omega | exact Nat.le_refl _⟩, ⟨by refine xk_ ?_; refine bf_ ?_ Aa.out _; refine xk_ ?_; refine bf_ ?_ Aa.out _; refine xk_ ?_; refine bf_ ?_ Aa.out _; refine xk_ ?_; exact aa.out⟩, ⟨by refine xk_ ?_; refine bf_ ?_ Ba.out _; refine xk_ ?_; refine bf_ ?_ Ba.out _; refine xk_ ?_; refine bf_ ?_ Ba.out _; refine xk_ ?_; exact ba.out⟩, ⟨by refine xk_ ?_; refine bf_ ?_ Ca.out _; refine xk_ ?_; refine bf_ ?_ Ca.out _; refine xk_ ?_; refine bf_ ?_ Ca.out _; refine xk_ ?_; exact ca.out⟩, ⟨by refine xk_ ?_; refine kQ_ (cs := #[.bool za, .string Ea, .string (⟨#[]⟩ : ByteArray)]) ?_ 2 _ rfl; refine kQ_ (cs := #[.bool za, .string (⟨#[]⟩ : ByteArray), .string (⟨#[]⟩ : ByteArray)]) ?_ 1 _ rfl; refine kQ_ (cs := zC_) ?_ 0 _ rfl; exact ga.out⟩, ⟨xB4_ HB ha ma qa Da⟩⟩
     ·have fc := beq_eq_false_iff_ne.mpr c58
      have gc := bne_iff_ne.mpr c58
      have H' := mk_ H
      clear H
      go_wp2
      go_meet
      case rel => exact ⟨_, (false), (rS_), H', ⟨by first | omega | exact Nat.le_refl _⟩, ⟨by refine xk_ ?_; refine bf_ ?_ Aa.out _; refine xk_ ?_; refine bf_ ?_ Aa.out _; refine xk_ ?_; refine bf_ ?_ Aa.out _; refine xk_ ?_; exact aa.out⟩, ⟨by refine xk_ ?_; refine bf_ ?_ Ba.out _; refine xk_ ?_; refine bf_ ?_ Ba.out _; refine xk_ ?_; refine bf_ ?_ Ba.out _; refine xk_ ?_; exact ba.out⟩, ⟨by refine xk_ ?_; refine bf_ ?_ Ca.out _; refine xk_ ?_; refine bf_ ?_ Ca.out _; refine xk_ ?_; refine bf_ ?_ Ca.out _; refine xk_ ?_; exact ca.out⟩, ⟨by refine xk_ ?_; refine kQ_ (cs := #[.bool za, .string Ea, .string (⟨#[]⟩ : ByteArray)]) ?_ 2 _ rfl; refine kQ_ (cs := #[.bool za, .string (⟨#[]⟩ : ByteArray), .string (⟨#[]⟩ : ByteArray)]) ?_ 1 _ rfl; refine kQ_ (cs := zC_) ?_ 0 _ rfl; exact ga.out⟩, ⟨xB4_ HB ha ma qa Da⟩⟩
    ·have dc := beq_eq_false_iff_ne.mpr c57
     have ec := bne_iff_ne.mpr c57
     have H' := mk_ H
     clear H
     go_wp2
     go_meet
     case rel => exact ⟨_, (false), (rS_), H', ⟨by first | omega | exact Nat.le_refl _⟩, ⟨by refine xk_ ?_; refine bf_ ?_ Aa.out _; refine xk_ ?_; refine bf_ ?_ Aa.out _; refine xk_ ?_; refine bf_ ?_ Aa.out _; refine xk_ ?_; exact aa.out⟩, ⟨by refine xk_ ?_; refine bf_ ?_ Ba.out _; refine xk_ ?_; refine bf_ ?_ Ba.out _; refine xk_ ?_; refine bf_ ?_ Ba.out _; refine xk_ ?_; exact ba.out⟩, ⟨by refine xk_ ?_; refine bf_ ?_ Ca.out _; refine xk_ ?_; refine bf_ ?_ Ca.out _; refine xk_ ?_; refine bf_ ?_ Ca.out _; refine xk_ ?_; exact ca.out⟩, ⟨by refine xk_ ?_; refine kQ_ (cs := #[.bool za, .string Ea, .string (⟨#[]⟩ : ByteArray)]) ?_ 2 _ rfl; refine kQ_ (cs := #[.bool za, .string (⟨#[]⟩ : ByteArray), .string (⟨#[]⟩ : ByteArray)]) ?_ 1 _ rfl; refine kQ_ (cs := zC_) ?_ 0 _ rfl; exact ga.out⟩, ⟨xB4_ HB ha ma qa Da⟩⟩
   ·have Va := beq_eq_false_iff_ne.mpr c56
    have ob := bne_iff_ne.mpr c56
    (first | rw [Va] | rw [ob] | (simp only [i6_, i3_]; rw [Va]) | skip)
    have H' := mk_ H
    clear H
    go_wp2
    go_meet
    case rel => exact ⟨_, (false), (rS_), H', ⟨by first | omega | exact Nat.le_refl _⟩, ⟨by refine xk_ ?_; refine bf_ ?_ Aa.out _; refine xk_ ?_; refine bf_ ?_ Aa.out _; refine xk_ ?_; refine bf_ ?_ Aa.out _; refine xk_ ?_; exact aa.out⟩, ⟨by refine xk_ ?_; refine bf_ ?_ Ba.out _; refine xk_ ?_; refine bf_ ?_ Ba.out _; refine xk_ ?_; refine bf_ ?_ Ba.out _; refine xk_ ?_; exact ba.out⟩, ⟨by refine xk_ ?_; refine bf_ ?_ Ca.out _; refine xk_ ?_; refine bf_ ?_ Ca.out _; refine xk_ ?_; refine bf_ ?_ Ca.out _; refine xk_ ?_; exact ca.out⟩, ⟨by refine xk_ ?_; refine kQ_ (cs := #[.bool za, .string Ea, .string (⟨#[]⟩ : ByteArray)]) ?_ 2 _ rfl; refine kQ_ (cs := #[.bool za, .string (⟨#[]⟩ : ByteArray), .string (⟨#[]⟩ : ByteArray)]) ?_ 1 _ rfl; refine kQ_ (cs := zC_) ?_ 0 _ rfl; exact ga.out⟩, ⟨xB4_ HB ha ma qa Da⟩⟩
  case rest =>
   clear HC23
   obtain ⟨kq, nb, rfl, HA, HJ22, aa, ba, ca, ga, HB⟩ := hcut
   cases kq with
   | zero => exact absurd HA.out (by simp [insolvencylaw16_MarshalSubmodular.j0])
   | succ kj22 =>
    have H := HA.out
    clear HA
    simp only [insolvencylaw16_MarshalSubmodular.j0] at H
    replace H := oB_ H
    obtain ⟨Vc, A59, H⟩ := H
    (try dsimp only at H)
    replace H := iS_ H
    rcases H with ⟨c60, H⟩ | ⟨c60, H⟩
    ·subst c60
     replace H := iS_ H
     rcases H with ⟨c61, H⟩ | ⟨c61, H⟩
     ·subst c61
      replace H := oB_ H
      obtain ⟨⟨pb, qb, rb⟩, A62, H⟩ := H
      (try dsimp only at H)
      replace H := oB_ H
      obtain ⟨⟨sb, tb, ub⟩, A63, H⟩ := H
      (try dsimp only at H)
      replace H := oB_ H
      obtain ⟨hc, A64, H⟩ := H
      (try dsimp only at H)
      replace H := iS_ H
      rcases H with ⟨c65, H⟩ | ⟨c65, H⟩
      ·have ic := decide_eq_true c65
       clear c65
       replace H := oB_ H
       obtain ⟨jc, A66, H⟩ := H
       (try dsimp only at H)
       obtain rfl := Option.some.inj H
       try go_wp2
       replace aa := mk_ (kD_ aa.out)
       replace ba := mk_ (kD_ ba.out)
       replace ca := mk_ (kD_ ca.out)
       replace ga := mk_ (kD_ ga.out)
       replace HB := mk_ (b1_ HB.out)
       refine start_ (n := 21) (S := fun w' => w'.cell? ⟨ka, 0, none⟩ = some (.bool wa) ∧ w'.cell? ⟨ka, 1, none⟩ = some (.string xa) ∧ w'.cell? ⟨ka, 2, none⟩ = some (.string ya) ∧ w'.cell? ⟨na, 0, none⟩ = some (.bool ra) ∧ w'.cell? ⟨na, 1, none⟩ = some (.string ta) ∧ w'.cell? ⟨na, 2, none⟩ = some (.string va) ∧ w'.cell? ⟨Ia, 0, none⟩ = some (.bool za) ∧ w'.cell? ⟨Ia, 1, none⟩ = some (.string Ea) ∧ w'.cell? ⟨Ia, 2, none⟩ = some (.string Ma) ∧ w'.cell? ⟨ia, 0, none⟩ = some (.bool pa) ∧ w'.cell? ⟨ia, 1, none⟩ = some (.string sa) ∧ w'.cell? ⟨ia, 2, none⟩ = some (.string ua)) (ds := []) (tf_ 0 21) kr_ rfl rfl ⟨(kc_ ba.out 0).trans rfl, (kc_ ba.out 1).trans rfl, (kc_ ba.out 2).trans rfl, (kc_ aa.out 0).trans rfl, (kc_ aa.out 1).trans rfl, (kc_ aa.out 2).trans rfl, (kc_ ga.out 0).trans rfl, (kc_ ga.out 1).trans rfl, (kc_ ga.out 2).trans rfl, (kc_ ca.out 0).trans rfl, (kc_ ca.out 1).trans rfl, (kc_ ca.out 2).trans rfl⟩ (fun hHeld => ?_); refine with_tabW insolvencylaw16_MarshalSubmodular.tab11 insolvencylaw16_MarshalSubmodular.bits11 (fun HT_ HW_ => ?_)
       generalize wc.drew = w67 at aa ba ca ga HB hHeld ⊢
       refine one_ (i := 0) (N := some 102) (tf_ 1 20) rfl rfl (one_of HT_.out kr_) (by decide) (fun K hK => ?_)
       refine goes_ Tryd.func12 kr_ rfl #[] (by rfl) rfl rfl mp_ ?_
       with_reducible refine (insolvencylaw16_awake.calls kj22  true _ A59.out (TzT.below HT.out (Nat.le_refl _) (xB4_ HB ha ma qa Da))).mono ?_
       rintro e w68 ⟨rfl, hb⟩
       refine ⟨_, rfl, ?_⟩
       replace aa := mk_ (kB_ (xK_ aa.out) hb)
       replace ba := mk_ (kB_ (xK_ ba.out) hb)
       replace ca := mk_ (kB_ (xK_ ca.out) hb)
       replace ga := mk_ (kB_ (xK_ ga.out) hb)
       replace HB := mk_ (bT_ (xB4_ HB ha ma qa Da) hb)
       (try clear hb)
       (try clear hb2)
       (try clear hk)
       (try clear hi)
       refine hK.out _ _ ⟨(kc_ ba.out 0).trans rfl, (kc_ ba.out 1).trans rfl, (kc_ ba.out 2).trans rfl, (kc_ aa.out 0).trans rfl, (kc_ aa.out 1).trans rfl, (kc_ aa.out 2).trans rfl, (kc_ ga.out 0).trans rfl, (kc_ ga.out 1).trans rfl, (kc_ ga.out 2).trans rfl, (kc_ ca.out 0).trans rfl, (kc_ ca.out 1).trans rfl, (kc_ ca.out 2).trans rfl⟩ (fun hHeld => ?_)
       clear hK K
       refine norm_ (a' := ?_) ?_ ?_
       rotate_left
       ·show Act.put _ (some 102) _ = _
        simp only [Act.put, s1_, s2_, s3_, i6_, i3_]
        rfl
       refine pu_ (i := 1) (N := some 103) (v := ?_) (a' := ?_) (tf_ 2 19) rfl rfl (an_ HT_.out kr_) (fun _ _ _ h => h) (Or.inl ⟨by rfl, ?_⟩) ?_ ?_
       rotate_left
       ·intro w'
        go_simp
        with_reducible rfl
       rotate_left
       ·simp only [Act.put, s1_, s2_, s3_, i6_, i3_]
        rfl
       refine pu_ (i := 2) (N := some 104) (v := ?_) (a' := ?_) (tf_ 3 18) rfl rfl (an_ HT_.out kr_) (fun _ _ _ h => h) (Or.inl ⟨by rfl, ?_⟩) ?_ ?_
       rotate_left
       ·intro w'
        go_simp
        with_reducible rfl
       rotate_left
       ·simp only [Act.put, s1_, s2_, s3_, i6_, i3_]
        rfl
       refine pu_ (i := 3) (N := some 105) (v := ?_) (a' := ?_) (tf_ 4 17) rfl rfl (an_ HT_.out kr_) (fun _ _ _ h => h) (Or.inl ⟨by rfl, ?_⟩) ?_ ?_
       rotate_left
       ·intro w'
        go_simp
        with_reducible rfl
       rotate_left
       ·simp only [Act.put, s1_, s2_, s3_, i6_, i3_]
        rfl
       refine pu_ (i := 4) (N := some 106) (v := ?_) (a' := ?_) (tf_ 5 16) rfl rfl (an_ HT_.out kr_) (fun _ _ _ h => h) (Or.inl ⟨by rfl, ?_⟩) ?_ ?_
       rotate_left
       ·intro w'
        go_simp
        with_reducible rfl
       rotate_left
       ·simp only [Act.put, s1_, s2_, s3_, i6_, i3_]
        rfl
       refine take_ (i := 5) (N := some 107) (v := ?_) (a' := ?_) (tf_ 6 15) rfl rfl (tW_ HT_.out HW_.out kr_) (fun _ _ _ h => h) (Or.inl ⟨by rfl, ?_⟩) hHeld ?_ ?_
       rotate_left
       ·rintro w' ⟨s0, s1, s2, s3, s4, s5, s6, s7, s8, s9, s10, s11⟩
        go_simp
        with_reducible rfl
       rotate_left
       ·simp only [Act.put, s1_, s2_, s3_, i6_, i3_]
        rfl
       refine take_ (i := 6) (N := some 108) (v := ?_) (a' := ?_) (tf_ 7 14) rfl rfl (tW_ HT_.out HW_.out kr_) (fun _ _ _ h => h) (Or.inl ⟨by rfl, ?_⟩) hHeld ?_ ?_
       rotate_left
       ·rintro w' ⟨s0, s1, s2, s3, s4, s5, s6, s7, s8, s9, s10, s11⟩
        go_simp
        with_reducible rfl
       rotate_left
       ·simp only [Act.put, s1_, s2_, s3_, i6_, i3_]
        rfl
       refine take_ (i := 8) (N := some 110) (v := ?_) (a' := ?_) #[true, true, true, true, true, true, true, false, true, false, false, false, false, false, false, false, false, false, false, false, false] rfl rfl (tW_ HT_.out HW_.out kr_) (fun _ _ _ h => h) (Or.inl ⟨by rfl, ?_⟩) hHeld ?_ ?_
       rotate_left
       ·rintro w' ⟨s0, s1, s2, s3, s4, s5, s6, s7, s8, s9, s10, s11⟩
        go_simp
        with_reducible rfl
       rotate_left
       ·simp only [Act.put, s1_, s2_, s3_, i6_, i3_]
        rfl
       refine take_ (i := 9) (N := some 111) (v := ?_) (a' := ?_) #[true, true, true, true, true, true, true, false, true, true, false, false, false, false, false, false, false, false, false, false, false] rfl rfl (tW_ HT_.out HW_.out kr_) (fun _ _ _ h => h) (Or.inl ⟨by rfl, ?_⟩) hHeld ?_ ?_
       rotate_left
       ·rintro w' ⟨s0, s1, s2, s3, s4, s5, s6, s7, s8, s9, s10, s11⟩
        go_simp
        with_reducible rfl
       rotate_left
       ·simp only [Act.put, s1_, s2_, s3_, i6_, i3_]
        rfl
       refine one_ (i := 7) (N := some 109) (tf_ 10 11) rfl rfl (one_of HT_.out kr_) (by decide) (fun K hK => ?_)
       refine goes_ Tryd.func15 kr_ rfl #[.agg #[.bool wa, .string xa, .string ya], .agg #[.bool ra, .string ta, .string va]] (by rfl) rfl rfl mp_ ?_
       with_reducible refine (q_Subtract.calls kj22 wa xa ya ra ta va pb qb rb _ A62.out).mono ?_
       rintro e w69 ⟨rfl, hb⟩
       refine ⟨_, rfl, ?_⟩
       replace aa := mk_ (kB_ (xK_ aa.out) hb)
       replace ba := mk_ (kB_ (xK_ ba.out) hb)
       replace ca := mk_ (kB_ (xK_ ca.out) hb)
       replace ga := mk_ (kB_ (xK_ ga.out) hb)
       replace HB := mk_ (bT_ (xB4_ HB ha ma qa Da) hb)
       (try clear hb)
       (try clear hb2)
       (try clear hk)
       (try clear hi)
       refine hK.out _ _ ⟨(kc_ ba.out 0).trans rfl, (kc_ ba.out 1).trans rfl, (kc_ ba.out 2).trans rfl, (kc_ aa.out 0).trans rfl, (kc_ aa.out 1).trans rfl, (kc_ aa.out 2).trans rfl, (kc_ ga.out 0).trans rfl, (kc_ ga.out 1).trans rfl, (kc_ ga.out 2).trans rfl, (kc_ ca.out 0).trans rfl, (kc_ ca.out 1).trans rfl, (kc_ ca.out 2).trans rfl⟩ (fun hHeld => ?_)
       clear hK K
       refine norm_ (a' := ?_) ?_ ?_
       rotate_left
       ·show Act.put _ (some 109) _ = _
        simp only [Act.put, s1_, s2_, s3_, i6_, i3_]
        rfl
       refine one_ (i := 10) (N := some 112) (tf_ 11 10) rfl rfl (one_of HT_.out kr_) (by decide) (fun K hK => ?_)
       refine goes_ Tryd.func15 kr_ rfl #[.agg #[.bool za, .string Ea, .string Ma], .agg #[.bool pa, .string sa, .string ua]] (by rfl) rfl rfl mp_ ?_
       with_reducible refine (q_Subtract.calls kj22 za Ea Ma pa sa ua sb tb ub _ A63.out).mono ?_
       rintro e w70 ⟨rfl, hb⟩
       refine ⟨_, rfl, ?_⟩
       replace aa := mk_ (kB_ (xK_ aa.out) hb)
       replace ba := mk_ (kB_ (xK_ ba.out) hb)
       replace ca := mk_ (kB_ (xK_ ca.out) hb)
       replace ga := mk_ (kB_ (xK_ ga.out) hb)
       replace HB := mk_ (bT_ (xB4_ HB ha ma qa Da) hb)
       (try clear hb)
       (try clear hb2)
       (try clear hk)
       (try clear hi)
       refine hK.out _ _ ⟨(kc_ ba.out 0).trans rfl, (kc_ ba.out 1).trans rfl, (kc_ ba.out 2).trans rfl, (kc_ aa.out 0).trans rfl, (kc_ aa.out 1).trans rfl, (kc_ aa.out 2).trans rfl, (kc_ ga.out 0).trans rfl, (kc_ ga.out 1).trans rfl, (kc_ ga.out 2).trans rfl, (kc_ ca.out 0).trans rfl, (kc_ ca.out 1).trans rfl, (kc_ ca.out 2).trans rfl⟩ (fun hHeld => ?_)
       clear hK K
       refine norm_ (a' := ?_) ?_ ?_
       rotate_left
       ·show Act.put _ (some 112) _ = _
        simp only [Act.put, s1_, s2_, s3_, i6_, i3_]
        rfl
       refine one_ (i := 11) (N := some 113) (tf_ 12 9) rfl rfl (one_of HT_.out kr_) (by decide) (fun K hK => ?_)
       refine goes_ Tryd.func11 kr_ rfl #[.agg #[.bool pb, .string qb, .string rb], .agg #[.bool sb, .string tb, .string ub]] (by rfl) rfl rfl mp_ ?_
       with_reducible refine (q_Compare.calls kj22 pb qb rb sb tb ub hc _ A64.out).mono ?_
       rintro e w71 ⟨rfl, hb⟩
       refine ⟨_, rfl, ?_⟩
       replace aa := mk_ (kB_ (xK_ aa.out) hb)
       replace ba := mk_ (kB_ (xK_ ba.out) hb)
       replace ca := mk_ (kB_ (xK_ ca.out) hb)
       replace ga := mk_ (kB_ (xK_ ga.out) hb)
       replace HB := mk_ (bT_ (xB4_ HB ha ma qa Da) hb)
       (try clear hb)
       (try clear hb2)
       (try clear hk)
       (try clear hi)
       refine hK.out _ _ ⟨(kc_ ba.out 0).trans rfl, (kc_ ba.out 1).trans rfl, (kc_ ba.out 2).trans rfl, (kc_ aa.out 0).trans rfl, (kc_ aa.out 1).trans rfl, (kc_ aa.out 2).trans rfl, (kc_ ga.out 0).trans rfl, (kc_ ga.out 1).trans rfl, (kc_ ga.out 2).trans rfl, (kc_ ca.out 0).trans rfl, (kc_ ca.out 1).trans rfl, (kc_ ca.out 2).trans rfl⟩ (fun hHeld => ?_)
       clear hK K
       refine norm_ (a' := ?_) ?_ ?_
       rotate_left
       ·show Act.put _ (some 113) _ = _
        simp only [Act.put, s1_, s2_, s3_, i6_, i3_]
        rfl
       refine pu_ (i := 12) (N := some 114) (v := ?_) (a' := ?_) (tf_ 13 8) rfl rfl (an_ HT_.out kr_) (fun _ _ _ h => h) (Or.inl ⟨by rfl, ?_⟩) ?_ ?_
       rotate_left
       ·intro w'
        go_simp
        with_reducible rfl
       rotate_left
       ·simp only [Act.put, s1_, s2_, s3_, i6_, i3_]
        rfl
       refine pu_ (i := 13) (N := some 115) (v := ?_) (a' := ?_) (tf_ 14 7) rfl rfl (an_ HT_.out kr_) (fun _ _ _ h => h) (Or.inl ⟨by rfl, ?_⟩) ?_ ?_
       rotate_left
       ·intro w'
        go_simp
        with_reducible rfl
       rotate_left
       ·simp only [Act.put, s1_, s2_, s3_, i6_, i3_]
        rfl
       refine pu_ (i := 14) (N := some 116) (v := ?_) (a' := ?_) (tf_ 15 6) rfl rfl (an_ HT_.out kr_) (fun _ _ _ h => h) (Or.inl ⟨by rfl, ?_⟩) ?_ ?_
       rotate_left
       ·intro w'
        go_simp
        with_reducible rfl
       rotate_left
       ·simp only [Act.put, s1_, s2_, s3_, i6_, i3_]
        rfl
       refine take_ (i := 15) (N := some 117) (v := ?_) (a' := ?_) (tf_ 16 5) rfl rfl (tW_ HT_.out HW_.out kr_) (fun _ _ _ h => h) (Or.inl ⟨by rfl, ?_⟩) hHeld ?_ ?_
       rotate_left
       ·rintro w' ⟨s0, s1, s2, s3, s4, s5, s6, s7, s8, s9, s10, s11⟩
        go_simp
        with_reducible rfl
       rotate_left
       ·simp only [Act.put, s1_, s2_, s3_, i6_, i3_]
        rfl
       refine take_ (i := 16) (N := some 118) (v := ?_) (a' := ?_) (tf_ 17 4) rfl rfl (tW_ HT_.out HW_.out kr_) (fun _ _ _ h => h) (Or.inl ⟨by rfl, ?_⟩) hHeld ?_ ?_
       rotate_left
       ·rintro w' ⟨s0, s1, s2, s3, s4, s5, s6, s7, s8, s9, s10, s11⟩
        go_simp
        with_reducible rfl
       rotate_left
       ·simp only [Act.put, s1_, s2_, s3_, i6_, i3_]
        rfl
       refine one_ (i := 17) (N := some 119) (tf_ 18 3) rfl rfl (one_of HT_.out kr_) (by decide) (fun K hK => ?_)
       refine goes_ Tryd.func11 kr_ rfl #[.agg #[.bool ra, .string ta, .string va], .agg #[.bool pa, .string sa, .string ua]] (by rfl) rfl rfl mp_ ?_
       with_reducible refine (q_Compare.calls kj22 ra ta va pa sa ua jc _ A66.out).mono ?_
       rintro e w72 ⟨rfl, hb⟩
       refine ⟨_, rfl, ?_⟩
       replace aa := mk_ (kB_ (xK_ aa.out) hb)
       replace ba := mk_ (kB_ (xK_ ba.out) hb)
       replace ca := mk_ (kB_ (xK_ ca.out) hb)
       replace ga := mk_ (kB_ (xK_ ga.out) hb)
       replace HB := mk_ (bT_ (xB4_ HB ha ma qa Da) hb)
       (try clear hb)
       (try clear hb2)
       (try clear hk)
       (try clear hi)
       refine hK.out _ _ ⟨(kc_ ba.out 0).trans rfl, (kc_ ba.out 1).trans rfl, (kc_ ba.out 2).trans rfl, (kc_ aa.out 0).trans rfl, (kc_ aa.out 1).trans rfl, (kc_ aa.out 2).trans rfl, (kc_ ga.out 0).trans rfl, (kc_ ga.out 1).trans rfl, (kc_ ga.out 2).trans rfl, (kc_ ca.out 0).trans rfl, (kc_ ca.out 1).trans rfl, (kc_ ca.out 2).trans rfl⟩ (fun hHeld => ?_)
       clear hK K
       refine norm_ (a' := ?_) ?_ ?_
       rotate_left
       ·show Act.put _ (some 119) _ = _
        simp only [Act.put, s1_, s2_, s3_, i6_, i3_]
        rfl
       refine pu_ (i := 18) (N := some 120) (v := ?_) (a' := ?_) (tf_ 19 2) rfl rfl (an_ HT_.out kr_) (fun _ _ _ h => h) (Or.inl ⟨by rfl, ?_⟩) ?_ ?_
       rotate_left
       ·intro w'
        go_simp
        with_reducible rfl
       rotate_left
       ·simp only [Act.put, s1_, s2_, s3_, i6_, i3_]
        rfl
       refine pu_ (i := 19) (N := some 121) (v := ?_) (a' := ?_) (tf_ 20 1) rfl rfl (an_ HT_.out kr_) (fun _ _ _ h => h) (Or.inl ⟨by rfl, ?_⟩) ?_ ?_
       rotate_left
       ·intro w'
        go_simp
        with_reducible rfl
       rotate_left
       ·simp only [Act.put, s1_, s2_, s3_, i6_, i3_]
        rfl
       refine pu_ (i := 20) (N := some 10) (v := ?_) (a' := ?_) (tf_ 21 0) rfl rfl (an_ HT_.out kr_) (fun _ _ _ h => h) (Or.inl ⟨by rfl, ?_⟩) ?_ ?_
       rotate_left
       ·intro w'
        go_simp
        with_reducible rfl
       rotate_left
       ·simp only [Act.put, s1_, s2_, s3_, i6_, i3_]
        rfl
       refine done_ (done_of HT_.out kr_) ?_
       try go_wp2
       go_ret
       exact ⟨rE_, xB4_ HB ha ma qa Da⟩
      ·have ic := decide_eq_false c65
       clear c65
       exact absurd H (by simp)
     ·replace c61 := Bool.eq_false_iff.mpr c61
      subst c61
      exact absurd H (by simp)
    ·replace c60 := Bool.eq_false_iff.mpr c60
     subst c60
     exact absurd H (by simp)
end Go.Proofs.YtppimdempdnhoaaDoor.C
end
section
set_option linter.unusedVariables false
set_option linter.unusedSimpArgs false
namespace Go.Proofs.YtppimdempdnhoaaDoor.C
def cutQ : List Int → Nat → Nat → Int
  | [], _, _ => 0
  | a :: p, X, i => (if X.testBit i then a else 0) + cutQ p X (i + 1)
def sub (I X : Nat) : Bool := I &&& X == I
theorem sub_iff {I X : Nat} : sub I X = true ↔ ∀ i, I.testBit i = true → X.testBit i = true := by
  unfold sub
  rw [beq_iff_eq]
  constructor
  · intro h i hi
    have := congrArg (fun n => n.testBit i) h
    simp only [Nat.testBit_and, hi, Bool.true_and] at this
    exact this
  · intro h
    refine Nat.eq_of_testBit_eq fun i => ?_
    rw [Nat.testBit_and]
    cases hi : I.testBit i
    · rfl
    · rw [h i hi]; rfl
theorem sub_and {I X Y : Nat} (h : sub I X = true) (h' : sub I Y = true) : sub I (X &&& Y) = true := by
  rw [sub_iff] at *
  intro i hi
  rw [Nat.testBit_and, h i hi, h' i hi]; rfl
theorem sub_orl {I X Y : Nat} (h : sub I X = true) : sub I (X ||| Y) = true := by
  rw [sub_iff] at *
  intro i hi
  rw [Nat.testBit_or, h i hi]; rfl
theorem sub_orr {I X Y : Nat} (h : sub I Y = true) : sub I (X ||| Y) = true := by
  rw [sub_iff] at *
  intro i hi
  rw [Nat.testBit_or, h i hi, Bool.or_true]
theorem sub_self (I : Nat) : sub I I = true := by rw [sub_iff]; exact fun _ h => h
theorem sub_zero {I : Nat} : sub I 0 = true ↔ I = 0 := by unfold sub; rw [beq_iff_eq, Nat.and_zero]; exact eq_comm
def hang (s : Nat → Bool) (X : Nat) : List (Nat × Int) → Nat → Int
  | [], _ => 0
  | c :: cl, j => (if s j && !sub c.1 X then c.2 else 0) + hang s X cl (j + 1)
def Val (p : List Int) (cl : List (Nat × Int)) (s : Nat → Bool) (X : Nat) : Int := cutQ p X 0 + hang s X cl 0
def least (f : Nat → Int) : Nat → Int
  | 0 => f 0
  | n + 1 => if least f n ≤ f (n + 1) then least f n else f (n + 1)
theorem least_le (f : Nat → Int) : ∀ (n X : Nat), X ≤ n → least f n ≤ f X := by
  intro n
  induction n with
  | zero =>
    intro X h
    obtain rfl : X = 0 := by omega
    exact Int.le_refl _
  | succ n ih =>
    intro X h
    simp only [least]
    rcases Nat.lt_or_eq_of_le h with h | h
    · have := ih X (by omega)
      split <;> omega
    · subst h
      split <;> omega
theorem least_mem (f : Nat → Int) : ∀ n : Nat, ∃ X, X ≤ n ∧ least f n = f X := by
  intro n
  induction n with
  | zero => exact ⟨0, Nat.le_refl _, rfl⟩
  | succ n ih =>
    obtain ⟨X, h, e⟩ := ih
    simp only [least]
    split
    · exact ⟨X, by omega, e⟩
    · exact ⟨n + 1, Nat.le_refl _, rfl⟩
def cap (p : List Int) (cl : List (Nat × Int)) (s : Nat → Bool) : Int := least (Val p cl s) (2 ^ p.length - 1)
def PosC (cl : List (Nat × Int)) : Prop := ∀ c ∈ cl, 0 ≤ c.2
theorem cutQ_modular (p : List Int) (X Y : Nat) : ∀ i, cutQ p (X &&& Y) i + cutQ p (X ||| Y) i = cutQ p X i + cutQ p Y i := by
  induction p with
  | nil => intro i; rfl
  | cons a p ih =>
    intro i
    have := ih (i + 1)
    simp only [cutQ, Nat.testBit_and, Nat.testBit_or]
    cases X.testBit i <;> cases Y.testBit i <;> simp <;> omega
theorem cutQ_zero (p : List Int) : ∀ i, cutQ p 0 i = 0 := by
  induction p with
  | nil => intro i; rfl
  | cons a p ih => intro i; simp [cutQ, ih]
theorem hang_submod {cl : List (Nat × Int)} (h : PosC cl) (s t : Nat → Bool) (X Y : Nat) : ∀ j, hang (fun j => s j && t j) (X &&& Y) cl j + hang (fun j => s j || t j) (X ||| Y) cl j ≤ hang s X cl j + hang t Y cl j := by
  induction cl with
  | nil => intro j; exact Int.le_refl _
  | cons c cl ih =>
    intro j
    have h1 := h c (List.mem_cons_self ..)
    have := ih (fun x hx => h x (List.mem_cons_of_mem _ hx)) (j + 1)
    simp only [hang]
    have a1 : sub c.1 X = true → sub c.1 Y = true → sub c.1 (X &&& Y) = true := sub_and
    have a2 : sub c.1 X = true → sub c.1 (X ||| Y) = true := sub_orl
    have a3 : sub c.1 Y = true → sub c.1 (X ||| Y) = true := sub_orr
    generalize hang (fun j => s j && t j) (X &&& Y) cl (j + 1) = h1_ at *
    generalize hang (fun j => s j || t j) (X ||| Y) cl (j + 1) = h2_ at *
    generalize hang s X cl (j + 1) = h3_ at *
    generalize hang t Y cl (j + 1) = h4_ at *
    clear ih h
    rcases Bool.eq_false_or_eq_true (s j) with c1 | c1 <;> rcases Bool.eq_false_or_eq_true (t j) with c2 | c2 <;> rcases Bool.eq_false_or_eq_true (sub c.1 X) with c3 | c3 <;> rcases Bool.eq_false_or_eq_true (sub c.1 Y) with c4 | c4 <;>
      rcases Bool.eq_false_or_eq_true (sub c.1 (X &&& Y)) with c5 | c5 <;> rcases Bool.eq_false_or_eq_true (sub c.1 (X ||| Y)) with c6 | c6 <;> simp_all <;> omega
theorem hang_mono {cl : List (Nat × Int)} (h : PosC cl) {s t : Nat → Bool} (hs : ∀ j, s j = true → t j = true) (X : Nat) : ∀ j, hang s X cl j ≤ hang t X cl j := by
  induction cl with
  | nil => intro j; exact Int.le_refl _
  | cons c cl ih =>
    intro j
    have h1 := h c (List.mem_cons_self ..)
    have := ih (fun x hx => h x (List.mem_cons_of_mem _ hx)) (j + 1)
    have h2 := hs j
    simp only [hang]
    generalize hang s X cl (j + 1) = h3_ at *
    generalize hang t X cl (j + 1) = h4_ at *
    clear ih h hs
    rcases Bool.eq_false_or_eq_true (s j) with c1 | c1 <;> rcases Bool.eq_false_or_eq_true (t j) with c2 | c2 <;> rcases Bool.eq_false_or_eq_true (sub c.1 X) with c3 | c3 <;> simp_all <;> omega
theorem hang_congr {cl : List (Nat × Int)} {s t : Nat → Bool} (X : Nat) : ∀ j, (∀ k, j ≤ k → k < j + cl.length → s k = t k) → hang s X cl j = hang t X cl j := by
  induction cl with
  | nil => intro j _; rfl
  | cons c cl ih =>
    intro j h
    simp only [hang]
    rw [h j (Nat.le_refl _) (by simp), ih (j + 1) (fun k h1 h2 => h k (by omega) (by simp only [List.length_cons]; omega))]
theorem hang_none (cl : List (Nat × Int)) (X : Nat) : ∀ j, hang (fun _ => false) X cl j = 0 := by
  induction cl with
  | nil => intro j; rfl
  | cons c cl ih => intro j; simp [hang, ih]
theorem pow_sub {n X : Nat} : X ≤ 2 ^ n - 1 ↔ X < 2 ^ n := by have := Nat.two_pow_pos n; omega
theorem cap_le {p : List Int} {cl : List (Nat × Int)} {s : Nat → Bool} {X : Nat} (h : X < 2 ^ p.length) : cap p cl s ≤ Val p cl s X := least_le _ _ _ (pow_sub.2 h)
theorem cap_mem (p : List Int) (cl : List (Nat × Int)) (s : Nat → Bool) : ∃ X, X < 2 ^ p.length ∧ cap p cl s = Val p cl s X := by
  obtain ⟨X, h, e⟩ := least_mem (Val p cl s) (2 ^ p.length - 1)
  exact ⟨X, pow_sub.1 h, e⟩
theorem cap_submod (p : List Int) {cl : List (Nat × Int)} (h : PosC cl) (s t : Nat → Bool) : cap p cl (fun j => s j && t j) + cap p cl (fun j => s j || t j) ≤ cap p cl s + cap p cl t := by
  obtain ⟨X, hX, eX⟩ := cap_mem p cl s
  obtain ⟨Y, hY, eY⟩ := cap_mem p cl t
  have h1 : cap p cl (fun j => s j && t j) ≤ Val p cl (fun j => s j && t j) (X &&& Y) := cap_le (Nat.and_lt_two_pow _ hY)
  have h2 : cap p cl (fun j => s j || t j) ≤ Val p cl (fun j => s j || t j) (X ||| Y) := cap_le (Nat.or_lt_two_pow hX hY)
  have h3 := cutQ_modular p X Y 0
  have h4 := hang_submod h s t X Y 0
  rw [eX, eY]
  unfold Val at *
  omega
theorem cap_mono (p : List Int) {cl : List (Nat × Int)} (h : PosC cl) {s t : Nat → Bool} (hs : ∀ j, s j = true → t j = true) : cap p cl s ≤ cap p cl t := by
  obtain ⟨Y, hY, eY⟩ := cap_mem p cl t
  have h1 : cap p cl s ≤ Val p cl s Y := cap_le hY
  have h2 := hang_mono h hs Y 0
  rw [eY]
  unfold Val at *
  omega
theorem cap_congr (p : List Int) {cl : List (Nat × Int)} {s t : Nat → Bool} (h : ∀ k, k < cl.length → s k = t k) : cap p cl s = cap p cl t := by
  have : Val p cl s = Val p cl t := by
    funext X
    unfold Val
    rw [hang_congr X 0 (fun k _ h2 => h k (by omega))]
  unfold cap
  rw [this]
theorem cap_more (p : List Int) {cl : List (Nat × Int)} (h : PosC cl) (s t : Nat → Bool) (hs : ∀ j, s j = true → t j = true) (x : Nat) :
    cap p cl (fun j => t j || decide (j = x)) - cap p cl t ≤ cap p cl (fun j => s j || decide (j = x)) - cap p cl s := by
  cases hx : t x
  · have h1 := cap_submod p h (fun j => s j || decide (j = x)) t
    have e1 : (fun j => (s j || decide (j = x)) && t j) = s := by
      funext j
      by_cases hj : j = x
      · subst hj
        rw [hx, Bool.and_false]
        cases hsj : s j
        · rfl
        · rw [hs j hsj] at hx; cases hx
      · rw [decide_eq_false hj, Bool.or_false]
        cases hsj : s j
        · rfl
        · rw [hs j hsj]; rfl
    have e2 : (fun j => (s j || decide (j = x)) || t j) = (fun j => t j || decide (j = x)) := by
      funext j
      have := hs j
      revert this
      cases s j <;> cases t j <;> cases decide (j = x) <;> simp
    rw [e1, e2] at h1
    omega
  · have e : (fun j => t j || decide (j = x)) = t := by
      funext j
      by_cases hj : j = x
      · rw [hj, hx]; rfl
      · rw [decide_eq_false hj, Bool.or_false]
    rw [e]
    have := cap_mono p h (s := s) (t := fun j => s j || decide (j = x)) (fun j hj => by rw [hj]; rfl)
    omega
def first (n : Nat) (j : Nat) : Bool := decide (j < n)
end Go.Proofs.YtppimdempdnhoaaDoor.C
namespace Go.Proofs.YtppimdempdnhoaaDoor.C
open Go.RowKit Go.PrWords
theorem w64 {x : Int} (h0 : -9223372036854775808 ≤ x) (h1 : x < 9223372036854775808) : wrap64 x = x := by unfold wrap64; omega
theorem wu64 {x : Int} (h0 : 0 ≤ x) (h1 : x < 18446744073709551616) : IntKind.u64.wrap x = x := by
 simp only [IntKind.wrap, IntKind.bits, IntKind.signed]; simp; omega
theorem wraps_u32 (n : Int) (h₀ : 0 ≤ n) (h₁ : n < 2 ^ 32) : IntKind.u32.wrap n = n := by rw [IntKind.wrap_u32]; omega
theorem wraps_u64 (n : Int) (h₀ : 0 ≤ n) (h₁ : n < 2 ^ 64) : IntKind.u64.wrap n = n := wu64 h₀ (by omega)
theorem or32 (i : Nat) {x y : Int} (hx₀ : 0 ≤ x) (hx : x % 2 ^ i = 0) (hx₁ : x < 4294967296) (hy₀ : 0 ≤ y) (hy : y < 2 ^ i) (hi : i ≤ 32) : bits .or .u32 x y = x + y := by
 have : (2 : Int) ^ i ≤ 2 ^ 32 := by
  have h := Nat.pow_le_pow_right (n := 2) (by decide) hi
  exact_mod_cast h
 exact bits_join .u32 32 (by decide) wraps_u32 i x y hx₀ hx (by omega) hy₀ hy (by omega)
theorem or64 (i : Nat) {x y : Int} (hx₀ : 0 ≤ x) (hx : x % 2 ^ i = 0) (hx₁ : x < 18446744073709551616) (hy₀ : 0 ≤ y) (hy : y < 2 ^ i) (hi : i ≤ 64) : bits .or .u64 x y = x + y := by
 have : (2 : Int) ^ i ≤ 2 ^ 64 := by
  have h := Nat.pow_le_pow_right (n := 2) (by decide) hi
  exact_mod_cast h
 exact bits_join .u64 64 (by decide) wraps_u64 i x y hx₀ hx (by omega) hy₀ hy (by omega)
theorem bits_or_comm (k : IntKind) (x y : Int) : bits .or k x y = bits .or k y x := by
 simp only [bits]; rw [BitVec.or_comm]
def BB (n : Nat) : Int := 4294967296 ^ n
theorem BB_zero : BB 0 = 1 := rfl
theorem BB_succ (n : Nat) : BB (n + 1) = 4294967296 * BB n := by unfold BB; rw [Int.pow_succ, Int.mul_comm]
theorem BB_pos (n : Nat) : 0 < BB n := by unfold BB; exact Int.pow_pos (by decide)
theorem BB_add (m n : Nat) : BB (m + n) = BB m * BB n := by unfold BB; exact Int.pow_add ..
theorem BB_le {m n : Nat} (h : m ≤ n) : BB m ≤ BB n := by
 obtain ⟨d, rfl⟩ := Nat.exists_eq_add_of_le h
 rw [BB_add]
 have h1 := BB_pos m
 have h2 := BB_pos d
 have : BB m * 1 ≤ BB m * BB d := Int.mul_le_mul_of_nonneg_left (by omega) (by omega)
 omega
def lv : List Int → Int
 | [] => 0
 | x :: xs => x + 4294967296 * lv xs
def Lim (xs : List Int) : Prop := ∀ x ∈ xs, 0 ≤ x ∧ x < 4294967296
theorem Lim.nil : Lim [] := fun _ h => by cases h
theorem Lim.cons {x : Int} {xs : List Int} : Lim (x :: xs) ↔ (0 ≤ x ∧ x < 4294967296) ∧ Lim xs := by simp [Lim]
theorem Lim.take {xs : List Int} (h : Lim xs) (n : Nat) : Lim (xs.take n) := fun x hx => h x (List.mem_of_mem_take hx)
theorem Lim.drop {xs : List Int} (h : Lim xs) (n : Nat) : Lim (xs.drop n) := fun x hx => h x (List.mem_of_mem_drop hx)
theorem Lim.set {xs : List Int} (h : Lim xs) (i : Nat) {v : Int} (h0 : 0 ≤ v) (h1 : v < 4294967296) : Lim (xs.set i v) := fun x hx => by
 rcases List.mem_or_eq_of_mem_set hx with hx | rfl
 ·exact h x hx
 ·exact ⟨h0, h1⟩
theorem Lim.zeros (n : Nat) : Lim (List.replicate n 0) := fun x hx => by
 rw [List.eq_of_mem_replicate hx]; decide
theorem rd_nat (xs : List Int) (i : Nat) : rd xs (i : Int) = xs.getD i 0 := by simp [rd]
theorem Lim.at_ {xs : List Int} (h : Lim xs) (i : Int) : 0 ≤ rd xs i ∧ rd xs i < 4294967296 := by
 unfold rd
 rw [List.getD_eq_getElem?_getD]
 by_cases hi : i.toNat < xs.length
 ·rw [List.getElem?_eq_getElem hi]; exact h _ (List.getElem_mem hi)
 ·rw [List.getElem?_eq_none (by omega)]; decide
theorem lv_nonneg {xs : List Int} (h : Lim xs) : 0 ≤ lv xs := by
 induction xs with
 | nil => decide
 | cons x xs ih => have := Lim.cons.1 h; have := ih this.2; simp only [lv]; omega
theorem lv_lt {xs : List Int} (h : Lim xs) : lv xs < BB xs.length := by
 induction xs with
 | nil => decide
 | cons x xs ih => have := Lim.cons.1 h; have := ih this.2; simp only [lv, List.length_cons, BB_succ]; omega
theorem lv_append (xs ys : List Int) : lv (xs ++ ys) = lv xs + BB xs.length * lv ys := by
 induction xs with
 | nil => simp [lv, BB_zero]
 | cons x xs ih =>
  simp only [List.cons_append, lv, ih, List.length_cons, BB_succ, Int.mul_add, Int.mul_assoc]; omega
theorem lv_zeros (n : Nat) : lv (List.replicate n 0) = 0 := by
 induction n with
 | zero => rfl
 | succ n ih => simp only [List.replicate_succ, lv, ih]; rfl
theorem lv_set (xs : List Int) (i : Nat) (v : Int) (h : i < xs.length) : lv (xs.set i v) = lv xs + (v - xs.getD i 0) * BB i := by
 induction xs generalizing i with
 | nil => simp at h
 | cons x xs ih =>
  cases i with
  | zero => simp [lv, BB_zero]; omega
  | succ i =>
   have h' : i < xs.length := by simpa using h
   have := ih i h'
   simp only [List.set_cons_succ, lv, this, BB_succ, List.getD_cons_succ]
   rw [Int.mul_add]
   have : 4294967296 * ((v - xs.getD i 0) * BB i) = (v - xs.getD i 0) * (4294967296 * BB i) := by
    rw [← Int.mul_assoc, Int.mul_comm 4294967296, Int.mul_assoc]
   omega
theorem lv_take_succ (xs : List Int) (i : Nat) (h : i < xs.length) : lv (xs.take (i + 1)) = lv (xs.take i) + xs.getD i 0 * BB i := by
 induction xs generalizing i with
 | nil => simp at h
 | cons x xs ih =>
  cases i with
  | zero => simp [lv, BB_zero]
  | succ i =>
   have h' : i < xs.length := by simpa using h
   have := ih i h'
   simp only [List.take_succ_cons, lv, this, BB_succ, List.getD_cons_succ, Int.mul_add]
   have : 4294967296 * (xs.getD i 0 * BB i) = xs.getD i 0 * (4294967296 * BB i) := by
    rw [← Int.mul_assoc, Int.mul_comm 4294967296, Int.mul_assoc]
   omega
theorem lv_split (xs : List Int) (i : Nat) (h : i ≤ xs.length) : lv xs = lv (xs.take i) + BB i * lv (xs.drop i) := by
 have h1 := lv_append (xs.take i) (xs.drop i)
 rw [List.take_append_drop] at h1
 rw [h1, List.length_take, Nat.min_eq_left h]
theorem lv_drop_cons (xs : List Int) (i : Nat) (h : i < xs.length) : lv (xs.drop i) = xs.getD i 0 + 4294967296 * lv (xs.drop (i + 1)) := by
 rw [List.drop_eq_getElem_cons h]; simp only [lv]
 rw [List.getD_eq_getElem?_getD, List.getElem?_eq_getElem h]; rfl
theorem lv_limb {xs : List Int} (h : Lim xs) (i : Nat) (hi : i < xs.length) : xs.getD i 0 = lv xs / BB i % 4294967296 := by
 have h1 := lv_split xs i (by omega)
 have h2 := lv_drop_cons xs i hi
 have h3 := lv_nonneg (h.take i)
 have h4 := lv_lt (h.take i)
 rw [List.length_take, Nat.min_eq_left (by omega)] at h4
 have hp := BB_pos i
 have hl := h.at_ (i : Int)
 rw [rd_nat] at hl
 have : lv xs / BB i = lv (xs.drop i) := by
  rw [h1]
  rw [Int.add_mul_ediv_left _ _ (by omega), Int.ediv_eq_zero_of_lt h3 h4]
  omega
 rw [this, h2]
 omega
def Trim (xs : List Int) : Prop := xs = [] ∨ xs.getD (xs.length - 1) 0 ≠ 0
theorem trim_pos {xs : List Int} (h : Lim xs) (ht : Trim xs) (hp : 0 < xs.length) : BB (xs.length - 1) ≤ lv xs := by
 rcases ht with rfl | ht
 ·simp at hp
 ·have h1 := lv_split xs (xs.length - 1) (by omega)
  have h2 := lv_drop_cons xs (xs.length - 1) (by omega)
  rw [Nat.sub_add_cancel hp, List.drop_length] at h2
  simp only [lv] at h2
  have h3 := lv_nonneg (h.take (xs.length - 1))
  have h4 := h.at_ ((xs.length - 1 : Nat) : Int)
  rw [rd_nat] at h4
  have h5 := BB_pos (xs.length - 1)
  have : BB (xs.length - 1) * 1 ≤ BB (xs.length - 1) * xs.getD (xs.length - 1) 0 := Int.mul_le_mul_of_nonneg_left (by omega) (by omega)
  rw [h1, h2]
  have e : xs.getD (xs.length - 1) 0 + 4294967296 * 0 = xs.getD (xs.length - 1) 0 := by omega
  rw [e]
  omega
theorem trim_len_le {xs ys : List Int} (hx : Lim xs) (hy : Lim ys) (tx : Trim xs) (h : lv xs ≤ lv ys) : xs.length ≤ ys.length := by
 by_cases h1 : xs.length ≤ ys.length
 ·exact h1
 ·have h2 := trim_pos hx tx (by omega)
  have h3 := lv_lt hy
  have h4 : BB ys.length ≤ BB (xs.length - 1) := BB_le (by omega)
  omega
theorem lv_inj {xs ys : List Int} (hx : Lim xs) (hy : Lim ys) (hl : xs.length = ys.length) (h : lv xs = lv ys) : xs = ys := by
 induction xs generalizing ys with
 | nil => cases ys with
  | nil => rfl
  | cons _ _ => simp at hl
 | cons x xs ih => cases ys with
  | nil => simp at hl
  | cons y ys =>
   have a := Lim.cons.1 hx
   have b := Lim.cons.1 hy
   simp only [lv] at h
   have e : x = y := by omega
   subst e
   rw [ih a.2 b.2 (by simpa using hl) (by omega)]
theorem lv_inj_trim {xs ys : List Int} (hx : Lim xs) (hy : Lim ys) (tx : Trim xs) (ty : Trim ys) (h : lv xs = lv ys) : xs = ys :=
 lv_inj hx hy (Nat.le_antisymm (trim_len_le hx hy tx (by omega)) (trim_len_le hy hx ty (by omega))) h
end Go.Proofs.YtppimdempdnhoaaDoor.C
namespace Go.Proofs.YtppimdempdnhoaaDoor.C
open Go.RowKit Go.PrWords
def lb : List UInt8 → Nat
 | [] => 0
 | x :: xs => x.toNat + 256 * lb xs
def nat (s : ByteArray) : Nat := lb s.data.toList.reverse
def dig (n : Nat) : List UInt8 := if h : n = 0 then [] else UInt8.ofNat (n % 256) :: dig (n / 256)
termination_by n
decreasing_by omega
def enc (n : Nat) : ByteArray := ⟨(dig n).reverse.toArray⟩
theorem dig_zero : dig 0 = [] := by unfold dig; simp
theorem dig_pos {n : Nat} (h : n ≠ 0) : dig n = UInt8.ofNat (n % 256) :: dig (n / 256) := by
 rw [dig.eq_def, dif_neg h]
theorem lb_append (xs ys : List UInt8) : lb (xs ++ ys) = lb xs + 256 ^ xs.length * lb ys := by
 induction xs with
 | nil => simp [lb]
 | cons x xs ih =>
  simp only [List.cons_append, lb, ih, List.length_cons, Nat.pow_succ, Nat.mul_add]
  rw [Nat.mul_comm (256 ^ xs.length) 256, Nat.mul_assoc]; omega
theorem lb_lt (xs : List UInt8) : lb xs < 256 ^ xs.length := by
 induction xs with
 | nil => decide
 | cons x xs ih => have := x.toNat_lt; simp only [lb, List.length_cons, Nat.pow_succ]; omega
theorem lb_dig (n : Nat) : lb (dig n) = n := by
 induction n using Nat.strongRecOn with
 | ind n ih =>
  by_cases h : n = 0
  ·subst h; rw [dig_zero]; rfl
  ·rw [dig_pos h]
   simp only [lb]
   rw [ih (n / 256) (by omega)]
   have : (UInt8.ofNat (n % 256)).toNat = n % 256 := by simp
   omega
theorem nat_enc (n : Nat) : nat (enc n) = n := by simp [nat, enc, lb_dig]
def Top (xs : List UInt8) : Prop := ∀ x, xs.getLast? = some x → x ≠ 0
theorem dig_lb {xs : List UInt8} (h : Top xs) : dig (lb xs) = xs := by
 induction xs with
 | nil => exact dig_zero
 | cons x xs ih =>
  have ht : Top xs := fun y hy => h y (by
   cases xs with
   | nil => simp at hy
   | cons z zs => simpa using hy)
  have hn : lb (x :: xs) ≠ 0 := by
   cases xs with
   | nil =>
    have := h x (by simp)
    simp only [lb]
    intro h0
    exact this (by apply UInt8.toNat_inj.1; simp; omega)
   | cons z zs =>
    have h1 := ih ht
    intro h0
    simp only [lb] at h0 h1
    have : z.toNat + 256 * lb zs = 0 := by omega
    rw [this, dig_zero] at h1
    cases h1
  rw [dig_pos hn]
  have hx := x.toNat_lt
  simp only [lb]
  rw [show (x.toNat + 256 * lb xs) / 256 = lb xs by omega, ih ht, show (x.toNat + 256 * lb xs) % 256 = x.toNat by omega]
  simp
def Nrm (s : ByteArray) : Prop := enc (nat s) = s
theorem ba_ext {s t : ByteArray} (h : s.data.toList = t.data.toList) : s = t := by
 obtain ⟨⟨a⟩⟩ := s; obtain ⟨⟨b⟩⟩ := t; simpa using h
theorem nrm_of {s : ByteArray} (h : ∀ x, s.data.toList.head? = some x → x ≠ 0) : Nrm s := by
 unfold Nrm
 apply ba_ext
 unfold enc nat
 rw [dig_lb (fun x hx => h x (by rw [List.getLast?_reverse] at hx; exact hx))]
 simp
theorem size_eq (s : ByteArray) : s.size = s.data.toList.length := by rw [Array.length_toList]; rfl
theorem enc_zero : enc 0 = ⟨#[]⟩ := by unfold enc; rw [dig_zero]; rfl
theorem enc_size (n : Nat) : (enc n).size = (dig n).length := by rw [size_eq]; simp [enc]
theorem enc_lt (n : Nat) : n < 256 ^ (enc n).size := by
 have := lb_lt (dig n)
 rw [lb_dig] at this
 rwa [enc_size]
theorem dig_len {n m : Nat} (h : n < 256 ^ m) : (dig n).length ≤ m := by
 induction m generalizing n with
 | zero =>
  have : n = 0 := by simpa using h
  subst this; rw [dig_zero]; simp
 | succ m ih =>
  by_cases h0 : n = 0
  ·subst h0; rw [dig_zero]; simp
  ·rw [dig_pos h0]
   have := @ih (n / 256) (by rw [Nat.pow_succ] at h; omega)
   simp only [List.length_cons]; omega
theorem enc_size_le {n m : Nat} (h : n < 256 ^ m) : (enc n).size ≤ m := by rw [enc_size]; exact dig_len h
theorem nat_lt (s : ByteArray) : nat s < 256 ^ s.size := by
 have := lb_lt s.data.toList.reverse
 rw [List.length_reverse, ← size_eq] at this
 exact this
theorem enc_nat_size_le (s : ByteArray) : (enc (nat s)).size ≤ s.size := enc_size_le (nat_lt s)
theorem enc_size_mono {m n : Nat} (h : m ≤ n) : (enc m).size ≤ (enc n).size := enc_size_le (Nat.lt_of_le_of_lt h (enc_lt n))
theorem extract_one {x : UInt8} {t : List UInt8} : (ByteArray.mk (x :: t).toArray).extract 1 (ByteArray.mk (x :: t).toArray).size = ⟨t.toArray⟩ := by
 apply ba_ext
 rw [Lib.extract_data]
 simp [size_eq]
theorem trimLeft_ev (l : List UInt8) : Ev (fun k => st_trimLeftByte.l0 k ⟨l.toArray⟩ 0) (enc (lb l.reverse)) := by
 induction l with
 | nil => exact Ev.step (f := fun _ => some (enc 0)) (fun k => by
   simp only [st_trimLeftByte.l0]
   rw [if_neg (by rw [size_eq]; simp), enc_zero]) (Ev.now _)
 | cons x t ih =>
  have hs : ((ByteArray.mk (x :: t).toArray).size : Int) > 0 := by rw [size_eq]; simp
  have hb : bt ⟨(x :: t).toArray⟩ 0 = x.toNat := by
   unfold bt
   rw [dif_pos (by rw [size_eq]; simp)]
   rfl
  by_cases hx : x = 0
  ·subst hx
   have e : lb (0 :: t).reverse = lb t.reverse := by
    rw [List.reverse_cons, lb_append]; simp [lb]
   rw [e]
   refine Ev.step (f := fun k => st_trimLeftByte.l0 k ⟨t.toArray⟩ 0) (fun k => ?_) ih
   simp only [st_trimLeftByte.l0]
   rw [if_pos hs, if_pos (by omega), hb, if_pos (by rfl), if_pos (by omega), extract_one]
  ·have hn : Nrm ⟨(x :: t).toArray⟩ := nrm_of (fun y hy => by simp at hy; subst hy; exact hx)
   refine Ev.step (f := fun _ => some (enc (lb (x :: t).reverse))) (fun k => ?_) (Ev.now _)
   simp only [st_trimLeftByte.l0]
   rw [if_pos hs, if_pos (by omega), hb, if_neg (fun h0 => hx (by apply UInt8.toNat_inj.1; simp; omega))]
   exact congrArg some hn.symm
theorem normalize_ev (s : ByteArray) : Ev (fun k => n_Normalize.f k s) (enc (nat s)) := by
 by_cases h : s.toList = []
 ·refine ⟨0, fun k _ => ?_⟩
  show n_Normalize.f k s = _
  unfold n_Normalize.f st_TrimLeft.f
  rw [if_pos (by rw [Lib.toList_data]), if_pos h]
  simp only [Option.bind_some]
  rw [Lib.toList_data] at h
  have : s = ⟨#[]⟩ := ba_ext h
  subst this
  rw [show nat ⟨#[]⟩ = 0 from rfl, enc_zero]
 ·refine Ev.congr (fun k => ?_) (trimLeft_ev s.data.toList)
  unfold n_Normalize.f st_TrimLeft.f st_trimLeftByte.f
  rw [if_pos (by rw [Lib.toList_data]), if_neg h]
  simp
theorem bt_nat (s : ByteArray) (i : Nat) (h : i < s.data.toList.length) : bt s (i : Int) = ((s.data.toList[i]'h).toNat : Int) := by
 unfold bt
 simp only [Int.toNat_natCast]
 rw [dif_pos (by rw [size_eq]; exact h)]
 rfl
end Go.Proofs.YtppimdempdnhoaaDoor.C
namespace Go.Proofs.YtppimdempdnhoaaDoor.C
open Go.RowKit Go.PrWords Go.PrLast Go.PrMore
def lim (n : Nat) : List Int := if h : n = 0 then [] else ((n % 4294967296 : Nat) : Int) :: lim (n / 4294967296)
termination_by n
decreasing_by omega
theorem lim_zero : lim 0 = [] := by rw [lim.eq_def]; simp
theorem lim_pos {n : Nat} (h : n ≠ 0) : lim n = ((n % 4294967296 : Nat) : Int) :: lim (n / 4294967296) := by rw [lim.eq_def, dif_neg h]
theorem lv_lim (n : Nat) : lv (lim n) = n := by
 induction n using Nat.strongRecOn with
 | ind n ih =>
  by_cases h : n = 0
  ·subst h; rw [lim_zero]; rfl
  ·rw [lim_pos h]; simp only [lv]; rw [ih (n / 4294967296) (by omega)]; omega
theorem Lim_lim (n : Nat) : Lim (lim n) := by
 induction n using Nat.strongRecOn with
 | ind n ih =>
  by_cases h : n = 0
  ·subst h; rw [lim_zero]; exact Lim.nil
  ·rw [lim_pos h]; exact Lim.cons.2 ⟨by omega, ih _ (by omega)⟩
theorem Trim_lim (n : Nat) : Trim (lim n) := by
 induction n using Nat.strongRecOn with
 | ind n ih =>
  by_cases h : n = 0
  ·subst h; rw [lim_zero]; exact .inl rfl
  ·rw [lim_pos h]
   by_cases h2 : n / 4294967296 = 0
   ·rw [h2, lim_zero]
    right
    simp
    omega
   ·have h3 := ih (n / 4294967296) (by omega)
    rcases h3 with h3 | h3
    ·have := lv_lim (n / 4294967296)
     rw [h3] at this
     simp [lv] at this
     omega
    ·right
     have hl : 0 < (lim (n / 4294967296)).length := by
      rcases Nat.eq_zero_or_pos (lim (n / 4294967296)).length with h4 | h4
      ·rw [List.eq_nil_of_length_eq_zero h4] at h3
       simp at h3
      ·exact h4
     rw [List.length_cons, Nat.add_sub_cancel]
     obtain ⟨m, hm⟩ : ∃ m, (lim (n / 4294967296)).length = m + 1 := ⟨_, (Nat.succ_pred_eq_of_pos hl).symm⟩
     rw [hm] at h3 ⊢
     simpa using h3
theorem lim_of {xs : List Int} (h : Lim xs) (t : Trim xs) : lim (lv xs).toNat = xs := by
 refine lv_inj_trim (Lim_lim _) h (Trim_lim _) t ?_
 rw [lv_lim]
 have := lv_nonneg h
 omega
theorem lim_len {n m : Nat} (h : (n : Int) < BB m) : (lim n).length ≤ m := by
 by_cases h1 : (lim n).length ≤ m
 ·exact h1
 ·have h2 := trim_pos (Lim_lim n) (Trim_lim n) (by omega)
  rw [lv_lim] at h2
  have h3 := BB_le (m := m) (n := (lim n).length - 1) (by omega)
  omega
theorem lim_ne {n : Nat} : (lim n).length = 0 ↔ n = 0 := by
 constructor
 ·intro h
  have := lv_lim n
  rw [List.eq_nil_of_length_eq_zero h] at this
  simp [lv] at this
  omega
 ·intro h; subst h; rw [lim_zero]; rfl
theorem trim_ev (xs : List Int) (h : Lim xs) (hs : xs.length < 9223372036854775807) : ∀ n : Nat, n ≤ xs.length → lv (xs.take n) = lv xs → Ev (fun k => n_limbs_trim.l0 k xs (n : Int)) (lim (lv xs).toNat) := by
 intro n
 induction n with
 | zero =>
  intro hn hz
  refine Ev.step (f := fun _ => some (xs.take 0)) (fun k => ?_) ?_
  ·simp only [n_limbs_trim.l0]
   rw [if_neg (by omega), if_pos (by omega), if_pos (by omega)]
   rfl
  ·rw [← hz]; simp only [List.take_zero, lv]; rw [show (0 : Int).toNat = 0 from rfl, lim_zero]; exact Ev.now _
 | succ n ih =>
  intro hn hz
  have ht := lv_take_succ xs n (by omega)
  by_cases hx : xs.getD n 0 = 0
  ·refine Ev.step (f := fun k => n_limbs_trim.l0 k xs (n : Int)) (fun k => ?_) (ih (by omega) (by rw [← hz, ht, hx]; omega))
   simp only [n_limbs_trim.l0]
   rw [if_pos (by omega), w64 (by omega) (by omega), if_pos (by omega), if_pos (by omega), show ((n + 1 : Nat) : Int) - 1 = (n : Int) by omega, rd_nat, if_pos hx]
  ·refine Ev.step (f := fun _ => some (xs.take (n + 1))) (fun k => ?_) ?_
   ·simp only [n_limbs_trim.l0]
    rw [if_pos (by omega), w64 (by omega) (by omega), if_pos (by omega), if_pos (by omega), show ((n + 1 : Nat) : Int) - 1 = (n : Int) by omega, rd_nat, if_neg hx, if_pos (by omega), if_pos (by omega)]
    rfl
   ·rw [← hz, lim_of (h.take _)]
    ·exact Ev.now _
    ·right
     rw [List.length_take, Nat.min_eq_left hn, Nat.add_sub_cancel]
     simpa [List.getD_eq_getElem?_getD, List.getElem?_take] using hx
theorem trim_all (xs : List Int) (h : Lim xs) (hs : xs.length < 9223372036854775807) : Ev (fun k => n_limbs_trim.f k xs) (lim (lv xs).toNat) :=
 trim_ev xs h hs xs.length (Nat.le_refl _) (by rw [List.take_length])
end Go.Proofs.YtppimdempdnhoaaDoor.C
namespace Go.Proofs.YtppimdempdnhoaaDoor.C
open Go.RowKit Go.PrWords Go.PrLast Go.PrMore
theorem pow256 (i : Nat) : ((256 ^ i : Nat) : Int) = BB (i / 4) * 2 ^ (8 * (i % 4)) := by
 have h : i = 4 * (i / 4) + i % 4 := by omega
 have e : (256 : Nat) ^ i = (4294967296 : Nat) ^ (i / 4) * 2 ^ (8 * (i % 4)) := by
  conv => lhs; rw [h]
  rw [Nat.pow_add, Nat.pow_mul, Nat.pow_mul]
 rw [e, Int.natCast_mul, Int.natCast_pow, Int.natCast_pow]
 rfl
theorem lb_take_succ (xs : List UInt8) (i : Nat) (h : i < xs.length) : lb (xs.take (i + 1)) = lb (xs.take i) + (xs[i]'h).toNat * 256 ^ i := by
 rw [List.take_succ_eq_append_getElem h, lb_append, List.length_take, Nat.min_eq_left (by omega)]
 simp only [lb, Nat.mul_zero, Nat.add_zero]
 rw [Nat.mul_comm (256 ^ i)]
def pstep (s : ByteArray) (x : List Int) (i : Nat) : List Int := x.set (i / 4) (Go.bits .or .u32 (rd x ((i / 4 : Nat) : Int)) (shl .u32 ((bt s ((s.size - 1 - i : Nat) : Int)) % 4294967296) ((8 * (i % 4) : Nat) : Int)))
theorem parse_round (s : ByteArray) (x : List Int) (i : Nat) (hx : Lim x) (hi : i < s.size) (hl : i / 4 < x.length) (hv : lv x = (lb (s.data.toList.reverse.take i) : Int)) :
  Lim (pstep s x i) ∧ lv (pstep s x i) = (lb (s.data.toList.reverse.take (i + 1)) : Int) := by
 have hr : i < s.data.toList.reverse.length := by rw [List.length_reverse, ← size_eq]; exact hi
 have hb : bt s ((s.size - 1 - i : Nat) : Int) = ((s.data.toList.reverse[i]'hr).toNat : Int) := by
  rw [bt_nat s _ (by rw [← size_eq]; omega), List.getElem_reverse]
  congr 2
 have hb2 := (s.data.toList.reverse[i]'hr).toNat_lt
 have he : 8 * (i % 4) ≤ 24 := by omega
 have hp : (2 : Int) ^ (8 * (i % 4)) ≤ 2 ^ 24 := by
  have h := Nat.pow_le_pow_right (n := 2) (by decide) he
  exact_mod_cast h
 have hp0 : (0 : Int) < 2 ^ (8 * (i % 4)) := Int.pow_pos (by decide)
 have hmul : ((s.data.toList.reverse[i]'hr).toNat : Int) * 2 ^ (8 * (i % 4)) ≤ 255 * 2 ^ 24 := Int.mul_le_mul (by omega) hp (by omega) (by omega)
 have hmul0 : 0 ≤ ((s.data.toList.reverse[i]'hr).toNat : Int) * 2 ^ (8 * (i % 4)) := Int.mul_nonneg (by omega) (by omega)
 have hsh : shl .u32 ((bt s ((s.size - 1 - i : Nat) : Int)) % 4294967296) ((8 * (i % 4) : Nat) : Int) = ((s.data.toList.reverse[i]'hr).toNat : Int) * 2 ^ (8 * (i % 4)) := by
  unfold shl
  rw [hb, Int.emod_eq_of_lt (by omega) (by omega), Int.toNat_natCast, Nat.min_eq_left (by simp [IntKind.bits]; omega)]
  exact wraps_u32 _ hmul0 (by omega)
 have hlt := lb_lt (s.data.toList.reverse.take i)
 rw [List.length_take, Nat.min_eq_left (by omega)] at hlt
 have hlt2 : lv x < BB (i / 4) * 2 ^ (8 * (i % 4)) := by rw [hv, ← pow256]; exact_mod_cast hlt
 have hlimb := lv_limb hx (i / 4) hl
 have hq : lv x / BB (i / 4) < 2 ^ (8 * (i % 4)) := Int.ediv_lt_of_lt_mul (BB_pos _) (by rw [Int.mul_comm]; exact hlt2)
 have hq0 : 0 ≤ lv x / BB (i / 4) := Int.ediv_nonneg (lv_nonneg hx) (by have := BB_pos (i / 4); omega)
 have hold : x.getD (i / 4) 0 < 2 ^ (8 * (i % 4)) := by
  rw [hlimb, Int.emod_eq_of_lt hq0 (by omega)]; exact hq
 have hold0 := (hx.at_ ((i / 4 : Nat) : Int)).1
 rw [rd_nat] at hold0
 have hv' : pstep s x i = x.set (i / 4) (x.getD (i / 4) 0 + ((s.data.toList.reverse[i]'hr).toNat : Int) * 2 ^ (8 * (i % 4))) := by
  unfold pstep
  rw [hsh, rd_nat, bits_or_comm, or32 (8 * (i % 4)) hmul0 (Int.mul_emod_left _ _) (by omega) hold0 hold (by omega), Int.add_comm]
 rw [hv']
 constructor
 ·refine hx.set _ (by omega) ?_
  have h2 : ((s.data.toList.reverse[i]'hr).toNat : Int) * 2 ^ (8 * (i % 4)) + 2 ^ (8 * (i % 4)) ≤ 256 * 2 ^ 24 := by
   have h3 : (((s.data.toList.reverse[i]'hr).toNat : Int) + 1) * 2 ^ (8 * (i % 4)) ≤ 256 * 2 ^ 24 := Int.mul_le_mul (by omega) hp (by omega) (by omega)
   rw [Int.add_mul] at h3; omega
  omega
 ·rw [lv_set x _ _ hl, lb_take_succ _ i hr, hv]
  rw [Int.natCast_add, Int.natCast_mul, pow256]
  have e : x.getD (i / 4) 0 + ((s.data.toList.reverse[i]'hr).toNat : Int) * 2 ^ (8 * (i % 4)) - x.getD (i / 4) 0 = ((s.data.toList.reverse[i]'hr).toNat : Int) * 2 ^ (8 * (i % 4)) := by omega
  rw [e, Int.mul_assoc, Int.mul_comm (2 ^ _) (BB _)]
theorem tdiv_nat (i m : Nat) : Int.tdiv (i : Int) (m : Int) = ((i / m : Nat) : Int) := by rw [Int.ofNat_tdiv]
theorem tmod_nat (i m : Nat) : Int.tmod (i : Int) (m : Int) = ((i % m : Nat) : Int) := by rw [Int.ofNat_tmod]
theorem parse_loop (s : ByteArray) (hs : s.size ≤ 1099511627776) (d : Nat) : ∀ (i : Nat) (x : List Int), i ≤ s.size → s.size - i = d → Lim x → x.length = (s.size + 3) / 4 → lv x = (lb (s.data.toList.reverse.take i) : Int) →
  Ev (fun k => n_parse.l0 k s x (s.size : Int) (i : Int)) (lim (nat s)) := by
 induction d with
 | zero =>
  intro i x hi hd hx hl hv
  have e : lv x = (nat s : Int) := by
   rw [hv, List.take_of_length_le (by rw [List.length_reverse, ← size_eq]; omega)]; rfl
  have ht := trim_all x hx (by omega)
  rw [e, Int.toNat_natCast] at ht
  refine Ev.step (f := fun k => (n_limbs_trim.f k x).bind fun t => some t) (fun k => ?_) (Ev.bind ht (Ev.now _))
  simp only [n_parse.l0]
  rw [if_neg (by omega)]
 | succ d ih =>
  intro i x hi hd hx hl hv
  have h1 := parse_round s x i hx (by omega) (by omega) hv
  refine Ev.step (f := fun k => n_parse.l0 k s (pstep s x i) (s.size : Int) ((i + 1 : Nat) : Int)) (fun k => ?_) (ih (i + 1) (pstep s x i) (by omega) (by omega) h1.1 (by unfold pstep; rw [List.length_set]; exact hl) h1.2)
  have c1 : (i : Int) < (s.size : Int) := by omega
  have c2 : (0 : Int) ≤ ((i / 4 : Nat) : Int) := by omega
  have c3 : ((i / 4 : Nat) : Int) < (x.length : Int) := by omega
  have c4 : (0 : Int) ≤ ((s.size - 1 - i : Nat) : Int) := by omega
  have c5 : ((s.size - 1 - i : Nat) : Int) < (s.size : Int) := by omega
  have c6 : (0 : Int) ≤ ((8 * (i % 4) : Nat) : Int) := by omega
  have e4 : wrap64 ((i : Int) + 1) = ((i + 1 : Nat) : Int) := w64 (by omega) (by omega)
  have e2 : wrap64 (wrap64 ((s.size : Int) - 1) - (i : Int)) = ((s.size - 1 - i : Nat) : Int) := by clear e4; rw [w64 (x := (s.size : Int) - 1) (by omega) (by omega), w64 (by omega) (by omega)]; omega
  have e1 : wrap64 (Int.tdiv (i : Int) 4) = ((i / 4 : Nat) : Int) := by clear e2 e4; rw [show (4 : Int) = ((4 : Nat) : Int) from rfl, tdiv_nat]; exact w64 (by omega) (by omega)
  have e3 : wrap64 (8 * Int.tmod (i : Int) 4) = ((8 * (i % 4) : Nat) : Int) := by clear e1 e2 e4; rw [show (4 : Int) = ((4 : Nat) : Int) from rfl, tmod_nat]; rw [w64 (by omega) (by omega)]; omega
  simp only [n_parse.l0]
  rw [e1, e2, e3, e4]
  rw [if_pos c1, if_pos c2, if_pos c3, if_pos c4, if_pos c5, if_pos c6, Int.toNat_natCast]
  rfl
theorem parse_ev (s : ByteArray) (hs : s.size ≤ 1099511627776) : Ev (fun k => n_parse.f k s) (lim (nat s)) := by
 have e1 : wrap64 (Int.tdiv (wrap64 (wrap64 ((s.size : Int) + 4) - 1)) 4) = (((s.size + 3) / 4 : Nat) : Int) := by
  rw [w64 (x := (s.size : Int) + 4) (by omega) (by omega), w64 (x := (s.size : Int) + 4 - 1) (by omega) (by omega), show (s.size : Int) + 4 - 1 = ((s.size + 3 : Nat) : Int) by omega, show (4 : Int) = ((4 : Nat) : Int) from rfl, tdiv_nat]
  exact w64 (by omega) (by omega)
 refine Ev.congr (fun k => ?_) (parse_loop s hs s.size 0 (List.replicate ((s.size + 3) / 4) 0) (by omega) (by omega) (Lim.zeros _) (by simp) (by rw [lv_zeros]; rfl))
 simp only [n_parse.f, e1]
 rw [if_pos (by omega), if_pos (by omega), Int.toNat_natCast]
 rfl
end Go.Proofs.YtppimdempdnhoaaDoor.C
namespace Go.Proofs.YtppimdempdnhoaaDoor.C
open Go.RowKit Go.PrWords Go.PrLast Go.PrMore
def lbi : List Int → Int
 | [] => 0
 | x :: xs => x + 256 * lbi xs
def Byt (xs : List Int) : Prop := ∀ x ∈ xs, 0 ≤ x ∧ x < 256
theorem Byt.cons {x : Int} {xs : List Int} : Byt (x :: xs) ↔ (0 ≤ x ∧ x < 256) ∧ Byt xs := by simp [Byt]
theorem Byt.set {xs : List Int} (h : Byt xs) (i : Nat) {v : Int} (h0 : 0 ≤ v) (h1 : v < 256) : Byt (xs.set i v) := fun x hx => by
 rcases List.mem_or_eq_of_mem_set hx with hx | rfl
 ·exact h x hx
 ·exact ⟨h0, h1⟩
theorem Byt.zeros (n : Nat) : Byt (List.replicate n 0) := fun x hx => by
 rw [List.eq_of_mem_replicate hx]; decide
theorem Byt.reverse {xs : List Int} (h : Byt xs) : Byt xs.reverse := fun x hx => h x (List.mem_reverse.1 hx)
theorem lbi_nonneg {xs : List Int} (h : Byt xs) : 0 ≤ lbi xs := by
 induction xs with
 | nil => decide
 | cons x xs ih => have := Byt.cons.1 h; have := ih this.2; simp only [lbi]; omega
theorem lbi_zeros (n : Nat) : lbi (List.replicate n 0) = 0 := by
 induction n with
 | zero => rfl
 | succ n ih => simp only [List.replicate_succ, lbi, ih]; rfl
theorem lbi_set (xs : List Int) (i : Nat) (v : Int) (h : i < xs.length) : lbi (xs.set i v) = lbi xs + (v - xs.getD i 0) * 256 ^ i := by
 induction xs generalizing i with
 | nil => simp at h
 | cons x xs ih =>
  cases i with
  | zero => simp [lbi]; omega
  | succ i =>
   have h' : i < xs.length := by simpa using h
   have := ih i h'
   simp only [List.set_cons_succ, lbi, this, List.getD_cons_succ, Int.pow_succ]
   rw [Int.mul_add]
   have : 256 * ((v - xs.getD i 0) * 256 ^ i) = (v - xs.getD i 0) * (256 ^ i * 256) := by
    rw [← Int.mul_assoc, Int.mul_comm 256, Int.mul_assoc, Int.mul_comm 256]
   omega
theorem lbi_top {xs : List Int} (h : Byt xs) (i : Nat) (hi : i < xs.length) (hv : lbi xs < 256 ^ i) : xs.getD i 0 = 0 := by
 induction xs generalizing i with
 | nil => simp at hi
 | cons x xs ih =>
  have hc := Byt.cons.1 h
  have hn := lbi_nonneg hc.2
  cases i with
  | zero => simp only [lbi, Int.pow_zero] at hv; simp; omega
  | succ i =>
   simp only [lbi, Int.pow_succ] at hv
   rw [List.getD_cons_succ]
   exact ih hc.2 i (by simpa using hi) (by omega)
theorem nat_strOfNums {ys : List Int} (h : Byt ys) : (nat (strOfNums ys) : Int) = lbi ys.reverse := by
 have key : ∀ zs : List Int, Byt zs → (lb (zs.map fun n => UInt8.ofNat n.toNat) : Int) = lbi zs := by
  intro zs hz
  induction zs with
  | nil => rfl
  | cons z zs ih =>
   have hc := Byt.cons.1 hz
   have h1 := ih hc.2
   simp only [List.map_cons, lb, lbi]
   have : (UInt8.ofNat z.toNat).toNat = z.toNat := by simp; omega
   omega
 rw [← key _ h.reverse]
 unfold nat strOfNums
 rw [List.map_reverse]
theorem byte_of (x : Nat) (r : Nat) (hr : r < 4) : (x % 4294967296) / 2 ^ (8 * r) % 256 = x / 2 ^ (8 * r) % 256 := by
 have : r = 0 ∨ r = 1 ∨ r = 2 ∨ r = 3 := by omega
 rcases this with rfl | rfl | rfl | rfl <;> omega
theorem text_byte {l : List Int} (h : Lim l) (i : Nat) (hi : i / 4 < l.length) :
  (shr .u32 (rd l ((i / 4 : Nat) : Int)) ((8 * (i % 4) : Nat) : Int)) % 256 = (((lv l).toNat / 256 ^ i % 256 : Nat) : Int) := by
 have hl := lv_limb h (i / 4) hi
 have hn := lv_nonneg h
 obtain ⟨n, hnn⟩ := Int.eq_ofNat_of_zero_le hn
 have e : (256 : Nat) ^ i = 4294967296 ^ (i / 4) * 2 ^ (8 * (i % 4)) := by
  conv => lhs; rw [show i = 4 * (i / 4) + i % 4 by omega]
  rw [Nat.pow_add, Nat.pow_mul, Nat.pow_mul]
 unfold shr
 rw [rd_nat, hl, Int.toNat_natCast, Nat.min_eq_left (by simp [IntKind.bits]; omega), hnn, Int.toNat_natCast, e, ← Nat.div_div_eq_div_mul, ← byte_of _ _ (by omega : i % 4 < 4)]
 unfold BB
 simp only [Int.natCast_emod, Int.natCast_ediv, Int.natCast_pow]
 rfl
theorem text_loop (l : List Int) (h : Lim l) (hs : l.length ≤ 1099511627776) (d : Nat) : ∀ (i : Nat) (y : List Int), i ≤ 4 * l.length → 4 * l.length - i = d → Byt y → y.length = 4 * l.length → lbi y.reverse = (((lv l).toNat % 256 ^ i : Nat) : Int) →
  Ev (fun k => n_limbs_text.l0 k l y (y.length : Int) (i : Int)) (enc (lv l).toNat) := by
 induction d with
 | zero =>
  intro i y hi hd hy hl hv
  have hlt := lv_lt h
  have hn := lv_nonneg h
  have hN : (lv l).toNat < 256 ^ i := by
   have e : ((256 ^ i : Nat) : Int) = BB l.length := by
    rw [pow256, show i = 4 * l.length by omega, Nat.mul_div_cancel_left _ (by decide), Nat.mul_mod_right]; simp
   omega
  rw [Nat.mod_eq_of_lt hN, ← nat_strOfNums hy] at hv
  have hv' : nat (strOfNums y) = (lv l).toNat := by exact_mod_cast hv
  have hm := normalize_ev (strOfNums y)
  rw [hv'] at hm
  refine Ev.step (f := fun k => (n_Normalize.f k (strOfNums y)).bind fun t => some t) (fun k => ?_) (Ev.bind hm (Ev.now _))
  simp only [n_limbs_text.l0]
  rw [if_neg (by omega)]
 | succ d ih =>
  intro i y hi hd hy hl hv
  have hb := text_byte h i (by omega)
  have hr : i < y.reverse.length := by rw [List.length_reverse]; omega
  have hp : ((256 ^ i : Nat) : Int) = 256 ^ i := by rw [Int.natCast_pow]; rfl
  have hold : y.reverse.getD i 0 = 0 := lbi_top hy.reverse i hr (by
   rw [hv, ← hp]
   have := Nat.mod_lt (lv l).toNat (Nat.pow_pos (n := i) (by decide : 0 < 256))
   omega)
  have hset : (y.set (y.length - 1 - i) (((lv l).toNat / 256 ^ i % 256 : Nat) : Int)).reverse = y.reverse.set i (((lv l).toNat / 256 ^ i % 256 : Nat) : Int) := by
   apply List.ext_getElem
   ·simp
   ·intro j h1 h2
    rw [List.getElem_reverse, List.getElem_set, List.getElem_set, List.getElem_reverse]
    rw [List.length_reverse, List.length_set] at h1
    simp only [List.length_set]
    by_cases hj : i = j
    ·subst hj; rw [if_pos rfl, if_pos rfl]
    ·rw [if_neg (by omega), if_neg hj]
  have hnew : lbi (y.set (y.length - 1 - i) (((lv l).toNat / 256 ^ i % 256 : Nat) : Int)).reverse = (((lv l).toNat % 256 ^ (i + 1) : Nat) : Int) := by
   rw [hset, lbi_set _ _ _ hr, hold, hv, Nat.pow_succ, Nat.mod_mul, Int.natCast_add, Int.natCast_mul, ← hp]
   rw [Int.sub_zero, Int.mul_comm]
  have c1 : (i : Int) < (y.length : Int) := by omega
  have c2 : (0 : Int) ≤ ((i / 4 : Nat) : Int) := by omega
  have c3 : ((i / 4 : Nat) : Int) < (l.length : Int) := by omega
  have c4 : (0 : Int) ≤ ((8 * (i % 4) : Nat) : Int) := by omega
  have c5 : (0 : Int) ≤ ((y.length - 1 - i : Nat) : Int) := by omega
  have c6 : ((y.length - 1 - i : Nat) : Int) < (y.length : Int) := by omega
  have hrec := ih (i + 1) (y.set (y.length - 1 - i) (((lv l).toNat / 256 ^ i % 256 : Nat) : Int)) (by omega) (by omega) (hy.set _ (by omega) (by omega)) (by rw [List.length_set]; exact hl) hnew
  rw [List.length_set] at hrec
  have e4 : wrap64 ((i : Int) + 1) = ((i + 1 : Nat) : Int) := w64 (by omega) (by omega)
  have e2 : wrap64 (wrap64 ((y.length : Int) - 1) - (i : Int)) = ((y.length - 1 - i : Nat) : Int) := by clear e4; rw [w64 (x := (y.length : Int) - 1) (by omega) (by omega), w64 (by omega) (by omega)]; omega
  have e1 : wrap64 (Int.tdiv (i : Int) 4) = ((i / 4 : Nat) : Int) := by clear e2 e4; rw [show (4 : Int) = ((4 : Nat) : Int) from rfl, tdiv_nat]; exact w64 (by omega) (by omega)
  have e3 : wrap64 (8 * Int.tmod (i : Int) 4) = ((8 * (i % 4) : Nat) : Int) := by clear e1 e2 e4; rw [show (4 : Int) = ((4 : Nat) : Int) from rfl, tmod_nat]; rw [w64 (by omega) (by omega)]; omega
  refine Ev.step (f := fun k => n_limbs_text.l0 k l (y.set (y.length - 1 - i) (((lv l).toNat / 256 ^ i % 256 : Nat) : Int)) (y.length : Int) ((i + 1 : Nat) : Int)) (fun k => ?_) hrec
  simp only [n_limbs_text.l0]
  rw [e1, e2, e3, e4]
  rw [if_pos c1, if_pos c2, if_pos c3, if_pos c4, if_pos c5, if_pos c6, hb, Int.toNat_natCast]
theorem text_ev (l : List Int) (h : Lim l) (hs : l.length ≤ 1099511627776) : Ev (fun k => n_limbs_text.f k l) (enc (lv l).toNat) := by
 have e1 : wrap64 ((l.length : Int) * 4) = ((4 * l.length : Nat) : Int) := by rw [w64 (by omega) (by omega)]; omega
 refine Ev.congr (fun k => ?_) (text_loop l h hs (4 * l.length) 0 (List.replicate (4 * l.length) 0) (by omega) (by omega) (Byt.zeros _) (by simp) (by rw [List.reverse_replicate, lbi_zeros]; simp [Nat.mod_one]))
 unfold n_limbs_text.f
 rw [e1, if_pos (by omega), if_pos (by omega), Int.toNat_natCast]
 rfl
end Go.Proofs.YtppimdempdnhoaaDoor.C
namespace Go.Proofs.YtppimdempdnhoaaDoor.C
open Go.RowKit Go.PrWords Go.PrLast Go.PrMore
def icmp (x y : Int) : Int := if x < y then -1 else if y < x then 1 else 0
theorem icmp_lt {x y : Int} (h : x < y) : icmp x y = -1 := by unfold icmp; rw [if_pos h]
theorem icmp_gt {x y : Int} (h : y < x) : icmp x y = 1 := by unfold icmp; rw [if_neg (by omega), if_pos h]
theorem icmp_eq {x y : Int} (h : x = y) : icmp x y = 0 := by unfold icmp; rw [if_neg (by omega), if_neg (by omega)]
theorem lv_top_lt {xs ys : List Int} (hx : Lim xs) (hy : Lim ys) (hl : xs.length = ys.length) (n : Nat) (hn : n < xs.length) (he : xs.drop (n + 1) = ys.drop (n + 1)) (h : xs.getD n 0 < ys.getD n 0) : lv xs < lv ys := by
 have h1 := lv_split xs n (by omega)
 have h2 := lv_split ys n (by omega)
 rw [lv_drop_cons xs n hn, he] at h1
 rw [lv_drop_cons ys n (by omega)] at h2
 have h3 := lv_lt (hx.take n)
 have h4 := lv_nonneg (hy.take n)
 rw [List.length_take, Nat.min_eq_left (by omega)] at h3
 have hp := BB_pos n
 have h5 : BB n * (xs.getD n 0 + 4294967296 * lv (ys.drop (n + 1))) + BB n ≤ BB n * (ys.getD n 0 + 4294967296 * lv (ys.drop (n + 1))) := by
  have : BB n * (xs.getD n 0 + 4294967296 * lv (ys.drop (n + 1)) + 1) ≤ BB n * (ys.getD n 0 + 4294967296 * lv (ys.drop (n + 1))) := Int.mul_le_mul_of_nonneg_left (by omega) (by omega)
  rw [Int.mul_add, Int.mul_one] at this
  exact this
 omega
theorem drop_same {xs ys : List Int} (hl : xs.length = ys.length) (n : Nat) (hn : n < xs.length) (he : xs.drop (n + 1) = ys.drop (n + 1)) (h : xs.getD n 0 = ys.getD n 0) : xs.drop n = ys.drop n := by
 rw [List.drop_eq_getElem_cons hn, List.drop_eq_getElem_cons (by omega : n < ys.length), he]
 rw [List.getD_eq_getElem?_getD, List.getD_eq_getElem?_getD, List.getElem?_eq_getElem hn, List.getElem?_eq_getElem (by omega : n < ys.length)] at h
 simp at h
 rw [h]
theorem compare_loop {xs ys : List Int} (hx : Lim xs) (hy : Lim ys) (hl : xs.length = ys.length) (hs : xs.length < 9223372036854775807) : ∀ n : Nat, n ≤ xs.length → xs.drop n = ys.drop n →
  Ev (fun k => n_compare.l0 k xs ys ((n : Int) - 1)) (icmp (lv xs) (lv ys)) := by
 intro n
 induction n with
 | zero =>
  intro _ he
  simp only [List.drop_zero] at he
  rw [icmp_eq (by rw [he])]
  refine Ev.step (f := fun _ => some 0) (fun k => ?_) (Ev.now _)
  simp only [n_compare.l0]
  rw [if_neg (by omega)]
 | succ n ih =>
  intro hn he
  have e0 : ((n + 1 : Nat) : Int) - 1 = (n : Int) := by omega
  rw [e0]
  by_cases h : xs.getD n 0 = ys.getD n 0
  ·refine Ev.step (f := fun k => n_compare.l0 k xs ys ((n : Int) - 1)) (fun k => ?_) (ih (by omega) (drop_same hl n (by omega) he h))
   simp only [n_compare.l0]
   rw [if_pos (by omega), if_pos (by omega), if_pos (by omega), if_pos (by omega), rd_nat, rd_nat, if_pos h, w64 (by omega) (by omega)]
  ·by_cases h2 : xs.getD n 0 < ys.getD n 0
   ·rw [icmp_lt (lv_top_lt hx hy hl n (by omega) he h2)]
    refine Ev.step (f := fun _ => some (-1)) (fun k => ?_) (Ev.now _)
    simp only [n_compare.l0]
    rw [if_pos (by omega), if_pos (by omega), if_pos (by omega), if_pos (by omega), rd_nat, rd_nat, if_neg h, if_pos h2]
   ·rw [icmp_gt (lv_top_lt hy hx hl.symm n (by omega) he.symm (by omega))]
    refine Ev.step (f := fun _ => some 1) (fun k => ?_) (Ev.now _)
    simp only [n_compare.l0]
    rw [if_pos (by omega), if_pos (by omega), if_pos (by omega), if_pos (by omega), rd_nat, rd_nat, if_neg h, if_neg h2]
theorem lv_len_lt {xs ys : List Int} (hx : Lim xs) (hy : Lim ys) (ty : Trim ys) (h : xs.length < ys.length) : lv xs < lv ys := by
 by_cases h1 : lv ys ≤ lv xs
 ·have := trim_len_le hy hx ty h1
  omega
 ·omega
theorem compare_ev {xs ys : List Int} (hx : Lim xs) (hy : Lim ys) (tx : Trim xs) (ty : Trim ys) (h1 : xs.length < 4611686018427387904) (h2 : ys.length < 4611686018427387904) :
  Ev (fun k => n_compare.f k xs ys) (icmp (lv xs) (lv ys)) := by
 by_cases hl : xs.length = ys.length
 ·refine Ev.congr (fun k => ?_) (compare_loop hx hy hl (by omega) xs.length (Nat.le_refl _) (by rw [List.drop_length, hl, List.drop_length]))
  unfold n_compare.f
  rw [if_pos (by omega), w64 (by omega) (by omega)]
 ·refine ⟨0, fun k _ => ?_⟩
  show n_compare.f k xs ys = _
  unfold n_compare.f n_sign.f
  rw [if_neg (by omega), w64 (by omega) (by omega)]
  by_cases h : xs.length < ys.length
  ·rw [if_pos (by omega), icmp_lt (lv_len_lt hx hy ty h)]; rfl
  ·rw [if_neg (by omega), if_pos (by omega), icmp_gt (lv_len_lt hy hx tx (by omega))]; rfl
theorem compareBytes_val : ∀ xs ys : List UInt8, xs.length = ys.length → Lib.compareBytes xs ys = icmp (lb xs.reverse) (lb ys.reverse) := by
 intro xs
 induction xs with
 | nil => intro ys h; cases ys with
  | nil => rfl
  | cons _ _ => simp at h
 | cons x xs ih => intro ys h; cases ys with
  | nil => simp at h
  | cons y ys =>
   have hl : xs.length = ys.length := by simpa using h
   have hx := lb_lt xs.reverse
   have hy := lb_lt ys.reverse
   rw [List.length_reverse] at hx hy
   rw [← hl] at hy
   simp only [List.reverse_cons, lb_append, List.length_reverse, lb, Nat.mul_zero, Nat.add_zero, ← hl]
   unfold Lib.compareBytes
   have key : ∀ a b p q : Nat, p < 256 ^ xs.length → a < b → p + 256 ^ xs.length * a < q + 256 ^ xs.length * b := by
    intro a b p q hp hab
    have : 256 ^ xs.length * (a + 1) ≤ 256 ^ xs.length * b := Nat.mul_le_mul_left _ hab
    rw [Nat.mul_add] at this
    omega
   by_cases h1 : x < y
   ·rw [if_pos h1, icmp_lt]
    have := key x.toNat y.toNat (lb xs.reverse) (lb ys.reverse) hx (UInt8.lt_iff_toNat_lt.1 h1)
    omega
   ·rw [if_neg h1]
    by_cases h2 : y < x
    ·rw [if_pos h2, icmp_gt]
     have := key y.toNat x.toNat (lb ys.reverse) (lb xs.reverse) hy (UInt8.lt_iff_toNat_lt.1 h2)
     omega
    ·rw [if_neg h2, ih ys hl]
     have e : x.toNat = y.toNat := by
      rw [UInt8.lt_iff_toNat_lt] at h1 h2
      omega
     rw [e]
     unfold icmp
     by_cases a : (lb xs.reverse : Int) < lb ys.reverse
     ·rw [if_pos a, if_pos (by omega)]
     ·rw [if_neg a, if_neg (c := ((lb xs.reverse + 256 ^ xs.length * y.toNat : Nat) : Int) < _) (by omega)]
      by_cases b : (lb ys.reverse : Int) < lb xs.reverse
      ·rw [if_pos b, if_pos (by omega)]
      ·rw [if_neg b, if_neg (by omega)]
theorem enc_size_lt {m n : Nat} (h : (enc m).size < (enc n).size) : m < n := by
 by_cases h1 : n ≤ m
 ·have := enc_size_mono h1; omega
 ·omega
theorem Compare_ev (a b : ByteArray) (ha : a.size < 4611686018427387904) (hb : b.size < 4611686018427387904) : Ev (fun k => n_Compare.f k a b) (icmp (nat a) (nat b)) := by
 have h1 := normalize_ev a
 have h2 := normalize_ev b
 have s1 := enc_nat_size_le a
 have s2 := enc_nat_size_le b
 unfold n_Compare.f
 refine Ev.bind h1 (Ev.bind h2 ?_)
 by_cases hl : (enc (nat a)).size = (enc (nat b)).size
 ·refine ⟨0, fun k _ => ?_⟩
  show (if _ then _ else _) = _
  rw [if_pos (by omega)]
  unfold st_Compare.f ba_CompareString.f
  simp only [Option.bind_some]
  rw [compareBytes_val _ _ (by rw [← size_eq, ← size_eq]; exact hl)]
  rw [show lb (enc (nat a)).data.toList.reverse = nat (enc (nat a)) from rfl, show lb (enc (nat b)).data.toList.reverse = nat (enc (nat b)) from rfl, nat_enc, nat_enc]
 ·refine ⟨0, fun k _ => ?_⟩
  show (if _ then _ else _) = _
  unfold n_sign.f
  rw [if_neg (by omega), w64 (by omega) (by omega)]
  by_cases h : (enc (nat a)).size < (enc (nat b)).size
  ·rw [if_pos (by omega), icmp_lt (by have := enc_size_lt h; omega)]; rfl
  ·rw [if_neg (by omega), if_pos (by omega), icmp_gt (by have := enc_size_lt (show (enc (nat b)).size < (enc (nat a)).size by omega); omega)]; rfl
theorem add32 {a b c : Int} (ha : 0 ≤ a) (ha' : a < 4294967296) (hb : 0 ≤ b) (hb' : b < 4294967296) (hc : 0 ≤ c) (hc' : c ≤ 1) :
  bits_Add32.f a b c = some ((a + b + c) % 4294967296, (a + b + c) / 4294967296) := by
 unfold bits_Add32.f
 rw [wu64 ha (by omega), wu64 hb (by omega), wu64 hc (by omega), wu64 (x := a + b) (by omega) (by omega), wu64 (by omega) (by omega)]
 congr 2
 omega
theorem bits_u32 (x y : Nat) (hx : x < 4294967296) (hy : y < 4294967296) : bits .and .u32 x y = ((x &&& y : Nat) : Int) ∧ bits .or .u32 x y = ((x ||| y : Nat) : Int) :=
 bits_nat .u32 32 (by decide) wraps_u32 x y hx hy
theorem bits_xor32 (x y : Nat) (hx : x < 4294967296) (hy : y < 4294967296) : bits .xor .u32 x y = ((x ^^^ y : Nat) : Int) := by
 simp only [bits, BitVec.ofInt_natCast, BitVec.toNat_xor, BitVec.toNat_ofNat]
 rw [show IntKind.u32.bits = 32 from rfl, Nat.mod_eq_of_lt (show x < 2 ^ 32 from hx), Nat.mod_eq_of_lt (show y < 2 ^ 32 from hy)]
 have : x ^^^ y < 2 ^ 32 := Nat.xor_lt_two_pow hx hy
 exact wraps_u32 _ (by omega) (by omega)
theorem top_bit {x : Nat} (hx : x < 4294967296) : x / 2147483648 = (x.testBit 31).toNat := by
 rw [Nat.testBit_eq_decide_div_mod_eq]
 by_cases h : x / 2 ^ 31 % 2 = 1
 ·simp [h]; omega
 ·simp [h]; omega
theorem top_is {x : Nat} (hx : x < 4294967296) : x.testBit 31 = decide (2147483648 ≤ x) := by
 rw [Nat.testBit_eq_decide_div_mod_eq]
 congr 1
 apply propext
 omega
theorem sub32 {a b c : Int} (ha : 0 ≤ a) (ha' : a < 4294967296) (hb : 0 ≤ b) (hb' : b < 4294967296) (hc : 0 ≤ c) (hc' : c ≤ 1) :
  bits_Sub32.f a b c = some ((a - b - c) % 4294967296, if a - b - c < 0 then 1 else 0) := by
 obtain ⟨x, rfl⟩ := Int.eq_ofNat_of_zero_le ha
 obtain ⟨y, rfl⟩ := Int.eq_ofNat_of_zero_le hb
 unfold bits_Sub32.f
 have hd : ((((x : Int) - y) % 4294967296) - c) % 4294967296 = ((x : Int) - y - c) % 4294967296 := by omega
 rw [hd]
 obtain ⟨d, hdd⟩ := Int.eq_ofNat_of_zero_le (show 0 ≤ ((x : Int) - y - c) % 4294967296 by omega)
 have hd' : d < 4294967296 := by omega
 have hx' : x < 4294967296 := by omega
 have hy' : y < 4294967296 := by omega
 rw [hdd]
 have e1 : bits .xor .u32 4294967295 (x : Int) = ((4294967295 ^^^ x : Nat) : Int) := bits_xor32 4294967295 x (by decide) hx'
 have l1 : 4294967295 ^^^ x < 4294967296 := Nat.xor_lt_two_pow (n := 32) (by decide) hx'
 have e2 := bits_xor32 x y hx' hy'
 have l2 : x ^^^ y < 4294967296 := Nat.xor_lt_two_pow (n := 32) hx' hy'
 have e3 : bits .xor .u32 4294967295 ((x ^^^ y : Nat) : Int) = ((4294967295 ^^^ (x ^^^ y) : Nat) : Int) := bits_xor32 4294967295 _ (by decide) l2
 have l3 : 4294967295 ^^^ (x ^^^ y) < 4294967296 := Nat.xor_lt_two_pow (n := 32) (by decide) l2
 have e4 := (bits_u32 _ _ l1 hy').1
 have e5 := (bits_u32 _ _ l3 hd').1
 have l4 : (4294967295 ^^^ x) &&& y < 4294967296 := Nat.lt_of_le_of_lt Nat.and_le_right hy'
 have l5 : (4294967295 ^^^ (x ^^^ y)) &&& d < 4294967296 := Nat.lt_of_le_of_lt Nat.and_le_right hd'
 have e6 := (bits_u32 _ _ l4 l5).2
 have l6 : ((4294967295 ^^^ x) &&& y) ||| ((4294967295 ^^^ (x ^^^ y)) &&& d) < 4294967296 := Nat.or_lt_two_pow (n := 32) l4 l5
 rw [e1, e2, e3, e4, e5, e6]
 congr 2
 have e7 : (((((4294967295 ^^^ x) &&& y) ||| ((4294967295 ^^^ (x ^^^ y)) &&& d) : Nat) : Int)) / 2147483648 = (((((4294967295 ^^^ x) &&& y) ||| ((4294967295 ^^^ (x ^^^ y)) &&& d)) / 2147483648 : Nat) : Int) := rfl
 rw [e7, top_bit l6]
 simp only [Nat.testBit_or, Nat.testBit_and, Nat.testBit_xor, top_is hx', top_is hy', top_is hd', top_is (show 4294967295 < 4294967296 by decide)]
 by_cases p : 2147483648 ≤ x <;> by_cases q : 2147483648 ≤ y <;> by_cases r : 2147483648 ≤ d <;> simp [p, q, r] <;> omega
end Go.Proofs.YtppimdempdnhoaaDoor.C
namespace Go.Proofs.YtppimdempdnhoaaDoor.C
open Go.RowKit Go.PrWords Go.PrLast Go.PrMore
theorem lv_top {xs : List Int} (h : Lim xs) (i : Nat) (hi : i < xs.length) (hv : lv xs < BB i) : xs.getD i 0 = 0 := by
 rw [lv_limb h i hi, Int.ediv_eq_zero_of_lt (lv_nonneg h) hv]; rfl
theorem lv_take_more (xs : List Int) (i : Nat) : lv (xs.take (i + 1)) = lv (xs.take i) + xs.getD i 0 * BB i := by
 by_cases h : i < xs.length
 ·exact lv_take_succ xs i h
 ·rw [List.take_of_length_le (by omega), List.take_of_length_le (by omega), List.getD_eq_getElem?_getD, List.getElem?_eq_none (by omega)]; simp
theorem lv_put {out : List Int} (h : Lim out) (i : Nat) (hi : i < out.length) (hv : lv out < BB i) {v : Int} (h0 : 0 ≤ v) (h1 : v < 4294967296) :
  Lim (out.set i v) ∧ lv (out.set i v) = lv out + v * BB i ∧ lv (out.set i v) < BB (i + 1) := by
 have e := lv_set out i v hi
 rw [lv_top h i hi hv, Int.sub_zero] at e
 refine ⟨h.set i h0 h1, e, ?_⟩
 rw [e, BB_succ]
 have : (v + 1) * BB i ≤ 4294967296 * BB i := Int.mul_le_mul_of_nonneg_right (by omega) (by have := BB_pos i; omega)
 rw [Int.add_mul, Int.one_mul] at this
 omega
theorem add_loop {x y : List Int} (hx : Lim x) (hy : Lim y) (hl : y.length ≤ x.length) (hs : x.length ≤ 1099511627000) (d : Nat) : ∀ (i : Nat) (out : List Int) (c : Int), i ≤ x.length → x.length - i = d → Lim out → out.length = x.length + 1 → lv out < BB i → 0 ≤ c → c ≤ 1 → lv out + c * BB i = lv (x.take i) + lv (y.take i) →
  Ev (fun k => n_Add.l0 k x y out c (x.length : Int) (i : Int)) (enc (lv x + lv y).toNat) := by
 induction d with
 | zero =>
  intro i out c hi hd ho hol hlt hc hc' hv
  have e : i = x.length := by omega
  subst e
  have hp := lv_put ho x.length (by omega) hlt hc (by omega)
  rw [List.take_length, List.take_of_length_le hl] at hv
  have ht := text_ev _ hp.1 (by rw [List.length_set]; omega)
  rw [hp.2.1, hv] at ht
  refine Ev.step (f := fun k => (n_limbs_text.f k (out.set x.length c)).bind fun t => some t) (fun k => ?_) (Ev.bind ht (Ev.now _))
  simp only [n_Add.l0]
  rw [if_neg (by omega), if_pos (by omega), if_pos (by omega), Int.toNat_natCast]
 | succ d ih =>
  intro i out c hi hd ho hol hlt hc hc' hv
  have bx := hx.at_ (i : Int)
  have by_ := hy.at_ (i : Int)
  rw [rd_nat] at bx by_
  have hsum := add32 bx.1 bx.2 by_.1 by_.2 hc hc'
  have hp := lv_put ho i (by omega) hlt (v := (x.getD i 0 + y.getD i 0 + c) % 4294967296) (by omega) (by omega)
  have hrec := ih (i + 1) _ ((x.getD i 0 + y.getD i 0 + c) / 4294967296) (by omega) (by omega) hp.1 (by rw [List.length_set]; exact hol) hp.2.2 (by omega) (by omega) (by
   rw [hp.2.1, lv_take_more, lv_take_more, BB_succ]
   generalize x.getD i 0 = p at *
   generalize y.getD i 0 = q at *
   have e1 : (p + q + c) % 4294967296 * BB i + (p + q + c) / 4294967296 * (4294967296 * BB i) = (p + q + c) * BB i := by
    rw [← Int.mul_assoc, ← Int.add_mul]
    congr 1
    omega
   rw [Int.add_mul, Int.add_mul] at e1
   omega)
  have e4 : wrap64 ((i : Int) + 1) = ((i + 1 : Nat) : Int) := w64 (by omega) (by omega)
  refine Ev.step (f := fun k => n_Add.l0 k x y (out.set i ((x.getD i 0 + y.getD i 0 + c) % 4294967296)) ((x.getD i 0 + y.getD i 0 + c) / 4294967296) (x.length : Int) ((i + 1 : Nat) : Int)) (fun k => ?_) hrec
  simp only [n_Add.l0]
  rw [e4, rd_nat, rd_nat]
  clear e4
  by_cases hy2 : i < y.length
  ·rw [if_pos (by omega), if_pos (by omega), if_pos (by omega), if_pos (by omega), hsum]
   simp only [Option.bind_some]
   rw [if_pos (by omega), Int.toNat_natCast]
  ·have e0 : y.getD i 0 = 0 := by rw [List.getD_eq_getElem?_getD, List.getElem?_eq_none (by omega)]; rfl
   rw [e0] at hsum ⊢
   rw [if_pos (by omega), if_neg (by omega), if_pos (by omega), if_pos (by omega), hsum]
   simp only [Option.bind_some]
   rw [if_pos (by omega), Int.toNat_natCast]
theorem add_j {x y : List Int} (hx : Lim x) (hy : Lim y) (hl : y.length ≤ x.length) (hs : x.length ≤ 1099511627000) : Ev (fun k => n_Add.j0 k x y) (enc (lv x + lv y).toNat) := by
 have hrec := add_loop hx hy hl hs x.length 0 (List.replicate (x.length + 1) 0) 0 (by omega) (by omega) (Lim.zeros _) (by simp) (by rw [lv_zeros]; exact BB_pos 0) (by omega) (by omega) (by rw [lv_zeros]; simp [lv])
 have e : wrap64 ((x.length : Int) + 1) = ((x.length + 1 : Nat) : Int) := w64 (by omega) (by omega)
 refine Ev.step (f := fun k => n_Add.l0 k x y (List.replicate (x.length + 1) 0) 0 (x.length : Int) 0) (fun k => ?_) hrec
 simp only [n_Add.j0]
 rw [e]
 clear e
 rw [if_pos (by omega), if_pos (by omega), Int.toNat_natCast]
theorem lim_size (s : ByteArray) (h : s.size ≤ 1099511627000) : (lim (nat s)).length ≤ 1099511627000 := by
 refine Nat.le_trans (lim_len (m := s.size) ?_) h
 have h1 := nat_lt s
 unfold BB
 have h2 : (256 : Nat) ^ s.size ≤ 4294967296 ^ s.size := Nat.pow_le_pow_left (by decide) _
 have h3 : nat s < 4294967296 ^ s.size := by omega
 have h4 := Int.ofNat_lt.2 h3
 rw [Int.natCast_pow] at h4
 exact h4
theorem Add_ev (a b : ByteArray) (ha : a.size ≤ 1099511627000) (hb : b.size ≤ 1099511627000) : Ev (fun k => n_Add.f k a b) (enc (nat a + nat b)) := by
 have la := lim_size a ha
 have lb_ := lim_size b hb
 unfold n_Add.f
 refine Ev.bind (parse_ev a (by omega)) (Ev.bind (parse_ev b (by omega)) ?_)
 by_cases h : (lim (nat a)).length < (lim (nat b)).length
 ·have := add_j (Lim_lim (nat b)) (Lim_lim (nat a)) (by omega) lb_
  rw [lv_lim, lv_lim] at this
  rw [show ((nat b : Int) + (nat a : Int)).toNat = nat a + nat b by omega] at this
  exact Ev.congr (fun k => if_pos (by omega)) this
 ·have := add_j (Lim_lim (nat a)) (Lim_lim (nat b)) (by omega) la
  rw [lv_lim, lv_lim] at this
  rw [show ((nat a : Int) + (nat b : Int)).toNat = nat a + nat b by omega] at this
  exact Ev.congr (fun k => if_neg (by omega)) this
theorem sub_loop {x y : List Int} (hx : Lim x) (hy : Lim y) (hle : lv y ≤ lv x) (hl : y.length ≤ x.length) (hs : x.length ≤ 1099511627000) (d : Nat) : ∀ (i : Nat) (out : List Int) (c : Int), i ≤ x.length → x.length - i = d → Lim out → out.length = x.length → lv out < BB i → 0 ≤ c → c ≤ 1 → lv out - c * BB i = lv (x.take i) - lv (y.take i) →
  Ev (fun k => n_subtract.l0 k x y out c (x.length : Int) (i : Int)) (lim (lv x - lv y).toNat) := by
 induction d with
 | zero =>
  intro i out c hi hd ho hol hlt hc hc' hv
  have e : i = x.length := by omega
  subst e
  rw [List.take_length, List.take_of_length_le hl] at hv
  have hc0 : c = 0 := by
   rcases (by omega : c = 0 ∨ c = 1) with h | h
   ·exact h
   ·rw [h, Int.one_mul] at hv; omega
  rw [hc0, Int.zero_mul, Int.sub_zero] at hv
  have ht := trim_all out ho (by omega)
  rw [hv] at ht
  refine Ev.step (f := fun k => (n_limbs_trim.f k out).bind fun t => some t) (fun k => ?_) (Ev.bind ht (Ev.now _))
  simp only [n_subtract.l0]
  rw [if_neg (by omega)]
 | succ d ih =>
  intro i out c hi hd ho hol hlt hc hc' hv
  have bx := hx.at_ (i : Int)
  have by_ := hy.at_ (i : Int)
  rw [rd_nat] at bx by_
  have hsum := sub32 bx.1 bx.2 by_.1 by_.2 hc hc'
  have hp := lv_put ho i (by omega) hlt (v := (x.getD i 0 - y.getD i 0 - c) % 4294967296) (by omega) (by omega)
  have hb : (0 : Int) ≤ (if x.getD i 0 - y.getD i 0 - c < 0 then 1 else 0) ∧ (if x.getD i 0 - y.getD i 0 - c < 0 then 1 else 0) ≤ (1 : Int) := by split <;> omega
  have hrec := ih (i + 1) _ (if x.getD i 0 - y.getD i 0 - c < 0 then 1 else 0) (by omega) (by omega) hp.1 (by rw [List.length_set]; exact hol) hp.2.2 hb.1 hb.2 (by
   rw [hp.2.1, lv_take_more, lv_take_more, BB_succ]
   generalize x.getD i 0 = p at *
   generalize y.getD i 0 = q at *
   have e1 : (p - q - c) % 4294967296 * BB i - (if p - q - c < 0 then 1 else 0) * (4294967296 * BB i) = (p - q - c) * BB i := by
    rw [← Int.mul_assoc, ← Int.sub_mul]
    congr 1
    split <;> omega
   rw [Int.sub_mul, Int.sub_mul] at e1
   omega)
  have e4 : wrap64 ((i : Int) + 1) = ((i + 1 : Nat) : Int) := w64 (by omega) (by omega)
  refine Ev.step (f := fun k => n_subtract.l0 k x y (out.set i ((x.getD i 0 - y.getD i 0 - c) % 4294967296)) (if x.getD i 0 - y.getD i 0 - c < 0 then 1 else 0) (x.length : Int) ((i + 1 : Nat) : Int)) (fun k => ?_) hrec
  simp only [n_subtract.l0]
  rw [e4, rd_nat, rd_nat]
  clear e4
  by_cases hy2 : i < y.length
  ·rw [if_pos (by omega), if_pos (by omega), if_pos (by omega), if_pos (by omega), hsum]
   simp only [Option.bind_some]
   rw [if_pos (by omega), Int.toNat_natCast]
  ·have e0 : y.getD i 0 = 0 := by rw [List.getD_eq_getElem?_getD, List.getElem?_eq_none (by omega)]; rfl
   rw [e0] at hsum ⊢
   rw [if_pos (by omega), if_neg (by omega), if_pos (by omega), if_pos (by omega), hsum]
   simp only [Option.bind_some]
   rw [if_pos (by omega), Int.toNat_natCast]
theorem sub_ev {x y : List Int} (hx : Lim x) (hy : Lim y) (ty : Trim y) (hle : lv y ≤ lv x) (hs : x.length ≤ 1099511627000) : Ev (fun k => n_subtract.f k x y) (lim (lv x - lv y).toNat) := by
 have hl : y.length ≤ x.length := trim_len_le hy hx ty hle
 have hrec := sub_loop hx hy hle hl hs x.length 0 (List.replicate x.length 0) 0 (by omega) (by omega) (Lim.zeros _) (by simp) (by rw [lv_zeros]; exact BB_pos 0) (by omega) (by omega) (by rw [lv_zeros]; simp [lv])
 refine Ev.congr (fun k => ?_) hrec
 unfold n_subtract.f
 rw [if_pos (by omega), if_pos (by omega), Int.toNat_natCast]
 rfl
theorem Subtract_ev (a b : ByteArray) (ha : a.size ≤ 1099511627000) (hb : b.size ≤ 1099511627000) : Ev (fun k => n_Subtract.f k a b) (if nat a < nat b then (⟨#[]⟩, false) else (enc (nat a - nat b), true)) := by
 have la := lim_size a ha
 have lb_ := lim_size b hb
 unfold n_Subtract.f
 refine Ev.bind (parse_ev a (by omega)) (Ev.bind (parse_ev b (by omega)) (Ev.bind (compare_ev (Lim_lim _) (Lim_lim _) (Trim_lim _) (Trim_lim _) (by omega) (by omega)) ?_))
 rw [lv_lim, lv_lim]
 by_cases h : nat a < nat b
 ·rw [if_pos h, icmp_lt (by omega)]
  exact Ev.congr (fun k => if_pos (by omega)) (Ev.now _)
 ·rw [if_neg h]
  have h0 : ¬ icmp (nat a : Int) (nat b : Int) < 0 := by
   unfold icmp; rw [if_neg (by omega)]; split <;> omega
  have h1 := sub_ev (Lim_lim (nat a)) (Lim_lim (nat b)) (Trim_lim _) (by rw [lv_lim, lv_lim]; omega) la
  rw [lv_lim, lv_lim, show ((nat a : Int) - (nat b : Int)).toNat = nat a - nat b by omega] at h1
  have h2 := text_ev (lim (nat a - nat b)) (Lim_lim _) (by
   have : (lim (nat a - nat b)).length ≤ (lim (nat a)).length := trim_len_le (Lim_lim _) (Lim_lim _) (Trim_lim _) (by rw [lv_lim, lv_lim]; omega)
   omega)
  rw [lv_lim, Int.toNat_natCast] at h2
  exact Ev.congr (fun k => if_neg h0) (Ev.bind h1 (Ev.bind h2 (Ev.now _)))
end Go.Proofs.YtppimdempdnhoaaDoor.C
namespace Go.Proofs.YtppimdempdnhoaaDoor.C
open Go.RowKit Go.PrWords Go.PrLast Go.PrMore
theorem mul_bound {u v : Int} (hu : 0 ≤ u ∧ u < 4294967296) (hv : 0 ≤ v ∧ v < 4294967296) : 0 ≤ u * v ∧ u * v ≤ 18446744065119617025 := by
 constructor
 ·exact Int.mul_nonneg hu.1 hv.1
 ·have : u * v ≤ 4294967295 * 4294967295 := Int.mul_le_mul (by omega) (by omega) (by omega) (by omega)
  omega
theorem mac {u v o c : Int} (hu : 0 ≤ u ∧ u < 4294967296) (hv : 0 ≤ v ∧ v < 4294967296) (ho : 0 ≤ o ∧ o < 4294967296) (hc : 0 ≤ c ∧ c < 4294967296) :
  IntKind.u64.wrap ((IntKind.u64.wrap ((IntKind.u64.wrap ((IntKind.u64.wrap u) * (IntKind.u64.wrap v))) + (IntKind.u64.wrap o))) + c) = u * v + o + c := by
 have hm := mul_bound hu hv
 rw [wu64 (x := u) (by omega) (by omega), wu64 (x := v) (by omega) (by omega), wu64 (x := u * v) (by omega) (by omega), wu64 (x := o) (by omega) (by omega), wu64 (x := u * v + o) (by omega) (by omega), wu64 (by omega) (by omega)]
theorem getD_of_drop_zero {out : List Int} (m : Nat) (hm : m < out.length) (hL : Lim out) (hz : lv (out.drop m) = 0) : out.getD m 0 = 0 := by
 rw [lv_drop_cons out m hm] at hz
 have h1 := (hL.at_ (m : Int)).1
 rw [rd_nat] at h1
 have h2 := lv_nonneg (hL.drop (m + 1))
 omega
theorem drop_set_lt (out : List Int) (j m : Nat) (v : Int) (h : j < m) : (out.set j v).drop m = out.drop m := by
 apply List.ext_getElem
 ·simp
 ·intro n h1 h2
  rw [List.getElem_drop, List.getElem_drop, List.getElem_set, if_neg (by omega)]
theorem mul_inner (x y : List Int) (hy : Lim y) (u : Int) (hu : 0 ≤ u ∧ u < 4294967296) (i : Nat) (hi : i < x.length) (R : ByteArray) (T : Int)
  (hs : x.length + y.length ≤ 1099511627000)
  (hk : ∀ out : List Int, Lim out → out.length = x.length + y.length → lv (out.drop (i + 1 + y.length)) = 0 → lv out = T + u * lv y * BB i → Ev (fun k => n_Multiply.l0 k y out x (x.length : Int) ((i + 1 : Nat) : Int)) R) (d : Nat) :
  ∀ (j : Nat) (out : List Int) (c : Int), j ≤ y.length → y.length - j = d → Lim out → out.length = x.length + y.length → lv (out.drop (i + y.length)) = 0 → (0 ≤ c ∧ c < 4294967296) → lv out + c * BB (i + j) = T + u * lv (y.take j) * BB i →
  Ev (fun k => n_Multiply.l1 k y out (i : Int) u c x (x.length : Int) (i : Int) y (y.length : Int) (j : Int)) R := by
 induction d with
 | zero =>
  intro j out c hj hd ho hol hz hc hv
  have e : j = y.length := by omega
  subst e
  rw [List.take_length] at hv
  have h0 := getD_of_drop_zero (i + y.length) (by omega) ho hz
  have hset := lv_set out (i + y.length) c (by omega)
  rw [h0, Int.sub_zero, hv] at hset
  have hz2 : lv ((out.set (i + y.length) c).drop (i + 1 + y.length)) = 0 := by
   rw [drop_set_lt _ _ _ _ (by omega)]
   rw [lv_drop_cons out (i + y.length) (by omega), h0] at hz
   rw [show i + 1 + y.length = i + y.length + 1 by omega]
   omega
  have hrec := hk (out.set (i + y.length) c) (ho.set _ hc.1 hc.2) (by rw [List.length_set]; exact hol) hz2 hset
  have e1 : wrap64 ((i : Int) + (y.length : Int)) = ((i + y.length : Nat) : Int) := by rw [w64 (by omega) (by omega)]; omega
  have e2 : wrap64 ((i : Int) + 1) = ((i + 1 : Nat) : Int) := by clear e1; exact w64 (by omega) (by omega)
  refine Ev.step (f := fun k => n_Multiply.l0 k y (out.set (i + y.length) c) x (x.length : Int) ((i + 1 : Nat) : Int)) (fun k => ?_) hrec
  simp only [n_Multiply.l1]
  rw [e1, e2]
  clear e1 e2
  rw [if_neg (by omega), if_pos (by omega), if_pos (by omega), Int.toNat_natCast, Int.emod_eq_of_lt hc.1 hc.2]
 | succ d ih =>
  intro j out c hj hd ho hol hz hc hv
  have bv := hy.at_ (j : Int)
  have bo := ho.at_ ((i + j : Nat) : Int)
  have hm := mac hu bv bo hc
  rw [rd_nat] at bv bo
  rw [rd_nat, rd_nat] at hm
  have hb := mul_bound hu bv
  have hset := lv_set out (i + j) ((u * y.getD j 0 + out.getD (i + j) 0 + c) % 4294967296) (by omega)
  have hrec := ih (j + 1) (out.set (i + j) ((u * y.getD j 0 + out.getD (i + j) 0 + c) % 4294967296)) ((u * y.getD j 0 + out.getD (i + j) 0 + c) / 4294967296) (by omega) (by omega)
   (ho.set _ (by omega) (by omega)) (by rw [List.length_set]; exact hol) (by rw [drop_set_lt _ _ _ _ (by omega)]; exact hz) (by omega) (by
    rw [hset, lv_take_succ y j (by omega), show i + (j + 1) = (i + j) + 1 by omega, BB_succ]
    generalize y.getD j 0 = v at *
    generalize out.getD (i + j) 0 = o at *
    have e1 : ((u * v + o + c) % 4294967296 - o) * BB (i + j) + (u * v + o + c) / 4294967296 * (4294967296 * BB (i + j)) = (u * v + c) * BB (i + j) := by
     rw [← Int.mul_assoc, ← Int.add_mul]
     congr 1
     omega
    rw [Int.add_mul] at e1
    have e2 : u * (lv (y.take j) + v * BB j) * BB i = u * lv (y.take j) * BB i + u * v * BB (i + j) := by
     rw [BB_add, Int.mul_add, Int.add_mul, ← Int.mul_assoc, ← Int.mul_assoc, Int.mul_assoc (u * v), Int.mul_comm (BB j)]
     rw [← Int.mul_assoc]
    rw [e2]
    omega)
  have e1 : wrap64 ((i : Int) + (j : Int)) = ((i + j : Nat) : Int) := by rw [w64 (by omega) (by omega)]; omega
  have e2 : wrap64 ((j : Int) + 1) = ((j + 1 : Nat) : Int) := by clear e1; exact w64 (by omega) (by omega)
  refine Ev.step (f := fun k => n_Multiply.l1 k y (out.set (i + j) ((u * y.getD j 0 + out.getD (i + j) 0 + c) % 4294967296)) (i : Int) u ((u * y.getD j 0 + out.getD (i + j) 0 + c) / 4294967296) x (x.length : Int) (i : Int) y (y.length : Int) ((j + 1 : Nat) : Int)) (fun k => ?_) hrec
  simp only [n_Multiply.l1]
  rw [e1, e2, rd_nat, rd_nat, hm]
  clear e1 e2 hm
  rw [if_pos (by omega), if_pos (by omega), if_pos (by omega), if_pos (by omega), if_pos (by omega), Int.toNat_natCast]
theorem mul_outer (x y : List Int) (hx : Lim x) (hy : Lim y) (hs : x.length + y.length ≤ 1099511627000) (d : Nat) :
  ∀ (i : Nat) (out : List Int), i ≤ x.length → x.length - i = d → Lim out → out.length = x.length + y.length → lv (out.drop (i + y.length)) = 0 → lv out = lv (x.take i) * lv y →
  Ev (fun k => n_Multiply.l0 k y out x (x.length : Int) (i : Int)) (enc (lv x * lv y).toNat) := by
 induction d with
 | zero =>
  intro i out hi hd ho hol hz hv
  rw [List.take_of_length_le (by omega)] at hv
  have ht := text_ev out ho (by omega)
  rw [hv] at ht
  refine Ev.step (f := fun k => (n_limbs_text.f k out).bind fun t => some t) (fun k => ?_) (Ev.bind ht (Ev.now _))
  simp only [n_Multiply.l0]
  rw [if_neg (by omega)]
 | succ d ih =>
  intro i out hi hd ho hol hz hv
  have bu := hx.at_ (i : Int)
  rw [rd_nat] at bu
  have hrec := mul_inner x y hy (x.getD i 0) bu i (by omega) (enc (lv x * lv y).toNat) (lv out) hs (fun out' h1 h2 h3 h4 => ih (i + 1) out' (by omega) (by omega) h1 h2 h3 (by
   rw [h4, hv, lv_take_succ x i (by omega), Int.add_mul]
   congr 1
   rw [Int.mul_assoc, Int.mul_assoc, Int.mul_comm (lv y)])) y.length 0 out 0 (by omega) (by omega) ho hol hz (by omega) (by simp [lv])
  refine Ev.step (f := fun k => n_Multiply.l1 k y out (i : Int) (x.getD i 0) 0 x (x.length : Int) (i : Int) y (y.length : Int) ((0 : Nat) : Int)) (fun k => ?_) hrec
  simp only [n_Multiply.l0]
  rw [if_pos (by omega), if_pos (by omega), if_pos (by omega), rd_nat]
  rfl
theorem Multiply_ev (a b : ByteArray) (ha : a.size ≤ 549755813000) (hb : b.size ≤ 549755813000) : Ev (fun k => n_Multiply.f k a b) (enc (nat a * nat b)) := by
 have la : (lim (nat a)).length ≤ 549755813000 := Nat.le_trans (lim_len (m := a.size) (by
  have h1 := nat_lt a
  have h2 : (256 : Nat) ^ a.size ≤ 4294967296 ^ a.size := Nat.pow_le_pow_left (by decide) _
  have h4 := Int.ofNat_lt.2 (show nat a < 4294967296 ^ a.size by omega)
  rw [Int.natCast_pow] at h4
  exact h4)) ha
 have lb_ : (lim (nat b)).length ≤ 549755813000 := Nat.le_trans (lim_len (m := b.size) (by
  have h1 := nat_lt b
  have h2 : (256 : Nat) ^ b.size ≤ 4294967296 ^ b.size := Nat.pow_le_pow_left (by decide) _
  have h4 := Int.ofNat_lt.2 (show nat b < 4294967296 ^ b.size by omega)
  rw [Int.natCast_pow] at h4
  exact h4)) hb
 unfold n_Multiply.f
 refine Ev.bind (parse_ev a (by omega)) (Ev.bind (parse_ev b (by omega)) ?_)
 have hrec := mul_outer (lim (nat a)) (lim (nat b)) (Lim_lim _) (Lim_lim _) (by omega) (lim (nat a)).length 0 (List.replicate ((lim (nat a)).length + (lim (nat b)).length) 0) (by omega) (by omega) (Lim.zeros _) (by simp) (by rw [List.drop_replicate, lv_zeros]) (by rw [lv_zeros]; simp [lv])
 rw [lv_lim, lv_lim, show ((nat a : Int) * (nat b : Int)).toNat = nat a * nat b by rw [← Int.natCast_mul, Int.toNat_natCast]] at hrec
 have e : wrap64 (((lim (nat a)).length : Int) + ((lim (nat b)).length : Int)) = (((lim (nat a)).length + (lim (nat b)).length : Nat) : Int) := by rw [w64 (by omega) (by omega)]; omega
 refine Ev.congr (fun k => ?_) hrec
 rw [e]
 clear e
 rw [if_pos (by omega), if_pos (by omega), Int.toNat_natCast]
 rfl
end Go.Proofs.YtppimdempdnhoaaDoor.C
namespace Go.Proofs.YtppimdempdnhoaaDoor.C
open Go.RowKit Go.PrWords Go.PrLast Go.PrMore
theorem tdiv_pos {a b : Int} (ha : 0 ≤ a) (hb : 0 ≤ b) : Int.tdiv a b = a / b := Int.tdiv_eq_ediv_of_nonneg ha
theorem tmod_pos {a b : Int} (ha : 0 ≤ a) (hb : 0 ≤ b) : Int.tmod a b = a % b := Int.tmod_eq_emod_of_nonneg ha
theorem two_limbs {r x : Int} (hr : 0 ≤ r ∧ r < 4294967296) (hx : 0 ≤ x ∧ x < 4294967296) : Go.bits .or .u64 (IntKind.u64.wrap (r * 4294967296)) (IntKind.u64.wrap x) = r * 4294967296 + x := by
 rw [wu64 (x := r * 4294967296) (by omega) (by omega), wu64 (x := x) (by omega) (by omega)]
 exact or64 32 (by omega) (by omega) (by omega) hx.1 (by omega) (by omega)
theorem small_loop {a : List Int} (ha : Lim a) (dv : Int) (hd0 : 0 < dv) (hd1 : dv < 4294967296) (hs : a.length ≤ 1099511627000) : ∀ (n : Nat) (out : List Int) (r : Int), n ≤ a.length → Lim out → out.length = a.length → 0 ≤ r → r < dv → lv (a.drop n) = lv (out.drop n) * dv + r →
  Ev (fun k => n_divideSmall.l0 k a dv out r ((n : Int) - 1)) (lim (lv a / dv).toNat, lv a % dv) := by
 intro n
 induction n with
 | zero =>
  intro out r hn ho hol hr0 hr1 hv
  simp only [List.drop_zero] at hv
  have hq : lv a / dv = lv out := by
   rw [hv, Int.add_comm, Int.add_mul_ediv_right _ _ (by omega), Int.ediv_eq_zero_of_lt hr0 hr1]; omega
  have hm : lv a % dv = r := by
   rw [hv, Int.add_comm, Int.add_mul_emod_self_right, Int.emod_eq_of_lt hr0 hr1]
  have ht := trim_all out ho (by omega)
  rw [hq, hm]
  refine Ev.step (f := fun k => (n_limbs_trim.f k out).bind fun t => some (t, r)) (fun k => ?_) (Ev.bind ht (Ev.now _))
  simp only [n_divideSmall.l0]
  rw [if_neg (by omega), Int.emod_eq_of_lt hr0 (by omega)]
 | succ n ih =>
  intro out r hn ho hol hr0 hr1 hv
  have e0 : ((n + 1 : Nat) : Int) - 1 = (n : Int) := by omega
  rw [e0]
  have bx := ha.at_ (n : Int)
  rw [rd_nat] at bx
  have h2 := two_limbs (r := r) (x := a.getD n 0) ⟨hr0, by omega⟩ bx
  have hdm := Int.mul_ediv_add_emod (r * 4294967296 + a.getD n 0) dv
  have hm0 := Int.emod_nonneg (r * 4294967296 + a.getD n 0) (by omega : dv ≠ 0)
  have hm1 := Int.emod_lt_of_pos (r * 4294967296 + a.getD n 0) hd0
  have hq0 : 0 ≤ (r * 4294967296 + a.getD n 0) / dv := Int.ediv_nonneg (by omega) (by omega)
  have hq1 : (r * 4294967296 + a.getD n 0) / dv < 4294967296 := Int.ediv_lt_of_lt_mul hd0 (by
   have : (r + 1) * 4294967296 ≤ dv * 4294967296 := Int.mul_le_mul_of_nonneg_right (by omega) (by omega)
   omega)
  have hdrop : lv ((out.set n ((r * 4294967296 + a.getD n 0) / dv)).drop n) = (r * 4294967296 + a.getD n 0) / dv + 4294967296 * lv (out.drop (n + 1)) := by
   rw [lv_drop_cons _ n (by rw [List.length_set]; omega), drop_set_lt _ _ _ _ (by omega)]
   rw [List.getD_eq_getElem?_getD, List.getElem?_set_self (by omega)]; rfl
  have hrec := ih (out.set n ((r * 4294967296 + a.getD n 0) / dv)) ((r * 4294967296 + a.getD n 0) % dv) (by omega) (ho.set _ hq0 hq1) (by rw [List.length_set]; exact hol) hm0 hm1 (by
   rw [hdrop, lv_drop_cons a n (by omega), hv, Int.add_mul, Int.mul_assoc]
   rw [Int.mul_comm dv] at hdm
   omega)
  refine Ev.step (f := fun k => n_divideSmall.l0 k a dv (out.set n ((r * 4294967296 + a.getD n 0) / dv)) ((r * 4294967296 + a.getD n 0) % dv) ((n : Int) - 1)) (fun k => ?_) hrec
  simp only [n_divideSmall.l0]
  rw [if_pos (by omega), if_pos (by omega), if_pos (by omega), rd_nat, wu64 (x := dv) (by omega) (by omega), if_neg (by omega), if_pos (by omega), h2]
  rw [tdiv_pos (by omega) (by omega), tmod_pos (by omega) (by omega), wu64 (x := (r * 4294967296 + a.getD n 0) / dv) hq0 (by omega), Int.emod_eq_of_lt hq0 hq1, Int.toNat_natCast]
  congr 1
  exact w64 (by omega) (by omega)
theorem small_ev {a : List Int} (ha : Lim a) (dv : Int) (hd0 : 0 < dv) (hd1 : dv < 4294967296) (hs : a.length ≤ 1099511627000) : Ev (fun k => n_divideSmall.f k a dv) (lim (lv a / dv).toNat, lv a % dv) := by
 have hrec := small_loop ha dv hd0 hd1 hs a.length (List.replicate a.length 0) 0 (Nat.le_refl _) (Lim.zeros _) (by simp) (by omega) hd0 (by simp [lv])
 refine Ev.congr (fun k => ?_) hrec
 unfold n_divideSmall.f
 rw [if_pos (by omega), if_pos (by omega), Int.toNat_natCast, w64 (by omega) (by omega)]
end Go.Proofs.YtppimdempdnhoaaDoor.C
namespace Go.Proofs.YtppimdempdnhoaaDoor.C
open Go.RowKit Go.PrWords Go.PrLast Go.PrMore
theorem lv_one (x : Int) : lv [x] = x := by simp [lv]
theorem divide_ev {a b : List Int} (ha : Lim a) (hb : Lim b) (ta : Trim a) (tb : Trim b) (hb0 : 0 < b.length) (h1 : a.length ≤ 549755813000) (c2 : b.length = 1) :
  Ev (fun k => n_divide.f k a b) (lim (lv a / lv b).toNat, lim (lv a % lv b).toNat) := by
 have a0 := lv_nonneg ha
 have hbp := trim_pos hb tb hb0
 have hb1 := BB_pos (b.length - 1)
 have hcmp := compare_ev ha hb ta tb (by omega) (by omega)
 unfold n_divide.f
 refine Ev.bind hcmp ?_
 by_cases c1 : lv a < lv b
 ·rw [icmp_lt c1]
  simp only [show (-1 : Int) < 0 by decide, if_true]
  rw [Int.ediv_eq_zero_of_lt a0 c1, Int.emod_eq_of_lt a0 c1, lim_of ha ta, show (0 : Int).toNat = 0 from rfl, lim_zero]
  exact Ev.now _
 ·have hc : ¬ icmp (lv a) (lv b) < 0 := by
   rcases Int.lt_or_eq_of_le (Int.not_lt.1 c1) with h | h
   ·rw [icmp_gt h]; decide
   ·rw [icmp_eq h.symm]; decide
  simp only [if_neg hc]
  have hlen := trim_len_le hb ha tb (Int.not_lt.1 c1)
  have hb2 : lv b = rd b 0 := by
   obtain ⟨x, rfl⟩ := List.length_eq_one_iff.1 c2
   simp [lv, rd]
  have bx := hb.at_ 0
  have hb3 : 0 < rd b 0 := by rw [← hb2]; omega
  have hs := small_ev ha (rd b 0) hb3 bx.2 (by omega)
  have hm0 := Int.emod_nonneg (lv a) (show lv b ≠ 0 by omega)
  have hm1 := Int.emod_lt_of_pos (lv a) (show 0 < lv b by omega)
  have ht := trim_all [lv a % rd b 0] (Lim.cons.2 ⟨by rw [← hb2]; omega, Lim.nil⟩) (by simp)
  rw [lv_one] at ht
  simp only [if_pos (show (b.length : Int) = 1 by omega), if_pos (show (0 : Int) < (b.length : Int) by omega)]
  rw [hb2]
  exact Ev.bind hs (Ev.bind ht (Ev.now _))
end Go.Proofs.YtppimdempdnhoaaDoor.C
namespace Go.Proofs.YtppimdempdnhoaaDoor.C
open Go.RowKit Go.PrWords Go.PrLast Go.PrMore
theorem lim_len_mono {m n : Nat} (h : m ≤ n) : (lim m).length ≤ (lim n).length := lim_len (by
 have h1 := lv_lt (Lim_lim n)
 rw [lv_lim] at h1
 have := Int.ofNat_le.2 h
 omega)
theorem lim_one {n : Nat} (hn : n ≠ 0) (h : n < 4294967296) : (lim n).length = 1 := by
 rw [lim_pos hn, Nat.div_eq_of_lt h, lim_zero]; rfl
theorem divideN_ev (m n : Nat) (hn : n ≠ 0) (h1 : (lim m).length ≤ 549755813000) (h2 : n < 4294967296) : Ev (fun k => n_divide.f k (lim m) (lim n)) (lim (m / n), lim (m % n)) := by
 have hp : 0 < (lim n).length := Nat.pos_of_ne_zero fun h => hn (lim_ne.1 h)
 have h := divide_ev (Lim_lim m) (Lim_lim n) (Trim_lim m) (Trim_lim n) hp h1 (lim_one hn h2)
 rw [lv_lim, lv_lim, ← Int.natCast_ediv, ← Int.natCast_emod, Int.toNat_natCast, Int.toNat_natCast] at h
 exact h
theorem gcd_loop : ∀ (n m : Nat), (lim m).length ≤ 549755813000 → n < 4294967296 → Ev (fun k => n_GCD.l0 k (lim m) (lim n)) (enc (Nat.gcd m n)) := by
 intro n
 induction n using Nat.strongRecOn with
 | ind n ih =>
  intro m h1 h2
  by_cases hn : n = 0
  ·subst hn
   have ht := text_ev (lim m) (Lim_lim m) (by omega)
   rw [lv_lim, Int.toNat_natCast] at ht
   rw [Nat.gcd_zero_right, lim_zero]
   refine Ev.step (f := fun k => (n_limbs_text.f k (lim m)).bind fun t => some t) (fun k => ?_) (Ev.bind ht (Ev.now _))
   simp only [n_GCD.l0]
   rw [if_neg (by simp)]
  ·have hp : 0 < (lim n).length := Nat.pos_of_ne_zero fun h => hn (lim_ne.1 h)
   have hr := ih (m % n) (Nat.mod_lt _ (Nat.pos_of_ne_zero hn)) n (by rw [lim_one hn h2]; decide) (by have := Nat.mod_lt m (Nat.pos_of_ne_zero hn); omega)
   rw [Nat.gcd_comm n, ← Nat.gcd_rec n m, Nat.gcd_comm n m] at hr
   refine Ev.step (f := fun k => (n_divide.f k (lim m) (lim n)).bind fun t => n_GCD.l0 k (lim n) t.2) (fun k => ?_) (Ev.bind (divideN_ev m n hn h1 h2) hr)
   simp only [n_GCD.l0]
   rw [if_pos (by omega)]
theorem lim_half (s : ByteArray) (h : s.size ≤ 549755813000) : (lim (nat s)).length ≤ 549755813000 := Nat.le_trans (lim_len (m := s.size) (by
  have h1 := nat_lt s
  have h2 : (256 : Nat) ^ s.size ≤ 4294967296 ^ s.size := Nat.pow_le_pow_left (by decide) _
  have h4 := Int.ofNat_lt.2 (show nat s < 4294967296 ^ s.size by omega)
  rw [Int.natCast_pow] at h4
  exact h4)) h
theorem GCD_ev (a b : ByteArray) (ha : a.size ≤ 549755813000) (hb : b.size ≤ 549755813000) (hs : nat b < 4294967296) : Ev (fun k => n_GCD.f k a b) (enc (Nat.gcd (nat a) (nat b))) := by
 unfold n_GCD.f
 exact Ev.bind (parse_ev a (by omega)) (Ev.bind (parse_ev b (by omega)) (gcd_loop _ _ (lim_half a ha) hs))
theorem Divide_ev (a b : ByteArray) (ha : a.size ≤ 549755813000) (hb : b.size ≤ 549755813000) (hn : nat b ≠ 0) (hs : nat b < 4294967296) : Ev (fun k => n_Divide.f k a b) (enc (nat a / nat b), enc (nat a % nat b), true) := by
 have hp : (lim (nat b)).length ≠ 0 := fun h => hn (lim_ne.1 h)
 have hd := divideN_ev (nat a) (nat b) hn (lim_half a ha) hs
 have l1 := lim_half a ha
 have l2 := lim_half b hb
 have t1 := text_ev (lim (nat a / nat b)) (Lim_lim _) (Nat.le_trans (lim_len_mono (Nat.div_le_self _ _)) (by omega))
 have t2 := text_ev (lim (nat a % nat b)) (Lim_lim _) (Nat.le_trans (lim_len_mono (Nat.le_of_lt (Nat.mod_lt _ (Nat.pos_of_ne_zero hn)))) (by omega))
 rw [lv_lim, Int.toNat_natCast] at t1 t2
 unfold n_Divide.f
 refine Ev.bind (parse_ev b (by omega)) ?_
 simp only [if_neg (show ¬ (((lim (nat b)).length : Int) = 0) by omega)]
 exact Ev.bind (parse_ev a (by omega)) (Ev.bind hd (Ev.bind t1 (Ev.bind t2 (Ev.now _))))
end Go.Proofs.YtppimdempdnhoaaDoor.C
namespace Go.Proofs.YtppimdempdnhoaaDoor.C
open Go.RowKit Go.PrWords Go.PrLast Go.PrMore
theorem tl_nil {s : ByteArray} : s.toList = ([] : List UInt8) ↔ s = ⟨#[]⟩ := by
 rw [Lib.toList_data]
 exact ⟨fun h => ba_ext (by rw [h]), fun h => by rw [h]⟩
theorem tl_one {s : ByteArray} : s.toList = ([1] : List UInt8) ↔ s = ⟨#[1]⟩ := by
 rw [Lib.toList_data]
 exact ⟨fun h => ba_ext (by rw [h]), fun h => by rw [h]⟩
theorem tl_eq {s t : ByteArray} : s.toList = t.toList ↔ s = t := by
 rw [Lib.toList_data, Lib.toList_data]
 exact ⟨ba_ext, fun h => by rw [h]⟩
theorem nat_nil : nat ⟨#[]⟩ = 0 := rfl
theorem nat_one : nat ⟨#[1]⟩ = 1 := rfl
theorem enc_one : enc 1 = ⟨#[1]⟩ := by unfold enc; rw [dig_pos (by decide), show 1 / 256 = 0 from rfl, dig_zero]; rfl
theorem enc_eq_nil {n : Nat} : enc n = ⟨#[]⟩ ↔ n = 0 := ⟨fun h => by rw [← nat_enc n, h, nat_nil], fun h => by rw [h, enc_zero]⟩
theorem enc_eq_one {n : Nat} : enc n = ⟨#[1]⟩ ↔ n = 1 := ⟨fun h => by rw [← nat_enc n, h, nat_one], fun h => by rw [h, enc_one]⟩
def eN (q : Rat) : Bool := decide (q.num < 0)
def eA (q : Rat) : ByteArray := enc q.num.natAbs
def dE (d : Nat) : ByteArray := if d = 1 then ⟨#[]⟩ else enc d
def eD (q : Rat) : ByteArray := dE q.den
def dV (d : ByteArray) : Nat := if d = ⟨#[]⟩ then 1 else nat d
instance : DecidableEq ByteArray := fun a b => if h : a.data = b.data then isTrue (by cases a; cases b; simp at h; rw [h]) else isFalse (fun e => h (by rw [e]))
def ok (n : Bool) (a d : ByteArray) : Bool := decide (enc (nat a) = a ∧ enc (nat d) = d ∧ (if nat a = 0 then n = false ∧ d = ⟨#[]⟩ else d = ⟨#[]⟩ ∨ nat d ≠ 1 ∧ Nat.gcd (nat a) (nat d) = 1))
def sgn (n : Bool) (a : Nat) : Int := if n then -(a : Int) else a
def val (n : Bool) (a d : ByteArray) : Rat := if ok n a d then mkRat (sgn n (nat a)) (dV d) else 0
theorem dV_dE {d : Nat} (h : d ≠ 0) : dV (dE d) = d := by
 unfold dE dV
 by_cases h1 : d = 1
 ·simp [h1]
 ·rw [if_neg h1, if_neg (fun e => h (enc_eq_nil.1 e)), nat_enc]
theorem nat_eA (q : Rat) : nat (eA q) = q.num.natAbs := nat_enc _
theorem sgn_e (q : Rat) : sgn (eN q) q.num.natAbs = q.num := by
 unfold sgn eN
 by_cases h : q.num < 0
 ·rw [if_pos (by simpa using h)]; omega
 ·rw [if_neg (by simpa using h)]; omega
theorem ok_e (q : Rat) : ok (eN q) (eA q) (eD q) = true := by
 unfold ok
 refine decide_eq_true ⟨by rw [nat_eA]; rfl, ?_, ?_⟩
 ·unfold eD dE
  by_cases h : q.den = 1
  ·rw [if_pos h, nat_nil, enc_zero]
  ·rw [if_neg h, nat_enc]
 ·rw [nat_eA]
  have hr := q.reduced
  by_cases h : q.num.natAbs = 0
  ·rw [if_pos h]
   unfold Nat.Coprime at hr
   rw [h, Nat.gcd_zero_left] at hr
   refine ⟨decide_eq_false (by omega), ?_⟩
   unfold eD dE
   rw [if_pos hr]
  ·rw [if_neg h]
   unfold eD dE
   by_cases h1 : q.den = 1
   ·rw [if_pos h1]; exact .inl rfl
   ·rw [if_neg h1, nat_enc]; exact .inr ⟨h1, hr⟩
theorem val_e (q : Rat) : val (eN q) (eA q) (eD q) = q := by
 unfold val
 rw [if_pos (ok_e q), nat_eA, sgn_e]
 show mkRat q.num (dV (dE q.den)) = q
 rw [dV_dE q.den_nz, Rat.mkRat_self]
theorem ok_ex {n : Bool} {a d : ByteArray} (h : ok n a d = true) : ∃ q, eN q = n ∧ eA q = a ∧ eD q = d := by
 obtain ⟨h1, h2, h3⟩ := of_decide_eq_true h
 by_cases ha : nat a = 0
 ·rw [if_pos ha] at h3
  obtain ⟨rfl, rfl⟩ := h3
  refine ⟨0, rfl, ?_, rfl⟩
  rw [← h1, ha]; rfl
 ·rw [if_neg ha] at h3
  have hd : dV d ≠ 0 := by
   unfold dV
   by_cases h4 : d = ⟨#[]⟩
   ·rw [if_pos h4]; decide
   ·rw [if_neg h4]; intro h5; rw [h5, enc_zero] at h2; exact h4 h2.symm
  have hc : Nat.Coprime (sgn n (nat a)).natAbs (dV d) := by
   have e1 : (sgn n (nat a)).natAbs = nat a := by unfold sgn; split <;> omega
   rw [e1]
   unfold dV
   by_cases h4 : d = ⟨#[]⟩
   ·rw [if_pos h4]; exact Nat.gcd_one_right _
   ·rw [if_neg h4]
    rcases h3 with h5 | h5
    ·exact absurd h5 h4
    ·exact h5.2
  refine ⟨⟨sgn n (nat a), dV d, hd, hc⟩, ?_, ?_, ?_⟩
  ·unfold eN sgn
   cases n
   ·exact decide_eq_false (by simp)
   ·exact decide_eq_true (by simp; omega)
  ·unfold eA
   have e1 : (sgn n (nat a)).natAbs = nat a := by unfold sgn; split <;> omega
   rw [e1, h1]
  ·show dE (dV d) = d
   unfold dE dV
   by_cases h4 : d = ⟨#[]⟩
   ·rw [if_pos h4, if_pos rfl, h4]
   ·rw [if_neg h4]
    rcases h3 with h5 | h5
    ·exact absurd h5 h4
    ·rw [if_neg h5.1, h2]
theorem val_ok {n : Bool} {a d : ByteArray} (h : ok n a d = true) : eN (val n a d) = n ∧ eA (val n a d) = a ∧ eD (val n a d) = d := by
 obtain ⟨q, rfl, rfl, rfl⟩ := ok_ex h
 rw [val_e]; exact ⟨rfl, rfl, rfl⟩
theorem val_bad {n : Bool} {a d : ByteArray} (h : ok n a d = false) : val n a d = 0 := by unfold val; rw [h]; rfl
theorem Valid_ev (n : Bool) (a d : ByteArray) (ha : a.size ≤ 549755813000) (hd : d.size ≤ 549755813000) (hs : nat d < 4294967296) : Ev (fun k => q_Valid.f k n a d) (ok n a d) := by
 unfold q_Valid.f
 refine Ev.bind (normalize_ev a) ?_
 simp only [tl_eq]
 by_cases h1 : enc (nat a) = a
 ·simp only [if_pos h1]
  refine Ev.bind (normalize_ev d) ?_
  by_cases h2 : enc (nat d) = d
  ·rw [show ((enc (nat d)).toList != d.toList) = false by rw [h2]; simp]
   by_cases h3 : a = ⟨#[]⟩
   ·have h4 : nat a = 0 := by rw [h3]; rfl
    refine Ev.step (f := fun _ => if n = true then some false else some (d.toList == ([] : List UInt8))) (fun k => ?_) ?_
    ·simp only [q_Valid.j0]
     rw [if_neg (by decide), if_pos (tl_nil.2 h3)]
    ·cases n
     ·rw [if_neg (by decide)]
      have : ok false a d = (d.toList == ([] : List UInt8)) := by
       unfold ok
       by_cases h5 : d = ⟨#[]⟩
       ·rw [decide_eq_true ⟨h1, h2, by rw [if_pos h4]; exact ⟨rfl, h5⟩⟩, tl_nil.2 h5]; rfl
       ·rw [decide_eq_false (fun ⟨_, _, h9⟩ => by rw [if_pos h4] at h9; exact h5 h9.2)]
        exact (beq_eq_false_iff_ne.2 (fun e => h5 (tl_nil.1 e))).symm
      rw [this]; exact Ev.now _
     ·rw [if_pos rfl]
      have : ok true a d = false := by
       unfold ok
       simp [h4]
      rw [this]; exact Ev.now _
   ·have h4 : nat a ≠ 0 := fun e => h3 (by rw [← h1, e, enc_zero])
    by_cases h5 : d = ⟨#[]⟩
    ·refine Ev.step (f := fun _ => some true) (fun k => ?_) ?_
     ·simp only [q_Valid.j0]
      rw [if_neg (by decide), if_neg (fun e => h3 (tl_nil.1 e)), if_pos (tl_nil.2 h5)]
     ·have : ok n a d = true := by
       unfold ok
       exact decide_eq_true ⟨h1, h2, by rw [if_neg h4]; exact .inl h5⟩
      rw [this]; exact Ev.now _
    ·by_cases h6 : d = ⟨#[1]⟩
     ·refine Ev.step (f := fun _ => some false) (fun k => ?_) ?_
      ·simp only [q_Valid.j0]
       rw [if_neg (by decide), if_neg (fun e => h3 (tl_nil.1 e)), if_neg (fun e => h5 (tl_nil.1 e)), if_pos (tl_one.2 h6)]
      ·have : ok n a d = false := by
        unfold ok
        refine decide_eq_false fun ⟨_, _, h7⟩ => ?_
        rw [if_neg h4] at h7
        rcases h7 with h7 | h7
        ·exact h5 h7
        ·exact h7.1 (by rw [h6]; rfl)
       rw [this]; exact Ev.now _
     ·have hg := GCD_ev a d ha hd hs
      refine Ev.step (f := fun k => (n_GCD.f k a d).bind fun t => some (t.toList == ([1] : List UInt8))) (fun k => ?_) ?_
      ·simp only [q_Valid.j0]
       rw [if_neg (by decide), if_neg (fun e => h3 (tl_nil.1 e)), if_neg (fun e => h5 (tl_nil.1 e)), if_neg (fun e => h6 (tl_one.1 e))]
      ·have h7 : nat d ≠ 1 := fun e => h6 (by rw [← h2, e, enc_one])
       have : ok n a d = ((enc (Nat.gcd (nat a) (nat d))).toList == ([1] : List UInt8)) := by
        unfold ok
        by_cases h8 : Nat.gcd (nat a) (nat d) = 1
        ·rw [decide_eq_true ⟨h1, h2, by rw [if_neg h4]; exact .inr ⟨h7, h8⟩⟩, h8, enc_one]; rw [tl_one.2 rfl]; rfl
        ·rw [decide_eq_false (fun ⟨_, _, h9⟩ => by
          rw [if_neg h4] at h9
          rcases h9 with h9 | h9
          ·exact h5 h9
          ·exact h8 h9.2)]
         exact (beq_eq_false_iff_ne.2 (fun e => h8 (enc_eq_one.1 (tl_one.1 e)))).symm
       rw [this]
       exact Ev.bind hg (Ev.now _)
  ·have : ok n a d = false := decide_eq_false fun h => h2 h.2.1
   rw [this, show ((enc (nat d)).toList != d.toList) = true by rw [bne_iff_ne]; exact fun e => h2 (tl_eq.1 e)]
   refine Ev.step (f := fun _ => some false) (fun k => ?_) (Ev.now _)
   simp only [q_Valid.j0]
   rfl
 ·have : ok n a d = false := decide_eq_false fun h => h1 h.1
  simp only [if_neg h1]
  rw [this]
  refine Ev.step (f := fun _ => some false) (fun k => ?_) (Ev.now _)
  simp only [q_Valid.j0]
  rfl
theorem clean_ev (n : Bool) (a d : ByteArray) (ha : a.size ≤ 549755813000) (hd : d.size ≤ 549755813000) (hs : nat d < 4294967296) : Ev (fun k => q_clean.f k n a d) (eN (val n a d), eA (val n a d), eD (val n a d)) := by
 unfold q_clean.f
 refine Ev.bind (Valid_ev n a d ha hd hs) ?_
 cases h : ok n a d
 ·rw [val_bad h]
  have e : eA 0 = (⟨#[]⟩ : ByteArray) := enc_zero
  rw [e]
  exact Ev.now _
 ·simp only [if_true]; rw [(val_ok h).1, (val_ok h).2.1, (val_ok h).2.2]; exact Ev.now _
end Go.Proofs.YtppimdempdnhoaaDoor.C
namespace Go.Proofs.YtppimdempdnhoaaDoor.C
open Go.RowKit Go.PrWords Go.PrLast Go.PrMore
theorem sgn_abs (n : Bool) (a : Nat) : (sgn n a).natAbs = a := by unfold sgn; split <;> omega
theorem sgn_div (n : Bool) (a g : Nat) (h : g ∣ a) : sgn n a / (g : Int) = sgn n (a / g) := by
 unfold sgn
 cases n
 ·simp
 ·simp only [if_true]
  rw [Int.neg_ediv_of_dvd (Int.natCast_dvd_natCast.2 h), Int.natCast_ediv]
theorem e_mk (n : Bool) (a b : Nat) (ha : a ≠ 0) (hb : b ≠ 0) : eN (mkRat (sgn n a) b) = n ∧ eA (mkRat (sgn n a) b) = enc (a / Nat.gcd a b) ∧ eD (mkRat (sgn n a) b) = dE (b / Nat.gcd a b) := by
 have hn : (mkRat (sgn n a) b).num = sgn n (a / Nat.gcd a b) := by
  rw [Rat.num_mkRat, if_neg hb, sgn_abs, Nat.gcd_comm b a, sgn_div _ _ _ (Nat.gcd_dvd_left a b)]
 have hp : 0 < a / Nat.gcd a b := Nat.div_pos (Nat.gcd_le_left b (Nat.pos_of_ne_zero ha)) (Nat.gcd_pos_of_pos_left b (Nat.pos_of_ne_zero ha))
 refine ⟨?_, ?_, ?_⟩
 ·unfold eN
  rw [hn]
  generalize a / Nat.gcd a b = c at hp
  unfold sgn
  cases n
  ·exact decide_eq_false (by simp)
  ·exact decide_eq_true (by simp; omega)
 ·unfold eA; rw [hn, sgn_abs]
 ·unfold eD; rw [Rat.den_mkRat, if_neg hb, sgn_abs, Nat.gcd_comm b a]
theorem reduced_ev (n : Bool) (a b : ByteArray) (ha : a.size ≤ 549755813000) (hb : b.size ≤ 549755813000) (h0 : nat b ≠ 0) (hs : nat b < 4294967296) : Ev (fun k => q_reduced.f k n a b) (eN (mkRat (sgn n (nat a)) (nat b)), eA (mkRat (sgn n (nat a)) (nat b)), eD (mkRat (sgn n (nat a)) (nat b))) := by
 have sa : (enc (nat a)).size ≤ 549755813000 := Nat.le_trans (enc_nat_size_le a) ha
 have sb : (enc (nat b)).size ≤ 549755813000 := Nat.le_trans (enc_nat_size_le b) hb
 unfold q_reduced.f
 refine Ev.bind (normalize_ev a) (Ev.bind (normalize_ev b) ?_)
 by_cases h1 : nat a = 0
 ·rw [h1, show sgn n 0 = 0 by unfold sgn; split <;> rfl, Rat.zero_mkRat]
  simp only [tl_nil, enc_zero, if_true]
  have e : eA 0 = (⟨#[]⟩ : ByteArray) := enc_zero
  rw [e]
  exact Ev.now _
 ·obtain ⟨e1, e2, e3⟩ := e_mk n (nat a) (nat b) h1 h0
  rw [e1, e2, e3]
  simp only [if_neg (show ¬ ((enc (nat a)).toList = ([] : List UInt8)) from fun e => h1 (enc_eq_nil.1 (tl_nil.1 e)))]
  by_cases h2 : nat b = 1
  ·simp only [if_pos (show (enc (nat b)).toList = ([1] : List UInt8) from tl_one.2 (enc_eq_one.2 h2))]
   rw [h2, Nat.gcd_one_right, Nat.div_one, show dE (1 / 1) = ⟨#[]⟩ from rfl]
   exact Ev.now _
  ·simp only [if_neg (show ¬ ((enc (nat b)).toList = ([1] : List UInt8)) from fun e => h2 (enc_eq_one.1 (tl_one.1 e)))]
   have hg := GCD_ev (enc (nat a)) (enc (nat b)) sa sb (by rw [nat_enc]; exact hs)
   rw [nat_enc, nat_enc] at hg
   refine Ev.bind hg ?_
   by_cases h3 : Nat.gcd (nat a) (nat b) = 1
   ·simp only [if_pos (show (enc (Nat.gcd (nat a) (nat b))).toList = ([1] : List UInt8) from tl_one.2 (enc_eq_one.2 h3))]
    rw [h3, Nat.div_one, Nat.div_one, show dE (nat b) = enc (nat b) by unfold dE; rw [if_neg h2]]
    exact Ev.now _
   ·simp only [if_neg (show ¬ ((enc (Nat.gcd (nat a) (nat b))).toList = ([1] : List UInt8)) from fun e => h3 (enc_eq_one.1 (tl_one.1 e)))]
    have hg0 : nat (enc (Nat.gcd (nat a) (nat b))) ≠ 0 := by rw [nat_enc]; exact fun e => h1 (Nat.gcd_eq_zero_iff.1 e).1
    have sg : (enc (Nat.gcd (nat a) (nat b))).size ≤ 549755813000 := Nat.le_trans (enc_size_mono (Nat.gcd_le_left _ (Nat.pos_of_ne_zero h1))) sa
    have hgs : nat (enc (Nat.gcd (nat a) (nat b))) < 4294967296 := by rw [nat_enc]; exact Nat.lt_of_le_of_lt (Nat.gcd_le_right _ (Nat.pos_of_ne_zero h0)) hs
    have d1 := Divide_ev (enc (nat a)) (enc (Nat.gcd (nat a) (nat b))) sa sg hg0 hgs
    have d2 := Divide_ev (enc (nat b)) (enc (Nat.gcd (nat a) (nat b))) sb sg hg0 hgs
    rw [nat_enc, nat_enc] at d1 d2
    refine Ev.bind d1 (Ev.bind d2 ?_)
    by_cases h4 : nat b / Nat.gcd (nat a) (nat b) = 1
    ·simp only [if_pos (show (enc (nat b / Nat.gcd (nat a) (nat b))).toList = ([1] : List UInt8) from tl_one.2 (enc_eq_one.2 h4))]
     rw [h4]; exact Ev.now _
    ·simp only [if_neg (show ¬ ((enc (nat b / Nat.gcd (nat a) (nat b))).toList = ([1] : List UInt8)) from fun e => h4 (enc_eq_one.1 (tl_one.1 e)))]
     rw [show dE (nat b / Nat.gcd (nat a) (nat b)) = enc (nat b / Nat.gcd (nat a) (nat b)) by unfold dE; rw [if_neg h4]]
     exact Ev.now _
theorem eA_nil {q : Rat} : (eA q).toList = ([] : List UInt8) ↔ q = 0 := by
 rw [tl_nil]; unfold eA; rw [enc_eq_nil]
 exact ⟨fun h => Rat.num_eq_zero.1 (by omega), fun h => by rw [h]; rfl⟩
def isgn (q : Rat) : Int := if q < 0 then -1 else if 0 < q then 1 else 0
theorem eN_lt (q : Rat) : eN q = true ↔ q < 0 := by
 unfold eN
 rw [decide_eq_true_iff, Rat.lt_iff]
 simp
theorem signOf_ev (q : Rat) : q_signOf.f (eN q) (eA q) (eD q) = some (isgn q) := by
 unfold q_signOf.f isgn
 by_cases h : q = 0
 ·rw [if_pos (eA_nil.2 h), h]; rfl
 ·rw [if_neg (fun e => h (eA_nil.1 e))]
  by_cases h1 : q < 0
  ·rw [if_pos ((eN_lt q).2 h1), if_pos h1]
  ·rw [if_neg (fun e => h1 ((eN_lt q).1 e)), if_neg h1, if_pos (by grind)]
theorem den_ev (q : Rat) : q_den.f (eN q) (eA q) (eD q) = some (enc q.den) := by
 unfold q_den.f
 unfold eD dE
 by_cases h : q.den = 1
 ·rw [if_pos h, if_pos (tl_nil.2 rfl), h, enc_one]
 ·rw [if_neg h, if_neg (fun e => q.den_nz (enc_eq_nil.1 (tl_nil.1 e)))]
theorem negate_ev (q : Rat) : q_negate.f (eN q) (eA q) (eD q) = some (eN (-q), eA (-q), eD (-q)) := by
 have e2 : eA (-q) = eA q := by unfold eA; rw [Rat.neg_num, Int.natAbs_neg]
 have e3 : eD (-q) = eD q := by unfold eD; rw [Rat.neg_den]
 unfold q_negate.f
 rw [e2, e3]
 by_cases h : eN q = true
 ·rw [if_pos h, show eN (-q) = false from by
   have := (eN_lt q).1 h
   rw [← Bool.not_eq_true, eN_lt]; grind]
 ·rw [if_neg h]
  have h1 : ¬ q < 0 := fun e => h ((eN_lt q).2 e)
  congr 2
  by_cases h2 : q = 0
  ·rw [eA_nil.2 h2, h2]; rfl
  ·rw [(eN_lt (-q)).2 (by grind)]
   exact bne_iff_ne.2 (fun e => h2 (eA_nil.1 e))
end Go.Proofs.YtppimdempdnhoaaDoor.C
namespace Go.Proofs.YtppimdempdnhoaaDoor.C
open Go.RowKit Go.PrWords Go.PrLast Go.PrMore
def Sz (n : Nat) (q : Rat) : Prop := q.num.natAbs < 256 ^ n ∧ q.den < 4294967296
theorem Sz.a {n : Nat} {q : Rat} (h : Sz n q) : (eA q).size ≤ n := enc_size_le h.1
theorem Sz.d {n : Nat} {q : Rat} (h : Sz n q) : (enc q.den).size ≤ 4 := enc_size_le (show q.den < 256 ^ 4 from h.2)
theorem Sz.eD {n : Nat} {q : Rat} (h : Sz n q) : (eD q).size ≤ 4 := by
 unfold C.eD dE
 split
 ·exact Nat.zero_le _
 ·exact h.d
theorem Sz.nD {n : Nat} {q : Rat} (h : Sz n q) : nat (C.eD q) < 4294967296 := by
 unfold C.eD dE
 split
 ·rw [nat_nil]; decide
 ·rw [nat_enc]; exact h.2
theorem clean_e (q : Rat) {n : Nat} (h : Sz n q) (hn : n ≤ 549755813000) : Ev (fun k => q_clean.f k (eN q) (eA q) (eD q)) (eN q, eA q, eD q) := by
 have := clean_ev (eN q) (eA q) (eD q) (Nat.le_trans h.a hn) (Nat.le_trans h.eD (by omega)) h.nD
 rw [val_e] at this
 exact this
theorem mul_size {a b m n : Nat} (ha : a < 256 ^ m) (hb : b < 256 ^ n) : a * b < 256 ^ (m + n) := by
 rw [Nat.pow_add]; exact Nat.mul_lt_mul'' ha hb
theorem add_j0 (p q : Rat) (X Y Z m : Nat) (hX : X < 256 ^ m) (hY : Y < 256 ^ m) (hZ : Z < 4294967296) (hm : m ≤ 549755812000) (h0 : Z ≠ 0) (dp dq : ByteArray) (ap aq : ByteArray) :
  Ev (fun k => q_add.j0 k (enc X) (enc Y) (enc Z) (eN p) ap dp (eN q) aq dq) (eN (mkRat (sgn (eN p) X + sgn (eN q) Y) Z), eA (mkRat (sgn (eN p) X + sgn (eN q) Y) Z), eD (mkRat (sgn (eN p) X + sgn (eN q) Y) Z)) := by
 have sx : (enc X).size ≤ m := enc_size_le hX
 have sy : (enc Y).size ≤ m := enc_size_le hY
 have sz : (enc Z).size ≤ 4 := enc_size_le (show Z < 256 ^ 4 from hZ)
 have nz : nat (enc Z) < 4294967296 := by rw [nat_enc]; exact hZ
 by_cases hs : eN p = eN q
 ·have ha := Add_ev (enc X) (enc Y) (by omega) (by omega)
  rw [nat_enc, nat_enc] at ha
  have sxy : (enc (X + Y)).size ≤ m + 1 := enc_size_le (by rw [Nat.pow_succ]; omega)
  have hr := reduced_ev (eN p) (enc (X + Y)) (enc Z) (by omega) (by omega) (by rw [nat_enc]; exact h0) nz
  rw [nat_enc, nat_enc, show sgn (eN p) (X + Y) = sgn (eN p) X + sgn (eN q) Y by rw [← hs]; unfold sgn; split <;> omega] at hr
  refine Ev.step (f := fun k => (n_Add.f k (enc X) (enc Y)).bind fun t => (q_reduced.f k (eN p) t (enc Z)).bind fun b => some (b.1, b.2.1, b.2.2)) (fun k => ?_) (Ev.bind ha (Ev.bind hr (Ev.now _)))
  simp only [q_add.j0]
  rw [if_pos (beq_iff_eq.2 hs)]
 ·have h1 := Subtract_ev (enc X) (enc Y) (by omega) (by omega)
  rw [nat_enc, nat_enc] at h1
  by_cases hlt : X < Y
  ·rw [if_pos hlt] at h1
   have h2 := Subtract_ev (enc Y) (enc X) (by omega) (by omega)
   rw [nat_enc, nat_enc, if_neg (by omega)] at h2
   have sd : (enc (Y - X)).size ≤ m := enc_size_le (by omega)
   have hr := reduced_ev (eN q) (enc (Y - X)) (enc Z) (by omega) (by omega) (by rw [nat_enc]; exact h0) nz
   rw [nat_enc, nat_enc, show sgn (eN q) (Y - X) = sgn (eN p) X + sgn (eN q) Y by
    unfold sgn
    cases hp : eN p <;> cases hq : eN q
    ·exact absurd (hp.trans hq.symm) hs
    ·simp; omega
    ·simp; omega
    ·exact absurd (hp.trans hq.symm) hs] at hr
   refine Ev.step (f := fun k => (n_Subtract.f k (enc X) (enc Y)).bind fun t => if t.2 = true then (q_reduced.f k (eN p) t.1 (enc Z)).bind fun b => some (b.1, b.2.1, b.2.2) else (n_Subtract.f k (enc Y) (enc X)).bind fun t => (q_reduced.f k (eN q) t.1 (enc Z)).bind fun b => some (b.1, b.2.1, b.2.2)) (fun k => ?_) (Ev.bind h1 ?_)
   ·simp only [q_add.j0]
    rw [if_neg (fun e => hs (beq_iff_eq.1 e))]
   ·simp only [if_neg (show ¬ (false = true) by decide)]
    exact Ev.bind h2 (Ev.bind hr (Ev.now _))
  ·rw [if_neg hlt] at h1
   have sd : (enc (X - Y)).size ≤ m := enc_size_le (by omega)
   have hr := reduced_ev (eN p) (enc (X - Y)) (enc Z) (by omega) (by omega) (by rw [nat_enc]; exact h0) nz
   rw [nat_enc, nat_enc, show sgn (eN p) (X - Y) = sgn (eN p) X + sgn (eN q) Y by
    unfold sgn
    cases hp : eN p <;> cases hq : eN q
    ·exact absurd (hp.trans hq.symm) hs
    ·simp; omega
    ·simp; omega
    ·exact absurd (hp.trans hq.symm) hs] at hr
   refine Ev.step (f := fun k => (n_Subtract.f k (enc X) (enc Y)).bind fun t => if t.2 = true then (q_reduced.f k (eN p) t.1 (enc Z)).bind fun b => some (b.1, b.2.1, b.2.2) else (n_Subtract.f k (enc Y) (enc X)).bind fun t => (q_reduced.f k (eN q) t.1 (enc Z)).bind fun b => some (b.1, b.2.1, b.2.2)) (fun k => ?_) (Ev.bind h1 ?_)
   ·simp only [q_add.j0]
    rw [if_neg (fun e => hs (beq_iff_eq.1 e))]
   ·simp only [if_true]
    exact Ev.bind hr (Ev.now _)
end Go.Proofs.YtppimdempdnhoaaDoor.C
namespace Go.Proofs.YtppimdempdnhoaaDoor.C
open Go.RowKit Go.PrWords Go.PrLast Go.PrMore
theorem sgn_mul (n : Bool) (a b : Nat) : sgn n (a * b) = sgn n a * (b : Int) := by
 unfold sgn
 split
 ·rw [Int.natCast_mul, Int.neg_mul]
 ·rw [Int.natCast_mul]
theorem eA_eq (q : Rat) : eA q = enc q.num.natAbs := rfl
theorem Sz.d4 {n : Nat} {q : Rat} (h : Sz n q) : q.den < 256 ^ 4 := Nat.lt_of_lt_of_eq h.2 (by decide)
theorem dE_inj {a b : Nat} (ha : a ≠ 0) (hb : b ≠ 0) (h : dE a = dE b) : a = b := by rw [← dV_dE ha, h, dV_dE hb]
theorem add_ev (p q : Rat) {m n : Nat} (hp : Sz m p) (hq : Sz n q) (hm : m ≤ 100000) (hn : n ≤ 100000) (hd : p.den * q.den < 4294967296) : Ev (fun k => q_add.f k (eN p) (eA p) (eD p) (eN q) (eA q) (eD q)) (eN (p + q), eA (p + q), eD (p + q)) := by
 have w : ∀ {x r : Nat}, x < 256 ^ r → r ≤ m + n + 4 → x < 256 ^ (m + n + 4) := fun hx hr => Nat.lt_of_lt_of_le hx (Nat.pow_le_pow_right (by decide) hr)
 have dp : Ev (fun _ => q_den.f (eN p) (eA p) (eD p)) (enc p.den) := by rw [den_ev p]; exact Ev.now _
 have dq : Ev (fun _ => q_den.f (eN q) (eA q) (eD q)) (enc q.den) := by rw [den_ev q]; exact Ev.now _
 unfold q_add.f
 by_cases h : p.den = q.den
 ·simp only [if_pos (show (eD p).toList = (eD q).toList by unfold eD; rw [h])]
  refine Ev.bind dp ?_
  have e1 : p + q = mkRat (sgn (eN p) p.num.natAbs + sgn (eN q) q.num.natAbs) p.den := by
   rw [sgn_e, sgn_e, Rat.add_def', ← h, ← Int.add_mul, Rat.mkRat_mul_right p.den_nz]
  rw [e1]
  have hj := add_j0 p q p.num.natAbs q.num.natAbs p.den (m + n + 4) (w hp.1 (by omega)) (w hq.1 (by omega)) hp.2 (by omega) p.den_nz (eD p) (eD q) (eA p) (eA q)
  rw [← eA_eq p, ← eA_eq q] at hj
  exact hj
 ·have hne : ¬ ((eD p).toList = (eD q).toList) := fun e => h (dE_inj p.den_nz q.den_nz (tl_eq.1 e))
  simp only [if_neg hne]
  have m1 := Multiply_ev (eA p) (enc q.den) (Nat.le_trans hp.a (by omega)) (Nat.le_trans hq.d (by omega))
  have m2 := Multiply_ev (eA q) (enc p.den) (Nat.le_trans hq.a (by omega)) (Nat.le_trans hp.d (by omega))
  have m3 := Multiply_ev (enc p.den) (enc q.den) (Nat.le_trans hp.d (by omega)) (Nat.le_trans hq.d (by omega))
  rw [nat_eA, nat_enc] at m1 m2
  rw [nat_enc, nat_enc] at m3
  have e1 : p + q = mkRat (sgn (eN p) (p.num.natAbs * q.den) + sgn (eN q) (q.num.natAbs * p.den)) (p.den * q.den) := by
   rw [sgn_mul, sgn_mul, sgn_e, sgn_e, Rat.add_def']
  rw [e1]
  exact Ev.bind dq (Ev.bind m1 (Ev.bind dp (Ev.bind m2 (Ev.bind dp (Ev.bind dq (Ev.bind m3 (add_j0 p q _ _ _ (m + n + 4) (w (r := m + 4) (mul_size hp.1 hq.d4) (by omega)) (w (r := n + 4) (mul_size hq.1 hp.d4) (by omega)) hd (by omega) (Nat.mul_ne_zero p.den_nz q.den_nz) (eD p) (eD q) (eA p) (eA q))))))))
def T (z : Int) : Rat := mkRat z 60
theorem T_den (z : Int) : (T z).den ≤ 60 := by
 unfold T
 rw [Rat.den_mkRat, if_neg (by decide)]
 exact Nat.div_le_self _ _
theorem T_num (z : Int) : (T z).num.natAbs ≤ z.natAbs := by
 unfold T
 rw [Rat.num_mkRat, if_neg (by decide)]
 exact Int.natAbs_ediv_le_natAbs _ _
theorem T_neg_iff (z : Int) : (T z).num < 0 ↔ z < 0 := by
 unfold T
 rw [Rat.num_mkRat, if_neg (by decide)]
 have hg : (0 : Int) < ((Nat.gcd 60 z.natAbs : Nat) : Int) := by have := Nat.gcd_pos_of_pos_left z.natAbs (show 0 < 60 by decide); omega
 have := Int.ediv_nonneg_iff_of_pos (a := z) hg
 omega
theorem T_cross (z : Int) : (T z).num * 60 = z * ((T z).den : Int) := by
 have h : mkRat (T z).num (T z).den = mkRat z 60 := Rat.mkRat_self _
 exact (Rat.mkRat_eq_iff (T z).den_nz (by decide)).1 h
theorem T_inj {z w : Int} (h : T z = T w) : z = w := by
 have := (Rat.mkRat_eq_iff (d₁ := 60) (d₂ := 60) (by decide) (by decide)).1 h
 omega
theorem T_add (z w : Int) : T z + T w = T (z + w) := by
 unfold T
 rw [Rat.mkRat_eq_div, Rat.mkRat_eq_div, Rat.mkRat_eq_div]
 grind
theorem T_neg (z : Int) : -T z = T (-z) := Rat.neg_mkRat _ _
theorem T_zero : T 0 = 0 := Rat.zero_mkRat _
def Mod (z : Int) : Prop := z.natAbs < 1152921504606846976
theorem Mod.sz {z : Int} (h : Mod z) : Sz 8 (T z) := ⟨Nat.lt_of_le_of_lt (T_num z) (Nat.lt_trans h (by decide)), Nat.lt_of_le_of_lt (T_den z) (by decide)⟩
theorem T_dens (z w : Int) : (T z).den * (T w).den < 4294967296 := Nat.lt_of_le_of_lt (Nat.mul_le_mul (T_den z) (T_den w)) (by decide)
def e3 (z : Int) : Bool × ByteArray × ByteArray := (eN (T z), eA (T z), eD (T z))
theorem add_z {z w : Int} (hz : Mod z) (hw : Mod w) : Ev (fun k => q_add.f k (e3 z).1 (e3 z).2.1 (e3 z).2.2 (e3 w).1 (e3 w).2.1 (e3 w).2.2) (e3 (z + w)) := by
 have := add_ev (T z) (T w) hz.sz hw.sz (by decide) (by decide) (T_dens z w)
 rw [T_add] at this
 exact this
theorem clean_z {z : Int} (hz : Mod z) : Ev (fun k => q_clean.f k (e3 z).1 (e3 z).2.1 (e3 z).2.2) (e3 z) := clean_e (T z) hz.sz (by decide)
theorem Add_z {z w : Int} (hz : Mod z) (hw : Mod w) : Ev (fun k => q_Add.f k (e3 z).1 (e3 z).2.1 (e3 z).2.2 (e3 w).1 (e3 w).2.1 (e3 w).2.2) (e3 (z + w)) := by
 unfold q_Add.f
 exact Ev.bind (clean_z hz) (Ev.bind (clean_z hw) (Ev.bind (add_z hz hw) (Ev.now _)))
theorem Mod.neg {z : Int} (h : Mod z) : Mod (-z) := by unfold Mod at *; omega
theorem Subtract_z {z w : Int} (hz : Mod z) (hw : Mod w) : Ev (fun k => q_Subtract.f k (e3 z).1 (e3 z).2.1 (e3 z).2.2 (e3 w).1 (e3 w).2.1 (e3 w).2.2) (e3 (z - w)) := by
 unfold q_Subtract.f
 refine Ev.bind (clean_z hz) (Ev.bind (clean_z hw) ?_)
 have hn : q_negate.f (e3 w).1 (e3 w).2.1 (e3 w).2.2 = some (e3 (-w)) := by
  have := negate_ev (T w)
  rw [T_neg] at this
  exact this
 simp only [hn, Option.bind_some]
 have := add_z hz hw.neg
 rw [← Int.sub_eq_add_neg] at this
 exact Ev.bind this (Ev.now _)
theorem T_lt0 (z : Int) : T z < 0 ↔ z < 0 := by rw [← eN_lt, ← T_neg_iff]; unfold eN; exact decide_eq_true_iff
theorem T_eq0 (z : Int) : T z = 0 ↔ z = 0 := ⟨fun h => T_inj (h.trans T_zero.symm), fun h => by rw [h, T_zero]⟩
theorem T_sgn (z : Int) : isgn (T z) = if z < 0 then -1 else if 0 < z then 1 else 0 := by
 unfold isgn
 have h1 := T_lt0 z
 have h2 := T_eq0 z
 by_cases c : z < 0
 ·rw [if_pos (h1.2 c), if_pos c]
 ·rw [if_neg (fun e => c (h1.1 e)), if_neg c]
  by_cases c0 : z = 0
  ·rw [h2.2 c0, c0]; rfl
  ·rw [if_pos (show 0 < z by omega), if_pos]
   have a1 : ¬ T z < 0 := fun e => c (h1.1 e)
   have a2 : T z ≠ 0 := fun e => c0 (h2.1 e)
   grind
theorem signOf_z (z : Int) : q_signOf.f (e3 z).1 (e3 z).2.1 (e3 z).2.2 = some (if z < 0 then -1 else if 0 < z then 1 else 0) := by
 have := signOf_ev (T z)
 rw [T_sgn] at this
 exact this
theorem T_icmp {z w : Int} (hz : 0 ≤ z) (hw : 0 ≤ w) : icmp (((T z).num.natAbs * (T w).den : Nat) : Int) (((T w).num.natAbs * (T z).den : Nat) : Int) = icmp z w := by
 have hp : (0 : Int) < ((T z).den : Int) * ((T w).den : Int) := Int.mul_pos (by have := (T z).den_nz; omega) (by have := (T w).den_nz; omega)
 have c1 := T_cross z
 have c2 := T_cross w
 have n1 : ((T z).num.natAbs : Int) = (T z).num := by have := T_neg_iff z; omega
 have n2 : ((T w).num.natAbs : Int) = (T w).num := by have := T_neg_iff w; omega
 rw [Int.natCast_mul, Int.natCast_mul, n1, n2]
 have e1 : (T z).num * ((T w).den : Int) * 60 = z * (((T z).den : Int) * ((T w).den : Int)) := by rw [Int.mul_right_comm, c1, Int.mul_assoc]
 have e2 : (T w).num * ((T z).den : Int) * 60 = w * (((T z).den : Int) * ((T w).den : Int)) := by rw [Int.mul_right_comm, c2, Int.mul_assoc, Int.mul_comm ((T w).den : Int)]
 generalize (T z).num * ((T w).den : Int) = X at e1 ⊢
 generalize (T w).num * ((T z).den : Int) = Y at e2 ⊢
 generalize ((T z).den : Int) * ((T w).den : Int) = D at e1 e2 hp
 rcases Int.lt_trichotomy z w with h | h | h
 ·have := Int.mul_lt_mul_of_pos_right h hp
  rw [icmp_lt h, icmp_lt (by omega)]
 ·subst h
  rw [icmp_eq rfl, icmp_eq (by omega)]
 ·have := Int.mul_lt_mul_of_pos_right h hp
  rw [icmp_gt h, icmp_gt (by omega)]
theorem Compare_z {z w : Int} (hz : Mod z) (hw : Mod w) (z0 : 0 ≤ z) (w0 : 0 ≤ w) : Ev (fun k => q_Compare.f k (e3 z).1 (e3 z).2.1 (e3 z).2.2 (e3 w).1 (e3 w).2.1 (e3 w).2.2) (icmp z w) := by
 unfold q_Compare.f
 refine Ev.bind (clean_z hz) (Ev.bind (clean_z hw) ?_)
 have d1 : Ev (fun _ => q_den.f (e3 z).1 (e3 z).2.1 (e3 z).2.2) (enc (T z).den) := by rw [show q_den.f (e3 z).1 (e3 z).2.1 (e3 z).2.2 = some (enc (T z).den) from den_ev (T z)]; exact Ev.now _
 have d2 : Ev (fun _ => q_den.f (e3 w).1 (e3 w).2.1 (e3 w).2.2) (enc (T w).den) := by rw [show q_den.f (e3 w).1 (e3 w).2.1 (e3 w).2.2 = some (enc (T w).den) from den_ev (T w)]; exact Ev.now _
 have g1 : Ev (fun _ => q_signOf.f (e3 z).1 (e3 z).2.1 (e3 z).2.2) (if z < 0 then -1 else if 0 < z then 1 else 0) := by rw [signOf_z]; exact Ev.now _
 have g2 : Ev (fun _ => q_signOf.f (e3 w).1 (e3 w).2.1 (e3 w).2.2) (if w < 0 then -1 else if 0 < w then 1 else 0) := by rw [signOf_z]; exact Ev.now _
 refine Ev.bind g1 (Ev.bind g2 ?_)
 have hN : ¬ ((e3 z).1 = true) := fun e => by have := (T_lt0 z).1 ((eN_lt (T z)).1 e); omega
 by_cases hs : (if z < 0 then (-1 : Int) else if 0 < z then 1 else 0) = (if w < 0 then (-1 : Int) else if 0 < w then 1 else 0)
 ·simp only [if_pos hs, if_neg hN]
  have m1 : Ev (fun k => n_Multiply.f k (e3 z).2.1 (enc (T w).den)) (enc ((T z).num.natAbs * (T w).den)) := by
   have m1 := Multiply_ev (eA (T z)) (enc (T w).den) (Nat.le_trans hz.sz.a (by decide)) (Nat.le_trans hw.sz.d (by decide))
   rw [nat_eA, nat_enc] at m1
   exact m1
  have m2 : Ev (fun k => n_Multiply.f k (e3 w).2.1 (enc (T z).den)) (enc ((T w).num.natAbs * (T z).den)) := by
   have m2 := Multiply_ev (eA (T w)) (enc (T z).den) (Nat.le_trans hw.sz.a (by decide)) (Nat.le_trans hz.sz.d (by decide))
   rw [nat_eA, nat_enc] at m2
   exact m2
  have s1 : (enc ((T z).num.natAbs * (T w).den)).size ≤ 12 := enc_size_le (mul_size (m := 8) (n := 4) hz.sz.1 hw.sz.d4)
  have s2 : (enc ((T w).num.natAbs * (T z).den)).size ≤ 12 := enc_size_le (mul_size (m := 8) (n := 4) hw.sz.1 hz.sz.d4)
  have hc := Compare_ev (enc ((T z).num.natAbs * (T w).den)) (enc ((T w).num.natAbs * (T z).den)) (by omega) (by omega)
  rw [nat_enc, nat_enc, T_icmp z0 w0] at hc
  exact Ev.bind d2 (Ev.bind m1 (Ev.bind d1 (Ev.bind m2 (Ev.bind hc (Ev.now _)))))
 ·simp only [if_neg hs]
  rcases Int.lt_trichotomy z w with h | h | h
  ·have : z = 0 := by
    by_cases c : 0 < z
    ·exact absurd (by rw [if_neg (by omega), if_pos c, if_neg (by omega), if_pos (by omega)]) hs
    ·omega
   subst this
   rw [icmp_lt h]
   simp only [if_neg (show ¬ ((0 : Int) < 0) by decide), if_neg (show ¬ (w < 0) by omega), if_pos h]
   exact Ev.now _
  ·exact absurd (by rw [h]) hs
  ·have : w = 0 := by
    by_cases c : 0 < w
    ·exact absurd (by rw [if_neg (show ¬ z < 0 by omega), if_pos (show 0 < z by omega), if_neg (show ¬ w < 0 by omega), if_pos c]) hs
    ·omega
   subst this
   rw [icmp_gt h]
   simp only [if_neg (show ¬ ((0 : Int) < 0) by decide), if_neg (show ¬ (z < 0) by omega), if_pos h]
   exact Ev.now _
theorem Min_z {z w : Int} (hz : Mod z) (hw : Mod w) (z0 : 0 ≤ z) (w0 : 0 ≤ w) : Ev (fun k => q_Min.f k (e3 z).1 (e3 z).2.1 (e3 z).2.2 (e3 w).1 (e3 w).2.1 (e3 w).2.2) (e3 (if z ≤ w then z else w)) := by
 unfold q_Min.f
 refine Ev.bind (Compare_z hz hw z0 w0) ?_
 by_cases h : z ≤ w
 ·rw [if_pos h]
  have hc : icmp z w ≤ 0 := by
   rcases Int.lt_or_eq_of_le h with h | h
   ·rw [icmp_lt h]; decide
   ·rw [icmp_eq h]; decide
  simp only [if_pos hc]
  exact Ev.bind (clean_z hz) (Ev.now _)
 ·rw [if_neg h]
  have hc : ¬ icmp z w ≤ 0 := by rw [icmp_gt (by omega)]; decide
  simp only [if_neg hc]
  exact Ev.bind (clean_z hw) (Ev.now _)
end Go.Proofs.YtppimdempdnhoaaDoor.C
end
section
namespace Go.Proofs.YtppimdempdnhoaaDoor.C
open Go.RowKit Go.PrWords Go.PrLast Go.PrMore
attribute [local go_sem] max2_int min2_int max_two min_two max_three min_three max_four min_four
set_option linter.unusedVariables false
set_option linter.unusedSimpArgs false
end Go.Proofs.YtppimdempdnhoaaDoor.C
end
