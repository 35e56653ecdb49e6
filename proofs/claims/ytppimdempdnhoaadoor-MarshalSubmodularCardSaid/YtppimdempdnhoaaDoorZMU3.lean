/- A part of the proof of marshalSubmodular_card (see YtppimdempdnhoaaDoorZMU6): what the functions that it reaches compute, each by its contract. -/
import Derived.Test.YtppimdempdnhoaaDoorZMU2
section
namespace Go.Proofs.YtppimdempdnhoaaDoor.C
set_option maxHeartbeats 8000000
set_option maxRecDepth 100000
open Go.RowKit Go.PrWords Go.PrLast Go.PrMore
attribute [local go_sem] max2_int min2_int max_two min_two max_three min_three max_four min_four
set_option linter.unusedVariables false
set_option linter.unusedSimpArgs false
def q_Max.f (k : Nat) (a0_0 : Bool) (a0_1 : ByteArray) (a0_2 : ByteArray) (a1_0 : Bool) (a1_1 : ByteArray) (a1_2 : ByteArray) : Option (Bool × ByteArray × ByteArray) := (q_Compare.f k a0_0 a0_1 a0_2 a1_0 a1_1 a1_2).bind fun t655 => (if t655 ≥ 0 then ((q_clean.f k a0_0 a0_1 a0_2).bind fun bt656 => (some (bt656.1, bt656.2.1, bt656.2.2))) else ((q_clean.f k a1_0 a1_1 a1_2).bind fun bt659 => (some (bt659.1, bt659.2.1, bt659.2.2))))
theorem q_Max.mono : ∀ a0 a1 a2 a3 a4 a5 k, LeO (q_Max.f k a0 a1 a2 a3 a4 a5) (q_Max.f (k + 1) a0 a1 a2 a3 a4 a5) := by
 intro a0 a1 a2 a3 a4 a5 k
 unfold q_Max.f
 repeat' first
   | (with_reducible first | exact q_Compare.mono _ _ _ _ _ _ _ | exact q_clean.mono _ _ _ _ | exact LeO.refl _ | exact LeO.none _ | refine LeO.ite ?_ ?_ | refine LeO.bind ?_ (fun _ => ?_))
theorem q_Max.calls (k : Nat) (a0_0 : Bool) (a0_1 : ByteArray) (a0_2 : ByteArray) (a1_0 : Bool) (a1_1 : ByteArray) (a1_2 : ByteArray) (r1 : Bool) (r2 : ByteArray) (r3 : ByteArray) (w : World) (h : q_Max.f k a0_0 a0_1 a0_2 a1_0 a1_1 a1_2 = some (r1, r2, r3)) :
  Calls Tryd.prog 69 #[.agg #[.bool a0_0, .string a0_1, .string a0_2], .agg #[.bool a1_0, .string a1_1, .string a1_2]] w fun e w' => e = .returned (.agg #[.bool r1, .string r2, .string r3]) ∧ Below w.heap.size w w' := by
 have hu32 := Tryd.underlying32
 have HB := mk_ (Below.refl w.heap.size w)
 have H := h
 unfold q_Max.f at H
 clear h
 obtain ⟨ra, A3, H⟩ := oB_ H
 (try dsimp only at H)
 replace H := iS_ H
 rcases H with ⟨c4, H⟩ | ⟨c4, H⟩
 ·have ua := decide_eq_true c4
  clear c4
  obtain ⟨⟨ga, ia, sa⟩, A5, H⟩ := oB_ H
  (try dsimp only at H)
  simp only [Option.some.injEq, Prod.mk.injEq] at H
  obtain ⟨rfl, rfl, rfl⟩ := H
  go_enter Tryd.func69, Tryd.ntmps69
  go_wp2_with (first | ((with_reducible refine gD_ (N := 2) rfl ?_); refine bX_ (N := 2) (cs := #[.bool a0_0, .string a0_1, .string a0_2]) (t := 32) ?_; intro va hg w6 hbox hb; have aa := mk_ (hbox); have wa := mk_ (gZ_ hg (bZ_ (xB_ HB))); have ca := mk_ (gZ_ hg (bZ_ (xB_ HB))); replace HB := mk_ (bT_ (xB_ HB) hb); clear hb hbox hg) | ((with_reducible refine gD_ (N := 3) rfl ?_); refine bX_ (N := 3) (cs := #[.bool a1_0, .string a1_1, .string a1_2]) (t := 32) ?_; intro xa hg w7 hbox hb; have ba := mk_ (hbox); have ya := mk_ (gZ_ hg (bZ_ (xB1_ HB ca))); have da := mk_ (gZ_ hg (bZ_ (xB1_ HB ca))); replace HB := mk_ (bT_ (xB1_ HB ca) hb); have ja := mk_ (gN_ hg (xK_ aa.out)); have ka := mk_ (gM_ hg (xK_ aa.out)); replace aa := mk_ (kB_ (xK_ aa.out) hb); clear hb hbox hg) | ((with_reducible refine gD_ (N := 4) rfl ?_); refine bX_ (N := 4) (cs := zC_) (t := 32) ?_; intro la hg w8 hbox hb; have ea := mk_ (hbox); have za := mk_ (gZ_ hg (bZ_ (xB2_ HB ca da))); have fa := mk_ (gZ_ hg (bZ_ (xB2_ HB ca da))); replace HB := mk_ (bT_ (xB2_ HB ca da) hb); have ma := mk_ (gN_ hg (xK_ aa.out)); have na := mk_ (gM_ hg (xK_ aa.out)); replace aa := mk_ (kB_ (xK_ aa.out) hb); have oa := mk_ (gN_ hg (xK_ ba.out)); have pa := mk_ (gM_ hg (xK_ ba.out)); replace ba := mk_ (kB_ (xK_ ba.out) hb); clear hb hbox hg; have hnb9 := ja.out; have hnc9 := ka.out; have hnb10 := ma.out; have hnc10 := na.out; obtain ⟨Aa, Ba, Ca, Da, Ea, Fa⟩ := kG3_ aa.out; have hnb12 := oa.out; have hnc12 := pa.out; obtain ⟨Ga, Ha, Ia, Ja, Ka, La⟩ := kG3_ ba.out) | ((with_reducible refine gC_ (f := 11) rfl ?_); refine gL_ (some 7) rfl rfl Tryd.func11 kr_ rfl #[.agg #[.bool a0_0, .string a0_1, .string a0_2], .agg #[.bool a1_0, .string a1_1, .string a1_2]] rfl mp_ ?_; (with_reducible refine (q_Compare.calls k a0_0 a0_1 a0_2 a1_0 a1_1 a1_2 ra _ A3.out).mono ?_); rintro e w14 ⟨rfl, hb⟩; refine ⟨_, rfl, ?_⟩; replace aa := mk_ (kB_ (xK_ aa.out) hb); replace ba := mk_ (kB_ (xK_ ba.out) hb); replace ea := mk_ (kB_ (xK_ ea.out) hb); replace HB := mk_ (bT_ (xB3_ HB ca da fa) hb); obtain ⟨Ma, Na, Oa, Pa, Qa, Ra⟩ := kG3_ aa.out) | ((with_reducible refine gC_ (f := 24) rfl ?_); refine gL_ (some 10) rfl rfl Tryd.func24 kr_ rfl #[.agg #[.bool a0_0, .string a0_1, .string a0_2]] rfl mp_ ?_; (with_reducible refine (q_clean.calls k a0_0 a0_1 a0_2 ga ia sa _ A5.out).mono ?_); rintro e w16 ⟨rfl, hb⟩; refine ⟨_, rfl, ?_⟩; replace aa := mk_ (kB_ (xK_ aa.out) hb); replace ba := mk_ (kB_ (xK_ ba.out) hb); replace ea := mk_ (kB_ (xK_ ea.out) hb); replace HB := mk_ (bT_ (xB3_ HB ca da fa) hb); obtain ⟨Sa, Ta, Ua, Va, Wa, Xa⟩ := kG3_ ea.out))
  refine bodyPost_ret (results_cell_row rfl _ _ la 32 #[.bool ga, .string ia, .string sa] (0, 0) _ rfl (by refine xk_ ?_; refine kQ_ (cs := #[.bool ga, .string ia, .string (⟨#[]⟩ : ByteArray)]) ?_ 2 _ rfl; refine kQ_ (cs := #[.bool ga, .string (⟨#[]⟩ : ByteArray), .string (⟨#[]⟩ : ByteArray)]) ?_ 1 _ rfl; refine kQ_ (cs := zC_) ?_ 0 _ rfl; exact ea.out) Tryd.underlying32 rfl kr_) rfl ?_
  exact ⟨rE_, xB3_ HB ca da fa⟩
 ·have ua := decide_eq_false c4
  clear c4
  obtain ⟨⟨ha, qa, ta⟩, A18, H⟩ := oB_ H
  (try dsimp only at H)
  simp only [Option.some.injEq, Prod.mk.injEq] at H
  obtain ⟨rfl, rfl, rfl⟩ := H
  go_enter Tryd.func69, Tryd.ntmps69
  go_wp2_with (first | ((with_reducible refine gD_ (N := 2) rfl ?_); refine bX_ (N := 2) (cs := #[.bool a0_0, .string a0_1, .string a0_2]) (t := 32) ?_; intro va hg w19 hbox hb; have aa := mk_ (hbox); have wa := mk_ (gZ_ hg (bZ_ (xB_ HB))); have ca := mk_ (gZ_ hg (bZ_ (xB_ HB))); replace HB := mk_ (bT_ (xB_ HB) hb); clear hb hbox hg) | ((with_reducible refine gD_ (N := 3) rfl ?_); refine bX_ (N := 3) (cs := #[.bool a1_0, .string a1_1, .string a1_2]) (t := 32) ?_; intro xa hg w20 hbox hb; have ba := mk_ (hbox); have ya := mk_ (gZ_ hg (bZ_ (xB1_ HB ca))); have da := mk_ (gZ_ hg (bZ_ (xB1_ HB ca))); replace HB := mk_ (bT_ (xB1_ HB ca) hb); have ja := mk_ (gN_ hg (xK_ aa.out)); have ka := mk_ (gM_ hg (xK_ aa.out)); replace aa := mk_ (kB_ (xK_ aa.out) hb); clear hb hbox hg) | ((with_reducible refine gD_ (N := 4) rfl ?_); refine bX_ (N := 4) (cs := zC_) (t := 32) ?_; intro la hg w21 hbox hb; have ea := mk_ (hbox); have za := mk_ (gZ_ hg (bZ_ (xB2_ HB ca da))); have fa := mk_ (gZ_ hg (bZ_ (xB2_ HB ca da))); replace HB := mk_ (bT_ (xB2_ HB ca da) hb); have ma := mk_ (gN_ hg (xK_ aa.out)); have na := mk_ (gM_ hg (xK_ aa.out)); replace aa := mk_ (kB_ (xK_ aa.out) hb); have oa := mk_ (gN_ hg (xK_ ba.out)); have pa := mk_ (gM_ hg (xK_ ba.out)); replace ba := mk_ (kB_ (xK_ ba.out) hb); clear hb hbox hg; have hnb22 := ja.out; have hnc22 := ka.out; have hnb23 := ma.out; have hnc23 := na.out; obtain ⟨Ya, Za, ab, bb, cb, db⟩ := kG3_ aa.out; have hnb25 := oa.out; have hnc25 := pa.out; obtain ⟨eb, fb, gb, ib, jb, kb⟩ := kG3_ ba.out) | ((with_reducible refine gC_ (f := 11) rfl ?_); refine gL_ (some 7) rfl rfl Tryd.func11 kr_ rfl #[.agg #[.bool a0_0, .string a0_1, .string a0_2], .agg #[.bool a1_0, .string a1_1, .string a1_2]] rfl mp_ ?_; (with_reducible refine (q_Compare.calls k a0_0 a0_1 a0_2 a1_0 a1_1 a1_2 ra _ A3.out).mono ?_); rintro e w27 ⟨rfl, hb⟩; refine ⟨_, rfl, ?_⟩; replace aa := mk_ (kB_ (xK_ aa.out) hb); replace ba := mk_ (kB_ (xK_ ba.out) hb); replace ea := mk_ (kB_ (xK_ ea.out) hb); replace HB := mk_ (bT_ (xB3_ HB ca da fa) hb); obtain ⟨mb, nb, ob, pb, qb, rb⟩ := kG3_ ba.out) | ((with_reducible refine gC_ (f := 24) rfl ?_); refine gL_ (some 12) rfl rfl Tryd.func24 kr_ rfl #[.agg #[.bool a1_0, .string a1_1, .string a1_2]] rfl mp_ ?_; (with_reducible refine (q_clean.calls k a1_0 a1_1 a1_2 ha qa ta _ A18.out).mono ?_); rintro e w29 ⟨rfl, hb⟩; refine ⟨_, rfl, ?_⟩; replace aa := mk_ (kB_ (xK_ aa.out) hb); replace ba := mk_ (kB_ (xK_ ba.out) hb); replace ea := mk_ (kB_ (xK_ ea.out) hb); replace HB := mk_ (bT_ (xB3_ HB ca da fa) hb); obtain ⟨sb, tb, ub, vb, wb, xb⟩ := kG3_ ea.out))
  refine bodyPost_ret (results_cell_row rfl _ _ la 32 #[.bool ha, .string qa, .string ta] (0, 0) _ rfl (by refine xk_ ?_; refine kQ_ (cs := #[.bool ha, .string qa, .string (⟨#[]⟩ : ByteArray)]) ?_ 2 _ rfl; refine kQ_ (cs := #[.bool ha, .string (⟨#[]⟩ : ByteArray), .string (⟨#[]⟩ : ByteArray)]) ?_ 1 _ rfl; refine kQ_ (cs := zC_) ?_ 0 _ rfl; exact ea.out) Tryd.underlying32 rfl kr_) rfl ?_
  exact ⟨rE_, xB3_ HB ca da fa⟩
def collateral_positive.f (k : Nat) (a0_0 : Bool) (a0_1 : ByteArray) (a0_2 : ByteArray) : Option (Bool × ByteArray × ByteArray) := (q_Max.f k a0_0 a0_1 a0_2 false (⟨#[]⟩ : ByteArray) (⟨#[]⟩ : ByteArray)).bind fun bt664 => (some (bt664.1, bt664.2.1, bt664.2.2))
theorem collateral_positive.mono : ∀ a0 a1 a2 k, LeO (collateral_positive.f k a0 a1 a2) (collateral_positive.f (k + 1) a0 a1 a2) := by
 intro a0 a1 a2 k
 unfold collateral_positive.f
 repeat' first
   | (with_reducible first | exact q_Max.mono _ _ _ _ _ _ _ | exact LeO.refl _ | exact LeO.none _ | refine LeO.ite ?_ ?_ | refine LeO.bind ?_ (fun _ => ?_))
theorem collateral_positive.calls (k : Nat) (a0_0 : Bool) (a0_1 : ByteArray) (a0_2 : ByteArray) (r1 : Bool) (r2 : ByteArray) (r3 : ByteArray) (w : World) (h : collateral_positive.f k a0_0 a0_1 a0_2 = some (r1, r2, r3)) :
  Calls Tryd.prog 55 #[.agg #[.bool a0_0, .string a0_1, .string a0_2]] w fun e w' => e = .returned (.agg #[.bool r1, .string r2, .string r3]) ∧ Below w.heap.size w w' := by
 have hu32 := Tryd.underlying32
 have HB := mk_ (Below.refl w.heap.size w)
 have H := h
 unfold collateral_positive.f at H
 clear h
 obtain ⟨⟨ca, ea, fa⟩, A2, H⟩ := oB_ H
 (try dsimp only at H)
 simp only [Option.some.injEq, Prod.mk.injEq] at H
 obtain ⟨rfl, rfl, rfl⟩ := H
 go_enter Tryd.func55, Tryd.ntmps55
 go_wp2_with (first | ((with_reducible refine gD_ (N := 1) rfl ?_); refine bX_ (N := 1) (cs := #[.bool a0_0, .string a0_1, .string a0_2]) (t := 32) ?_; intro ka hg w3 hbox hb; have aa := mk_ (hbox); have la := mk_ (gZ_ hg (bZ_ (xB_ HB))); have ba := mk_ (gZ_ hg (bZ_ (xB_ HB))); replace HB := mk_ (bT_ (xB_ HB) hb); clear hb hbox hg) | ((with_reducible refine gD_ (N := 2) rfl ?_); refine bX_ (N := 2) (cs := zC_) (t := 32) ?_; intro ha hg w4 hbox hb; have da := mk_ (hbox); have ma := mk_ (gZ_ hg (bZ_ (xB1_ HB ba))); have ga := mk_ (gZ_ hg (bZ_ (xB1_ HB ba))); replace HB := mk_ (bT_ (xB1_ HB ba) hb); have ia := mk_ (gN_ hg (xK_ aa.out)); have ja := mk_ (gM_ hg (xK_ aa.out)); replace aa := mk_ (kB_ (xK_ aa.out) hb); clear hb hbox hg; have hnb5 := ia.out; have hnc5 := ja.out; obtain ⟨na, oa, pa, qa, ra, sa⟩ := kG3_ aa.out) | ((with_reducible refine gC_ (f := 69) rfl ?_); refine gL_ (some 5) rfl rfl Tryd.func69 kr_ rfl #[.agg #[.bool a0_0, .string a0_1, .string a0_2], .agg zC_] rfl mp_ ?_; (with_reducible refine (q_Max.calls k a0_0 a0_1 a0_2 false (⟨#[]⟩ : ByteArray) (⟨#[]⟩ : ByteArray) ca ea fa _ A2.out).mono ?_); rintro e w7 ⟨rfl, hb⟩; refine ⟨_, rfl, ?_⟩; replace aa := mk_ (kB_ (xK_ aa.out) hb); replace da := mk_ (kB_ (xK_ da.out) hb); replace HB := mk_ (bT_ (xB2_ HB ba ga) hb); obtain ⟨ta, ua, va, wa, xa, ya⟩ := kG3_ da.out))
 refine bodyPost_ret (results_cell_row rfl _ _ ha 32 #[.bool ca, .string ea, .string fa] (0, 0) _ rfl (by refine xk_ ?_; refine kQ_ (cs := #[.bool ca, .string ea, .string (⟨#[]⟩ : ByteArray)]) ?_ 2 _ rfl; refine kQ_ (cs := #[.bool ca, .string (⟨#[]⟩ : ByteArray), .string (⟨#[]⟩ : ByteArray)]) ?_ 1 _ rfl; refine kQ_ (cs := zC_) ?_ 0 _ rfl; exact da.out) Tryd.underlying32 rfl kr_) rfl ?_
 exact ⟨rE_, xB2_ HB ba ga⟩
def bits_Add32.f (a0 : Int) (a1 : Int) (a2 : Int) : Option (Int × Int) := some ((IntKind.u64.wrap ((IntKind.u64.wrap ((IntKind.u64.wrap (a0)) + (IntKind.u64.wrap (a1)))) + (IntKind.u64.wrap (a2)))) % 4294967296, ((IntKind.u64.wrap ((IntKind.u64.wrap ((IntKind.u64.wrap (a0)) + (IntKind.u64.wrap (a1)))) + (IntKind.u64.wrap (a2)))) / 4294967296) % 4294967296)
theorem bits_Add32.calls (a0 : Int) (a1 : Int) (a2 : Int) (r1 : Int) (r2 : Int) (w : World) (h : bits_Add32.f a0 a1 a2 = some (r1, r2)) :
  Calls Tryd.prog 58 #[.int .u32 a0, .int .u32 a1, .int .u32 a2] w fun e w' => e = .returned (.tuple #[.int .u32 r1, .int .u32 r2]) ∧ D0_ w w' := by
 have H := h
 unfold bits_Add32.f at H
 clear h
 simp only [Option.some.injEq, Prod.mk.injEq] at H
 obtain ⟨rfl, rfl⟩ := H
 go_enter Tryd.func58, Tryd.ntmps58
 go_wp2
 go_ret2
 exact ⟨rS_, by repeat (first | exact D0_.refl _ | apply D0_.step)⟩
mutual
def n_Add.j0 : Nat → List Int → List Int → Option (ByteArray)
 | 0, _, _ => none
 | k + 1, x5, x6 => if 0 ≤ (wrap64 ((x5.length : Int) + 1)) then (if (wrap64 ((x5.length : Int) + 1) : Int).toNat ≤ 70368744177664 then (n_Add.l0 k x5 x6 (List.replicate (wrap64 ((x5.length : Int) + 1) : Int).toNat 0) 0 (x5.length : Int) 0) else (none)) else (none)
def n_Add.l0 : Nat → List Int → List Int → List Int → Int → Int → Int → Option (ByteArray)
 | 0, _, _, _, _, _, _ => none
 | k + 1, x5, x6, x7, x8, x27, x28 => if x28 < x27 then (if x28 < (x6.length : Int) then (if 0 ≤ x28 then (if x28 < (x5.length : Int) then ((bits_Add32.f (rd x5 x28) (rd x6 x28) x8).bind fun bt543 => (if x28 < (x7.length : Int) then (n_Add.l0 k x5 x6 (x7.set (x28 : Int).toNat bt543.1) bt543.2 x27 (wrap64 (x28 + 1))) else (none))) else (none)) else (none)) else (if 0 ≤ x28 then (if x28 < (x5.length : Int) then ((bits_Add32.f (rd x5 x28) 0 x8).bind fun bt547 => (if x28 < (x7.length : Int) then (n_Add.l0 k x5 x6 (x7.set (x28 : Int).toNat bt547.1) bt547.2 x27 (wrap64 (x28 + 1))) else (none))) else (none)) else (none))) else (if 0 ≤ (x5.length : Int) then (if (x5.length : Int) < (x7.length : Int) then ((n_limbs_text.f k (x7.set ((x5.length : Int) : Int).toNat x8)).bind fun t551 => (some t551)) else (none)) else (none))
end
def n_Add.f (k : Nat) (a0 : ByteArray) (a1 : ByteArray) : Option (ByteArray) := (n_parse.f k a0).bind fun t532 => ((n_parse.f k a1).bind fun t535 => (if (t532.length : Int) < (t535.length : Int) then (n_Add.j0 k t535 t532) else (n_Add.j0 k t532 t535)))
theorem n_Add.mono_l : ∀ k, (∀ y0 y1, LeO (n_Add.j0 k y0 y1) (n_Add.j0 (k + 1) y0 y1)) ∧ (∀ y0 y1 y2 y3 y4 y5, LeO (n_Add.l0 k y0 y1 y2 y3 y4 y5) (n_Add.l0 (k + 1) y0 y1 y2 y3 y4 y5))
 | 0 => ⟨fun _ _ r h => by simp [n_Add.j0] at h, fun _ _ _ _ _ _ r h => by simp [n_Add.l0] at h⟩
 | k + 1 => by
  obtain ⟨ih0, ih1⟩ := n_Add.mono_l k
  refine ⟨?_, ?_⟩
  ·intro y0 y1
   unfold n_Add.j0
   repeat' first
   | (with_reducible first | exact ih0 _ _ | exact ih1 _ _ _ _ _ _ | exact n_limbs_text.mono _ _ | exact n_parse.mono _ _ | exact LeO.refl _ | exact LeO.none _ | refine LeO.ite ?_ ?_ | refine LeO.bind ?_ (fun _ => ?_))
  ·intro y0 y1 y2 y3 y4 y5
   unfold n_Add.l0
   repeat' first
   | (with_reducible first | exact ih0 _ _ | exact ih1 _ _ _ _ _ _ | exact n_limbs_text.mono _ _ | exact n_parse.mono _ _ | exact LeO.refl _ | exact LeO.none _ | refine LeO.ite ?_ ?_ | refine LeO.bind ?_ (fun _ => ?_))
theorem n_Add.mono : ∀ a0 a1 k, LeO (n_Add.f k a0 a1) (n_Add.f (k + 1) a0 a1) := by
 intro a0 a1 k
 obtain ⟨ih0, ih1⟩ := n_Add.mono_l k
 unfold n_Add.f
 repeat' first
   | (with_reducible first | exact ih0 _ _ | exact ih1 _ _ _ _ _ _ | exact n_limbs_text.mono _ _ | exact n_parse.mono _ _ | exact LeO.refl _ | exact LeO.none _ | refine LeO.ite ?_ ?_ | refine LeO.bind ?_ (fun _ => ?_))
theorem n_Add.calls (k : Nat) (a0 : ByteArray) (a1 : ByteArray) (r : ByteArray) (w : World) (h : n_Add.f k a0 a1 = some r) :
  Calls Tryd.prog 41 #[.string a0, .string a1] w fun e w' => e = .returned (.string r) ∧ Below w.heap.size w w' := by
 have HB := mk_ (Below.refl w.heap.size w)
 have H := h
 unfold n_Add.f at H
 clear h
 obtain ⟨ra, A3, H⟩ := oB_ H
 (try dsimp only at H)
 obtain ⟨sa, A4, H⟩ := oB_ H
 (try dsimp only at H)
 have HC5 := mk_ H
 clear H
 go_enter Tryd.func41, Tryd.ntmps41
 go_upto_if 19 with (first | ((with_reducible refine gC_ (f := 47) rfl ?_); refine gL_ (some 12) rfl rfl Tryd.func47 kr_ rfl #[.string a0] rfl mp_ ?_; (with_reducible refine (n_parse.calls k a0 ra _ A3.out).mono ?_); rintro e w6 ⟨zb, rfl, ho0, hb⟩; refine ⟨_, rfl, ?_⟩; have n0_ := mk_ (Kd.rL_ ho0 (bZ_ (xB_ HB))); have n1_ := mk_ (bT_ (xB_ HB) hb); clear HB; have la := n0_; have HB := n1_; clear n0_ n1_; (try clear hb); (try clear hb2); (try clear hk); (try clear hi); (try clear ho0)) | ((with_reducible refine gC_ (f := 47) rfl ?_); refine gL_ (some 14) rfl rfl Tryd.func47 kr_ rfl #[.string a1] rfl mp_ ?_; (with_reducible refine (n_parse.calls k a1 sa _ A4.out).mono ?_); rintro e w7 ⟨Ab, rfl, ho0, hb⟩; refine ⟨_, rfl, ?_⟩; have n0_ := mk_ (Kd.R_elder' (xR_ la.out) (Kd.R_base ho0) hb); have n1_ := mk_ (Kd.rL_ (Kd.R_new' ho0 (Kd.R_lt (xR_ la.out))) (bZ_ (xB_ HB))); have n2_ := mk_ (bT_ (xB_ HB) hb); clear la HB; have la := n0_; have Ha := n1_; have HB := n2_; clear n0_ n1_ n2_; (try clear hb); (try clear hb2); (try clear hk); (try clear hi); (try clear ho0); obtain ⟨Ao8, co8, eo8⟩ := Kd.rS_' la.out; subst eo8; obtain ⟨Ao9, co9, eo9⟩ := Kd.rS_' Ha.out; subst eo9))
 (try simp only [Act.put, s1_, s2_, s3_])
 go_cut [5, 6] (fun v5 v6 wc => ∃ (kq : Nat) (aa : List Int) (ga : List Int), A0_ (n_Add.j0 kq aa ga = some r) ∧ A0_ (kq ≤ k) ∧ A0_ (Kd.R (Kd.int .u32) 80 wc w.heap.size (fun k_ => some k_ ≠ (v6 : Value).ownBlock) v5 aa) ∧ A0_ (Kd.R (Kd.int .u32) 80 wc w.heap.size (fun k_ => some k_ ≠ (v5 : Value).ownBlock) v6 ga) ∧ A0_ (Below w.heap.size w wc))
 case first =>
  have H := HC5.out
  clear HC5
  replace H := iS_ H
  rcases H with ⟨c10, H⟩ | ⟨c10, H⟩
  ·have ta := decide_eq_true c10
   have Ia : decide (ra.length < sa.length) = true := decide_eq_true (Int.ofNat_lt.mp c10)
   clear c10
   (first | rw [ta] | rw [Ia] | (simp only [i6_, i3_]; rw [ta]) | skip)
   have H' := mk_ H
   clear H
   go_wp2
   go_meet
   case rel => exact ⟨_, (sa), (ra), H', ⟨by first | omega | exact Nat.le_refl _⟩, ⟨by refine xr_ ?_; exact Kd.rM_ Ha.out (fun _ hk => hk.2)⟩, ⟨by refine xr_ ?_; exact Kd.rM_ la.out (fun _ hk => hk.2)⟩, ⟨xB_ HB⟩⟩
  ·have ta := decide_eq_false c10
   have Ia : decide (ra.length < sa.length) = false := decide_eq_false (fun h => c10 (Int.ofNat_lt.mpr h))
   clear c10
   (first | rw [ta] | rw [Ia] | (simp only [i6_, i3_]; rw [ta]) | skip)
   have H' := mk_ H
   clear H
   go_wp2
   go_meet
   case rel => exact ⟨_, (ra), (sa), H', ⟨by first | omega | exact Nat.le_refl _⟩, ⟨by refine xr_ ?_; exact Kd.rM_ la.out (fun _ hk => hk.2)⟩, ⟨by refine xr_ ?_; exact Kd.rM_ Ha.out (fun _ hk => hk.2)⟩, ⟨xB_ HB⟩⟩
 case rest =>
  clear HC5
  obtain ⟨kq, aa, ga, HA, HJ4, ea, fa, HB⟩ := hcut
  cases kq with
  | zero => exact absurd HA.out (by simp [n_Add.j0])
  | succ kj4 =>
   have H := HA.out
   clear HA
   simp only [n_Add.j0] at H
   obtain ⟨ma, Ea⟩ : ∃ j_ : Int, (wrap64 ((aa.length : Int) + 1)) = j_ := ⟨_, rfl⟩
   replace H : (if 0 ≤ (ma) then (if (ma : Int).toNat ≤ 70368744177664 then (n_Add.l0 kj4 aa ga (List.replicate (ma : Int).toNat 0) 0 (aa.length : Int) 0) else (none)) else (none)) = some r := by first | (rw [Ea] at H; exact H) | (simp only [Ea] at H ⊢; exact H)
   have Bb : (IntKind.i64.wrap ((aa.length : Int) + 1)) = ma := (i6_ _).trans Ea
   obtain ⟨Cb, Db, H⟩ := iE_ H
   obtain ⟨Eb, Fb, H⟩ := iE_ H
   obtain ⟨ib, Ja⟩ : ∃ y_ : List Int, y_ = (List.replicate (ma : Int).toNat 0) := ⟨_, rfl⟩
   (first | rw [← Ja] at H | skip); (try with_reducible replace H := (Option.bind_some _ _).symm.trans H); (try dsimp only at H)
   have Ta := mk_ Ja
   clear Ja
   have H' := mk_ H
   clear H
   obtain ⟨ua, ha, jb⟩ := Kd.rS_' ea.out
   subst jb
   go_wp2_with (first | ((with_reducible refine gD_ (N := 25) rfl ?_); refine Kd.R_make (Kd.int .u32) _ 80 rfl (N := 25) rfl 78 _ _ rfl ma rfl rfl Tryd.underlying78 (.int .u32 0) 4 info80 rfl (by decide) (by omega) 0 (ok := fun _ => True) (okp := fun _ => True) rfl (fun _ hk => hk) trivial (oD_) (Nat.le_trans (Nat.mul_le_mul_right _ (oD_ : ma.toNat ≤ 70368744177664)) (by omega)) (Below.refl _ _) (Nat.le_refl _) ?_; intro ja w15 na hb hg_ hnew_; clear hg_ hnew_; (first | rw [← Ta.out] at na | (simp only [Int.reduceToNat] at na; rw [← Ta.out] at na)); have kb := mk_ (Kd.rL_ (Kd.R_new' (Kd.R_new' na (Kd.R_lt (xR_ ea.out))) (Kd.R_lt (xR_ fa.out))) (bZ_ (xB_ HB))); replace ea := mk_ (Kd.R_elder' (xR_ ea.out) (Kd.R_base na) hb); replace fa := mk_ (Kd.R_elder' (xR_ fa.out) (Kd.R_base na) hb); replace HB := mk_ (bT_ (xB_ HB) hb); clear hb na))
   go_loopg [8, 28] kj4 (fun kq v8 v28 w' => ∃ (ca : List Int) (ia : Int) (ba : Int), v8 = .int .u32 ia ∧ v28 = .int .i64 ba ∧ A0_ (n_Add.l0 kq aa ga ca ia (aa.length : Int) ba = some r) ∧ A0_ (kq ≤ kj4) ∧ A0_ (Kd.R (Kd.int .u32) 80 w' w.heap.size (fun k_ => some k_ ≠ (u6 : Value).ownBlock ∧ some k_ ≠ (ja : Value).ownBlock) (.slice ua aa.length ha) aa) ∧ A0_ (Kd.R (Kd.int .u32) 80 w' w.heap.size (fun k_ => some k_ ≠ ((.slice ua aa.length ha) : Value).ownBlock ∧ some k_ ≠ (ja : Value).ownBlock) u6 ga) ∧ A0_ (Kd.R (Kd.int .u32) 80 w' w.heap.size (fun k_ => some k_ ≠ ((.slice ua aa.length ha) : Value).ownBlock ∧ some k_ ≠ (u6 : Value).ownBlock) ja ca) ∧ A0_ (Below w.heap.size w w'))
   case atStart => exact ⟨(ib), (0), (0), (rS_), (rS_), H', ⟨Nat.le_refl _⟩, ⟨by refine xr_ ?_; exact ea.out⟩, ⟨by refine xr_ ?_; exact fa.out⟩, ⟨by refine xr_ ?_; exact Kd.rM_ kb.out (fun _ hk => ⟨hk.1.2, hk.2⟩)⟩, ⟨xB_ HB⟩⟩
   case round =>
    clear H'
    obtain ⟨ca, ia, ba, rfl, rfl, HA, HK2, ea, fa, da, HB⟩ := hrel
    cases gk with
    | zero => exact absurd HA.out (by simp [n_Add.l0])
    | succ k2 =>
     have H := HA.out
     clear HA
     simp only [n_Add.l0] at H
     replace H := iS_ H
     rcases H with ⟨c17, H⟩ | ⟨c17, H⟩
     ·have mb := decide_eq_true c17
      clear c17
      replace H := iS_ H
      rcases H with ⟨c18, H⟩ | ⟨c18, H⟩
      ·have nb := decide_eq_true c18
       clear c18
       obtain ⟨Gb, H⟩ := iD_ H
       obtain ⟨Hb, H⟩ := iD_ H
       obtain ⟨⟨Fa, Ua⟩, A21, H⟩ := oB_ H
       (try dsimp only at H)
       obtain ⟨Ib, H⟩ := iD_ H
       obtain ⟨Va, Ka⟩ : ∃ y_ : List Int, y_ = (ca.set (ba : Int).toNat Fa) := ⟨_, rfl⟩
       (first | rw [← Ka] at H | skip); (try with_reducible replace H := (Option.bind_some _ _).symm.trans H); (try dsimp only at H)
       have ob := mk_ Ka
       clear Ka
       have H' := mk_ H
       clear H
       obtain ⟨Jb, va, pb⟩ := Kd.rS_' fa.out
       subst pb
       have La : 0 ≤ (ba : Int) := oD_
       have Ma : ba < (ga.length : Int) := oD_
       obtain ⟨wa, qb, Kb⟩ := Kd.at_int (Kd.rr_' fa.out).2.2 ba La Ma
       cases qb
       replace La := eq_true La
       replace Ma := eq_true Ma
       have Na : 0 ≤ (ba : Int) := oD_
       have Oa : ba < (aa.length : Int) := oD_
       obtain ⟨xa, rb, Lb⟩ := Kd.at_int (Kd.rr_' ea.out).2.2 ba Na Oa
       cases rb
       replace Na := eq_true Na
       replace Oa := eq_true Oa
       go_wp2_with (first | ((with_reducible refine gC_ (f := 58) rfl ?_); refine gL_ (some 48) rfl rfl Tryd.func58 kr_ rfl #[.int .u32 (rd aa ba), .int .u32 (rd ga ba), .int .u32 ia] rfl mp_ ?_; (with_reducible refine (bits_Add32.calls (rd aa ba) (rd ga ba) ia Fa Ua _ A21.out).mono ?_); rintro e w' ⟨rfl, ⟨nd, rfl⟩⟩; refine ⟨_, rfl, ?_⟩; (try (rw [drewN_self wr]; generalize hq_ : World.drewN wr _ = wr; replace ea : A0_ (Kd.R (Kd.int .u32) 80 wr w.heap.size (fun k_ => some k_ ≠ (.slice (some wa) ga.length va : Value).ownBlock ∧ some k_ ≠ (ja : Value).ownBlock) (.slice (some xa) aa.length ha) aa) := ⟨by rw [← hq_]; exact (xR_ ea.out)⟩; replace fa : A0_ (Kd.R (Kd.int .u32) 80 wr w.heap.size (fun k_ => some k_ ≠ (.slice (some xa) aa.length ha : Value).ownBlock ∧ some k_ ≠ (ja : Value).ownBlock) (.slice (some wa) ga.length va) ga) := ⟨by rw [← hq_]; exact (xR_ fa.out)⟩; replace da : A0_ (Kd.R (Kd.int .u32) 80 wr w.heap.size (fun k_ => some k_ ≠ (.slice (some xa) aa.length ha : Value).ownBlock ∧ some k_ ≠ (.slice (some wa) ga.length va : Value).ownBlock) ja ca) := ⟨by rw [← hq_]; exact (xR_ da.out)⟩; replace HB : A0_ (Below w.heap.size w wr) := ⟨by rw [← hq_]; exact (xB_ HB)⟩; clear hq_)); have p23 : 0 ≤ (ba : Int) := oD_; have q23 : (ba : Int) < ((ca.length : Int) : Int) := oD_; obtain ⟨oa, ya, Wa, Xa, gl23, cl23, Ya⟩ := Kd.R_form da.out (by omega); (first | cases Wa | (injection Wa with ea_ en_ ec_; (first | subst ea_ | (injection ea_ with ea_; subst ea_)); subst ec_; clear en_)); have GB23 := mk_ Xa; have GG23 := mk_ Ya; clear Xa gl23 Ya; obtain ⟨Mb, Nb⟩ := Kd.R_celln 0 da.out (ba : Int) p23 q23; replace p23 := eq_true p23; replace q23 := eq_true q23; obtain ⟨Ob, Pb⟩ := Kd.R_celln 0 da.out (ba : Int) (oD_) (oD_); have HP25 := Kd.R_putg da.out (ba : Int) Fa) | ((with_reducible refine gate_store (t := 80) (p := 51) rfl ?_); refine store_event (t := 80) (p := 51) (v := ?vo_w26) (w1 := (wr.setCell ⟨oa, (ba : Int).toNat, none⟩ (.int .u32 Fa))) ?hg ?ho ?hn ?hr ?_; (case ho => rfl); (case hg => rfl); (case hn => rfl); (case hr => first | (go_simp; done) | (go_simp; rfl)); intro w26 hw; have hg : wr.grownBy w26 (some oa) := (by rw [hw]; exact HP25.2); have hp_ : Kd.R (Kd.int .u32) 80 w26 w.heap.size (fun k_ => some k_ ≠ (.slice (some xa) aa.length ha : Value).ownBlock ∧ some k_ ≠ (.slice (some wa) ga.length va : Value).ownBlock) (.slice (some ⟨oa, 0, none⟩) ca.length ya) Va := (by rw [hw, ob.out]; exact HP25.1); clear HP25; replace ea := mk_ (Kd.R_after (v := (.slice (some ⟨oa, 0, none⟩) ca.length ya)) (v1 := (.slice (some ⟨oa, 0, none⟩) ca.length ya)) (ok := (fun k_ => some k_ ≠ (.slice (some wa) ga.length va : Value).ownBlock)) (xR_ ea.out) hg (.inl rfl)); replace fa := mk_ (Kd.R_after (v := (.slice (some ⟨oa, 0, none⟩) ca.length ya)) (v1 := (.slice (some ⟨oa, 0, none⟩) ca.length ya)) (ok := (fun k_ => some k_ ≠ (.slice (some xa) aa.length ha : Value).ownBlock)) (xR_ fa.out) hg (.inl rfl)); replace da := mk_ (hp_); replace HB := mk_ ((by rw [hw]; exact bS_ (HB.out) GB23.out : Below w.heap.size w w26)); clear hg hw hp_))
       (try simp only [ap_])
       go_roundg k2
       case measure => have := HJ4.out; have := HK2.out; omega
       case rel => exact ⟨(Va), (Ua), (wrap64 (ba + 1)), (rS_), (rS_), H', ⟨by have := HJ4.out; have := HK2.out; omega⟩, ⟨by refine xr_ ?_; exact ea.out⟩, ⟨by refine xr_ ?_; exact fa.out⟩, ⟨by refine xr_ ?_; exact da.out⟩, ⟨xB_ HB⟩⟩
      ·have nb := decide_eq_false c18
       clear c18
       obtain ⟨Qb, H⟩ := iD_ H
       obtain ⟨Rb, H⟩ := iD_ H
       obtain ⟨⟨Ga, Za⟩, A29, H⟩ := oB_ H
       (try dsimp only at H)
       obtain ⟨Sb, H⟩ := iD_ H
       obtain ⟨ab, Pa⟩ : ∃ y_ : List Int, y_ = (ca.set (ba : Int).toNat Ga) := ⟨_, rfl⟩
       (first | rw [← Pa] at H | skip); (try with_reducible replace H := (Option.bind_some _ _).symm.trans H); (try dsimp only at H)
       have sb := mk_ Pa
       clear Pa
       have H' := mk_ H
       clear H
       obtain ⟨za, Aa, tb⟩ := Kd.rS_' fa.out
       subst tb
       have Qa : 0 ≤ (ba : Int) := oD_
       have Ra : ba < (aa.length : Int) := oD_
       obtain ⟨Ba, ub, Tb⟩ := Kd.at_int (Kd.rr_' ea.out).2.2 ba Qa Ra
       cases ub
       replace Qa := eq_true Qa
       replace Ra := eq_true Ra
       go_wp2_with (first | ((with_reducible refine gC_ (f := 58) rfl ?_); refine gL_ (some 48) rfl rfl Tryd.func58 kr_ rfl #[.int .u32 (rd aa ba), .int .u32 0, .int .u32 ia] rfl mp_ ?_; (with_reducible refine (bits_Add32.calls (rd aa ba) 0 ia Ga Za _ A29.out).mono ?_); rintro e w' ⟨rfl, ⟨nd, rfl⟩⟩; refine ⟨_, rfl, ?_⟩; (try (rw [drewN_self wr]; generalize hq_ : World.drewN wr _ = wr; replace ea : A0_ (Kd.R (Kd.int .u32) 80 wr w.heap.size (fun k_ => some k_ ≠ (.slice za ga.length Aa : Value).ownBlock ∧ some k_ ≠ (ja : Value).ownBlock) (.slice (some Ba) aa.length ha) aa) := ⟨by rw [← hq_]; exact (xR_ ea.out)⟩; replace fa : A0_ (Kd.R (Kd.int .u32) 80 wr w.heap.size (fun k_ => some k_ ≠ (.slice (some Ba) aa.length ha : Value).ownBlock ∧ some k_ ≠ (ja : Value).ownBlock) (.slice za ga.length Aa) ga) := ⟨by rw [← hq_]; exact (xR_ fa.out)⟩; replace da : A0_ (Kd.R (Kd.int .u32) 80 wr w.heap.size (fun k_ => some k_ ≠ (.slice (some Ba) aa.length ha : Value).ownBlock ∧ some k_ ≠ (.slice za ga.length Aa : Value).ownBlock) ja ca) := ⟨by rw [← hq_]; exact (xR_ da.out)⟩; replace HB : A0_ (Below w.heap.size w wr) := ⟨by rw [← hq_]; exact (xB_ HB)⟩; clear hq_)); have p31 : 0 ≤ (ba : Int) := oD_; have q31 : (ba : Int) < ((ca.length : Int) : Int) := oD_; obtain ⟨pa, Ca, bb, cb, gl31, cl31, db⟩ := Kd.R_form da.out (by omega); (first | cases bb | (injection bb with ea_ en_ ec_; (first | subst ea_ | (injection ea_ with ea_; subst ea_)); subst ec_; clear en_)); have GB31 := mk_ cb; have GG31 := mk_ db; clear cb gl31 db; obtain ⟨Ub, Vb⟩ := Kd.R_celln 0 da.out (ba : Int) p31 q31; replace p31 := eq_true p31; replace q31 := eq_true q31; obtain ⟨Wb, Xb⟩ := Kd.R_celln 0 da.out (ba : Int) (oD_) (oD_); have HP33 := Kd.R_putg da.out (ba : Int) Ga) | ((with_reducible refine gate_store (t := 80) (p := 51) rfl ?_); refine store_event (t := 80) (p := 51) (v := ?vo_w34) (w1 := (wr.setCell ⟨pa, (ba : Int).toNat, none⟩ (.int .u32 Ga))) ?hg ?ho ?hn ?hr ?_; (case ho => rfl); (case hg => rfl); (case hn => rfl); (case hr => first | (go_simp; done) | (go_simp; rfl)); intro w34 hw; have hg : wr.grownBy w34 (some pa) := (by rw [hw]; exact HP33.2); have hp_ : Kd.R (Kd.int .u32) 80 w34 w.heap.size (fun k_ => some k_ ≠ (.slice (some Ba) aa.length ha : Value).ownBlock ∧ some k_ ≠ (.slice za ga.length Aa : Value).ownBlock) (.slice (some ⟨pa, 0, none⟩) ca.length Ca) ab := (by rw [hw, sb.out]; exact HP33.1); clear HP33; replace ea := mk_ (Kd.R_after (v := (.slice (some ⟨pa, 0, none⟩) ca.length Ca)) (v1 := (.slice (some ⟨pa, 0, none⟩) ca.length Ca)) (ok := (fun k_ => some k_ ≠ (.slice za ga.length Aa : Value).ownBlock)) (xR_ ea.out) hg (.inl rfl)); replace fa := mk_ (Kd.R_after (v := (.slice (some ⟨pa, 0, none⟩) ca.length Ca)) (v1 := (.slice (some ⟨pa, 0, none⟩) ca.length Ca)) (ok := (fun k_ => some k_ ≠ (.slice (some Ba) aa.length ha : Value).ownBlock)) (xR_ fa.out) hg (.inl rfl)); replace da := mk_ (hp_); replace HB := mk_ ((by rw [hw]; exact bS_ (HB.out) GB31.out : Below w.heap.size w w34)); clear hg hw hp_))
       (try simp only [ap_])
       go_roundg k2
       case measure => have := HJ4.out; have := HK2.out; omega
       case rel => exact ⟨(ab), (Za), (wrap64 (ba + 1)), (rS_), (rS_), H', ⟨by have := HJ4.out; have := HK2.out; omega⟩, ⟨by refine xr_ ?_; exact ea.out⟩, ⟨by refine xr_ ?_; exact fa.out⟩, ⟨by refine xr_ ?_; exact da.out⟩, ⟨xB_ HB⟩⟩
     ·have mb := decide_eq_false c17
      clear c17
      obtain ⟨c35, H⟩ := iP_ H
      have Yb := decide_eq_true c35
      have Zb : decide (0 ≤ aa.length) = true := decide_eq_true (by omega)
      clear c35
      obtain ⟨c36, H⟩ := iP_ H
      have ac := decide_eq_true c36
      have bc : decide (aa.length < ca.length) = true := decide_eq_true (Int.ofNat_lt.mp c36)
      clear c36
      obtain ⟨Da, Sa⟩ : ∃ y_ : List Int, y_ = (ca.set ((aa.length : Int) : Int).toNat ia) := ⟨_, rfl⟩
      (first | rw [← Sa] at H | skip); (try with_reducible replace H := (Option.bind_some _ _).symm.trans H); (try dsimp only at H)
      have vb := mk_ Sa
      clear Sa
      obtain ⟨wb, A38, H⟩ := oB_ H
      (try dsimp only at H)
      obtain rfl := Option.some.inj H
      have p37 : 0 ≤ ((aa.length : Int) : Int) := oD_
      have q37 : ((aa.length : Int) : Int) < ((ca.length : Int) : Int) := oD_
      obtain ⟨ka, qa, eb, fb, gl37, cl37, gb⟩ := Kd.R_form da.out (by omega)
      (first | cases eb | (injection eb with ea_ en_ ec_; (first | subst ea_ | (injection ea_ with ea_; subst ea_)); subst ec_; clear en_))
      have GB37 := mk_ fb
      have GG37 := mk_ gb
      clear fb gl37 gb
      obtain ⟨xb, yb⟩ := Kd.R_celln 0 da.out ((aa.length : Int) : Int) p37 q37
      (try simp only [Int.toNat_natCast] at xb yb)
      replace p37 := eq_true p37
      replace q37 := eq_true q37
      have HP39 := Kd.R_putg da.out ((aa.length : Int) : Int) ia
      go_wp2_with (first | ((with_reducible refine gate_store (t := 80) (p := 57) rfl ?_); refine store_event (t := 80) (p := 57) (v := ?vo_w40) (w1 := (wr.setCell ⟨ka, ((aa.length : Int) : Int).toNat, none⟩ (.int .u32 ia))) ?hg ?ho ?hn ?hr ?_; (case ho => rfl); (case hg => rfl); (case hn => rfl); (case hr => first | (go_simp; done) | (go_simp; rfl)); intro w40 hw; have hg : wr.grownBy w40 (some ka) := (by rw [hw]; exact HP39.2); have hp_ : Kd.R (Kd.int .u32) 80 w40 w.heap.size (fun k_ => some k_ ≠ (.slice ua aa.length ha : Value).ownBlock ∧ some k_ ≠ (u6 : Value).ownBlock) (.slice (some ⟨ka, 0, none⟩) ca.length qa) Da := (by rw [hw, vb.out]; exact HP39.1); clear HP39; replace ea := mk_ (Kd.R_after (v := (.slice (some ⟨ka, 0, none⟩) ca.length qa)) (v1 := (.slice (some ⟨ka, 0, none⟩) ca.length qa)) (ok := (fun k_ => some k_ ≠ (u6 : Value).ownBlock)) (xR_ ea.out) hg (.inl rfl)); replace fa := mk_ (Kd.R_after (v := (.slice (some ⟨ka, 0, none⟩) ca.length qa)) (v1 := (.slice (some ⟨ka, 0, none⟩) ca.length qa)) (ok := (fun k_ => some k_ ≠ (.slice ua aa.length ha : Value).ownBlock)) (xR_ fa.out) hg (.inl rfl)); replace da := mk_ (hp_); replace HB := mk_ ((by rw [hw]; exact bS_ (HB.out) GB37.out : Below w.heap.size w w40)); clear hg hw hp_) | ((with_reducible refine gC_ (f := 48) rfl ?_); refine gL_ (some 59) rfl rfl Tryd.func48 kr_ rfl #[.slice (some ⟨ka, 0, none⟩) Da.length qa] rfl (by (try simp only [List.map_toArray, List.map_cons, List.map_nil]); first | done | (rw [show Da.length = ca.length from (Kd.rr_' da.out).1.symm] <;> rfl) | rfl | (simp only [List.length_drop, List.length_take]; rfl)) ?_; (with_reducible refine (n_limbs_text.calls k2 _ _ Da wb _ ?side1 ?side2 A38.out).mono ?_); (case side1 => repeat (first | exact (Kd.rr_' da.out).2.2 | (with_reducible refine Kd.C_alloc ?_ _) | (with_reducible refine Kd.C_drewN ?_ _) | (with_reducible refine Kd.C_drew ?_))); (case side2 => rw [show Da.length = ca.length from (Kd.rr_' da.out).1.symm]; exact (Kd.rr_' da.out).2.1); rintro e w41 ⟨rfl, hb⟩; refine ⟨_, rfl, ?_⟩; replace ea := mk_ (Kd.rB_ (xR_ ea.out) hb); replace fa := mk_ (Kd.rB_ (xR_ fa.out) hb); replace da := mk_ (Kd.rB_ (xR_ da.out) hb); replace HB := mk_ (bT_ (xB_ HB) hb)))
      go_ret
      exact ⟨by first | rfl | (simp [eN_', eS_] <;> rfl) | (simp only [← Ea]; first | rfl | (simp [eN_', eS_] <;> rfl)) | (simp [*, eN_', eS_] <;> rfl), xB_ HB⟩
def bits_Sub32.f (a0 : Int) (a1 : Int) (a2 : Int) : Option (Int × Int) := some ((((a0 - a1) % 4294967296) - a2) % 4294967296, (Go.bits .or .u32 (Go.bits .and .u32 (Go.bits .xor .u32 4294967295 a0) a1) (Go.bits .and .u32 (Go.bits .xor .u32 4294967295 (Go.bits .xor .u32 a0 a1)) ((((a0 - a1) % 4294967296) - a2) % 4294967296))) / 2147483648)
theorem bits_Sub32.calls (a0 : Int) (a1 : Int) (a2 : Int) (r1 : Int) (r2 : Int) (w : World) (h : bits_Sub32.f a0 a1 a2 = some (r1, r2)) :
  Calls Tryd.prog 71 #[.int .u32 a0, .int .u32 a1, .int .u32 a2] w fun e w' => e = .returned (.tuple #[.int .u32 r1, .int .u32 r2]) ∧ D0_ w w' := by
 have H := h
 unfold bits_Sub32.f at H
 clear h
 simp only [Option.some.injEq, Prod.mk.injEq] at H
 obtain ⟨rfl, rfl⟩ := H
 go_enter Tryd.func71, Tryd.ntmps71
 go_wp2
 go_ret2
 exact ⟨rS_, by repeat (first | exact D0_.refl _ | apply D0_.step)⟩
def n_subtract.l0 : Nat → List Int → List Int → List Int → Int → Int → Int → Option (List Int)
 | 0, _, _, _, _, _, _ => none
 | k + 1, x0, x1, x5, x6, x13, x14 => if x14 < x13 then (if x14 < (x1.length : Int) then (if 0 ≤ x14 then (if x14 < (x0.length : Int) then ((bits_Sub32.f (rd x0 x14) (rd x1 x14) x6).bind fun bt557 => (if x14 < (x5.length : Int) then (n_subtract.l0 k x0 x1 (x5.set (x14 : Int).toNat bt557.1) bt557.2 x13 (wrap64 (x14 + 1))) else (none))) else (none)) else (none)) else (if 0 ≤ x14 then (if x14 < (x0.length : Int) then ((bits_Sub32.f (rd x0 x14) 0 x6).bind fun bt561 => (if x14 < (x5.length : Int) then (n_subtract.l0 k x0 x1 (x5.set (x14 : Int).toNat bt561.1) bt561.2 x13 (wrap64 (x14 + 1))) else (none))) else (none)) else (none))) else ((n_limbs_trim.f k x5).bind fun t564 => (some t564))
def n_subtract.f (k : Nat) (l0 : List Int) (l1 : List Int) : Option (List Int) := if 0 ≤ (l0.length : Int) then (if ((l0.length : Int) : Int).toNat ≤ 70368744177664 then (n_subtract.l0 k l0 l1 (List.replicate ((l0.length : Int) : Int).toNat 0) 0 (l0.length : Int) 0) else (none)) else (none)
theorem n_subtract.mono_l : ∀ k, (∀ y0 y1 y2 y3 y4 y5, LeO (n_subtract.l0 k y0 y1 y2 y3 y4 y5) (n_subtract.l0 (k + 1) y0 y1 y2 y3 y4 y5))
 | 0 => fun _ _ _ _ _ _ r h => by simp [n_subtract.l0] at h
 | k + 1 => by
  have ih0 := n_subtract.mono_l k
  ·intro y0 y1 y2 y3 y4 y5
   unfold n_subtract.l0
   repeat' first
   | (with_reducible first | exact ih0 _ _ _ _ _ _ | exact n_limbs_trim.mono _ _ | exact LeO.refl _ | exact LeO.none _ | refine LeO.ite ?_ ?_ | refine LeO.bind ?_ (fun _ => ?_))
theorem n_subtract.mono : ∀ a0 a1 k, LeO (n_subtract.f k a0 a1) (n_subtract.f (k + 1) a0 a1) := by
 intro a0 a1 k
 have ih0 := n_subtract.mono_l k
 unfold n_subtract.f
 repeat' first
   | (with_reducible first | exact ih0 _ _ _ _ _ _ | exact n_limbs_trim.mono _ _ | exact LeO.refl _ | exact LeO.none _ | refine LeO.ite ?_ ?_ | refine LeO.bind ?_ (fun _ => ?_))
theorem n_subtract.calls (k : Nat) (A0 : Option Addr) (c0 : Nat) (l0 : List Int) (A1 : Option Addr) (c1 : Nat) (l1 : List Int) (r : List Int) (w : World) (hr0 : Kd.C (Kd.int .u32) w A0 l0.length l0) (hc0 : l0.length ≤ c0) (hr1 : Kd.C (Kd.int .u32) w A1 l1.length l1) (hc1 : l1.length ≤ c1) (h : n_subtract.f k l0 l1 = some r) :
  Calls Tryd.prog 60 #[.slice A0 l0.length c0, .slice A1 l1.length c1] w fun e w' => ∃ v0_ : Value, e = .returned (v0_) ∧ Kd.R (Kd.int .u32) 80 w' w.heap.size (fun _ => True) v0_ r ∧ Below w.heap.size w w' := by
 have HR0 := mk_ hr0
 have HC0 := mk_ hc0
 clear hr0 hc0
 have HR1 := mk_ hr1
 have HC1 := mk_ hc1
 clear hr1 hc1
 have HB := mk_ (Below.refl w.heap.size w)
 have H := h
 unfold n_subtract.f at H
 clear h
 obtain ⟨Wa, Xa, H⟩ := iE_ H
 obtain ⟨Ya, Za, H⟩ := iE_ H
 obtain ⟨Ia, ga⟩ : ∃ y_ : List Int, y_ = (List.replicate ((l0.length : Int) : Int).toNat 0) := ⟨_, rfl⟩
 (first | rw [← ga] at H | skip); (try with_reducible replace H := (Option.bind_some _ _).symm.trans H); (try dsimp only at H)
 have xa := mk_ ga
 clear ga
 have H' := mk_ H
 clear H
 go_enter Tryd.func60, Tryd.ntmps60
 go_wp2_with (first | ((with_reducible refine gD_ (N := 11) rfl ?_); refine Kd.R_make (Kd.int .u32) _ 80 rfl (N := 11) rfl 78 _ _ rfl (l0.length : Int) rfl rfl Tryd.underlying78 (.int .u32 0) 4 info80 rfl (by decide) (by omega) 0 (ok := fun _ => True) (okp := fun _ => True) rfl (fun _ hk => hk) trivial (oD_) (Nat.le_trans (Nat.mul_le_mul_right _ (oD_ : (l0.length : Int).toNat ≤ 70368744177664)) (by omega)) (Below.refl _ _) (Nat.le_refl _) ?_; intro ha w5 ho6 hb hg_ hnew_; clear hg_ hnew_; (first | rw [← xa.out] at ho6 | (simp only [Int.reduceToNat] at ho6; rw [← xa.out] at ho6)); have Ja := mk_ (Kd.rL_ ho6 (bZ_ (xB_ HB))); replace HB := mk_ (bT_ (xB_ HB) hb); clear hb ho6))
 go_loopg [6, 14] k (fun kq v6 v14 w' => ∃ (ca : List Int) (da : Int) (aa : Int), v6 = .int .u32 da ∧ v14 = .int .i64 aa ∧ A0_ (n_subtract.l0 kq l0 l1 ca da (l0.length : Int) aa = some r) ∧ A0_ (kq ≤ k) ∧ A0_ (Kd.R (Kd.int .u32) 80 w' w.heap.size (fun _ => True) ha ca) ∧ A0_ (Below w.heap.size w w'))
 case atStart => exact ⟨(Ia), (0), (0), (rS_), (rS_), H', ⟨Nat.le_refl _⟩, ⟨by refine xr_ ?_; exact Ja.out⟩, ⟨xB_ HB⟩⟩
 case round =>
  clear H'
  obtain ⟨ca, da, aa, rfl, rfl, HA, HK1, ba, HB⟩ := hrel
  cases gk with
  | zero => exact absurd HA.out (by simp [n_subtract.l0])
  | succ k1 =>
   have H := HA.out
   clear HA
   simp only [n_subtract.l0] at H
   replace H := iS_ H
   rcases H with ⟨c7, H⟩ | ⟨c7, H⟩
   ·have Ka := decide_eq_true c7
    clear c7
    replace H := iS_ H
    rcases H with ⟨c8, H⟩ | ⟨c8, H⟩
    ·have La := decide_eq_true c8
     clear c8
     obtain ⟨ab, H⟩ := iD_ H
     obtain ⟨bb, H⟩ := iD_ H
     obtain ⟨⟨ea, ya⟩, A11, H⟩ := oB_ H
     (try dsimp only at H)
     obtain ⟨cb, H⟩ := iD_ H
     obtain ⟨za, ia⟩ : ∃ y_ : List Int, y_ = (ca.set (aa : Int).toNat ea) := ⟨_, rfl⟩
     (first | rw [← ia] at H | skip); (try with_reducible replace H := (Option.bind_some _ _).symm.trans H); (try dsimp only at H)
     have Ma := mk_ ia
     clear ia
     have H' := mk_ H
     clear H
     have ja : 0 ≤ (aa : Int) := oD_
     have ka : aa < (l1.length : Int) := oD_
     obtain ⟨db, Na, la⟩ := Kd.at_int HR1.out aa ja ka
     cases Na
     (try replace la := cT_ HB la)
     replace ja := eq_true ja
     replace ka := eq_true ka
     have ma : 0 ≤ (aa : Int) := oD_
     have na : aa < (l0.length : Int) := oD_
     obtain ⟨eb, Oa, oa⟩ := Kd.at_int HR0.out aa ma na
     cases Oa
     (try replace oa := cT_ HB oa)
     replace ma := eq_true ma
     replace na := eq_true na
     go_wp2_with (first | ((with_reducible refine gC_ (f := 71) rfl ?_); refine gL_ (some 34) rfl rfl Tryd.func71 kr_ rfl #[.int .u32 (rd l0 aa), .int .u32 (rd l1 aa), .int .u32 da] rfl mp_ ?_; (with_reducible refine (bits_Sub32.calls (rd l0 aa) (rd l1 aa) da ea ya _ A11.out).mono ?_); rintro e w' ⟨rfl, ⟨nd, rfl⟩⟩; refine ⟨_, rfl, ?_⟩; (try (rw [drewN_self wr]; generalize hq_ : World.drewN wr _ = wr; replace ba : A0_ (Kd.R (Kd.int .u32) 80 wr w.heap.size (fun _ => True) ha ca) := ⟨by rw [← hq_]; exact (xR_ ba.out)⟩; replace HB : A0_ (Below w.heap.size w wr) := ⟨by rw [← hq_]; exact (xB_ HB)⟩; clear hq_)); have p13 : 0 ≤ (aa : Int) := oD_; have q13 : (aa : Int) < ((ca.length : Int) : Int) := oD_; obtain ⟨pa, Pa, Aa, Ba, gl13, cl13, Ca⟩ := Kd.R_form ba.out (by omega); (first | cases Aa | (injection Aa with ea_ en_ ec_; (first | subst ea_ | (injection ea_ with ea_; subst ea_)); subst ec_; clear en_)); have GB13 := mk_ Ba; have GG13 := mk_ Ca; clear Ba gl13 Ca; obtain ⟨fb, gb⟩ := Kd.R_celln 0 ba.out (aa : Int) p13 q13; replace p13 := eq_true p13; replace q13 := eq_true q13; obtain ⟨ib, jb⟩ := Kd.R_celln 0 ba.out (aa : Int) (oD_) (oD_); have HP14 := Kd.R_putg ba.out (aa : Int) ea) | ((with_reducible refine gate_store (t := 80) (p := 37) rfl ?_); refine store_event (t := 80) (p := 37) (v := ?vo_w15) (w1 := (wr.setCell ⟨pa, (aa : Int).toNat, none⟩ (.int .u32 ea))) ?hg ?ho ?hn ?hr ?_; (case ho => rfl); (case hg => rfl); (case hn => rfl); (case hr => first | (go_simp; done) | (go_simp; rfl)); intro w15 hw; have hg : wr.grownBy w15 (some pa) := (by rw [hw]; exact HP14.2); have hp_ : Kd.R (Kd.int .u32) 80 w15 w.heap.size (fun _ => True) (.slice (some ⟨pa, 0, none⟩) ca.length Pa) za := (by rw [hw, Ma.out]; exact HP14.1); clear HP14; replace ba := mk_ (hp_); replace HB := mk_ ((by rw [hw]; exact bS_ (HB.out) GB13.out : Below w.heap.size w w15)); clear hg hw hp_))
     (try simp only [ap_])
     go_roundg k1
     case measure => have := HK1.out; omega
     case rel => exact ⟨(za), (ya), (wrap64 (aa + 1)), (rS_), (rS_), H', ⟨by have := HK1.out; omega⟩, ⟨by refine xr_ ?_; exact ba.out⟩, ⟨xB_ HB⟩⟩
    ·have La := decide_eq_false c8
     clear c8
     obtain ⟨kb, H⟩ := iD_ H
     obtain ⟨mb, H⟩ := iD_ H
     obtain ⟨⟨fa, Da⟩, A18, H⟩ := oB_ H
     (try dsimp only at H)
     obtain ⟨nb, H⟩ := iD_ H
     obtain ⟨Ea, qa⟩ : ∃ y_ : List Int, y_ = (ca.set (aa : Int).toNat fa) := ⟨_, rfl⟩
     (first | rw [← qa] at H | skip); (try with_reducible replace H := (Option.bind_some _ _).symm.trans H); (try dsimp only at H)
     have Qa := mk_ qa
     clear qa
     have H' := mk_ H
     clear H
     have ra : 0 ≤ (aa : Int) := oD_
     have sa : aa < (l0.length : Int) := oD_
     obtain ⟨ob, Ra, ta⟩ := Kd.at_int HR0.out aa ra sa
     cases Ra
     (try replace ta := cT_ HB ta)
     replace ra := eq_true ra
     replace sa := eq_true sa
     go_wp2_with (first | ((with_reducible refine gC_ (f := 71) rfl ?_); refine gL_ (some 34) rfl rfl Tryd.func71 kr_ rfl #[.int .u32 (rd l0 aa), .int .u32 0, .int .u32 da] rfl mp_ ?_; (with_reducible refine (bits_Sub32.calls (rd l0 aa) 0 da fa Da _ A18.out).mono ?_); rintro e w' ⟨rfl, ⟨nd, rfl⟩⟩; refine ⟨_, rfl, ?_⟩; (try (rw [drewN_self wr]; generalize hq_ : World.drewN wr _ = wr; replace ba : A0_ (Kd.R (Kd.int .u32) 80 wr w.heap.size (fun _ => True) ha ca) := ⟨by rw [← hq_]; exact (xR_ ba.out)⟩; replace HB : A0_ (Below w.heap.size w wr) := ⟨by rw [← hq_]; exact (xB_ HB)⟩; clear hq_)); have p20 : 0 ≤ (aa : Int) := oD_; have q20 : (aa : Int) < ((ca.length : Int) : Int) := oD_; obtain ⟨ua, Sa, Fa, Ga, gl20, cl20, Ha⟩ := Kd.R_form ba.out (by omega); (first | cases Fa | (injection Fa with ea_ en_ ec_; (first | subst ea_ | (injection ea_ with ea_; subst ea_)); subst ec_; clear en_)); have GB20 := mk_ Ga; have GG20 := mk_ Ha; clear Ga gl20 Ha; obtain ⟨pb, qb⟩ := Kd.R_celln 0 ba.out (aa : Int) p20 q20; replace p20 := eq_true p20; replace q20 := eq_true q20; obtain ⟨rb, sb⟩ := Kd.R_celln 0 ba.out (aa : Int) (oD_) (oD_); have HP21 := Kd.R_putg ba.out (aa : Int) fa) | ((with_reducible refine gate_store (t := 80) (p := 37) rfl ?_); refine store_event (t := 80) (p := 37) (v := ?vo_w22) (w1 := (wr.setCell ⟨ua, (aa : Int).toNat, none⟩ (.int .u32 fa))) ?hg ?ho ?hn ?hr ?_; (case ho => rfl); (case hg => rfl); (case hn => rfl); (case hr => first | (go_simp; done) | (go_simp; rfl)); intro w22 hw; have hg : wr.grownBy w22 (some ua) := (by rw [hw]; exact HP21.2); have hp_ : Kd.R (Kd.int .u32) 80 w22 w.heap.size (fun _ => True) (.slice (some ⟨ua, 0, none⟩) ca.length Sa) Ea := (by rw [hw, Qa.out]; exact HP21.1); clear HP21; replace ba := mk_ (hp_); replace HB := mk_ ((by rw [hw]; exact bS_ (HB.out) GB20.out : Below w.heap.size w w22)); clear hg hw hp_))
     (try simp only [ap_])
     go_roundg k1
     case measure => have := HK1.out; omega
     case rel => exact ⟨(Ea), (Da), (wrap64 (aa + 1)), (rS_), (rS_), H', ⟨by have := HK1.out; omega⟩, ⟨by refine xr_ ?_; exact ba.out⟩, ⟨xB_ HB⟩⟩
   ·have Ka := decide_eq_false c7
    clear c7
    obtain ⟨Ta, A23, H⟩ := oB_ H
    (try dsimp only at H)
    obtain rfl := Option.some.inj H
    obtain ⟨va, wa, Ua⟩ := Kd.rS_' ba.out
    subst Ua
    go_wp2_with (first | ((with_reducible refine gC_ (f := 63) rfl ?_); refine gL_ (some 40) rfl rfl Tryd.func63 kr_ rfl #[.slice va ca.length wa] rfl mp_ ?_; (with_reducible refine (n_limbs_trim.calls k1 (fun k_ => some k_ = (.slice va ca.length wa : Value).ownBlock) (.slice va ca.length wa) ca Ta w _ ?side1 ?side2 A23.out).mono ?_); (case side1 => repeat (first | (with_reducible first | exact HB.out | apply bA_ | apply pB_ | apply b1_) | exact HB.out)); (case side2 => exact Kd.R_tight rfl ba.out); rintro e w25 ⟨tb, rfl, ho0, hb, hkp⟩; refine ⟨_, rfl, ?_⟩; have Va := mk_ (Kd.rM_ (ok' := fun k_ => True) ho0 (fun k_ hk_ => trivial)); replace HB := mk_ (hb); clear ba))
    go_ret
    exact ⟨_, rE_, by refine xr_ ?_; exact Va.out, xB_ HB⟩
def n_Subtract.f (k : Nat) (a0 : ByteArray) (a1 : ByteArray) : Option (ByteArray × Bool) := (n_parse.f k a0).bind fun t567 => ((n_parse.f k a1).bind fun t570 => ((n_compare.f k t567 t570).bind fun t573 => (if t573 < 0 then (some ((⟨#[]⟩ : ByteArray), false)) else ((n_subtract.f k t567 t570).bind fun t574 => ((n_limbs_text.f k t574).bind fun t577 => (some (t577, true)))))))
theorem n_Subtract.mono : ∀ a0 a1 k, LeO (n_Subtract.f k a0 a1) (n_Subtract.f (k + 1) a0 a1) := by
 intro a0 a1 k
 unfold n_Subtract.f
 repeat' first
   | (with_reducible first | exact n_compare.mono _ _ _ | exact n_limbs_text.mono _ _ | exact n_parse.mono _ _ | exact n_subtract.mono _ _ _ | exact LeO.refl _ | exact LeO.none _ | refine LeO.ite ?_ ?_ | refine LeO.bind ?_ (fun _ => ?_))
theorem n_Subtract.calls (k : Nat) (a0 : ByteArray) (a1 : ByteArray) (r1 : ByteArray) (r2 : Bool) (w : World) (h : n_Subtract.f k a0 a1 = some (r1, r2)) :
  Calls Tryd.prog 42 #[.string a0, .string a1] w fun e w' => e = .returned (.tuple #[.string r1, .bool r2]) ∧ Below w.heap.size w w' := by
 have HB := mk_ (Below.refl w.heap.size w)
 have H := h
 unfold n_Subtract.f at H
 clear h
 obtain ⟨ca, A3, H⟩ := oB_ H
 (try dsimp only at H)
 obtain ⟨da, A4, H⟩ := oB_ H
 (try dsimp only at H)
 obtain ⟨ga, A5, H⟩ := oB_ H
 (try dsimp only at H)
 replace H := iS_ H
 rcases H with ⟨c6, H⟩ | ⟨c6, H⟩
 ·have la := decide_eq_true c6
  clear c6
  simp only [Option.some.injEq, Prod.mk.injEq] at H
  obtain ⟨rfl, rfl⟩ := H
  go_enter Tryd.func42, Tryd.ntmps42
  go_wp2_with (first | ((with_reducible refine gC_ (f := 47) rfl ?_); refine gL_ (some 9) rfl rfl Tryd.func47 kr_ rfl #[.string a0] rfl mp_ ?_; (with_reducible refine (n_parse.calls k a0 ca _ A3.out).mono ?_); rintro e w7 ⟨ma, rfl, ho0, hb⟩; refine ⟨_, rfl, ?_⟩; have aa := mk_ (Kd.rL_ ho0 (bZ_ (xB_ HB))); replace HB := mk_ (bT_ (xB_ HB) hb)) | ((with_reducible refine gC_ (f := 47) rfl ?_); refine gL_ (some 11) rfl rfl Tryd.func47 kr_ rfl #[.string a1] rfl mp_ ?_; (with_reducible refine (n_parse.calls k a1 da _ A4.out).mono ?_); rintro e w8 ⟨na, rfl, ho0, hb⟩; refine ⟨_, rfl, ?_⟩; have ba := mk_ (Kd.rL_ (Kd.R_new' ho0 (Kd.R_lt (xR_ aa.out))) (bZ_ (xB_ HB))); replace aa := mk_ (Kd.R_elder' (xR_ aa.out) (Kd.R_base ho0) hb); replace HB := mk_ (bT_ (xB_ HB) hb); obtain ⟨Ao9, co9, eo9⟩ := Kd.rS_' aa.out; subst eo9; obtain ⟨oa, pa, qa⟩ := Kd.rS_' ba.out; subst qa) | ((with_reducible refine gC_ (f := 59) rfl ?_); refine gL_ (some 14) rfl rfl Tryd.func59 kr_ rfl #[.slice Ao9 ca.length co9, .slice oa da.length pa] rfl mp_ ?_; (with_reducible refine (n_compare.calls k _ _ ca _ _ da ga _ ?side1 ?side2 ?side3 ?side4 A5.out).mono ?_); (case side1 => repeat (first | exact (Kd.rr_' aa.out).2.2 | (with_reducible refine Kd.C_alloc ?_ _) | (with_reducible refine Kd.C_drewN ?_ _) | (with_reducible refine Kd.C_drew ?_))); (case side2 => exact (Kd.rr_' aa.out).2.1); (case side3 => repeat (first | exact (Kd.rr_' ba.out).2.2 | (with_reducible refine Kd.C_alloc ?_ _) | (with_reducible refine Kd.C_drewN ?_ _) | (with_reducible refine Kd.C_drew ?_))); (case side4 => exact (Kd.rr_' ba.out).2.1); rintro e w' ⟨rfl, ⟨nd, rfl⟩⟩; refine ⟨_, rfl, ?_⟩))
  go_ret2
  exact ⟨rE_, xB_ HB⟩
 ·have la := decide_eq_false c6
  clear c6
  obtain ⟨fa, A11, H⟩ := oB_ H
  (try dsimp only at H)
  obtain ⟨ra, A12, H⟩ := oB_ H
  (try dsimp only at H)
  simp only [Option.some.injEq, Prod.mk.injEq] at H
  obtain ⟨rfl, rfl⟩ := H
  go_enter Tryd.func42, Tryd.ntmps42
  go_wp2_with (first | ((with_reducible refine gC_ (f := 47) rfl ?_); refine gL_ (some 9) rfl rfl Tryd.func47 kr_ rfl #[.string a0] rfl mp_ ?_; (with_reducible refine (n_parse.calls k a0 ca _ A3.out).mono ?_); rintro e w13 ⟨ma, rfl, ho0, hb⟩; refine ⟨_, rfl, ?_⟩; have aa := mk_ (Kd.rL_ ho0 (bZ_ (xB_ HB))); replace HB := mk_ (bT_ (xB_ HB) hb)) | ((with_reducible refine gC_ (f := 47) rfl ?_); refine gL_ (some 11) rfl rfl Tryd.func47 kr_ rfl #[.string a1] rfl mp_ ?_; (with_reducible refine (n_parse.calls k a1 da _ A4.out).mono ?_); rintro e w14 ⟨na, rfl, ho0, hb⟩; refine ⟨_, rfl, ?_⟩; have ba := mk_ (Kd.rL_ (Kd.R_new' ho0 (Kd.R_lt (xR_ aa.out))) (bZ_ (xB_ HB))); replace aa := mk_ (Kd.R_elder' (xR_ aa.out) (Kd.R_base ho0) hb); replace HB := mk_ (bT_ (xB_ HB) hb); obtain ⟨ha, ia, sa⟩ := Kd.rS_' aa.out; subst sa; obtain ⟨ja, ka, ta⟩ := Kd.rS_' ba.out; subst ta) | ((with_reducible refine gC_ (f := 59) rfl ?_); refine gL_ (some 14) rfl rfl Tryd.func59 kr_ rfl #[.slice ha ca.length ia, .slice ja da.length ka] rfl mp_ ?_; (with_reducible refine (n_compare.calls k _ _ ca _ _ da ga _ ?side1 ?side2 ?side3 ?side4 A5.out).mono ?_); (case side1 => repeat (first | exact (Kd.rr_' aa.out).2.2 | (with_reducible refine Kd.C_alloc ?_ _) | (with_reducible refine Kd.C_drewN ?_ _) | (with_reducible refine Kd.C_drew ?_))); (case side2 => exact (Kd.rr_' aa.out).2.1); (case side3 => repeat (first | exact (Kd.rr_' ba.out).2.2 | (with_reducible refine Kd.C_alloc ?_ _) | (with_reducible refine Kd.C_drewN ?_ _) | (with_reducible refine Kd.C_drew ?_))); (case side4 => exact (Kd.rr_' ba.out).2.1); rintro e w' ⟨rfl, ⟨nd, rfl⟩⟩; refine ⟨_, rfl, ?_⟩) | ((with_reducible refine gC_ (f := 60) rfl ?_); refine gL_ (some 18) rfl rfl Tryd.func60 kr_ rfl #[.slice ha ca.length ia, .slice ja da.length ka] rfl mp_ ?_; (with_reducible refine (n_subtract.calls k _ _ ca _ _ da fa _ ?side1 ?side2 ?side3 ?side4 A11.out).mono ?_); (case side1 => repeat (first | exact (Kd.rr_' aa.out).2.2 | (with_reducible refine Kd.C_alloc ?_ _) | (with_reducible refine Kd.C_drewN ?_ _) | (with_reducible refine Kd.C_drew ?_))); (case side2 => exact (Kd.rr_' aa.out).2.1); (case side3 => repeat (first | exact (Kd.rr_' ba.out).2.2 | (with_reducible refine Kd.C_alloc ?_ _) | (with_reducible refine Kd.C_drewN ?_ _) | (with_reducible refine Kd.C_drew ?_))); (case side4 => exact (Kd.rr_' ba.out).2.1); rintro e w17 ⟨xa, rfl, ho0, hb⟩; refine ⟨_, rfl, ?_⟩; have ea := mk_ (Kd.rL_ (Kd.R_new' (Kd.R_new' ho0 (Kd.R_lt (xR_ aa.out))) (Kd.R_lt (xR_ ba.out))) (bZ_ (xB_ HB))); replace aa := mk_ (Kd.R_elder' (xR_ aa.out) (Kd.R_base ho0) hb); replace ba := mk_ (Kd.R_elder' (xR_ ba.out) (Kd.R_base ho0) hb); replace HB := mk_ (bT_ (xB_ HB) hb); obtain ⟨ua, va, wa⟩ := Kd.rS_' ea.out; subst wa) | ((with_reducible refine gC_ (f := 48) rfl ?_); refine gL_ (some 19) rfl rfl Tryd.func48 kr_ rfl #[.slice ua fa.length va] rfl mp_ ?_; (with_reducible refine (n_limbs_text.calls k _ _ fa ra _ ?side1 ?side2 A12.out).mono ?_); (case side1 => repeat (first | exact (Kd.rr_' ea.out).2.2 | (with_reducible refine Kd.C_alloc ?_ _) | (with_reducible refine Kd.C_drewN ?_ _) | (with_reducible refine Kd.C_drew ?_))); (case side2 => exact (Kd.rr_' ea.out).2.1); rintro e w19 ⟨rfl, hb⟩; refine ⟨_, rfl, ?_⟩; replace aa := mk_ (Kd.rB_ (xR_ aa.out) hb); replace ba := mk_ (Kd.rB_ (xR_ ba.out) hb); replace ea := mk_ (Kd.rB_ (xR_ ea.out) hb); replace HB := mk_ (bT_ (xB_ HB) hb)))
  go_ret2
  exact ⟨rE_, xB_ HB⟩
def n_Divide.f (k : Nat) (a0 : ByteArray) (a1 : ByteArray) : Option (ByteArray × ByteArray × Bool) := (n_parse.f k a1).bind fun t508 => (if (t508.length : Int) = 0 then (some ((⟨#[]⟩ : ByteArray), (⟨#[]⟩ : ByteArray), false)) else ((n_parse.f k a0).bind fun t511 => ((n_divide.f k t511 t508).bind fun bt514 => ((n_limbs_text.f k bt514.1).bind fun t520 => ((n_limbs_text.f k bt514.2).bind fun t521 => (some (t520, t521, true)))))))
theorem n_Divide.mono : ∀ a0 a1 k, LeO (n_Divide.f k a0 a1) (n_Divide.f (k + 1) a0 a1) := by
 intro a0 a1 k
 unfold n_Divide.f
 repeat' first
   | (with_reducible first | exact n_divide.mono _ _ _ | exact n_limbs_text.mono _ _ | exact n_parse.mono _ _ | exact LeO.refl _ | exact LeO.none _ | refine LeO.ite ?_ ?_ | refine LeO.bind ?_ (fun _ => ?_))
theorem n_Divide.calls (k : Nat) (a0 : ByteArray) (a1 : ByteArray) (r1 : ByteArray) (r2 : ByteArray) (r3 : Bool) (w : World) (h : n_Divide.f k a0 a1 = some (r1, r2, r3)) :
  Calls Tryd.prog 57 #[.string a0, .string a1] w fun e w' => e = .returned (.tuple #[.string r1, .string r2, .bool r3]) ∧ Below w.heap.size w w' := by
 have HB := mk_ (Below.refl w.heap.size w)
 have H := h
 unfold n_Divide.f at H
 clear h
 obtain ⟨ba, A3, H⟩ := oB_ H
 (try dsimp only at H)
 replace H := iS_ H
 rcases H with ⟨c4, H⟩ | ⟨c4, H⟩
 ·have oa := beq_iff_eq.mpr c4
  have pa := bne_eq_false_iff_eq.mpr c4
  clear c4
  simp only [Option.some.injEq, Prod.mk.injEq] at H
  obtain ⟨rfl, rfl, rfl⟩ := H
  go_enter Tryd.func57, Tryd.ntmps57
  go_wp2_with (first | ((with_reducible refine gC_ (f := 47) rfl ?_); refine gL_ (some 11) rfl rfl Tryd.func47 kr_ rfl #[.string a1] rfl mp_ ?_; (with_reducible refine (n_parse.calls k a1 ba _ A3.out).mono ?_); rintro e w5 ⟨qa, rfl, ho0, hb⟩; refine ⟨_, rfl, ?_⟩; have aa := mk_ (Kd.rL_ ho0 (bZ_ (xB_ HB))); replace HB := mk_ (bT_ (xB_ HB) hb); obtain ⟨Ao6, co6, eo6⟩ := Kd.rS_' aa.out; subst eo6))
  go_ret3
  exact ⟨rE_, xB_ HB⟩
 ·have oa := beq_eq_false_iff_ne.mpr c4
  have pa := bne_iff_ne.mpr c4
  have Ba : ¬ (ba = []) := fun h_ => c4 (by rw [h_]; rfl)
  obtain ⟨ea, A7, H⟩ := oB_ H
  (try dsimp only at H)
  obtain ⟨⟨fa, ga⟩, A8, H⟩ := oB_ H
  (try dsimp only at H)
  obtain ⟨ra, A9, H⟩ := oB_ H
  (try dsimp only at H)
  obtain ⟨sa, A10, H⟩ := oB_ H
  (try dsimp only at H)
  simp only [Option.some.injEq, Prod.mk.injEq] at H
  obtain ⟨rfl, rfl, rfl⟩ := H
  go_enter Tryd.func57, Tryd.ntmps57
  go_wp2_with (first | ((with_reducible refine gC_ (f := 47) rfl ?_); refine gL_ (some 11) rfl rfl Tryd.func47 kr_ rfl #[.string a1] rfl mp_ ?_; (with_reducible refine (n_parse.calls k a1 ba _ A3.out).mono ?_); rintro e w11 ⟨qa, rfl, ho0, hb⟩; refine ⟨_, rfl, ?_⟩; have aa := mk_ (Kd.rL_ ho0 (bZ_ (xB_ HB))); replace HB := mk_ (bT_ (xB_ HB) hb); obtain ⟨ha, ia, ta⟩ := Kd.rS_' aa.out; subst ta) | ((with_reducible refine gC_ (f := 47) rfl ?_); refine gL_ (some 17) rfl rfl Tryd.func47 kr_ rfl #[.string a0] rfl mp_ ?_; (with_reducible refine (n_parse.calls k a0 ea _ A7.out).mono ?_); rintro e w13 ⟨Ca, rfl, ho0, hb⟩; refine ⟨_, rfl, ?_⟩; have ja := mk_ (Kd.rL_ (Kd.R_new' ho0 (Kd.R_lt (xR_ aa.out))) (bZ_ (xB_ HB))); replace aa := mk_ (Kd.R_elder' (xR_ aa.out) (Kd.R_base ho0) hb); replace HB := mk_ (bT_ (xB_ HB) hb); obtain ⟨ka, la, ua⟩ := Kd.rS_' ja.out; subst ua) | ((with_reducible refine gC_ (f := 70) rfl ?_); refine gL_ (some 19) rfl rfl Tryd.func70 kr_ rfl #[.slice ka ea.length la, .slice ha ba.length ia] rfl mp_ ?_; (with_reducible refine (n_divide.calls k (fun k_ => some k_ = (.slice ka ea.length la : Value).ownBlock) (.slice ka ea.length la) ea _ _ ba fa ga w _ ?side1 ?side2 ?side3 ?side4 A8.out).mono ?_); (case side1 => repeat (first | (with_reducible first | exact HB.out | apply bA_ | apply pB_ | apply b1_) | exact HB.out)); (case side2 => exact Kd.R_tight rfl ja.out); (case side3 => exact Kd.C_kept_own (aa.out) (fun k_ hk_ hs_ => (hk_.2) hs_)); (case side4 => exact (Kd.rr_' aa.out).2.1); rintro e w15 ⟨ma, na, rfl, ho0, ho1, hb, hkp⟩; refine ⟨_, rfl, ?_⟩; have ca := mk_ (Kd.rM_ (ok' := fun k_ => some k_ ≠ (na : Value).ownBlock ∧ some k_ ≠ (.slice ha ba.length ia : Value).ownBlock) ho0 (fun k_ hk_ => ⟨hk_.2, Or.elim hk_.1 (fun hs_ => fun e_ => (((aa.out).1 k_ e_.symm).2) hs_) (fun hn_ => (Kd.fresh' (Kd.R_lt (xR_ aa.out)) k_ hn_))⟩)); have da := mk_ (Kd.rM_ (ok' := fun k_ => some k_ ≠ (ma : Value).ownBlock ∧ some k_ ≠ (.slice ha ba.length ia : Value).ownBlock) ho1 (fun k_ hk_ => ⟨hk_.2, Or.elim hk_.1 (fun hs_ => fun e_ => (((aa.out).1 k_ e_.symm).2) hs_) (fun hn_ => (Kd.fresh' (Kd.R_lt (xR_ aa.out)) k_ hn_))⟩)); replace aa := mk_ (Kd.rM_ (ok' := fun k_ => some k_ ≠ (ma : Value).ownBlock ∧ some k_ ≠ (na : Value).ownBlock) (Kd.R_keptB (aa.out) hkp (fun k_ hk_ hs_ => (hk_.2) hs_)) (fun k_ hk_ => ⟨fun e_ => Or.elim (ho0.1 k_ e_.symm).1 (fun hs_ => hk_.2.1 hs_) (fun hn_ => Nat.not_le.2 hk_.2.2 hn_), fun e_ => Or.elim (ho1.1 k_ e_.symm).1 (fun hs_ => hk_.2.1 hs_) (fun hn_ => Nat.not_le.2 hk_.2.2 hn_)⟩)); replace HB := mk_ (hb); clear ja; obtain ⟨va, wa, xa⟩ := Kd.rS_' ca.out; subst xa) | ((with_reducible refine gC_ (f := 48) rfl ?_); refine gL_ (some 23) rfl rfl Tryd.func48 kr_ rfl #[.slice va fa.length wa] rfl mp_ ?_; (with_reducible refine (n_limbs_text.calls k _ _ fa ra _ ?side1 ?side2 A9.out).mono ?_); (case side1 => repeat (first | exact (Kd.rr_' ca.out).2.2 | (with_reducible refine Kd.C_alloc ?_ _) | (with_reducible refine Kd.C_drewN ?_ _) | (with_reducible refine Kd.C_drew ?_))); (case side2 => exact (Kd.rr_' ca.out).2.1); rintro e w17 ⟨rfl, hb⟩; refine ⟨_, rfl, ?_⟩; replace aa := mk_ (Kd.rB_ (xR_ aa.out) hb); replace ca := mk_ (Kd.rB_ (xR_ ca.out) hb); replace da := mk_ (Kd.rB_ (xR_ da.out) hb); replace HB := mk_ (bT_ (xB_ HB) hb); obtain ⟨ya, za, Aa⟩ := Kd.rS_' da.out; subst Aa) | ((with_reducible refine gC_ (f := 48) rfl ?_); refine gL_ (some 25) rfl rfl Tryd.func48 kr_ rfl #[.slice ya ga.length za] rfl mp_ ?_; (with_reducible refine (n_limbs_text.calls k _ _ ga sa _ ?side1 ?side2 A10.out).mono ?_); (case side1 => repeat (first | exact (Kd.rr_' da.out).2.2 | (with_reducible refine Kd.C_alloc ?_ _) | (with_reducible refine Kd.C_drewN ?_ _) | (with_reducible refine Kd.C_drew ?_))); (case side2 => exact (Kd.rr_' da.out).2.1); rintro e w19 ⟨rfl, hb⟩; refine ⟨_, rfl, ?_⟩; replace aa := mk_ (Kd.rB_ (xR_ aa.out) hb); replace ca := mk_ (Kd.rB_ (xR_ ca.out) hb); replace da := mk_ (Kd.rB_ (xR_ da.out) hb); replace HB := mk_ (bT_ (xB_ HB) hb)))
  go_ret3
  exact ⟨rE_, xB_ HB⟩
def q_reduced.f (k : Nat) (a0 : Bool) (a1 : ByteArray) (a2 : ByteArray) : Option (Bool × ByteArray × ByteArray) := (n_Normalize.f k a1).bind fun t523 => ((n_Normalize.f k a2).bind fun t524 => (if t523.toList = ([] : List UInt8) then (some (false, (⟨#[]⟩ : ByteArray), (⟨#[]⟩ : ByteArray))) else (if t524.toList = ([1] : List UInt8) then (some (a0, t523, (⟨#[]⟩ : ByteArray))) else ((n_GCD.f k t523 t524).bind fun t525 => (if t525.toList = ([1] : List UInt8) then (some (a0, t523, t524)) else ((n_Divide.f k t523 t525).bind fun bt526 => ((n_Divide.f k t524 t525).bind fun bt529 => (if bt529.1.toList = ([1] : List UInt8) then (some (a0, bt526.1, (⟨#[]⟩ : ByteArray))) else (some (a0, bt526.1, bt529.1))))))))))
theorem q_reduced.mono : ∀ a0 a1 a2 k, LeO (q_reduced.f k a0 a1 a2) (q_reduced.f (k + 1) a0 a1 a2) := by
 intro a0 a1 a2 k
 unfold q_reduced.f
 repeat' first
   | (with_reducible first | exact n_Divide.mono _ _ _ | exact n_GCD.mono _ _ _ | exact n_Normalize.mono _ _ | exact LeO.refl _ | exact LeO.none _ | refine LeO.ite ?_ ?_ | refine LeO.bind ?_ (fun _ => ?_))
theorem q_reduced.calls (k : Nat) (a0 : Bool) (a1 : ByteArray) (a2 : ByteArray) (r1 : Bool) (r2 : ByteArray) (r3 : ByteArray) (w : World) (h : q_reduced.f k a0 a1 a2 = some (r1, r2, r3)) :
  Calls Tryd.prog 40 #[.bool a0, .string a1, .string a2] w fun e w' => e = .returned (.agg #[.bool r1, .string r2, .string r3]) ∧ Below w.heap.size w w' := by
 have hu32 := Tryd.underlying32
 have HB := mk_ (Below.refl w.heap.size w)
 have H := h
 unfold q_reduced.f at H
 clear h
 obtain ⟨ca, A4, H⟩ := oB_ H
 (try dsimp only at H)
 obtain ⟨ea, A5, H⟩ := oB_ H
 (try dsimp only at H)
 replace H := iS_ H
 rcases H with ⟨c6, H⟩ | ⟨c6, H⟩
 ·have na := beq_iff_eq.mpr c6
  have oa := bne_eq_false_iff_eq.mpr c6
  clear c6
  simp only [Option.some.injEq, Prod.mk.injEq] at H
  obtain ⟨rfl, rfl, rfl⟩ := H
  go_enter Tryd.func40, Tryd.ntmps40
  go_wp2_with (first | ((with_reducible refine gD_ (N := 6) rfl ?_); refine bX_ (N := 6) (cs := zC_) (t := 32) ?_; intro da hg w7 hbox hb; have aa := mk_ (hbox); have ha := mk_ (gZ_ hg (bZ_ (xB_ HB))); have ba := mk_ (gZ_ hg (bZ_ (xB_ HB))); replace HB := mk_ (bT_ (xB_ HB) hb); clear hb hbox hg) | ((with_reducible refine gC_ (f := 44) rfl ?_); refine gL_ (some 9) rfl rfl Tryd.func44 kr_ rfl #[.string a1] rfl mp_ ?_; (with_reducible refine (n_Normalize.calls k a1 ca _ A4.out).mono ?_); rintro e w' ⟨rfl, ⟨nd, rfl⟩⟩; refine ⟨_, rfl, ?_⟩; (try (rw [drewN_self w7]; generalize hq_ : World.drewN w7 _ = w7; replace aa : A0_ (w7.heap[da]? = some (.cells zC_ 32 (0, 0))) := ⟨by rw [← hq_]; exact (xK_ aa.out)⟩; replace HB : A0_ (Below w.heap.size w w7) := ⟨by rw [← hq_]; exact (xB1_ HB ba)⟩; clear hq_))) | ((with_reducible refine gC_ (f := 44) rfl ?_); refine gL_ (some 11) rfl rfl Tryd.func44 kr_ rfl #[.string a2] rfl mp_ ?_; (with_reducible refine (n_Normalize.calls k a2 ea _ A5.out).mono ?_); rintro e w' ⟨rfl, ⟨nd, rfl⟩⟩; refine ⟨_, rfl, ?_⟩; (try (rw [drewN_self w7]; generalize hq_ : World.drewN w7 _ = w7; replace aa : A0_ (w7.heap[da]? = some (.cells zC_ 32 (0, 0))) := ⟨by rw [← hq_]; exact (xK_ aa.out)⟩; replace HB : A0_ (Below w.heap.size w w7) := ⟨by rw [← hq_]; exact (xB1_ HB ba)⟩; clear hq_)); obtain ⟨va, wa, xa, ya, za, Aa⟩ := kG3_ aa.out))
  refine bodyPost_ret (results_cell_row rfl _ _ da 32 zC_ (0, 0) _ rfl (by refine xk_ ?_; refine kQ_ (cs := zC_) ?_ 2 _ rfl; refine kQ_ (cs := zC_) ?_ 1 _ rfl; refine kQ_ (cs := zC_) ?_ 0 _ rfl; exact aa.out) Tryd.underlying32 rfl kr_) rfl ?_
  exact ⟨rE_, xB1_ HB ba⟩
 ·have na := beq_eq_false_iff_ne.mpr c6
  have oa := bne_iff_ne.mpr c6
  replace H := iS_ H
  rcases H with ⟨c9, H⟩ | ⟨c9, H⟩
  ·have pa := beq_iff_eq.mpr c9
   have qa := bne_eq_false_iff_eq.mpr c9
   clear c9
   simp only [Option.some.injEq, Prod.mk.injEq] at H
   obtain ⟨rfl, rfl, rfl⟩ := H
   go_enter Tryd.func40, Tryd.ntmps40
   go_wp2_with (first | ((with_reducible refine gD_ (N := 6) rfl ?_); refine bX_ (N := 6) (cs := zC_) (t := 32) ?_; intro da hg w10 hbox hb; have aa := mk_ (hbox); have ha := mk_ (gZ_ hg (bZ_ (xB_ HB))); have ba := mk_ (gZ_ hg (bZ_ (xB_ HB))); replace HB := mk_ (bT_ (xB_ HB) hb); clear hb hbox hg) | ((with_reducible refine gC_ (f := 44) rfl ?_); refine gL_ (some 9) rfl rfl Tryd.func44 kr_ rfl #[.string a1] rfl mp_ ?_; (with_reducible refine (n_Normalize.calls k a1 ca _ A4.out).mono ?_); rintro e w' ⟨rfl, ⟨nd, rfl⟩⟩; refine ⟨_, rfl, ?_⟩; (try (rw [drewN_self w10]; generalize hq_ : World.drewN w10 _ = w10; replace aa : A0_ (w10.heap[da]? = some (.cells zC_ 32 (0, 0))) := ⟨by rw [← hq_]; exact (xK_ aa.out)⟩; replace HB : A0_ (Below w.heap.size w w10) := ⟨by rw [← hq_]; exact (xB1_ HB ba)⟩; clear hq_))) | ((with_reducible refine gC_ (f := 44) rfl ?_); refine gL_ (some 11) rfl rfl Tryd.func44 kr_ rfl #[.string a2] rfl mp_ ?_; (with_reducible refine (n_Normalize.calls k a2 ea _ A5.out).mono ?_); rintro e w' ⟨rfl, ⟨nd, rfl⟩⟩; refine ⟨_, rfl, ?_⟩; (try (rw [drewN_self w10]; generalize hq_ : World.drewN w10 _ = w10; replace aa : A0_ (w10.heap[da]? = some (.cells zC_ 32 (0, 0))) := ⟨by rw [← hq_]; exact (xK_ aa.out)⟩; replace HB : A0_ (Below w.heap.size w w10) := ⟨by rw [← hq_]; exact (xB1_ HB ba)⟩; clear hq_)); obtain ⟨Ba, Ca, Da, Ea, Fa, Ga⟩ := kG3_ aa.out))
   refine bodyPost_ret (results_cell_row rfl _ _ da 32 #[.bool a0, .string ca, .string (⟨#[]⟩ : ByteArray)] (0, 0) _ rfl (by refine xk_ ?_; refine kQ_ (cs := #[.bool a0, .string ca, .string (⟨#[]⟩ : ByteArray)]) ?_ 2 _ rfl; refine kQ_ (cs := #[.bool a0, .string (⟨#[]⟩ : ByteArray), .string (⟨#[]⟩ : ByteArray)]) ?_ 1 _ rfl; refine kQ_ (cs := zC_) ?_ 0 _ rfl; exact aa.out) Tryd.underlying32 rfl kr_) rfl ?_
   exact ⟨rE_, xB1_ HB ba⟩
  ·have pa := beq_eq_false_iff_ne.mpr c9
   have qa := bne_iff_ne.mpr c9
   obtain ⟨fa, A12, H⟩ := oB_ H
   (try dsimp only at H)
   replace H := iS_ H
   rcases H with ⟨c13, H⟩ | ⟨c13, H⟩
   ·have ra := beq_iff_eq.mpr c13
    have sa := bne_eq_false_iff_eq.mpr c13
    clear c13
    simp only [Option.some.injEq, Prod.mk.injEq] at H
    obtain ⟨rfl, rfl, rfl⟩ := H
    go_enter Tryd.func40, Tryd.ntmps40
    go_wp2_with (first | ((with_reducible refine gD_ (N := 6) rfl ?_); refine bX_ (N := 6) (cs := zC_) (t := 32) ?_; intro da hg w14 hbox hb; have aa := mk_ (hbox); have ha := mk_ (gZ_ hg (bZ_ (xB_ HB))); have ba := mk_ (gZ_ hg (bZ_ (xB_ HB))); replace HB := mk_ (bT_ (xB_ HB) hb); clear hb hbox hg) | ((with_reducible refine gC_ (f := 44) rfl ?_); refine gL_ (some 9) rfl rfl Tryd.func44 kr_ rfl #[.string a1] rfl mp_ ?_; (with_reducible refine (n_Normalize.calls k a1 ca _ A4.out).mono ?_); rintro e w' ⟨rfl, ⟨nd, rfl⟩⟩; refine ⟨_, rfl, ?_⟩; (try (rw [drewN_self w14]; generalize hq_ : World.drewN w14 _ = w14; replace aa : A0_ (w14.heap[da]? = some (.cells zC_ 32 (0, 0))) := ⟨by rw [← hq_]; exact (xK_ aa.out)⟩; replace HB : A0_ (Below w.heap.size w w14) := ⟨by rw [← hq_]; exact (xB1_ HB ba)⟩; clear hq_))) | ((with_reducible refine gC_ (f := 44) rfl ?_); refine gL_ (some 11) rfl rfl Tryd.func44 kr_ rfl #[.string a2] rfl mp_ ?_; (with_reducible refine (n_Normalize.calls k a2 ea _ A5.out).mono ?_); rintro e w' ⟨rfl, ⟨nd, rfl⟩⟩; refine ⟨_, rfl, ?_⟩; (try (rw [drewN_self w14]; generalize hq_ : World.drewN w14 _ = w14; replace aa : A0_ (w14.heap[da]? = some (.cells zC_ 32 (0, 0))) := ⟨by rw [← hq_]; exact (xK_ aa.out)⟩; replace HB : A0_ (Below w.heap.size w w14) := ⟨by rw [← hq_]; exact (xB1_ HB ba)⟩; clear hq_))) | ((with_reducible refine gC_ (f := 56) rfl ?_); refine gL_ (some 19) rfl rfl Tryd.func56 kr_ rfl #[.string ca, .string ea] rfl mp_ ?_; (with_reducible refine (n_GCD.calls k ca ea fa _ A12.out).mono ?_); rintro e w15 ⟨rfl, hb⟩; refine ⟨_, rfl, ?_⟩; replace aa := mk_ (kB_ (xK_ aa.out) hb); replace HB := mk_ (bT_ (xB1_ HB ba) hb); obtain ⟨Ha, Ia, Ja, Ka, La, Ma⟩ := kG3_ aa.out))
    refine bodyPost_ret (results_cell_row rfl _ _ da 32 #[.bool a0, .string ca, .string ea] (0, 0) _ rfl (by refine xk_ ?_; refine kQ_ (cs := #[.bool a0, .string ca, .string (⟨#[]⟩ : ByteArray)]) ?_ 2 _ rfl; refine kQ_ (cs := #[.bool a0, .string (⟨#[]⟩ : ByteArray), .string (⟨#[]⟩ : ByteArray)]) ?_ 1 _ rfl; refine kQ_ (cs := zC_) ?_ 0 _ rfl; exact aa.out) Tryd.underlying32 rfl kr_) rfl ?_
    exact ⟨rE_, xB1_ HB ba⟩
   ·have ra := beq_eq_false_iff_ne.mpr c13
    have sa := bne_iff_ne.mpr c13
    obtain ⟨⟨ga, ja, ka⟩, A17, H⟩ := oB_ H
    (try dsimp only at H)
    obtain ⟨⟨ia, la, ma⟩, A18, H⟩ := oB_ H
    (try dsimp only at H)
    replace H := iS_ H
    rcases H with ⟨c19, H⟩ | ⟨c19, H⟩
    ·have ta := beq_iff_eq.mpr c19
     have ua := bne_eq_false_iff_eq.mpr c19
     clear c19
     simp only [Option.some.injEq, Prod.mk.injEq] at H
     obtain ⟨rfl, rfl, rfl⟩ := H
     go_enter Tryd.func40, Tryd.ntmps40
     go_wp2_with (first | ((with_reducible refine gD_ (N := 6) rfl ?_); refine bX_ (N := 6) (cs := zC_) (t := 32) ?_; intro da hg w20 hbox hb; have aa := mk_ (hbox); have ha := mk_ (gZ_ hg (bZ_ (xB_ HB))); have ba := mk_ (gZ_ hg (bZ_ (xB_ HB))); replace HB := mk_ (bT_ (xB_ HB) hb); clear hb hbox hg) | ((with_reducible refine gC_ (f := 44) rfl ?_); refine gL_ (some 9) rfl rfl Tryd.func44 kr_ rfl #[.string a1] rfl mp_ ?_; (with_reducible refine (n_Normalize.calls k a1 ca _ A4.out).mono ?_); rintro e w' ⟨rfl, ⟨nd, rfl⟩⟩; refine ⟨_, rfl, ?_⟩; (try (rw [drewN_self w20]; generalize hq_ : World.drewN w20 _ = w20; replace aa : A0_ (w20.heap[da]? = some (.cells zC_ 32 (0, 0))) := ⟨by rw [← hq_]; exact (xK_ aa.out)⟩; replace HB : A0_ (Below w.heap.size w w20) := ⟨by rw [← hq_]; exact (xB1_ HB ba)⟩; clear hq_))) | ((with_reducible refine gC_ (f := 44) rfl ?_); refine gL_ (some 11) rfl rfl Tryd.func44 kr_ rfl #[.string a2] rfl mp_ ?_; (with_reducible refine (n_Normalize.calls k a2 ea _ A5.out).mono ?_); rintro e w' ⟨rfl, ⟨nd, rfl⟩⟩; refine ⟨_, rfl, ?_⟩; (try (rw [drewN_self w20]; generalize hq_ : World.drewN w20 _ = w20; replace aa : A0_ (w20.heap[da]? = some (.cells zC_ 32 (0, 0))) := ⟨by rw [← hq_]; exact (xK_ aa.out)⟩; replace HB : A0_ (Below w.heap.size w w20) := ⟨by rw [← hq_]; exact (xB1_ HB ba)⟩; clear hq_))) | ((with_reducible refine gC_ (f := 56) rfl ?_); refine gL_ (some 19) rfl rfl Tryd.func56 kr_ rfl #[.string ca, .string ea] rfl mp_ ?_; (with_reducible refine (n_GCD.calls k ca ea fa _ A12.out).mono ?_); rintro e w21 ⟨rfl, hb⟩; refine ⟨_, rfl, ?_⟩; replace aa := mk_ (kB_ (xK_ aa.out) hb); replace HB := mk_ (bT_ (xB1_ HB ba) hb)) | ((with_reducible refine gC_ (f := 57) rfl ?_); refine gL_ (some 25) rfl rfl Tryd.func57 kr_ rfl #[.string ca, .string fa] rfl mp_ ?_; (with_reducible refine (n_Divide.calls k ca fa ga ja ka _ A17.out).mono ?_); rintro e w22 ⟨rfl, hb⟩; refine ⟨_, rfl, ?_⟩; replace aa := mk_ (kB_ (xK_ aa.out) hb); replace HB := mk_ (bT_ (xB1_ HB ba) hb)) | ((with_reducible refine gC_ (f := 57) rfl ?_); refine gL_ (some 32) rfl rfl Tryd.func57 kr_ rfl #[.string ea, .string fa] rfl mp_ ?_; (with_reducible refine (n_Divide.calls k ea fa ia la ma _ A18.out).mono ?_); rintro e w23 ⟨rfl, hb⟩; refine ⟨_, rfl, ?_⟩; replace aa := mk_ (kB_ (xK_ aa.out) hb); replace HB := mk_ (bT_ (xB1_ HB ba) hb); obtain ⟨Na, Oa, Pa, Qa, Ra, Sa⟩ := kG3_ aa.out))
     refine bodyPost_ret (results_cell_row rfl _ _ da 32 #[.bool a0, .string ga, .string (⟨#[]⟩ : ByteArray)] (0, 0) _ rfl (by refine xk_ ?_; refine kQ_ (cs := #[.bool a0, .string ga, .string (⟨#[]⟩ : ByteArray)]) ?_ 2 _ rfl; refine kQ_ (cs := #[.bool a0, .string (⟨#[]⟩ : ByteArray), .string (⟨#[]⟩ : ByteArray)]) ?_ 1 _ rfl; refine kQ_ (cs := zC_) ?_ 0 _ rfl; exact aa.out) Tryd.underlying32 rfl kr_) rfl ?_
     exact ⟨rE_, xB1_ HB ba⟩
    ·have ta := beq_eq_false_iff_ne.mpr c19
     have ua := bne_iff_ne.mpr c19
     simp only [Option.some.injEq, Prod.mk.injEq] at H
     obtain ⟨rfl, rfl, rfl⟩ := H
     go_enter Tryd.func40, Tryd.ntmps40
     go_wp2_with (first | ((with_reducible refine gD_ (N := 6) rfl ?_); refine bX_ (N := 6) (cs := zC_) (t := 32) ?_; intro da hg w25 hbox hb; have aa := mk_ (hbox); have ha := mk_ (gZ_ hg (bZ_ (xB_ HB))); have ba := mk_ (gZ_ hg (bZ_ (xB_ HB))); replace HB := mk_ (bT_ (xB_ HB) hb); clear hb hbox hg) | ((with_reducible refine gC_ (f := 44) rfl ?_); refine gL_ (some 9) rfl rfl Tryd.func44 kr_ rfl #[.string a1] rfl mp_ ?_; (with_reducible refine (n_Normalize.calls k a1 ca _ A4.out).mono ?_); rintro e w' ⟨rfl, ⟨nd, rfl⟩⟩; refine ⟨_, rfl, ?_⟩; (try (rw [drewN_self w25]; generalize hq_ : World.drewN w25 _ = w25; replace aa : A0_ (w25.heap[da]? = some (.cells zC_ 32 (0, 0))) := ⟨by rw [← hq_]; exact (xK_ aa.out)⟩; replace HB : A0_ (Below w.heap.size w w25) := ⟨by rw [← hq_]; exact (xB1_ HB ba)⟩; clear hq_))) | ((with_reducible refine gC_ (f := 44) rfl ?_); refine gL_ (some 11) rfl rfl Tryd.func44 kr_ rfl #[.string a2] rfl mp_ ?_; (with_reducible refine (n_Normalize.calls k a2 ea _ A5.out).mono ?_); rintro e w' ⟨rfl, ⟨nd, rfl⟩⟩; refine ⟨_, rfl, ?_⟩; (try (rw [drewN_self w25]; generalize hq_ : World.drewN w25 _ = w25; replace aa : A0_ (w25.heap[da]? = some (.cells zC_ 32 (0, 0))) := ⟨by rw [← hq_]; exact (xK_ aa.out)⟩; replace HB : A0_ (Below w.heap.size w w25) := ⟨by rw [← hq_]; exact (xB1_ HB ba)⟩; clear hq_))) | ((with_reducible refine gC_ (f := 56) rfl ?_); refine gL_ (some 19) rfl rfl Tryd.func56 kr_ rfl #[.string ca, .string ea] rfl mp_ ?_; (with_reducible refine (n_GCD.calls k ca ea fa _ A12.out).mono ?_); rintro e w26 ⟨rfl, hb⟩; refine ⟨_, rfl, ?_⟩; replace aa := mk_ (kB_ (xK_ aa.out) hb); replace HB := mk_ (bT_ (xB1_ HB ba) hb)) | ((with_reducible refine gC_ (f := 57) rfl ?_); refine gL_ (some 25) rfl rfl Tryd.func57 kr_ rfl #[.string ca, .string fa] rfl mp_ ?_; (with_reducible refine (n_Divide.calls k ca fa ga ja ka _ A17.out).mono ?_); rintro e w27 ⟨rfl, hb⟩; refine ⟨_, rfl, ?_⟩; replace aa := mk_ (kB_ (xK_ aa.out) hb); replace HB := mk_ (bT_ (xB1_ HB ba) hb)) | ((with_reducible refine gC_ (f := 57) rfl ?_); refine gL_ (some 32) rfl rfl Tryd.func57 kr_ rfl #[.string ea, .string fa] rfl mp_ ?_; (with_reducible refine (n_Divide.calls k ea fa ia la ma _ A18.out).mono ?_); rintro e w28 ⟨rfl, hb⟩; refine ⟨_, rfl, ?_⟩; replace aa := mk_ (kB_ (xK_ aa.out) hb); replace HB := mk_ (bT_ (xB1_ HB ba) hb); obtain ⟨Ta, Ua, Va, Wa, Xa, Ya⟩ := kG3_ aa.out))
     refine bodyPost_ret (results_cell_row rfl _ _ da 32 #[.bool a0, .string ga, .string ia] (0, 0) _ rfl (by refine xk_ ?_; refine kQ_ (cs := #[.bool a0, .string ga, .string (⟨#[]⟩ : ByteArray)]) ?_ 2 _ rfl; refine kQ_ (cs := #[.bool a0, .string (⟨#[]⟩ : ByteArray), .string (⟨#[]⟩ : ByteArray)]) ?_ 1 _ rfl; refine kQ_ (cs := zC_) ?_ 0 _ rfl; exact aa.out) Tryd.underlying32 rfl kr_) rfl ?_
     exact ⟨rE_, xB1_ HB ba⟩
def q_add.j0 : Nat → ByteArray → ByteArray → ByteArray → Bool → ByteArray → ByteArray → Bool → ByteArray → ByteArray → Option (Bool × ByteArray × ByteArray)
 | 0, _, _, _, _, _, _, _, _, _ => none
 | k + 1, x5, x6, x7, x579000, x579001, x579002, x580000, x580001, x580002 => if (x579000 == x580000) = true then ((n_Add.f k x5 x6).bind fun t589 => ((q_reduced.f k x579000 t589 x7).bind fun bt590 => (some (bt590.1, bt590.2.1, bt590.2.2)))) else ((n_Subtract.f k x5 x6).bind fun bt593 => (if bt593.2 = true then ((q_reduced.f k x579000 bt593.1 x7).bind fun bt595 => (some (bt595.1, bt595.2.1, bt595.2.2))) else ((n_Subtract.f k x6 x5).bind fun bt598 => ((q_reduced.f k x580000 bt598.1 x7).bind fun bt600 => (some (bt600.1, bt600.2.1, bt600.2.2))))))
def q_add.f (k : Nat) (a0_0 : Bool) (a0_1 : ByteArray) (a0_2 : ByteArray) (a1_0 : Bool) (a1_1 : ByteArray) (a1_2 : ByteArray) : Option (Bool × ByteArray × ByteArray) := if a0_2.toList = a1_2.toList then ((q_den.f a0_0 a0_1 a0_2).bind fun t581 => (q_add.j0 k a0_1 a1_1 t581 a0_0 a0_1 a0_2 a1_0 a1_1 a1_2)) else ((q_den.f a1_0 a1_1 a1_2).bind fun t582 => ((n_Multiply.f k a0_1 t582).bind fun t583 => ((q_den.f a0_0 a0_1 a0_2).bind fun t584 => ((n_Multiply.f k a1_1 t584).bind fun t585 => ((q_den.f a0_0 a0_1 a0_2).bind fun t586 => ((q_den.f a1_0 a1_1 a1_2).bind fun t587 => ((n_Multiply.f k t586 t587).bind fun t588 => (q_add.j0 k t583 t585 t588 a0_0 a0_1 a0_2 a1_0 a1_1 a1_2))))))))
theorem q_add.mono_l : ∀ k, (∀ y0 y1 y2 y3 y4 y5 y6 y7 y8, LeO (q_add.j0 k y0 y1 y2 y3 y4 y5 y6 y7 y8) (q_add.j0 (k + 1) y0 y1 y2 y3 y4 y5 y6 y7 y8))
 | 0 => fun _ _ _ _ _ _ _ _ _ r h => by simp [q_add.j0] at h
 | k + 1 => by
  have ih0 := q_add.mono_l k
  ·intro y0 y1 y2 y3 y4 y5 y6 y7 y8
   unfold q_add.j0
   repeat' first
   | (with_reducible first | exact ih0 _ _ _ _ _ _ _ _ _ | exact n_Add.mono _ _ _ | exact n_Multiply.mono _ _ _ | exact n_Subtract.mono _ _ _ | exact q_reduced.mono _ _ _ _ | exact LeO.refl _ | exact LeO.none _ | refine LeO.ite ?_ ?_ | refine LeO.bind ?_ (fun _ => ?_))
theorem q_add.mono : ∀ a0 a1 a2 a3 a4 a5 k, LeO (q_add.f k a0 a1 a2 a3 a4 a5) (q_add.f (k + 1) a0 a1 a2 a3 a4 a5) := by
 intro a0 a1 a2 a3 a4 a5 k
 have ih0 := q_add.mono_l k
 unfold q_add.f
 repeat' first
   | (with_reducible first | exact ih0 _ _ _ _ _ _ _ _ _ | exact n_Add.mono _ _ _ | exact n_Multiply.mono _ _ _ | exact n_Subtract.mono _ _ _ | exact q_reduced.mono _ _ _ _ | exact LeO.refl _ | exact LeO.none _ | refine LeO.ite ?_ ?_ | refine LeO.bind ?_ (fun _ => ?_))
def q_add.T3 : Bool × List (List Nat × List Nat) := (true, [([], []), ([], []), ([1], [1]), ([0, 2, 2], [0, 2]), ([], []), ([], []), ([5, 3], [5]), ([4, 6, 6], [4, 6]), ([3, 7, 0, 1, 2, 3], [0, 3]), ([7, 8, 0, 1, 2, 3, 4, 5, 6, 7, 8], [4, 7])])
def q_add.B3 : List Nat := [0, 0, 2, 7, 0, 0, 47, 127, 255, 511]
theorem q_add.tab3 : rtab .any (opsOf Tryd.f23 3) = q_add.T3 := by kernel_rfl
theorem q_add.bits3 : waitsOk q_add.T3.2 q_add.B3 = true := by kernel_rfl
def q_add.T7 : Bool × List (List Nat × List Nat) := (true, [([], []), ([0], [0]), ([], []), ([], []), ([2, 3], [2, 3]), ([], []), ([1, 4, 5, 4], [1, 4, 5]), ([6, 6, 0, 1, 2, 3, 4, 5, 6], [6])])
def q_add.B7 : List Nat := [0, 1, 0, 0, 12, 0, 63, 127]
theorem q_add.tab7 : rtab .any (opsOf Tryd.f23 7) = q_add.T7 := by kernel_rfl
theorem q_add.bits7 : waitsOk q_add.T7.2 q_add.B7 = true := by kernel_rfl
theorem q_add.calls (k : Nat) (a0_0 : Bool) (a0_1 : ByteArray) (a0_2 : ByteArray) (a1_0 : Bool) (a1_1 : ByteArray) (a1_2 : ByteArray) (r1 : Bool) (r2 : ByteArray) (r3 : ByteArray) (w : World) (h : q_add.f k a0_0 a0_1 a0_2 a1_0 a1_1 a1_2 = some (r1, r2, r3)) :
  Calls Tryd.prog 23 #[.agg #[.bool a0_0, .string a0_1, .string a0_2], .agg #[.bool a1_0, .string a1_1, .string a1_2]] w fun e w' => e = .returned (.agg #[.bool r1, .string r2, .string r3]) ∧ Below w.heap.size w w' := by
 have hu32 := Tryd.underlying32
 have HB := mk_ (Below.refl w.heap.size w)
 have H := h
 unfold q_add.f at H
 clear h
 have HC3 := mk_ H
 clear H
 go_enter Tryd.func23, Tryd.ntmps23
 try go_wp2_with (first | ((with_reducible refine gD_ (N := 2) rfl ?_); refine bX_ (N := 2) (cs := #[.bool a0_0, .string a0_1, .string a0_2]) (t := 32) ?_; intro ia hg w4 hbox hb; have aa := mk_ (hbox); have Sa := mk_ (gZ_ hg (bZ_ (xB_ HB))); have da := mk_ (gZ_ hg (bZ_ (xB_ HB))); replace HB := mk_ (bT_ (xB_ HB) hb); clear hb hbox hg) | ((with_reducible refine gD_ (N := 3) rfl ?_); refine bX_ (N := 3) (cs := #[.bool a1_0, .string a1_1, .string a1_2]) (t := 32) ?_; intro la hg w5 hbox hb; have ba := mk_ (hbox); have Ta := mk_ (gZ_ hg (bZ_ (xB1_ HB da))); have ea := mk_ (gZ_ hg (bZ_ (xB1_ HB da))); replace HB := mk_ (bT_ (xB1_ HB da) hb); have qa := mk_ (gN_ hg (xK_ aa.out)); have ra := mk_ (gM_ hg (xK_ aa.out)); replace aa := mk_ (kB_ (xK_ aa.out) hb); clear hb hbox hg) | ((with_reducible refine gD_ (N := 4) rfl ?_); refine bX_ (N := 4) (cs := zC_) (t := 32) ?_; intro ha hg w6 hbox hb; have ca := mk_ (hbox); have Ua := mk_ (gZ_ hg (bZ_ (xB2_ HB da ea))); have fa := mk_ (gZ_ hg (bZ_ (xB2_ HB da ea))); replace HB := mk_ (bT_ (xB2_ HB da ea) hb); have ga := mk_ (gN_ hg (xK_ aa.out)); have na := mk_ (gM_ hg (xK_ aa.out)); replace aa := mk_ (kB_ (xK_ aa.out) hb); have oa := mk_ (gN_ hg (xK_ ba.out)); have pa := mk_ (gM_ hg (xK_ ba.out)); replace ba := mk_ (kB_ (xK_ ba.out) hb); clear hb hbox hg))
 replace aa := mk_ (kD_ aa.out)
 replace ba := mk_ (kD_ ba.out)
 replace ca := mk_ (kD_ ca.out)
 replace HB := mk_ (b1_ HB.out)
 refine start_ (n := 7) (S := fun w' => w'.cell? ⟨ia, 0, none⟩ = some (.bool a0_0) ∧ w'.cell? ⟨ia, 1, none⟩ = some (.string a0_1) ∧ w'.cell? ⟨ia, 2, none⟩ = some (.string a0_2) ∧ w'.cell? ⟨la, 0, none⟩ = some (.bool a1_0) ∧ w'.cell? ⟨la, 1, none⟩ = some (.string a1_1) ∧ w'.cell? ⟨la, 2, none⟩ = some (.string a1_2)) (ds := []) (tf_ 0 7) kr_ rfl rfl ⟨(kc_ aa.out 0).trans rfl, (kc_ aa.out 1).trans rfl, (kc_ aa.out 2).trans rfl, (kc_ ba.out 0).trans rfl, (kc_ ba.out 1).trans rfl, (kc_ ba.out 2).trans rfl⟩ (fun hHeld => ?_)
 generalize w6.drew = w7 at aa ba ca HB hHeld ⊢
 refine pu_ (i := 0) (N := some 12) (v := ?_) (a' := ?_) (tf_ 1 6) rfl rfl kr_ (fun _ _ _ h => h) (Or.inl ⟨by rfl, ?_⟩) ?_ ?_
 rotate_left
 ·intro w'
  go_simp
  with_reducible rfl
 rotate_left
 ·simp only [Act.put, s1_, s2_, s3_, i6_, i3_]
  rfl
 refine pu_ (i := 2) (N := some 14) (v := ?_) (a' := ?_) #[true, false, true, false, false, false, false] rfl rfl kr_ (fun _ _ _ h => h) (Or.inl ⟨by rfl, ?_⟩) ?_ ?_
 rotate_left
 ·intro w'
  go_simp
  with_reducible rfl
 rotate_left
 ·simp only [Act.put, s1_, s2_, s3_, i6_, i3_]
  rfl
 refine take_ (i := 1) (N := some 13) (v := ?_) (a' := ?_) (tf_ 3 4) rfl rfl kr_ (fun _ _ _ h => h) (Or.inl ⟨by rfl, ?_⟩) hHeld ?_ ?_
 rotate_left
 ·rintro w' ⟨s0, s1, s2, s3, s4, s5⟩
  go_simp
  with_reducible rfl
 rotate_left
 ·simp only [Act.put, s1_, s2_, s3_, i6_, i3_]
  rfl
 refine pu_ (i := 4) (N := some 5) (v := ?_) (a' := ?_) #[true, true, true, false, true, false, false] rfl rfl kr_ (fun _ _ _ h => h) (Or.inl ⟨by rfl, ?_⟩) ?_ ?_
 rotate_left
 ·intro w'
  go_simp
  with_reducible rfl
 rotate_left
 ·simp only [Act.put, s1_, s2_, s3_, i6_, i3_]
  rfl
 refine take_ (i := 3) (N := some 15) (v := ?_) (a' := ?_) (tf_ 5 2) rfl rfl kr_ (fun _ _ _ h => h) (Or.inl ⟨by rfl, ?_⟩) hHeld ?_ ?_
 rotate_left
 ·rintro w' ⟨s0, s1, s2, s3, s4, s5⟩
  go_simp
  with_reducible rfl
 rotate_left
 ·simp only [Act.put, s1_, s2_, s3_, i6_, i3_]
  rfl
 refine pu_ (i := 5) (N := some 6) (v := ?_) (a' := ?_) (tf_ 6 1) rfl rfl kr_ (fun _ _ _ h => h) (Or.inl ⟨by rfl, ?_⟩) ?_ ?_
 rotate_left
 ·intro w'
  go_simp
  with_reducible rfl
 rotate_left
 ·simp only [Act.put, s1_, s2_, s3_, i6_, i3_]
  rfl
 refine pu_ (i := 6) (N := some 7) (v := ?_) (a' := ?_) (tf_ 7 0) rfl rfl kr_ (fun _ _ _ h => h) (Or.inl ⟨by rfl, ?_⟩) ?_ ?_
 rotate_left
 ·intro w'
  go_simp
  with_reducible rfl
 rotate_left
 ·simp only [Act.put, s1_, s2_, s3_, i6_, i3_]
  rfl
 refine done_ kr_ ?_
 have hnb8 := qa.out
 have hnc8 := ra.out
 have hnb9 := ga.out
 have hnc9 := na.out
 obtain ⟨Va, Wa, Xa, Ya, Za, ab⟩ := kG3_ aa.out
 have hnb11 := oa.out
 have hnc11 := pa.out
 obtain ⟨bb, cb, db, eb, fb, gb⟩ := kG3_ ba.out
 go_upto_if 20 with (fail)
 go_cut [5, 6, 7] (fun v5 v6 v7 wc => ∃ (kq : Nat) (ja : ByteArray) (ka : ByteArray) (ma : ByteArray), v5 = .string ja ∧ v6 = .string ka ∧ v7 = .string ma ∧ A0_ (q_add.j0 kq ja ka ma a0_0 a0_1 a0_2 a1_0 a1_1 a1_2 = some (r1, r2, r3)) ∧ A0_ (kq ≤ k) ∧ A0_ (wc.heap[ia]? = some (.cells #[.bool a0_0, .string a0_1, .string a0_2] 32 (0, 0))) ∧ A0_ (wc.heap[la]? = some (.cells #[.bool a1_0, .string a1_1, .string a1_2] 32 (0, 0))) ∧ A0_ (wc.heap[ha]? = some (.cells zC_ 32 (0, 0))) ∧ A0_ (Below w.heap.size w wc))
 case first =>
  have H := HC3.out
  clear HC3
  replace H := iS_ H
  rcases H with ⟨c13, H⟩ | ⟨c13, H⟩
  ·have sa := beq_iff_eq.mpr c13
   have xa := bne_eq_false_iff_eq.mpr c13
   clear c13
   (first | rw [sa] | rw [xa] | (simp only [i6_, i3_]; rw [sa]) | skip)
   replace H := oB_ H
   obtain ⟨Ha, A14, H⟩ := H
   (try dsimp only at H)
   have H' := mk_ H
   clear H
   have hnb15 := qa.out
   have hnc15 := ra.out
   have hnb16 := ga.out
   have hnc16 := na.out
   obtain ⟨ib, jb, kb, mb, nb, ob⟩ := kG3_ aa.out
   go_wp2_with (first | ((with_reducible refine gC_ (f := 28) rfl ?_); refine gL_ (some 35) rfl rfl Tryd.func28 kr_ rfl #[.agg #[.bool a0_0, .string a0_1, .string a0_2]] rfl mp_ ?_; (with_reducible refine (q_den.calls a0_0 a0_1 a0_2 Ha _ A14.out).mono ?_); rintro e w18 ⟨rfl, hb⟩; refine ⟨_, rfl, ?_⟩; replace aa := mk_ (kB_ (xK_ aa.out) hb); replace ba := mk_ (kB_ (xK_ ba.out) hb); replace ca := mk_ (kB_ (xK_ ca.out) hb); replace HB := mk_ (bT_ (xB3_ HB da ea fa) hb)))
   go_meet
   case rel => exact ⟨_, (a0_1), (a1_1), (Ha), (rS_), (rS_), (rS_), H', ⟨by first | omega | exact Nat.le_refl _⟩, ⟨by refine xk_ ?_; exact aa.out⟩, ⟨by refine xk_ ?_; exact ba.out⟩, ⟨by refine xk_ ?_; exact ca.out⟩, ⟨xB3_ HB da ea fa⟩⟩
  ·have sa := beq_eq_false_iff_ne.mpr c13
   have xa := bne_iff_ne.mpr c13
   (first | rw [sa] | rw [xa] | (simp only [i6_, i3_]; rw [sa]) | skip)
   replace H := oB_ H
   obtain ⟨ya, A19, H⟩ := H
   (try dsimp only at H)
   replace H := oB_ H
   obtain ⟨Ia, A20, H⟩ := H
   (try dsimp only at H)
   replace H := oB_ H
   obtain ⟨za, A21, H⟩ := H
   (try dsimp only at H)
   replace H := oB_ H
   obtain ⟨Ja, A22, H⟩ := H
   (try dsimp only at H)
   replace H := oB_ H
   obtain ⟨Aa, A23, H⟩ := H
   (try dsimp only at H)
   replace H := oB_ H
   obtain ⟨Ba, A24, H⟩ := H
   (try dsimp only at H)
   replace H := oB_ H
   obtain ⟨Ka, A25, H⟩ := H
   (try dsimp only at H)
   have H' := mk_ H
   clear H
   try go_wp2
   replace aa := mk_ (kD_ aa.out)
   replace ba := mk_ (kD_ ba.out)
   replace ca := mk_ (kD_ ca.out)
   replace HB := mk_ (b1_ HB.out)
   refine start_ (n := 10) (S := fun w' => w'.cell? ⟨la, 0, none⟩ = some (.bool a1_0) ∧ w'.cell? ⟨la, 1, none⟩ = some (.string a1_1) ∧ w'.cell? ⟨la, 2, none⟩ = some (.string a1_2) ∧ w'.cell? ⟨ia, 0, none⟩ = some (.bool a0_0) ∧ w'.cell? ⟨ia, 1, none⟩ = some (.string a0_1) ∧ w'.cell? ⟨ia, 2, none⟩ = some (.string a0_2)) (ds := []) (tf_ 0 10) kr_ rfl rfl ⟨(kc_ ba.out 0).trans rfl, (kc_ ba.out 1).trans rfl, (kc_ ba.out 2).trans rfl, (kc_ aa.out 0).trans rfl, (kc_ aa.out 1).trans rfl, (kc_ aa.out 2).trans rfl⟩ (fun hHeld => ?_); refine with_tabW q_add.tab3 q_add.bits3 (fun HT_ HW_ => ?_)
   generalize w7.drew = w26 at aa ba ca HB hHeld ⊢
   refine pu_ (i := 0) (N := some 21) (v := ?_) (a' := ?_) (tf_ 1 9) rfl rfl (an_ HT_.out kr_) (fun _ _ _ h => h) (Or.inl ⟨by rfl, ?_⟩) ?_ ?_
   rotate_left
   ·intro w'
    go_simp
    with_reducible rfl
   rotate_left
   ·simp only [Act.put, s1_, s2_, s3_, i6_, i3_]
    rfl
   refine pu_ (i := 4) (N := some 25) (v := ?_) (a' := ?_) #[true, false, false, false, true, false, false, false, false, false] rfl rfl (an_ HT_.out kr_) (fun _ _ _ h => h) (Or.inl ⟨by rfl, ?_⟩) ?_ ?_
   rotate_left
   ·intro w'
    go_simp
    with_reducible rfl
   rotate_left
   ·simp only [Act.put, s1_, s2_, s3_, i6_, i3_]
    rfl
   refine take_ (i := 1) (N := some 22) (v := ?_) (a' := ?_) #[true, true, false, false, true, false, false, false, false, false] rfl rfl (tW_ HT_.out HW_.out kr_) (fun _ _ _ h => h) (Or.inl ⟨by rfl, ?_⟩) hHeld ?_ ?_
   rotate_left
   ·rintro w' ⟨s0, s1, s2, s3, s4, s5⟩
    go_simp
    with_reducible rfl
   rotate_left
   ·simp only [Act.put, s1_, s2_, s3_, i6_, i3_]
    rfl
   refine take_ (i := 5) (N := some 26) (v := ?_) (a' := ?_) #[true, true, false, false, true, true, false, false, false, false] rfl rfl (tW_ HT_.out HW_.out kr_) (fun _ _ _ h => h) (Or.inl ⟨by rfl, ?_⟩) hHeld ?_ ?_
   rotate_left
   ·rintro w' ⟨s0, s1, s2, s3, s4, s5⟩
    go_simp
    with_reducible rfl
   rotate_left
   ·simp only [Act.put, s1_, s2_, s3_, i6_, i3_]
    rfl
   refine one_ (i := 2) (N := some 23) #[true, true, true, false, true, true, false, false, false, false] rfl rfl (one_of HT_.out kr_) (by decide) (fun K hK => ?_)
   refine goes_ Tryd.func28 kr_ rfl #[.agg #[.bool a1_0, .string a1_1, .string a1_2]] (by rfl) rfl rfl mp_ ?_
   with_reducible refine (q_den.calls a1_0 a1_1 a1_2 ya _ A19.out).mono ?_
   rintro e w27 ⟨rfl, hb⟩
   refine ⟨_, rfl, ?_⟩
   replace aa := mk_ (kB_ (xK_ aa.out) hb)
   replace ba := mk_ (kB_ (xK_ ba.out) hb)
   replace ca := mk_ (kB_ (xK_ ca.out) hb)
   replace HB := mk_ (bT_ (xB3_ HB da ea fa) hb)
   (try clear hb)
   (try clear hb2)
   (try clear hk)
   (try clear hi)
   refine hK.out _ _ ⟨(kc_ ba.out 0).trans rfl, (kc_ ba.out 1).trans rfl, (kc_ ba.out 2).trans rfl, (kc_ aa.out 0).trans rfl, (kc_ aa.out 1).trans rfl, (kc_ aa.out 2).trans rfl⟩ (fun hHeld => ?_)
   clear hK K
   refine norm_ (a' := ?_) ?_ ?_
   rotate_left
   ·show Act.put _ (some 23) _ = _
    simp only [Act.put, s1_, s2_, s3_, i6_, i3_]
    rfl
   refine one_ (i := 3) (N := some 24) (tf_ 6 4) rfl rfl (one_of HT_.out kr_) (by decide) (fun K hK => ?_)
   refine goes_ Tryd.func27 kr_ rfl #[.string a0_1, .string ya] (by rfl) rfl rfl mp_ ?_
   with_reducible refine (n_Multiply.calls k a0_1 ya Ia _ A20.out).mono ?_
   rintro e w28 ⟨rfl, hb⟩
   refine ⟨_, rfl, ?_⟩
   replace aa := mk_ (kB_ (xK_ aa.out) hb)
   replace ba := mk_ (kB_ (xK_ ba.out) hb)
   replace ca := mk_ (kB_ (xK_ ca.out) hb)
   replace HB := mk_ (bT_ (xB3_ HB da ea fa) hb)
   (try clear hb)
   (try clear hb2)
   (try clear hk)
   (try clear hi)
   refine hK.out _ _ ⟨(kc_ ba.out 0).trans rfl, (kc_ ba.out 1).trans rfl, (kc_ ba.out 2).trans rfl, (kc_ aa.out 0).trans rfl, (kc_ aa.out 1).trans rfl, (kc_ aa.out 2).trans rfl⟩ (fun hHeld => ?_)
   clear hK K
   refine norm_ (a' := ?_) ?_ ?_
   rotate_left
   ·show Act.put _ (some 24) _ = _
    simp only [Act.put, s1_, s2_, s3_, i6_, i3_]
    rfl
   refine one_ (i := 6) (N := some 27) (tf_ 7 3) rfl rfl (one_of HT_.out kr_) (by decide) (fun K hK => ?_)
   refine goes_ Tryd.func28 kr_ rfl #[.agg #[.bool a0_0, .string a0_1, .string a0_2]] (by rfl) rfl rfl mp_ ?_
   with_reducible refine (q_den.calls a0_0 a0_1 a0_2 za _ A21.out).mono ?_
   rintro e w29 ⟨rfl, hb⟩
   refine ⟨_, rfl, ?_⟩
   replace aa := mk_ (kB_ (xK_ aa.out) hb)
   replace ba := mk_ (kB_ (xK_ ba.out) hb)
   replace ca := mk_ (kB_ (xK_ ca.out) hb)
   replace HB := mk_ (bT_ (xB3_ HB da ea fa) hb)
   (try clear hb)
   (try clear hb2)
   (try clear hk)
   (try clear hi)
   refine hK.out _ _ ⟨(kc_ ba.out 0).trans rfl, (kc_ ba.out 1).trans rfl, (kc_ ba.out 2).trans rfl, (kc_ aa.out 0).trans rfl, (kc_ aa.out 1).trans rfl, (kc_ aa.out 2).trans rfl⟩ (fun hHeld => ?_)
   clear hK K
   refine norm_ (a' := ?_) ?_ ?_
   rotate_left
   ·show Act.put _ (some 27) _ = _
    simp only [Act.put, s1_, s2_, s3_, i6_, i3_]
    rfl
   refine one_ (i := 7) (N := some 28) (tf_ 8 2) rfl rfl (one_of HT_.out kr_) (by decide) (fun K hK => ?_)
   refine goes_ Tryd.func27 kr_ rfl #[.string a1_1, .string za] (by rfl) rfl rfl mp_ ?_
   with_reducible refine (n_Multiply.calls k a1_1 za Ja _ A22.out).mono ?_
   rintro e w30 ⟨rfl, hb⟩
   refine ⟨_, rfl, ?_⟩
   replace aa := mk_ (kB_ (xK_ aa.out) hb)
   replace ba := mk_ (kB_ (xK_ ba.out) hb)
   replace ca := mk_ (kB_ (xK_ ca.out) hb)
   replace HB := mk_ (bT_ (xB3_ HB da ea fa) hb)
   (try clear hb)
   (try clear hb2)
   (try clear hk)
   (try clear hi)
   refine hK.out _ _ ⟨(kc_ ba.out 0).trans rfl, (kc_ ba.out 1).trans rfl, (kc_ ba.out 2).trans rfl, (kc_ aa.out 0).trans rfl, (kc_ aa.out 1).trans rfl, (kc_ aa.out 2).trans rfl⟩ (fun hHeld => ?_)
   clear hK K
   refine norm_ (a' := ?_) ?_ ?_
   rotate_left
   ·show Act.put _ (some 28) _ = _
    simp only [Act.put, s1_, s2_, s3_, i6_, i3_]
    rfl
   refine pu_ (i := 8) (N := some 5) (v := ?_) (a' := ?_) (tf_ 9 1) rfl rfl (an_ HT_.out kr_) (fun _ _ _ h => h) (Or.inl ⟨by rfl, ?_⟩) ?_ ?_
   rotate_left
   ·intro w'
    go_simp
    with_reducible rfl
   rotate_left
   ·simp only [Act.put, s1_, s2_, s3_, i6_, i3_]
    rfl
   refine pu_ (i := 9) (N := some 6) (v := ?_) (a' := ?_) (tf_ 10 0) rfl rfl (an_ HT_.out kr_) (fun _ _ _ h => h) (Or.inl ⟨by rfl, ?_⟩) ?_ ?_
   rotate_left
   ·intro w'
    go_simp
    with_reducible rfl
   rotate_left
   ·simp only [Act.put, s1_, s2_, s3_, i6_, i3_]
    rfl
   refine done_ (done_of HT_.out kr_) ?_
   try go_wp2
   replace aa := mk_ (kD_ aa.out)
   replace ba := mk_ (kD_ ba.out)
   replace ca := mk_ (kD_ ca.out)
   replace HB := mk_ (b1_ HB.out)
   refine start_ (n := 6) (S := fun w' => w'.cell? ⟨ia, 0, none⟩ = some (.bool a0_0) ∧ w'.cell? ⟨ia, 1, none⟩ = some (.string a0_1) ∧ w'.cell? ⟨ia, 2, none⟩ = some (.string a0_2) ∧ w'.cell? ⟨la, 0, none⟩ = some (.bool a1_0) ∧ w'.cell? ⟨la, 1, none⟩ = some (.string a1_1) ∧ w'.cell? ⟨la, 2, none⟩ = some (.string a1_2)) (ds := []) (tf_ 0 6) kr_ rfl rfl ⟨(kc_ aa.out 0).trans rfl, (kc_ aa.out 1).trans rfl, (kc_ aa.out 2).trans rfl, (kc_ ba.out 0).trans rfl, (kc_ ba.out 1).trans rfl, (kc_ ba.out 2).trans rfl⟩ (fun hHeld => ?_)
   generalize w30.drew = w31 at aa ba ca HB hHeld ⊢
   refine take_ (i := 0) (N := some 29) (v := ?_) (a' := ?_) (tf_ 1 5) rfl rfl kr_ (fun _ _ _ h => h) (Or.inl ⟨by rfl, ?_⟩) hHeld ?_ ?_
   rotate_left
   ·rintro w' ⟨s0, s1, s2, s3, s4, s5⟩
    go_simp
    with_reducible rfl
   rotate_left
   ·simp only [Act.put, s1_, s2_, s3_, i6_, i3_]
    rfl
   refine take_ (i := 2) (N := some 31) (v := ?_) (a' := ?_) #[true, false, true, false, false, false] rfl rfl kr_ (fun _ _ _ h => h) (Or.inl ⟨by rfl, ?_⟩) hHeld ?_ ?_
   rotate_left
   ·rintro w' ⟨s0, s1, s2, s3, s4, s5⟩
    go_simp
    with_reducible rfl
   rotate_left
   ·simp only [Act.put, s1_, s2_, s3_, i6_, i3_]
    rfl
   refine one_ (i := 1) (N := some 30) (tf_ 3 3) rfl rfl kr_ (by decide) (fun K hK => ?_)
   refine goes_ Tryd.func28 kr_ rfl #[.agg #[.bool a0_0, .string a0_1, .string a0_2]] (by rfl) rfl rfl mp_ ?_
   with_reducible refine (q_den.calls a0_0 a0_1 a0_2 Aa _ A23.out).mono ?_
   rintro e w32 ⟨rfl, hb⟩
   refine ⟨_, rfl, ?_⟩
   replace aa := mk_ (kB_ (xK_ aa.out) hb)
   replace ba := mk_ (kB_ (xK_ ba.out) hb)
   replace ca := mk_ (kB_ (xK_ ca.out) hb)
   replace HB := mk_ (bT_ (xB3_ HB da ea fa) hb)
   (try clear hb)
   (try clear hb2)
   (try clear hk)
   (try clear hi)
   refine hK.out _ _ ⟨(kc_ aa.out 0).trans rfl, (kc_ aa.out 1).trans rfl, (kc_ aa.out 2).trans rfl, (kc_ ba.out 0).trans rfl, (kc_ ba.out 1).trans rfl, (kc_ ba.out 2).trans rfl⟩ (fun hHeld => ?_)
   clear hK K
   refine norm_ (a' := ?_) ?_ ?_
   rotate_left
   ·show Act.put _ (some 30) _ = _
    simp only [Act.put, s1_, s2_, s3_, i6_, i3_]
    rfl
   refine one_ (i := 3) (N := some 32) (tf_ 4 2) rfl rfl kr_ (by decide) (fun K hK => ?_)
   refine goes_ Tryd.func28 kr_ rfl #[.agg #[.bool a1_0, .string a1_1, .string a1_2]] (by rfl) rfl rfl mp_ ?_
   with_reducible refine (q_den.calls a1_0 a1_1 a1_2 Ba _ A24.out).mono ?_
   rintro e w33 ⟨rfl, hb⟩
   refine ⟨_, rfl, ?_⟩
   replace aa := mk_ (kB_ (xK_ aa.out) hb)
   replace ba := mk_ (kB_ (xK_ ba.out) hb)
   replace ca := mk_ (kB_ (xK_ ca.out) hb)
   replace HB := mk_ (bT_ (xB3_ HB da ea fa) hb)
   (try clear hb)
   (try clear hb2)
   (try clear hk)
   (try clear hi)
   refine hK.out _ _ ⟨(kc_ aa.out 0).trans rfl, (kc_ aa.out 1).trans rfl, (kc_ aa.out 2).trans rfl, (kc_ ba.out 0).trans rfl, (kc_ ba.out 1).trans rfl, (kc_ ba.out 2).trans rfl⟩ (fun hHeld => ?_)
   clear hK K
   refine norm_ (a' := ?_) ?_ ?_
   rotate_left
   ·show Act.put _ (some 32) _ = _
    simp only [Act.put, s1_, s2_, s3_, i6_, i3_]
    rfl
   refine one_ (i := 4) (N := some 33) (tf_ 5 1) rfl rfl kr_ (by decide) (fun K hK => ?_)
   refine goes_ Tryd.func27 kr_ rfl #[.string Aa, .string Ba] (by rfl) rfl rfl mp_ ?_
   with_reducible refine (n_Multiply.calls k Aa Ba Ka _ A25.out).mono ?_
   rintro e w34 ⟨rfl, hb⟩
   refine ⟨_, rfl, ?_⟩
   replace aa := mk_ (kB_ (xK_ aa.out) hb)
   replace ba := mk_ (kB_ (xK_ ba.out) hb)
   replace ca := mk_ (kB_ (xK_ ca.out) hb)
   replace HB := mk_ (bT_ (xB3_ HB da ea fa) hb)
   (try clear hb)
   (try clear hb2)
   (try clear hk)
   (try clear hi)
   refine hK.out _ _ ⟨(kc_ aa.out 0).trans rfl, (kc_ aa.out 1).trans rfl, (kc_ aa.out 2).trans rfl, (kc_ ba.out 0).trans rfl, (kc_ ba.out 1).trans rfl, (kc_ ba.out 2).trans rfl⟩ (fun hHeld => ?_)
   clear hK K
   refine norm_ (a' := ?_) ?_ ?_
   rotate_left
   ·show Act.put _ (some 33) _ = _
    simp only [Act.put, s1_, s2_, s3_, i6_, i3_]
    rfl
   refine pu_ (i := 5) (N := some 7) (v := ?_) (a' := ?_) (tf_ 6 0) rfl rfl kr_ (fun _ _ _ h => h) (Or.inl ⟨by rfl, ?_⟩) ?_ ?_
   rotate_left
   ·intro w'
    go_simp
    with_reducible rfl
   rotate_left
   ·simp only [Act.put, s1_, s2_, s3_, i6_, i3_]
    rfl
   refine done_ kr_ ?_
   try go_wp2
   go_meet
   case rel => exact ⟨_, (Ia), (Ja), (Ka), (rS_), (rS_), (rS_), H', ⟨by first | omega | exact Nat.le_refl _⟩, ⟨by refine xk_ ?_; exact aa.out⟩, ⟨by refine xk_ ?_; exact ba.out⟩, ⟨by refine xk_ ?_; exact ca.out⟩, ⟨xB3_ HB da ea fa⟩⟩
 case rest =>
  clear HC3
  obtain ⟨kq, ja, ka, ma, rfl, rfl, rfl, HA, HJ2, aa, ba, ca, HB⟩ := hcut
  cases kq with
  | zero => exact absurd HA.out (by simp [q_add.j0])
  | succ kj2 =>
   have H := HA.out
   clear HA
   simp only [q_add.j0] at H
   replace H := iS_ H
   rcases H with ⟨c35, H⟩ | ⟨c35, H⟩
   ·have Oa : (a0_0 == a1_0) = true := c35
    (try (have Pa : decide (a0_0 = a1_0) = true := by simpa using c35))
    (try (have Qa : (a0_0 == a1_0) = true := by simpa using c35))
    clear c35
    replace H := oB_ H
    obtain ⟨Ca, A36, H⟩ := H
    (try dsimp only at H)
    replace H := oB_ H
    obtain ⟨⟨ta, Da, La⟩, A37, H⟩ := H
    (try dsimp only at H)
    simp only [Option.some.injEq, Prod.mk.injEq] at H
    obtain ⟨rfl, rfl, rfl⟩ := H
    have hnb38 := qa.out
    have hnc38 := ra.out
    have hnb39 := ga.out
    have hnc39 := na.out
    obtain ⟨pb, qb, rb, sb, tb, ub⟩ := kG3_ aa.out
    have hnb41 := oa.out
    have hnc41 := pa.out
    obtain ⟨vb, wb, xb, yb, zb, Ab⟩ := kG3_ ba.out
    try go_wp2
    replace aa := mk_ (kD_ aa.out)
    replace ba := mk_ (kD_ ba.out)
    replace ca := mk_ (kD_ ca.out)
    replace HB := mk_ (b1_ HB.out)
    refine start_ (n := 8) (S := fun w' => w'.cell? ⟨ia, 0, none⟩ = some (.bool a0_0) ∧ w'.cell? ⟨ia, 1, none⟩ = some (.string a0_1) ∧ w'.cell? ⟨ia, 2, none⟩ = some (.string a0_2)) (ds := []) (tf_ 0 8) kr_ rfl rfl ⟨(kc_ aa.out 0).trans rfl, (kc_ aa.out 1).trans rfl, (kc_ aa.out 2).trans rfl⟩ (fun hHeld => ?_); refine with_tabW q_add.tab7 q_add.bits7 (fun HT_ HW_ => ?_)
    generalize wc.drew = w43 at aa ba ca HB hHeld ⊢
    refine pu_ (i := 0) (N := some 41) (v := ?_) (a' := ?_) (tf_ 1 7) rfl rfl (an_ HT_.out kr_) (fun _ _ _ h => h) (Or.inl ⟨by rfl, ?_⟩) ?_ ?_
    rotate_left
    ·intro w'
     go_simp
     with_reducible rfl
    rotate_left
    ·simp only [Act.put, s1_, s2_, s3_, i6_, i3_]
     rfl
    refine pu_ (i := 2) (N := some 43) (v := ?_) (a' := ?_) #[true, false, true, false, false, false, false, false] rfl rfl (an_ HT_.out kr_) (fun _ _ _ h => h) (Or.inl ⟨by rfl, ?_⟩) ?_ ?_
    rotate_left
    ·intro w'
     go_simp
     with_reducible rfl
    rotate_left
    ·simp only [Act.put, s1_, s2_, s3_, i6_, i3_]
     rfl
    refine pu_ (i := 3) (N := some 44) (v := ?_) (a' := ?_) #[true, false, true, true, false, false, false, false] rfl rfl (an_ HT_.out kr_) (fun _ _ _ h => h) (Or.inl ⟨by rfl, ?_⟩) ?_ ?_
    rotate_left
    ·intro w'
     go_simp
     with_reducible rfl
    rotate_left
    ·simp only [Act.put, s1_, s2_, s3_, i6_, i3_]
     rfl
    refine pu_ (i := 5) (N := some 46) (v := ?_) (a' := ?_) #[true, false, true, true, false, true, false, false] rfl rfl (an_ HT_.out kr_) (fun _ _ _ h => h) (Or.inl ⟨by rfl, ?_⟩) ?_ ?_
    rotate_left
    ·intro w'
     go_simp
     with_reducible rfl
    rotate_left
    ·simp only [Act.put, s1_, s2_, s3_, i6_, i3_]
     rfl
    refine take_ (i := 1) (N := some 42) (v := ?_) (a' := ?_) #[true, true, true, true, false, true, false, false] rfl rfl (tW_ HT_.out HW_.out kr_) (fun _ _ _ h => h) (Or.inl ⟨by rfl, ?_⟩) hHeld ?_ ?_
    rotate_left
    ·rintro w' ⟨s0, s1, s2⟩
     go_simp
     with_reducible rfl
    rotate_left
    ·simp only [Act.put, s1_, s2_, s3_, i6_, i3_]
     rfl
    refine one_ (i := 4) (N := some 45) (tf_ 6 2) rfl rfl (one_of HT_.out kr_) (by decide) (fun K hK => ?_)
    refine goes_ Tryd.func41 kr_ rfl #[.string ja, .string ka] (by rfl) rfl rfl mp_ ?_
    with_reducible refine (n_Add.calls kj2 ja ka Ca _ A36.out).mono ?_
    rintro e w44 ⟨rfl, hb⟩
    refine ⟨_, rfl, ?_⟩
    replace aa := mk_ (kB_ (xK_ aa.out) hb)
    replace ba := mk_ (kB_ (xK_ ba.out) hb)
    replace ca := mk_ (kB_ (xK_ ca.out) hb)
    replace HB := mk_ (bT_ (xB3_ HB da ea fa) hb)
    (try clear hb)
    (try clear hb2)
    (try clear hk)
    (try clear hi)
    refine hK.out _ _ ⟨(kc_ aa.out 0).trans rfl, (kc_ aa.out 1).trans rfl, (kc_ aa.out 2).trans rfl⟩ (fun hHeld => ?_)
    clear hK K
    refine norm_ (a' := ?_) ?_ ?_
    rotate_left
    ·show Act.put _ (some 45) _ = _
     simp only [Act.put, s1_, s2_, s3_, i6_, i3_]
     rfl
    refine one_ (i := 6) (N := some 47) (tf_ 7 1) rfl rfl (one_of HT_.out kr_) (by decide) (fun K hK => ?_)
    refine goes_ Tryd.func40 kr_ rfl #[.bool a0_0, .string Ca, .string ma] (by rfl) rfl rfl mp_ ?_
    with_reducible refine (q_reduced.calls kj2 a0_0 Ca ma ta Da La _ A37.out).mono ?_
    rintro e w45 ⟨rfl, hb⟩
    refine ⟨_, rfl, ?_⟩
    replace aa := mk_ (kB_ (xK_ aa.out) hb)
    replace ba := mk_ (kB_ (xK_ ba.out) hb)
    replace ca := mk_ (kB_ (xK_ ca.out) hb)
    replace HB := mk_ (bT_ (xB3_ HB da ea fa) hb)
    (try clear hb)
    (try clear hb2)
    (try clear hk)
    (try clear hi)
    refine hK.out _ _ ⟨(kc_ aa.out 0).trans rfl, (kc_ aa.out 1).trans rfl, (kc_ aa.out 2).trans rfl⟩ (fun hHeld => ?_)
    clear hK K
    refine norm_ (a' := ?_) ?_ ?_
    rotate_left
    ·show Act.put _ (some 47) _ = _
     simp only [Act.put, s1_, s2_, s3_, i6_, i3_]
     rfl
    refine one_ (i := 7) (N := none) (tf_ 8 0) rfl rfl (one_of HT_.out kr_) (by decide) (fun K hK => ?_)
    have Bb : w45.cell? ⟨ha, 0, none⟩ = some (.bool false) := (kc_ ca.out 0).trans rfl
    have hfs46 := kF_ ca.out 0
    have hns46_0 := ga.out
    have hns46_1 := oa.out
    have hms46_0 := na.out
    have hms46_1 := pa.out
    have Cb : w45.cell? ⟨ha, 1, none⟩ = some (.string (⟨#[]⟩ : ByteArray)) := (kc_ ca.out 1).trans rfl
    have hfs47 := kF_ ca.out 1
    have hns47_0 := ga.out
    have hns47_1 := oa.out
    have hms47_0 := na.out
    have hms47_1 := pa.out
    have Db : w45.cell? ⟨ha, 2, none⟩ = some (.string (⟨#[]⟩ : ByteArray)) := (kc_ ca.out 2).trans rfl
    have hfs48 := kF_ ca.out 2
    have hns48_0 := ga.out
    have hns48_1 := oa.out
    have hms48_0 := na.out
    have hms48_1 := pa.out
    refine skip_ (w1 := ?_) (by rfl) rfl ?_ ?_
    rotate_left
    ·go_simp
     rfl
    refine hK.out _ _ ⟨((cf_ (p := ⟨ha, _, none⟩) ga.out _).trans (((cf_ (p := ⟨ha, _, none⟩) ga.out _).trans (((cf_ (p := ⟨ha, _, none⟩) ga.out _).trans (hHeld.1)))))), ((cf_ (p := ⟨ha, _, none⟩) ga.out _).trans (((cf_ (p := ⟨ha, _, none⟩) ga.out _).trans (((cf_ (p := ⟨ha, _, none⟩) ga.out _).trans (hHeld.2.1)))))), ((cf_ (p := ⟨ha, _, none⟩) ga.out _).trans (((cf_ (p := ⟨ha, _, none⟩) ga.out _).trans (((cf_ (p := ⟨ha, _, none⟩) ga.out _).trans (hHeld.2.2))))))⟩ (fun hHeld => ?_)
    clear hK K
    refine done_ (done_of HT_.out kr_) ?_
    try go_wp2
    refine bodyPost_ret (results_cell_row rfl _ _ ha 32 #[.bool ta, .string Da, .string La] (0, 0) _ rfl (by refine xk_ ?_; refine kQ_ (cs := #[.bool ta, .string Da, .string (⟨#[]⟩ : ByteArray)]) ?_ 2 _ rfl; refine kQ_ (cs := #[.bool ta, .string (⟨#[]⟩ : ByteArray), .string (⟨#[]⟩ : ByteArray)]) ?_ 1 _ rfl; refine kQ_ (cs := zC_) ?_ 0 _ rfl; exact ca.out) Tryd.underlying32 rfl kr_) rfl ?_
    exact ⟨rE_, xB3_ HB da ea fa⟩
   ·have Oa : (a0_0 == a1_0) = false := by simpa using c35
    (try (have Pa : decide (a0_0 = a1_0) = false := by simpa using c35))
    (try (have Qa : (a0_0 == a1_0) = false := by simpa using c35))
    (try (have Eb : ¬ (a0_0 = a1_0) := by simpa using c35))
    clear c35
    replace H := oB_ H
    obtain ⟨⟨ua, Fb⟩, A49, H⟩ := H
    (try dsimp only at H)
    replace H := iS_ H
    rcases H with ⟨c50, H⟩ | ⟨c50, H⟩
    ·subst c50
     replace H := oB_ H
     obtain ⟨⟨va, Ea, Ma⟩, A51, H⟩ := H
     (try dsimp only at H)
     simp only [Option.some.injEq, Prod.mk.injEq] at H
     obtain ⟨rfl, rfl, rfl⟩ := H
     have hnb52 := qa.out
     have hnc52 := ra.out
     have hnb53 := ga.out
     have hnc53 := na.out
     obtain ⟨Gb, Hb, Ib, Jb, Kb, Lb⟩ := kG3_ aa.out
     have hnb55 := oa.out
     have hnc55 := pa.out
     obtain ⟨Mb, Nb, Ob, Pb, Qb, Rb⟩ := kG3_ ba.out
     go_wp2_with (first | ((with_reducible refine gC_ (f := 42) rfl ?_); refine gL_ (some 51) rfl rfl Tryd.func42 kr_ rfl #[.string ja, .string ka] rfl mp_ ?_; (with_reducible refine (n_Subtract.calls kj2 ja ka ua true _ A49.out).mono ?_); rintro e w57 ⟨rfl, hb⟩; refine ⟨_, rfl, ?_⟩; replace aa := mk_ (kB_ (xK_ aa.out) hb); replace ba := mk_ (kB_ (xK_ ba.out) hb); replace ca := mk_ (kB_ (xK_ ca.out) hb); replace HB := mk_ (bT_ (xB3_ HB da ea fa) hb); obtain ⟨Sb, Tb, Ub, Vb, Wb, Xb⟩ := kG3_ aa.out) | ((with_reducible refine gC_ (f := 40) rfl ?_); refine gL_ (some 59) rfl rfl Tryd.func40 kr_ rfl #[.bool a0_0, .string ua, .string ma] rfl mp_ ?_; (with_reducible refine (q_reduced.calls kj2 a0_0 ua ma va Ea Ma _ A51.out).mono ?_); rintro e w59 ⟨rfl, hb⟩; refine ⟨_, rfl, ?_⟩; replace aa := mk_ (kB_ (xK_ aa.out) hb); replace ba := mk_ (kB_ (xK_ ba.out) hb); replace ca := mk_ (kB_ (xK_ ca.out) hb); replace HB := mk_ (bT_ (xB3_ HB da ea fa) hb); obtain ⟨Yb, Zb, ac, bc, cc, dc⟩ := kG3_ ca.out))
     refine bodyPost_ret (results_cell_row rfl _ _ ha 32 #[.bool va, .string Ea, .string Ma] (0, 0) _ rfl (by refine xk_ ?_; refine kQ_ (cs := #[.bool va, .string Ea, .string (⟨#[]⟩ : ByteArray)]) ?_ 2 _ rfl; refine kQ_ (cs := #[.bool va, .string (⟨#[]⟩ : ByteArray), .string (⟨#[]⟩ : ByteArray)]) ?_ 1 _ rfl; refine kQ_ (cs := zC_) ?_ 0 _ rfl; exact ca.out) Tryd.underlying32 rfl kr_) rfl ?_
     exact ⟨rE_, xB3_ HB da ea fa⟩
    ·replace c50 := Bool.eq_false_iff.mpr c50
     subst c50
     replace H := oB_ H
     obtain ⟨⟨Fa, Ra⟩, A61, H⟩ := H
     (try dsimp only at H)
     replace H := oB_ H
     obtain ⟨⟨wa, Ga, Na⟩, A62, H⟩ := H
     (try dsimp only at H)
     simp only [Option.some.injEq, Prod.mk.injEq] at H
     obtain ⟨rfl, rfl, rfl⟩ := H
     have hnb63 := qa.out
     have hnc63 := ra.out
     have hnb64 := ga.out
     have hnc64 := na.out
     obtain ⟨ec, fc, gc, hc, ic, jc⟩ := kG3_ aa.out
     have hnb66 := oa.out
     have hnc66 := pa.out
     obtain ⟨kc, lc, mc, nc, oc, pc⟩ := kG3_ ba.out
     go_wp2_with (first | ((with_reducible refine gC_ (f := 42) rfl ?_); refine gL_ (some 51) rfl rfl Tryd.func42 kr_ rfl #[.string ja, .string ka] rfl mp_ ?_; (with_reducible refine (n_Subtract.calls kj2 ja ka ua false _ A49.out).mono ?_); rintro e w68 ⟨rfl, hb⟩; refine ⟨_, rfl, ?_⟩; replace aa := mk_ (kB_ (xK_ aa.out) hb); replace ba := mk_ (kB_ (xK_ ba.out) hb); replace ca := mk_ (kB_ (xK_ ca.out) hb); replace HB := mk_ (bT_ (xB3_ HB da ea fa) hb)) | ((with_reducible refine gC_ (f := 42) rfl ?_); refine gL_ (some 63) rfl rfl Tryd.func42 kr_ rfl #[.string ka, .string ja] rfl mp_ ?_; (with_reducible refine (n_Subtract.calls kj2 ka ja Fa Ra _ A61.out).mono ?_); rintro e w69 ⟨rfl, hb⟩; refine ⟨_, rfl, ?_⟩; replace aa := mk_ (kB_ (xK_ aa.out) hb); replace ba := mk_ (kB_ (xK_ ba.out) hb); replace ca := mk_ (kB_ (xK_ ca.out) hb); replace HB := mk_ (bT_ (xB3_ HB da ea fa) hb); obtain ⟨qc, rc, sc, tc, uc, vc⟩ := kG3_ ba.out) | ((with_reducible refine gC_ (f := 40) rfl ?_); refine gL_ (some 70) rfl rfl Tryd.func40 kr_ rfl #[.bool a1_0, .string Fa, .string ma] rfl mp_ ?_; (with_reducible refine (q_reduced.calls kj2 a1_0 Fa ma wa Ga Na _ A62.out).mono ?_); rintro e w71 ⟨rfl, hb⟩; refine ⟨_, rfl, ?_⟩; replace aa := mk_ (kB_ (xK_ aa.out) hb); replace ba := mk_ (kB_ (xK_ ba.out) hb); replace ca := mk_ (kB_ (xK_ ca.out) hb); replace HB := mk_ (bT_ (xB3_ HB da ea fa) hb); obtain ⟨xc, yc, zc, Ac, Bc, Cc⟩ := kG3_ ca.out))
     refine bodyPost_ret (results_cell_row rfl _ _ ha 32 #[.bool wa, .string Ga, .string Na] (0, 0) _ rfl (by refine xk_ ?_; refine kQ_ (cs := #[.bool wa, .string Ga, .string (⟨#[]⟩ : ByteArray)]) ?_ 2 _ rfl; refine kQ_ (cs := #[.bool wa, .string (⟨#[]⟩ : ByteArray), .string (⟨#[]⟩ : ByteArray)]) ?_ 1 _ rfl; refine kQ_ (cs := zC_) ?_ 0 _ rfl; exact ca.out) Tryd.underlying32 rfl kr_) rfl ?_
     exact ⟨rE_, xB3_ HB da ea fa⟩
theorem bne_nil_isEmpty (l : List UInt8) : (l != ([] : List UInt8)) = !l.isEmpty := by cases l <;> rfl
def q_negate.f (a0_0 : Bool) (a0_1 : ByteArray) (a0_2 : ByteArray) : Option (Bool × ByteArray × ByteArray) := if a0_0 = true then (some (false, a0_1, a0_2)) else (some ((a0_1.toList != ([] : List UInt8)), a0_1, a0_2))
theorem q_negate.calls (a0_0 : Bool) (a0_1 : ByteArray) (a0_2 : ByteArray) (r1 : Bool) (r2 : ByteArray) (r3 : ByteArray) (w : World) (h : q_negate.f a0_0 a0_1 a0_2 = some (r1, r2, r3)) :
  Calls Tryd.prog 33 #[.agg #[.bool a0_0, .string a0_1, .string a0_2]] w fun e w' => e = .returned (.agg #[.bool r1, .string r2, .string r3]) ∧ Below w.heap.size w w' := by
 have hu32 := Tryd.underlying32
 have HB := mk_ (Below.refl w.heap.size w)
 have H := h
 unfold q_negate.f at H
 clear h
 replace H := iS_ H
 rcases H with ⟨c2, H⟩ | ⟨c2, H⟩
 ·subst c2
  simp only [Option.some.injEq, Prod.mk.injEq] at H
  obtain ⟨rfl, rfl, rfl⟩ := H
  go_enter Tryd.func33, Tryd.ntmps33
  go_wp2_with (first | ((with_reducible refine gD_ (N := 1) rfl ?_); refine bX_ (N := 1) (cs := #[.bool true, .string a0_1, .string a0_2]) (t := 32) ?_; intro ha hg w3 hbox hb; have aa := mk_ (hbox); have ia := mk_ (gZ_ hg (bZ_ (xB_ HB))); have ba := mk_ (gZ_ hg (bZ_ (xB_ HB))); replace HB := mk_ (bT_ (xB_ HB) hb); clear hb hbox hg) | ((with_reducible refine gD_ (N := 2) rfl ?_); refine bX_ (N := 2) (cs := zC_) (t := 32) ?_; intro ea hg w4 hbox hb; have ca := mk_ (hbox); have ja := mk_ (gZ_ hg (bZ_ (xB1_ HB ba))); have fa := mk_ (gZ_ hg (bZ_ (xB1_ HB ba))); replace HB := mk_ (bT_ (xB1_ HB ba) hb); have ga := mk_ (gN_ hg (xK_ aa.out)); have da := mk_ (gM_ hg (xK_ aa.out)); replace aa := mk_ (kB_ (xK_ aa.out) hb); clear hb hbox hg; have hnb5 := ga.out; have hnc5 := da.out; obtain ⟨ka, la, ma, na, oa, pa⟩ := kG3_ aa.out; obtain ⟨qa, ra, sa, ta, ua, va⟩ := kG3_ ca.out))
  refine bodyPost_ret (results_cell_row rfl _ _ ea 32 #[.bool false, .string a0_1, .string a0_2] (0, 0) _ rfl (by refine xk_ ?_; refine kQ_ (cs := #[.bool false, .string a0_1, .string (⟨#[]⟩ : ByteArray)]) ?_ 2 _ rfl; refine kQ_ (cs := zC_) ?_ 1 _ rfl; refine kQ_ (cs := zC_) ?_ 0 _ rfl; refine bf_ ?_ da.out _; refine xk_ ?_; exact ca.out) Tryd.underlying32 rfl kr_) rfl ?_
  exact ⟨rE_, xB2_ HB ba fa⟩
 ·replace c2 := Bool.eq_false_iff.mpr c2
  subst c2
  simp only [Option.some.injEq, Prod.mk.injEq] at H
  obtain ⟨rfl, rfl, rfl⟩ := H
  go_enter Tryd.func33, Tryd.ntmps33
  go_wp2_with (first | ((with_reducible refine gD_ (N := 1) rfl ?_); refine bX_ (N := 1) (cs := #[.bool false, .string a0_1, .string a0_2]) (t := 32) ?_; intro ha hg w8 hbox hb; have aa := mk_ (hbox); have ia := mk_ (gZ_ hg (bZ_ (xB_ HB))); have ba := mk_ (gZ_ hg (bZ_ (xB_ HB))); replace HB := mk_ (bT_ (xB_ HB) hb); clear hb hbox hg) | ((with_reducible refine gD_ (N := 2) rfl ?_); refine bX_ (N := 2) (cs := zC_) (t := 32) ?_; intro ea hg w9 hbox hb; have ca := mk_ (hbox); have ja := mk_ (gZ_ hg (bZ_ (xB1_ HB ba))); have fa := mk_ (gZ_ hg (bZ_ (xB1_ HB ba))); replace HB := mk_ (bT_ (xB1_ HB ba) hb); have ga := mk_ (gN_ hg (xK_ aa.out)); have da := mk_ (gM_ hg (xK_ aa.out)); replace aa := mk_ (kB_ (xK_ aa.out) hb); clear hb hbox hg; have hnb10 := ga.out; have hnc10 := da.out; obtain ⟨wa, xa, ya, za, Aa, Ba⟩ := kG3_ aa.out; obtain ⟨Ca, Da, Ea, Fa, Ga, Ha⟩ := kG3_ ca.out))
  simp only [bne_nil_isEmpty]
  refine bodyPost_ret (results_cell_row rfl _ _ ea 32 #[.bool (!a0_1.toList.isEmpty), .string a0_1, .string a0_2] (0, 0) _ rfl (by refine xk_ ?_; refine kQ_ (cs := #[.bool (!a0_1.toList.isEmpty), .string a0_1, .string (⟨#[]⟩ : ByteArray)]) ?_ 2 _ rfl; refine kQ_ (cs := #[.bool (!a0_1.toList.isEmpty), .string (⟨#[]⟩ : ByteArray), .string (⟨#[]⟩ : ByteArray)]) ?_ 1 _ rfl; refine kQ_ (cs := zC_) ?_ 0 _ rfl; refine bf_ ?_ da.out _; refine xk_ ?_; exact ca.out) Tryd.underlying32 rfl kr_) rfl ?_
  exact ⟨rE_, xB2_ HB ba fa⟩
def q_Subtract.f (k : Nat) (a0_0 : Bool) (a0_1 : ByteArray) (a0_2 : ByteArray) (a1_0 : Bool) (a1_1 : ByteArray) (a1_2 : ByteArray) : Option (Bool × ByteArray × ByteArray) := (q_clean.f k a0_0 a0_1 a0_2).bind fun bt620 => ((q_clean.f k a1_0 a1_1 a1_2).bind fun bt623 => ((q_negate.f bt623.1 bt623.2.1 bt623.2.2).bind fun bt626 => ((q_add.f k bt620.1 bt620.2.1 bt620.2.2 bt626.1 bt626.2.1 bt626.2.2).bind fun bt629 => (some (bt629.1, bt629.2.1, bt629.2.2)))))
theorem q_Subtract.mono : ∀ a0 a1 a2 a3 a4 a5 k, LeO (q_Subtract.f k a0 a1 a2 a3 a4 a5) (q_Subtract.f (k + 1) a0 a1 a2 a3 a4 a5) := by
 intro a0 a1 a2 a3 a4 a5 k
 unfold q_Subtract.f
 repeat' first
   | (with_reducible first | exact q_add.mono _ _ _ _ _ _ _ | exact q_clean.mono _ _ _ _ | exact LeO.refl _ | exact LeO.none _ | refine LeO.ite ?_ ?_ | refine LeO.bind ?_ (fun _ => ?_))
theorem q_Subtract.calls (k : Nat) (a0_0 : Bool) (a0_1 : ByteArray) (a0_2 : ByteArray) (a1_0 : Bool) (a1_1 : ByteArray) (a1_2 : ByteArray) (r1 : Bool) (r2 : ByteArray) (r3 : ByteArray) (w : World) (h : q_Subtract.f k a0_0 a0_1 a0_2 a1_0 a1_1 a1_2 = some (r1, r2, r3)) :
  Calls Tryd.prog 15 #[.agg #[.bool a0_0, .string a0_1, .string a0_2], .agg #[.bool a1_0, .string a1_1, .string a1_2]] w fun e w' => e = .returned (.agg #[.bool r1, .string r2, .string r3]) ∧ Below w.heap.size w w' := by
 have hu32 := Tryd.underlying32
 have HB := mk_ (Below.refl w.heap.size w)
 have H := h
 unfold q_Subtract.f at H
 clear h
 obtain ⟨⟨ka, la, ma⟩, A3, H⟩ := oB_ H
 (try dsimp only at H)
 obtain ⟨⟨na, oa, pa⟩, A4, H⟩ := oB_ H
 (try dsimp only at H)
 obtain ⟨⟨qa, ra, sa⟩, A5, H⟩ := oB_ H
 (try dsimp only at H)
 obtain ⟨⟨ja, ta, ya⟩, A6, H⟩ := oB_ H
 (try dsimp only at H)
 simp only [Option.some.injEq, Prod.mk.injEq] at H
 obtain ⟨rfl, rfl, rfl⟩ := H
 go_enter Tryd.func15, Tryd.ntmps15
 try go_wp2_with (first | ((with_reducible refine gD_ (N := 2) rfl ?_); refine bX_ (N := 2) (cs := #[.bool a0_0, .string a0_1, .string a0_2]) (t := 32) ?_; intro ua hg w7 hbox hb; have aa := mk_ (hbox); have za := mk_ (gZ_ hg (bZ_ (xB_ HB))); have ga := mk_ (gZ_ hg (bZ_ (xB_ HB))); replace HB := mk_ (bT_ (xB_ HB) hb); clear hb hbox hg) | ((with_reducible refine gD_ (N := 3) rfl ?_); refine bX_ (N := 3) (cs := #[.bool a1_0, .string a1_1, .string a1_2]) (t := 32) ?_; intro va hg w8 hbox hb; have ba := mk_ (hbox); have Aa := mk_ (gZ_ hg (bZ_ (xB1_ HB ga))); have ha := mk_ (gZ_ hg (bZ_ (xB1_ HB ga))); replace HB := mk_ (bT_ (xB1_ HB ga) hb); have Ba := mk_ (gN_ hg (xK_ aa.out)); have Ca := mk_ (gM_ hg (xK_ aa.out)); replace aa := mk_ (kB_ (xK_ aa.out) hb); clear hb hbox hg) | ((with_reducible refine gD_ (N := 4) rfl ?_); refine bX_ (N := 4) (cs := zC_) (t := 32) ?_; intro ca hg w9 hbox hb; have da := mk_ (hbox); have Da := mk_ (gZ_ hg (bZ_ (xB2_ HB ga ha))); have ia := mk_ (gZ_ hg (bZ_ (xB2_ HB ga ha))); replace HB := mk_ (bT_ (xB2_ HB ga ha) hb); have ea := mk_ (gN_ hg (xK_ aa.out)); have wa := mk_ (gM_ hg (xK_ aa.out)); replace aa := mk_ (kB_ (xK_ aa.out) hb); have fa := mk_ (gN_ hg (xK_ ba.out)); have xa := mk_ (gM_ hg (xK_ ba.out)); replace ba := mk_ (kB_ (xK_ ba.out) hb); clear hb hbox hg))
 replace aa := mk_ (kD_ aa.out)
 replace ba := mk_ (kD_ ba.out)
 replace da := mk_ (kD_ da.out)
 replace HB := mk_ (b1_ HB.out)
 refine start_ (n := 7) (S := fun w' => w'.cell? ⟨ua, 0, none⟩ = some (.bool a0_0) ∧ w'.cell? ⟨ua, 1, none⟩ = some (.string a0_1) ∧ w'.cell? ⟨ua, 2, none⟩ = some (.string a0_2) ∧ w'.cell? ⟨va, 0, none⟩ = some (.bool a1_0) ∧ w'.cell? ⟨va, 1, none⟩ = some (.string a1_1) ∧ w'.cell? ⟨va, 2, none⟩ = some (.string a1_2)) (ds := []) (tf_ 0 7) kr_ rfl rfl ⟨(kc_ aa.out 0).trans rfl, (kc_ aa.out 1).trans rfl, (kc_ aa.out 2).trans rfl, (kc_ ba.out 0).trans rfl, (kc_ ba.out 1).trans rfl, (kc_ ba.out 2).trans rfl⟩ (fun hHeld => ?_)
 generalize w9.drew = w10 at aa ba da HB hHeld ⊢
 refine take_ (i := 0) (N := some 5) (v := ?_) (a' := ?_) (tf_ 1 6) rfl rfl kr_ (fun _ _ _ h => h) (Or.inl ⟨by rfl, ?_⟩) hHeld ?_ ?_
 rotate_left
 ·rintro w' ⟨s0, s1, s2, s3, s4, s5⟩
  go_simp
  with_reducible rfl
 rotate_left
 ·simp only [Act.put, s1_, s2_, s3_, i6_, i3_]
  rfl
 refine take_ (i := 2) (N := some 7) (v := ?_) (a' := ?_) #[true, false, true, false, false, false, false] rfl rfl kr_ (fun _ _ _ h => h) (Or.inl ⟨by rfl, ?_⟩) hHeld ?_ ?_
 rotate_left
 ·rintro w' ⟨s0, s1, s2, s3, s4, s5⟩
  go_simp
  with_reducible rfl
 rotate_left
 ·simp only [Act.put, s1_, s2_, s3_, i6_, i3_]
  rfl
 refine one_ (i := 1) (N := some 6) (tf_ 3 4) rfl rfl kr_ (by decide) (fun K hK => ?_)
 refine goes_ Tryd.func24 kr_ rfl #[.agg #[.bool a0_0, .string a0_1, .string a0_2]] (by rfl) rfl rfl mp_ ?_
 with_reducible refine (q_clean.calls k a0_0 a0_1 a0_2 ka la ma _ A3.out).mono ?_
 rintro e w11 ⟨rfl, hb⟩
 refine ⟨_, rfl, ?_⟩
 replace aa := mk_ (kB_ (xK_ aa.out) hb)
 replace ba := mk_ (kB_ (xK_ ba.out) hb)
 replace da := mk_ (kB_ (xK_ da.out) hb)
 replace HB := mk_ (bT_ (xB3_ HB ga ha ia) hb)
 (try clear hb)
 (try clear hb2)
 (try clear hk)
 (try clear hi)
 refine hK.out _ _ ⟨(kc_ aa.out 0).trans rfl, (kc_ aa.out 1).trans rfl, (kc_ aa.out 2).trans rfl, (kc_ ba.out 0).trans rfl, (kc_ ba.out 1).trans rfl, (kc_ ba.out 2).trans rfl⟩ (fun hHeld => ?_)
 clear hK K
 refine norm_ (a' := ?_) ?_ ?_
 rotate_left
 ·show Act.put _ (some 6) _ = _
  simp only [Act.put, s1_, s2_, s3_, i6_, i3_]
  rfl
 refine one_ (i := 3) (N := some 8) (tf_ 4 3) rfl rfl kr_ (by decide) (fun K hK => ?_)
 refine goes_ Tryd.func24 kr_ rfl #[.agg #[.bool a1_0, .string a1_1, .string a1_2]] (by rfl) rfl rfl mp_ ?_
 with_reducible refine (q_clean.calls k a1_0 a1_1 a1_2 na oa pa _ A4.out).mono ?_
 rintro e w12 ⟨rfl, hb⟩
 refine ⟨_, rfl, ?_⟩
 replace aa := mk_ (kB_ (xK_ aa.out) hb)
 replace ba := mk_ (kB_ (xK_ ba.out) hb)
 replace da := mk_ (kB_ (xK_ da.out) hb)
 replace HB := mk_ (bT_ (xB3_ HB ga ha ia) hb)
 (try clear hb)
 (try clear hb2)
 (try clear hk)
 (try clear hi)
 refine hK.out _ _ ⟨(kc_ aa.out 0).trans rfl, (kc_ aa.out 1).trans rfl, (kc_ aa.out 2).trans rfl, (kc_ ba.out 0).trans rfl, (kc_ ba.out 1).trans rfl, (kc_ ba.out 2).trans rfl⟩ (fun hHeld => ?_)
 clear hK K
 refine norm_ (a' := ?_) ?_ ?_
 rotate_left
 ·show Act.put _ (some 8) _ = _
  simp only [Act.put, s1_, s2_, s3_, i6_, i3_]
  rfl
 refine one_ (i := 4) (N := some 9) (tf_ 5 2) rfl rfl kr_ (by decide) (fun K hK => ?_)
 refine goes_ Tryd.func33 kr_ rfl #[.agg #[.bool na, .string oa, .string pa]] (by rfl) rfl rfl mp_ ?_
 with_reducible refine (q_negate.calls na oa pa qa ra sa _ A5.out).mono ?_
 rintro e w13 ⟨rfl, hb⟩
 refine ⟨_, rfl, ?_⟩
 replace aa := mk_ (kB_ (xK_ aa.out) hb)
 replace ba := mk_ (kB_ (xK_ ba.out) hb)
 replace da := mk_ (kB_ (xK_ da.out) hb)
 replace HB := mk_ (bT_ (xB3_ HB ga ha ia) hb)
 (try clear hb)
 (try clear hb2)
 (try clear hk)
 (try clear hi)
 refine hK.out _ _ ⟨(kc_ aa.out 0).trans rfl, (kc_ aa.out 1).trans rfl, (kc_ aa.out 2).trans rfl, (kc_ ba.out 0).trans rfl, (kc_ ba.out 1).trans rfl, (kc_ ba.out 2).trans rfl⟩ (fun hHeld => ?_)
 clear hK K
 refine norm_ (a' := ?_) ?_ ?_
 rotate_left
 ·show Act.put _ (some 9) _ = _
  simp only [Act.put, s1_, s2_, s3_, i6_, i3_]
  rfl
 refine one_ (i := 5) (N := some 10) (tf_ 6 1) rfl rfl kr_ (by decide) (fun K hK => ?_)
 refine goes_ Tryd.func23 kr_ rfl #[.agg #[.bool ka, .string la, .string ma], .agg #[.bool qa, .string ra, .string sa]] (by rfl) rfl rfl mp_ ?_
 with_reducible refine (q_add.calls k ka la ma qa ra sa ja ta ya _ A6.out).mono ?_
 rintro e w14 ⟨rfl, hb⟩
 refine ⟨_, rfl, ?_⟩
 replace aa := mk_ (kB_ (xK_ aa.out) hb)
 replace ba := mk_ (kB_ (xK_ ba.out) hb)
 replace da := mk_ (kB_ (xK_ da.out) hb)
 replace HB := mk_ (bT_ (xB3_ HB ga ha ia) hb)
 (try clear hb)
 (try clear hb2)
 (try clear hk)
 (try clear hi)
 refine hK.out _ _ ⟨(kc_ aa.out 0).trans rfl, (kc_ aa.out 1).trans rfl, (kc_ aa.out 2).trans rfl, (kc_ ba.out 0).trans rfl, (kc_ ba.out 1).trans rfl, (kc_ ba.out 2).trans rfl⟩ (fun hHeld => ?_)
 clear hK K
 refine norm_ (a' := ?_) ?_ ?_
 rotate_left
 ·show Act.put _ (some 10) _ = _
  simp only [Act.put, s1_, s2_, s3_, i6_, i3_]
  rfl
 refine one_ (i := 6) (N := none) (tf_ 7 0) rfl rfl kr_ (by decide) (fun K hK => ?_)
 have Ea : w14.cell? ⟨ca, 0, none⟩ = some (.bool false) := (kc_ da.out 0).trans rfl
 have hfs15 := kF_ da.out 0
 have hns15_0 := ea.out
 have hns15_1 := fa.out
 have hms15_0 := wa.out
 have hms15_1 := xa.out
 have Fa : w14.cell? ⟨ca, 1, none⟩ = some (.string (⟨#[]⟩ : ByteArray)) := (kc_ da.out 1).trans rfl
 have hfs16 := kF_ da.out 1
 have hns16_0 := ea.out
 have hns16_1 := fa.out
 have hms16_0 := wa.out
 have hms16_1 := xa.out
 have Ga : w14.cell? ⟨ca, 2, none⟩ = some (.string (⟨#[]⟩ : ByteArray)) := (kc_ da.out 2).trans rfl
 have hfs17 := kF_ da.out 2
 have hns17_0 := ea.out
 have hns17_1 := fa.out
 have hms17_0 := wa.out
 have hms17_1 := xa.out
 refine skip_ (w1 := ?_) (by rfl) rfl ?_ ?_
 rotate_left
 ·go_simp
  rfl
 refine hK.out _ _ ⟨((cf_ (p := ⟨ca, _, none⟩) ea.out _).trans (((cf_ (p := ⟨ca, _, none⟩) ea.out _).trans (((cf_ (p := ⟨ca, _, none⟩) ea.out _).trans (hHeld.1)))))), ((cf_ (p := ⟨ca, _, none⟩) ea.out _).trans (((cf_ (p := ⟨ca, _, none⟩) ea.out _).trans (((cf_ (p := ⟨ca, _, none⟩) ea.out _).trans (hHeld.2.1)))))), ((cf_ (p := ⟨ca, _, none⟩) ea.out _).trans (((cf_ (p := ⟨ca, _, none⟩) ea.out _).trans (((cf_ (p := ⟨ca, _, none⟩) ea.out _).trans (hHeld.2.2.1)))))), ((cf_ (p := ⟨ca, _, none⟩) fa.out _).trans (((cf_ (p := ⟨ca, _, none⟩) fa.out _).trans (((cf_ (p := ⟨ca, _, none⟩) fa.out _).trans (hHeld.2.2.2.1)))))), ((cf_ (p := ⟨ca, _, none⟩) fa.out _).trans (((cf_ (p := ⟨ca, _, none⟩) fa.out _).trans (((cf_ (p := ⟨ca, _, none⟩) fa.out _).trans (hHeld.2.2.2.2.1)))))), ((cf_ (p := ⟨ca, _, none⟩) fa.out _).trans (((cf_ (p := ⟨ca, _, none⟩) fa.out _).trans (((cf_ (p := ⟨ca, _, none⟩) fa.out _).trans (hHeld.2.2.2.2.2))))))⟩ (fun hHeld => ?_)
 clear hK K
 refine done_ kr_ ?_
 try go_wp2
 refine bodyPost_ret (results_cell_row rfl _ _ ca 32 #[.bool ja, .string ta, .string ya] (0, 0) _ rfl (by refine xk_ ?_; refine kQ_ (cs := #[.bool ja, .string ta, .string (⟨#[]⟩ : ByteArray)]) ?_ 2 _ rfl; refine kQ_ (cs := #[.bool ja, .string (⟨#[]⟩ : ByteArray), .string (⟨#[]⟩ : ByteArray)]) ?_ 1 _ rfl; refine kQ_ (cs := zC_) ?_ 0 _ rfl; exact da.out) Tryd.underlying32 rfl kr_) rfl ?_
 exact ⟨rE_, xB3_ HB ga ha ia⟩
def collateral_Proceeds.f (k : Nat) (a0_0 : Bool) (a0_1 : ByteArray) (a0_2 : ByteArray) (a0_3 : Bool) (a0_4 : ByteArray) (a0_5 : ByteArray) (l0_6 : List (S52)) : Option (Bool × ByteArray × ByteArray) := (collateral_positive.f k a0_0 a0_1 a0_2).bind fun bt669 => ((collateral_positive.f k a0_3 a0_4 a0_5).bind fun bt672 => ((q_Subtract.f k bt669.1 bt669.2.1 bt669.2.2 bt672.1 bt672.2.1 bt672.2.2).bind fun bt675 => ((collateral_positive.f k bt675.1 bt675.2.1 bt675.2.2).bind fun bt678 => (some (bt678.1, bt678.2.1, bt678.2.2)))))
theorem collateral_Proceeds.mono : ∀ a0 a1 a2 a3 a4 a5 a6 k, LeO (collateral_Proceeds.f k a0 a1 a2 a3 a4 a5 a6) (collateral_Proceeds.f (k + 1) a0 a1 a2 a3 a4 a5 a6) := by
 intro a0 a1 a2 a3 a4 a5 a6 k
 unfold collateral_Proceeds.f
 repeat' first
   | (with_reducible first | exact collateral_positive.mono _ _ _ _ | exact q_Subtract.mono _ _ _ _ _ _ _ | exact LeO.refl _ | exact LeO.none _ | refine LeO.ite ?_ ?_ | refine LeO.bind ?_ (fun _ => ?_))
def collateral_Proceeds.T1 : Bool × List (List Nat × List Nat) := (true, [([], []), ([0], [0]), ([1], [1]), ([], []), ([3], [3]), ([4, 2], [4]), ([2, 5, 5], [2, 5]), ([6, 6], [6]), ([7, 7, 0, 1, 2, 3, 4, 5, 6, 7], [7])])
def collateral_Proceeds.B1 : List Nat := [0, 1, 3, 0, 8, 31, 63, 127, 255]
theorem collateral_Proceeds.tab1 : rtab .any (opsOf Tryd.f39 1) = collateral_Proceeds.T1 := by kernel_rfl
theorem collateral_Proceeds.bits1 : waitsOk collateral_Proceeds.T1.2 collateral_Proceeds.B1 = true := by kernel_rfl
theorem collateral_Proceeds.calls (k : Nat) (a0_0 : Bool) (a0_1 : ByteArray) (a0_2 : ByteArray) (a0_3 : Bool) (a0_4 : ByteArray) (a0_5 : ByteArray) (A0_6 : Option Addr) (c0_6 : Nat) (l0_6 : List (S52)) (r1 : Bool) (r2 : ByteArray) (r3 : ByteArray) (w : World) (hr0_6 : Kd.C k52 w A0_6 l0_6.length l0_6) (hc0_6 : l0_6.length ≤ c0_6) (h : collateral_Proceeds.f k a0_0 a0_1 a0_2 a0_3 a0_4 a0_5 l0_6 = some (r1, r2, r3)) :
  Calls Tryd.prog 39 #[.agg #[.bool a0_0, .string a0_1, .string a0_2, .bool a0_3, .string a0_4, .string a0_5, .slice A0_6 l0_6.length c0_6]] w fun e w' => e = .returned (.agg #[.bool r1, .string r2, .string r3]) ∧ Below w.heap.size w w' := by
 have hu50 := Tryd.underlying50
 have hu32 := Tryd.underlying32
 have HR0_6 := mk_ hr0_6
 have HC0_6 := mk_ hc0_6
 clear hr0_6 hc0_6
 have HB := mk_ (Below.refl w.heap.size w)
 have H := h
 unfold collateral_Proceeds.f at H
 clear h
 obtain ⟨⟨ia, ja, ka⟩, A2, H⟩ := oB_ H
 (try dsimp only at H)
 obtain ⟨⟨la, ma, na⟩, A3, H⟩ := oB_ H
 (try dsimp only at H)
 obtain ⟨⟨oa, pa, qa⟩, A4, H⟩ := oB_ H
 (try dsimp only at H)
 obtain ⟨⟨ha, ra, ta⟩, A5, H⟩ := oB_ H
 (try dsimp only at H)
 simp only [Option.some.injEq, Prod.mk.injEq] at H
 obtain ⟨rfl, rfl, rfl⟩ := H
 go_enter Tryd.func39, Tryd.ntmps39
 try go_wp2_with (first | ((with_reducible refine gD_ (N := 1) rfl ?_); refine bX_ (N := 1) (cs := #[.bool a0_0, .string a0_1, .string a0_2, .bool a0_3, .string a0_4, .string a0_5, .slice A0_6 l0_6.length c0_6]) (t := 50) ?_; intro fa hg w6 hbox hb; have aa := mk_ (hbox); have ua := mk_ (gZ_ hg (bZ_ (xB_ HB))); have ea := mk_ (gZ_ hg (bZ_ (xB_ HB))); replace HB := mk_ (bT_ (xB_ HB) hb); clear hb hbox hg) | ((with_reducible refine gD_ (N := 2) rfl ?_); refine bX_ (N := 2) (cs := zC_) (t := 32) ?_; intro ba hg w7 hbox hb; have da := mk_ (hbox); have va := mk_ (gZ_ hg (bZ_ (xB1_ HB ea))); have ga := mk_ (gZ_ hg (bZ_ (xB1_ HB ea))); replace HB := mk_ (bT_ (xB1_ HB ea) hb); have ca := mk_ (gN_ hg (xK_ aa.out)); have sa := mk_ (gM_ hg (xK_ aa.out)); replace aa := mk_ (kB_ (xK_ aa.out) hb); clear hb hbox hg))
 replace aa := mk_ (kD_ aa.out)
 replace da := mk_ (kD_ da.out)
 replace HB := mk_ (b1_ HB.out)
 refine start_ (n := 9) (S := fun w' => w'.cell? ⟨fa, 0, none⟩ = some (.bool a0_0) ∧ w'.cell? ⟨fa, 1, none⟩ = some (.string a0_1) ∧ w'.cell? ⟨fa, 2, none⟩ = some (.string a0_2) ∧ w'.cell? ⟨fa, 3, none⟩ = some (.bool a0_3) ∧ w'.cell? ⟨fa, 4, none⟩ = some (.string a0_4) ∧ w'.cell? ⟨fa, 5, none⟩ = some (.string a0_5) ∧ w'.cell? ⟨fa, 6, none⟩ = some (.slice A0_6 l0_6.length c0_6)) (ds := []) (tf_ 0 9) kr_ rfl rfl ⟨(kc_ aa.out 0).trans rfl, (kc_ aa.out 1).trans rfl, (kc_ aa.out 2).trans rfl, (kc_ aa.out 3).trans rfl, (kc_ aa.out 4).trans rfl, (kc_ aa.out 5).trans rfl, (kc_ aa.out 6).trans rfl⟩ (fun hHeld => ?_); refine with_tabW collateral_Proceeds.tab1 collateral_Proceeds.bits1 (fun HT_ HW_ => ?_)
 generalize w7.drew = w8 at aa da HB hHeld ⊢
 refine pu_ (i := 0) (N := some 3) (v := ?_) (a' := ?_) (tf_ 1 8) rfl rfl (an_ HT_.out kr_) (fun _ _ _ h => h) (Or.inl ⟨by rfl, ?_⟩) ?_ ?_
 rotate_left
 ·intro w'
  go_simp
  with_reducible rfl
 rotate_left
 ·simp only [Act.put, s1_, s2_, s3_, i6_, i3_]
  rfl
 refine pu_ (i := 3) (N := some 6) (v := ?_) (a' := ?_) #[true, false, false, true, false, false, false, false, false] rfl rfl (an_ HT_.out kr_) (fun _ _ _ h => h) (Or.inl ⟨by rfl, ?_⟩) ?_ ?_
 rotate_left
 ·intro w'
  go_simp
  with_reducible rfl
 rotate_left
 ·simp only [Act.put, s1_, s2_, s3_, i6_, i3_]
  rfl
 refine take_ (i := 1) (N := some 4) (v := ?_) (a' := ?_) #[true, true, false, true, false, false, false, false, false] rfl rfl (tW_ HT_.out HW_.out kr_) (fun _ _ _ h => h) (Or.inl ⟨by rfl, ?_⟩) hHeld ?_ ?_
 rotate_left
 ·rintro w' ⟨s0, s1, s2, s3, s4, s5, s6⟩
  go_simp
  with_reducible rfl
 rotate_left
 ·simp only [Act.put, s1_, s2_, s3_, i6_, i3_]
  rfl
 refine take_ (i := 4) (N := some 7) (v := ?_) (a' := ?_) #[true, true, false, true, true, false, false, false, false] rfl rfl (tW_ HT_.out HW_.out kr_) (fun _ _ _ h => h) (Or.inl ⟨by rfl, ?_⟩) hHeld ?_ ?_
 rotate_left
 ·rintro w' ⟨s0, s1, s2, s3, s4, s5, s6⟩
  go_simp
  with_reducible rfl
 rotate_left
 ·simp only [Act.put, s1_, s2_, s3_, i6_, i3_]
  rfl
 refine one_ (i := 2) (N := some 5) (tf_ 5 4) rfl rfl (one_of HT_.out kr_) (by decide) (fun K hK => ?_)
 refine goes_ Tryd.func55 kr_ rfl #[.agg #[.bool a0_0, .string a0_1, .string a0_2]] (by rfl) rfl rfl mp_ ?_
 with_reducible refine (collateral_positive.calls k a0_0 a0_1 a0_2 ia ja ka _ A2.out).mono ?_
 rintro e w9 ⟨rfl, hb⟩
 refine ⟨_, rfl, ?_⟩
 replace aa := mk_ (kB_ (xK_ aa.out) hb)
 replace da := mk_ (kB_ (xK_ da.out) hb)
 replace HB := mk_ (bT_ (xB2_ HB ea ga) hb)
 (try clear hb)
 (try clear hb2)
 (try clear hk)
 (try clear hi)
 refine hK.out _ _ ⟨(kc_ aa.out 0).trans rfl, (kc_ aa.out 1).trans rfl, (kc_ aa.out 2).trans rfl, (kc_ aa.out 3).trans rfl, (kc_ aa.out 4).trans rfl, (kc_ aa.out 5).trans rfl, (kc_ aa.out 6).trans rfl⟩ (fun hHeld => ?_)
 clear hK K
 refine norm_ (a' := ?_) ?_ ?_
 rotate_left
 ·show Act.put _ (some 5) _ = _
  simp only [Act.put, s1_, s2_, s3_, i6_, i3_]
  rfl
 refine one_ (i := 5) (N := some 8) (tf_ 6 3) rfl rfl (one_of HT_.out kr_) (by decide) (fun K hK => ?_)
 refine goes_ Tryd.func55 kr_ rfl #[.agg #[.bool a0_3, .string a0_4, .string a0_5]] (by rfl) rfl rfl mp_ ?_
 with_reducible refine (collateral_positive.calls k a0_3 a0_4 a0_5 la ma na _ A3.out).mono ?_
 rintro e w10 ⟨rfl, hb⟩
 refine ⟨_, rfl, ?_⟩
 replace aa := mk_ (kB_ (xK_ aa.out) hb)
 replace da := mk_ (kB_ (xK_ da.out) hb)
 replace HB := mk_ (bT_ (xB2_ HB ea ga) hb)
 (try clear hb)
 (try clear hb2)
 (try clear hk)
 (try clear hi)
 refine hK.out _ _ ⟨(kc_ aa.out 0).trans rfl, (kc_ aa.out 1).trans rfl, (kc_ aa.out 2).trans rfl, (kc_ aa.out 3).trans rfl, (kc_ aa.out 4).trans rfl, (kc_ aa.out 5).trans rfl, (kc_ aa.out 6).trans rfl⟩ (fun hHeld => ?_)
 clear hK K
 refine norm_ (a' := ?_) ?_ ?_
 rotate_left
 ·show Act.put _ (some 8) _ = _
  simp only [Act.put, s1_, s2_, s3_, i6_, i3_]
  rfl
 refine one_ (i := 6) (N := some 9) (tf_ 7 2) rfl rfl (one_of HT_.out kr_) (by decide) (fun K hK => ?_)
 refine goes_ Tryd.func15 kr_ rfl #[.agg #[.bool ia, .string ja, .string ka], .agg #[.bool la, .string ma, .string na]] (by rfl) rfl rfl mp_ ?_
 with_reducible refine (q_Subtract.calls k ia ja ka la ma na oa pa qa _ A4.out).mono ?_
 rintro e w11 ⟨rfl, hb⟩
 refine ⟨_, rfl, ?_⟩
 replace aa := mk_ (kB_ (xK_ aa.out) hb)
 replace da := mk_ (kB_ (xK_ da.out) hb)
 replace HB := mk_ (bT_ (xB2_ HB ea ga) hb)
 (try clear hb)
 (try clear hb2)
 (try clear hk)
 (try clear hi)
 refine hK.out _ _ ⟨(kc_ aa.out 0).trans rfl, (kc_ aa.out 1).trans rfl, (kc_ aa.out 2).trans rfl, (kc_ aa.out 3).trans rfl, (kc_ aa.out 4).trans rfl, (kc_ aa.out 5).trans rfl, (kc_ aa.out 6).trans rfl⟩ (fun hHeld => ?_)
 clear hK K
 refine norm_ (a' := ?_) ?_ ?_
 rotate_left
 ·show Act.put _ (some 9) _ = _
  simp only [Act.put, s1_, s2_, s3_, i6_, i3_]
  rfl
 refine one_ (i := 7) (N := some 10) (tf_ 8 1) rfl rfl (one_of HT_.out kr_) (by decide) (fun K hK => ?_)
 refine goes_ Tryd.func55 kr_ rfl #[.agg #[.bool oa, .string pa, .string qa]] (by rfl) rfl rfl mp_ ?_
 with_reducible refine (collateral_positive.calls k oa pa qa ha ra ta _ A5.out).mono ?_
 rintro e w12 ⟨rfl, hb⟩
 refine ⟨_, rfl, ?_⟩
 replace aa := mk_ (kB_ (xK_ aa.out) hb)
 replace da := mk_ (kB_ (xK_ da.out) hb)
 replace HB := mk_ (bT_ (xB2_ HB ea ga) hb)
 (try clear hb)
 (try clear hb2)
 (try clear hk)
 (try clear hi)
 refine hK.out _ _ ⟨(kc_ aa.out 0).trans rfl, (kc_ aa.out 1).trans rfl, (kc_ aa.out 2).trans rfl, (kc_ aa.out 3).trans rfl, (kc_ aa.out 4).trans rfl, (kc_ aa.out 5).trans rfl, (kc_ aa.out 6).trans rfl⟩ (fun hHeld => ?_)
 clear hK K
 refine norm_ (a' := ?_) ?_ ?_
 rotate_left
 ·show Act.put _ (some 10) _ = _
  simp only [Act.put, s1_, s2_, s3_, i6_, i3_]
  rfl
 refine one_ (i := 8) (N := none) (tf_ 9 0) rfl rfl (one_of HT_.out kr_) (by decide) (fun K hK => ?_)
 have wa : w12.cell? ⟨ba, 0, none⟩ = some (.bool false) := (kc_ da.out 0).trans rfl
 have hfs13 := kF_ da.out 0
 have hns13_0 := ca.out
 have hms13_0 := sa.out
 have xa : w12.cell? ⟨ba, 1, none⟩ = some (.string (⟨#[]⟩ : ByteArray)) := (kc_ da.out 1).trans rfl
 have hfs14 := kF_ da.out 1
 have hns14_0 := ca.out
 have hms14_0 := sa.out
 have ya : w12.cell? ⟨ba, 2, none⟩ = some (.string (⟨#[]⟩ : ByteArray)) := (kc_ da.out 2).trans rfl
 have hfs15 := kF_ da.out 2
 have hns15_0 := ca.out
 have hms15_0 := sa.out
 refine skip_ (w1 := ?_) (by rfl) rfl ?_ ?_
 rotate_left
 ·go_simp
  rfl
 refine hK.out _ _ ⟨((cf_ (p := ⟨ba, _, none⟩) ca.out _).trans (((cf_ (p := ⟨ba, _, none⟩) ca.out _).trans (((cf_ (p := ⟨ba, _, none⟩) ca.out _).trans (hHeld.1)))))), ((cf_ (p := ⟨ba, _, none⟩) ca.out _).trans (((cf_ (p := ⟨ba, _, none⟩) ca.out _).trans (((cf_ (p := ⟨ba, _, none⟩) ca.out _).trans (hHeld.2.1)))))), ((cf_ (p := ⟨ba, _, none⟩) ca.out _).trans (((cf_ (p := ⟨ba, _, none⟩) ca.out _).trans (((cf_ (p := ⟨ba, _, none⟩) ca.out _).trans (hHeld.2.2.1)))))), ((cf_ (p := ⟨ba, _, none⟩) ca.out _).trans (((cf_ (p := ⟨ba, _, none⟩) ca.out _).trans (((cf_ (p := ⟨ba, _, none⟩) ca.out _).trans (hHeld.2.2.2.1)))))), ((cf_ (p := ⟨ba, _, none⟩) ca.out _).trans (((cf_ (p := ⟨ba, _, none⟩) ca.out _).trans (((cf_ (p := ⟨ba, _, none⟩) ca.out _).trans (hHeld.2.2.2.2.1)))))), ((cf_ (p := ⟨ba, _, none⟩) ca.out _).trans (((cf_ (p := ⟨ba, _, none⟩) ca.out _).trans (((cf_ (p := ⟨ba, _, none⟩) ca.out _).trans (hHeld.2.2.2.2.2.1)))))), ((cf_ (p := ⟨ba, _, none⟩) ca.out _).trans (((cf_ (p := ⟨ba, _, none⟩) ca.out _).trans (((cf_ (p := ⟨ba, _, none⟩) ca.out _).trans (hHeld.2.2.2.2.2.2))))))⟩ (fun hHeld => ?_)
 clear hK K
 refine done_ (done_of HT_.out kr_) ?_
 try go_wp2
 refine bodyPost_ret (results_cell_row rfl _ _ ba 32 #[.bool ha, .string ra, .string ta] (0, 0) _ rfl (by refine xk_ ?_; refine kQ_ (cs := #[.bool ha, .string ra, .string (⟨#[]⟩ : ByteArray)]) ?_ 2 _ rfl; refine kQ_ (cs := #[.bool ha, .string (⟨#[]⟩ : ByteArray), .string (⟨#[]⟩ : ByteArray)]) ?_ 1 _ rfl; refine kQ_ (cs := zC_) ?_ 0 _ rfl; exact da.out) Tryd.underlying32 rfl kr_) rfl ?_
 exact ⟨rE_, xB2_ HB ea ga⟩
def q_Add.f (k : Nat) (a0_0 : Bool) (a0_1 : ByteArray) (a0_2 : ByteArray) (a1_0 : Bool) (a1_1 : ByteArray) (a1_2 : ByteArray) : Option (Bool × ByteArray × ByteArray) := (q_clean.f k a0_0 a0_1 a0_2).bind fun bt606 => ((q_clean.f k a1_0 a1_1 a1_2).bind fun bt609 => ((q_add.f k bt606.1 bt606.2.1 bt606.2.2 bt609.1 bt609.2.1 bt609.2.2).bind fun bt612 => (some (bt612.1, bt612.2.1, bt612.2.2))))
theorem q_Add.mono : ∀ a0 a1 a2 a3 a4 a5 k, LeO (q_Add.f k a0 a1 a2 a3 a4 a5) (q_Add.f (k + 1) a0 a1 a2 a3 a4 a5) := by
 intro a0 a1 a2 a3 a4 a5 k
 unfold q_Add.f
 repeat' first
   | (with_reducible first | exact q_add.mono _ _ _ _ _ _ _ | exact q_clean.mono _ _ _ _ | exact LeO.refl _ | exact LeO.none _ | refine LeO.ite ?_ ?_ | refine LeO.bind ?_ (fun _ => ?_))
theorem q_Add.calls (k : Nat) (a0_0 : Bool) (a0_1 : ByteArray) (a0_2 : ByteArray) (a1_0 : Bool) (a1_1 : ByteArray) (a1_2 : ByteArray) (r1 : Bool) (r2 : ByteArray) (r3 : ByteArray) (w : World) (h : q_Add.f k a0_0 a0_1 a0_2 a1_0 a1_1 a1_2 = some (r1, r2, r3)) :
  Calls Tryd.prog 10 #[.agg #[.bool a0_0, .string a0_1, .string a0_2], .agg #[.bool a1_0, .string a1_1, .string a1_2]] w fun e w' => e = .returned (.agg #[.bool r1, .string r2, .string r3]) ∧ Below w.heap.size w w' := by
 have hu32 := Tryd.underlying32
 have HB := mk_ (Below.refl w.heap.size w)
 have H := h
 unfold q_Add.f at H
 clear h
 obtain ⟨⟨ka, la, ma⟩, A3, H⟩ := oB_ H
 (try dsimp only at H)
 obtain ⟨⟨na, oa, pa⟩, A4, H⟩ := oB_ H
 (try dsimp only at H)
 obtain ⟨⟨ia, qa, va⟩, A5, H⟩ := oB_ H
 (try dsimp only at H)
 simp only [Option.some.injEq, Prod.mk.injEq] at H
 obtain ⟨rfl, rfl, rfl⟩ := H
 go_enter Tryd.func10, Tryd.ntmps10
 try go_wp2_with (first | ((with_reducible refine gD_ (N := 2) rfl ?_); refine bX_ (N := 2) (cs := #[.bool a0_0, .string a0_1, .string a0_2]) (t := 32) ?_; intro ra hg w6 hbox hb; have aa := mk_ (hbox); have wa := mk_ (gZ_ hg (bZ_ (xB_ HB))); have ga := mk_ (gZ_ hg (bZ_ (xB_ HB))); replace HB := mk_ (bT_ (xB_ HB) hb); clear hb hbox hg) | ((with_reducible refine gD_ (N := 3) rfl ?_); refine bX_ (N := 3) (cs := #[.bool a1_0, .string a1_1, .string a1_2]) (t := 32) ?_; intro sa hg w7 hbox hb; have ba := mk_ (hbox); have xa := mk_ (gZ_ hg (bZ_ (xB1_ HB ga))); have ha := mk_ (gZ_ hg (bZ_ (xB1_ HB ga))); replace HB := mk_ (bT_ (xB1_ HB ga) hb); have ya := mk_ (gN_ hg (xK_ aa.out)); have za := mk_ (gM_ hg (xK_ aa.out)); replace aa := mk_ (kB_ (xK_ aa.out) hb); clear hb hbox hg) | ((with_reducible refine gD_ (N := 4) rfl ?_); refine bX_ (N := 4) (cs := zC_) (t := 32) ?_; intro ca hg w8 hbox hb; have da := mk_ (hbox); have Aa := mk_ (gZ_ hg (bZ_ (xB2_ HB ga ha))); have ja := mk_ (gZ_ hg (bZ_ (xB2_ HB ga ha))); replace HB := mk_ (bT_ (xB2_ HB ga ha) hb); have ea := mk_ (gN_ hg (xK_ aa.out)); have ta := mk_ (gM_ hg (xK_ aa.out)); replace aa := mk_ (kB_ (xK_ aa.out) hb); have fa := mk_ (gN_ hg (xK_ ba.out)); have ua := mk_ (gM_ hg (xK_ ba.out)); replace ba := mk_ (kB_ (xK_ ba.out) hb); clear hb hbox hg))
 replace aa := mk_ (kD_ aa.out)
 replace ba := mk_ (kD_ ba.out)
 replace da := mk_ (kD_ da.out)
 replace HB := mk_ (b1_ HB.out)
 refine start_ (n := 6) (S := fun w' => w'.cell? ⟨ra, 0, none⟩ = some (.bool a0_0) ∧ w'.cell? ⟨ra, 1, none⟩ = some (.string a0_1) ∧ w'.cell? ⟨ra, 2, none⟩ = some (.string a0_2) ∧ w'.cell? ⟨sa, 0, none⟩ = some (.bool a1_0) ∧ w'.cell? ⟨sa, 1, none⟩ = some (.string a1_1) ∧ w'.cell? ⟨sa, 2, none⟩ = some (.string a1_2)) (ds := []) (tf_ 0 6) kr_ rfl rfl ⟨(kc_ aa.out 0).trans rfl, (kc_ aa.out 1).trans rfl, (kc_ aa.out 2).trans rfl, (kc_ ba.out 0).trans rfl, (kc_ ba.out 1).trans rfl, (kc_ ba.out 2).trans rfl⟩ (fun hHeld => ?_)
 generalize w8.drew = w9 at aa ba da HB hHeld ⊢
 refine take_ (i := 0) (N := some 5) (v := ?_) (a' := ?_) (tf_ 1 5) rfl rfl kr_ (fun _ _ _ h => h) (Or.inl ⟨by rfl, ?_⟩) hHeld ?_ ?_
 rotate_left
 ·rintro w' ⟨s0, s1, s2, s3, s4, s5⟩
  go_simp
  with_reducible rfl
 rotate_left
 ·simp only [Act.put, s1_, s2_, s3_, i6_, i3_]
  rfl
 refine take_ (i := 2) (N := some 7) (v := ?_) (a' := ?_) #[true, false, true, false, false, false] rfl rfl kr_ (fun _ _ _ h => h) (Or.inl ⟨by rfl, ?_⟩) hHeld ?_ ?_
 rotate_left
 ·rintro w' ⟨s0, s1, s2, s3, s4, s5⟩
  go_simp
  with_reducible rfl
 rotate_left
 ·simp only [Act.put, s1_, s2_, s3_, i6_, i3_]
  rfl
 refine one_ (i := 1) (N := some 6) (tf_ 3 3) rfl rfl kr_ (by decide) (fun K hK => ?_)
 refine goes_ Tryd.func24 kr_ rfl #[.agg #[.bool a0_0, .string a0_1, .string a0_2]] (by rfl) rfl rfl mp_ ?_
 with_reducible refine (q_clean.calls k a0_0 a0_1 a0_2 ka la ma _ A3.out).mono ?_
 rintro e w10 ⟨rfl, hb⟩
 refine ⟨_, rfl, ?_⟩
 replace aa := mk_ (kB_ (xK_ aa.out) hb)
 replace ba := mk_ (kB_ (xK_ ba.out) hb)
 replace da := mk_ (kB_ (xK_ da.out) hb)
 replace HB := mk_ (bT_ (xB3_ HB ga ha ja) hb)
 (try clear hb)
 (try clear hb2)
 (try clear hk)
 (try clear hi)
 refine hK.out _ _ ⟨(kc_ aa.out 0).trans rfl, (kc_ aa.out 1).trans rfl, (kc_ aa.out 2).trans rfl, (kc_ ba.out 0).trans rfl, (kc_ ba.out 1).trans rfl, (kc_ ba.out 2).trans rfl⟩ (fun hHeld => ?_)
 clear hK K
 refine norm_ (a' := ?_) ?_ ?_
 rotate_left
 ·show Act.put _ (some 6) _ = _
  simp only [Act.put, s1_, s2_, s3_, i6_, i3_]
  rfl
 refine one_ (i := 3) (N := some 8) (tf_ 4 2) rfl rfl kr_ (by decide) (fun K hK => ?_)
 refine goes_ Tryd.func24 kr_ rfl #[.agg #[.bool a1_0, .string a1_1, .string a1_2]] (by rfl) rfl rfl mp_ ?_
 with_reducible refine (q_clean.calls k a1_0 a1_1 a1_2 na oa pa _ A4.out).mono ?_
 rintro e w11 ⟨rfl, hb⟩
 refine ⟨_, rfl, ?_⟩
 replace aa := mk_ (kB_ (xK_ aa.out) hb)
 replace ba := mk_ (kB_ (xK_ ba.out) hb)
 replace da := mk_ (kB_ (xK_ da.out) hb)
 replace HB := mk_ (bT_ (xB3_ HB ga ha ja) hb)
 (try clear hb)
 (try clear hb2)
 (try clear hk)
 (try clear hi)
 refine hK.out _ _ ⟨(kc_ aa.out 0).trans rfl, (kc_ aa.out 1).trans rfl, (kc_ aa.out 2).trans rfl, (kc_ ba.out 0).trans rfl, (kc_ ba.out 1).trans rfl, (kc_ ba.out 2).trans rfl⟩ (fun hHeld => ?_)
 clear hK K
 refine norm_ (a' := ?_) ?_ ?_
 rotate_left
 ·show Act.put _ (some 8) _ = _
  simp only [Act.put, s1_, s2_, s3_, i6_, i3_]
  rfl
 refine one_ (i := 4) (N := some 9) (tf_ 5 1) rfl rfl kr_ (by decide) (fun K hK => ?_)
 refine goes_ Tryd.func23 kr_ rfl #[.agg #[.bool ka, .string la, .string ma], .agg #[.bool na, .string oa, .string pa]] (by rfl) rfl rfl mp_ ?_
 with_reducible refine (q_add.calls k ka la ma na oa pa ia qa va _ A5.out).mono ?_
 rintro e w12 ⟨rfl, hb⟩
 refine ⟨_, rfl, ?_⟩
 replace aa := mk_ (kB_ (xK_ aa.out) hb)
 replace ba := mk_ (kB_ (xK_ ba.out) hb)
 replace da := mk_ (kB_ (xK_ da.out) hb)
 replace HB := mk_ (bT_ (xB3_ HB ga ha ja) hb)
 (try clear hb)
 (try clear hb2)
 (try clear hk)
 (try clear hi)
 refine hK.out _ _ ⟨(kc_ aa.out 0).trans rfl, (kc_ aa.out 1).trans rfl, (kc_ aa.out 2).trans rfl, (kc_ ba.out 0).trans rfl, (kc_ ba.out 1).trans rfl, (kc_ ba.out 2).trans rfl⟩ (fun hHeld => ?_)
 clear hK K
 refine norm_ (a' := ?_) ?_ ?_
 rotate_left
 ·show Act.put _ (some 9) _ = _
  simp only [Act.put, s1_, s2_, s3_, i6_, i3_]
  rfl
 refine one_ (i := 5) (N := none) (tf_ 6 0) rfl rfl kr_ (by decide) (fun K hK => ?_)
 have Ba : w12.cell? ⟨ca, 0, none⟩ = some (.bool false) := (kc_ da.out 0).trans rfl
 have hfs13 := kF_ da.out 0
 have hns13_0 := ea.out
 have hns13_1 := fa.out
 have hms13_0 := ta.out
 have hms13_1 := ua.out
 have Ca : w12.cell? ⟨ca, 1, none⟩ = some (.string (⟨#[]⟩ : ByteArray)) := (kc_ da.out 1).trans rfl
 have hfs14 := kF_ da.out 1
 have hns14_0 := ea.out
 have hns14_1 := fa.out
 have hms14_0 := ta.out
 have hms14_1 := ua.out
 have Da : w12.cell? ⟨ca, 2, none⟩ = some (.string (⟨#[]⟩ : ByteArray)) := (kc_ da.out 2).trans rfl
 have hfs15 := kF_ da.out 2
 have hns15_0 := ea.out
 have hns15_1 := fa.out
 have hms15_0 := ta.out
 have hms15_1 := ua.out
 refine skip_ (w1 := ?_) (by rfl) rfl ?_ ?_
 rotate_left
 ·go_simp
  rfl
 refine hK.out _ _ ⟨((cf_ (p := ⟨ca, _, none⟩) ea.out _).trans (((cf_ (p := ⟨ca, _, none⟩) ea.out _).trans (((cf_ (p := ⟨ca, _, none⟩) ea.out _).trans (hHeld.1)))))), ((cf_ (p := ⟨ca, _, none⟩) ea.out _).trans (((cf_ (p := ⟨ca, _, none⟩) ea.out _).trans (((cf_ (p := ⟨ca, _, none⟩) ea.out _).trans (hHeld.2.1)))))), ((cf_ (p := ⟨ca, _, none⟩) ea.out _).trans (((cf_ (p := ⟨ca, _, none⟩) ea.out _).trans (((cf_ (p := ⟨ca, _, none⟩) ea.out _).trans (hHeld.2.2.1)))))), ((cf_ (p := ⟨ca, _, none⟩) fa.out _).trans (((cf_ (p := ⟨ca, _, none⟩) fa.out _).trans (((cf_ (p := ⟨ca, _, none⟩) fa.out _).trans (hHeld.2.2.2.1)))))), ((cf_ (p := ⟨ca, _, none⟩) fa.out _).trans (((cf_ (p := ⟨ca, _, none⟩) fa.out _).trans (((cf_ (p := ⟨ca, _, none⟩) fa.out _).trans (hHeld.2.2.2.2.1)))))), ((cf_ (p := ⟨ca, _, none⟩) fa.out _).trans (((cf_ (p := ⟨ca, _, none⟩) fa.out _).trans (((cf_ (p := ⟨ca, _, none⟩) fa.out _).trans (hHeld.2.2.2.2.2))))))⟩ (fun hHeld => ?_)
 clear hK K
 refine done_ kr_ ?_
 try go_wp2
 refine bodyPost_ret (results_cell_row rfl _ _ ca 32 #[.bool ia, .string qa, .string va] (0, 0) _ rfl (by refine xk_ ?_; refine kQ_ (cs := #[.bool ia, .string qa, .string (⟨#[]⟩ : ByteArray)]) ?_ 2 _ rfl; refine kQ_ (cs := #[.bool ia, .string (⟨#[]⟩ : ByteArray), .string (⟨#[]⟩ : ByteArray)]) ?_ 1 _ rfl; refine kQ_ (cs := zC_) ?_ 0 _ rfl; exact da.out) Tryd.underlying32 rfl kr_) rfl ?_
 exact ⟨rE_, xB3_ HB ga ha ja⟩
mutual
def marshal_build.l0 : Nat → List (S50) → List (S32) → Int → Int → List (S32) → List Int → Option ((List (S32)) × (List (S32)) × List Int)
 | 0, _, _, _, _, _, _ => none
 | k + 1, x0, x16, x17, x18, x686001, x686002 => if x18 < x17 then (if 0 ≤ x18 then (if x18 < (x16.length : Int) then ((q_Add.f k ((r32_ x16 x18).f0) ((r32_ x16 x18).f1) ((r32_ x16 x18).f2) false (⟨#[]⟩ : ByteArray) (⟨#[]⟩ : ByteArray)).bind fun bt688 => (if x686001.length < 3518437208883 then (marshal_build.l0 k x0 x16 x17 (wrap64 (x18 + 1)) (x686001 ++ [(⟨bt688.1, bt688.2.1, bt688.2.2⟩ : S32)]) x686002) else (none))) else (none)) else (none)) else (marshal_build.l1 k x0 (x0.length : Int) 0 ([] : List (S32)) x686001 x686002)
def marshal_build.l1 : Nat → List (S50) → Int → Int → List (S32) → List (S32) → List Int → Option ((List (S32)) × (List (S32)) × List Int)
 | 0, _, _, _, _, _, _ => none
 | k + 1, x31, x32, x33, x686000, x686001, x686002 => if x33 < x32 then (if 0 ≤ x33 then (if x33 < (x31.length : Int) then ((collateral_Proceeds.f k ((r50_ x31 x33).f0.f0) ((r50_ x31 x33).f0.f1) ((r50_ x31 x33).f0.f2) ((r50_ x31 x33).f1.f0) ((r50_ x31 x33).f1.f1) ((r50_ x31 x33).f1.f2) ((r50_ x31 x33).f2)).bind fun bt696 => (if x686000.length < 3518437208883 then (marshal_build.l2 k x33 x31 x32 x33 ((r50_ x31 x33).f2) (((r50_ x31 x33).f2).length : Int) 0 (x686000 ++ [(⟨bt696.1, bt696.2.1, bt696.2.2⟩ : S32)]) x686001 x686002) else (none))) else (none)) else (none)) else (some (x686000, x686001, x686002))
def marshal_build.l2 : Nat → Int → List (S50) → Int → Int → List (S52) → Int → Int → List (S32) → List (S32) → List Int → Option ((List (S32)) × (List (S32)) × List Int)
 | 0, _, _, _, _, _, _, _, _, _, _ => none
 | k + 1, x8, x31, x32, x33, x46, x47, x48, x686000, x686001, x686002 => if x48 < x47 then (if 0 ≤ x48 then (if x48 < (x46.length : Int) then (if 0 ≤ ((r52_ x46 x48).f0) then (if ((r52_ x46 x48).f0) < (x686002.length : Int) then (if 0 ≤ x8 then (marshal_build.l2 k x8 x31 x32 x33 x46 x47 (wrap64 (x48 + 1)) x686000 x686001 (x686002.set (((r52_ x46 x48).f0) : Int).toNat (Go.bits .or .u64 (rd x686002 ((r52_ x46 x48).f0)) (shl .u64 1 x8)))) else (none)) else (none)) else (none)) else (none)) else (none)) else (marshal_build.l1 k x31 x32 (wrap64 (x33 + 1)) x686000 x686001 x686002)
end
def marshal_build.f (k : Nat) (l0 : List (S50)) (l1 : List (S32)) : Option ((List (S32)) × (List (S32)) × List Int) := if 0 ≤ (l1.length : Int) then (if ((l1.length : Int) : Int).toNat ≤ 35184372088832 then (marshal_build.l0 k l0 l1 (l1.length : Int) 0 ([] : List (S32)) (List.replicate ((l1.length : Int) : Int).toNat 0)) else (none)) else (none)
theorem marshal_build.mono_l : ∀ k, (∀ y0 y1 y2 y3 y4 y5, LeO (marshal_build.l0 k y0 y1 y2 y3 y4 y5) (marshal_build.l0 (k + 1) y0 y1 y2 y3 y4 y5)) ∧ (∀ y0 y1 y2 y3 y4 y5, LeO (marshal_build.l1 k y0 y1 y2 y3 y4 y5) (marshal_build.l1 (k + 1) y0 y1 y2 y3 y4 y5)) ∧ (∀ y0 y1 y2 y3 y4 y5 y6 y7 y8 y9, LeO (marshal_build.l2 k y0 y1 y2 y3 y4 y5 y6 y7 y8 y9) (marshal_build.l2 (k + 1) y0 y1 y2 y3 y4 y5 y6 y7 y8 y9))
 | 0 => ⟨fun _ _ _ _ _ _ r h => by simp [marshal_build.l0] at h, fun _ _ _ _ _ _ r h => by simp [marshal_build.l1] at h, fun _ _ _ _ _ _ _ _ _ _ r h => by simp [marshal_build.l2] at h⟩
 | k + 1 => by
  obtain ⟨ih0, ih1, ih2⟩ := marshal_build.mono_l k
  refine ⟨?_, ?_, ?_⟩
  ·intro y0 y1 y2 y3 y4 y5
   unfold marshal_build.l0
   repeat' first
   | (with_reducible first | exact ih0 _ _ _ _ _ _ | exact ih1 _ _ _ _ _ _ | exact ih2 _ _ _ _ _ _ _ _ _ _ | exact collateral_Proceeds.mono _ _ _ _ _ _ _ _ | exact q_Add.mono _ _ _ _ _ _ _ | exact LeO.refl _ | exact LeO.none _ | refine LeO.ite ?_ ?_ | refine LeO.bind ?_ (fun _ => ?_))
  ·intro y0 y1 y2 y3 y4 y5
   unfold marshal_build.l1
   repeat' first
   | (with_reducible first | exact ih0 _ _ _ _ _ _ | exact ih1 _ _ _ _ _ _ | exact ih2 _ _ _ _ _ _ _ _ _ _ | exact collateral_Proceeds.mono _ _ _ _ _ _ _ _ | exact q_Add.mono _ _ _ _ _ _ _ | exact LeO.refl _ | exact LeO.none _ | refine LeO.ite ?_ ?_ | refine LeO.bind ?_ (fun _ => ?_))
  ·intro y0 y1 y2 y3 y4 y5 y6 y7 y8 y9
   unfold marshal_build.l2
   repeat' first
   | (with_reducible first | exact ih0 _ _ _ _ _ _ | exact ih1 _ _ _ _ _ _ | exact ih2 _ _ _ _ _ _ _ _ _ _ | exact collateral_Proceeds.mono _ _ _ _ _ _ _ _ | exact q_Add.mono _ _ _ _ _ _ _ | exact LeO.refl _ | exact LeO.none _ | refine LeO.ite ?_ ?_ | refine LeO.bind ?_ (fun _ => ?_))
theorem marshal_build.mono : ∀ a0 a1 k, LeO (marshal_build.f k a0 a1) (marshal_build.f (k + 1) a0 a1) := by
 intro a0 a1 k
 obtain ⟨ih0, ih1, ih2⟩ := marshal_build.mono_l k
 unfold marshal_build.f
 repeat' first
   | (with_reducible first | exact ih0 _ _ _ _ _ _ | exact ih1 _ _ _ _ _ _ | exact ih2 _ _ _ _ _ _ _ _ _ _ | exact collateral_Proceeds.mono _ _ _ _ _ _ _ _ | exact q_Add.mono _ _ _ _ _ _ _ | exact LeO.refl _ | exact LeO.none _ | refine LeO.ite ?_ ?_ | refine LeO.bind ?_ (fun _ => ?_))
def marshal_build.T5 : Bool × List (List Nat × List Nat) := (true, [([], []), ([0], [0]), ([], []), ([], []), ([2, 3], [2, 3]), ([4], [4]), ([1, 5, 4], [1, 5]), ([0, 1, 2, 3, 4, 5, 6], []), ([7, 6, 6, 0, 1, 2, 3, 4, 5, 6], [6, 7])])
def marshal_build.B5 : List Nat := [0, 1, 0, 0, 12, 28, 63, 127, 255]
theorem marshal_build.tab5 : rtab .any (opsOf Tryd.f20 5) = marshal_build.T5 := by kernel_rfl
theorem marshal_build.bits5 : waitsOk marshal_build.T5.2 marshal_build.B5 = true := by kernel_rfl
def marshal_build.T10 : Bool × List (List Nat × List Nat) := (true, [([], []), ([0], [0]), ([], []), ([2], [2]), ([3], [3]), ([1, 4, 3], [1, 4]), ([0, 1, 2, 3, 4, 5], []), ([6, 5, 5, 0, 1, 2, 3, 4, 5], [5, 6])])
def marshal_build.B10 : List Nat := [0, 1, 0, 4, 12, 31, 63, 127]
theorem marshal_build.tab10 : rtab .any (opsOf Tryd.f20 10) = marshal_build.T10 := by kernel_rfl
theorem marshal_build.bits10 : waitsOk marshal_build.T10.2 marshal_build.B10 = true := by kernel_rfl
def marshal_build.T14 : Bool × List (List Nat × List Nat) := (true, [([], []), ([0], [0]), ([], []), ([2], [2]), ([1, 3], [1, 3]), ([4], [4]), ([], []), ([6], [6]), ([5, 7], [5, 7]), ([1, 3, 0, 1, 2, 3, 4, 5, 6, 7, 8], [1, 3]), ([9, 8, 0, 1, 2, 3, 4, 5, 6, 7, 8], [8, 9])])
def marshal_build.B14 : List Nat := [0, 1, 0, 4, 15, 31, 0, 64, 255, 511, 1023]
theorem marshal_build.tab14 : rtab .any (opsOf Tryd.f20 14) = marshal_build.T14 := by kernel_rfl
theorem marshal_build.bits14 : waitsOk marshal_build.T14.2 marshal_build.B14 = true := by kernel_rfl
theorem marshal_build.calls (k : Nat) (A0 : Option Addr) (c0 : Nat) (l0 : List (S50)) (A1 : Option Addr) (c1 : Nat) (l1 : List (S32)) (r1 : List (S32)) (r2 : List (S32)) (r3 : List Int) (w : World) (hr0 : Kd.C k50 w A0 l0.length l0) (hc0 : l0.length ≤ c0) (hr1 : Kd.C k32 w A1 l1.length l1) (hc1 : l1.length ≤ c1) (h : marshal_build.f k l0 l1 = some (r1, r2, r3)) :
  Calls Tryd.prog 20 #[.slice A0 l0.length c0, .slice A1 l1.length c1] w fun e w' => ∃ v0_ v1_ v2_ : Value, e = .returned (.agg #[v0_, v1_, v2_]) ∧ Kd.R k32 32 w' w.heap.size (fun k_ => some k_ ≠ (v1_ : Value).ownBlock) v0_ r1 ∧ Kd.R k32 32 w' w.heap.size (fun k_ => some k_ ≠ (v0_ : Value).ownBlock) v1_ r2 ∧ Kd.R (Kd.int .u64) 59 w' w.heap.size (fun _ => True) v2_ r3 ∧ Below w.heap.size w w' := by
 have hu56 := Tryd.underlying56
 have hu32 := Tryd.underlying32
 have hu50 := Tryd.underlying50
 have hu52 := Tryd.underlying52
 have HR0 := mk_ hr0
 have HC0 := mk_ hc0
 clear hr0 hc0
 have HR1 := mk_ hr1
 have HC1 := mk_ hc1
 clear hr1 hc1
 have HB := mk_ (Below.refl w.heap.size w)
 have H := h
 unfold marshal_build.f at H
 clear h
 obtain ⟨zc, Ac, H⟩ := iE_ H
 obtain ⟨Bc, Cc, H⟩ := iE_ H
 obtain ⟨xa, eb⟩ : ∃ y_ : List Int, y_ = (List.replicate ((l1.length : Int) : Int).toNat 0) := ⟨_, rfl⟩
 (first | rw [← eb] at H | skip); (try with_reducible replace H := (Option.bind_some _ _).symm.trans H); (try dsimp only at H)
 have Mb := mk_ eb
 clear eb
 have H' := mk_ H
 clear H
 go_enter Tryd.func20, Tryd.ntmps20
 go_wp2_with (first | ((with_reducible refine gD_ (N := 4) rfl ?_); refine bX_ (N := 4) (cs := #[.slice none 0 0, .slice none 0 0, .slice none 0 0]) (t := 56) ?_; intro qa hg w5 hbox hb; have fa := mk_ (hbox); have Dc := mk_ (gZ_ hg (bZ_ (xB_ HB))); have la := mk_ (gZ_ hg (bZ_ (xB_ HB))); replace HB := mk_ (bT_ (xB_ HB) hb); clear hb hbox hg) | ((with_reducible refine gD_ (N := 14) rfl ?_); refine Kd.R_make (Kd.int .u64) _ 59 rfl (N := 14) rfl 54 _ _ rfl (l1.length : Int) rfl rfl Tryd.underlying54 (.int .u64 0) 8 info59 rfl (by decide) (by omega) 0 (ok := fun _ => True) (okp := fun _ => True) rfl (fun _ hk => hk) trivial (oD_) (Nat.le_trans (Nat.mul_le_mul_right _ (oD_ : (l1.length : Int).toNat ≤ 35184372088832)) (by omega)) (Below.refl _ _) (Nat.le_refl _) ?_; intro Ec w6 ho7 hb hg_ hnew_; clear hg_ hnew_; (first | rw [← Mb.out] at ho7 | (simp only [Int.reduceToNat] at ho7; rw [← Mb.out] at ho7)); have Xa := mk_ (Kd.rL_ ho7 (bZ_ (xB1_ HB la))); replace fa := mk_ (kB_ (xK_ fa.out) hb); replace HB := mk_ (bT_ (xB1_ HB la) hb); clear hb ho7; obtain ⟨Ao8, co8, eo8⟩ := Kd.rS_' Xa.out; subst eo8) | ((with_reducible refine gD_ (N := 5) rfl ?_); refine bX_ (N := 5) (cs := #[.slice none 0 0, .slice none 0 0, .slice none 0 0]) (t := 56) ?_; intro na hg w9 hbox hb; replace Xa := mk_ (Kd.rB_ (xR_ Xa.out) hb); have ca := mk_ (hbox); have Fc := mk_ (gZ_ hg (bZ_ (xB1_ HB la))); have oa := mk_ (gZ_ hg (bZ_ (xB1_ HB la))); replace HB := mk_ (bT_ (xB1_ HB la) hb); have Ca := mk_ (gN_ hg (xK_ fa.out)); have Ya := mk_ (gM_ hg (xK_ fa.out)); replace fa := mk_ (kB_ (xK_ fa.out) hb); clear hb hbox hg; have hnb10 := Ya.out; have hnc10 := Ca.out; obtain ⟨Gc, Hc, Ic, Jc, Kc, Lc⟩ := kG3_ ca.out))
 go_loopg [18] k (fun kq v18 w' => ∃ (ha : Int) (ra : List (S32)) (u686001 : Value), v18 = .int .i64 ha ∧ A0_ (marshal_build.l0 kq l0 l1 (l1.length : Int) ha ra xa = some (r1, r2, r3)) ∧ A0_ (kq ≤ k) ∧ A0_ (Kd.R k32 32 w' w.heap.size (fun _ => True) u686001 ra) ∧ A0_ (Kd.R (Kd.int .u64) 59 w' w.heap.size (fun _ => True) (.slice Ao8 xa.length co8) xa) ∧ A0_ (w'.heap[qa]? = some (.cells #[(.slice none 0 0), (.slice none 0 0), (.slice none 0 0)] 56 (0, 0))) ∧ A0_ (w'.heap[na]? = some (.cells #[(.slice none 0 0), u686001, (.slice Ao8 xa.length co8)] 56 (0, 0))) ∧ A0_ (Below w.heap.size w w'))
 case atStart => exact ⟨(0), (([] : List (S32))), (.slice none 0 0), (rS_), H', ⟨Nat.le_refl _⟩, ⟨by first | exact Kd.R_nil _ _ _ _ _ | exact Kd.N_nil _ _ _ _ _ | exact Kd.V_nil _ _ _ _ _ | exact Kd.Q_nil _ _ _ _ _ | exact Kd.S_nil _ _ _ _ _⟩, ⟨by refine xr_ ?_; exact Kd.rM_ (Kd.rF_ (p := ⟨na, 2, none⟩) (Kd.rF_ (p := ⟨na, 1, none⟩) (Kd.rF_ (p := ⟨na, 0, none⟩) (Kd.R_types Xa.out ca.out (by decide)) (fun _ hk => hk.2) (.slice none 0 0)) (fun _ hk => hk.2) (.slice none 0 0)) (fun _ hk => hk.2) (.slice Ao8 xa.length co8)) (fun _ hk => trivial)⟩, ⟨by refine xk_ ?_; refine bf_ ?_ Ca.out _; refine xk_ ?_; refine bf_ ?_ Ca.out _; refine xk_ ?_; refine bf_ ?_ Ca.out _; refine xk_ ?_; exact fa.out⟩, ⟨by refine xk_ ?_; refine kQ_ (cs := #[.slice none 0 0, .slice none 0 0, .slice none 0 0]) ?_ 2 _ rfl; refine kQ_ (cs := #[.slice none 0 0, .slice none 0 0, .slice none 0 0]) ?_ 1 _ rfl; refine kQ_ (cs := #[.slice none 0 0, .slice none 0 0, .slice none 0 0]) ?_ 0 _ rfl; exact ca.out⟩, ⟨xB2_ HB la oa⟩⟩
 case round =>
  clear H'
  obtain ⟨ha, ra, u686001, rfl, HA, HK1, ja, ia, fa, ca, HB⟩ := hrel
  cases gk with
  | zero => exact absurd HA.out (by simp [marshal_build.l0])
  | succ k1 =>
   have H := HA.out
   clear HA
   simp only [marshal_build.l0] at H
   replace H := iS_ H
   rcases H with ⟨c12, H⟩ | ⟨c12, H⟩
   ·have ac := decide_eq_true c12
    clear c12
    obtain ⟨Mc, H⟩ := iD_ H
    obtain ⟨Nc, H⟩ := iD_ H
    obtain ⟨⟨Ma, Na, Oa⟩, A15, H⟩ := oB_ H
    (try dsimp only at H)
    obtain ⟨c16, H⟩ := iP_ H
    have bc := mk_ c16
    clear c16
    obtain ⟨Za, fb⟩ : ∃ y_ : List (S32), y_ = (ra ++ [(⟨Ma, Na, Oa⟩ : S32)]) := ⟨_, rfl⟩
    (first | rw [← fb] at H | skip); (try with_reducible replace H := (Option.bind_some _ _).symm.trans H); (try dsimp only at H)
    have cc := mk_ fb
    clear fb
    have H' := mk_ H
    clear H
    have gb : 0 ≤ (ha : Int) := oD_
    have ib : ha < (l1.length : Int) := oD_
    obtain ⟨Oc, dc, jb, kb, mb⟩ := at_T32 HR1.out ha gb ib
    cases dc
    (try replace jb := cT_ HB jb)
    (try replace kb := cT_ HB kb)
    (try replace mb := cT_ HB mb)
    replace gb := eq_true gb
    replace ib := eq_true ib
    try go_wp2_with (first | ((with_reducible refine gD_ (N := 7) rfl ?_); refine bX_ (N := 7) (cs := zC_) (t := 32) ?_; intro ka hg w17 hbox hb; replace ja := mk_ (Kd.rB_ (Kd.R_elderB (xR_ ja.out) ka (Nat.le_of_eq hg.symm)) hb); replace ia := mk_ (Kd.rB_ (xR_ ia.out) hb); have pa := mk_ (hbox); have Pc := mk_ (gZ_ hg (bZ_ (xB2_ HB la oa))); have Pa := mk_ (gZ_ hg (bZ_ (xB2_ HB la oa))); replace HB := mk_ (bT_ (xB2_ HB la oa) hb); have ab := mk_ (gN_ hg (xK_ fa.out)); have ec := mk_ (gM_ hg (xK_ fa.out)); replace fa := mk_ (kB_ (xK_ fa.out) hb); have Qa := mk_ (gN_ hg (xK_ ca.out)); have Nb := mk_ (gM_ hg (xK_ ca.out)); replace ca := mk_ (kB_ (xK_ ca.out) hb); clear hb hbox hg; have hnb18 := ec.out; have hnc18 := ab.out; have hnb19 := Nb.out; have hnc19 := Qa.out; obtain ⟨Qc, Rc, Sc, Tc, Uc, Vc⟩ := kG3_ pa.out))
    have n0_ : A0_ (Kd.R k32 32 (((w17.setCell ⟨ka, 0, none⟩ (.bool ((r32_ l1 ha).f0))).setCell ⟨ka, 1, none⟩ (.string ((r32_ l1 ha).f1))).setCell ⟨ka, 2, none⟩ (.string ((r32_ l1 ha).f2))) w.heap.size (fun k_ => k_ ≠ ka) u686001 ra) := ⟨by refine xr_ ?_; exact Kd.rM_ (Kd.rF_ (p := ⟨ka, 2, none⟩) (Kd.rF_ (p := ⟨ka, 1, none⟩) (Kd.rF_ (p := ⟨ka, 0, none⟩) (Kd.rM_ ja.out (fun k_ hk => (⟨hk, hk.2⟩ : _ ∧ k_ ≠ ka))) (fun _ hk => hk.2) (.bool ((r32_ l1 ha).f0))) (fun _ hk => hk.2) (.string ((r32_ l1 ha).f1))) (fun _ hk => hk.2) (.string ((r32_ l1 ha).f2))) (fun _ hk => hk.1.2)⟩
    have n1_ : A0_ (Kd.R (Kd.int .u64) 59 (((w17.setCell ⟨ka, 0, none⟩ (.bool ((r32_ l1 ha).f0))).setCell ⟨ka, 1, none⟩ (.string ((r32_ l1 ha).f1))).setCell ⟨ka, 2, none⟩ (.string ((r32_ l1 ha).f2))) w.heap.size (fun _ => True) (.slice Ao8 xa.length co8) xa) := ⟨by refine xr_ ?_; exact Kd.rM_ (Kd.rF_ (p := ⟨ka, 2, none⟩) (Kd.rF_ (p := ⟨ka, 1, none⟩) (Kd.rF_ (p := ⟨ka, 0, none⟩) (Kd.R_types ia.out pa.out (by decide)) (fun _ hk => hk.2) (.bool ((r32_ l1 ha).f0))) (fun _ hk => hk.2) (.string ((r32_ l1 ha).f1))) (fun _ hk => hk.2) (.string ((r32_ l1 ha).f2))) (fun _ hk => trivial)⟩
    have n2_ : A0_ ((((w17.setCell ⟨ka, 0, none⟩ (.bool ((r32_ l1 ha).f0))).setCell ⟨ka, 1, none⟩ (.string ((r32_ l1 ha).f1))).setCell ⟨ka, 2, none⟩ (.string ((r32_ l1 ha).f2))).heap[qa]? = some (.cells #[.slice none 0 0, .slice none 0 0, .slice none 0 0] 56 (0, 0))) := ⟨by refine xk_ ?_; refine bf_ ?_ ab.out _; refine xk_ ?_; refine bf_ ?_ ab.out _; refine xk_ ?_; refine bf_ ?_ ab.out _; refine xk_ ?_; exact fa.out⟩
    have n3_ : A0_ ((((w17.setCell ⟨ka, 0, none⟩ (.bool ((r32_ l1 ha).f0))).setCell ⟨ka, 1, none⟩ (.string ((r32_ l1 ha).f1))).setCell ⟨ka, 2, none⟩ (.string ((r32_ l1 ha).f2))).heap[na]? = some (.cells #[.slice none 0 0, u686001, .slice Ao8 xa.length co8] 56 (0, 0))) := ⟨by refine xk_ ?_; refine bf_ ?_ Qa.out _; refine xk_ ?_; refine bf_ ?_ Qa.out _; refine xk_ ?_; refine bf_ ?_ Qa.out _; refine xk_ ?_; exact ca.out⟩
    have n4_ : A0_ ((((w17.setCell ⟨ka, 0, none⟩ (.bool ((r32_ l1 ha).f0))).setCell ⟨ka, 1, none⟩ (.string ((r32_ l1 ha).f1))).setCell ⟨ka, 2, none⟩ (.string ((r32_ l1 ha).f2))).heap[ka]? = some (.cells #[.bool ((r32_ l1 ha).f0), .string ((r32_ l1 ha).f1), .string ((r32_ l1 ha).f2)] 32 (0, 0))) := ⟨by refine xk_ ?_; refine kQ_ (cs := #[.bool ((r32_ l1 ha).f0), .string ((r32_ l1 ha).f1), .string (⟨#[]⟩ : ByteArray)]) ?_ 2 _ rfl; refine kQ_ (cs := #[.bool ((r32_ l1 ha).f0), .string (⟨#[]⟩ : ByteArray), .string (⟨#[]⟩ : ByteArray)]) ?_ 1 _ rfl; refine kQ_ (cs := zC_) ?_ 0 _ rfl; exact pa.out⟩
    have n5_ : A0_ (Below w.heap.size w (((w17.setCell ⟨ka, 0, none⟩ (.bool ((r32_ l1 ha).f0))).setCell ⟨ka, 1, none⟩ (.string ((r32_ l1 ha).f1))).setCell ⟨ka, 2, none⟩ (.string ((r32_ l1 ha).f2)))) := ⟨xB3_ HB la oa Pa⟩
    (try clear ja)
    (try clear ia)
    (try clear fa)
    (try clear ca)
    (try clear pa)
    (try clear HB)
    generalize (((w17.setCell ⟨ka, 0, none⟩ (.bool ((r32_ l1 ha).f0))).setCell ⟨ka, 1, none⟩ (.string ((r32_ l1 ha).f1))).setCell ⟨ka, 2, none⟩ (.string ((r32_ l1 ha).f2))) = w21 at n0_ n1_ n2_ n3_ n4_ n5_ ⊢
    have ja := n0_
    have ia := n1_
    have fa := n2_
    have ca := n3_
    have pa := n4_
    have HB := n5_
    clear n0_ n1_ n2_ n3_ n4_ n5_
    replace ja := mk_ (Kd.rD_ ja.out)
    replace ia := mk_ (Kd.rD_ ia.out)
    replace fa := mk_ (kD_ fa.out)
    replace ca := mk_ (kD_ ca.out)
    replace pa := mk_ (kD_ pa.out)
    replace HB := mk_ (b1_ HB.out)
    refine start_ (n := 9) (S := fun w' => w'.cell? ⟨na, 0, none⟩ = some (.slice none 0 0) ∧ w'.cell? ⟨na, 1, none⟩ = some (u686001) ∧ w'.cell? ⟨na, 2, none⟩ = some (.slice Ao8 xa.length co8) ∧ w'.cell? ⟨ka, 0, none⟩ = some (.bool ((r32_ l1 ha).f0)) ∧ w'.cell? ⟨ka, 1, none⟩ = some (.string ((r32_ l1 ha).f1)) ∧ w'.cell? ⟨ka, 2, none⟩ = some (.string ((r32_ l1 ha).f2))) (ds := [8]) (tf_ 0 9) kr_ rfl rfl ⟨(kc_ ca.out 0).trans rfl, (kc_ ca.out 1).trans rfl, (kc_ ca.out 2).trans rfl, (kc_ pa.out 0).trans rfl, (kc_ pa.out 1).trans rfl, (kc_ pa.out 2).trans rfl⟩ (fun hHeld => ?_); refine with_tabW marshal_build.tab5 marshal_build.bits5 (fun HT_ HW_ => ?_)
    generalize w21.drew = w22 at ja ia fa ca pa HB hHeld ⊢
    refine pu_ (i := 0) (N := some 22) (v := ?_) (a' := ?_) (tf_ 1 8) rfl rfl (an_ HT_.out kr_) (fun _ _ _ h => h) (Or.inl ⟨by rfl, ?_⟩) ?_ ?_
    rotate_left
    ·intro w'
     go_simp
     with_reducible rfl
    rotate_left
    ·simp only [Act.put, s1_, s2_, s3_, i6_, i3_]
     rfl
    refine pu_ (i := 3) (N := some 25) (v := ?_) (a' := ?_) #[true, false, false, true, false, false, false, false, false] rfl rfl (an_ HT_.out kr_) (fun _ _ _ h => h) (Or.inl ⟨by rfl, ?_⟩) ?_ ?_
    rotate_left
    ·intro w'
     go_simp
     with_reducible rfl
    rotate_left
    ·simp only [Act.put, s1_, s2_, s3_, i6_, i3_]
     rfl
    refine take_ (i := 1) (N := some 23) (v := ?_) (a' := ?_) #[true, true, false, true, false, false, false, false, false] rfl rfl (tW_ HT_.out HW_.out kr_) (fun _ _ _ h => h) (Or.inl ⟨by rfl, ?_⟩) hHeld ?_ ?_
    rotate_left
    ·rintro w' ⟨s0, s1, s2, s3, s4, s5⟩
     go_simp
     with_reducible rfl
    rotate_left
    ·simp only [Act.put, s1_, s2_, s3_, i6_, i3_]
     rfl
    refine take_ (i := 2) (N := some 24) (v := ?_) (a' := ?_) (tf_ 4 5) rfl rfl (tW_ HT_.out HW_.out kr_) (fun _ _ _ h => h) (Or.inl ⟨by rfl, ?_⟩) hHeld ?_ ?_
    rotate_left
    ·rintro w' ⟨s0, s1, s2, s3, s4, s5⟩
     go_simp
     with_reducible rfl
    rotate_left
    ·simp only [Act.put, s1_, s2_, s3_, i6_, i3_]
     rfl
    refine one_ (i := 4) (N := some 26) (tf_ 5 4) rfl rfl (one_of HT_.out kr_) (by decide) (fun K hK => ?_)
    refine goes_ Tryd.func10 kr_ rfl #[.agg #[.bool ((r32_ l1 ha).f0), .string ((r32_ l1 ha).f1), .string ((r32_ l1 ha).f2)], .agg zC_] (by rfl) rfl rfl mp_ ?_
    with_reducible refine (q_Add.calls k1 ((r32_ l1 ha).f0) ((r32_ l1 ha).f1) ((r32_ l1 ha).f2) false (⟨#[]⟩ : ByteArray) (⟨#[]⟩ : ByteArray) Ma Na Oa _ A15.out).mono ?_
    rintro e w23 ⟨rfl, hb⟩
    refine ⟨_, rfl, ?_⟩
    replace ja := mk_ (Kd.rB_ (xR_ ja.out) hb)
    replace ia := mk_ (Kd.rB_ (xR_ ia.out) hb)
    replace fa := mk_ (kB_ (xK_ fa.out) hb)
    replace ca := mk_ (kB_ (xK_ ca.out) hb)
    replace pa := mk_ (kB_ (xK_ pa.out) hb)
    replace HB := mk_ (bT_ (xB3_ HB la oa Pa) hb)
    (try clear hb)
    (try clear hb2)
    (try clear hk)
    (try clear hi)
    refine hK.out _ _ ⟨(kc_ ca.out 0).trans rfl, (kc_ ca.out 1).trans rfl, (kc_ ca.out 2).trans rfl, (kc_ pa.out 0).trans rfl, (kc_ pa.out 1).trans rfl, (kc_ pa.out 2).trans rfl⟩ (fun hHeld => ?_)
    clear hK K
    refine norm_ (a' := ?_) ?_ ?_
    rotate_left
    ·show Act.put _ (some 26) _ = _
     simp only [Act.put, s1_, s2_, s3_, i6_, i3_]
     rfl
    refine one_ (i := 5) (N := some 27) (tf_ 6 3) rfl rfl (one_of HT_.out kr_) (by decide) (fun K hK => ?_)
    refine value_ (w1 := ?_) (v := ?_) (by rfl) rfl ?_ ?_
    rotate_left 2
    ·go_simp
     constructor
     ·rfl
     ·rfl
    refine hK.out _ _ ⟨(kc_ (kA_ ca.out _) 0).trans rfl, (kc_ (kA_ ca.out _) 1).trans rfl, (kc_ (kA_ ca.out _) 2).trans rfl, (kc_ (kA_ pa.out _) 0).trans rfl, (kc_ (kA_ pa.out _) 1).trans rfl, (kc_ (kA_ pa.out _) 2).trans rfl⟩ (fun hHeld => ?_)
    clear hK K
    refine norm_ (a' := ?_) ?_ ?_
    rotate_left
    ·show Act.put _ (some 27) _ = _
     simp only [Act.put, s1_, s2_, s3_, i6_, i3_]
     rfl
    refine one_ (i := 6) (N := some 28) (tf_ 7 2) rfl rfl (one_of HT_.out kr_) (by decide) (fun K hK => ?_)
    refine Kd.R_append_step k32 (w0 := w) w.heap.size (by rfl) (.tmp 23) (.tmp 27) 24 32 (.agg #[(.bool false), (.string ⟨#[]⟩), (.string ⟨#[]⟩)]) 40 rfl Tryd.underlying24 info32 rfl (by decide) (by omega) u686001 ra (⟨Ma, Na, Oa⟩ : S32) [.bool Ma, .string Na, .string Oa] (fun k_ => k_ ≠ ka) (fun _ => False) rfl rfl ?aP (fun _ hk => hk.elim) ?aF ?aO ?aB ?aS ?aL ?_
    (case aP => exact k32_mkM _ _ _ (⟨Ma, Na, Oa⟩ : S32))
    (case aB => exact (xB3_ HB la oa Pa))
    (case aF => exact (fun k_ hk => Kd.freshB (g := ka) (o := .cells #[.bool ((r32_ l1 ha).f0), .string ((r32_ l1 ha).f1), .string ((r32_ l1 ha).f2)] 32 (0, 0)) (xK_ pa.out) k_ hk))
    (case aO => exact (xR_ ja.out))
    (case aS => exact (bZ_ (xB3_ HB la oa Pa)))
    (case aL => have := bc.out; omega)
    intro Wc w24 ho hb hg hat
    rw [← cc.out] at ho
    replace ia := mk_ (Kd.R_over' (xR_ ia.out) (Kd.R_typed (xR_ ja.out)) (by decide) hg)
    replace fa := mk_ (blk_grown (g := qa) (o := .cells #[.slice none 0 0, .slice none 0 0, .slice none 0 0] 56 (0, 0)) (xK_ fa.out) hg (Kd.R_ne ja.out fa.out (by decide)))
    replace ca := mk_ (blk_grown (g := na) (o := .cells #[.slice none 0 0, u686001, .slice Ao8 xa.length co8] 56 (0, 0)) (xK_ ca.out) hg (Kd.R_ne ja.out ca.out (by decide)))
    replace pa := mk_ (blk_grown (g := ka) (o := .cells #[.bool ((r32_ l1 ha).f0), .string ((r32_ l1 ha).f1), .string ((r32_ l1 ha).f2)] 32 (0, 0)) (xK_ pa.out) hg (Kd.R_away ja.out (fun _ hk => hk)))
    replace HB := mk_ (hb)
    have Ob := mk_ (ho)
    clear ja
    clear ho hb hg hat
    obtain ⟨nb, ob, Pb⟩ := Kd.rS_' Ob.out
    (first | subst Pb | (injection Pb with f1_ f2_ f3_; have f4_ := f1_.symm; have f5_ := f3_.symm; clear f1_ f2_ f3_; subst f4_; subst f5_))
    refine hK.out _ _ ⟨(kc_ ca.out 0).trans rfl, (kc_ ca.out 1).trans rfl, (kc_ ca.out 2).trans rfl, (kc_ pa.out 0).trans rfl, (kc_ pa.out 1).trans rfl, (kc_ pa.out 2).trans rfl⟩ (fun hHeld => ?_)
    clear hK K
    refine norm_ (a' := ?_) ?_ ?_
    rotate_left
    ·show Act.put _ (some 28) _ = _
     simp only [Act.put, s1_, s2_, s3_, i6_, i3_]
     rfl
    refine pu_ (i := 7) (N := some 29) (v := ?_) (a' := ?_) (tf_ 8 1) rfl rfl (an_ HT_.out kr_) (fun _ _ _ h => h) (Or.inl ⟨by rfl, ?_⟩) ?_ ?_
    rotate_left
    ·intro w'
     go_simp
     with_reducible rfl
    rotate_left
    ·simp only [Act.put, s1_, s2_, s3_, i6_, i3_]
     rfl
    refine last_ (i := 8) (N := none) (tf_ 9 0) rfl rfl (one_of HT_.out kr_) (by decide) (fun K hK => ?_)
    have Xc : w24.cell? ⟨na, 1, none⟩ = some (u686001) := (kc_ ca.out 1).trans rfl
    have hfs26 := kF_ ca.out 1
    have hns26_0 := Ca.out
    have hns26_2 := Nb.out
    have hms26_0 := Ya.out
    have hms26_2 := Qa.out
    refine skip_ (w1 := ?_) (by rfl) rfl ?_ ?_
    rotate_left
    ·go_simp
     rfl
    refine hK.out _ _ ?_
    clear hK K
    refine done_ (done_of HT_.out kr_) ?_
    try go_wp2
    (try simp only [ap_])
    go_roundg k1
    case measure => have := HK1.out; omega
    case rel => exact ⟨(wrap64 (ha + 1)), (Za), (.slice nb Za.length ob), (rS_), H', ⟨by have := HK1.out; omega⟩, ⟨by refine xr_ ?_; exact Kd.rM_ (Kd.rF_ (p := ⟨na, 1, none⟩) (Kd.R_types Ob.out ca.out (by decide)) (fun _ hk => hk.2) (.slice nb Za.length ob)) (fun _ hk => trivial)⟩, ⟨by refine xr_ ?_; exact Kd.rM_ (Kd.rF_ (p := ⟨na, 1, none⟩) (Kd.R_types ia.out ca.out (by decide)) (fun _ hk => hk.2) (.slice nb Za.length ob)) (fun _ hk => trivial)⟩, ⟨by refine xk_ ?_; refine bf_ ?_ Ca.out _; refine xk_ ?_; exact fa.out⟩, ⟨by refine xk_ ?_; refine kQ_ (cs := #[.slice none 0 0, u686001, .slice Ao8 xa.length co8]) ?_ 1 _ rfl; exact ca.out⟩, ⟨xB3_ HB la oa Pa⟩⟩
   ·have ac := decide_eq_false c12
    clear c12
    have H' := mk_ H
    clear H
    go_wp2
    go_loopg [33] k1 (fun kq v33 w' => ∃ (aa : Int) (ya : List (S32)) (Da : List Int) (u686000 : Value) (u686002 : Value), v33 = .int .i64 aa ∧ A0_ (marshal_build.l1 kq l0 (l0.length : Int) aa ya ra Da = some (r1, r2, r3)) ∧ A0_ (kq ≤ k1) ∧ A0_ (Kd.R k32 32 w' w.heap.size (fun k_ => some k_ ≠ (u686001 : Value).ownBlock) u686000 ya) ∧ A0_ (Kd.R k32 32 w' w.heap.size (fun k_ => some k_ ≠ (u686000 : Value).ownBlock) u686001 ra) ∧ A0_ (Kd.R (Kd.int .u64) 59 w' w.heap.size (fun _ => True) u686002 Da) ∧ A0_ (w'.heap[qa]? = some (.cells #[(.slice none 0 0), (.slice none 0 0), (.slice none 0 0)] 56 (0, 0))) ∧ A0_ (w'.heap[na]? = some (.cells #[u686000, u686001, u686002] 56 (0, 0))) ∧ A0_ (Below w.heap.size w w'))
    case atStart => exact ⟨(0), (([] : List (S32))), (xa), (.slice none 0 0), (.slice Ao8 xa.length co8), (rS_), H', ⟨Nat.le_refl _⟩, ⟨by first | exact Kd.R_nil _ _ _ _ _ | exact Kd.N_nil _ _ _ _ _ | exact Kd.V_nil _ _ _ _ _ | exact Kd.Q_nil _ _ _ _ _ | exact Kd.S_nil _ _ _ _ _⟩, ⟨by refine xr_ ?_; exact Kd.rM_ ja.out (fun _ hk => (by simp [Value.ownBlock]))⟩, ⟨by refine xr_ ?_; exact ia.out⟩, ⟨by refine xk_ ?_; exact fa.out⟩, ⟨by refine xk_ ?_; exact ca.out⟩, ⟨xB2_ HB la oa⟩⟩
    case round =>
     clear H'
     obtain ⟨aa, ya, Da, u686000, u686002, rfl, HA, HK2, ma, ja, ia, fa, ca, HB⟩ := hrel
     cases gk with
     | zero => exact absurd HA.out (by simp [marshal_build.l1])
     | succ k2 =>
      have H := HA.out
      clear HA
      simp only [marshal_build.l1] at H
      replace H := iS_ H
      rcases H with ⟨c27, H⟩ | ⟨c27, H⟩
      ·have fc := decide_eq_true c27
       clear c27
       obtain ⟨Yc, H⟩ := iD_ H
       obtain ⟨Zc, H⟩ := iD_ H
       obtain ⟨⟨Ra, Sa, Ta⟩, A30, H⟩ := oB_ H
       (try dsimp only at H)
       obtain ⟨c31, H⟩ := iP_ H
       have gc := mk_ c31
       clear c31
       obtain ⟨ua, pb⟩ : ∃ y_ : List (S32), y_ = (ya ++ [(⟨Ra, Sa, Ta⟩ : S32)]) := ⟨_, rfl⟩
       (first | rw [← pb] at H | skip); (try with_reducible replace H := (Option.bind_some _ _).symm.trans H); (try dsimp only at H)
       have hc := mk_ pb
       clear pb
       have H' := mk_ H
       clear H
       have qb : 0 ≤ (aa : Int) := oD_
       have rb : aa < (l0.length : Int) := oD_
       obtain ⟨ad, va, sa, ic, sb, tb, ub, vb, wb, xb, yb, Qb, hi694_6⟩ := at_T50 HR0.out aa qb rb
       cases ic
       (try replace sb := cT_ HB sb)
       (try replace tb := cT_ HB tb)
       (try replace ub := cT_ HB ub)
       (try replace vb := cT_ HB vb)
       (try replace wb := cT_ HB wb)
       (try replace xb := cT_ HB xb)
       (try replace yb := cT_ HB yb)
       have HR694_6 := mk_ hi694_6
       have HC694_6 := mk_ Qb
       clear hi694_6 Qb
       replace qb := eq_true qb
       replace rb := eq_true rb
       try go_wp2_with (first | ((with_reducible refine gD_ (N := 9) rfl ?_); refine bX_ (N := 9) (cs := #[.bool false, .string (⟨#[]⟩ : ByteArray), .string (⟨#[]⟩ : ByteArray), .bool false, .string (⟨#[]⟩ : ByteArray), .string (⟨#[]⟩ : ByteArray), .slice none 0 0]) (t := 50) ?_; intro da hg w32 hbox hb; replace ma := mk_ (Kd.rB_ (xR_ ma.out) hb); replace ja := mk_ (Kd.rB_ (xR_ ja.out) hb); replace ia := mk_ (Kd.rB_ (xR_ ia.out) hb); have ga := mk_ (hbox); have bd := mk_ (gZ_ hg (bZ_ (xB2_ HB la oa))); have za := mk_ (gZ_ hg (bZ_ (xB2_ HB la oa))); replace HB := mk_ (bT_ (xB2_ HB la oa) hb); have Ga := mk_ (gN_ hg (xK_ fa.out)); have jc := mk_ (gM_ hg (xK_ fa.out)); replace fa := mk_ (kB_ (xK_ fa.out) hb); have Ea := mk_ (gN_ hg (xK_ ca.out)); have zb := mk_ (gM_ hg (xK_ ca.out)); replace ca := mk_ (kB_ (xK_ ca.out) hb); clear hb hbox hg; have hnb33 := jc.out; have hnc33 := Ga.out; have hnb34 := zb.out; have hnc34 := Ea.out; obtain ⟨cd, dd, ed, fd, id, jd, kd, ld, md, nd, od, pd, qd, sd⟩ := kG7_ ga.out))
       have n0_ : A0_ (Kd.R k32 32 (((((((w32.setCell ⟨da, 0, none⟩ (.bool ((r50_ l0 aa).f0.f0))).setCell ⟨da, 1, none⟩ (.string ((r50_ l0 aa).f0.f1))).setCell ⟨da, 2, none⟩ (.string ((r50_ l0 aa).f0.f2))).setCell ⟨da, 3, none⟩ (.bool ((r50_ l0 aa).f1.f0))).setCell ⟨da, 4, none⟩ (.string ((r50_ l0 aa).f1.f1))).setCell ⟨da, 5, none⟩ (.string ((r50_ l0 aa).f1.f2))).setCell ⟨da, 6, none⟩ (.slice va ((r50_ l0 aa).f2).length sa)) w.heap.size (fun k_ => some k_ ≠ (u686001 : Value).ownBlock) u686000 ya) := ⟨by refine xr_ ?_; exact Kd.rM_ (Kd.rF_ (p := ⟨da, 6, none⟩) (Kd.rF_ (p := ⟨da, 5, none⟩) (Kd.rF_ (p := ⟨da, 4, none⟩) (Kd.rF_ (p := ⟨da, 3, none⟩) (Kd.rF_ (p := ⟨da, 2, none⟩) (Kd.rF_ (p := ⟨da, 1, none⟩) (Kd.rF_ (p := ⟨da, 0, none⟩) (Kd.R_types ma.out ga.out (by decide)) (fun _ hk => hk.2) (.bool ((r50_ l0 aa).f0.f0))) (fun _ hk => hk.2) (.string ((r50_ l0 aa).f0.f1))) (fun _ hk => hk.2) (.string ((r50_ l0 aa).f0.f2))) (fun _ hk => hk.2) (.bool ((r50_ l0 aa).f1.f0))) (fun _ hk => hk.2) (.string ((r50_ l0 aa).f1.f1))) (fun _ hk => hk.2) (.string ((r50_ l0 aa).f1.f2))) (fun _ hk => hk.2) (.slice va ((r50_ l0 aa).f2).length sa)) (fun _ hk => hk.1)⟩
       have n1_ : A0_ (Kd.R k32 32 (((((((w32.setCell ⟨da, 0, none⟩ (.bool ((r50_ l0 aa).f0.f0))).setCell ⟨da, 1, none⟩ (.string ((r50_ l0 aa).f0.f1))).setCell ⟨da, 2, none⟩ (.string ((r50_ l0 aa).f0.f2))).setCell ⟨da, 3, none⟩ (.bool ((r50_ l0 aa).f1.f0))).setCell ⟨da, 4, none⟩ (.string ((r50_ l0 aa).f1.f1))).setCell ⟨da, 5, none⟩ (.string ((r50_ l0 aa).f1.f2))).setCell ⟨da, 6, none⟩ (.slice va ((r50_ l0 aa).f2).length sa)) w.heap.size (fun k_ => some k_ ≠ (u686000 : Value).ownBlock) u686001 ra) := ⟨by refine xr_ ?_; exact Kd.rM_ (Kd.rF_ (p := ⟨da, 6, none⟩) (Kd.rF_ (p := ⟨da, 5, none⟩) (Kd.rF_ (p := ⟨da, 4, none⟩) (Kd.rF_ (p := ⟨da, 3, none⟩) (Kd.rF_ (p := ⟨da, 2, none⟩) (Kd.rF_ (p := ⟨da, 1, none⟩) (Kd.rF_ (p := ⟨da, 0, none⟩) (Kd.R_types ja.out ga.out (by decide)) (fun _ hk => hk.2) (.bool ((r50_ l0 aa).f0.f0))) (fun _ hk => hk.2) (.string ((r50_ l0 aa).f0.f1))) (fun _ hk => hk.2) (.string ((r50_ l0 aa).f0.f2))) (fun _ hk => hk.2) (.bool ((r50_ l0 aa).f1.f0))) (fun _ hk => hk.2) (.string ((r50_ l0 aa).f1.f1))) (fun _ hk => hk.2) (.string ((r50_ l0 aa).f1.f2))) (fun _ hk => hk.2) (.slice va ((r50_ l0 aa).f2).length sa)) (fun _ hk => hk.1)⟩
       have n2_ : A0_ (Kd.R (Kd.int .u64) 59 (((((((w32.setCell ⟨da, 0, none⟩ (.bool ((r50_ l0 aa).f0.f0))).setCell ⟨da, 1, none⟩ (.string ((r50_ l0 aa).f0.f1))).setCell ⟨da, 2, none⟩ (.string ((r50_ l0 aa).f0.f2))).setCell ⟨da, 3, none⟩ (.bool ((r50_ l0 aa).f1.f0))).setCell ⟨da, 4, none⟩ (.string ((r50_ l0 aa).f1.f1))).setCell ⟨da, 5, none⟩ (.string ((r50_ l0 aa).f1.f2))).setCell ⟨da, 6, none⟩ (.slice va ((r50_ l0 aa).f2).length sa)) w.heap.size (fun _ => True) u686002 Da) := ⟨by refine xr_ ?_; exact Kd.rM_ (Kd.rF_ (p := ⟨da, 6, none⟩) (Kd.rF_ (p := ⟨da, 5, none⟩) (Kd.rF_ (p := ⟨da, 4, none⟩) (Kd.rF_ (p := ⟨da, 3, none⟩) (Kd.rF_ (p := ⟨da, 2, none⟩) (Kd.rF_ (p := ⟨da, 1, none⟩) (Kd.rF_ (p := ⟨da, 0, none⟩) (Kd.R_types ia.out ga.out (by decide)) (fun _ hk => hk.2) (.bool ((r50_ l0 aa).f0.f0))) (fun _ hk => hk.2) (.string ((r50_ l0 aa).f0.f1))) (fun _ hk => hk.2) (.string ((r50_ l0 aa).f0.f2))) (fun _ hk => hk.2) (.bool ((r50_ l0 aa).f1.f0))) (fun _ hk => hk.2) (.string ((r50_ l0 aa).f1.f1))) (fun _ hk => hk.2) (.string ((r50_ l0 aa).f1.f2))) (fun _ hk => hk.2) (.slice va ((r50_ l0 aa).f2).length sa)) (fun _ hk => trivial)⟩
       have n3_ : A0_ ((((((((w32.setCell ⟨da, 0, none⟩ (.bool ((r50_ l0 aa).f0.f0))).setCell ⟨da, 1, none⟩ (.string ((r50_ l0 aa).f0.f1))).setCell ⟨da, 2, none⟩ (.string ((r50_ l0 aa).f0.f2))).setCell ⟨da, 3, none⟩ (.bool ((r50_ l0 aa).f1.f0))).setCell ⟨da, 4, none⟩ (.string ((r50_ l0 aa).f1.f1))).setCell ⟨da, 5, none⟩ (.string ((r50_ l0 aa).f1.f2))).setCell ⟨da, 6, none⟩ (.slice va ((r50_ l0 aa).f2).length sa)).heap[qa]? = some (.cells #[.slice none 0 0, .slice none 0 0, .slice none 0 0] 56 (0, 0))) := ⟨by refine xk_ ?_; refine bf_ ?_ Ga.out _; refine xk_ ?_; refine bf_ ?_ Ga.out _; refine xk_ ?_; refine bf_ ?_ Ga.out _; refine xk_ ?_; refine bf_ ?_ Ga.out _; refine xk_ ?_; refine bf_ ?_ Ga.out _; refine xk_ ?_; refine bf_ ?_ Ga.out _; refine xk_ ?_; refine bf_ ?_ Ga.out _; refine xk_ ?_; exact fa.out⟩
       have n4_ : A0_ ((((((((w32.setCell ⟨da, 0, none⟩ (.bool ((r50_ l0 aa).f0.f0))).setCell ⟨da, 1, none⟩ (.string ((r50_ l0 aa).f0.f1))).setCell ⟨da, 2, none⟩ (.string ((r50_ l0 aa).f0.f2))).setCell ⟨da, 3, none⟩ (.bool ((r50_ l0 aa).f1.f0))).setCell ⟨da, 4, none⟩ (.string ((r50_ l0 aa).f1.f1))).setCell ⟨da, 5, none⟩ (.string ((r50_ l0 aa).f1.f2))).setCell ⟨da, 6, none⟩ (.slice va ((r50_ l0 aa).f2).length sa)).heap[na]? = some (.cells #[u686000, u686001, u686002] 56 (0, 0))) := ⟨by refine xk_ ?_; refine bf_ ?_ Ea.out _; refine xk_ ?_; refine bf_ ?_ Ea.out _; refine xk_ ?_; refine bf_ ?_ Ea.out _; refine xk_ ?_; refine bf_ ?_ Ea.out _; refine xk_ ?_; refine bf_ ?_ Ea.out _; refine xk_ ?_; refine bf_ ?_ Ea.out _; refine xk_ ?_; refine bf_ ?_ Ea.out _; refine xk_ ?_; exact ca.out⟩
       have n5_ : A0_ ((((((((w32.setCell ⟨da, 0, none⟩ (.bool ((r50_ l0 aa).f0.f0))).setCell ⟨da, 1, none⟩ (.string ((r50_ l0 aa).f0.f1))).setCell ⟨da, 2, none⟩ (.string ((r50_ l0 aa).f0.f2))).setCell ⟨da, 3, none⟩ (.bool ((r50_ l0 aa).f1.f0))).setCell ⟨da, 4, none⟩ (.string ((r50_ l0 aa).f1.f1))).setCell ⟨da, 5, none⟩ (.string ((r50_ l0 aa).f1.f2))).setCell ⟨da, 6, none⟩ (.slice va ((r50_ l0 aa).f2).length sa)).heap[da]? = some (.cells #[.bool ((r50_ l0 aa).f0.f0), .string ((r50_ l0 aa).f0.f1), .string ((r50_ l0 aa).f0.f2), .bool ((r50_ l0 aa).f1.f0), .string ((r50_ l0 aa).f1.f1), .string ((r50_ l0 aa).f1.f2), .slice va ((r50_ l0 aa).f2).length sa] 50 (0, 0))) := ⟨by refine xk_ ?_; refine kQ_ (cs := #[.bool ((r50_ l0 aa).f0.f0), .string ((r50_ l0 aa).f0.f1), .string ((r50_ l0 aa).f0.f2), .bool ((r50_ l0 aa).f1.f0), .string ((r50_ l0 aa).f1.f1), .string ((r50_ l0 aa).f1.f2), .slice none 0 0]) ?_ 6 _ rfl; refine kQ_ (cs := #[.bool ((r50_ l0 aa).f0.f0), .string ((r50_ l0 aa).f0.f1), .string ((r50_ l0 aa).f0.f2), .bool ((r50_ l0 aa).f1.f0), .string ((r50_ l0 aa).f1.f1), .string (⟨#[]⟩ : ByteArray), .slice none 0 0]) ?_ 5 _ rfl; refine kQ_ (cs := #[.bool ((r50_ l0 aa).f0.f0), .string ((r50_ l0 aa).f0.f1), .string ((r50_ l0 aa).f0.f2), .bool ((r50_ l0 aa).f1.f0), .string (⟨#[]⟩ : ByteArray), .string (⟨#[]⟩ : ByteArray), .slice none 0 0]) ?_ 4 _ rfl; refine kQ_ (cs := #[.bool ((r50_ l0 aa).f0.f0), .string ((r50_ l0 aa).f0.f1), .string ((r50_ l0 aa).f0.f2), .bool false, .string (⟨#[]⟩ : ByteArray), .string (⟨#[]⟩ : ByteArray), .slice none 0 0]) ?_ 3 _ rfl; refine kQ_ (cs := #[.bool ((r50_ l0 aa).f0.f0), .string ((r50_ l0 aa).f0.f1), .string (⟨#[]⟩ : ByteArray), .bool false, .string (⟨#[]⟩ : ByteArray), .string (⟨#[]⟩ : ByteArray), .slice none 0 0]) ?_ 2 _ rfl; refine kQ_ (cs := #[.bool ((r50_ l0 aa).f0.f0), .string (⟨#[]⟩ : ByteArray), .string (⟨#[]⟩ : ByteArray), .bool false, .string (⟨#[]⟩ : ByteArray), .string (⟨#[]⟩ : ByteArray), .slice none 0 0]) ?_ 1 _ rfl; refine kQ_ (cs := #[.bool false, .string (⟨#[]⟩ : ByteArray), .string (⟨#[]⟩ : ByteArray), .bool false, .string (⟨#[]⟩ : ByteArray), .string (⟨#[]⟩ : ByteArray), .slice none 0 0]) ?_ 0 _ rfl; exact ga.out⟩
       have n6_ : A0_ (Below w.heap.size w (((((((w32.setCell ⟨da, 0, none⟩ (.bool ((r50_ l0 aa).f0.f0))).setCell ⟨da, 1, none⟩ (.string ((r50_ l0 aa).f0.f1))).setCell ⟨da, 2, none⟩ (.string ((r50_ l0 aa).f0.f2))).setCell ⟨da, 3, none⟩ (.bool ((r50_ l0 aa).f1.f0))).setCell ⟨da, 4, none⟩ (.string ((r50_ l0 aa).f1.f1))).setCell ⟨da, 5, none⟩ (.string ((r50_ l0 aa).f1.f2))).setCell ⟨da, 6, none⟩ (.slice va ((r50_ l0 aa).f2).length sa))) := ⟨xB3_ HB la oa za⟩
       (try clear ma)
       (try clear ja)
       (try clear ia)
       (try clear fa)
       (try clear ca)
       (try clear ga)
       (try clear HB)
       generalize (((((((w32.setCell ⟨da, 0, none⟩ (.bool ((r50_ l0 aa).f0.f0))).setCell ⟨da, 1, none⟩ (.string ((r50_ l0 aa).f0.f1))).setCell ⟨da, 2, none⟩ (.string ((r50_ l0 aa).f0.f2))).setCell ⟨da, 3, none⟩ (.bool ((r50_ l0 aa).f1.f0))).setCell ⟨da, 4, none⟩ (.string ((r50_ l0 aa).f1.f1))).setCell ⟨da, 5, none⟩ (.string ((r50_ l0 aa).f1.f2))).setCell ⟨da, 6, none⟩ (.slice va ((r50_ l0 aa).f2).length sa)) = w36 at n0_ n1_ n2_ n3_ n4_ n5_ n6_ ⊢
       have ma := n0_
       have ja := n1_
       have ia := n2_
       have fa := n3_
       have ca := n4_
       have ga := n5_
       have HB := n6_
       clear n0_ n1_ n2_ n3_ n4_ n5_ n6_
       replace ma := mk_ (Kd.rD_ ma.out)
       replace ja := mk_ (Kd.rD_ ja.out)
       replace ia := mk_ (Kd.rD_ ia.out)
       replace fa := mk_ (kD_ fa.out)
       replace ca := mk_ (kD_ ca.out)
       replace ga := mk_ (kD_ ga.out)
       replace HB := mk_ (b1_ HB.out)
       refine start_ (n := 8) (S := fun w' => w'.cell? ⟨na, 0, none⟩ = some (u686000) ∧ w'.cell? ⟨na, 1, none⟩ = some (u686001) ∧ w'.cell? ⟨na, 2, none⟩ = some (u686002) ∧ w'.cell? ⟨da, 0, none⟩ = some (.bool ((r50_ l0 aa).f0.f0)) ∧ w'.cell? ⟨da, 1, none⟩ = some (.string ((r50_ l0 aa).f0.f1)) ∧ w'.cell? ⟨da, 2, none⟩ = some (.string ((r50_ l0 aa).f0.f2)) ∧ w'.cell? ⟨da, 3, none⟩ = some (.bool ((r50_ l0 aa).f1.f0)) ∧ w'.cell? ⟨da, 4, none⟩ = some (.string ((r50_ l0 aa).f1.f1)) ∧ w'.cell? ⟨da, 5, none⟩ = some (.string ((r50_ l0 aa).f1.f2)) ∧ w'.cell? ⟨da, 6, none⟩ = some (.slice va ((r50_ l0 aa).f2).length sa)) (ds := [7]) (tf_ 0 8) kr_ rfl rfl ⟨(kc_ ca.out 0).trans rfl, (kc_ ca.out 1).trans rfl, (kc_ ca.out 2).trans rfl, (kc_ ga.out 0).trans rfl, (kc_ ga.out 1).trans rfl, (kc_ ga.out 2).trans rfl, (kc_ ga.out 3).trans rfl, (kc_ ga.out 4).trans rfl, (kc_ ga.out 5).trans rfl, (kc_ ga.out 6).trans rfl⟩ (fun hHeld => ?_); refine with_tabW marshal_build.tab10 marshal_build.bits10 (fun HT_ HW_ => ?_)
       generalize w36.drew = w37 at ma ja ia fa ca ga HB hHeld ⊢
       refine pu_ (i := 0) (N := some 38) (v := ?_) (a' := ?_) (tf_ 1 7) rfl rfl (an_ HT_.out kr_) (fun _ _ _ h => h) (Or.inl ⟨by rfl, ?_⟩) ?_ ?_
       rotate_left
       ·intro w'
        go_simp
        with_reducible rfl
       rotate_left
       ·simp only [Act.put, s1_, s2_, s3_, i6_, i3_]
        rfl
       refine take_ (i := 1) (N := some 39) (v := ?_) (a' := ?_) (tf_ 2 6) rfl rfl (tW_ HT_.out HW_.out kr_) (fun _ _ _ h => h) (Or.inl ⟨by rfl, ?_⟩) hHeld ?_ ?_
       rotate_left
       ·rintro w' ⟨s0, s1, s2, s3, s4, s5, s6, s7, s8, s9⟩
        go_simp
        with_reducible rfl
       rotate_left
       ·simp only [Act.put, s1_, s2_, s3_, i6_, i3_]
        rfl
       refine take_ (i := 2) (N := some 40) (v := ?_) (a' := ?_) (tf_ 3 5) rfl rfl (tW_ HT_.out HW_.out kr_) (fun _ _ _ h => h) (Or.inl ⟨by rfl, ?_⟩) hHeld ?_ ?_
       rotate_left
       ·rintro w' ⟨s0, s1, s2, s3, s4, s5, s6, s7, s8, s9⟩
        go_simp
        with_reducible rfl
       rotate_left
       ·simp only [Act.put, s1_, s2_, s3_, i6_, i3_]
        rfl
       refine one_ (i := 3) (N := some 41) (tf_ 4 4) rfl rfl (one_of HT_.out kr_) (by decide) (fun K hK => ?_)
       refine goes_ Tryd.func39 kr_ rfl #[.agg #[.bool ((r50_ l0 aa).f0.f0), .string ((r50_ l0 aa).f0.f1), .string ((r50_ l0 aa).f0.f2), .bool ((r50_ l0 aa).f1.f0), .string ((r50_ l0 aa).f1.f1), .string ((r50_ l0 aa).f1.f2), .slice va ((r50_ l0 aa).f2).length sa]] (by rfl) rfl rfl mp_ ?_
       with_reducible refine (collateral_Proceeds.calls k2 ((r50_ l0 aa).f0.f0) ((r50_ l0 aa).f0.f1) ((r50_ l0 aa).f0.f2) ((r50_ l0 aa).f1.f0) ((r50_ l0 aa).f1.f1) ((r50_ l0 aa).f1.f2) _ _ ((r50_ l0 aa).f2) Ra Sa Ta _ ?side1 ?side2 A30.out).mono ?_
       (case side1 => repeat (first | exact (Kd.C_below HR694_6.out HB.out) | (with_reducible refine Kd.C_alloc ?_ _) | (with_reducible refine Kd.C_drewN ?_ _) | (with_reducible refine Kd.C_drew ?_)))
       (case side2 => exact HC694_6.out)
       rintro e w38 ⟨rfl, hb⟩
       refine ⟨_, rfl, ?_⟩
       replace ma := mk_ (Kd.rB_ (xR_ ma.out) hb)
       replace ja := mk_ (Kd.rB_ (xR_ ja.out) hb)
       replace ia := mk_ (Kd.rB_ (xR_ ia.out) hb)
       replace fa := mk_ (kB_ (xK_ fa.out) hb)
       replace ca := mk_ (kB_ (xK_ ca.out) hb)
       replace ga := mk_ (kB_ (xK_ ga.out) hb)
       replace HB := mk_ (bT_ (xB3_ HB la oa za) hb)
       (try clear hb)
       (try clear hb2)
       (try clear hk)
       (try clear hi)
       refine hK.out _ _ ⟨(kc_ ca.out 0).trans rfl, (kc_ ca.out 1).trans rfl, (kc_ ca.out 2).trans rfl, (kc_ ga.out 0).trans rfl, (kc_ ga.out 1).trans rfl, (kc_ ga.out 2).trans rfl, (kc_ ga.out 3).trans rfl, (kc_ ga.out 4).trans rfl, (kc_ ga.out 5).trans rfl, (kc_ ga.out 6).trans rfl⟩ (fun hHeld => ?_)
       clear hK K
       refine norm_ (a' := ?_) ?_ ?_
       rotate_left
       ·show Act.put _ (some 41) _ = _
        simp only [Act.put, s1_, s2_, s3_, i6_, i3_]
        rfl
       refine one_ (i := 4) (N := some 42) (tf_ 5 3) rfl rfl (one_of HT_.out kr_) (by decide) (fun K hK => ?_)
       refine value_ (w1 := ?_) (v := ?_) (by rfl) rfl ?_ ?_
       rotate_left 2
       ·go_simp
        constructor
        ·rfl
        ·rfl
       refine hK.out _ _ ⟨(kc_ (kA_ ca.out _) 0).trans rfl, (kc_ (kA_ ca.out _) 1).trans rfl, (kc_ (kA_ ca.out _) 2).trans rfl, (kc_ (kA_ ga.out _) 0).trans rfl, (kc_ (kA_ ga.out _) 1).trans rfl, (kc_ (kA_ ga.out _) 2).trans rfl, (kc_ (kA_ ga.out _) 3).trans rfl, (kc_ (kA_ ga.out _) 4).trans rfl, (kc_ (kA_ ga.out _) 5).trans rfl, (kc_ (kA_ ga.out _) 6).trans rfl⟩ (fun hHeld => ?_)
       clear hK K
       refine norm_ (a' := ?_) ?_ ?_
       rotate_left
       ·show Act.put _ (some 42) _ = _
        simp only [Act.put, s1_, s2_, s3_, i6_, i3_]
        rfl
       refine one_ (i := 5) (N := some 43) (tf_ 6 2) rfl rfl (one_of HT_.out kr_) (by decide) (fun K hK => ?_)
       refine Kd.R_append_step k32 (w0 := w) w.heap.size (by rfl) (.tmp 39) (.tmp 42) 24 32 (.agg #[(.bool false), (.string ⟨#[]⟩), (.string ⟨#[]⟩)]) 40 rfl Tryd.underlying24 info32 rfl (by decide) (by omega) u686000 ya (⟨Ra, Sa, Ta⟩ : S32) [.bool Ra, .string Sa, .string Ta] (fun k_ => some k_ ≠ (u686001 : Value).ownBlock) (fun _ => False) rfl rfl ?aP (fun _ hk => hk.elim) ?aF ?aO ?aB ?aS ?aL ?_
       (case aP => exact k32_mkM _ _ _ (⟨Ra, Sa, Ta⟩ : S32))
       (case aB => exact (xB3_ HB la oa za))
       (case aF => exact (fun k_ hk => Kd.fresh' (Kd.R_lt (xR_ ja.out)) k_ hk))
       (case aO => exact (xR_ ma.out))
       (case aS => exact (bZ_ (xB3_ HB la oa za)))
       (case aL => have := gc.out; omega)
       intro td w39 ho hb hg hat
       rw [← hc.out] at ho
       replace ja := mk_ (Kd.R_after (ok := (fun _ => True)) (by refine xr_ ?_; exact Kd.rM_ ja.out (fun _ hk => ⟨trivial, hk⟩)) hg hat)
       replace ia := mk_ (Kd.R_over' (xR_ ia.out) (Kd.R_typed (xR_ ma.out)) (by decide) hg)
       replace fa := mk_ (blk_grown (g := qa) (o := .cells #[.slice none 0 0, .slice none 0 0, .slice none 0 0] 56 (0, 0)) (xK_ fa.out) hg (Kd.R_ne ma.out fa.out (by decide)))
       replace ca := mk_ (blk_grown (g := na) (o := .cells #[u686000, u686001, u686002] 56 (0, 0)) (xK_ ca.out) hg (Kd.R_ne ma.out ca.out (by decide)))
       replace ga := mk_ (blk_grown (g := da) (o := .cells #[.bool ((r50_ l0 aa).f0.f0), .string ((r50_ l0 aa).f0.f1), .string ((r50_ l0 aa).f0.f2), .bool ((r50_ l0 aa).f1.f0), .string ((r50_ l0 aa).f1.f1), .string ((r50_ l0 aa).f1.f2), .slice va ((r50_ l0 aa).f2).length sa] 50 (0, 0)) (xK_ ga.out) hg (Kd.R_ne ma.out ga.out (by decide)))
       replace HB := mk_ (hb)
       have Rb := mk_ (ho)
       clear ma
       clear ho hb hg hat
       obtain ⟨Aa, Ba, Sb⟩ := Kd.rS_' Rb.out
       (first | subst Sb | (injection Sb with f1_ f2_ f3_; have f4_ := f1_.symm; have f5_ := f3_.symm; clear f1_ f2_ f3_; subst f4_; subst f5_))
       refine hK.out _ _ ⟨(kc_ ca.out 0).trans rfl, (kc_ ca.out 1).trans rfl, (kc_ ca.out 2).trans rfl, (kc_ ga.out 0).trans rfl, (kc_ ga.out 1).trans rfl, (kc_ ga.out 2).trans rfl, (kc_ ga.out 3).trans rfl, (kc_ ga.out 4).trans rfl, (kc_ ga.out 5).trans rfl, (kc_ ga.out 6).trans rfl⟩ (fun hHeld => ?_)
       clear hK K
       refine norm_ (a' := ?_) ?_ ?_
       rotate_left
       ·show Act.put _ (some 43) _ = _
        simp only [Act.put, s1_, s2_, s3_, i6_, i3_]
        rfl
       refine pu_ (i := 6) (N := some 44) (v := ?_) (a' := ?_) (tf_ 7 1) rfl rfl (an_ HT_.out kr_) (fun _ _ _ h => h) (Or.inl ⟨by rfl, ?_⟩) ?_ ?_
       rotate_left
       ·intro w'
        go_simp
        with_reducible rfl
       rotate_left
       ·simp only [Act.put, s1_, s2_, s3_, i6_, i3_]
        rfl
       refine last_ (i := 7) (N := none) (tf_ 8 0) rfl rfl (one_of HT_.out kr_) (by decide) (fun K hK => ?_)
       have ud : w39.cell? ⟨na, 0, none⟩ = some (u686000) := (kc_ ca.out 0).trans rfl
       have hfs41 := kF_ ca.out 0
       have hns41_0 := Ca.out
       have hns41_2 := zb.out
       have hms41_0 := Ya.out
       have hms41_2 := Ea.out
       refine skip_ (w1 := ?_) (by rfl) rfl ?_ ?_
       rotate_left
       ·go_simp
        rfl
       refine hK.out _ _ ?_
       clear hK K
       refine done_ (done_of HT_.out kr_) ?_
       obtain ⟨vd, wd, xd, yd, zd, Ad, Bd, Cd, Dd, Ed, Fd, Gd, Hd, Jd⟩ := kG7_ ga.out
       try go_wp2
       go_loopg [48] k2 (fun kq v48 w' => ∃ (ba : Int) (ta : List Int) (u686002 : Value), v48 = .int .i64 ba ∧ A0_ (marshal_build.l2 kq aa l0 (l0.length : Int) aa ((r50_ l0 aa).f2) (((r50_ l0 aa).f2).length : Int) ba ua ra ta = some (r1, r2, r3)) ∧ A0_ (kq ≤ k2) ∧ A0_ (Kd.R k32 32 w' w.heap.size (fun k_ => some k_ ≠ (u686001 : Value).ownBlock) (.slice Aa ua.length Ba) ua) ∧ A0_ (Kd.R k32 32 w' w.heap.size (fun k_ => some k_ ≠ ((.slice Aa ua.length Ba) : Value).ownBlock) u686001 ra) ∧ A0_ (Kd.R (Kd.int .u64) 59 w' w.heap.size (fun _ => True) u686002 ta) ∧ A0_ (w'.heap[qa]? = some (.cells #[(.slice none 0 0), (.slice none 0 0), (.slice none 0 0)] 56 (0, 0))) ∧ A0_ (w'.heap[na]? = some (.cells #[(.slice Aa ua.length Ba), u686001, u686002] 56 (0, 0))) ∧ A0_ (w'.heap[da]? = some (.cells #[.bool ((r50_ l0 aa).f0.f0), .string ((r50_ l0 aa).f0.f1), .string ((r50_ l0 aa).f0.f2), .bool ((r50_ l0 aa).f1.f0), .string ((r50_ l0 aa).f1.f1), .string ((r50_ l0 aa).f1.f2), (.slice va ((r50_ l0 aa).f2).length sa)] 50 (0, 0))) ∧ A0_ (Below w.heap.size w w'))
       case atStart => exact ⟨(0), (Da), (u686002), (rS_), H', ⟨Nat.le_refl _⟩, ⟨by refine xr_ ?_; exact Kd.rM_ (Kd.rF_ (p := ⟨na, 0, none⟩) (Kd.R_types Rb.out ca.out (by decide)) (fun _ hk => hk.2) (.slice Aa ua.length Ba)) (fun _ hk => hk.1)⟩, ⟨by refine xr_ ?_; exact Kd.rM_ (Kd.rF_ (p := ⟨na, 0, none⟩) (Kd.R_types ja.out ca.out (by decide)) (fun _ hk => hk.2) (.slice Aa ua.length Ba)) (fun _ hk => hk.1.2)⟩, ⟨by refine xr_ ?_; exact Kd.rM_ (Kd.rF_ (p := ⟨na, 0, none⟩) (Kd.R_types ia.out ca.out (by decide)) (fun _ hk => hk.2) (.slice Aa ua.length Ba)) (fun _ hk => trivial)⟩, ⟨by refine xk_ ?_; refine bf_ ?_ Ca.out _; refine xk_ ?_; exact fa.out⟩, ⟨by refine xk_ ?_; refine kQ_ (cs := #[u686000, u686001, u686002]) ?_ 0 _ rfl; exact ca.out⟩, ⟨by refine xk_ ?_; refine bf_ ?_ zb.out _; refine xk_ ?_; exact ga.out⟩, ⟨xB3_ HB la oa za⟩⟩
       case round =>
        clear H'
        obtain ⟨ba, ta, u686002, rfl, HA, HK3, ma, ja, ia, fa, ca, ga, HB⟩ := hrel
        cases gk with
        | zero => exact absurd HA.out (by simp [marshal_build.l2])
        | succ k3 =>
         have H := HA.out
         clear HA
         simp only [marshal_build.l2] at H
         replace H := iS_ H
         rcases H with ⟨c43, H⟩ | ⟨c43, H⟩
         ·have kc := decide_eq_true c43
          clear c43
          obtain ⟨Ld, H⟩ := iD_ H
          obtain ⟨Md, H⟩ := iD_ H
          obtain ⟨Nd, H⟩ := iD_ H
          obtain ⟨Od, H⟩ := iD_ H
          obtain ⟨Pd, Qd, H⟩ := iE_ H
          obtain ⟨Fa, bb⟩ : ∃ j_ : Int, (shl .u64 1 aa) = j_ := ⟨_, rfl⟩
          replace H : (marshal_build.l2 k3 aa l0 (l0.length : Int) aa ((r50_ l0 aa).f2) (((r50_ l0 aa).f2).length : Int) (wrap64 (ba + 1)) ua ra (ta.set (((r52_ ((r50_ l0 aa).f2) ba).f0) : Int).toNat (Go.bits .or .u64 (rd ta ((r52_ ((r50_ l0 aa).f2) ba).f0)) (Fa)))) = some (r1, r2, r3) := by first | (rw [bb] at H; exact H) | (simp only [bb] at H ⊢; exact H)
          have lc : (IntKind.u64.wrap (1 * 2 ^ min aa.toNat 64)) = Fa := bb
          have hji49z : aa ≤ 64 → (IntKind.u64.wrap (1 * 2 ^ aa.toNat)) = Fa := shl_small bb
          have hji49u : (IntKind.u64.wrap (2 ^ min aa.toNat 64)) = Fa := by have h_ := lc; rw [Int.one_mul] at h_; exact h_
          have Rd : aa ≤ 64 → (IntKind.u64.wrap (2 ^ aa.toNat)) = Fa := fun hle_ => by have h_ := hji49z hle_; rw [Int.one_mul] at h_; exact h_
          obtain ⟨mc, Ab⟩ : ∃ y_ : List Int, y_ = (ta.set (((r52_ ((r50_ l0 aa).f2) ba).f0) : Int).toNat (Go.bits .or .u64 (rd ta ((r52_ ((r50_ l0 aa).f2) ba).f0)) (Fa))) := ⟨_, rfl⟩
          (first | rw [← Ab] at H | skip); (try with_reducible replace H := (Option.bind_some _ _).symm.trans H); (try dsimp only at H)
          have nc := mk_ Ab
          clear Ab
          have H' := mk_ H
          clear H
          have Bb : 0 ≤ (ba : Int) := oD_
          have Cb : ba < (((r50_ l0 aa).f2).length : Int) := oD_
          obtain ⟨oc, pc, Db, Eb, Fb, Gb, Hb, Ib⟩ := at_T52 HR694_6.out ba Bb Cb
          cases pc
          (try replace Db := cT_ HB Db)
          (try replace Eb := cT_ HB Eb)
          (try replace Fb := cT_ HB Fb)
          (try replace Gb := cT_ HB Gb)
          (try replace Hb := cT_ HB Hb)
          (try replace Ib := cT_ HB Ib)
          replace Bb := eq_true Bb
          replace Cb := eq_true Cb
          try go_wp2_with (first | ((with_reducible refine gD_ (N := 11) rfl ?_); refine bX_ (N := 11) (cs := #[.int .i64 0, .int .i64 0, .bool false, .bool false, .string (⟨#[]⟩ : ByteArray), .string (⟨#[]⟩ : ByteArray)]) (t := 52) ?_; intro ea hg w51 hbox hb; replace ma := mk_ (Kd.rB_ (xR_ ma.out) hb); replace ja := mk_ (Kd.rB_ (xR_ ja.out) hb); replace ia := mk_ (Kd.rB_ (xR_ ia.out) hb); have wa := mk_ (hbox); have Sd := mk_ (gZ_ hg (bZ_ (xB3_ HB la oa za))); have Tb := mk_ (gZ_ hg (bZ_ (xB3_ HB la oa za))); replace HB := mk_ (bT_ (xB3_ HB la oa za) hb); have Ha := mk_ (gN_ hg (xK_ fa.out)); have qc := mk_ (gM_ hg (xK_ fa.out)); replace fa := mk_ (kB_ (xK_ fa.out) hb); have Ia := mk_ (gN_ hg (xK_ ca.out)); have rc := mk_ (gM_ hg (xK_ ca.out)); replace ca := mk_ (kB_ (xK_ ca.out) hb); have Ja := mk_ (gN_ hg (xK_ ga.out)); have sc := mk_ (gM_ hg (xK_ ga.out)); replace ga := mk_ (kB_ (xK_ ga.out) hb); clear hb hbox hg; have hnb52 := qc.out; have hnc52 := Ha.out; have hnb53 := rc.out; have hnc53 := Ia.out; have hnb54 := sc.out; have hnc54 := Ja.out; obtain ⟨Td, Ud, Vd, Wd, Xd, Yd, Zd, ae, be, ce, de, ee⟩ := kG6_ wa.out))
          have n0_ : A0_ (Kd.R k32 32 ((((((w51.setCell ⟨ea, 0, none⟩ (.int .i64 ((r52_ ((r50_ l0 aa).f2) ba).f0))).setCell ⟨ea, 1, none⟩ (.int .i64 ((r52_ ((r50_ l0 aa).f2) ba).f1))).setCell ⟨ea, 2, none⟩ (.bool ((r52_ ((r50_ l0 aa).f2) ba).f2))).setCell ⟨ea, 3, none⟩ (.bool ((r52_ ((r50_ l0 aa).f2) ba).f3.f0))).setCell ⟨ea, 4, none⟩ (.string ((r52_ ((r50_ l0 aa).f2) ba).f3.f1))).setCell ⟨ea, 5, none⟩ (.string ((r52_ ((r50_ l0 aa).f2) ba).f3.f2))) w.heap.size (fun k_ => some k_ ≠ (u686001 : Value).ownBlock) (.slice Aa ua.length Ba) ua) := ⟨by refine xr_ ?_; exact Kd.rM_ (Kd.rF_ (p := ⟨ea, 5, none⟩) (Kd.rF_ (p := ⟨ea, 4, none⟩) (Kd.rF_ (p := ⟨ea, 3, none⟩) (Kd.rF_ (p := ⟨ea, 2, none⟩) (Kd.rF_ (p := ⟨ea, 1, none⟩) (Kd.rF_ (p := ⟨ea, 0, none⟩) (Kd.R_types ma.out wa.out (by decide)) (fun _ hk => hk.2) (.int .i64 ((r52_ ((r50_ l0 aa).f2) ba).f0))) (fun _ hk => hk.2) (.int .i64 ((r52_ ((r50_ l0 aa).f2) ba).f1))) (fun _ hk => hk.2) (.bool ((r52_ ((r50_ l0 aa).f2) ba).f2))) (fun _ hk => hk.2) (.bool ((r52_ ((r50_ l0 aa).f2) ba).f3.f0))) (fun _ hk => hk.2) (.string ((r52_ ((r50_ l0 aa).f2) ba).f3.f1))) (fun _ hk => hk.2) (.string ((r52_ ((r50_ l0 aa).f2) ba).f3.f2))) (fun _ hk => hk.1)⟩
          have n1_ : A0_ (Kd.R k32 32 ((((((w51.setCell ⟨ea, 0, none⟩ (.int .i64 ((r52_ ((r50_ l0 aa).f2) ba).f0))).setCell ⟨ea, 1, none⟩ (.int .i64 ((r52_ ((r50_ l0 aa).f2) ba).f1))).setCell ⟨ea, 2, none⟩ (.bool ((r52_ ((r50_ l0 aa).f2) ba).f2))).setCell ⟨ea, 3, none⟩ (.bool ((r52_ ((r50_ l0 aa).f2) ba).f3.f0))).setCell ⟨ea, 4, none⟩ (.string ((r52_ ((r50_ l0 aa).f2) ba).f3.f1))).setCell ⟨ea, 5, none⟩ (.string ((r52_ ((r50_ l0 aa).f2) ba).f3.f2))) w.heap.size (fun k_ => some k_ ≠ (.slice Aa ua.length Ba : Value).ownBlock) u686001 ra) := ⟨by refine xr_ ?_; exact Kd.rM_ (Kd.rF_ (p := ⟨ea, 5, none⟩) (Kd.rF_ (p := ⟨ea, 4, none⟩) (Kd.rF_ (p := ⟨ea, 3, none⟩) (Kd.rF_ (p := ⟨ea, 2, none⟩) (Kd.rF_ (p := ⟨ea, 1, none⟩) (Kd.rF_ (p := ⟨ea, 0, none⟩) (Kd.R_types ja.out wa.out (by decide)) (fun _ hk => hk.2) (.int .i64 ((r52_ ((r50_ l0 aa).f2) ba).f0))) (fun _ hk => hk.2) (.int .i64 ((r52_ ((r50_ l0 aa).f2) ba).f1))) (fun _ hk => hk.2) (.bool ((r52_ ((r50_ l0 aa).f2) ba).f2))) (fun _ hk => hk.2) (.bool ((r52_ ((r50_ l0 aa).f2) ba).f3.f0))) (fun _ hk => hk.2) (.string ((r52_ ((r50_ l0 aa).f2) ba).f3.f1))) (fun _ hk => hk.2) (.string ((r52_ ((r50_ l0 aa).f2) ba).f3.f2))) (fun _ hk => hk.1)⟩
          have n2_ : A0_ (Kd.R (Kd.int .u64) 59 ((((((w51.setCell ⟨ea, 0, none⟩ (.int .i64 ((r52_ ((r50_ l0 aa).f2) ba).f0))).setCell ⟨ea, 1, none⟩ (.int .i64 ((r52_ ((r50_ l0 aa).f2) ba).f1))).setCell ⟨ea, 2, none⟩ (.bool ((r52_ ((r50_ l0 aa).f2) ba).f2))).setCell ⟨ea, 3, none⟩ (.bool ((r52_ ((r50_ l0 aa).f2) ba).f3.f0))).setCell ⟨ea, 4, none⟩ (.string ((r52_ ((r50_ l0 aa).f2) ba).f3.f1))).setCell ⟨ea, 5, none⟩ (.string ((r52_ ((r50_ l0 aa).f2) ba).f3.f2))) w.heap.size (fun _ => True) u686002 ta) := ⟨by refine xr_ ?_; exact Kd.rM_ (Kd.rF_ (p := ⟨ea, 5, none⟩) (Kd.rF_ (p := ⟨ea, 4, none⟩) (Kd.rF_ (p := ⟨ea, 3, none⟩) (Kd.rF_ (p := ⟨ea, 2, none⟩) (Kd.rF_ (p := ⟨ea, 1, none⟩) (Kd.rF_ (p := ⟨ea, 0, none⟩) (Kd.R_types ia.out wa.out (by decide)) (fun _ hk => hk.2) (.int .i64 ((r52_ ((r50_ l0 aa).f2) ba).f0))) (fun _ hk => hk.2) (.int .i64 ((r52_ ((r50_ l0 aa).f2) ba).f1))) (fun _ hk => hk.2) (.bool ((r52_ ((r50_ l0 aa).f2) ba).f2))) (fun _ hk => hk.2) (.bool ((r52_ ((r50_ l0 aa).f2) ba).f3.f0))) (fun _ hk => hk.2) (.string ((r52_ ((r50_ l0 aa).f2) ba).f3.f1))) (fun _ hk => hk.2) (.string ((r52_ ((r50_ l0 aa).f2) ba).f3.f2))) (fun _ hk => trivial)⟩
          have n3_ : A0_ (((((((w51.setCell ⟨ea, 0, none⟩ (.int .i64 ((r52_ ((r50_ l0 aa).f2) ba).f0))).setCell ⟨ea, 1, none⟩ (.int .i64 ((r52_ ((r50_ l0 aa).f2) ba).f1))).setCell ⟨ea, 2, none⟩ (.bool ((r52_ ((r50_ l0 aa).f2) ba).f2))).setCell ⟨ea, 3, none⟩ (.bool ((r52_ ((r50_ l0 aa).f2) ba).f3.f0))).setCell ⟨ea, 4, none⟩ (.string ((r52_ ((r50_ l0 aa).f2) ba).f3.f1))).setCell ⟨ea, 5, none⟩ (.string ((r52_ ((r50_ l0 aa).f2) ba).f3.f2))).heap[qa]? = some (.cells #[.slice none 0 0, .slice none 0 0, .slice none 0 0] 56 (0, 0))) := ⟨by refine xk_ ?_; refine bf_ ?_ Ha.out _; refine xk_ ?_; refine bf_ ?_ Ha.out _; refine xk_ ?_; refine bf_ ?_ Ha.out _; refine xk_ ?_; refine bf_ ?_ Ha.out _; refine xk_ ?_; refine bf_ ?_ Ha.out _; refine xk_ ?_; refine bf_ ?_ Ha.out _; refine xk_ ?_; exact fa.out⟩
          have n4_ : A0_ (((((((w51.setCell ⟨ea, 0, none⟩ (.int .i64 ((r52_ ((r50_ l0 aa).f2) ba).f0))).setCell ⟨ea, 1, none⟩ (.int .i64 ((r52_ ((r50_ l0 aa).f2) ba).f1))).setCell ⟨ea, 2, none⟩ (.bool ((r52_ ((r50_ l0 aa).f2) ba).f2))).setCell ⟨ea, 3, none⟩ (.bool ((r52_ ((r50_ l0 aa).f2) ba).f3.f0))).setCell ⟨ea, 4, none⟩ (.string ((r52_ ((r50_ l0 aa).f2) ba).f3.f1))).setCell ⟨ea, 5, none⟩ (.string ((r52_ ((r50_ l0 aa).f2) ba).f3.f2))).heap[na]? = some (.cells #[.slice Aa ua.length Ba, u686001, u686002] 56 (0, 0))) := ⟨by refine xk_ ?_; refine bf_ ?_ Ia.out _; refine xk_ ?_; refine bf_ ?_ Ia.out _; refine xk_ ?_; refine bf_ ?_ Ia.out _; refine xk_ ?_; refine bf_ ?_ Ia.out _; refine xk_ ?_; refine bf_ ?_ Ia.out _; refine xk_ ?_; refine bf_ ?_ Ia.out _; refine xk_ ?_; exact ca.out⟩
          have n5_ : A0_ (((((((w51.setCell ⟨ea, 0, none⟩ (.int .i64 ((r52_ ((r50_ l0 aa).f2) ba).f0))).setCell ⟨ea, 1, none⟩ (.int .i64 ((r52_ ((r50_ l0 aa).f2) ba).f1))).setCell ⟨ea, 2, none⟩ (.bool ((r52_ ((r50_ l0 aa).f2) ba).f2))).setCell ⟨ea, 3, none⟩ (.bool ((r52_ ((r50_ l0 aa).f2) ba).f3.f0))).setCell ⟨ea, 4, none⟩ (.string ((r52_ ((r50_ l0 aa).f2) ba).f3.f1))).setCell ⟨ea, 5, none⟩ (.string ((r52_ ((r50_ l0 aa).f2) ba).f3.f2))).heap[da]? = some (.cells #[.bool ((r50_ l0 aa).f0.f0), .string ((r50_ l0 aa).f0.f1), .string ((r50_ l0 aa).f0.f2), .bool ((r50_ l0 aa).f1.f0), .string ((r50_ l0 aa).f1.f1), .string ((r50_ l0 aa).f1.f2), .slice (some oc) ((r50_ l0 aa).f2).length sa] 50 (0, 0))) := ⟨by refine xk_ ?_; refine bf_ ?_ Ja.out _; refine xk_ ?_; refine bf_ ?_ Ja.out _; refine xk_ ?_; refine bf_ ?_ Ja.out _; refine xk_ ?_; refine bf_ ?_ Ja.out _; refine xk_ ?_; refine bf_ ?_ Ja.out _; refine xk_ ?_; refine bf_ ?_ Ja.out _; refine xk_ ?_; exact ga.out⟩
          have n6_ : A0_ (((((((w51.setCell ⟨ea, 0, none⟩ (.int .i64 ((r52_ ((r50_ l0 aa).f2) ba).f0))).setCell ⟨ea, 1, none⟩ (.int .i64 ((r52_ ((r50_ l0 aa).f2) ba).f1))).setCell ⟨ea, 2, none⟩ (.bool ((r52_ ((r50_ l0 aa).f2) ba).f2))).setCell ⟨ea, 3, none⟩ (.bool ((r52_ ((r50_ l0 aa).f2) ba).f3.f0))).setCell ⟨ea, 4, none⟩ (.string ((r52_ ((r50_ l0 aa).f2) ba).f3.f1))).setCell ⟨ea, 5, none⟩ (.string ((r52_ ((r50_ l0 aa).f2) ba).f3.f2))).heap[ea]? = some (.cells #[.int .i64 ((r52_ ((r50_ l0 aa).f2) ba).f0), .int .i64 ((r52_ ((r50_ l0 aa).f2) ba).f1), .bool ((r52_ ((r50_ l0 aa).f2) ba).f2), .bool ((r52_ ((r50_ l0 aa).f2) ba).f3.f0), .string ((r52_ ((r50_ l0 aa).f2) ba).f3.f1), .string ((r52_ ((r50_ l0 aa).f2) ba).f3.f2)] 52 (0, 0))) := ⟨by refine xk_ ?_; refine kP_ (cs := #[.int .i64 ((r52_ ((r50_ l0 aa).f2) ba).f0), .int .i64 ((r52_ ((r50_ l0 aa).f2) ba).f1), .bool ((r52_ ((r50_ l0 aa).f2) ba).f2), .bool ((r52_ ((r50_ l0 aa).f2) ba).f3.f0), .string ((r52_ ((r50_ l0 aa).f2) ba).f3.f1), .string (⟨#[]⟩ : ByteArray)]) ?_ 5 _ rfl; refine xk_ ?_; refine kP_ (cs := #[.int .i64 ((r52_ ((r50_ l0 aa).f2) ba).f0), .int .i64 ((r52_ ((r50_ l0 aa).f2) ba).f1), .bool ((r52_ ((r50_ l0 aa).f2) ba).f2), .bool ((r52_ ((r50_ l0 aa).f2) ba).f3.f0), .string (⟨#[]⟩ : ByteArray), .string (⟨#[]⟩ : ByteArray)]) ?_ 4 _ rfl; refine xk_ ?_; refine kP_ (cs := #[.int .i64 ((r52_ ((r50_ l0 aa).f2) ba).f0), .int .i64 ((r52_ ((r50_ l0 aa).f2) ba).f1), .bool ((r52_ ((r50_ l0 aa).f2) ba).f2), .bool false, .string (⟨#[]⟩ : ByteArray), .string (⟨#[]⟩ : ByteArray)]) ?_ 3 _ rfl; refine xk_ ?_; refine kP_ (cs := #[.int .i64 ((r52_ ((r50_ l0 aa).f2) ba).f0), .int .i64 ((r52_ ((r50_ l0 aa).f2) ba).f1), .bool false, .bool false, .string (⟨#[]⟩ : ByteArray), .string (⟨#[]⟩ : ByteArray)]) ?_ 2 _ rfl; refine xk_ ?_; refine kP_ (cs := #[.int .i64 ((r52_ ((r50_ l0 aa).f2) ba).f0), .int .i64 0, .bool false, .bool false, .string (⟨#[]⟩ : ByteArray), .string (⟨#[]⟩ : ByteArray)]) ?_ 1 _ rfl; refine xk_ ?_; refine kQ_ (cs := #[.int .i64 0, .int .i64 0, .bool false, .bool false, .string (⟨#[]⟩ : ByteArray), .string (⟨#[]⟩ : ByteArray)]) ?_ 0 _ rfl; exact wa.out⟩
          have n7_ : A0_ (Below w.heap.size w ((((((w51.setCell ⟨ea, 0, none⟩ (.int .i64 ((r52_ ((r50_ l0 aa).f2) ba).f0))).setCell ⟨ea, 1, none⟩ (.int .i64 ((r52_ ((r50_ l0 aa).f2) ba).f1))).setCell ⟨ea, 2, none⟩ (.bool ((r52_ ((r50_ l0 aa).f2) ba).f2))).setCell ⟨ea, 3, none⟩ (.bool ((r52_ ((r50_ l0 aa).f2) ba).f3.f0))).setCell ⟨ea, 4, none⟩ (.string ((r52_ ((r50_ l0 aa).f2) ba).f3.f1))).setCell ⟨ea, 5, none⟩ (.string ((r52_ ((r50_ l0 aa).f2) ba).f3.f2)))) := ⟨xB4_ HB la oa za Tb⟩
          (try clear ma)
          (try clear ja)
          (try clear ia)
          (try clear fa)
          (try clear ca)
          (try clear ga)
          (try clear wa)
          (try clear HB)
          generalize ((((((w51.setCell ⟨ea, 0, none⟩ (.int .i64 ((r52_ ((r50_ l0 aa).f2) ba).f0))).setCell ⟨ea, 1, none⟩ (.int .i64 ((r52_ ((r50_ l0 aa).f2) ba).f1))).setCell ⟨ea, 2, none⟩ (.bool ((r52_ ((r50_ l0 aa).f2) ba).f2))).setCell ⟨ea, 3, none⟩ (.bool ((r52_ ((r50_ l0 aa).f2) ba).f3.f0))).setCell ⟨ea, 4, none⟩ (.string ((r52_ ((r50_ l0 aa).f2) ba).f3.f1))).setCell ⟨ea, 5, none⟩ (.string ((r52_ ((r50_ l0 aa).f2) ba).f3.f2))) = w56 at n0_ n1_ n2_ n3_ n4_ n5_ n6_ n7_ ⊢
          have ma := n0_
          have ja := n1_
          have ia := n2_
          have fa := n3_
          have ca := n4_
          have ga := n5_
          have wa := n6_
          have HB := n7_
          clear n0_ n1_ n2_ n3_ n4_ n5_ n6_ n7_
          replace ma := mk_ (Kd.rD_ ma.out)
          replace ja := mk_ (Kd.rD_ ja.out)
          replace ia := mk_ (Kd.rD_ ia.out)
          replace fa := mk_ (kD_ fa.out)
          replace ca := mk_ (kD_ ca.out)
          replace ga := mk_ (kD_ ga.out)
          replace wa := mk_ (kD_ wa.out)
          replace HB := mk_ (b1_ HB.out)
          obtain ⟨fe, Ub, Vb⟩ := Kd.rS_' ia.out
          (first | subst Vb | (injection Vb with f1_ f2_ f3_; have f4_ := f1_.symm; have f5_ := f3_.symm; clear f1_ f2_ f3_; subst f4_; subst f5_))
          have Jb : 0 ≤ (((r52_ ((r50_ l0 aa).f2) ba).f0) : Int) := oD_
          have Kb : ((r52_ ((r50_ l0 aa).f2) ba).f0) < (ta.length : Int) := oD_
          obtain ⟨ge, tc, Lb⟩ := Kd.at_int (Kd.rr_' ia.out).2.2 ((r52_ ((r50_ l0 aa).f2) ba).f0) Jb Kb
          cases tc
          replace Jb := eq_true Jb
          replace Kb := eq_true Kb
          have p50 : 0 ≤ (((r52_ ((r50_ l0 aa).f2) ba).f0) : Int) := oD_
          have q50 : (((r52_ ((r50_ l0 aa).f2) ba).f0) : Int) < ((ta.length : Int) : Int) := oD_
          obtain ⟨Ua, he, Wb, Xb, gl50, cl50, Yb⟩ := Kd.R_form ia.out (by omega)
          (first | cases Wb | (injection Wb with ea_ en_ ec_; (first | subst ea_ | (injection ea_ with ea_; subst ea_)); subst ec_; clear en_))
          have GB50 := mk_ Xb
          have GG50 := mk_ Yb
          clear Xb gl50 Yb
          (first | simp only [ap_] at Lb | skip)
          obtain ⟨uc, vc⟩ := Kd.R_celln 0 ia.out (((r52_ ((r50_ l0 aa).f2) ba).f0) : Int) p50 q50
          replace p50 := eq_true p50
          replace q50 := eq_true q50
          have HP59 := Kd.R_putn ia.out (((r52_ ((r50_ l0 aa).f2) ba).f0) : Int) (Go.bits .or .u64 (rd ta ((r52_ ((r50_ l0 aa).f2) ba).f0)) (Fa))
          rw [← nc.out] at HP59
          have Zb := mk_ HP59
          clear HP59
          refine start_ (n := 11) (S := fun w' => w'.cell? ⟨na, 0, none⟩ = some (.slice Aa ua.length Ba) ∧ w'.cell? ⟨na, 1, none⟩ = some (u686001) ∧ w'.cell? ⟨na, 2, none⟩ = some (.slice (some ⟨Ua, 0, none⟩) ta.length Ub) ∧ w'.cell? ⟨ea, 0, none⟩ = some (.int .i64 ((r52_ ((r50_ l0 aa).f2) ba).f0)) ∧ w'.cell? ⟨ea, 1, none⟩ = some (.int .i64 ((r52_ ((r50_ l0 aa).f2) ba).f1)) ∧ w'.cell? ⟨ea, 2, none⟩ = some (.bool ((r52_ ((r50_ l0 aa).f2) ba).f2)) ∧ w'.cell? ⟨ea, 3, none⟩ = some (.bool ((r52_ ((r50_ l0 aa).f2) ba).f3.f0)) ∧ w'.cell? ⟨ea, 4, none⟩ = some (.string ((r52_ ((r50_ l0 aa).f2) ba).f3.f1)) ∧ w'.cell? ⟨ea, 5, none⟩ = some (.string ((r52_ ((r50_ l0 aa).f2) ba).f3.f2)) ∧ w'.cell? ((⟨Ua, (((r52_ ((r50_ l0 aa).f2) ba).f0)).toNat, none⟩ : Addr)) = some (.int .u64 (rd ta ((r52_ ((r50_ l0 aa).f2) ba).f0)))) (ds := [10]) (tf_ 0 11) kr_ rfl rfl ⟨(kc_ ca.out 0).trans rfl, (kc_ ca.out 1).trans rfl, (kc_ ca.out 2).trans rfl, (kc_ wa.out 0).trans rfl, (kc_ wa.out 1).trans rfl, (kc_ wa.out 2).trans rfl, (kc_ wa.out 3).trans rfl, (kc_ wa.out 4).trans rfl, (kc_ wa.out 5).trans rfl, Lb⟩ (fun hHeld => ?_); refine with_tabW marshal_build.tab14 marshal_build.bits14 (fun HT_ HW_ => ?_)
          generalize w56.drew = w57 at ma ja ia fa ca ga wa HB GG50 Zb vc uc Lb hHeld ⊢
          refine pu_ (i := 0) (N := some 52) (v := ?_) (a' := ?_) (tf_ 1 10) rfl rfl (an_ HT_.out kr_) (fun _ _ _ h => h) (Or.inl ⟨by rfl, ?_⟩) ?_ ?_
          rotate_left
          ·intro w'
           go_simp
           with_reducible rfl
          rotate_left
          ·simp only [Act.put, s1_, s2_, s3_, i6_, i3_]
           rfl
          refine pu_ (i := 2) (N := some 54) (v := ?_) (a' := ?_) #[true, false, true, false, false, false, false, false, false, false, false] rfl rfl (an_ HT_.out kr_) (fun _ _ _ h => h) (Or.inl ⟨by rfl, ?_⟩) ?_ ?_
          rotate_left
          ·intro w'
           go_simp
           with_reducible rfl
          rotate_left
          ·simp only [Act.put, s1_, s2_, s3_, i6_, i3_]
           rfl
          refine pu_ (i := 6) (N := some 58) (v := ?_) (a' := ?_) #[true, false, true, false, false, false, true, false, false, false, false] rfl rfl (an_ HT_.out kr_) (fun _ _ _ h => h) (Or.inl ⟨by rfl, ?_⟩) ?_ ?_
          rotate_left
          ·intro w'
           go_simp
           with_reducible rfl
          rotate_left
          ·simp only [Act.put, s1_, s2_, s3_, i6_, i3_]
           rfl
          refine pu_ (i := 7) (N := some 59) (v := ?_) (a' := ?_) #[true, false, true, false, false, false, true, true, false, false, false] rfl rfl (an_ HT_.out kr_) (fun _ _ _ h => h) (Or.inl ⟨by rfl, ?_⟩) ?_ ?_
          rotate_left
          ·intro w'
           go_simp
           with_reducible rfl
          rotate_left
          ·simp only [Act.put, s1_, s2_, s3_, i6_, i3_]
           rfl
          refine take_ (i := 1) (N := some 53) (v := ?_) (a' := ?_) #[true, true, true, false, false, false, true, true, false, false, false] rfl rfl (tW_ HT_.out HW_.out kr_) (fun _ _ _ h => h) (Or.inl ⟨by rfl, ?_⟩) hHeld ?_ ?_
          rotate_left
          ·rintro w' ⟨s0, s1, s2, s3, s4, s5, s6, s7, s8, s9⟩
           go_simp
           with_reducible rfl
          rotate_left
          ·simp only [Act.put, s1_, s2_, s3_, i6_, i3_]
           rfl
          refine take_ (i := 3) (N := some 55) (v := ?_) (a' := ?_) #[true, true, true, true, false, false, true, true, false, false, false] rfl rfl (tW_ HT_.out HW_.out kr_) (fun _ _ _ h => h) (Or.inl ⟨by rfl, ?_⟩) hHeld ?_ ?_
          rotate_left
          ·rintro w' ⟨s0, s1, s2, s3, s4, s5, s6, s7, s8, s9⟩
           go_simp
           with_reducible rfl
          rotate_left
          ·simp only [Act.put, s1_, s2_, s3_, i6_, i3_]
           rfl
          refine pu_ (i := 4) (N := some 56) (v := ?_) (a' := ?_) #[true, true, true, true, true, false, true, true, false, false, false] rfl rfl (an_ HT_.out kr_) (fun _ _ _ h => h) (Or.inl ⟨by rfl, ?_⟩) ?_ ?_
          rotate_left
          ·intro w'
           go_simp
           with_reducible rfl
          rotate_left
          ·simp only [Act.put, s1_, s2_, s3_, i6_, i3_]
           rfl
          refine take_ (i := 5) (N := some 57) (v := ?_) (a' := ?_) (tf_ 8 3) rfl rfl (tW_ HT_.out HW_.out kr_) (fun _ _ _ h => h) (Or.inl ⟨by rfl, ?_⟩) hHeld ?_ ?_
          rotate_left
          ·rintro w' ⟨s0, s1, s2, s3, s4, s5, s6, s7, s8, s9⟩
           go_simp
           with_reducible rfl
          rotate_left
          ·simp only [Act.put, s1_, s2_, s3_, i6_, i3_]
           rfl
          refine pu_ (i := 8) (N := some 60) (v := ?_) (a' := ?_) (tf_ 9 2) rfl rfl (an_ HT_.out kr_) (fun _ _ _ h => h) (Or.inl ⟨by rfl, ?_⟩) ?_ ?_
          rotate_left
          ·intro w'
           go_simp
           with_reducible rfl
          rotate_left
          ·simp only [Act.put, s1_, s2_, s3_, i6_, i3_]
           rfl
          refine pu_ (i := 9) (N := some 61) (v := ?_) (a' := ?_) (tf_ 10 1) rfl rfl (an_ HT_.out kr_) (fun _ _ _ h => h) (Or.inl ⟨by rfl, ?_⟩) ?_ ?_
          rotate_left
          ·intro w'
           go_simp
           with_reducible rfl
          rotate_left
          ·simp only [Act.put, s1_, s2_, s3_, i6_, i3_]
           rfl
          refine last_ (i := 10) (N := none) (tf_ 11 0) rfl rfl (one_of HT_.out kr_) (by decide) (fun K hK => ?_)
          refine skip_ (w1 := ?_) (by rfl) rfl ?_ ?_
          rotate_left
          ·go_simp
           rfl
          refine hK.out _ _ ?_
          clear hK K
          refine done_ (done_of HT_.out kr_) ?_
          try go_wp2
          (try simp only [ap_])
          go_roundg k3
          case measure => have := HK1.out; have := HK2.out; have := HK3.out; omega
          case rel => exact ⟨(wrap64 (ba + 1)), (mc), (.slice (some ⟨Ua, 0, none⟩) ta.length Ub), (rS_), H', ⟨by have := HK1.out; have := HK2.out; have := HK3.out; omega⟩, ⟨by refine xr_ ?_; exact Kd.rM_ (Kd.rF_ (p := ⟨Ua, (((r52_ ((r50_ l0 aa).f2) ba).f0) : Int).toNat, none⟩) (Kd.R_types ma.out GG50.out (by decide)) (fun _ hk => hk.2) (.int .u64 (Go.bits .or .u64 (rd ta ((r52_ ((r50_ l0 aa).f2) ba).f0)) (Fa)))) (fun _ hk => hk.1)⟩, ⟨by refine xr_ ?_; exact Kd.rM_ (Kd.rF_ (p := ⟨Ua, (((r52_ ((r50_ l0 aa).f2) ba).f0) : Int).toNat, none⟩) (Kd.R_types ja.out GG50.out (by decide)) (fun _ hk => hk.2) (.int .u64 (Go.bits .or .u64 (rd ta ((r52_ ((r50_ l0 aa).f2) ba).f0)) (Fa)))) (fun _ hk => hk.1)⟩, ⟨by refine xr_ ?_; exact Zb.out⟩, ⟨by refine xk_ ?_; refine bf_ ?_ (by have h_ := Kd.R_ne ia.out fa.out (by decide); intro e_; exact h_ (by rw [e_]; rfl)) _; refine xk_ ?_; exact fa.out⟩, ⟨by refine xk_ ?_; refine bf_ ?_ (by have h_ := Kd.R_ne ia.out ca.out (by decide); intro e_; exact h_ (by rw [e_]; rfl)) _; refine xk_ ?_; exact ca.out⟩, ⟨by refine xk_ ?_; refine bf_ ?_ (by have h_ := Kd.R_ne ia.out ga.out (by decide); intro e_; exact h_ (by rw [e_]; rfl)) _; refine xk_ ?_; exact ga.out⟩, ⟨xB5_ HB GB50 la oa za Tb⟩⟩
         ·have kc := decide_eq_false c43
          clear c43
          have H' := mk_ H
          clear H
          go_wp2
          (try simp only [ap_])
          go_roundg k3
          case measure => have := HK1.out; have := HK2.out; have := HK3.out; omega
          case rel => exact ⟨(wrap64 (aa + 1)), (ua), (ta), (.slice Aa ua.length Ba), (u686002), (rS_), H', ⟨by have := HK1.out; have := HK2.out; have := HK3.out; omega⟩, ⟨by refine xr_ ?_; exact ma.out⟩, ⟨by refine xr_ ?_; exact ja.out⟩, ⟨by refine xr_ ?_; exact ia.out⟩, ⟨by refine xk_ ?_; exact fa.out⟩, ⟨by refine xk_ ?_; exact ca.out⟩, ⟨xB3_ HB la oa za⟩⟩
      ·have fc := decide_eq_false c27
       clear c27
       simp only [Option.some.injEq, Prod.mk.injEq] at H
       obtain ⟨rfl, rfl, rfl⟩ := H
       have hnb60 := Ya.out
       have hnc60 := Ca.out
       obtain ⟨ie, je, ke, le, me, ne⟩ := kG3_ ca.out
       obtain ⟨Ka, La, wc⟩ := Kd.rS_' ma.out
       subst wc
       obtain ⟨oe, pe, qe, re, se, te⟩ := kG3_ fa.out
       obtain ⟨Va, Wa, xc⟩ := Kd.rS_' ja.out
       subst xc
       obtain ⟨cb, db, yc⟩ := Kd.rS_' ia.out
       subst yc
       go_wp2
       refine bodyPost_ret (results_cell_row rfl _ _ qa 56 #[.slice Ka ya.length La, .slice Va ra.length Wa, .slice cb Da.length db] (0, 0) _ rfl (by refine xk_ ?_; refine kQ_ (cs := #[.slice Ka ya.length La, .slice Va ra.length Wa, .slice none 0 0]) ?_ 2 _ rfl; refine kQ_ (cs := #[.slice Ka ya.length La, .slice none 0 0, .slice none 0 0]) ?_ 1 _ rfl; refine kQ_ (cs := #[.slice none 0 0, .slice none 0 0, .slice none 0 0]) ?_ 0 _ rfl; exact fa.out) Tryd.underlying56 rfl kr_) rfl ?_
       exact ⟨_, _, _, rE_, by refine xr_ ?_; exact Kd.rM_ (Kd.rF_ (p := ⟨qa, 2, none⟩) (Kd.rF_ (p := ⟨qa, 1, none⟩) (Kd.rF_ (p := ⟨qa, 0, none⟩) (Kd.R_types ma.out fa.out (by decide)) (fun _ hk => hk.2) (.slice Ka ya.length La)) (fun _ hk => hk.2) (.slice Va ra.length Wa)) (fun _ hk => hk.2) (.slice cb Da.length db)) (fun _ hk => hk.1), by refine xr_ ?_; exact Kd.rM_ (Kd.rF_ (p := ⟨qa, 2, none⟩) (Kd.rF_ (p := ⟨qa, 1, none⟩) (Kd.rF_ (p := ⟨qa, 0, none⟩) (Kd.R_types ja.out fa.out (by decide)) (fun _ hk => hk.2) (.slice Ka ya.length La)) (fun _ hk => hk.2) (.slice Va ra.length Wa)) (fun _ hk => hk.2) (.slice cb Da.length db)) (fun _ hk => hk.1), by refine xr_ ?_; exact Kd.rM_ (Kd.rF_ (p := ⟨qa, 2, none⟩) (Kd.rF_ (p := ⟨qa, 1, none⟩) (Kd.rF_ (p := ⟨qa, 0, none⟩) (Kd.R_types ia.out fa.out (by decide)) (fun _ hk => hk.2) (.slice Ka ya.length La)) (fun _ hk => hk.2) (.slice Va ra.length Wa)) (fun _ hk => hk.2) (.slice cb Da.length db)) (fun _ hk => trivial), xB2_ HB la oa⟩
def q_Min.f (k : Nat) (a0_0 : Bool) (a0_1 : ByteArray) (a0_2 : ByteArray) (a1_0 : Bool) (a1_1 : ByteArray) (a1_2 : ByteArray) : Option (Bool × ByteArray × ByteArray) := (q_Compare.f k a0_0 a0_1 a0_2 a1_0 a1_1 a1_2).bind fun t728 => (if t728 ≤ 0 then ((q_clean.f k a0_0 a0_1 a0_2).bind fun bt729 => (some (bt729.1, bt729.2.1, bt729.2.2))) else ((q_clean.f k a1_0 a1_1 a1_2).bind fun bt732 => (some (bt732.1, bt732.2.1, bt732.2.2))))
theorem q_Min.mono : ∀ a0 a1 a2 a3 a4 a5 k, LeO (q_Min.f k a0 a1 a2 a3 a4 a5) (q_Min.f (k + 1) a0 a1 a2 a3 a4 a5) := by
 intro a0 a1 a2 a3 a4 a5 k
 unfold q_Min.f
 repeat' first
   | (with_reducible first | exact q_Compare.mono _ _ _ _ _ _ _ | exact q_clean.mono _ _ _ _ | exact LeO.refl _ | exact LeO.none _ | refine LeO.ite ?_ ?_ | refine LeO.bind ?_ (fun _ => ?_))
theorem q_Min.calls (k : Nat) (a0_0 : Bool) (a0_1 : ByteArray) (a0_2 : ByteArray) (a1_0 : Bool) (a1_1 : ByteArray) (a1_2 : ByteArray) (r1 : Bool) (r2 : ByteArray) (r3 : ByteArray) (w : World) (h : q_Min.f k a0_0 a0_1 a0_2 a1_0 a1_1 a1_2 = some (r1, r2, r3)) :
  Calls Tryd.prog 22 #[.agg #[.bool a0_0, .string a0_1, .string a0_2], .agg #[.bool a1_0, .string a1_1, .string a1_2]] w fun e w' => e = .returned (.agg #[.bool r1, .string r2, .string r3]) ∧ Below w.heap.size w w' := by
 have hu32 := Tryd.underlying32
 have HB := mk_ (Below.refl w.heap.size w)
 have H := h
 unfold q_Min.f at H
 clear h
 obtain ⟨ra, A3, H⟩ := oB_ H
 (try dsimp only at H)
 replace H := iS_ H
 rcases H with ⟨c4, H⟩ | ⟨c4, H⟩
 ·have ua := decide_eq_true c4
  clear c4
  obtain ⟨⟨ga, ia, sa⟩, A5, H⟩ := oB_ H
  (try dsimp only at H)
  simp only [Option.some.injEq, Prod.mk.injEq] at H
  obtain ⟨rfl, rfl, rfl⟩ := H
  go_enter Tryd.func22, Tryd.ntmps22
  go_wp2_with (first | ((with_reducible refine gD_ (N := 2) rfl ?_); refine bX_ (N := 2) (cs := #[.bool a0_0, .string a0_1, .string a0_2]) (t := 32) ?_; intro va hg w6 hbox hb; have aa := mk_ (hbox); have wa := mk_ (gZ_ hg (bZ_ (xB_ HB))); have ca := mk_ (gZ_ hg (bZ_ (xB_ HB))); replace HB := mk_ (bT_ (xB_ HB) hb); clear hb hbox hg) | ((with_reducible refine gD_ (N := 3) rfl ?_); refine bX_ (N := 3) (cs := #[.bool a1_0, .string a1_1, .string a1_2]) (t := 32) ?_; intro xa hg w7 hbox hb; have ba := mk_ (hbox); have ya := mk_ (gZ_ hg (bZ_ (xB1_ HB ca))); have da := mk_ (gZ_ hg (bZ_ (xB1_ HB ca))); replace HB := mk_ (bT_ (xB1_ HB ca) hb); have ja := mk_ (gN_ hg (xK_ aa.out)); have ka := mk_ (gM_ hg (xK_ aa.out)); replace aa := mk_ (kB_ (xK_ aa.out) hb); clear hb hbox hg) | ((with_reducible refine gD_ (N := 4) rfl ?_); refine bX_ (N := 4) (cs := zC_) (t := 32) ?_; intro la hg w8 hbox hb; have ea := mk_ (hbox); have za := mk_ (gZ_ hg (bZ_ (xB2_ HB ca da))); have fa := mk_ (gZ_ hg (bZ_ (xB2_ HB ca da))); replace HB := mk_ (bT_ (xB2_ HB ca da) hb); have ma := mk_ (gN_ hg (xK_ aa.out)); have na := mk_ (gM_ hg (xK_ aa.out)); replace aa := mk_ (kB_ (xK_ aa.out) hb); have oa := mk_ (gN_ hg (xK_ ba.out)); have pa := mk_ (gM_ hg (xK_ ba.out)); replace ba := mk_ (kB_ (xK_ ba.out) hb); clear hb hbox hg; have hnb9 := ja.out; have hnc9 := ka.out; have hnb10 := ma.out; have hnc10 := na.out; obtain ⟨Aa, Ba, Ca, Da, Ea, Fa⟩ := kG3_ aa.out; have hnb12 := oa.out; have hnc12 := pa.out; obtain ⟨Ga, Ha, Ia, Ja, Ka, La⟩ := kG3_ ba.out) | ((with_reducible refine gC_ (f := 11) rfl ?_); refine gL_ (some 7) rfl rfl Tryd.func11 kr_ rfl #[.agg #[.bool a0_0, .string a0_1, .string a0_2], .agg #[.bool a1_0, .string a1_1, .string a1_2]] rfl mp_ ?_; (with_reducible refine (q_Compare.calls k a0_0 a0_1 a0_2 a1_0 a1_1 a1_2 ra _ A3.out).mono ?_); rintro e w14 ⟨rfl, hb⟩; refine ⟨_, rfl, ?_⟩; replace aa := mk_ (kB_ (xK_ aa.out) hb); replace ba := mk_ (kB_ (xK_ ba.out) hb); replace ea := mk_ (kB_ (xK_ ea.out) hb); replace HB := mk_ (bT_ (xB3_ HB ca da fa) hb); obtain ⟨Ma, Na, Oa, Pa, Qa, Ra⟩ := kG3_ aa.out) | ((with_reducible refine gC_ (f := 24) rfl ?_); refine gL_ (some 10) rfl rfl Tryd.func24 kr_ rfl #[.agg #[.bool a0_0, .string a0_1, .string a0_2]] rfl mp_ ?_; (with_reducible refine (q_clean.calls k a0_0 a0_1 a0_2 ga ia sa _ A5.out).mono ?_); rintro e w16 ⟨rfl, hb⟩; refine ⟨_, rfl, ?_⟩; replace aa := mk_ (kB_ (xK_ aa.out) hb); replace ba := mk_ (kB_ (xK_ ba.out) hb); replace ea := mk_ (kB_ (xK_ ea.out) hb); replace HB := mk_ (bT_ (xB3_ HB ca da fa) hb); obtain ⟨Sa, Ta, Ua, Va, Wa, Xa⟩ := kG3_ ea.out))
  refine bodyPost_ret (results_cell_row rfl _ _ la 32 #[.bool ga, .string ia, .string sa] (0, 0) _ rfl (by refine xk_ ?_; refine kQ_ (cs := #[.bool ga, .string ia, .string (⟨#[]⟩ : ByteArray)]) ?_ 2 _ rfl; refine kQ_ (cs := #[.bool ga, .string (⟨#[]⟩ : ByteArray), .string (⟨#[]⟩ : ByteArray)]) ?_ 1 _ rfl; refine kQ_ (cs := zC_) ?_ 0 _ rfl; exact ea.out) Tryd.underlying32 rfl kr_) rfl ?_
  exact ⟨rE_, xB3_ HB ca da fa⟩
 ·have ua := decide_eq_false c4
  clear c4
  obtain ⟨⟨ha, qa, ta⟩, A18, H⟩ := oB_ H
  (try dsimp only at H)
  simp only [Option.some.injEq, Prod.mk.injEq] at H
  obtain ⟨rfl, rfl, rfl⟩ := H
  go_enter Tryd.func22, Tryd.ntmps22
  go_wp2_with (first | ((with_reducible refine gD_ (N := 2) rfl ?_); refine bX_ (N := 2) (cs := #[.bool a0_0, .string a0_1, .string a0_2]) (t := 32) ?_; intro va hg w19 hbox hb; have aa := mk_ (hbox); have wa := mk_ (gZ_ hg (bZ_ (xB_ HB))); have ca := mk_ (gZ_ hg (bZ_ (xB_ HB))); replace HB := mk_ (bT_ (xB_ HB) hb); clear hb hbox hg) | ((with_reducible refine gD_ (N := 3) rfl ?_); refine bX_ (N := 3) (cs := #[.bool a1_0, .string a1_1, .string a1_2]) (t := 32) ?_; intro xa hg w20 hbox hb; have ba := mk_ (hbox); have ya := mk_ (gZ_ hg (bZ_ (xB1_ HB ca))); have da := mk_ (gZ_ hg (bZ_ (xB1_ HB ca))); replace HB := mk_ (bT_ (xB1_ HB ca) hb); have ja := mk_ (gN_ hg (xK_ aa.out)); have ka := mk_ (gM_ hg (xK_ aa.out)); replace aa := mk_ (kB_ (xK_ aa.out) hb); clear hb hbox hg) | ((with_reducible refine gD_ (N := 4) rfl ?_); refine bX_ (N := 4) (cs := zC_) (t := 32) ?_; intro la hg w21 hbox hb; have ea := mk_ (hbox); have za := mk_ (gZ_ hg (bZ_ (xB2_ HB ca da))); have fa := mk_ (gZ_ hg (bZ_ (xB2_ HB ca da))); replace HB := mk_ (bT_ (xB2_ HB ca da) hb); have ma := mk_ (gN_ hg (xK_ aa.out)); have na := mk_ (gM_ hg (xK_ aa.out)); replace aa := mk_ (kB_ (xK_ aa.out) hb); have oa := mk_ (gN_ hg (xK_ ba.out)); have pa := mk_ (gM_ hg (xK_ ba.out)); replace ba := mk_ (kB_ (xK_ ba.out) hb); clear hb hbox hg; have hnb22 := ja.out; have hnc22 := ka.out; have hnb23 := ma.out; have hnc23 := na.out; obtain ⟨Ya, Za, ab, bb, cb, db⟩ := kG3_ aa.out; have hnb25 := oa.out; have hnc25 := pa.out; obtain ⟨eb, fb, gb, ib, jb, kb⟩ := kG3_ ba.out) | ((with_reducible refine gC_ (f := 11) rfl ?_); refine gL_ (some 7) rfl rfl Tryd.func11 kr_ rfl #[.agg #[.bool a0_0, .string a0_1, .string a0_2], .agg #[.bool a1_0, .string a1_1, .string a1_2]] rfl mp_ ?_; (with_reducible refine (q_Compare.calls k a0_0 a0_1 a0_2 a1_0 a1_1 a1_2 ra _ A3.out).mono ?_); rintro e w27 ⟨rfl, hb⟩; refine ⟨_, rfl, ?_⟩; replace aa := mk_ (kB_ (xK_ aa.out) hb); replace ba := mk_ (kB_ (xK_ ba.out) hb); replace ea := mk_ (kB_ (xK_ ea.out) hb); replace HB := mk_ (bT_ (xB3_ HB ca da fa) hb); obtain ⟨mb, nb, ob, pb, qb, rb⟩ := kG3_ ba.out) | ((with_reducible refine gC_ (f := 24) rfl ?_); refine gL_ (some 12) rfl rfl Tryd.func24 kr_ rfl #[.agg #[.bool a1_0, .string a1_1, .string a1_2]] rfl mp_ ?_; (with_reducible refine (q_clean.calls k a1_0 a1_1 a1_2 ha qa ta _ A18.out).mono ?_); rintro e w29 ⟨rfl, hb⟩; refine ⟨_, rfl, ?_⟩; replace aa := mk_ (kB_ (xK_ aa.out) hb); replace ba := mk_ (kB_ (xK_ ba.out) hb); replace ea := mk_ (kB_ (xK_ ea.out) hb); replace HB := mk_ (bT_ (xB3_ HB ca da fa) hb); obtain ⟨sb, tb, ub, vb, wb, xb⟩ := kG3_ ea.out))
  refine bodyPost_ret (results_cell_row rfl _ _ la 32 #[.bool ha, .string qa, .string ta] (0, 0) _ rfl (by refine xk_ ?_; refine kQ_ (cs := #[.bool ha, .string qa, .string (⟨#[]⟩ : ByteArray)]) ?_ 2 _ rfl; refine kQ_ (cs := #[.bool ha, .string (⟨#[]⟩ : ByteArray), .string (⟨#[]⟩ : ByteArray)]) ?_ 1 _ rfl; refine kQ_ (cs := zC_) ?_ 0 _ rfl; exact ea.out) Tryd.underlying32 rfl kr_) rfl ?_
  exact ⟨rE_, xB3_ HB ca da fa⟩
end Go.Proofs.YtppimdempdnhoaaDoor.C
end
