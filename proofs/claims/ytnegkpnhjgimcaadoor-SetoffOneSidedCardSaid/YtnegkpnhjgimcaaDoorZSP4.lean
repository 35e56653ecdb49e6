/- A part of the proof of setoffOneSided_card (see YtnegkpnhjgimcaaDoorZSP5): what the functions that it reaches compute, each by its contract. -/
import Derived.Test.YtnegkpnhjgimcaaDoorZSP3
section
namespace Go.Proofs.YtnegkpnhjgimcaaDoor
namespace C
set_option maxHeartbeats 8000000
set_option maxRecDepth 100000
open Go.RowKit Go.PrWords Go.PrLast Go.PrMore
attribute [local go_sem] max2_int min2_int max_two min_two max_three min_three max_four min_four
set_option linter.unusedVariables false
set_option linter.unusedSimpArgs false
attribute [local go_sem high] eqA26
mutual
def oS'.j0 : Nat → Int → Int → List (S28) → Int → Int → Option (Bool)
 | 0, _, _, _, _, _ => none
 | k + 1, x1, x2, x11, x12, x13 => (so_Apply.f k 4 x11 (wrap64 (x1)) (wrap64 (Int.tmod x2 40))).bind fun bt908 => ((so_Amount.f k 4 x11 (wrap64 (x1)) (wrap64 (Int.tmod x2 40)) x12 x13).bind fun bt912 => ((so_Amount.f k 4 x11 (wrap64 (x1)) (wrap64 (Int.tmod x2 40)) x13 x12).bind fun bt917 => (if bt908.2 = 0 then (if bt912.2.2.2 = 0 then (if bt917.2.2.2 = 0 then (if (!(bt912.1 == bt917.1) || (!(bt912.2.1.toList == bt917.2.1.toList) || (!(bt912.2.2.1.toList == bt917.2.2.1.toList)))) = true then (oS'.j1 k x11 x12 x13 (wrap64 (x1)) (wrap64 (Int.tmod x2 40)) bt908.1 true bt912.1 bt912.2.1 bt912.2.2.1) else (oS'.j1 k x11 x12 x13 (wrap64 (x1)) (wrap64 (Int.tmod x2 40)) bt908.1 ((bt908.1.length : Int) != (x11.length : Int)) bt912.1 bt912.2.1 bt912.2.2.1)) else (oS'.j1 k x11 x12 x13 (wrap64 (x1)) (wrap64 (Int.tmod x2 40)) bt908.1 true bt912.1 bt912.2.1 bt912.2.2.1)) else (oS'.j1 k x11 x12 x13 (wrap64 (x1)) (wrap64 (Int.tmod x2 40)) bt908.1 true bt912.1 bt912.2.1 bt912.2.2.1)) else (oS'.j1 k x11 x12 x13 (wrap64 (x1)) (wrap64 (Int.tmod x2 40)) bt908.1 true bt912.1 bt912.2.1 bt912.2.2.1))))
def oS'.j1 : Nat → List (S28) → Int → Int → Int → Int → List (S26) → Bool → Bool → ByteArray → ByteArray → Option (Bool)
 | 0, _, _, _, _, _, _, _, _, _, _ => none
 | k + 1, x11, x12, x13, x14, x15, x16, x91, x917000, x917001, x917002 => if x91 = true then (none) else (oS'.l0 k x12 x13 x14 x15 x16 x11 (x11.length : Int) 0 x917000 x917001 x917002 false (⟨#[]⟩ : ByteArray) (⟨#[]⟩ : ByteArray) false (⟨#[]⟩ : ByteArray) (⟨#[]⟩ : ByteArray) false (⟨#[]⟩ : ByteArray) (⟨#[]⟩ : ByteArray))
def oS'.l0 : Nat → Int → Int → Int → Int → List (S26) → List (S28) → Int → Int → Bool → ByteArray → ByteArray → Bool → ByteArray → ByteArray → Bool → ByteArray → ByteArray → Bool → ByteArray → ByteArray → Option (Bool)
 | 0, _, _, _, _, _, _, _, _, _, _, _, _, _, _, _, _, _, _, _, _ => none
 | k + 1, x12, x13, x14, x15, x16, x92, x93, x94, x917000, x917001, x917002, x923000, x923001, x923002, x924000, x924001, x924002, x925000, x925001, x925002 => if x94 < x93 then (if 0 ≤ x94 then (if x94 < (x92.length : Int) then ((so_Eligible.f ((r28_ x92 x94).f0) ((r28_ x92 x94).f1) ((r28_ x92 x94).f2.f0) ((r28_ x92 x94).f2.f1) ((r28_ x92 x94).f2.f2) ((r28_ x92 x94).f3) ((r28_ x92 x94).f4) ((r28_ x92 x94).f5) x14 x15).bind fun t927 => (if t927 = true then (if ((r28_ x92 x94).f0) = x12 then (oS'.j3 k x12 x13 x14 x15 x16 x94 x92 x93 x94 (((r28_ x92 x94).f1) == x13) x917000 x917001 x917002 x923000 x923001 x923002 x924000 x924001 x924002 x925000 x925001 x925002 ((r28_ x92 x94).f0) ((r28_ x92 x94).f1) ((r28_ x92 x94).f2.f0) ((r28_ x92 x94).f2.f1) ((r28_ x92 x94).f2.f2) ((r28_ x92 x94).f3) ((r28_ x92 x94).f4) ((r28_ x92 x94).f5)) else (oS'.j3 k x12 x13 x14 x15 x16 x94 x92 x93 x94 false x917000 x917001 x917002 x923000 x923001 x923002 x924000 x924001 x924002 x925000 x925001 x925002 ((r28_ x92 x94).f0) ((r28_ x92 x94).f1) ((r28_ x92 x94).f2.f0) ((r28_ x92 x94).f2.f1) ((r28_ x92 x94).f2.f2) ((r28_ x92 x94).f3) ((r28_ x92 x94).f4) ((r28_ x92 x94).f5))) else (oS'.l0 k x12 x13 x14 x15 x16 x92 x93 (wrap64 (x94 + 1)) x917000 x917001 x917002 x923000 x923001 x923002 x924000 x924001 x924002 x925000 x925001 x925002))) else (none)) else (none)) else ((l14_awake.f k).bind fun t943 => (if t943 = true then ((q_Sign.f k x923000 x923001 x923002).bind fun t944 => (if t944 = 0 then (some (x925000 == x917000 && (x925001.toList == x917001.toList && (x925002.toList == x917002.toList)))) else ((q_Sign.f k x924000 x924001 x924002).bind fun t945 => (if t945 = 0 then (some (x925000 == x917000 && (x925001.toList == x917001.toList && (x925002.toList == x917002.toList)))) else (none))))) else (none)))
def oS'.j3 : Nat → Int → Int → Int → Int → List (S26) → Int → List (S28) → Int → Int → Bool → Bool → ByteArray → ByteArray → Bool → ByteArray → ByteArray → Bool → ByteArray → ByteArray → Bool → ByteArray → ByteArray → Int → Int → Bool → ByteArray → ByteArray → Int → Int → Bool → Option (Bool)
 | 0, _, _, _, _, _, _, _, _, _, _, _, _, _, _, _, _, _, _, _, _, _, _, _, _, _, _, _, _, _, _ => none
 | k + 1, x12, x13, x14, x15, x16, x25, x92, x93, x94, x113, x917000, x917001, x917002, x923000, x923001, x923002, x924000, x924001, x924002, x925000, x925001, x925002, x927000, x927001, x927002, x927003, x927004, x927005, x927006, x927007 => if x113 = true then (if 0 ≤ x25 then (if x25 < (x16.length : Int) then ((q_Add.f k x923000 x923001 x923002 ((r26_ x16 x25).f0) ((r26_ x16 x25).f1) ((r26_ x16 x25).f2)).bind fun bt929 => ((q_Subtract.f k x927002 x927003 x927004 ((r26_ x16 x25).f0) ((r26_ x16 x25).f1) ((r26_ x16 x25).f2)).bind fun bt933 => ((q_Add.f k x925000 x925001 x925002 bt933.1 bt933.2.1 bt933.2.2).bind fun bt936 => (oS'.j4 k x12 x13 x14 x15 x16 x25 x92 x93 x94 x917000 x917001 x917002 bt929.1 bt929.2.1 bt929.2.2 x924000 x924001 x924002 bt936.1 bt936.2.1 bt936.2.2 x927000 x927001 x927002 x927003 x927004 x927005 x927006 x927007)))) else (none)) else (none)) else (oS'.j4 k x12 x13 x14 x15 x16 x25 x92 x93 x94 x917000 x917001 x917002 x923000 x923001 x923002 x924000 x924001 x924002 x925000 x925001 x925002 x927000 x927001 x927002 x927003 x927004 x927005 x927006 x927007)
def oS'.j4 : Nat → Int → Int → Int → Int → List (S26) → Int → List (S28) → Int → Int → Bool → ByteArray → ByteArray → Bool → ByteArray → ByteArray → Bool → ByteArray → ByteArray → Bool → ByteArray → ByteArray → Int → Int → Bool → ByteArray → ByteArray → Int → Int → Bool → Option (Bool)
 | 0, _, _, _, _, _, _, _, _, _, _, _, _, _, _, _, _, _, _, _, _, _, _, _, _, _, _, _, _, _ => none
 | k + 1, x12, x13, x14, x15, x16, x25, x92, x93, x94, x917000, x917001, x917002, x923000, x923001, x923002, x924000, x924001, x924002, x925000, x925001, x925002, x927000, x927001, x927002, x927003, x927004, x927005, x927006, x927007 => if x927000 = x13 then (if x927001 = x12 then (if 0 ≤ x25 then (if x25 < (x16.length : Int) then ((q_Add.f k x924000 x924001 x924002 ((r26_ x16 x25).f0) ((r26_ x16 x25).f1) ((r26_ x16 x25).f2)).bind fun bt940 => (oS'.l0 k x12 x13 x14 x15 x16 x92 x93 (wrap64 (x94 + 1)) x917000 x917001 x917002 x923000 x923001 x923002 bt940.1 bt940.2.1 bt940.2.2 x925000 x925001 x925002)) else (none)) else (none)) else (oS'.l0 k x12 x13 x14 x15 x16 x92 x93 (wrap64 (x94 + 1)) x917000 x917001 x917002 x923000 x923001 x923002 x924000 x924001 x924002 x925000 x925001 x925002)) else (oS'.l0 k x12 x13 x14 x15 x16 x92 x93 (wrap64 (x94 + 1)) x917000 x917001 x917002 x923000 x923001 x923002 x924000 x924001 x924002 x925000 x925001 x925002)
end
def oS'.f (k : Nat) (l0 : List (S46)) (a1 : Int) (a2 : Int) (a3 : Int) (a4 : Int) : Option (Bool) := (l0_Obligations.f k l0).bind fun t905 => (if (wrap64 (Int.tmod a4 3)) ≥ (wrap64 (Int.tmod a3 4)) then (oS'.j0 k a1 a2 t905 (wrap64 (Int.tmod a3 4)) (wrap64 ((wrap64 (Int.tmod a4 3)) + 1))) else (oS'.j0 k a1 a2 t905 (wrap64 (Int.tmod a3 4)) (wrap64 (Int.tmod a4 3))))
def oS'.T18 : Bool × List (List Nat × List Nat) := (true, [([], []), ([], []), ([1], [1]), ([], []), ([], []), ([3, 4], [3, 4]), ([5], [5]), ([2, 6], [2, 6]), ([0, 7, 7], [0, 7]), ([8, 8, 0, 1, 2, 3, 4, 5, 6, 7, 8], [8])])
def oS'.B18 : List Nat := [0, 0, 2, 0, 0, 24, 56, 126, 255, 511]
theorem oS'.tab18 : rtab .any (opsOf Tryd.f9 18) = oS'.T18 := by kernel_rfl
theorem oS'.bits18 : waitsOk oS'.T18.2 oS'.B18 = true := by kernel_rfl
theorem oS'.calls (k : Nat) (A0 : Option Addr) (c0 : Nat) (l0 : List (S46)) (a1 : Int) (a2 : Int) (a3 : Int) (a4 : Int) (r : Bool) (w : World) (hr0 : Kd.C k46 w A0 l0.length l0) (hc0 : l0.length ≤ c0) (h : oS'.f k l0 a1 a2 a3 a4 = some r) :
  Calls Tryd.prog 9 #[.slice A0 l0.length c0, .int .u8 a1, .int .u8 a2, .int .u8 a3, .int .u8 a4] w fun e w' => e = .returned (.bool r) ∧ Below w.heap.size w w' := by
 have hu26 := Tryd.underlying26
 have hu28 := Tryd.underlying28
 have HR0 := A0_.mk hr0
 have HC0 := A0_.mk hc0
 clear hr0 hc0
 have HB := A0_.mk (Below.refl w.heap.size w)
 have H := h
 unfold oS'.f at H
 clear h
 obtain ⟨ba, A6, H⟩ := oB_ H
 (try dsimp only at H)
 have HC7 := A0_.mk H
 clear H
 go_enter Tryd.func9, Tryd.ntmps9
 go_upto_if 37 with (first | ((with_reducible refine gC_ (f := 17) rfl ?_); refine gL_ (some 28) rfl rfl Tryd.func17 kr_ rfl #[.slice A0 l0.length c0] rfl mp_ ?_; (with_reducible refine (l0_Obligations.calls k _ _ l0 ba _ ?side1 ?side2 A6.out).mono ?_); (case side1 => repeat (first | exact HR0.out | (with_reducible refine Kd.C_alloc ?_ _) | (with_reducible refine Kd.C_drewN ?_ _) | (with_reducible refine Kd.C_drew ?_))); (case side2 => exact HC0.out); rintro e w8 ⟨df, rfl, ho0, hb⟩; refine ⟨_, rfl, ?_⟩; have n0_ := A0_.mk (Kd.rL_ ho0 (bZ_ (xB_ HB))); have n1_ := A0_.mk (bT_ (xB_ HB) hb); clear HB; have Wd := n0_; have HB := n1_; clear n0_ n1_; (try clear hb); (try clear hb2); (try clear hk); (try clear hi); (try clear ho0)))
 (try simp only [Act.put, s1_, s2_, s3_])
 go_cut [13] (fun v13 wc => ∃ (kq : Nat) (Pa : Int), v13 = .int .i64 Pa ∧ A0_ (oS'.j0 kq a1 a2 ba (wrap64 (Int.tmod a3 4)) Pa = some r) ∧ A0_ (kq ≤ k) ∧ A0_ (Kd.R k28 28 wc w.heap.size (fun _ => True) df ba) ∧ A0_ (Below w.heap.size w wc))
 case first =>
  have H := HC7.out
  clear HC7
  by_cases c9 : (wrap64 (Int.tmod a4 3)) ≥ (wrap64 (Int.tmod a3 4))
  ·rw [if_pos c9] at H
   have pb : decide ((wrap64 (Int.tmod a3 4)) ≤ (wrap64 (Int.tmod a4 3))) = true := decide_eq_true c9
   clear c9
   (first | rw [pb] | rw [Zb] | (simp only [i6_, i3_]; rw [pb]) | skip)
   have H' := A0_.mk H
   clear H
   go_wp2
   go_meet
   case rel => exact ⟨_, (wrap64 ((wrap64 (Int.tmod a4 3)) + 1)), (rS_), H', ⟨by first | omega | exact Nat.le_refl _⟩, ⟨by (with_reducible repeat (first | apply Kd.R_alloc | apply Kd.rN_ | apply Kd.rD_)); exact Wd.out⟩, ⟨xB_ HB⟩⟩
  ·rw [if_neg c9] at H
   have pb : decide ((wrap64 (Int.tmod a3 4)) ≤ (wrap64 (Int.tmod a4 3))) = false := decide_eq_false c9
   clear c9
   (first | rw [pb] | rw [Zb] | (simp only [i6_, i3_]; rw [pb]) | skip)
   have H' := A0_.mk H
   clear H
   go_wp2
   go_meet
   case rel => exact ⟨_, (wrap64 (Int.tmod a4 3)), (rS_), H', ⟨by first | omega | exact Nat.le_refl _⟩, ⟨by (with_reducible repeat (first | apply Kd.R_alloc | apply Kd.rN_ | apply Kd.rD_)); exact Wd.out⟩, ⟨xB_ HB⟩⟩
 case rest =>
  clear HC7
  try clear c1
  try clear p2
  try clear p6
  try clear c9
  try clear pb
  try clear Zb
  obtain ⟨kq, Pa, rfl, HA, HJ6, Ea, HB⟩ := hcut
  cases kq with
  | zero => exact absurd HA.out (by simp [oS'.j0])
  | succ kj6 =>
   have H := HA.out
   clear HA
   simp only [oS'.j0] at H
   obtain ⟨⟨pa, Qb⟩, A10, H⟩ := oB_ H
   (try dsimp only at H)
   obtain ⟨⟨oa, qa, ta, Rb⟩, A11, H⟩ := oB_ H
   (try dsimp only at H)
   obtain ⟨⟨ua, va, xa, Sb⟩, A12, H⟩ := oB_ H
   (try dsimp only at H)
   have HC13 := A0_.mk H
   clear H
   obtain ⟨ac, qb, ef⟩ := Kd.rS_' Ea.out
   subst ef
   go_upto_region 9 with (first | ((with_reducible refine gC_ (f := 18) rfl ?_); refine gL_ (some 49) rfl rfl Tryd.func18 kr_ rfl #[.int .i64 4, .slice ac ba.length qb, .int .i64 (wrap64 (a1)), .int .i64 (wrap64 (Int.tmod a2 40))] rfl mp_ ?_; (with_reducible refine (so_Apply.calls kj6 4 _ _ ba (wrap64 (a1)) (wrap64 (Int.tmod a2 40)) pa Qb _ ?side1 ?side2 A10.out).mono ?_); (case side1 => repeat (first | exact (Kd.rr_' Ea.out).2.2 | (with_reducible refine Kd.C_alloc ?_ _) | (with_reducible refine Kd.C_drewN ?_ _) | (with_reducible refine Kd.C_drew ?_))); (case side2 => exact (Kd.rr_' Ea.out).2.1); rintro e w15 ⟨nc, rfl, ho0, hb⟩; refine ⟨_, rfl, ?_⟩; have n0_ := A0_.mk (Kd.rB_ (xR_ Ea.out) hb); have n1_ := A0_.mk (Kd.rL_ ho0 (bZ_ (xB_ HB))); have n2_ := A0_.mk (bT_ (xB_ HB) hb); clear Ea HB; have Ea := n0_; have Ua := n1_; have HB := n2_; clear n0_ n1_ n2_; (try clear hb); (try clear hb2); (try clear hk); (try clear hi); (try clear ho0)) | ((with_reducible refine gC_ (f := 23) rfl ?_); refine gL_ (some 58) rfl rfl Tryd.func23 kr_ rfl #[.int .i64 4, .slice ac ba.length qb, .int .i64 (wrap64 (a1)), .int .i64 (wrap64 (Int.tmod a2 40)), .int .i64 (wrap64 (Int.tmod a3 4)), .int .i64 Pa] rfl mp_ ?_; (with_reducible refine (so_Amount.calls kj6 4 _ _ ba (wrap64 (a1)) (wrap64 (Int.tmod a2 40)) (wrap64 (Int.tmod a3 4)) Pa oa qa ta Rb _ ?side1 ?side2 A11.out).mono ?_); (case side1 => repeat (first | exact (Kd.rr_' Ea.out).2.2 | (with_reducible refine Kd.C_alloc ?_ _) | (with_reducible refine Kd.C_drewN ?_ _) | (with_reducible refine Kd.C_drew ?_))); (case side2 => exact (Kd.rr_' Ea.out).2.1); rintro e w16 ⟨rfl, hb⟩; refine ⟨_, rfl, ?_⟩; have n0_ := A0_.mk (Kd.rB_ (xR_ Ea.out) hb); have n1_ := A0_.mk (Kd.rB_ (xR_ Ua.out) hb); have n2_ := A0_.mk (bT_ (xB_ HB) hb); clear Ea Ua HB; have Ea := n0_; have Ua := n1_; have HB := n2_; clear n0_ n1_ n2_; (try clear hb); (try clear hb2); (try clear hk); (try clear hi)) | ((with_reducible refine gD_ (N := 18) rfl ?_); (try (refine gate_guard (by rfl) ?_; dsimp only)); refine bE_ ?hg (N := 18) ?hd (cs := zC_) (t := 26) ?hr ?_; (case hd => rfl); (case hg => rfl); (case hr => first | (go_simp; done) | (go_simp; rfl)); intro la hg w17 hbox hb; have n0_ := A0_.mk (Kd.rB_ (xR_ Ea.out) hb); have n1_ := A0_.mk (Kd.rB_ (Kd.R_elderB (xR_ Ua.out) la (Nat.le_of_eq hg.symm)) hb); have n2_ := A0_.mk (bT_ (xB_ HB) hb); have n3_ := A0_.mk (hbox); have n4_ := A0_.mk ((by rw [hg]; exact (bZ_ (xB_ HB)) : w.heap.size ≤ la)); have n5_ := A0_.mk ((by rw [hg]; exact (bZ_ (xB_ HB)) : w.heap.size ≤ la)); clear Ea Ua HB; have Ea := n0_; have Ua := n1_; have HB := n2_; have ea := n3_; have Ef := n4_; have wa := n5_; clear n0_ n1_ n2_ n3_ n4_ n5_; clear hb hbox hg; have oc : w17.cell? ⟨la, 0, none⟩ = some (.bool false) := (kc_ ea.out 0).trans rfl; have pc : w17.cell? ⟨la, 1, none⟩ = some (.string (⟨#[]⟩ : ByteArray)) := (kc_ ea.out 1).trans rfl; have qc : w17.cell? ⟨la, 2, none⟩ = some (.string (⟨#[]⟩ : ByteArray)) := (kc_ ea.out 2).trans rfl; have rc := kF_ ea.out 0; have sc := kF_ ea.out 1; have tc := kF_ ea.out 2) | ((with_reducible refine gC_ (f := 23) rfl ?_); refine gL_ (some 67) rfl rfl Tryd.func23 kr_ rfl #[.int .i64 4, .slice ac ba.length qb, .int .i64 (wrap64 (a1)), .int .i64 (wrap64 (Int.tmod a2 40)), .int .i64 Pa, .int .i64 (wrap64 (Int.tmod a3 4))] rfl mp_ ?_; (with_reducible refine (so_Amount.calls kj6 4 _ _ ba (wrap64 (a1)) (wrap64 (Int.tmod a2 40)) Pa (wrap64 (Int.tmod a3 4)) ua va xa Sb _ ?side1 ?side2 A12.out).mono ?_); (case side1 => refine (Kd.rr_' (e := 28) (base := w.heap.size) (ok := fun k_ => True) (n := ba.length) (c := qb) ?_).2.2; exact (by (with_reducible repeat (first | apply Kd.R_alloc | apply Kd.rN_ | apply Kd.rD_)); exact (Kd.rM_ (Kd.rF_ (p := ⟨la, 2, none⟩) (Kd.rF_ (p := ⟨la, 1, none⟩) (Kd.rF_ (p := ⟨la, 0, none⟩) (Kd.R_types Ea.out ea.out (by decide)) (fun _ hk => hk.2) (.bool oa)) (fun _ hk => hk.2) (.string qa)) (fun _ hk => hk.2) (.string ta)) (fun _ h_ => h_.1)))); (case side2 => exact (Kd.rr_' Ea.out).2.1); rintro e w19 ⟨rfl, hb⟩; refine ⟨_, rfl, ?_⟩; have n0_ := A0_.mk (Kd.rB_ (by (with_reducible repeat (first | apply Kd.R_alloc | apply Kd.rN_ | apply Kd.rD_)); exact (Kd.rM_ (Kd.rF_ (p := ⟨la, 2, none⟩) (Kd.rF_ (p := ⟨la, 1, none⟩) (Kd.rF_ (p := ⟨la, 0, none⟩) (Kd.R_types Ea.out ea.out (by decide)) (fun _ hk => hk.2) (.bool oa)) (fun _ hk => hk.2) (.string qa)) (fun _ hk => hk.2) (.string ta)) (fun _ h_ => h_.1))) hb); have n1_ := A0_.mk (Kd.rB_ (by (with_reducible repeat (first | apply Kd.R_alloc | apply Kd.rN_ | apply Kd.rD_)); exact (Kd.rM_ (Kd.rF_ (p := ⟨la, 2, none⟩) (Kd.rF_ (p := ⟨la, 1, none⟩) (Kd.rF_ (p := ⟨la, 0, none⟩) (Kd.rM_ Ua.out (fun k_ hk => (⟨hk, hk.2⟩ : _ ∧ k_ ≠ la))) (fun _ hk => hk.2) (.bool oa)) (fun _ hk => hk.2) (.string qa)) (fun _ hk => hk.2) (.string ta)) (fun _ h_ => h_.1))) hb); have n2_ := A0_.mk (kB_ (g := la) (o := .cells #[.bool oa, .string qa, .string ta] 26 (0, 0)) (by (with_reducible repeat (first | apply kN_ | apply kD_ | apply kA_)); refine kP_ (cs := #[.bool oa, .string qa, .string (⟨#[]⟩ : ByteArray)]) ?_ 2 _ rfl; (with_reducible repeat (first | apply kN_ | apply kD_ | apply kA_)); refine kP_ (cs := #[.bool oa, .string (⟨#[]⟩ : ByteArray), .string (⟨#[]⟩ : ByteArray)]) ?_ 1 _ rfl; (with_reducible repeat (first | apply kN_ | apply kD_ | apply kA_)); refine kP_ (cs := zC_) ?_ 0 _ rfl; (with_reducible repeat (first | apply kN_ | apply kD_ | apply kA_)); exact ea.out) hb); have n3_ := A0_.mk (bT_ (xB1_ HB wa) hb); clear Ea Ua ea HB; have Ea := n0_; have Ua := n1_; have ea := n2_; have HB := n3_; clear n0_ n1_ n2_ n3_; (try clear hb); (try clear hb2); (try clear hk); (try clear hi)) | ((with_reducible refine gD_ (N := 20) rfl ?_); (try (refine gate_guard (by rfl) ?_; dsimp only)); refine bE_ ?hg (N := 20) ?hd (cs := zC_) (t := 26) ?hr ?_; (case hd => rfl); (case hg => rfl); (case hr => first | (go_simp; done) | (go_simp; rfl)); intro ia hg w20 hbox hb; have n0_ := A0_.mk (Kd.rB_ (xR_ Ea.out) hb); have n1_ := A0_.mk (Kd.rB_ (Kd.R_elderB (xR_ Ua.out) ia (Nat.le_of_eq hg.symm)) hb); have n2_ := A0_.mk (kB_ (g := la) (o := .cells #[.bool oa, .string qa, .string ta] 26 (0, 0)) (xK_ ea.out) hb); have n3_ := A0_.mk (bT_ (xB1_ HB wa) hb); have n4_ := A0_.mk (hbox); have n5_ := A0_.mk ((by rw [hg]; exact (bZ_ (xB1_ HB wa)) : w.heap.size ≤ ia)); have n6_ := A0_.mk ((by rw [hg]; exact (bZ_ (xB1_ HB wa)) : w.heap.size ≤ ia)); have n7_ := A0_.mk ((by rw [hg]; exact Nat.ne_of_lt (blk_lt (g := la) (o := .cells #[.bool oa, .string qa, .string ta] 26 (0, 0)) (xK_ ea.out)) : la ≠ ia)); have n8_ := A0_.mk ((by rw [hg]; exact Nat.ne_of_gt (blk_lt (g := la) (o := .cells #[.bool oa, .string qa, .string ta] 26 (0, 0)) (xK_ ea.out)) : ia ≠ la)); clear Ea Ua ea HB; have Ea := n0_; have Ua := n1_; have ea := n2_; have HB := n3_; have fa := n4_; have Ff := n5_; have ya := n6_; have Sa := n7_; have bc := n8_; clear n0_ n1_ n2_ n3_ n4_ n5_ n6_ n7_ n8_; clear hb hbox hg; have hnb21 := bc.out; have hnc21 := Sa.out; have uc : w20.cell? ⟨ia, 0, none⟩ = some (.bool false) := (kc_ fa.out 0).trans rfl; have vc : w20.cell? ⟨ia, 1, none⟩ = some (.string (⟨#[]⟩ : ByteArray)) := (kc_ fa.out 1).trans rfl; have xc : w20.cell? ⟨ia, 2, none⟩ = some (.string (⟨#[]⟩ : ByteArray)) := (kc_ fa.out 2).trans rfl; have yc := kF_ fa.out 0; have zc := kF_ fa.out 1; have Ac := kF_ fa.out 2))
   (try simp only [Act.put, s1_, s2_, s3_])
   go_cut [91] (fun v91 wc => ∃ (kq : Nat) (Bc : Bool), v91 = .bool Bc ∧ A0_ (oS'.j1 kq ba (wrap64 (Int.tmod a3 4)) Pa (wrap64 (a1)) (wrap64 (Int.tmod a2 40)) pa Bc oa qa ta = some r) ∧ A0_ (kq ≤ kj6) ∧ A0_ (Kd.R k28 28 wc w.heap.size (fun _ => True) (.slice ac ba.length qb) ba) ∧ A0_ (Kd.R k26 26 wc w.heap.size (fun k_ => k_ ≠ la ∧ k_ ≠ ia) nc pa) ∧ A0_ (wc.heap[la]? = some (.cells #[.bool oa, .string qa, .string ta] 26 (0, 0))) ∧ A0_ (wc.heap[ia]? = some (.cells #[.bool ua, .string va, .string xa] 26 (0, 0))) ∧ A0_ (Below w.heap.size w wc))
   case first =>
    have H := HC13.out
    clear HC13
    by_cases c23 : Qb = 0
    ·rw [if_pos c23] at H
     have ub : (Qb == 0) = true := beq_iff_eq.mpr c23
     have Tb : (Qb != 0) = false := bne_eq_false_iff_eq.mpr c23
     clear c23
     (first | rw [ub] | rw [Tb] | (simp only [i6_, i3_]; rw [ub]) | skip)
     by_cases c24 : Rb = 0
     ·rw [if_pos c24] at H
      have Cc : (Rb == 0) = true := beq_iff_eq.mpr c24
      have Dc : (Rb != 0) = false := bne_eq_false_iff_eq.mpr c24
      clear c24
      by_cases c25 : Sb = 0
      ·rw [if_pos c25] at H
       have Ec : (Sb == 0) = true := beq_iff_eq.mpr c25
       have Fc : (Sb != 0) = false := bne_eq_false_iff_eq.mpr c25
       clear c25
       by_cases c26 : (!(oa == ua) || (!(qa.toList == va.toList) || (!(ta.toList == xa.toList)))) = true
       ·rw [if_pos c26] at H
        have Gc : (!(oa == ua) || (!(qa.toList == va.toList) || (!(ta.toList == xa.toList)))) = true := c26
        clear c26
        have H' := A0_.mk H
        clear H
        have hnb27 := Sa.out
        have hnc27 := bc.out
        have Hc : w20.cell? ⟨la, 0, none⟩ = some (.bool oa) := (kc_ ea.out 0).trans rfl
        have Ic : w20.cell? ⟨la, 1, none⟩ = some (.string qa) := (kc_ ea.out 1).trans rfl
        have Jc : w20.cell? ⟨la, 2, none⟩ = some (.string ta) := (kc_ ea.out 2).trans rfl
        have Kc := kF_ ea.out 0
        have Lc := kF_ ea.out 1
        have Mc := kF_ ea.out 2
        have Nc : w20.cell? ⟨ia, 0, none⟩ = some (.bool false) := (kc_ fa.out 0).trans rfl
        have Oc : w20.cell? ⟨ia, 1, none⟩ = some (.string (⟨#[]⟩ : ByteArray)) := (kc_ fa.out 1).trans rfl
        have Pc : w20.cell? ⟨ia, 2, none⟩ = some (.string (⟨#[]⟩ : ByteArray)) := (kc_ fa.out 2).trans rfl
        have Qc := kF_ fa.out 0
        have Rc := kF_ fa.out 1
        have Sc := kF_ fa.out 2
        go_wp2
        go_meet
        case rel => exact ⟨_, (true), (rS_), H', ⟨by have := HJ6.out; first | omega | exact Nat.le_refl _⟩, ⟨by (with_reducible repeat (first | apply Kd.R_alloc | apply Kd.rN_ | apply Kd.rD_)); exact Kd.rM_ (Kd.rF_ (p := ⟨ia, 2, none⟩) (Kd.rF_ (p := ⟨ia, 1, none⟩) (Kd.rF_ (p := ⟨ia, 0, none⟩) (Kd.R_types Ea.out fa.out (by decide)) (fun _ hk => hk.2) (.bool ua)) (fun _ hk => hk.2) (.string va)) (fun _ hk => hk.2) (.string xa)) (fun _ hk => trivial)⟩, ⟨by (with_reducible repeat (first | apply Kd.R_alloc | apply Kd.rN_ | apply Kd.rD_)); exact Kd.rM_ (Kd.rF_ (p := ⟨ia, 2, none⟩) (Kd.rF_ (p := ⟨ia, 1, none⟩) (Kd.rF_ (p := ⟨ia, 0, none⟩) (Kd.rM_ Ua.out (fun k_ hk => (⟨hk, hk.2⟩ : _ ∧ k_ ≠ ia))) (fun _ hk => hk.2) (.bool ua)) (fun _ hk => hk.2) (.string va)) (fun _ hk => hk.2) (.string xa)) (fun _ hk => ⟨hk.1.1.2, hk.1.2⟩)⟩, ⟨by (with_reducible repeat (first | apply kN_ | apply kD_ | apply kA_)); refine bf_ ?_ Sa.out _; (with_reducible repeat (first | apply kN_ | apply kD_ | apply kA_)); refine bf_ ?_ Sa.out _; (with_reducible repeat (first | apply kN_ | apply kD_ | apply kA_)); refine bf_ ?_ Sa.out _; (with_reducible repeat (first | apply kN_ | apply kD_ | apply kA_)); exact ea.out⟩, ⟨by (with_reducible repeat (first | apply kN_ | apply kD_ | apply kA_)); refine kP_ (cs := #[.bool ua, .string va, .string (⟨#[]⟩ : ByteArray)]) ?_ 2 _ rfl; (with_reducible repeat (first | apply kN_ | apply kD_ | apply kA_)); refine kP_ (cs := #[.bool ua, .string (⟨#[]⟩ : ByteArray), .string (⟨#[]⟩ : ByteArray)]) ?_ 1 _ rfl; (with_reducible repeat (first | apply kN_ | apply kD_ | apply kA_)); refine kP_ (cs := zC_) ?_ 0 _ rfl; (with_reducible repeat (first | apply kN_ | apply kD_ | apply kA_)); exact fa.out⟩, ⟨xB2_ HB wa ya⟩⟩
       ·rw [if_neg c26] at H
        have Gc : (!(oa == ua) || (!(qa.toList == va.toList) || (!(ta.toList == xa.toList)))) = false := by simpa using c26
        clear c26
        have H' := A0_.mk H
        clear H
        have hnb30 := Sa.out
        have hnc30 := bc.out
        have Tc : w20.cell? ⟨la, 0, none⟩ = some (.bool oa) := (kc_ ea.out 0).trans rfl
        have Uc : w20.cell? ⟨la, 1, none⟩ = some (.string qa) := (kc_ ea.out 1).trans rfl
        have Vc : w20.cell? ⟨la, 2, none⟩ = some (.string ta) := (kc_ ea.out 2).trans rfl
        have Wc := kF_ ea.out 0
        have Xc := kF_ ea.out 1
        have Yc := kF_ ea.out 2
        have Zc : w20.cell? ⟨ia, 0, none⟩ = some (.bool false) := (kc_ fa.out 0).trans rfl
        have ad : w20.cell? ⟨ia, 1, none⟩ = some (.string (⟨#[]⟩ : ByteArray)) := (kc_ fa.out 1).trans rfl
        have bd : w20.cell? ⟨ia, 2, none⟩ = some (.string (⟨#[]⟩ : ByteArray)) := (kc_ fa.out 2).trans rfl
        have cd := kF_ fa.out 0
        have dd := kF_ fa.out 1
        have ed := kF_ fa.out 2
        obtain ⟨Gf, Hf, ff⟩ := Kd.rS_' Ua.out
        subst ff
        go_wp2
        go_meet
        case rel => exact ⟨_, (((pa.length : Int) != (ba.length : Int))), (rS_), H', ⟨by have := HJ6.out; first | omega | exact Nat.le_refl _⟩, ⟨by (with_reducible repeat (first | apply Kd.R_alloc | apply Kd.rN_ | apply Kd.rD_)); exact Kd.rM_ (Kd.rF_ (p := ⟨ia, 2, none⟩) (Kd.rF_ (p := ⟨ia, 1, none⟩) (Kd.rF_ (p := ⟨ia, 0, none⟩) (Kd.R_types Ea.out fa.out (by decide)) (fun _ hk => hk.2) (.bool ua)) (fun _ hk => hk.2) (.string va)) (fun _ hk => hk.2) (.string xa)) (fun _ hk => trivial)⟩, ⟨by (with_reducible repeat (first | apply Kd.R_alloc | apply Kd.rN_ | apply Kd.rD_)); exact Kd.rM_ (Kd.rF_ (p := ⟨ia, 2, none⟩) (Kd.rF_ (p := ⟨ia, 1, none⟩) (Kd.rF_ (p := ⟨ia, 0, none⟩) (Kd.rM_ Ua.out (fun k_ hk => (⟨hk, hk.2⟩ : _ ∧ k_ ≠ ia))) (fun _ hk => hk.2) (.bool ua)) (fun _ hk => hk.2) (.string va)) (fun _ hk => hk.2) (.string xa)) (fun _ hk => ⟨hk.1.1.2, hk.1.2⟩)⟩, ⟨by (with_reducible repeat (first | apply kN_ | apply kD_ | apply kA_)); refine bf_ ?_ Sa.out _; (with_reducible repeat (first | apply kN_ | apply kD_ | apply kA_)); refine bf_ ?_ Sa.out _; (with_reducible repeat (first | apply kN_ | apply kD_ | apply kA_)); refine bf_ ?_ Sa.out _; (with_reducible repeat (first | apply kN_ | apply kD_ | apply kA_)); exact ea.out⟩, ⟨by (with_reducible repeat (first | apply kN_ | apply kD_ | apply kA_)); refine kP_ (cs := #[.bool ua, .string va, .string (⟨#[]⟩ : ByteArray)]) ?_ 2 _ rfl; (with_reducible repeat (first | apply kN_ | apply kD_ | apply kA_)); refine kP_ (cs := #[.bool ua, .string (⟨#[]⟩ : ByteArray), .string (⟨#[]⟩ : ByteArray)]) ?_ 1 _ rfl; (with_reducible repeat (first | apply kN_ | apply kD_ | apply kA_)); refine kP_ (cs := zC_) ?_ 0 _ rfl; (with_reducible repeat (first | apply kN_ | apply kD_ | apply kA_)); exact fa.out⟩, ⟨xB2_ HB wa ya⟩⟩
      ·rw [if_neg c25] at H
       have Ec : (Sb == 0) = false := beq_eq_false_iff_ne.mpr c25
       have Fc : (Sb != 0) = true := bne_iff_ne.mpr c25
       have H' := A0_.mk H
       clear H
       go_wp2
       go_meet
       case rel => exact ⟨_, (true), (rS_), H', ⟨by have := HJ6.out; first | omega | exact Nat.le_refl _⟩, ⟨by (with_reducible repeat (first | apply Kd.R_alloc | apply Kd.rN_ | apply Kd.rD_)); exact Kd.rM_ (Kd.rF_ (p := ⟨ia, 2, none⟩) (Kd.rF_ (p := ⟨ia, 1, none⟩) (Kd.rF_ (p := ⟨ia, 0, none⟩) (Kd.R_types Ea.out fa.out (by decide)) (fun _ hk => hk.2) (.bool ua)) (fun _ hk => hk.2) (.string va)) (fun _ hk => hk.2) (.string xa)) (fun _ hk => trivial)⟩, ⟨by (with_reducible repeat (first | apply Kd.R_alloc | apply Kd.rN_ | apply Kd.rD_)); exact Kd.rM_ (Kd.rF_ (p := ⟨ia, 2, none⟩) (Kd.rF_ (p := ⟨ia, 1, none⟩) (Kd.rF_ (p := ⟨ia, 0, none⟩) (Kd.rM_ Ua.out (fun k_ hk => (⟨hk, hk.2⟩ : _ ∧ k_ ≠ ia))) (fun _ hk => hk.2) (.bool ua)) (fun _ hk => hk.2) (.string va)) (fun _ hk => hk.2) (.string xa)) (fun _ hk => ⟨hk.1.1.2, hk.1.2⟩)⟩, ⟨by (with_reducible repeat (first | apply kN_ | apply kD_ | apply kA_)); refine bf_ ?_ Sa.out _; (with_reducible repeat (first | apply kN_ | apply kD_ | apply kA_)); refine bf_ ?_ Sa.out _; (with_reducible repeat (first | apply kN_ | apply kD_ | apply kA_)); refine bf_ ?_ Sa.out _; (with_reducible repeat (first | apply kN_ | apply kD_ | apply kA_)); exact ea.out⟩, ⟨by (with_reducible repeat (first | apply kN_ | apply kD_ | apply kA_)); refine kP_ (cs := #[.bool ua, .string va, .string (⟨#[]⟩ : ByteArray)]) ?_ 2 _ rfl; (with_reducible repeat (first | apply kN_ | apply kD_ | apply kA_)); refine kP_ (cs := #[.bool ua, .string (⟨#[]⟩ : ByteArray), .string (⟨#[]⟩ : ByteArray)]) ?_ 1 _ rfl; (with_reducible repeat (first | apply kN_ | apply kD_ | apply kA_)); refine kP_ (cs := zC_) ?_ 0 _ rfl; (with_reducible repeat (first | apply kN_ | apply kD_ | apply kA_)); exact fa.out⟩, ⟨xB2_ HB wa ya⟩⟩
     ·rw [if_neg c24] at H
      have Cc : (Rb == 0) = false := beq_eq_false_iff_ne.mpr c24
      have Dc : (Rb != 0) = true := bne_iff_ne.mpr c24
      have H' := A0_.mk H
      clear H
      go_wp2
      go_meet
      case rel => exact ⟨_, (true), (rS_), H', ⟨by have := HJ6.out; first | omega | exact Nat.le_refl _⟩, ⟨by (with_reducible repeat (first | apply Kd.R_alloc | apply Kd.rN_ | apply Kd.rD_)); exact Kd.rM_ (Kd.rF_ (p := ⟨ia, 2, none⟩) (Kd.rF_ (p := ⟨ia, 1, none⟩) (Kd.rF_ (p := ⟨ia, 0, none⟩) (Kd.R_types Ea.out fa.out (by decide)) (fun _ hk => hk.2) (.bool ua)) (fun _ hk => hk.2) (.string va)) (fun _ hk => hk.2) (.string xa)) (fun _ hk => trivial)⟩, ⟨by (with_reducible repeat (first | apply Kd.R_alloc | apply Kd.rN_ | apply Kd.rD_)); exact Kd.rM_ (Kd.rF_ (p := ⟨ia, 2, none⟩) (Kd.rF_ (p := ⟨ia, 1, none⟩) (Kd.rF_ (p := ⟨ia, 0, none⟩) (Kd.rM_ Ua.out (fun k_ hk => (⟨hk, hk.2⟩ : _ ∧ k_ ≠ ia))) (fun _ hk => hk.2) (.bool ua)) (fun _ hk => hk.2) (.string va)) (fun _ hk => hk.2) (.string xa)) (fun _ hk => ⟨hk.1.1.2, hk.1.2⟩)⟩, ⟨by (with_reducible repeat (first | apply kN_ | apply kD_ | apply kA_)); refine bf_ ?_ Sa.out _; (with_reducible repeat (first | apply kN_ | apply kD_ | apply kA_)); refine bf_ ?_ Sa.out _; (with_reducible repeat (first | apply kN_ | apply kD_ | apply kA_)); refine bf_ ?_ Sa.out _; (with_reducible repeat (first | apply kN_ | apply kD_ | apply kA_)); exact ea.out⟩, ⟨by (with_reducible repeat (first | apply kN_ | apply kD_ | apply kA_)); refine kP_ (cs := #[.bool ua, .string va, .string (⟨#[]⟩ : ByteArray)]) ?_ 2 _ rfl; (with_reducible repeat (first | apply kN_ | apply kD_ | apply kA_)); refine kP_ (cs := #[.bool ua, .string (⟨#[]⟩ : ByteArray), .string (⟨#[]⟩ : ByteArray)]) ?_ 1 _ rfl; (with_reducible repeat (first | apply kN_ | apply kD_ | apply kA_)); refine kP_ (cs := zC_) ?_ 0 _ rfl; (with_reducible repeat (first | apply kN_ | apply kD_ | apply kA_)); exact fa.out⟩, ⟨xB2_ HB wa ya⟩⟩
    ·rw [if_neg c23] at H
     have ub : (Qb == 0) = false := beq_eq_false_iff_ne.mpr c23
     have Tb : (Qb != 0) = true := bne_iff_ne.mpr c23
     (first | rw [ub] | rw [Tb] | (simp only [i6_, i3_]; rw [ub]) | skip)
     have H' := A0_.mk H
     clear H
     go_wp2
     go_meet
     case rel => exact ⟨_, (true), (rS_), H', ⟨by have := HJ6.out; first | omega | exact Nat.le_refl _⟩, ⟨by (with_reducible repeat (first | apply Kd.R_alloc | apply Kd.rN_ | apply Kd.rD_)); exact Kd.rM_ (Kd.rF_ (p := ⟨ia, 2, none⟩) (Kd.rF_ (p := ⟨ia, 1, none⟩) (Kd.rF_ (p := ⟨ia, 0, none⟩) (Kd.R_types Ea.out fa.out (by decide)) (fun _ hk => hk.2) (.bool ua)) (fun _ hk => hk.2) (.string va)) (fun _ hk => hk.2) (.string xa)) (fun _ hk => trivial)⟩, ⟨by (with_reducible repeat (first | apply Kd.R_alloc | apply Kd.rN_ | apply Kd.rD_)); exact Kd.rM_ (Kd.rF_ (p := ⟨ia, 2, none⟩) (Kd.rF_ (p := ⟨ia, 1, none⟩) (Kd.rF_ (p := ⟨ia, 0, none⟩) (Kd.rM_ Ua.out (fun k_ hk => (⟨hk, hk.2⟩ : _ ∧ k_ ≠ ia))) (fun _ hk => hk.2) (.bool ua)) (fun _ hk => hk.2) (.string va)) (fun _ hk => hk.2) (.string xa)) (fun _ hk => ⟨hk.1.1.2, hk.1.2⟩)⟩, ⟨by (with_reducible repeat (first | apply kN_ | apply kD_ | apply kA_)); refine bf_ ?_ Sa.out _; (with_reducible repeat (first | apply kN_ | apply kD_ | apply kA_)); refine bf_ ?_ Sa.out _; (with_reducible repeat (first | apply kN_ | apply kD_ | apply kA_)); refine bf_ ?_ Sa.out _; (with_reducible repeat (first | apply kN_ | apply kD_ | apply kA_)); exact ea.out⟩, ⟨by (with_reducible repeat (first | apply kN_ | apply kD_ | apply kA_)); refine kP_ (cs := #[.bool ua, .string va, .string (⟨#[]⟩ : ByteArray)]) ?_ 2 _ rfl; (with_reducible repeat (first | apply kN_ | apply kD_ | apply kA_)); refine kP_ (cs := #[.bool ua, .string (⟨#[]⟩ : ByteArray), .string (⟨#[]⟩ : ByteArray)]) ?_ 1 _ rfl; (with_reducible repeat (first | apply kN_ | apply kD_ | apply kA_)); refine kP_ (cs := zC_) ?_ 0 _ rfl; (with_reducible repeat (first | apply kN_ | apply kD_ | apply kA_)); exact fa.out⟩, ⟨xB2_ HB wa ya⟩⟩
   case rest =>
    clear HC13
    try clear c1
    try clear c2
    try clear p2
    try clear c3
    try clear p6
    try clear c9
    try clear pb
    try clear Zb
    try clear c17
    try clear c18
    try clear c21
    try clear c23
    try clear ub
    try clear Tb
    try clear c24
    try clear Cc
    try clear Dc
    try clear c25
    try clear Ec
    try clear Fc
    try clear c26
    try clear Gc
    try clear c27
    try clear c30
    try clear oc
    try clear pc
    try clear qc
    try clear uc
    try clear vc
    try clear xc
    try clear Hc
    try clear Ic
    try clear Jc
    try clear Nc
    try clear Oc
    try clear Pc
    try clear Tc
    try clear Uc
    try clear Vc
    try clear Zc
    try clear ad
    try clear bd
    try clear rc
    try clear sc
    try clear tc
    try clear yc
    try clear zc
    try clear Ac
    try clear Kc
    try clear Lc
    try clear Mc
    try clear Qc
    try clear Rc
    try clear Sc
    try clear Wc
    try clear Xc
    try clear Yc
    try clear cd
    try clear dd
    try clear ed
    try clear p2
    try clear p6
    obtain ⟨kq, Bc, rfl, HA, HJ12, Ea, ma, ea, fa, HB⟩ := hcut
    cases kq with
    | zero => exact absurd HA.out (by simp [oS'.j1])
    | succ kj12 =>
     have H := HA.out
     clear HA
     simp only [oS'.j1] at H
     by_cases c34 : Bc = true
     ·subst c34
      have H1 : (none) = some r := by rw [if_pos rfl] at H; exact H
      exact absurd H1 (by simp)
     ·replace c34 := Bool.eq_false_iff.mpr c34
      subst c34
      have H1 : (oS'.l0 kj12 (wrap64 (Int.tmod a3 4)) Pa (wrap64 (a1)) (wrap64 (Int.tmod a2 40)) pa ba (ba.length : Int) 0 oa qa ta false (⟨#[]⟩ : ByteArray) (⟨#[]⟩ : ByteArray) false (⟨#[]⟩ : ByteArray) (⟨#[]⟩ : ByteArray) false (⟨#[]⟩ : ByteArray) (⟨#[]⟩ : ByteArray)) = some r := by rw [if_neg (show ¬ (false = true) by decide)] at H; exact H
      clear H
      have H := H1
      clear H1
      have H' := A0_.mk H
      clear H
      go_wp2_with (first | ((with_reducible refine gD_ (N := 22) rfl ?_); (try (refine gate_guard (by rfl) ?_; dsimp only)); refine bE_ ?hg (N := 22) ?hd (cs := zC_) (t := 26) ?hr ?_; (case hd => rfl); (case hg => rfl); (case hr => first | (go_simp; done) | (go_simp; rfl)); intro ja hg w35 hbox hb; have n0_ := A0_.mk (Kd.rB_ (xR_ Ea.out) hb); have n1_ := A0_.mk (Kd.rB_ (Kd.R_elderB (xR_ ma.out) ja (Nat.le_of_eq hg.symm)) hb); have n2_ := A0_.mk (kB_ (g := la) (o := .cells #[.bool oa, .string qa, .string ta] 26 (0, 0)) (xK_ ea.out) hb); have n3_ := A0_.mk (kB_ (g := ia) (o := .cells #[.bool ua, .string va, .string xa] 26 (0, 0)) (xK_ fa.out) hb); have n4_ := A0_.mk (bT_ (xB2_ HB wa ya) hb); have n5_ := A0_.mk (hbox); have n6_ := A0_.mk ((by rw [hg]; exact (bZ_ (xB2_ HB wa ya)) : w.heap.size ≤ ja)); have n7_ := A0_.mk ((by rw [hg]; exact (bZ_ (xB2_ HB wa ya)) : w.heap.size ≤ ja)); have n8_ := A0_.mk ((by rw [hg]; exact Nat.ne_of_lt (blk_lt (g := la) (o := .cells #[.bool oa, .string qa, .string ta] 26 (0, 0)) (xK_ ea.out)) : la ≠ ja)); have n9_ := A0_.mk ((by rw [hg]; exact Nat.ne_of_gt (blk_lt (g := la) (o := .cells #[.bool oa, .string qa, .string ta] 26 (0, 0)) (xK_ ea.out)) : ja ≠ la)); have Ya := A0_.mk ((by rw [hg]; exact Nat.ne_of_lt (blk_lt (g := ia) (o := .cells #[.bool ua, .string va, .string xa] 26 (0, 0)) (xK_ fa.out)) : ia ≠ ja)); have Za := A0_.mk ((by rw [hg]; exact Nat.ne_of_gt (blk_lt (g := ia) (o := .cells #[.bool ua, .string va, .string xa] 26 (0, 0)) (xK_ fa.out)) : ja ≠ ia)); clear Ea ma ea fa HB; have Ea := n0_; have ma := n1_; have ea := n2_; have fa := n3_; have HB := n4_; have ga := n5_; have If := n6_; have Ja := n7_; have vb := n8_; have cc := n9_; have wb := Ya; have dc := Za; clear n0_ n1_ n2_ n3_ n4_ n5_ n6_ n7_ n8_ n9_ Ya Za; clear hb hbox hg) | ((with_reducible refine gD_ (N := 23) rfl ?_); (try (refine gate_guard (by rfl) ?_; dsimp only)); refine bE_ ?hg (N := 23) ?hd (cs := zC_) (t := 26) ?hr ?_; (case hd => rfl); (case hg => rfl); (case hr => first | (go_simp; done) | (go_simp; rfl)); intro ra hg w36 hbox hb; have n0_ := A0_.mk (Kd.rB_ (xR_ Ea.out) hb); have n1_ := A0_.mk (Kd.rB_ (Kd.R_elderB (xR_ ma.out) ra (Nat.le_of_eq hg.symm)) hb); have n2_ := A0_.mk (kB_ (g := la) (o := .cells #[.bool oa, .string qa, .string ta] 26 (0, 0)) (xK_ ea.out) hb); have n3_ := A0_.mk (kB_ (g := ia) (o := .cells #[.bool ua, .string va, .string xa] 26 (0, 0)) (xK_ fa.out) hb); have n4_ := A0_.mk (kB_ (g := ja) (o := .cells zC_ 26 (0, 0)) (xK_ ga.out) hb); have n5_ := A0_.mk (bT_ (xB3_ HB wa ya Ja) hb); have n6_ := A0_.mk (hbox); have n7_ := A0_.mk ((by rw [hg]; exact (bZ_ (xB3_ HB wa ya Ja)) : w.heap.size ≤ ra)); have n8_ := A0_.mk ((by rw [hg]; exact (bZ_ (xB3_ HB wa ya Ja)) : w.heap.size ≤ ra)); have n9_ := A0_.mk ((by rw [hg]; exact Nat.ne_of_lt (blk_lt (g := la) (o := .cells #[.bool oa, .string qa, .string ta] 26 (0, 0)) (xK_ ea.out)) : la ≠ ra)); have Ya := A0_.mk ((by rw [hg]; exact Nat.ne_of_gt (blk_lt (g := la) (o := .cells #[.bool oa, .string qa, .string ta] 26 (0, 0)) (xK_ ea.out)) : ra ≠ la)); have Za := A0_.mk ((by rw [hg]; exact Nat.ne_of_lt (blk_lt (g := ia) (o := .cells #[.bool ua, .string va, .string xa] 26 (0, 0)) (xK_ fa.out)) : ia ≠ ra)); have db := A0_.mk ((by rw [hg]; exact Nat.ne_of_gt (blk_lt (g := ia) (o := .cells #[.bool ua, .string va, .string xa] 26 (0, 0)) (xK_ fa.out)) : ra ≠ ia)); have eb := A0_.mk ((by rw [hg]; exact Nat.ne_of_lt (blk_lt (g := ja) (o := .cells zC_ 26 (0, 0)) (xK_ ga.out)) : ja ≠ ra)); have fb := A0_.mk ((by rw [hg]; exact Nat.ne_of_gt (blk_lt (g := ja) (o := .cells zC_ 26 (0, 0)) (xK_ ga.out)) : ra ≠ ja)); clear Ea ma ea fa ga HB; have Ea := n0_; have ma := n1_; have ea := n2_; have fa := n3_; have ga := n4_; have HB := n5_; have ka := n6_; have Jf := n7_; have Ka := n8_; have xb := n9_; have ec := Ya; have Hb := Za; have fd := db; have gb := eb; have ib := fb; clear n0_ n1_ n2_ n3_ n4_ n5_ n6_ n7_ n8_ n9_ Ya Za db eb fb; clear hb hbox hg) | ((with_reducible refine gD_ (N := 24) rfl ?_); (try (refine gate_guard (by rfl) ?_; dsimp only)); refine bE_ ?hg (N := 24) ?hd (cs := zC_) (t := 26) ?hr ?_; (case hd => rfl); (case hg => rfl); (case hr => first | (go_simp; done) | (go_simp; rfl)); intro sa hg w37 hbox hb; have n0_ := A0_.mk (Kd.rB_ (xR_ Ea.out) hb); have n1_ := A0_.mk (Kd.rB_ (Kd.R_elderB (xR_ ma.out) sa (Nat.le_of_eq hg.symm)) hb); have n2_ := A0_.mk (kB_ (g := la) (o := .cells #[.bool oa, .string qa, .string ta] 26 (0, 0)) (xK_ ea.out) hb); have n3_ := A0_.mk (kB_ (g := ia) (o := .cells #[.bool ua, .string va, .string xa] 26 (0, 0)) (xK_ fa.out) hb); have n4_ := A0_.mk (kB_ (g := ja) (o := .cells zC_ 26 (0, 0)) (xK_ ga.out) hb); have n5_ := A0_.mk (kB_ (g := ra) (o := .cells zC_ 26 (0, 0)) (xK_ ka.out) hb); have n6_ := A0_.mk (bT_ (xB4_ HB wa ya Ja Ka) hb); have n7_ := A0_.mk (hbox); have n8_ := A0_.mk ((by rw [hg]; exact (bZ_ (xB4_ HB wa ya Ja Ka)) : w.heap.size ≤ sa)); have n9_ := A0_.mk ((by rw [hg]; exact (bZ_ (xB4_ HB wa ya Ja Ka)) : w.heap.size ≤ sa)); have Ya := A0_.mk ((by rw [hg]; exact Nat.ne_of_lt (blk_lt (g := la) (o := .cells #[.bool oa, .string qa, .string ta] 26 (0, 0)) (xK_ ea.out)) : la ≠ sa)); have Za := A0_.mk ((by rw [hg]; exact Nat.ne_of_gt (blk_lt (g := la) (o := .cells #[.bool oa, .string qa, .string ta] 26 (0, 0)) (xK_ ea.out)) : sa ≠ la)); have db := A0_.mk ((by rw [hg]; exact Nat.ne_of_lt (blk_lt (g := ia) (o := .cells #[.bool ua, .string va, .string xa] 26 (0, 0)) (xK_ fa.out)) : ia ≠ sa)); have eb := A0_.mk ((by rw [hg]; exact Nat.ne_of_gt (blk_lt (g := ia) (o := .cells #[.bool ua, .string va, .string xa] 26 (0, 0)) (xK_ fa.out)) : sa ≠ ia)); have fb := A0_.mk ((by rw [hg]; exact Nat.ne_of_lt (blk_lt (g := ja) (o := .cells zC_ 26 (0, 0)) (xK_ ga.out)) : ja ≠ sa)); have yb := A0_.mk ((by rw [hg]; exact Nat.ne_of_gt (blk_lt (g := ja) (o := .cells zC_ 26 (0, 0)) (xK_ ga.out)) : sa ≠ ja)); have zb := A0_.mk ((by rw [hg]; exact Nat.ne_of_lt (blk_lt (g := ra) (o := .cells zC_ 26 (0, 0)) (xK_ ka.out)) : ra ≠ sa)); have Ab := A0_.mk ((by rw [hg]; exact Nat.ne_of_gt (blk_lt (g := ra) (o := .cells zC_ 26 (0, 0)) (xK_ ka.out)) : sa ≠ ra)); clear Ea ma ea fa ga ka HB; have Ea := n0_; have ma := n1_; have ea := n2_; have fa := n3_; have ga := n4_; have ka := n5_; have HB := n6_; have ha := n7_; have Kf := n8_; have La := n9_; have Bb := Ya; have fc := Za; have Cb := db; have gc := eb; have jb := fb; have kb := yb; have mb := zb; have nb := Ab; clear n0_ n1_ n2_ n3_ n4_ n5_ n6_ n7_ n8_ n9_ Ya Za db eb fb yb zb Ab; clear hb hbox hg))
      go_loopg [94] kj12 (fun kq v94 w' => ∃ (aa : Int) (Ia : Bool) (Ha : ByteArray) (Fa : ByteArray) (Ba : Bool) (Aa : ByteArray) (za : ByteArray) (Ga : Bool) (Da : ByteArray) (Ca : ByteArray), v94 = .int .i64 aa ∧ A0_ (oS'.l0 kq (wrap64 (Int.tmod a3 4)) Pa (wrap64 (a1)) (wrap64 (Int.tmod a2 40)) pa ba (ba.length : Int) aa oa qa ta Ia Ha Fa Ba Aa za Ga Da Ca = some r) ∧ A0_ (kq ≤ kj12) ∧ A0_ (Kd.R k26 26 w' w.heap.size (fun k_ => k_ ≠ la ∧ k_ ≠ ia ∧ k_ ≠ ja ∧ k_ ≠ ra ∧ k_ ≠ sa) nc pa) ∧ A0_ (Kd.R k28 28 w' w.heap.size (fun _ => True) (.slice ac ba.length qb) ba) ∧ A0_ (w'.heap[la]? = some (.cells #[.bool oa, .string qa, .string ta] 26 (0, 0))) ∧ A0_ (w'.heap[ia]? = some (.cells #[.bool ua, .string va, .string xa] 26 (0, 0))) ∧ A0_ (w'.heap[ja]? = some (.cells #[.bool Ia, .string Ha, .string Fa] 26 (0, 0))) ∧ A0_ (w'.heap[ra]? = some (.cells #[.bool Ba, .string Aa, .string za] 26 (0, 0))) ∧ A0_ (w'.heap[sa]? = some (.cells #[.bool Ga, .string Da, .string Ca] 26 (0, 0))) ∧ A0_ (Below w.heap.size w w'))
      case atStart => exact ⟨(0), (false), ((⟨#[]⟩ : ByteArray)), ((⟨#[]⟩ : ByteArray)), (false), ((⟨#[]⟩ : ByteArray)), ((⟨#[]⟩ : ByteArray)), (false), ((⟨#[]⟩ : ByteArray)), ((⟨#[]⟩ : ByteArray)), (rS_), H', ⟨Nat.le_refl _⟩, ⟨by (with_reducible repeat (first | apply Kd.R_alloc | apply Kd.rN_ | apply Kd.rD_)); exact Kd.rM_ ma.out (fun _ hk => ⟨hk.1.1.1.1, ⟨hk.1.1.1.2, ⟨hk.1.1.2, ⟨hk.1.2, hk.2⟩⟩⟩⟩)⟩, ⟨by (with_reducible repeat (first | apply Kd.R_alloc | apply Kd.rN_ | apply Kd.rD_)); exact Ea.out⟩, ⟨by (with_reducible repeat (first | apply kN_ | apply kD_ | apply kA_)); exact ea.out⟩, ⟨by (with_reducible repeat (first | apply kN_ | apply kD_ | apply kA_)); exact fa.out⟩, ⟨by (with_reducible repeat (first | apply kN_ | apply kD_ | apply kA_)); exact ga.out⟩, ⟨by (with_reducible repeat (first | apply kN_ | apply kD_ | apply kA_)); exact ka.out⟩, ⟨by (with_reducible repeat (first | apply kN_ | apply kD_ | apply kA_)); exact ha.out⟩, ⟨xB5_ HB wa ya Ja Ka La⟩⟩
      case round =>
       clear H'
       try clear c1
       try clear c2
       try clear p2
       try clear c3
       try clear p6
       try clear c9
       try clear pb
       try clear Zb
       try clear c17
       try clear c18
       try clear c21
       try clear c23
       try clear ub
       try clear Tb
       try clear c24
       try clear Cc
       try clear Dc
       try clear c25
       try clear Ec
       try clear Fc
       try clear c26
       try clear Gc
       try clear c27
       try clear c30
       try clear c34
       try clear oc
       try clear pc
       try clear qc
       try clear uc
       try clear vc
       try clear xc
       try clear Hc
       try clear Ic
       try clear Jc
       try clear Nc
       try clear Oc
       try clear Pc
       try clear Tc
       try clear Uc
       try clear Vc
       try clear Zc
       try clear ad
       try clear bd
       try clear rc
       try clear sc
       try clear tc
       try clear yc
       try clear zc
       try clear Ac
       try clear Kc
       try clear Lc
       try clear Mc
       try clear Qc
       try clear Rc
       try clear Sc
       try clear Wc
       try clear Xc
       try clear Yc
       try clear cd
       try clear dd
       try clear ed
       try clear p2
       try clear p6
       obtain ⟨aa, Ia, Ha, Fa, Ba, Aa, za, Ga, Da, Ca, rfl, HA, HK3, ma, na, ea, fa, ga, ka, ha, HB⟩ := hrel
       cases gk with
       | zero => exact absurd HA.out (by simp [oS'.l0])
       | succ k3 =>
        have H := HA.out
        clear HA
        simp only [oS'.l0] at H
        by_cases c38 : aa < (ba.length : Int)
        ·rw [if_pos c38] at H
         have Xd : decide (aa < (ba.length : Int)) = true := decide_eq_true c38
         clear c38
         by_cases c39 : 0 ≤ aa
         rotate_left
         ·rw [if_neg c39] at H
          exact absurd H (by simp)
         rw [if_pos c39] at H
         have gf : decide (0 ≤ aa) = true := decide_eq_true c39
         clear c39
         by_cases c40 : aa < (ba.length : Int)
         rotate_left
         ·rw [if_neg c40] at H
          exact absurd H (by simp)
         rw [if_pos c40] at H
         have hf : decide (aa < (ba.length : Int)) = true := decide_eq_true c40
         clear c40
         obtain ⟨jf, A41, H⟩ := oB_ H
         (try dsimp only at H)
         by_cases c42 : jf = true
         ·subst c42
          have H1 : (if ((r28_ ba aa).f0) = (wrap64 (Int.tmod a3 4)) then (oS'.j3 k3 (wrap64 (Int.tmod a3 4)) Pa (wrap64 (a1)) (wrap64 (Int.tmod a2 40)) pa aa ba (ba.length : Int) aa (((r28_ ba aa).f1) == Pa) oa qa ta Ia Ha Fa Ba Aa za Ga Da Ca ((r28_ ba aa).f0) ((r28_ ba aa).f1) ((r28_ ba aa).f2.f0) ((r28_ ba aa).f2.f1) ((r28_ ba aa).f2.f2) ((r28_ ba aa).f3) ((r28_ ba aa).f4) ((r28_ ba aa).f5)) else (oS'.j3 k3 (wrap64 (Int.tmod a3 4)) Pa (wrap64 (a1)) (wrap64 (Int.tmod a2 40)) pa aa ba (ba.length : Int) aa false oa qa ta Ia Ha Fa Ba Aa za Ga Da Ca ((r28_ ba aa).f0) ((r28_ ba aa).f1) ((r28_ ba aa).f2.f0) ((r28_ ba aa).f2.f1) ((r28_ ba aa).f2.f2) ((r28_ ba aa).f3) ((r28_ ba aa).f4) ((r28_ ba aa).f5))) = some r := by rw [if_pos rfl] at H; exact H
          clear H
          have H := H1
          clear H1
          have HC43 := A0_.mk H
          clear H
          have rb : 0 ≤ (aa : Int) := oD_
          have sb : aa < (ba.length : Int) := oD_
          obtain ⟨id, td, ud, vd, wd, xd, yd, zd, Ad, Bd⟩ := at_T28 (Kd.rr_' na.out).2.2 aa rb sb
          cases td
          replace rb := eq_true rb
          replace sb := eq_true sb
          go_upto_region 16 with (first | ((with_reducible refine gD_ (N := 26) rfl ?_); (try (refine gate_guard (by rfl) ?_; dsimp only)); refine bE_ ?hg (N := 26) ?hd (cs := #[.int .i64 0, .int .i64 0, .bool false, .string (⟨#[]⟩ : ByteArray), .string (⟨#[]⟩ : ByteArray), .int .i64 0, .int .i64 0, .bool false]) (t := 28) ?hr ?_; (case hd => rfl); (case hg => rfl); (case hr => first | (go_simp; done) | (go_simp; rfl)); intro da hg w44 hbox hb; have n0_ := A0_.mk (Kd.rB_ (xR_ ma.out) hb); have n1_ := A0_.mk (Kd.rB_ (Kd.R_elderB (xR_ na.out) da (Nat.le_of_eq hg.symm)) hb); have n2_ := A0_.mk (kB_ (g := la) (o := .cells #[.bool oa, .string qa, .string ta] 26 (0, 0)) (xK_ ea.out) hb); have n3_ := A0_.mk (kB_ (g := ia) (o := .cells #[.bool ua, .string va, .string xa] 26 (0, 0)) (xK_ fa.out) hb); have n4_ := A0_.mk (kB_ (g := ja) (o := .cells #[.bool Ia, .string Ha, .string Fa] 26 (0, 0)) (xK_ ga.out) hb); have n5_ := A0_.mk (kB_ (g := ra) (o := .cells #[.bool Ba, .string Aa, .string za] 26 (0, 0)) (xK_ ka.out) hb); have n6_ := A0_.mk (kB_ (g := sa) (o := .cells #[.bool Ga, .string Da, .string Ca] 26 (0, 0)) (xK_ ha.out) hb); have n7_ := A0_.mk (bT_ (xB5_ HB wa ya Ja Ka La) hb); have n8_ := A0_.mk (hbox); have n9_ := A0_.mk ((by rw [hg]; exact (bZ_ (xB5_ HB wa ya Ja Ka La)) : w.heap.size ≤ da)); have Ya := A0_.mk ((by rw [hg]; exact (bZ_ (xB5_ HB wa ya Ja Ka La)) : w.heap.size ≤ da)); have Za := A0_.mk ((by rw [hg]; exact Nat.ne_of_lt (blk_lt (g := la) (o := .cells #[.bool oa, .string qa, .string ta] 26 (0, 0)) (xK_ ea.out)) : la ≠ da)); have db := A0_.mk ((by rw [hg]; exact Nat.ne_of_gt (blk_lt (g := la) (o := .cells #[.bool oa, .string qa, .string ta] 26 (0, 0)) (xK_ ea.out)) : da ≠ la)); have eb := A0_.mk ((by rw [hg]; exact Nat.ne_of_lt (blk_lt (g := ia) (o := .cells #[.bool ua, .string va, .string xa] 26 (0, 0)) (xK_ fa.out)) : ia ≠ da)); have fb := A0_.mk ((by rw [hg]; exact Nat.ne_of_gt (blk_lt (g := ia) (o := .cells #[.bool ua, .string va, .string xa] 26 (0, 0)) (xK_ fa.out)) : da ≠ ia)); have yb := A0_.mk ((by rw [hg]; exact Nat.ne_of_lt (blk_lt (g := ja) (o := .cells #[.bool Ia, .string Ha, .string Fa] 26 (0, 0)) (xK_ ga.out)) : ja ≠ da)); have zb := A0_.mk ((by rw [hg]; exact Nat.ne_of_gt (blk_lt (g := ja) (o := .cells #[.bool Ia, .string Ha, .string Fa] 26 (0, 0)) (xK_ ga.out)) : da ≠ ja)); have Ab := A0_.mk ((by rw [hg]; exact Nat.ne_of_lt (blk_lt (g := ra) (o := .cells #[.bool Ba, .string Aa, .string za] 26 (0, 0)) (xK_ ka.out)) : ra ≠ da)); have hc := A0_.mk ((by rw [hg]; exact Nat.ne_of_gt (blk_lt (g := ra) (o := .cells #[.bool Ba, .string Aa, .string za] 26 (0, 0)) (xK_ ka.out)) : da ≠ ra)); have ic := A0_.mk ((by rw [hg]; exact Nat.ne_of_lt (blk_lt (g := sa) (o := .cells #[.bool Ga, .string Da, .string Ca] 26 (0, 0)) (xK_ ha.out)) : sa ≠ da)); have jc := A0_.mk ((by rw [hg]; exact Nat.ne_of_gt (blk_lt (g := sa) (o := .cells #[.bool Ga, .string Da, .string Ca] 26 (0, 0)) (xK_ ha.out)) : da ≠ sa)); clear ma na ea fa ga ka ha HB; have ma := n0_; have na := n1_; have ea := n2_; have fa := n3_; have ga := n4_; have ka := n5_; have ha := n6_; have HB := n7_; have ca := n8_; have kf := n9_; have Xa := Ya; have Qa := Za; have Db := db; have Ra := eb; have Eb := fb; have Ma := yb; have ab := zb; have Na := Ab; have ob := hc; have Oa := ic; have bb := jc; clear n0_ n1_ n2_ n3_ n4_ n5_ n6_ n7_ n8_ n9_ Ya Za db eb fb yb zb Ab hc ic jc; clear hb hbox hg; have hnb45 := Db.out; have hnc45 := Qa.out; have hnb46 := Eb.out; have hnc46 := Ra.out; have hnb47 := ab.out; have hnc47 := Ma.out; have hnb48 := ob.out; have hnc48 := Na.out; have hnb49 := bb.out; have hnc49 := Oa.out; have Yd : w44.cell? ⟨da, 0, none⟩ = some (.int .i64 0) := (kc_ ca.out 0).trans rfl; have ae : w44.cell? ⟨da, 1, none⟩ = some (.int .i64 0) := (kc_ ca.out 1).trans rfl; have be : w44.cell? ⟨da, 2, none⟩ = some (.bool false) := (kc_ ca.out 2).trans rfl; have ce : w44.cell? ⟨da, 3, none⟩ = some (.string (⟨#[]⟩ : ByteArray)) := (kc_ ca.out 3).trans rfl; have de : w44.cell? ⟨da, 4, none⟩ = some (.string (⟨#[]⟩ : ByteArray)) := (kc_ ca.out 4).trans rfl; have ee : w44.cell? ⟨da, 5, none⟩ = some (.int .i64 0) := (kc_ ca.out 5).trans rfl; have fe : w44.cell? ⟨da, 6, none⟩ = some (.int .i64 0) := (kc_ ca.out 6).trans rfl; have ge : w44.cell? ⟨da, 7, none⟩ = some (.bool false) := (kc_ ca.out 7).trans rfl; have he := kF_ ca.out 0; have ie := kF_ ca.out 1; have je := kF_ ca.out 2; have ke := kF_ ca.out 3; have le := kF_ ca.out 4; have me := kF_ ca.out 5; have ne := kF_ ca.out 6; have oe := kF_ ca.out 7) | ((with_reducible refine gC_ (f := 13) rfl ?_); refine gL_ (some 102) rfl rfl Tryd.func13 kr_ rfl #[.agg #[.int .i64 ((r28_ ba aa).f0), .int .i64 ((r28_ ba aa).f1), .bool ((r28_ ba aa).f2.f0), .string ((r28_ ba aa).f2.f1), .string ((r28_ ba aa).f2.f2), .int .i64 ((r28_ ba aa).f3), .int .i64 ((r28_ ba aa).f4), .bool ((r28_ ba aa).f5)], .int .i64 (wrap64 (a1)), .int .i64 (wrap64 (Int.tmod a2 40))] rfl mp_ ?_; (with_reducible refine (so_Eligible.calls ((r28_ ba aa).f0) ((r28_ ba aa).f1) ((r28_ ba aa).f2.f0) ((r28_ ba aa).f2.f1) ((r28_ ba aa).f2.f2) ((r28_ ba aa).f3) ((r28_ ba aa).f4) ((r28_ ba aa).f5) (wrap64 (a1)) (wrap64 (Int.tmod a2 40)) true _ A41.out).mono ?_); rintro e w51 ⟨rfl, hb⟩; refine ⟨_, rfl, ?_⟩; have n0_ := A0_.mk (Kd.rB_ (by (with_reducible repeat (first | apply Kd.R_alloc | apply Kd.rN_ | apply Kd.rD_)); exact (Kd.rM_ (Kd.rF_ (p := ⟨da, 7, none⟩) (Kd.rF_ (p := ⟨da, 6, none⟩) (Kd.rF_ (p := ⟨da, 5, none⟩) (Kd.rF_ (p := ⟨da, 4, none⟩) (Kd.rF_ (p := ⟨da, 3, none⟩) (Kd.rF_ (p := ⟨da, 2, none⟩) (Kd.rF_ (p := ⟨da, 1, none⟩) (Kd.rF_ (p := ⟨da, 0, none⟩) (Kd.R_types ma.out ca.out (by decide)) (fun _ hk => hk.2) (.int .i64 ((r28_ ba aa).f0))) (fun _ hk => hk.2) (.int .i64 ((r28_ ba aa).f1))) (fun _ hk => hk.2) (.bool ((r28_ ba aa).f2.f0))) (fun _ hk => hk.2) (.string ((r28_ ba aa).f2.f1))) (fun _ hk => hk.2) (.string ((r28_ ba aa).f2.f2))) (fun _ hk => hk.2) (.int .i64 ((r28_ ba aa).f3))) (fun _ hk => hk.2) (.int .i64 ((r28_ ba aa).f4))) (fun _ hk => hk.2) (.bool ((r28_ ba aa).f5))) (fun _ h_ => h_.1))) hb); have n1_ := A0_.mk (Kd.rB_ (by (with_reducible repeat (first | apply Kd.R_alloc | apply Kd.rN_ | apply Kd.rD_)); exact (Kd.rM_ (Kd.rF_ (p := ⟨da, 7, none⟩) (Kd.rF_ (p := ⟨da, 6, none⟩) (Kd.rF_ (p := ⟨da, 5, none⟩) (Kd.rF_ (p := ⟨da, 4, none⟩) (Kd.rF_ (p := ⟨da, 3, none⟩) (Kd.rF_ (p := ⟨da, 2, none⟩) (Kd.rF_ (p := ⟨da, 1, none⟩) (Kd.rF_ (p := ⟨da, 0, none⟩) (Kd.rM_ na.out (fun k_ hk => (⟨hk, hk.2⟩ : _ ∧ k_ ≠ da))) (fun _ hk => hk.2) (.int .i64 ((r28_ ba aa).f0))) (fun _ hk => hk.2) (.int .i64 ((r28_ ba aa).f1))) (fun _ hk => hk.2) (.bool ((r28_ ba aa).f2.f0))) (fun _ hk => hk.2) (.string ((r28_ ba aa).f2.f1))) (fun _ hk => hk.2) (.string ((r28_ ba aa).f2.f2))) (fun _ hk => hk.2) (.int .i64 ((r28_ ba aa).f3))) (fun _ hk => hk.2) (.int .i64 ((r28_ ba aa).f4))) (fun _ hk => hk.2) (.bool ((r28_ ba aa).f5))) (fun _ h_ => h_.1))) hb); have n2_ := A0_.mk (kB_ (g := la) (o := .cells #[.bool oa, .string qa, .string ta] 26 (0, 0)) (by (with_reducible repeat (first | apply kN_ | apply kD_ | apply kA_)); refine bf_ ?_ Qa.out _; (with_reducible repeat (first | apply kN_ | apply kD_ | apply kA_)); refine bf_ ?_ Qa.out _; (with_reducible repeat (first | apply kN_ | apply kD_ | apply kA_)); refine bf_ ?_ Qa.out _; (with_reducible repeat (first | apply kN_ | apply kD_ | apply kA_)); refine bf_ ?_ Qa.out _; (with_reducible repeat (first | apply kN_ | apply kD_ | apply kA_)); refine bf_ ?_ Qa.out _; (with_reducible repeat (first | apply kN_ | apply kD_ | apply kA_)); refine bf_ ?_ Qa.out _; (with_reducible repeat (first | apply kN_ | apply kD_ | apply kA_)); refine bf_ ?_ Qa.out _; (with_reducible repeat (first | apply kN_ | apply kD_ | apply kA_)); refine bf_ ?_ Qa.out _; (with_reducible repeat (first | apply kN_ | apply kD_ | apply kA_)); exact ea.out) hb); have n3_ := A0_.mk (kB_ (g := ia) (o := .cells #[.bool ua, .string va, .string xa] 26 (0, 0)) (by (with_reducible repeat (first | apply kN_ | apply kD_ | apply kA_)); refine bf_ ?_ Ra.out _; (with_reducible repeat (first | apply kN_ | apply kD_ | apply kA_)); refine bf_ ?_ Ra.out _; (with_reducible repeat (first | apply kN_ | apply kD_ | apply kA_)); refine bf_ ?_ Ra.out _; (with_reducible repeat (first | apply kN_ | apply kD_ | apply kA_)); refine bf_ ?_ Ra.out _; (with_reducible repeat (first | apply kN_ | apply kD_ | apply kA_)); refine bf_ ?_ Ra.out _; (with_reducible repeat (first | apply kN_ | apply kD_ | apply kA_)); refine bf_ ?_ Ra.out _; (with_reducible repeat (first | apply kN_ | apply kD_ | apply kA_)); refine bf_ ?_ Ra.out _; (with_reducible repeat (first | apply kN_ | apply kD_ | apply kA_)); refine bf_ ?_ Ra.out _; (with_reducible repeat (first | apply kN_ | apply kD_ | apply kA_)); exact fa.out) hb); have n4_ := A0_.mk (kB_ (g := ja) (o := .cells #[.bool Ia, .string Ha, .string Fa] 26 (0, 0)) (by (with_reducible repeat (first | apply kN_ | apply kD_ | apply kA_)); refine bf_ ?_ Ma.out _; (with_reducible repeat (first | apply kN_ | apply kD_ | apply kA_)); refine bf_ ?_ Ma.out _; (with_reducible repeat (first | apply kN_ | apply kD_ | apply kA_)); refine bf_ ?_ Ma.out _; (with_reducible repeat (first | apply kN_ | apply kD_ | apply kA_)); refine bf_ ?_ Ma.out _; (with_reducible repeat (first | apply kN_ | apply kD_ | apply kA_)); refine bf_ ?_ Ma.out _; (with_reducible repeat (first | apply kN_ | apply kD_ | apply kA_)); refine bf_ ?_ Ma.out _; (with_reducible repeat (first | apply kN_ | apply kD_ | apply kA_)); refine bf_ ?_ Ma.out _; (with_reducible repeat (first | apply kN_ | apply kD_ | apply kA_)); refine bf_ ?_ Ma.out _; (with_reducible repeat (first | apply kN_ | apply kD_ | apply kA_)); exact ga.out) hb); have n5_ := A0_.mk (kB_ (g := ra) (o := .cells #[.bool Ba, .string Aa, .string za] 26 (0, 0)) (by (with_reducible repeat (first | apply kN_ | apply kD_ | apply kA_)); refine bf_ ?_ Na.out _; (with_reducible repeat (first | apply kN_ | apply kD_ | apply kA_)); refine bf_ ?_ Na.out _; (with_reducible repeat (first | apply kN_ | apply kD_ | apply kA_)); refine bf_ ?_ Na.out _; (with_reducible repeat (first | apply kN_ | apply kD_ | apply kA_)); refine bf_ ?_ Na.out _; (with_reducible repeat (first | apply kN_ | apply kD_ | apply kA_)); refine bf_ ?_ Na.out _; (with_reducible repeat (first | apply kN_ | apply kD_ | apply kA_)); refine bf_ ?_ Na.out _; (with_reducible repeat (first | apply kN_ | apply kD_ | apply kA_)); refine bf_ ?_ Na.out _; (with_reducible repeat (first | apply kN_ | apply kD_ | apply kA_)); refine bf_ ?_ Na.out _; (with_reducible repeat (first | apply kN_ | apply kD_ | apply kA_)); exact ka.out) hb); have n6_ := A0_.mk (kB_ (g := sa) (o := .cells #[.bool Ga, .string Da, .string Ca] 26 (0, 0)) (by (with_reducible repeat (first | apply kN_ | apply kD_ | apply kA_)); refine bf_ ?_ Oa.out _; (with_reducible repeat (first | apply kN_ | apply kD_ | apply kA_)); refine bf_ ?_ Oa.out _; (with_reducible repeat (first | apply kN_ | apply kD_ | apply kA_)); refine bf_ ?_ Oa.out _; (with_reducible repeat (first | apply kN_ | apply kD_ | apply kA_)); refine bf_ ?_ Oa.out _; (with_reducible repeat (first | apply kN_ | apply kD_ | apply kA_)); refine bf_ ?_ Oa.out _; (with_reducible repeat (first | apply kN_ | apply kD_ | apply kA_)); refine bf_ ?_ Oa.out _; (with_reducible repeat (first | apply kN_ | apply kD_ | apply kA_)); refine bf_ ?_ Oa.out _; (with_reducible repeat (first | apply kN_ | apply kD_ | apply kA_)); refine bf_ ?_ Oa.out _; (with_reducible repeat (first | apply kN_ | apply kD_ | apply kA_)); exact ha.out) hb); have n7_ := A0_.mk (kB_ (g := da) (o := .cells #[.int .i64 ((r28_ ba aa).f0), .int .i64 ((r28_ ba aa).f1), .bool ((r28_ ba aa).f2.f0), .string ((r28_ ba aa).f2.f1), .string ((r28_ ba aa).f2.f2), .int .i64 ((r28_ ba aa).f3), .int .i64 ((r28_ ba aa).f4), .bool ((r28_ ba aa).f5)] 28 (0, 0)) (by (with_reducible repeat (first | apply kN_ | apply kD_ | apply kA_)); refine kP_ (cs := #[.int .i64 ((r28_ ba aa).f0), .int .i64 ((r28_ ba aa).f1), .bool ((r28_ ba aa).f2.f0), .string ((r28_ ba aa).f2.f1), .string ((r28_ ba aa).f2.f2), .int .i64 ((r28_ ba aa).f3), .int .i64 ((r28_ ba aa).f4), .bool false]) ?_ 7 _ rfl; (with_reducible repeat (first | apply kN_ | apply kD_ | apply kA_)); refine kP_ (cs := #[.int .i64 ((r28_ ba aa).f0), .int .i64 ((r28_ ba aa).f1), .bool ((r28_ ba aa).f2.f0), .string ((r28_ ba aa).f2.f1), .string ((r28_ ba aa).f2.f2), .int .i64 ((r28_ ba aa).f3), .int .i64 0, .bool false]) ?_ 6 _ rfl; (with_reducible repeat (first | apply kN_ | apply kD_ | apply kA_)); refine kP_ (cs := #[.int .i64 ((r28_ ba aa).f0), .int .i64 ((r28_ ba aa).f1), .bool ((r28_ ba aa).f2.f0), .string ((r28_ ba aa).f2.f1), .string ((r28_ ba aa).f2.f2), .int .i64 0, .int .i64 0, .bool false]) ?_ 5 _ rfl; (with_reducible repeat (first | apply kN_ | apply kD_ | apply kA_)); refine kP_ (cs := #[.int .i64 ((r28_ ba aa).f0), .int .i64 ((r28_ ba aa).f1), .bool ((r28_ ba aa).f2.f0), .string ((r28_ ba aa).f2.f1), .string (⟨#[]⟩ : ByteArray), .int .i64 0, .int .i64 0, .bool false]) ?_ 4 _ rfl; (with_reducible repeat (first | apply kN_ | apply kD_ | apply kA_)); refine kP_ (cs := #[.int .i64 ((r28_ ba aa).f0), .int .i64 ((r28_ ba aa).f1), .bool ((r28_ ba aa).f2.f0), .string (⟨#[]⟩ : ByteArray), .string (⟨#[]⟩ : ByteArray), .int .i64 0, .int .i64 0, .bool false]) ?_ 3 _ rfl; (with_reducible repeat (first | apply kN_ | apply kD_ | apply kA_)); refine kP_ (cs := #[.int .i64 ((r28_ ba aa).f0), .int .i64 ((r28_ ba aa).f1), .bool false, .string (⟨#[]⟩ : ByteArray), .string (⟨#[]⟩ : ByteArray), .int .i64 0, .int .i64 0, .bool false]) ?_ 2 _ rfl; (with_reducible repeat (first | apply kN_ | apply kD_ | apply kA_)); refine kP_ (cs := #[.int .i64 ((r28_ ba aa).f0), .int .i64 0, .bool false, .string (⟨#[]⟩ : ByteArray), .string (⟨#[]⟩ : ByteArray), .int .i64 0, .int .i64 0, .bool false]) ?_ 1 _ rfl; (with_reducible repeat (first | apply kN_ | apply kD_ | apply kA_)); refine kP_ (cs := #[.int .i64 0, .int .i64 0, .bool false, .string (⟨#[]⟩ : ByteArray), .string (⟨#[]⟩ : ByteArray), .int .i64 0, .int .i64 0, .bool false]) ?_ 0 _ rfl; (with_reducible repeat (first | apply kN_ | apply kD_ | apply kA_)); exact ca.out) hb); have n8_ := A0_.mk (bT_ (xB6_ HB wa ya Ja Ka La Xa) hb); clear ma na ea fa ga ka ha ca HB; have ma := n0_; have na := n1_; have ea := n2_; have fa := n3_; have ga := n4_; have ka := n5_; have ha := n6_; have ca := n7_; have HB := n8_; clear n0_ n1_ n2_ n3_ n4_ n5_ n6_ n7_ n8_; (try clear hb); (try clear hb2); (try clear hk); (try clear hi)))
          (try simp only [Act.put, s1_, s2_, s3_])
          go_cut [113] (fun lf wc => ∃ (kq : Nat) (jd : Bool), lf = .bool jd ∧ A0_ (oS'.j3 kq (wrap64 (Int.tmod a3 4)) Pa (wrap64 (a1)) (wrap64 (Int.tmod a2 40)) pa aa ba (ba.length : Int) aa jd oa qa ta Ia Ha Fa Ba Aa za Ga Da Ca ((r28_ ba aa).f0) ((r28_ ba aa).f1) ((r28_ ba aa).f2.f0) ((r28_ ba aa).f2.f1) ((r28_ ba aa).f2.f2) ((r28_ ba aa).f3) ((r28_ ba aa).f4) ((r28_ ba aa).f5) = some r) ∧ A0_ (kq ≤ k3) ∧ A0_ (Kd.R k26 26 wc w.heap.size (fun k_ => k_ ≠ la ∧ k_ ≠ ia ∧ k_ ≠ ja ∧ k_ ≠ ra ∧ k_ ≠ sa) nc pa) ∧ A0_ (Kd.R k28 28 wc w.heap.size (fun k_ => k_ ≠ da) (.slice (some id) ba.length qb) ba) ∧ A0_ (wc.heap[la]? = some (.cells #[.bool oa, .string qa, .string ta] 26 (0, 0))) ∧ A0_ (wc.heap[ia]? = some (.cells #[.bool ua, .string va, .string xa] 26 (0, 0))) ∧ A0_ (wc.heap[ja]? = some (.cells #[.bool Ia, .string Ha, .string Fa] 26 (0, 0))) ∧ A0_ (wc.heap[ra]? = some (.cells #[.bool Ba, .string Aa, .string za] 26 (0, 0))) ∧ A0_ (wc.heap[sa]? = some (.cells #[.bool Ga, .string Da, .string Ca] 26 (0, 0))) ∧ A0_ (wc.heap[da]? = some (.cells #[.int .i64 ((r28_ ba aa).f0), .int .i64 ((r28_ ba aa).f1), .bool ((r28_ ba aa).f2.f0), .string ((r28_ ba aa).f2.f1), .string ((r28_ ba aa).f2.f2), .int .i64 ((r28_ ba aa).f3), .int .i64 ((r28_ ba aa).f4), .bool ((r28_ ba aa).f5)] 28 (0, 0))) ∧ A0_ (Below w.heap.size w wc))
          case first =>
           have H := HC43.out
           clear HC43
           by_cases c52 : ((r28_ ba aa).f0) = (wrap64 (Int.tmod a3 4))
           ·rw [if_pos c52] at H
            have Ub : (((r28_ ba aa).f0) == (wrap64 (Int.tmod a3 4))) = true := beq_iff_eq.mpr c52
            have kd : (((r28_ ba aa).f0) != (wrap64 (Int.tmod a3 4))) = false := bne_eq_false_iff_eq.mpr c52
            clear c52
            (first | rw [Ub] | rw [kd] | (simp only [i6_, i3_]; rw [Ub]) | skip)
            have H' := A0_.mk H
            clear H
            have hnb53 := Db.out
            have hnc53 := Qa.out
            have hnb54 := Eb.out
            have hnc54 := Ra.out
            have hnb55 := ab.out
            have hnc55 := Ma.out
            have hnb56 := ob.out
            have hnc56 := Na.out
            have hnb57 := bb.out
            have hnc57 := Oa.out
            have pe : w51.cell? ⟨da, 0, none⟩ = some (.int .i64 ((r28_ ba aa).f0)) := (kc_ ca.out 0).trans rfl
            have qe : w51.cell? ⟨da, 1, none⟩ = some (.int .i64 ((r28_ ba aa).f1)) := (kc_ ca.out 1).trans rfl
            have re : w51.cell? ⟨da, 2, none⟩ = some (.bool ((r28_ ba aa).f2.f0)) := (kc_ ca.out 2).trans rfl
            have se : w51.cell? ⟨da, 3, none⟩ = some (.string ((r28_ ba aa).f2.f1)) := (kc_ ca.out 3).trans rfl
            have te : w51.cell? ⟨da, 4, none⟩ = some (.string ((r28_ ba aa).f2.f2)) := (kc_ ca.out 4).trans rfl
            have ue : w51.cell? ⟨da, 5, none⟩ = some (.int .i64 ((r28_ ba aa).f3)) := (kc_ ca.out 5).trans rfl
            have ve : w51.cell? ⟨da, 6, none⟩ = some (.int .i64 ((r28_ ba aa).f4)) := (kc_ ca.out 6).trans rfl
            have we : w51.cell? ⟨da, 7, none⟩ = some (.bool ((r28_ ba aa).f5)) := (kc_ ca.out 7).trans rfl
            have xe := kF_ ca.out 0
            have ye := kF_ ca.out 1
            have ze := kF_ ca.out 2
            have Ae := kF_ ca.out 3
            have Be := kF_ ca.out 4
            have Ce := kF_ ca.out 5
            have De := kF_ ca.out 6
            have Ee := kF_ ca.out 7
            go_wp2
            go_meet
            case rel => exact ⟨_, ((((r28_ ba aa).f1) == Pa)), (rS_), H', ⟨by have := HJ6.out; have := HJ12.out; have := HK3.out; first | omega | exact Nat.le_refl _⟩, ⟨by (with_reducible repeat (first | apply Kd.R_alloc | apply Kd.rN_ | apply Kd.rD_)); exact ma.out⟩, ⟨by (with_reducible repeat (first | apply Kd.R_alloc | apply Kd.rN_ | apply Kd.rD_)); exact Kd.rM_ na.out (fun _ hk => hk.2)⟩, ⟨by (with_reducible repeat (first | apply kN_ | apply kD_ | apply kA_)); exact ea.out⟩, ⟨by (with_reducible repeat (first | apply kN_ | apply kD_ | apply kA_)); exact fa.out⟩, ⟨by (with_reducible repeat (first | apply kN_ | apply kD_ | apply kA_)); exact ga.out⟩, ⟨by (with_reducible repeat (first | apply kN_ | apply kD_ | apply kA_)); exact ka.out⟩, ⟨by (with_reducible repeat (first | apply kN_ | apply kD_ | apply kA_)); exact ha.out⟩, ⟨by (with_reducible repeat (first | apply kN_ | apply kD_ | apply kA_)); exact ca.out⟩, ⟨xB6_ HB wa ya Ja Ka La Xa⟩⟩
           ·rw [if_neg c52] at H
            have Ub : (((r28_ ba aa).f0) == (wrap64 (Int.tmod a3 4))) = false := beq_eq_false_iff_ne.mpr c52
            have kd : (((r28_ ba aa).f0) != (wrap64 (Int.tmod a3 4))) = true := bne_iff_ne.mpr c52
            (first | rw [Ub] | rw [kd] | (simp only [i6_, i3_]; rw [Ub]) | skip)
            have H' := A0_.mk H
            clear H
            have hnb59 := Db.out
            have hnc59 := Qa.out
            have hnb60 := Eb.out
            have hnc60 := Ra.out
            have hnb61 := ab.out
            have hnc61 := Ma.out
            have hnb62 := ob.out
            have hnc62 := Na.out
            have hnb63 := bb.out
            have hnc63 := Oa.out
            have Fe : w51.cell? ⟨da, 0, none⟩ = some (.int .i64 ((r28_ ba aa).f0)) := (kc_ ca.out 0).trans rfl
            have Ge : w51.cell? ⟨da, 1, none⟩ = some (.int .i64 ((r28_ ba aa).f1)) := (kc_ ca.out 1).trans rfl
            have He : w51.cell? ⟨da, 2, none⟩ = some (.bool ((r28_ ba aa).f2.f0)) := (kc_ ca.out 2).trans rfl
            have Ie : w51.cell? ⟨da, 3, none⟩ = some (.string ((r28_ ba aa).f2.f1)) := (kc_ ca.out 3).trans rfl
            have Je : w51.cell? ⟨da, 4, none⟩ = some (.string ((r28_ ba aa).f2.f2)) := (kc_ ca.out 4).trans rfl
            have Ke : w51.cell? ⟨da, 5, none⟩ = some (.int .i64 ((r28_ ba aa).f3)) := (kc_ ca.out 5).trans rfl
            have Le : w51.cell? ⟨da, 6, none⟩ = some (.int .i64 ((r28_ ba aa).f4)) := (kc_ ca.out 6).trans rfl
            have Me : w51.cell? ⟨da, 7, none⟩ = some (.bool ((r28_ ba aa).f5)) := (kc_ ca.out 7).trans rfl
            have Oe := kF_ ca.out 0
            have Pe := kF_ ca.out 1
            have Qe := kF_ ca.out 2
            have Re := kF_ ca.out 3
            have Se := kF_ ca.out 4
            have Te := kF_ ca.out 5
            have Ue := kF_ ca.out 6
            have Ve := kF_ ca.out 7
            go_wp2
            go_meet
            case rel => exact ⟨_, (false), (rS_), H', ⟨by have := HJ6.out; have := HJ12.out; have := HK3.out; first | omega | exact Nat.le_refl _⟩, ⟨by (with_reducible repeat (first | apply Kd.R_alloc | apply Kd.rN_ | apply Kd.rD_)); exact ma.out⟩, ⟨by (with_reducible repeat (first | apply Kd.R_alloc | apply Kd.rN_ | apply Kd.rD_)); exact Kd.rM_ na.out (fun _ hk => hk.2)⟩, ⟨by (with_reducible repeat (first | apply kN_ | apply kD_ | apply kA_)); exact ea.out⟩, ⟨by (with_reducible repeat (first | apply kN_ | apply kD_ | apply kA_)); exact fa.out⟩, ⟨by (with_reducible repeat (first | apply kN_ | apply kD_ | apply kA_)); exact ga.out⟩, ⟨by (with_reducible repeat (first | apply kN_ | apply kD_ | apply kA_)); exact ka.out⟩, ⟨by (with_reducible repeat (first | apply kN_ | apply kD_ | apply kA_)); exact ha.out⟩, ⟨by (with_reducible repeat (first | apply kN_ | apply kD_ | apply kA_)); exact ca.out⟩, ⟨xB6_ HB wa ya Ja Ka La Xa⟩⟩
          case rest =>
           clear HC43
           try clear c1
           try clear c2
           try clear p2
           try clear c3
           try clear c4
           try clear c5
           try clear c6
           try clear p6
           try clear c9
           try clear pb
           try clear Zb
           try clear p9
           try clear q9
           try clear hx9
           try clear c13
           try clear c17
           try clear c18
           try clear c21
           try clear c23
           try clear ub
           try clear Tb
           try clear c24
           try clear Cc
           try clear Dc
           try clear c25
           try clear Ec
           try clear Fc
           try clear c26
           try clear Gc
           try clear c27
           try clear c30
           try clear c34
           try clear c38
           try clear Xd
           try clear c39
           try clear gf
           try clear c40
           try clear hf
           try clear c42
           try clear c45
           try clear c46
           try clear c47
           try clear c48
           try clear c49
           try clear c52
           try clear Ub
           try clear kd
           try clear c53
           try clear c54
           try clear c55
           try clear c56
           try clear c57
           try clear c59
           try clear c60
           try clear c61
           try clear c62
           try clear c63
           try clear p64
           try clear oc
           try clear pc
           try clear qc
           try clear uc
           try clear vc
           try clear xc
           try clear Hc
           try clear Ic
           try clear Jc
           try clear Nc
           try clear Oc
           try clear Pc
           try clear Tc
           try clear Uc
           try clear Vc
           try clear Zc
           try clear ad
           try clear bd
           try clear Yd
           try clear ae
           try clear be
           try clear ce
           try clear de
           try clear ee
           try clear fe
           try clear ge
           try clear pe
           try clear qe
           try clear re
           try clear se
           try clear te
           try clear ue
           try clear ve
           try clear we
           try clear Fe
           try clear Ge
           try clear He
           try clear Ie
           try clear Je
           try clear Ke
           try clear Le
           try clear Me
           try clear rc
           try clear sc
           try clear tc
           try clear yc
           try clear zc
           try clear Ac
           try clear Kc
           try clear Lc
           try clear Mc
           try clear Qc
           try clear Rc
           try clear Sc
           try clear Wc
           try clear Xc
           try clear Yc
           try clear cd
           try clear dd
           try clear ed
           try clear he
           try clear ie
           try clear je
           try clear ke
           try clear le
           try clear me
           try clear ne
           try clear oe
           try clear xe
           try clear ye
           try clear ze
           try clear Ae
           try clear Be
           try clear Ce
           try clear De
           try clear Ee
           try clear Oe
           try clear Pe
           try clear Qe
           try clear Re
           try clear Se
           try clear Te
           try clear Ue
           try clear Ve
           try clear ud
           try clear vd
           try clear wd
           try clear xd
           try clear yd
           try clear zd
           try clear Ad
           try clear Bd
           try clear p2
           try clear p6
           try clear rb
           try clear sb
           obtain ⟨kq, jd, rfl, HA, HJ42, ma, na, ea, fa, ga, ka, ha, ca, HB⟩ := hcut
           cases kq with
           | zero => exact absurd HA.out (by simp [oS'.j3])
           | succ kj42 =>
            have H := HA.out
            clear HA
            simp only [oS'.j3] at H
            have HC65 := A0_.mk H
            clear H
            go_upto_if 113 with (fail)
            go_cut [] (fun wc => ∃ (kq : Nat) (Ib : Bool) (Jb : ByteArray) (Kb : ByteArray) (Lb : Bool) (Mb : ByteArray) (Nb : ByteArray), A0_ (oS'.j4 kq (wrap64 (Int.tmod a3 4)) Pa (wrap64 (a1)) (wrap64 (Int.tmod a2 40)) pa aa ba (ba.length : Int) aa oa qa ta Ib Jb Kb Ba Aa za Lb Mb Nb ((r28_ ba aa).f0) ((r28_ ba aa).f1) ((r28_ ba aa).f2.f0) ((r28_ ba aa).f2.f1) ((r28_ ba aa).f2.f2) ((r28_ ba aa).f3) ((r28_ ba aa).f4) ((r28_ ba aa).f5) = some r) ∧ A0_ (kq ≤ kj42) ∧ A0_ (Kd.R k26 26 wc w.heap.size (fun k_ => k_ ≠ la ∧ k_ ≠ ia ∧ k_ ≠ ja ∧ k_ ≠ ra ∧ k_ ≠ sa) nc pa) ∧ A0_ (Kd.R k28 28 wc w.heap.size (fun k_ => k_ ≠ da) (.slice (some id) ba.length qb) ba) ∧ A0_ (wc.heap[la]? = some (.cells #[.bool oa, .string qa, .string ta] 26 (0, 0))) ∧ A0_ (wc.heap[ia]? = some (.cells #[.bool ua, .string va, .string xa] 26 (0, 0))) ∧ A0_ (wc.heap[ja]? = some (.cells #[.bool Ib, .string Jb, .string Kb] 26 (0, 0))) ∧ A0_ (wc.heap[ra]? = some (.cells #[.bool Ba, .string Aa, .string za] 26 (0, 0))) ∧ A0_ (wc.heap[sa]? = some (.cells #[.bool Lb, .string Mb, .string Nb] 26 (0, 0))) ∧ A0_ (wc.heap[da]? = some (.cells #[.int .i64 ((r28_ ba aa).f0), .int .i64 ((r28_ ba aa).f1), .bool ((r28_ ba aa).f2.f0), .string ((r28_ ba aa).f2.f1), .string ((r28_ ba aa).f2.f2), .int .i64 ((r28_ ba aa).f3), .int .i64 ((r28_ ba aa).f4), .bool ((r28_ ba aa).f5)] 28 (0, 0))) ∧ A0_ (Below w.heap.size w wc))
            case first =>
             have H := HC65.out
             clear HC65
             by_cases c66 : jd = true
             ·subst c66
              have H1 : (if 0 ≤ aa then (if aa < (pa.length : Int) then ((q_Add.f kj42 Ia Ha Fa ((r26_ pa aa).f0) ((r26_ pa aa).f1) ((r26_ pa aa).f2)).bind fun Cd => ((q_Subtract.f kj42 ((r28_ ba aa).f2.f0) ((r28_ ba aa).f2.f1) ((r28_ ba aa).f2.f2) ((r26_ pa aa).f0) ((r26_ pa aa).f1) ((r26_ pa aa).f2)).bind fun Dd => ((q_Add.f kj42 Ga Da Ca Dd.1 Dd.2.1 Dd.2.2).bind fun Ed => (oS'.j4 kj42 (wrap64 (Int.tmod a3 4)) Pa (wrap64 (a1)) (wrap64 (Int.tmod a2 40)) pa aa ba (ba.length : Int) aa oa qa ta Cd.1 Cd.2.1 Cd.2.2 Ba Aa za Ed.1 Ed.2.1 Ed.2.2 ((r28_ ba aa).f0) ((r28_ ba aa).f1) ((r28_ ba aa).f2.f0) ((r28_ ba aa).f2.f1) ((r28_ ba aa).f2.f2) ((r28_ ba aa).f3) ((r28_ ba aa).f4) ((r28_ ba aa).f5))))) else (none)) else (none)) = some r := by rw [if_pos rfl] at H; exact H
              clear H
              have H := H1
              clear H1
              by_cases c67 : 0 ≤ aa
              rotate_left
              ·rw [if_neg c67] at H
               exact absurd H (by simp)
              rw [if_pos c67] at H
              have Fd : decide (0 ≤ aa) = true := decide_eq_true c67
              clear c67
              (first | rw [Fd] | rw [mf] | (simp only [i6_, i3_]; rw [Fd]) | skip)
              by_cases c68 : aa < (pa.length : Int)
              rotate_left
              ·rw [if_neg c68] at H
               exact absurd H (by simp)
              rw [if_pos c68] at H
              have nf : decide (aa < (pa.length : Int)) = true := decide_eq_true c68
              clear c68
              obtain ⟨⟨Ta, Va, Wa⟩, A69, H⟩ := oB_ H
              (try dsimp only at H)
              obtain ⟨⟨Gd, Hd, Jd⟩, A70, H⟩ := oB_ H
              (try dsimp only at H)
              obtain ⟨⟨Vb, kc, ld⟩, A71, H⟩ := oB_ H
              (try dsimp only at H)
              have H' := A0_.mk H
              clear H
              try go_wp2
              have n0_ := A0_.mk (Kd.rD_ ma.out)
              have n1_ := A0_.mk (Kd.rD_ na.out)
              have n2_ := A0_.mk (kD_ ea.out)
              have n3_ := A0_.mk (kD_ fa.out)
              have n4_ := A0_.mk (kD_ ga.out)
              have n5_ := A0_.mk (kD_ ka.out)
              have n6_ := A0_.mk (kD_ ha.out)
              have n7_ := A0_.mk (kD_ ca.out)
              have n8_ := A0_.mk (b1_ HB.out)
              clear ma
              clear na
              clear ea
              clear fa
              clear ga
              clear ka
              clear ha
              clear ca
              clear HB
              have ma := n0_
              have na := n1_
              have ea := n2_
              have fa := n3_
              have ga := n4_
              have ka := n5_
              have ha := n6_
              have ca := n7_
              have HB := n8_
              clear n0_ n1_ n2_ n3_ n4_ n5_ n6_ n7_ n8_
              obtain ⟨Lf, pf, We⟩ := Kd.rS_' ma.out
              (first | subst We | (injection We with f1_ f2_ f3_; have f4_ := f1_.symm; have f5_ := f3_.symm; clear f1_ f2_ f3_; subst f4_; subst f5_))
              have md : 0 ≤ (aa : Int) := oD_
              have nd : aa < (pa.length : Int) := oD_
              obtain ⟨cb, qf, Ld, Md, Nd⟩ := at_T26 (Kd.rr_' ma.out).2.2 aa md nd
              cases qf
              replace md := eq_true md
              replace nd := eq_true nd
              refine start_ (n := 7) (S := fun w' => w'.cell? ⟨ja, 0, none⟩ = some (.bool Ia) ∧ w'.cell? ⟨ja, 1, none⟩ = some (.string Ha) ∧ w'.cell? ⟨ja, 2, none⟩ = some (.string Fa) ∧ w'.cell? (cb.add ((aa).toNat * 3)) = some (.bool ((r26_ pa aa).f0)) ∧ w'.cell? ⟨(cb.add ((aa).toNat * 3)).block, (cb.add ((aa).toNat * 3)).off + 1, none⟩ = some (.string ((r26_ pa aa).f1)) ∧ w'.cell? ⟨(cb.add ((aa).toNat * 3)).block, (cb.add ((aa).toNat * 3)).off + 2, none⟩ = some (.string ((r26_ pa aa).f2))) (ds := [6]) #[false, false, false, false, false, false, false] kr_ rfl rfl ⟨(kc_ ga.out 0).trans rfl, (kc_ ga.out 1).trans rfl, (kc_ ga.out 2).trans rfl, Ld, Md, Nd⟩ (fun hHeld => ?_)
              generalize wc.drew = w72 at ma na ea fa ga ka ha ca HB Ld Md Nd hHeld ⊢
              refine pu_ (i := 1) (N := some 115) (v := ?_) (a' := ?_) #[false, true, false, false, false, false, false] rfl rfl kr_ (fun _ _ _ h => h) (Or.inl ⟨by rfl, ?_⟩) ?_ ?_
              rotate_left
              ·intro w'
               go_simp
               with_reducible rfl
              rotate_left
              ·simp only [Act.put, s1_, s2_, s3_, i6_, i3_]
               rfl
              refine pu_ (i := 2) (N := some 116) (v := ?_) (a' := ?_) #[false, true, true, false, false, false, false] rfl rfl kr_ (fun _ _ _ h => h) (Or.inl ⟨by rfl, ?_⟩) ?_ ?_
              rotate_left
              ·intro w'
               go_simp
               with_reducible rfl
              rotate_left
              ·simp only [Act.put, s1_, s2_, s3_, i6_, i3_]
               rfl
              refine pu_ (i := 3) (N := some 117) (v := ?_) (a' := ?_) #[false, true, true, true, false, false, false] rfl rfl kr_ (fun _ _ _ h => h) (Or.inl ⟨by rfl, ?_⟩) ?_ ?_
              rotate_left
              ·intro w'
               go_simp
               with_reducible rfl
              rotate_left
              ·simp only [Act.put, s1_, s2_, s3_, i6_, i3_]
               rfl
              refine take_ (i := 0) (N := some 114) (v := ?_) (a' := ?_) #[true, true, true, true, false, false, false] rfl rfl kr_ (fun _ _ _ h => h) (Or.inl ⟨by rfl, ?_⟩) hHeld ?_ ?_
              rotate_left
              ·rintro w' ⟨s0, s1, s2, s3, s4, s5⟩
               go_simp
               with_reducible rfl
              rotate_left
              ·simp only [Act.put, s1_, s2_, s3_, i6_, i3_]
               rfl
              refine take_ (i := 4) (N := some 118) (v := ?_) (a' := ?_) #[true, true, true, true, true, false, false] rfl rfl kr_ (fun _ _ _ h => h) (Or.inl ⟨by rfl, ?_⟩) hHeld ?_ ?_
              rotate_left
              ·rintro w' ⟨s0, s1, s2, s3, s4, s5⟩
               go_simp
               with_reducible rfl
              rotate_left
              ·simp only [Act.put, s1_, s2_, s3_, i6_, i3_]
               rfl
              refine one_ (i := 5) (N := some 119) #[true, true, true, true, true, true, false] rfl rfl kr_ (by decide) (fun K hK => ?_)
              refine goes_ Tryd.func24 kr_ rfl #[.agg #[.bool Ia, .string Ha, .string Fa], .agg #[.bool ((r26_ pa aa).f0), .string ((r26_ pa aa).f1), .string ((r26_ pa aa).f2)]] (by rfl) rfl rfl mp_ ?_
              with_reducible refine (q_Add.calls kj42 Ia Ha Fa ((r26_ pa aa).f0) ((r26_ pa aa).f1) ((r26_ pa aa).f2) Ta Va Wa _ A69.out).mono ?_
              rintro e w74 ⟨rfl, hb⟩
              have HS3_ := (hb.cell (World.block_lt_of_cell? _ _ (hHeld.2.2.2.1))).trans (hHeld.2.2.2.1)
              have HS4_ := (hb.cell (World.block_lt_of_cell? _ _ (hHeld.2.2.2.2.1))).trans (hHeld.2.2.2.2.1)
              have HS5_ := (hb.cell (World.block_lt_of_cell? _ _ (hHeld.2.2.2.2.2))).trans (hHeld.2.2.2.2.2)
              refine ⟨_, rfl, ?_⟩
              have n0_ := A0_.mk (Kd.rB_ (xR_ ma.out) hb)
              have n1_ := A0_.mk (Kd.rB_ (xR_ na.out) hb)
              have n2_ := A0_.mk (kB_ (g := la) (o := .cells #[.bool oa, .string qa, .string ta] 26 (0, 0)) (xK_ ea.out) hb)
              have n3_ := A0_.mk (kB_ (g := ia) (o := .cells #[.bool ua, .string va, .string xa] 26 (0, 0)) (xK_ fa.out) hb)
              have n4_ := A0_.mk (kB_ (g := ja) (o := .cells #[.bool Ia, .string Ha, .string Fa] 26 (0, 0)) (xK_ ga.out) hb)
              have n5_ := A0_.mk (kB_ (g := ra) (o := .cells #[.bool Ba, .string Aa, .string za] 26 (0, 0)) (xK_ ka.out) hb)
              have n6_ := A0_.mk (kB_ (g := sa) (o := .cells #[.bool Ga, .string Da, .string Ca] 26 (0, 0)) (xK_ ha.out) hb)
              have n7_ := A0_.mk (kB_ (g := da) (o := .cells #[.int .i64 ((r28_ ba aa).f0), .int .i64 ((r28_ ba aa).f1), .bool ((r28_ ba aa).f2.f0), .string ((r28_ ba aa).f2.f1), .string ((r28_ ba aa).f2.f2), .int .i64 ((r28_ ba aa).f3), .int .i64 ((r28_ ba aa).f4), .bool ((r28_ ba aa).f5)] 28 (0, 0)) (xK_ ca.out) hb)
              have n8_ := A0_.mk (bT_ (xB6_ HB wa ya Ja Ka La Xa) hb)
              clear ma
              clear na
              clear ea
              clear fa
              clear ga
              clear ka
              clear ha
              clear ca
              clear HB
              have ma := n0_
              have na := n1_
              have ea := n2_
              have fa := n3_
              have ga := n4_
              have ka := n5_
              have ha := n6_
              have ca := n7_
              have HB := n8_
              clear n0_ n1_ n2_ n3_ n4_ n5_ n6_ n7_ n8_
              (try clear hb)
              (try clear hb2)
              (try clear hk)
              (try clear hi)
              refine hK.out _ _ ⟨(kc_ ga.out 0).trans rfl, (kc_ ga.out 1).trans rfl, (kc_ ga.out 2).trans rfl, HS3_, HS4_, HS5_⟩ (fun hHeld => ?_)
              clear hK K
              refine norm_ (a' := ?_) ?_ ?_
              rotate_left
              ·show Act.put _ (some 119) _ = _
               simp only [Act.put, s1_, s2_, s3_, i6_, i3_]
               rfl
              refine last_ (i := 6) (N := none) #[true, true, true, true, true, true, true] rfl rfl kr_ (by decide) (fun K hK => ?_)
              have Mf : w74.cell? ⟨ja, 0, none⟩ = some (.bool Ia) := (kc_ ga.out 0).trans rfl
              have hfs75 := kF_ ga.out 0
              have hns75_0 := vb.out
              have hns75_1 := wb.out
              have hns75_3 := ib.out
              have hns75_4 := kb.out
              have hns75_5 := ab.out
              have hms75_0 := cc.out
              have hms75_1 := dc.out
              have hms75_3 := gb.out
              have hms75_4 := jb.out
              have hms75_5 := Ma.out
              have Nf : w74.cell? ⟨ja, 1, none⟩ = some (.string Ha) := (kc_ ga.out 1).trans rfl
              have hfs76 := kF_ ga.out 1
              have hns76_0 := vb.out
              have hns76_1 := wb.out
              have hns76_3 := ib.out
              have hns76_4 := kb.out
              have hns76_5 := ab.out
              have hms76_0 := cc.out
              have hms76_1 := dc.out
              have hms76_3 := gb.out
              have hms76_4 := jb.out
              have hms76_5 := Ma.out
              have Of : w74.cell? ⟨ja, 2, none⟩ = some (.string Fa) := (kc_ ga.out 2).trans rfl
              have hfs77 := kF_ ga.out 2
              have hns77_0 := vb.out
              have hns77_1 := wb.out
              have hns77_3 := ib.out
              have hns77_4 := kb.out
              have hns77_5 := ab.out
              have hms77_0 := cc.out
              have hms77_1 := dc.out
              have hms77_3 := gb.out
              have hms77_4 := jb.out
              have hms77_5 := Ma.out
              refine skip_ (w1 := ?_) (by rfl) rfl ?_ ?_
              rotate_left
              ·go_simp
               rfl
              refine hK.out _ _ ?_
              clear hK K
              refine done_ kr_ ?_
              try go_wp2
              have n0_ : A0_ (Kd.R k26 26 (((w74.setCell ⟨ja, 0, none⟩ (.bool Ta)).setCell ⟨ja, 1, none⟩ (.string Va)).setCell ⟨ja, 2, none⟩ (.string Wa)) w.heap.size (fun k_ => k_ ≠ la ∧ k_ ≠ ia ∧ k_ ≠ ja ∧ k_ ≠ ra ∧ k_ ≠ sa) (.slice (some cb) pa.length pf) pa) := ⟨by (with_reducible repeat (first | apply Kd.R_alloc | apply Kd.rN_ | apply Kd.rD_)); exact Kd.rM_ (Kd.rF_ (p := ⟨ja, 2, none⟩) (Kd.rF_ (p := ⟨ja, 1, none⟩) (Kd.rF_ (p := ⟨ja, 0, none⟩) (Kd.rM_ ma.out (fun k_ hk => (⟨hk, hk.2.2.1⟩ : _ ∧ k_ ≠ ja))) (fun _ hk => hk.2) (.bool Ta)) (fun _ hk => hk.2) (.string Va)) (fun _ hk => hk.2) (.string Wa)) (fun _ hk => ⟨hk.1.1, ⟨hk.1.2.1, ⟨hk.1.2.2.1, ⟨hk.1.2.2.2.1, hk.1.2.2.2.2⟩⟩⟩⟩)⟩
              have n1_ : A0_ (Kd.R k28 28 (((w74.setCell ⟨ja, 0, none⟩ (.bool Ta)).setCell ⟨ja, 1, none⟩ (.string Va)).setCell ⟨ja, 2, none⟩ (.string Wa)) w.heap.size (fun k_ => k_ ≠ da) (.slice (some id) ba.length qb) ba) := ⟨by (with_reducible repeat (first | apply Kd.R_alloc | apply Kd.rN_ | apply Kd.rD_)); exact Kd.rM_ (Kd.rF_ (p := ⟨ja, 2, none⟩) (Kd.rF_ (p := ⟨ja, 1, none⟩) (Kd.rF_ (p := ⟨ja, 0, none⟩) (Kd.R_types na.out ga.out (by decide)) (fun _ hk => hk.2) (.bool Ta)) (fun _ hk => hk.2) (.string Va)) (fun _ hk => hk.2) (.string Wa)) (fun _ hk => hk.1)⟩
              have n2_ : A0_ ((((w74.setCell ⟨ja, 0, none⟩ (.bool Ta)).setCell ⟨ja, 1, none⟩ (.string Va)).setCell ⟨ja, 2, none⟩ (.string Wa)).heap[la]? = some (.cells #[.bool oa, .string qa, .string ta] 26 (0, 0))) := ⟨by (with_reducible repeat (first | apply kN_ | apply kD_ | apply kA_)); refine bf_ ?_ vb.out _; (with_reducible repeat (first | apply kN_ | apply kD_ | apply kA_)); refine bf_ ?_ vb.out _; (with_reducible repeat (first | apply kN_ | apply kD_ | apply kA_)); refine bf_ ?_ vb.out _; (with_reducible repeat (first | apply kN_ | apply kD_ | apply kA_)); exact ea.out⟩
              have n3_ : A0_ ((((w74.setCell ⟨ja, 0, none⟩ (.bool Ta)).setCell ⟨ja, 1, none⟩ (.string Va)).setCell ⟨ja, 2, none⟩ (.string Wa)).heap[ia]? = some (.cells #[.bool ua, .string va, .string xa] 26 (0, 0))) := ⟨by (with_reducible repeat (first | apply kN_ | apply kD_ | apply kA_)); refine bf_ ?_ wb.out _; (with_reducible repeat (first | apply kN_ | apply kD_ | apply kA_)); refine bf_ ?_ wb.out _; (with_reducible repeat (first | apply kN_ | apply kD_ | apply kA_)); refine bf_ ?_ wb.out _; (with_reducible repeat (first | apply kN_ | apply kD_ | apply kA_)); exact fa.out⟩
              have n4_ : A0_ ((((w74.setCell ⟨ja, 0, none⟩ (.bool Ta)).setCell ⟨ja, 1, none⟩ (.string Va)).setCell ⟨ja, 2, none⟩ (.string Wa)).heap[ja]? = some (.cells #[.bool Ta, .string Va, .string Wa] 26 (0, 0))) := ⟨by (with_reducible repeat (first | apply kN_ | apply kD_ | apply kA_)); refine kP_ (cs := #[.bool Ta, .string Va, .string Fa]) ?_ 2 _ rfl; (with_reducible repeat (first | apply kN_ | apply kD_ | apply kA_)); refine kP_ (cs := #[.bool Ta, .string Ha, .string Fa]) ?_ 1 _ rfl; (with_reducible repeat (first | apply kN_ | apply kD_ | apply kA_)); refine kP_ (cs := #[.bool Ia, .string Ha, .string Fa]) ?_ 0 _ rfl; (with_reducible repeat (first | apply kN_ | apply kD_ | apply kA_)); exact ga.out⟩
              have n5_ : A0_ ((((w74.setCell ⟨ja, 0, none⟩ (.bool Ta)).setCell ⟨ja, 1, none⟩ (.string Va)).setCell ⟨ja, 2, none⟩ (.string Wa)).heap[ra]? = some (.cells #[.bool Ba, .string Aa, .string za] 26 (0, 0))) := ⟨by (with_reducible repeat (first | apply kN_ | apply kD_ | apply kA_)); refine bf_ ?_ ib.out _; (with_reducible repeat (first | apply kN_ | apply kD_ | apply kA_)); refine bf_ ?_ ib.out _; (with_reducible repeat (first | apply kN_ | apply kD_ | apply kA_)); refine bf_ ?_ ib.out _; (with_reducible repeat (first | apply kN_ | apply kD_ | apply kA_)); exact ka.out⟩
              have n6_ : A0_ ((((w74.setCell ⟨ja, 0, none⟩ (.bool Ta)).setCell ⟨ja, 1, none⟩ (.string Va)).setCell ⟨ja, 2, none⟩ (.string Wa)).heap[sa]? = some (.cells #[.bool Ga, .string Da, .string Ca] 26 (0, 0))) := ⟨by (with_reducible repeat (first | apply kN_ | apply kD_ | apply kA_)); refine bf_ ?_ kb.out _; (with_reducible repeat (first | apply kN_ | apply kD_ | apply kA_)); refine bf_ ?_ kb.out _; (with_reducible repeat (first | apply kN_ | apply kD_ | apply kA_)); refine bf_ ?_ kb.out _; (with_reducible repeat (first | apply kN_ | apply kD_ | apply kA_)); exact ha.out⟩
              have n7_ : A0_ ((((w74.setCell ⟨ja, 0, none⟩ (.bool Ta)).setCell ⟨ja, 1, none⟩ (.string Va)).setCell ⟨ja, 2, none⟩ (.string Wa)).heap[da]? = some (.cells #[.int .i64 ((r28_ ba aa).f0), .int .i64 ((r28_ ba aa).f1), .bool ((r28_ ba aa).f2.f0), .string ((r28_ ba aa).f2.f1), .string ((r28_ ba aa).f2.f2), .int .i64 ((r28_ ba aa).f3), .int .i64 ((r28_ ba aa).f4), .bool ((r28_ ba aa).f5)] 28 (0, 0))) := ⟨by (with_reducible repeat (first | apply kN_ | apply kD_ | apply kA_)); refine bf_ ?_ ab.out _; (with_reducible repeat (first | apply kN_ | apply kD_ | apply kA_)); refine bf_ ?_ ab.out _; (with_reducible repeat (first | apply kN_ | apply kD_ | apply kA_)); refine bf_ ?_ ab.out _; (with_reducible repeat (first | apply kN_ | apply kD_ | apply kA_)); exact ca.out⟩
              have n8_ : A0_ (Below w.heap.size w (((w74.setCell ⟨ja, 0, none⟩ (.bool Ta)).setCell ⟨ja, 1, none⟩ (.string Va)).setCell ⟨ja, 2, none⟩ (.string Wa))) := ⟨xB6_ HB wa ya Ja Ka La Xa⟩
              (try clear ma)
              (try clear na)
              (try clear ea)
              (try clear fa)
              (try clear ga)
              (try clear ka)
              (try clear ha)
              (try clear ca)
              (try clear HB)
              generalize (((w74.setCell ⟨ja, 0, none⟩ (.bool Ta)).setCell ⟨ja, 1, none⟩ (.string Va)).setCell ⟨ja, 2, none⟩ (.string Wa)) = w78 at n0_ n1_ n2_ n3_ n4_ n5_ n6_ n7_ n8_ ⊢
              have ma := n0_
              have na := n1_
              have ea := n2_
              have fa := n3_
              have ga := n4_
              have ka := n5_
              have ha := n6_
              have ca := n7_
              have HB := n8_
              clear n0_ n1_ n2_ n3_ n4_ n5_ n6_ n7_ n8_
              have n0_ := A0_.mk (Kd.rD_ ma.out)
              have n1_ := A0_.mk (Kd.rD_ na.out)
              have n2_ := A0_.mk (kD_ ea.out)
              have n3_ := A0_.mk (kD_ fa.out)
              have n4_ := A0_.mk (kD_ ga.out)
              have n5_ := A0_.mk (kD_ ka.out)
              have n6_ := A0_.mk (kD_ ha.out)
              have n7_ := A0_.mk (kD_ ca.out)
              have n8_ := A0_.mk (b1_ HB.out)
              clear ma
              clear na
              clear ea
              clear fa
              clear ga
              clear ka
              clear ha
              clear ca
              clear HB
              have ma := n0_
              have na := n1_
              have ea := n2_
              have fa := n3_
              have ga := n4_
              have ka := n5_
              have ha := n6_
              have ca := n7_
              have HB := n8_
              clear n0_ n1_ n2_ n3_ n4_ n5_ n6_ n7_ n8_
              have od : 0 ≤ (aa : Int) := oD_
              have pd : aa < (pa.length : Int) := oD_
              obtain ⟨rf, sf, Od, Pd, Qd⟩ := at_T26 (Kd.rr_' ma.out).2.2 aa od pd
              obtain rfl : cb = rf := (by injection sf)
              replace od := eq_true od
              replace pd := eq_true pd
              refine start_ (n := 10) (S := fun w' => w'.cell? ⟨sa, 0, none⟩ = some (.bool Ga) ∧ w'.cell? ⟨sa, 1, none⟩ = some (.string Da) ∧ w'.cell? ⟨sa, 2, none⟩ = some (.string Ca) ∧ w'.cell? ⟨da, 0, none⟩ = some (.int .i64 ((r28_ ba aa).f0)) ∧ w'.cell? ⟨da, 1, none⟩ = some (.int .i64 ((r28_ ba aa).f1)) ∧ w'.cell? ⟨da, 2, none⟩ = some (.bool ((r28_ ba aa).f2.f0)) ∧ w'.cell? ⟨da, 3, none⟩ = some (.string ((r28_ ba aa).f2.f1)) ∧ w'.cell? ⟨da, 4, none⟩ = some (.string ((r28_ ba aa).f2.f2)) ∧ w'.cell? ⟨da, 5, none⟩ = some (.int .i64 ((r28_ ba aa).f3)) ∧ w'.cell? ⟨da, 6, none⟩ = some (.int .i64 ((r28_ ba aa).f4)) ∧ w'.cell? ⟨da, 7, none⟩ = some (.bool ((r28_ ba aa).f5)) ∧ w'.cell? (cb.add ((aa).toNat * 3)) = some (.bool ((r26_ pa aa).f0)) ∧ w'.cell? ⟨(cb.add ((aa).toNat * 3)).block, (cb.add ((aa).toNat * 3)).off + 1, none⟩ = some (.string ((r26_ pa aa).f1)) ∧ w'.cell? ⟨(cb.add ((aa).toNat * 3)).block, (cb.add ((aa).toNat * 3)).off + 2, none⟩ = some (.string ((r26_ pa aa).f2))) (ds := [9]) #[false, false, false, false, false, false, false, false, false, false] kr_ rfl rfl ⟨(kc_ ha.out 0).trans rfl, (kc_ ha.out 1).trans rfl, (kc_ ha.out 2).trans rfl, (kc_ ca.out 0).trans rfl, (kc_ ca.out 1).trans rfl, (kc_ ca.out 2).trans rfl, (kc_ ca.out 3).trans rfl, (kc_ ca.out 4).trans rfl, (kc_ ca.out 5).trans rfl, (kc_ ca.out 6).trans rfl, (kc_ ca.out 7).trans rfl, Od, Pd, Qd⟩ (fun hHeld => ?_); refine with_tabW oS'.tab18 oS'.bits18 (fun HT_ HW_ => ?_)
              generalize w78.drew = w79 at ma na ea fa ga ka ha ca HB Od Pd Qd hHeld ⊢
              refine pu_ (i := 1) (N := some 121) (v := ?_) (a' := ?_) #[false, true, false, false, false, false, false, false, false, false] rfl rfl (an_ HT_.out kr_) (fun _ _ _ h => h) (Or.inl ⟨by rfl, ?_⟩) ?_ ?_
              rotate_left
              ·intro w'
               go_simp
               with_reducible rfl
              rotate_left
              ·simp only [Act.put, s1_, s2_, s3_, i6_, i3_]
               rfl
              refine pu_ (i := 3) (N := some 123) (v := ?_) (a' := ?_) #[false, true, false, true, false, false, false, false, false, false] rfl rfl (an_ HT_.out kr_) (fun _ _ _ h => h) (Or.inl ⟨by rfl, ?_⟩) ?_ ?_
              rotate_left
              ·intro w'
               go_simp
               with_reducible rfl
              rotate_left
              ·simp only [Act.put, s1_, s2_, s3_, i6_, i3_]
               rfl
              refine pu_ (i := 4) (N := some 124) (v := ?_) (a' := ?_) #[false, true, false, true, true, false, false, false, false, false] rfl rfl (an_ HT_.out kr_) (fun _ _ _ h => h) (Or.inl ⟨by rfl, ?_⟩) ?_ ?_
              rotate_left
              ·intro w'
               go_simp
               with_reducible rfl
              rotate_left
              ·simp only [Act.put, s1_, s2_, s3_, i6_, i3_]
               rfl
              refine pu_ (i := 5) (N := some 125) (v := ?_) (a' := ?_) #[false, true, false, true, true, true, false, false, false, false] rfl rfl (an_ HT_.out kr_) (fun _ _ _ h => h) (Or.inl ⟨by rfl, ?_⟩) ?_ ?_
              rotate_left
              ·intro w'
               go_simp
               with_reducible rfl
              rotate_left
              ·simp only [Act.put, s1_, s2_, s3_, i6_, i3_]
               rfl
              refine take_ (i := 0) (N := some 120) (v := ?_) (a' := ?_) #[true, true, false, true, true, true, false, false, false, false] rfl rfl (tW_ HT_.out HW_.out kr_) (fun _ _ _ h => h) (Or.inl ⟨by rfl, ?_⟩) hHeld ?_ ?_
              rotate_left
              ·rintro w' ⟨s0, s1, s2, s3, s4, s5, s6, s7, s8, s9, s10, s11, s12, s13⟩
               go_simp
               with_reducible rfl
              rotate_left
              ·simp only [Act.put, s1_, s2_, s3_, i6_, i3_]
               rfl
              refine take_ (i := 2) (N := some 122) (v := ?_) (a' := ?_) #[true, true, true, true, true, true, false, false, false, false] rfl rfl (tW_ HT_.out HW_.out kr_) (fun _ _ _ h => h) (Or.inl ⟨by rfl, ?_⟩) hHeld ?_ ?_
              rotate_left
              ·rintro w' ⟨s0, s1, s2, s3, s4, s5, s6, s7, s8, s9, s10, s11, s12, s13⟩
               go_simp
               with_reducible rfl
              rotate_left
              ·simp only [Act.put, s1_, s2_, s3_, i6_, i3_]
               rfl
              refine take_ (i := 6) (N := some 126) (v := ?_) (a' := ?_) #[true, true, true, true, true, true, true, false, false, false] rfl rfl (tW_ HT_.out HW_.out kr_) (fun _ _ _ h => h) (Or.inl ⟨by rfl, ?_⟩) hHeld ?_ ?_
              rotate_left
              ·rintro w' ⟨s0, s1, s2, s3, s4, s5, s6, s7, s8, s9, s10, s11, s12, s13⟩
               go_simp
               with_reducible rfl
              rotate_left
              ·simp only [Act.put, s1_, s2_, s3_, i6_, i3_]
               rfl
              refine one_ (i := 7) (N := some 127) #[true, true, true, true, true, true, true, true, false, false] rfl rfl (one_of HT_.out kr_) (by decide) (fun K hK => ?_)
              refine goes_ Tryd.func25 kr_ rfl #[.agg #[.bool ((r28_ ba aa).f2.f0), .string ((r28_ ba aa).f2.f1), .string ((r28_ ba aa).f2.f2)], .agg #[.bool ((r26_ pa aa).f0), .string ((r26_ pa aa).f1), .string ((r26_ pa aa).f2)]] (by rfl) rfl rfl mp_ ?_
              with_reducible refine (q_Subtract.calls kj42 ((r28_ ba aa).f2.f0) ((r28_ ba aa).f2.f1) ((r28_ ba aa).f2.f2) ((r26_ pa aa).f0) ((r26_ pa aa).f1) ((r26_ pa aa).f2) Gd Hd Jd _ A70.out).mono ?_
              rintro e w80 ⟨rfl, hb⟩
              have HS11_ := (hb.cell (World.block_lt_of_cell? _ _ (hHeld.2.2.2.2.2.2.2.2.2.2.2.1))).trans (hHeld.2.2.2.2.2.2.2.2.2.2.2.1)
              have HS12_ := (hb.cell (World.block_lt_of_cell? _ _ (hHeld.2.2.2.2.2.2.2.2.2.2.2.2.1))).trans (hHeld.2.2.2.2.2.2.2.2.2.2.2.2.1)
              have HS13_ := (hb.cell (World.block_lt_of_cell? _ _ (hHeld.2.2.2.2.2.2.2.2.2.2.2.2.2))).trans (hHeld.2.2.2.2.2.2.2.2.2.2.2.2.2)
              refine ⟨_, rfl, ?_⟩
              have n0_ := A0_.mk (Kd.rB_ (xR_ ma.out) hb)
              have n1_ := A0_.mk (Kd.rB_ (xR_ na.out) hb)
              have n2_ := A0_.mk (kB_ (g := la) (o := .cells #[.bool oa, .string qa, .string ta] 26 (0, 0)) (xK_ ea.out) hb)
              have n3_ := A0_.mk (kB_ (g := ia) (o := .cells #[.bool ua, .string va, .string xa] 26 (0, 0)) (xK_ fa.out) hb)
              have n4_ := A0_.mk (kB_ (g := ja) (o := .cells #[.bool Ta, .string Va, .string Wa] 26 (0, 0)) (xK_ ga.out) hb)
              have n5_ := A0_.mk (kB_ (g := ra) (o := .cells #[.bool Ba, .string Aa, .string za] 26 (0, 0)) (xK_ ka.out) hb)
              have n6_ := A0_.mk (kB_ (g := sa) (o := .cells #[.bool Ga, .string Da, .string Ca] 26 (0, 0)) (xK_ ha.out) hb)
              have n7_ := A0_.mk (kB_ (g := da) (o := .cells #[.int .i64 ((r28_ ba aa).f0), .int .i64 ((r28_ ba aa).f1), .bool ((r28_ ba aa).f2.f0), .string ((r28_ ba aa).f2.f1), .string ((r28_ ba aa).f2.f2), .int .i64 ((r28_ ba aa).f3), .int .i64 ((r28_ ba aa).f4), .bool ((r28_ ba aa).f5)] 28 (0, 0)) (xK_ ca.out) hb)
              have n8_ := A0_.mk (bT_ (xB6_ HB wa ya Ja Ka La Xa) hb)
              clear ma
              clear na
              clear ea
              clear fa
              clear ga
              clear ka
              clear ha
              clear ca
              clear HB
              have ma := n0_
              have na := n1_
              have ea := n2_
              have fa := n3_
              have ga := n4_
              have ka := n5_
              have ha := n6_
              have ca := n7_
              have HB := n8_
              clear n0_ n1_ n2_ n3_ n4_ n5_ n6_ n7_ n8_
              (try clear hb)
              (try clear hb2)
              (try clear hk)
              (try clear hi)
              refine hK.out _ _ ⟨(kc_ ha.out 0).trans rfl, (kc_ ha.out 1).trans rfl, (kc_ ha.out 2).trans rfl, (kc_ ca.out 0).trans rfl, (kc_ ca.out 1).trans rfl, (kc_ ca.out 2).trans rfl, (kc_ ca.out 3).trans rfl, (kc_ ca.out 4).trans rfl, (kc_ ca.out 5).trans rfl, (kc_ ca.out 6).trans rfl, (kc_ ca.out 7).trans rfl, HS11_, HS12_, HS13_⟩ (fun hHeld => ?_)
              clear hK K
              refine norm_ (a' := ?_) ?_ ?_
              rotate_left
              ·show Act.put _ (some 127) _ = _
               simp only [Act.put, s1_, s2_, s3_, i6_, i3_]
               rfl
              refine one_ (i := 8) (N := some 128) #[true, true, true, true, true, true, true, true, true, false] rfl rfl (one_of HT_.out kr_) (by decide) (fun K hK => ?_)
              refine goes_ Tryd.func24 kr_ rfl #[.agg #[.bool Ga, .string Da, .string Ca], .agg #[.bool Gd, .string Hd, .string Jd]] (by rfl) rfl rfl mp_ ?_
              with_reducible refine (q_Add.calls kj42 Ga Da Ca Gd Hd Jd Vb kc ld _ A71.out).mono ?_
              rintro e w81 ⟨rfl, hb⟩
              have HS11_ := (hb.cell (World.block_lt_of_cell? _ _ (hHeld.2.2.2.2.2.2.2.2.2.2.2.1))).trans (hHeld.2.2.2.2.2.2.2.2.2.2.2.1)
              have HS12_ := (hb.cell (World.block_lt_of_cell? _ _ (hHeld.2.2.2.2.2.2.2.2.2.2.2.2.1))).trans (hHeld.2.2.2.2.2.2.2.2.2.2.2.2.1)
              have HS13_ := (hb.cell (World.block_lt_of_cell? _ _ (hHeld.2.2.2.2.2.2.2.2.2.2.2.2.2))).trans (hHeld.2.2.2.2.2.2.2.2.2.2.2.2.2)
              refine ⟨_, rfl, ?_⟩
              have n0_ := A0_.mk (Kd.rB_ (xR_ ma.out) hb)
              have n1_ := A0_.mk (Kd.rB_ (xR_ na.out) hb)
              have n2_ := A0_.mk (kB_ (g := la) (o := .cells #[.bool oa, .string qa, .string ta] 26 (0, 0)) (xK_ ea.out) hb)
              have n3_ := A0_.mk (kB_ (g := ia) (o := .cells #[.bool ua, .string va, .string xa] 26 (0, 0)) (xK_ fa.out) hb)
              have n4_ := A0_.mk (kB_ (g := ja) (o := .cells #[.bool Ta, .string Va, .string Wa] 26 (0, 0)) (xK_ ga.out) hb)
              have n5_ := A0_.mk (kB_ (g := ra) (o := .cells #[.bool Ba, .string Aa, .string za] 26 (0, 0)) (xK_ ka.out) hb)
              have n6_ := A0_.mk (kB_ (g := sa) (o := .cells #[.bool Ga, .string Da, .string Ca] 26 (0, 0)) (xK_ ha.out) hb)
              have n7_ := A0_.mk (kB_ (g := da) (o := .cells #[.int .i64 ((r28_ ba aa).f0), .int .i64 ((r28_ ba aa).f1), .bool ((r28_ ba aa).f2.f0), .string ((r28_ ba aa).f2.f1), .string ((r28_ ba aa).f2.f2), .int .i64 ((r28_ ba aa).f3), .int .i64 ((r28_ ba aa).f4), .bool ((r28_ ba aa).f5)] 28 (0, 0)) (xK_ ca.out) hb)
              have n8_ := A0_.mk (bT_ (xB6_ HB wa ya Ja Ka La Xa) hb)
              clear ma
              clear na
              clear ea
              clear fa
              clear ga
              clear ka
              clear ha
              clear ca
              clear HB
              have ma := n0_
              have na := n1_
              have ea := n2_
              have fa := n3_
              have ga := n4_
              have ka := n5_
              have ha := n6_
              have ca := n7_
              have HB := n8_
              clear n0_ n1_ n2_ n3_ n4_ n5_ n6_ n7_ n8_
              (try clear hb)
              (try clear hb2)
              (try clear hk)
              (try clear hi)
              refine hK.out _ _ ⟨(kc_ ha.out 0).trans rfl, (kc_ ha.out 1).trans rfl, (kc_ ha.out 2).trans rfl, (kc_ ca.out 0).trans rfl, (kc_ ca.out 1).trans rfl, (kc_ ca.out 2).trans rfl, (kc_ ca.out 3).trans rfl, (kc_ ca.out 4).trans rfl, (kc_ ca.out 5).trans rfl, (kc_ ca.out 6).trans rfl, (kc_ ca.out 7).trans rfl, HS11_, HS12_, HS13_⟩ (fun hHeld => ?_)
              clear hK K
              refine norm_ (a' := ?_) ?_ ?_
              rotate_left
              ·show Act.put _ (some 128) _ = _
               simp only [Act.put, s1_, s2_, s3_, i6_, i3_]
               rfl
              refine last_ (i := 9) (N := none) #[true, true, true, true, true, true, true, true, true, true] rfl rfl (one_of HT_.out kr_) (by decide) (fun K hK => ?_)
              have Pf : w81.cell? ⟨sa, 0, none⟩ = some (.bool Ga) := (kc_ ha.out 0).trans rfl
              have hfs82 := kF_ ha.out 0
              have hns82_0 := Bb.out
              have hns82_1 := Cb.out
              have hns82_2 := jb.out
              have hns82_3 := mb.out
              have hns82_5 := bb.out
              have hms82_0 := fc.out
              have hms82_1 := gc.out
              have hms82_2 := kb.out
              have hms82_3 := nb.out
              have hms82_5 := Oa.out
              have Qf : w81.cell? ⟨sa, 1, none⟩ = some (.string Da) := (kc_ ha.out 1).trans rfl
              have hfs83 := kF_ ha.out 1
              have hns83_0 := Bb.out
              have hns83_1 := Cb.out
              have hns83_2 := jb.out
              have hns83_3 := mb.out
              have hns83_5 := bb.out
              have hms83_0 := fc.out
              have hms83_1 := gc.out
              have hms83_2 := kb.out
              have hms83_3 := nb.out
              have hms83_5 := Oa.out
              have Rf : w81.cell? ⟨sa, 2, none⟩ = some (.string Ca) := (kc_ ha.out 2).trans rfl
              have hfs84 := kF_ ha.out 2
              have hns84_0 := Bb.out
              have hns84_1 := Cb.out
              have hns84_2 := jb.out
              have hns84_3 := mb.out
              have hns84_5 := bb.out
              have hms84_0 := fc.out
              have hms84_1 := gc.out
              have hms84_2 := kb.out
              have hms84_3 := nb.out
              have hms84_5 := Oa.out
              refine skip_ (w1 := ?_) (by rfl) rfl ?_ ?_
              rotate_left
              ·go_simp
               rfl
              refine hK.out _ _ ?_
              clear hK K
              refine done_ (done_of HT_.out kr_) ?_
              try go_wp2
              go_meet
              case rel => exact ⟨_, (Ta), (Va), (Wa), (Vb), (kc), (ld), H', ⟨by have := HJ6.out; have := HJ12.out; have := HK3.out; have := HJ42.out; first | omega | exact Nat.le_refl _⟩, ⟨by (with_reducible repeat (first | apply Kd.R_alloc | apply Kd.rN_ | apply Kd.rD_)); exact Kd.rM_ (Kd.rF_ (p := ⟨sa, 2, none⟩) (Kd.rF_ (p := ⟨sa, 1, none⟩) (Kd.rF_ (p := ⟨sa, 0, none⟩) (Kd.rM_ ma.out (fun k_ hk => (⟨hk, hk.2.2.2.2⟩ : _ ∧ k_ ≠ sa))) (fun _ hk => hk.2) (.bool Vb)) (fun _ hk => hk.2) (.string kc)) (fun _ hk => hk.2) (.string ld)) (fun _ hk => ⟨hk.1.1, ⟨hk.1.2.1, ⟨hk.1.2.2.1, ⟨hk.1.2.2.2.1, hk.1.2.2.2.2⟩⟩⟩⟩)⟩, ⟨by (with_reducible repeat (first | apply Kd.R_alloc | apply Kd.rN_ | apply Kd.rD_)); exact Kd.rM_ (Kd.rF_ (p := ⟨sa, 2, none⟩) (Kd.rF_ (p := ⟨sa, 1, none⟩) (Kd.rF_ (p := ⟨sa, 0, none⟩) (Kd.R_types na.out ha.out (by decide)) (fun _ hk => hk.2) (.bool Vb)) (fun _ hk => hk.2) (.string kc)) (fun _ hk => hk.2) (.string ld)) (fun _ hk => hk.1)⟩, ⟨by (with_reducible repeat (first | apply kN_ | apply kD_ | apply kA_)); refine bf_ ?_ Bb.out _; (with_reducible repeat (first | apply kN_ | apply kD_ | apply kA_)); refine bf_ ?_ Bb.out _; (with_reducible repeat (first | apply kN_ | apply kD_ | apply kA_)); refine bf_ ?_ Bb.out _; (with_reducible repeat (first | apply kN_ | apply kD_ | apply kA_)); exact ea.out⟩, ⟨by (with_reducible repeat (first | apply kN_ | apply kD_ | apply kA_)); refine bf_ ?_ Cb.out _; (with_reducible repeat (first | apply kN_ | apply kD_ | apply kA_)); refine bf_ ?_ Cb.out _; (with_reducible repeat (first | apply kN_ | apply kD_ | apply kA_)); refine bf_ ?_ Cb.out _; (with_reducible repeat (first | apply kN_ | apply kD_ | apply kA_)); exact fa.out⟩, ⟨by (with_reducible repeat (first | apply kN_ | apply kD_ | apply kA_)); refine bf_ ?_ jb.out _; (with_reducible repeat (first | apply kN_ | apply kD_ | apply kA_)); refine bf_ ?_ jb.out _; (with_reducible repeat (first | apply kN_ | apply kD_ | apply kA_)); refine bf_ ?_ jb.out _; (with_reducible repeat (first | apply kN_ | apply kD_ | apply kA_)); exact ga.out⟩, ⟨by (with_reducible repeat (first | apply kN_ | apply kD_ | apply kA_)); refine bf_ ?_ mb.out _; (with_reducible repeat (first | apply kN_ | apply kD_ | apply kA_)); refine bf_ ?_ mb.out _; (with_reducible repeat (first | apply kN_ | apply kD_ | apply kA_)); refine bf_ ?_ mb.out _; (with_reducible repeat (first | apply kN_ | apply kD_ | apply kA_)); exact ka.out⟩, ⟨by (with_reducible repeat (first | apply kN_ | apply kD_ | apply kA_)); refine kP_ (cs := #[.bool Vb, .string kc, .string Ca]) ?_ 2 _ rfl; (with_reducible repeat (first | apply kN_ | apply kD_ | apply kA_)); refine kP_ (cs := #[.bool Vb, .string Da, .string Ca]) ?_ 1 _ rfl; (with_reducible repeat (first | apply kN_ | apply kD_ | apply kA_)); refine kP_ (cs := #[.bool Ga, .string Da, .string Ca]) ?_ 0 _ rfl; (with_reducible repeat (first | apply kN_ | apply kD_ | apply kA_)); exact ha.out⟩, ⟨by (with_reducible repeat (first | apply kN_ | apply kD_ | apply kA_)); refine bf_ ?_ bb.out _; (with_reducible repeat (first | apply kN_ | apply kD_ | apply kA_)); refine bf_ ?_ bb.out _; (with_reducible repeat (first | apply kN_ | apply kD_ | apply kA_)); refine bf_ ?_ bb.out _; (with_reducible repeat (first | apply kN_ | apply kD_ | apply kA_)); exact ca.out⟩, ⟨xB6_ HB wa ya Ja Ka La Xa⟩⟩
             ·replace c66 := Bool.eq_false_iff.mpr c66
              subst c66
              have H1 : (oS'.j4 kj42 (wrap64 (Int.tmod a3 4)) Pa (wrap64 (a1)) (wrap64 (Int.tmod a2 40)) pa aa ba (ba.length : Int) aa oa qa ta Ia Ha Fa Ba Aa za Ga Da Ca ((r28_ ba aa).f0) ((r28_ ba aa).f1) ((r28_ ba aa).f2.f0) ((r28_ ba aa).f2.f1) ((r28_ ba aa).f2.f2) ((r28_ ba aa).f3) ((r28_ ba aa).f4) ((r28_ ba aa).f5)) = some r := by rw [if_neg (show ¬ (false = true) by decide)] at H; exact H
              clear H
              have H := H1
              clear H1
              have H' := A0_.mk H
              clear H
              go_wp2
              go_meet
              case rel => exact ⟨_, (Ia), (Ha), (Fa), (Ga), (Da), (Ca), H', ⟨by have := HJ6.out; have := HJ12.out; have := HK3.out; have := HJ42.out; first | omega | exact Nat.le_refl _⟩, ⟨by (with_reducible repeat (first | apply Kd.R_alloc | apply Kd.rN_ | apply Kd.rD_)); exact ma.out⟩, ⟨by (with_reducible repeat (first | apply Kd.R_alloc | apply Kd.rN_ | apply Kd.rD_)); exact na.out⟩, ⟨by (with_reducible repeat (first | apply kN_ | apply kD_ | apply kA_)); exact ea.out⟩, ⟨by (with_reducible repeat (first | apply kN_ | apply kD_ | apply kA_)); exact fa.out⟩, ⟨by (with_reducible repeat (first | apply kN_ | apply kD_ | apply kA_)); exact ga.out⟩, ⟨by (with_reducible repeat (first | apply kN_ | apply kD_ | apply kA_)); exact ka.out⟩, ⟨by (with_reducible repeat (first | apply kN_ | apply kD_ | apply kA_)); exact ha.out⟩, ⟨by (with_reducible repeat (first | apply kN_ | apply kD_ | apply kA_)); exact ca.out⟩, ⟨xB6_ HB wa ya Ja Ka La Xa⟩⟩
            case rest =>
             clear HC65
             try clear c2
             try clear p2
             try clear c5
             try clear c6
             try clear p6
             try clear p9
             try clear q9
             try clear hx9
             try clear c24
             try clear c25
             try clear c56
             try clear c57
             try clear c59
             try clear c60
             try clear c61
             try clear c62
             try clear c63
             try clear p64
             try clear c66
             try clear c67
             try clear Fd
             try clear mf
             try clear c68
             try clear nf
             try clear oc
             try clear pc
             try clear qc
             try clear uc
             try clear vc
             try clear xc
             try clear Hc
             try clear Ic
             try clear Jc
             try clear Nc
             try clear Oc
             try clear Pc
             try clear Tc
             try clear Uc
             try clear Vc
             try clear Zc
             try clear ad
             try clear bd
             try clear Yd
             try clear ae
             try clear be
             try clear ce
             try clear de
             try clear ee
             try clear fe
             try clear ge
             try clear pe
             try clear qe
             try clear re
             try clear se
             try clear te
             try clear ue
             try clear ve
             try clear we
             try clear Fe
             try clear Ge
             try clear He
             try clear Ie
             try clear Je
             try clear Ke
             try clear Le
             try clear Me
             try clear rc
             try clear sc
             try clear tc
             try clear yc
             try clear zc
             try clear Ac
             try clear Kc
             try clear Lc
             try clear Mc
             try clear Qc
             try clear Rc
             try clear Sc
             try clear Wc
             try clear Xc
             try clear Yc
             try clear cd
             try clear dd
             try clear ed
             try clear he
             try clear ie
             try clear je
             try clear ke
             try clear le
             try clear me
             try clear ne
             try clear oe
             try clear xe
             try clear ye
             try clear ze
             try clear Ae
             try clear Be
             try clear Ce
             try clear De
             try clear Ee
             try clear Oe
             try clear Pe
             try clear Qe
             try clear Re
             try clear Se
             try clear Te
             try clear Ue
             try clear Ve
             try clear ud
             try clear vd
             try clear wd
             try clear xd
             try clear yd
             try clear zd
             try clear Ad
             try clear Bd
             try clear Ld
             try clear Md
             try clear Nd
             try clear Od
             try clear Pd
             try clear Qd
             try clear p2
             try clear p6
             try clear p64
             try clear rb
             try clear md
             try clear od
             try clear sb
             try clear nd
             try clear pd
             obtain ⟨kq, Ib, Jb, Kb, Lb, Mb, Nb, HA, HJ64, ma, na, ea, fa, ga, ka, ha, ca, HB⟩ := hcut
             cases kq with
             | zero => exact absurd HA.out (by simp [oS'.j4])
             | succ kj64 =>
              have H := HA.out
              clear HA
              simp only [oS'.j4] at H
              by_cases c85 : ((r28_ ba aa).f0) = Pa
              ·rw [if_pos c85] at H
               have tf : (((r28_ ba aa).f0) == Pa) = true := beq_iff_eq.mpr c85
               have uf : (((r28_ ba aa).f0) != Pa) = false := bne_eq_false_iff_eq.mpr c85
               clear c85
               by_cases c86 : ((r28_ ba aa).f1) = (wrap64 (Int.tmod a3 4))
               ·rw [if_pos c86] at H
                have vf : (((r28_ ba aa).f1) == (wrap64 (Int.tmod a3 4))) = true := beq_iff_eq.mpr c86
                have wf : (((r28_ ba aa).f1) != (wrap64 (Int.tmod a3 4))) = false := bne_eq_false_iff_eq.mpr c86
                clear c86
                by_cases c87 : 0 ≤ aa
                rotate_left
                ·rw [if_neg c87] at H
                 exact absurd H (by simp)
                rw [if_pos c87] at H
                have Sf : decide (0 ≤ aa) = true := decide_eq_true c87
                clear c87
                by_cases c88 : aa < (pa.length : Int)
                rotate_left
                ·rw [if_neg c88] at H
                 exact absurd H (by simp)
                rw [if_pos c88] at H
                have Tf : decide (aa < (pa.length : Int)) = true := decide_eq_true c88
                clear c88
                obtain ⟨⟨Wb, lc, qd⟩, A89, H⟩ := oB_ H
                (try dsimp only at H)
                have H' := A0_.mk H
                clear H
                have hnb90 := Db.out
                have hnc90 := Qa.out
                have hnb91 := Eb.out
                have hnc91 := Ra.out
                have hnb92 := ab.out
                have hnc92 := Ma.out
                have hnb93 := ob.out
                have hnc93 := Na.out
                have hnb94 := bb.out
                have hnc94 := Oa.out
                have Uf : wc.cell? ⟨da, 0, none⟩ = some (.int .i64 ((r28_ ba aa).f0)) := (kc_ ca.out 0).trans rfl
                have Vf : wc.cell? ⟨da, 1, none⟩ = some (.int .i64 ((r28_ ba aa).f1)) := (kc_ ca.out 1).trans rfl
                have Wf : wc.cell? ⟨da, 2, none⟩ = some (.bool ((r28_ ba aa).f2.f0)) := (kc_ ca.out 2).trans rfl
                have Xf : wc.cell? ⟨da, 3, none⟩ = some (.string ((r28_ ba aa).f2.f1)) := (kc_ ca.out 3).trans rfl
                have Yf : wc.cell? ⟨da, 4, none⟩ = some (.string ((r28_ ba aa).f2.f2)) := (kc_ ca.out 4).trans rfl
                have Zf : wc.cell? ⟨da, 5, none⟩ = some (.int .i64 ((r28_ ba aa).f3)) := (kc_ ca.out 5).trans rfl
                have ag : wc.cell? ⟨da, 6, none⟩ = some (.int .i64 ((r28_ ba aa).f4)) := (kc_ ca.out 6).trans rfl
                have bg : wc.cell? ⟨da, 7, none⟩ = some (.bool ((r28_ ba aa).f5)) := (kc_ ca.out 7).trans rfl
                have cg := kF_ ca.out 0
                have dg := kF_ ca.out 1
                have eg := kF_ ca.out 2
                have fg := kF_ ca.out 3
                have gg := kF_ ca.out 4
                have ig := kF_ ca.out 5
                have jg := kF_ ca.out 6
                have kg := kF_ ca.out 7
                try go_wp2
                have n0_ := A0_.mk (Kd.rD_ ma.out)
                have n1_ := A0_.mk (Kd.rD_ na.out)
                have n2_ := A0_.mk (kD_ ea.out)
                have n3_ := A0_.mk (kD_ fa.out)
                have n4_ := A0_.mk (kD_ ga.out)
                have n5_ := A0_.mk (kD_ ka.out)
                have n6_ := A0_.mk (kD_ ha.out)
                have n7_ := A0_.mk (kD_ ca.out)
                have n8_ := A0_.mk (b1_ HB.out)
                clear ma
                clear na
                clear ea
                clear fa
                clear ga
                clear ka
                clear ha
                clear ca
                clear HB
                have ma := n0_
                have na := n1_
                have ea := n2_
                have fa := n3_
                have ga := n4_
                have ka := n5_
                have ha := n6_
                have ca := n7_
                have HB := n8_
                clear n0_ n1_ n2_ n3_ n4_ n5_ n6_ n7_ n8_
                obtain ⟨lg, mg, Xe⟩ := Kd.rS_' ma.out
                (first | subst Xe | (injection Xe with f1_ f2_ f3_; have f4_ := f1_.symm; have f5_ := f3_.symm; clear f1_ f2_ f3_; subst f4_; subst f5_))
                have Rd : 0 ≤ (aa : Int) := oD_
                have Sd : aa < (pa.length : Int) := oD_
                obtain ⟨mc, xf, Ye, Ze, af⟩ := at_T26 (Kd.rr_' ma.out).2.2 aa Rd Sd
                cases xf
                replace Rd := eq_true Rd
                replace Sd := eq_true Sd
                refine start_ (n := 7) (S := fun w' => w'.cell? ⟨ra, 0, none⟩ = some (.bool Ba) ∧ w'.cell? ⟨ra, 1, none⟩ = some (.string Aa) ∧ w'.cell? ⟨ra, 2, none⟩ = some (.string za) ∧ w'.cell? (mc.add ((aa).toNat * 3)) = some (.bool ((r26_ pa aa).f0)) ∧ w'.cell? ⟨(mc.add ((aa).toNat * 3)).block, (mc.add ((aa).toNat * 3)).off + 1, none⟩ = some (.string ((r26_ pa aa).f1)) ∧ w'.cell? ⟨(mc.add ((aa).toNat * 3)).block, (mc.add ((aa).toNat * 3)).off + 2, none⟩ = some (.string ((r26_ pa aa).f2))) (ds := [6]) #[false, false, false, false, false, false, false] kr_ rfl rfl ⟨(kc_ ka.out 0).trans rfl, (kc_ ka.out 1).trans rfl, (kc_ ka.out 2).trans rfl, Ye, Ze, af⟩ (fun hHeld => ?_)
                generalize wc.drew = w96 at ma na ea fa ga ka ha ca HB Ye Ze af hHeld ⊢
                refine pu_ (i := 1) (N := some 140) (v := ?_) (a' := ?_) #[false, true, false, false, false, false, false] rfl rfl kr_ (fun _ _ _ h => h) (Or.inl ⟨by rfl, ?_⟩) ?_ ?_
                rotate_left
                ·intro w'
                 go_simp
                 with_reducible rfl
                rotate_left
                ·simp only [Act.put, s1_, s2_, s3_, i6_, i3_]
                 rfl
                refine pu_ (i := 2) (N := some 141) (v := ?_) (a' := ?_) #[false, true, true, false, false, false, false] rfl rfl kr_ (fun _ _ _ h => h) (Or.inl ⟨by rfl, ?_⟩) ?_ ?_
                rotate_left
                ·intro w'
                 go_simp
                 with_reducible rfl
                rotate_left
                ·simp only [Act.put, s1_, s2_, s3_, i6_, i3_]
                 rfl
                refine pu_ (i := 3) (N := some 142) (v := ?_) (a' := ?_) #[false, true, true, true, false, false, false] rfl rfl kr_ (fun _ _ _ h => h) (Or.inl ⟨by rfl, ?_⟩) ?_ ?_
                rotate_left
                ·intro w'
                 go_simp
                 with_reducible rfl
                rotate_left
                ·simp only [Act.put, s1_, s2_, s3_, i6_, i3_]
                 rfl
                refine take_ (i := 0) (N := some 139) (v := ?_) (a' := ?_) #[true, true, true, true, false, false, false] rfl rfl kr_ (fun _ _ _ h => h) (Or.inl ⟨by rfl, ?_⟩) hHeld ?_ ?_
                rotate_left
                ·rintro w' ⟨s0, s1, s2, s3, s4, s5⟩
                 go_simp
                 with_reducible rfl
                rotate_left
                ·simp only [Act.put, s1_, s2_, s3_, i6_, i3_]
                 rfl
                refine take_ (i := 4) (N := some 143) (v := ?_) (a' := ?_) #[true, true, true, true, true, false, false] rfl rfl kr_ (fun _ _ _ h => h) (Or.inl ⟨by rfl, ?_⟩) hHeld ?_ ?_
                rotate_left
                ·rintro w' ⟨s0, s1, s2, s3, s4, s5⟩
                 go_simp
                 with_reducible rfl
                rotate_left
                ·simp only [Act.put, s1_, s2_, s3_, i6_, i3_]
                 rfl
                refine one_ (i := 5) (N := some 144) #[true, true, true, true, true, true, false] rfl rfl kr_ (by decide) (fun K hK => ?_)
                refine goes_ Tryd.func24 kr_ rfl #[.agg #[.bool Ba, .string Aa, .string za], .agg #[.bool ((r26_ pa aa).f0), .string ((r26_ pa aa).f1), .string ((r26_ pa aa).f2)]] (by rfl) rfl rfl mp_ ?_
                with_reducible refine (q_Add.calls kj64 Ba Aa za ((r26_ pa aa).f0) ((r26_ pa aa).f1) ((r26_ pa aa).f2) Wb lc qd _ A89.out).mono ?_
                rintro e w98 ⟨rfl, hb⟩
                have HS3_ := (hb.cell (World.block_lt_of_cell? _ _ (hHeld.2.2.2.1))).trans (hHeld.2.2.2.1)
                have HS4_ := (hb.cell (World.block_lt_of_cell? _ _ (hHeld.2.2.2.2.1))).trans (hHeld.2.2.2.2.1)
                have HS5_ := (hb.cell (World.block_lt_of_cell? _ _ (hHeld.2.2.2.2.2))).trans (hHeld.2.2.2.2.2)
                refine ⟨_, rfl, ?_⟩
                have n0_ := A0_.mk (Kd.rB_ (xR_ ma.out) hb)
                have n1_ := A0_.mk (Kd.rB_ (xR_ na.out) hb)
                have n2_ := A0_.mk (kB_ (g := la) (o := .cells #[.bool oa, .string qa, .string ta] 26 (0, 0)) (xK_ ea.out) hb)
                have n3_ := A0_.mk (kB_ (g := ia) (o := .cells #[.bool ua, .string va, .string xa] 26 (0, 0)) (xK_ fa.out) hb)
                have n4_ := A0_.mk (kB_ (g := ja) (o := .cells #[.bool Ib, .string Jb, .string Kb] 26 (0, 0)) (xK_ ga.out) hb)
                have n5_ := A0_.mk (kB_ (g := ra) (o := .cells #[.bool Ba, .string Aa, .string za] 26 (0, 0)) (xK_ ka.out) hb)
                have n6_ := A0_.mk (kB_ (g := sa) (o := .cells #[.bool Lb, .string Mb, .string Nb] 26 (0, 0)) (xK_ ha.out) hb)
                have n7_ := A0_.mk (kB_ (g := da) (o := .cells #[.int .i64 ((r28_ ba aa).f0), .int .i64 ((r28_ ba aa).f1), .bool ((r28_ ba aa).f2.f0), .string ((r28_ ba aa).f2.f1), .string ((r28_ ba aa).f2.f2), .int .i64 ((r28_ ba aa).f3), .int .i64 ((r28_ ba aa).f4), .bool ((r28_ ba aa).f5)] 28 (0, 0)) (xK_ ca.out) hb)
                have n8_ := A0_.mk (bT_ (xB6_ HB wa ya Ja Ka La Xa) hb)
                clear ma
                clear na
                clear ea
                clear fa
                clear ga
                clear ka
                clear ha
                clear ca
                clear HB
                have ma := n0_
                have na := n1_
                have ea := n2_
                have fa := n3_
                have ga := n4_
                have ka := n5_
                have ha := n6_
                have ca := n7_
                have HB := n8_
                clear n0_ n1_ n2_ n3_ n4_ n5_ n6_ n7_ n8_
                (try clear hb)
                (try clear hb2)
                (try clear hk)
                (try clear hi)
                refine hK.out _ _ ⟨(kc_ ka.out 0).trans rfl, (kc_ ka.out 1).trans rfl, (kc_ ka.out 2).trans rfl, HS3_, HS4_, HS5_⟩ (fun hHeld => ?_)
                clear hK K
                refine norm_ (a' := ?_) ?_ ?_
                rotate_left
                ·show Act.put _ (some 144) _ = _
                 simp only [Act.put, s1_, s2_, s3_, i6_, i3_]
                 rfl
                refine last_ (i := 6) (N := none) #[true, true, true, true, true, true, true] rfl rfl kr_ (by decide) (fun K hK => ?_)
                have ng : w98.cell? ⟨ra, 0, none⟩ = some (.bool Ba) := (kc_ ka.out 0).trans rfl
                have hfs99 := kF_ ka.out 0
                have hns99_0 := xb.out
                have hns99_1 := Hb.out
                have hns99_2 := gb.out
                have hns99_4 := nb.out
                have hns99_5 := ob.out
                have hms99_0 := ec.out
                have hms99_1 := fd.out
                have hms99_2 := ib.out
                have hms99_4 := mb.out
                have hms99_5 := Na.out
                have og : w98.cell? ⟨ra, 1, none⟩ = some (.string Aa) := (kc_ ka.out 1).trans rfl
                have hfs100 := kF_ ka.out 1
                have hns100_0 := xb.out
                have hns100_1 := Hb.out
                have hns100_2 := gb.out
                have hns100_4 := nb.out
                have hns100_5 := ob.out
                have hms100_0 := ec.out
                have hms100_1 := fd.out
                have hms100_2 := ib.out
                have hms100_4 := mb.out
                have hms100_5 := Na.out
                have pg : w98.cell? ⟨ra, 2, none⟩ = some (.string za) := (kc_ ka.out 2).trans rfl
                have hfs101 := kF_ ka.out 2
                have hns101_0 := xb.out
                have hns101_1 := Hb.out
                have hns101_2 := gb.out
                have hns101_4 := nb.out
                have hns101_5 := ob.out
                have hms101_0 := ec.out
                have hms101_1 := fd.out
                have hms101_2 := ib.out
                have hms101_4 := mb.out
                have hms101_5 := Na.out
                refine skip_ (w1 := ?_) (by rfl) rfl ?_ ?_
                rotate_left
                ·go_simp
                 rfl
                refine hK.out _ _ ?_
                clear hK K
                refine done_ kr_ ?_
                try go_wp2
                (try simp only [ap_])
                go_roundg kj64
                case measure => have := HJ6.out; have := HJ12.out; have := HK3.out; have := HJ42.out; have := HJ64.out; omega
                case rel => exact ⟨(wrap64 (aa + 1)), (Ib), (Jb), (Kb), (Wb), (lc), (qd), (Lb), (Mb), (Nb), (rS_), H', ⟨by have := HJ6.out; have := HJ12.out; have := HK3.out; have := HJ42.out; have := HJ64.out; omega⟩, ⟨by (with_reducible repeat (first | apply Kd.R_alloc | apply Kd.rN_ | apply Kd.rD_)); exact Kd.rM_ (Kd.rF_ (p := ⟨ra, 2, none⟩) (Kd.rF_ (p := ⟨ra, 1, none⟩) (Kd.rF_ (p := ⟨ra, 0, none⟩) (Kd.rM_ ma.out (fun k_ hk => (⟨hk, hk.2.2.2.1⟩ : _ ∧ k_ ≠ ra))) (fun _ hk => hk.2) (.bool Wb)) (fun _ hk => hk.2) (.string lc)) (fun _ hk => hk.2) (.string qd)) (fun _ hk => ⟨hk.1.1, ⟨hk.1.2.1, ⟨hk.1.2.2.1, ⟨hk.1.2.2.2.1, hk.1.2.2.2.2⟩⟩⟩⟩)⟩, ⟨by (with_reducible repeat (first | apply Kd.R_alloc | apply Kd.rN_ | apply Kd.rD_)); exact Kd.rM_ (Kd.rF_ (p := ⟨ra, 2, none⟩) (Kd.rF_ (p := ⟨ra, 1, none⟩) (Kd.rF_ (p := ⟨ra, 0, none⟩) (Kd.R_types na.out ka.out (by decide)) (fun _ hk => hk.2) (.bool Wb)) (fun _ hk => hk.2) (.string lc)) (fun _ hk => hk.2) (.string qd)) (fun _ hk => trivial)⟩, ⟨by (with_reducible repeat (first | apply kN_ | apply kD_ | apply kA_)); refine bf_ ?_ xb.out _; (with_reducible repeat (first | apply kN_ | apply kD_ | apply kA_)); refine bf_ ?_ xb.out _; (with_reducible repeat (first | apply kN_ | apply kD_ | apply kA_)); refine bf_ ?_ xb.out _; (with_reducible repeat (first | apply kN_ | apply kD_ | apply kA_)); exact ea.out⟩, ⟨by (with_reducible repeat (first | apply kN_ | apply kD_ | apply kA_)); refine bf_ ?_ Hb.out _; (with_reducible repeat (first | apply kN_ | apply kD_ | apply kA_)); refine bf_ ?_ Hb.out _; (with_reducible repeat (first | apply kN_ | apply kD_ | apply kA_)); refine bf_ ?_ Hb.out _; (with_reducible repeat (first | apply kN_ | apply kD_ | apply kA_)); exact fa.out⟩, ⟨by (with_reducible repeat (first | apply kN_ | apply kD_ | apply kA_)); refine bf_ ?_ gb.out _; (with_reducible repeat (first | apply kN_ | apply kD_ | apply kA_)); refine bf_ ?_ gb.out _; (with_reducible repeat (first | apply kN_ | apply kD_ | apply kA_)); refine bf_ ?_ gb.out _; (with_reducible repeat (first | apply kN_ | apply kD_ | apply kA_)); exact ga.out⟩, ⟨by (with_reducible repeat (first | apply kN_ | apply kD_ | apply kA_)); refine kP_ (cs := #[.bool Wb, .string lc, .string za]) ?_ 2 _ rfl; (with_reducible repeat (first | apply kN_ | apply kD_ | apply kA_)); refine kP_ (cs := #[.bool Wb, .string Aa, .string za]) ?_ 1 _ rfl; (with_reducible repeat (first | apply kN_ | apply kD_ | apply kA_)); refine kP_ (cs := #[.bool Ba, .string Aa, .string za]) ?_ 0 _ rfl; (with_reducible repeat (first | apply kN_ | apply kD_ | apply kA_)); exact ka.out⟩, ⟨by (with_reducible repeat (first | apply kN_ | apply kD_ | apply kA_)); refine bf_ ?_ nb.out _; (with_reducible repeat (first | apply kN_ | apply kD_ | apply kA_)); refine bf_ ?_ nb.out _; (with_reducible repeat (first | apply kN_ | apply kD_ | apply kA_)); refine bf_ ?_ nb.out _; (with_reducible repeat (first | apply kN_ | apply kD_ | apply kA_)); exact ha.out⟩, ⟨xB6_ HB wa ya Ja Ka La Xa⟩⟩
               ·rw [if_neg c86] at H
                have vf : (((r28_ ba aa).f1) == (wrap64 (Int.tmod a3 4))) = false := beq_eq_false_iff_ne.mpr c86
                have wf : (((r28_ ba aa).f1) != (wrap64 (Int.tmod a3 4))) = true := bne_iff_ne.mpr c86
                have H' := A0_.mk H
                clear H
                have hnb102 := Db.out
                have hnc102 := Qa.out
                have hnb103 := Eb.out
                have hnc103 := Ra.out
                have hnb104 := ab.out
                have hnc104 := Ma.out
                have hnb105 := ob.out
                have hnc105 := Na.out
                have hnb106 := bb.out
                have hnc106 := Oa.out
                have qg : wc.cell? ⟨da, 0, none⟩ = some (.int .i64 ((r28_ ba aa).f0)) := (kc_ ca.out 0).trans rfl
                have rg : wc.cell? ⟨da, 1, none⟩ = some (.int .i64 ((r28_ ba aa).f1)) := (kc_ ca.out 1).trans rfl
                have sg : wc.cell? ⟨da, 2, none⟩ = some (.bool ((r28_ ba aa).f2.f0)) := (kc_ ca.out 2).trans rfl
                have tg : wc.cell? ⟨da, 3, none⟩ = some (.string ((r28_ ba aa).f2.f1)) := (kc_ ca.out 3).trans rfl
                have ug : wc.cell? ⟨da, 4, none⟩ = some (.string ((r28_ ba aa).f2.f2)) := (kc_ ca.out 4).trans rfl
                have vg : wc.cell? ⟨da, 5, none⟩ = some (.int .i64 ((r28_ ba aa).f3)) := (kc_ ca.out 5).trans rfl
                have wg : wc.cell? ⟨da, 6, none⟩ = some (.int .i64 ((r28_ ba aa).f4)) := (kc_ ca.out 6).trans rfl
                have xg : wc.cell? ⟨da, 7, none⟩ = some (.bool ((r28_ ba aa).f5)) := (kc_ ca.out 7).trans rfl
                have yg := kF_ ca.out 0
                have zg := kF_ ca.out 1
                have Ag := kF_ ca.out 2
                have Bg := kF_ ca.out 3
                have Cg := kF_ ca.out 4
                have Dg := kF_ ca.out 5
                have Eg := kF_ ca.out 6
                have Fg := kF_ ca.out 7
                go_wp2
                (try simp only [ap_])
                go_roundg kj64
                case measure => have := HJ6.out; have := HJ12.out; have := HK3.out; have := HJ42.out; have := HJ64.out; omega
                case rel => exact ⟨(wrap64 (aa + 1)), (Ib), (Jb), (Kb), (Ba), (Aa), (za), (Lb), (Mb), (Nb), (rS_), H', ⟨by have := HJ6.out; have := HJ12.out; have := HK3.out; have := HJ42.out; have := HJ64.out; omega⟩, ⟨by (with_reducible repeat (first | apply Kd.R_alloc | apply Kd.rN_ | apply Kd.rD_)); exact ma.out⟩, ⟨by (with_reducible repeat (first | apply Kd.R_alloc | apply Kd.rN_ | apply Kd.rD_)); exact Kd.rM_ na.out (fun _ hk => trivial)⟩, ⟨by (with_reducible repeat (first | apply kN_ | apply kD_ | apply kA_)); exact ea.out⟩, ⟨by (with_reducible repeat (first | apply kN_ | apply kD_ | apply kA_)); exact fa.out⟩, ⟨by (with_reducible repeat (first | apply kN_ | apply kD_ | apply kA_)); exact ga.out⟩, ⟨by (with_reducible repeat (first | apply kN_ | apply kD_ | apply kA_)); exact ka.out⟩, ⟨by (with_reducible repeat (first | apply kN_ | apply kD_ | apply kA_)); exact ha.out⟩, ⟨xB6_ HB wa ya Ja Ka La Xa⟩⟩
              ·rw [if_neg c85] at H
               have tf : (((r28_ ba aa).f0) == Pa) = false := beq_eq_false_iff_ne.mpr c85
               have uf : (((r28_ ba aa).f0) != Pa) = true := bne_iff_ne.mpr c85
               have H' := A0_.mk H
               clear H
               have hnb108 := Db.out
               have hnc108 := Qa.out
               have hnb109 := Eb.out
               have hnc109 := Ra.out
               have hnb110 := ab.out
               have hnc110 := Ma.out
               have hnb111 := ob.out
               have hnc111 := Na.out
               have hnb112 := bb.out
               have hnc112 := Oa.out
               have Gg : wc.cell? ⟨da, 0, none⟩ = some (.int .i64 ((r28_ ba aa).f0)) := (kc_ ca.out 0).trans rfl
               have Hg : wc.cell? ⟨da, 1, none⟩ = some (.int .i64 ((r28_ ba aa).f1)) := (kc_ ca.out 1).trans rfl
               have Ig : wc.cell? ⟨da, 2, none⟩ = some (.bool ((r28_ ba aa).f2.f0)) := (kc_ ca.out 2).trans rfl
               have Jg : wc.cell? ⟨da, 3, none⟩ = some (.string ((r28_ ba aa).f2.f1)) := (kc_ ca.out 3).trans rfl
               have Kg : wc.cell? ⟨da, 4, none⟩ = some (.string ((r28_ ba aa).f2.f2)) := (kc_ ca.out 4).trans rfl
               have Lg : wc.cell? ⟨da, 5, none⟩ = some (.int .i64 ((r28_ ba aa).f3)) := (kc_ ca.out 5).trans rfl
               have Mg : wc.cell? ⟨da, 6, none⟩ = some (.int .i64 ((r28_ ba aa).f4)) := (kc_ ca.out 6).trans rfl
               have Ng : wc.cell? ⟨da, 7, none⟩ = some (.bool ((r28_ ba aa).f5)) := (kc_ ca.out 7).trans rfl
               have Og := kF_ ca.out 0
               have Pg := kF_ ca.out 1
               have Qg := kF_ ca.out 2
               have Rg := kF_ ca.out 3
               have Sg := kF_ ca.out 4
               have Tg := kF_ ca.out 5
               have Ug := kF_ ca.out 6
               have Vg := kF_ ca.out 7
               go_wp2
               (try simp only [ap_])
               go_roundg kj64
               case measure => have := HJ6.out; have := HJ12.out; have := HK3.out; have := HJ42.out; have := HJ64.out; omega
               case rel => exact ⟨(wrap64 (aa + 1)), (Ib), (Jb), (Kb), (Ba), (Aa), (za), (Lb), (Mb), (Nb), (rS_), H', ⟨by have := HJ6.out; have := HJ12.out; have := HK3.out; have := HJ42.out; have := HJ64.out; omega⟩, ⟨by (with_reducible repeat (first | apply Kd.R_alloc | apply Kd.rN_ | apply Kd.rD_)); exact ma.out⟩, ⟨by (with_reducible repeat (first | apply Kd.R_alloc | apply Kd.rN_ | apply Kd.rD_)); exact Kd.rM_ na.out (fun _ hk => trivial)⟩, ⟨by (with_reducible repeat (first | apply kN_ | apply kD_ | apply kA_)); exact ea.out⟩, ⟨by (with_reducible repeat (first | apply kN_ | apply kD_ | apply kA_)); exact fa.out⟩, ⟨by (with_reducible repeat (first | apply kN_ | apply kD_ | apply kA_)); exact ga.out⟩, ⟨by (with_reducible repeat (first | apply kN_ | apply kD_ | apply kA_)); exact ka.out⟩, ⟨by (with_reducible repeat (first | apply kN_ | apply kD_ | apply kA_)); exact ha.out⟩, ⟨xB6_ HB wa ya Ja Ka La Xa⟩⟩
         ·replace c42 := Bool.eq_false_iff.mpr c42
          subst c42
          have H1 : (oS'.l0 k3 (wrap64 (Int.tmod a3 4)) Pa (wrap64 (a1)) (wrap64 (Int.tmod a2 40)) pa ba (ba.length : Int) (wrap64 (aa + 1)) oa qa ta Ia Ha Fa Ba Aa za Ga Da Ca) = some r := by rw [if_neg (show ¬ (false = true) by decide)] at H; exact H
          clear H
          have H := H1
          clear H1
          have H' := A0_.mk H
          clear H
          have rb : 0 ≤ (aa : Int) := oD_
          have sb : aa < (ba.length : Int) := oD_
          obtain ⟨id, td, ud, vd, wd, xd, yd, zd, Ad, Bd⟩ := at_T28 (Kd.rr_' na.out).2.2 aa rb sb
          cases td
          replace rb := eq_true rb
          replace sb := eq_true sb
          go_wp2_with (first | ((with_reducible refine gD_ (N := 26) rfl ?_); (try (refine gate_guard (by rfl) ?_; dsimp only)); refine bE_ ?hg (N := 26) ?hd (cs := #[.int .i64 0, .int .i64 0, .bool false, .string (⟨#[]⟩ : ByteArray), .string (⟨#[]⟩ : ByteArray), .int .i64 0, .int .i64 0, .bool false]) (t := 28) ?hr ?_; (case hd => rfl); (case hg => rfl); (case hr => first | (go_simp; done) | (go_simp; rfl)); intro da hg Fb hbox hb; have n0_ := A0_.mk (Kd.rB_ (xR_ ma.out) hb); have n1_ := A0_.mk (Kd.rB_ (Kd.R_elderB (xR_ na.out) da (Nat.le_of_eq hg.symm)) hb); have n2_ := A0_.mk (kB_ (g := la) (o := .cells #[.bool oa, .string qa, .string ta] 26 (0, 0)) (xK_ ea.out) hb); have n3_ := A0_.mk (kB_ (g := ia) (o := .cells #[.bool ua, .string va, .string xa] 26 (0, 0)) (xK_ fa.out) hb); have n4_ := A0_.mk (kB_ (g := ja) (o := .cells #[.bool Ia, .string Ha, .string Fa] 26 (0, 0)) (xK_ ga.out) hb); have n5_ := A0_.mk (kB_ (g := ra) (o := .cells #[.bool Ba, .string Aa, .string za] 26 (0, 0)) (xK_ ka.out) hb); have n6_ := A0_.mk (kB_ (g := sa) (o := .cells #[.bool Ga, .string Da, .string Ca] 26 (0, 0)) (xK_ ha.out) hb); have n7_ := A0_.mk (bT_ (xB5_ HB wa ya Ja Ka La) hb); have n8_ := A0_.mk (hbox); have n9_ := A0_.mk ((by rw [hg]; exact (bZ_ (xB5_ HB wa ya Ja Ka La)) : w.heap.size ≤ da)); have Ya := A0_.mk ((by rw [hg]; exact (bZ_ (xB5_ HB wa ya Ja Ka La)) : w.heap.size ≤ da)); have Za := A0_.mk ((by rw [hg]; exact Nat.ne_of_lt (blk_lt (g := la) (o := .cells #[.bool oa, .string qa, .string ta] 26 (0, 0)) (xK_ ea.out)) : la ≠ da)); have db := A0_.mk ((by rw [hg]; exact Nat.ne_of_gt (blk_lt (g := la) (o := .cells #[.bool oa, .string qa, .string ta] 26 (0, 0)) (xK_ ea.out)) : da ≠ la)); have eb := A0_.mk ((by rw [hg]; exact Nat.ne_of_lt (blk_lt (g := ia) (o := .cells #[.bool ua, .string va, .string xa] 26 (0, 0)) (xK_ fa.out)) : ia ≠ da)); have fb := A0_.mk ((by rw [hg]; exact Nat.ne_of_gt (blk_lt (g := ia) (o := .cells #[.bool ua, .string va, .string xa] 26 (0, 0)) (xK_ fa.out)) : da ≠ ia)); have yb := A0_.mk ((by rw [hg]; exact Nat.ne_of_lt (blk_lt (g := ja) (o := .cells #[.bool Ia, .string Ha, .string Fa] 26 (0, 0)) (xK_ ga.out)) : ja ≠ da)); have zb := A0_.mk ((by rw [hg]; exact Nat.ne_of_gt (blk_lt (g := ja) (o := .cells #[.bool Ia, .string Ha, .string Fa] 26 (0, 0)) (xK_ ga.out)) : da ≠ ja)); have Ab := A0_.mk ((by rw [hg]; exact Nat.ne_of_lt (blk_lt (g := ra) (o := .cells #[.bool Ba, .string Aa, .string za] 26 (0, 0)) (xK_ ka.out)) : ra ≠ da)); have hc := A0_.mk ((by rw [hg]; exact Nat.ne_of_gt (blk_lt (g := ra) (o := .cells #[.bool Ba, .string Aa, .string za] 26 (0, 0)) (xK_ ka.out)) : da ≠ ra)); have ic := A0_.mk ((by rw [hg]; exact Nat.ne_of_lt (blk_lt (g := sa) (o := .cells #[.bool Ga, .string Da, .string Ca] 26 (0, 0)) (xK_ ha.out)) : sa ≠ da)); have jc := A0_.mk ((by rw [hg]; exact Nat.ne_of_gt (blk_lt (g := sa) (o := .cells #[.bool Ga, .string Da, .string Ca] 26 (0, 0)) (xK_ ha.out)) : da ≠ sa)); clear ma na ea fa ga ka ha HB; have ma := n0_; have na := n1_; have ea := n2_; have fa := n3_; have ga := n4_; have ka := n5_; have ha := n6_; have HB := n7_; have ca := n8_; have kf := n9_; have Xa := Ya; have Qa := Za; have Db := db; have Ra := eb; have Eb := fb; have Ma := yb; have ab := zb; have Na := Ab; have ob := hc; have Oa := ic; have bb := jc; clear n0_ n1_ n2_ n3_ n4_ n5_ n6_ n7_ n8_ n9_ Ya Za db eb fb yb zb Ab hc ic jc; clear hb hbox hg; have hnb115 := Db.out; have hnc115 := Qa.out; have hnb116 := Eb.out; have hnc116 := Ra.out; have hnb117 := ab.out; have hnc117 := Ma.out; have hnb118 := ob.out; have hnc118 := Na.out; have hnb119 := bb.out; have hnc119 := Oa.out; have Wg : Fb.cell? ⟨da, 0, none⟩ = some (.int .i64 0) := (kc_ ca.out 0).trans rfl; have Xg : Fb.cell? ⟨da, 1, none⟩ = some (.int .i64 0) := (kc_ ca.out 1).trans rfl; have Yg : Fb.cell? ⟨da, 2, none⟩ = some (.bool false) := (kc_ ca.out 2).trans rfl; have Zg : Fb.cell? ⟨da, 3, none⟩ = some (.string (⟨#[]⟩ : ByteArray)) := (kc_ ca.out 3).trans rfl; have ah : Fb.cell? ⟨da, 4, none⟩ = some (.string (⟨#[]⟩ : ByteArray)) := (kc_ ca.out 4).trans rfl; have bh : Fb.cell? ⟨da, 5, none⟩ = some (.int .i64 0) := (kc_ ca.out 5).trans rfl; have ch : Fb.cell? ⟨da, 6, none⟩ = some (.int .i64 0) := (kc_ ca.out 6).trans rfl; have dh : Fb.cell? ⟨da, 7, none⟩ = some (.bool false) := (kc_ ca.out 7).trans rfl; have eh := kF_ ca.out 0; have fh := kF_ ca.out 1; have gh := kF_ ca.out 2; have hh := kF_ ca.out 3; have ih := kF_ ca.out 4; have jh := kF_ ca.out 5; have kh := kF_ ca.out 6; have lh := kF_ ca.out 7) | ((with_reducible refine gC_ (f := 13) rfl ?_); refine gL_ (some 102) rfl rfl Tryd.func13 kr_ rfl #[.agg #[.int .i64 ((r28_ ba aa).f0), .int .i64 ((r28_ ba aa).f1), .bool ((r28_ ba aa).f2.f0), .string ((r28_ ba aa).f2.f1), .string ((r28_ ba aa).f2.f2), .int .i64 ((r28_ ba aa).f3), .int .i64 ((r28_ ba aa).f4), .bool ((r28_ ba aa).f5)], .int .i64 (wrap64 (a1)), .int .i64 (wrap64 (Int.tmod a2 40))] rfl mp_ ?_; (with_reducible refine (so_Eligible.calls ((r28_ ba aa).f0) ((r28_ ba aa).f1) ((r28_ ba aa).f2.f0) ((r28_ ba aa).f2.f1) ((r28_ ba aa).f2.f2) ((r28_ ba aa).f3) ((r28_ ba aa).f4) ((r28_ ba aa).f5) (wrap64 (a1)) (wrap64 (Int.tmod a2 40)) false _ A41.out).mono ?_); rintro e mh ⟨rfl, hb⟩; refine ⟨_, rfl, ?_⟩; have n0_ := A0_.mk (Kd.rB_ (by (with_reducible repeat (first | apply Kd.R_alloc | apply Kd.rN_ | apply Kd.rD_)); exact (Kd.rM_ (Kd.rF_ (p := ⟨da, 7, none⟩) (Kd.rF_ (p := ⟨da, 6, none⟩) (Kd.rF_ (p := ⟨da, 5, none⟩) (Kd.rF_ (p := ⟨da, 4, none⟩) (Kd.rF_ (p := ⟨da, 3, none⟩) (Kd.rF_ (p := ⟨da, 2, none⟩) (Kd.rF_ (p := ⟨da, 1, none⟩) (Kd.rF_ (p := ⟨da, 0, none⟩) (Kd.R_types ma.out ca.out (by decide)) (fun _ hk => hk.2) (.int .i64 ((r28_ ba aa).f0))) (fun _ hk => hk.2) (.int .i64 ((r28_ ba aa).f1))) (fun _ hk => hk.2) (.bool ((r28_ ba aa).f2.f0))) (fun _ hk => hk.2) (.string ((r28_ ba aa).f2.f1))) (fun _ hk => hk.2) (.string ((r28_ ba aa).f2.f2))) (fun _ hk => hk.2) (.int .i64 ((r28_ ba aa).f3))) (fun _ hk => hk.2) (.int .i64 ((r28_ ba aa).f4))) (fun _ hk => hk.2) (.bool ((r28_ ba aa).f5))) (fun _ h_ => h_.1))) hb); have n1_ := A0_.mk (Kd.rB_ (by (with_reducible repeat (first | apply Kd.R_alloc | apply Kd.rN_ | apply Kd.rD_)); exact (Kd.rM_ (Kd.rF_ (p := ⟨da, 7, none⟩) (Kd.rF_ (p := ⟨da, 6, none⟩) (Kd.rF_ (p := ⟨da, 5, none⟩) (Kd.rF_ (p := ⟨da, 4, none⟩) (Kd.rF_ (p := ⟨da, 3, none⟩) (Kd.rF_ (p := ⟨da, 2, none⟩) (Kd.rF_ (p := ⟨da, 1, none⟩) (Kd.rF_ (p := ⟨da, 0, none⟩) (Kd.rM_ na.out (fun k_ hk => (⟨hk, hk.2⟩ : _ ∧ k_ ≠ da))) (fun _ hk => hk.2) (.int .i64 ((r28_ ba aa).f0))) (fun _ hk => hk.2) (.int .i64 ((r28_ ba aa).f1))) (fun _ hk => hk.2) (.bool ((r28_ ba aa).f2.f0))) (fun _ hk => hk.2) (.string ((r28_ ba aa).f2.f1))) (fun _ hk => hk.2) (.string ((r28_ ba aa).f2.f2))) (fun _ hk => hk.2) (.int .i64 ((r28_ ba aa).f3))) (fun _ hk => hk.2) (.int .i64 ((r28_ ba aa).f4))) (fun _ hk => hk.2) (.bool ((r28_ ba aa).f5))) (fun _ h_ => h_.1))) hb); have n2_ := A0_.mk (kB_ (g := la) (o := .cells #[.bool oa, .string qa, .string ta] 26 (0, 0)) (by (with_reducible repeat (first | apply kN_ | apply kD_ | apply kA_)); refine bf_ ?_ Qa.out _; (with_reducible repeat (first | apply kN_ | apply kD_ | apply kA_)); refine bf_ ?_ Qa.out _; (with_reducible repeat (first | apply kN_ | apply kD_ | apply kA_)); refine bf_ ?_ Qa.out _; (with_reducible repeat (first | apply kN_ | apply kD_ | apply kA_)); refine bf_ ?_ Qa.out _; (with_reducible repeat (first | apply kN_ | apply kD_ | apply kA_)); refine bf_ ?_ Qa.out _; (with_reducible repeat (first | apply kN_ | apply kD_ | apply kA_)); refine bf_ ?_ Qa.out _; (with_reducible repeat (first | apply kN_ | apply kD_ | apply kA_)); refine bf_ ?_ Qa.out _; (with_reducible repeat (first | apply kN_ | apply kD_ | apply kA_)); refine bf_ ?_ Qa.out _; (with_reducible repeat (first | apply kN_ | apply kD_ | apply kA_)); exact ea.out) hb); have n3_ := A0_.mk (kB_ (g := ia) (o := .cells #[.bool ua, .string va, .string xa] 26 (0, 0)) (by (with_reducible repeat (first | apply kN_ | apply kD_ | apply kA_)); refine bf_ ?_ Ra.out _; (with_reducible repeat (first | apply kN_ | apply kD_ | apply kA_)); refine bf_ ?_ Ra.out _; (with_reducible repeat (first | apply kN_ | apply kD_ | apply kA_)); refine bf_ ?_ Ra.out _; (with_reducible repeat (first | apply kN_ | apply kD_ | apply kA_)); refine bf_ ?_ Ra.out _; (with_reducible repeat (first | apply kN_ | apply kD_ | apply kA_)); refine bf_ ?_ Ra.out _; (with_reducible repeat (first | apply kN_ | apply kD_ | apply kA_)); refine bf_ ?_ Ra.out _; (with_reducible repeat (first | apply kN_ | apply kD_ | apply kA_)); refine bf_ ?_ Ra.out _; (with_reducible repeat (first | apply kN_ | apply kD_ | apply kA_)); refine bf_ ?_ Ra.out _; (with_reducible repeat (first | apply kN_ | apply kD_ | apply kA_)); exact fa.out) hb); have n4_ := A0_.mk (kB_ (g := ja) (o := .cells #[.bool Ia, .string Ha, .string Fa] 26 (0, 0)) (by (with_reducible repeat (first | apply kN_ | apply kD_ | apply kA_)); refine bf_ ?_ Ma.out _; (with_reducible repeat (first | apply kN_ | apply kD_ | apply kA_)); refine bf_ ?_ Ma.out _; (with_reducible repeat (first | apply kN_ | apply kD_ | apply kA_)); refine bf_ ?_ Ma.out _; (with_reducible repeat (first | apply kN_ | apply kD_ | apply kA_)); refine bf_ ?_ Ma.out _; (with_reducible repeat (first | apply kN_ | apply kD_ | apply kA_)); refine bf_ ?_ Ma.out _; (with_reducible repeat (first | apply kN_ | apply kD_ | apply kA_)); refine bf_ ?_ Ma.out _; (with_reducible repeat (first | apply kN_ | apply kD_ | apply kA_)); refine bf_ ?_ Ma.out _; (with_reducible repeat (first | apply kN_ | apply kD_ | apply kA_)); refine bf_ ?_ Ma.out _; (with_reducible repeat (first | apply kN_ | apply kD_ | apply kA_)); exact ga.out) hb); have n5_ := A0_.mk (kB_ (g := ra) (o := .cells #[.bool Ba, .string Aa, .string za] 26 (0, 0)) (by (with_reducible repeat (first | apply kN_ | apply kD_ | apply kA_)); refine bf_ ?_ Na.out _; (with_reducible repeat (first | apply kN_ | apply kD_ | apply kA_)); refine bf_ ?_ Na.out _; (with_reducible repeat (first | apply kN_ | apply kD_ | apply kA_)); refine bf_ ?_ Na.out _; (with_reducible repeat (first | apply kN_ | apply kD_ | apply kA_)); refine bf_ ?_ Na.out _; (with_reducible repeat (first | apply kN_ | apply kD_ | apply kA_)); refine bf_ ?_ Na.out _; (with_reducible repeat (first | apply kN_ | apply kD_ | apply kA_)); refine bf_ ?_ Na.out _; (with_reducible repeat (first | apply kN_ | apply kD_ | apply kA_)); refine bf_ ?_ Na.out _; (with_reducible repeat (first | apply kN_ | apply kD_ | apply kA_)); refine bf_ ?_ Na.out _; (with_reducible repeat (first | apply kN_ | apply kD_ | apply kA_)); exact ka.out) hb); have n6_ := A0_.mk (kB_ (g := sa) (o := .cells #[.bool Ga, .string Da, .string Ca] 26 (0, 0)) (by (with_reducible repeat (first | apply kN_ | apply kD_ | apply kA_)); refine bf_ ?_ Oa.out _; (with_reducible repeat (first | apply kN_ | apply kD_ | apply kA_)); refine bf_ ?_ Oa.out _; (with_reducible repeat (first | apply kN_ | apply kD_ | apply kA_)); refine bf_ ?_ Oa.out _; (with_reducible repeat (first | apply kN_ | apply kD_ | apply kA_)); refine bf_ ?_ Oa.out _; (with_reducible repeat (first | apply kN_ | apply kD_ | apply kA_)); refine bf_ ?_ Oa.out _; (with_reducible repeat (first | apply kN_ | apply kD_ | apply kA_)); refine bf_ ?_ Oa.out _; (with_reducible repeat (first | apply kN_ | apply kD_ | apply kA_)); refine bf_ ?_ Oa.out _; (with_reducible repeat (first | apply kN_ | apply kD_ | apply kA_)); refine bf_ ?_ Oa.out _; (with_reducible repeat (first | apply kN_ | apply kD_ | apply kA_)); exact ha.out) hb); have n7_ := A0_.mk (kB_ (g := da) (o := .cells #[.int .i64 ((r28_ ba aa).f0), .int .i64 ((r28_ ba aa).f1), .bool ((r28_ ba aa).f2.f0), .string ((r28_ ba aa).f2.f1), .string ((r28_ ba aa).f2.f2), .int .i64 ((r28_ ba aa).f3), .int .i64 ((r28_ ba aa).f4), .bool ((r28_ ba aa).f5)] 28 (0, 0)) (by (with_reducible repeat (first | apply kN_ | apply kD_ | apply kA_)); refine kP_ (cs := #[.int .i64 ((r28_ ba aa).f0), .int .i64 ((r28_ ba aa).f1), .bool ((r28_ ba aa).f2.f0), .string ((r28_ ba aa).f2.f1), .string ((r28_ ba aa).f2.f2), .int .i64 ((r28_ ba aa).f3), .int .i64 ((r28_ ba aa).f4), .bool false]) ?_ 7 _ rfl; (with_reducible repeat (first | apply kN_ | apply kD_ | apply kA_)); refine kP_ (cs := #[.int .i64 ((r28_ ba aa).f0), .int .i64 ((r28_ ba aa).f1), .bool ((r28_ ba aa).f2.f0), .string ((r28_ ba aa).f2.f1), .string ((r28_ ba aa).f2.f2), .int .i64 ((r28_ ba aa).f3), .int .i64 0, .bool false]) ?_ 6 _ rfl; (with_reducible repeat (first | apply kN_ | apply kD_ | apply kA_)); refine kP_ (cs := #[.int .i64 ((r28_ ba aa).f0), .int .i64 ((r28_ ba aa).f1), .bool ((r28_ ba aa).f2.f0), .string ((r28_ ba aa).f2.f1), .string ((r28_ ba aa).f2.f2), .int .i64 0, .int .i64 0, .bool false]) ?_ 5 _ rfl; (with_reducible repeat (first | apply kN_ | apply kD_ | apply kA_)); refine kP_ (cs := #[.int .i64 ((r28_ ba aa).f0), .int .i64 ((r28_ ba aa).f1), .bool ((r28_ ba aa).f2.f0), .string ((r28_ ba aa).f2.f1), .string (⟨#[]⟩ : ByteArray), .int .i64 0, .int .i64 0, .bool false]) ?_ 4 _ rfl; (with_reducible repeat (first | apply kN_ | apply kD_ | apply kA_)); refine kP_ (cs := #[.int .i64 ((r28_ ba aa).f0), .int .i64 ((r28_ ba aa).f1), .bool ((r28_ ba aa).f2.f0), .string (⟨#[]⟩ : ByteArray), .string (⟨#[]⟩ : ByteArray), .int .i64 0, .int .i64 0, .bool false]) ?_ 3 _ rfl; (with_reducible repeat (first | apply kN_ | apply kD_ | apply kA_)); refine kP_ (cs := #[.int .i64 ((r28_ ba aa).f0), .int .i64 ((r28_ ba aa).f1), .bool false, .string (⟨#[]⟩ : ByteArray), .string (⟨#[]⟩ : ByteArray), .int .i64 0, .int .i64 0, .bool false]) ?_ 2 _ rfl; (with_reducible repeat (first | apply kN_ | apply kD_ | apply kA_)); refine kP_ (cs := #[.int .i64 ((r28_ ba aa).f0), .int .i64 0, .bool false, .string (⟨#[]⟩ : ByteArray), .string (⟨#[]⟩ : ByteArray), .int .i64 0, .int .i64 0, .bool false]) ?_ 1 _ rfl; (with_reducible repeat (first | apply kN_ | apply kD_ | apply kA_)); refine kP_ (cs := #[.int .i64 0, .int .i64 0, .bool false, .string (⟨#[]⟩ : ByteArray), .string (⟨#[]⟩ : ByteArray), .int .i64 0, .int .i64 0, .bool false]) ?_ 0 _ rfl; (with_reducible repeat (first | apply kN_ | apply kD_ | apply kA_)); exact ca.out) hb); have n8_ := A0_.mk (bT_ (xB6_ HB wa ya Ja Ka La Xa) hb); clear ma na ea fa ga ka ha ca HB; have ma := n0_; have na := n1_; have ea := n2_; have fa := n3_; have ga := n4_; have ka := n5_; have ha := n6_; have ca := n7_; have HB := n8_; clear n0_ n1_ n2_ n3_ n4_ n5_ n6_ n7_ n8_; (try clear hb); (try clear hb2); (try clear hk); (try clear hi)))
          (try simp only [ap_])
          go_roundg k3
          case measure => have := HJ6.out; have := HJ12.out; have := HK3.out; omega
          case rel => exact ⟨(wrap64 (aa + 1)), (Ia), (Ha), (Fa), (Ba), (Aa), (za), (Ga), (Da), (Ca), (rS_), H', ⟨by have := HJ6.out; have := HJ12.out; have := HK3.out; omega⟩, ⟨by (with_reducible repeat (first | apply Kd.R_alloc | apply Kd.rN_ | apply Kd.rD_)); exact ma.out⟩, ⟨by (with_reducible repeat (first | apply Kd.R_alloc | apply Kd.rN_ | apply Kd.rD_)); exact Kd.rM_ na.out (fun _ hk => trivial)⟩, ⟨by (with_reducible repeat (first | apply kN_ | apply kD_ | apply kA_)); exact ea.out⟩, ⟨by (with_reducible repeat (first | apply kN_ | apply kD_ | apply kA_)); exact fa.out⟩, ⟨by (with_reducible repeat (first | apply kN_ | apply kD_ | apply kA_)); exact ga.out⟩, ⟨by (with_reducible repeat (first | apply kN_ | apply kD_ | apply kA_)); exact ka.out⟩, ⟨by (with_reducible repeat (first | apply kN_ | apply kD_ | apply kA_)); exact ha.out⟩, ⟨xB6_ HB wa ya Ja Ka La Xa⟩⟩
        ·rw [if_neg c38] at H
         have Xd : decide (aa < (ba.length : Int)) = false := decide_eq_false c38
         clear c38
         obtain ⟨yf, bf, H⟩ := oB_ H
         (try dsimp only at H)
         by_cases sd : yf = true
         ·subst sd
          have H1 : ((q_Sign.f k3 Ia Ha Fa).bind fun tb => (if tb = 0 then (some (Ga == oa && (Da.toList == qa.toList && (Ca.toList == ta.toList)))) else ((q_Sign.f k3 Ba Aa za).bind fun Gb => (if Gb = 0 then (some (Ga == oa && (Da.toList == qa.toList && (Ca.toList == ta.toList)))) else (none))))) = some r := by rw [if_pos rfl] at H; exact H
          clear H
          have H := H1
          clear H1
          obtain ⟨tb, cf, H⟩ := oB_ H
          (try dsimp only at H)
          by_cases Ob : tb = 0
          ·rw [if_pos Ob] at H
           have zf : (tb == 0) = true := beq_iff_eq.mpr Ob
           have Af : (tb != 0) = false := bne_eq_false_iff_eq.mpr Ob
           clear Ob
           obtain rfl := Option.some.inj H
           go_wp2_with (first | ((with_reducible refine gC_ (f := 12) rfl ?_); refine gL_ (some 146) rfl rfl Tryd.func12 kr_ rfl #[] rfl mp_ ?_; (with_reducible refine (l14_awake.calls k3  true _ bf.out).mono ?_); rintro e Td ⟨rfl, hb⟩; refine ⟨_, rfl, ?_⟩; have n0_ := A0_.mk (Kd.rB_ (xR_ ma.out) hb); have n1_ := A0_.mk (Kd.rB_ (xR_ na.out) hb); have n2_ := A0_.mk (kB_ (g := la) (o := .cells #[.bool oa, .string qa, .string ta] 26 (0, 0)) (xK_ ea.out) hb); have n3_ := A0_.mk (kB_ (g := ia) (o := .cells #[.bool ua, .string va, .string xa] 26 (0, 0)) (xK_ fa.out) hb); have n4_ := A0_.mk (kB_ (g := ja) (o := .cells #[.bool Ia, .string Ha, .string Fa] 26 (0, 0)) (xK_ ga.out) hb); have n5_ := A0_.mk (kB_ (g := ra) (o := .cells #[.bool Ba, .string Aa, .string za] 26 (0, 0)) (xK_ ka.out) hb); have n6_ := A0_.mk (kB_ (g := sa) (o := .cells #[.bool Ga, .string Da, .string Ca] 26 (0, 0)) (xK_ ha.out) hb); have n7_ := A0_.mk (bT_ (xB5_ HB wa ya Ja Ka La) hb); clear ma na ea fa ga ka ha HB; have ma := n0_; have na := n1_; have ea := n2_; have fa := n3_; have ga := n4_; have ka := n5_; have ha := n6_; have HB := n7_; clear n0_ n1_ n2_ n3_ n4_ n5_ n6_ n7_; (try clear hb); (try clear hb2); (try clear hk); (try clear hi); have hnb127 := cc.out; have hnc127 := vb.out; have hnb128 := dc.out; have hnc128 := wb.out; have hnb129 := gb.out; have hnc129 := ib.out; have hnb130 := jb.out; have hnc130 := kb.out; have nh : Td.cell? ⟨ja, 0, none⟩ = some (.bool Ia) := (kc_ ga.out 0).trans rfl; have oh : Td.cell? ⟨ja, 1, none⟩ = some (.string Ha) := (kc_ ga.out 1).trans rfl; have ph : Td.cell? ⟨ja, 2, none⟩ = some (.string Fa) := (kc_ ga.out 2).trans rfl; have qh := kF_ ga.out 0; have rh := kF_ ga.out 1; have sh := kF_ ga.out 2) | (go_at_call 19; (with_reducible refine (q_Sign.calls k3 Ia Ha Fa tb _ cf.out).mono ?_); rintro e Xb ⟨rfl, hb⟩; have n0_ := A0_.mk (Kd.rB_ (xR_ ma.out) hb); have n1_ := A0_.mk (Kd.rB_ (xR_ na.out) hb); have n2_ := A0_.mk (kB_ (g := la) (o := .cells #[.bool oa, .string qa, .string ta] 26 (0, 0)) (xK_ ea.out) hb); have n3_ := A0_.mk (kB_ (g := ia) (o := .cells #[.bool ua, .string va, .string xa] 26 (0, 0)) (xK_ fa.out) hb); have n4_ := A0_.mk (kB_ (g := ja) (o := .cells #[.bool Ia, .string Ha, .string Fa] 26 (0, 0)) (xK_ ga.out) hb); have n5_ := A0_.mk (kB_ (g := ra) (o := .cells #[.bool Ba, .string Aa, .string za] 26 (0, 0)) (xK_ ka.out) hb); have n6_ := A0_.mk (kB_ (g := sa) (o := .cells #[.bool Ga, .string Da, .string Ca] 26 (0, 0)) (xK_ ha.out) hb); have n7_ := A0_.mk (bT_ (xB5_ HB wa ya Ja Ka La) hb); clear ma na ea fa ga ka ha HB; have ma := n0_; have na := n1_; have ea := n2_; have fa := n3_; have ga := n4_; have ka := n5_; have ha := n6_; have HB := n7_; clear n0_ n1_ n2_ n3_ n4_ n5_ n6_ n7_; (try clear hb); (try clear hb2); (try clear hk); (try clear hi); have hnb133 := fc.out; have hnc133 := Bb.out; have hnb134 := gc.out; have hnc134 := Cb.out; have hnb135 := nb.out; have hnc135 := mb.out; have th : Xb.cell? ⟨sa, 0, none⟩ = some (.bool Ga) := (kc_ ha.out 0).trans rfl; have uh : Xb.cell? ⟨sa, 1, none⟩ = some (.string Da) := (kc_ ha.out 1).trans rfl; have vh : Xb.cell? ⟨sa, 2, none⟩ = some (.string Ca) := (kc_ ha.out 2).trans rfl; have wh := kF_ ha.out 0; have xh := kF_ ha.out 1; have yh := kF_ ha.out 2; have hnb137 := Sa.out; have hnc137 := bc.out; have hnb138 := xb.out; have hnc138 := ec.out; have zh : Xb.cell? ⟨la, 0, none⟩ = some (.bool oa) := (kc_ ea.out 0).trans rfl; have Ah : Xb.cell? ⟨la, 1, none⟩ = some (.string qa) := (kc_ ea.out 1).trans rfl; have Bh : Xb.cell? ⟨la, 2, none⟩ = some (.string ta) := (kc_ ea.out 2).trans rfl; have Ch := kF_ ea.out 0; have Dh := kF_ ea.out 1; have Eh := kF_ ea.out 2))
           go_ret
           exact ⟨rE_, xB5_ HB wa ya Ja Ka La⟩
          ·rw [if_neg Ob] at H
           have zf : (tb == 0) = false := beq_eq_false_iff_ne.mpr Ob
           have Af : (tb != 0) = true := bne_iff_ne.mpr Ob
           obtain ⟨Gb, Bf, H⟩ := oB_ H
           (try dsimp only at H)
           by_cases Pb : Gb = 0
           ·rw [if_pos Pb] at H
            have Cf : (Gb == 0) = true := beq_iff_eq.mpr Pb
            have Df : (Gb != 0) = false := bne_eq_false_iff_eq.mpr Pb
            clear Pb
            obtain rfl := Option.some.inj H
            go_wp2_with (first | ((with_reducible refine gC_ (f := 12) rfl ?_); refine gL_ (some 146) rfl rfl Tryd.func12 kr_ rfl #[] rfl mp_ ?_; (with_reducible refine (l14_awake.calls k3  true _ bf.out).mono ?_); rintro e Ud ⟨rfl, hb⟩; refine ⟨_, rfl, ?_⟩; have n0_ := A0_.mk (Kd.rB_ (xR_ ma.out) hb); have n1_ := A0_.mk (Kd.rB_ (xR_ na.out) hb); have n2_ := A0_.mk (kB_ (g := la) (o := .cells #[.bool oa, .string qa, .string ta] 26 (0, 0)) (xK_ ea.out) hb); have n3_ := A0_.mk (kB_ (g := ia) (o := .cells #[.bool ua, .string va, .string xa] 26 (0, 0)) (xK_ fa.out) hb); have n4_ := A0_.mk (kB_ (g := ja) (o := .cells #[.bool Ia, .string Ha, .string Fa] 26 (0, 0)) (xK_ ga.out) hb); have n5_ := A0_.mk (kB_ (g := ra) (o := .cells #[.bool Ba, .string Aa, .string za] 26 (0, 0)) (xK_ ka.out) hb); have n6_ := A0_.mk (kB_ (g := sa) (o := .cells #[.bool Ga, .string Da, .string Ca] 26 (0, 0)) (xK_ ha.out) hb); have n7_ := A0_.mk (bT_ (xB5_ HB wa ya Ja Ka La) hb); clear ma na ea fa ga ka ha HB; have ma := n0_; have na := n1_; have ea := n2_; have fa := n3_; have ga := n4_; have ka := n5_; have ha := n6_; have HB := n7_; clear n0_ n1_ n2_ n3_ n4_ n5_ n6_ n7_; (try clear hb); (try clear hb2); (try clear hk); (try clear hi); have hnb143 := cc.out; have hnc143 := vb.out; have hnb144 := dc.out; have hnc144 := wb.out; have hnb145 := gb.out; have hnc145 := ib.out; have hnb146 := jb.out; have hnc146 := kb.out; have Fh : Ud.cell? ⟨ja, 0, none⟩ = some (.bool Ia) := (kc_ ga.out 0).trans rfl; have Gh : Ud.cell? ⟨ja, 1, none⟩ = some (.string Ha) := (kc_ ga.out 1).trans rfl; have Hh : Ud.cell? ⟨ja, 2, none⟩ = some (.string Fa) := (kc_ ga.out 2).trans rfl; have Ih := kF_ ga.out 0; have Jh := kF_ ga.out 1; have Kh := kF_ ga.out 2) | (go_at_call 19; (with_reducible refine (q_Sign.calls k3 Ia Ha Fa tb _ cf.out).mono ?_); rintro e Vd ⟨rfl, hb⟩; have n0_ := A0_.mk (Kd.rB_ (xR_ ma.out) hb); have n1_ := A0_.mk (Kd.rB_ (xR_ na.out) hb); have n2_ := A0_.mk (kB_ (g := la) (o := .cells #[.bool oa, .string qa, .string ta] 26 (0, 0)) (xK_ ea.out) hb); have n3_ := A0_.mk (kB_ (g := ia) (o := .cells #[.bool ua, .string va, .string xa] 26 (0, 0)) (xK_ fa.out) hb); have n4_ := A0_.mk (kB_ (g := ja) (o := .cells #[.bool Ia, .string Ha, .string Fa] 26 (0, 0)) (xK_ ga.out) hb); have n5_ := A0_.mk (kB_ (g := ra) (o := .cells #[.bool Ba, .string Aa, .string za] 26 (0, 0)) (xK_ ka.out) hb); have n6_ := A0_.mk (kB_ (g := sa) (o := .cells #[.bool Ga, .string Da, .string Ca] 26 (0, 0)) (xK_ ha.out) hb); have n7_ := A0_.mk (bT_ (xB5_ HB wa ya Ja Ka La) hb); clear ma na ea fa ga ka ha HB; have ma := n0_; have na := n1_; have ea := n2_; have fa := n3_; have ga := n4_; have ka := n5_; have ha := n6_; have HB := n7_; clear n0_ n1_ n2_ n3_ n4_ n5_ n6_ n7_; (try clear hb); (try clear hb2); (try clear hk); (try clear hi); have hnb149 := ec.out; have hnc149 := xb.out; have hnb150 := fd.out; have hnc150 := Hb.out; have hnb151 := mb.out; have hnc151 := nb.out; have Lh : Vd.cell? ⟨ra, 0, none⟩ = some (.bool Ba) := (kc_ ka.out 0).trans rfl; have Mh : Vd.cell? ⟨ra, 1, none⟩ = some (.string Aa) := (kc_ ka.out 1).trans rfl; have Nh : Vd.cell? ⟨ra, 2, none⟩ = some (.string za) := (kc_ ka.out 2).trans rfl; have Oh := kF_ ka.out 0; have Ph := kF_ ka.out 1; have Qh := kF_ ka.out 2) | (go_at_call 19; (with_reducible refine (q_Sign.calls k3 Ba Aa za Gb _ Bf.out).mono ?_); rintro e Yb ⟨rfl, hb⟩; have n0_ := A0_.mk (Kd.rB_ (xR_ ma.out) hb); have n1_ := A0_.mk (Kd.rB_ (xR_ na.out) hb); have n2_ := A0_.mk (kB_ (g := la) (o := .cells #[.bool oa, .string qa, .string ta] 26 (0, 0)) (xK_ ea.out) hb); have n3_ := A0_.mk (kB_ (g := ia) (o := .cells #[.bool ua, .string va, .string xa] 26 (0, 0)) (xK_ fa.out) hb); have n4_ := A0_.mk (kB_ (g := ja) (o := .cells #[.bool Ia, .string Ha, .string Fa] 26 (0, 0)) (xK_ ga.out) hb); have n5_ := A0_.mk (kB_ (g := ra) (o := .cells #[.bool Ba, .string Aa, .string za] 26 (0, 0)) (xK_ ka.out) hb); have n6_ := A0_.mk (kB_ (g := sa) (o := .cells #[.bool Ga, .string Da, .string Ca] 26 (0, 0)) (xK_ ha.out) hb); have n7_ := A0_.mk (bT_ (xB5_ HB wa ya Ja Ka La) hb); clear ma na ea fa ga ka ha HB; have ma := n0_; have na := n1_; have ea := n2_; have fa := n3_; have ga := n4_; have ka := n5_; have ha := n6_; have HB := n7_; clear n0_ n1_ n2_ n3_ n4_ n5_ n6_ n7_; (try clear hb); (try clear hb2); (try clear hk); (try clear hi); have hnb154 := fc.out; have hnc154 := Bb.out; have hnb155 := gc.out; have hnc155 := Cb.out; have Rh : Yb.cell? ⟨sa, 0, none⟩ = some (.bool Ga) := (kc_ ha.out 0).trans rfl; have Sh : Yb.cell? ⟨sa, 1, none⟩ = some (.string Da) := (kc_ ha.out 1).trans rfl; have Th : Yb.cell? ⟨sa, 2, none⟩ = some (.string Ca) := (kc_ ha.out 2).trans rfl; have Uh := kF_ ha.out 0; have Vh := kF_ ha.out 1; have Wh := kF_ ha.out 2; have hnb157 := Sa.out; have hnc157 := bc.out; have Xh : Yb.cell? ⟨la, 0, none⟩ = some (.bool oa) := (kc_ ea.out 0).trans rfl; have Yh : Yb.cell? ⟨la, 1, none⟩ = some (.string qa) := (kc_ ea.out 1).trans rfl; have Zh : Yb.cell? ⟨la, 2, none⟩ = some (.string ta) := (kc_ ea.out 2).trans rfl; have ai := kF_ ea.out 0; have bi := kF_ ea.out 1; have ci := kF_ ea.out 2))
            go_ret
            exact ⟨rE_, xB5_ HB wa ya Ja Ka La⟩
           ·rw [if_neg Pb] at H
            have Cf : (Gb == 0) = false := beq_eq_false_iff_ne.mpr Pb
            have Df : (Gb != 0) = true := bne_iff_ne.mpr Pb
            exact absurd H (by simp)
         ·replace sd := Bool.eq_false_iff.mpr sd
          subst sd
          have H1 : (none) = some r := by rw [if_neg (show ¬ (false = true) by decide)] at H; exact H
          exact absurd H1 (by simp)
end C
end Go.Proofs.YtnegkpnhjgimcaaDoor
end
