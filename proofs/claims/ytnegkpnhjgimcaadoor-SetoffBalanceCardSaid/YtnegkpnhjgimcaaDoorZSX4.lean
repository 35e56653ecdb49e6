/- A part of the proof of setoffBalance_card (see YtnegkpnhjgimcaaDoorZSX5): what the functions that it reaches compute, each by its contract. -/
import Derived.Test.YtnegkpnhjgimcaaDoorZSX3
section
namespace Go.Proofs.YtnegkpnhjgimcaaDoor.C
set_option maxHeartbeats 8000000
set_option maxRecDepth 100000
open Go.RowKit Go.PrWords Go.PrLast Go.PrMore
attribute [local go_sem] max2_int min2_int max_two min_two max_three min_three max_four min_four
set_option linter.unusedVariables false
set_option linter.unusedSimpArgs false
mutual
def l14_net.l0 : Nat → List (S26) → Int → Int → List (S28) → Int → Int → Bool → ByteArray → ByteArray → Option (Bool × ByteArray × ByteArray)
 | 0, _, _, _, _, _, _, _, _, _ => none
 | k + 1, x1, x2, x3, x13, x14, x15, x799000, x799001, x799002 => if x15 < x14 then (if 0 ≤ x15 then (if x15 < (x13.length : Int) then (if x15 < (x1.length : Int) then (if ((r28_ x13 x15).f0) = x2 then (l14_net.j1 k x1 x2 x3 x15 x13 x14 x15 (((r28_ x13 x15).f1) == x3) x799000 x799001 x799002 ((r28_ x13 x15).f0) ((r28_ x13 x15).f1) ((r28_ x13 x15).f2.f0) ((r28_ x13 x15).f2.f1) ((r28_ x13 x15).f2.f2) ((r28_ x13 x15).f3) ((r28_ x13 x15).f4) ((r28_ x13 x15).f5)) else (l14_net.j1 k x1 x2 x3 x15 x13 x14 x15 false x799000 x799001 x799002 ((r28_ x13 x15).f0) ((r28_ x13 x15).f1) ((r28_ x13 x15).f2.f0) ((r28_ x13 x15).f2.f1) ((r28_ x13 x15).f2.f2) ((r28_ x13 x15).f3) ((r28_ x13 x15).f4) ((r28_ x13 x15).f5))) else (l14_net.j1 k x1 x2 x3 x15 x13 x14 x15 false x799000 x799001 x799002 ((r28_ x13 x15).f0) ((r28_ x13 x15).f1) ((r28_ x13 x15).f2.f0) ((r28_ x13 x15).f2.f1) ((r28_ x13 x15).f2.f2) ((r28_ x13 x15).f3) ((r28_ x13 x15).f4) ((r28_ x13 x15).f5))) else (none)) else (none)) else (some (x799000, x799001, x799002))
def l14_net.j1 : Nat → List (S26) → Int → Int → Int → List (S28) → Int → Int → Bool → Bool → ByteArray → ByteArray → Int → Int → Bool → ByteArray → ByteArray → Int → Int → Bool → Option (Bool × ByteArray × ByteArray)
 | 0, _, _, _, _, _, _, _, _, _, _, _, _, _, _, _, _, _, _, _ => none
 | k + 1, x1, x2, x3, x10, x13, x14, x15, x35, x799000, x799001, x799002, x801000, x801001, x801002, x801003, x801004, x801005, x801006, x801007 => if x35 = true then (if 0 ≤ x10 then (if x10 < (x1.length : Int) then ((q_Add.f k x799000 x799001 x799002 ((r26_ x1 x10).f0) ((r26_ x1 x10).f1) ((r26_ x1 x10).f2)).bind fun bt802 => (l14_net.j2 k x1 x2 x3 x10 x13 x14 x15 bt802.1 bt802.2.1 bt802.2.2 x801000 x801001 x801002 x801003 x801004 x801005 x801006 x801007)) else (none)) else (none)) else (l14_net.j2 k x1 x2 x3 x10 x13 x14 x15 x799000 x799001 x799002 x801000 x801001 x801002 x801003 x801004 x801005 x801006 x801007)
def l14_net.j2 : Nat → List (S26) → Int → Int → Int → List (S28) → Int → Int → Bool → ByteArray → ByteArray → Int → Int → Bool → ByteArray → ByteArray → Int → Int → Bool → Option (Bool × ByteArray × ByteArray)
 | 0, _, _, _, _, _, _, _, _, _, _, _, _, _, _, _, _, _, _ => none
 | k + 1, x1, x2, x3, x10, x13, x14, x15, x799000, x799001, x799002, x801000, x801001, x801002, x801003, x801004, x801005, x801006, x801007 => if x10 < (x1.length : Int) then (if x801000 = x3 then (l14_net.j3 k x1 x2 x3 x10 x13 x14 x15 (x801001 == x2) x799000 x799001 x799002) else (l14_net.j3 k x1 x2 x3 x10 x13 x14 x15 false x799000 x799001 x799002)) else (l14_net.j3 k x1 x2 x3 x10 x13 x14 x15 false x799000 x799001 x799002)
def l14_net.j3 : Nat → List (S26) → Int → Int → Int → List (S28) → Int → Int → Bool → Bool → ByteArray → ByteArray → Option (Bool × ByteArray × ByteArray)
 | 0, _, _, _, _, _, _, _, _, _, _, _ => none
 | k + 1, x1, x2, x3, x10, x13, x14, x15, x57, x799000, x799001, x799002 => if x57 = true then (if 0 ≤ x10 then (if x10 < (x1.length : Int) then ((q_Subtract.f k x799000 x799001 x799002 ((r26_ x1 x10).f0) ((r26_ x1 x10).f1) ((r26_ x1 x10).f2)).bind fun bt806 => (l14_net.l0 k x1 x2 x3 x13 x14 (wrap64 (x15 + 1)) bt806.1 bt806.2.1 bt806.2.2)) else (none)) else (none)) else (l14_net.l0 k x1 x2 x3 x13 x14 (wrap64 (x15 + 1)) x799000 x799001 x799002)
end
def l14_net.f (k : Nat) (l0 : List (S28)) (l1 : List (S26)) (a2 : Int) (a3 : Int) : Option (Bool × ByteArray × ByteArray) := l14_net.l0 k l1 a2 a3 l0 (l0.length : Int) 0 false (⟨#[]⟩ : ByteArray) (⟨#[]⟩ : ByteArray)
theorem l14_net.calls (k : Nat) (A0 : Option Addr) (c0 : Nat) (l0 : List (S28)) (A1 : Option Addr) (c1 : Nat) (l1 : List (S26)) (a2 : Int) (a3 : Int) (r1 : Bool) (r2 : ByteArray) (r3 : ByteArray) (w : World) (hr0 : Kd.C k28 w A0 l0.length l0) (hc0 : l0.length ≤ c0) (hr1 : Kd.C k26 w A1 l1.length l1) (hc1 : l1.length ≤ c1) (h : l14_net.f k l0 l1 a2 a3 = some (r1, r2, r3)) :
  Calls Tryd.prog 21 #[.slice A0 l0.length c0, .slice A1 l1.length c1, .int .i64 a2, .int .i64 a3] w fun e w' => e = .returned (.agg #[.bool r1, .string r2, .string r3]) ∧ Below w.heap.size w w' := by
 have hu26 := Tryd.underlying26
 have hu28 := Tryd.underlying28
 have HR0 := A0_.mk hr0
 have HC0 := A0_.mk hc0
 clear hr0 hc0
 have HR1 := A0_.mk hr1
 have HC1 := A0_.mk hc1
 clear hr1 hc1
 have HB := A0_.mk (Below.refl w.heap.size w)
 have H := h
 unfold l14_net.f at H
 clear h
 have H' := A0_.mk H
 clear H
 go_enter Tryd.func21, Tryd.ntmps21
 go_wp2_with (first | ((with_reducible refine gD_ (N := 8) rfl ?_); refine bE_ ?hg (N := 8) ?hd (cs := zC_) (t := 26) ?hr ?_; (case hd => rfl); (case hg => rfl); (case hr => first | (go_simp; done) | (go_simp; rfl)); intro ia hg w5 hbox hb; have n0_ := A0_.mk (bT_ (xB_ HB) hb); have n1_ := A0_.mk (hbox); have n2_ := A0_.mk ((by rw [hg]; exact (bZ_ (xB_ HB)) : w.heap.size ≤ ia)); have n3_ := A0_.mk ((by rw [hg]; exact (bZ_ (xB_ HB)) : w.heap.size ≤ ia)); clear HB; have HB := n0_; have ea := n1_; have ed := n2_; have ma := n3_; clear n0_ n1_ n2_ n3_; clear hb hbox hg) | ((with_reducible refine gD_ (N := 9) rfl ?_); refine bE_ ?hg (N := 9) ?hd (cs := zC_) (t := 26) ?hr ?_; (case hd => rfl); (case hg => rfl); (case hr => first | (go_simp; done) | (go_simp; rfl)); intro ga hg w6 hbox hb; have n0_ := A0_.mk (kB_ (g := ia) (o := .cells zC_ 26 (0, 0)) (xK_ ea.out) hb); have n1_ := A0_.mk (bT_ (xB1_ HB ma) hb); have n2_ := A0_.mk (hbox); have n3_ := A0_.mk ((by rw [hg]; exact (bZ_ (xB1_ HB ma)) : w.heap.size ≤ ga)); have n4_ := A0_.mk ((by rw [hg]; exact (bZ_ (xB1_ HB ma)) : w.heap.size ≤ ga)); have n5_ := A0_.mk ((by rw [hg]; exact Nat.ne_of_lt (blk_lt (g := ia) (o := .cells zC_ 26 (0, 0)) (xK_ ea.out)) : ia ≠ ga)); have n6_ := A0_.mk ((by rw [hg]; exact Nat.ne_of_gt (blk_lt (g := ia) (o := .cells zC_ 26 (0, 0)) (xK_ ea.out)) : ga ≠ ia)); clear ea HB; have ea := n0_; have HB := n1_; have ca := n2_; have fd := n3_; have na := n4_; have oa := n5_; have ua := n6_; clear n0_ n1_ n2_ n3_ n4_ n5_ n6_; clear hb hbox hg; have hnb7 := ua.out; have hnc7 := oa.out; have Sa : w6.cell? ⟨ga, 0, none⟩ = some (.bool false) := (kc_ ca.out 0).trans rfl; have Ta : w6.cell? ⟨ga, 1, none⟩ = some (.string (⟨#[]⟩ : ByteArray)) := (kc_ ca.out 1).trans rfl; have Ua : w6.cell? ⟨ga, 2, none⟩ = some (.string (⟨#[]⟩ : ByteArray)) := (kc_ ca.out 2).trans rfl; have Va := kF_ ca.out 0; have Wa := kF_ ca.out 1; have Xa := kF_ ca.out 2))
 go_loopg [15] k (fun kq v15 w' => ∃ (aa : Int) (ja : Bool) (ka : ByteArray) (la : ByteArray), v15 = .int .i64 aa ∧ A0_ (l14_net.l0 kq l1 a2 a3 l0 (l0.length : Int) aa ja ka la = some (r1, r2, r3)) ∧ A0_ (kq ≤ k) ∧ A0_ (w'.heap[ia]? = some (.cells zC_ 26 (0, 0))) ∧ A0_ (w'.heap[ga]? = some (.cells #[.bool ja, .string ka, .string la] 26 (0, 0))) ∧ A0_ (Below w.heap.size w w'))
 case atStart => exact ⟨(0), (false), ((⟨#[]⟩ : ByteArray)), ((⟨#[]⟩ : ByteArray)), (rS_), H', ⟨Nat.le_refl _⟩, ⟨by (with_reducible repeat (first | apply kN_ | apply kD_ | apply kA_)); refine bf_ ?_ oa.out _; (with_reducible repeat (first | apply kN_ | apply kD_ | apply kA_)); refine bf_ ?_ oa.out _; (with_reducible repeat (first | apply kN_ | apply kD_ | apply kA_)); refine bf_ ?_ oa.out _; (with_reducible repeat (first | apply kN_ | apply kD_ | apply kA_)); exact ea.out⟩, ⟨by (with_reducible repeat (first | apply kN_ | apply kD_ | apply kA_)); refine kP_ (cs := zC_) ?_ 2 _ rfl; (with_reducible repeat (first | apply kN_ | apply kD_ | apply kA_)); refine kP_ (cs := zC_) ?_ 1 _ rfl; (with_reducible repeat (first | apply kN_ | apply kD_ | apply kA_)); refine kP_ (cs := zC_) ?_ 0 _ rfl; (with_reducible repeat (first | apply kN_ | apply kD_ | apply kA_)); exact ca.out⟩, ⟨xB2_ HB ma na⟩⟩
 case round =>
  clear H'
  try clear c1
  try clear c2
  try clear p2
  try clear c7
  try clear Sa
  try clear Ta
  try clear Ua
  try clear Va
  try clear Wa
  try clear Xa
  obtain ⟨aa, ja, ka, la, rfl, HA, HK1, ea, ca, HB⟩ := hrel
  cases gk with
  | zero => exact absurd HA.out (by simp [l14_net.l0])
  | succ k1 =>
   have H := HA.out
   clear HA
   simp only [l14_net.l0] at H
   by_cases c9 : aa < (l0.length : Int)
   ·rw [if_pos c9] at H
    have Ya : decide (aa < (l0.length : Int)) = true := decide_eq_true c9
    clear c9
    by_cases c10 : 0 ≤ aa
    rotate_left
    ·rw [if_neg c10] at H
     exact absurd H (by simp)
    rw [if_pos c10] at H
    have ib : decide (0 ≤ aa) = true := decide_eq_true c10
    clear c10
    by_cases c11 : aa < (l0.length : Int)
    rotate_left
    ·rw [if_neg c11] at H
     exact absurd H (by simp)
    rw [if_pos c11] at H
    have jb : decide (aa < (l0.length : Int)) = true := decide_eq_true c11
    clear c11
    have HC12 := A0_.mk H
    clear H
    have za : 0 ≤ (aa : Int) := oD_
    have Aa : aa < (l0.length : Int) := oD_
    obtain ⟨id, uc, Ba, Ca, Da, Ea, Fa, Ga, Ha, Ia⟩ := at_T28 HR0.out aa za Aa
    cases uc
    (try replace Ba := cT_ HB Ba)
    (try replace Ca := cT_ HB Ca)
    (try replace Da := cT_ HB Da)
    (try replace Ea := cT_ HB Ea)
    (try replace Fa := cT_ HB Fa)
    (try replace Ga := cT_ HB Ga)
    (try replace Ha := cT_ HB Ha)
    (try replace Ia := cT_ HB Ia)
    replace za := eq_true za
    replace Aa := eq_true Aa
    go_upto_region 5 with (first | ((with_reducible refine gD_ (N := 11) rfl ?_); refine bE_ ?hg (N := 11) ?hd (cs := #[.int .i64 0, .int .i64 0, .bool false, .string (⟨#[]⟩ : ByteArray), .string (⟨#[]⟩ : ByteArray), .int .i64 0, .int .i64 0, .bool false]) (t := 28) ?hr ?_; (case hd => rfl); (case hg => rfl); (case hr => first | (go_simp; done) | (go_simp; rfl)); intro da hg w13 hbox hb; have n0_ := A0_.mk (kB_ (g := ia) (o := .cells zC_ 26 (0, 0)) (xK_ ea.out) hb); have n1_ := A0_.mk (kB_ (g := ga) (o := .cells #[.bool ja, .string ka, .string la] 26 (0, 0)) (xK_ ca.out) hb); have n2_ := A0_.mk (bT_ (xB2_ HB ma na) hb); have n3_ := A0_.mk (hbox); have n4_ := A0_.mk ((by rw [hg]; exact (bZ_ (xB2_ HB ma na)) : w.heap.size ≤ da)); have n5_ := A0_.mk ((by rw [hg]; exact (bZ_ (xB2_ HB ma na)) : w.heap.size ≤ da)); have n6_ := A0_.mk ((by rw [hg]; exact Nat.ne_of_lt (blk_lt (g := ia) (o := .cells zC_ 26 (0, 0)) (xK_ ea.out)) : ia ≠ da)); have n7_ := A0_.mk ((by rw [hg]; exact Nat.ne_of_gt (blk_lt (g := ia) (o := .cells zC_ 26 (0, 0)) (xK_ ea.out)) : da ≠ ia)); have n8_ := A0_.mk ((by rw [hg]; exact Nat.ne_of_lt (blk_lt (g := ga) (o := .cells #[.bool ja, .string ka, .string la] 26 (0, 0)) (xK_ ca.out)) : ga ≠ da)); have n9_ := A0_.mk ((by rw [hg]; exact Nat.ne_of_gt (blk_lt (g := ga) (o := .cells #[.bool ja, .string ka, .string la] 26 (0, 0)) (xK_ ca.out)) : da ≠ ga)); clear ea ca HB; have ea := n0_; have ca := n1_; have HB := n2_; have ba := n3_; have jd := n4_; have ta := n5_; have ha := n6_; have Ka := n7_; have fa := n8_; have ra := n9_; clear n0_ n1_ n2_ n3_ n4_ n5_ n6_ n7_ n8_ n9_; clear hb hbox hg; have hnb14 := Ka.out; have hnc14 := ha.out; have hnb15 := ra.out; have hnc15 := fa.out; have kb : w13.cell? ⟨da, 0, none⟩ = some (.int .i64 0) := (kc_ ba.out 0).trans rfl; have mb : w13.cell? ⟨da, 1, none⟩ = some (.int .i64 0) := (kc_ ba.out 1).trans rfl; have nb : w13.cell? ⟨da, 2, none⟩ = some (.bool false) := (kc_ ba.out 2).trans rfl; have ob : w13.cell? ⟨da, 3, none⟩ = some (.string (⟨#[]⟩ : ByteArray)) := (kc_ ba.out 3).trans rfl; have pb : w13.cell? ⟨da, 4, none⟩ = some (.string (⟨#[]⟩ : ByteArray)) := (kc_ ba.out 4).trans rfl; have qb : w13.cell? ⟨da, 5, none⟩ = some (.int .i64 0) := (kc_ ba.out 5).trans rfl; have rb : w13.cell? ⟨da, 6, none⟩ = some (.int .i64 0) := (kc_ ba.out 6).trans rfl; have sb : w13.cell? ⟨da, 7, none⟩ = some (.bool false) := (kc_ ba.out 7).trans rfl; have tb := kF_ ba.out 0; have ub := kF_ ba.out 1; have vb := kF_ ba.out 2; have wb := kF_ ba.out 3; have xb := kF_ ba.out 4; have yb := kF_ ba.out 5; have zb := kF_ ba.out 6; have Ab := kF_ ba.out 7))
    (try simp only [Act.put, s1_, s2_, s3_])
    go_cut [35] (fun v35 wc => ∃ (kq : Nat) (Za : Bool), v35 = .bool Za ∧ A0_ (l14_net.j1 kq l1 a2 a3 aa l0 (l0.length : Int) aa Za ja ka la ((r28_ l0 aa).f0) ((r28_ l0 aa).f1) ((r28_ l0 aa).f2.f0) ((r28_ l0 aa).f2.f1) ((r28_ l0 aa).f2.f2) ((r28_ l0 aa).f3) ((r28_ l0 aa).f4) ((r28_ l0 aa).f5) = some (r1, r2, r3)) ∧ A0_ (kq ≤ k1) ∧ A0_ (wc.heap[ia]? = some (.cells zC_ 26 (0, 0))) ∧ A0_ (wc.heap[ga]? = some (.cells #[.bool ja, .string ka, .string la] 26 (0, 0))) ∧ A0_ (wc.heap[da]? = some (.cells #[.int .i64 ((r28_ l0 aa).f0), .int .i64 ((r28_ l0 aa).f1), .bool ((r28_ l0 aa).f2.f0), .string ((r28_ l0 aa).f2.f1), .string ((r28_ l0 aa).f2.f2), .int .i64 ((r28_ l0 aa).f3), .int .i64 ((r28_ l0 aa).f4), .bool ((r28_ l0 aa).f5)] 28 (0, 0))) ∧ A0_ (Below w.heap.size w wc))
    case first =>
     have H := HC12.out
     clear HC12
     by_cases c17 : aa < (l1.length : Int)
     ·rw [if_pos c17] at H
      have va : decide (aa < (l1.length : Int)) = true := decide_eq_true c17
      clear c17
      (first | rw [va] | rw [ab] | (simp only [i6_, i3_]; rw [va]) | skip)
      by_cases c18 : ((r28_ l0 aa).f0) = a2
      ·rw [if_pos c18] at H
       have bb : (((r28_ l0 aa).f0) == a2) = true := beq_iff_eq.mpr c18
       have cb : (((r28_ l0 aa).f0) != a2) = false := bne_eq_false_iff_eq.mpr c18
       clear c18
       have H' := A0_.mk H
       clear H
       have hnb19 := Ka.out
       have hnc19 := ha.out
       have hnb20 := ra.out
       have hnc20 := fa.out
       have Bb : w13.cell? ⟨da, 0, none⟩ = some (.int .i64 0) := (kc_ ba.out 0).trans rfl
       have Cb : w13.cell? ⟨da, 1, none⟩ = some (.int .i64 0) := (kc_ ba.out 1).trans rfl
       have Db : w13.cell? ⟨da, 2, none⟩ = some (.bool false) := (kc_ ba.out 2).trans rfl
       have Eb : w13.cell? ⟨da, 3, none⟩ = some (.string (⟨#[]⟩ : ByteArray)) := (kc_ ba.out 3).trans rfl
       have Fb : w13.cell? ⟨da, 4, none⟩ = some (.string (⟨#[]⟩ : ByteArray)) := (kc_ ba.out 4).trans rfl
       have Gb : w13.cell? ⟨da, 5, none⟩ = some (.int .i64 0) := (kc_ ba.out 5).trans rfl
       have Hb : w13.cell? ⟨da, 6, none⟩ = some (.int .i64 0) := (kc_ ba.out 6).trans rfl
       have Ib : w13.cell? ⟨da, 7, none⟩ = some (.bool false) := (kc_ ba.out 7).trans rfl
       have Jb := kF_ ba.out 0
       have Kb := kF_ ba.out 1
       have Lb := kF_ ba.out 2
       have Mb := kF_ ba.out 3
       have Nb := kF_ ba.out 4
       have Ob := kF_ ba.out 5
       have Pb := kF_ ba.out 6
       have Qb := kF_ ba.out 7
       go_wp2
       go_meet
       case rel => exact ⟨_, ((((r28_ l0 aa).f1) == a3)), (rS_), H', ⟨by have := HK1.out; first | omega | exact Nat.le_refl _⟩, ⟨by (with_reducible repeat (first | apply kN_ | apply kD_ | apply kA_)); refine bf_ ?_ ha.out _; (with_reducible repeat (first | apply kN_ | apply kD_ | apply kA_)); refine bf_ ?_ ha.out _; (with_reducible repeat (first | apply kN_ | apply kD_ | apply kA_)); refine bf_ ?_ ha.out _; (with_reducible repeat (first | apply kN_ | apply kD_ | apply kA_)); refine bf_ ?_ ha.out _; (with_reducible repeat (first | apply kN_ | apply kD_ | apply kA_)); refine bf_ ?_ ha.out _; (with_reducible repeat (first | apply kN_ | apply kD_ | apply kA_)); refine bf_ ?_ ha.out _; (with_reducible repeat (first | apply kN_ | apply kD_ | apply kA_)); refine bf_ ?_ ha.out _; (with_reducible repeat (first | apply kN_ | apply kD_ | apply kA_)); refine bf_ ?_ ha.out _; (with_reducible repeat (first | apply kN_ | apply kD_ | apply kA_)); exact ea.out⟩, ⟨by (with_reducible repeat (first | apply kN_ | apply kD_ | apply kA_)); refine bf_ ?_ fa.out _; (with_reducible repeat (first | apply kN_ | apply kD_ | apply kA_)); refine bf_ ?_ fa.out _; (with_reducible repeat (first | apply kN_ | apply kD_ | apply kA_)); refine bf_ ?_ fa.out _; (with_reducible repeat (first | apply kN_ | apply kD_ | apply kA_)); refine bf_ ?_ fa.out _; (with_reducible repeat (first | apply kN_ | apply kD_ | apply kA_)); refine bf_ ?_ fa.out _; (with_reducible repeat (first | apply kN_ | apply kD_ | apply kA_)); refine bf_ ?_ fa.out _; (with_reducible repeat (first | apply kN_ | apply kD_ | apply kA_)); refine bf_ ?_ fa.out _; (with_reducible repeat (first | apply kN_ | apply kD_ | apply kA_)); refine bf_ ?_ fa.out _; (with_reducible repeat (first | apply kN_ | apply kD_ | apply kA_)); exact ca.out⟩, ⟨by (with_reducible repeat (first | apply kN_ | apply kD_ | apply kA_)); refine kP_ (cs := #[.int .i64 ((r28_ l0 aa).f0), .int .i64 ((r28_ l0 aa).f1), .bool ((r28_ l0 aa).f2.f0), .string ((r28_ l0 aa).f2.f1), .string ((r28_ l0 aa).f2.f2), .int .i64 ((r28_ l0 aa).f3), .int .i64 ((r28_ l0 aa).f4), .bool false]) ?_ 7 _ rfl; (with_reducible repeat (first | apply kN_ | apply kD_ | apply kA_)); refine kP_ (cs := #[.int .i64 ((r28_ l0 aa).f0), .int .i64 ((r28_ l0 aa).f1), .bool ((r28_ l0 aa).f2.f0), .string ((r28_ l0 aa).f2.f1), .string ((r28_ l0 aa).f2.f2), .int .i64 ((r28_ l0 aa).f3), .int .i64 0, .bool false]) ?_ 6 _ rfl; (with_reducible repeat (first | apply kN_ | apply kD_ | apply kA_)); refine kP_ (cs := #[.int .i64 ((r28_ l0 aa).f0), .int .i64 ((r28_ l0 aa).f1), .bool ((r28_ l0 aa).f2.f0), .string ((r28_ l0 aa).f2.f1), .string ((r28_ l0 aa).f2.f2), .int .i64 0, .int .i64 0, .bool false]) ?_ 5 _ rfl; (with_reducible repeat (first | apply kN_ | apply kD_ | apply kA_)); refine kP_ (cs := #[.int .i64 ((r28_ l0 aa).f0), .int .i64 ((r28_ l0 aa).f1), .bool ((r28_ l0 aa).f2.f0), .string ((r28_ l0 aa).f2.f1), .string (⟨#[]⟩ : ByteArray), .int .i64 0, .int .i64 0, .bool false]) ?_ 4 _ rfl; (with_reducible repeat (first | apply kN_ | apply kD_ | apply kA_)); refine kP_ (cs := #[.int .i64 ((r28_ l0 aa).f0), .int .i64 ((r28_ l0 aa).f1), .bool ((r28_ l0 aa).f2.f0), .string (⟨#[]⟩ : ByteArray), .string (⟨#[]⟩ : ByteArray), .int .i64 0, .int .i64 0, .bool false]) ?_ 3 _ rfl; (with_reducible repeat (first | apply kN_ | apply kD_ | apply kA_)); refine kP_ (cs := #[.int .i64 ((r28_ l0 aa).f0), .int .i64 ((r28_ l0 aa).f1), .bool false, .string (⟨#[]⟩ : ByteArray), .string (⟨#[]⟩ : ByteArray), .int .i64 0, .int .i64 0, .bool false]) ?_ 2 _ rfl; (with_reducible repeat (first | apply kN_ | apply kD_ | apply kA_)); refine kP_ (cs := #[.int .i64 ((r28_ l0 aa).f0), .int .i64 0, .bool false, .string (⟨#[]⟩ : ByteArray), .string (⟨#[]⟩ : ByteArray), .int .i64 0, .int .i64 0, .bool false]) ?_ 1 _ rfl; (with_reducible repeat (first | apply kN_ | apply kD_ | apply kA_)); refine kP_ (cs := #[.int .i64 0, .int .i64 0, .bool false, .string (⟨#[]⟩ : ByteArray), .string (⟨#[]⟩ : ByteArray), .int .i64 0, .int .i64 0, .bool false]) ?_ 0 _ rfl; (with_reducible repeat (first | apply kN_ | apply kD_ | apply kA_)); exact ba.out⟩, ⟨xB3_ HB ma na ta⟩⟩
      ·rw [if_neg c18] at H
       have bb : (((r28_ l0 aa).f0) == a2) = false := beq_eq_false_iff_ne.mpr c18
       have cb : (((r28_ l0 aa).f0) != a2) = true := bne_iff_ne.mpr c18
       have H' := A0_.mk H
       clear H
       have hnb22 := Ka.out
       have hnc22 := ha.out
       have hnb23 := ra.out
       have hnc23 := fa.out
       have Rb : w13.cell? ⟨da, 0, none⟩ = some (.int .i64 0) := (kc_ ba.out 0).trans rfl
       have Sb : w13.cell? ⟨da, 1, none⟩ = some (.int .i64 0) := (kc_ ba.out 1).trans rfl
       have Tb : w13.cell? ⟨da, 2, none⟩ = some (.bool false) := (kc_ ba.out 2).trans rfl
       have Ub : w13.cell? ⟨da, 3, none⟩ = some (.string (⟨#[]⟩ : ByteArray)) := (kc_ ba.out 3).trans rfl
       have Vb : w13.cell? ⟨da, 4, none⟩ = some (.string (⟨#[]⟩ : ByteArray)) := (kc_ ba.out 4).trans rfl
       have Wb : w13.cell? ⟨da, 5, none⟩ = some (.int .i64 0) := (kc_ ba.out 5).trans rfl
       have Xb : w13.cell? ⟨da, 6, none⟩ = some (.int .i64 0) := (kc_ ba.out 6).trans rfl
       have Yb : w13.cell? ⟨da, 7, none⟩ = some (.bool false) := (kc_ ba.out 7).trans rfl
       have Zb := kF_ ba.out 0
       have ac := kF_ ba.out 1
       have bc := kF_ ba.out 2
       have cc := kF_ ba.out 3
       have dc := kF_ ba.out 4
       have ec := kF_ ba.out 5
       have fc := kF_ ba.out 6
       have gc := kF_ ba.out 7
       go_wp2
       go_meet
       case rel => exact ⟨_, (false), (rS_), H', ⟨by have := HK1.out; first | omega | exact Nat.le_refl _⟩, ⟨by (with_reducible repeat (first | apply kN_ | apply kD_ | apply kA_)); refine bf_ ?_ ha.out _; (with_reducible repeat (first | apply kN_ | apply kD_ | apply kA_)); refine bf_ ?_ ha.out _; (with_reducible repeat (first | apply kN_ | apply kD_ | apply kA_)); refine bf_ ?_ ha.out _; (with_reducible repeat (first | apply kN_ | apply kD_ | apply kA_)); refine bf_ ?_ ha.out _; (with_reducible repeat (first | apply kN_ | apply kD_ | apply kA_)); refine bf_ ?_ ha.out _; (with_reducible repeat (first | apply kN_ | apply kD_ | apply kA_)); refine bf_ ?_ ha.out _; (with_reducible repeat (first | apply kN_ | apply kD_ | apply kA_)); refine bf_ ?_ ha.out _; (with_reducible repeat (first | apply kN_ | apply kD_ | apply kA_)); refine bf_ ?_ ha.out _; (with_reducible repeat (first | apply kN_ | apply kD_ | apply kA_)); exact ea.out⟩, ⟨by (with_reducible repeat (first | apply kN_ | apply kD_ | apply kA_)); refine bf_ ?_ fa.out _; (with_reducible repeat (first | apply kN_ | apply kD_ | apply kA_)); refine bf_ ?_ fa.out _; (with_reducible repeat (first | apply kN_ | apply kD_ | apply kA_)); refine bf_ ?_ fa.out _; (with_reducible repeat (first | apply kN_ | apply kD_ | apply kA_)); refine bf_ ?_ fa.out _; (with_reducible repeat (first | apply kN_ | apply kD_ | apply kA_)); refine bf_ ?_ fa.out _; (with_reducible repeat (first | apply kN_ | apply kD_ | apply kA_)); refine bf_ ?_ fa.out _; (with_reducible repeat (first | apply kN_ | apply kD_ | apply kA_)); refine bf_ ?_ fa.out _; (with_reducible repeat (first | apply kN_ | apply kD_ | apply kA_)); refine bf_ ?_ fa.out _; (with_reducible repeat (first | apply kN_ | apply kD_ | apply kA_)); exact ca.out⟩, ⟨by (with_reducible repeat (first | apply kN_ | apply kD_ | apply kA_)); refine kP_ (cs := #[.int .i64 ((r28_ l0 aa).f0), .int .i64 ((r28_ l0 aa).f1), .bool ((r28_ l0 aa).f2.f0), .string ((r28_ l0 aa).f2.f1), .string ((r28_ l0 aa).f2.f2), .int .i64 ((r28_ l0 aa).f3), .int .i64 ((r28_ l0 aa).f4), .bool false]) ?_ 7 _ rfl; (with_reducible repeat (first | apply kN_ | apply kD_ | apply kA_)); refine kP_ (cs := #[.int .i64 ((r28_ l0 aa).f0), .int .i64 ((r28_ l0 aa).f1), .bool ((r28_ l0 aa).f2.f0), .string ((r28_ l0 aa).f2.f1), .string ((r28_ l0 aa).f2.f2), .int .i64 ((r28_ l0 aa).f3), .int .i64 0, .bool false]) ?_ 6 _ rfl; (with_reducible repeat (first | apply kN_ | apply kD_ | apply kA_)); refine kP_ (cs := #[.int .i64 ((r28_ l0 aa).f0), .int .i64 ((r28_ l0 aa).f1), .bool ((r28_ l0 aa).f2.f0), .string ((r28_ l0 aa).f2.f1), .string ((r28_ l0 aa).f2.f2), .int .i64 0, .int .i64 0, .bool false]) ?_ 5 _ rfl; (with_reducible repeat (first | apply kN_ | apply kD_ | apply kA_)); refine kP_ (cs := #[.int .i64 ((r28_ l0 aa).f0), .int .i64 ((r28_ l0 aa).f1), .bool ((r28_ l0 aa).f2.f0), .string ((r28_ l0 aa).f2.f1), .string (⟨#[]⟩ : ByteArray), .int .i64 0, .int .i64 0, .bool false]) ?_ 4 _ rfl; (with_reducible repeat (first | apply kN_ | apply kD_ | apply kA_)); refine kP_ (cs := #[.int .i64 ((r28_ l0 aa).f0), .int .i64 ((r28_ l0 aa).f1), .bool ((r28_ l0 aa).f2.f0), .string (⟨#[]⟩ : ByteArray), .string (⟨#[]⟩ : ByteArray), .int .i64 0, .int .i64 0, .bool false]) ?_ 3 _ rfl; (with_reducible repeat (first | apply kN_ | apply kD_ | apply kA_)); refine kP_ (cs := #[.int .i64 ((r28_ l0 aa).f0), .int .i64 ((r28_ l0 aa).f1), .bool false, .string (⟨#[]⟩ : ByteArray), .string (⟨#[]⟩ : ByteArray), .int .i64 0, .int .i64 0, .bool false]) ?_ 2 _ rfl; (with_reducible repeat (first | apply kN_ | apply kD_ | apply kA_)); refine kP_ (cs := #[.int .i64 ((r28_ l0 aa).f0), .int .i64 0, .bool false, .string (⟨#[]⟩ : ByteArray), .string (⟨#[]⟩ : ByteArray), .int .i64 0, .int .i64 0, .bool false]) ?_ 1 _ rfl; (with_reducible repeat (first | apply kN_ | apply kD_ | apply kA_)); refine kP_ (cs := #[.int .i64 0, .int .i64 0, .bool false, .string (⟨#[]⟩ : ByteArray), .string (⟨#[]⟩ : ByteArray), .int .i64 0, .int .i64 0, .bool false]) ?_ 0 _ rfl; (with_reducible repeat (first | apply kN_ | apply kD_ | apply kA_)); exact ba.out⟩, ⟨xB3_ HB ma na ta⟩⟩
     ·rw [if_neg c17] at H
      have va : decide (aa < (l1.length : Int)) = false := decide_eq_false c17
      clear c17
      (first | rw [va] | rw [ab] | (simp only [i6_, i3_]; rw [va]) | skip)
      have H' := A0_.mk H
      clear H
      go_wp2
      go_meet
      case rel => exact ⟨_, (false), (rS_), H', ⟨by have := HK1.out; first | omega | exact Nat.le_refl _⟩, ⟨by (with_reducible repeat (first | apply kN_ | apply kD_ | apply kA_)); refine bf_ ?_ ha.out _; (with_reducible repeat (first | apply kN_ | apply kD_ | apply kA_)); refine bf_ ?_ ha.out _; (with_reducible repeat (first | apply kN_ | apply kD_ | apply kA_)); refine bf_ ?_ ha.out _; (with_reducible repeat (first | apply kN_ | apply kD_ | apply kA_)); refine bf_ ?_ ha.out _; (with_reducible repeat (first | apply kN_ | apply kD_ | apply kA_)); refine bf_ ?_ ha.out _; (with_reducible repeat (first | apply kN_ | apply kD_ | apply kA_)); refine bf_ ?_ ha.out _; (with_reducible repeat (first | apply kN_ | apply kD_ | apply kA_)); refine bf_ ?_ ha.out _; (with_reducible repeat (first | apply kN_ | apply kD_ | apply kA_)); refine bf_ ?_ ha.out _; (with_reducible repeat (first | apply kN_ | apply kD_ | apply kA_)); exact ea.out⟩, ⟨by (with_reducible repeat (first | apply kN_ | apply kD_ | apply kA_)); refine bf_ ?_ fa.out _; (with_reducible repeat (first | apply kN_ | apply kD_ | apply kA_)); refine bf_ ?_ fa.out _; (with_reducible repeat (first | apply kN_ | apply kD_ | apply kA_)); refine bf_ ?_ fa.out _; (with_reducible repeat (first | apply kN_ | apply kD_ | apply kA_)); refine bf_ ?_ fa.out _; (with_reducible repeat (first | apply kN_ | apply kD_ | apply kA_)); refine bf_ ?_ fa.out _; (with_reducible repeat (first | apply kN_ | apply kD_ | apply kA_)); refine bf_ ?_ fa.out _; (with_reducible repeat (first | apply kN_ | apply kD_ | apply kA_)); refine bf_ ?_ fa.out _; (with_reducible repeat (first | apply kN_ | apply kD_ | apply kA_)); refine bf_ ?_ fa.out _; (with_reducible repeat (first | apply kN_ | apply kD_ | apply kA_)); exact ca.out⟩, ⟨by (with_reducible repeat (first | apply kN_ | apply kD_ | apply kA_)); refine kP_ (cs := #[.int .i64 ((r28_ l0 aa).f0), .int .i64 ((r28_ l0 aa).f1), .bool ((r28_ l0 aa).f2.f0), .string ((r28_ l0 aa).f2.f1), .string ((r28_ l0 aa).f2.f2), .int .i64 ((r28_ l0 aa).f3), .int .i64 ((r28_ l0 aa).f4), .bool false]) ?_ 7 _ rfl; (with_reducible repeat (first | apply kN_ | apply kD_ | apply kA_)); refine kP_ (cs := #[.int .i64 ((r28_ l0 aa).f0), .int .i64 ((r28_ l0 aa).f1), .bool ((r28_ l0 aa).f2.f0), .string ((r28_ l0 aa).f2.f1), .string ((r28_ l0 aa).f2.f2), .int .i64 ((r28_ l0 aa).f3), .int .i64 0, .bool false]) ?_ 6 _ rfl; (with_reducible repeat (first | apply kN_ | apply kD_ | apply kA_)); refine kP_ (cs := #[.int .i64 ((r28_ l0 aa).f0), .int .i64 ((r28_ l0 aa).f1), .bool ((r28_ l0 aa).f2.f0), .string ((r28_ l0 aa).f2.f1), .string ((r28_ l0 aa).f2.f2), .int .i64 0, .int .i64 0, .bool false]) ?_ 5 _ rfl; (with_reducible repeat (first | apply kN_ | apply kD_ | apply kA_)); refine kP_ (cs := #[.int .i64 ((r28_ l0 aa).f0), .int .i64 ((r28_ l0 aa).f1), .bool ((r28_ l0 aa).f2.f0), .string ((r28_ l0 aa).f2.f1), .string (⟨#[]⟩ : ByteArray), .int .i64 0, .int .i64 0, .bool false]) ?_ 4 _ rfl; (with_reducible repeat (first | apply kN_ | apply kD_ | apply kA_)); refine kP_ (cs := #[.int .i64 ((r28_ l0 aa).f0), .int .i64 ((r28_ l0 aa).f1), .bool ((r28_ l0 aa).f2.f0), .string (⟨#[]⟩ : ByteArray), .string (⟨#[]⟩ : ByteArray), .int .i64 0, .int .i64 0, .bool false]) ?_ 3 _ rfl; (with_reducible repeat (first | apply kN_ | apply kD_ | apply kA_)); refine kP_ (cs := #[.int .i64 ((r28_ l0 aa).f0), .int .i64 ((r28_ l0 aa).f1), .bool false, .string (⟨#[]⟩ : ByteArray), .string (⟨#[]⟩ : ByteArray), .int .i64 0, .int .i64 0, .bool false]) ?_ 2 _ rfl; (with_reducible repeat (first | apply kN_ | apply kD_ | apply kA_)); refine kP_ (cs := #[.int .i64 ((r28_ l0 aa).f0), .int .i64 0, .bool false, .string (⟨#[]⟩ : ByteArray), .string (⟨#[]⟩ : ByteArray), .int .i64 0, .int .i64 0, .bool false]) ?_ 1 _ rfl; (with_reducible repeat (first | apply kN_ | apply kD_ | apply kA_)); refine kP_ (cs := #[.int .i64 0, .int .i64 0, .bool false, .string (⟨#[]⟩ : ByteArray), .string (⟨#[]⟩ : ByteArray), .int .i64 0, .int .i64 0, .bool false]) ?_ 0 _ rfl; (with_reducible repeat (first | apply kN_ | apply kD_ | apply kA_)); exact ba.out⟩, ⟨xB3_ HB ma na ta⟩⟩
    case rest =>
     clear HC12
     try clear c1
     try clear c2
     try clear p2
     try clear c7
     try clear p7
     try clear q7
     try clear hx7
     try clear c9
     try clear Ya
     try clear c10
     try clear ib
     try clear c11
     try clear jb
     try clear c14
     try clear c15
     try clear c17
     try clear va
     try clear ab
     try clear c18
     try clear bb
     try clear cb
     try clear c19
     try clear c20
     try clear c21
     try clear c22
     try clear c23
     try clear kb
     try clear mb
     try clear nb
     try clear ob
     try clear pb
     try clear qb
     try clear rb
     try clear sb
     try clear Bb
     try clear Cb
     try clear Db
     try clear Eb
     try clear Fb
     try clear Gb
     try clear Hb
     try clear Ib
     try clear Rb
     try clear Sb
     try clear Tb
     try clear Ub
     try clear Vb
     try clear Wb
     try clear Xb
     try clear Yb
     try clear Sa
     try clear Ta
     try clear Ua
     try clear tb
     try clear ub
     try clear vb
     try clear wb
     try clear xb
     try clear yb
     try clear zb
     try clear Ab
     try clear Jb
     try clear Kb
     try clear Lb
     try clear Mb
     try clear Nb
     try clear Ob
     try clear Pb
     try clear Qb
     try clear Zb
     try clear ac
     try clear bc
     try clear cc
     try clear dc
     try clear ec
     try clear fc
     try clear gc
     try clear Va
     try clear Wa
     try clear Xa
     try clear Ba
     try clear Ca
     try clear Da
     try clear Ea
     try clear Fa
     try clear Ga
     try clear Ha
     try clear Ia
     try clear p2
     try clear za
     try clear Aa
     obtain ⟨kq, Za, rfl, HA, HJ11, ea, ca, ba, HB⟩ := hcut
     cases kq with
     | zero => exact absurd HA.out (by simp [l14_net.j1])
     | succ kj11 =>
      have H := HA.out
      clear HA
      simp only [l14_net.j1] at H
      have HC25 := A0_.mk H
      clear H
      go_upto_if 35 with (fail)
      go_cut [] (fun wc => ∃ (kq : Nat) (sa : Bool) (qa : ByteArray) (pa : ByteArray), A0_ (l14_net.j2 kq l1 a2 a3 aa l0 (l0.length : Int) aa sa qa pa ((r28_ l0 aa).f0) ((r28_ l0 aa).f1) ((r28_ l0 aa).f2.f0) ((r28_ l0 aa).f2.f1) ((r28_ l0 aa).f2.f2) ((r28_ l0 aa).f3) ((r28_ l0 aa).f4) ((r28_ l0 aa).f5) = some (r1, r2, r3)) ∧ A0_ (kq ≤ kj11) ∧ A0_ (wc.heap[ia]? = some (.cells zC_ 26 (0, 0))) ∧ A0_ (wc.heap[ga]? = some (.cells #[.bool sa, .string qa, .string pa] 26 (0, 0))) ∧ A0_ (wc.heap[da]? = some (.cells #[.int .i64 ((r28_ l0 aa).f0), .int .i64 ((r28_ l0 aa).f1), .bool ((r28_ l0 aa).f2.f0), .string ((r28_ l0 aa).f2.f1), .string ((r28_ l0 aa).f2.f2), .int .i64 ((r28_ l0 aa).f3), .int .i64 ((r28_ l0 aa).f4), .bool ((r28_ l0 aa).f5)] 28 (0, 0))) ∧ A0_ (Below w.heap.size w wc))
      case first =>
       have H := HC25.out
       clear HC25
       by_cases c26 : Za = true
       ·subst c26
        have H1 : (if 0 ≤ aa then (if aa < (l1.length : Int) then ((q_Add.f kj11 ja ka la ((r26_ l1 aa).f0) ((r26_ l1 aa).f1) ((r26_ l1 aa).f2)).bind fun hc => (l14_net.j2 kj11 l1 a2 a3 aa l0 (l0.length : Int) aa hc.1 hc.2.1 hc.2.2 ((r28_ l0 aa).f0) ((r28_ l0 aa).f1) ((r28_ l0 aa).f2.f0) ((r28_ l0 aa).f2.f1) ((r28_ l0 aa).f2.f2) ((r28_ l0 aa).f3) ((r28_ l0 aa).f4) ((r28_ l0 aa).f5))) else (none)) else (none)) = some (r1, r2, r3) := by rw [if_pos rfl] at H; exact H
        clear H
        have H := H1
        clear H1
        by_cases c27 : 0 ≤ aa
        rotate_left
        ·rw [if_neg c27] at H
         exact absurd H (by simp)
        rw [if_pos c27] at H
        have db : decide (0 ≤ aa) = true := decide_eq_true c27
        clear c27
        (first | rw [db] | rw [nc] | (simp only [i6_, i3_]; rw [db]) | skip)
        by_cases c28 : aa < (l1.length : Int)
        rotate_left
        ·rw [if_neg c28] at H
         exact absurd H (by simp)
        rw [if_pos c28] at H
        have oc : decide (aa < (l1.length : Int)) = true := decide_eq_true c28
        clear c28
        obtain ⟨⟨eb, ic, pc⟩, A29, H⟩ := oB_ H
        (try dsimp only at H)
        have H' := A0_.mk H
        clear H
        try go_wp2
        have n0_ := A0_.mk (kD_ ea.out)
        have n1_ := A0_.mk (kD_ ca.out)
        have n2_ := A0_.mk (kD_ ba.out)
        have n3_ := A0_.mk (b1_ HB.out)
        clear ea
        clear ca
        clear ba
        clear HB
        have ea := n0_
        have ca := n1_
        have ba := n2_
        have HB := n3_
        clear n0_ n1_ n2_ n3_
        have La : 0 ≤ (aa : Int) := oD_
        have Ma : aa < (l1.length : Int) := oD_
        obtain ⟨Na, vc, wa, xa, ya⟩ := at_T26 HR1.out aa La Ma
        have hw801_2 := ya
        have hw801_1 := xa
        have hw801_0 := wa
        cases vc
        (try replace wa := cT_ HB wa)
        (try replace xa := cT_ HB xa)
        (try replace ya := cT_ HB ya)
        replace La := eq_true La
        replace Ma := eq_true Ma
        refine start_ (n := 7) (S := fun w' => w'.cell? ⟨ga, 0, none⟩ = some (.bool ja) ∧ w'.cell? ⟨ga, 1, none⟩ = some (.string ka) ∧ w'.cell? ⟨ga, 2, none⟩ = some (.string la) ∧ w'.cell? (Na.add ((aa).toNat * 3)) = some (.bool ((r26_ l1 aa).f0)) ∧ w'.cell? ⟨(Na.add ((aa).toNat * 3)).block, (Na.add ((aa).toNat * 3)).off + 1, none⟩ = some (.string ((r26_ l1 aa).f1)) ∧ w'.cell? ⟨(Na.add ((aa).toNat * 3)).block, (Na.add ((aa).toNat * 3)).off + 2, none⟩ = some (.string ((r26_ l1 aa).f2))) (ds := [6]) #[false, false, false, false, false, false, false] kr_ rfl rfl ⟨(kc_ ca.out 0).trans rfl, (kc_ ca.out 1).trans rfl, (kc_ ca.out 2).trans rfl, (cT_ HB hw801_0), (cT_ HB hw801_1), (cT_ HB hw801_2)⟩ (fun hHeld => ?_)
        generalize wc.drew = w30 at ea ca ba HB wa xa ya hHeld ⊢
        refine pu_ (i := 1) (N := some 37) (v := ?_) (a' := ?_) #[false, true, false, false, false, false, false] rfl rfl kr_ (fun _ _ _ h => h) (Or.inl ⟨by rfl, ?_⟩) ?_ ?_
        rotate_left
        ·intro w'
         go_simp
         with_reducible rfl
        rotate_left
        ·simp only [Act.put, s1_, s2_, s3_, i6_, i3_]
         rfl
        refine pu_ (i := 2) (N := some 38) (v := ?_) (a' := ?_) #[false, true, true, false, false, false, false] rfl rfl kr_ (fun _ _ _ h => h) (Or.inl ⟨by rfl, ?_⟩) ?_ ?_
        rotate_left
        ·intro w'
         go_simp
         with_reducible rfl
        rotate_left
        ·simp only [Act.put, s1_, s2_, s3_, i6_, i3_]
         rfl
        refine pu_ (i := 3) (N := some 39) (v := ?_) (a' := ?_) #[false, true, true, true, false, false, false] rfl rfl kr_ (fun _ _ _ h => h) (Or.inl ⟨by rfl, ?_⟩) ?_ ?_
        rotate_left
        ·intro w'
         go_simp
         with_reducible rfl
        rotate_left
        ·simp only [Act.put, s1_, s2_, s3_, i6_, i3_]
         rfl
        refine take_ (i := 0) (N := some 36) (v := ?_) (a' := ?_) #[true, true, true, true, false, false, false] rfl rfl kr_ (fun _ _ _ h => h) (Or.inl ⟨by rfl, ?_⟩) hHeld ?_ ?_
        rotate_left
        ·rintro w' ⟨s0, s1, s2, s3, s4, s5⟩
         go_simp
         with_reducible rfl
        rotate_left
        ·simp only [Act.put, s1_, s2_, s3_, i6_, i3_]
         rfl
        refine take_ (i := 4) (N := some 40) (v := ?_) (a' := ?_) #[true, true, true, true, true, false, false] rfl rfl kr_ (fun _ _ _ h => h) (Or.inl ⟨by rfl, ?_⟩) hHeld ?_ ?_
        rotate_left
        ·rintro w' ⟨s0, s1, s2, s3, s4, s5⟩
         go_simp
         with_reducible rfl
        rotate_left
        ·simp only [Act.put, s1_, s2_, s3_, i6_, i3_]
         rfl
        refine one_ (i := 5) (N := some 41) #[true, true, true, true, true, true, false] rfl rfl kr_ (by decide) (fun K hK => ?_)
        refine goes_ Tryd.func24 kr_ rfl #[.agg #[.bool ja, .string ka, .string la], .agg #[.bool ((r26_ l1 aa).f0), .string ((r26_ l1 aa).f1), .string ((r26_ l1 aa).f2)]] (by rfl) rfl rfl mp_ ?_
        with_reducible refine (q_Add.calls kj11 ja ka la ((r26_ l1 aa).f0) ((r26_ l1 aa).f1) ((r26_ l1 aa).f2) eb ic pc _ A29.out).mono ?_
        rintro e w31 ⟨rfl, hb⟩
        refine ⟨_, rfl, ?_⟩
        have n0_ := A0_.mk (kB_ (g := ia) (o := .cells zC_ 26 (0, 0)) (xK_ ea.out) hb)
        have n1_ := A0_.mk (kB_ (g := ga) (o := .cells #[.bool ja, .string ka, .string la] 26 (0, 0)) (xK_ ca.out) hb)
        have n2_ := A0_.mk (kB_ (g := da) (o := .cells #[.int .i64 ((r28_ l0 aa).f0), .int .i64 ((r28_ l0 aa).f1), .bool ((r28_ l0 aa).f2.f0), .string ((r28_ l0 aa).f2.f1), .string ((r28_ l0 aa).f2.f2), .int .i64 ((r28_ l0 aa).f3), .int .i64 ((r28_ l0 aa).f4), .bool ((r28_ l0 aa).f5)] 28 (0, 0)) (xK_ ba.out) hb)
        have n3_ := A0_.mk (bT_ (xB3_ HB ma na ta) hb)
        clear ea
        clear ca
        clear ba
        clear HB
        have ea := n0_
        have ca := n1_
        have ba := n2_
        have HB := n3_
        clear n0_ n1_ n2_ n3_
        (try clear hb)
        (try clear hb2)
        (try clear hk)
        (try clear hi)
        refine hK.out _ _ ⟨(kc_ ca.out 0).trans rfl, (kc_ ca.out 1).trans rfl, (kc_ ca.out 2).trans rfl, (cT_ HB hw801_0), (cT_ HB hw801_1), (cT_ HB hw801_2)⟩ (fun hHeld => ?_)
        clear hK K
        refine norm_ (a' := ?_) ?_ ?_
        rotate_left
        ·show Act.put _ (some 41) _ = _
         simp only [Act.put, s1_, s2_, s3_, i6_, i3_]
         rfl
        refine last_ (i := 6) (N := none) #[true, true, true, true, true, true, true] rfl rfl kr_ (by decide) (fun K hK => ?_)
        have kd : w31.cell? ⟨ga, 0, none⟩ = some (.bool ja) := (kc_ ca.out 0).trans rfl
        have hfs32 := kF_ ca.out 0
        have hns32_0 := oa.out
        have hns32_2 := ra.out
        have hms32_0 := ua.out
        have hms32_2 := fa.out
        have ld : w31.cell? ⟨ga, 1, none⟩ = some (.string ka) := (kc_ ca.out 1).trans rfl
        have hfs33 := kF_ ca.out 1
        have hns33_0 := oa.out
        have hns33_2 := ra.out
        have hms33_0 := ua.out
        have hms33_2 := fa.out
        have md : w31.cell? ⟨ga, 2, none⟩ = some (.string la) := (kc_ ca.out 2).trans rfl
        have hfs34 := kF_ ca.out 2
        have hns34_0 := oa.out
        have hns34_2 := ra.out
        have hms34_0 := ua.out
        have hms34_2 := fa.out
        refine skip_ (w1 := ?_) (by rfl) rfl ?_ ?_
        rotate_left
        ·go_simp
         rfl
        refine hK.out _ _ ?_
        clear hK K
        refine done_ kr_ ?_
        try go_wp2
        go_meet
        case rel => exact ⟨_, (eb), (ic), (pc), H', ⟨by have := HK1.out; have := HJ11.out; first | omega | exact Nat.le_refl _⟩, ⟨by (with_reducible repeat (first | apply kN_ | apply kD_ | apply kA_)); refine bf_ ?_ oa.out _; (with_reducible repeat (first | apply kN_ | apply kD_ | apply kA_)); refine bf_ ?_ oa.out _; (with_reducible repeat (first | apply kN_ | apply kD_ | apply kA_)); refine bf_ ?_ oa.out _; (with_reducible repeat (first | apply kN_ | apply kD_ | apply kA_)); exact ea.out⟩, ⟨by (with_reducible repeat (first | apply kN_ | apply kD_ | apply kA_)); refine kP_ (cs := #[.bool eb, .string ic, .string la]) ?_ 2 _ rfl; (with_reducible repeat (first | apply kN_ | apply kD_ | apply kA_)); refine kP_ (cs := #[.bool eb, .string ka, .string la]) ?_ 1 _ rfl; (with_reducible repeat (first | apply kN_ | apply kD_ | apply kA_)); refine kP_ (cs := #[.bool ja, .string ka, .string la]) ?_ 0 _ rfl; (with_reducible repeat (first | apply kN_ | apply kD_ | apply kA_)); exact ca.out⟩, ⟨by (with_reducible repeat (first | apply kN_ | apply kD_ | apply kA_)); refine bf_ ?_ ra.out _; (with_reducible repeat (first | apply kN_ | apply kD_ | apply kA_)); refine bf_ ?_ ra.out _; (with_reducible repeat (first | apply kN_ | apply kD_ | apply kA_)); refine bf_ ?_ ra.out _; (with_reducible repeat (first | apply kN_ | apply kD_ | apply kA_)); exact ba.out⟩, ⟨xB3_ HB ma na ta⟩⟩
       ·replace c26 := Bool.eq_false_iff.mpr c26
        subst c26
        have H1 : (l14_net.j2 kj11 l1 a2 a3 aa l0 (l0.length : Int) aa ja ka la ((r28_ l0 aa).f0) ((r28_ l0 aa).f1) ((r28_ l0 aa).f2.f0) ((r28_ l0 aa).f2.f1) ((r28_ l0 aa).f2.f2) ((r28_ l0 aa).f3) ((r28_ l0 aa).f4) ((r28_ l0 aa).f5)) = some (r1, r2, r3) := by rw [if_neg (show ¬ (false = true) by decide)] at H; exact H
        clear H
        have H := H1
        clear H1
        have H' := A0_.mk H
        clear H
        go_wp2
        go_meet
        case rel => exact ⟨_, (ja), (ka), (la), H', ⟨by have := HK1.out; have := HJ11.out; first | omega | exact Nat.le_refl _⟩, ⟨by (with_reducible repeat (first | apply kN_ | apply kD_ | apply kA_)); exact ea.out⟩, ⟨by (with_reducible repeat (first | apply kN_ | apply kD_ | apply kA_)); exact ca.out⟩, ⟨by (with_reducible repeat (first | apply kN_ | apply kD_ | apply kA_)); exact ba.out⟩, ⟨xB3_ HB ma na ta⟩⟩
      case rest =>
       clear HC25
       try clear c1
       try clear c2
       try clear p2
       try clear c7
       try clear p7
       try clear q7
       try clear hx7
       try clear p8
       try clear q8
       try clear hx8
       try clear c9
       try clear Ya
       try clear c10
       try clear ib
       try clear c11
       try clear jb
       try clear c14
       try clear c15
       try clear c17
       try clear va
       try clear ab
       try clear c18
       try clear bb
       try clear cb
       try clear c19
       try clear c20
       try clear c21
       try clear c22
       try clear c23
       try clear c24
       try clear c26
       try clear c27
       try clear db
       try clear nc
       try clear c28
       try clear oc
       try clear kb
       try clear mb
       try clear nb
       try clear ob
       try clear pb
       try clear qb
       try clear rb
       try clear sb
       try clear Bb
       try clear Cb
       try clear Db
       try clear Eb
       try clear Fb
       try clear Gb
       try clear Hb
       try clear Ib
       try clear Rb
       try clear Sb
       try clear Tb
       try clear Ub
       try clear Vb
       try clear Wb
       try clear Xb
       try clear Yb
       try clear Sa
       try clear Ta
       try clear Ua
       try clear tb
       try clear ub
       try clear vb
       try clear wb
       try clear xb
       try clear yb
       try clear zb
       try clear Ab
       try clear Jb
       try clear Kb
       try clear Lb
       try clear Mb
       try clear Nb
       try clear Ob
       try clear Pb
       try clear Qb
       try clear Zb
       try clear ac
       try clear bc
       try clear cc
       try clear dc
       try clear ec
       try clear fc
       try clear gc
       try clear Va
       try clear Wa
       try clear Xa
       try clear Ba
       try clear Ca
       try clear Da
       try clear Ea
       try clear Fa
       try clear Ga
       try clear Ha
       try clear Ia
       try clear wa
       try clear xa
       try clear ya
       try clear p2
       try clear p7
       try clear za
       try clear La
       try clear q7
       try clear Aa
       try clear Ma
       obtain ⟨kq, sa, qa, pa, HA, HJ24, ea, ca, ba, HB⟩ := hcut
       cases kq with
       | zero => exact absurd HA.out (by simp [l14_net.j2])
       | succ kj24 =>
        have H := HA.out
        clear HA
        simp only [l14_net.j2] at H
        have HC35 := A0_.mk H
        clear H
        go_upto_region 7 with (fail)
        go_cut [57] (fun v57 wc => ∃ (kq : Nat) (fb : Bool), v57 = .bool fb ∧ A0_ (l14_net.j3 kq l1 a2 a3 aa l0 (l0.length : Int) aa fb sa qa pa = some (r1, r2, r3)) ∧ A0_ (kq ≤ kj24) ∧ A0_ (wc.heap[ia]? = some (.cells zC_ 26 (0, 0))) ∧ A0_ (wc.heap[ga]? = some (.cells #[.bool sa, .string qa, .string pa] 26 (0, 0))) ∧ A0_ (wc.heap[da]? = some (.cells #[.int .i64 ((r28_ l0 aa).f0), .int .i64 ((r28_ l0 aa).f1), .bool ((r28_ l0 aa).f2.f0), .string ((r28_ l0 aa).f2.f1), .string ((r28_ l0 aa).f2.f2), .int .i64 ((r28_ l0 aa).f3), .int .i64 ((r28_ l0 aa).f4), .bool ((r28_ l0 aa).f5)] 28 (0, 0))) ∧ A0_ (Below w.heap.size w wc))
        case first =>
         have H := HC35.out
         clear HC35
         by_cases c36 : aa < (l1.length : Int)
         ·rw [if_pos c36] at H
          have Ja : decide (aa < (l1.length : Int)) = true := decide_eq_true c36
          clear c36
          (first | rw [Ja] | rw [qc] | (simp only [i6_, i3_]; rw [Ja]) | skip)
          by_cases c37 : ((r28_ l0 aa).f0) = a3
          ·rw [if_pos c37] at H
           have rc : (((r28_ l0 aa).f0) == a3) = true := beq_iff_eq.mpr c37
           have sc : (((r28_ l0 aa).f0) != a3) = false := bne_eq_false_iff_eq.mpr c37
           clear c37
           have H' := A0_.mk H
           clear H
           have hnb38 := Ka.out
           have hnc38 := ha.out
           have hnb39 := ra.out
           have hnc39 := fa.out
           have xc : wc.cell? ⟨da, 0, none⟩ = some (.int .i64 ((r28_ l0 aa).f0)) := (kc_ ba.out 0).trans rfl
           have yc : wc.cell? ⟨da, 1, none⟩ = some (.int .i64 ((r28_ l0 aa).f1)) := (kc_ ba.out 1).trans rfl
           have zc : wc.cell? ⟨da, 2, none⟩ = some (.bool ((r28_ l0 aa).f2.f0)) := (kc_ ba.out 2).trans rfl
           have Ac : wc.cell? ⟨da, 3, none⟩ = some (.string ((r28_ l0 aa).f2.f1)) := (kc_ ba.out 3).trans rfl
           have Bc : wc.cell? ⟨da, 4, none⟩ = some (.string ((r28_ l0 aa).f2.f2)) := (kc_ ba.out 4).trans rfl
           have Cc : wc.cell? ⟨da, 5, none⟩ = some (.int .i64 ((r28_ l0 aa).f3)) := (kc_ ba.out 5).trans rfl
           have Dc : wc.cell? ⟨da, 6, none⟩ = some (.int .i64 ((r28_ l0 aa).f4)) := (kc_ ba.out 6).trans rfl
           have Ec : wc.cell? ⟨da, 7, none⟩ = some (.bool ((r28_ l0 aa).f5)) := (kc_ ba.out 7).trans rfl
           have Fc := kF_ ba.out 0
           have Gc := kF_ ba.out 1
           have Hc := kF_ ba.out 2
           have Ic := kF_ ba.out 3
           have Jc := kF_ ba.out 4
           have Kc := kF_ ba.out 5
           have Lc := kF_ ba.out 6
           have Mc := kF_ ba.out 7
           go_wp2
           go_meet
           case rel => exact ⟨_, ((((r28_ l0 aa).f1) == a2)), (rS_), H', ⟨by have := HK1.out; have := HJ11.out; have := HJ24.out; first | omega | exact Nat.le_refl _⟩, ⟨by (with_reducible repeat (first | apply kN_ | apply kD_ | apply kA_)); exact ea.out⟩, ⟨by (with_reducible repeat (first | apply kN_ | apply kD_ | apply kA_)); exact ca.out⟩, ⟨by (with_reducible repeat (first | apply kN_ | apply kD_ | apply kA_)); exact ba.out⟩, ⟨xB3_ HB ma na ta⟩⟩
          ·rw [if_neg c37] at H
           have rc : (((r28_ l0 aa).f0) == a3) = false := beq_eq_false_iff_ne.mpr c37
           have sc : (((r28_ l0 aa).f0) != a3) = true := bne_iff_ne.mpr c37
           have H' := A0_.mk H
           clear H
           have hnb41 := Ka.out
           have hnc41 := ha.out
           have hnb42 := ra.out
           have hnc42 := fa.out
           have Nc : wc.cell? ⟨da, 0, none⟩ = some (.int .i64 ((r28_ l0 aa).f0)) := (kc_ ba.out 0).trans rfl
           have Oc : wc.cell? ⟨da, 1, none⟩ = some (.int .i64 ((r28_ l0 aa).f1)) := (kc_ ba.out 1).trans rfl
           have Pc : wc.cell? ⟨da, 2, none⟩ = some (.bool ((r28_ l0 aa).f2.f0)) := (kc_ ba.out 2).trans rfl
           have Qc : wc.cell? ⟨da, 3, none⟩ = some (.string ((r28_ l0 aa).f2.f1)) := (kc_ ba.out 3).trans rfl
           have Rc : wc.cell? ⟨da, 4, none⟩ = some (.string ((r28_ l0 aa).f2.f2)) := (kc_ ba.out 4).trans rfl
           have Sc : wc.cell? ⟨da, 5, none⟩ = some (.int .i64 ((r28_ l0 aa).f3)) := (kc_ ba.out 5).trans rfl
           have Tc : wc.cell? ⟨da, 6, none⟩ = some (.int .i64 ((r28_ l0 aa).f4)) := (kc_ ba.out 6).trans rfl
           have Uc : wc.cell? ⟨da, 7, none⟩ = some (.bool ((r28_ l0 aa).f5)) := (kc_ ba.out 7).trans rfl
           have Vc := kF_ ba.out 0
           have Wc := kF_ ba.out 1
           have Xc := kF_ ba.out 2
           have Yc := kF_ ba.out 3
           have Zc := kF_ ba.out 4
           have ad := kF_ ba.out 5
           have bd := kF_ ba.out 6
           have cd := kF_ ba.out 7
           go_wp2
           go_meet
           case rel => exact ⟨_, (false), (rS_), H', ⟨by have := HK1.out; have := HJ11.out; have := HJ24.out; first | omega | exact Nat.le_refl _⟩, ⟨by (with_reducible repeat (first | apply kN_ | apply kD_ | apply kA_)); exact ea.out⟩, ⟨by (with_reducible repeat (first | apply kN_ | apply kD_ | apply kA_)); exact ca.out⟩, ⟨by (with_reducible repeat (first | apply kN_ | apply kD_ | apply kA_)); exact ba.out⟩, ⟨xB3_ HB ma na ta⟩⟩
         ·rw [if_neg c36] at H
          have Ja : decide (aa < (l1.length : Int)) = false := decide_eq_false c36
          clear c36
          (first | rw [Ja] | rw [qc] | (simp only [i6_, i3_]; rw [Ja]) | skip)
          have H' := A0_.mk H
          clear H
          go_wp2
          go_meet
          case rel => exact ⟨_, (false), (rS_), H', ⟨by have := HK1.out; have := HJ11.out; have := HJ24.out; first | omega | exact Nat.le_refl _⟩, ⟨by (with_reducible repeat (first | apply kN_ | apply kD_ | apply kA_)); exact ea.out⟩, ⟨by (with_reducible repeat (first | apply kN_ | apply kD_ | apply kA_)); exact ca.out⟩, ⟨by (with_reducible repeat (first | apply kN_ | apply kD_ | apply kA_)); exact ba.out⟩, ⟨xB3_ HB ma na ta⟩⟩
        case rest =>
         clear HC35
         try clear c1
         try clear c2
         try clear p2
         try clear c3
         try clear c4
         try clear c7
         try clear p7
         try clear q7
         try clear hx7
         try clear p8
         try clear q8
         try clear hx8
         try clear c9
         try clear Ya
         try clear c10
         try clear ib
         try clear c11
         try clear jb
         try clear c14
         try clear c15
         try clear c17
         try clear va
         try clear ab
         try clear c18
         try clear bb
         try clear cb
         try clear c19
         try clear c20
         try clear c21
         try clear c22
         try clear c23
         try clear c24
         try clear c26
         try clear c27
         try clear db
         try clear nc
         try clear c28
         try clear oc
         try clear c36
         try clear Ja
         try clear qc
         try clear c37
         try clear rc
         try clear sc
         try clear c38
         try clear c39
         try clear c41
         try clear c42
         try clear kb
         try clear mb
         try clear nb
         try clear ob
         try clear pb
         try clear qb
         try clear rb
         try clear sb
         try clear Bb
         try clear Cb
         try clear Db
         try clear Eb
         try clear Fb
         try clear Gb
         try clear Hb
         try clear Ib
         try clear Rb
         try clear Sb
         try clear Tb
         try clear Ub
         try clear Vb
         try clear Wb
         try clear Xb
         try clear Yb
         try clear xc
         try clear yc
         try clear zc
         try clear Ac
         try clear Bc
         try clear Cc
         try clear Dc
         try clear Ec
         try clear Nc
         try clear Oc
         try clear Pc
         try clear Qc
         try clear Rc
         try clear Sc
         try clear Tc
         try clear Uc
         try clear Sa
         try clear Ta
         try clear Ua
         try clear tb
         try clear ub
         try clear vb
         try clear wb
         try clear xb
         try clear yb
         try clear zb
         try clear Ab
         try clear Jb
         try clear Kb
         try clear Lb
         try clear Mb
         try clear Nb
         try clear Ob
         try clear Pb
         try clear Qb
         try clear Zb
         try clear ac
         try clear bc
         try clear cc
         try clear dc
         try clear ec
         try clear fc
         try clear gc
         try clear Fc
         try clear Gc
         try clear Hc
         try clear Ic
         try clear Jc
         try clear Kc
         try clear Lc
         try clear Mc
         try clear Vc
         try clear Wc
         try clear Xc
         try clear Yc
         try clear Zc
         try clear ad
         try clear bd
         try clear cd
         try clear Va
         try clear Wa
         try clear Xa
         try clear Ba
         try clear Ca
         try clear Da
         try clear Ea
         try clear Fa
         try clear Ga
         try clear Ha
         try clear Ia
         try clear wa
         try clear xa
         try clear ya
         try clear p2
         try clear p7
         try clear za
         try clear p8
         try clear La
         try clear q7
         try clear Aa
         try clear q8
         try clear Ma
         obtain ⟨kq, fb, rfl, HA, HJ34, ea, ca, ba, HB⟩ := hcut
         cases kq with
         | zero => exact absurd HA.out (by simp [l14_net.j3])
         | succ kj34 =>
          have H := HA.out
          clear HA
          simp only [l14_net.j3] at H
          by_cases c44 : fb = true
          ·subst c44
           have H1 : (if 0 ≤ aa then (if aa < (l1.length : Int) then ((q_Subtract.f kj34 sa qa pa ((r26_ l1 aa).f0) ((r26_ l1 aa).f1) ((r26_ l1 aa).f2)).bind fun jc => (l14_net.l0 kj34 l1 a2 a3 l0 (l0.length : Int) (wrap64 (aa + 1)) jc.1 jc.2.1 jc.2.2)) else (none)) else (none)) = some (r1, r2, r3) := by rw [if_pos rfl] at H; exact H
           clear H
           have H := H1
           clear H1
           by_cases c45 : 0 ≤ aa
           rotate_left
           ·rw [if_neg c45] at H
            exact absurd H (by simp)
           rw [if_pos c45] at H
           have nd : decide (0 ≤ aa) = true := decide_eq_true c45
           clear c45
           by_cases c46 : aa < (l1.length : Int)
           rotate_left
           ·rw [if_neg c46] at H
            exact absurd H (by simp)
           rw [if_pos c46] at H
           have od : decide (aa < (l1.length : Int)) = true := decide_eq_true c46
           clear c46
           obtain ⟨⟨gb, kc, tc⟩, A47, H⟩ := oB_ H
           (try dsimp only at H)
           have H' := A0_.mk H
           clear H
           try go_wp2
           have n0_ := A0_.mk (kD_ ea.out)
           have n1_ := A0_.mk (kD_ ca.out)
           have n2_ := A0_.mk (kD_ ba.out)
           have n3_ := A0_.mk (b1_ HB.out)
           clear ea
           clear ca
           clear ba
           clear HB
           have ea := n0_
           have ca := n1_
           have ba := n2_
           have HB := n3_
           clear n0_ n1_ n2_ n3_
           have lc : 0 ≤ (aa : Int) := oD_
           have mc : aa < (l1.length : Int) := oD_
           obtain ⟨Oa, dd, Pa, Qa, Ra⟩ := at_T26 HR1.out aa lc mc
           have hw805_2 := Ra
           have hw805_1 := Qa
           have hw805_0 := Pa
           cases dd
           (try replace Pa := cT_ HB Pa)
           (try replace Qa := cT_ HB Qa)
           (try replace Ra := cT_ HB Ra)
           replace lc := eq_true lc
           replace mc := eq_true mc
           refine start_ (n := 7) (S := fun w' => w'.cell? ⟨ga, 0, none⟩ = some (.bool sa) ∧ w'.cell? ⟨ga, 1, none⟩ = some (.string qa) ∧ w'.cell? ⟨ga, 2, none⟩ = some (.string pa) ∧ w'.cell? (Oa.add ((aa).toNat * 3)) = some (.bool ((r26_ l1 aa).f0)) ∧ w'.cell? ⟨(Oa.add ((aa).toNat * 3)).block, (Oa.add ((aa).toNat * 3)).off + 1, none⟩ = some (.string ((r26_ l1 aa).f1)) ∧ w'.cell? ⟨(Oa.add ((aa).toNat * 3)).block, (Oa.add ((aa).toNat * 3)).off + 2, none⟩ = some (.string ((r26_ l1 aa).f2))) (ds := [6]) #[false, false, false, false, false, false, false] kr_ rfl rfl ⟨(kc_ ca.out 0).trans rfl, (kc_ ca.out 1).trans rfl, (kc_ ca.out 2).trans rfl, (cT_ HB hw805_0), (cT_ HB hw805_1), (cT_ HB hw805_2)⟩ (fun hHeld => ?_)
           generalize wc.drew = w48 at ea ca ba HB Pa Qa Ra hHeld ⊢
           refine pu_ (i := 1) (N := some 59) (v := ?_) (a' := ?_) #[false, true, false, false, false, false, false] rfl rfl kr_ (fun _ _ _ h => h) (Or.inl ⟨by rfl, ?_⟩) ?_ ?_
           rotate_left
           ·intro w'
            go_simp
            with_reducible rfl
           rotate_left
           ·simp only [Act.put, s1_, s2_, s3_, i6_, i3_]
            rfl
           refine pu_ (i := 2) (N := some 60) (v := ?_) (a' := ?_) #[false, true, true, false, false, false, false] rfl rfl kr_ (fun _ _ _ h => h) (Or.inl ⟨by rfl, ?_⟩) ?_ ?_
           rotate_left
           ·intro w'
            go_simp
            with_reducible rfl
           rotate_left
           ·simp only [Act.put, s1_, s2_, s3_, i6_, i3_]
            rfl
           refine pu_ (i := 3) (N := some 61) (v := ?_) (a' := ?_) #[false, true, true, true, false, false, false] rfl rfl kr_ (fun _ _ _ h => h) (Or.inl ⟨by rfl, ?_⟩) ?_ ?_
           rotate_left
           ·intro w'
            go_simp
            with_reducible rfl
           rotate_left
           ·simp only [Act.put, s1_, s2_, s3_, i6_, i3_]
            rfl
           refine take_ (i := 0) (N := some 58) (v := ?_) (a' := ?_) #[true, true, true, true, false, false, false] rfl rfl kr_ (fun _ _ _ h => h) (Or.inl ⟨by rfl, ?_⟩) hHeld ?_ ?_
           rotate_left
           ·rintro w' ⟨s0, s1, s2, s3, s4, s5⟩
            go_simp
            with_reducible rfl
           rotate_left
           ·simp only [Act.put, s1_, s2_, s3_, i6_, i3_]
            rfl
           refine take_ (i := 4) (N := some 62) (v := ?_) (a' := ?_) #[true, true, true, true, true, false, false] rfl rfl kr_ (fun _ _ _ h => h) (Or.inl ⟨by rfl, ?_⟩) hHeld ?_ ?_
           rotate_left
           ·rintro w' ⟨s0, s1, s2, s3, s4, s5⟩
            go_simp
            with_reducible rfl
           rotate_left
           ·simp only [Act.put, s1_, s2_, s3_, i6_, i3_]
            rfl
           refine one_ (i := 5) (N := some 63) #[true, true, true, true, true, true, false] rfl rfl kr_ (by decide) (fun K hK => ?_)
           refine goes_ Tryd.func25 kr_ rfl #[.agg #[.bool sa, .string qa, .string pa], .agg #[.bool ((r26_ l1 aa).f0), .string ((r26_ l1 aa).f1), .string ((r26_ l1 aa).f2)]] (by rfl) rfl rfl mp_ ?_
           with_reducible refine (q_Subtract.calls kj34 sa qa pa ((r26_ l1 aa).f0) ((r26_ l1 aa).f1) ((r26_ l1 aa).f2) gb kc tc _ A47.out).mono ?_
           rintro e w49 ⟨rfl, hb⟩
           refine ⟨_, rfl, ?_⟩
           have n0_ := A0_.mk (kB_ (g := ia) (o := .cells zC_ 26 (0, 0)) (xK_ ea.out) hb)
           have n1_ := A0_.mk (kB_ (g := ga) (o := .cells #[.bool sa, .string qa, .string pa] 26 (0, 0)) (xK_ ca.out) hb)
           have n2_ := A0_.mk (kB_ (g := da) (o := .cells #[.int .i64 ((r28_ l0 aa).f0), .int .i64 ((r28_ l0 aa).f1), .bool ((r28_ l0 aa).f2.f0), .string ((r28_ l0 aa).f2.f1), .string ((r28_ l0 aa).f2.f2), .int .i64 ((r28_ l0 aa).f3), .int .i64 ((r28_ l0 aa).f4), .bool ((r28_ l0 aa).f5)] 28 (0, 0)) (xK_ ba.out) hb)
           have n3_ := A0_.mk (bT_ (xB3_ HB ma na ta) hb)
           clear ea
           clear ca
           clear ba
           clear HB
           have ea := n0_
           have ca := n1_
           have ba := n2_
           have HB := n3_
           clear n0_ n1_ n2_ n3_
           (try clear hb)
           (try clear hb2)
           (try clear hk)
           (try clear hi)
           refine hK.out _ _ ⟨(kc_ ca.out 0).trans rfl, (kc_ ca.out 1).trans rfl, (kc_ ca.out 2).trans rfl, (cT_ HB hw805_0), (cT_ HB hw805_1), (cT_ HB hw805_2)⟩ (fun hHeld => ?_)
           clear hK K
           refine norm_ (a' := ?_) ?_ ?_
           rotate_left
           ·show Act.put _ (some 63) _ = _
            simp only [Act.put, s1_, s2_, s3_, i6_, i3_]
            rfl
           refine last_ (i := 6) (N := none) #[true, true, true, true, true, true, true] rfl rfl kr_ (by decide) (fun K hK => ?_)
           have pd : w49.cell? ⟨ga, 0, none⟩ = some (.bool sa) := (kc_ ca.out 0).trans rfl
           have hfs50 := kF_ ca.out 0
           have hns50_0 := oa.out
           have hns50_2 := ra.out
           have hms50_0 := ua.out
           have hms50_2 := fa.out
           have qd : w49.cell? ⟨ga, 1, none⟩ = some (.string qa) := (kc_ ca.out 1).trans rfl
           have hfs51 := kF_ ca.out 1
           have hns51_0 := oa.out
           have hns51_2 := ra.out
           have hms51_0 := ua.out
           have hms51_2 := fa.out
           have sd : w49.cell? ⟨ga, 2, none⟩ = some (.string pa) := (kc_ ca.out 2).trans rfl
           have hfs52 := kF_ ca.out 2
           have hns52_0 := oa.out
           have hns52_2 := ra.out
           have hms52_0 := ua.out
           have hms52_2 := fa.out
           refine skip_ (w1 := ?_) (by rfl) rfl ?_ ?_
           rotate_left
           ·go_simp
            rfl
           refine hK.out _ _ ?_
           clear hK K
           refine done_ kr_ ?_
           try go_wp2
           (try simp only [ap_])
           go_roundg kj34
           case measure => have := HK1.out; have := HJ11.out; have := HJ24.out; have := HJ34.out; omega
           case rel => exact ⟨(wrap64 (aa + 1)), (gb), (kc), (tc), (rS_), H', ⟨by have := HK1.out; have := HJ11.out; have := HJ24.out; have := HJ34.out; omega⟩, ⟨by (with_reducible repeat (first | apply kN_ | apply kD_ | apply kA_)); refine bf_ ?_ oa.out _; (with_reducible repeat (first | apply kN_ | apply kD_ | apply kA_)); refine bf_ ?_ oa.out _; (with_reducible repeat (first | apply kN_ | apply kD_ | apply kA_)); refine bf_ ?_ oa.out _; (with_reducible repeat (first | apply kN_ | apply kD_ | apply kA_)); exact ea.out⟩, ⟨by (with_reducible repeat (first | apply kN_ | apply kD_ | apply kA_)); refine kP_ (cs := #[.bool gb, .string kc, .string pa]) ?_ 2 _ rfl; (with_reducible repeat (first | apply kN_ | apply kD_ | apply kA_)); refine kP_ (cs := #[.bool gb, .string qa, .string pa]) ?_ 1 _ rfl; (with_reducible repeat (first | apply kN_ | apply kD_ | apply kA_)); refine kP_ (cs := #[.bool sa, .string qa, .string pa]) ?_ 0 _ rfl; (with_reducible repeat (first | apply kN_ | apply kD_ | apply kA_)); exact ca.out⟩, ⟨xB3_ HB ma na ta⟩⟩
          ·replace c44 := Bool.eq_false_iff.mpr c44
           subst c44
           have H1 : (l14_net.l0 kj34 l1 a2 a3 l0 (l0.length : Int) (wrap64 (aa + 1)) sa qa pa) = some (r1, r2, r3) := by rw [if_neg (show ¬ (false = true) by decide)] at H; exact H
           clear H
           have H := H1
           clear H1
           have H' := A0_.mk H
           clear H
           go_wp2
           (try simp only [ap_])
           go_roundg kj34
           case measure => have := HK1.out; have := HJ11.out; have := HJ24.out; have := HJ34.out; omega
           case rel => exact ⟨(wrap64 (aa + 1)), (sa), (qa), (pa), (rS_), H', ⟨by have := HK1.out; have := HJ11.out; have := HJ24.out; have := HJ34.out; omega⟩, ⟨by (with_reducible repeat (first | apply kN_ | apply kD_ | apply kA_)); exact ea.out⟩, ⟨by (with_reducible repeat (first | apply kN_ | apply kD_ | apply kA_)); exact ca.out⟩, ⟨xB3_ HB ma na ta⟩⟩
   ·rw [if_neg c9] at H
    have Ya : decide (aa < (l0.length : Int)) = false := decide_eq_false c9
    clear c9
    simp only [Option.some.injEq, Prod.mk.injEq] at H
    obtain ⟨rfl, rfl, rfl⟩ := H
    have hnb53 := ua.out
    have hnc53 := oa.out
    have td : wr.cell? ⟨ga, 0, none⟩ = some (.bool ja) := (kc_ ca.out 0).trans rfl
    have ud : wr.cell? ⟨ga, 1, none⟩ = some (.string ka) := (kc_ ca.out 1).trans rfl
    have vd : wr.cell? ⟨ga, 2, none⟩ = some (.string la) := (kc_ ca.out 2).trans rfl
    have wd := kF_ ca.out 0
    have xd := kF_ ca.out 1
    have yd := kF_ ca.out 2
    have zd : wr.cell? ⟨ia, 0, none⟩ = some (.bool false) := (kc_ ea.out 0).trans rfl
    have Ad : wr.cell? ⟨ia, 1, none⟩ = some (.string (⟨#[]⟩ : ByteArray)) := (kc_ ea.out 1).trans rfl
    have Bd : wr.cell? ⟨ia, 2, none⟩ = some (.string (⟨#[]⟩ : ByteArray)) := (kc_ ea.out 2).trans rfl
    have Cd := kF_ ea.out 0
    have Dd := kF_ ea.out 1
    have Ed := kF_ ea.out 2
    go_wp2
    refine bodyPost_ret (results_cell_row rfl _ _ ia 26 #[.bool ja, .string ka, .string la] (0, 0) _ rfl (by (with_reducible repeat (first | apply kN_ | apply kD_ | apply kA_)); refine kP_ (cs := #[.bool ja, .string ka, .string (⟨#[]⟩ : ByteArray)]) ?_ 2 _ rfl; (with_reducible repeat (first | apply kN_ | apply kD_ | apply kA_)); refine kP_ (cs := #[.bool ja, .string (⟨#[]⟩ : ByteArray), .string (⟨#[]⟩ : ByteArray)]) ?_ 1 _ rfl; (with_reducible repeat (first | apply kN_ | apply kD_ | apply kA_)); refine kP_ (cs := zC_) ?_ 0 _ rfl; (with_reducible repeat (first | apply kN_ | apply kD_ | apply kA_)); exact ea.out) Tryd.underlying26 rfl kr_) rfl ?_
    exact ⟨rE_, xB2_ HB ma na⟩
end Go.Proofs.YtnegkpnhjgimcaaDoor.C
end
section
namespace Go.Proofs.YtnegkpnhjgimcaaDoor.C
set_option maxHeartbeats 8000000
set_option maxRecDepth 100000
open Go.RowKit Go.PrWords Go.PrLast Go.PrMore
attribute [local go_sem] max2_int min2_int max_two min_two max_three min_three max_four min_four
set_option linter.unusedVariables false
set_option linter.unusedSimpArgs false
attribute [local go_sem high] eqA26
mutual
def l14_SetoffBalance.j0 : Nat → Int → Int → List (S28) → List (S26) → Bool → Option (Bool)
 | 0, _, _, _, _, _ => none
 | k + 1, x1, x2, x7, x8, x35 => if x35 = true then (none) else (l14_SetoffBalance.l0 k x1 x2 x7 x8 ([] : List (S26)) x7 (x7.length : Int) 0)
def l14_SetoffBalance.l0 : Nat → Int → Int → List (S28) → List (S26) → List (S26) → List (S28) → Int → Int → Option (Bool)
 | 0, _, _, _, _, _, _, _, _ => none
 | k + 1, x1, x2, x7, x8, x10, x36, x37, x38 => if x38 < x37 then (if 0 ≤ x38 then (if x38 < (x36.length : Int) then (if x10.length < 3518437208883 then ((some (x10 ++ [(⟨(r28_ x36 x38).f2.f0, (r28_ x36 x38).f2.f1, (r28_ x36 x38).f2.f2⟩ : S26)] : List (S26))).bind fun y822 => (if x38 < (x8.length : Int) then ((q_Sign.f k ((r26_ x8 x38).f0) ((r26_ x8 x38).f1) ((r26_ x8 x38).f2)).bind fun t826 => (if t826 < 0 then (l14_SetoffBalance.j2 k x1 x2 x7 x8 y822 x38 x36 x37 x38 true ((r28_ x36 x38).f0) ((r28_ x36 x38).f1) ((r28_ x36 x38).f2.f0) ((r28_ x36 x38).f2.f1) ((r28_ x36 x38).f2.f2) ((r28_ x36 x38).f3) ((r28_ x36 x38).f4) ((r28_ x36 x38).f5)) else ((q_Compare.f k ((r26_ x8 x38).f0) ((r26_ x8 x38).f1) ((r26_ x8 x38).f2) ((r28_ x36 x38).f2.f0) ((r28_ x36 x38).f2.f1) ((r28_ x36 x38).f2.f2)).bind fun t828 => (l14_SetoffBalance.j2 k x1 x2 x7 x8 y822 x38 x36 x37 x38 (decide (t828 > 0)) ((r28_ x36 x38).f0) ((r28_ x36 x38).f1) ((r28_ x36 x38).f2.f0) ((r28_ x36 x38).f2.f1) ((r28_ x36 x38).f2.f2) ((r28_ x36 x38).f3) ((r28_ x36 x38).f4) ((r28_ x36 x38).f5))))) else (none))) else (none)) else (none)) else (none)) else (l14_SetoffBalance.l1 k x7 x8 x10 0)
def l14_SetoffBalance.j2 : Nat → Int → Int → List (S28) → List (S26) → List (S26) → Int → List (S28) → Int → Int → Bool → Int → Int → Bool → ByteArray → ByteArray → Int → Int → Bool → Option (Bool)
 | 0, _, _, _, _, _, _, _, _, _, _, _, _, _, _, _, _, _, _ => none
 | k + 1, x1, x2, x7, x8, x10, x11, x36, x37, x38, x63, x822000, x822001, x822002, x822003, x822004, x822005, x822006, x822007 => if x63 = true then (none) else ((so_Eligible.f x822000 x822001 x822002 x822003 x822004 x822005 x822006 x822007 (wrap64 (x1)) (wrap64 (Int.tmod x2 40))).bind fun t829 => (if t829 = true then (l14_SetoffBalance.l0 k x1 x2 x7 x8 x10 x36 x37 (wrap64 (x38 + 1))) else (if 0 ≤ x11 then (if x11 < (x8.length : Int) then (if (!(((r26_ x8 x11).f0) == x822002) || (!((((r26_ x8 x11).f1).toList) == x822003.toList) || (!((((r26_ x8 x11).f2).toList) == x822004.toList)))) = true then (none) else (l14_SetoffBalance.l0 k x1 x2 x7 x8 x10 x36 x37 (wrap64 (x38 + 1)))) else (none)) else (none))))
def l14_SetoffBalance.l1 : Nat → List (S28) → List (S26) → List (S26) → Int → Option (Bool)
 | 0, _, _, _, _ => none
 | k + 1, x7, x8, x10, x13 => if x13 < 4 then (l14_SetoffBalance.l2 k x7 x8 x10 x13 0) else ((l14_awake.f k).bind fun t831 => (some t831))
def l14_SetoffBalance.l2 : Nat → List (S28) → List (S26) → List (S26) → Int → Int → Option (Bool)
 | 0, _, _, _, _, _ => none
 | k + 1, x7, x8, x10, x13, x14 => if x14 < x13 then ((l14_net.f k x7 x10 x13 x14).bind fun bt832 => ((l14_net.f k x7 x8 x13 x14).bind fun bt835 => (if (!(bt832.1 == bt835.1) || (!(bt832.2.1.toList == bt835.2.1.toList) || (!(bt832.2.2.toList == bt835.2.2.toList)))) = true then (none) else (l14_SetoffBalance.l2 k x7 x8 x10 x13 (wrap64 (x14 + 1)))))) else (l14_SetoffBalance.l1 k x7 x8 x10 (wrap64 (x13 + 1)))
end
def l14_SetoffBalance.f (k : Nat) (l0 : List (S46)) (a1 : Int) (a2 : Int) : Option (Bool) := (l0_Obligations.f k l0).bind fun t813 => ((so_Apply.f k 4 t813 (wrap64 (a1)) (wrap64 (Int.tmod a2 40))).bind fun bt816 => (if bt816.2 = 0 then (l14_SetoffBalance.j0 k a1 a2 t813 bt816.1 ((bt816.1.length : Int) != (t813.length : Int))) else (l14_SetoffBalance.j0 k a1 a2 t813 bt816.1 true)))
def l14_SetoffBalance.T10 : Bool × List (List Nat × List Nat) := (true, [([], []), ([], []), ([0, 1], [0, 1]), ([2], [2]), ([3], [3]), ([4], [4]), ([5, 4], [5]), ([6], [6]), ([6], [6]), ([7, 8, 6], [6, 7, 8]), ([9, 6], [6, 9]), ([6], [6]), ([11, 6], [6, 11]), ([10, 12, 6, 6], [6, 10, 12]), ([13, 6], [6, 13]), ([6, 14], [6, 14])])
def l14_SetoffBalance.B10 : List Nat := [0, 0, 3, 7, 15, 31, 63, 127, 127, 511, 1023, 127, 2175, 8191, 16383, 32767]
theorem l14_SetoffBalance.tab10 : rtab .any (opsOf Tryd.f5 10) = l14_SetoffBalance.T10 := by kernel_rfl
theorem l14_SetoffBalance.bits10 : waitsOk l14_SetoffBalance.T10.2 l14_SetoffBalance.B10 = true := by kernel_rfl
def l14_SetoffBalance.T12 : Bool × List (List Nat × List Nat) := (true, [([], []), ([], []), ([1], [1]), ([], []), ([3], [3]), ([4], [4]), ([0, 2, 5], [0, 2, 5]), ([6], [6]), ([7, 6], [7]), ([8], [8]), ([8], [8]), ([9, 10, 8], [8, 9, 10]), ([11, 8], [8, 11]), ([8], [8]), ([13, 8], [8, 13]), ([12, 14, 8], [8, 12, 14]), ([8, 15], [8, 15])])
def l14_SetoffBalance.B12 : List Nat := [0, 0, 2, 0, 8, 24, 63, 127, 255, 511, 511, 2047, 4095, 511, 8703, 32767, 65535]
theorem l14_SetoffBalance.tab12 : rtab .any (opsOf Tryd.f5 12) = l14_SetoffBalance.T12 := by kernel_rfl
theorem l14_SetoffBalance.bits12 : waitsOk l14_SetoffBalance.T12.2 l14_SetoffBalance.B12 = true := by kernel_rfl
theorem l14_SetoffBalance.calls (k : Nat) (A0 : Option Addr) (c0 : Nat) (l0 : List (S46)) (a1 : Int) (a2 : Int) (r : Bool) (w : World) (hr0 : Kd.C k46 w A0 l0.length l0) (hc0 : l0.length ≤ c0) (h : l14_SetoffBalance.f k l0 a1 a2 = some r) :
  Calls Tryd.prog 5 #[.slice A0 l0.length c0, .int .u8 a1, .int .u8 a2] w fun e w' => e = .returned (.bool r) ∧ Below w.heap.size w w' := by
 have hu28 := Tryd.underlying28
 have hu26 := Tryd.underlying26
 have HR0 := A0_.mk hr0
 have HC0 := A0_.mk hc0
 clear hr0 hc0
 have HB := A0_.mk (Below.refl w.heap.size w)
 have H := h
 unfold l14_SetoffBalance.f at H
 clear h
 obtain ⟨ba, A4, H⟩ := oB_ H
 (try dsimp only at H)
 obtain ⟨⟨ea, wa⟩, A5, H⟩ := oB_ H
 (try dsimp only at H)
 have HC6 := A0_.mk H
 clear H
 go_enter Tryd.func5, Tryd.ntmps5
 go_upto_region 3 with (first | ((with_reducible refine gC_ (f := 17) rfl ?_); refine gL_ (some 16) rfl rfl Tryd.func17 kr_ rfl #[.slice A0 l0.length c0] rfl mp_ ?_; (with_reducible refine (l0_Obligations.calls k _ _ l0 ba _ ?side1 ?side2 A4.out).mono ?_); (case side1 => repeat (first | exact HR0.out | (with_reducible refine Kd.C_alloc ?_ _) | (with_reducible refine Kd.C_drewN ?_ _) | (with_reducible refine Kd.C_drew ?_))); (case side2 => exact HC0.out); rintro e w7 ⟨gc, rfl, ho0, hb⟩; refine ⟨_, rfl, ?_⟩; have n0_ := A0_.mk (Kd.rL_ ho0 (bZ_ (xB_ HB))); have n1_ := A0_.mk (bT_ (xB_ HB) hb); clear HB; have ra := n0_; have HB := n1_; clear n0_ n1_; (try clear hb); (try clear hb2); (try clear hk); (try clear hi); (try clear ho0); obtain ⟨Ao8, co8, eo8⟩ := Kd.rS_' ra.out; subst eo8) | ((with_reducible refine gC_ (f := 18) rfl ?_); refine gL_ (some 24) rfl rfl Tryd.func18 kr_ rfl #[.int .i64 4, .slice Ao8 ba.length co8, .int .i64 (wrap64 (a1)), .int .i64 (wrap64 (Int.tmod a2 40))] rfl mp_ ?_; (with_reducible refine (so_Apply.calls k 4 _ _ ba (wrap64 (a1)) (wrap64 (Int.tmod a2 40)) ea wa _ ?side1 ?side2 A5.out).mono ?_); (case side1 => repeat (first | exact (Kd.rr_' ra.out).2.2 | (with_reducible refine Kd.C_alloc ?_ _) | (with_reducible refine Kd.C_drewN ?_ _) | (with_reducible refine Kd.C_drew ?_))); (case side2 => exact (Kd.rr_' ra.out).2.1); rintro e w9 ⟨pa, rfl, ho0, hb⟩; refine ⟨_, rfl, ?_⟩; have n0_ := A0_.mk (Kd.rB_ (xR_ ra.out) hb); have n1_ := A0_.mk (Kd.rL_ ho0 (bZ_ (xB_ HB))); have n2_ := A0_.mk (bT_ (xB_ HB) hb); clear ra HB; have ra := n0_; have Wa := n1_; have HB := n2_; clear n0_ n1_ n2_; (try clear hb); (try clear hb2); (try clear hk); (try clear hi); (try clear ho0)))
 (try simp only [Act.put, s1_, s2_, s3_])
 go_cut [35] (fun v35 wc => ∃ (kq : Nat) (Fa : Bool), v35 = .bool Fa ∧ A0_ (l14_SetoffBalance.j0 kq a1 a2 ba ea Fa = some r) ∧ A0_ (kq ≤ k) ∧ A0_ (Kd.R k28 28 wc w.heap.size (fun _ => True) (.slice Ao8 ba.length co8) ba) ∧ A0_ (Kd.R k26 26 wc w.heap.size (fun _ => True) pa ea) ∧ A0_ (Below w.heap.size w wc))
 case first =>
  have H := HC6.out
  clear HC6
  by_cases c10 : wa = 0
  ·rw [if_pos c10] at H
   have sa : (wa == 0) = true := beq_iff_eq.mpr c10
   have xa : (wa != 0) = false := bne_eq_false_iff_eq.mpr c10
   clear c10
   (first | rw [sa] | rw [xa] | (simp only [i6_, i3_]; rw [sa]) | skip)
   have H' := A0_.mk H
   clear H
   obtain ⟨hc, ic, pb⟩ := Kd.rS_' Wa.out
   subst pb
   go_wp2
   go_meet
   case rel => exact ⟨_, (((ea.length : Int) != (ba.length : Int))), (rS_), H', ⟨by first | omega | exact Nat.le_refl _⟩, ⟨by (with_reducible repeat (first | apply Kd.R_alloc | apply Kd.rN_ | apply Kd.rD_)); exact ra.out⟩, ⟨by (with_reducible repeat (first | apply Kd.R_alloc | apply Kd.rN_ | apply Kd.rD_)); exact Wa.out⟩, ⟨xB_ HB⟩⟩
  ·rw [if_neg c10] at H
   have sa : (wa == 0) = false := beq_eq_false_iff_ne.mpr c10
   have xa : (wa != 0) = true := bne_iff_ne.mpr c10
   (first | rw [sa] | rw [xa] | (simp only [i6_, i3_]; rw [sa]) | skip)
   have H' := A0_.mk H
   clear H
   go_wp2
   go_meet
   case rel => exact ⟨_, (true), (rS_), H', ⟨by first | omega | exact Nat.le_refl _⟩, ⟨by (with_reducible repeat (first | apply Kd.R_alloc | apply Kd.rN_ | apply Kd.rD_)); exact ra.out⟩, ⟨by (with_reducible repeat (first | apply Kd.R_alloc | apply Kd.rN_ | apply Kd.rD_)); exact Wa.out⟩, ⟨xB_ HB⟩⟩
 case rest =>
  clear HC6
  try clear c1
  try clear p2
  try clear c5
  try clear p6
  try clear c10
  try clear sa
  try clear xa
  obtain ⟨kq, Fa, rfl, HA, HJ5, ga, fa, HB⟩ := hcut
  cases kq with
  | zero => exact absurd HA.out (by simp [l14_SetoffBalance.j0])
  | succ kj5 =>
   have H := HA.out
   clear HA
   simp only [l14_SetoffBalance.j0] at H
   by_cases c12 : Fa = true
   ·subst c12
    have H1 : (none) = some r := by rw [if_pos rfl] at H; exact H
    exact absurd H1 (by simp)
   ·replace c12 := Bool.eq_false_iff.mpr c12
    subst c12
    have H1 : (l14_SetoffBalance.l0 kj5 a1 a2 ba ea ([] : List (S26)) ba (ba.length : Int) 0) = some r := by rw [if_neg (show ¬ (false = true) by decide)] at H; exact H
    clear H
    have H := H1
    clear H1
    have H' := A0_.mk H
    clear H
    go_wp2
    go_loopg [10, 38] kj5 (fun kq v10 v38 w' => ∃ (ma : List (S26)) (aa : Int), v38 = .int .i64 aa ∧ A0_ (l14_SetoffBalance.l0 kq a1 a2 ba ea ma ba (ba.length : Int) aa = some r) ∧ A0_ (kq ≤ kj5) ∧ A0_ (Kd.R k28 28 w' w.heap.size (fun _ => True) (.slice Ao8 ba.length co8) ba) ∧ A0_ (Kd.R k26 26 w' w.heap.size (fun k_ => some k_ ≠ (v10 : Value).ownBlock) pa ea) ∧ A0_ (Kd.R k26 26 w' w.heap.size (fun k_ => some k_ ≠ (pa : Value).ownBlock) v10 ma) ∧ A0_ (Kd.R k28 28 w' w.heap.size (fun _ => True) (.slice Ao8 ba.length co8) ba) ∧ A0_ (Below w.heap.size w w'))
    case atStart => exact ⟨(([] : List (S26))), (0), (rS_), H', ⟨Nat.le_refl _⟩, ⟨by (with_reducible repeat (first | apply Kd.R_alloc | apply Kd.rN_ | apply Kd.rD_)); exact ga.out⟩, ⟨by (with_reducible repeat (first | apply Kd.R_alloc | apply Kd.rN_ | apply Kd.rD_)); exact Kd.rM_ fa.out (fun _ hk => (by simp [Value.ownBlock]))⟩, ⟨by first | exact Kd.R_nil _ _ _ _ _ | exact Kd.N_nil _ _ _ _ _ | exact Kd.V_nil _ _ _ _ _ | exact Kd.Q_nil _ _ _ _ _ | exact Kd.S_nil _ _ _ _ _⟩, ⟨by (with_reducible repeat (first | apply Kd.R_alloc | apply Kd.rN_ | apply Kd.rD_)); exact ga.out⟩, ⟨xB_ HB⟩⟩
    case round =>
     clear H'
     try clear c1
     try clear p2
     try clear c5
     try clear p6
     try clear c10
     try clear sa
     try clear xa
     try clear c12
     try clear p2
     try clear p6
     obtain ⟨ma, aa, rfl, HA, HK2, ga, fa, ia, ha, HB⟩ := hrel
     cases gk with
     | zero => exact absurd HA.out (by simp [l14_SetoffBalance.l0])
     | succ k2 =>
      have H := HA.out
      clear HA
      simp only [l14_SetoffBalance.l0] at H
      by_cases c13 : aa < (ba.length : Int)
      ·rw [if_pos c13] at H
       have Ga : decide (aa < (ba.length : Int)) = true := decide_eq_true c13
       clear c13
       by_cases c14 : 0 ≤ aa
       rotate_left
       ·rw [if_neg c14] at H
        exact absurd H (by simp)
       rw [if_pos c14] at H
       have qb : decide (0 ≤ aa) = true := decide_eq_true c14
       clear c14
       by_cases c15 : aa < (ba.length : Int)
       rotate_left
       ·rw [if_neg c15] at H
        exact absurd H (by simp)
       rw [if_pos c15] at H
       have rb : decide (aa < (ba.length : Int)) = true := decide_eq_true c15
       clear c15
       by_cases c16 : ma.length < 3518437208883
       rotate_left
       ·rw [if_neg c16] at H
        exact absurd H (by simp)
       rw [if_pos c16] at H
       have sb := A0_.mk c16
       clear c16
       obtain ⟨qa, Ba⟩ : ∃ y_ : List (S26), y_ = (ma ++ [(⟨(r28_ ba aa).f2.f0, (r28_ ba aa).f2.f1, (r28_ ba aa).f2.f2⟩ : S26)]) := ⟨_, rfl⟩
       replace H : (if aa < (ea.length : Int) then ((q_Sign.f k2 ((r26_ ea aa).f0) ((r26_ ea aa).f1) ((r26_ ea aa).f2)).bind fun va => (if va < 0 then (l14_SetoffBalance.j2 k2 a1 a2 ba ea qa aa ba (ba.length : Int) aa true ((r28_ ba aa).f0) ((r28_ ba aa).f1) ((r28_ ba aa).f2.f0) ((r28_ ba aa).f2.f1) ((r28_ ba aa).f2.f2) ((r28_ ba aa).f3) ((r28_ ba aa).f4) ((r28_ ba aa).f5)) else ((q_Compare.f k2 ((r26_ ea aa).f0) ((r26_ ea aa).f1) ((r26_ ea aa).f2) ((r28_ ba aa).f2.f0) ((r28_ ba aa).f2.f1) ((r28_ ba aa).f2.f2)).bind fun Ha => (l14_SetoffBalance.j2 k2 a1 a2 ba ea qa aa ba (ba.length : Int) aa (decide (Ha > 0)) ((r28_ ba aa).f0) ((r28_ ba aa).f1) ((r28_ ba aa).f2.f0) ((r28_ ba aa).f2.f1) ((r28_ ba aa).f2.f2) ((r28_ ba aa).f3) ((r28_ ba aa).f4) ((r28_ ba aa).f5))))) else (none)) = some r := by first | (rw [Ba]; with_reducible exact H) | (have H2_ := (Option.bind_some _ _).symm.trans H; rw [Ba]; with_reducible exact H2_) | (have H2_ := (Option.bind_some _ _).symm.trans H; with_reducible exact H2_) | with_reducible exact H | (rw [Ba]; exact H) | exact H
       have tb := A0_.mk Ba
       clear Ba
       have HC17 := A0_.mk H
       clear H
       have Ia : 0 ≤ (aa : Int) := oD_
       have Ja : aa < (ba.length : Int) := oD_
       (try (obtain ⟨AoX_, coX_, eoX_⟩ := Kd.rS_' ha.out; subst eoX_))
       obtain ⟨eb, ub, vb, wb, xb, yb, zb, Ab, Bb, Cb⟩ := at_T28 (Kd.rr_' ha.out).2.2 aa Ia Ja
       cases ub
       replace Ia := eq_true Ia
       replace Ja := eq_true Ja
       go_upto_region 10 with (first | ((with_reducible refine gD_ (N := 12) rfl ?_); (try (refine gate_guard (by rfl) ?_; dsimp only)); refine bE_ ?hg (N := 12) ?hd (cs := #[.int .i64 0, .int .i64 0, .bool false, .string (⟨#[]⟩ : ByteArray), .string (⟨#[]⟩ : ByteArray), .int .i64 0, .int .i64 0, .bool false]) (t := 28) ?hr ?_; (case hd => rfl); (case hg => rfl); (case hr => first | (go_simp; done) | (go_simp; rfl)); intro da hg w18 hbox hb; have n0_ := A0_.mk (Kd.rB_ (Kd.R_elderB (xR_ ga.out) da (Nat.le_of_eq hg.symm)) hb); have n1_ := A0_.mk (Kd.rB_ (xR_ fa.out) hb); have n2_ := A0_.mk (Kd.rB_ (xR_ ia.out) hb); have n3_ := A0_.mk (Kd.rB_ (Kd.R_elderB (xR_ ha.out) da (Nat.le_of_eq hg.symm)) hb); have n4_ := A0_.mk (bT_ (xB_ HB) hb); have n5_ := A0_.mk (hbox); have n6_ := A0_.mk ((by rw [hg]; exact (bZ_ (xB_ HB)) : w.heap.size ≤ da)); have n7_ := A0_.mk ((by rw [hg]; exact (bZ_ (xB_ HB)) : w.heap.size ≤ da)); clear ga fa ia ha HB; have ga := n0_; have fa := n1_; have ia := n2_; have ha := n3_; have HB := n4_; have ca := n5_; have jc := n6_; have na := n7_; clear n0_ n1_ n2_ n3_ n4_ n5_ n6_ n7_; clear hb hbox hg; have Db : w18.cell? ⟨da, 0, none⟩ = some (.int .i64 0) := (kc_ ca.out 0).trans rfl; have Eb : w18.cell? ⟨da, 1, none⟩ = some (.int .i64 0) := (kc_ ca.out 1).trans rfl; have Fb : w18.cell? ⟨da, 2, none⟩ = some (.bool false) := (kc_ ca.out 2).trans rfl; have Gb : w18.cell? ⟨da, 3, none⟩ = some (.string (⟨#[]⟩ : ByteArray)) := (kc_ ca.out 3).trans rfl; have Hb : w18.cell? ⟨da, 4, none⟩ = some (.string (⟨#[]⟩ : ByteArray)) := (kc_ ca.out 4).trans rfl; have Ib : w18.cell? ⟨da, 5, none⟩ = some (.int .i64 0) := (kc_ ca.out 5).trans rfl; have Jb : w18.cell? ⟨da, 6, none⟩ = some (.int .i64 0) := (kc_ ca.out 6).trans rfl; have Kb : w18.cell? ⟨da, 7, none⟩ = some (.bool false) := (kc_ ca.out 7).trans rfl; have Lb := kF_ ca.out 0; have Mb := kF_ ca.out 1; have Nb := kF_ ca.out 2; have Ob := kF_ ca.out 3; have Pb := kF_ ca.out 4; have Qb := kF_ ca.out 5; have Rb := kF_ ca.out 6; have Sb := kF_ ca.out 7) | ((with_reducible refine gate_builtin (b := .append) (xs := #[.tmp 43, .tmp 46]) rfl ?_); (try (refine gate_guard (by rfl) ?_; dsimp only)); at_builtin; refine Kd.R_append k26 (w0 := w) w.heap.size rfl (.tmp 43) (.tmp 46) 37 26 (.agg #[(.bool false), (.string ⟨#[]⟩), (.string ⟨#[]⟩)]) 40 rfl Tryd.underlying37 info26 rfl (by decide) (by omega) u10 ma (⟨(r28_ ba aa).f2.f0, (r28_ ba aa).f2.f1, (r28_ ba aa).f2.f2⟩ : S26) [.bool ((r28_ ba aa).f2.f0), .string ((r28_ ba aa).f2.f1), .string ((r28_ ba aa).f2.f2)] (fun k_ => some k_ ≠ (pa : Value).ownBlock) (fun _ => False) rfl (by first | (go_simp; done) | (go_simp; rfl)) ?aP (fun _ hk => hk.elim) ?aF ?aO ?aB ?aS ?aL ?_; (case aP => exact k26_mkM _ _ _ (⟨(r28_ ba aa).f2.f0, (r28_ ba aa).f2.f1, (r28_ ba aa).f2.f2⟩ : S26)); (case aB => exact (xB1_ HB na)); (case aF => exact (fun k_ hk => Kd.fresh' (Kd.R_lt (by (with_reducible repeat (first | apply Kd.R_alloc | apply Kd.rN_ | apply Kd.rD_)); exact (Kd.rM_ (Kd.rF_ (p := ⟨da, 7, none⟩) (Kd.rF_ (p := ⟨da, 6, none⟩) (Kd.rF_ (p := ⟨da, 5, none⟩) (Kd.rF_ (p := ⟨da, 4, none⟩) (Kd.rF_ (p := ⟨da, 3, none⟩) (Kd.rF_ (p := ⟨da, 2, none⟩) (Kd.rF_ (p := ⟨da, 1, none⟩) (Kd.rF_ (p := ⟨da, 0, none⟩) (Kd.R_types fa.out ca.out (by decide)) (fun _ hk => hk.2) (.int .i64 ((r28_ ba aa).f0))) (fun _ hk => hk.2) (.int .i64 ((r28_ ba aa).f1))) (fun _ hk => hk.2) (.bool ((r28_ ba aa).f2.f0))) (fun _ hk => hk.2) (.string ((r28_ ba aa).f2.f1))) (fun _ hk => hk.2) (.string ((r28_ ba aa).f2.f2))) (fun _ hk => hk.2) (.int .i64 ((r28_ ba aa).f3))) (fun _ hk => hk.2) (.int .i64 ((r28_ ba aa).f4))) (fun _ hk => hk.2) (.bool ((r28_ ba aa).f5))) (fun _ h_ => h_.1)))) k_ hk)); (case aO => exact (by (with_reducible repeat (first | apply Kd.R_alloc | apply Kd.rN_ | apply Kd.rD_)); exact Kd.rM_ (Kd.rF_ (p := ⟨da, 7, none⟩) (Kd.rF_ (p := ⟨da, 6, none⟩) (Kd.rF_ (p := ⟨da, 5, none⟩) (Kd.rF_ (p := ⟨da, 4, none⟩) (Kd.rF_ (p := ⟨da, 3, none⟩) (Kd.rF_ (p := ⟨da, 2, none⟩) (Kd.rF_ (p := ⟨da, 1, none⟩) (Kd.rF_ (p := ⟨da, 0, none⟩) (Kd.R_types ia.out ca.out (by decide)) (fun _ hk => hk.2) (.int .i64 ((r28_ ba aa).f0))) (fun _ hk => hk.2) (.int .i64 ((r28_ ba aa).f1))) (fun _ hk => hk.2) (.bool ((r28_ ba aa).f2.f0))) (fun _ hk => hk.2) (.string ((r28_ ba aa).f2.f1))) (fun _ hk => hk.2) (.string ((r28_ ba aa).f2.f2))) (fun _ hk => hk.2) (.int .i64 ((r28_ ba aa).f3))) (fun _ hk => hk.2) (.int .i64 ((r28_ ba aa).f4))) (fun _ hk => hk.2) (.bool ((r28_ ba aa).f5))) (fun _ hk => hk.1))); (case aS => exact (bZ_ (xB1_ HB na))); (case aL => have := sb.out; omega); intro fb w20 ho hb hg hat; rw [← tb.out] at ho; have n0_ := A0_.mk (Kd.R_over' (by (with_reducible repeat (first | apply Kd.R_alloc | apply Kd.rN_ | apply Kd.rD_)); exact (Kd.rM_ (Kd.rF_ (p := ⟨da, 7, none⟩) (Kd.rF_ (p := ⟨da, 6, none⟩) (Kd.rF_ (p := ⟨da, 5, none⟩) (Kd.rF_ (p := ⟨da, 4, none⟩) (Kd.rF_ (p := ⟨da, 3, none⟩) (Kd.rF_ (p := ⟨da, 2, none⟩) (Kd.rF_ (p := ⟨da, 1, none⟩) (Kd.rF_ (p := ⟨da, 0, none⟩) (Kd.rM_ ga.out (fun k_ hk => (⟨hk, hk.2⟩ : _ ∧ k_ ≠ da))) (fun _ hk => hk.2) (.int .i64 ((r28_ ba aa).f0))) (fun _ hk => hk.2) (.int .i64 ((r28_ ba aa).f1))) (fun _ hk => hk.2) (.bool ((r28_ ba aa).f2.f0))) (fun _ hk => hk.2) (.string ((r28_ ba aa).f2.f1))) (fun _ hk => hk.2) (.string ((r28_ ba aa).f2.f2))) (fun _ hk => hk.2) (.int .i64 ((r28_ ba aa).f3))) (fun _ hk => hk.2) (.int .i64 ((r28_ ba aa).f4))) (fun _ hk => hk.2) (.bool ((r28_ ba aa).f5))) (fun _ h_ => h_.1))) (Kd.R_typed (by (with_reducible repeat (first | apply Kd.R_alloc | apply Kd.rN_ | apply Kd.rD_)); exact (Kd.rM_ (Kd.rF_ (p := ⟨da, 7, none⟩) (Kd.rF_ (p := ⟨da, 6, none⟩) (Kd.rF_ (p := ⟨da, 5, none⟩) (Kd.rF_ (p := ⟨da, 4, none⟩) (Kd.rF_ (p := ⟨da, 3, none⟩) (Kd.rF_ (p := ⟨da, 2, none⟩) (Kd.rF_ (p := ⟨da, 1, none⟩) (Kd.rF_ (p := ⟨da, 0, none⟩) (Kd.R_types ia.out ca.out (by decide)) (fun _ hk => hk.2) (.int .i64 ((r28_ ba aa).f0))) (fun _ hk => hk.2) (.int .i64 ((r28_ ba aa).f1))) (fun _ hk => hk.2) (.bool ((r28_ ba aa).f2.f0))) (fun _ hk => hk.2) (.string ((r28_ ba aa).f2.f1))) (fun _ hk => hk.2) (.string ((r28_ ba aa).f2.f2))) (fun _ hk => hk.2) (.int .i64 ((r28_ ba aa).f3))) (fun _ hk => hk.2) (.int .i64 ((r28_ ba aa).f4))) (fun _ hk => hk.2) (.bool ((r28_ ba aa).f5))) (fun _ h_ => h_.1)))) (by decide) hg); have n1_ := A0_.mk (Kd.R_after (ok := (fun _ => True)) (by (with_reducible repeat (first | apply Kd.R_alloc | apply Kd.rN_ | apply Kd.rD_)); exact Kd.rM_ (Kd.rF_ (p := ⟨da, 7, none⟩) (Kd.rF_ (p := ⟨da, 6, none⟩) (Kd.rF_ (p := ⟨da, 5, none⟩) (Kd.rF_ (p := ⟨da, 4, none⟩) (Kd.rF_ (p := ⟨da, 3, none⟩) (Kd.rF_ (p := ⟨da, 2, none⟩) (Kd.rF_ (p := ⟨da, 1, none⟩) (Kd.rF_ (p := ⟨da, 0, none⟩) (Kd.R_types fa.out ca.out (by decide)) (fun _ hk => hk.2) (.int .i64 ((r28_ ba aa).f0))) (fun _ hk => hk.2) (.int .i64 ((r28_ ba aa).f1))) (fun _ hk => hk.2) (.bool ((r28_ ba aa).f2.f0))) (fun _ hk => hk.2) (.string ((r28_ ba aa).f2.f1))) (fun _ hk => hk.2) (.string ((r28_ ba aa).f2.f2))) (fun _ hk => hk.2) (.int .i64 ((r28_ ba aa).f3))) (fun _ hk => hk.2) (.int .i64 ((r28_ ba aa).f4))) (fun _ hk => hk.2) (.bool ((r28_ ba aa).f5))) (fun _ hk => ⟨trivial, hk.1⟩)) hg hat); have n2_ := A0_.mk (Kd.R_over' (by (with_reducible repeat (first | apply Kd.R_alloc | apply Kd.rN_ | apply Kd.rD_)); exact (Kd.rM_ (Kd.rF_ (p := ⟨da, 7, none⟩) (Kd.rF_ (p := ⟨da, 6, none⟩) (Kd.rF_ (p := ⟨da, 5, none⟩) (Kd.rF_ (p := ⟨da, 4, none⟩) (Kd.rF_ (p := ⟨da, 3, none⟩) (Kd.rF_ (p := ⟨da, 2, none⟩) (Kd.rF_ (p := ⟨da, 1, none⟩) (Kd.rF_ (p := ⟨da, 0, none⟩) (Kd.rM_ ha.out (fun k_ hk => (⟨hk, hk.2⟩ : _ ∧ k_ ≠ da))) (fun _ hk => hk.2) (.int .i64 ((r28_ ba aa).f0))) (fun _ hk => hk.2) (.int .i64 ((r28_ ba aa).f1))) (fun _ hk => hk.2) (.bool ((r28_ ba aa).f2.f0))) (fun _ hk => hk.2) (.string ((r28_ ba aa).f2.f1))) (fun _ hk => hk.2) (.string ((r28_ ba aa).f2.f2))) (fun _ hk => hk.2) (.int .i64 ((r28_ ba aa).f3))) (fun _ hk => hk.2) (.int .i64 ((r28_ ba aa).f4))) (fun _ hk => hk.2) (.bool ((r28_ ba aa).f5))) (fun _ h_ => h_.1))) (Kd.R_typed (by (with_reducible repeat (first | apply Kd.R_alloc | apply Kd.rN_ | apply Kd.rD_)); exact (Kd.rM_ (Kd.rF_ (p := ⟨da, 7, none⟩) (Kd.rF_ (p := ⟨da, 6, none⟩) (Kd.rF_ (p := ⟨da, 5, none⟩) (Kd.rF_ (p := ⟨da, 4, none⟩) (Kd.rF_ (p := ⟨da, 3, none⟩) (Kd.rF_ (p := ⟨da, 2, none⟩) (Kd.rF_ (p := ⟨da, 1, none⟩) (Kd.rF_ (p := ⟨da, 0, none⟩) (Kd.R_types ia.out ca.out (by decide)) (fun _ hk => hk.2) (.int .i64 ((r28_ ba aa).f0))) (fun _ hk => hk.2) (.int .i64 ((r28_ ba aa).f1))) (fun _ hk => hk.2) (.bool ((r28_ ba aa).f2.f0))) (fun _ hk => hk.2) (.string ((r28_ ba aa).f2.f1))) (fun _ hk => hk.2) (.string ((r28_ ba aa).f2.f2))) (fun _ hk => hk.2) (.int .i64 ((r28_ ba aa).f3))) (fun _ hk => hk.2) (.int .i64 ((r28_ ba aa).f4))) (fun _ hk => hk.2) (.bool ((r28_ ba aa).f5))) (fun _ h_ => h_.1)))) (by decide) hg); have n3_ := A0_.mk (blk_grown (g := da) (o := .cells #[.int .i64 ((r28_ ba aa).f0), .int .i64 ((r28_ ba aa).f1), .bool ((r28_ ba aa).f2.f0), .string ((r28_ ba aa).f2.f1), .string ((r28_ ba aa).f2.f2), .int .i64 ((r28_ ba aa).f3), .int .i64 ((r28_ ba aa).f4), .bool ((r28_ ba aa).f5)] 28 (0, 0)) (by (with_reducible repeat (first | apply kN_ | apply kD_ | apply kA_)); refine kP_ (cs := #[.int .i64 ((r28_ ba aa).f0), .int .i64 ((r28_ ba aa).f1), .bool ((r28_ ba aa).f2.f0), .string ((r28_ ba aa).f2.f1), .string ((r28_ ba aa).f2.f2), .int .i64 ((r28_ ba aa).f3), .int .i64 ((r28_ ba aa).f4), .bool false]) ?_ 7 _ rfl; (with_reducible repeat (first | apply kN_ | apply kD_ | apply kA_)); refine kP_ (cs := #[.int .i64 ((r28_ ba aa).f0), .int .i64 ((r28_ ba aa).f1), .bool ((r28_ ba aa).f2.f0), .string ((r28_ ba aa).f2.f1), .string ((r28_ ba aa).f2.f2), .int .i64 ((r28_ ba aa).f3), .int .i64 0, .bool false]) ?_ 6 _ rfl; (with_reducible repeat (first | apply kN_ | apply kD_ | apply kA_)); refine kP_ (cs := #[.int .i64 ((r28_ ba aa).f0), .int .i64 ((r28_ ba aa).f1), .bool ((r28_ ba aa).f2.f0), .string ((r28_ ba aa).f2.f1), .string ((r28_ ba aa).f2.f2), .int .i64 0, .int .i64 0, .bool false]) ?_ 5 _ rfl; (with_reducible repeat (first | apply kN_ | apply kD_ | apply kA_)); refine kP_ (cs := #[.int .i64 ((r28_ ba aa).f0), .int .i64 ((r28_ ba aa).f1), .bool ((r28_ ba aa).f2.f0), .string ((r28_ ba aa).f2.f1), .string (⟨#[]⟩ : ByteArray), .int .i64 0, .int .i64 0, .bool false]) ?_ 4 _ rfl; (with_reducible repeat (first | apply kN_ | apply kD_ | apply kA_)); refine kP_ (cs := #[.int .i64 ((r28_ ba aa).f0), .int .i64 ((r28_ ba aa).f1), .bool ((r28_ ba aa).f2.f0), .string (⟨#[]⟩ : ByteArray), .string (⟨#[]⟩ : ByteArray), .int .i64 0, .int .i64 0, .bool false]) ?_ 3 _ rfl; (with_reducible repeat (first | apply kN_ | apply kD_ | apply kA_)); refine kP_ (cs := #[.int .i64 ((r28_ ba aa).f0), .int .i64 ((r28_ ba aa).f1), .bool false, .string (⟨#[]⟩ : ByteArray), .string (⟨#[]⟩ : ByteArray), .int .i64 0, .int .i64 0, .bool false]) ?_ 2 _ rfl; (with_reducible repeat (first | apply kN_ | apply kD_ | apply kA_)); refine kP_ (cs := #[.int .i64 ((r28_ ba aa).f0), .int .i64 0, .bool false, .string (⟨#[]⟩ : ByteArray), .string (⟨#[]⟩ : ByteArray), .int .i64 0, .int .i64 0, .bool false]) ?_ 1 _ rfl; (with_reducible repeat (first | apply kN_ | apply kD_ | apply kA_)); refine kP_ (cs := #[.int .i64 0, .int .i64 0, .bool false, .string (⟨#[]⟩ : ByteArray), .string (⟨#[]⟩ : ByteArray), .int .i64 0, .int .i64 0, .bool false]) ?_ 0 _ rfl; (with_reducible repeat (first | apply kN_ | apply kD_ | apply kA_)); exact ca.out) hg (Kd.R_ne ia.out ca.out (by decide))); have n4_ := A0_.mk (hb); have n5_ := A0_.mk (ho); clear ga fa ha ca HB ia; have ga := n0_; have fa := n1_; have ha := n2_; have ca := n3_; have HB := n4_; have ja := n5_; clear n0_ n1_ n2_ n3_ n4_ n5_; clear ho hb hg hat))
       (try simp only [Act.put, s1_, s2_, s3_])
       go_cut [63] (fun v63 wc => ∃ (kq : Nat) (Ka : Bool), v63 = .bool Ka ∧ A0_ (l14_SetoffBalance.j2 kq a1 a2 ba ea qa aa ba (ba.length : Int) aa Ka ((r28_ ba aa).f0) ((r28_ ba aa).f1) ((r28_ ba aa).f2.f0) ((r28_ ba aa).f2.f1) ((r28_ ba aa).f2.f2) ((r28_ ba aa).f3) ((r28_ ba aa).f4) ((r28_ ba aa).f5) = some r) ∧ A0_ (kq ≤ k2) ∧ A0_ (Kd.R k28 28 wc w.heap.size (fun k_ => k_ ≠ da) (.slice (some eb) ba.length co8) ba) ∧ A0_ (Kd.R k26 26 wc w.heap.size (fun k_ => some k_ ≠ (fb : Value).ownBlock) pa ea) ∧ A0_ (Kd.R k26 26 wc w.heap.size (fun k_ => some k_ ≠ (pa : Value).ownBlock) fb qa) ∧ A0_ (Kd.R k28 28 wc w.heap.size (fun k_ => k_ ≠ da) (.slice (some eb) ba.length co8) ba) ∧ A0_ (wc.heap[da]? = some (.cells #[.int .i64 ((r28_ ba aa).f0), .int .i64 ((r28_ ba aa).f1), .bool ((r28_ ba aa).f2.f0), .string ((r28_ ba aa).f2.f1), .string ((r28_ ba aa).f2.f2), .int .i64 ((r28_ ba aa).f3), .int .i64 ((r28_ ba aa).f4), .bool ((r28_ ba aa).f5)] 28 (0, 0))) ∧ A0_ (Below w.heap.size w wc))
       case first =>
        have H := HC17.out
        clear HC17
        by_cases c21 : aa < (ea.length : Int)
        rotate_left
        ·rw [if_neg c21] at H
         exact absurd H (by simp)
        rw [if_pos c21] at H
        have Xa : decide (aa < (ea.length : Int)) = true := decide_eq_true c21
        clear c21
        (first | rw [Xa] | rw [Tb] | (simp only [i6_, i3_]; rw [Xa]) | skip)
        obtain ⟨va, A22, H⟩ := oB_ H
        (try dsimp only at H)
        by_cases c23 : va < 0
        ·rw [if_pos c23] at H
         have gb : decide (va < 0) = true := decide_eq_true c23
         clear c23
         have H' := A0_.mk H
         clear H
         try go_wp2
         have n0_ := A0_.mk (Kd.rD_ ga.out)
         have n1_ := A0_.mk (Kd.rD_ fa.out)
         have n2_ := A0_.mk (Kd.rD_ ha.out)
         have n3_ := A0_.mk (Kd.rD_ ja.out)
         have n4_ := A0_.mk (kD_ ca.out)
         have n5_ := A0_.mk (b1_ HB.out)
         clear ga
         clear fa
         clear ha
         clear ja
         clear ca
         clear HB
         have ga := n0_
         have fa := n1_
         have ha := n2_
         have ja := n3_
         have ca := n4_
         have HB := n5_
         clear n0_ n1_ n2_ n3_ n4_ n5_
         obtain ⟨kc, lc, ib⟩ := Kd.rS_' fa.out
         (first | subst ib | (injection ib with f1_ f2_ f3_; have f4_ := f1_.symm; have f5_ := f3_.symm; clear f1_ f2_ f3_; subst f4_; subst f5_))
         have ta : 0 ≤ (aa : Int) := oD_
         have ua : aa < (ea.length : Int) := oD_
         (try (obtain ⟨AoX_, coX_, eoX_⟩ := Kd.rS_' fa.out; subst eoX_))
         obtain ⟨ka, Ya, ya, za, Aa⟩ := at_T26 (Kd.rr_' fa.out).2.2 aa ta ua
         cases Ya
         replace ta := eq_true ta
         replace ua := eq_true ua
         refine start_ (n := 16) (S := fun w' => w'.cell? (ka.add ((aa).toNat * 3)) = some (.bool ((r26_ ea aa).f0)) ∧ w'.cell? ⟨(ka.add ((aa).toNat * 3)).block, (ka.add ((aa).toNat * 3)).off + 1, none⟩ = some (.string ((r26_ ea aa).f1)) ∧ w'.cell? ⟨(ka.add ((aa).toNat * 3)).block, (ka.add ((aa).toNat * 3)).off + 2, none⟩ = some (.string ((r26_ ea aa).f2))) (ds := []) #[false, false, false, false, false, false, false, false, false, false, false, false, false, false, false, false] kr_ rfl rfl ⟨ya, za, Aa⟩ (fun hHeld => ?_); refine with_tabW l14_SetoffBalance.tab10 l14_SetoffBalance.bits10 (fun HT_ HW_ => ?_)
         generalize w20.drew = w24 at ga fa ha ja ca HB ya za Aa hHeld ⊢
         refine pu_ (i := 0) (N := some 48) (v := ?_) (a' := ?_) #[true, false, false, false, false, false, false, false, false, false, false, false, false, false, false, false] rfl rfl (an_ HT_.out kr_) (fun _ _ _ h => h) (Or.inl ⟨by rfl, ?_⟩) ?_ ?_
         rotate_left
         ·intro w'
          go_simp
          with_reducible rfl
         rotate_left
         ·simp only [Act.put, s1_, s2_, s3_, i6_, i3_]
          rfl
         refine pu_ (i := 1) (N := some 49) (v := ?_) (a' := ?_) #[true, true, false, false, false, false, false, false, false, false, false, false, false, false, false, false] rfl rfl (an_ HT_.out kr_) (fun _ _ _ h => h) (Or.inl ⟨by rfl, ?_⟩) ?_ ?_
         rotate_left
         ·intro w'
          go_simp
          with_reducible rfl
         rotate_left
         ·simp only [Act.put, s1_, s2_, s3_, i6_, i3_]
          rfl
         refine pu_ (i := 2) (N := some 50) (v := ?_) (a' := ?_) #[true, true, true, false, false, false, false, false, false, false, false, false, false, false, false, false] rfl rfl (an_ HT_.out kr_) (fun _ _ _ h => h) (Or.inl ⟨by rfl, ?_⟩) ?_ ?_
         rotate_left
         ·intro w'
          go_simp
          with_reducible rfl
         rotate_left
         ·simp only [Act.put, s1_, s2_, s3_, i6_, i3_]
          rfl
         refine take_ (i := 3) (N := some 51) (v := ?_) (a' := ?_) #[true, true, true, true, false, false, false, false, false, false, false, false, false, false, false, false] rfl rfl (tW_ HT_.out HW_.out kr_) (fun _ _ _ h => h) (Or.inl ⟨by rfl, ?_⟩) hHeld ?_ ?_
         rotate_left
         ·rintro w' ⟨s0, s1, s2⟩
          go_simp
          with_reducible rfl
         rotate_left
         ·simp only [Act.put, s1_, s2_, s3_, i6_, i3_]
          rfl
         refine one_ (i := 4) (N := some 52) #[true, true, true, true, true, false, false, false, false, false, false, false, false, false, false, false] rfl rfl (one_of HT_.out kr_) (by decide) (fun K hK => ?_)
         refine goes_ Tryd.func19 kr_ rfl #[.agg #[.bool ((r26_ ea aa).f0), .string ((r26_ ea aa).f1), .string ((r26_ ea aa).f2)]] (by rfl) rfl rfl mp_ ?_
         with_reducible refine (q_Sign.calls k2 ((r26_ ea aa).f0) ((r26_ ea aa).f1) ((r26_ ea aa).f2) va _ A22.out).mono ?_
         rintro e w26 ⟨rfl, hb⟩
         have HS0_ := (hb.cell (World.block_lt_of_cell? _ _ (hHeld.1))).trans (hHeld.1)
         have HS1_ := (hb.cell (World.block_lt_of_cell? _ _ (hHeld.2.1))).trans (hHeld.2.1)
         have HS2_ := (hb.cell (World.block_lt_of_cell? _ _ (hHeld.2.2))).trans (hHeld.2.2)
         refine ⟨_, rfl, ?_⟩
         have n0_ := A0_.mk (Kd.rB_ (xR_ ga.out) hb)
         have n1_ := A0_.mk (Kd.rB_ (xR_ fa.out) hb)
         have n2_ := A0_.mk (Kd.rB_ (xR_ ha.out) hb)
         have n3_ := A0_.mk (Kd.rB_ (xR_ ja.out) hb)
         have n4_ := A0_.mk (kB_ (g := da) (o := .cells #[.int .i64 ((r28_ ba aa).f0), .int .i64 ((r28_ ba aa).f1), .bool ((r28_ ba aa).f2.f0), .string ((r28_ ba aa).f2.f1), .string ((r28_ ba aa).f2.f2), .int .i64 ((r28_ ba aa).f3), .int .i64 ((r28_ ba aa).f4), .bool ((r28_ ba aa).f5)] 28 (0, 0)) (xK_ ca.out) hb)
         have n5_ := A0_.mk (bT_ (xB1_ HB na) hb)
         clear ga
         clear fa
         clear ha
         clear ja
         clear ca
         clear HB
         have ga := n0_
         have fa := n1_
         have ha := n2_
         have ja := n3_
         have ca := n4_
         have HB := n5_
         clear n0_ n1_ n2_ n3_ n4_ n5_
         (try clear hb)
         (try clear hb2)
         (try clear hk)
         (try clear hi)
         refine hK.out _ _ ⟨HS0_, HS1_, HS2_⟩ (fun hHeld => ?_)
         clear hK K
         refine norm_ (a' := ?_) ?_ ?_
         rotate_left
         ·show Act.put _ (some 52) _ = _
          simp only [Act.put, s1_, s2_, s3_, i6_, i3_]
          rfl
         refine pu_ (i := 5) (N := some 53) (v := ?_) (a' := ?_) #[true, true, true, true, true, true, false, false, false, false, false, false, false, false, false, false] rfl rfl (an_ HT_.out kr_) (fun _ _ _ h => h) (Or.inl ⟨by rfl, ?_⟩) ?_ ?_
         rotate_left
         ·intro w'
          go_simp
          with_reducible rfl
         rotate_left
         ·simp only [Act.put, s1_, s2_, s3_, i6_, i3_]
          rfl
         refine pu_ (i := 6) (N := some 54) (v := ?_) (a' := ?_) #[true, true, true, true, true, true, true, false, false, false, false, false, false, false, false, false] rfl rfl (an_ HT_.out kr_) (fun _ _ _ h => h) (Or.inl ⟨by rfl, ?_⟩) ?_ ?_
         rotate_left
         ·intro w'
          go_simp
          with_reducible rfl
         rotate_left
         ·simp only [Act.put, s1_, s2_, s3_, i6_, i3_]
          rfl
         refine pu_ (i := 7) (N := some 55) (v := undef) (a' := ?_) #[true, true, true, true, true, true, true, true, false, false, false, false, false, false, false, false] rfl rfl (an_ HT_.out kr_) (fun _ _ _ h => h) (Or.inr ⟨by rfl, rfl⟩) ?_ ?_
         rotate_left
         ·simp only [Act.put, s1_, s2_, s3_, i6_, i3_]
          rfl
         refine pu_ (i := 8) (N := some 56) (v := undef) (a' := ?_) #[true, true, true, true, true, true, true, true, true, false, false, false, false, false, false, false] rfl rfl (an_ HT_.out kr_) (fun _ _ _ h => h) (Or.inr ⟨by rfl, rfl⟩) ?_ ?_
         rotate_left
         ·simp only [Act.put, s1_, s2_, s3_, i6_, i3_]
          rfl
         refine pu_ (i := 9) (N := some 57) (v := undef) (a' := ?_) #[true, true, true, true, true, true, true, true, true, true, false, false, false, false, false, false] rfl rfl (an_ HT_.out kr_) (fun _ _ _ h => h) (Or.inr ⟨by rfl, rfl⟩) ?_ ?_
         rotate_left
         ·simp only [Act.put, s1_, s2_, s3_, i6_, i3_]
          rfl
         refine pu_ (i := 10) (N := some 58) (v := undef) (a' := ?_) #[true, true, true, true, true, true, true, true, true, true, true, false, false, false, false, false] rfl rfl (an_ HT_.out kr_) (fun _ _ _ h => h) (Or.inr ⟨by rfl, rfl⟩) ?_ ?_
         rotate_left
         ·simp only [Act.put, s1_, s2_, s3_, i6_, i3_]
          rfl
         refine pu_ (i := 11) (N := some 59) (v := undef) (a' := ?_) #[true, true, true, true, true, true, true, true, true, true, true, true, false, false, false, false] rfl rfl (an_ HT_.out kr_) (fun _ _ _ h => h) (Or.inr ⟨by rfl, rfl⟩) ?_ ?_
         rotate_left
         ·simp only [Act.put, s1_, s2_, s3_, i6_, i3_]
          rfl
         refine pu_ (i := 12) (N := some 60) (v := undef) (a' := ?_) #[true, true, true, true, true, true, true, true, true, true, true, true, true, false, false, false] rfl rfl (an_ HT_.out kr_) (fun _ _ _ h => h) (Or.inr ⟨by rfl, rfl⟩) ?_ ?_
         rotate_left
         ·simp only [Act.put, s1_, s2_, s3_, i6_, i3_]
          rfl
         refine pu_ (i := 13) (N := some 61) (v := undef) (a' := ?_) #[true, true, true, true, true, true, true, true, true, true, true, true, true, true, false, false] rfl rfl (an_ HT_.out kr_) (fun _ _ _ h => h) (Or.inr ⟨by rfl, rfl⟩) ?_ ?_
         rotate_left
         ·simp only [Act.put, s1_, s2_, s3_, i6_, i3_]
          rfl
         refine pu_ (i := 14) (N := some 62) (v := undef) (a' := ?_) #[true, true, true, true, true, true, true, true, true, true, true, true, true, true, true, false] rfl rfl (an_ HT_.out kr_) (fun _ _ _ h => h) (Or.inr ⟨by rfl, rfl⟩) ?_ ?_
         rotate_left
         ·simp only [Act.put, s1_, s2_, s3_, i6_, i3_]
          rfl
         refine pu_ (i := 15) (N := some 63) (v := ?_) (a' := ?_) #[true, true, true, true, true, true, true, true, true, true, true, true, true, true, true, true] rfl rfl (an_ HT_.out kr_) (fun _ _ _ h => h) (Or.inl ⟨by rfl, ?_⟩) ?_ ?_
         rotate_left
         ·intro w'
          go_simp
          with_reducible rfl
         rotate_left
         ·simp only [Act.put, s1_, s2_, s3_, i6_, i3_]
          rfl
         refine done_ (done_of HT_.out kr_) ?_
         try go_wp2
         go_meet
         case rel => exact ⟨_, (true), (rS_), H', ⟨by have := HJ5.out; have := HK2.out; first | omega | exact Nat.le_refl _⟩, ⟨by (with_reducible repeat (first | apply Kd.R_alloc | apply Kd.rN_ | apply Kd.rD_)); exact Kd.rM_ ga.out (fun _ hk => hk.2)⟩, ⟨by (with_reducible repeat (first | apply Kd.R_alloc | apply Kd.rN_ | apply Kd.rD_)); exact Kd.rM_ fa.out (fun _ hk => hk.2)⟩, ⟨by (with_reducible repeat (first | apply Kd.R_alloc | apply Kd.rN_ | apply Kd.rD_)); exact ja.out⟩, ⟨by (with_reducible repeat (first | apply Kd.R_alloc | apply Kd.rN_ | apply Kd.rD_)); exact Kd.rM_ ha.out (fun _ hk => hk.2)⟩, ⟨by (with_reducible repeat (first | apply kN_ | apply kD_ | apply kA_)); exact ca.out⟩, ⟨xB1_ HB na⟩⟩
        ·rw [if_neg c23] at H
         have gb : decide (va < 0) = false := decide_eq_false c23
         clear c23
         obtain ⟨Ha, A27, H⟩ := oB_ H
         (try dsimp only at H)
         have H' := A0_.mk H
         clear H
         try go_wp2
         have n0_ := A0_.mk (Kd.rD_ ga.out)
         have n1_ := A0_.mk (Kd.rD_ fa.out)
         have n2_ := A0_.mk (Kd.rD_ ha.out)
         have n3_ := A0_.mk (Kd.rD_ ja.out)
         have n4_ := A0_.mk (kD_ ca.out)
         have n5_ := A0_.mk (b1_ HB.out)
         clear ga
         clear fa
         clear ha
         clear ja
         clear ca
         clear HB
         have ga := n0_
         have fa := n1_
         have ha := n2_
         have ja := n3_
         have ca := n4_
         have HB := n5_
         clear n0_ n1_ n2_ n3_ n4_ n5_
         obtain ⟨mc, nc, jb⟩ := Kd.rS_' fa.out
         (first | subst jb | (injection jb with f1_ f2_ f3_; have f4_ := f1_.symm; have f5_ := f3_.symm; clear f1_ f2_ f3_; subst f4_; subst f5_))
         have ta : 0 ≤ (aa : Int) := oD_
         have ua : aa < (ea.length : Int) := oD_
         (try (obtain ⟨AoX_, coX_, eoX_⟩ := Kd.rS_' fa.out; subst eoX_))
         obtain ⟨ka, Ya, ya, za, Aa⟩ := at_T26 (Kd.rr_' fa.out).2.2 aa ta ua
         cases Ya
         replace ta := eq_true ta
         replace ua := eq_true ua
         have La : 0 ≤ (aa : Int) := oD_
         have Ma : aa < (ea.length : Int) := oD_
         (try (obtain ⟨AoX_, coX_, eoX_⟩ := Kd.rS_' fa.out; subst eoX_))
         obtain ⟨Ub, Vb, Za, ab, bb⟩ := at_T26 (Kd.rr_' fa.out).2.2 aa La Ma
         obtain rfl : ka = Ub := (by injection Vb)
         replace La := eq_true La
         replace Ma := eq_true Ma
         refine start_ (n := 16) (S := fun w' => w'.cell? ⟨da, 0, none⟩ = some (.int .i64 ((r28_ ba aa).f0)) ∧ w'.cell? ⟨da, 1, none⟩ = some (.int .i64 ((r28_ ba aa).f1)) ∧ w'.cell? ⟨da, 2, none⟩ = some (.bool ((r28_ ba aa).f2.f0)) ∧ w'.cell? ⟨da, 3, none⟩ = some (.string ((r28_ ba aa).f2.f1)) ∧ w'.cell? ⟨da, 4, none⟩ = some (.string ((r28_ ba aa).f2.f2)) ∧ w'.cell? ⟨da, 5, none⟩ = some (.int .i64 ((r28_ ba aa).f3)) ∧ w'.cell? ⟨da, 6, none⟩ = some (.int .i64 ((r28_ ba aa).f4)) ∧ w'.cell? ⟨da, 7, none⟩ = some (.bool ((r28_ ba aa).f5)) ∧ w'.cell? (ka.add ((aa).toNat * 3)) = some (.bool ((r26_ ea aa).f0)) ∧ w'.cell? ⟨(ka.add ((aa).toNat * 3)).block, (ka.add ((aa).toNat * 3)).off + 1, none⟩ = some (.string ((r26_ ea aa).f1)) ∧ w'.cell? ⟨(ka.add ((aa).toNat * 3)).block, (ka.add ((aa).toNat * 3)).off + 2, none⟩ = some (.string ((r26_ ea aa).f2)) ∧ w'.cell? (ka.add ((aa).toNat * 3)) = some (.bool ((r26_ ea aa).f0)) ∧ w'.cell? ⟨(ka.add ((aa).toNat * 3)).block, (ka.add ((aa).toNat * 3)).off + 1, none⟩ = some (.string ((r26_ ea aa).f1)) ∧ w'.cell? ⟨(ka.add ((aa).toNat * 3)).block, (ka.add ((aa).toNat * 3)).off + 2, none⟩ = some (.string ((r26_ ea aa).f2))) (ds := []) #[false, false, false, false, false, false, false, false, false, false, false, false, false, false, false, false] kr_ rfl rfl ⟨(kc_ ca.out 0).trans rfl, (kc_ ca.out 1).trans rfl, (kc_ ca.out 2).trans rfl, (kc_ ca.out 3).trans rfl, (kc_ ca.out 4).trans rfl, (kc_ ca.out 5).trans rfl, (kc_ ca.out 6).trans rfl, (kc_ ca.out 7).trans rfl, ya, za, Aa, Za, ab, bb⟩ (fun hHeld => ?_); refine with_tabW l14_SetoffBalance.tab10 l14_SetoffBalance.bits10 (fun HT_ HW_ => ?_)
         generalize w20.drew = w28 at ga fa ha ja ca HB ya za Aa Za ab bb hHeld ⊢
         refine pu_ (i := 0) (N := some 48) (v := ?_) (a' := ?_) #[true, false, false, false, false, false, false, false, false, false, false, false, false, false, false, false] rfl rfl (an_ HT_.out kr_) (fun _ _ _ h => h) (Or.inl ⟨by rfl, ?_⟩) ?_ ?_
         rotate_left
         ·intro w'
          go_simp
          with_reducible rfl
         rotate_left
         ·simp only [Act.put, s1_, s2_, s3_, i6_, i3_]
          rfl
         refine pu_ (i := 1) (N := some 49) (v := ?_) (a' := ?_) #[true, true, false, false, false, false, false, false, false, false, false, false, false, false, false, false] rfl rfl (an_ HT_.out kr_) (fun _ _ _ h => h) (Or.inl ⟨by rfl, ?_⟩) ?_ ?_
         rotate_left
         ·intro w'
          go_simp
          with_reducible rfl
         rotate_left
         ·simp only [Act.put, s1_, s2_, s3_, i6_, i3_]
          rfl
         refine pu_ (i := 2) (N := some 50) (v := ?_) (a' := ?_) #[true, true, true, false, false, false, false, false, false, false, false, false, false, false, false, false] rfl rfl (an_ HT_.out kr_) (fun _ _ _ h => h) (Or.inl ⟨by rfl, ?_⟩) ?_ ?_
         rotate_left
         ·intro w'
          go_simp
          with_reducible rfl
         rotate_left
         ·simp only [Act.put, s1_, s2_, s3_, i6_, i3_]
          rfl
         refine take_ (i := 3) (N := some 51) (v := ?_) (a' := ?_) #[true, true, true, true, false, false, false, false, false, false, false, false, false, false, false, false] rfl rfl (tW_ HT_.out HW_.out kr_) (fun _ _ _ h => h) (Or.inl ⟨by rfl, ?_⟩) hHeld ?_ ?_
         rotate_left
         ·rintro w' ⟨s0, s1, s2, s3, s4, s5, s6, s7, s8, s9, s10, s11, s12, s13⟩
          go_simp
          with_reducible rfl
         rotate_left
         ·simp only [Act.put, s1_, s2_, s3_, i6_, i3_]
          rfl
         refine one_ (i := 4) (N := some 52) #[true, true, true, true, true, false, false, false, false, false, false, false, false, false, false, false] rfl rfl (one_of HT_.out kr_) (by decide) (fun K hK => ?_)
         refine goes_ Tryd.func19 kr_ rfl #[.agg #[.bool ((r26_ ea aa).f0), .string ((r26_ ea aa).f1), .string ((r26_ ea aa).f2)]] (by rfl) rfl rfl mp_ ?_
         with_reducible refine (q_Sign.calls k2 ((r26_ ea aa).f0) ((r26_ ea aa).f1) ((r26_ ea aa).f2) va _ A22.out).mono ?_
         rintro e w30 ⟨rfl, hb⟩
         have HS8_ := (hb.cell (World.block_lt_of_cell? _ _ (hHeld.2.2.2.2.2.2.2.2.1))).trans (hHeld.2.2.2.2.2.2.2.2.1)
         have HS9_ := (hb.cell (World.block_lt_of_cell? _ _ (hHeld.2.2.2.2.2.2.2.2.2.1))).trans (hHeld.2.2.2.2.2.2.2.2.2.1)
         have HS10_ := (hb.cell (World.block_lt_of_cell? _ _ (hHeld.2.2.2.2.2.2.2.2.2.2.1))).trans (hHeld.2.2.2.2.2.2.2.2.2.2.1)
         have HS11_ := (hb.cell (World.block_lt_of_cell? _ _ (hHeld.2.2.2.2.2.2.2.2.2.2.2.1))).trans (hHeld.2.2.2.2.2.2.2.2.2.2.2.1)
         have HS12_ := (hb.cell (World.block_lt_of_cell? _ _ (hHeld.2.2.2.2.2.2.2.2.2.2.2.2.1))).trans (hHeld.2.2.2.2.2.2.2.2.2.2.2.2.1)
         have HS13_ := (hb.cell (World.block_lt_of_cell? _ _ (hHeld.2.2.2.2.2.2.2.2.2.2.2.2.2))).trans (hHeld.2.2.2.2.2.2.2.2.2.2.2.2.2)
         refine ⟨_, rfl, ?_⟩
         have n0_ := A0_.mk (Kd.rB_ (xR_ ga.out) hb)
         have n1_ := A0_.mk (Kd.rB_ (xR_ fa.out) hb)
         have n2_ := A0_.mk (Kd.rB_ (xR_ ha.out) hb)
         have n3_ := A0_.mk (Kd.rB_ (xR_ ja.out) hb)
         have n4_ := A0_.mk (kB_ (g := da) (o := .cells #[.int .i64 ((r28_ ba aa).f0), .int .i64 ((r28_ ba aa).f1), .bool ((r28_ ba aa).f2.f0), .string ((r28_ ba aa).f2.f1), .string ((r28_ ba aa).f2.f2), .int .i64 ((r28_ ba aa).f3), .int .i64 ((r28_ ba aa).f4), .bool ((r28_ ba aa).f5)] 28 (0, 0)) (xK_ ca.out) hb)
         have n5_ := A0_.mk (bT_ (xB1_ HB na) hb)
         clear ga
         clear fa
         clear ha
         clear ja
         clear ca
         clear HB
         have ga := n0_
         have fa := n1_
         have ha := n2_
         have ja := n3_
         have ca := n4_
         have HB := n5_
         clear n0_ n1_ n2_ n3_ n4_ n5_
         (try clear hb)
         (try clear hb2)
         (try clear hk)
         (try clear hi)
         refine hK.out _ _ ⟨(kc_ ca.out 0).trans rfl, (kc_ ca.out 1).trans rfl, (kc_ ca.out 2).trans rfl, (kc_ ca.out 3).trans rfl, (kc_ ca.out 4).trans rfl, (kc_ ca.out 5).trans rfl, (kc_ ca.out 6).trans rfl, (kc_ ca.out 7).trans rfl, HS8_, HS9_, HS10_, HS11_, HS12_, HS13_⟩ (fun hHeld => ?_)
         clear hK K
         refine norm_ (a' := ?_) ?_ ?_
         rotate_left
         ·show Act.put _ (some 52) _ = _
          simp only [Act.put, s1_, s2_, s3_, i6_, i3_]
          rfl
         refine pu_ (i := 5) (N := some 53) (v := ?_) (a' := ?_) #[true, true, true, true, true, true, false, false, false, false, false, false, false, false, false, false] rfl rfl (an_ HT_.out kr_) (fun _ _ _ h => h) (Or.inl ⟨by rfl, ?_⟩) ?_ ?_
         rotate_left
         ·intro w'
          go_simp
          with_reducible rfl
         rotate_left
         ·simp only [Act.put, s1_, s2_, s3_, i6_, i3_]
          rfl
         refine pu_ (i := 6) (N := some 54) (v := ?_) (a' := ?_) #[true, true, true, true, true, true, true, false, false, false, false, false, false, false, false, false] rfl rfl (an_ HT_.out kr_) (fun _ _ _ h => h) (Or.inl ⟨by rfl, ?_⟩) ?_ ?_
         rotate_left
         ·intro w'
          go_simp
          with_reducible rfl
         rotate_left
         ·simp only [Act.put, s1_, s2_, s3_, i6_, i3_]
          rfl
         refine pu_ (i := 7) (N := some 55) (v := ?_) (a' := ?_) #[true, true, true, true, true, true, true, true, false, false, false, false, false, false, false, false] rfl rfl (an_ HT_.out kr_) (fun _ _ _ h => h) (Or.inl ⟨by rfl, ?_⟩) ?_ ?_
         rotate_left
         ·intro w'
          go_simp
          with_reducible rfl
         rotate_left
         ·simp only [Act.put, s1_, s2_, s3_, i6_, i3_]
          rfl
         refine pu_ (i := 8) (N := some 56) (v := ?_) (a' := ?_) #[true, true, true, true, true, true, true, true, true, false, false, false, false, false, false, false] rfl rfl (an_ HT_.out kr_) (fun _ _ _ h => h) (Or.inl ⟨by rfl, ?_⟩) ?_ ?_
         rotate_left
         ·intro w'
          go_simp
          with_reducible rfl
         rotate_left
         ·simp only [Act.put, s1_, s2_, s3_, i6_, i3_]
          rfl
         refine pu_ (i := 9) (N := some 57) (v := ?_) (a' := ?_) #[true, true, true, true, true, true, true, true, true, true, false, false, false, false, false, false] rfl rfl (an_ HT_.out kr_) (fun _ _ _ h => h) (Or.inl ⟨by rfl, ?_⟩) ?_ ?_
         rotate_left
         ·intro w'
          go_simp
          with_reducible rfl
         rotate_left
         ·simp only [Act.put, s1_, s2_, s3_, i6_, i3_]
          rfl
         refine pu_ (i := 11) (N := some 59) (v := ?_) (a' := ?_) #[true, true, true, true, true, true, true, true, true, true, false, true, false, false, false, false] rfl rfl (an_ HT_.out kr_) (fun _ _ _ h => h) (Or.inl ⟨by rfl, ?_⟩) ?_ ?_
         rotate_left
         ·intro w'
          go_simp
          with_reducible rfl
         rotate_left
         ·simp only [Act.put, s1_, s2_, s3_, i6_, i3_]
          rfl
         refine take_ (i := 10) (N := some 58) (v := ?_) (a' := ?_) #[true, true, true, true, true, true, true, true, true, true, true, true, false, false, false, false] rfl rfl (tW_ HT_.out HW_.out kr_) (fun _ _ _ h => h) (Or.inl ⟨by rfl, ?_⟩) hHeld ?_ ?_
         rotate_left
         ·rintro w' ⟨s0, s1, s2, s3, s4, s5, s6, s7, s8, s9, s10, s11, s12, s13⟩
          go_simp
          with_reducible rfl
         rotate_left
         ·simp only [Act.put, s1_, s2_, s3_, i6_, i3_]
          rfl
         refine take_ (i := 12) (N := some 60) (v := ?_) (a' := ?_) #[true, true, true, true, true, true, true, true, true, true, true, true, true, false, false, false] rfl rfl (tW_ HT_.out HW_.out kr_) (fun _ _ _ h => h) (Or.inl ⟨by rfl, ?_⟩) hHeld ?_ ?_
         rotate_left
         ·rintro w' ⟨s0, s1, s2, s3, s4, s5, s6, s7, s8, s9, s10, s11, s12, s13⟩
          go_simp
          with_reducible rfl
         rotate_left
         ·simp only [Act.put, s1_, s2_, s3_, i6_, i3_]
          rfl
         refine one_ (i := 13) (N := some 61) #[true, true, true, true, true, true, true, true, true, true, true, true, true, true, false, false] rfl rfl (one_of HT_.out kr_) (by decide) (fun K hK => ?_)
         refine goes_ Tryd.func20 kr_ rfl #[.agg #[.bool ((r26_ ea aa).f0), .string ((r26_ ea aa).f1), .string ((r26_ ea aa).f2)], .agg #[.bool ((r28_ ba aa).f2.f0), .string ((r28_ ba aa).f2.f1), .string ((r28_ ba aa).f2.f2)]] (by rfl) rfl rfl mp_ ?_
         with_reducible refine (q_Compare.calls k2 ((r26_ ea aa).f0) ((r26_ ea aa).f1) ((r26_ ea aa).f2) ((r28_ ba aa).f2.f0) ((r28_ ba aa).f2.f1) ((r28_ ba aa).f2.f2) Ha _ A27.out).mono ?_
         rintro e w31 ⟨rfl, hb⟩
         have HS8_ := (hb.cell (World.block_lt_of_cell? _ _ (hHeld.2.2.2.2.2.2.2.2.1))).trans (hHeld.2.2.2.2.2.2.2.2.1)
         have HS9_ := (hb.cell (World.block_lt_of_cell? _ _ (hHeld.2.2.2.2.2.2.2.2.2.1))).trans (hHeld.2.2.2.2.2.2.2.2.2.1)
         have HS10_ := (hb.cell (World.block_lt_of_cell? _ _ (hHeld.2.2.2.2.2.2.2.2.2.2.1))).trans (hHeld.2.2.2.2.2.2.2.2.2.2.1)
         have HS11_ := (hb.cell (World.block_lt_of_cell? _ _ (hHeld.2.2.2.2.2.2.2.2.2.2.2.1))).trans (hHeld.2.2.2.2.2.2.2.2.2.2.2.1)
         have HS12_ := (hb.cell (World.block_lt_of_cell? _ _ (hHeld.2.2.2.2.2.2.2.2.2.2.2.2.1))).trans (hHeld.2.2.2.2.2.2.2.2.2.2.2.2.1)
         have HS13_ := (hb.cell (World.block_lt_of_cell? _ _ (hHeld.2.2.2.2.2.2.2.2.2.2.2.2.2))).trans (hHeld.2.2.2.2.2.2.2.2.2.2.2.2.2)
         refine ⟨_, rfl, ?_⟩
         have n0_ := A0_.mk (Kd.rB_ (xR_ ga.out) hb)
         have n1_ := A0_.mk (Kd.rB_ (xR_ fa.out) hb)
         have n2_ := A0_.mk (Kd.rB_ (xR_ ha.out) hb)
         have n3_ := A0_.mk (Kd.rB_ (xR_ ja.out) hb)
         have n4_ := A0_.mk (kB_ (g := da) (o := .cells #[.int .i64 ((r28_ ba aa).f0), .int .i64 ((r28_ ba aa).f1), .bool ((r28_ ba aa).f2.f0), .string ((r28_ ba aa).f2.f1), .string ((r28_ ba aa).f2.f2), .int .i64 ((r28_ ba aa).f3), .int .i64 ((r28_ ba aa).f4), .bool ((r28_ ba aa).f5)] 28 (0, 0)) (xK_ ca.out) hb)
         have n5_ := A0_.mk (bT_ (xB1_ HB na) hb)
         clear ga
         clear fa
         clear ha
         clear ja
         clear ca
         clear HB
         have ga := n0_
         have fa := n1_
         have ha := n2_
         have ja := n3_
         have ca := n4_
         have HB := n5_
         clear n0_ n1_ n2_ n3_ n4_ n5_
         (try clear hb)
         (try clear hb2)
         (try clear hk)
         (try clear hi)
         refine hK.out _ _ ⟨(kc_ ca.out 0).trans rfl, (kc_ ca.out 1).trans rfl, (kc_ ca.out 2).trans rfl, (kc_ ca.out 3).trans rfl, (kc_ ca.out 4).trans rfl, (kc_ ca.out 5).trans rfl, (kc_ ca.out 6).trans rfl, (kc_ ca.out 7).trans rfl, HS8_, HS9_, HS10_, HS11_, HS12_, HS13_⟩ (fun hHeld => ?_)
         clear hK K
         refine norm_ (a' := ?_) ?_ ?_
         rotate_left
         ·show Act.put _ (some 61) _ = _
          simp only [Act.put, s1_, s2_, s3_, i6_, i3_]
          rfl
         refine pu_ (i := 14) (N := some 62) (v := ?_) (a' := ?_) #[true, true, true, true, true, true, true, true, true, true, true, true, true, true, true, false] rfl rfl (an_ HT_.out kr_) (fun _ _ _ h => h) (Or.inl ⟨by rfl, ?_⟩) ?_ ?_
         rotate_left
         ·intro w'
          go_simp
          with_reducible rfl
         rotate_left
         ·simp only [Act.put, s1_, s2_, s3_, i6_, i3_]
          rfl
         refine pu_ (i := 15) (N := some 63) (v := ?_) (a' := ?_) #[true, true, true, true, true, true, true, true, true, true, true, true, true, true, true, true] rfl rfl (an_ HT_.out kr_) (fun _ _ _ h => h) (Or.inl ⟨by rfl, ?_⟩) ?_ ?_
         rotate_left
         ·intro w'
          go_simp
          with_reducible rfl
         rotate_left
         ·simp only [Act.put, s1_, s2_, s3_, i6_, i3_]
          rfl
         refine done_ (done_of HT_.out kr_) ?_
         try go_wp2
         go_meet
         case rel => exact ⟨_, (decide (Ha > 0)), (rS_), H', ⟨by have := HJ5.out; have := HK2.out; first | omega | exact Nat.le_refl _⟩, ⟨by (with_reducible repeat (first | apply Kd.R_alloc | apply Kd.rN_ | apply Kd.rD_)); exact Kd.rM_ ga.out (fun _ hk => hk.2)⟩, ⟨by (with_reducible repeat (first | apply Kd.R_alloc | apply Kd.rN_ | apply Kd.rD_)); exact Kd.rM_ fa.out (fun _ hk => hk.2)⟩, ⟨by (with_reducible repeat (first | apply Kd.R_alloc | apply Kd.rN_ | apply Kd.rD_)); exact ja.out⟩, ⟨by (with_reducible repeat (first | apply Kd.R_alloc | apply Kd.rN_ | apply Kd.rD_)); exact Kd.rM_ ha.out (fun _ hk => hk.2)⟩, ⟨by (with_reducible repeat (first | apply kN_ | apply kD_ | apply kA_)); exact ca.out⟩, ⟨xB1_ HB na⟩⟩
       case rest =>
        clear HC17
        try clear c1
        try clear c2
        try clear p2
        try clear c5
        try clear p6
        try clear p8
        try clear q8
        try clear hx8
        try clear c10
        try clear sa
        try clear xa
        try clear c12
        try clear c13
        try clear Ga
        try clear c14
        try clear qb
        try clear c15
        try clear rb
        try clear c16
        try clear c17
        try clear c18
        try clear c19
        try clear c20
        try clear c21
        try clear Xa
        try clear Tb
        try clear c23
        try clear gb
        try clear Db
        try clear Eb
        try clear Fb
        try clear Gb
        try clear Hb
        try clear Ib
        try clear Jb
        try clear Kb
        try clear Lb
        try clear Mb
        try clear Nb
        try clear Ob
        try clear Pb
        try clear Qb
        try clear Rb
        try clear Sb
        try clear vb
        try clear wb
        try clear xb
        try clear yb
        try clear zb
        try clear Ab
        try clear Bb
        try clear Cb
        try clear ya
        try clear za
        try clear Aa
        try clear Za
        try clear ab
        try clear bb
        try clear p2
        try clear p6
        try clear Ia
        try clear ta
        try clear La
        try clear Ja
        try clear ua
        try clear Ma
        obtain ⟨kq, Ka, rfl, HA, HJ16, ga, fa, ia, ha, ca, HB⟩ := hcut
        cases kq with
        | zero => exact absurd HA.out (by simp [l14_SetoffBalance.j2])
        | succ kj16 =>
         have H := HA.out
         clear HA
         simp only [l14_SetoffBalance.j2] at H
         by_cases c32 : Ka = true
         ·subst c32
          have H1 : (none) = some r := by rw [if_pos rfl] at H; exact H
          exact absurd H1 (by simp)
         ·replace c32 := Bool.eq_false_iff.mpr c32
          subst c32
          have H1 : ((so_Eligible.f ((r28_ ba aa).f0) ((r28_ ba aa).f1) ((r28_ ba aa).f2.f0) ((r28_ ba aa).f2.f1) ((r28_ ba aa).f2.f2) ((r28_ ba aa).f3) ((r28_ ba aa).f4) ((r28_ ba aa).f5) (wrap64 (a1)) (wrap64 (Int.tmod a2 40))).bind fun cb => (if cb = true then (l14_SetoffBalance.l0 kj16 a1 a2 ba ea qa ba (ba.length : Int) (wrap64 (aa + 1))) else (if 0 ≤ aa then (if aa < (ea.length : Int) then (if (!(((r26_ ea aa).f0) == ((r28_ ba aa).f2.f0)) || (!((((r26_ ea aa).f1).toList) == ((r28_ ba aa).f2.f1).toList) || (!((((r26_ ea aa).f2).toList) == ((r28_ ba aa).f2.f2).toList)))) = true then (none) else (l14_SetoffBalance.l0 kj16 a1 a2 ba ea qa ba (ba.length : Int) (wrap64 (aa + 1)))) else (none)) else (none)))) = some r := by rw [if_neg (show ¬ (false = true) by decide)] at H; exact H
          clear H
          have H := H1
          clear H1
          obtain ⟨cb, A33, H⟩ := oB_ H
          (try dsimp only at H)
          by_cases c34 : cb = true
          ·subst c34
           have H1 : (l14_SetoffBalance.l0 kj16 a1 a2 ba ea qa ba (ba.length : Int) (wrap64 (aa + 1))) = some r := by rw [if_pos rfl] at H; exact H
           clear H
           have H := H1
           clear H1
           have H' := A0_.mk H
           clear H
           try go_wp2
           have n0_ := A0_.mk (Kd.rD_ ga.out)
           have n1_ := A0_.mk (Kd.rD_ fa.out)
           have n2_ := A0_.mk (Kd.rD_ ia.out)
           have n3_ := A0_.mk (Kd.rD_ ha.out)
           have n4_ := A0_.mk (kD_ ca.out)
           have n5_ := A0_.mk (b1_ HB.out)
           clear ga
           clear fa
           clear ia
           clear ha
           clear ca
           clear HB
           have ga := n0_
           have fa := n1_
           have ia := n2_
           have ha := n3_
           have ca := n4_
           have HB := n5_
           clear n0_ n1_ n2_ n3_ n4_ n5_
           refine start_ (n := 17) (S := fun w' => w'.cell? ⟨da, 0, none⟩ = some (.int .i64 ((r28_ ba aa).f0)) ∧ w'.cell? ⟨da, 1, none⟩ = some (.int .i64 ((r28_ ba aa).f1)) ∧ w'.cell? ⟨da, 2, none⟩ = some (.bool ((r28_ ba aa).f2.f0)) ∧ w'.cell? ⟨da, 3, none⟩ = some (.string ((r28_ ba aa).f2.f1)) ∧ w'.cell? ⟨da, 4, none⟩ = some (.string ((r28_ ba aa).f2.f2)) ∧ w'.cell? ⟨da, 5, none⟩ = some (.int .i64 ((r28_ ba aa).f3)) ∧ w'.cell? ⟨da, 6, none⟩ = some (.int .i64 ((r28_ ba aa).f4)) ∧ w'.cell? ⟨da, 7, none⟩ = some (.bool ((r28_ ba aa).f5))) (ds := []) #[false, false, false, false, false, false, false, false, false, false, false, false, false, false, false, false, false] kr_ rfl rfl ⟨(kc_ ca.out 0).trans rfl, (kc_ ca.out 1).trans rfl, (kc_ ca.out 2).trans rfl, (kc_ ca.out 3).trans rfl, (kc_ ca.out 4).trans rfl, (kc_ ca.out 5).trans rfl, (kc_ ca.out 6).trans rfl, (kc_ ca.out 7).trans rfl⟩ (fun hHeld => ?_); refine with_tabW l14_SetoffBalance.tab12 l14_SetoffBalance.bits12 (fun HT_ HW_ => ?_)
           generalize wc.drew = w35 at ga fa ia ha ca HB hHeld ⊢
           refine pu_ (i := 1) (N := some 65) (v := ?_) (a' := ?_) #[false, true, false, false, false, false, false, false, false, false, false, false, false, false, false, false, false] rfl rfl (an_ HT_.out kr_) (fun _ _ _ h => h) (Or.inl ⟨by rfl, ?_⟩) ?_ ?_
           rotate_left
           ·intro w'
            go_simp
            with_reducible rfl
           rotate_left
           ·simp only [Act.put, s1_, s2_, s3_, i6_, i3_]
            rfl
           refine pu_ (i := 2) (N := some 66) (v := ?_) (a' := ?_) #[false, true, true, false, false, false, false, false, false, false, false, false, false, false, false, false, false] rfl rfl (an_ HT_.out kr_) (fun _ _ _ h => h) (Or.inl ⟨by rfl, ?_⟩) ?_ ?_
           rotate_left
           ·intro w'
            go_simp
            with_reducible rfl
           rotate_left
           ·simp only [Act.put, s1_, s2_, s3_, i6_, i3_]
            rfl
           refine pu_ (i := 3) (N := some 67) (v := ?_) (a' := ?_) #[false, true, true, true, false, false, false, false, false, false, false, false, false, false, false, false, false] rfl rfl (an_ HT_.out kr_) (fun _ _ _ h => h) (Or.inl ⟨by rfl, ?_⟩) ?_ ?_
           rotate_left
           ·intro w'
            go_simp
            with_reducible rfl
           rotate_left
           ·simp only [Act.put, s1_, s2_, s3_, i6_, i3_]
            rfl
           refine pu_ (i := 4) (N := some 68) (v := ?_) (a' := ?_) #[false, true, true, true, true, false, false, false, false, false, false, false, false, false, false, false, false] rfl rfl (an_ HT_.out kr_) (fun _ _ _ h => h) (Or.inl ⟨by rfl, ?_⟩) ?_ ?_
           rotate_left
           ·intro w'
            go_simp
            with_reducible rfl
           rotate_left
           ·simp only [Act.put, s1_, s2_, s3_, i6_, i3_]
            rfl
           refine pu_ (i := 5) (N := some 69) (v := ?_) (a' := ?_) #[false, true, true, true, true, true, false, false, false, false, false, false, false, false, false, false, false] rfl rfl (an_ HT_.out kr_) (fun _ _ _ h => h) (Or.inl ⟨by rfl, ?_⟩) ?_ ?_
           rotate_left
           ·intro w'
            go_simp
            with_reducible rfl
           rotate_left
           ·simp only [Act.put, s1_, s2_, s3_, i6_, i3_]
            rfl
           refine take_ (i := 0) (N := some 64) (v := ?_) (a' := ?_) #[true, true, true, true, true, true, false, false, false, false, false, false, false, false, false, false, false] rfl rfl (tW_ HT_.out HW_.out kr_) (fun _ _ _ h => h) (Or.inl ⟨by rfl, ?_⟩) hHeld ?_ ?_
           rotate_left
           ·rintro w' ⟨s0, s1, s2, s3, s4, s5, s6, s7⟩
            go_simp
            with_reducible rfl
           rotate_left
           ·simp only [Act.put, s1_, s2_, s3_, i6_, i3_]
            rfl
           refine one_ (i := 6) (N := some 70) #[true, true, true, true, true, true, true, false, false, false, false, false, false, false, false, false, false] rfl rfl (one_of HT_.out kr_) (by decide) (fun K hK => ?_)
           refine goes_ Tryd.func13 kr_ rfl #[.agg #[.int .i64 ((r28_ ba aa).f0), .int .i64 ((r28_ ba aa).f1), .bool ((r28_ ba aa).f2.f0), .string ((r28_ ba aa).f2.f1), .string ((r28_ ba aa).f2.f2), .int .i64 ((r28_ ba aa).f3), .int .i64 ((r28_ ba aa).f4), .bool ((r28_ ba aa).f5)], .int .i64 (wrap64 (a1)), .int .i64 (wrap64 (Int.tmod a2 40))] (by rfl) rfl rfl mp_ ?_
           with_reducible refine (so_Eligible.calls ((r28_ ba aa).f0) ((r28_ ba aa).f1) ((r28_ ba aa).f2.f0) ((r28_ ba aa).f2.f1) ((r28_ ba aa).f2.f2) ((r28_ ba aa).f3) ((r28_ ba aa).f4) ((r28_ ba aa).f5) (wrap64 (a1)) (wrap64 (Int.tmod a2 40)) true _ A33.out).mono ?_
           rintro e w36 ⟨rfl, hb⟩
           refine ⟨_, rfl, ?_⟩
           have n0_ := A0_.mk (Kd.rB_ (xR_ ga.out) hb)
           have n1_ := A0_.mk (Kd.rB_ (xR_ fa.out) hb)
           have n2_ := A0_.mk (Kd.rB_ (xR_ ia.out) hb)
           have n3_ := A0_.mk (Kd.rB_ (xR_ ha.out) hb)
           have n4_ := A0_.mk (kB_ (g := da) (o := .cells #[.int .i64 ((r28_ ba aa).f0), .int .i64 ((r28_ ba aa).f1), .bool ((r28_ ba aa).f2.f0), .string ((r28_ ba aa).f2.f1), .string ((r28_ ba aa).f2.f2), .int .i64 ((r28_ ba aa).f3), .int .i64 ((r28_ ba aa).f4), .bool ((r28_ ba aa).f5)] 28 (0, 0)) (xK_ ca.out) hb)
           have n5_ := A0_.mk (bT_ (xB1_ HB na) hb)
           clear ga
           clear fa
           clear ia
           clear ha
           clear ca
           clear HB
           have ga := n0_
           have fa := n1_
           have ia := n2_
           have ha := n3_
           have ca := n4_
           have HB := n5_
           clear n0_ n1_ n2_ n3_ n4_ n5_
           (try clear hb)
           (try clear hb2)
           (try clear hk)
           (try clear hi)
           refine hK.out _ _ ⟨(kc_ ca.out 0).trans rfl, (kc_ ca.out 1).trans rfl, (kc_ ca.out 2).trans rfl, (kc_ ca.out 3).trans rfl, (kc_ ca.out 4).trans rfl, (kc_ ca.out 5).trans rfl, (kc_ ca.out 6).trans rfl, (kc_ ca.out 7).trans rfl⟩ (fun hHeld => ?_)
           clear hK K
           refine norm_ (a' := ?_) ?_ ?_
           rotate_left
           ·show Act.put _ (some 70) _ = _
            simp only [Act.put, s1_, s2_, s3_, i6_, i3_]
            rfl
           refine pu_ (i := 7) (N := some 71) (v := ?_) (a' := ?_) #[true, true, true, true, true, true, true, true, false, false, false, false, false, false, false, false, false] rfl rfl (an_ HT_.out kr_) (fun _ _ _ h => h) (Or.inl ⟨by rfl, ?_⟩) ?_ ?_
           rotate_left
           ·intro w'
            go_simp
            with_reducible rfl
           rotate_left
           ·simp only [Act.put, s1_, s2_, s3_, i6_, i3_]
            rfl
           refine pu_ (i := 8) (N := some 72) (v := ?_) (a' := ?_) #[true, true, true, true, true, true, true, true, true, false, false, false, false, false, false, false, false] rfl rfl (an_ HT_.out kr_) (fun _ _ _ h => h) (Or.inl ⟨by rfl, ?_⟩) ?_ ?_
           rotate_left
           ·intro w'
            go_simp
            with_reducible rfl
           rotate_left
           ·simp only [Act.put, s1_, s2_, s3_, i6_, i3_]
            rfl
           refine pu_ (i := 9) (N := some 73) (v := undef) (a' := ?_) #[true, true, true, true, true, true, true, true, true, true, false, false, false, false, false, false, false] rfl rfl (an_ HT_.out kr_) (fun _ _ _ h => h) (Or.inr ⟨by rfl, rfl⟩) ?_ ?_
           rotate_left
           ·simp only [Act.put, s1_, s2_, s3_, i6_, i3_]
            rfl
           refine pu_ (i := 10) (N := some 74) (v := undef) (a' := ?_) #[true, true, true, true, true, true, true, true, true, true, true, false, false, false, false, false, false] rfl rfl (an_ HT_.out kr_) (fun _ _ _ h => h) (Or.inr ⟨by rfl, rfl⟩) ?_ ?_
           rotate_left
           ·simp only [Act.put, s1_, s2_, s3_, i6_, i3_]
            rfl
           refine pu_ (i := 11) (N := some 75) (v := undef) (a' := ?_) #[true, true, true, true, true, true, true, true, true, true, true, true, false, false, false, false, false] rfl rfl (an_ HT_.out kr_) (fun _ _ _ h => h) (Or.inr ⟨by rfl, rfl⟩) ?_ ?_
           rotate_left
           ·simp only [Act.put, s1_, s2_, s3_, i6_, i3_]
            rfl
           refine pu_ (i := 12) (N := some 76) (v := undef) (a' := ?_) #[true, true, true, true, true, true, true, true, true, true, true, true, true, false, false, false, false] rfl rfl (an_ HT_.out kr_) (fun _ _ _ h => h) (Or.inr ⟨by rfl, rfl⟩) ?_ ?_
           rotate_left
           ·simp only [Act.put, s1_, s2_, s3_, i6_, i3_]
            rfl
           refine pu_ (i := 13) (N := some 77) (v := undef) (a' := ?_) #[true, true, true, true, true, true, true, true, true, true, true, true, true, true, false, false, false] rfl rfl (an_ HT_.out kr_) (fun _ _ _ h => h) (Or.inr ⟨by rfl, rfl⟩) ?_ ?_
           rotate_left
           ·simp only [Act.put, s1_, s2_, s3_, i6_, i3_]
            rfl
           refine pu_ (i := 14) (N := some 78) (v := undef) (a' := ?_) #[true, true, true, true, true, true, true, true, true, true, true, true, true, true, true, false, false] rfl rfl (an_ HT_.out kr_) (fun _ _ _ h => h) (Or.inr ⟨by rfl, rfl⟩) ?_ ?_
           rotate_left
           ·simp only [Act.put, s1_, s2_, s3_, i6_, i3_]
            rfl
           refine pu_ (i := 15) (N := some 79) (v := undef) (a' := ?_) #[true, true, true, true, true, true, true, true, true, true, true, true, true, true, true, true, false] rfl rfl (an_ HT_.out kr_) (fun _ _ _ h => h) (Or.inr ⟨by rfl, rfl⟩) ?_ ?_
           rotate_left
           ·simp only [Act.put, s1_, s2_, s3_, i6_, i3_]
            rfl
           refine pu_ (i := 16) (N := some 80) (v := ?_) (a' := ?_) #[true, true, true, true, true, true, true, true, true, true, true, true, true, true, true, true, true] rfl rfl (an_ HT_.out kr_) (fun _ _ _ h => h) (Or.inl ⟨by rfl, ?_⟩) ?_ ?_
           rotate_left
           ·intro w'
            go_simp
            with_reducible rfl
           rotate_left
           ·simp only [Act.put, s1_, s2_, s3_, i6_, i3_]
            rfl
           refine done_ (done_of HT_.out kr_) ?_
           try go_wp2
           (try simp only [ap_])
           go_roundg kj16
           case measure => have := HJ5.out; have := HK2.out; have := HJ16.out; omega
           case rel => exact ⟨(qa), (wrap64 (aa + 1)), (rS_), H', ⟨by have := HJ5.out; have := HK2.out; have := HJ16.out; omega⟩, ⟨by (with_reducible repeat (first | apply Kd.R_alloc | apply Kd.rN_ | apply Kd.rD_)); exact Kd.rM_ ga.out (fun _ hk => trivial)⟩, ⟨by (with_reducible repeat (first | apply Kd.R_alloc | apply Kd.rN_ | apply Kd.rD_)); exact fa.out⟩, ⟨by (with_reducible repeat (first | apply Kd.R_alloc | apply Kd.rN_ | apply Kd.rD_)); exact ia.out⟩, ⟨by (with_reducible repeat (first | apply Kd.R_alloc | apply Kd.rN_ | apply Kd.rD_)); exact Kd.rM_ ha.out (fun _ hk => trivial)⟩, ⟨xB1_ HB na⟩⟩
          ·replace c34 := Bool.eq_false_iff.mpr c34
           subst c34
           have H1 : (if 0 ≤ aa then (if aa < (ea.length : Int) then (if (!(((r26_ ea aa).f0) == ((r28_ ba aa).f2.f0)) || (!((((r26_ ea aa).f1).toList) == ((r28_ ba aa).f2.f1).toList) || (!((((r26_ ea aa).f2).toList) == ((r28_ ba aa).f2.f2).toList)))) = true then (none) else (l14_SetoffBalance.l0 kj16 a1 a2 ba ea qa ba (ba.length : Int) (wrap64 (aa + 1)))) else (none)) else (none)) = some r := by rw [if_neg (show ¬ (false = true) by decide)] at H; exact H
           clear H
           have H := H1
           clear H1
           by_cases c37 : 0 ≤ aa
           rotate_left
           ·rw [if_neg c37] at H
            exact absurd H (by simp)
           rw [if_pos c37] at H
           have kb : decide (0 ≤ aa) = true := decide_eq_true c37
           clear c37
           by_cases c38 : aa < (ea.length : Int)
           rotate_left
           ·rw [if_neg c38] at H
            exact absurd H (by simp)
           rw [if_pos c38] at H
           have mb : decide (aa < (ea.length : Int)) = true := decide_eq_true c38
           clear c38
           by_cases c39 : (!(((r26_ ea aa).f0) == ((r28_ ba aa).f2.f0)) || (!((((r26_ ea aa).f1).toList) == ((r28_ ba aa).f2.f1).toList) || (!((((r26_ ea aa).f2).toList) == ((r28_ ba aa).f2.f2).toList)))) = true
           ·rw [if_pos c39] at H
            have db : (!(((r26_ ea aa).f0) == ((r28_ ba aa).f2.f0)) || (!((((r26_ ea aa).f1).toList) == ((r28_ ba aa).f2.f1).toList) || (!((((r26_ ea aa).f2).toList) == ((r28_ ba aa).f2.f2).toList)))) = true := c39
            clear c39
            exact absurd H (by simp)
           ·rw [if_neg c39] at H
            have db : (!(((r26_ ea aa).f0) == ((r28_ ba aa).f2.f0)) || (!((((r26_ ea aa).f1).toList) == ((r28_ ba aa).f2.f1).toList) || (!((((r26_ ea aa).f2).toList) == ((r28_ ba aa).f2.f2).toList)))) = false := by simpa using c39
            clear c39
            have H' := A0_.mk H
            clear H
            try go_wp2
            have n0_ := A0_.mk (Kd.rD_ ga.out)
            have n1_ := A0_.mk (Kd.rD_ fa.out)
            have n2_ := A0_.mk (Kd.rD_ ia.out)
            have n3_ := A0_.mk (Kd.rD_ ha.out)
            have n4_ := A0_.mk (kD_ ca.out)
            have n5_ := A0_.mk (b1_ HB.out)
            clear ga
            clear fa
            clear ia
            clear ha
            clear ca
            clear HB
            have ga := n0_
            have fa := n1_
            have ia := n2_
            have ha := n3_
            have ca := n4_
            have HB := n5_
            clear n0_ n1_ n2_ n3_ n4_ n5_
            have Ca : 0 ≤ (aa : Int) := oD_
            have Da : aa < (ea.length : Int) := oD_
            (try (obtain ⟨AoX_, coX_, eoX_⟩ := Kd.rS_' fa.out; subst eoX_))
            obtain ⟨Ea, Wb, Na, Oa, Pa⟩ := at_T26 (Kd.rr_' fa.out).2.2 aa Ca Da
            cases Wb
            replace Ca := eq_true Ca
            replace Da := eq_true Da
            refine start_ (n := 17) (S := fun w' => w'.cell? ⟨da, 0, none⟩ = some (.int .i64 ((r28_ ba aa).f0)) ∧ w'.cell? ⟨da, 1, none⟩ = some (.int .i64 ((r28_ ba aa).f1)) ∧ w'.cell? ⟨da, 2, none⟩ = some (.bool ((r28_ ba aa).f2.f0)) ∧ w'.cell? ⟨da, 3, none⟩ = some (.string ((r28_ ba aa).f2.f1)) ∧ w'.cell? ⟨da, 4, none⟩ = some (.string ((r28_ ba aa).f2.f2)) ∧ w'.cell? ⟨da, 5, none⟩ = some (.int .i64 ((r28_ ba aa).f3)) ∧ w'.cell? ⟨da, 6, none⟩ = some (.int .i64 ((r28_ ba aa).f4)) ∧ w'.cell? ⟨da, 7, none⟩ = some (.bool ((r28_ ba aa).f5)) ∧ w'.cell? (Ea.add ((aa).toNat * 3)) = some (.bool ((r26_ ea aa).f0)) ∧ w'.cell? ⟨(Ea.add ((aa).toNat * 3)).block, (Ea.add ((aa).toNat * 3)).off + 1, none⟩ = some (.string ((r26_ ea aa).f1)) ∧ w'.cell? ⟨(Ea.add ((aa).toNat * 3)).block, (Ea.add ((aa).toNat * 3)).off + 2, none⟩ = some (.string ((r26_ ea aa).f2))) (ds := []) #[false, false, false, false, false, false, false, false, false, false, false, false, false, false, false, false, false] kr_ rfl rfl ⟨(kc_ ca.out 0).trans rfl, (kc_ ca.out 1).trans rfl, (kc_ ca.out 2).trans rfl, (kc_ ca.out 3).trans rfl, (kc_ ca.out 4).trans rfl, (kc_ ca.out 5).trans rfl, (kc_ ca.out 6).trans rfl, (kc_ ca.out 7).trans rfl, Na, Oa, Pa⟩ (fun hHeld => ?_); refine with_tabW l14_SetoffBalance.tab12 l14_SetoffBalance.bits12 (fun HT_ HW_ => ?_)
            generalize wc.drew = w43 at ga fa ia ha ca HB Na Oa Pa hHeld ⊢
            refine pu_ (i := 1) (N := some 65) (v := ?_) (a' := ?_) #[false, true, false, false, false, false, false, false, false, false, false, false, false, false, false, false, false] rfl rfl (an_ HT_.out kr_) (fun _ _ _ h => h) (Or.inl ⟨by rfl, ?_⟩) ?_ ?_
            rotate_left
            ·intro w'
             go_simp
             with_reducible rfl
            rotate_left
            ·simp only [Act.put, s1_, s2_, s3_, i6_, i3_]
             rfl
            refine pu_ (i := 2) (N := some 66) (v := ?_) (a' := ?_) #[false, true, true, false, false, false, false, false, false, false, false, false, false, false, false, false, false] rfl rfl (an_ HT_.out kr_) (fun _ _ _ h => h) (Or.inl ⟨by rfl, ?_⟩) ?_ ?_
            rotate_left
            ·intro w'
             go_simp
             with_reducible rfl
            rotate_left
            ·simp only [Act.put, s1_, s2_, s3_, i6_, i3_]
             rfl
            refine pu_ (i := 3) (N := some 67) (v := ?_) (a' := ?_) #[false, true, true, true, false, false, false, false, false, false, false, false, false, false, false, false, false] rfl rfl (an_ HT_.out kr_) (fun _ _ _ h => h) (Or.inl ⟨by rfl, ?_⟩) ?_ ?_
            rotate_left
            ·intro w'
             go_simp
             with_reducible rfl
            rotate_left
            ·simp only [Act.put, s1_, s2_, s3_, i6_, i3_]
             rfl
            refine pu_ (i := 4) (N := some 68) (v := ?_) (a' := ?_) #[false, true, true, true, true, false, false, false, false, false, false, false, false, false, false, false, false] rfl rfl (an_ HT_.out kr_) (fun _ _ _ h => h) (Or.inl ⟨by rfl, ?_⟩) ?_ ?_
            rotate_left
            ·intro w'
             go_simp
             with_reducible rfl
            rotate_left
            ·simp only [Act.put, s1_, s2_, s3_, i6_, i3_]
             rfl
            refine pu_ (i := 5) (N := some 69) (v := ?_) (a' := ?_) #[false, true, true, true, true, true, false, false, false, false, false, false, false, false, false, false, false] rfl rfl (an_ HT_.out kr_) (fun _ _ _ h => h) (Or.inl ⟨by rfl, ?_⟩) ?_ ?_
            rotate_left
            ·intro w'
             go_simp
             with_reducible rfl
            rotate_left
            ·simp only [Act.put, s1_, s2_, s3_, i6_, i3_]
             rfl
            refine take_ (i := 0) (N := some 64) (v := ?_) (a' := ?_) #[true, true, true, true, true, true, false, false, false, false, false, false, false, false, false, false, false] rfl rfl (tW_ HT_.out HW_.out kr_) (fun _ _ _ h => h) (Or.inl ⟨by rfl, ?_⟩) hHeld ?_ ?_
            rotate_left
            ·rintro w' ⟨s0, s1, s2, s3, s4, s5, s6, s7, s8, s9, s10⟩
             go_simp
             with_reducible rfl
            rotate_left
            ·simp only [Act.put, s1_, s2_, s3_, i6_, i3_]
             rfl
            refine one_ (i := 6) (N := some 70) #[true, true, true, true, true, true, true, false, false, false, false, false, false, false, false, false, false] rfl rfl (one_of HT_.out kr_) (by decide) (fun K hK => ?_)
            refine goes_ Tryd.func13 kr_ rfl #[.agg #[.int .i64 ((r28_ ba aa).f0), .int .i64 ((r28_ ba aa).f1), .bool ((r28_ ba aa).f2.f0), .string ((r28_ ba aa).f2.f1), .string ((r28_ ba aa).f2.f2), .int .i64 ((r28_ ba aa).f3), .int .i64 ((r28_ ba aa).f4), .bool ((r28_ ba aa).f5)], .int .i64 (wrap64 (a1)), .int .i64 (wrap64 (Int.tmod a2 40))] (by rfl) rfl rfl mp_ ?_
            with_reducible refine (so_Eligible.calls ((r28_ ba aa).f0) ((r28_ ba aa).f1) ((r28_ ba aa).f2.f0) ((r28_ ba aa).f2.f1) ((r28_ ba aa).f2.f2) ((r28_ ba aa).f3) ((r28_ ba aa).f4) ((r28_ ba aa).f5) (wrap64 (a1)) (wrap64 (Int.tmod a2 40)) false _ A33.out).mono ?_
            rintro e w44 ⟨rfl, hb⟩
            have HS8_ := (hb.cell (World.block_lt_of_cell? _ _ (hHeld.2.2.2.2.2.2.2.2.1))).trans (hHeld.2.2.2.2.2.2.2.2.1)
            have HS9_ := (hb.cell (World.block_lt_of_cell? _ _ (hHeld.2.2.2.2.2.2.2.2.2.1))).trans (hHeld.2.2.2.2.2.2.2.2.2.1)
            have HS10_ := (hb.cell (World.block_lt_of_cell? _ _ (hHeld.2.2.2.2.2.2.2.2.2.2))).trans (hHeld.2.2.2.2.2.2.2.2.2.2)
            refine ⟨_, rfl, ?_⟩
            have n0_ := A0_.mk (Kd.rB_ (xR_ ga.out) hb)
            have n1_ := A0_.mk (Kd.rB_ (xR_ fa.out) hb)
            have n2_ := A0_.mk (Kd.rB_ (xR_ ia.out) hb)
            have n3_ := A0_.mk (Kd.rB_ (xR_ ha.out) hb)
            have n4_ := A0_.mk (kB_ (g := da) (o := .cells #[.int .i64 ((r28_ ba aa).f0), .int .i64 ((r28_ ba aa).f1), .bool ((r28_ ba aa).f2.f0), .string ((r28_ ba aa).f2.f1), .string ((r28_ ba aa).f2.f2), .int .i64 ((r28_ ba aa).f3), .int .i64 ((r28_ ba aa).f4), .bool ((r28_ ba aa).f5)] 28 (0, 0)) (xK_ ca.out) hb)
            have n5_ := A0_.mk (bT_ (xB1_ HB na) hb)
            clear ga
            clear fa
            clear ia
            clear ha
            clear ca
            clear HB
            have ga := n0_
            have fa := n1_
            have ia := n2_
            have ha := n3_
            have ca := n4_
            have HB := n5_
            clear n0_ n1_ n2_ n3_ n4_ n5_
            (try clear hb)
            (try clear hb2)
            (try clear hk)
            (try clear hi)
            obtain ⟨oc, pc, nb⟩ := Kd.rS_' fa.out
            (first | subst nb | (injection nb with f1_ f2_ f3_; have f4_ := f1_.symm; have f5_ := f3_.symm; clear f1_ f2_ f3_; subst f4_; subst f5_))
            refine hK.out _ _ ⟨(kc_ ca.out 0).trans rfl, (kc_ ca.out 1).trans rfl, (kc_ ca.out 2).trans rfl, (kc_ ca.out 3).trans rfl, (kc_ ca.out 4).trans rfl, (kc_ ca.out 5).trans rfl, (kc_ ca.out 6).trans rfl, (kc_ ca.out 7).trans rfl, HS8_, HS9_, HS10_⟩ (fun hHeld => ?_)
            clear hK K
            refine norm_ (a' := ?_) ?_ ?_
            rotate_left
            ·show Act.put _ (some 70) _ = _
             simp only [Act.put, s1_, s2_, s3_, i6_, i3_]
             rfl
            refine pu_ (i := 7) (N := some 71) (v := ?_) (a' := ?_) #[true, true, true, true, true, true, true, true, false, false, false, false, false, false, false, false, false] rfl rfl (an_ HT_.out kr_) (fun _ _ _ h => h) (Or.inl ⟨by rfl, ?_⟩) ?_ ?_
            rotate_left
            ·intro w'
             go_simp
             with_reducible rfl
            rotate_left
            ·simp only [Act.put, s1_, s2_, s3_, i6_, i3_]
             rfl
            refine pu_ (i := 8) (N := some 72) (v := ?_) (a' := ?_) #[true, true, true, true, true, true, true, true, true, false, false, false, false, false, false, false, false] rfl rfl (an_ HT_.out kr_) (fun _ _ _ h => h) (Or.inl ⟨by rfl, ?_⟩) ?_ ?_
            rotate_left
            ·intro w'
             go_simp
             with_reducible rfl
            rotate_left
            ·simp only [Act.put, s1_, s2_, s3_, i6_, i3_]
             rfl
            refine pu_ (i := 9) (N := some 73) (v := ?_) (a' := ?_) #[true, true, true, true, true, true, true, true, true, true, false, false, false, false, false, false, false] rfl rfl (an_ HT_.out kr_) (fun _ _ _ h => h) (Or.inl ⟨by rfl, ?_⟩) ?_ ?_
            rotate_left
            ·intro w'
             go_simp
             with_reducible rfl
            rotate_left
            ·simp only [Act.put, s1_, s2_, s3_, i6_, i3_]
             rfl
            refine pu_ (i := 10) (N := some 74) (v := ?_) (a' := ?_) #[true, true, true, true, true, true, true, true, true, true, true, false, false, false, false, false, false] rfl rfl (an_ HT_.out kr_) (fun _ _ _ h => h) (Or.inl ⟨by rfl, ?_⟩) ?_ ?_
            rotate_left
            ·intro w'
             go_simp
             with_reducible rfl
            rotate_left
            ·simp only [Act.put, s1_, s2_, s3_, i6_, i3_]
             rfl
            refine pu_ (i := 11) (N := some 75) (v := ?_) (a' := ?_) #[true, true, true, true, true, true, true, true, true, true, true, true, false, false, false, false, false] rfl rfl (an_ HT_.out kr_) (fun _ _ _ h => h) (Or.inl ⟨by rfl, ?_⟩) ?_ ?_
            rotate_left
            ·intro w'
             go_simp
             with_reducible rfl
            rotate_left
            ·simp only [Act.put, s1_, s2_, s3_, i6_, i3_]
             rfl
            refine pu_ (i := 13) (N := some 77) (v := ?_) (a' := ?_) #[true, true, true, true, true, true, true, true, true, true, true, true, false, true, false, false, false] rfl rfl (an_ HT_.out kr_) (fun _ _ _ h => h) (Or.inl ⟨by rfl, ?_⟩) ?_ ?_
            rotate_left
            ·intro w'
             go_simp
             with_reducible rfl
            rotate_left
            ·simp only [Act.put, s1_, s2_, s3_, i6_, i3_]
             rfl
            refine take_ (i := 12) (N := some 76) (v := ?_) (a' := ?_) #[true, true, true, true, true, true, true, true, true, true, true, true, true, true, false, false, false] rfl rfl (tW_ HT_.out HW_.out kr_) (fun _ _ _ h => h) (Or.inl ⟨by rfl, ?_⟩) hHeld ?_ ?_
            rotate_left
            ·rintro w' ⟨s0, s1, s2, s3, s4, s5, s6, s7, s8, s9, s10⟩
             go_simp
             with_reducible rfl
            rotate_left
            ·simp only [Act.put, s1_, s2_, s3_, i6_, i3_]
             rfl
            refine take_ (i := 14) (N := some 78) (v := ?_) (a' := ?_) #[true, true, true, true, true, true, true, true, true, true, true, true, true, true, true, false, false] rfl rfl (tW_ HT_.out HW_.out kr_) (fun _ _ _ h => h) (Or.inl ⟨by rfl, ?_⟩) hHeld ?_ ?_
            rotate_left
            ·rintro w' ⟨s0, s1, s2, s3, s4, s5, s6, s7, s8, s9, s10⟩
             go_simp
             with_reducible rfl
            rotate_left
            ·simp only [Act.put, s1_, s2_, s3_, i6_, i3_]
             rfl
            refine pu_ (i := 15) (N := some 79) (v := ?_) (a' := ?_) #[true, true, true, true, true, true, true, true, true, true, true, true, true, true, true, true, false] rfl rfl (an_ HT_.out kr_) (fun _ _ _ h => h) (Or.inl ⟨by rfl, ?_⟩) ?_ ?_
            rotate_left
            ·intro w'
             go_simp
             with_reducible rfl
            rotate_left
            ·simp only [Act.put, s1_, s2_, s3_, i6_, i3_]
             rfl
            refine pu_ (i := 16) (N := some 80) (v := ?_) (a' := ?_) #[true, true, true, true, true, true, true, true, true, true, true, true, true, true, true, true, true] rfl rfl (an_ HT_.out kr_) (fun _ _ _ h => h) (Or.inl ⟨by rfl, ?_⟩) ?_ ?_
            rotate_left
            ·intro w'
             go_simp
             with_reducible rfl
            rotate_left
            ·simp only [Act.put, s1_, s2_, s3_, i6_, i3_]
             rfl
            refine done_ (done_of HT_.out kr_) ?_
            try go_wp2
            (try simp only [ap_])
            go_roundg kj16
            case measure => have := HJ5.out; have := HK2.out; have := HJ16.out; omega
            case rel => exact ⟨(qa), (wrap64 (aa + 1)), (rS_), H', ⟨by have := HJ5.out; have := HK2.out; have := HJ16.out; omega⟩, ⟨by (with_reducible repeat (first | apply Kd.R_alloc | apply Kd.rN_ | apply Kd.rD_)); exact Kd.rM_ ga.out (fun _ hk => trivial)⟩, ⟨by (with_reducible repeat (first | apply Kd.R_alloc | apply Kd.rN_ | apply Kd.rD_)); exact fa.out⟩, ⟨by (with_reducible repeat (first | apply Kd.R_alloc | apply Kd.rN_ | apply Kd.rD_)); exact ia.out⟩, ⟨by (with_reducible repeat (first | apply Kd.R_alloc | apply Kd.rN_ | apply Kd.rD_)); exact Kd.rM_ ha.out (fun _ hk => trivial)⟩, ⟨xB1_ HB na⟩⟩
      ·rw [if_neg c13] at H
       have Ga : decide (aa < (ba.length : Int)) = false := decide_eq_false c13
       clear c13
       have H' := A0_.mk H
       clear H
       go_wp2
       go_loopg [13] k2 (fun kq v13 w' => ∃ (la : Int), v13 = .int .i64 la ∧ A0_ (l14_SetoffBalance.l1 kq ba ea ma la = some r) ∧ A0_ (kq ≤ k2) ∧ A0_ (Kd.R k28 28 w' w.heap.size (fun _ => True) (.slice Ao8 ba.length co8) ba) ∧ A0_ (Kd.R k26 26 w' w.heap.size (fun k_ => some k_ ≠ (u10 : Value).ownBlock) pa ea) ∧ A0_ (Kd.R k26 26 w' w.heap.size (fun k_ => some k_ ≠ (pa : Value).ownBlock) u10 ma) ∧ A0_ (Below w.heap.size w w'))
       case atStart => exact ⟨(0), (rS_), H', ⟨Nat.le_refl _⟩, ⟨by (with_reducible repeat (first | apply Kd.R_alloc | apply Kd.rN_ | apply Kd.rD_)); exact ga.out⟩, ⟨by (with_reducible repeat (first | apply Kd.R_alloc | apply Kd.rN_ | apply Kd.rD_)); exact fa.out⟩, ⟨by (with_reducible repeat (first | apply Kd.R_alloc | apply Kd.rN_ | apply Kd.rD_)); exact ia.out⟩, ⟨xB_ HB⟩⟩
       case round =>
        clear H'
        try clear c1
        try clear p2
        try clear c3
        try clear p6
        try clear p8
        try clear q8
        try clear hx8
        try clear c13
        try clear Ga
        try clear c14
        try clear c15
        try clear c16
        try clear c34
        try clear c37
        try clear kb
        try clear c38
        try clear mb
        try clear c39
        try clear db
        try clear Na
        try clear Oa
        try clear Pa
        try clear Ca
        try clear Da
        obtain ⟨la, rfl, HA, HK3, ga, fa, ia, HB⟩ := hrel
        cases gk with
        | zero => exact absurd HA.out (by simp [l14_SetoffBalance.l1])
        | succ k3 =>
         have H := HA.out
         clear HA
         simp only [l14_SetoffBalance.l1] at H
         by_cases c46 : la < 4
         ·rw [if_pos c46] at H
          have ob : decide (la < 4) = true := decide_eq_true c46
          clear c46
          have H' := A0_.mk H
          clear H
          go_wp2
          go_loopg [14] k3 (fun kq v14 w' => ∃ (oa : Int), v14 = .int .i64 oa ∧ A0_ (l14_SetoffBalance.l2 kq ba ea ma la oa = some r) ∧ A0_ (kq ≤ k3) ∧ A0_ (Kd.R k28 28 w' w.heap.size (fun _ => True) (.slice Ao8 ba.length co8) ba) ∧ A0_ (Kd.R k26 26 w' w.heap.size (fun k_ => some k_ ≠ (u10 : Value).ownBlock) pa ea) ∧ A0_ (Kd.R k26 26 w' w.heap.size (fun k_ => some k_ ≠ (pa : Value).ownBlock) u10 ma) ∧ A0_ (Below w.heap.size w w'))
          case atStart => exact ⟨(0), (rS_), H', ⟨Nat.le_refl _⟩, ⟨by (with_reducible repeat (first | apply Kd.R_alloc | apply Kd.rN_ | apply Kd.rD_)); exact ga.out⟩, ⟨by (with_reducible repeat (first | apply Kd.R_alloc | apply Kd.rN_ | apply Kd.rD_)); exact fa.out⟩, ⟨by (with_reducible repeat (first | apply Kd.R_alloc | apply Kd.rN_ | apply Kd.rD_)); exact ia.out⟩, ⟨xB_ HB⟩⟩
          case round =>
           clear H'
           try clear c1
           try clear p2
           try clear c3
           try clear c4
           try clear p6
           try clear p8
           try clear q8
           try clear hx8
           try clear c13
           try clear Ga
           try clear c14
           try clear c15
           try clear c16
           try clear c34
           try clear c37
           try clear kb
           try clear c38
           try clear mb
           try clear c39
           try clear db
           try clear c46
           try clear ob
           try clear Na
           try clear Oa
           try clear Pa
           try clear p2
           try clear p6
           try clear p8
           try clear Ca
           try clear q8
           try clear Da
           obtain ⟨oa, rfl, HA, HK4, ga, fa, ia, HB⟩ := hrel
           cases gk with
           | zero => exact absurd HA.out (by simp [l14_SetoffBalance.l2])
           | succ k4 =>
            have H := HA.out
            clear HA
            simp only [l14_SetoffBalance.l2] at H
            by_cases c47 : oa < la
            ·rw [if_pos c47] at H
             have Xb : decide (oa < la) = true := decide_eq_true c47
             clear c47
             obtain ⟨⟨Qa, Ra, Sa⟩, A48, H⟩ := oB_ H
             (try dsimp only at H)
             obtain ⟨⟨Ta, Ua, Va⟩, A49, H⟩ := oB_ H
             (try dsimp only at H)
             by_cases c50 : (!(Qa == Ta) || (!(Ra.toList == Ua.toList) || (!(Sa.toList == Va.toList)))) = true
             ·rw [if_pos c50] at H
              have Yb : (!(Qa == Ta) || (!(Ra.toList == Ua.toList) || (!(Sa.toList == Va.toList)))) = true := c50
              clear c50
              exact absurd H (by simp)
             ·rw [if_neg c50] at H
              have Yb : (!(Qa == Ta) || (!(Ra.toList == Ua.toList) || (!(Sa.toList == Va.toList)))) = false := by simpa using c50
              clear c50
              have H' := A0_.mk H
              clear H
              obtain ⟨Zb, ac, bc⟩ := Kd.rS_' ia.out
              subst bc
              go_wp2_with (first | ((with_reducible refine gC_ (f := 21) rfl ?_); refine gL_ (some 95) rfl rfl Tryd.func21 kr_ rfl #[.slice Ao8 ba.length co8, .slice Zb ma.length ac, .int .i64 la, .int .i64 oa] rfl mp_ ?_; (with_reducible refine (l14_net.calls k4 _ _ ba _ _ ma la oa Qa Ra Sa _ ?side1 ?side2 ?side3 ?side4 A48.out).mono ?_); (case side1 => repeat (first | exact (Kd.rr_' ga.out).2.2 | (with_reducible refine Kd.C_alloc ?_ _) | (with_reducible refine Kd.C_drewN ?_ _) | (with_reducible refine Kd.C_drew ?_))); (case side2 => exact (Kd.rr_' ga.out).2.1); (case side3 => repeat (first | exact (Kd.rr_' ia.out).2.2 | (with_reducible refine Kd.C_alloc ?_ _) | (with_reducible refine Kd.C_drewN ?_ _) | (with_reducible refine Kd.C_drew ?_))); (case side4 => exact (Kd.rr_' ia.out).2.1); rintro e w56 ⟨rfl, hb⟩; refine ⟨_, rfl, ?_⟩; have n0_ := A0_.mk (Kd.rB_ (xR_ ga.out) hb); have n1_ := A0_.mk (Kd.rB_ (xR_ fa.out) hb); have n2_ := A0_.mk (Kd.rB_ (xR_ ia.out) hb); have n3_ := A0_.mk (bT_ (xB_ HB) hb); clear ga fa ia HB; have ga := n0_; have fa := n1_; have ia := n2_; have HB := n3_; clear n0_ n1_ n2_ n3_; (try clear hb); (try clear hb2); (try clear hk); (try clear hi); obtain ⟨cc, dc, ec⟩ := Kd.rS_' fa.out; subst ec) | ((with_reducible refine gC_ (f := 21) rfl ?_); refine gL_ (some 100) rfl rfl Tryd.func21 kr_ rfl #[.slice Ao8 ba.length co8, .slice cc ea.length dc, .int .i64 la, .int .i64 oa] rfl mp_ ?_; (with_reducible refine (l14_net.calls k4 _ _ ba _ _ ea la oa Ta Ua Va _ ?side1 ?side2 ?side3 ?side4 A49.out).mono ?_); (case side1 => repeat (first | exact (Kd.rr_' ga.out).2.2 | (with_reducible refine Kd.C_alloc ?_ _) | (with_reducible refine Kd.C_drewN ?_ _) | (with_reducible refine Kd.C_drew ?_))); (case side2 => exact (Kd.rr_' ga.out).2.1); (case side3 => repeat (first | exact (Kd.rr_' fa.out).2.2 | (with_reducible refine Kd.C_alloc ?_ _) | (with_reducible refine Kd.C_drewN ?_ _) | (with_reducible refine Kd.C_drew ?_))); (case side4 => exact (Kd.rr_' fa.out).2.1); rintro e w58 ⟨rfl, hb⟩; refine ⟨_, rfl, ?_⟩; have n0_ := A0_.mk (Kd.rB_ (xR_ ga.out) hb); have n1_ := A0_.mk (Kd.rB_ (xR_ fa.out) hb); have n2_ := A0_.mk (Kd.rB_ (xR_ ia.out) hb); have n3_ := A0_.mk (bT_ (xB_ HB) hb); clear ga fa ia HB; have ga := n0_; have fa := n1_; have ia := n2_; have HB := n3_; clear n0_ n1_ n2_ n3_; (try clear hb); (try clear hb2); (try clear hk); (try clear hi)))
              (try simp only [ap_])
              go_roundg k4
              case measure => have := HJ5.out; have := HK2.out; have := HK3.out; have := HK4.out; omega
              case rel => exact ⟨(wrap64 (oa + 1)), (rS_), H', ⟨by have := HJ5.out; have := HK2.out; have := HK3.out; have := HK4.out; omega⟩, ⟨by (with_reducible repeat (first | apply Kd.R_alloc | apply Kd.rN_ | apply Kd.rD_)); exact ga.out⟩, ⟨by (with_reducible repeat (first | apply Kd.R_alloc | apply Kd.rN_ | apply Kd.rD_)); exact fa.out⟩, ⟨by (with_reducible repeat (first | apply Kd.R_alloc | apply Kd.rN_ | apply Kd.rD_)); exact ia.out⟩, ⟨xB_ HB⟩⟩
            ·rw [if_neg c47] at H
             have Xb : decide (oa < la) = false := decide_eq_false c47
             clear c47
             have H' := A0_.mk H
             clear H
             go_wp2
             (try simp only [ap_])
             go_roundg k4
             case measure => have := HJ5.out; have := HK2.out; have := HK3.out; have := HK4.out; omega
             case rel => exact ⟨(wrap64 (la + 1)), (rS_), H', ⟨by have := HJ5.out; have := HK2.out; have := HK3.out; have := HK4.out; omega⟩, ⟨by (with_reducible repeat (first | apply Kd.R_alloc | apply Kd.rN_ | apply Kd.rD_)); exact ga.out⟩, ⟨by (with_reducible repeat (first | apply Kd.R_alloc | apply Kd.rN_ | apply Kd.rD_)); exact fa.out⟩, ⟨by (with_reducible repeat (first | apply Kd.R_alloc | apply Kd.rN_ | apply Kd.rD_)); exact ia.out⟩, ⟨xB_ HB⟩⟩
         ·rw [if_neg c46] at H
          have ob : decide (la < 4) = false := decide_eq_false c46
          clear c46
          obtain ⟨fc, A59, H⟩ := oB_ H
          (try dsimp only at H)
          obtain rfl := Option.some.inj H
          go_wp2_with (first | ((with_reducible refine gC_ (f := 12) rfl ?_); refine gL_ (some 102) rfl rfl Tryd.func12 kr_ rfl #[] rfl mp_ ?_; (with_reducible refine (l14_awake.calls k3  fc _ A59.out).mono ?_); rintro e w60 ⟨rfl, hb⟩; refine ⟨_, rfl, ?_⟩; have n0_ := A0_.mk (Kd.rB_ (xR_ ga.out) hb); have n1_ := A0_.mk (Kd.rB_ (xR_ fa.out) hb); have n2_ := A0_.mk (Kd.rB_ (xR_ ia.out) hb); have n3_ := A0_.mk (bT_ (xB_ HB) hb); clear ga fa ia HB; have ga := n0_; have fa := n1_; have ia := n2_; have HB := n3_; clear n0_ n1_ n2_ n3_; (try clear hb); (try clear hb2); (try clear hk); (try clear hi)))
          go_ret
          exact ⟨rE_, xB_ HB⟩
end Go.Proofs.YtnegkpnhjgimcaaDoor.C
end
