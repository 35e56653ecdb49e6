/- A part of the proof of setoffMany_card (see YtnegkpnhjgimcaaDoorZSM6): what the functions that it reaches compute, each by its contract. -/
import Derived.Test.YtnegkpnhjgimcaaDoorProg
import Derived.Below
import Derived.Deep.Draws
import Derived.Deep.AppendLies
import Derived.Maps.AppendAt
import Derived.OwnWalk
import Derived.Laws.BytesArg
import Derived.Laws.MakeOwn
import Derived.Laws.OwnMore
import Derived.Deep.OwnRows
import Derived.Tactics
import Derived.Lib.ConvBytes
import Derived.Laws.Slices
import Derived.WalkKit
import Derived.KernelRfl
import Derived.RowKit3
import Derived.Deep.LoopGhost
import Derived.Deep.QuietTactic
import Derived.BigQuiet
import Derived.WideLaws
import Derived.Deep.DeepCutAuto
import Derived.Deep.CutBlock
import Derived.Deep.RegionHeld3
import Derived.Laws.Rows
import Derived.Lib.AppendStr
import Derived.ArgAppend
import Derived.Laws.IdiomCopy
import Derived.OrdersHeld
import Derived.Laws.BitsLemmas
import Derived.RowKit
import Derived.Lib.Bytealg
import Derived.Test.YtnegkpnhjgimcaaDoorZSM0
section
namespace Go.Proofs.YtnegkpnhjgimcaaDoor.B
open Go.RowKit Go.Proofs.YtnegkpnhjgimcaaDoorW.PrintWords Go.Proofs.YtnegkpnhjgimcaaDoorW.PrintLast Go.Proofs.YtnegkpnhjgimcaaDoorW.PrintMore
attribute [local go_sem] max2_int min2_int max_two min_two max_three min_three max_four min_four
set_option linter.unusedVariables false
set_option linter.unusedSimpArgs false
def errW : Option Int → Value
  | none => .nilIface
  | some c => .iface 0 (.int .i64 c)
theorem errW_none : errW none = .nilIface := rfl
theorem errW_some (c : Int) : errW (some c) = .iface 0 (.int .i64 c) := rfl
theorem info3 : (Tryd.prog.info? 3).map (fun i => (i.zero, i.size, i.bytes)) = some (some (.int .i64 0), 1, 8) := by kernel_rfl
theorem info5 : (Tryd.prog.info? 5).map (fun i => (i.zero, i.size, i.bytes)) = some (some (.int .u8 0), 1, 1) := by kernel_rfl
theorem info26 : (Tryd.prog.info? 26).map (fun i => (i.zero, i.size, i.bytes)) = some (some (.agg #[(.bool false), (.string ⟨#[]⟩), (.string ⟨#[]⟩)]), 3, 40) := by kernel_rfl
theorem info28 : (Tryd.prog.info? 28).map (fun i => (i.zero, i.size, i.bytes)) = some (some (.agg #[(.int .i64 0), (.int .i64 0), (.bool false), (.string ⟨#[]⟩), (.string ⟨#[]⟩), (.int .i64 0), (.int .i64 0), (.bool false)]), 8, 80) := by kernel_rfl
theorem info89 : (Tryd.prog.info? 89).map (fun i => (i.zero, i.size, i.bytes)) = some (some (.int .u32 0), 1, 4) := by kernel_rfl
structure S26 where
  f0 : Bool
  f1 : ByteArray
  f2 : ByteArray
def z26 : S26 := ⟨false, (⟨#[]⟩ : ByteArray), (⟨#[]⟩ : ByteArray)⟩
def k26 : Kd S26 := Kd.iso (Kd.pair Kd.bool (Kd.pair Kd.string Kd.string)) (fun x : S26 => (x.f0, x.f1, x.f2))
theorem k26_open {w : World} {x : S26} {cs : List Value} (h : k26.K w x cs) : cs = [.bool x.f0, .string x.f1, .string x.f2] := by
  obtain ⟨_, _, rfl, rfl, ⟨_, _, rfl, rfl, rfl⟩⟩ := h
  exact rfl
theorem k26_openM {w : World} {base : Nat} {ok : Nat → Prop} {x : S26} {cs : List Value} (h : k26.M w base ok x cs) : cs = [.bool x.f0, .string x.f1, .string x.f2] := by
  obtain ⟨_, _, rfl, rfl, ⟨_, _, rfl, rfl, rfl⟩⟩ := h
  exact rfl
theorem k26_mkM (w : World) (base : Nat) (ok : Nat → Prop) (x : S26)  : k26.M w base ok x [.bool x.f0, .string x.f1, .string x.f2] := ⟨[.bool x.f0], [.string x.f1, .string x.f2], rfl, rfl, ⟨[.string x.f1], [.string x.f2], rfl, rfl, rfl⟩⟩
def rd_T26 (xs : List S26) (i : Int) : S26 := xs.getD i.toNat z26
theorem at_T26 {w : World} {A : Option Addr} {n : Nat} {xs : List S26} (h : Kd.C k26 w A n xs) (i : Int) (h0 : 0 ≤ i) (h1 : i < n) : ∃ ad , A = some ad ∧ w.cell? (ad.add (i.toNat * 3)) = some (.bool (rd_T26 xs i).f0) ∧ w.cell? ⟨(ad.add (i.toNat * 3)).block, (ad.add (i.toNat * 3)).off + 1, none⟩ = some (.string (rd_T26 xs i).f1) ∧ w.cell? ⟨(ad.add (i.toNat * 3)).block, (ad.add (i.toNat * 3)).off + 2, none⟩ = some (.string (rd_T26 xs i).f2) := by
  obtain ⟨ad, c, e, _, hK, hc0⟩ := Kd.C_get h z26 i h0 h1
  have hc : ∀ j u, c[j]? = some u → w.cell? (ad.add (i.toNat * 3 + j)) = some u := hc0
  obtain rfl := k26_open hK
  exact ⟨ad, e, hc 0 _ rfl, by rw [← add_field _ _ 1 (by omega)]; exact hc 1 _ rfl, by rw [← add_field _ _ 2 (by omega)]; exact hc 2 _ rfl⟩
structure S28 where
  f0 : Int
  f1 : Int
  f2 : S26
  f3 : Int
  f4 : Int
  f5 : Bool
def z28 : S28 := ⟨(0 : Int), (0 : Int), z26, (0 : Int), (0 : Int), false⟩
def k28 : Kd S28 := Kd.iso (Kd.pair (Kd.int .i64) (Kd.pair (Kd.int .i64) (Kd.pair k26 (Kd.pair (Kd.int .i64) (Kd.pair (Kd.int .i64) Kd.bool))))) (fun x : S28 => (x.f0, x.f1, x.f2, x.f3, x.f4, x.f5))
theorem k28_open {w : World} {x : S28} {cs : List Value} (h : k28.K w x cs) : cs = [.int .i64 x.f0, .int .i64 x.f1, .bool x.f2.f0, .string x.f2.f1, .string x.f2.f2, .int .i64 x.f3, .int .i64 x.f4, .bool x.f5] := by
  obtain ⟨_, _, rfl, rfl, ⟨_, _, rfl, rfl, ⟨_, _, rfl, s2, ⟨_, _, rfl, rfl, ⟨_, _, rfl, rfl, rfl⟩⟩⟩⟩⟩ := h
  obtain rfl := k26_open s2
  exact rfl
theorem k28_mkM (w : World) (base : Nat) (ok : Nat → Prop) (x : S28)  : k28.M w base ok x [.int .i64 x.f0, .int .i64 x.f1, .bool x.f2.f0, .string x.f2.f1, .string x.f2.f2, .int .i64 x.f3, .int .i64 x.f4, .bool x.f5] := ⟨[.int .i64 x.f0], [.int .i64 x.f1, .bool x.f2.f0, .string x.f2.f1, .string x.f2.f2, .int .i64 x.f3, .int .i64 x.f4, .bool x.f5], rfl, rfl, ⟨[.int .i64 x.f1], [.bool x.f2.f0, .string x.f2.f1, .string x.f2.f2, .int .i64 x.f3, .int .i64 x.f4, .bool x.f5], rfl, rfl, ⟨[.bool x.f2.f0, .string x.f2.f1, .string x.f2.f2], [.int .i64 x.f3, .int .i64 x.f4, .bool x.f5], rfl, (k26_mkM w base ok x.f2 ), ⟨[.int .i64 x.f3], [.int .i64 x.f4, .bool x.f5], rfl, rfl, ⟨[.int .i64 x.f4], [.bool x.f5], rfl, rfl, rfl⟩⟩⟩⟩⟩
def rd_T28 (xs : List S28) (i : Int) : S28 := xs.getD i.toNat z28
theorem at_T28 {w : World} {A : Option Addr} {n : Nat} {xs : List S28} (h : Kd.C k28 w A n xs) (i : Int) (h0 : 0 ≤ i) (h1 : i < n) : ∃ ad , A = some ad ∧ w.cell? (ad.add (i.toNat * 8)) = some (.int .i64 (rd_T28 xs i).f0) ∧ w.cell? ⟨(ad.add (i.toNat * 8)).block, (ad.add (i.toNat * 8)).off + 1, none⟩ = some (.int .i64 (rd_T28 xs i).f1) ∧ w.cell? ⟨(ad.add (i.toNat * 8)).block, (ad.add (i.toNat * 8)).off + 2, none⟩ = some (.bool (rd_T28 xs i).f2.f0) ∧ w.cell? ⟨(ad.add (i.toNat * 8)).block, (ad.add (i.toNat * 8)).off + 3, none⟩ = some (.string (rd_T28 xs i).f2.f1) ∧ w.cell? ⟨(ad.add (i.toNat * 8)).block, (ad.add (i.toNat * 8)).off + 4, none⟩ = some (.string (rd_T28 xs i).f2.f2) ∧ w.cell? ⟨(ad.add (i.toNat * 8)).block, (ad.add (i.toNat * 8)).off + 5, none⟩ = some (.int .i64 (rd_T28 xs i).f3) ∧ w.cell? ⟨(ad.add (i.toNat * 8)).block, (ad.add (i.toNat * 8)).off + 6, none⟩ = some (.int .i64 (rd_T28 xs i).f4) ∧ w.cell? ⟨(ad.add (i.toNat * 8)).block, (ad.add (i.toNat * 8)).off + 7, none⟩ = some (.bool (rd_T28 xs i).f5) := by
  obtain ⟨ad, c, e, _, hK, hc0⟩ := Kd.C_get h z28 i h0 h1
  have hc : ∀ j u, c[j]? = some u → w.cell? (ad.add (i.toNat * 8 + j)) = some u := hc0
  obtain rfl := k28_open hK
  exact ⟨ad, e, hc 0 _ rfl, by rw [← add_field _ _ 1 (by omega)]; exact hc 1 _ rfl, by rw [← add_field _ _ 2 (by omega)]; exact hc 2 _ rfl, by rw [← add_field _ _ 3 (by omega)]; exact hc 3 _ rfl, by rw [← add_field _ _ 4 (by omega)]; exact hc 4 _ rfl, by rw [← add_field _ _ 5 (by omega)]; exact hc 5 _ rfl, by rw [← add_field _ _ 6 (by omega)]; exact hc 6 _ rfl, by rw [← add_field _ _ 7 (by omega)]; exact hc 7 _ rfl⟩
structure S46 where
  f0 : Int
  f1 : Int
  f2 : Int
  f3 : Int
  f4 : Int
structure S74 where
  f0 : Int
  f1 : Int
  f2 : Bool
  f3 : S26
def strings_trimLeftByte.l0 : Nat → ByteArray → Int → Option (ByteArray)
 | 0, _, _ => none
 | k + 1, x0, x1 => if (x0.size : Int) > 0 then (if 0 < (x0.size : Int) then (if (bt x0 0) = x1 then (if 1 ≤ (x0.size : Int) then (strings_trimLeftByte.l0 k (x0.extract 1 x0.size) x1) else (none)) else (some x0)) else (none)) else (some x0)
def strings_trimLeftByte.f (k : Nat) (a0 : ByteArray) (a1 : Int) : Option (ByteArray) := strings_trimLeftByte.l0 k a0 a1
theorem strings_trimLeftByte.mono_l : ∀ k, (∀ y0 y1, LeO (strings_trimLeftByte.l0 k y0 y1) (strings_trimLeftByte.l0 (k + 1) y0 y1))
 | 0 => fun _ _ r h => by simp [strings_trimLeftByte.l0] at h
 | k + 1 => by
  have ih0 := strings_trimLeftByte.mono_l k
  ·intro y0 y1
   unfold strings_trimLeftByte.l0
   repeat' first
   | (with_reducible exact ih0 _ _)
   | (with_reducible exact LeO.refl _)
   | (with_reducible exact LeO.none _)
   | (with_reducible refine LeO.ite ?_ ?_)
   | (with_reducible refine LeO.bind ?_ (fun _ => ?_))
   | exact ih0 _ _
   | exact LeO.none _
   | refine LeO.ite ?_ ?_
   | refine LeO.bind ?_ (fun _ => ?_)
theorem strings_trimLeftByte.mono : ∀ a0 a1 k, LeO (strings_trimLeftByte.f k a0 a1) (strings_trimLeftByte.f (k + 1) a0 a1) := by
 intro a0 a1 k
 have ih0 := strings_trimLeftByte.mono_l k
 unfold strings_trimLeftByte.f
 repeat' first
   | (with_reducible exact ih0 _ _)
   | (with_reducible exact LeO.refl _)
   | (with_reducible exact LeO.none _)
   | (with_reducible refine LeO.ite ?_ ?_)
   | (with_reducible refine LeO.bind ?_ (fun _ => ?_))
   | exact ih0 _ _
   | exact LeO.none _
   | refine LeO.ite ?_ ?_
   | refine LeO.bind ?_ (fun _ => ?_)
set_option maxHeartbeats 8000000 in
set_option maxRecDepth 100000 in
theorem strings_trimLeftByte.calls (k : Nat) (a0 : ByteArray) (a1 : Int) (r : ByteArray) (w : World) (h : strings_trimLeftByte.f k a0 a1 = some r) :
  Calls Tryd.prog 96 #[.string a0, .int .u8 a1] w fun e w' => e = .returned (.string r) ∧ Drawn0 w w' := by
 have H : (strings_trimLeftByte.l0 k a0 a1) = some r := h
 clear h
 have H' := A0_.mk H
 clear H
 go_enter Tryd.func96, Tryd.ntmps96
 go_wp2
 go_loopg [0] k (fun kq v0 w' => ∃ (x0_1 : ByteArray), v0 = .string x0_1 ∧ A0_ (strings_trimLeftByte.l0 kq x0_1 a1 = some r) ∧ A0_ (kq ≤ k) ∧ Drawn0 w w')
 case atStart => exact ⟨(a0), (by first | rfl | (simp; done) | (simp [*]; done)), H', ⟨Nat.le_refl _⟩, by repeat (first | exact Drawn0.refl _ | apply Drawn0.step)⟩
 case round =>
  clear H'
  try clear p2
  obtain ⟨x0_1, rfl, HA, HK1, ⟨m1, rfl⟩⟩ := hrel
  cases gk with
  | zero => exact absurd HA.out (by simp [strings_trimLeftByte.l0])
  | succ k1 =>
   have H := HA.out
   clear HA
   simp only [strings_trimLeftByte.l0] at H
   by_cases c3 : (x0_1.size : Int) > 0
   ·rw [if_pos c3] at H
    have c3b0 : decide (0 < (x0_1.size : Int)) = true := decide_eq_true c3
    have c3b1 : decide (0 < x0_1.size) = true := decide_eq_true (by omega)
    clear c3
    by_cases c4 : 0 < (x0_1.size : Int)
    ·rw [if_pos c4] at H
     have c4b0 : decide (0 < (x0_1.size : Int)) = true := decide_eq_true c4
     have c4b1 : decide (0 < x0_1.size) = true := decide_eq_true (by omega)
     clear c4
     by_cases c6 : (bt x0_1 0) = a1
     ·rw [if_pos c6] at H
      have c6b0 : ((bt x0_1 0) == a1) = true := beq_iff_eq.mpr c6
      have c6b1 : ((bt x0_1 0) != a1) = false := bne_eq_false_iff_eq.mpr c6
      clear c6
      by_cases c7 : 1 ≤ (x0_1.size : Int)
      ·rw [if_pos c7] at H
       have c7b0 := eq_true c7
       have c7b1 : decide (1 ≤ (x0_1.size : Int)) = true := decide_eq_true c7
       clear c7
       have H' := A0_.mk H
       clear H
       have p5 : 0 ≤ (0 : Int) := (by omega)
       have q5 : 0 < x0_1.size := (by have : (0 : Int) < (x0_1.size : Int) := of_decide_eq_true (by first | (with_reducible assumption) | assumption); omega)
       have hx5 : ∀ h : 0 < x0_1.size, ((x0_1[0]'h).toNat : Int) = bt x0_1 0 := bt_at x0_1 0
       clear p5
       have qi5 : (0 < (x0_1.size : Int)) = True := eq_true (of_decide_eq_true (by first | (with_reducible assumption) | assumption))
       replace q5 := eq_true q5
       go_wp2
       (try simp only [add_plain])
       go_roundg k1
       case measure => have := HK1.out; omega
       case rel => exact ⟨(x0_1.extract 1 x0_1.size), (by first | rfl | (simp; done) | (simp [*]; done)), H', ⟨by have := HK1.out; omega⟩, by repeat (first | exact Drawn0.refl _ | apply Drawn0.step)⟩
      ·rw [if_neg c7] at H
       exact absurd H (by simp)
     ·rw [if_neg c6] at H
      have c6b0 : ((bt x0_1 0) == a1) = false := beq_eq_false_iff_ne.mpr c6
      have c6b1 : ((bt x0_1 0) != a1) = true := bne_iff_ne.mpr c6
      obtain rfl := Option.some.inj H
      have p5 : 0 ≤ (0 : Int) := (by omega)
      have q5 : 0 < x0_1.size := (by have : (0 : Int) < (x0_1.size : Int) := of_decide_eq_true (by first | (with_reducible assumption) | assumption); omega)
      have hx5 : ∀ h : 0 < x0_1.size, ((x0_1[0]'h).toNat : Int) = bt x0_1 0 := bt_at x0_1 0
      clear p5
      have qi5 : (0 < (x0_1.size : Int)) = True := eq_true (of_decide_eq_true (by first | (with_reducible assumption) | assumption))
      replace q5 := eq_true q5
      go_wp2
      go_ret
      exact ⟨by first | rfl | (simp; done) | (simp [*]; done), by repeat (first | exact Drawn0.refl _ | apply Drawn0.step)⟩
    ·rw [if_neg c4] at H
     exact absurd H (by simp)
   ·rw [if_neg c3] at H
    have c3b0 : decide (0 < (x0_1.size : Int)) = false := decide_eq_false c3
    have c3b1 : decide (0 < x0_1.size) = false := decide_eq_false (by omega)
    clear c3
    obtain rfl := Option.some.inj H
    go_wp2
    go_ret
    exact ⟨by first | rfl | (simp; done) | (simp [*]; done), by repeat (first | exact Drawn0.refl _ | apply Drawn0.step)⟩
def strings_TrimLeft.f (k : Nat) (a0 : ByteArray) (a1 : ByteArray) : Option (ByteArray) := if a1.toList = [0] then (if a0.toList = [] then some a0 else strings_trimLeftByte.f k a0 0) else none
theorem strings_TrimLeft.mono : ∀ a0 a1 k, LeO (strings_TrimLeft.f k a0 a1) (strings_TrimLeft.f (k + 1) a0 a1) := by
 intro a0 a1 k
 unfold strings_TrimLeft.f
 refine LeO.ite (LeO.ite (LeO.refl _) ?_) (LeO.none _)
 exact strings_trimLeftByte.mono _ _ _
set_option maxHeartbeats 8000000 in
set_option maxRecDepth 100000 in
theorem strings_TrimLeft.calls (k : Nat) (a0 : ByteArray) (a1 : ByteArray) (r : ByteArray) (w : World) (h : strings_TrimLeft.f k a0 a1 = some r) :
  Calls Tryd.prog 77 #[.string a0, .string a1] w fun e w' => e = .returned (.string r) ∧ Drawn0 w w' := by
 unfold strings_TrimLeft.f at h
 by_cases h1 : a1.toList = [0]
 ·rw [if_pos h1] at h
  obtain rfl : a1 = (⟨#[0]⟩ : ByteArray) := by
   obtain ⟨⟨l⟩⟩ := a1
   simpa using h1
  clear h1
  by_cases hs : a0.toList = []
  ·rw [if_pos hs] at h
   obtain rfl : a0 = r := by injection h
   have hs1 : a0.toList.isEmpty = true := by rw [hs]; rfl
   clear h
   go_enter Tryd.func77, Tryd.ntmps77
   go_wp2
   go_ret
   exact ⟨rfl, Drawn0.refl _⟩
  ·rw [if_neg hs] at h
   have H := A0_.mk h
   have hs1 : a0.toList.isEmpty = false := by cases h2 : a0.toList with | nil => exact absurd h2 hs | cons _ _ => rfl
   clear h
   go_enter Tryd.func77, Tryd.ntmps77
   go_wp2_with (go_at_call 96; refine (strings_trimLeftByte.calls k a0 0 r _ H.out).mono ?_; rintro e w' ⟨rfl, ⟨nd, rfl⟩⟩)
   go_ret
   exact ⟨rfl, by repeat (first | exact Drawn0.refl _ | apply Drawn0.step)⟩
 ·rw [if_neg h1] at h
  cases h
def natural_Normalize.f (k : Nat) (a0 : ByteArray) : Option (ByteArray) := (strings_TrimLeft.f k a0 (⟨#[0]⟩ : ByteArray)).bind fun t110 => (some t110)
theorem natural_Normalize.mono : ∀ a0 k, LeO (natural_Normalize.f k a0) (natural_Normalize.f (k + 1) a0) := by
 intro a0 k
 unfold natural_Normalize.f
 repeat' first
   | (with_reducible exact strings_TrimLeft.mono _ _ _)
   | (with_reducible exact LeO.refl _)
   | (with_reducible exact LeO.none _)
   | (with_reducible refine LeO.ite ?_ ?_)
   | (with_reducible refine LeO.bind ?_ (fun _ => ?_))
   | exact strings_TrimLeft.mono _ _ _
   | exact LeO.none _
   | refine LeO.ite ?_ ?_
   | refine LeO.bind ?_ (fun _ => ?_)
set_option maxHeartbeats 8000000 in
set_option maxRecDepth 100000 in
theorem natural_Normalize.calls (k : Nat) (a0 : ByteArray) (r : ByteArray) (w : World) (h : natural_Normalize.f k a0 = some r) :
  Calls Tryd.prog 61 #[.string a0] w fun e w' => e = .returned (.string r) ∧ Drawn0 w w' := by
 have H : ((strings_TrimLeft.f k a0 (⟨#[0]⟩ : ByteArray)).bind fun t110 => (some t110)) = some r := h
 clear h
 replace H := Option.bind_eq_some_iff.mp H
 obtain ⟨t110, A20, H⟩ := H
 replace H : (some t110) = some r := H
 have A2 := A0_.mk A20
 clear A20
 obtain rfl := Option.some.inj H
 go_enter Tryd.func61, Tryd.ntmps61
 go_wp2_with (first | ((with_reducible refine gC_ (f := 77) rfl ?_); refine goesL_ (some 4) rfl rfl Tryd.func77 (by kernel_rfl) rfl #[.string a0, .string (⟨#[0]⟩ : ByteArray)] rfl (by (try simp only [List.map_toArray, List.map_cons, List.map_nil]); first | done | rfl | (simp only [List.length_drop, List.length_take]; rfl)) ?_; (with_reducible refine (strings_TrimLeft.calls k a0 (⟨#[0]⟩ : ByteArray) t110 _ A2.out).mono ?_); rintro e w' ⟨rfl, ⟨nd, rfl⟩⟩; refine ⟨_, rfl, ?_⟩))
 go_ret
 exact ⟨by first | rfl | (simp; done) | (simp [*]; done), by repeat (first | exact Drawn0.refl _ | apply Drawn0.step)⟩
def natural_limbs_text.l0 : Nat → List Int → List Int → Int → Int → Option (ByteArray)
 | 0, _, _, _, _ => none
 | k + 1, x0, x3, x10, x11 => if x11 < x10 then (if 0 ≤ (wrap64 (Int.tdiv x11 4)) then (if (wrap64 (Int.tdiv x11 4)) < (x0.length : Int) then (if 0 ≤ (wrap64 (8 * (Int.tmod x11 4))) then (if 0 ≤ (wrap64 ((wrap64 ((x3.length : Int) - 1)) - x11)) then (if (wrap64 ((wrap64 ((x3.length : Int) - 1)) - x11)) < (x3.length : Int) then (natural_limbs_text.l0 k x0 (x3.set ((wrap64 ((wrap64 ((x3.length : Int) - 1)) - x11)) : Int).toNat ((shr .u32 (rd x0 (wrap64 (Int.tdiv x11 4))) (wrap64 (8 * (Int.tmod x11 4)))) % 256)) x10 (wrap64 (x11 + 1))) else (none)) else (none)) else (none)) else (none)) else (none)) else ((natural_Normalize.f k (strOfNums x3)).bind fun t131 => (some t131))
def natural_limbs_text.f (k : Nat) (l0 : List Int) : Option (ByteArray) := if 0 ≤ (wrap64 ((l0.length : Int) * 4)) then (if (wrap64 ((l0.length : Int) * 4) : Int).toNat ≤ 281474976710656 then ((some (List.replicate (wrap64 ((l0.length : Int) * 4) : Int).toNat 0 : List Int)).bind fun y126 => (natural_limbs_text.l0 k l0 y126 (y126.length : Int) 0)) else (none)) else (none)
theorem natural_limbs_text.mono_l : ∀ k, (∀ y0 y1 y2 y3, LeO (natural_limbs_text.l0 k y0 y1 y2 y3) (natural_limbs_text.l0 (k + 1) y0 y1 y2 y3))
 | 0 => fun _ _ _ _ r h => by simp [natural_limbs_text.l0] at h
 | k + 1 => by
  have ih0 := natural_limbs_text.mono_l k
  ·intro y0 y1 y2 y3
   unfold natural_limbs_text.l0
   repeat' first
   | (with_reducible exact ih0 _ _ _ _)
   | (with_reducible exact natural_Normalize.mono _ _)
   | (with_reducible exact LeO.refl _)
   | (with_reducible exact LeO.none _)
   | (with_reducible refine LeO.ite ?_ ?_)
   | (with_reducible refine LeO.bind ?_ (fun _ => ?_))
   | exact ih0 _ _ _ _
   | exact natural_Normalize.mono _ _
   | exact LeO.none _
   | refine LeO.ite ?_ ?_
   | refine LeO.bind ?_ (fun _ => ?_)
theorem natural_limbs_text.mono : ∀ a0 k, LeO (natural_limbs_text.f k a0) (natural_limbs_text.f (k + 1) a0) := by
 intro a0 k
 have ih0 := natural_limbs_text.mono_l k
 unfold natural_limbs_text.f
 repeat' first
   | (with_reducible exact ih0 _ _ _ _)
   | (with_reducible exact natural_Normalize.mono _ _)
   | (with_reducible exact LeO.refl _)
   | (with_reducible exact LeO.none _)
   | (with_reducible refine LeO.ite ?_ ?_)
   | (with_reducible refine LeO.bind ?_ (fun _ => ?_))
   | exact ih0 _ _ _ _
   | exact natural_Normalize.mono _ _
   | exact LeO.none _
   | refine LeO.ite ?_ ?_
   | refine LeO.bind ?_ (fun _ => ?_)
set_option maxHeartbeats 8000000 in
set_option maxRecDepth 100000 in
theorem natural_limbs_text.calls (k : Nat) (A0 : Option Addr) (c0 : Nat) (l0 : List Int) (r : ByteArray) (w : World) (hr0 : Kd.C (Kd.int .u32) w A0 l0.length l0) (hc0 : l0.length ≤ c0) (h : natural_limbs_text.f k l0 = some r) :
  Calls Tryd.prog 65 #[.slice A0 l0.length c0] w fun e w' => e = .returned (.string r) ∧ Below w.heap.size w w' := by
 have HR0 := A0_.mk hr0
 have HC0 := A0_.mk hc0
 clear hr0 hc0
 have HB := A0_.mk (Below.refl w.heap.size w)
 have H : (if 0 ≤ (wrap64 ((l0.length : Int) * 4)) then (if (wrap64 ((l0.length : Int) * 4) : Int).toNat ≤ 281474976710656 then ((some (List.replicate (wrap64 ((l0.length : Int) * 4) : Int).toNat 0 : List Int)).bind fun y126 => (natural_limbs_text.l0 k l0 y126 (y126.length : Int) 0)) else (none)) else (none)) = some r := h
 clear h
 obtain ⟨ji2, hji2⟩ : ∃ j_ : Int, (wrap64 ((l0.length : Int) * 4)) = j_ := ⟨_, rfl⟩
 replace H : (if 0 ≤ (ji2) then (if (ji2 : Int).toNat ≤ 281474976710656 then ((some (List.replicate (ji2 : Int).toNat 0 : List Int)).bind fun y126 => (natural_limbs_text.l0 k l0 y126 (y126.length : Int) 0)) else (none)) else (none)) = some r := by first | (rw [hji2] at H; exact H) | (simp only [hji2] at H ⊢; exact H)
 have hji2w : (IntKind.i64.wrap ((l0.length : Int) * 4)) = ji2 := (i64_w _).trans hji2
 by_cases c3 : 0 ≤ (ji2)
 ·rw [if_pos c3] at H
  have c3b0 := eq_true c3
  have c3b1 : decide (0 ≤ (ji2)) = true := decide_eq_true c3
  clear c3
  by_cases c4 : (ji2 : Int).toNat ≤ 281474976710656
  ·rw [if_pos c4] at H
   have c4b0 := eq_true c4
   have c4b1 : decide ((ji2 : Int).toNat ≤ 281474976710656) = true := decide_eq_true c4
   clear c4
   obtain ⟨y126, hy126⟩ : ∃ y_ : List Int, y_ = (List.replicate (ji2 : Int).toNat 0) := ⟨_, rfl⟩
   replace H : (natural_limbs_text.l0 k l0 y126 (y126.length : Int) 0) = some r := by first | (rw [hy126]; with_reducible exact H) | (have H2_ := (Option.bind_some _ _).symm.trans H; rw [hy126]; with_reducible exact H2_) | (have H2_ := (Option.bind_some _ _).symm.trans H; with_reducible exact H2_) | with_reducible exact H | (rw [hy126]; exact H) | exact H
   have Ny126 := A0_.mk hy126
   clear hy126
   have H' := A0_.mk H
   clear H
   go_enter Tryd.func65, Tryd.ntmps65
   go_wp2_with (first | ((with_reducible refine gD_ (N := 8) rfl ?_); refine Kd.R_make (Kd.int .u8) _ 5 rfl (N := 8) rfl 105 _ _ rfl ji2 rfl rfl Tryd.underlying105 (.int .u8 0) 1 info5 rfl (by decide) (by omega) 0 (ok := fun _ => True) (okp := fun _ => True) rfl (fun _ hk => hk) trivial (of_decide_eq_true (by first | (with_reducible assumption) | assumption)) (Nat.le_trans (Nat.mul_le_mul_right _ (of_decide_eq_true (by first | (with_reducible assumption) | assumption) : ji2.toNat ≤ 281474976710656)) (by omega)) (Below.refl _ _) (Nat.le_refl _) ?_; intro v127 w5 ho6 hb hg_ hnew_; clear hg_ hnew_; (first | rw [← Ny126.out] at ho6 | (simp only [Int.reduceToNat] at ho6; rw [← Ny126.out] at ho6)); have n0_ := A0_.mk (Kd.R_lower ho6 (bZ_ (by repeat (first | (with_reducible first | exact HB.out | apply bA_ | apply pB_ | apply b1_) | exact HB.out)))); have n1_ := A0_.mk (bT_ (by repeat (first | (with_reducible first | exact HB.out | apply bA_ | apply pB_ | apply b1_) | exact HB.out)) hb); clear HB; have HO128 := n0_; have HB := n1_; clear n0_ n1_; clear hb ho6; obtain ⟨Ao7, co7, eo7⟩ := Kd.R_slice HO128.out; subst eo7))
   go_loopg [11] k (fun kq v11 w' => ∃ (x3_1 : List Int) (x11_1 : Int), v11 = .int .i64 x11_1 ∧ A0_ (natural_limbs_text.l0 kq l0 x3_1 (y126.length : Int) x11_1 = some r) ∧ A0_ (kq ≤ k) ∧ A0_ (Kd.R (Kd.int .u8) 5 w' w.heap.size (fun _ => True) (.slice Ao7 y126.length co7) x3_1) ∧ A0_ (Below w.heap.size w w'))
   case atStart => exact ⟨(y126), (0), (by first | rfl | (simp; done) | (simp [*]; done)), H', ⟨Nat.le_refl _⟩, ⟨by (with_reducible repeat (first | apply Kd.R_alloc | apply Kd.R_drewN | apply Kd.R_drew)); exact HO128.out⟩, ⟨by repeat (first | (with_reducible first | exact HB.out | apply bA_ | apply pB_ | apply b1_) | exact HB.out)⟩⟩
   case round =>
    clear H'
    try clear p2
    try clear c3
    try clear c3b0
    try clear c3b1
    try clear c4
    try clear c4b0
    try clear c4b1
    try clear c6
    try clear p6
    obtain ⟨x3_1, x11_1, rfl, HA, HK1, HO_3, HB⟩ := hrel
    have hl3_1 := (Kd.R_reads' HO_3.out).1
    rw [hl3_1] at HO_3
    (try simp only [hl3_1])
    cases gk with
    | zero => exact absurd HA.out (by simp [natural_limbs_text.l0])
    | succ k1 =>
     have H := HA.out
     clear HA
     simp only [natural_limbs_text.l0] at H
     by_cases c8 : x11_1 < (y126.length : Int)
     ·rw [if_pos c8] at H
      have c8b0 : decide (x11_1 < (y126.length : Int)) = true := decide_eq_true c8
      (try (have c8h0 := c8b0; simp only [hl3_1] at c8h0))
      clear c8
      obtain ⟨ji9, hji9⟩ : ∃ j_ : Int, (wrap64 (Int.tdiv x11_1 4)) = j_ := ⟨_, rfl⟩
      replace H : (if 0 ≤ (ji9) then (if (ji9) < (l0.length : Int) then (if 0 ≤ (wrap64 (8 * (Int.tmod x11_1 4))) then (if 0 ≤ (wrap64 ((wrap64 ((x3_1.length : Int) - 1)) - x11_1)) then (if (wrap64 ((wrap64 ((x3_1.length : Int) - 1)) - x11_1)) < (x3_1.length : Int) then (natural_limbs_text.l0 k1 l0 (x3_1.set ((wrap64 ((wrap64 ((x3_1.length : Int) - 1)) - x11_1)) : Int).toNat ((shr .u32 (rd l0 (ji9)) (wrap64 (8 * (Int.tmod x11_1 4)))) % 256)) (y126.length : Int) (wrap64 (x11_1 + 1))) else (none)) else (none)) else (none)) else (none)) else (none)) = some r := by first | (rw [hji9] at H; exact H) | (simp only [hji9] at H ⊢; exact H)
      have hji9w : (IntKind.i64.wrap (Int.tdiv x11_1 4)) = ji9 := (i64_w _).trans hji9
      by_cases c10 : 0 ≤ (ji9)
      ·rw [if_pos c10] at H
       have c10b0 : decide (0 ≤ (ji9)) = true := decide_eq_true c10
       clear c10
       by_cases c11 : (ji9) < (l0.length : Int)
       ·rw [if_pos c11] at H
        have c11b0 : decide ((ji9) < (l0.length : Int)) = true := decide_eq_true c11
        (try (have c11h0 := c11b0; simp only [hl3_1] at c11h0))
        clear c11
        obtain ⟨ji12, hji12⟩ : ∃ j_ : Int, (wrap64 (8 * (Int.tmod x11_1 4))) = j_ := ⟨_, rfl⟩
        replace H : (if 0 ≤ (ji12) then (if 0 ≤ (wrap64 ((wrap64 ((x3_1.length : Int) - 1)) - x11_1)) then (if (wrap64 ((wrap64 ((x3_1.length : Int) - 1)) - x11_1)) < (x3_1.length : Int) then (natural_limbs_text.l0 k1 l0 (x3_1.set ((wrap64 ((wrap64 ((x3_1.length : Int) - 1)) - x11_1)) : Int).toNat ((shr .u32 (rd l0 (ji9)) (ji12)) % 256)) (y126.length : Int) (wrap64 (x11_1 + 1))) else (none)) else (none)) else (none)) = some r := by first | (rw [hji12] at H; exact H) | (simp only [hji12] at H ⊢; exact H)
        have hji12w : (IntKind.i64.wrap (8 * (Int.tmod x11_1 4))) = ji12 := (i64_w _).trans hji12
        by_cases c13 : 0 ≤ (ji12)
        ·rw [if_pos c13] at H
         have c13b0 := eq_true c13
         have c13b1 : decide (0 ≤ (ji12)) = true := decide_eq_true c13
         clear c13
         obtain ⟨ji14, hji14⟩ : ∃ j_ : Int, (shr .u32 (rd l0 (ji9)) (ji12)) = j_ := ⟨_, rfl⟩
         replace H : (if 0 ≤ (wrap64 ((wrap64 ((x3_1.length : Int) - 1)) - x11_1)) then (if (wrap64 ((wrap64 ((x3_1.length : Int) - 1)) - x11_1)) < (x3_1.length : Int) then (natural_limbs_text.l0 k1 l0 (x3_1.set ((wrap64 ((wrap64 ((x3_1.length : Int) - 1)) - x11_1)) : Int).toNat ((ji14) % 256)) (y126.length : Int) (wrap64 (x11_1 + 1))) else (none)) else (none)) = some r := by first | (rw [hji14] at H; exact H) | (simp only [hji14] at H ⊢; exact H)
         have hji14_ : ((rd l0 (ji9)) / 2 ^ min (ji12).toNat 32) = ji14 := hji14
         have hji14z : (ji12) ≤ 32 → ((rd l0 (ji9)) / 2 ^ (ji12).toNat) = ji14 := shr_small hji14
         obtain ⟨ji15, hji15⟩ : ∃ j_ : Int, (wrap64 ((wrap64 ((x3_1.length : Int) - 1)) - x11_1)) = j_ := ⟨_, rfl⟩
         replace H : (if 0 ≤ (ji15) then (if (ji15) < (x3_1.length : Int) then (natural_limbs_text.l0 k1 l0 (x3_1.set ((ji15) : Int).toNat ((ji14) % 256)) (y126.length : Int) (wrap64 (x11_1 + 1))) else (none)) else (none)) = some r := by first | (rw [hji15] at H; exact H) | (simp only [hji15] at H ⊢; exact H)
         have hji15w : (IntKind.i64.wrap ((wrap64 ((x3_1.length : Int) - 1)) - x11_1)) = ji15 := (i64_w _).trans hji15
         by_cases c16 : 0 ≤ (ji15)
         ·rw [if_pos c16] at H
          have c16b0 : decide (0 ≤ (ji15)) = true := decide_eq_true c16
          clear c16
          by_cases c17 : (ji15) < (x3_1.length : Int)
          ·rw [if_pos c17] at H
           have c17b0 : decide ((ji15) < (x3_1.length : Int)) = true := decide_eq_true c17
           (try (have c17h0 := c17b0; simp only [hl3_1] at c17h0))
           clear c17
           obtain ⟨y130, hy130⟩ : ∃ y_ : List Int, y_ = (x3_1.set ((ji15) : Int).toNat ((ji14) % 256)) := ⟨_, rfl⟩
           replace H : (natural_limbs_text.l0 k1 l0 y130 (y126.length : Int) (wrap64 (x11_1 + 1))) = some r := by first | (rw [hy130]; with_reducible exact H) | (have H2_ := (Option.bind_some _ _).symm.trans H; rw [hy130]; with_reducible exact H2_) | (have H2_ := (Option.bind_some _ _).symm.trans H; with_reducible exact H2_) | with_reducible exact H | (rw [hy130]; exact H) | exact H
           have Ny130 := A0_.mk hy130
           clear hy130
           have H' := A0_.mk H
           clear H
           have p129 : 0 ≤ ((ji9) : Int) := of_decide_eq_true (by first | (with_reducible assumption) | assumption)
           have q129 : (ji9) < (l0.length : Int) := of_decide_eq_true (by first | (with_reducible assumption) | assumption)
           obtain ⟨ad129, e129, hx129_0⟩ := Kd.at_int HR0.out (ji9) p129 q129
           cases e129
           (try replace hx129_0 := (HB.out.cell (World.block_lt_of_cell? w _ hx129_0)).trans hx129_0)
           replace p129 := eq_true p129
           replace q129 := eq_true q129
           have p18 : 0 ≤ ((ji15) : Int) := of_decide_eq_true (by first | (with_reducible assumption) | assumption)
           have q18 : ((ji15) : Int) < ((x3_1.length : Int) : Int) := of_decide_eq_true (by first | (with_reducible assumption) | assumption)
           obtain ⟨go18, co18, eo18, gb18, gl18, cl18, HG18⟩ := Kd.R_form HO_3.out (by omega)
           (first | cases eo18 | (injection eo18 with ea_ en_ ec_; (first | subst ea_ | (injection ea_ with ea_; subst ea_)); subst ec_; clear en_))
           have GB18 := A0_.mk gb18
           have GG18 := A0_.mk HG18
           clear gb18 gl18 HG18
           obtain ⟨hx18_0, hf18_0⟩ := Kd.R_celln 0 HO_3.out ((ji15) : Int) p18 q18
           replace p18 := eq_true p18
           replace q18 := eq_true q18
           have HP19 := Kd.R_putg HO_3.out ((ji15) : Int) ((ji14) % 256)
           go_wp2_with (first | ((with_reducible refine gate_store (t := 5) (p := 30) rfl ?_); refine store_event (t := 5) (p := 30) (v := ?vo_w20) (w1 := (wr.setCell ⟨go18, ((ji15) : Int).toNat, none⟩ (.int .u8 ((ji14) % 256)))) ?hg ?ho ?hn ?hr ?_; (case ho => rfl); (case hg => rfl); (case hn => rfl); (case hr => first | (go_simp; done) | (go_simp; rfl)); intro w20 hw; have hg : wr.grownBy w20 (some go18) := (by rw [hw]; exact HP19.2); have hp_ : Kd.R (Kd.int .u8) 5 w20 w.heap.size (fun _ => True) (.slice (some ⟨go18, 0, none⟩) x3_1.length co7) y130 := (by rw [hw, Ny130.out]; exact HP19.1); clear HP19; have n0_ := A0_.mk (hp_); have n1_ := A0_.mk ((by rw [hw]; exact bS_ (HB.out) GB18.out : Below w.heap.size w w20)); clear HO_3; clear HB; have HO_3 := n0_; have HB := n1_; clear n0_ n1_; clear hg hw hp_))
           (try simp only [← hl3_1])
           (try simp only [add_plain])
           go_roundg k1
           case measure => have := HK1.out; omega
           case rel => exact ⟨(y130), (wrap64 (x11_1 + 1)), (by first | rfl | (simp; done) | (simp [*]; done)), H', ⟨by have := HK1.out; omega⟩, ⟨by (try simp only [hl3_1]); (with_reducible repeat (first | apply Kd.R_alloc | apply Kd.R_drewN | apply Kd.R_drew)); exact HO_3.out⟩, ⟨by repeat (first | (with_reducible first | exact HB.out | apply bA_ | apply pB_ | apply b1_) | exact HB.out)⟩⟩
          ·rw [if_neg c17] at H
           exact absurd H (by simp)
         ·rw [if_neg c16] at H
          exact absurd H (by simp)
        ·rw [if_neg c13] at H
         exact absurd H (by simp)
       ·rw [if_neg c11] at H
        exact absurd H (by simp)
      ·rw [if_neg c10] at H
       exact absurd H (by simp)
     ·rw [if_neg c8] at H
      have c8b0 : decide (x11_1 < (y126.length : Int)) = false := decide_eq_false c8
      (try (have c8h0 := c8b0; simp only [hl3_1] at c8h0))
      clear c8
      replace H := Option.bind_eq_some_iff.mp H
      obtain ⟨t131, A210, H⟩ := H
      replace H : (some t131) = some r := H
      have A21 := A0_.mk A210
      clear A210
      obtain rfl := Option.some.inj H
      have hcv22 := own_string (P := Tryd.prog) Tryd.underlying105 Tryd.underlying5 Tryd.underlying9 (Kd.own_of_R HO_3.out)
      go_wp2_with (first | ((with_reducible refine gC_ (f := 61) rfl ?_); refine goesL_ (some 34) rfl rfl Tryd.func61 (by kernel_rfl) rfl #[.string (strOfNums x3_1)] rfl (by (try simp only [List.map_toArray, List.map_cons, List.map_nil]); first | done | rfl | (simp only [List.length_drop, List.length_take]; rfl)) ?_; (with_reducible refine (natural_Normalize.calls k1 (strOfNums x3_1) t131 _ A21.out).mono ?_); rintro e w' ⟨rfl, ⟨nd, rfl⟩⟩; refine ⟨_, rfl, ?_⟩))
      go_ret
      exact ⟨by first | rfl | (simp [errW_none, errW_some] <;> rfl) | (simp only [← hji2]; first | rfl | (simp [errW_none, errW_some] <;> rfl)) | (simp [*, errW_none, errW_some] <;> rfl), by repeat (first | (with_reducible first | exact HB.out | apply bA_ | apply pB_ | apply b1_) | exact HB.out)⟩
  ·rw [if_neg c4] at H
   exact absurd H (by simp)
 ·rw [if_neg c3] at H
  exact absurd H (by simp)
def natural_FromUint.f (k : Nat) (a0 : Int) : Option (ByteArray) := (natural_limbs_text.f k (([(a0) % 4294967296, (a0 / 4294967296) % 4294967296] : List Int))).bind fun t488 => (some t488)
theorem natural_FromUint.mono : ∀ a0 k, LeO (natural_FromUint.f k a0) (natural_FromUint.f (k + 1) a0) := by
 intro a0 k
 unfold natural_FromUint.f
 repeat' first
   | (with_reducible exact natural_limbs_text.mono _ _)
   | (with_reducible exact LeO.refl _)
   | (with_reducible exact LeO.none _)
   | (with_reducible refine LeO.ite ?_ ?_)
   | (with_reducible refine LeO.bind ?_ (fun _ => ?_))
   | exact natural_limbs_text.mono _ _
   | exact LeO.none _
   | refine LeO.ite ?_ ?_
   | refine LeO.bind ?_ (fun _ => ?_)
set_option maxHeartbeats 8000000 in
set_option maxRecDepth 100000 in
theorem natural_FromUint.calls (k : Nat) (a0 : Int) (r : ByteArray) (w : World) (h : natural_FromUint.f k a0 = some r) :
  Calls Tryd.prog 72 #[.int .u64 a0] w fun e w' => e = .returned (.string r) ∧ Below w.heap.size w w' := by
 have HB := A0_.mk (Below.refl w.heap.size w)
 have H : ((natural_limbs_text.f k (([(a0) % 4294967296, (a0 / 4294967296) % 4294967296] : List Int))).bind fun t488 => (some t488)) = some r := h
 clear h
 obtain ⟨y485, hy485⟩ : ∃ y_ : List Int, y_ = (([(a0) % 4294967296, (a0 / 4294967296) % 4294967296] : List Int)) := ⟨_, rfl⟩
 replace H : ((natural_limbs_text.f k y485).bind fun t488 => (some t488)) = some r := by first | (rw [hy485]; with_reducible exact H) | (have H2_ := (Option.bind_some _ _).symm.trans H; rw [hy485]; with_reducible exact H2_) | (have H2_ := (Option.bind_some _ _).symm.trans H; with_reducible exact H2_) | with_reducible exact H | (rw [hy485]; exact H) | exact H
 have Ny485 := A0_.mk hy485
 clear hy485
 replace H := Option.bind_eq_some_iff.mp H
 obtain ⟨t488, A20, H⟩ := H
 replace H : (some t488) = some r := H
 have A2 := A0_.mk A20
 clear A20
 obtain rfl := Option.some.inj H
 go_enter Tryd.func72, Tryd.ntmps72
 go_wp2_with (first | ((with_reducible refine gD_ (N := 8) rfl ?_); refine Kd.R_lit (Kd.int .u32) _ 89 ?hg (N := 8) ?hd (xs := ([(a0) % 4294967296, (a0 / 4294967296) % 4294967296] : List Int)) (inner := [.int .u32 ((a0) % 4294967296), .int .u32 ((a0 / 4294967296) % 4294967296)]) (ok := fun _ => True) (okp := fun _ => True) ?hr ?hp (fun _ hk => hk) trivial (Below.refl _ _) (Nat.le_refl _) (by simp) ?_; (case hd => rfl); (case hg => rfl); (case hr => first | (go_simp; done) | (go_simp; rfl)); (case hp => exact (Reps.one (show Kd.M (Kd.int .u32) _ _ _ ((a0) % 4294967296) [.int .u32 ((a0) % 4294967296)] from rfl) (Reps.one (show Kd.M (Kd.int .u32) _ _ _ ((a0 / 4294967296) % 4294967296) [.int .u32 ((a0 / 4294967296) % 4294967296)] from rfl) (Reps.none _ _)))); intro v486 w3 ho4 hb hg_ hnew_; clear hg_ hnew_; (first | rw [← Ny485.out] at ho4 | (simp only [Int.reduceToNat] at ho4; rw [← Ny485.out] at ho4)); have n0_ := A0_.mk (Kd.R_lower ho4 (bZ_ (by repeat (first | (with_reducible first | exact HB.out | apply bA_ | apply pB_ | apply b1_) | exact HB.out)))); have n1_ := A0_.mk (bT_ (by repeat (first | (with_reducible first | exact HB.out | apply bA_ | apply pB_ | apply b1_) | exact HB.out)) hb); clear HB; have HO487 := n0_; have HB := n1_; clear n0_ n1_; clear hb ho4; obtain ⟨Ao5, co5, eo5⟩ := Kd.R_slice HO487.out; subst eo5) | ((with_reducible refine gC_ (f := 65) rfl ?_); refine goesL_ (some 9) rfl rfl Tryd.func65 (by kernel_rfl) rfl #[.slice Ao5 y485.length co5] rfl (by (try simp only [List.map_toArray, List.map_cons, List.map_nil]); first | done | rfl | (simp only [List.length_drop, List.length_take]; rfl)) ?_; (with_reducible refine (natural_limbs_text.calls k _ _ y485 t488 _ ?side1 ?side2 A2.out).mono ?_); (case side1 => repeat (first | exact (Kd.R_reads' HO487.out).2.2 | (with_reducible refine Kd.C_alloc ?_ _) | (with_reducible refine Kd.C_drewN ?_ _) | (with_reducible refine Kd.C_drew ?_))); (case side2 => exact (Kd.R_reads' HO487.out).2.1); rintro e w6 ⟨rfl, hb⟩; refine ⟨_, rfl, ?_⟩; have n0_ := A0_.mk (Kd.R_below (by (with_reducible repeat (first | apply Kd.R_alloc | apply Kd.R_drewN | apply Kd.R_drew)); exact HO487.out) hb); have n1_ := A0_.mk (bT_ (by repeat (first | (with_reducible first | exact HB.out | apply bA_ | apply pB_ | apply b1_) | exact HB.out)) hb); clear HO487; clear HB; have HO487 := n0_; have HB := n1_; clear n0_ n1_; (try clear hb); (try clear hb2); (try clear hk); (try clear hi)))
 go_ret
 exact ⟨by first | rfl | (simp [errW_none, errW_some] <;> rfl) | (simp [*, errW_none, errW_some] <;> rfl), by repeat (first | (with_reducible first | exact HB.out | apply bA_ | apply pB_ | apply b1_) | exact HB.out)⟩
def rational_magnitude.f (k : Nat) (a0 : Int) : Option (ByteArray) := if a0 < 0 then ((natural_FromUint.f k (IntKind.u64.wrap (-(IntKind.u64.wrap (a0))))).bind fun t489 => (some t489)) else ((natural_FromUint.f k (IntKind.u64.wrap (a0))).bind fun t490 => (some t490))
theorem rational_magnitude.mono : ∀ a0 k, LeO (rational_magnitude.f k a0) (rational_magnitude.f (k + 1) a0) := by
 intro a0 k
 unfold rational_magnitude.f
 repeat' first
   | (with_reducible exact natural_FromUint.mono _ _)
   | (with_reducible exact LeO.refl _)
   | (with_reducible exact LeO.none _)
   | (with_reducible refine LeO.ite ?_ ?_)
   | (with_reducible refine LeO.bind ?_ (fun _ => ?_))
   | exact natural_FromUint.mono _ _
   | exact LeO.none _
   | refine LeO.ite ?_ ?_
   | refine LeO.bind ?_ (fun _ => ?_)
set_option maxHeartbeats 8000000 in
set_option maxRecDepth 100000 in
theorem rational_magnitude.calls (k : Nat) (a0 : Int) (r : ByteArray) (w : World) (h : rational_magnitude.f k a0 = some r) :
  Calls Tryd.prog 53 #[.int .i64 a0] w fun e w' => e = .returned (.string r) ∧ Below w.heap.size w w' := by
 have HB := A0_.mk (Below.refl w.heap.size w)
 have H : (if a0 < 0 then ((natural_FromUint.f k (IntKind.u64.wrap (-(IntKind.u64.wrap (a0))))).bind fun t489 => (some t489)) else ((natural_FromUint.f k (IntKind.u64.wrap (a0))).bind fun t490 => (some t490))) = some r := h
 clear h
 by_cases c2 : a0 < 0
 ·rw [if_pos c2] at H
  have c2b0 : decide (a0 < 0) = true := decide_eq_true c2
  clear c2
  replace H := Option.bind_eq_some_iff.mp H
  obtain ⟨t489, A30, H⟩ := H
  replace H : (some t489) = some r := H
  have A3 := A0_.mk A30
  clear A30
  obtain rfl := Option.some.inj H
  go_enter Tryd.func53, Tryd.ntmps53
  go_wp2_with (first | ((with_reducible refine gC_ (f := 72) rfl ?_); refine goesL_ (some 8) rfl rfl Tryd.func72 (by kernel_rfl) rfl #[.int .u64 (IntKind.u64.wrap (-(IntKind.u64.wrap (a0))))] rfl (by (try simp only [List.map_toArray, List.map_cons, List.map_nil]); first | done | rfl | (simp only [List.length_drop, List.length_take]; rfl)) ?_; (with_reducible refine (natural_FromUint.calls k (IntKind.u64.wrap (-(IntKind.u64.wrap (a0)))) t489 _ A3.out).mono ?_); rintro e w4 ⟨rfl, hb⟩; refine ⟨_, rfl, ?_⟩; have n0_ := A0_.mk (bT_ (by repeat (first | (with_reducible first | exact HB.out | apply bA_ | apply pB_ | apply b1_) | exact HB.out)) hb); clear HB; have HB := n0_; clear n0_; (try clear hb); (try clear hb2); (try clear hk); (try clear hi)))
  go_ret
  exact ⟨by first | rfl | (simp [errW_none, errW_some] <;> rfl) | (simp [*, errW_none, errW_some] <;> rfl), by repeat (first | (with_reducible first | exact HB.out | apply bA_ | apply pB_ | apply b1_) | exact HB.out)⟩
 ·rw [if_neg c2] at H
  have c2b0 : decide (a0 < 0) = false := decide_eq_false c2
  clear c2
  replace H := Option.bind_eq_some_iff.mp H
  obtain ⟨t490, A50, H⟩ := H
  replace H : (some t490) = some r := H
  have A5 := A0_.mk A50
  clear A50
  obtain rfl := Option.some.inj H
  go_enter Tryd.func53, Tryd.ntmps53
  go_wp2_with (first | ((with_reducible refine gC_ (f := 72) rfl ?_); refine goesL_ (some 11) rfl rfl Tryd.func72 (by kernel_rfl) rfl #[.int .u64 (IntKind.u64.wrap (a0))] rfl (by (try simp only [List.map_toArray, List.map_cons, List.map_nil]); first | done | rfl | (simp only [List.length_drop, List.length_take]; rfl)) ?_; (with_reducible refine (natural_FromUint.calls k (IntKind.u64.wrap (a0)) t490 _ A5.out).mono ?_); rintro e w6 ⟨rfl, hb⟩; refine ⟨_, rfl, ?_⟩; have n0_ := A0_.mk (bT_ (by repeat (first | (with_reducible first | exact HB.out | apply bA_ | apply pB_ | apply b1_) | exact HB.out)) hb); clear HB; have HB := n0_; clear n0_; (try clear hb); (try clear hb2); (try clear hk); (try clear hi)))
  go_ret
  exact ⟨by first | rfl | (simp [errW_none, errW_some] <;> rfl) | (simp [*, errW_none, errW_some] <;> rfl), by repeat (first | (with_reducible first | exact HB.out | apply bA_ | apply pB_ | apply b1_) | exact HB.out)⟩
def bits_Len32.f (a0 : Int) : Option (Int) := if a0 ≥ 65536 then (if (a0 / 65536) ≥ 256 then (if 0 ≤ (((a0 / 65536) / 256) % 256) then (if (((a0 / 65536) / 256) % 256) < 256 then (some (wrap64 ((16 + 8) + (wrap64 (bt (⟨#[0, 1, 2, 2, 3, 3, 3, 3, 4, 4, 4, 4, 4, 4, 4, 4, 5, 5, 5, 5, 5, 5, 5, 5, 5, 5, 5, 5, 5, 5, 5, 5, 6, 6, 6, 6, 6, 6, 6, 6, 6, 6, 6, 6, 6, 6, 6, 6, 6, 6, 6, 6, 6, 6, 6, 6, 6, 6, 6, 6, 6, 6, 6, 6, 7, 7, 7, 7, 7, 7, 7, 7, 7, 7, 7, 7, 7, 7, 7, 7, 7, 7, 7, 7, 7, 7, 7, 7, 7, 7, 7, 7, 7, 7, 7, 7, 7, 7, 7, 7, 7, 7, 7, 7, 7, 7, 7, 7, 7, 7, 7, 7, 7, 7, 7, 7, 7, 7, 7, 7, 7, 7, 7, 7, 7, 7, 7, 7, 8, 8, 8, 8, 8, 8, 8, 8, 8, 8, 8, 8, 8, 8, 8, 8, 8, 8, 8, 8, 8, 8, 8, 8, 8, 8, 8, 8, 8, 8, 8, 8, 8, 8, 8, 8, 8, 8, 8, 8, 8, 8, 8, 8, 8, 8, 8, 8, 8, 8, 8, 8, 8, 8, 8, 8, 8, 8, 8, 8, 8, 8, 8, 8, 8, 8, 8, 8, 8, 8, 8, 8, 8, 8, 8, 8, 8, 8, 8, 8, 8, 8, 8, 8, 8, 8, 8, 8, 8, 8, 8, 8, 8, 8, 8, 8, 8, 8, 8, 8, 8, 8, 8, 8, 8, 8, 8, 8, 8, 8, 8, 8, 8, 8, 8, 8, 8, 8, 8, 8, 8, 8, 8, 8, 8, 8, 8, 8]⟩ : ByteArray) (((a0 / 65536) / 256) % 256)))))) else (none)) else (none)) else (if 0 ≤ ((a0 / 65536) % 256) then (if ((a0 / 65536) % 256) < 256 then (some (wrap64 (16 + (wrap64 (bt (⟨#[0, 1, 2, 2, 3, 3, 3, 3, 4, 4, 4, 4, 4, 4, 4, 4, 5, 5, 5, 5, 5, 5, 5, 5, 5, 5, 5, 5, 5, 5, 5, 5, 6, 6, 6, 6, 6, 6, 6, 6, 6, 6, 6, 6, 6, 6, 6, 6, 6, 6, 6, 6, 6, 6, 6, 6, 6, 6, 6, 6, 6, 6, 6, 6, 7, 7, 7, 7, 7, 7, 7, 7, 7, 7, 7, 7, 7, 7, 7, 7, 7, 7, 7, 7, 7, 7, 7, 7, 7, 7, 7, 7, 7, 7, 7, 7, 7, 7, 7, 7, 7, 7, 7, 7, 7, 7, 7, 7, 7, 7, 7, 7, 7, 7, 7, 7, 7, 7, 7, 7, 7, 7, 7, 7, 7, 7, 7, 7, 8, 8, 8, 8, 8, 8, 8, 8, 8, 8, 8, 8, 8, 8, 8, 8, 8, 8, 8, 8, 8, 8, 8, 8, 8, 8, 8, 8, 8, 8, 8, 8, 8, 8, 8, 8, 8, 8, 8, 8, 8, 8, 8, 8, 8, 8, 8, 8, 8, 8, 8, 8, 8, 8, 8, 8, 8, 8, 8, 8, 8, 8, 8, 8, 8, 8, 8, 8, 8, 8, 8, 8, 8, 8, 8, 8, 8, 8, 8, 8, 8, 8, 8, 8, 8, 8, 8, 8, 8, 8, 8, 8, 8, 8, 8, 8, 8, 8, 8, 8, 8, 8, 8, 8, 8, 8, 8, 8, 8, 8, 8, 8, 8, 8, 8, 8, 8, 8, 8, 8, 8, 8, 8, 8, 8, 8, 8, 8]⟩ : ByteArray) ((a0 / 65536) % 256)))))) else (none)) else (none))) else (if a0 ≥ 256 then (if 0 ≤ ((a0 / 256) % 256) then (if ((a0 / 256) % 256) < 256 then (some (wrap64 ((0 + 8) + (wrap64 (bt (⟨#[0, 1, 2, 2, 3, 3, 3, 3, 4, 4, 4, 4, 4, 4, 4, 4, 5, 5, 5, 5, 5, 5, 5, 5, 5, 5, 5, 5, 5, 5, 5, 5, 6, 6, 6, 6, 6, 6, 6, 6, 6, 6, 6, 6, 6, 6, 6, 6, 6, 6, 6, 6, 6, 6, 6, 6, 6, 6, 6, 6, 6, 6, 6, 6, 7, 7, 7, 7, 7, 7, 7, 7, 7, 7, 7, 7, 7, 7, 7, 7, 7, 7, 7, 7, 7, 7, 7, 7, 7, 7, 7, 7, 7, 7, 7, 7, 7, 7, 7, 7, 7, 7, 7, 7, 7, 7, 7, 7, 7, 7, 7, 7, 7, 7, 7, 7, 7, 7, 7, 7, 7, 7, 7, 7, 7, 7, 7, 7, 8, 8, 8, 8, 8, 8, 8, 8, 8, 8, 8, 8, 8, 8, 8, 8, 8, 8, 8, 8, 8, 8, 8, 8, 8, 8, 8, 8, 8, 8, 8, 8, 8, 8, 8, 8, 8, 8, 8, 8, 8, 8, 8, 8, 8, 8, 8, 8, 8, 8, 8, 8, 8, 8, 8, 8, 8, 8, 8, 8, 8, 8, 8, 8, 8, 8, 8, 8, 8, 8, 8, 8, 8, 8, 8, 8, 8, 8, 8, 8, 8, 8, 8, 8, 8, 8, 8, 8, 8, 8, 8, 8, 8, 8, 8, 8, 8, 8, 8, 8, 8, 8, 8, 8, 8, 8, 8, 8, 8, 8, 8, 8, 8, 8, 8, 8, 8, 8, 8, 8, 8, 8, 8, 8, 8, 8, 8, 8]⟩ : ByteArray) ((a0 / 256) % 256)))))) else (none)) else (none)) else (if 0 ≤ ((a0) % 256) then (if ((a0) % 256) < 256 then (some (wrap64 (0 + (wrap64 (bt (⟨#[0, 1, 2, 2, 3, 3, 3, 3, 4, 4, 4, 4, 4, 4, 4, 4, 5, 5, 5, 5, 5, 5, 5, 5, 5, 5, 5, 5, 5, 5, 5, 5, 6, 6, 6, 6, 6, 6, 6, 6, 6, 6, 6, 6, 6, 6, 6, 6, 6, 6, 6, 6, 6, 6, 6, 6, 6, 6, 6, 6, 6, 6, 6, 6, 7, 7, 7, 7, 7, 7, 7, 7, 7, 7, 7, 7, 7, 7, 7, 7, 7, 7, 7, 7, 7, 7, 7, 7, 7, 7, 7, 7, 7, 7, 7, 7, 7, 7, 7, 7, 7, 7, 7, 7, 7, 7, 7, 7, 7, 7, 7, 7, 7, 7, 7, 7, 7, 7, 7, 7, 7, 7, 7, 7, 7, 7, 7, 7, 8, 8, 8, 8, 8, 8, 8, 8, 8, 8, 8, 8, 8, 8, 8, 8, 8, 8, 8, 8, 8, 8, 8, 8, 8, 8, 8, 8, 8, 8, 8, 8, 8, 8, 8, 8, 8, 8, 8, 8, 8, 8, 8, 8, 8, 8, 8, 8, 8, 8, 8, 8, 8, 8, 8, 8, 8, 8, 8, 8, 8, 8, 8, 8, 8, 8, 8, 8, 8, 8, 8, 8, 8, 8, 8, 8, 8, 8, 8, 8, 8, 8, 8, 8, 8, 8, 8, 8, 8, 8, 8, 8, 8, 8, 8, 8, 8, 8, 8, 8, 8, 8, 8, 8, 8, 8, 8, 8, 8, 8, 8, 8, 8, 8, 8, 8, 8, 8, 8, 8, 8, 8, 8, 8, 8, 8, 8, 8]⟩ : ByteArray) ((a0) % 256)))))) else (none)) else (none)))
set_option maxHeartbeats 8000000 in
set_option maxRecDepth 100000 in
theorem bits_Len32.calls (a0 : Int) (r : Int) (w : World) (h : bits_Len32.f a0 = some r) :
  Calls Tryd.prog 119 #[.int .u32 a0] w fun e w' => e = .returned (.int .i64 r) ∧ Drawn0 w w' := by
 have H : (if a0 ≥ 65536 then (if (a0 / 65536) ≥ 256 then (if 0 ≤ (((a0 / 65536) / 256) % 256) then (if (((a0 / 65536) / 256) % 256) < 256 then (some (wrap64 ((16 + 8) + (wrap64 (bt (⟨#[0, 1, 2, 2, 3, 3, 3, 3, 4, 4, 4, 4, 4, 4, 4, 4, 5, 5, 5, 5, 5, 5, 5, 5, 5, 5, 5, 5, 5, 5, 5, 5, 6, 6, 6, 6, 6, 6, 6, 6, 6, 6, 6, 6, 6, 6, 6, 6, 6, 6, 6, 6, 6, 6, 6, 6, 6, 6, 6, 6, 6, 6, 6, 6, 7, 7, 7, 7, 7, 7, 7, 7, 7, 7, 7, 7, 7, 7, 7, 7, 7, 7, 7, 7, 7, 7, 7, 7, 7, 7, 7, 7, 7, 7, 7, 7, 7, 7, 7, 7, 7, 7, 7, 7, 7, 7, 7, 7, 7, 7, 7, 7, 7, 7, 7, 7, 7, 7, 7, 7, 7, 7, 7, 7, 7, 7, 7, 7, 8, 8, 8, 8, 8, 8, 8, 8, 8, 8, 8, 8, 8, 8, 8, 8, 8, 8, 8, 8, 8, 8, 8, 8, 8, 8, 8, 8, 8, 8, 8, 8, 8, 8, 8, 8, 8, 8, 8, 8, 8, 8, 8, 8, 8, 8, 8, 8, 8, 8, 8, 8, 8, 8, 8, 8, 8, 8, 8, 8, 8, 8, 8, 8, 8, 8, 8, 8, 8, 8, 8, 8, 8, 8, 8, 8, 8, 8, 8, 8, 8, 8, 8, 8, 8, 8, 8, 8, 8, 8, 8, 8, 8, 8, 8, 8, 8, 8, 8, 8, 8, 8, 8, 8, 8, 8, 8, 8, 8, 8, 8, 8, 8, 8, 8, 8, 8, 8, 8, 8, 8, 8, 8, 8, 8, 8, 8, 8]⟩ : ByteArray) (((a0 / 65536) / 256) % 256)))))) else (none)) else (none)) else (if 0 ≤ ((a0 / 65536) % 256) then (if ((a0 / 65536) % 256) < 256 then (some (wrap64 (16 + (wrap64 (bt (⟨#[0, 1, 2, 2, 3, 3, 3, 3, 4, 4, 4, 4, 4, 4, 4, 4, 5, 5, 5, 5, 5, 5, 5, 5, 5, 5, 5, 5, 5, 5, 5, 5, 6, 6, 6, 6, 6, 6, 6, 6, 6, 6, 6, 6, 6, 6, 6, 6, 6, 6, 6, 6, 6, 6, 6, 6, 6, 6, 6, 6, 6, 6, 6, 6, 7, 7, 7, 7, 7, 7, 7, 7, 7, 7, 7, 7, 7, 7, 7, 7, 7, 7, 7, 7, 7, 7, 7, 7, 7, 7, 7, 7, 7, 7, 7, 7, 7, 7, 7, 7, 7, 7, 7, 7, 7, 7, 7, 7, 7, 7, 7, 7, 7, 7, 7, 7, 7, 7, 7, 7, 7, 7, 7, 7, 7, 7, 7, 7, 8, 8, 8, 8, 8, 8, 8, 8, 8, 8, 8, 8, 8, 8, 8, 8, 8, 8, 8, 8, 8, 8, 8, 8, 8, 8, 8, 8, 8, 8, 8, 8, 8, 8, 8, 8, 8, 8, 8, 8, 8, 8, 8, 8, 8, 8, 8, 8, 8, 8, 8, 8, 8, 8, 8, 8, 8, 8, 8, 8, 8, 8, 8, 8, 8, 8, 8, 8, 8, 8, 8, 8, 8, 8, 8, 8, 8, 8, 8, 8, 8, 8, 8, 8, 8, 8, 8, 8, 8, 8, 8, 8, 8, 8, 8, 8, 8, 8, 8, 8, 8, 8, 8, 8, 8, 8, 8, 8, 8, 8, 8, 8, 8, 8, 8, 8, 8, 8, 8, 8, 8, 8, 8, 8, 8, 8, 8, 8]⟩ : ByteArray) ((a0 / 65536) % 256)))))) else (none)) else (none))) else (if a0 ≥ 256 then (if 0 ≤ ((a0 / 256) % 256) then (if ((a0 / 256) % 256) < 256 then (some (wrap64 ((0 + 8) + (wrap64 (bt (⟨#[0, 1, 2, 2, 3, 3, 3, 3, 4, 4, 4, 4, 4, 4, 4, 4, 5, 5, 5, 5, 5, 5, 5, 5, 5, 5, 5, 5, 5, 5, 5, 5, 6, 6, 6, 6, 6, 6, 6, 6, 6, 6, 6, 6, 6, 6, 6, 6, 6, 6, 6, 6, 6, 6, 6, 6, 6, 6, 6, 6, 6, 6, 6, 6, 7, 7, 7, 7, 7, 7, 7, 7, 7, 7, 7, 7, 7, 7, 7, 7, 7, 7, 7, 7, 7, 7, 7, 7, 7, 7, 7, 7, 7, 7, 7, 7, 7, 7, 7, 7, 7, 7, 7, 7, 7, 7, 7, 7, 7, 7, 7, 7, 7, 7, 7, 7, 7, 7, 7, 7, 7, 7, 7, 7, 7, 7, 7, 7, 8, 8, 8, 8, 8, 8, 8, 8, 8, 8, 8, 8, 8, 8, 8, 8, 8, 8, 8, 8, 8, 8, 8, 8, 8, 8, 8, 8, 8, 8, 8, 8, 8, 8, 8, 8, 8, 8, 8, 8, 8, 8, 8, 8, 8, 8, 8, 8, 8, 8, 8, 8, 8, 8, 8, 8, 8, 8, 8, 8, 8, 8, 8, 8, 8, 8, 8, 8, 8, 8, 8, 8, 8, 8, 8, 8, 8, 8, 8, 8, 8, 8, 8, 8, 8, 8, 8, 8, 8, 8, 8, 8, 8, 8, 8, 8, 8, 8, 8, 8, 8, 8, 8, 8, 8, 8, 8, 8, 8, 8, 8, 8, 8, 8, 8, 8, 8, 8, 8, 8, 8, 8, 8, 8, 8, 8, 8, 8]⟩ : ByteArray) ((a0 / 256) % 256)))))) else (none)) else (none)) else (if 0 ≤ ((a0) % 256) then (if ((a0) % 256) < 256 then (some (wrap64 (0 + (wrap64 (bt (⟨#[0, 1, 2, 2, 3, 3, 3, 3, 4, 4, 4, 4, 4, 4, 4, 4, 5, 5, 5, 5, 5, 5, 5, 5, 5, 5, 5, 5, 5, 5, 5, 5, 6, 6, 6, 6, 6, 6, 6, 6, 6, 6, 6, 6, 6, 6, 6, 6, 6, 6, 6, 6, 6, 6, 6, 6, 6, 6, 6, 6, 6, 6, 6, 6, 7, 7, 7, 7, 7, 7, 7, 7, 7, 7, 7, 7, 7, 7, 7, 7, 7, 7, 7, 7, 7, 7, 7, 7, 7, 7, 7, 7, 7, 7, 7, 7, 7, 7, 7, 7, 7, 7, 7, 7, 7, 7, 7, 7, 7, 7, 7, 7, 7, 7, 7, 7, 7, 7, 7, 7, 7, 7, 7, 7, 7, 7, 7, 7, 8, 8, 8, 8, 8, 8, 8, 8, 8, 8, 8, 8, 8, 8, 8, 8, 8, 8, 8, 8, 8, 8, 8, 8, 8, 8, 8, 8, 8, 8, 8, 8, 8, 8, 8, 8, 8, 8, 8, 8, 8, 8, 8, 8, 8, 8, 8, 8, 8, 8, 8, 8, 8, 8, 8, 8, 8, 8, 8, 8, 8, 8, 8, 8, 8, 8, 8, 8, 8, 8, 8, 8, 8, 8, 8, 8, 8, 8, 8, 8, 8, 8, 8, 8, 8, 8, 8, 8, 8, 8, 8, 8, 8, 8, 8, 8, 8, 8, 8, 8, 8, 8, 8, 8, 8, 8, 8, 8, 8, 8, 8, 8, 8, 8, 8, 8, 8, 8, 8, 8, 8, 8, 8, 8, 8, 8, 8, 8]⟩ : ByteArray) ((a0) % 256)))))) else (none)) else (none)))) = some r := h
 clear h
 by_cases c2 : a0 ≥ 65536
 ·rw [if_pos c2] at H
  have c2b0 : decide (65536 ≤ a0) = true := decide_eq_true c2
  clear c2
  by_cases c3 : (a0 / 65536) ≥ 256
  ·rw [if_pos c3] at H
   have c3b0 : decide (256 ≤ (a0 / 65536)) = true := decide_eq_true c3
   clear c3
   obtain ⟨ji4, hji4⟩ : ∃ j_ : Int, (((a0 / 65536) / 256) % 256) = j_ := ⟨_, rfl⟩
   replace H : (if 0 ≤ (ji4) then (if (ji4) < 256 then (some (wrap64 ((16 + 8) + (wrap64 (bt (⟨#[0, 1, 2, 2, 3, 3, 3, 3, 4, 4, 4, 4, 4, 4, 4, 4, 5, 5, 5, 5, 5, 5, 5, 5, 5, 5, 5, 5, 5, 5, 5, 5, 6, 6, 6, 6, 6, 6, 6, 6, 6, 6, 6, 6, 6, 6, 6, 6, 6, 6, 6, 6, 6, 6, 6, 6, 6, 6, 6, 6, 6, 6, 6, 6, 7, 7, 7, 7, 7, 7, 7, 7, 7, 7, 7, 7, 7, 7, 7, 7, 7, 7, 7, 7, 7, 7, 7, 7, 7, 7, 7, 7, 7, 7, 7, 7, 7, 7, 7, 7, 7, 7, 7, 7, 7, 7, 7, 7, 7, 7, 7, 7, 7, 7, 7, 7, 7, 7, 7, 7, 7, 7, 7, 7, 7, 7, 7, 7, 8, 8, 8, 8, 8, 8, 8, 8, 8, 8, 8, 8, 8, 8, 8, 8, 8, 8, 8, 8, 8, 8, 8, 8, 8, 8, 8, 8, 8, 8, 8, 8, 8, 8, 8, 8, 8, 8, 8, 8, 8, 8, 8, 8, 8, 8, 8, 8, 8, 8, 8, 8, 8, 8, 8, 8, 8, 8, 8, 8, 8, 8, 8, 8, 8, 8, 8, 8, 8, 8, 8, 8, 8, 8, 8, 8, 8, 8, 8, 8, 8, 8, 8, 8, 8, 8, 8, 8, 8, 8, 8, 8, 8, 8, 8, 8, 8, 8, 8, 8, 8, 8, 8, 8, 8, 8, 8, 8, 8, 8, 8, 8, 8, 8, 8, 8, 8, 8, 8, 8, 8, 8, 8, 8, 8, 8, 8, 8]⟩ : ByteArray) (ji4)))))) else (none)) else (none)) = some r := by first | (rw [hji4] at H; exact H) | (simp only [hji4] at H ⊢; exact H)
   by_cases c5 : 0 ≤ (ji4)
   ·rw [if_pos c5] at H
    have c5b0 : decide (0 ≤ (ji4)) = true := decide_eq_true c5
    clear c5
    by_cases c6 : (ji4) < 256
    ·rw [if_pos c6] at H
     have c6b0 : decide ((ji4) < 256) = true := decide_eq_true c6
     clear c6
     obtain rfl := Option.some.inj H
     have p7 : 0 ≤ ((ji4) : Int) := of_decide_eq_true (by first | (with_reducible assumption) | assumption)
     have q7 : (ji4) < (256 : Int) := of_decide_eq_true (by first | (with_reducible assumption) | assumption)
     have hx7 := bt_at (⟨#[0, 1, 2, 2, 3, 3, 3, 3, 4, 4, 4, 4, 4, 4, 4, 4, 5, 5, 5, 5, 5, 5, 5, 5, 5, 5, 5, 5, 5, 5, 5, 5, 6, 6, 6, 6, 6, 6, 6, 6, 6, 6, 6, 6, 6, 6, 6, 6, 6, 6, 6, 6, 6, 6, 6, 6, 6, 6, 6, 6, 6, 6, 6, 6, 7, 7, 7, 7, 7, 7, 7, 7, 7, 7, 7, 7, 7, 7, 7, 7, 7, 7, 7, 7, 7, 7, 7, 7, 7, 7, 7, 7, 7, 7, 7, 7, 7, 7, 7, 7, 7, 7, 7, 7, 7, 7, 7, 7, 7, 7, 7, 7, 7, 7, 7, 7, 7, 7, 7, 7, 7, 7, 7, 7, 7, 7, 7, 7, 8, 8, 8, 8, 8, 8, 8, 8, 8, 8, 8, 8, 8, 8, 8, 8, 8, 8, 8, 8, 8, 8, 8, 8, 8, 8, 8, 8, 8, 8, 8, 8, 8, 8, 8, 8, 8, 8, 8, 8, 8, 8, 8, 8, 8, 8, 8, 8, 8, 8, 8, 8, 8, 8, 8, 8, 8, 8, 8, 8, 8, 8, 8, 8, 8, 8, 8, 8, 8, 8, 8, 8, 8, 8, 8, 8, 8, 8, 8, 8, 8, 8, 8, 8, 8, 8, 8, 8, 8, 8, 8, 8, 8, 8, 8, 8, 8, 8, 8, 8, 8, 8, 8, 8, 8, 8, 8, 8, 8, 8, 8, 8, 8, 8, 8, 8, 8, 8, 8, 8, 8, 8, 8, 8, 8, 8, 8, 8]⟩ : ByteArray) (ji4)
     replace p7 := eq_true p7
     replace q7 := eq_true q7
     go_enter Tryd.func119, Tryd.ntmps119
     go_wp2
     go_ret
     exact ⟨by first | rfl | (simp; done) | (simp only [← hji4] <;> (first | rfl | simp)) | (simp [*]; done), by repeat (first | exact Drawn0.refl _ | apply Drawn0.step)⟩
    ·rw [if_neg c6] at H
     exact absurd H (by simp)
   ·rw [if_neg c5] at H
    exact absurd H (by simp)
  ·rw [if_neg c3] at H
   have c3b0 : decide (256 ≤ (a0 / 65536)) = false := decide_eq_false c3
   clear c3
   obtain ⟨ji8, hji8⟩ : ∃ j_ : Int, ((a0 / 65536) % 256) = j_ := ⟨_, rfl⟩
   replace H : (if 0 ≤ (ji8) then (if (ji8) < 256 then (some (wrap64 (16 + (wrap64 (bt (⟨#[0, 1, 2, 2, 3, 3, 3, 3, 4, 4, 4, 4, 4, 4, 4, 4, 5, 5, 5, 5, 5, 5, 5, 5, 5, 5, 5, 5, 5, 5, 5, 5, 6, 6, 6, 6, 6, 6, 6, 6, 6, 6, 6, 6, 6, 6, 6, 6, 6, 6, 6, 6, 6, 6, 6, 6, 6, 6, 6, 6, 6, 6, 6, 6, 7, 7, 7, 7, 7, 7, 7, 7, 7, 7, 7, 7, 7, 7, 7, 7, 7, 7, 7, 7, 7, 7, 7, 7, 7, 7, 7, 7, 7, 7, 7, 7, 7, 7, 7, 7, 7, 7, 7, 7, 7, 7, 7, 7, 7, 7, 7, 7, 7, 7, 7, 7, 7, 7, 7, 7, 7, 7, 7, 7, 7, 7, 7, 7, 8, 8, 8, 8, 8, 8, 8, 8, 8, 8, 8, 8, 8, 8, 8, 8, 8, 8, 8, 8, 8, 8, 8, 8, 8, 8, 8, 8, 8, 8, 8, 8, 8, 8, 8, 8, 8, 8, 8, 8, 8, 8, 8, 8, 8, 8, 8, 8, 8, 8, 8, 8, 8, 8, 8, 8, 8, 8, 8, 8, 8, 8, 8, 8, 8, 8, 8, 8, 8, 8, 8, 8, 8, 8, 8, 8, 8, 8, 8, 8, 8, 8, 8, 8, 8, 8, 8, 8, 8, 8, 8, 8, 8, 8, 8, 8, 8, 8, 8, 8, 8, 8, 8, 8, 8, 8, 8, 8, 8, 8, 8, 8, 8, 8, 8, 8, 8, 8, 8, 8, 8, 8, 8, 8, 8, 8, 8, 8]⟩ : ByteArray) (ji8)))))) else (none)) else (none)) = some r := by first | (rw [hji8] at H; exact H) | (simp only [hji8] at H ⊢; exact H)
   by_cases c9 : 0 ≤ (ji8)
   ·rw [if_pos c9] at H
    have c9b0 : decide (0 ≤ (ji8)) = true := decide_eq_true c9
    clear c9
    by_cases c10 : (ji8) < 256
    ·rw [if_pos c10] at H
     have c10b0 : decide ((ji8) < 256) = true := decide_eq_true c10
     clear c10
     obtain rfl := Option.some.inj H
     have p11 : 0 ≤ ((ji8) : Int) := of_decide_eq_true (by first | (with_reducible assumption) | assumption)
     have q11 : (ji8) < (256 : Int) := of_decide_eq_true (by first | (with_reducible assumption) | assumption)
     have hx11 := bt_at (⟨#[0, 1, 2, 2, 3, 3, 3, 3, 4, 4, 4, 4, 4, 4, 4, 4, 5, 5, 5, 5, 5, 5, 5, 5, 5, 5, 5, 5, 5, 5, 5, 5, 6, 6, 6, 6, 6, 6, 6, 6, 6, 6, 6, 6, 6, 6, 6, 6, 6, 6, 6, 6, 6, 6, 6, 6, 6, 6, 6, 6, 6, 6, 6, 6, 7, 7, 7, 7, 7, 7, 7, 7, 7, 7, 7, 7, 7, 7, 7, 7, 7, 7, 7, 7, 7, 7, 7, 7, 7, 7, 7, 7, 7, 7, 7, 7, 7, 7, 7, 7, 7, 7, 7, 7, 7, 7, 7, 7, 7, 7, 7, 7, 7, 7, 7, 7, 7, 7, 7, 7, 7, 7, 7, 7, 7, 7, 7, 7, 8, 8, 8, 8, 8, 8, 8, 8, 8, 8, 8, 8, 8, 8, 8, 8, 8, 8, 8, 8, 8, 8, 8, 8, 8, 8, 8, 8, 8, 8, 8, 8, 8, 8, 8, 8, 8, 8, 8, 8, 8, 8, 8, 8, 8, 8, 8, 8, 8, 8, 8, 8, 8, 8, 8, 8, 8, 8, 8, 8, 8, 8, 8, 8, 8, 8, 8, 8, 8, 8, 8, 8, 8, 8, 8, 8, 8, 8, 8, 8, 8, 8, 8, 8, 8, 8, 8, 8, 8, 8, 8, 8, 8, 8, 8, 8, 8, 8, 8, 8, 8, 8, 8, 8, 8, 8, 8, 8, 8, 8, 8, 8, 8, 8, 8, 8, 8, 8, 8, 8, 8, 8, 8, 8, 8, 8, 8, 8]⟩ : ByteArray) (ji8)
     replace p11 := eq_true p11
     replace q11 := eq_true q11
     go_enter Tryd.func119, Tryd.ntmps119
     go_wp2
     go_ret
     exact ⟨by first | rfl | (simp; done) | (simp only [← hji8] <;> (first | rfl | simp)) | (simp [*]; done), by repeat (first | exact Drawn0.refl _ | apply Drawn0.step)⟩
    ·rw [if_neg c10] at H
     exact absurd H (by simp)
   ·rw [if_neg c9] at H
    exact absurd H (by simp)
 ·rw [if_neg c2] at H
  have c2b0 : decide (65536 ≤ a0) = false := decide_eq_false c2
  clear c2
  by_cases c12 : a0 ≥ 256
  ·rw [if_pos c12] at H
   have c12b0 : decide (256 ≤ a0) = true := decide_eq_true c12
   clear c12
   obtain ⟨ji13, hji13⟩ : ∃ j_ : Int, ((a0 / 256) % 256) = j_ := ⟨_, rfl⟩
   replace H : (if 0 ≤ (ji13) then (if (ji13) < 256 then (some (wrap64 ((0 + 8) + (wrap64 (bt (⟨#[0, 1, 2, 2, 3, 3, 3, 3, 4, 4, 4, 4, 4, 4, 4, 4, 5, 5, 5, 5, 5, 5, 5, 5, 5, 5, 5, 5, 5, 5, 5, 5, 6, 6, 6, 6, 6, 6, 6, 6, 6, 6, 6, 6, 6, 6, 6, 6, 6, 6, 6, 6, 6, 6, 6, 6, 6, 6, 6, 6, 6, 6, 6, 6, 7, 7, 7, 7, 7, 7, 7, 7, 7, 7, 7, 7, 7, 7, 7, 7, 7, 7, 7, 7, 7, 7, 7, 7, 7, 7, 7, 7, 7, 7, 7, 7, 7, 7, 7, 7, 7, 7, 7, 7, 7, 7, 7, 7, 7, 7, 7, 7, 7, 7, 7, 7, 7, 7, 7, 7, 7, 7, 7, 7, 7, 7, 7, 7, 8, 8, 8, 8, 8, 8, 8, 8, 8, 8, 8, 8, 8, 8, 8, 8, 8, 8, 8, 8, 8, 8, 8, 8, 8, 8, 8, 8, 8, 8, 8, 8, 8, 8, 8, 8, 8, 8, 8, 8, 8, 8, 8, 8, 8, 8, 8, 8, 8, 8, 8, 8, 8, 8, 8, 8, 8, 8, 8, 8, 8, 8, 8, 8, 8, 8, 8, 8, 8, 8, 8, 8, 8, 8, 8, 8, 8, 8, 8, 8, 8, 8, 8, 8, 8, 8, 8, 8, 8, 8, 8, 8, 8, 8, 8, 8, 8, 8, 8, 8, 8, 8, 8, 8, 8, 8, 8, 8, 8, 8, 8, 8, 8, 8, 8, 8, 8, 8, 8, 8, 8, 8, 8, 8, 8, 8, 8, 8]⟩ : ByteArray) (ji13)))))) else (none)) else (none)) = some r := by first | (rw [hji13] at H; exact H) | (simp only [hji13] at H ⊢; exact H)
   by_cases c14 : 0 ≤ (ji13)
   ·rw [if_pos c14] at H
    have c14b0 : decide (0 ≤ (ji13)) = true := decide_eq_true c14
    clear c14
    by_cases c15 : (ji13) < 256
    ·rw [if_pos c15] at H
     have c15b0 : decide ((ji13) < 256) = true := decide_eq_true c15
     clear c15
     obtain rfl := Option.some.inj H
     have p16 : 0 ≤ ((ji13) : Int) := of_decide_eq_true (by first | (with_reducible assumption) | assumption)
     have q16 : (ji13) < (256 : Int) := of_decide_eq_true (by first | (with_reducible assumption) | assumption)
     have hx16 := bt_at (⟨#[0, 1, 2, 2, 3, 3, 3, 3, 4, 4, 4, 4, 4, 4, 4, 4, 5, 5, 5, 5, 5, 5, 5, 5, 5, 5, 5, 5, 5, 5, 5, 5, 6, 6, 6, 6, 6, 6, 6, 6, 6, 6, 6, 6, 6, 6, 6, 6, 6, 6, 6, 6, 6, 6, 6, 6, 6, 6, 6, 6, 6, 6, 6, 6, 7, 7, 7, 7, 7, 7, 7, 7, 7, 7, 7, 7, 7, 7, 7, 7, 7, 7, 7, 7, 7, 7, 7, 7, 7, 7, 7, 7, 7, 7, 7, 7, 7, 7, 7, 7, 7, 7, 7, 7, 7, 7, 7, 7, 7, 7, 7, 7, 7, 7, 7, 7, 7, 7, 7, 7, 7, 7, 7, 7, 7, 7, 7, 7, 8, 8, 8, 8, 8, 8, 8, 8, 8, 8, 8, 8, 8, 8, 8, 8, 8, 8, 8, 8, 8, 8, 8, 8, 8, 8, 8, 8, 8, 8, 8, 8, 8, 8, 8, 8, 8, 8, 8, 8, 8, 8, 8, 8, 8, 8, 8, 8, 8, 8, 8, 8, 8, 8, 8, 8, 8, 8, 8, 8, 8, 8, 8, 8, 8, 8, 8, 8, 8, 8, 8, 8, 8, 8, 8, 8, 8, 8, 8, 8, 8, 8, 8, 8, 8, 8, 8, 8, 8, 8, 8, 8, 8, 8, 8, 8, 8, 8, 8, 8, 8, 8, 8, 8, 8, 8, 8, 8, 8, 8, 8, 8, 8, 8, 8, 8, 8, 8, 8, 8, 8, 8, 8, 8, 8, 8, 8, 8]⟩ : ByteArray) (ji13)
     replace p16 := eq_true p16
     replace q16 := eq_true q16
     go_enter Tryd.func119, Tryd.ntmps119
     go_wp2
     go_ret
     exact ⟨by first | rfl | (simp; done) | (simp only [← hji13] <;> (first | rfl | simp)) | (simp [*]; done), by repeat (first | exact Drawn0.refl _ | apply Drawn0.step)⟩
    ·rw [if_neg c15] at H
     exact absurd H (by simp)
   ·rw [if_neg c14] at H
    exact absurd H (by simp)
  ·rw [if_neg c12] at H
   have c12b0 : decide (256 ≤ a0) = false := decide_eq_false c12
   clear c12
   obtain ⟨ji17, hji17⟩ : ∃ j_ : Int, ((a0) % 256) = j_ := ⟨_, rfl⟩
   replace H : (if 0 ≤ (ji17) then (if (ji17) < 256 then (some (wrap64 (0 + (wrap64 (bt (⟨#[0, 1, 2, 2, 3, 3, 3, 3, 4, 4, 4, 4, 4, 4, 4, 4, 5, 5, 5, 5, 5, 5, 5, 5, 5, 5, 5, 5, 5, 5, 5, 5, 6, 6, 6, 6, 6, 6, 6, 6, 6, 6, 6, 6, 6, 6, 6, 6, 6, 6, 6, 6, 6, 6, 6, 6, 6, 6, 6, 6, 6, 6, 6, 6, 7, 7, 7, 7, 7, 7, 7, 7, 7, 7, 7, 7, 7, 7, 7, 7, 7, 7, 7, 7, 7, 7, 7, 7, 7, 7, 7, 7, 7, 7, 7, 7, 7, 7, 7, 7, 7, 7, 7, 7, 7, 7, 7, 7, 7, 7, 7, 7, 7, 7, 7, 7, 7, 7, 7, 7, 7, 7, 7, 7, 7, 7, 7, 7, 8, 8, 8, 8, 8, 8, 8, 8, 8, 8, 8, 8, 8, 8, 8, 8, 8, 8, 8, 8, 8, 8, 8, 8, 8, 8, 8, 8, 8, 8, 8, 8, 8, 8, 8, 8, 8, 8, 8, 8, 8, 8, 8, 8, 8, 8, 8, 8, 8, 8, 8, 8, 8, 8, 8, 8, 8, 8, 8, 8, 8, 8, 8, 8, 8, 8, 8, 8, 8, 8, 8, 8, 8, 8, 8, 8, 8, 8, 8, 8, 8, 8, 8, 8, 8, 8, 8, 8, 8, 8, 8, 8, 8, 8, 8, 8, 8, 8, 8, 8, 8, 8, 8, 8, 8, 8, 8, 8, 8, 8, 8, 8, 8, 8, 8, 8, 8, 8, 8, 8, 8, 8, 8, 8, 8, 8, 8, 8]⟩ : ByteArray) (ji17)))))) else (none)) else (none)) = some r := by first | (rw [hji17] at H; exact H) | (simp only [hji17] at H ⊢; exact H)
   by_cases c18 : 0 ≤ (ji17)
   ·rw [if_pos c18] at H
    have c18b0 : decide (0 ≤ (ji17)) = true := decide_eq_true c18
    clear c18
    by_cases c19 : (ji17) < 256
    ·rw [if_pos c19] at H
     have c19b0 : decide ((ji17) < 256) = true := decide_eq_true c19
     clear c19
     obtain rfl := Option.some.inj H
     have p20 : 0 ≤ ((ji17) : Int) := of_decide_eq_true (by first | (with_reducible assumption) | assumption)
     have q20 : (ji17) < (256 : Int) := of_decide_eq_true (by first | (with_reducible assumption) | assumption)
     have hx20 := bt_at (⟨#[0, 1, 2, 2, 3, 3, 3, 3, 4, 4, 4, 4, 4, 4, 4, 4, 5, 5, 5, 5, 5, 5, 5, 5, 5, 5, 5, 5, 5, 5, 5, 5, 6, 6, 6, 6, 6, 6, 6, 6, 6, 6, 6, 6, 6, 6, 6, 6, 6, 6, 6, 6, 6, 6, 6, 6, 6, 6, 6, 6, 6, 6, 6, 6, 7, 7, 7, 7, 7, 7, 7, 7, 7, 7, 7, 7, 7, 7, 7, 7, 7, 7, 7, 7, 7, 7, 7, 7, 7, 7, 7, 7, 7, 7, 7, 7, 7, 7, 7, 7, 7, 7, 7, 7, 7, 7, 7, 7, 7, 7, 7, 7, 7, 7, 7, 7, 7, 7, 7, 7, 7, 7, 7, 7, 7, 7, 7, 7, 8, 8, 8, 8, 8, 8, 8, 8, 8, 8, 8, 8, 8, 8, 8, 8, 8, 8, 8, 8, 8, 8, 8, 8, 8, 8, 8, 8, 8, 8, 8, 8, 8, 8, 8, 8, 8, 8, 8, 8, 8, 8, 8, 8, 8, 8, 8, 8, 8, 8, 8, 8, 8, 8, 8, 8, 8, 8, 8, 8, 8, 8, 8, 8, 8, 8, 8, 8, 8, 8, 8, 8, 8, 8, 8, 8, 8, 8, 8, 8, 8, 8, 8, 8, 8, 8, 8, 8, 8, 8, 8, 8, 8, 8, 8, 8, 8, 8, 8, 8, 8, 8, 8, 8, 8, 8, 8, 8, 8, 8, 8, 8, 8, 8, 8, 8, 8, 8, 8, 8, 8, 8, 8, 8, 8, 8, 8, 8]⟩ : ByteArray) (ji17)
     replace p20 := eq_true p20
     replace q20 := eq_true q20
     go_enter Tryd.func119, Tryd.ntmps119
     go_wp2
     go_ret
     exact ⟨by first | rfl | (simp; done) | (simp only [← hji17] <;> (first | rfl | simp)) | (simp [*]; done), by repeat (first | exact Drawn0.refl _ | apply Drawn0.step)⟩
    ·rw [if_neg c19] at H
     exact absurd H (by simp)
   ·rw [if_neg c18] at H
    exact absurd H (by simp)
def bits_LeadingZeros32.f (a0 : Int) : Option (Int) := (bits_Len32.f a0).bind fun t145 => (some (wrap64 (32 - t145)))
set_option maxHeartbeats 8000000 in
set_option maxRecDepth 100000 in
theorem bits_LeadingZeros32.calls (a0 : Int) (r : Int) (w : World) (h : bits_LeadingZeros32.f a0 = some r) :
  Calls Tryd.prog 106 #[.int .u32 a0] w fun e w' => e = .returned (.int .i64 r) ∧ Drawn0 w w' := by
 have H : ((bits_Len32.f a0).bind fun t145 => (some (wrap64 (32 - t145)))) = some r := h
 clear h
 replace H := Option.bind_eq_some_iff.mp H
 obtain ⟨t145, A20, H⟩ := H
 replace H : (some (wrap64 (32 - t145))) = some r := H
 have A2 := A0_.mk A20
 clear A20
 obtain rfl := Option.some.inj H
 go_enter Tryd.func106, Tryd.ntmps106
 go_wp2_with (first | ((with_reducible refine gC_ (f := 119) rfl ?_); refine goesL_ (some 4) rfl rfl Tryd.func119 (by kernel_rfl) rfl #[.int .u32 a0] rfl (by (try simp only [List.map_toArray, List.map_cons, List.map_nil]); first | done | rfl | (simp only [List.length_drop, List.length_take]; rfl)) ?_; (with_reducible refine (bits_Len32.calls a0 t145 _ A2.out).mono ?_); rintro e w' ⟨rfl, ⟨nd, rfl⟩⟩; refine ⟨_, rfl, ?_⟩))
 go_ret
 exact ⟨by first | rfl | (simp; done) | (simp [*]; done), by repeat (first | exact Drawn0.refl _ | apply Drawn0.step)⟩
def natural_sign.f (a0 : Int) : Option (Int) := if a0 < 0 then (some (-1)) else (if a0 > 0 then (some 1) else (some 0))
set_option maxHeartbeats 8000000 in
set_option maxRecDepth 100000 in
theorem natural_sign.calls (a0 : Int) (r : Int) (w : World) (h : natural_sign.f a0 = some r) :
  Calls Tryd.prog 62 #[.int .i64 a0] w fun e w' => e = .returned (.int .i64 r) ∧ Drawn0 w w' := by
 have H : (if a0 < 0 then (some (-1)) else (if a0 > 0 then (some 1) else (some 0))) = some r := h
 clear h
 by_cases c2 : a0 < 0
 ·rw [if_pos c2] at H
  have c2b0 : decide (a0 < 0) = true := decide_eq_true c2
  clear c2
  obtain rfl := Option.some.inj H
  go_enter Tryd.func62, Tryd.ntmps62
  go_wp2
  go_ret
  exact ⟨by first | rfl | (simp; done) | (simp [*]; done), by repeat (first | exact Drawn0.refl _ | apply Drawn0.step)⟩
 ·rw [if_neg c2] at H
  have c2b0 : decide (a0 < 0) = false := decide_eq_false c2
  clear c2
  by_cases c3 : a0 > 0
  ·rw [if_pos c3] at H
   have c3b0 : decide (0 < a0) = true := decide_eq_true c3
   clear c3
   obtain rfl := Option.some.inj H
   go_enter Tryd.func62, Tryd.ntmps62
   go_wp2
   go_ret
   exact ⟨by first | rfl | (simp; done) | (simp [*]; done), by repeat (first | exact Drawn0.refl _ | apply Drawn0.step)⟩
  ·rw [if_neg c3] at H
   have c3b0 : decide (0 < a0) = false := decide_eq_false c3
   clear c3
   obtain rfl := Option.some.inj H
   go_enter Tryd.func62, Tryd.ntmps62
   go_wp2
   go_ret
   exact ⟨by first | rfl | (simp; done) | (simp [*]; done), by repeat (first | exact Drawn0.refl _ | apply Drawn0.step)⟩
def natural_compare.l0 : Nat → List Int → List Int → Int → Option (Int)
 | 0, _, _, _ => none
 | k + 1, x0, x1, x5 => if x5 ≥ 0 then (if 0 ≤ x5 then (if x5 < (x0.length : Int) then (if x5 < (x1.length : Int) then (if (rd x0 x5) = (rd x1 x5) then (natural_compare.l0 k x0 x1 (wrap64 (x5 - 1))) else (if (rd x0 x5) < (rd x1 x5) then (some (-1)) else (some 1))) else (none)) else (none)) else (none)) else (some 0)
def natural_compare.f (k : Nat) (l0 : List Int) (l1 : List Int) : Option (Int) := if (l0.length : Int) = (l1.length : Int) then (natural_compare.l0 k l0 l1 (wrap64 ((l0.length : Int) - 1))) else ((natural_sign.f (wrap64 ((l0.length : Int) - (l1.length : Int)))).bind fun t132 => (some t132))
theorem natural_compare.mono_l : ∀ k, (∀ y0 y1 y2, LeO (natural_compare.l0 k y0 y1 y2) (natural_compare.l0 (k + 1) y0 y1 y2))
 | 0 => fun _ _ _ r h => by simp [natural_compare.l0] at h
 | k + 1 => by
  have ih0 := natural_compare.mono_l k
  ·intro y0 y1 y2
   unfold natural_compare.l0
   repeat' first
   | (with_reducible exact ih0 _ _ _)
   | (with_reducible exact LeO.refl _)
   | (with_reducible exact LeO.none _)
   | (with_reducible refine LeO.ite ?_ ?_)
   | (with_reducible refine LeO.bind ?_ (fun _ => ?_))
   | exact ih0 _ _ _
   | exact LeO.none _
   | refine LeO.ite ?_ ?_
   | refine LeO.bind ?_ (fun _ => ?_)
theorem natural_compare.mono : ∀ a0 a1 k, LeO (natural_compare.f k a0 a1) (natural_compare.f (k + 1) a0 a1) := by
 intro a0 a1 k
 have ih0 := natural_compare.mono_l k
 unfold natural_compare.f
 repeat' first
   | (with_reducible exact ih0 _ _ _)
   | (with_reducible exact LeO.refl _)
   | (with_reducible exact LeO.none _)
   | (with_reducible refine LeO.ite ?_ ?_)
   | (with_reducible refine LeO.bind ?_ (fun _ => ?_))
   | exact ih0 _ _ _
   | exact LeO.none _
   | refine LeO.ite ?_ ?_
   | refine LeO.bind ?_ (fun _ => ?_)
set_option maxHeartbeats 8000000 in
set_option maxRecDepth 100000 in
theorem natural_compare.calls (k : Nat) (A0 : Option Addr) (c0 : Nat) (l0 : List Int) (A1 : Option Addr) (c1 : Nat) (l1 : List Int) (r : Int) (w : World) (hr0 : Kd.C (Kd.int .u32) w A0 l0.length l0) (hc0 : l0.length ≤ c0) (hr1 : Kd.C (Kd.int .u32) w A1 l1.length l1) (hc1 : l1.length ≤ c1) (h : natural_compare.f k l0 l1 = some r) :
  Calls Tryd.prog 81 #[.slice A0 l0.length c0, .slice A1 l1.length c1] w fun e w' => e = .returned (.int .i64 r) ∧ Drawn0 w w' := by
 have HR0 := A0_.mk hr0
 have HC0 := A0_.mk hc0
 clear hr0 hc0
 have HR1 := A0_.mk hr1
 have HC1 := A0_.mk hc1
 clear hr1 hc1
 have H : (if (l0.length : Int) = (l1.length : Int) then (natural_compare.l0 k l0 l1 (wrap64 ((l0.length : Int) - 1))) else ((natural_sign.f (wrap64 ((l0.length : Int) - (l1.length : Int)))).bind fun t132 => (some t132))) = some r := h
 clear h
 by_cases c3 : (l0.length : Int) = (l1.length : Int)
 ·rw [if_pos c3] at H
  have c3b0 : ((l0.length : Int) == (l1.length : Int)) = true := beq_iff_eq.mpr c3
  have c3b1 : ((l0.length : Int) != (l1.length : Int)) = false := bne_eq_false_iff_eq.mpr c3
  have c3b2 : (l0.length == l1.length) = true := by first | simpa using c3 | (simp at c3 ⊢; omega)
  clear c3
  have H' := A0_.mk H
  clear H
  go_enter Tryd.func81, Tryd.ntmps81
  go_wp2
  repeat (go_quiet (fail); try go_wp2)
  go_loopg [5] k (fun kq v5 w' => ∃ (x5_1 : Int), v5 = .int .i64 x5_1 ∧ A0_ (natural_compare.l0 kq l0 l1 x5_1 = some r) ∧ A0_ (kq ≤ k) ∧ Drawn0 w w')
  case atStart => exact ⟨(wrap64 ((l0.length : Int) - 1)), (by first | rfl | (simp; done) | (simp [*]; done)), H', ⟨Nat.le_refl _⟩, by repeat (first | exact Drawn0.refl _ | apply Drawn0.step)⟩
  case round =>
   clear H'
   try clear c1
   try clear p2
   try clear c3
   try clear c3b0
   try clear c3b1
   try clear c3b2
   obtain ⟨x5_1, rfl, HA, HK1, ⟨m1, rfl⟩⟩ := hrel
   cases gk with
   | zero => exact absurd HA.out (by simp [natural_compare.l0])
   | succ k1 =>
    have H := HA.out
    clear HA
    simp only [natural_compare.l0] at H
    by_cases c4 : x5_1 ≥ 0
    ·rw [if_pos c4] at H
     have c4b0 : decide (0 ≤ x5_1) = true := decide_eq_true c4
     clear c4
     by_cases c5 : 0 ≤ x5_1
     ·rw [if_pos c5] at H
      have c5b0 : decide (0 ≤ x5_1) = true := decide_eq_true c5
      clear c5
      by_cases c6 : x5_1 < (l0.length : Int)
      ·rw [if_pos c6] at H
       have c6b0 : decide (x5_1 < (l0.length : Int)) = true := decide_eq_true c6
       clear c6
       by_cases c7 : x5_1 < (l1.length : Int)
       ·rw [if_pos c7] at H
        have c7b0 : decide (x5_1 < (l1.length : Int)) = true := decide_eq_true c7
        clear c7
        by_cases c8 : (rd l0 x5_1) = (rd l1 x5_1)
        ·rw [if_pos c8] at H
         have c8b0 : ((rd l0 x5_1) == (rd l1 x5_1)) = true := beq_iff_eq.mpr c8
         have c8b1 : ((rd l0 x5_1) != (rd l1 x5_1)) = false := bne_eq_false_iff_eq.mpr c8
         clear c8
         have H' := A0_.mk H
         clear H
         have p133 : 0 ≤ (x5_1 : Int) := of_decide_eq_true (by first | (with_reducible assumption) | assumption)
         have q133 : x5_1 < (l0.length : Int) := of_decide_eq_true (by first | (with_reducible assumption) | assumption)
         obtain ⟨ad133, e133, hx133_0⟩ := Kd.at_int HR0.out x5_1 p133 q133
         cases e133
         replace p133 := eq_true p133
         replace q133 := eq_true q133
         have p134 : 0 ≤ (x5_1 : Int) := of_decide_eq_true (by first | (with_reducible assumption) | assumption)
         have q134 : x5_1 < (l1.length : Int) := of_decide_eq_true (by first | (with_reducible assumption) | assumption)
         obtain ⟨ad134, e134, hx134_0⟩ := Kd.at_int HR1.out x5_1 p134 q134
         cases e134
         replace p134 := eq_true p134
         replace q134 := eq_true q134
         go_wp2
         repeat (go_quiet (fail); try go_wp2)
         (try simp only [add_plain])
         go_roundg k1
         case measure => have := HK1.out; omega
         case rel => exact ⟨(wrap64 (x5_1 - 1)), (by first | rfl | (simp; done) | (simp [*]; done)), H', ⟨by have := HK1.out; omega⟩, by repeat (first | exact Drawn0.refl _ | apply Drawn0.step)⟩
        ·rw [if_neg c8] at H
         have c8b0 : ((rd l0 x5_1) == (rd l1 x5_1)) = false := beq_eq_false_iff_ne.mpr c8
         have c8b1 : ((rd l0 x5_1) != (rd l1 x5_1)) = true := bne_iff_ne.mpr c8
         by_cases c9 : (rd l0 x5_1) < (rd l1 x5_1)
         ·rw [if_pos c9] at H
          have c9b0 : decide ((rd l0 x5_1) < (rd l1 x5_1)) = true := decide_eq_true c9
          clear c9
          obtain rfl := Option.some.inj H
          have p133 : 0 ≤ (x5_1 : Int) := of_decide_eq_true (by first | (with_reducible assumption) | assumption)
          have q133 : x5_1 < (l0.length : Int) := of_decide_eq_true (by first | (with_reducible assumption) | assumption)
          obtain ⟨ad133, e133, hx133_0⟩ := Kd.at_int HR0.out x5_1 p133 q133
          cases e133
          replace p133 := eq_true p133
          replace q133 := eq_true q133
          have p134 : 0 ≤ (x5_1 : Int) := of_decide_eq_true (by first | (with_reducible assumption) | assumption)
          have q134 : x5_1 < (l1.length : Int) := of_decide_eq_true (by first | (with_reducible assumption) | assumption)
          obtain ⟨ad134, e134, hx134_0⟩ := Kd.at_int HR1.out x5_1 p134 q134
          cases e134
          replace p134 := eq_true p134
          replace q134 := eq_true q134
          have p135 : 0 ≤ (x5_1 : Int) := of_decide_eq_true (by first | (with_reducible assumption) | assumption)
          have q135 : x5_1 < (l0.length : Int) := of_decide_eq_true (by first | (with_reducible assumption) | assumption)
          obtain ⟨ad135, e135, hx135_0⟩ := Kd.at_int HR0.out x5_1 p135 q135
          obtain rfl : ad133 = ad135 := (by injection e135)
          replace p135 := eq_true p135
          replace q135 := eq_true q135
          have p136 : 0 ≤ (x5_1 : Int) := of_decide_eq_true (by first | (with_reducible assumption) | assumption)
          have q136 : x5_1 < (l1.length : Int) := of_decide_eq_true (by first | (with_reducible assumption) | assumption)
          obtain ⟨ad136, e136, hx136_0⟩ := Kd.at_int HR1.out x5_1 p136 q136
          obtain rfl : ad134 = ad136 := (by injection e136)
          replace p136 := eq_true p136
          replace q136 := eq_true q136
          go_wp2
          repeat (go_quiet (fail); try go_wp2)
          go_ret
          exact ⟨by first | rfl | (simp; done) | (simp [*]; done), by repeat (first | exact Drawn0.refl _ | apply Drawn0.step)⟩
         ·rw [if_neg c9] at H
          have c9b0 : decide ((rd l0 x5_1) < (rd l1 x5_1)) = false := decide_eq_false c9
          clear c9
          obtain rfl := Option.some.inj H
          have p133 : 0 ≤ (x5_1 : Int) := of_decide_eq_true (by first | (with_reducible assumption) | assumption)
          have q133 : x5_1 < (l0.length : Int) := of_decide_eq_true (by first | (with_reducible assumption) | assumption)
          obtain ⟨ad133, e133, hx133_0⟩ := Kd.at_int HR0.out x5_1 p133 q133
          cases e133
          replace p133 := eq_true p133
          replace q133 := eq_true q133
          have p134 : 0 ≤ (x5_1 : Int) := of_decide_eq_true (by first | (with_reducible assumption) | assumption)
          have q134 : x5_1 < (l1.length : Int) := of_decide_eq_true (by first | (with_reducible assumption) | assumption)
          obtain ⟨ad134, e134, hx134_0⟩ := Kd.at_int HR1.out x5_1 p134 q134
          cases e134
          replace p134 := eq_true p134
          replace q134 := eq_true q134
          have p135 : 0 ≤ (x5_1 : Int) := of_decide_eq_true (by first | (with_reducible assumption) | assumption)
          have q135 : x5_1 < (l0.length : Int) := of_decide_eq_true (by first | (with_reducible assumption) | assumption)
          obtain ⟨ad135, e135, hx135_0⟩ := Kd.at_int HR0.out x5_1 p135 q135
          obtain rfl : ad133 = ad135 := (by injection e135)
          replace p135 := eq_true p135
          replace q135 := eq_true q135
          have p136 : 0 ≤ (x5_1 : Int) := of_decide_eq_true (by first | (with_reducible assumption) | assumption)
          have q136 : x5_1 < (l1.length : Int) := of_decide_eq_true (by first | (with_reducible assumption) | assumption)
          obtain ⟨ad136, e136, hx136_0⟩ := Kd.at_int HR1.out x5_1 p136 q136
          obtain rfl : ad134 = ad136 := (by injection e136)
          replace p136 := eq_true p136
          replace q136 := eq_true q136
          go_wp2
          repeat (go_quiet (fail); try go_wp2)
          go_ret
          exact ⟨by first | rfl | (simp; done) | (simp [*]; done), by repeat (first | exact Drawn0.refl _ | apply Drawn0.step)⟩
       ·rw [if_neg c7] at H
        exact absurd H (by simp)
      ·rw [if_neg c6] at H
       exact absurd H (by simp)
     ·rw [if_neg c5] at H
      exact absurd H (by simp)
    ·rw [if_neg c4] at H
     have c4b0 : decide (0 ≤ x5_1) = false := decide_eq_false c4
     clear c4
     obtain rfl := Option.some.inj H
     go_wp2
     repeat (go_quiet (fail); try go_wp2)
     go_ret
     exact ⟨by first | rfl | (simp; done) | (simp [*]; done), by repeat (first | exact Drawn0.refl _ | apply Drawn0.step)⟩
 ·rw [if_neg c3] at H
  have c3b0 : ((l0.length : Int) == (l1.length : Int)) = false := beq_eq_false_iff_ne.mpr c3
  have c3b1 : ((l0.length : Int) != (l1.length : Int)) = true := bne_iff_ne.mpr c3
  have c3b2 : (l0.length == l1.length) = false := by first | simpa using c3 | (simp at c3 ⊢; omega)
  replace H := Option.bind_eq_some_iff.mp H
  obtain ⟨t132, A100, H⟩ := H
  replace H : (some t132) = some r := H
  have A10 := A0_.mk A100
  clear A100
  obtain rfl := Option.some.inj H
  go_enter Tryd.func81, Tryd.ntmps81
  go_wp2_with (first | (go_at_call 62; (with_reducible refine (natural_sign.calls (wrap64 ((l0.length : Int) - (l1.length : Int))) t132 _ A10.out).mono ?_); rintro e w' ⟨rfl, ⟨nd, rfl⟩⟩; (try first | exact ⟨rfl, _, World.drewN_drewN _ _ _⟩ | exact ⟨rfl, _, Eq.trans (World.drewN_drewN _ _ _) (congrArg (World.drewN _) (Nat.add_assoc _ _ _))⟩)))
  repeat (go_quiet (first | (go_at_call 62; (with_reducible refine (natural_sign.calls (wrap64 ((l0.length : Int) - (l1.length : Int))) t132 _ A10.out).mono ?_); rintro e w' ⟨rfl, ⟨nd, rfl⟩⟩; (try first | exact ⟨rfl, _, World.drewN_drewN _ _ _⟩ | exact ⟨rfl, _, Eq.trans (World.drewN_drewN _ _ _) (congrArg (World.drewN _) (Nat.add_assoc _ _ _))⟩))); try go_wp2_with (first | (go_at_call 62; (with_reducible refine (natural_sign.calls (wrap64 ((l0.length : Int) - (l1.length : Int))) t132 _ A10.out).mono ?_); rintro e w' ⟨rfl, ⟨nd, rfl⟩⟩; (try first | exact ⟨rfl, _, World.drewN_drewN _ _ _⟩ | exact ⟨rfl, _, Eq.trans (World.drewN_drewN _ _ _) (congrArg (World.drewN _) (Nat.add_assoc _ _ _))⟩))))
  go_ret
  exact ⟨by first | rfl | (simp; done) | (simp [*]; done), by repeat (first | exact Drawn0.refl _ | apply Drawn0.step)⟩
def natural_limbs_trim.l0 : Nat → List Int → Int → Option (List Int)
 | 0, _, _ => none
 | k + 1, x0, x3 => if x3 > 0 then (if 0 ≤ (wrap64 (x3 - 1)) then (if (wrap64 (x3 - 1)) < (x0.length : Int) then (if (rd x0 (wrap64 (x3 - 1))) = 0 then (natural_limbs_trim.l0 k x0 (wrap64 (x3 - 1))) else (if 0 ≤ x3 then (if x3 ≤ (x0.length : Int) then (some (x0.take (x3 : Int).toNat)) else (none)) else (none))) else (none)) else (none)) else (if 0 ≤ x3 then (if x3 ≤ (x0.length : Int) then (some (x0.take (x3 : Int).toNat)) else (none)) else (none))
def natural_limbs_trim.f (k : Nat) (l0 : List Int) : Option (List Int) := natural_limbs_trim.l0 k l0 (l0.length : Int)
theorem natural_limbs_trim.mono_l : ∀ k, (∀ y0 y1, LeO (natural_limbs_trim.l0 k y0 y1) (natural_limbs_trim.l0 (k + 1) y0 y1))
 | 0 => fun _ _ r h => by simp [natural_limbs_trim.l0] at h
 | k + 1 => by
  have ih0 := natural_limbs_trim.mono_l k
  ·intro y0 y1
   unfold natural_limbs_trim.l0
   repeat' first
   | (with_reducible exact ih0 _ _)
   | (with_reducible exact LeO.refl _)
   | (with_reducible exact LeO.none _)
   | (with_reducible refine LeO.ite ?_ ?_)
   | (with_reducible refine LeO.bind ?_ (fun _ => ?_))
   | exact ih0 _ _
   | exact LeO.none _
   | refine LeO.ite ?_ ?_
   | refine LeO.bind ?_ (fun _ => ?_)
theorem natural_limbs_trim.mono : ∀ a0 k, LeO (natural_limbs_trim.f k a0) (natural_limbs_trim.f (k + 1) a0) := by
 intro a0 k
 have ih0 := natural_limbs_trim.mono_l k
 unfold natural_limbs_trim.f
 repeat' first
   | (with_reducible exact ih0 _ _)
   | (with_reducible exact LeO.refl _)
   | (with_reducible exact LeO.none _)
   | (with_reducible refine LeO.ite ?_ ?_)
   | (with_reducible refine LeO.bind ?_ (fun _ => ?_))
   | exact ih0 _ _
   | exact LeO.none _
   | refine LeO.ite ?_ ?_
   | refine LeO.bind ?_ (fun _ => ?_)
set_option maxHeartbeats 8000000 in
set_option maxRecDepth 100000 in
theorem natural_limbs_trim.calls (k : Nat) (P0_ : Nat → Prop) (u9000_ : Value) (l0 : List Int) (r : List Int) (w0 w : World) (hB : Below w0.heap.size w0 w) (ho0 : Kd.R (Kd.int .u32) 89 w w0.heap.size P0_ u9000_ l0) (h : natural_limbs_trim.f k l0 = some r) :
  Calls Tryd.prog 79 #[u9000_] w fun e w' => ∃ v0_ : Value, e = .returned (v0_) ∧ Kd.R (Kd.int .u32) 89 w' w0.heap.size (fun k_ => (P0_ k_ ∨ w.heap.size ≤ k_)) v0_ r ∧ Below w0.heap.size w0 w' ∧ Kept w w' (fun k_ => P0_ k_) := by
 have HO0 := A0_.mk (show Kd.R (Kd.int .u32) 89 w w0.heap.size (fun k_ => (P0_ k_ ∨ w.heap.size ≤ k_)) u9000_ l0 from Kd.R_mono ho0 (fun k_ hk => (.inl hk)))
 have HK := A0_.mk (Kept.refl w (fun k_ => P0_ k_))
 have HW0 := A0_.mk hB.size
 have HB := A0_.mk hB
 clear hB
 have H : (natural_limbs_trim.l0 k l0 (l0.length : Int)) = some r := h
 clear h
 have H' := A0_.mk H
 clear H
 obtain ⟨Ao2, co2, eo2⟩ := Kd.R_slice HO0.out
 subst eo2
 go_enter Tryd.func79, Tryd.ntmps79
 go_wp2
 go_loopg [3] k (fun kq v3 w' => ∃ (x3_1 : Int), v3 = .int .i64 x3_1 ∧ A0_ (natural_limbs_trim.l0 kq l0 x3_1 = some r) ∧ A0_ (kq ≤ k) ∧ A0_ (Kd.R (Kd.int .u32) 89 w' w0.heap.size (fun k_ => (P0_ k_ ∨ w.heap.size ≤ k_)) (.slice Ao2 l0.length co2) l0) ∧ A0_ (Kept w w' (fun k_ => P0_ k_)) ∧ A0_ (Below w0.heap.size w0 w'))
 case atStart => exact ⟨((l0.length : Int)), (by first | rfl | (simp; done) | (simp [*]; done)), H', ⟨Nat.le_refl _⟩, ⟨by (with_reducible repeat (first | apply Kd.R_alloc | apply Kd.R_drewN | apply Kd.R_drew)); exact HO0.out⟩, ⟨by repeat (first | (with_reducible first | exact HK.out | apply Kept.alloc | apply Kept.drewN | apply Kept.drew) | exact HK.out)⟩, ⟨by repeat (first | (with_reducible first | exact HB.out | apply bA_ | apply pB_ | apply b1_) | exact HB.out)⟩⟩
 case round =>
  clear H'
  try clear p2
  obtain ⟨x3_1, rfl, HA, HK1, HO_0, HK, HB⟩ := hrel
  cases gk with
  | zero => exact absurd HA.out (by simp [natural_limbs_trim.l0])
  | succ k1 =>
   have H := HA.out
   clear HA
   simp only [natural_limbs_trim.l0] at H
   by_cases c3 : x3_1 > 0
   ·rw [if_pos c3] at H
    have c3b0 : decide (0 < x3_1) = true := decide_eq_true c3
    clear c3
    obtain ⟨ji4, hji4⟩ : ∃ j_ : Int, (wrap64 (x3_1 - 1)) = j_ := ⟨_, rfl⟩
    replace H : (if 0 ≤ (ji4) then (if (ji4) < (l0.length : Int) then (if (rd l0 (ji4)) = 0 then (natural_limbs_trim.l0 k1 l0 ji4) else (if 0 ≤ x3_1 then (if x3_1 ≤ (l0.length : Int) then (some (l0.take (x3_1 : Int).toNat)) else (none)) else (none))) else (none)) else (none)) = some r := by first | (rw [hji4] at H; exact H) | (simp only [hji4] at H ⊢; exact H)
    have hji4w : (IntKind.i64.wrap (x3_1 - 1)) = ji4 := (i64_w _).trans hji4
    by_cases c5 : 0 ≤ (ji4)
    ·rw [if_pos c5] at H
     have c5b0 : decide (0 ≤ (ji4)) = true := decide_eq_true c5
     clear c5
     by_cases c6 : (ji4) < (l0.length : Int)
     ·rw [if_pos c6] at H
      have c6b0 : decide ((ji4) < (l0.length : Int)) = true := decide_eq_true c6
      clear c6
      by_cases c7 : (rd l0 (ji4)) = 0
      ·rw [if_pos c7] at H
       have c7b0 : ((rd l0 (ji4)) == 0) = true := beq_iff_eq.mpr c7
       have c7b1 : ((rd l0 (ji4)) != 0) = false := bne_eq_false_iff_eq.mpr c7
       clear c7
       have H' := A0_.mk H
       clear H
       have p111 : 0 ≤ ((ji4) : Int) := of_decide_eq_true (by first | (with_reducible assumption) | assumption)
       have q111 : (ji4) < (l0.length : Int) := of_decide_eq_true (by first | (with_reducible assumption) | assumption)
       obtain ⟨ad111, e111, hx111_0⟩ := Kd.at_int (Kd.R_reads' HO_0.out).2.2 (ji4) p111 q111
       cases e111
       replace p111 := eq_true p111
       replace q111 := eq_true q111
       go_wp2
       (try simp only [add_plain])
       go_roundg k1
       case measure => have := HK1.out; omega
       case rel => exact ⟨(ji4), (by first | rfl | (simp; done) | (simp only [← hji4] <;> (first | rfl | simp)) | (simp [*]; done)), H', ⟨by have := HK1.out; omega⟩, ⟨by (with_reducible repeat (first | apply Kd.R_alloc | apply Kd.R_drewN | apply Kd.R_drew)); exact HO_0.out⟩, ⟨by repeat (first | (with_reducible first | exact HK.out | apply Kept.alloc | apply Kept.drewN | apply Kept.drew) | exact HK.out)⟩, ⟨by repeat (first | (with_reducible first | exact HB.out | apply bA_ | apply pB_ | apply b1_) | exact HB.out)⟩⟩
      ·rw [if_neg c7] at H
       have c7b0 : ((rd l0 (ji4)) == 0) = false := beq_eq_false_iff_ne.mpr c7
       have c7b1 : ((rd l0 (ji4)) != 0) = true := bne_iff_ne.mpr c7
       by_cases c8 : 0 ≤ x3_1
       ·rw [if_pos c8] at H
        have c8b0 := eq_true c8
        have c8b1 : decide (0 ≤ x3_1) = true := decide_eq_true c8
        clear c8
        by_cases c9 : x3_1 ≤ (l0.length : Int)
        ·rw [if_pos c9] at H
         have c9b0 := eq_true c9
         have c9b1 : decide (x3_1 ≤ (l0.length : Int)) = true := decide_eq_true c9
         clear c9
         obtain ⟨y112, hy112⟩ : ∃ y_ : List Int, y_ = (l0.take (x3_1 : Int).toNat) := ⟨_, rfl⟩
         replace H : (some y112) = some r := by first | (rw [hy112]; with_reducible exact H) | (have H2_ := (Option.bind_some _ _).symm.trans H; rw [hy112]; with_reducible exact H2_) | (have H2_ := (Option.bind_some _ _).symm.trans H; with_reducible exact H2_) | with_reducible exact H | (rw [hy112]; exact H) | exact H
         have Ny112 := A0_.mk hy112
         clear hy112
         obtain rfl := Option.some.inj H
         have p111 : 0 ≤ ((ji4) : Int) := of_decide_eq_true (by first | (with_reducible assumption) | assumption)
         have q111 : (ji4) < (l0.length : Int) := of_decide_eq_true (by first | (with_reducible assumption) | assumption)
         obtain ⟨ad111, e111, hx111_0⟩ := Kd.at_int (Kd.R_reads' HO_0.out).2.2 (ji4) p111 q111
         cases e111
         replace p111 := eq_true p111
         replace q111 := eq_true q111
         have q10 : (x3_1 : Int) ≤ ((l0.length : Int) : Int) := of_decide_eq_true (by first | (with_reducible assumption) | assumption)
         obtain ⟨i010, hi010, _, hsz10, _⟩ := info_parts info89
         have hcut10 := cut_to (P := Tryd.prog) 87 89 .i64 Tryd.underlying87 hi010 (some ad111) l0.length co2 x3_1 (of_decide_eq_true (by first | (with_reducible assumption) | assumption)) q10 (Kd.R_reads' HO_0.out).2.1
         have hr10 := Kd.R_take (m := (x3_1 : Int).toNat) HO_0.out (by omega)
         have hy10 : y112.length = (x3_1 : Int).toNat := (by rw [Ny112.out, List.length_take]; omega)
         rw [← Ny112.out] at hr10
         rw [← hy10] at hr10 hcut10
         clear hy10 hi010 hsz10 HO_0
         have HO114 := A0_.mk hr10
         clear hr10
         replace q10 := eq_true q10
         go_wp2
         go_ret
         exact ⟨_, by first | rfl | (simp [errW_none, errW_some] <;> rfl) | (simp only [← hji4]; first | rfl | (simp [errW_none, errW_some] <;> rfl)) | (simp [*, errW_none, errW_some] <;> rfl), by (with_reducible repeat (first | apply Kd.R_alloc | apply Kd.R_drewN | apply Kd.R_drew)); exact HO114.out, by repeat (first | (with_reducible first | exact HB.out | apply bA_ | apply pB_ | apply b1_) | exact HB.out), by repeat (first | (with_reducible first | exact HK.out | apply Kept.alloc | apply Kept.drewN | apply Kept.drew) | exact HK.out)⟩
        ·rw [if_neg c9] at H
         exact absurd H (by simp)
       ·rw [if_neg c8] at H
        exact absurd H (by simp)
     ·rw [if_neg c6] at H
      exact absurd H (by simp)
    ·rw [if_neg c5] at H
     exact absurd H (by simp)
   ·rw [if_neg c3] at H
    have c3b0 : decide (0 < x3_1) = false := decide_eq_false c3
    clear c3
    by_cases c11 : 0 ≤ x3_1
    ·rw [if_pos c11] at H
     have c11b0 := eq_true c11
     have c11b1 : decide (0 ≤ x3_1) = true := decide_eq_true c11
     clear c11
     by_cases c12 : x3_1 ≤ (l0.length : Int)
     ·rw [if_pos c12] at H
      have c12b0 := eq_true c12
      have c12b1 : decide (x3_1 ≤ (l0.length : Int)) = true := decide_eq_true c12
      clear c12
      obtain ⟨y115, hy115⟩ : ∃ y_ : List Int, y_ = (l0.take (x3_1 : Int).toNat) := ⟨_, rfl⟩
      replace H : (some y115) = some r := by first | (rw [hy115]; with_reducible exact H) | (have H2_ := (Option.bind_some _ _).symm.trans H; rw [hy115]; with_reducible exact H2_) | (have H2_ := (Option.bind_some _ _).symm.trans H; with_reducible exact H2_) | with_reducible exact H | (rw [hy115]; exact H) | exact H
      have Ny115 := A0_.mk hy115
      clear hy115
      obtain rfl := Option.some.inj H
      have q13 : (x3_1 : Int) ≤ ((l0.length : Int) : Int) := of_decide_eq_true (by first | (with_reducible assumption) | assumption)
      obtain ⟨i013, hi013, _, hsz13, _⟩ := info_parts info89
      have hcut13 := cut_to (P := Tryd.prog) 87 89 .i64 Tryd.underlying87 hi013 Ao2 l0.length co2 x3_1 (of_decide_eq_true (by first | (with_reducible assumption) | assumption)) q13 (Kd.R_reads' HO_0.out).2.1
      have hr13 := Kd.R_take (m := (x3_1 : Int).toNat) HO_0.out (by omega)
      have hy13 : y115.length = (x3_1 : Int).toNat := (by rw [Ny115.out, List.length_take]; omega)
      rw [← Ny115.out] at hr13
      rw [← hy13] at hr13 hcut13
      clear hy13 hi013 hsz13 HO_0
      have HO117 := A0_.mk hr13
      clear hr13
      replace q13 := eq_true q13
      go_wp2
      go_ret
      exact ⟨_, by first | rfl | (simp [errW_none, errW_some] <;> rfl) | (simp [*, errW_none, errW_some] <;> rfl), by (with_reducible repeat (first | apply Kd.R_alloc | apply Kd.R_drewN | apply Kd.R_drew)); exact HO117.out, by repeat (first | (with_reducible first | exact HB.out | apply bA_ | apply pB_ | apply b1_) | exact HB.out), by repeat (first | (with_reducible first | exact HK.out | apply Kept.alloc | apply Kept.drewN | apply Kept.drew) | exact HK.out)⟩
     ·rw [if_neg c12] at H
      exact absurd H (by simp)
    ·rw [if_neg c11] at H
     exact absurd H (by simp)
def natural_divideSmall.l0 : Nat → List Int → Int → List Int → Int → Int → Option (List Int × Int)
 | 0, _, _, _, _, _ => none
 | k + 1, x0, x1, x6, x7, x8 => if x8 ≥ 0 then (if 0 ≤ x8 then (if x8 < (x0.length : Int) then (if (IntKind.u64.wrap (x1)) = 0 then (none) else (if x8 < (x6.length : Int) then (natural_divideSmall.l0 k x0 x1 (x6.set (x8 : Int).toNat ((IntKind.u64.wrap (Int.tdiv (Go.bits .or .u64 (IntKind.u64.wrap (x7 * 4294967296)) (IntKind.u64.wrap (rd x0 x8))) (IntKind.u64.wrap (x1)))) % 4294967296)) (Int.tmod (Go.bits .or .u64 (IntKind.u64.wrap (x7 * 4294967296)) (IntKind.u64.wrap (rd x0 x8))) (IntKind.u64.wrap (x1))) (wrap64 (x8 - 1))) else (none))) else (none)) else (none)) else ((natural_limbs_trim.f k x6).bind fun t142 => (some (t142, (x7) % 4294967296)))
def natural_divideSmall.f (k : Nat) (l0 : List Int) (a1 : Int) : Option (List Int × Int) := if 0 ≤ (l0.length : Int) then (if ((l0.length : Int) : Int).toNat ≤ 70368744177664 then (natural_divideSmall.l0 k l0 a1 (List.replicate ((l0.length : Int) : Int).toNat 0) 0 (wrap64 ((l0.length : Int) - 1))) else (none)) else (none)
theorem natural_divideSmall.mono_l : ∀ k, (∀ y0 y1 y2 y3 y4, LeO (natural_divideSmall.l0 k y0 y1 y2 y3 y4) (natural_divideSmall.l0 (k + 1) y0 y1 y2 y3 y4))
 | 0 => fun _ _ _ _ _ r h => by simp [natural_divideSmall.l0] at h
 | k + 1 => by
  have ih0 := natural_divideSmall.mono_l k
  ·intro y0 y1 y2 y3 y4
   unfold natural_divideSmall.l0
   repeat' first
   | (with_reducible exact ih0 _ _ _ _ _)
   | (with_reducible exact natural_limbs_trim.mono _ _)
   | (with_reducible exact LeO.refl _)
   | (with_reducible exact LeO.none _)
   | (with_reducible refine LeO.ite ?_ ?_)
   | (with_reducible refine LeO.bind ?_ (fun _ => ?_))
   | exact ih0 _ _ _ _ _
   | exact natural_limbs_trim.mono _ _
   | exact LeO.none _
   | refine LeO.ite ?_ ?_
   | refine LeO.bind ?_ (fun _ => ?_)
theorem natural_divideSmall.mono : ∀ a0 a1 k, LeO (natural_divideSmall.f k a0 a1) (natural_divideSmall.f (k + 1) a0 a1) := by
 intro a0 a1 k
 have ih0 := natural_divideSmall.mono_l k
 unfold natural_divideSmall.f
 repeat' first
   | (with_reducible exact ih0 _ _ _ _ _)
   | (with_reducible exact natural_limbs_trim.mono _ _)
   | (with_reducible exact LeO.refl _)
   | (with_reducible exact LeO.none _)
   | (with_reducible refine LeO.ite ?_ ?_)
   | (with_reducible refine LeO.bind ?_ (fun _ => ?_))
   | exact ih0 _ _ _ _ _
   | exact natural_limbs_trim.mono _ _
   | exact LeO.none _
   | refine LeO.ite ?_ ?_
   | refine LeO.bind ?_ (fun _ => ?_)
set_option maxHeartbeats 8000000 in
set_option maxRecDepth 100000 in
theorem natural_divideSmall.calls (k : Nat) (A0 : Option Addr) (c0 : Nat) (l0 : List Int) (a1 : Int) (r1 : List Int) (r2 : Int) (w : World) (hr0 : Kd.C (Kd.int .u32) w A0 l0.length l0) (hc0 : l0.length ≤ c0) (h : natural_divideSmall.f k l0 a1 = some (r1, r2)) :
  Calls Tryd.prog 105 #[.slice A0 l0.length c0, .int .u32 a1] w fun e w' => ∃ v0_ : Value, e = .returned (.tuple #[v0_, .int .u32 r2]) ∧ Kd.R (Kd.int .u32) 89 w' w.heap.size (fun _ => True) v0_ r1 ∧ Below w.heap.size w w' := by
 have HR0 := A0_.mk hr0
 have HC0 := A0_.mk hc0
 clear hr0 hc0
 have HB := A0_.mk (Below.refl w.heap.size w)
 have H : (if 0 ≤ (l0.length : Int) then (if ((l0.length : Int) : Int).toNat ≤ 70368744177664 then (natural_divideSmall.l0 k l0 a1 (List.replicate ((l0.length : Int) : Int).toNat 0) 0 (wrap64 ((l0.length : Int) - 1))) else (none)) else (none)) = some (r1, r2) := h
 clear h
 by_cases c3 : 0 ≤ (l0.length : Int)
 ·rw [if_pos c3] at H
  have c3b0 := eq_true c3
  have c3b1 : decide (0 ≤ (l0.length : Int)) = true := decide_eq_true c3
  clear c3
  by_cases c4 : ((l0.length : Int) : Int).toNat ≤ 70368744177664
  ·rw [if_pos c4] at H
   have c4b0 := eq_true c4
   have c4b1 : decide (((l0.length : Int) : Int).toNat ≤ 70368744177664) = true := decide_eq_true c4
   clear c4
   obtain ⟨y137, hy137⟩ : ∃ y_ : List Int, y_ = (List.replicate ((l0.length : Int) : Int).toNat 0) := ⟨_, rfl⟩
   replace H : (natural_divideSmall.l0 k l0 a1 y137 0 (wrap64 ((l0.length : Int) - 1))) = some (r1, r2) := by first | (rw [hy137]; with_reducible exact H) | (have H2_ := (Option.bind_some _ _).symm.trans H; rw [hy137]; with_reducible exact H2_) | (have H2_ := (Option.bind_some _ _).symm.trans H; with_reducible exact H2_) | with_reducible exact H | (rw [hy137]; exact H) | exact H
   have Ny137 := A0_.mk hy137
   clear hy137
   have H' := A0_.mk H
   clear H
   go_enter Tryd.func105, Tryd.ntmps105
   go_wp2_with (first | ((with_reducible refine gD_ (N := 12) rfl ?_); refine Kd.R_make (Kd.int .u32) _ 89 rfl (N := 12) rfl 87 _ _ rfl (l0.length : Int) rfl rfl Tryd.underlying87 (.int .u32 0) 4 info89 rfl (by decide) (by omega) 0 (ok := fun _ => True) (okp := fun _ => True) rfl (fun _ hk => hk) trivial (of_decide_eq_true (by first | (with_reducible assumption) | assumption)) (Nat.le_trans (Nat.mul_le_mul_right _ (of_decide_eq_true (by first | (with_reducible assumption) | assumption) : (l0.length : Int).toNat ≤ 70368744177664)) (by omega)) (Below.refl _ _) (Nat.le_refl _) ?_; intro v138 w5 ho6 hb hg_ hnew_; clear hg_ hnew_; (first | rw [← Ny137.out] at ho6 | (simp only [Int.reduceToNat] at ho6; rw [← Ny137.out] at ho6)); have n0_ := A0_.mk (Kd.R_lower ho6 (bZ_ (by repeat (first | (with_reducible first | exact HB.out | apply bA_ | apply pB_ | apply b1_) | exact HB.out)))); have n1_ := A0_.mk (bT_ (by repeat (first | (with_reducible first | exact HB.out | apply bA_ | apply pB_ | apply b1_) | exact HB.out)) hb); clear HB; have HO139 := n0_; have HB := n1_; clear n0_ n1_; clear hb ho6))
   go_loopg [7, 8] k (fun kq v7 v8 w' => ∃ (x6_1 : List Int) (x7_1 : Int) (x8_1 : Int), v7 = .int .u64 x7_1 ∧ v8 = .int .i64 x8_1 ∧ A0_ (natural_divideSmall.l0 kq l0 a1 x6_1 x7_1 x8_1 = some (r1, r2)) ∧ A0_ (kq ≤ k) ∧ A0_ (Kd.R (Kd.int .u32) 89 w' w.heap.size (fun _ => True) v138 x6_1) ∧ A0_ (Below w.heap.size w w'))
   case atStart => exact ⟨(y137), (0), (wrap64 ((l0.length : Int) - 1)), (by first | rfl | (simp; done) | (simp [*]; done)), (by first | rfl | (simp; done) | (simp [*]; done)), H', ⟨Nat.le_refl _⟩, ⟨by (with_reducible repeat (first | apply Kd.R_alloc | apply Kd.R_drewN | apply Kd.R_drew)); exact HO139.out⟩, ⟨by repeat (first | (with_reducible first | exact HB.out | apply bA_ | apply pB_ | apply b1_) | exact HB.out)⟩⟩
   case round =>
    clear H'
    try clear c1
    try clear p2
    try clear c3
    try clear c3b0
    try clear c3b1
    try clear c4
    try clear c4b0
    try clear c4b1
    try clear p6
    obtain ⟨x6_1, x7_1, x8_1, rfl, rfl, HA, HK1, HO_6, HB⟩ := hrel
    cases gk with
    | zero => exact absurd HA.out (by simp [natural_divideSmall.l0])
    | succ k1 =>
     have H := HA.out
     clear HA
     simp only [natural_divideSmall.l0] at H
     by_cases c7 : x8_1 ≥ 0
     ·rw [if_pos c7] at H
      have c7b0 : decide (0 ≤ x8_1) = true := decide_eq_true c7
      clear c7
      by_cases c8 : 0 ≤ x8_1
      ·rw [if_pos c8] at H
       have c8b0 : decide (0 ≤ x8_1) = true := decide_eq_true c8
       clear c8
       by_cases c9 : x8_1 < (l0.length : Int)
       ·rw [if_pos c9] at H
        have c9b0 : decide (x8_1 < (l0.length : Int)) = true := decide_eq_true c9
        clear c9
        by_cases c10 : (IntKind.u64.wrap (a1)) = 0
        ·rw [if_pos c10] at H
         exact absurd H (by simp)
        ·rw [if_neg c10] at H
         have c10b0 : ((IntKind.u64.wrap (a1)) == 0) = false := beq_eq_false_iff_ne.mpr c10
         have c10b1 : ((IntKind.u64.wrap (a1)) != 0) = true := bne_iff_ne.mpr c10
         by_cases c11 : x8_1 < (x6_1.length : Int)
         ·rw [if_pos c11] at H
          have c11b0 : decide (x8_1 < (x6_1.length : Int)) = true := decide_eq_true c11
          clear c11
          obtain ⟨y141, hy141⟩ : ∃ y_ : List Int, y_ = (x6_1.set (x8_1 : Int).toNat ((IntKind.u64.wrap (Int.tdiv (Go.bits .or .u64 (IntKind.u64.wrap (x7_1 * 4294967296)) (IntKind.u64.wrap (rd l0 x8_1))) (IntKind.u64.wrap (a1)))) % 4294967296)) := ⟨_, rfl⟩
          replace H : (natural_divideSmall.l0 k1 l0 a1 y141 (Int.tmod (Go.bits .or .u64 (IntKind.u64.wrap (x7_1 * 4294967296)) (IntKind.u64.wrap (rd l0 x8_1))) (IntKind.u64.wrap (a1))) (wrap64 (x8_1 - 1))) = some (r1, r2) := by first | (rw [hy141]; with_reducible exact H) | (have H2_ := (Option.bind_some _ _).symm.trans H; rw [hy141]; with_reducible exact H2_) | (have H2_ := (Option.bind_some _ _).symm.trans H; with_reducible exact H2_) | with_reducible exact H | (rw [hy141]; exact H) | exact H
          have Ny141 := A0_.mk hy141
          clear hy141
          have H' := A0_.mk H
          clear H
          have p140 : 0 ≤ (x8_1 : Int) := of_decide_eq_true (by first | (with_reducible assumption) | assumption)
          have q140 : x8_1 < (l0.length : Int) := of_decide_eq_true (by first | (with_reducible assumption) | assumption)
          obtain ⟨ad140, e140, hx140_0⟩ := Kd.at_int HR0.out x8_1 p140 q140
          cases e140
          (try replace hx140_0 := (HB.out.cell (World.block_lt_of_cell? w _ hx140_0)).trans hx140_0)
          replace p140 := eq_true p140
          replace q140 := eq_true q140
          have p12 : 0 ≤ (x8_1 : Int) := of_decide_eq_true (by first | (with_reducible assumption) | assumption)
          have q12 : (x8_1 : Int) < ((x6_1.length : Int) : Int) := of_decide_eq_true (by first | (with_reducible assumption) | assumption)
          obtain ⟨go12, co12, eo12, gb12, gl12, cl12, HG12⟩ := Kd.R_form HO_6.out (by omega)
          (first | cases eo12 | (injection eo12 with ea_ en_ ec_; (first | subst ea_ | (injection ea_ with ea_; subst ea_)); subst ec_; clear en_))
          have GB12 := A0_.mk gb12
          have GG12 := A0_.mk HG12
          clear gb12 gl12 HG12
          obtain ⟨hx12_0, hf12_0⟩ := Kd.R_celln 0 HO_6.out (x8_1 : Int) p12 q12
          replace p12 := eq_true p12
          replace q12 := eq_true q12
          have HP13 := Kd.R_putg HO_6.out (x8_1 : Int) ((IntKind.u64.wrap (Int.tdiv (Go.bits .or .u64 (IntKind.u64.wrap (x7_1 * 4294967296)) (IntKind.u64.wrap (rd l0 x8_1))) (IntKind.u64.wrap (a1)))) % 4294967296)
          go_wp2_with (first | ((with_reducible refine gate_store (t := 89) (p := 35) rfl ?_); refine store_event (t := 89) (p := 35) (v := ?vo_w14) (w1 := (wr.setCell ⟨go12, (x8_1 : Int).toNat, none⟩ (.int .u32 ((IntKind.u64.wrap (Int.tdiv (Go.bits .or .u64 (IntKind.u64.wrap (x7_1 * 4294967296)) (IntKind.u64.wrap (rd l0 x8_1))) (IntKind.u64.wrap (a1)))) % 4294967296)))) ?hg ?ho ?hn ?hr ?_; (case ho => rfl); (case hg => rfl); (case hn => rfl); (case hr => first | (go_simp; done) | (go_simp; rfl)); intro w14 hw; have hg : wr.grownBy w14 (some go12) := (by rw [hw]; exact HP13.2); have hp_ : Kd.R (Kd.int .u32) 89 w14 w.heap.size (fun _ => True) (.slice (some ⟨go12, 0, none⟩) x6_1.length co12) y141 := (by rw [hw, Ny141.out]; exact HP13.1); clear HP13; have n0_ := A0_.mk (hp_); have n1_ := A0_.mk ((by rw [hw]; exact bS_ (HB.out) GB12.out : Below w.heap.size w w14)); clear HO_6; clear HB; have HO_6 := n0_; have HB := n1_; clear n0_ n1_; clear hg hw hp_))
          (try simp only [add_plain])
          go_roundg k1
          case measure => have := HK1.out; omega
          case rel => exact ⟨(y141), (Int.tmod (Go.bits .or .u64 (IntKind.u64.wrap (x7_1 * 4294967296)) (IntKind.u64.wrap (rd l0 x8_1))) (IntKind.u64.wrap (a1))), (wrap64 (x8_1 - 1)), (by first | rfl | (simp; done) | (simp [*]; done)), (by first | rfl | (simp; done) | (simp [*]; done)), H', ⟨by have := HK1.out; omega⟩, ⟨by (with_reducible repeat (first | apply Kd.R_alloc | apply Kd.R_drewN | apply Kd.R_drew)); exact HO_6.out⟩, ⟨by repeat (first | (with_reducible first | exact HB.out | apply bA_ | apply pB_ | apply b1_) | exact HB.out)⟩⟩
         ·rw [if_neg c11] at H
          exact absurd H (by simp)
       ·rw [if_neg c9] at H
        exact absurd H (by simp)
      ·rw [if_neg c8] at H
       exact absurd H (by simp)
     ·rw [if_neg c7] at H
      have c7b0 : decide (0 ≤ x8_1) = false := decide_eq_false c7
      clear c7
      replace H := Option.bind_eq_some_iff.mp H
      obtain ⟨t142, A150, H⟩ := H
      replace H : (some (t142, (x7_1) % 4294967296)) = some (r1, r2) := H
      have A15 := A0_.mk A150
      clear A150
      simp only [Option.some.injEq, Prod.mk.injEq] at H
      obtain ⟨rfl, rfl⟩ := H
      obtain ⟨Ao16, co16, eo16⟩ := Kd.R_slice HO_6.out
      subst eo16
      go_wp2_with (first | ((with_reducible refine gC_ (f := 79) rfl ?_); refine goesL_ (some 41) rfl rfl Tryd.func79 (by kernel_rfl) rfl #[.slice Ao16 x6_1.length co16] rfl (by (try simp only [List.map_toArray, List.map_cons, List.map_nil]); first | done | rfl | (simp only [List.length_drop, List.length_take]; rfl)) ?_; (with_reducible refine (natural_limbs_trim.calls k1 (fun k_ => some k_ = (.slice Ao16 x6_1.length co16 : Value).ownBlock) (.slice Ao16 x6_1.length co16) x6_1 t142 w _ ?side1 ?side2 A15.out).mono ?_); (case side1 => repeat (first | (with_reducible first | exact HB.out | apply bA_ | apply pB_ | apply b1_) | exact HB.out)); (case side2 => exact Kd.R_tight rfl HO_6.out); rintro e w17 ⟨v143, rfl, ho0, hb, hkp⟩; refine ⟨_, rfl, ?_⟩; have n0_ := A0_.mk (Kd.R_mono (ok' := fun k_ => True) ho0 (fun k_ hk_ => trivial)); have n1_ := A0_.mk (hb); clear HB; clear HO_6; have HO144 := n0_; have HB := n1_; clear n0_ n1_; (try clear hb); (try clear hkp); (try clear ho0)))
      go_ret2
      exact ⟨_, by first | rfl | (simp [errW_none, errW_some] <;> rfl) | (simp [*, errW_none, errW_some] <;> rfl), by (with_reducible repeat (first | apply Kd.R_alloc | apply Kd.R_drewN | apply Kd.R_drew)); exact HO144.out, by repeat (first | (with_reducible first | exact HB.out | apply bA_ | apply pB_ | apply b1_) | exact HB.out)⟩
  ·rw [if_neg c4] at H
   exact absurd H (by simp)
 ·rw [if_neg c3] at H
  exact absurd H (by simp)
def natural_shift.l0 : Nat → Int → Int → List Int → List Int → Int → Int → Option (List Int)
 | 0, _, _, _, _, _, _ => none
 | k + 1, x1, x2, x7, x13, x14, x15 => if x15 < x14 then (if 0 ≤ x15 then (if x15 < (x13.length : Int) then (if 0 ≤ x1 then (if x15 < (x7.length : Int) then ((some (x7.set (x15 : Int).toNat (Go.bits .or .u32 (rd x7 x15) ((shl .u64 (IntKind.u64.wrap (rd x13 x15)) x1) % 4294967296)) : List Int)).bind fun y151 => (if (wrap64 (x15 + 1)) < x2 then (if 0 ≤ (wrap64 (x15 + 1)) then (if (wrap64 (x15 + 1)) < (x7.length : Int) then (natural_shift.l0 k x1 x2 (y151.set ((wrap64 (x15 + 1)) : Int).toNat (Go.bits .or .u32 (rd y151 (wrap64 (x15 + 1))) (((shl .u64 (IntKind.u64.wrap (rd x13 x15)) x1) / 4294967296) % 4294967296))) x13 x14 (wrap64 (x15 + 1))) else (none)) else (none)) else (natural_shift.l0 k x1 x2 y151 x13 x14 (wrap64 (x15 + 1))))) else (none)) else (none)) else (none)) else (none)) else (some x7)
def natural_shift.f (k : Nat) (l0 : List Int) (a1 : Int) (a2 : Int) : Option (List Int) := if 0 ≤ a2 then (if (a2 : Int).toNat ≤ 70368744177664 then (natural_shift.l0 k a1 a2 (List.replicate (a2 : Int).toNat 0) l0 (l0.length : Int) 0) else (none)) else (none)
theorem natural_shift.mono_l : ∀ k, (∀ y0 y1 y2 y3 y4 y5, LeO (natural_shift.l0 k y0 y1 y2 y3 y4 y5) (natural_shift.l0 (k + 1) y0 y1 y2 y3 y4 y5))
 | 0 => fun _ _ _ _ _ _ r h => by simp [natural_shift.l0] at h
 | k + 1 => by
  have ih0 := natural_shift.mono_l k
  ·intro y0 y1 y2 y3 y4 y5
   unfold natural_shift.l0
   repeat' first
   | (with_reducible exact ih0 _ _ _ _ _ _)
   | (with_reducible exact LeO.refl _)
   | (with_reducible exact LeO.none _)
   | (with_reducible refine LeO.ite ?_ ?_)
   | (with_reducible refine LeO.bind ?_ (fun _ => ?_))
   | exact ih0 _ _ _ _ _ _
   | exact LeO.none _
   | refine LeO.ite ?_ ?_
   | refine LeO.bind ?_ (fun _ => ?_)
theorem natural_shift.mono : ∀ a0 a1 a2 k, LeO (natural_shift.f k a0 a1 a2) (natural_shift.f (k + 1) a0 a1 a2) := by
 intro a0 a1 a2 k
 have ih0 := natural_shift.mono_l k
 unfold natural_shift.f
 repeat' first
   | (with_reducible exact ih0 _ _ _ _ _ _)
   | (with_reducible exact LeO.refl _)
   | (with_reducible exact LeO.none _)
   | (with_reducible refine LeO.ite ?_ ?_)
   | (with_reducible refine LeO.bind ?_ (fun _ => ?_))
   | exact ih0 _ _ _ _ _ _
   | exact LeO.none _
   | refine LeO.ite ?_ ?_
   | refine LeO.bind ?_ (fun _ => ?_)
set_option maxHeartbeats 8000000 in
set_option maxRecDepth 100000 in
theorem natural_shift.calls (k : Nat) (A0 : Option Addr) (c0 : Nat) (l0 : List Int) (a1 : Int) (a2 : Int) (r : List Int) (w : World) (hr0 : Kd.C (Kd.int .u32) w A0 l0.length l0) (hc0 : l0.length ≤ c0) (h : natural_shift.f k l0 a1 a2 = some r) :
  Calls Tryd.prog 107 #[.slice A0 l0.length c0, .int .u64 a1, .int .i64 a2] w fun e w' => ∃ v0_ : Value, e = .returned (v0_) ∧ Kd.R (Kd.int .u32) 89 w' w.heap.size (fun _ => True) v0_ r ∧ Below w.heap.size w w' := by
 have HR0 := A0_.mk hr0
 have HC0 := A0_.mk hc0
 clear hr0 hc0
 have HB := A0_.mk (Below.refl w.heap.size w)
 have H : (if 0 ≤ a2 then (if (a2 : Int).toNat ≤ 70368744177664 then (natural_shift.l0 k a1 a2 (List.replicate (a2 : Int).toNat 0) l0 (l0.length : Int) 0) else (none)) else (none)) = some r := h
 clear h
 by_cases c4 : 0 ≤ a2
 ·rw [if_pos c4] at H
  have c4b0 := eq_true c4
  have c4b1 : decide (0 ≤ a2) = true := decide_eq_true c4
  clear c4
  by_cases c5 : (a2 : Int).toNat ≤ 70368744177664
  ·rw [if_pos c5] at H
   have c5b0 := eq_true c5
   have c5b1 : decide ((a2 : Int).toNat ≤ 70368744177664) = true := decide_eq_true c5
   clear c5
   obtain ⟨y146, hy146⟩ : ∃ y_ : List Int, y_ = (List.replicate (a2 : Int).toNat 0) := ⟨_, rfl⟩
   replace H : (natural_shift.l0 k a1 a2 y146 l0 (l0.length : Int) 0) = some r := by first | (rw [hy146]; with_reducible exact H) | (have H2_ := (Option.bind_some _ _).symm.trans H; rw [hy146]; with_reducible exact H2_) | (have H2_ := (Option.bind_some _ _).symm.trans H; with_reducible exact H2_) | with_reducible exact H | (rw [hy146]; exact H) | exact H
   have Ny146 := A0_.mk hy146
   clear hy146
   have H' := A0_.mk H
   clear H
   go_enter Tryd.func107, Tryd.ntmps107
   go_wp2_with (first | ((with_reducible refine gD_ (N := 12) rfl ?_); refine Kd.R_make (Kd.int .u32) _ 89 rfl (N := 12) rfl 87 _ _ rfl a2 rfl rfl Tryd.underlying87 (.int .u32 0) 4 info89 rfl (by decide) (by omega) 0 (ok := fun _ => True) (okp := fun _ => True) rfl (fun _ hk => hk) trivial (of_decide_eq_true (by first | (with_reducible assumption) | assumption)) (Nat.le_trans (Nat.mul_le_mul_right _ (of_decide_eq_true (by first | (with_reducible assumption) | assumption) : a2.toNat ≤ 70368744177664)) (by omega)) (Below.refl _ _) (Nat.le_refl _) ?_; intro v147 w6 ho7 hb hg_ hnew_; clear hg_ hnew_; (first | rw [← Ny146.out] at ho7 | (simp only [Int.reduceToNat] at ho7; rw [← Ny146.out] at ho7)); have n0_ := A0_.mk (Kd.R_lower ho7 (bZ_ (by repeat (first | (with_reducible first | exact HB.out | apply bA_ | apply pB_ | apply b1_) | exact HB.out)))); have n1_ := A0_.mk (bT_ (by repeat (first | (with_reducible first | exact HB.out | apply bA_ | apply pB_ | apply b1_) | exact HB.out)) hb); clear HB; have HO148 := n0_; have HB := n1_; clear n0_ n1_; clear hb ho7))
   go_loopg [15] k (fun kq v15 w' => ∃ (x7_1 : List Int) (x15_1 : Int), v15 = .int .i64 x15_1 ∧ A0_ (natural_shift.l0 kq a1 a2 x7_1 l0 (l0.length : Int) x15_1 = some r) ∧ A0_ (kq ≤ k) ∧ A0_ (Kd.R (Kd.int .u32) 89 w' w.heap.size (fun _ => True) v147 x7_1) ∧ A0_ (Below w.heap.size w w'))
   case atStart => exact ⟨(y146), (0), (by first | rfl | (simp; done) | (simp [*]; done)), H', ⟨Nat.le_refl _⟩, ⟨by (with_reducible repeat (first | apply Kd.R_alloc | apply Kd.R_drewN | apply Kd.R_drew)); exact HO148.out⟩, ⟨by repeat (first | (with_reducible first | exact HB.out | apply bA_ | apply pB_ | apply b1_) | exact HB.out)⟩⟩
   case round =>
    clear H'
    try clear c1
    try clear p2
    try clear c4
    try clear c4b0
    try clear c4b1
    try clear c5
    try clear c5b0
    try clear c5b1
    obtain ⟨x7_1, x15_1, rfl, HA, HK1, HO_7, HB⟩ := hrel
    cases gk with
    | zero => exact absurd HA.out (by simp [natural_shift.l0])
    | succ k1 =>
     have H := HA.out
     clear HA
     simp only [natural_shift.l0] at H
     by_cases c8 : x15_1 < (l0.length : Int)
     ·rw [if_pos c8] at H
      have c8b0 : decide (x15_1 < (l0.length : Int)) = true := decide_eq_true c8
      clear c8
      by_cases c9 : 0 ≤ x15_1
      ·rw [if_pos c9] at H
       have c9b0 : decide (0 ≤ x15_1) = true := decide_eq_true c9
       clear c9
       by_cases c10 : x15_1 < (l0.length : Int)
       ·rw [if_pos c10] at H
        have c10b0 : decide (x15_1 < (l0.length : Int)) = true := decide_eq_true c10
        clear c10
        by_cases c11 : 0 ≤ a1
        ·rw [if_pos c11] at H
         have c11b0 := eq_true c11
         have c11b1 : decide (0 ≤ a1) = true := decide_eq_true c11
         clear c11
         obtain ⟨ji12, hji12⟩ : ∃ j_ : Int, (shl .u64 (IntKind.u64.wrap (rd l0 x15_1)) a1) = j_ := ⟨_, rfl⟩
         replace H : (if x15_1 < (x7_1.length : Int) then ((some (x7_1.set (x15_1 : Int).toNat (Go.bits .or .u32 (rd x7_1 x15_1) ((ji12) % 4294967296)) : List Int)).bind fun y151 => (if (wrap64 (x15_1 + 1)) < a2 then (if 0 ≤ (wrap64 (x15_1 + 1)) then (if (wrap64 (x15_1 + 1)) < (x7_1.length : Int) then (natural_shift.l0 k1 a1 a2 (y151.set ((wrap64 (x15_1 + 1)) : Int).toNat (Go.bits .or .u32 (rd y151 (wrap64 (x15_1 + 1))) (((ji12) / 4294967296) % 4294967296))) l0 (l0.length : Int) (wrap64 (x15_1 + 1))) else (none)) else (none)) else (natural_shift.l0 k1 a1 a2 y151 l0 (l0.length : Int) (wrap64 (x15_1 + 1))))) else (none)) = some r := by first | (rw [hji12] at H; exact H) | (simp only [hji12] at H ⊢; exact H)
         have hji12_ : (IntKind.u64.wrap ((IntKind.u64.wrap (rd l0 x15_1)) * 2 ^ min a1.toNat 64)) = ji12 := hji12
         have hji12z : a1 ≤ 64 → (IntKind.u64.wrap ((IntKind.u64.wrap (rd l0 x15_1)) * 2 ^ a1.toNat)) = ji12 := shl_small hji12
         by_cases c13 : x15_1 < (x7_1.length : Int)
         ·rw [if_pos c13] at H
          have c13b0 : decide (x15_1 < (x7_1.length : Int)) = true := decide_eq_true c13
          clear c13
          obtain ⟨y151, hy151⟩ : ∃ y_ : List Int, y_ = (x7_1.set (x15_1 : Int).toNat (Go.bits .or .u32 (rd x7_1 x15_1) ((ji12) % 4294967296))) := ⟨_, rfl⟩
          replace H : (if (wrap64 (x15_1 + 1)) < a2 then (if 0 ≤ (wrap64 (x15_1 + 1)) then (if (wrap64 (x15_1 + 1)) < (x7_1.length : Int) then (natural_shift.l0 k1 a1 a2 (y151.set ((wrap64 (x15_1 + 1)) : Int).toNat (Go.bits .or .u32 (rd y151 (wrap64 (x15_1 + 1))) (((ji12) / 4294967296) % 4294967296))) l0 (l0.length : Int) (wrap64 (x15_1 + 1))) else (none)) else (none)) else (natural_shift.l0 k1 a1 a2 y151 l0 (l0.length : Int) (wrap64 (x15_1 + 1)))) = some r := by first | (rw [hy151]; with_reducible exact H) | (have H2_ := (Option.bind_some _ _).symm.trans H; rw [hy151]; with_reducible exact H2_) | (have H2_ := (Option.bind_some _ _).symm.trans H; with_reducible exact H2_) | with_reducible exact H | (rw [hy151]; exact H) | exact H
          have Ny151 := A0_.mk hy151
          clear hy151
          by_cases c15 : (wrap64 (x15_1 + 1)) < a2
          ·rw [if_pos c15] at H
           have c15b0 : decide ((wrap64 (x15_1 + 1)) < a2) = true := decide_eq_true c15
           clear c15
           obtain ⟨ji16, hji16⟩ : ∃ j_ : Int, (wrap64 (x15_1 + 1)) = j_ := ⟨_, rfl⟩
           replace H : (if 0 ≤ (ji16) then (if (ji16) < (x7_1.length : Int) then (natural_shift.l0 k1 a1 a2 (y151.set ((ji16) : Int).toNat (Go.bits .or .u32 (rd y151 (ji16)) (((ji12) / 4294967296) % 4294967296))) l0 (l0.length : Int) ji16) else (none)) else (none)) = some r := by first | (rw [hji16] at H; exact H) | (simp only [hji16] at H ⊢; exact H)
           (try rw [hji16] at c15b0)
           have hji16w : (IntKind.i64.wrap (x15_1 + 1)) = ji16 := (i64_w _).trans hji16
           by_cases c17 : 0 ≤ (ji16)
           ·rw [if_pos c17] at H
            have c17b0 : decide (0 ≤ (ji16)) = true := decide_eq_true c17
            clear c17
            by_cases c18 : (ji16) < (x7_1.length : Int)
            ·rw [if_pos c18] at H
             have c18b0 : decide ((ji16) < (x7_1.length : Int)) = true := decide_eq_true c18
             clear c18
             obtain ⟨y153, hy153⟩ : ∃ y_ : List Int, y_ = (y151.set ((ji16) : Int).toNat (Go.bits .or .u32 (rd y151 (ji16)) (((ji12) / 4294967296) % 4294967296))) := ⟨_, rfl⟩
             replace H : (natural_shift.l0 k1 a1 a2 y153 l0 (l0.length : Int) ji16) = some r := by first | (rw [hy153]; with_reducible exact H) | (have H2_ := (Option.bind_some _ _).symm.trans H; rw [hy153]; with_reducible exact H2_) | (have H2_ := (Option.bind_some _ _).symm.trans H; with_reducible exact H2_) | with_reducible exact H | (rw [hy153]; exact H) | exact H
             have Ny153 := A0_.mk hy153
             clear hy153
             have H' := A0_.mk H
             clear H
             have p149 : 0 ≤ (x15_1 : Int) := of_decide_eq_true (by first | (with_reducible assumption) | assumption)
             have q149 : x15_1 < (l0.length : Int) := of_decide_eq_true (by first | (with_reducible assumption) | assumption)
             obtain ⟨ad149, e149, hx149_0⟩ := Kd.at_int HR0.out x15_1 p149 q149
             cases e149
             (try replace hx149_0 := (HB.out.cell (World.block_lt_of_cell? w _ hx149_0)).trans hx149_0)
             replace p149 := eq_true p149
             replace q149 := eq_true q149
             obtain ⟨Ao20, co20, eo20⟩ := Kd.R_slice HO_7.out
             subst eo20
             have p150 : 0 ≤ (x15_1 : Int) := of_decide_eq_true (by first | (with_reducible assumption) | assumption)
             have q150 : x15_1 < (x7_1.length : Int) := of_decide_eq_true (by first | (with_reducible assumption) | assumption)
             obtain ⟨ad150, e150, hx150_0⟩ := Kd.at_int (Kd.R_reads' HO_7.out).2.2 x15_1 p150 q150
             cases e150
             replace p150 := eq_true p150
             replace q150 := eq_true q150
             have p14 : 0 ≤ (x15_1 : Int) := of_decide_eq_true (by first | (with_reducible assumption) | assumption)
             have q14 : (x15_1 : Int) < ((x7_1.length : Int) : Int) := of_decide_eq_true (by first | (with_reducible assumption) | assumption)
             obtain ⟨go14, co14, eo14, gb14, gl14, cl14, HG14⟩ := Kd.R_form HO_7.out (by omega)
             (first | cases eo14 | (injection eo14 with ea_ en_ ec_; (first | subst ea_ | (injection ea_ with ea_; subst ea_)); subst ec_; clear en_))
             have GB14 := A0_.mk gb14
             have GG14 := A0_.mk HG14
             clear gb14 gl14 HG14
             (first | simp only [add_plain] at hx150_0 | skip)
             obtain ⟨hx14_0, hf14_0⟩ := Kd.R_celln 0 HO_7.out (x15_1 : Int) p14 q14
             replace p14 := eq_true p14
             replace q14 := eq_true q14
             have HP21 := Kd.R_putg HO_7.out (x15_1 : Int) (Go.bits .or .u32 (rd x7_1 x15_1) ((ji12) % 4294967296))
             go_wp2_with (first | ((with_reducible refine gate_store (t := 89) (p := 31) rfl ?_); refine store_event (t := 89) (p := 31) (v := ?vo_w22) (w1 := (wr.setCell ⟨go14, (x15_1 : Int).toNat, none⟩ (.int .u32 (Go.bits .or .u32 (rd x7_1 x15_1) ((ji12) % 4294967296))))) ?hg ?ho ?hn ?hr ?_; (case ho => rfl); (case hg => rfl); (case hn => rfl); (case hr => first | (go_simp; done) | (go_simp; rfl)); intro w22 hw; have hg : wr.grownBy w22 (some go14) := (by rw [hw]; exact HP21.2); have hp_ : Kd.R (Kd.int .u32) 89 w22 w.heap.size (fun _ => True) (.slice (some ⟨go14, 0, none⟩) x7_1.length co20) y151 := (by rw [hw, Ny151.out]; exact HP21.1); clear HP21; have n0_ := A0_.mk (hp_); have n1_ := A0_.mk ((by rw [hw]; exact bS_ (HB.out) GB14.out : Below w.heap.size w w22)); clear HO_7; clear HB; have HO_7 := n0_; have HB := n1_; clear n0_ n1_; clear hg hw hp_; have p152 : 0 ≤ ((ji16) : Int) := of_decide_eq_true (by first | (with_reducible assumption) | assumption); have q152 : (ji16) < (y151.length : Int) := (by have h_ : ((ji16) : Int) < ((x7_1.length : Int) : Int) := of_decide_eq_true (by first | (with_reducible assumption) | assumption); first | (have e_ := (Kd.R_reads' HO_7.out).1; omega) | simpa only [Ny151.out, List.length_set] using h_); have ql152 : (((ji16) : Int) < ((x7_1.length : Int) : Int)) = True := eq_true (of_decide_eq_true (by first | (with_reducible assumption) | assumption)); obtain ⟨ad152, e152, hx152_0⟩ := Kd.at_int (Kd.R_reads' HO_7.out).2.2 (ji16) p152 q152; obtain rfl : (⟨go14, 0, none⟩ : Addr) = ad152 := (by injection e152); (first | simp only [add_plain] at hx152_0 | simp only [add_at] at hx152_0 | simp only [Addr.add, Nat.zero_add] at hx152_0 | skip); replace p152 := eq_true p152; replace q152 := eq_true q152; have p19 : 0 ≤ ((ji16) : Int) := of_decide_eq_true (by first | (with_reducible assumption) | assumption); have q19 : ((ji16) : Int) < ((x7_1.length : Int) : Int) := of_decide_eq_true (by first | (with_reducible assumption) | assumption); obtain ⟨hx19_0, hf19_0⟩ := Kd.R_celln 0 HO_7.out ((ji16) : Int) p19 q19; replace p19 := eq_true p19; replace q19 := eq_true q19; obtain ⟨hy23_, hz23_⟩ := Kd.R_celln 0 HO_7.out ((ji16) : Int) (of_decide_eq_true (by first | (with_reducible assumption) | assumption)) (of_decide_eq_true (by first | (with_reducible assumption) | assumption)); have HP23 := Kd.R_putg HO_7.out ((ji16) : Int) (Go.bits .or .u32 (rd y151 (ji16)) (((ji12) / 4294967296) % 4294967296))) | ((with_reducible refine gate_store (t := 89) (p := 45) rfl ?_); refine store_event (t := 89) (p := 45) (v := ?vo_w24) (w1 := (w22.setCell ⟨go14, ((ji16) : Int).toNat, none⟩ (.int .u32 (Go.bits .or .u32 (rd y151 (ji16)) (((ji12) / 4294967296) % 4294967296))))) ?hg ?ho ?hn ?hr ?_; (case ho => rfl); (case hg => rfl); (case hn => rfl); (case hr => first | (go_simp; done) | (go_simp; rfl)); intro w24 hw; have hg : w22.grownBy w24 (some go14) := (by rw [hw]; exact HP23.2); have hp_ : Kd.R (Kd.int .u32) 89 w24 w.heap.size (fun _ => True) (.slice (some ⟨go14, 0, none⟩) x7_1.length co20) y153 := (by rw [hw, Ny153.out]; exact HP23.1); clear HP23; have n0_ := A0_.mk (hp_); have n1_ := A0_.mk ((by rw [hw]; exact bS_ (HB.out) GB14.out : Below w.heap.size w w24)); clear HO_7; clear HB; have HO_7 := n0_; have HB := n1_; clear n0_ n1_; clear hg hw hp_))
             (try simp only [add_plain])
             go_roundg k1
             case measure => have := HK1.out; omega
             case rel => exact ⟨(y153), (ji16), (by first | rfl | (simp; done) | (simp only [← hji16] <;> (first | rfl | simp)) | (simp [*]; done)), H', ⟨by have := HK1.out; omega⟩, ⟨by (with_reducible repeat (first | apply Kd.R_alloc | apply Kd.R_drewN | apply Kd.R_drew)); exact HO_7.out⟩, ⟨by repeat (first | (with_reducible first | exact HB.out | apply bA_ | apply pB_ | apply b1_) | exact HB.out)⟩⟩
            ·rw [if_neg c18] at H
             exact absurd H (by simp)
           ·rw [if_neg c17] at H
            exact absurd H (by simp)
          ·rw [if_neg c15] at H
           have c15b0 : decide ((wrap64 (x15_1 + 1)) < a2) = false := decide_eq_false c15
           clear c15
           have H' := A0_.mk H
           clear H
           have p149 : 0 ≤ (x15_1 : Int) := of_decide_eq_true (by first | (with_reducible assumption) | assumption)
           have q149 : x15_1 < (l0.length : Int) := of_decide_eq_true (by first | (with_reducible assumption) | assumption)
           obtain ⟨ad149, e149, hx149_0⟩ := Kd.at_int HR0.out x15_1 p149 q149
           cases e149
           (try replace hx149_0 := (HB.out.cell (World.block_lt_of_cell? w _ hx149_0)).trans hx149_0)
           replace p149 := eq_true p149
           replace q149 := eq_true q149
           obtain ⟨Ao25, co25, eo25⟩ := Kd.R_slice HO_7.out
           subst eo25
           have p150 : 0 ≤ (x15_1 : Int) := of_decide_eq_true (by first | (with_reducible assumption) | assumption)
           have q150 : x15_1 < (x7_1.length : Int) := of_decide_eq_true (by first | (with_reducible assumption) | assumption)
           obtain ⟨ad150, e150, hx150_0⟩ := Kd.at_int (Kd.R_reads' HO_7.out).2.2 x15_1 p150 q150
           cases e150
           replace p150 := eq_true p150
           replace q150 := eq_true q150
           have p14 : 0 ≤ (x15_1 : Int) := of_decide_eq_true (by first | (with_reducible assumption) | assumption)
           have q14 : (x15_1 : Int) < ((x7_1.length : Int) : Int) := of_decide_eq_true (by first | (with_reducible assumption) | assumption)
           obtain ⟨go14, co14, eo14, gb14, gl14, cl14, HG14⟩ := Kd.R_form HO_7.out (by omega)
           (first | cases eo14 | (injection eo14 with ea_ en_ ec_; (first | subst ea_ | (injection ea_ with ea_; subst ea_)); subst ec_; clear en_))
           have GB14 := A0_.mk gb14
           have GG14 := A0_.mk HG14
           clear gb14 gl14 HG14
           (first | simp only [add_plain] at hx150_0 | skip)
           obtain ⟨hx14_0, hf14_0⟩ := Kd.R_celln 0 HO_7.out (x15_1 : Int) p14 q14
           replace p14 := eq_true p14
           replace q14 := eq_true q14
           have HP26 := Kd.R_putg HO_7.out (x15_1 : Int) (Go.bits .or .u32 (rd x7_1 x15_1) ((ji12) % 4294967296))
           go_wp2_with (first | ((with_reducible refine gate_store (t := 89) (p := 31) rfl ?_); refine store_event (t := 89) (p := 31) (v := ?vo_w27) (w1 := (wr.setCell ⟨go14, (x15_1 : Int).toNat, none⟩ (.int .u32 (Go.bits .or .u32 (rd x7_1 x15_1) ((ji12) % 4294967296))))) ?hg ?ho ?hn ?hr ?_; (case ho => rfl); (case hg => rfl); (case hn => rfl); (case hr => first | (go_simp; done) | (go_simp; rfl)); intro w27 hw; have hg : wr.grownBy w27 (some go14) := (by rw [hw]; exact HP26.2); have hp_ : Kd.R (Kd.int .u32) 89 w27 w.heap.size (fun _ => True) (.slice (some ⟨go14, 0, none⟩) x7_1.length co25) y151 := (by rw [hw, Ny151.out]; exact HP26.1); clear HP26; have n0_ := A0_.mk (hp_); have n1_ := A0_.mk ((by rw [hw]; exact bS_ (HB.out) GB14.out : Below w.heap.size w w27)); clear HO_7; clear HB; have HO_7 := n0_; have HB := n1_; clear n0_ n1_; clear hg hw hp_))
           (try simp only [add_plain])
           go_roundg k1
           case measure => have := HK1.out; omega
           case rel => exact ⟨(y151), (wrap64 (x15_1 + 1)), (by first | rfl | (simp; done) | (simp [*]; done)), H', ⟨by have := HK1.out; omega⟩, ⟨by (with_reducible repeat (first | apply Kd.R_alloc | apply Kd.R_drewN | apply Kd.R_drew)); exact HO_7.out⟩, ⟨by repeat (first | (with_reducible first | exact HB.out | apply bA_ | apply pB_ | apply b1_) | exact HB.out)⟩⟩
         ·rw [if_neg c13] at H
          exact absurd H (by simp)
        ·rw [if_neg c11] at H
         exact absurd H (by simp)
       ·rw [if_neg c10] at H
        exact absurd H (by simp)
      ·rw [if_neg c9] at H
       exact absurd H (by simp)
     ·rw [if_neg c8] at H
      have c8b0 : decide (x15_1 < (l0.length : Int)) = false := decide_eq_false c8
      clear c8
      obtain rfl := Option.some.inj H
      go_wp2
      go_ret
      exact ⟨_, by first | rfl | (simp [errW_none, errW_some] <;> rfl) | (simp [*, errW_none, errW_some] <;> rfl), by (with_reducible repeat (first | apply Kd.R_alloc | apply Kd.R_drewN | apply Kd.R_drew)); exact HO_7.out, by repeat (first | (with_reducible first | exact HB.out | apply bA_ | apply pB_ | apply b1_) | exact HB.out)⟩
  ·rw [if_neg c5] at H
   exact absurd H (by simp)
 ·rw [if_neg c4] at H
  exact absurd H (by simp)
def bits_Add32.f (a0 : Int) (a1 : Int) (a2 : Int) : Option (Int × Int) := some ((IntKind.u64.wrap ((IntKind.u64.wrap ((IntKind.u64.wrap (a0)) + (IntKind.u64.wrap (a1)))) + (IntKind.u64.wrap (a2)))) % 4294967296, ((IntKind.u64.wrap ((IntKind.u64.wrap ((IntKind.u64.wrap (a0)) + (IntKind.u64.wrap (a1)))) + (IntKind.u64.wrap (a2)))) / 4294967296) % 4294967296)
set_option maxHeartbeats 8000000 in
set_option maxRecDepth 100000 in
theorem bits_Add32.calls (a0 : Int) (a1 : Int) (a2 : Int) (r1 : Int) (r2 : Int) (w : World) (h : bits_Add32.f a0 a1 a2 = some (r1, r2)) :
  Calls Tryd.prog 80 #[.int .u32 a0, .int .u32 a1, .int .u32 a2] w fun e w' => e = .returned (.tuple #[.int .u32 r1, .int .u32 r2]) ∧ Drawn0 w w' := by
 have H : (some ((IntKind.u64.wrap ((IntKind.u64.wrap ((IntKind.u64.wrap (a0)) + (IntKind.u64.wrap (a1)))) + (IntKind.u64.wrap (a2)))) % 4294967296, ((IntKind.u64.wrap ((IntKind.u64.wrap ((IntKind.u64.wrap (a0)) + (IntKind.u64.wrap (a1)))) + (IntKind.u64.wrap (a2)))) / 4294967296) % 4294967296)) = some (r1, r2) := h
 clear h
 simp only [Option.some.injEq, Prod.mk.injEq] at H
 obtain ⟨rfl, rfl⟩ := H
 go_enter Tryd.func80, Tryd.ntmps80
 go_wp2
 go_ret2
 exact ⟨by first | rfl | (simp; done) | (simp [*]; done), by repeat (first | exact Drawn0.refl _ | apply Drawn0.step)⟩
def bits_Sub32.f (a0 : Int) (a1 : Int) (a2 : Int) : Option (Int × Int) := some ((((a0 - a1) % 4294967296) - a2) % 4294967296, (Go.bits .or .u32 (Go.bits .and .u32 (Go.bits .xor .u32 4294967295 a0) a1) (Go.bits .and .u32 (Go.bits .xor .u32 4294967295 (Go.bits .xor .u32 a0 a1)) ((((a0 - a1) % 4294967296) - a2) % 4294967296))) / 2147483648)
set_option maxHeartbeats 8000000 in
set_option maxRecDepth 100000 in
theorem bits_Sub32.calls (a0 : Int) (a1 : Int) (a2 : Int) (r1 : Int) (r2 : Int) (w : World) (h : bits_Sub32.f a0 a1 a2 = some (r1, r2)) :
  Calls Tryd.prog 101 #[.int .u32 a0, .int .u32 a1, .int .u32 a2] w fun e w' => e = .returned (.tuple #[.int .u32 r1, .int .u32 r2]) ∧ Drawn0 w w' := by
 have H : (some ((((a0 - a1) % 4294967296) - a2) % 4294967296, (Go.bits .or .u32 (Go.bits .and .u32 (Go.bits .xor .u32 4294967295 a0) a1) (Go.bits .and .u32 (Go.bits .xor .u32 4294967295 (Go.bits .xor .u32 a0 a1)) ((((a0 - a1) % 4294967296) - a2) % 4294967296))) / 2147483648)) = some (r1, r2) := h
 clear h
 simp only [Option.some.injEq, Prod.mk.injEq] at H
 obtain ⟨rfl, rfl⟩ := H
 go_enter Tryd.func101, Tryd.ntmps101
 go_wp2
 go_ret2
 exact ⟨by first | rfl | (simp; done) | (simp [*]; done), by repeat (first | exact Drawn0.refl _ | apply Drawn0.step)⟩
mutual
def natural_step.j2 : Nat → List Int → List Int → Int → Int → Option (Int × List Int)
 | 0, _, _, _, _ => none
 | k + 1, x0, x1, x5, x7 => natural_step.l1 k x0 x1 x5 x7 0 0 x1 (x1.length : Int) 0
def natural_step.l1 : Nat → List Int → List Int → Int → Int → Int → Int → List Int → Int → Int → Option (Int × List Int)
 | 0, _, _, _, _, _, _, _, _, _ => none
 | k + 1, x0, x1, x5, x7, x9, x10, x82, x83, x84 => if x84 < x83 then (if 0 ≤ x84 then (if x84 < (x82.length : Int) then (if x84 < (x0.length : Int) then ((bits_Sub32.f (rd x0 x84) ((IntKind.u64.wrap ((IntKind.u64.wrap (x7 * (IntKind.u64.wrap (rd x82 x84)))) + x9)) % 4294967296) x10).bind fun bt163 => (natural_step.l1 k (x0.set (x84 : Int).toNat bt163.1) x1 x5 x7 ((IntKind.u64.wrap ((IntKind.u64.wrap (x7 * (IntKind.u64.wrap (rd x82 x84)))) + x9)) / 4294967296) bt163.2 x82 x83 (wrap64 (x84 + 1)))) else (none)) else (none)) else (none)) else (if 0 ≤ x5 then (if x5 < (x0.length : Int) then ((bits_Sub32.f (rd x0 x5) ((x9) % 4294967296) x10).bind fun bt167 => ((some (x0.set (x5 : Int).toNat bt167.1 : List Int)).bind fun y169 => (if bt167.2 = 0 then (some ((x7) % 4294967296, y169)) else (natural_step.l2 k y169 x5 x7 0 x1 (x1.length : Int) 0)))) else (none)) else (none))
def natural_step.l2 : Nat → List Int → Int → Int → Int → List Int → Int → Int → Option (Int × List Int)
 | 0, _, _, _, _, _, _, _ => none
 | k + 1, x0, x5, x7, x14, x130, x131, x132 => if x132 < x131 then (if 0 ≤ x132 then (if x132 < (x130.length : Int) then (if x132 < (x0.length : Int) then ((bits_Add32.f (rd x0 x132) (rd x130 x132) x14).bind fun bt172 => (natural_step.l2 k (x0.set (x132 : Int).toNat bt172.1) x5 x7 bt172.2 x130 x131 (wrap64 (x132 + 1)))) else (none)) else (none)) else (none)) else (if 0 ≤ x5 then (if x5 < (x0.length : Int) then (some ((IntKind.u64.wrap (x7 - 1)) % 4294967296, (x0.set (x5 : Int).toNat (((rd x0 x5) + x14) % 4294967296)))) else (none)) else (none))
def natural_step.l0 : Nat → List Int → List Int → Int → Int → Int → Option (Int × List Int)
 | 0, _, _, _, _, _ => none
 | k + 1, x0, x1, x5, x7, x8 => if x7 ≥ 4294967296 then (natural_step.j1 k x0 x1 x5 x7 x8 true) else (if 0 ≤ (wrap64 (x5 - 2)) then (if (wrap64 (x5 - 2)) < (x1.length : Int) then (if (wrap64 (x5 - 2)) < (x0.length : Int) then (natural_step.j1 k x0 x1 x5 x7 x8 (decide ((IntKind.u64.wrap (x7 * (IntKind.u64.wrap (rd x1 (wrap64 (x5 - 2)))))) > (Go.bits .or .u64 (IntKind.u64.wrap (x8 * 4294967296)) (IntKind.u64.wrap (rd x0 (wrap64 (x5 - 2)))))))) else (none)) else (none)) else (none))
def natural_step.j1 : Nat → List Int → List Int → Int → Int → Int → Bool → Option (Int × List Int)
 | 0, _, _, _, _, _, _ => none
 | k + 1, x0, x1, x5, x7, x8, x69 => if x69 = true then (if 0 ≤ (wrap64 (x5 - 1)) then (if (wrap64 (x5 - 1)) < (x1.length : Int) then (if (IntKind.u64.wrap (x8 + (IntKind.u64.wrap (rd x1 (wrap64 (x5 - 1)))))) ≥ 4294967296 then (natural_step.j2 k x0 x1 x5 (IntKind.u64.wrap (x7 - 1))) else (natural_step.l0 k x0 x1 x5 (IntKind.u64.wrap (x7 - 1)) (IntKind.u64.wrap (x8 + (IntKind.u64.wrap (rd x1 (wrap64 (x5 - 1)))))))) else (none)) else (none)) else (natural_step.j2 k x0 x1 x5 x7)
end
def natural_step.f (k : Nat) (l0 : List Int) (l1 : List Int) : Option (Int × List Int) := if 0 ≤ (l1.length : Int) then (if (l1.length : Int) < (l0.length : Int) then (if 0 ≤ (wrap64 ((l1.length : Int) - 1)) then (if (wrap64 ((l1.length : Int) - 1)) < (l0.length : Int) then (if (wrap64 ((l1.length : Int) - 1)) < (l1.length : Int) then (if (IntKind.u64.wrap (rd l1 (wrap64 ((l1.length : Int) - 1)))) = 0 then (none) else (natural_step.l0 k l0 l1 (l1.length : Int) (IntKind.u64.wrap (Int.tdiv (Go.bits .or .u64 (IntKind.u64.wrap ((IntKind.u64.wrap (rd l0 (l1.length : Int))) * 4294967296)) (IntKind.u64.wrap (rd l0 (wrap64 ((l1.length : Int) - 1))))) (IntKind.u64.wrap (rd l1 (wrap64 ((l1.length : Int) - 1)))))) (Int.tmod (Go.bits .or .u64 (IntKind.u64.wrap ((IntKind.u64.wrap (rd l0 (l1.length : Int))) * 4294967296)) (IntKind.u64.wrap (rd l0 (wrap64 ((l1.length : Int) - 1))))) (IntKind.u64.wrap (rd l1 (wrap64 ((l1.length : Int) - 1))))))) else (none)) else (none)) else (none)) else (none)) else (none)
theorem natural_step.mono_l : ∀ k, (∀ y0 y1 y2 y3, LeO (natural_step.j2 k y0 y1 y2 y3) (natural_step.j2 (k + 1) y0 y1 y2 y3)) ∧ (∀ y0 y1 y2 y3 y4 y5 y6 y7 y8, LeO (natural_step.l1 k y0 y1 y2 y3 y4 y5 y6 y7 y8) (natural_step.l1 (k + 1) y0 y1 y2 y3 y4 y5 y6 y7 y8)) ∧ (∀ y0 y1 y2 y3 y4 y5 y6, LeO (natural_step.l2 k y0 y1 y2 y3 y4 y5 y6) (natural_step.l2 (k + 1) y0 y1 y2 y3 y4 y5 y6)) ∧ (∀ y0 y1 y2 y3 y4, LeO (natural_step.l0 k y0 y1 y2 y3 y4) (natural_step.l0 (k + 1) y0 y1 y2 y3 y4)) ∧ (∀ y0 y1 y2 y3 y4 y5, LeO (natural_step.j1 k y0 y1 y2 y3 y4 y5) (natural_step.j1 (k + 1) y0 y1 y2 y3 y4 y5))
 | 0 => ⟨fun _ _ _ _ r h => by simp [natural_step.j2] at h, fun _ _ _ _ _ _ _ _ _ r h => by simp [natural_step.l1] at h, fun _ _ _ _ _ _ _ r h => by simp [natural_step.l2] at h, fun _ _ _ _ _ r h => by simp [natural_step.l0] at h, fun _ _ _ _ _ _ r h => by simp [natural_step.j1] at h⟩
 | k + 1 => by
  obtain ⟨ih0, ih1, ih2, ih3, ih4⟩ := natural_step.mono_l k
  refine ⟨?_, ?_, ?_, ?_, ?_⟩
  ·intro y0 y1 y2 y3
   unfold natural_step.j2
   repeat' first
   | (with_reducible exact ih0 _ _ _ _)
   | (with_reducible exact ih1 _ _ _ _ _ _ _ _ _)
   | (with_reducible exact ih2 _ _ _ _ _ _ _)
   | (with_reducible exact ih3 _ _ _ _ _)
   | (with_reducible exact ih4 _ _ _ _ _ _)
   | (with_reducible exact LeO.refl _)
   | (with_reducible exact LeO.none _)
   | (with_reducible refine LeO.ite ?_ ?_)
   | (with_reducible refine LeO.bind ?_ (fun _ => ?_))
   | exact ih0 _ _ _ _
   | exact ih1 _ _ _ _ _ _ _ _ _
   | exact ih2 _ _ _ _ _ _ _
   | exact ih3 _ _ _ _ _
   | exact ih4 _ _ _ _ _ _
   | exact LeO.none _
   | refine LeO.ite ?_ ?_
   | refine LeO.bind ?_ (fun _ => ?_)
  ·intro y0 y1 y2 y3 y4 y5 y6 y7 y8
   unfold natural_step.l1
   repeat' first
   | (with_reducible exact ih0 _ _ _ _)
   | (with_reducible exact ih1 _ _ _ _ _ _ _ _ _)
   | (with_reducible exact ih2 _ _ _ _ _ _ _)
   | (with_reducible exact ih3 _ _ _ _ _)
   | (with_reducible exact ih4 _ _ _ _ _ _)
   | (with_reducible exact LeO.refl _)
   | (with_reducible exact LeO.none _)
   | (with_reducible refine LeO.ite ?_ ?_)
   | (with_reducible refine LeO.bind ?_ (fun _ => ?_))
   | exact ih0 _ _ _ _
   | exact ih1 _ _ _ _ _ _ _ _ _
   | exact ih2 _ _ _ _ _ _ _
   | exact ih3 _ _ _ _ _
   | exact ih4 _ _ _ _ _ _
   | exact LeO.none _
   | refine LeO.ite ?_ ?_
   | refine LeO.bind ?_ (fun _ => ?_)
  ·intro y0 y1 y2 y3 y4 y5 y6
   unfold natural_step.l2
   repeat' first
   | (with_reducible exact ih0 _ _ _ _)
   | (with_reducible exact ih1 _ _ _ _ _ _ _ _ _)
   | (with_reducible exact ih2 _ _ _ _ _ _ _)
   | (with_reducible exact ih3 _ _ _ _ _)
   | (with_reducible exact ih4 _ _ _ _ _ _)
   | (with_reducible exact LeO.refl _)
   | (with_reducible exact LeO.none _)
   | (with_reducible refine LeO.ite ?_ ?_)
   | (with_reducible refine LeO.bind ?_ (fun _ => ?_))
   | exact ih0 _ _ _ _
   | exact ih1 _ _ _ _ _ _ _ _ _
   | exact ih2 _ _ _ _ _ _ _
   | exact ih3 _ _ _ _ _
   | exact ih4 _ _ _ _ _ _
   | exact LeO.none _
   | refine LeO.ite ?_ ?_
   | refine LeO.bind ?_ (fun _ => ?_)
  ·intro y0 y1 y2 y3 y4
   unfold natural_step.l0
   repeat' first
   | (with_reducible exact ih0 _ _ _ _)
   | (with_reducible exact ih1 _ _ _ _ _ _ _ _ _)
   | (with_reducible exact ih2 _ _ _ _ _ _ _)
   | (with_reducible exact ih3 _ _ _ _ _)
   | (with_reducible exact ih4 _ _ _ _ _ _)
   | (with_reducible exact LeO.refl _)
   | (with_reducible exact LeO.none _)
   | (with_reducible refine LeO.ite ?_ ?_)
   | (with_reducible refine LeO.bind ?_ (fun _ => ?_))
   | exact ih0 _ _ _ _
   | exact ih1 _ _ _ _ _ _ _ _ _
   | exact ih2 _ _ _ _ _ _ _
   | exact ih3 _ _ _ _ _
   | exact ih4 _ _ _ _ _ _
   | exact LeO.none _
   | refine LeO.ite ?_ ?_
   | refine LeO.bind ?_ (fun _ => ?_)
  ·intro y0 y1 y2 y3 y4 y5
   unfold natural_step.j1
   repeat' first
   | (with_reducible exact ih0 _ _ _ _)
   | (with_reducible exact ih1 _ _ _ _ _ _ _ _ _)
   | (with_reducible exact ih2 _ _ _ _ _ _ _)
   | (with_reducible exact ih3 _ _ _ _ _)
   | (with_reducible exact ih4 _ _ _ _ _ _)
   | (with_reducible exact LeO.refl _)
   | (with_reducible exact LeO.none _)
   | (with_reducible refine LeO.ite ?_ ?_)
   | (with_reducible refine LeO.bind ?_ (fun _ => ?_))
   | exact ih0 _ _ _ _
   | exact ih1 _ _ _ _ _ _ _ _ _
   | exact ih2 _ _ _ _ _ _ _
   | exact ih3 _ _ _ _ _
   | exact ih4 _ _ _ _ _ _
   | exact LeO.none _
   | refine LeO.ite ?_ ?_
   | refine LeO.bind ?_ (fun _ => ?_)
theorem natural_step.mono : ∀ a0 a1 k, LeO (natural_step.f k a0 a1) (natural_step.f (k + 1) a0 a1) := by
 intro a0 a1 k
 obtain ⟨ih0, ih1, ih2, ih3, ih4⟩ := natural_step.mono_l k
 unfold natural_step.f
 repeat' first
   | (with_reducible exact ih0 _ _ _ _)
   | (with_reducible exact ih1 _ _ _ _ _ _ _ _ _)
   | (with_reducible exact ih2 _ _ _ _ _ _ _)
   | (with_reducible exact ih3 _ _ _ _ _)
   | (with_reducible exact ih4 _ _ _ _ _ _)
   | (with_reducible exact LeO.refl _)
   | (with_reducible exact LeO.none _)
   | (with_reducible refine LeO.ite ?_ ?_)
   | (with_reducible refine LeO.bind ?_ (fun _ => ?_))
   | exact ih0 _ _ _ _
   | exact ih1 _ _ _ _ _ _ _ _ _
   | exact ih2 _ _ _ _ _ _ _
   | exact ih3 _ _ _ _ _
   | exact ih4 _ _ _ _ _ _
   | exact LeO.none _
   | refine LeO.ite ?_ ?_
   | refine LeO.bind ?_ (fun _ => ?_)
def natural_unshift.l0 : Nat → List Int → Int → List Int → Int → Int → Option (List Int)
 | 0, _, _, _, _, _ => none
 | k + 1, x0, x1, x5, x12, x13 => if x13 < x12 then (if 0 ≤ x13 then (if x13 < (x0.length : Int) then (if (wrap64 (x13 + 1)) < (x0.length : Int) then (if 0 ≤ (wrap64 (x13 + 1)) then (if 0 ≤ x1 then (if x13 < (x5.length : Int) then (natural_unshift.l0 k x0 x1 (x5.set (x13 : Int).toNat ((shr .u64 (Go.bits .or .u64 (IntKind.u64.wrap (rd x0 x13)) (IntKind.u64.wrap ((IntKind.u64.wrap (rd x0 (wrap64 (x13 + 1)))) * 4294967296))) x1) % 4294967296)) x12 (wrap64 (x13 + 1))) else (none)) else (none)) else (none)) else (if 0 ≤ x1 then (if x13 < (x5.length : Int) then (natural_unshift.l0 k x0 x1 (x5.set (x13 : Int).toNat ((shr .u64 (IntKind.u64.wrap (rd x0 x13)) x1) % 4294967296)) x12 (wrap64 (x13 + 1))) else (none)) else (none))) else (none)) else (none)) else ((natural_limbs_trim.f k x5).bind fun t184 => (some t184))
def natural_unshift.f (k : Nat) (l0 : List Int) (a1 : Int) : Option (List Int) := if 0 ≤ (l0.length : Int) then (if ((l0.length : Int) : Int).toNat ≤ 70368744177664 then (natural_unshift.l0 k l0 a1 (List.replicate ((l0.length : Int) : Int).toNat 0) (l0.length : Int) 0) else (none)) else (none)
theorem natural_unshift.mono_l : ∀ k, (∀ y0 y1 y2 y3 y4, LeO (natural_unshift.l0 k y0 y1 y2 y3 y4) (natural_unshift.l0 (k + 1) y0 y1 y2 y3 y4))
 | 0 => fun _ _ _ _ _ r h => by simp [natural_unshift.l0] at h
 | k + 1 => by
  have ih0 := natural_unshift.mono_l k
  ·intro y0 y1 y2 y3 y4
   unfold natural_unshift.l0
   repeat' first
   | (with_reducible exact ih0 _ _ _ _ _)
   | (with_reducible exact natural_limbs_trim.mono _ _)
   | (with_reducible exact LeO.refl _)
   | (with_reducible exact LeO.none _)
   | (with_reducible refine LeO.ite ?_ ?_)
   | (with_reducible refine LeO.bind ?_ (fun _ => ?_))
   | exact ih0 _ _ _ _ _
   | exact natural_limbs_trim.mono _ _
   | exact LeO.none _
   | refine LeO.ite ?_ ?_
   | refine LeO.bind ?_ (fun _ => ?_)
theorem natural_unshift.mono : ∀ a0 a1 k, LeO (natural_unshift.f k a0 a1) (natural_unshift.f (k + 1) a0 a1) := by
 intro a0 a1 k
 have ih0 := natural_unshift.mono_l k
 unfold natural_unshift.f
 repeat' first
   | (with_reducible exact ih0 _ _ _ _ _)
   | (with_reducible exact natural_limbs_trim.mono _ _)
   | (with_reducible exact LeO.refl _)
   | (with_reducible exact LeO.none _)
   | (with_reducible refine LeO.ite ?_ ?_)
   | (with_reducible refine LeO.bind ?_ (fun _ => ?_))
   | exact ih0 _ _ _ _ _
   | exact natural_limbs_trim.mono _ _
   | exact LeO.none _
   | refine LeO.ite ?_ ?_
   | refine LeO.bind ?_ (fun _ => ?_)
set_option maxHeartbeats 8000000 in
set_option maxRecDepth 100000 in
theorem natural_unshift.calls (k : Nat) (A0 : Option Addr) (c0 : Nat) (l0 : List Int) (a1 : Int) (r : List Int) (w : World) (hr0 : Kd.C (Kd.int .u32) w A0 l0.length l0) (hc0 : l0.length ≤ c0) (h : natural_unshift.f k l0 a1 = some r) :
  Calls Tryd.prog 109 #[.slice A0 l0.length c0, .int .u64 a1] w fun e w' => ∃ v0_ : Value, e = .returned (v0_) ∧ Kd.R (Kd.int .u32) 89 w' w.heap.size (fun _ => True) v0_ r ∧ Below w.heap.size w w' := by
 have HR0 := A0_.mk hr0
 have HC0 := A0_.mk hc0
 clear hr0 hc0
 have HB := A0_.mk (Below.refl w.heap.size w)
 have H : (if 0 ≤ (l0.length : Int) then (if ((l0.length : Int) : Int).toNat ≤ 70368744177664 then (natural_unshift.l0 k l0 a1 (List.replicate ((l0.length : Int) : Int).toNat 0) (l0.length : Int) 0) else (none)) else (none)) = some r := h
 clear h
 by_cases c3 : 0 ≤ (l0.length : Int)
 ·rw [if_pos c3] at H
  have c3b0 := eq_true c3
  have c3b1 : decide (0 ≤ (l0.length : Int)) = true := decide_eq_true c3
  clear c3
  by_cases c4 : ((l0.length : Int) : Int).toNat ≤ 70368744177664
  ·rw [if_pos c4] at H
   have c4b0 := eq_true c4
   have c4b1 : decide (((l0.length : Int) : Int).toNat ≤ 70368744177664) = true := decide_eq_true c4
   clear c4
   obtain ⟨y177, hy177⟩ : ∃ y_ : List Int, y_ = (List.replicate ((l0.length : Int) : Int).toNat 0) := ⟨_, rfl⟩
   replace H : (natural_unshift.l0 k l0 a1 y177 (l0.length : Int) 0) = some r := by first | (rw [hy177]; with_reducible exact H) | (have H2_ := (Option.bind_some _ _).symm.trans H; rw [hy177]; with_reducible exact H2_) | (have H2_ := (Option.bind_some _ _).symm.trans H; with_reducible exact H2_) | with_reducible exact H | (rw [hy177]; exact H) | exact H
   have Ny177 := A0_.mk hy177
   clear hy177
   have H' := A0_.mk H
   clear H
   go_enter Tryd.func109, Tryd.ntmps109
   go_wp2_with (first | ((with_reducible refine gD_ (N := 10) rfl ?_); refine Kd.R_make (Kd.int .u32) _ 89 rfl (N := 10) rfl 87 _ _ rfl (l0.length : Int) rfl rfl Tryd.underlying87 (.int .u32 0) 4 info89 rfl (by decide) (by omega) 0 (ok := fun _ => True) (okp := fun _ => True) rfl (fun _ hk => hk) trivial (of_decide_eq_true (by first | (with_reducible assumption) | assumption)) (Nat.le_trans (Nat.mul_le_mul_right _ (of_decide_eq_true (by first | (with_reducible assumption) | assumption) : (l0.length : Int).toNat ≤ 70368744177664)) (by omega)) (Below.refl _ _) (Nat.le_refl _) ?_; intro v178 w5 ho6 hb hg_ hnew_; clear hg_ hnew_; (first | rw [← Ny177.out] at ho6 | (simp only [Int.reduceToNat] at ho6; rw [← Ny177.out] at ho6)); have n0_ := A0_.mk (Kd.R_lower ho6 (bZ_ (by repeat (first | (with_reducible first | exact HB.out | apply bA_ | apply pB_ | apply b1_) | exact HB.out)))); have n1_ := A0_.mk (bT_ (by repeat (first | (with_reducible first | exact HB.out | apply bA_ | apply pB_ | apply b1_) | exact HB.out)) hb); clear HB; have HO179 := n0_; have HB := n1_; clear n0_ n1_; clear hb ho6))
   go_loopg [13] k (fun kq v13 w' => ∃ (x5_1 : List Int) (x13_1 : Int), v13 = .int .i64 x13_1 ∧ A0_ (natural_unshift.l0 kq l0 a1 x5_1 (l0.length : Int) x13_1 = some r) ∧ A0_ (kq ≤ k) ∧ A0_ (Kd.R (Kd.int .u32) 89 w' w.heap.size (fun _ => True) v178 x5_1) ∧ A0_ (Below w.heap.size w w'))
   case atStart => exact ⟨(y177), (0), (by first | rfl | (simp; done) | (simp [*]; done)), H', ⟨Nat.le_refl _⟩, ⟨by (with_reducible repeat (first | apply Kd.R_alloc | apply Kd.R_drewN | apply Kd.R_drew)); exact HO179.out⟩, ⟨by repeat (first | (with_reducible first | exact HB.out | apply bA_ | apply pB_ | apply b1_) | exact HB.out)⟩⟩
   case round =>
    clear H'
    try clear c1
    try clear p2
    try clear c3
    try clear c3b0
    try clear c3b1
    try clear c4
    try clear c4b0
    try clear c4b1
    obtain ⟨x5_1, x13_1, rfl, HA, HK1, HO_5, HB⟩ := hrel
    cases gk with
    | zero => exact absurd HA.out (by simp [natural_unshift.l0])
    | succ k1 =>
     have H := HA.out
     clear HA
     simp only [natural_unshift.l0] at H
     by_cases c7 : x13_1 < (l0.length : Int)
     ·rw [if_pos c7] at H
      have c7b0 : decide (x13_1 < (l0.length : Int)) = true := decide_eq_true c7
      clear c7
      by_cases c8 : 0 ≤ x13_1
      ·rw [if_pos c8] at H
       have c8b0 : decide (0 ≤ x13_1) = true := decide_eq_true c8
       clear c8
       by_cases c9 : x13_1 < (l0.length : Int)
       ·rw [if_pos c9] at H
        have c9b0 : decide (x13_1 < (l0.length : Int)) = true := decide_eq_true c9
        clear c9
        by_cases c10 : (wrap64 (x13_1 + 1)) < (l0.length : Int)
        ·rw [if_pos c10] at H
         have c10b0 : decide ((wrap64 (x13_1 + 1)) < (l0.length : Int)) = true := decide_eq_true c10
         clear c10
         obtain ⟨ji11, hji11⟩ : ∃ j_ : Int, (wrap64 (x13_1 + 1)) = j_ := ⟨_, rfl⟩
         replace H : (if 0 ≤ (ji11) then (if 0 ≤ a1 then (if x13_1 < (x5_1.length : Int) then (natural_unshift.l0 k1 l0 a1 (x5_1.set (x13_1 : Int).toNat ((shr .u64 (Go.bits .or .u64 (IntKind.u64.wrap (rd l0 x13_1)) (IntKind.u64.wrap ((IntKind.u64.wrap (rd l0 (ji11))) * 4294967296))) a1) % 4294967296)) (l0.length : Int) ji11) else (none)) else (none)) else (none)) = some r := by first | (rw [hji11] at H; exact H) | (simp only [hji11] at H ⊢; exact H)
         (try rw [hji11] at c10b0)
         have hji11w : (IntKind.i64.wrap (x13_1 + 1)) = ji11 := (i64_w _).trans hji11
         by_cases c12 : 0 ≤ (ji11)
         ·rw [if_pos c12] at H
          have c12b0 : decide (0 ≤ (ji11)) = true := decide_eq_true c12
          clear c12
          by_cases c13 : 0 ≤ a1
          ·rw [if_pos c13] at H
           have c13b0 := eq_true c13
           have c13b1 : decide (0 ≤ a1) = true := decide_eq_true c13
           clear c13
           obtain ⟨ji14, hji14⟩ : ∃ j_ : Int, (shr .u64 (Go.bits .or .u64 (IntKind.u64.wrap (rd l0 x13_1)) (IntKind.u64.wrap ((IntKind.u64.wrap (rd l0 (ji11))) * 4294967296))) a1) = j_ := ⟨_, rfl⟩
           replace H : (if x13_1 < (x5_1.length : Int) then (natural_unshift.l0 k1 l0 a1 (x5_1.set (x13_1 : Int).toNat ((ji14) % 4294967296)) (l0.length : Int) ji11) else (none)) = some r := by first | (rw [hji14] at H; exact H) | (simp only [hji14] at H ⊢; exact H)
           have hji14_ : ((Go.bits .or .u64 (IntKind.u64.wrap (rd l0 x13_1)) (IntKind.u64.wrap ((IntKind.u64.wrap (rd l0 (ji11))) * 4294967296))) / 2 ^ min a1.toNat 64) = ji14 := hji14
           have hji14z : a1 ≤ 64 → ((Go.bits .or .u64 (IntKind.u64.wrap (rd l0 x13_1)) (IntKind.u64.wrap ((IntKind.u64.wrap (rd l0 (ji11))) * 4294967296))) / 2 ^ a1.toNat) = ji14 := shr_small hji14
           by_cases c15 : x13_1 < (x5_1.length : Int)
           ·rw [if_pos c15] at H
            have c15b0 : decide (x13_1 < (x5_1.length : Int)) = true := decide_eq_true c15
            clear c15
            obtain ⟨y182, hy182⟩ : ∃ y_ : List Int, y_ = (x5_1.set (x13_1 : Int).toNat ((ji14) % 4294967296)) := ⟨_, rfl⟩
            replace H : (natural_unshift.l0 k1 l0 a1 y182 (l0.length : Int) ji11) = some r := by first | (rw [hy182]; with_reducible exact H) | (have H2_ := (Option.bind_some _ _).symm.trans H; rw [hy182]; with_reducible exact H2_) | (have H2_ := (Option.bind_some _ _).symm.trans H; with_reducible exact H2_) | with_reducible exact H | (rw [hy182]; exact H) | exact H
            have Ny182 := A0_.mk hy182
            clear hy182
            have H' := A0_.mk H
            clear H
            have p180 : 0 ≤ (x13_1 : Int) := of_decide_eq_true (by first | (with_reducible assumption) | assumption)
            have q180 : x13_1 < (l0.length : Int) := of_decide_eq_true (by first | (with_reducible assumption) | assumption)
            obtain ⟨ad180, e180, hx180_0⟩ := Kd.at_int HR0.out x13_1 p180 q180
            cases e180
            (try replace hx180_0 := (HB.out.cell (World.block_lt_of_cell? w _ hx180_0)).trans hx180_0)
            replace p180 := eq_true p180
            replace q180 := eq_true q180
            have p181 : 0 ≤ ((ji11) : Int) := of_decide_eq_true (by first | (with_reducible assumption) | assumption)
            have q181 : (ji11) < (l0.length : Int) := of_decide_eq_true (by first | (with_reducible assumption) | assumption)
            obtain ⟨ad181, e181, hx181_0⟩ := Kd.at_int HR0.out (ji11) p181 q181
            obtain rfl : ad180 = ad181 := (by injection e181)
            (try replace hx181_0 := (HB.out.cell (World.block_lt_of_cell? w _ hx181_0)).trans hx181_0)
            replace p181 := eq_true p181
            replace q181 := eq_true q181
            have p16 : 0 ≤ (x13_1 : Int) := of_decide_eq_true (by first | (with_reducible assumption) | assumption)
            have q16 : (x13_1 : Int) < ((x5_1.length : Int) : Int) := of_decide_eq_true (by first | (with_reducible assumption) | assumption)
            obtain ⟨go16, co16, eo16, gb16, gl16, cl16, HG16⟩ := Kd.R_form HO_5.out (by omega)
            (first | cases eo16 | (injection eo16 with ea_ en_ ec_; (first | subst ea_ | (injection ea_ with ea_; subst ea_)); subst ec_; clear en_))
            have GB16 := A0_.mk gb16
            have GG16 := A0_.mk HG16
            clear gb16 gl16 HG16
            obtain ⟨hx16_0, hf16_0⟩ := Kd.R_celln 0 HO_5.out (x13_1 : Int) p16 q16
            replace p16 := eq_true p16
            replace q16 := eq_true q16
            have HP17 := Kd.R_putg HO_5.out (x13_1 : Int) ((ji14) % 4294967296)
            go_wp2_with (first | ((with_reducible refine gate_store (t := 89) (p := 41) rfl ?_); refine store_event (t := 89) (p := 41) (v := ?vo_w18) (w1 := (wr.setCell ⟨go16, (x13_1 : Int).toNat, none⟩ (.int .u32 ((ji14) % 4294967296)))) ?hg ?ho ?hn ?hr ?_; (case ho => rfl); (case hg => rfl); (case hn => rfl); (case hr => first | (go_simp; done) | (go_simp; rfl)); intro w18 hw; have hg : wr.grownBy w18 (some go16) := (by rw [hw]; exact HP17.2); have hp_ : Kd.R (Kd.int .u32) 89 w18 w.heap.size (fun _ => True) (.slice (some ⟨go16, 0, none⟩) x5_1.length co16) y182 := (by rw [hw, Ny182.out]; exact HP17.1); clear HP17; have n0_ := A0_.mk (hp_); have n1_ := A0_.mk ((by rw [hw]; exact bS_ (HB.out) GB16.out : Below w.heap.size w w18)); clear HO_5; clear HB; have HO_5 := n0_; have HB := n1_; clear n0_ n1_; clear hg hw hp_))
            (try simp only [add_plain])
            go_roundg k1
            case measure => have := HK1.out; omega
            case rel => exact ⟨(y182), (ji11), (by first | rfl | (simp; done) | (simp only [← hji11] <;> (first | rfl | simp)) | (simp [*]; done)), H', ⟨by have := HK1.out; omega⟩, ⟨by (with_reducible repeat (first | apply Kd.R_alloc | apply Kd.R_drewN | apply Kd.R_drew)); exact HO_5.out⟩, ⟨by repeat (first | (with_reducible first | exact HB.out | apply bA_ | apply pB_ | apply b1_) | exact HB.out)⟩⟩
           ·rw [if_neg c15] at H
            exact absurd H (by simp)
          ·rw [if_neg c13] at H
           exact absurd H (by simp)
         ·rw [if_neg c12] at H
          exact absurd H (by simp)
        ·rw [if_neg c10] at H
         have c10b0 : decide ((wrap64 (x13_1 + 1)) < (l0.length : Int)) = false := decide_eq_false c10
         clear c10
         by_cases c19 : 0 ≤ a1
         ·rw [if_pos c19] at H
          have c19b0 := eq_true c19
          have c19b1 : decide (0 ≤ a1) = true := decide_eq_true c19
          clear c19
          obtain ⟨ji20, hji20⟩ : ∃ j_ : Int, (shr .u64 (IntKind.u64.wrap (rd l0 x13_1)) a1) = j_ := ⟨_, rfl⟩
          replace H : (if x13_1 < (x5_1.length : Int) then (natural_unshift.l0 k1 l0 a1 (x5_1.set (x13_1 : Int).toNat ((ji20) % 4294967296)) (l0.length : Int) (wrap64 (x13_1 + 1))) else (none)) = some r := by first | (rw [hji20] at H; exact H) | (simp only [hji20] at H ⊢; exact H)
          have hji20_ : ((IntKind.u64.wrap (rd l0 x13_1)) / 2 ^ min a1.toNat 64) = ji20 := hji20
          have hji20z : a1 ≤ 64 → ((IntKind.u64.wrap (rd l0 x13_1)) / 2 ^ a1.toNat) = ji20 := shr_small hji20
          by_cases c21 : x13_1 < (x5_1.length : Int)
          ·rw [if_pos c21] at H
           have c21b0 : decide (x13_1 < (x5_1.length : Int)) = true := decide_eq_true c21
           clear c21
           obtain ⟨y183, hy183⟩ : ∃ y_ : List Int, y_ = (x5_1.set (x13_1 : Int).toNat ((ji20) % 4294967296)) := ⟨_, rfl⟩
           replace H : (natural_unshift.l0 k1 l0 a1 y183 (l0.length : Int) (wrap64 (x13_1 + 1))) = some r := by first | (rw [hy183]; with_reducible exact H) | (have H2_ := (Option.bind_some _ _).symm.trans H; rw [hy183]; with_reducible exact H2_) | (have H2_ := (Option.bind_some _ _).symm.trans H; with_reducible exact H2_) | with_reducible exact H | (rw [hy183]; exact H) | exact H
           have Ny183 := A0_.mk hy183
           clear hy183
           have H' := A0_.mk H
           clear H
           have p180 : 0 ≤ (x13_1 : Int) := of_decide_eq_true (by first | (with_reducible assumption) | assumption)
           have q180 : x13_1 < (l0.length : Int) := of_decide_eq_true (by first | (with_reducible assumption) | assumption)
           obtain ⟨ad180, e180, hx180_0⟩ := Kd.at_int HR0.out x13_1 p180 q180
           cases e180
           (try replace hx180_0 := (HB.out.cell (World.block_lt_of_cell? w _ hx180_0)).trans hx180_0)
           replace p180 := eq_true p180
           replace q180 := eq_true q180
           have p22 : 0 ≤ (x13_1 : Int) := of_decide_eq_true (by first | (with_reducible assumption) | assumption)
           have q22 : (x13_1 : Int) < ((x5_1.length : Int) : Int) := of_decide_eq_true (by first | (with_reducible assumption) | assumption)
           obtain ⟨go22, co22, eo22, gb22, gl22, cl22, HG22⟩ := Kd.R_form HO_5.out (by omega)
           (first | cases eo22 | (injection eo22 with ea_ en_ ec_; (first | subst ea_ | (injection ea_ with ea_; subst ea_)); subst ec_; clear en_))
           have GB22 := A0_.mk gb22
           have GG22 := A0_.mk HG22
           clear gb22 gl22 HG22
           obtain ⟨hx22_0, hf22_0⟩ := Kd.R_celln 0 HO_5.out (x13_1 : Int) p22 q22
           replace p22 := eq_true p22
           replace q22 := eq_true q22
           have HP23 := Kd.R_putg HO_5.out (x13_1 : Int) ((ji20) % 4294967296)
           go_wp2_with (first | ((with_reducible refine gate_store (t := 89) (p := 41) rfl ?_); refine store_event (t := 89) (p := 41) (v := ?vo_w24) (w1 := (wr.setCell ⟨go22, (x13_1 : Int).toNat, none⟩ (.int .u32 ((ji20) % 4294967296)))) ?hg ?ho ?hn ?hr ?_; (case ho => rfl); (case hg => rfl); (case hn => rfl); (case hr => first | (go_simp; done) | (go_simp; rfl)); intro w24 hw; have hg : wr.grownBy w24 (some go22) := (by rw [hw]; exact HP23.2); have hp_ : Kd.R (Kd.int .u32) 89 w24 w.heap.size (fun _ => True) (.slice (some ⟨go22, 0, none⟩) x5_1.length co22) y183 := (by rw [hw, Ny183.out]; exact HP23.1); clear HP23; have n0_ := A0_.mk (hp_); have n1_ := A0_.mk ((by rw [hw]; exact bS_ (HB.out) GB22.out : Below w.heap.size w w24)); clear HO_5; clear HB; have HO_5 := n0_; have HB := n1_; clear n0_ n1_; clear hg hw hp_))
           (try simp only [add_plain])
           go_roundg k1
           case measure => have := HK1.out; omega
           case rel => exact ⟨(y183), (wrap64 (x13_1 + 1)), (by first | rfl | (simp; done) | (simp [*]; done)), H', ⟨by have := HK1.out; omega⟩, ⟨by (with_reducible repeat (first | apply Kd.R_alloc | apply Kd.R_drewN | apply Kd.R_drew)); exact HO_5.out⟩, ⟨by repeat (first | (with_reducible first | exact HB.out | apply bA_ | apply pB_ | apply b1_) | exact HB.out)⟩⟩
          ·rw [if_neg c21] at H
           exact absurd H (by simp)
         ·rw [if_neg c19] at H
          exact absurd H (by simp)
       ·rw [if_neg c9] at H
        exact absurd H (by simp)
      ·rw [if_neg c8] at H
       exact absurd H (by simp)
     ·rw [if_neg c7] at H
      have c7b0 : decide (x13_1 < (l0.length : Int)) = false := decide_eq_false c7
      clear c7
      replace H := Option.bind_eq_some_iff.mp H
      obtain ⟨t184, A250, H⟩ := H
      replace H : (some t184) = some r := H
      have A25 := A0_.mk A250
      clear A250
      obtain rfl := Option.some.inj H
      obtain ⟨Ao26, co26, eo26⟩ := Kd.R_slice HO_5.out
      subst eo26
      go_wp2_with (first | ((with_reducible refine gC_ (f := 79) rfl ?_); refine goesL_ (some 44) rfl rfl Tryd.func79 (by kernel_rfl) rfl #[.slice Ao26 x5_1.length co26] rfl (by (try simp only [List.map_toArray, List.map_cons, List.map_nil]); first | done | rfl | (simp only [List.length_drop, List.length_take]; rfl)) ?_; (with_reducible refine (natural_limbs_trim.calls k1 (fun k_ => some k_ = (.slice Ao26 x5_1.length co26 : Value).ownBlock) (.slice Ao26 x5_1.length co26) x5_1 t184 w _ ?side1 ?side2 A25.out).mono ?_); (case side1 => repeat (first | (with_reducible first | exact HB.out | apply bA_ | apply pB_ | apply b1_) | exact HB.out)); (case side2 => exact Kd.R_tight rfl HO_5.out); rintro e w27 ⟨v185, rfl, ho0, hb, hkp⟩; refine ⟨_, rfl, ?_⟩; have n0_ := A0_.mk (Kd.R_mono (ok' := fun k_ => True) ho0 (fun k_ hk_ => trivial)); have n1_ := A0_.mk (hb); clear HB; clear HO_5; have HO186 := n0_; have HB := n1_; clear n0_ n1_; (try clear hb); (try clear hkp); (try clear ho0)))
      go_ret
      exact ⟨_, by first | rfl | (simp [errW_none, errW_some] <;> rfl) | (simp [*, errW_none, errW_some] <;> rfl), by (with_reducible repeat (first | apply Kd.R_alloc | apply Kd.R_drewN | apply Kd.R_drew)); exact HO186.out, by repeat (first | (with_reducible first | exact HB.out | apply bA_ | apply pB_ | apply b1_) | exact HB.out)⟩
  ·rw [if_neg c4] at H
   exact absurd H (by simp)
 ·rw [if_neg c3] at H
  exact absurd H (by simp)
def Zr (g o N C : Nat) (pre post : List Int) (n : Nat) (W : World) (base : Nat) (P : Nat → Prop) (x : List Int) : Prop := Kd.R (Kd.int .u32) 89 W base P (.slice (some ⟨g, 0, none⟩) N C) (pre ++ x ++ post) ∧ x.length = n ∧ pre.length = o
namespace Zr
variable {g o N C n base : Nat} {pre post x : List Int} {W W1 : World} {P : Nat → Prop}
theorem len (h : Zr g o N C pre post n W base P x) : x.length = n := h.2.1
theorem alloc (h : Zr g o N C pre post n W base P x) (ob : Obj) : Zr g o N C pre post n (W.alloc ob) base P x := ⟨Kd.R_alloc h.1 ob, h.2⟩
theorem drewN (h : Zr g o N C pre post n W base P x) (m : Nat) : Zr g o N C pre post n (W.drewN m) base P x := ⟨Kd.R_drewN h.1 m, h.2⟩
theorem drew (h : Zr g o N C pre post n W base P x) : Zr g o N C pre post n W.drew base P x := ⟨Kd.R_drew h.1, h.2⟩
theorem at_ {m : Nat} (hq : W.drewN m = W1) (h : Zr g o N C pre post n W base P x) : Zr g o N C pre post n W1 base P x := ⟨Kd.R_at hq h.1, h.2⟩
theorem base_ (h : Zr g o N C pre post n W base P x) : base ≤ g := Kd.R_base h.1 g rfl
theorem blk (h : Zr g o N C pre post n W base P x) : ∃ cells, W.heap[g]? = some (.cells cells 89 (0, 0)) := Kd.R_typed h.1 g rfl
theorem whole (h : Zr g o N C pre post n W base P x) : N = (pre ++ x ++ post).length := (Kd.R_reads' h.1).1
theorem rd_mid (pre x post : List Int) (i : Int) (h0 : 0 ≤ i) (h1 : i < x.length) : rdOf 0 (pre ++ x ++ post) ((pre.length : Int) + i) = rd x i := by
 unfold rdOf rd
 rw [List.getD_eq_getElem?_getD, List.getD_eq_getElem?_getD, show ((pre.length : Int) + i).toNat = pre.length + i.toNat by omega, List.append_assoc, List.getElem?_append_right (by omega), Nat.add_sub_cancel_left, List.getElem?_append_left (by omega)]
theorem celln (h : Zr g o N C pre post n W base P x) (i : Int) (h0 : 0 ≤ i) (h1 : i < n) : W.cell? ⟨g, o + i.toNat, none⟩ = some (.int .u32 (rd x i)) ∧ W.frozen? ⟨g, o + i.toNat, none⟩ = false := by
 have hw := h.whole
 have hn := h.2.1
 have ho := h.2.2
 have := Kd.R_celln (0 : Int) h.1 ((pre.length : Int) + i) (by omega) (by rw [hw, List.length_append, List.length_append]; omega)
 rw [rd_mid pre x post i h0 (by omega), show ((pre.length : Int) + i).toNat = o + i.toNat by omega] at this
 exact this
theorem read (h : Zr g o N C pre post n W base P x) (i : Int) (h0 : 0 ≤ i) (h1 : i < n) : W.cell? ⟨g, o + i.toNat, none⟩ = some (.int .u32 (rd x i)) := (h.celln i h0 h1).1
theorem set_mid (pre x post : List Int) (j : Nat) (v : Int) (h1 : j < x.length) : (pre ++ x ++ post).set (pre.length + j) v = pre ++ x.set j v ++ post := by
 rw [List.append_assoc, List.set_append_right _ _ (by omega), Nat.add_sub_cancel_left, List.set_append_left _ _ h1, List.append_assoc]
theorem putg (h : Zr g o N C pre post n W base P x) (i : Int) (v : Int) (h0 : 0 ≤ i := by (exact of_decide_eq_true (by first | (with_reducible assumption) | assumption))) (h1 : i < n := by (exact of_decide_eq_true (by first | (with_reducible assumption) | assumption))) : Zr g o N C pre post n (W.setCell ⟨g, o + i.toNat, none⟩ (.int .u32 v)) base P (x.set i.toNat v) ∧ W.grownBy (W.setCell ⟨g, o + i.toNat, none⟩ (.int .u32 v)) (some g) := by
 have hn := h.2.1
 have ho := h.2.2
 have hp := Kd.R_putg h.1 ((pre.length : Int) + i) v
 rw [show ((pre.length : Int) + i).toNat = pre.length + i.toNat by omega, set_mid pre x post i.toNat v (by omega), ho] at hp
 exact ⟨⟨hp.1, by rw [List.length_set]; exact hn, ho⟩, hp.2⟩
end Zr
set_option maxHeartbeats 8000000 in
set_option maxRecDepth 100000 in
theorem natural_step.calls_at (k : Nat) (P0_ : Nat → Prop) (gz oz Nz Cz co11 : Nat) (prez postz : List Int) (hoz : prez.length = oz) (l0 : List Int) (A1 : Option Addr) (c1 : Nat) (l1 : List Int) (r1 : Int) (r2 : List Int) (w0 w : World) (hB : Below w0.heap.size w0 w) (ho0 : Kd.R (Kd.int .u32) 89 w w0.heap.size P0_ (.slice (some ⟨gz, 0, none⟩) Nz Cz) (prez ++ l0 ++ postz)) (hr1 : ∀ W_, Kept w W_ (fun k_ => P0_ k_) → Kd.C (Kd.int .u32) W_ A1 l1.length l1) (hc1 : l1.length ≤ c1) (h : natural_step.f k l0 l1 = some (r1, r2)) :
  Calls Tryd.prog 108 #[.slice (some ⟨gz, oz, none⟩) l0.length co11, .slice A1 l1.length c1] w fun e w' => e = .returned (.int .u32 r1) ∧ Kd.R (Kd.int .u32) 89 w' w0.heap.size (fun k_ => (P0_ k_ ∨ w.heap.size ≤ k_)) (.slice (some ⟨gz, 0, none⟩) Nz Cz) (prez ++ r2 ++ postz) ∧ r2.length = l0.length ∧ Below w0.heap.size w0 w' ∧ Kept w w' (fun k_ => P0_ k_) := by
 have HO0 := A0_.mk (show Zr gz oz Nz Cz prez postz l0.length w w0.heap.size (fun k_ => (P0_ k_ ∨ w.heap.size ≤ k_)) l0 from ⟨Kd.R_mono ho0 (fun k_ hk => (.inl hk)), rfl, hoz⟩)
 have HR1 := A0_.mk hr1
 have HC1 := A0_.mk hc1
 clear hr1 hc1
 have HK := A0_.mk (Kept.refl w (fun k_ => P0_ k_))
 have HW0 := A0_.mk hB.size
 have HB := A0_.mk hB
 clear hB
 have H : (if 0 ≤ (l1.length : Int) then (if (l1.length : Int) < (l0.length : Int) then (if 0 ≤ (wrap64 ((l1.length : Int) - 1)) then (if (wrap64 ((l1.length : Int) - 1)) < (l0.length : Int) then (if (wrap64 ((l1.length : Int) - 1)) < (l1.length : Int) then (if (IntKind.u64.wrap (rd l1 (wrap64 ((l1.length : Int) - 1)))) = 0 then (none) else (natural_step.l0 k l0 l1 (l1.length : Int) (IntKind.u64.wrap (Int.tdiv (Go.bits .or .u64 (IntKind.u64.wrap ((IntKind.u64.wrap (rd l0 (l1.length : Int))) * 4294967296)) (IntKind.u64.wrap (rd l0 (wrap64 ((l1.length : Int) - 1))))) (IntKind.u64.wrap (rd l1 (wrap64 ((l1.length : Int) - 1)))))) (Int.tmod (Go.bits .or .u64 (IntKind.u64.wrap ((IntKind.u64.wrap (rd l0 (l1.length : Int))) * 4294967296)) (IntKind.u64.wrap (rd l0 (wrap64 ((l1.length : Int) - 1))))) (IntKind.u64.wrap (rd l1 (wrap64 ((l1.length : Int) - 1))))))) else (none)) else (none)) else (none)) else (none)) else (none)) = some (r1, r2) := h
 clear h
 by_cases c3 : 0 ≤ (l1.length : Int)
 ·rw [if_pos c3] at H
  have c3b0 : decide (0 ≤ (l1.length : Int)) = true := decide_eq_true c3
  have c3b1 : decide (0 ≤ l1.length) = true := decide_eq_true (by omega)
  clear c3
  by_cases c4 : (l1.length : Int) < (l0.length : Int)
  ·rw [if_pos c4] at H
   have HLZ := A0_.mk (show 0 < l0.length by omega)
   have c4b0 : decide ((l1.length : Int) < (l0.length : Int)) = true := decide_eq_true c4
   have c4b1 : decide (l1.length < l0.length) = true := decide_eq_true (Int.ofNat_lt.mp c4)
   clear c4
   obtain ⟨ji5, hji5⟩ : ∃ j_ : Int, (wrap64 ((l1.length : Int) - 1)) = j_ := ⟨_, rfl⟩
   replace H : (if 0 ≤ (ji5) then (if (ji5) < (l0.length : Int) then (if (ji5) < (l1.length : Int) then (if (IntKind.u64.wrap (rd l1 (ji5))) = 0 then (none) else (natural_step.l0 k l0 l1 (l1.length : Int) (IntKind.u64.wrap (Int.tdiv (Go.bits .or .u64 (IntKind.u64.wrap ((IntKind.u64.wrap (rd l0 (l1.length : Int))) * 4294967296)) (IntKind.u64.wrap (rd l0 (ji5)))) (IntKind.u64.wrap (rd l1 (ji5))))) (Int.tmod (Go.bits .or .u64 (IntKind.u64.wrap ((IntKind.u64.wrap (rd l0 (l1.length : Int))) * 4294967296)) (IntKind.u64.wrap (rd l0 (ji5)))) (IntKind.u64.wrap (rd l1 (ji5)))))) else (none)) else (none)) else (none)) = some (r1, r2) := by first | (rw [hji5] at H; exact H) | (simp only [hji5] at H ⊢; exact H)
   have hji5w : (IntKind.i64.wrap ((l1.length : Int) - 1)) = ji5 := (i64_w _).trans hji5
   by_cases c6 : 0 ≤ (ji5)
   ·rw [if_pos c6] at H
    have c6b0 : decide (0 ≤ (ji5)) = true := decide_eq_true c6
    clear c6
    by_cases c7 : (ji5) < (l0.length : Int)
    ·rw [if_pos c7] at H
     have c7b0 : decide ((ji5) < (l0.length : Int)) = true := decide_eq_true c7
     clear c7
     by_cases c8 : (ji5) < (l1.length : Int)
     ·rw [if_pos c8] at H
      have c8b0 : decide ((ji5) < (l1.length : Int)) = true := decide_eq_true c8
      clear c8
      by_cases c9 : (IntKind.u64.wrap (rd l1 (ji5))) = 0
      ·rw [if_pos c9] at H
       exact absurd H (by simp)
      ·rw [if_neg c9] at H
       have c9b0 : ((IntKind.u64.wrap (rd l1 (ji5))) == 0) = false := beq_eq_false_iff_ne.mpr c9
       have c9b1 : ((IntKind.u64.wrap (rd l1 (ji5))) != 0) = true := bne_iff_ne.mpr c9
       have HC10 := A0_.mk H
       clear H
       have p154 : 0 ≤ ((l1.length : Int) : Int) := of_decide_eq_true (by first | (with_reducible assumption) | assumption)
       have q154 : (l1.length : Int) < (l0.length : Int) := of_decide_eq_true (by first | (with_reducible assumption) | assumption)
       have hx154_0 := Zr.read HO0.out (l1.length : Int) p154 q154
       (try simp only [Int.toNat_natCast] at hx154_0)
       (try simp only [Go.IntWalk.toNatUp] at hx154_0)
       replace p154 := eq_true p154
       replace q154 := eq_true q154
       have p155 : 0 ≤ ((ji5) : Int) := of_decide_eq_true (by first | (with_reducible assumption) | assumption)
       have q155 : (ji5) < (l0.length : Int) := of_decide_eq_true (by first | (with_reducible assumption) | assumption)
       have hx155_0 := Zr.read HO0.out (ji5) p155 q155
       (try simp only [Int.toNat_natCast] at hx155_0)
       replace p155 := eq_true p155
       replace q155 := eq_true q155
       have p156 : 0 ≤ ((ji5) : Int) := of_decide_eq_true (by first | (with_reducible assumption) | assumption)
       have q156 : (ji5) < (l1.length : Int) := of_decide_eq_true (by first | (with_reducible assumption) | assumption)
       obtain ⟨ad156, e156, hx156_0⟩ := Kd.at_int (Kd.C_kept_now HR1.out HK.out) (ji5) p156 q156
       cases e156
       replace p156 := eq_true p156
       replace q156 := eq_true q156
       have p157 : 0 ≤ ((ji5) : Int) := of_decide_eq_true (by first | (with_reducible assumption) | assumption)
       have q157 : (ji5) < (l1.length : Int) := of_decide_eq_true (by first | (with_reducible assumption) | assumption)
       obtain ⟨ad157, e157, hx157_0⟩ := Kd.at_int (Kd.C_kept_now HR1.out HK.out) (ji5) p157 q157
       obtain rfl : ad156 = ad157 := (by injection e157)
       replace p157 := eq_true p157
       replace q157 := eq_true q157
       go_enter Tryd.func108, Tryd.ntmps108
       go_upto_block 0 with (fail)
       repeat (go_quiet (fail); go_upto_block 0 with (fail))
       go_cut [7] (fun v7 wc => ∃ (kq : Nat) (x7_9 : Int), v7 = .int .u64 x7_9 ∧ A0_ (natural_step.j2 kq l0 l1 (l1.length : Int) x7_9 = some (r1, r2)) ∧ A0_ (kq ≤ k) ∧ A0_ (Zr gz oz Nz Cz prez postz l0.length wc w0.heap.size (fun k_ => (P0_ k_ ∨ w.heap.size ≤ k_)) l0) ∧ A0_ (Kept w wc (fun k_ => P0_ k_)) ∧ A0_ (Below w0.heap.size w0 wc))
       case first =>
        have H := HC10.out
        clear HC10
        have H' := A0_.mk H
        clear H
        go_wp2
        repeat (go_quiet (fail); try go_wp2)
        go_loopg [7, 8] k (fun kq v7 v8 w' => ∃ (x7_1 : Int) (x8_1 : Int), v7 = .int .u64 x7_1 ∧ v8 = .int .u64 x8_1 ∧ A0_ (natural_step.l0 kq l0 l1 (l1.length : Int) x7_1 x8_1 = some (r1, r2)) ∧ A0_ (kq ≤ k) ∧ A0_ (Zr gz oz Nz Cz prez postz l0.length w' w0.heap.size (fun k_ => (P0_ k_ ∨ w.heap.size ≤ k_)) l0) ∧ A0_ (Kept w w' (fun k_ => P0_ k_)) ∧ A0_ (Below w0.heap.size w0 w'))
        case atStart => exact ⟨(IntKind.u64.wrap (Int.tdiv (Go.bits .or .u64 (IntKind.u64.wrap ((IntKind.u64.wrap (rd l0 (l1.length : Int))) * 4294967296)) (IntKind.u64.wrap (rd l0 (ji5)))) (IntKind.u64.wrap (rd l1 (ji5))))), (Int.tmod (Go.bits .or .u64 (IntKind.u64.wrap ((IntKind.u64.wrap (rd l0 (l1.length : Int))) * 4294967296)) (IntKind.u64.wrap (rd l0 (ji5)))) (IntKind.u64.wrap (rd l1 (ji5)))), (by first | rfl | (simp; done) | (simp only [← hji5] <;> (first | rfl | simp)) | (simp [*]; done)), (by first | rfl | (simp; done) | (simp only [← hji5] <;> (first | rfl | simp)) | (simp [*]; done)), H', ⟨Nat.le_refl _⟩, ⟨by (with_reducible repeat (first | apply Zr.alloc | apply Zr.drewN | apply Zr.drew)); exact HO0.out⟩, ⟨by repeat (first | (with_reducible first | exact HK.out | apply Kept.alloc | apply Kept.drewN | apply Kept.drew) | exact HK.out)⟩, ⟨by repeat (first | (with_reducible first | exact HB.out | apply bA_ | apply pB_ | apply b1_) | exact HB.out)⟩⟩
        case round =>
         clear H'
         try clear c1
         try clear p1
         try clear q1
         try clear hx1
         try clear p2
         try clear c3
         try clear c3b0
         try clear c3b1
         try clear c4
         try clear c4b0
         try clear c4b1
         try clear c6
         try clear c6b0
         try clear p6
         try clear c7
         try clear c7b0
         try clear c8
         try clear c8b0
         try clear c9
         try clear c9b0
         try clear c9b1
         try clear c10
         try clear hx154_0
         try clear hx155_0
         try clear hx156_0
         try clear hx157_0
         try clear p154
         try clear p155
         try clear p156
         try clear p157
         try clear q154
         try clear q155
         try clear q156
         try clear q157
         obtain ⟨x7_1, x8_1, rfl, rfl, HA, HK1, HO_0, HK, HB⟩ := hrel
         cases gk with
         | zero => exact absurd HA.out (by simp [natural_step.l0])
         | succ k1 =>
          have H := HA.out
          clear HA
          simp only [natural_step.l0] at H
          have HC12 := A0_.mk H
          clear H
          go_upto_region 4 with (fail)
          repeat (go_quiet (fail); go_upto_region 4 with (fail))
          go_cut [69] (fun v69 wc => ∃ (kq : Nat) (x69_11 : Bool), v69 = .bool x69_11 ∧ A0_ (natural_step.j1 kq l0 l1 (l1.length : Int) x7_1 x8_1 x69_11 = some (r1, r2)) ∧ A0_ (kq ≤ k1) ∧ A0_ (Zr gz oz Nz Cz prez postz l0.length wc w0.heap.size (fun k_ => (P0_ k_ ∨ w.heap.size ≤ k_)) l0) ∧ A0_ (Kept w wc (fun k_ => P0_ k_)) ∧ A0_ (Below w0.heap.size w0 wc))
          case first =>
           have H := HC12.out
           clear HC12
           by_cases c13 : x7_1 ≥ 4294967296
           ·rw [if_pos c13] at H
            have c13b0 : decide (4294967296 ≤ x7_1) = true := decide_eq_true c13
            clear c13
            (first | rw [c13b0] | rw [c13b1] | (simp only [i64_w, i32_w]; rw [c13b0]) | skip)
            have H' := A0_.mk H
            clear H
            go_wp2
            repeat (go_quiet (fail); try go_wp2)
            go_meet
            case rel => exact ⟨_, (true), (by first | rfl | (simp; done) | (simp [*]; done)), H', ⟨by have := HK1.out; first | omega | exact Nat.le_refl _⟩, ⟨by (with_reducible repeat (first | apply Zr.alloc | apply Zr.drewN | apply Zr.drew)); exact HO_0.out⟩, ⟨by repeat (first | (with_reducible first | exact HK.out | apply Kept.alloc | apply Kept.drewN | apply Kept.drew) | exact HK.out)⟩, ⟨by repeat (first | (with_reducible first | exact HB.out | apply bA_ | apply pB_ | apply b1_) | exact HB.out)⟩⟩
           ·rw [if_neg c13] at H
            have c13b0 : decide (4294967296 ≤ x7_1) = false := decide_eq_false c13
            clear c13
            (first | rw [c13b0] | rw [c13b1] | (simp only [i64_w, i32_w]; rw [c13b0]) | skip)
            obtain ⟨ji14, hji14⟩ : ∃ j_ : Int, (wrap64 ((l1.length : Int) - 2)) = j_ := ⟨_, rfl⟩
            replace H : (if 0 ≤ (ji14) then (if (ji14) < (l1.length : Int) then (if (ji14) < (l0.length : Int) then (natural_step.j1 k1 l0 l1 (l1.length : Int) x7_1 x8_1 (decide ((IntKind.u64.wrap (x7_1 * (IntKind.u64.wrap (rd l1 (ji14))))) > (Go.bits .or .u64 (IntKind.u64.wrap (x8_1 * 4294967296)) (IntKind.u64.wrap (rd l0 (ji14))))))) else (none)) else (none)) else (none)) = some (r1, r2) := by first | (rw [hji14] at H; exact H) | (simp only [hji14] at H ⊢; exact H)
            have hji14w : (IntKind.i64.wrap ((l1.length : Int) - 2)) = ji14 := (i64_w _).trans hji14
            by_cases c15 : 0 ≤ (ji14)
            ·rw [if_pos c15] at H
             have c15b0 : decide (0 ≤ (ji14)) = true := decide_eq_true c15
             clear c15
             by_cases c16 : (ji14) < (l1.length : Int)
             ·rw [if_pos c16] at H
              have c16b0 : decide ((ji14) < (l1.length : Int)) = true := decide_eq_true c16
              clear c16
              by_cases c17 : (ji14) < (l0.length : Int)
              ·rw [if_pos c17] at H
               have c17b0 : decide ((ji14) < (l0.length : Int)) = true := decide_eq_true c17
               clear c17
               have H' := A0_.mk H
               clear H
               have p158 : 0 ≤ ((ji14) : Int) := of_decide_eq_true (by first | (with_reducible assumption) | assumption)
               have q158 : (ji14) < (l1.length : Int) := of_decide_eq_true (by first | (with_reducible assumption) | assumption)
               obtain ⟨ad158, e158, hx158_0⟩ := Kd.at_int (Kd.C_kept_now HR1.out HK.out) (ji14) p158 q158
               obtain rfl : ad156 = ad158 := (by injection e158)
               replace p158 := eq_true p158
               replace q158 := eq_true q158
               have p159 : 0 ≤ ((ji14) : Int) := of_decide_eq_true (by first | (with_reducible assumption) | assumption)
               have q159 : (ji14) < (l0.length : Int) := of_decide_eq_true (by first | (with_reducible assumption) | assumption)
               have hx159_0 := Zr.read HO_0.out (ji14) p159 q159
               (try simp only [Int.toNat_natCast] at hx159_0)
               replace p159 := eq_true p159
               replace q159 := eq_true q159
               go_wp2
               repeat (go_quiet (fail); try go_wp2)
               go_meet
               case rel => exact ⟨_, (decide ((IntKind.u64.wrap (x7_1 * (IntKind.u64.wrap (rd l1 (ji14))))) > (Go.bits .or .u64 (IntKind.u64.wrap (x8_1 * 4294967296)) (IntKind.u64.wrap (rd l0 (ji14)))))), (by first | rfl | (simp; done) | (simp only [← hji14] <;> (first | rfl | simp)) | (simp [*]; done)), H', ⟨by have := HK1.out; first | omega | exact Nat.le_refl _⟩, ⟨by (with_reducible repeat (first | apply Zr.alloc | apply Zr.drewN | apply Zr.drew)); exact HO_0.out⟩, ⟨by repeat (first | (with_reducible first | exact HK.out | apply Kept.alloc | apply Kept.drewN | apply Kept.drew) | exact HK.out)⟩, ⟨by repeat (first | (with_reducible first | exact HB.out | apply bA_ | apply pB_ | apply b1_) | exact HB.out)⟩⟩
              ·rw [if_neg c17] at H
               exact absurd H (by simp)
             ·rw [if_neg c16] at H
              exact absurd H (by simp)
            ·rw [if_neg c15] at H
             exact absurd H (by simp)
          case rest =>
           clear HC12
           try clear c1
           try clear p1
           try clear q1
           try clear hx1
           try clear p2
           try clear c3
           try clear c3b0
           try clear c3b1
           try clear c4
           try clear c4b0
           try clear c4b1
           try clear c6
           try clear c6b0
           try clear p6
           try clear c7
           try clear c7b0
           try clear c8
           try clear c8b0
           try clear c9
           try clear c9b0
           try clear c9b1
           try clear c10
           try clear c13
           try clear c13b0
           try clear c13b1
           try clear c15
           try clear c15b0
           try clear p15
           try clear q15
           try clear hx15
           try clear c16
           try clear c16b0
           try clear c17
           try clear c17b0
           try clear hx154_0
           try clear hx155_0
           try clear hx156_0
           try clear hx157_0
           try clear hx158_0
           try clear hx159_0
           try clear p1
           try clear p154
           try clear p155
           try clear p156
           try clear p157
           try clear p158
           try clear p159
           try clear p2
           try clear p6
           try clear q1
           try clear q154
           try clear q155
           try clear q156
           try clear q157
           try clear q158
           try clear q159
           obtain ⟨kq, x69_11, rfl, HA, HJ11, HO_0, HK, HB⟩ := hcut
           cases kq with
           | zero => exact absurd HA.out (by simp [natural_step.j1])
           | succ kj11 =>
            have H := HA.out
            clear HA
            simp only [natural_step.j1] at H
            by_cases c18 : x69_11 = true
            ·subst c18
             have H1 : (if 0 ≤ (wrap64 ((l1.length : Int) - 1)) then (if (wrap64 ((l1.length : Int) - 1)) < (l1.length : Int) then (if (IntKind.u64.wrap (x8_1 + (IntKind.u64.wrap (rd l1 (wrap64 ((l1.length : Int) - 1)))))) ≥ 4294967296 then (natural_step.j2 kj11 l0 l1 (l1.length : Int) (IntKind.u64.wrap (x7_1 - 1))) else (natural_step.l0 kj11 l0 l1 (l1.length : Int) (IntKind.u64.wrap (x7_1 - 1)) (IntKind.u64.wrap (x8_1 + (IntKind.u64.wrap (rd l1 (wrap64 ((l1.length : Int) - 1)))))))) else (none)) else (none)) = some (r1, r2) := by rw [if_pos rfl] at H; exact H
             clear H
             have H := H1
             clear H1
             (first | (have hchk_ : wrap64 ((l1.length : Int) - 1) = ji5 := hji5; clear hchk_) | (obtain ⟨ji5, hji5⟩ : ∃ j_ : Int, (wrap64 ((l1.length : Int) - 1)) = j_ := ⟨_, rfl⟩; have hji5w : (IntKind.i64.wrap ((l1.length : Int) - 1)) = ji5 := (i64_w _).trans hji5))
             replace H : (if 0 ≤ (ji5) then (if (ji5) < (l1.length : Int) then (if (IntKind.u64.wrap (x8_1 + (IntKind.u64.wrap (rd l1 (ji5))))) ≥ 4294967296 then (natural_step.j2 kj11 l0 l1 (l1.length : Int) (IntKind.u64.wrap (x7_1 - 1))) else (natural_step.l0 kj11 l0 l1 (l1.length : Int) (IntKind.u64.wrap (x7_1 - 1)) (IntKind.u64.wrap (x8_1 + (IntKind.u64.wrap (rd l1 (ji5))))))) else (none)) else (none)) = some (r1, r2) := by first | (rw [hji5] at H; exact H) | (simp only [hji5] at H ⊢; exact H)
             by_cases c19 : 0 ≤ (ji5)
             ·rw [if_pos c19] at H
              have c19b0 : decide (0 ≤ (ji5)) = true := decide_eq_true c19
              clear c19
              by_cases c20 : (ji5) < (l1.length : Int)
              ·rw [if_pos c20] at H
               have c20b0 : decide ((ji5) < (l1.length : Int)) = true := decide_eq_true c20
               clear c20
               by_cases c21 : (IntKind.u64.wrap (x8_1 + (IntKind.u64.wrap (rd l1 (ji5))))) ≥ 4294967296
               ·rw [if_pos c21] at H
                have c21b0 : decide (4294967296 ≤ (IntKind.u64.wrap (x8_1 + (IntKind.u64.wrap (rd l1 (ji5)))))) = true := decide_eq_true c21
                clear c21
                have H' := A0_.mk H
                clear H
                have p160 : 0 ≤ ((ji5) : Int) := of_decide_eq_true (by first | (with_reducible assumption) | assumption)
                have q160 : (ji5) < (l1.length : Int) := of_decide_eq_true (by first | (with_reducible assumption) | assumption)
                obtain ⟨ad160, e160, hx160_0⟩ := Kd.at_int (Kd.C_kept_now HR1.out HK.out) (ji5) p160 q160
                obtain rfl : ad156 = ad160 := (by injection e160)
                replace p160 := eq_true p160
                replace q160 := eq_true q160
                go_wp2
                repeat (go_quiet (fail); try go_wp2)
                go_meet
                case rel => exact ⟨_, (IntKind.u64.wrap (x7_1 - 1)), (by first | rfl | (simp; done) | (simp [*]; done)), H', ⟨by have := HK1.out; have := HJ11.out; first | omega | exact Nat.le_refl _⟩, ⟨by (with_reducible repeat (first | apply Zr.alloc | apply Zr.drewN | apply Zr.drew)); exact HO_0.out⟩, ⟨by repeat (first | (with_reducible first | exact HK.out | apply Kept.alloc | apply Kept.drewN | apply Kept.drew) | exact HK.out)⟩, ⟨by repeat (first | (with_reducible first | exact HB.out | apply bA_ | apply pB_ | apply b1_) | exact HB.out)⟩⟩
               ·rw [if_neg c21] at H
                have c21b0 : decide (4294967296 ≤ (IntKind.u64.wrap (x8_1 + (IntKind.u64.wrap (rd l1 (ji5)))))) = false := decide_eq_false c21
                clear c21
                have H' := A0_.mk H
                clear H
                have p160 : 0 ≤ ((ji5) : Int) := of_decide_eq_true (by first | (with_reducible assumption) | assumption)
                have q160 : (ji5) < (l1.length : Int) := of_decide_eq_true (by first | (with_reducible assumption) | assumption)
                obtain ⟨ad160, e160, hx160_0⟩ := Kd.at_int (Kd.C_kept_now HR1.out HK.out) (ji5) p160 q160
                obtain rfl : ad156 = ad160 := (by injection e160)
                replace p160 := eq_true p160
                replace q160 := eq_true q160
                go_wp2
                repeat (go_quiet (fail); try go_wp2)
                (try simp only [add_plain])
                go_roundg kj11
                case measure => have := HK1.out; have := HJ11.out; omega
                case rel => exact ⟨(IntKind.u64.wrap (x7_1 - 1)), (IntKind.u64.wrap (x8_1 + (IntKind.u64.wrap (rd l1 (ji5))))), (by first | rfl | (simp; done) | (simp [*]; done)), (by first | rfl | (simp; done) | (simp only [← hji5, ← hji5] <;> (first | rfl | simp)) | (simp [*]; done)), H', ⟨by have := HK1.out; have := HJ11.out; omega⟩, ⟨by (with_reducible repeat (first | apply Zr.alloc | apply Zr.drewN | apply Zr.drew)); exact HO_0.out⟩, ⟨by repeat (first | (with_reducible first | exact HK.out | apply Kept.alloc | apply Kept.drewN | apply Kept.drew) | exact HK.out)⟩, ⟨by repeat (first | (with_reducible first | exact HB.out | apply bA_ | apply pB_ | apply b1_) | exact HB.out)⟩⟩
              ·rw [if_neg c20] at H
               exact absurd H (by simp)
             ·rw [if_neg c19] at H
              exact absurd H (by simp)
            ·replace c18 := Bool.eq_false_iff.mpr c18
             subst c18
             have H1 : (natural_step.j2 kj11 l0 l1 (l1.length : Int) x7_1) = some (r1, r2) := by rw [if_neg (show ¬ (false = true) by decide)] at H; exact H
             clear H
             have H := H1
             clear H1
             have H' := A0_.mk H
             clear H
             go_wp2
             repeat (go_quiet (fail); try go_wp2)
             go_meet
             case rel => exact ⟨_, (x7_1), (by first | rfl | (simp; done) | (simp [*]; done)), H', ⟨by have := HK1.out; have := HJ11.out; first | omega | exact Nat.le_refl _⟩, ⟨by (with_reducible repeat (first | apply Zr.alloc | apply Zr.drewN | apply Zr.drew)); exact HO_0.out⟩, ⟨by repeat (first | (with_reducible first | exact HK.out | apply Kept.alloc | apply Kept.drewN | apply Kept.drew) | exact HK.out)⟩, ⟨by repeat (first | (with_reducible first | exact HB.out | apply bA_ | apply pB_ | apply b1_) | exact HB.out)⟩⟩
       case rest =>
        clear HC10
        try clear c1
        try clear p1
        try clear q1
        try clear hx1
        try clear c2
        try clear p2
        try clear c3
        try clear c3b0
        try clear c3b1
        try clear c4
        try clear c4b0
        try clear c4b1
        try clear c6
        try clear c6b0
        try clear p6
        try clear c7
        try clear c7b0
        try clear c8
        try clear c8b0
        try clear c9
        try clear c9b0
        try clear c9b1
        try clear c10
        try clear c13
        try clear c13b0
        try clear c13b1
        try clear c15
        try clear c15b0
        try clear p15
        try clear q15
        try clear hx15
        try clear c16
        try clear c16b0
        try clear p16
        try clear q16
        try clear hx16
        try clear c17
        try clear c17b0
        try clear c18
        try clear c19
        try clear c19b0
        try clear c20
        try clear c20b0
        try clear c21
        try clear c21b0
        try clear hx154_0
        try clear hx155_0
        try clear hx156_0
        try clear hx157_0
        try clear hx158_0
        try clear hx159_0
        try clear hx160_0
        try clear p1
        try clear p15
        try clear p154
        try clear p155
        try clear p156
        try clear p157
        try clear p158
        try clear p159
        try clear p160
        try clear p2
        try clear p6
        try clear q1
        try clear q15
        try clear q154
        try clear q155
        try clear q156
        try clear q157
        try clear q158
        try clear q159
        try clear q160
        obtain ⟨kq, x7_9, rfl, HA, HJ9, HO_0, HK, HB⟩ := hcut
        cases kq with
        | zero => exact absurd HA.out (by simp [natural_step.j2])
        | succ kj9 =>
         have H := HA.out
         clear HA
         simp only [natural_step.j2] at H
         have H' := A0_.mk H
         clear H
         go_wp2
         repeat (go_quiet (fail); try go_wp2)
         go_loopg [9, 10, 84] kj9 (fun kq v9 v10 v84 w' => ∃ (x0_2 : List Int) (x9_2 : Int) (x10_2 : Int) (x84_2 : Int), v9 = .int .u64 x9_2 ∧ v10 = .int .u32 x10_2 ∧ v84 = .int .i64 x84_2 ∧ A0_ (natural_step.l1 kq x0_2 l1 (l1.length : Int) x7_9 x9_2 x10_2 l1 (l1.length : Int) x84_2 = some (r1, r2)) ∧ A0_ (kq ≤ kj9) ∧ A0_ (Zr gz oz Nz Cz prez postz l0.length w' w0.heap.size (fun k_ => (P0_ k_ ∨ w.heap.size ≤ k_)) x0_2) ∧ A0_ (Kept w w' (fun k_ => P0_ k_)) ∧ A0_ (Below w0.heap.size w0 w'))
         case atStart => exact ⟨(l0), (0), (0), (0), (by first | rfl | (simp; done) | (simp [*]; done)), (by first | rfl | (simp; done) | (simp [*]; done)), (by first | rfl | (simp; done) | (simp [*]; done)), H', ⟨Nat.le_refl _⟩, ⟨by (with_reducible repeat (first | apply Zr.alloc | apply Zr.drewN | apply Zr.drew)); exact HO_0.out⟩, ⟨by repeat (first | (with_reducible first | exact HK.out | apply Kept.alloc | apply Kept.drewN | apply Kept.drew) | exact HK.out)⟩, ⟨by repeat (first | (with_reducible first | exact HB.out | apply bA_ | apply pB_ | apply b1_) | exact HB.out)⟩⟩
         case round =>
          clear H'
          try clear c1
          try clear p1
          try clear q1
          try clear hx1
          try clear c2
          try clear p2
          try clear c3
          try clear c3b0
          try clear c3b1
          try clear c4
          try clear c4b0
          try clear c4b1
          try clear c6
          try clear c6b0
          try clear p6
          try clear c7
          try clear c7b0
          try clear c8
          try clear c8b0
          try clear c9
          try clear c9b0
          try clear c9b1
          try clear c10
          try clear c13
          try clear c13b0
          try clear c13b1
          try clear c15
          try clear c15b0
          try clear p15
          try clear q15
          try clear hx15
          try clear c16
          try clear c16b0
          try clear p16
          try clear q16
          try clear hx16
          try clear c17
          try clear c17b0
          try clear c18
          try clear c19
          try clear c19b0
          try clear c20
          try clear c20b0
          try clear c21
          try clear c21b0
          try clear hx154_0
          try clear hx155_0
          try clear hx156_0
          try clear hx157_0
          try clear hx158_0
          try clear hx159_0
          try clear hx160_0
          try clear p1
          try clear p15
          try clear p154
          try clear p155
          try clear p156
          try clear p157
          try clear p158
          try clear p159
          try clear p16
          try clear p160
          try clear p2
          try clear p6
          try clear q1
          try clear q15
          try clear q154
          try clear q155
          try clear q156
          try clear q157
          try clear q158
          try clear q159
          try clear q16
          try clear q160
          obtain ⟨x0_2, x9_2, x10_2, x84_2, rfl, rfl, rfl, HA, HK2, HO_0, HK, HB⟩ := hrel
          have hl0_2 := (Zr.len HO_0.out).symm
          rw [hl0_2] at HO_0
          (try simp only [hl0_2])
          cases gk with
          | zero => exact absurd HA.out (by simp [natural_step.l1])
          | succ k2 =>
           have H := HA.out
           clear HA
           simp only [natural_step.l1] at H
           by_cases c22 : x84_2 < (l1.length : Int)
           ·rw [if_pos c22] at H
            have c22b0 : decide (x84_2 < (l1.length : Int)) = true := decide_eq_true c22
            (try (have c22h0 := c22b0; simp only [hl0_2] at c22h0))
            clear c22
            by_cases c23 : 0 ≤ x84_2
            ·rw [if_pos c23] at H
             have c23b0 : decide (0 ≤ x84_2) = true := decide_eq_true c23
             clear c23
             by_cases c24 : x84_2 < (l1.length : Int)
             ·rw [if_pos c24] at H
              have c24b0 : decide (x84_2 < (l1.length : Int)) = true := decide_eq_true c24
              (try (have c24h0 := c24b0; simp only [hl0_2] at c24h0))
              clear c24
              by_cases c25 : x84_2 < (x0_2.length : Int)
              ·rw [if_pos c25] at H
               have c25b0 : decide (x84_2 < (x0_2.length : Int)) = true := decide_eq_true c25
               (try (have c25h0 := c25b0; simp only [hl0_2] at c25h0))
               clear c25
               replace H := Option.bind_eq_some_iff.mp H
               obtain ⟨⟨t163, t164⟩, A260, H⟩ := H
               replace H : (natural_step.l1 k2 (x0_2.set (x84_2 : Int).toNat t163) l1 (l1.length : Int) x7_9 ((IntKind.u64.wrap ((IntKind.u64.wrap (x7_9 * (IntKind.u64.wrap (rd l1 x84_2)))) + x9_2)) / 4294967296) t164 l1 (l1.length : Int) (wrap64 (x84_2 + 1))) = some (r1, r2) := H
               have A26 := A0_.mk A260
               clear A260
               obtain ⟨y165, hy165⟩ : ∃ y_ : List Int, y_ = (x0_2.set (x84_2 : Int).toNat t163) := ⟨_, rfl⟩
               replace H : (natural_step.l1 k2 y165 l1 (l1.length : Int) x7_9 ((IntKind.u64.wrap ((IntKind.u64.wrap (x7_9 * (IntKind.u64.wrap (rd l1 x84_2)))) + x9_2)) / 4294967296) t164 l1 (l1.length : Int) (wrap64 (x84_2 + 1))) = some (r1, r2) := by first | (rw [hy165]; with_reducible exact H) | (have H2_ := (Option.bind_some _ _).symm.trans H; rw [hy165]; with_reducible exact H2_) | (have H2_ := (Option.bind_some _ _).symm.trans H; with_reducible exact H2_) | with_reducible exact H | (rw [hy165]; exact H) | exact H
               have Ny165 := A0_.mk hy165
               clear hy165
               have H' := A0_.mk H
               clear H
               have p161 : 0 ≤ (x84_2 : Int) := of_decide_eq_true (by first | (with_reducible assumption) | assumption)
               have q161 : x84_2 < (l1.length : Int) := of_decide_eq_true (by first | (with_reducible assumption) | assumption)
               obtain ⟨ad161, e161, hx161_0⟩ := Kd.at_int (Kd.C_kept_now HR1.out HK.out) x84_2 p161 q161
               obtain rfl : ad156 = ad161 := (by injection e161)
               replace p161 := eq_true p161
               replace q161 := eq_true q161
               have p162 : 0 ≤ (x84_2 : Int) := of_decide_eq_true (by first | (with_reducible assumption) | assumption)
               have q162 : x84_2 < (x0_2.length : Int) := of_decide_eq_true (by first | (with_reducible assumption) | assumption)
               have hx162_0 := Zr.read HO_0.out x84_2 p162 q162
               (try simp only [Int.toNat_natCast] at hx162_0)
               (try simp only [add_plain] at hx162_0)
               replace p162 := eq_true p162
               replace q162 := eq_true q162
               go_wp2_with (first | (go_at_call 101; (with_reducible refine (bits_Sub32.calls (rd x0_2 x84_2) ((IntKind.u64.wrap ((IntKind.u64.wrap (x7_9 * (IntKind.u64.wrap (rd l1 x84_2)))) + x9_2)) % 4294967296) x10_2 t163 t164 _ A26.out).mono ?_); rintro e w' ⟨rfl, ⟨nd, rfl⟩⟩; (try first | exact ⟨rfl, _, World.drewN_drewN _ _ _⟩ | exact ⟨rfl, _, Eq.trans (World.drewN_drewN _ _ _) (congrArg (World.drewN _) (Nat.add_assoc _ _ _))⟩); have p27 : 0 ≤ (x84_2 : Int) := of_decide_eq_true (by first | (with_reducible assumption) | assumption); have q27 : (x84_2 : Int) < ((x0_2.length : Int) : Int) := of_decide_eq_true (by first | (with_reducible assumption) | assumption); have gb27 := Zr.base_ HO_0.out; have gl27 := True.intro; obtain ⟨cl27, HG27⟩ := Zr.blk HO_0.out; have GB27 := A0_.mk gb27; have GG27 := A0_.mk HG27; clear gb27 gl27 HG27; have HMgo27 := A0_.mk (show (P0_ gz ∨ w.heap.size ≤ gz) from (HO_0.out.1.1 _ rfl)); (first | simp only [add_plain] at hx154_0 | skip); (first | simp only [add_plain] at hx155_0 | skip); (first | simp only [add_plain] at hx159_0 | skip); (first | simp only [add_plain] at hx162_0 | skip); obtain ⟨hx27_0, hf27_0⟩ := Zr.celln HO_0.out (x84_2 : Int) p27 q27; replace p27 := eq_true p27; replace q27 := eq_true q27; obtain ⟨hy28_, hz28_⟩ := Zr.celln HO_0.out (x84_2 : Int) (of_decide_eq_true (by first | (with_reducible assumption) | assumption)) (of_decide_eq_true (by first | (with_reducible assumption) | assumption)); have HP28 := Zr.putg HO_0.out (x84_2 : Int) t163) | ((with_reducible refine gate_store (t := 89) (p := 110) rfl ?_); (try (rw [drewN_self wr]; generalize hq_ : World.drewN wr _ = wr; have n0_ := A0_.mk (Zr.at_ hq_ HO_0.out); have n1_ := A0_.mk (kept_at hq_ HK.out); have n2_ := A0_.mk (below_at hq_ HB.out); clear hq_ HO_0 HK HB; have HO_0 := n0_; have HK := n1_; have HB := n2_; clear n0_ n1_ n2_; (try (obtain ⟨hy28_, hz28_⟩ := Zr.celln HO_0.out (x84_2 : Int) (of_decide_eq_true (by first | (with_reducible assumption) | assumption)) (of_decide_eq_true (by first | (with_reducible assumption) | assumption)))); (try (have HP28 := Zr.putg HO_0.out (x84_2 : Int) t163)))); refine store_event (t := 89) (p := 110) (v := ?vo_w29) (w1 := (wr.setCell ⟨gz, oz + (x84_2 : Int).toNat, none⟩ (.int .u32 t163))) ?hg ?ho ?hn ?hr ?_; (case ho => rfl); (case hg => rfl); (case hn => rfl); (case hr => first | (go_simp; done) | (go_simp; rfl)); intro w29 hw; have hg : wr.grownBy w29 (some gz) := (by rw [hw]; exact HP28.2); have hp_ : Zr gz oz Nz Cz prez postz x0_2.length w29 w0.heap.size (fun k_ => (P0_ k_ ∨ w.heap.size ≤ k_)) y165 := (by rw [hw, Ny165.out]; exact HP28.1); clear HP28; have n0_ := A0_.mk (hp_); have n1_ := A0_.mk ((by rw [hw]; exact bS_ (HB.out) GB27.out : Below w0.heap.size w0 w29)); have n2_ := A0_.mk (Kept.of_grown (S := (fun k_ => P0_ k_)) hg (by repeat (first | (with_reducible first | exact HK.out | apply Kept.alloc | apply Kept.drewN | apply Kept.drew) | exact HK.out)) (fun k_ e_ => (HO_0.out.1.1 k_ e_))); clear HO_0; clear HB; clear HK; have HO_0 := n0_; have HB := n1_; have HK := n2_; clear n0_ n1_ n2_; clear hg hw hp_))
               repeat (go_quiet (first | (go_at_call 101; (with_reducible refine (bits_Sub32.calls (rd x0_2 x84_2) ((IntKind.u64.wrap ((IntKind.u64.wrap (x7_9 * (IntKind.u64.wrap (rd l1 x84_2)))) + x9_2)) % 4294967296) x10_2 t163 t164 _ A26.out).mono ?_); rintro e w' ⟨rfl, ⟨nd, rfl⟩⟩; (try first | exact ⟨rfl, _, World.drewN_drewN _ _ _⟩ | exact ⟨rfl, _, Eq.trans (World.drewN_drewN _ _ _) (congrArg (World.drewN _) (Nat.add_assoc _ _ _))⟩); have p27 : 0 ≤ (x84_2 : Int) := of_decide_eq_true (by first | (with_reducible assumption) | assumption); have q27 : (x84_2 : Int) < ((x0_2.length : Int) : Int) := of_decide_eq_true (by first | (with_reducible assumption) | assumption); have gb27 := Zr.base_ HO_0.out; have gl27 := True.intro; obtain ⟨cl27, HG27⟩ := Zr.blk HO_0.out; have GB27 := A0_.mk gb27; have GG27 := A0_.mk HG27; clear gb27 gl27 HG27; have HMgo27 := A0_.mk (show (P0_ gz ∨ w.heap.size ≤ gz) from (HO_0.out.1.1 _ rfl)); (first | simp only [add_plain] at hx154_0 | skip); (first | simp only [add_plain] at hx155_0 | skip); (first | simp only [add_plain] at hx159_0 | skip); (first | simp only [add_plain] at hx162_0 | skip); obtain ⟨hx27_0, hf27_0⟩ := Zr.celln HO_0.out (x84_2 : Int) p27 q27; replace p27 := eq_true p27; replace q27 := eq_true q27; obtain ⟨hy28_, hz28_⟩ := Zr.celln HO_0.out (x84_2 : Int) (of_decide_eq_true (by first | (with_reducible assumption) | assumption)) (of_decide_eq_true (by first | (with_reducible assumption) | assumption)); have HP28 := Zr.putg HO_0.out (x84_2 : Int) t163) | ((with_reducible refine gate_store (t := 89) (p := 110) rfl ?_); (try (rw [drewN_self wr]; generalize hq_ : World.drewN wr _ = wr; have n0_ := A0_.mk (Zr.at_ hq_ HO_0.out); have n1_ := A0_.mk (kept_at hq_ HK.out); have n2_ := A0_.mk (below_at hq_ HB.out); clear hq_ HO_0 HK HB; have HO_0 := n0_; have HK := n1_; have HB := n2_; clear n0_ n1_ n2_; (try (obtain ⟨hy28_, hz28_⟩ := Zr.celln HO_0.out (x84_2 : Int) (of_decide_eq_true (by first | (with_reducible assumption) | assumption)) (of_decide_eq_true (by first | (with_reducible assumption) | assumption)))); (try (have HP28 := Zr.putg HO_0.out (x84_2 : Int) t163)))); refine store_event (t := 89) (p := 110) (v := ?vo_w29) (w1 := (wr.setCell ⟨gz, oz + (x84_2 : Int).toNat, none⟩ (.int .u32 t163))) ?hg ?ho ?hn ?hr ?_; (case ho => rfl); (case hg => rfl); (case hn => rfl); (case hr => first | (go_simp; done) | (go_simp; rfl)); intro w29 hw; have hg : wr.grownBy w29 (some gz) := (by rw [hw]; exact HP28.2); have hp_ : Zr gz oz Nz Cz prez postz x0_2.length w29 w0.heap.size (fun k_ => (P0_ k_ ∨ w.heap.size ≤ k_)) y165 := (by rw [hw, Ny165.out]; exact HP28.1); clear HP28; have n0_ := A0_.mk (hp_); have n1_ := A0_.mk ((by rw [hw]; exact bS_ (HB.out) GB27.out : Below w0.heap.size w0 w29)); have n2_ := A0_.mk (Kept.of_grown (S := (fun k_ => P0_ k_)) hg (by repeat (first | (with_reducible first | exact HK.out | apply Kept.alloc | apply Kept.drewN | apply Kept.drew) | exact HK.out)) (fun k_ e_ => (HO_0.out.1.1 k_ e_))); clear HO_0; clear HB; clear HK; have HO_0 := n0_; have HB := n1_; have HK := n2_; clear n0_ n1_ n2_; clear hg hw hp_)); try go_wp2_with (first | (go_at_call 101; (with_reducible refine (bits_Sub32.calls (rd x0_2 x84_2) ((IntKind.u64.wrap ((IntKind.u64.wrap (x7_9 * (IntKind.u64.wrap (rd l1 x84_2)))) + x9_2)) % 4294967296) x10_2 t163 t164 _ A26.out).mono ?_); rintro e w' ⟨rfl, ⟨nd, rfl⟩⟩; (try first | exact ⟨rfl, _, World.drewN_drewN _ _ _⟩ | exact ⟨rfl, _, Eq.trans (World.drewN_drewN _ _ _) (congrArg (World.drewN _) (Nat.add_assoc _ _ _))⟩); have p27 : 0 ≤ (x84_2 : Int) := of_decide_eq_true (by first | (with_reducible assumption) | assumption); have q27 : (x84_2 : Int) < ((x0_2.length : Int) : Int) := of_decide_eq_true (by first | (with_reducible assumption) | assumption); have gb27 := Zr.base_ HO_0.out; have gl27 := True.intro; obtain ⟨cl27, HG27⟩ := Zr.blk HO_0.out; have GB27 := A0_.mk gb27; have GG27 := A0_.mk HG27; clear gb27 gl27 HG27; have HMgo27 := A0_.mk (show (P0_ gz ∨ w.heap.size ≤ gz) from (HO_0.out.1.1 _ rfl)); (first | simp only [add_plain] at hx154_0 | skip); (first | simp only [add_plain] at hx155_0 | skip); (first | simp only [add_plain] at hx159_0 | skip); (first | simp only [add_plain] at hx162_0 | skip); obtain ⟨hx27_0, hf27_0⟩ := Zr.celln HO_0.out (x84_2 : Int) p27 q27; replace p27 := eq_true p27; replace q27 := eq_true q27; obtain ⟨hy28_, hz28_⟩ := Zr.celln HO_0.out (x84_2 : Int) (of_decide_eq_true (by first | (with_reducible assumption) | assumption)) (of_decide_eq_true (by first | (with_reducible assumption) | assumption)); have HP28 := Zr.putg HO_0.out (x84_2 : Int) t163) | ((with_reducible refine gate_store (t := 89) (p := 110) rfl ?_); (try (rw [drewN_self wr]; generalize hq_ : World.drewN wr _ = wr; have n0_ := A0_.mk (Zr.at_ hq_ HO_0.out); have n1_ := A0_.mk (kept_at hq_ HK.out); have n2_ := A0_.mk (below_at hq_ HB.out); clear hq_ HO_0 HK HB; have HO_0 := n0_; have HK := n1_; have HB := n2_; clear n0_ n1_ n2_; (try (obtain ⟨hy28_, hz28_⟩ := Zr.celln HO_0.out (x84_2 : Int) (of_decide_eq_true (by first | (with_reducible assumption) | assumption)) (of_decide_eq_true (by first | (with_reducible assumption) | assumption)))); (try (have HP28 := Zr.putg HO_0.out (x84_2 : Int) t163)))); refine store_event (t := 89) (p := 110) (v := ?vo_w29) (w1 := (wr.setCell ⟨gz, oz + (x84_2 : Int).toNat, none⟩ (.int .u32 t163))) ?hg ?ho ?hn ?hr ?_; (case ho => rfl); (case hg => rfl); (case hn => rfl); (case hr => first | (go_simp; done) | (go_simp; rfl)); intro w29 hw; have hg : wr.grownBy w29 (some gz) := (by rw [hw]; exact HP28.2); have hp_ : Zr gz oz Nz Cz prez postz x0_2.length w29 w0.heap.size (fun k_ => (P0_ k_ ∨ w.heap.size ≤ k_)) y165 := (by rw [hw, Ny165.out]; exact HP28.1); clear HP28; have n0_ := A0_.mk (hp_); have n1_ := A0_.mk ((by rw [hw]; exact bS_ (HB.out) GB27.out : Below w0.heap.size w0 w29)); have n2_ := A0_.mk (Kept.of_grown (S := (fun k_ => P0_ k_)) hg (by repeat (first | (with_reducible first | exact HK.out | apply Kept.alloc | apply Kept.drewN | apply Kept.drew) | exact HK.out)) (fun k_ e_ => (HO_0.out.1.1 k_ e_))); clear HO_0; clear HB; clear HK; have HO_0 := n0_; have HB := n1_; have HK := n2_; clear n0_ n1_ n2_; clear hg hw hp_)))
               (try simp only [← hl0_2])
               (try simp only [add_plain])
               go_roundg k2
               case measure => have := HJ9.out; have := HK2.out; omega
               case rel => exact ⟨(y165), ((IntKind.u64.wrap ((IntKind.u64.wrap (x7_9 * (IntKind.u64.wrap (rd l1 x84_2)))) + x9_2)) / 4294967296), (t164), (wrap64 (x84_2 + 1)), (by first | rfl | (simp; done) | (simp [*]; done)), (by first | rfl | (simp; done) | (simp [*]; done)), (by first | rfl | (simp; done) | (simp [*]; done)), H', ⟨by have := HJ9.out; have := HK2.out; omega⟩, ⟨by (try simp only [hl0_2]); (with_reducible repeat (first | apply Zr.alloc | apply Zr.drewN | apply Zr.drew)); exact HO_0.out⟩, ⟨by repeat (first | (with_reducible first | exact HK.out | apply Kept.alloc | apply Kept.drewN | apply Kept.drew) | exact HK.out)⟩, ⟨by repeat (first | (with_reducible first | exact HB.out | apply bA_ | apply pB_ | apply b1_) | exact HB.out)⟩⟩
              ·rw [if_neg c25] at H
               exact absurd H (by simp)
             ·rw [if_neg c24] at H
              exact absurd H (by simp)
            ·rw [if_neg c23] at H
             exact absurd H (by simp)
           ·rw [if_neg c22] at H
            have c22b0 : decide (x84_2 < (l1.length : Int)) = false := decide_eq_false c22
            (try (have c22h0 := c22b0; simp only [hl0_2] at c22h0))
            clear c22
            by_cases c30 : 0 ≤ (l1.length : Int)
            ·rw [if_pos c30] at H
             have c30b0 : decide (0 ≤ (l1.length : Int)) = true := decide_eq_true c30
             have c30b1 : decide (0 ≤ l1.length) = true := decide_eq_true (by omega)
             (try (have c30h0 := c30b0; simp only [hl0_2] at c30h0))
             (try (have c30h1 := c30b1; simp only [hl0_2] at c30h1))
             clear c30
             by_cases c31 : (l1.length : Int) < (x0_2.length : Int)
             ·rw [if_pos c31] at H
              have c31b0 : decide ((l1.length : Int) < (x0_2.length : Int)) = true := decide_eq_true c31
              have c31b1 : decide (l1.length < x0_2.length) = true := decide_eq_true (Int.ofNat_lt.mp c31)
              (try (have c31h0 := c31b0; simp only [hl0_2] at c31h0))
              (try (have c31h1 := c31b1; simp only [hl0_2] at c31h1))
              clear c31
              replace H := Option.bind_eq_some_iff.mp H
              obtain ⟨⟨t167, t168⟩, A320, H⟩ := H
              replace H : ((some (x0_2.set ((l1.length : Int) : Int).toNat t167 : List Int)).bind fun y169 => (if t168 = 0 then (some ((x7_9) % 4294967296, y169)) else (natural_step.l2 k2 y169 (l1.length : Int) x7_9 0 l1 (l1.length : Int) 0))) = some (r1, r2) := H
              have A32 := A0_.mk A320
              clear A320
              obtain ⟨y169, hy169⟩ : ∃ y_ : List Int, y_ = (x0_2.set ((l1.length : Int) : Int).toNat t167) := ⟨_, rfl⟩
              replace H : (if t168 = 0 then (some ((x7_9) % 4294967296, y169)) else (natural_step.l2 k2 y169 (l1.length : Int) x7_9 0 l1 (l1.length : Int) 0)) = some (r1, r2) := by first | (rw [hy169]; with_reducible exact H) | (have H2_ := (Option.bind_some _ _).symm.trans H; rw [hy169]; with_reducible exact H2_) | (have H2_ := (Option.bind_some _ _).symm.trans H; with_reducible exact H2_) | with_reducible exact H | (rw [hy169]; exact H) | exact H
              have Ny169 := A0_.mk hy169
              clear hy169
              by_cases c34 : t168 = 0
              ·rw [if_pos c34] at H
               have c34b0 : (t168 == 0) = true := beq_iff_eq.mpr c34
               have c34b1 : (t168 != 0) = false := bne_eq_false_iff_eq.mpr c34
               clear c34
               simp only [Option.some.injEq, Prod.mk.injEq] at H
               obtain ⟨rfl, rfl⟩ := H
               have p166 : 0 ≤ ((l1.length : Int) : Int) := of_decide_eq_true (by first | (with_reducible assumption) | assumption)
               have q166 : (l1.length : Int) < (x0_2.length : Int) := of_decide_eq_true (by first | (with_reducible assumption) | assumption)
               have hx166_0 := Zr.read HO_0.out (l1.length : Int) p166 q166
               (try simp only [Int.toNat_natCast] at hx166_0)
               (try simp only [add_plain] at hx166_0)
               (try simp only [Go.IntWalk.toNatUp] at hx166_0)
               (try simp only [hl0_2] at p166)
               (try simp only [hl0_2] at q166)
               (try simp only [hl0_2] at hx166_0)
               replace p166 := eq_true p166
               replace q166 := eq_true q166
               go_wp2_with (first | (go_at_call 101; (with_reducible refine (bits_Sub32.calls (rd x0_2 (l1.length : Int)) ((x9_2) % 4294967296) x10_2 t167 t168 _ A32.out).mono ?_); rintro e w' ⟨rfl, ⟨nd, rfl⟩⟩; (try first | exact ⟨rfl, _, World.drewN_drewN _ _ _⟩ | exact ⟨rfl, _, Eq.trans (World.drewN_drewN _ _ _) (congrArg (World.drewN _) (Nat.add_assoc _ _ _))⟩); have p33 : 0 ≤ ((l1.length : Int) : Int) := of_decide_eq_true (by first | (with_reducible assumption) | assumption); have q33 : ((l1.length : Int) : Int) < ((x0_2.length : Int) : Int) := of_decide_eq_true (by first | (with_reducible assumption) | assumption); have gb33 := Zr.base_ HO_0.out; have gl33 := True.intro; obtain ⟨cl33, HG33⟩ := Zr.blk HO_0.out; have GB33 := A0_.mk gb33; have GG33 := A0_.mk HG33; clear gb33 gl33 HG33; have HMgo33 := A0_.mk (show (P0_ gz ∨ w.heap.size ≤ gz) from (HO_0.out.1.1 _ rfl)); (first | simp only [add_plain] at hx166_0 | skip); obtain ⟨hx33_0, hf33_0⟩ := Zr.celln HO_0.out ((l1.length : Int) : Int) p33 q33; replace p33 := eq_true p33; replace q33 := eq_true q33; obtain ⟨hy35_, hz35_⟩ := Zr.celln HO_0.out ((l1.length : Int) : Int) (of_decide_eq_true (by first | (with_reducible assumption) | assumption)) (of_decide_eq_true (by first | (with_reducible assumption) | assumption)); (try simp only [Go.IntWalk.toNatUp] at hy35_ hz35_); have HP35 := Zr.putg HO_0.out ((l1.length : Int) : Int) t167) | ((with_reducible refine gate_store (t := 89) (p := 125) rfl ?_); (try (rw [drewN_self wr]; generalize hq_ : World.drewN wr _ = wr; have n0_ := A0_.mk (Zr.at_ hq_ HO_0.out); have n1_ := A0_.mk (kept_at hq_ HK.out); have n2_ := A0_.mk (below_at hq_ HB.out); clear hq_ HO_0 HK HB; have HO_0 := n0_; have HK := n1_; have HB := n2_; clear n0_ n1_ n2_; (try (obtain ⟨hy35_, hz35_⟩ := Zr.celln HO_0.out ((l1.length : Int) : Int) (of_decide_eq_true (by first | (with_reducible assumption) | assumption)) (of_decide_eq_true (by first | (with_reducible assumption) | assumption)))); (try (try simp only [Go.IntWalk.toNatUp] at hy35_ hz35_)); (try (have HP35 := Zr.putg HO_0.out ((l1.length : Int) : Int) t167)))); refine store_event (t := 89) (p := 125) (v := ?vo_w36) (w1 := (wr.setCell ⟨gz, oz + ((l1.length : Int) : Int).toNat, none⟩ (.int .u32 t167))) ?hg ?ho ?hn ?hr ?_; (case ho => rfl); (case hg => rfl); (case hn => rfl); (case hr => first | (go_simp; done) | (go_simp; rfl)); intro w36 hw; have hg : wr.grownBy w36 (some gz) := (by rw [hw]; exact HP35.2); have hp_ : Zr gz oz Nz Cz prez postz x0_2.length w36 w0.heap.size (fun k_ => (P0_ k_ ∨ w.heap.size ≤ k_)) y169 := (by rw [hw, Ny169.out]; exact HP35.1); clear HP35; have n0_ := A0_.mk (hp_); have n1_ := A0_.mk ((by rw [hw]; exact bS_ (HB.out) GB33.out : Below w0.heap.size w0 w36)); have n2_ := A0_.mk (Kept.of_grown (S := (fun k_ => P0_ k_)) hg (by repeat (first | (with_reducible first | exact HK.out | apply Kept.alloc | apply Kept.drewN | apply Kept.drew) | exact HK.out)) (fun k_ e_ => (HO_0.out.1.1 k_ e_))); clear HO_0; clear HB; clear HK; have HO_0 := n0_; have HB := n1_; have HK := n2_; clear n0_ n1_ n2_; clear hg hw hp_))
               repeat (go_quiet (first | (go_at_call 101; (with_reducible refine (bits_Sub32.calls (rd x0_2 (l1.length : Int)) ((x9_2) % 4294967296) x10_2 t167 t168 _ A32.out).mono ?_); rintro e w' ⟨rfl, ⟨nd, rfl⟩⟩; (try first | exact ⟨rfl, _, World.drewN_drewN _ _ _⟩ | exact ⟨rfl, _, Eq.trans (World.drewN_drewN _ _ _) (congrArg (World.drewN _) (Nat.add_assoc _ _ _))⟩); have p33 : 0 ≤ ((l1.length : Int) : Int) := of_decide_eq_true (by first | (with_reducible assumption) | assumption); have q33 : ((l1.length : Int) : Int) < ((x0_2.length : Int) : Int) := of_decide_eq_true (by first | (with_reducible assumption) | assumption); have gb33 := Zr.base_ HO_0.out; have gl33 := True.intro; obtain ⟨cl33, HG33⟩ := Zr.blk HO_0.out; have GB33 := A0_.mk gb33; have GG33 := A0_.mk HG33; clear gb33 gl33 HG33; have HMgo33 := A0_.mk (show (P0_ gz ∨ w.heap.size ≤ gz) from (HO_0.out.1.1 _ rfl)); (first | simp only [add_plain] at hx166_0 | skip); obtain ⟨hx33_0, hf33_0⟩ := Zr.celln HO_0.out ((l1.length : Int) : Int) p33 q33; replace p33 := eq_true p33; replace q33 := eq_true q33; obtain ⟨hy35_, hz35_⟩ := Zr.celln HO_0.out ((l1.length : Int) : Int) (of_decide_eq_true (by first | (with_reducible assumption) | assumption)) (of_decide_eq_true (by first | (with_reducible assumption) | assumption)); (try simp only [Go.IntWalk.toNatUp] at hy35_ hz35_); have HP35 := Zr.putg HO_0.out ((l1.length : Int) : Int) t167) | ((with_reducible refine gate_store (t := 89) (p := 125) rfl ?_); (try (rw [drewN_self wr]; generalize hq_ : World.drewN wr _ = wr; have n0_ := A0_.mk (Zr.at_ hq_ HO_0.out); have n1_ := A0_.mk (kept_at hq_ HK.out); have n2_ := A0_.mk (below_at hq_ HB.out); clear hq_ HO_0 HK HB; have HO_0 := n0_; have HK := n1_; have HB := n2_; clear n0_ n1_ n2_; (try (obtain ⟨hy35_, hz35_⟩ := Zr.celln HO_0.out ((l1.length : Int) : Int) (of_decide_eq_true (by first | (with_reducible assumption) | assumption)) (of_decide_eq_true (by first | (with_reducible assumption) | assumption)))); (try (try simp only [Go.IntWalk.toNatUp] at hy35_ hz35_)); (try (have HP35 := Zr.putg HO_0.out ((l1.length : Int) : Int) t167)))); refine store_event (t := 89) (p := 125) (v := ?vo_w36) (w1 := (wr.setCell ⟨gz, oz + ((l1.length : Int) : Int).toNat, none⟩ (.int .u32 t167))) ?hg ?ho ?hn ?hr ?_; (case ho => rfl); (case hg => rfl); (case hn => rfl); (case hr => first | (go_simp; done) | (go_simp; rfl)); intro w36 hw; have hg : wr.grownBy w36 (some gz) := (by rw [hw]; exact HP35.2); have hp_ : Zr gz oz Nz Cz prez postz x0_2.length w36 w0.heap.size (fun k_ => (P0_ k_ ∨ w.heap.size ≤ k_)) y169 := (by rw [hw, Ny169.out]; exact HP35.1); clear HP35; have n0_ := A0_.mk (hp_); have n1_ := A0_.mk ((by rw [hw]; exact bS_ (HB.out) GB33.out : Below w0.heap.size w0 w36)); have n2_ := A0_.mk (Kept.of_grown (S := (fun k_ => P0_ k_)) hg (by repeat (first | (with_reducible first | exact HK.out | apply Kept.alloc | apply Kept.drewN | apply Kept.drew) | exact HK.out)) (fun k_ e_ => (HO_0.out.1.1 k_ e_))); clear HO_0; clear HB; clear HK; have HO_0 := n0_; have HB := n1_; have HK := n2_; clear n0_ n1_ n2_; clear hg hw hp_)); try go_wp2_with (first | (go_at_call 101; (with_reducible refine (bits_Sub32.calls (rd x0_2 (l1.length : Int)) ((x9_2) % 4294967296) x10_2 t167 t168 _ A32.out).mono ?_); rintro e w' ⟨rfl, ⟨nd, rfl⟩⟩; (try first | exact ⟨rfl, _, World.drewN_drewN _ _ _⟩ | exact ⟨rfl, _, Eq.trans (World.drewN_drewN _ _ _) (congrArg (World.drewN _) (Nat.add_assoc _ _ _))⟩); have p33 : 0 ≤ ((l1.length : Int) : Int) := of_decide_eq_true (by first | (with_reducible assumption) | assumption); have q33 : ((l1.length : Int) : Int) < ((x0_2.length : Int) : Int) := of_decide_eq_true (by first | (with_reducible assumption) | assumption); have gb33 := Zr.base_ HO_0.out; have gl33 := True.intro; obtain ⟨cl33, HG33⟩ := Zr.blk HO_0.out; have GB33 := A0_.mk gb33; have GG33 := A0_.mk HG33; clear gb33 gl33 HG33; have HMgo33 := A0_.mk (show (P0_ gz ∨ w.heap.size ≤ gz) from (HO_0.out.1.1 _ rfl)); (first | simp only [add_plain] at hx166_0 | skip); obtain ⟨hx33_0, hf33_0⟩ := Zr.celln HO_0.out ((l1.length : Int) : Int) p33 q33; replace p33 := eq_true p33; replace q33 := eq_true q33; obtain ⟨hy35_, hz35_⟩ := Zr.celln HO_0.out ((l1.length : Int) : Int) (of_decide_eq_true (by first | (with_reducible assumption) | assumption)) (of_decide_eq_true (by first | (with_reducible assumption) | assumption)); (try simp only [Go.IntWalk.toNatUp] at hy35_ hz35_); have HP35 := Zr.putg HO_0.out ((l1.length : Int) : Int) t167) | ((with_reducible refine gate_store (t := 89) (p := 125) rfl ?_); (try (rw [drewN_self wr]; generalize hq_ : World.drewN wr _ = wr; have n0_ := A0_.mk (Zr.at_ hq_ HO_0.out); have n1_ := A0_.mk (kept_at hq_ HK.out); have n2_ := A0_.mk (below_at hq_ HB.out); clear hq_ HO_0 HK HB; have HO_0 := n0_; have HK := n1_; have HB := n2_; clear n0_ n1_ n2_; (try (obtain ⟨hy35_, hz35_⟩ := Zr.celln HO_0.out ((l1.length : Int) : Int) (of_decide_eq_true (by first | (with_reducible assumption) | assumption)) (of_decide_eq_true (by first | (with_reducible assumption) | assumption)))); (try (try simp only [Go.IntWalk.toNatUp] at hy35_ hz35_)); (try (have HP35 := Zr.putg HO_0.out ((l1.length : Int) : Int) t167)))); refine store_event (t := 89) (p := 125) (v := ?vo_w36) (w1 := (wr.setCell ⟨gz, oz + ((l1.length : Int) : Int).toNat, none⟩ (.int .u32 t167))) ?hg ?ho ?hn ?hr ?_; (case ho => rfl); (case hg => rfl); (case hn => rfl); (case hr => first | (go_simp; done) | (go_simp; rfl)); intro w36 hw; have hg : wr.grownBy w36 (some gz) := (by rw [hw]; exact HP35.2); have hp_ : Zr gz oz Nz Cz prez postz x0_2.length w36 w0.heap.size (fun k_ => (P0_ k_ ∨ w.heap.size ≤ k_)) y169 := (by rw [hw, Ny169.out]; exact HP35.1); clear HP35; have n0_ := A0_.mk (hp_); have n1_ := A0_.mk ((by rw [hw]; exact bS_ (HB.out) GB33.out : Below w0.heap.size w0 w36)); have n2_ := A0_.mk (Kept.of_grown (S := (fun k_ => P0_ k_)) hg (by repeat (first | (with_reducible first | exact HK.out | apply Kept.alloc | apply Kept.drewN | apply Kept.drew) | exact HK.out)) (fun k_ e_ => (HO_0.out.1.1 k_ e_))); clear HO_0; clear HB; clear HK; have HO_0 := n0_; have HB := n1_; have HK := n2_; clear n0_ n1_ n2_; clear hg hw hp_)))
               go_ret
               exact ⟨by first | rfl | (simp [errW_none, errW_some] <;> rfl) | (simp only [← hji5]; first | rfl | (simp [errW_none, errW_some] <;> rfl)) | (simp [*, errW_none, errW_some] <;> rfl), (show Zr gz oz Nz Cz prez postz _ _ _ _ _ from by (with_reducible repeat (first | apply Zr.alloc | apply Zr.drewN | apply Zr.drew)); exact HO_0.out).1, (by rw [Zr.len HO_0.out]; first | assumption | omega), by repeat (first | (with_reducible first | exact HB.out | apply bA_ | apply pB_ | apply b1_) | exact HB.out), by repeat (first | (with_reducible first | exact HK.out | apply Kept.alloc | apply Kept.drewN | apply Kept.drew) | exact HK.out)⟩
              ·rw [if_neg c34] at H
               have c34b0 : (t168 == 0) = false := beq_eq_false_iff_ne.mpr c34
               have c34b1 : (t168 != 0) = true := bne_iff_ne.mpr c34
               have H' := A0_.mk H
               clear H
               have p166 : 0 ≤ ((l1.length : Int) : Int) := of_decide_eq_true (by first | (with_reducible assumption) | assumption)
               have q166 : (l1.length : Int) < (x0_2.length : Int) := of_decide_eq_true (by first | (with_reducible assumption) | assumption)
               have hx166_0 := Zr.read HO_0.out (l1.length : Int) p166 q166
               (try simp only [Int.toNat_natCast] at hx166_0)
               (try simp only [add_plain] at hx166_0)
               (try simp only [Go.IntWalk.toNatUp] at hx166_0)
               (try simp only [hl0_2] at p166)
               (try simp only [hl0_2] at q166)
               (try simp only [hl0_2] at hx166_0)
               replace p166 := eq_true p166
               replace q166 := eq_true q166
               go_wp2_with (first | (go_at_call 101; (with_reducible refine (bits_Sub32.calls (rd x0_2 (l1.length : Int)) ((x9_2) % 4294967296) x10_2 t167 t168 _ A32.out).mono ?_); rintro e w' ⟨rfl, ⟨nd, rfl⟩⟩; (try first | exact ⟨rfl, _, World.drewN_drewN _ _ _⟩ | exact ⟨rfl, _, Eq.trans (World.drewN_drewN _ _ _) (congrArg (World.drewN _) (Nat.add_assoc _ _ _))⟩); have p33 : 0 ≤ ((l1.length : Int) : Int) := of_decide_eq_true (by first | (with_reducible assumption) | assumption); have q33 : ((l1.length : Int) : Int) < ((x0_2.length : Int) : Int) := of_decide_eq_true (by first | (with_reducible assumption) | assumption); have gb33 := Zr.base_ HO_0.out; have gl33 := True.intro; obtain ⟨cl33, HG33⟩ := Zr.blk HO_0.out; have GB33 := A0_.mk gb33; have GG33 := A0_.mk HG33; clear gb33 gl33 HG33; have HMgo33 := A0_.mk (show (P0_ gz ∨ w.heap.size ≤ gz) from (HO_0.out.1.1 _ rfl)); (first | simp only [add_plain] at hx166_0 | skip); obtain ⟨hx33_0, hf33_0⟩ := Zr.celln HO_0.out ((l1.length : Int) : Int) p33 q33; replace p33 := eq_true p33; replace q33 := eq_true q33; obtain ⟨hy37_, hz37_⟩ := Zr.celln HO_0.out ((l1.length : Int) : Int) (of_decide_eq_true (by first | (with_reducible assumption) | assumption)) (of_decide_eq_true (by first | (with_reducible assumption) | assumption)); (try simp only [Go.IntWalk.toNatUp] at hy37_ hz37_); have HP37 := Zr.putg HO_0.out ((l1.length : Int) : Int) t167) | ((with_reducible refine gate_store (t := 89) (p := 125) rfl ?_); (try (rw [drewN_self wr]; generalize hq_ : World.drewN wr _ = wr; have n0_ := A0_.mk (Zr.at_ hq_ HO_0.out); have n1_ := A0_.mk (kept_at hq_ HK.out); have n2_ := A0_.mk (below_at hq_ HB.out); clear hq_ HO_0 HK HB; have HO_0 := n0_; have HK := n1_; have HB := n2_; clear n0_ n1_ n2_; (try (obtain ⟨hy37_, hz37_⟩ := Zr.celln HO_0.out ((l1.length : Int) : Int) (of_decide_eq_true (by first | (with_reducible assumption) | assumption)) (of_decide_eq_true (by first | (with_reducible assumption) | assumption)))); (try (try simp only [Go.IntWalk.toNatUp] at hy37_ hz37_)); (try (have HP37 := Zr.putg HO_0.out ((l1.length : Int) : Int) t167)))); refine store_event (t := 89) (p := 125) (v := ?vo_w38) (w1 := (wr.setCell ⟨gz, oz + ((l1.length : Int) : Int).toNat, none⟩ (.int .u32 t167))) ?hg ?ho ?hn ?hr ?_; (case ho => rfl); (case hg => rfl); (case hn => rfl); (case hr => first | (go_simp; done) | (go_simp; rfl)); intro w38 hw; have hg : wr.grownBy w38 (some gz) := (by rw [hw]; exact HP37.2); have hp_ : Zr gz oz Nz Cz prez postz x0_2.length w38 w0.heap.size (fun k_ => (P0_ k_ ∨ w.heap.size ≤ k_)) y169 := (by rw [hw, Ny169.out]; exact HP37.1); clear HP37; have n0_ := A0_.mk (hp_); have n1_ := A0_.mk ((by rw [hw]; exact bS_ (HB.out) GB33.out : Below w0.heap.size w0 w38)); have n2_ := A0_.mk (Kept.of_grown (S := (fun k_ => P0_ k_)) hg (by repeat (first | (with_reducible first | exact HK.out | apply Kept.alloc | apply Kept.drewN | apply Kept.drew) | exact HK.out)) (fun k_ e_ => (HO_0.out.1.1 k_ e_))); clear HO_0; clear HB; clear HK; have HO_0 := n0_; have HB := n1_; have HK := n2_; clear n0_ n1_ n2_; clear hg hw hp_))
               repeat (go_quiet (first | (go_at_call 101; (with_reducible refine (bits_Sub32.calls (rd x0_2 (l1.length : Int)) ((x9_2) % 4294967296) x10_2 t167 t168 _ A32.out).mono ?_); rintro e w' ⟨rfl, ⟨nd, rfl⟩⟩; (try first | exact ⟨rfl, _, World.drewN_drewN _ _ _⟩ | exact ⟨rfl, _, Eq.trans (World.drewN_drewN _ _ _) (congrArg (World.drewN _) (Nat.add_assoc _ _ _))⟩); have p33 : 0 ≤ ((l1.length : Int) : Int) := of_decide_eq_true (by first | (with_reducible assumption) | assumption); have q33 : ((l1.length : Int) : Int) < ((x0_2.length : Int) : Int) := of_decide_eq_true (by first | (with_reducible assumption) | assumption); have gb33 := Zr.base_ HO_0.out; have gl33 := True.intro; obtain ⟨cl33, HG33⟩ := Zr.blk HO_0.out; have GB33 := A0_.mk gb33; have GG33 := A0_.mk HG33; clear gb33 gl33 HG33; have HMgo33 := A0_.mk (show (P0_ gz ∨ w.heap.size ≤ gz) from (HO_0.out.1.1 _ rfl)); (first | simp only [add_plain] at hx166_0 | skip); obtain ⟨hx33_0, hf33_0⟩ := Zr.celln HO_0.out ((l1.length : Int) : Int) p33 q33; replace p33 := eq_true p33; replace q33 := eq_true q33; obtain ⟨hy37_, hz37_⟩ := Zr.celln HO_0.out ((l1.length : Int) : Int) (of_decide_eq_true (by first | (with_reducible assumption) | assumption)) (of_decide_eq_true (by first | (with_reducible assumption) | assumption)); (try simp only [Go.IntWalk.toNatUp] at hy37_ hz37_); have HP37 := Zr.putg HO_0.out ((l1.length : Int) : Int) t167) | ((with_reducible refine gate_store (t := 89) (p := 125) rfl ?_); (try (rw [drewN_self wr]; generalize hq_ : World.drewN wr _ = wr; have n0_ := A0_.mk (Zr.at_ hq_ HO_0.out); have n1_ := A0_.mk (kept_at hq_ HK.out); have n2_ := A0_.mk (below_at hq_ HB.out); clear hq_ HO_0 HK HB; have HO_0 := n0_; have HK := n1_; have HB := n2_; clear n0_ n1_ n2_; (try (obtain ⟨hy37_, hz37_⟩ := Zr.celln HO_0.out ((l1.length : Int) : Int) (of_decide_eq_true (by first | (with_reducible assumption) | assumption)) (of_decide_eq_true (by first | (with_reducible assumption) | assumption)))); (try (try simp only [Go.IntWalk.toNatUp] at hy37_ hz37_)); (try (have HP37 := Zr.putg HO_0.out ((l1.length : Int) : Int) t167)))); refine store_event (t := 89) (p := 125) (v := ?vo_w38) (w1 := (wr.setCell ⟨gz, oz + ((l1.length : Int) : Int).toNat, none⟩ (.int .u32 t167))) ?hg ?ho ?hn ?hr ?_; (case ho => rfl); (case hg => rfl); (case hn => rfl); (case hr => first | (go_simp; done) | (go_simp; rfl)); intro w38 hw; have hg : wr.grownBy w38 (some gz) := (by rw [hw]; exact HP37.2); have hp_ : Zr gz oz Nz Cz prez postz x0_2.length w38 w0.heap.size (fun k_ => (P0_ k_ ∨ w.heap.size ≤ k_)) y169 := (by rw [hw, Ny169.out]; exact HP37.1); clear HP37; have n0_ := A0_.mk (hp_); have n1_ := A0_.mk ((by rw [hw]; exact bS_ (HB.out) GB33.out : Below w0.heap.size w0 w38)); have n2_ := A0_.mk (Kept.of_grown (S := (fun k_ => P0_ k_)) hg (by repeat (first | (with_reducible first | exact HK.out | apply Kept.alloc | apply Kept.drewN | apply Kept.drew) | exact HK.out)) (fun k_ e_ => (HO_0.out.1.1 k_ e_))); clear HO_0; clear HB; clear HK; have HO_0 := n0_; have HB := n1_; have HK := n2_; clear n0_ n1_ n2_; clear hg hw hp_)); try go_wp2_with (first | (go_at_call 101; (with_reducible refine (bits_Sub32.calls (rd x0_2 (l1.length : Int)) ((x9_2) % 4294967296) x10_2 t167 t168 _ A32.out).mono ?_); rintro e w' ⟨rfl, ⟨nd, rfl⟩⟩; (try first | exact ⟨rfl, _, World.drewN_drewN _ _ _⟩ | exact ⟨rfl, _, Eq.trans (World.drewN_drewN _ _ _) (congrArg (World.drewN _) (Nat.add_assoc _ _ _))⟩); have p33 : 0 ≤ ((l1.length : Int) : Int) := of_decide_eq_true (by first | (with_reducible assumption) | assumption); have q33 : ((l1.length : Int) : Int) < ((x0_2.length : Int) : Int) := of_decide_eq_true (by first | (with_reducible assumption) | assumption); have gb33 := Zr.base_ HO_0.out; have gl33 := True.intro; obtain ⟨cl33, HG33⟩ := Zr.blk HO_0.out; have GB33 := A0_.mk gb33; have GG33 := A0_.mk HG33; clear gb33 gl33 HG33; have HMgo33 := A0_.mk (show (P0_ gz ∨ w.heap.size ≤ gz) from (HO_0.out.1.1 _ rfl)); (first | simp only [add_plain] at hx166_0 | skip); obtain ⟨hx33_0, hf33_0⟩ := Zr.celln HO_0.out ((l1.length : Int) : Int) p33 q33; replace p33 := eq_true p33; replace q33 := eq_true q33; obtain ⟨hy37_, hz37_⟩ := Zr.celln HO_0.out ((l1.length : Int) : Int) (of_decide_eq_true (by first | (with_reducible assumption) | assumption)) (of_decide_eq_true (by first | (with_reducible assumption) | assumption)); (try simp only [Go.IntWalk.toNatUp] at hy37_ hz37_); have HP37 := Zr.putg HO_0.out ((l1.length : Int) : Int) t167) | ((with_reducible refine gate_store (t := 89) (p := 125) rfl ?_); (try (rw [drewN_self wr]; generalize hq_ : World.drewN wr _ = wr; have n0_ := A0_.mk (Zr.at_ hq_ HO_0.out); have n1_ := A0_.mk (kept_at hq_ HK.out); have n2_ := A0_.mk (below_at hq_ HB.out); clear hq_ HO_0 HK HB; have HO_0 := n0_; have HK := n1_; have HB := n2_; clear n0_ n1_ n2_; (try (obtain ⟨hy37_, hz37_⟩ := Zr.celln HO_0.out ((l1.length : Int) : Int) (of_decide_eq_true (by first | (with_reducible assumption) | assumption)) (of_decide_eq_true (by first | (with_reducible assumption) | assumption)))); (try (try simp only [Go.IntWalk.toNatUp] at hy37_ hz37_)); (try (have HP37 := Zr.putg HO_0.out ((l1.length : Int) : Int) t167)))); refine store_event (t := 89) (p := 125) (v := ?vo_w38) (w1 := (wr.setCell ⟨gz, oz + ((l1.length : Int) : Int).toNat, none⟩ (.int .u32 t167))) ?hg ?ho ?hn ?hr ?_; (case ho => rfl); (case hg => rfl); (case hn => rfl); (case hr => first | (go_simp; done) | (go_simp; rfl)); intro w38 hw; have hg : wr.grownBy w38 (some gz) := (by rw [hw]; exact HP37.2); have hp_ : Zr gz oz Nz Cz prez postz x0_2.length w38 w0.heap.size (fun k_ => (P0_ k_ ∨ w.heap.size ≤ k_)) y169 := (by rw [hw, Ny169.out]; exact HP37.1); clear HP37; have n0_ := A0_.mk (hp_); have n1_ := A0_.mk ((by rw [hw]; exact bS_ (HB.out) GB33.out : Below w0.heap.size w0 w38)); have n2_ := A0_.mk (Kept.of_grown (S := (fun k_ => P0_ k_)) hg (by repeat (first | (with_reducible first | exact HK.out | apply Kept.alloc | apply Kept.drewN | apply Kept.drew) | exact HK.out)) (fun k_ e_ => (HO_0.out.1.1 k_ e_))); clear HO_0; clear HB; clear HK; have HO_0 := n0_; have HB := n1_; have HK := n2_; clear n0_ n1_ n2_; clear hg hw hp_)))
               go_loopg [14, 132] k2 (fun kq v14 v132 w' => ∃ (x0_3 : List Int) (x14_3 : Int) (x132_3 : Int), v14 = .int .u32 x14_3 ∧ v132 = .int .i64 x132_3 ∧ A0_ (natural_step.l2 kq x0_3 (l1.length : Int) x7_9 x14_3 l1 (l1.length : Int) x132_3 = some (r1, r2)) ∧ A0_ (kq ≤ k2) ∧ A0_ (Zr gz oz Nz Cz prez postz x0_2.length w' w0.heap.size (fun k_ => (P0_ k_ ∨ w.heap.size ≤ k_)) x0_3) ∧ A0_ (Kept w w' (fun k_ => P0_ k_)) ∧ A0_ (Below w0.heap.size w0 w'))
               case atStart => exact ⟨(y169), (0), (0), (by first | rfl | (simp; done) | (simp [*]; done)), (by first | rfl | (simp; done) | (simp [*]; done)), H', ⟨Nat.le_refl _⟩, ⟨by (try simp only [hl0_2]); (with_reducible repeat (first | apply Zr.alloc | apply Zr.drewN | apply Zr.drew)); exact HO_0.out⟩, ⟨by repeat (first | (with_reducible first | exact HK.out | apply Kept.alloc | apply Kept.drewN | apply Kept.drew) | exact HK.out)⟩, ⟨by repeat (first | (with_reducible first | exact HB.out | apply bA_ | apply pB_ | apply b1_) | exact HB.out)⟩⟩
               case round =>
                clear H'
                try clear c1
                try clear p1
                try clear q1
                try clear hx1
                try clear c2
                try clear p2
                try clear q2
                try clear hx2
                try clear hf2
                try clear c3
                try clear c3b0
                try clear c3b1
                try clear p3
                try clear q3
                try clear hx3
                try clear hf3
                try clear c4
                try clear c4b0
                try clear c4b1
                try clear c6
                try clear c6b0
                try clear p6
                try clear c7
                try clear c7b0
                try clear c8
                try clear c8b0
                try clear c9
                try clear c9b0
                try clear c9b1
                try clear c10
                try clear c13
                try clear c13b0
                try clear c13b1
                try clear c15
                try clear c15b0
                try clear p15
                try clear q15
                try clear hx15
                try clear c16
                try clear c16b0
                try clear p16
                try clear q16
                try clear hx16
                try clear c17
                try clear c17b0
                try clear c18
                try clear c19
                try clear c19b0
                try clear c20
                try clear c20b0
                try clear c21
                try clear c21b0
                try clear c22
                try clear c22b0
                try clear c23
                try clear c23b0
                try clear c24
                try clear c24b0
                try clear c25
                try clear c25b0
                try clear p27
                try clear q27
                try clear hx27
                try clear hf27
                try clear c30
                try clear c30b0
                try clear c30b1
                try clear c31
                try clear c31b0
                try clear c31b1
                try clear p33
                try clear q33
                try clear hx33
                try clear hf33
                try clear c34
                try clear c34b0
                try clear c34b1
                try clear hx154_0
                try clear hx155_0
                try clear hx156_0
                try clear hx157_0
                try clear hx158_0
                try clear hx159_0
                try clear hx160_0
                try clear hx161_0
                try clear hx162_0
                try clear hx166_0
                try clear hx27_0
                try clear hx33_0
                try clear p1
                try clear p15
                try clear p154
                try clear p155
                try clear p156
                try clear p157
                try clear p158
                try clear p159
                try clear p16
                try clear p160
                try clear p161
                try clear p162
                try clear p166
                try clear p2
                try clear p27
                try clear p33
                try clear p6
                try clear q1
                try clear q15
                try clear q154
                try clear q155
                try clear q156
                try clear q157
                try clear q158
                try clear q159
                try clear q16
                try clear q160
                try clear q161
                try clear q162
                try clear q166
                try clear q27
                try clear q33
                obtain ⟨x0_3, x14_3, x132_3, rfl, rfl, HA, HK3, HO_0, HK, HB⟩ := hrel
                have hl0_3 := (Zr.len HO_0.out).symm
                rw [hl0_3] at HO_0
                (try simp only [hl0_3])
                cases gk with
                | zero => exact absurd HA.out (by simp [natural_step.l2])
                | succ k3 =>
                 have H := HA.out
                 clear HA
                 simp only [natural_step.l2] at H
                 by_cases c39 : x132_3 < (l1.length : Int)
                 ·rw [if_pos c39] at H
                  have c39b0 : decide (x132_3 < (l1.length : Int)) = true := decide_eq_true c39
                  (try (have c39h0 := c39b0; simp only [hl0_2, hl0_3] at c39h0))
                  clear c39
                  by_cases c40 : 0 ≤ x132_3
                  ·rw [if_pos c40] at H
                   have c40b0 : decide (0 ≤ x132_3) = true := decide_eq_true c40
                   clear c40
                   by_cases c41 : x132_3 < (l1.length : Int)
                   ·rw [if_pos c41] at H
                    have c41b0 : decide (x132_3 < (l1.length : Int)) = true := decide_eq_true c41
                    (try (have c41h0 := c41b0; simp only [hl0_2, hl0_3] at c41h0))
                    clear c41
                    by_cases c42 : x132_3 < (x0_3.length : Int)
                    ·rw [if_pos c42] at H
                     have c42b0 : decide (x132_3 < (x0_3.length : Int)) = true := decide_eq_true c42
                     (try (have c42h0 := c42b0; simp only [hl0_2, hl0_3] at c42h0))
                     clear c42
                     replace H := Option.bind_eq_some_iff.mp H
                     obtain ⟨⟨t172, t173⟩, A430, H⟩ := H
                     replace H : (natural_step.l2 k3 (x0_3.set (x132_3 : Int).toNat t172) (l1.length : Int) x7_9 t173 l1 (l1.length : Int) (wrap64 (x132_3 + 1))) = some (r1, r2) := H
                     have A43 := A0_.mk A430
                     clear A430
                     obtain ⟨y174, hy174⟩ : ∃ y_ : List Int, y_ = (x0_3.set (x132_3 : Int).toNat t172) := ⟨_, rfl⟩
                     replace H : (natural_step.l2 k3 y174 (l1.length : Int) x7_9 t173 l1 (l1.length : Int) (wrap64 (x132_3 + 1))) = some (r1, r2) := by first | (rw [hy174]; with_reducible exact H) | (have H2_ := (Option.bind_some _ _).symm.trans H; rw [hy174]; with_reducible exact H2_) | (have H2_ := (Option.bind_some _ _).symm.trans H; with_reducible exact H2_) | with_reducible exact H | (rw [hy174]; exact H) | exact H
                     have Ny174 := A0_.mk hy174
                     clear hy174
                     have H' := A0_.mk H
                     clear H
                     have p170 : 0 ≤ (x132_3 : Int) := of_decide_eq_true (by first | (with_reducible assumption) | assumption)
                     have q170 : x132_3 < (l1.length : Int) := of_decide_eq_true (by first | (with_reducible assumption) | assumption)
                     obtain ⟨ad170, e170, hx170_0⟩ := Kd.at_int (Kd.C_kept_now HR1.out HK.out) x132_3 p170 q170
                     obtain rfl : ad156 = ad170 := (by injection e170)
                     replace p170 := eq_true p170
                     replace q170 := eq_true q170
                     have p171 : 0 ≤ (x132_3 : Int) := of_decide_eq_true (by first | (with_reducible assumption) | assumption)
                     have q171 : x132_3 < (x0_3.length : Int) := of_decide_eq_true (by first | (with_reducible assumption) | assumption)
                     have hx171_0 := Zr.read HO_0.out x132_3 p171 q171
                     (try simp only [Int.toNat_natCast] at hx171_0)
                     (try simp only [add_plain] at hx171_0)
                     (first | simp only [add_plain] at hx171_0 | simp only [add_at] at hx171_0 | simp only [Addr.add, Nat.zero_add] at hx171_0 | skip)
                     replace p171 := eq_true p171
                     replace q171 := eq_true q171
                     go_wp2_with (first | (go_at_call 80; (with_reducible refine (bits_Add32.calls (rd x0_3 x132_3) (rd l1 x132_3) x14_3 t172 t173 _ A43.out).mono ?_); rintro e w' ⟨rfl, ⟨nd, rfl⟩⟩; (try first | exact ⟨rfl, _, World.drewN_drewN _ _ _⟩ | exact ⟨rfl, _, Eq.trans (World.drewN_drewN _ _ _) (congrArg (World.drewN _) (Nat.add_assoc _ _ _))⟩); have p44 : 0 ≤ (x132_3 : Int) := of_decide_eq_true (by first | (with_reducible assumption) | assumption); have q44 : (x132_3 : Int) < ((x0_3.length : Int) : Int) := of_decide_eq_true (by first | (with_reducible assumption) | assumption); obtain ⟨hx44_0, hf44_0⟩ := Zr.celln HO_0.out (x132_3 : Int) p44 q44; replace p44 := eq_true p44; replace q44 := eq_true q44; obtain ⟨hy45_, hz45_⟩ := Zr.celln HO_0.out (x132_3 : Int) (of_decide_eq_true (by first | (with_reducible assumption) | assumption)) (of_decide_eq_true (by first | (with_reducible assumption) | assumption)); have HP45 := Zr.putg HO_0.out (x132_3 : Int) t172) | ((with_reducible refine gate_store (t := 89) (p := 149) rfl ?_); (try (rw [drewN_self wr]; generalize hq_ : World.drewN wr _ = wr; have n0_ := A0_.mk (Zr.at_ hq_ HO_0.out); have n1_ := A0_.mk (kept_at hq_ HK.out); have n2_ := A0_.mk (below_at hq_ HB.out); clear hq_ HO_0 HK HB; have HO_0 := n0_; have HK := n1_; have HB := n2_; clear n0_ n1_ n2_; (try (obtain ⟨hy45_, hz45_⟩ := Zr.celln HO_0.out (x132_3 : Int) (of_decide_eq_true (by first | (with_reducible assumption) | assumption)) (of_decide_eq_true (by first | (with_reducible assumption) | assumption)))); (try (have HP45 := Zr.putg HO_0.out (x132_3 : Int) t172)))); refine store_event (t := 89) (p := 149) (v := ?vo_w46) (w1 := (wr.setCell ⟨gz, oz + (x132_3 : Int).toNat, none⟩ (.int .u32 t172))) ?hg ?ho ?hn ?hr ?_; (case ho => rfl); (case hg => rfl); (case hn => rfl); (case hr => first | (go_simp; done) | (go_simp; rfl)); intro w46 hw; have hg : wr.grownBy w46 (some gz) := (by rw [hw]; exact HP45.2); have hp_ : Zr gz oz Nz Cz prez postz x0_3.length w46 w0.heap.size (fun k_ => (P0_ k_ ∨ w.heap.size ≤ k_)) y174 := (by rw [hw, Ny174.out]; exact HP45.1); clear HP45; have n0_ := A0_.mk (hp_); have n1_ := A0_.mk ((by rw [hw]; exact bS_ (HB.out) GB33.out : Below w0.heap.size w0 w46)); have n2_ := A0_.mk (Kept.of_grown (S := (fun k_ => P0_ k_)) hg (by repeat (first | (with_reducible first | exact HK.out | apply Kept.alloc | apply Kept.drewN | apply Kept.drew) | exact HK.out)) (fun k_ e_ => (HO_0.out.1.1 k_ e_))); clear HO_0; clear HB; clear HK; have HO_0 := n0_; have HB := n1_; have HK := n2_; clear n0_ n1_ n2_; clear hg hw hp_))
                     repeat (go_quiet (first | (go_at_call 80; (with_reducible refine (bits_Add32.calls (rd x0_3 x132_3) (rd l1 x132_3) x14_3 t172 t173 _ A43.out).mono ?_); rintro e w' ⟨rfl, ⟨nd, rfl⟩⟩; (try first | exact ⟨rfl, _, World.drewN_drewN _ _ _⟩ | exact ⟨rfl, _, Eq.trans (World.drewN_drewN _ _ _) (congrArg (World.drewN _) (Nat.add_assoc _ _ _))⟩); have p44 : 0 ≤ (x132_3 : Int) := of_decide_eq_true (by first | (with_reducible assumption) | assumption); have q44 : (x132_3 : Int) < ((x0_3.length : Int) : Int) := of_decide_eq_true (by first | (with_reducible assumption) | assumption); obtain ⟨hx44_0, hf44_0⟩ := Zr.celln HO_0.out (x132_3 : Int) p44 q44; replace p44 := eq_true p44; replace q44 := eq_true q44; obtain ⟨hy45_, hz45_⟩ := Zr.celln HO_0.out (x132_3 : Int) (of_decide_eq_true (by first | (with_reducible assumption) | assumption)) (of_decide_eq_true (by first | (with_reducible assumption) | assumption)); have HP45 := Zr.putg HO_0.out (x132_3 : Int) t172) | ((with_reducible refine gate_store (t := 89) (p := 149) rfl ?_); (try (rw [drewN_self wr]; generalize hq_ : World.drewN wr _ = wr; have n0_ := A0_.mk (Zr.at_ hq_ HO_0.out); have n1_ := A0_.mk (kept_at hq_ HK.out); have n2_ := A0_.mk (below_at hq_ HB.out); clear hq_ HO_0 HK HB; have HO_0 := n0_; have HK := n1_; have HB := n2_; clear n0_ n1_ n2_; (try (obtain ⟨hy45_, hz45_⟩ := Zr.celln HO_0.out (x132_3 : Int) (of_decide_eq_true (by first | (with_reducible assumption) | assumption)) (of_decide_eq_true (by first | (with_reducible assumption) | assumption)))); (try (have HP45 := Zr.putg HO_0.out (x132_3 : Int) t172)))); refine store_event (t := 89) (p := 149) (v := ?vo_w46) (w1 := (wr.setCell ⟨gz, oz + (x132_3 : Int).toNat, none⟩ (.int .u32 t172))) ?hg ?ho ?hn ?hr ?_; (case ho => rfl); (case hg => rfl); (case hn => rfl); (case hr => first | (go_simp; done) | (go_simp; rfl)); intro w46 hw; have hg : wr.grownBy w46 (some gz) := (by rw [hw]; exact HP45.2); have hp_ : Zr gz oz Nz Cz prez postz x0_3.length w46 w0.heap.size (fun k_ => (P0_ k_ ∨ w.heap.size ≤ k_)) y174 := (by rw [hw, Ny174.out]; exact HP45.1); clear HP45; have n0_ := A0_.mk (hp_); have n1_ := A0_.mk ((by rw [hw]; exact bS_ (HB.out) GB33.out : Below w0.heap.size w0 w46)); have n2_ := A0_.mk (Kept.of_grown (S := (fun k_ => P0_ k_)) hg (by repeat (first | (with_reducible first | exact HK.out | apply Kept.alloc | apply Kept.drewN | apply Kept.drew) | exact HK.out)) (fun k_ e_ => (HO_0.out.1.1 k_ e_))); clear HO_0; clear HB; clear HK; have HO_0 := n0_; have HB := n1_; have HK := n2_; clear n0_ n1_ n2_; clear hg hw hp_)); try go_wp2_with (first | (go_at_call 80; (with_reducible refine (bits_Add32.calls (rd x0_3 x132_3) (rd l1 x132_3) x14_3 t172 t173 _ A43.out).mono ?_); rintro e w' ⟨rfl, ⟨nd, rfl⟩⟩; (try first | exact ⟨rfl, _, World.drewN_drewN _ _ _⟩ | exact ⟨rfl, _, Eq.trans (World.drewN_drewN _ _ _) (congrArg (World.drewN _) (Nat.add_assoc _ _ _))⟩); have p44 : 0 ≤ (x132_3 : Int) := of_decide_eq_true (by first | (with_reducible assumption) | assumption); have q44 : (x132_3 : Int) < ((x0_3.length : Int) : Int) := of_decide_eq_true (by first | (with_reducible assumption) | assumption); obtain ⟨hx44_0, hf44_0⟩ := Zr.celln HO_0.out (x132_3 : Int) p44 q44; replace p44 := eq_true p44; replace q44 := eq_true q44; obtain ⟨hy45_, hz45_⟩ := Zr.celln HO_0.out (x132_3 : Int) (of_decide_eq_true (by first | (with_reducible assumption) | assumption)) (of_decide_eq_true (by first | (with_reducible assumption) | assumption)); have HP45 := Zr.putg HO_0.out (x132_3 : Int) t172) | ((with_reducible refine gate_store (t := 89) (p := 149) rfl ?_); (try (rw [drewN_self wr]; generalize hq_ : World.drewN wr _ = wr; have n0_ := A0_.mk (Zr.at_ hq_ HO_0.out); have n1_ := A0_.mk (kept_at hq_ HK.out); have n2_ := A0_.mk (below_at hq_ HB.out); clear hq_ HO_0 HK HB; have HO_0 := n0_; have HK := n1_; have HB := n2_; clear n0_ n1_ n2_; (try (obtain ⟨hy45_, hz45_⟩ := Zr.celln HO_0.out (x132_3 : Int) (of_decide_eq_true (by first | (with_reducible assumption) | assumption)) (of_decide_eq_true (by first | (with_reducible assumption) | assumption)))); (try (have HP45 := Zr.putg HO_0.out (x132_3 : Int) t172)))); refine store_event (t := 89) (p := 149) (v := ?vo_w46) (w1 := (wr.setCell ⟨gz, oz + (x132_3 : Int).toNat, none⟩ (.int .u32 t172))) ?hg ?ho ?hn ?hr ?_; (case ho => rfl); (case hg => rfl); (case hn => rfl); (case hr => first | (go_simp; done) | (go_simp; rfl)); intro w46 hw; have hg : wr.grownBy w46 (some gz) := (by rw [hw]; exact HP45.2); have hp_ : Zr gz oz Nz Cz prez postz x0_3.length w46 w0.heap.size (fun k_ => (P0_ k_ ∨ w.heap.size ≤ k_)) y174 := (by rw [hw, Ny174.out]; exact HP45.1); clear HP45; have n0_ := A0_.mk (hp_); have n1_ := A0_.mk ((by rw [hw]; exact bS_ (HB.out) GB33.out : Below w0.heap.size w0 w46)); have n2_ := A0_.mk (Kept.of_grown (S := (fun k_ => P0_ k_)) hg (by repeat (first | (with_reducible first | exact HK.out | apply Kept.alloc | apply Kept.drewN | apply Kept.drew) | exact HK.out)) (fun k_ e_ => (HO_0.out.1.1 k_ e_))); clear HO_0; clear HB; clear HK; have HO_0 := n0_; have HB := n1_; have HK := n2_; clear n0_ n1_ n2_; clear hg hw hp_)))
                     (try simp only [← hl0_3])
                     (try simp only [add_plain])
                     go_roundg k3
                     case measure => have := HJ9.out; have := HK2.out; have := HK3.out; omega
                     case rel => exact ⟨(y174), (t173), (wrap64 (x132_3 + 1)), (by first | rfl | (simp; done) | (simp [*]; done)), (by first | rfl | (simp; done) | (simp [*]; done)), H', ⟨by have := HJ9.out; have := HK2.out; have := HK3.out; omega⟩, ⟨by (try simp only [hl0_2]); (try simp only [hl0_3]); (with_reducible repeat (first | apply Zr.alloc | apply Zr.drewN | apply Zr.drew)); exact HO_0.out⟩, ⟨by repeat (first | (with_reducible first | exact HK.out | apply Kept.alloc | apply Kept.drewN | apply Kept.drew) | exact HK.out)⟩, ⟨by repeat (first | (with_reducible first | exact HB.out | apply bA_ | apply pB_ | apply b1_) | exact HB.out)⟩⟩
                    ·rw [if_neg c42] at H
                     exact absurd H (by simp)
                   ·rw [if_neg c41] at H
                    exact absurd H (by simp)
                  ·rw [if_neg c40] at H
                   exact absurd H (by simp)
                 ·rw [if_neg c39] at H
                  have c39b0 : decide (x132_3 < (l1.length : Int)) = false := decide_eq_false c39
                  (try (have c39h0 := c39b0; simp only [hl0_2, hl0_3] at c39h0))
                  clear c39
                  by_cases c47 : 0 ≤ (l1.length : Int)
                  ·rw [if_pos c47] at H
                   have c47b0 : decide (0 ≤ (l1.length : Int)) = true := decide_eq_true c47
                   have c47b1 : decide (0 ≤ l1.length) = true := decide_eq_true (by omega)
                   (try (have c47h0 := c47b0; simp only [hl0_2, hl0_3] at c47h0))
                   (try (have c47h1 := c47b1; simp only [hl0_2, hl0_3] at c47h1))
                   clear c47
                   by_cases c48 : (l1.length : Int) < (x0_3.length : Int)
                   ·rw [if_pos c48] at H
                    have c48b0 : decide ((l1.length : Int) < (x0_3.length : Int)) = true := decide_eq_true c48
                    have c48b1 : decide (l1.length < x0_3.length) = true := decide_eq_true (Int.ofNat_lt.mp c48)
                    (try (have c48h0 := c48b0; simp only [hl0_2, hl0_3] at c48h0))
                    (try (have c48h1 := c48b1; simp only [hl0_2, hl0_3] at c48h1))
                    clear c48
                    obtain ⟨y176, hy176⟩ : ∃ y_ : List Int, y_ = (x0_3.set ((l1.length : Int) : Int).toNat (((rd x0_3 (l1.length : Int)) + x14_3) % 4294967296)) := ⟨_, rfl⟩
                    replace H : (some ((IntKind.u64.wrap (x7_9 - 1)) % 4294967296, y176)) = some (r1, r2) := by first | (rw [hy176]; with_reducible exact H) | (have H2_ := (Option.bind_some _ _).symm.trans H; rw [hy176]; with_reducible exact H2_) | (have H2_ := (Option.bind_some _ _).symm.trans H; with_reducible exact H2_) | with_reducible exact H | (rw [hy176]; exact H) | exact H
                    have Ny176 := A0_.mk hy176
                    clear hy176
                    simp only [Option.some.injEq, Prod.mk.injEq] at H
                    obtain ⟨rfl, rfl⟩ := H
                    have p175 : 0 ≤ ((l1.length : Int) : Int) := of_decide_eq_true (by first | (with_reducible assumption) | assumption)
                    have q175 : (l1.length : Int) < (x0_3.length : Int) := of_decide_eq_true (by first | (with_reducible assumption) | assumption)
                    have hx175_0 := Zr.read HO_0.out (l1.length : Int) p175 q175
                    (try simp only [Int.toNat_natCast] at hx175_0)
                    (try simp only [add_plain] at hx175_0)
                    (first | simp only [add_plain] at hx175_0 | simp only [add_at] at hx175_0 | simp only [Addr.add, Nat.zero_add] at hx175_0 | skip)
                    (try simp only [Go.IntWalk.toNatUp] at hx175_0)
                    (try simp only [hl0_2, hl0_3] at p175)
                    (try simp only [hl0_2, hl0_3] at q175)
                    (try simp only [hl0_2, hl0_3] at hx175_0)
                    replace p175 := eq_true p175
                    replace q175 := eq_true q175
                    have p49 : 0 ≤ ((l1.length : Int) : Int) := of_decide_eq_true (by first | (with_reducible assumption) | assumption)
                    have q49 : ((l1.length : Int) : Int) < ((x0_3.length : Int) : Int) := of_decide_eq_true (by first | (with_reducible assumption) | assumption)
                    obtain ⟨hx49_0, hf49_0⟩ := Zr.celln HO_0.out ((l1.length : Int) : Int) p49 q49
                    (try simp only [Int.toNat_natCast] at hx49_0 hf49_0)
                    replace p49 := eq_true p49
                    replace q49 := eq_true q49
                    have HP50 := Zr.putg HO_0.out ((l1.length : Int) : Int) (((rd x0_3 (l1.length : Int)) + x14_3) % 4294967296)
                    go_wp2_with (first | ((with_reducible refine gate_store (t := 89) (p := 157) rfl ?_); (try (rw [drewN_self wr]; generalize hq_ : World.drewN wr _ = wr; have n0_ := A0_.mk (Zr.at_ hq_ HO_0.out); have n1_ := A0_.mk (kept_at hq_ HK.out); have n2_ := A0_.mk (below_at hq_ HB.out); clear hq_ HO_0 HK HB; have HO_0 := n0_; have HK := n1_; have HB := n2_; clear n0_ n1_ n2_; (try (have HP50 := Zr.putg HO_0.out ((l1.length : Int) : Int) (((rd x0_3 (l1.length : Int)) + x14_3) % 4294967296))))); refine store_event (t := 89) (p := 157) (v := ?vo_w51) (w1 := (wr.setCell ⟨gz, oz + ((l1.length : Int) : Int).toNat, none⟩ (.int .u32 (((rd x0_3 (l1.length : Int)) + x14_3) % 4294967296)))) ?hg ?ho ?hn ?hr ?_; (case ho => rfl); (case hg => rfl); (case hn => rfl); (case hr => first | (go_simp; done) | (go_simp; rfl)); intro w51 hw; have hg : wr.grownBy w51 (some gz) := (by rw [hw]; exact HP50.2); have hp_ : Zr gz oz Nz Cz prez postz x0_3.length w51 w0.heap.size (fun k_ => (P0_ k_ ∨ w.heap.size ≤ k_)) y176 := (by rw [hw, Ny176.out]; exact HP50.1); clear HP50; have n0_ := A0_.mk (hp_); have n1_ := A0_.mk ((by rw [hw]; exact bS_ (HB.out) GB33.out : Below w0.heap.size w0 w51)); have n2_ := A0_.mk (Kept.of_grown (S := (fun k_ => P0_ k_)) hg (by repeat (first | (with_reducible first | exact HK.out | apply Kept.alloc | apply Kept.drewN | apply Kept.drew) | exact HK.out)) (fun k_ e_ => (HO_0.out.1.1 k_ e_))); clear HO_0; clear HB; clear HK; have HO_0 := n0_; have HB := n1_; have HK := n2_; clear n0_ n1_ n2_; clear hg hw hp_))
                    repeat (go_quiet (first | ((with_reducible refine gate_store (t := 89) (p := 157) rfl ?_); (try (rw [drewN_self wr]; generalize hq_ : World.drewN wr _ = wr; have n0_ := A0_.mk (Zr.at_ hq_ HO_0.out); have n1_ := A0_.mk (kept_at hq_ HK.out); have n2_ := A0_.mk (below_at hq_ HB.out); clear hq_ HO_0 HK HB; have HO_0 := n0_; have HK := n1_; have HB := n2_; clear n0_ n1_ n2_; (try (have HP50 := Zr.putg HO_0.out ((l1.length : Int) : Int) (((rd x0_3 (l1.length : Int)) + x14_3) % 4294967296))))); refine store_event (t := 89) (p := 157) (v := ?vo_w51) (w1 := (wr.setCell ⟨gz, oz + ((l1.length : Int) : Int).toNat, none⟩ (.int .u32 (((rd x0_3 (l1.length : Int)) + x14_3) % 4294967296)))) ?hg ?ho ?hn ?hr ?_; (case ho => rfl); (case hg => rfl); (case hn => rfl); (case hr => first | (go_simp; done) | (go_simp; rfl)); intro w51 hw; have hg : wr.grownBy w51 (some gz) := (by rw [hw]; exact HP50.2); have hp_ : Zr gz oz Nz Cz prez postz x0_3.length w51 w0.heap.size (fun k_ => (P0_ k_ ∨ w.heap.size ≤ k_)) y176 := (by rw [hw, Ny176.out]; exact HP50.1); clear HP50; have n0_ := A0_.mk (hp_); have n1_ := A0_.mk ((by rw [hw]; exact bS_ (HB.out) GB33.out : Below w0.heap.size w0 w51)); have n2_ := A0_.mk (Kept.of_grown (S := (fun k_ => P0_ k_)) hg (by repeat (first | (with_reducible first | exact HK.out | apply Kept.alloc | apply Kept.drewN | apply Kept.drew) | exact HK.out)) (fun k_ e_ => (HO_0.out.1.1 k_ e_))); clear HO_0; clear HB; clear HK; have HO_0 := n0_; have HB := n1_; have HK := n2_; clear n0_ n1_ n2_; clear hg hw hp_)); try go_wp2_with (first | ((with_reducible refine gate_store (t := 89) (p := 157) rfl ?_); (try (rw [drewN_self wr]; generalize hq_ : World.drewN wr _ = wr; have n0_ := A0_.mk (Zr.at_ hq_ HO_0.out); have n1_ := A0_.mk (kept_at hq_ HK.out); have n2_ := A0_.mk (below_at hq_ HB.out); clear hq_ HO_0 HK HB; have HO_0 := n0_; have HK := n1_; have HB := n2_; clear n0_ n1_ n2_; (try (have HP50 := Zr.putg HO_0.out ((l1.length : Int) : Int) (((rd x0_3 (l1.length : Int)) + x14_3) % 4294967296))))); refine store_event (t := 89) (p := 157) (v := ?vo_w51) (w1 := (wr.setCell ⟨gz, oz + ((l1.length : Int) : Int).toNat, none⟩ (.int .u32 (((rd x0_3 (l1.length : Int)) + x14_3) % 4294967296)))) ?hg ?ho ?hn ?hr ?_; (case ho => rfl); (case hg => rfl); (case hn => rfl); (case hr => first | (go_simp; done) | (go_simp; rfl)); intro w51 hw; have hg : wr.grownBy w51 (some gz) := (by rw [hw]; exact HP50.2); have hp_ : Zr gz oz Nz Cz prez postz x0_3.length w51 w0.heap.size (fun k_ => (P0_ k_ ∨ w.heap.size ≤ k_)) y176 := (by rw [hw, Ny176.out]; exact HP50.1); clear HP50; have n0_ := A0_.mk (hp_); have n1_ := A0_.mk ((by rw [hw]; exact bS_ (HB.out) GB33.out : Below w0.heap.size w0 w51)); have n2_ := A0_.mk (Kept.of_grown (S := (fun k_ => P0_ k_)) hg (by repeat (first | (with_reducible first | exact HK.out | apply Kept.alloc | apply Kept.drewN | apply Kept.drew) | exact HK.out)) (fun k_ e_ => (HO_0.out.1.1 k_ e_))); clear HO_0; clear HB; clear HK; have HO_0 := n0_; have HB := n1_; have HK := n2_; clear n0_ n1_ n2_; clear hg hw hp_)))
                    go_ret
                    exact ⟨by first | rfl | (simp [errW_none, errW_some] <;> rfl) | (simp only [← hji5]; first | rfl | (simp [errW_none, errW_some] <;> rfl)) | (simp [*, errW_none, errW_some] <;> rfl), (show Zr gz oz Nz Cz prez postz _ _ _ _ _ from by (with_reducible repeat (first | apply Zr.alloc | apply Zr.drewN | apply Zr.drew)); exact HO_0.out).1, (by rw [Zr.len HO_0.out]; first | assumption | omega), by repeat (first | (with_reducible first | exact HB.out | apply bA_ | apply pB_ | apply b1_) | exact HB.out), by repeat (first | (with_reducible first | exact HK.out | apply Kept.alloc | apply Kept.drewN | apply Kept.drew) | exact HK.out)⟩
                   ·rw [if_neg c48] at H
                    exact absurd H (by simp)
                  ·rw [if_neg c47] at H
                   exact absurd H (by simp)
             ·rw [if_neg c31] at H
              exact absurd H (by simp)
            ·rw [if_neg c30] at H
             exact absurd H (by simp)
     ·rw [if_neg c8] at H
      exact absurd H (by simp)
    ·rw [if_neg c7] at H
     exact absurd H (by simp)
   ·rw [if_neg c6] at H
    exact absurd H (by simp)
  ·rw [if_neg c4] at H
   exact absurd H (by simp)
 ·rw [if_neg c3] at H
  exact absurd H (by simp)
def natural_stepAt.f (k : Nat) (u : List Int) (i m : Int) (d : List Int) : Option (Int × List Int) := if 0 ≤ i ∧ i < m ∧ m ≤ (u.length : Int) then ((natural_step.f k ((u.take m.toNat).drop i.toNat) d).bind fun t => some (t.1, u.take i.toNat ++ t.2 ++ u.drop m.toNat)) else none
theorem natural_stepAt.mono : ∀ u i m d k, LeO (natural_stepAt.f k u i m d) (natural_stepAt.f (k + 1) u i m d) := by
 intro u i m d k
 unfold natural_stepAt.f
 exact LeO.ite (LeO.bind (natural_step.mono _ _ _) (fun _ => LeO.refl _)) (LeO.none _)
theorem natural_stepAt.inv {k : Nat} {u : List Int} {i m : Int} {d : List Int} {q : Int} {x : List Int} (h : natural_stepAt.f k u i m d = some (q, x)) : (0 ≤ i ∧ i < m ∧ m ≤ (u.length : Int)) ∧ ∃ r, natural_step.f k ((u.take m.toNat).drop i.toNat) d = some (q, r) ∧ x = u.take i.toNat ++ r ++ u.drop m.toNat := by
 unfold natural_stepAt.f at h
 split at h
 ·next hc =>
  refine ⟨hc, ?_⟩
  obtain ⟨⟨q', r⟩, h1, h2⟩ := Option.bind_eq_some_iff.mp h
  simp only [Option.some.injEq, Prod.mk.injEq] at h2
  exact ⟨r, by rw [h1, ← h2.1], h2.2.symm⟩
 ·exact absurd h (by simp)
theorem addr_at (g n : Nat) : (⟨g, 0, none⟩ : Addr).add n = ⟨g, n, none⟩ := by
 unfold Addr.add
 split
 ·next h => rw [h]
 ·simp
theorem cut_whole {u : List Int} {i m : Int} (h : 0 ≤ i ∧ i < m ∧ m ≤ (u.length : Int)) : u.take i.toNat ++ (u.take m.toNat).drop i.toNat ++ u.drop m.toNat = u := by
 have h1 : u.take i.toNat = (u.take m.toNat).take i.toNat := by rw [List.take_take, Nat.min_eq_left (by omega)]
 rw [h1, List.take_append_drop, List.take_append_drop]
theorem cut_len {u : List Int} {i m : Int} (h : 0 ≤ i ∧ i < m ∧ m ≤ (u.length : Int)) : ((u.take m.toNat).drop i.toNat).length = (m - i).toNat := by
 rw [List.length_drop, List.length_take]; omega
end Go.Proofs.YtnegkpnhjgimcaaDoor.B
end
