/- The law SetoffOneSided returns true for every input: after set-off at most one of two parties owes the other one an eligible amount, and Amount is symmetric and is what both lose. The tied card, with no condition beyond the card's own. -/
import Derived.Laws.BitsLemmas
import Derived.OpenShut
import Derived.Deep.Slices
import Derived.ChangeArms
import Derived.SevenTiedAt
import Derived.Test.YtnegkpnhjgimcaaDoorZSP4
section
set_option linter.unusedVariables false
set_option linter.unusedSimpArgs false
namespace Go.Proofs.YtnegkpnhjgimcaaDoor
namespace C
open Go.RowKit Go.PrWords Go.PrLast Go.PrMore
set_option maxRecDepth 100000 in
theorem awake_ev : Ev (fun k => l14_awake.f k) true := Ev.of l14_awake.mono (k := 60) (by decide +kernel)
theorem ow64 {x : Int} (h0 : -9223372036854775808 ≤ x) (h1 : x < 9223372036854775808) : wrap64 x = x := by
 unfold wrap64; omega
theorem u16w {x : Int} (h0 : 0 ≤ x) (h1 : x < 65536) : IntKind.u16.wrap x = x := by
 simp [IntKind.wrap, IntKind.bits, IntKind.signed]; omega
set_option maxRecDepth 100000 in
theorem ratio_tab : ∀ a : Fin 23, ∀ b : Fin 6, (l0_Ratio.f 60 ((a : Nat) : Int) (1 + ((b : Nat) : Int))).isSome = true := by decide +kernel
set_option maxRecDepth 100000 in
theorem whole_tab : ∀ a : Fin 31, (l0_Whole.f 60 ((a : Nat) : Int)).isSome = true := by decide +kernel
def amtB (x : Int) : Bool × ByteArray × ByteArray :=
 if x % 5 = 0 then (l0_Ratio.f 60 (x / 5 % 23) (1 + x / 115 % 6)).getD (false, ⟨#[]⟩, ⟨#[]⟩)
 else if x % 5 = 1 then (l0_Whole.f 60 (10 * (x / 5 % 4))).getD (false, ⟨#[]⟩, ⟨#[]⟩)
 else (l0_Whole.f 60 (x / 5 % 13)).getD (false, ⟨#[]⟩, ⟨#[]⟩)
theorem ratio_ev {a b : Int} (ha : 0 ≤ a ∧ a < 23) (hb : 0 ≤ b ∧ b < 6) : Ev (fun k => l0_Ratio.f k a (1 + b)) ((l0_Ratio.f 60 a (1 + b)).getD (false, ⟨#[]⟩, ⟨#[]⟩)) := by
 have h := ratio_tab ⟨a.toNat, by omega⟩ ⟨b.toNat, by omega⟩
 simp only [Int.toNat_of_nonneg ha.1, Int.toNat_of_nonneg hb.1] at h
 obtain ⟨v, hv⟩ := Option.isSome_iff_exists.1 h
 rw [hv]
 exact Ev.of (l0_Ratio.mono _ _) hv
theorem whole_ev {a : Int} (ha : 0 ≤ a ∧ a < 31) : Ev (fun k => l0_Whole.f k a) ((l0_Whole.f 60 a).getD (false, ⟨#[]⟩, ⟨#[]⟩)) := by
 have h := whole_tab ⟨a.toNat, by omega⟩
 simp only [Int.toNat_of_nonneg ha.1] at h
 obtain ⟨v, hv⟩ := Option.isSome_iff_exists.1 h
 rw [hv]
 exact Ev.of (l0_Whole.mono _) hv
theorem amount_ev (x : Int) (h0 : 0 ≤ x) (h1 : x < 65536) : Ev (fun k => l0_Amount.f k x) (amtB x) := by
 have e5 : Int.tmod x 5 = x % 5 := Int.tmod_eq_emod_of_nonneg h0
 have d5 : Int.tdiv x 5 = x / 5 := Int.tdiv_eq_ediv_of_nonneg h0
 have d115 : Int.tdiv x 115 = x / 115 := Int.tdiv_eq_ediv_of_nonneg h0
 have w5 : IntKind.u16.wrap (x / 5) = x / 5 := u16w (by omega) (by omega)
 have w115 : IntKind.u16.wrap (x / 115) = x / 115 := u16w (by omega) (by omega)
 have m23 : Int.tmod (x / 5) 23 = x / 5 % 23 := Int.tmod_eq_emod_of_nonneg (by omega)
 have m6 : Int.tmod (x / 115) 6 = x / 115 % 6 := Int.tmod_eq_emod_of_nonneg (by omega)
 have m4 : Int.tmod (x / 5) 4 = x / 5 % 4 := Int.tmod_eq_emod_of_nonneg (by omega)
 have m13 : Int.tmod (x / 5) 13 = x / 5 % 13 := Int.tmod_eq_emod_of_nonneg (by omega)
 unfold l0_Amount.f amtB
 simp only [e5, d5, d115, w5, w115, m23, m6, m4, m13]
 by_cases c0 : x % 5 = 0
 ·simp only [if_pos c0]
  rw [ow64 (x := x / 5 % 23) (by omega) (by omega), ow64 (x := x / 115 % 6) (by omega) (by omega), ow64 (x := 1 + x / 115 % 6) (by omega) (by omega)]
  exact Ev.bind (ratio_ev (by omega) (by omega)) (Ev.now _)
 ·simp only [if_neg c0]
  by_cases c1 : x % 5 = 1
  ·simp only [if_pos c1]
   rw [ow64 (x := x / 5 % 4) (by omega) (by omega), ow64 (x := 10 * (x / 5 % 4)) (by omega) (by omega)]
   exact Ev.bind (whole_ev (by omega)) (Ev.now _)
  ·simp only [if_neg c1]
   rw [ow64 (x := x / 5 % 13) (by omega) (by omega)]
   exact Ev.bind (whole_ev (by omega)) (Ev.now _)
def okx (x : S46) : Prop := (0 ≤ x.f0 ∧ x.f0 < 65536) ∧ (0 ≤ x.f1 ∧ x.f1 < 65536) ∧ (0 ≤ x.f2 ∧ x.f2 < 65536) ∧ (0 ≤ x.f3 ∧ x.f3 < 65536) ∧ (0 ≤ x.f4 ∧ x.f4 < 65536)
def obl (x : S46) : S28 := ⟨x.f0 % 4, if x.f1 % 3 ≥ x.f0 % 4 then x.f1 % 3 + 1 else x.f1 % 3, ⟨(amtB x.f2).1, (amtB x.f2).2.1, (amtB x.f2).2.2⟩, x.f3 % 60, x.f3 % 60 + (if x.f4 % 4 = 3 then x.f4 / 8 % 50 else 0), x.f4 % 8 == 7⟩
theorem obligations_loop (L : List S46) (hL : ∀ x ∈ L, okx x) : ∀ (r i : Nat), i + r = min L.length 16 → Ev (fun k => l0_Obligations.l0 k L ((L.take i).map obl) (i : Int)) ((L.take 16).map obl) := by
 intro r
 induction r with
 | zero =>
  intro i hi
  have hlast : Ev (fun k => l0_Obligations.j1 k L ((L.take i).map obl) (i : Int) false) ((L.take 16).map obl) := by
   refine Ev.step (f := fun _ => some ((L.take i).map obl)) (fun k => ?_) ?_
   ·simp only [l0_Obligations.j1]
    rw [if_neg (by decide)]
   ·have : L.take i = L.take 16 := by
     rcases Nat.le_total L.length 16 with h | h
     ·rw [List.take_of_length_le h, List.take_of_length_le (by omega)]
     ·rw [show i = 16 by omega]
    rw [this]; exact Ev.now _
  by_cases h1 : i < L.length
  ·refine Ev.step (f := fun k => l0_Obligations.j1 k L ((L.take i).map obl) (i : Int) false) (fun k => ?_) hlast
   simp only [l0_Obligations.l0]
   rw [if_pos (by omega), decide_eq_false (by omega)]
  ·refine Ev.step (f := fun k => l0_Obligations.j1 k L ((L.take i).map obl) (i : Int) false) (fun k => ?_) hlast
   simp only [l0_Obligations.l0]
   rw [if_neg (by omega)]
 | succ r ih =>
  intro i hi
  have hiL : i < L.length := by omega
  have hi1 := ih (i + 1) (by omega)
  obtain ⟨x, hx⟩ : ∃ x, L[i] = x := ⟨_, rfl⟩
  have hok : okx x := hL x (hx ▸ List.getElem_mem hiL)
  obtain ⟨o0, o1, o2, o3, o4⟩ := hok
  have hrd : r46_ L (i : Int) = x := by
   unfold r46_
   rw [Int.toNat_natCast, List.getD_eq_getElem?_getD, List.getElem?_eq_getElem hiL, hx]; rfl
  rw [List.take_add_one, List.getElem?_eq_getElem hiL, hx, List.map_append] at hi1
  have a1 : wrap64 ((i : Int) + 1) = ((i + 1 : Nat) : Int) := by rw [ow64 (by omega) (by omega)]; rfl
  have e0 : wrap64 (Int.tmod x.f0 4) = x.f0 % 4 := by rw [Int.tmod_eq_emod_of_nonneg o0.1, ow64 (by omega) (by omega)]
  have e1 : wrap64 (Int.tmod x.f1 3) = x.f1 % 3 := by rw [Int.tmod_eq_emod_of_nonneg o1.1, ow64 (by omega) (by omega)]
  have e1' : wrap64 (x.f1 % 3 + 1) = x.f1 % 3 + 1 := ow64 (by omega) (by omega)
  have e3 : wrap64 (Int.tmod x.f3 60) = x.f3 % 60 := by rw [Int.tmod_eq_emod_of_nonneg o3.1, ow64 (by omega) (by omega)]
  have e4 : Int.tmod x.f4 4 = x.f4 % 4 := Int.tmod_eq_emod_of_nonneg o4.1
  have e8 : Int.tmod x.f4 8 = x.f4 % 8 := Int.tmod_eq_emod_of_nonneg o4.1
  have d8 : Int.tdiv x.f4 8 = x.f4 / 8 := Int.tdiv_eq_ediv_of_nonneg o4.1
  have w8 : IntKind.u16.wrap (x.f4 / 8) = x.f4 / 8 := u16w (by omega) (by omega)
  have e50 : wrap64 (Int.tmod (x.f4 / 8) 50) = x.f4 / 8 % 50 := by rw [Int.tmod_eq_emod_of_nonneg (by omega), ow64 (by omega) (by omega)]
  have er : ∀ z : Int, rd [0, 0, 0, z] (x.f4 % 4) = if x.f4 % 4 = 3 then z else 0 := by
   intro z
   have : x.f4 % 4 = 0 ∨ x.f4 % 4 = 1 ∨ x.f4 % 4 = 2 ∨ x.f4 % 4 = 3 := by omega
   rcases this with h | h | h | h <;> rw [h] <;> rfl
  have es : wrap64 (x.f3 % 60 + (if x.f4 % 4 = 3 then x.f4 / 8 % 50 else 0)) = x.f3 % 60 + (if x.f4 % 4 = 3 then x.f4 / 8 % 50 else 0) := by split <;> rw [ow64 (by omega) (by omega)]
  have hp0 : (0 : Int) ≤ (i : Int) := by omega
  have hp1 : (i : Int) < (L.length : Int) := by omega
  have hp2 : (0 : Int) ≤ x.f4 % 4 := by omega
  have hp3 : ∀ z : Int, x.f4 % 4 < (([0, 0, 0, z] : List Int).length : Int) := fun z => by simp only [List.length_cons, List.length_nil]; omega
  have hp4 : ((L.take i).map obl).length < 1759218604441 := by rw [List.length_map, List.length_take]; omega
  have hj2 : ∀ c : Int, obl x = ⟨x.f0 % 4, c, ⟨(amtB x.f2).1, (amtB x.f2).2.1, (amtB x.f2).2.2⟩, x.f3 % 60, x.f3 % 60 + (if x.f4 % 4 = 3 then x.f4 / 8 % 50 else 0), x.f4 % 8 == 7⟩ → Ev (fun k => l0_Obligations.j2 k L ((L.take i).map obl) (i : Int) (x.f0 % 4) c x.f0 x.f1 x.f2 x.f3 x.f4) ((L.take 16).map obl) := by
   intro c ho
   refine Ev.step (f := fun k => (l0_Amount.f k x.f2).bind fun b => l0_Obligations.l0 k L ((L.take i).map obl ++ [⟨x.f0 % 4, c, ⟨b.1, b.2.1, b.2.2⟩, x.f3 % 60, x.f3 % 60 + (if x.f4 % 4 = 3 then x.f4 / 8 % 50 else 0), x.f4 % 8 == 7⟩]) ((i + 1 : Nat) : Int)) (fun k => ?_) (Ev.bind (amount_ev x.f2 o2.1 o2.2) ?_)
   ·simp only [l0_Obligations.j2, e3, e4, e8, d8, w8, e50, er, es, a1, if_pos hp2, if_pos (hp3 _), if_pos hp4, Option.bind_some]
   ·rw [← ho]; exact hi1
  have hj : Ev (fun k => l0_Obligations.j1 k L ((L.take i).map obl) (i : Int) true) ((L.take 16).map obl) := by
   by_cases hc : x.f1 % 3 ≥ x.f0 % 4
   ·refine Ev.step (f := fun k => l0_Obligations.j2 k L ((L.take i).map obl) (i : Int) (x.f0 % 4) (x.f1 % 3 + 1) x.f0 x.f1 x.f2 x.f3 x.f4) (fun k => ?_) (hj2 _ (by unfold obl; rw [if_pos hc]))
    simp only [l0_Obligations.j1, hrd, e0, e1, e1', if_pos hp0, if_pos hp1, if_pos hc, if_true]
   ·refine Ev.step (f := fun k => l0_Obligations.j2 k L ((L.take i).map obl) (i : Int) (x.f0 % 4) (x.f1 % 3) x.f0 x.f1 x.f2 x.f3 x.f4) (fun k => ?_) (hj2 _ (by unfold obl; rw [if_neg hc]))
    simp only [l0_Obligations.j1, hrd, e0, e1, e1', if_pos hp0, if_pos hp1, if_neg hc, if_true]
  refine Ev.step (f := fun k => l0_Obligations.j1 k L ((L.take i).map obl) (i : Int) true) (fun k => ?_) hj
  simp only [l0_Obligations.l0]
  rw [if_pos hp1, decide_eq_true (by omega)]
theorem obligations_ev (L : List S46) (hL : ∀ x ∈ L, okx x) : Ev (fun k => l0_Obligations.f k L) ((L.take 16).map obl) := by
 unfold l0_Obligations.f
 exact obligations_loop L hL (min L.length 16) 0 (by omega)
end C
namespace C
open Go.RowKit Go.PrWords
theorem w64 {x : Int} (h0 : -9223372036854775808 ≤ x) (h1 : x < 9223372036854775808) : wrap64 x = x := by unfold wrap64; omega
theorem wu64 {x : Int} (h0 : 0 ≤ x) (h1 : x < 18446744073709551616) : IntKind.u64.wrap x = x := by
 simp only [IntKind.wrap, IntKind.bits, IntKind.signed]; simp; omega
theorem wraps_u32 (n : Int) (h₀ : 0 ≤ n) (h₁ : n < 2 ^ 32) : IntKind.u32.wrap n = n := by rw [IntKind.wrap_u32]; omega
theorem wraps_u64 (n : Int) (h₀ : 0 ≤ n) (h₁ : n < 2 ^ 64) : IntKind.u64.wrap n = n := wu64 h₀ (by omega)
theorem or32 (i : Nat) {x y : Int} (hx₀ : 0 ≤ x) (hx : x % 2 ^ i = 0) (hx₁ : x < 4294967296) (hy₀ : 0 ≤ y) (hy : y < 2 ^ i) (hi : i ≤ 32) : bits .or .u32 x y = x + y := by
 have : (2 : Int) ^ i ≤ 2 ^ 32 := by
  have h := Nat.pow_le_pow_right (n := 2) (by decide) hi
  exact_mod_cast h
 exact bits_join .u32 32 (by decide) wraps_u32 i x y hx₀ hx (by omega) hy₀ hy (by omega)
theorem or64 (i : Nat) {x y : Int} (hx₀ : 0 ≤ x) (hx : x % 2 ^ i = 0) (hx₁ : x < 18446744073709551616) (hy₀ : 0 ≤ y) (hy : y < 2 ^ i) (hi : i ≤ 64) : bits .or .u64 x y = x + y := by
 have : (2 : Int) ^ i ≤ 2 ^ 64 := by
  have h := Nat.pow_le_pow_right (n := 2) (by decide) hi
  exact_mod_cast h
 exact bits_join .u64 64 (by decide) wraps_u64 i x y hx₀ hx (by omega) hy₀ hy (by omega)
theorem bits_or_comm (k : IntKind) (x y : Int) : bits .or k x y = bits .or k y x := by
 simp only [bits]; rw [BitVec.or_comm]
def BB (n : Nat) : Int := 4294967296 ^ n
theorem BB_zero : BB 0 = 1 := rfl
theorem BB_succ (n : Nat) : BB (n + 1) = 4294967296 * BB n := by unfold BB; rw [Int.pow_succ, Int.mul_comm]
theorem BB_pos (n : Nat) : 0 < BB n := by unfold BB; exact Int.pow_pos (by decide)
theorem BB_add (m n : Nat) : BB (m + n) = BB m * BB n := by unfold BB; exact Int.pow_add ..
theorem BB_le {m n : Nat} (h : m ≤ n) : BB m ≤ BB n := by
 obtain ⟨d, rfl⟩ := Nat.exists_eq_add_of_le h
 rw [BB_add]
 have h1 := BB_pos m
 have h2 := BB_pos d
 have : BB m * 1 ≤ BB m * BB d := Int.mul_le_mul_of_nonneg_left (by omega) (by omega)
 omega
def lv : List Int → Int
 | [] => 0
 | x :: xs => x + 4294967296 * lv xs
def Lim (xs : List Int) : Prop := ∀ x ∈ xs, 0 ≤ x ∧ x < 4294967296
theorem Lim.nil : Lim [] := fun _ h => by cases h
theorem Lim.cons {x : Int} {xs : List Int} : Lim (x :: xs) ↔ (0 ≤ x ∧ x < 4294967296) ∧ Lim xs := by simp [Lim]
theorem Lim.take {xs : List Int} (h : Lim xs) (n : Nat) : Lim (xs.take n) := fun x hx => h x (List.mem_of_mem_take hx)
theorem Lim.drop {xs : List Int} (h : Lim xs) (n : Nat) : Lim (xs.drop n) := fun x hx => h x (List.mem_of_mem_drop hx)
theorem Lim.set {xs : List Int} (h : Lim xs) (i : Nat) {v : Int} (h0 : 0 ≤ v) (h1 : v < 4294967296) : Lim (xs.set i v) := fun x hx => by
 rcases List.mem_or_eq_of_mem_set hx with hx | rfl
 ·exact h x hx
 ·exact ⟨h0, h1⟩
theorem Lim.zeros (n : Nat) : Lim (List.replicate n 0) := fun x hx => by
 rw [List.eq_of_mem_replicate hx]; decide
theorem rd_nat (xs : List Int) (i : Nat) : rd xs (i : Int) = xs.getD i 0 := by simp [rd]
theorem Lim.at_ {xs : List Int} (h : Lim xs) (i : Int) : 0 ≤ rd xs i ∧ rd xs i < 4294967296 := by
 unfold rd
 rw [List.getD_eq_getElem?_getD]
 by_cases hi : i.toNat < xs.length
 ·rw [List.getElem?_eq_getElem hi]; exact h _ (List.getElem_mem hi)
 ·rw [List.getElem?_eq_none (by omega)]; decide
theorem lv_nonneg {xs : List Int} (h : Lim xs) : 0 ≤ lv xs := by
 induction xs with
 | nil => decide
 | cons x xs ih => have := Lim.cons.1 h; have := ih this.2; simp only [lv]; omega
theorem lv_lt {xs : List Int} (h : Lim xs) : lv xs < BB xs.length := by
 induction xs with
 | nil => decide
 | cons x xs ih => have := Lim.cons.1 h; have := ih this.2; simp only [lv, List.length_cons, BB_succ]; omega
theorem lv_append (xs ys : List Int) : lv (xs ++ ys) = lv xs + BB xs.length * lv ys := by
 induction xs with
 | nil => simp [lv, BB_zero]
 | cons x xs ih =>
  simp only [List.cons_append, lv, ih, List.length_cons, BB_succ, Int.mul_add, Int.mul_assoc]; omega
theorem lv_zeros (n : Nat) : lv (List.replicate n 0) = 0 := by
 induction n with
 | zero => rfl
 | succ n ih => simp only [List.replicate_succ, lv, ih]; rfl
theorem lv_set (xs : List Int) (i : Nat) (v : Int) (h : i < xs.length) : lv (xs.set i v) = lv xs + (v - xs.getD i 0) * BB i := by
 induction xs generalizing i with
 | nil => simp at h
 | cons x xs ih =>
  cases i with
  | zero => simp [lv, BB_zero]; omega
  | succ i =>
   have h' : i < xs.length := by simpa using h
   have := ih i h'
   simp only [List.set_cons_succ, lv, this, BB_succ, List.getD_cons_succ]
   rw [Int.mul_add]
   have : 4294967296 * ((v - xs.getD i 0) * BB i) = (v - xs.getD i 0) * (4294967296 * BB i) := by
    rw [← Int.mul_assoc, Int.mul_comm 4294967296, Int.mul_assoc]
   omega
theorem lv_take_succ (xs : List Int) (i : Nat) (h : i < xs.length) : lv (xs.take (i + 1)) = lv (xs.take i) + xs.getD i 0 * BB i := by
 induction xs generalizing i with
 | nil => simp at h
 | cons x xs ih =>
  cases i with
  | zero => simp [lv, BB_zero]
  | succ i =>
   have h' : i < xs.length := by simpa using h
   have := ih i h'
   simp only [List.take_succ_cons, lv, this, BB_succ, List.getD_cons_succ, Int.mul_add]
   have : 4294967296 * (xs.getD i 0 * BB i) = xs.getD i 0 * (4294967296 * BB i) := by
    rw [← Int.mul_assoc, Int.mul_comm 4294967296, Int.mul_assoc]
   omega
theorem lv_split (xs : List Int) (i : Nat) (h : i ≤ xs.length) : lv xs = lv (xs.take i) + BB i * lv (xs.drop i) := by
 have h1 := lv_append (xs.take i) (xs.drop i)
 rw [List.take_append_drop] at h1
 rw [h1, List.length_take, Nat.min_eq_left h]
theorem lv_drop_cons (xs : List Int) (i : Nat) (h : i < xs.length) : lv (xs.drop i) = xs.getD i 0 + 4294967296 * lv (xs.drop (i + 1)) := by
 rw [List.drop_eq_getElem_cons h]; simp only [lv]
 rw [List.getD_eq_getElem?_getD, List.getElem?_eq_getElem h]; rfl
theorem lv_limb {xs : List Int} (h : Lim xs) (i : Nat) (hi : i < xs.length) : xs.getD i 0 = lv xs / BB i % 4294967296 := by
 have h1 := lv_split xs i (by omega)
 have h2 := lv_drop_cons xs i hi
 have h3 := lv_nonneg (h.take i)
 have h4 := lv_lt (h.take i)
 rw [List.length_take, Nat.min_eq_left (by omega)] at h4
 have hp := BB_pos i
 have hl := h.at_ (i : Int)
 rw [rd_nat] at hl
 have : lv xs / BB i = lv (xs.drop i) := by
  rw [h1]
  rw [Int.add_mul_ediv_left _ _ (by omega), Int.ediv_eq_zero_of_lt h3 h4]
  omega
 rw [this, h2]
 omega
def Trim (xs : List Int) : Prop := xs = [] ∨ xs.getD (xs.length - 1) 0 ≠ 0
theorem trim_pos {xs : List Int} (h : Lim xs) (ht : Trim xs) (hp : 0 < xs.length) : BB (xs.length - 1) ≤ lv xs := by
 rcases ht with rfl | ht
 ·simp at hp
 ·have h1 := lv_split xs (xs.length - 1) (by omega)
  have h2 := lv_drop_cons xs (xs.length - 1) (by omega)
  rw [Nat.sub_add_cancel hp, List.drop_length] at h2
  simp only [lv] at h2
  have h3 := lv_nonneg (h.take (xs.length - 1))
  have h4 := h.at_ ((xs.length - 1 : Nat) : Int)
  rw [rd_nat] at h4
  have h5 := BB_pos (xs.length - 1)
  have : BB (xs.length - 1) * 1 ≤ BB (xs.length - 1) * xs.getD (xs.length - 1) 0 := Int.mul_le_mul_of_nonneg_left (by omega) (by omega)
  rw [h1, h2]
  have e : xs.getD (xs.length - 1) 0 + 4294967296 * 0 = xs.getD (xs.length - 1) 0 := by omega
  rw [e]
  omega
theorem trim_len_le {xs ys : List Int} (hx : Lim xs) (hy : Lim ys) (tx : Trim xs) (h : lv xs ≤ lv ys) : xs.length ≤ ys.length := by
 by_cases h1 : xs.length ≤ ys.length
 ·exact h1
 ·have h2 := trim_pos hx tx (by omega)
  have h3 := lv_lt hy
  have h4 : BB ys.length ≤ BB (xs.length - 1) := BB_le (by omega)
  omega
theorem lv_inj {xs ys : List Int} (hx : Lim xs) (hy : Lim ys) (hl : xs.length = ys.length) (h : lv xs = lv ys) : xs = ys := by
 induction xs generalizing ys with
 | nil => cases ys with
  | nil => rfl
  | cons _ _ => simp at hl
 | cons x xs ih => cases ys with
  | nil => simp at hl
  | cons y ys =>
   have a := Lim.cons.1 hx
   have b := Lim.cons.1 hy
   simp only [lv] at h
   have e : x = y := by omega
   subst e
   rw [ih a.2 b.2 (by simpa using hl) (by omega)]
theorem lv_inj_trim {xs ys : List Int} (hx : Lim xs) (hy : Lim ys) (tx : Trim xs) (ty : Trim ys) (h : lv xs = lv ys) : xs = ys :=
 lv_inj hx hy (Nat.le_antisymm (trim_len_le hx hy tx (by omega)) (trim_len_le hy hx ty (by omega))) h
end C
namespace C
open Go.RowKit Go.PrWords
def lb : List UInt8 → Nat
 | [] => 0
 | x :: xs => x.toNat + 256 * lb xs
def nat (s : ByteArray) : Nat := lb s.data.toList.reverse
def dig (n : Nat) : List UInt8 := if h : n = 0 then [] else UInt8.ofNat (n % 256) :: dig (n / 256)
termination_by n
decreasing_by omega
def enc (n : Nat) : ByteArray := ⟨(dig n).reverse.toArray⟩
theorem dig_zero : dig 0 = [] := by unfold dig; simp
theorem dig_pos {n : Nat} (h : n ≠ 0) : dig n = UInt8.ofNat (n % 256) :: dig (n / 256) := by
 rw [dig.eq_def, dif_neg h]
theorem lb_append (xs ys : List UInt8) : lb (xs ++ ys) = lb xs + 256 ^ xs.length * lb ys := by
 induction xs with
 | nil => simp [lb]
 | cons x xs ih =>
  simp only [List.cons_append, lb, ih, List.length_cons, Nat.pow_succ, Nat.mul_add]
  rw [Nat.mul_comm (256 ^ xs.length) 256, Nat.mul_assoc]; omega
theorem lb_lt (xs : List UInt8) : lb xs < 256 ^ xs.length := by
 induction xs with
 | nil => decide
 | cons x xs ih => have := x.toNat_lt; simp only [lb, List.length_cons, Nat.pow_succ]; omega
theorem lb_dig (n : Nat) : lb (dig n) = n := by
 induction n using Nat.strongRecOn with
 | ind n ih =>
  by_cases h : n = 0
  ·subst h; rw [dig_zero]; rfl
  ·rw [dig_pos h]
   simp only [lb]
   rw [ih (n / 256) (by omega)]
   have : (UInt8.ofNat (n % 256)).toNat = n % 256 := by simp
   omega
theorem nat_enc (n : Nat) : nat (enc n) = n := by simp [nat, enc, lb_dig]
def Top (xs : List UInt8) : Prop := ∀ x, xs.getLast? = some x → x ≠ 0
theorem dig_lb {xs : List UInt8} (h : Top xs) : dig (lb xs) = xs := by
 induction xs with
 | nil => exact dig_zero
 | cons x xs ih =>
  have ht : Top xs := fun y hy => h y (by
   cases xs with
   | nil => simp at hy
   | cons z zs => simpa using hy)
  have hn : lb (x :: xs) ≠ 0 := by
   cases xs with
   | nil =>
    have := h x (by simp)
    simp only [lb]
    intro h0
    exact this (by apply UInt8.toNat_inj.1; simp; omega)
   | cons z zs =>
    have h1 := ih ht
    intro h0
    simp only [lb] at h0 h1
    have : z.toNat + 256 * lb zs = 0 := by omega
    rw [this, dig_zero] at h1
    cases h1
  rw [dig_pos hn]
  have hx := x.toNat_lt
  simp only [lb]
  rw [show (x.toNat + 256 * lb xs) / 256 = lb xs by omega, ih ht, show (x.toNat + 256 * lb xs) % 256 = x.toNat by omega]
  simp
def Nrm (s : ByteArray) : Prop := enc (nat s) = s
theorem ba_ext {s t : ByteArray} (h : s.data.toList = t.data.toList) : s = t := by
 obtain ⟨⟨a⟩⟩ := s; obtain ⟨⟨b⟩⟩ := t; simpa using h
theorem nrm_of {s : ByteArray} (h : ∀ x, s.data.toList.head? = some x → x ≠ 0) : Nrm s := by
 unfold Nrm
 apply ba_ext
 unfold enc nat
 rw [dig_lb (fun x hx => h x (by rw [List.getLast?_reverse] at hx; exact hx))]
 simp
theorem size_eq (s : ByteArray) : s.size = s.data.toList.length := by rw [Array.length_toList]; rfl
theorem enc_zero : enc 0 = ⟨#[]⟩ := by unfold enc; rw [dig_zero]; rfl
theorem enc_size (n : Nat) : (enc n).size = (dig n).length := by rw [size_eq]; simp [enc]
theorem enc_lt (n : Nat) : n < 256 ^ (enc n).size := by
 have := lb_lt (dig n)
 rw [lb_dig] at this
 rwa [enc_size]
theorem dig_len {n m : Nat} (h : n < 256 ^ m) : (dig n).length ≤ m := by
 induction m generalizing n with
 | zero =>
  have : n = 0 := by simpa using h
  subst this; rw [dig_zero]; simp
 | succ m ih =>
  by_cases h0 : n = 0
  ·subst h0; rw [dig_zero]; simp
  ·rw [dig_pos h0]
   have := @ih (n / 256) (by rw [Nat.pow_succ] at h; omega)
   simp only [List.length_cons]; omega
theorem enc_size_le {n m : Nat} (h : n < 256 ^ m) : (enc n).size ≤ m := by rw [enc_size]; exact dig_len h
theorem nat_lt (s : ByteArray) : nat s < 256 ^ s.size := by
 have := lb_lt s.data.toList.reverse
 rw [List.length_reverse, ← size_eq] at this
 exact this
theorem enc_nat_size_le (s : ByteArray) : (enc (nat s)).size ≤ s.size := enc_size_le (nat_lt s)
theorem enc_size_mono {m n : Nat} (h : m ≤ n) : (enc m).size ≤ (enc n).size := enc_size_le (Nat.lt_of_le_of_lt h (enc_lt n))
theorem extract_one {x : UInt8} {t : List UInt8} : (ByteArray.mk (x :: t).toArray).extract 1 (ByteArray.mk (x :: t).toArray).size = ⟨t.toArray⟩ := by
 apply ba_ext
 rw [Lib.extract_data]
 simp [size_eq]
theorem trimLeft_ev (l : List UInt8) : Ev (fun k => st_trimLeftByte.l0 k ⟨l.toArray⟩ 0) (enc (lb l.reverse)) := by
 induction l with
 | nil => exact Ev.step (f := fun _ => some (enc 0)) (fun k => by
   simp only [st_trimLeftByte.l0]
   rw [if_neg (by rw [size_eq]; simp), enc_zero]) (Ev.now _)
 | cons x t ih =>
  have hs : ((ByteArray.mk (x :: t).toArray).size : Int) > 0 := by rw [size_eq]; simp
  have hb : bt ⟨(x :: t).toArray⟩ 0 = x.toNat := by
   unfold bt
   rw [dif_pos (by rw [size_eq]; simp)]
   rfl
  by_cases hx : x = 0
  ·subst hx
   have e : lb (0 :: t).reverse = lb t.reverse := by
    rw [List.reverse_cons, lb_append]; simp [lb]
   rw [e]
   refine Ev.step (f := fun k => st_trimLeftByte.l0 k ⟨t.toArray⟩ 0) (fun k => ?_) ih
   simp only [st_trimLeftByte.l0]
   rw [if_pos hs, if_pos (by omega), hb, if_pos (by rfl), if_pos (by omega), extract_one]
  ·have hn : Nrm ⟨(x :: t).toArray⟩ := nrm_of (fun y hy => by simp at hy; subst hy; exact hx)
   refine Ev.step (f := fun _ => some (enc (lb (x :: t).reverse))) (fun k => ?_) (Ev.now _)
   simp only [st_trimLeftByte.l0]
   rw [if_pos hs, if_pos (by omega), hb, if_neg (fun h0 => hx (by apply UInt8.toNat_inj.1; simp; omega))]
   exact congrArg some hn.symm
theorem normalize_ev (s : ByteArray) : Ev (fun k => n_Normalize.f k s) (enc (nat s)) := by
 by_cases h : s.toList = []
 ·refine ⟨0, fun k _ => ?_⟩
  show n_Normalize.f k s = _
  unfold n_Normalize.f st_TrimLeft.f
  rw [if_pos (by rw [Lib.toList_data]), if_pos h]
  simp only [Option.bind_some]
  rw [Lib.toList_data] at h
  have : s = ⟨#[]⟩ := ba_ext h
  subst this
  rw [show nat ⟨#[]⟩ = 0 from rfl, enc_zero]
 ·refine Ev.congr (fun k => ?_) (trimLeft_ev s.data.toList)
  unfold n_Normalize.f st_TrimLeft.f st_trimLeftByte.f
  rw [if_pos (by rw [Lib.toList_data]), if_neg h]
  simp
theorem bt_nat (s : ByteArray) (i : Nat) (h : i < s.data.toList.length) : bt s (i : Int) = ((s.data.toList[i]'h).toNat : Int) := by
 unfold bt
 simp only [Int.toNat_natCast]
 rw [dif_pos (by rw [size_eq]; exact h)]
 rfl
end C
namespace C
open Go.RowKit Go.PrWords Go.PrLast Go.PrMore
def lim (n : Nat) : List Int := if h : n = 0 then [] else ((n % 4294967296 : Nat) : Int) :: lim (n / 4294967296)
termination_by n
decreasing_by omega
theorem lim_zero : lim 0 = [] := by rw [lim.eq_def]; simp
theorem lim_pos {n : Nat} (h : n ≠ 0) : lim n = ((n % 4294967296 : Nat) : Int) :: lim (n / 4294967296) := by rw [lim.eq_def, dif_neg h]
theorem lv_lim (n : Nat) : lv (lim n) = n := by
 induction n using Nat.strongRecOn with
 | ind n ih =>
  by_cases h : n = 0
  ·subst h; rw [lim_zero]; rfl
  ·rw [lim_pos h]; simp only [lv]; rw [ih (n / 4294967296) (by omega)]; omega
theorem Lim_lim (n : Nat) : Lim (lim n) := by
 induction n using Nat.strongRecOn with
 | ind n ih =>
  by_cases h : n = 0
  ·subst h; rw [lim_zero]; exact Lim.nil
  ·rw [lim_pos h]; exact Lim.cons.2 ⟨by omega, ih _ (by omega)⟩
theorem Trim_lim (n : Nat) : Trim (lim n) := by
 induction n using Nat.strongRecOn with
 | ind n ih =>
  by_cases h : n = 0
  ·subst h; rw [lim_zero]; exact .inl rfl
  ·rw [lim_pos h]
   by_cases h2 : n / 4294967296 = 0
   ·rw [h2, lim_zero]
    right
    simp
    omega
   ·have h3 := ih (n / 4294967296) (by omega)
    rcases h3 with h3 | h3
    ·have := lv_lim (n / 4294967296)
     rw [h3] at this
     simp [lv] at this
     omega
    ·right
     have hl : 0 < (lim (n / 4294967296)).length := by
      rcases Nat.eq_zero_or_pos (lim (n / 4294967296)).length with h4 | h4
      ·rw [List.eq_nil_of_length_eq_zero h4] at h3
       simp at h3
      ·exact h4
     rw [List.length_cons, Nat.add_sub_cancel]
     obtain ⟨m, hm⟩ : ∃ m, (lim (n / 4294967296)).length = m + 1 := ⟨_, (Nat.succ_pred_eq_of_pos hl).symm⟩
     rw [hm] at h3 ⊢
     simpa using h3
theorem lim_of {xs : List Int} (h : Lim xs) (t : Trim xs) : lim (lv xs).toNat = xs := by
 refine lv_inj_trim (Lim_lim _) h (Trim_lim _) t ?_
 rw [lv_lim]
 have := lv_nonneg h
 omega
theorem lim_len {n m : Nat} (h : (n : Int) < BB m) : (lim n).length ≤ m := by
 by_cases h1 : (lim n).length ≤ m
 ·exact h1
 ·have h2 := trim_pos (Lim_lim n) (Trim_lim n) (by omega)
  rw [lv_lim] at h2
  have h3 := BB_le (m := m) (n := (lim n).length - 1) (by omega)
  omega
theorem lim_ne {n : Nat} : (lim n).length = 0 ↔ n = 0 := by
 constructor
 ·intro h
  have := lv_lim n
  rw [List.eq_nil_of_length_eq_zero h] at this
  simp [lv] at this
  omega
 ·intro h; subst h; rw [lim_zero]; rfl
theorem trim_ev (xs : List Int) (h : Lim xs) (hs : xs.length < 9223372036854775807) : ∀ n : Nat, n ≤ xs.length → lv (xs.take n) = lv xs → Ev (fun k => n_limbs_trim.l0 k xs (n : Int)) (lim (lv xs).toNat) := by
 intro n
 induction n with
 | zero =>
  intro hn hz
  refine Ev.step (f := fun _ => some (xs.take 0)) (fun k => ?_) ?_
  ·simp only [n_limbs_trim.l0]
   rw [if_neg (by omega), if_pos (by omega), if_pos (by omega)]
   rfl
  ·rw [← hz]; simp only [List.take_zero, lv]; rw [show (0 : Int).toNat = 0 from rfl, lim_zero]; exact Ev.now _
 | succ n ih =>
  intro hn hz
  have ht := lv_take_succ xs n (by omega)
  by_cases hx : xs.getD n 0 = 0
  ·refine Ev.step (f := fun k => n_limbs_trim.l0 k xs (n : Int)) (fun k => ?_) (ih (by omega) (by rw [← hz, ht, hx]; omega))
   simp only [n_limbs_trim.l0]
   rw [if_pos (by omega), w64 (by omega) (by omega), if_pos (by omega), if_pos (by omega), show ((n + 1 : Nat) : Int) - 1 = (n : Int) by omega, rd_nat, if_pos hx]
  ·refine Ev.step (f := fun _ => some (xs.take (n + 1))) (fun k => ?_) ?_
   ·simp only [n_limbs_trim.l0]
    rw [if_pos (by omega), w64 (by omega) (by omega), if_pos (by omega), if_pos (by omega), show ((n + 1 : Nat) : Int) - 1 = (n : Int) by omega, rd_nat, if_neg hx, if_pos (by omega), if_pos (by omega)]
    rfl
   ·rw [← hz, lim_of (h.take _)]
    ·exact Ev.now _
    ·right
     rw [List.length_take, Nat.min_eq_left hn, Nat.add_sub_cancel]
     simpa [List.getD_eq_getElem?_getD, List.getElem?_take] using hx
theorem trim_all (xs : List Int) (h : Lim xs) (hs : xs.length < 9223372036854775807) : Ev (fun k => n_limbs_trim.f k xs) (lim (lv xs).toNat) :=
 trim_ev xs h hs xs.length (Nat.le_refl _) (by rw [List.take_length])
end C
namespace C
open Go.RowKit Go.PrWords Go.PrLast Go.PrMore
theorem pow256 (i : Nat) : ((256 ^ i : Nat) : Int) = BB (i / 4) * 2 ^ (8 * (i % 4)) := by
 have h : i = 4 * (i / 4) + i % 4 := by omega
 have e : (256 : Nat) ^ i = (4294967296 : Nat) ^ (i / 4) * 2 ^ (8 * (i % 4)) := by
  conv => lhs; rw [h]
  rw [Nat.pow_add, Nat.pow_mul, Nat.pow_mul]
 rw [e, Int.natCast_mul, Int.natCast_pow, Int.natCast_pow]
 rfl
theorem lb_take_succ (xs : List UInt8) (i : Nat) (h : i < xs.length) : lb (xs.take (i + 1)) = lb (xs.take i) + (xs[i]'h).toNat * 256 ^ i := by
 rw [List.take_succ_eq_append_getElem h, lb_append, List.length_take, Nat.min_eq_left (by omega)]
 simp only [lb, Nat.mul_zero, Nat.add_zero]
 rw [Nat.mul_comm (256 ^ i)]
def pstep (s : ByteArray) (x : List Int) (i : Nat) : List Int := x.set (i / 4) (Go.bits .or .u32 (rd x ((i / 4 : Nat) : Int)) (shl .u32 ((bt s ((s.size - 1 - i : Nat) : Int)) % 4294967296) ((8 * (i % 4) : Nat) : Int)))
theorem parse_round (s : ByteArray) (x : List Int) (i : Nat) (hx : Lim x) (hi : i < s.size) (hl : i / 4 < x.length) (hv : lv x = (lb (s.data.toList.reverse.take i) : Int)) :
  Lim (pstep s x i) ∧ lv (pstep s x i) = (lb (s.data.toList.reverse.take (i + 1)) : Int) := by
 have hr : i < s.data.toList.reverse.length := by rw [List.length_reverse, ← size_eq]; exact hi
 have hb : bt s ((s.size - 1 - i : Nat) : Int) = ((s.data.toList.reverse[i]'hr).toNat : Int) := by
  rw [bt_nat s _ (by rw [← size_eq]; omega), List.getElem_reverse]
  congr 2
 have hb2 := (s.data.toList.reverse[i]'hr).toNat_lt
 have he : 8 * (i % 4) ≤ 24 := by omega
 have hp : (2 : Int) ^ (8 * (i % 4)) ≤ 2 ^ 24 := by
  have h := Nat.pow_le_pow_right (n := 2) (by decide) he
  exact_mod_cast h
 have hp0 : (0 : Int) < 2 ^ (8 * (i % 4)) := Int.pow_pos (by decide)
 have hmul : ((s.data.toList.reverse[i]'hr).toNat : Int) * 2 ^ (8 * (i % 4)) ≤ 255 * 2 ^ 24 := Int.mul_le_mul (by omega) hp (by omega) (by omega)
 have hmul0 : 0 ≤ ((s.data.toList.reverse[i]'hr).toNat : Int) * 2 ^ (8 * (i % 4)) := Int.mul_nonneg (by omega) (by omega)
 have hsh : shl .u32 ((bt s ((s.size - 1 - i : Nat) : Int)) % 4294967296) ((8 * (i % 4) : Nat) : Int) = ((s.data.toList.reverse[i]'hr).toNat : Int) * 2 ^ (8 * (i % 4)) := by
  unfold shl
  rw [hb, Int.emod_eq_of_lt (by omega) (by omega), Int.toNat_natCast, Nat.min_eq_left (by simp [IntKind.bits]; omega)]
  exact wraps_u32 _ hmul0 (by omega)
 have hlt := lb_lt (s.data.toList.reverse.take i)
 rw [List.length_take, Nat.min_eq_left (by omega)] at hlt
 have hlt2 : lv x < BB (i / 4) * 2 ^ (8 * (i % 4)) := by rw [hv, ← pow256]; exact_mod_cast hlt
 have hlimb := lv_limb hx (i / 4) hl
 have hq : lv x / BB (i / 4) < 2 ^ (8 * (i % 4)) := Int.ediv_lt_of_lt_mul (BB_pos _) (by rw [Int.mul_comm]; exact hlt2)
 have hq0 : 0 ≤ lv x / BB (i / 4) := Int.ediv_nonneg (lv_nonneg hx) (by have := BB_pos (i / 4); omega)
 have hold : x.getD (i / 4) 0 < 2 ^ (8 * (i % 4)) := by
  rw [hlimb, Int.emod_eq_of_lt hq0 (by omega)]; exact hq
 have hold0 := (hx.at_ ((i / 4 : Nat) : Int)).1
 rw [rd_nat] at hold0
 have hv' : pstep s x i = x.set (i / 4) (x.getD (i / 4) 0 + ((s.data.toList.reverse[i]'hr).toNat : Int) * 2 ^ (8 * (i % 4))) := by
  unfold pstep
  rw [hsh, rd_nat, bits_or_comm, or32 (8 * (i % 4)) hmul0 (Int.mul_emod_left _ _) (by omega) hold0 hold (by omega), Int.add_comm]
 rw [hv']
 constructor
 ·refine hx.set _ (by omega) ?_
  have h2 : ((s.data.toList.reverse[i]'hr).toNat : Int) * 2 ^ (8 * (i % 4)) + 2 ^ (8 * (i % 4)) ≤ 256 * 2 ^ 24 := by
   have h3 : (((s.data.toList.reverse[i]'hr).toNat : Int) + 1) * 2 ^ (8 * (i % 4)) ≤ 256 * 2 ^ 24 := Int.mul_le_mul (by omega) hp (by omega) (by omega)
   rw [Int.add_mul] at h3; omega
  omega
 ·rw [lv_set x _ _ hl, lb_take_succ _ i hr, hv]
  rw [Int.natCast_add, Int.natCast_mul, pow256]
  have e : x.getD (i / 4) 0 + ((s.data.toList.reverse[i]'hr).toNat : Int) * 2 ^ (8 * (i % 4)) - x.getD (i / 4) 0 = ((s.data.toList.reverse[i]'hr).toNat : Int) * 2 ^ (8 * (i % 4)) := by omega
  rw [e, Int.mul_assoc, Int.mul_comm (2 ^ _) (BB _)]
theorem tdiv_nat (i m : Nat) : Int.tdiv (i : Int) (m : Int) = ((i / m : Nat) : Int) := by rw [Int.ofNat_tdiv]
theorem tmod_nat (i m : Nat) : Int.tmod (i : Int) (m : Int) = ((i % m : Nat) : Int) := by rw [Int.ofNat_tmod]
theorem parse_loop (s : ByteArray) (hs : s.size ≤ 1099511627776) (d : Nat) : ∀ (i : Nat) (x : List Int), i ≤ s.size → s.size - i = d → Lim x → x.length = (s.size + 3) / 4 → lv x = (lb (s.data.toList.reverse.take i) : Int) →
  Ev (fun k => n_parse.l0 k s x (s.size : Int) (i : Int)) (lim (nat s)) := by
 induction d with
 | zero =>
  intro i x hi hd hx hl hv
  have e : lv x = (nat s : Int) := by
   rw [hv, List.take_of_length_le (by rw [List.length_reverse, ← size_eq]; omega)]; rfl
  have ht := trim_all x hx (by omega)
  rw [e, Int.toNat_natCast] at ht
  refine Ev.step (f := fun k => (n_limbs_trim.f k x).bind fun t => some t) (fun k => ?_) (Ev.bind ht (Ev.now _))
  simp only [n_parse.l0]
  rw [if_neg (by omega)]
 | succ d ih =>
  intro i x hi hd hx hl hv
  have h1 := parse_round s x i hx (by omega) (by omega) hv
  refine Ev.step (f := fun k => n_parse.l0 k s (pstep s x i) (s.size : Int) ((i + 1 : Nat) : Int)) (fun k => ?_) (ih (i + 1) (pstep s x i) (by omega) (by omega) h1.1 (by unfold pstep; rw [List.length_set]; exact hl) h1.2)
  have c1 : (i : Int) < (s.size : Int) := by omega
  have c2 : (0 : Int) ≤ ((i / 4 : Nat) : Int) := by omega
  have c3 : ((i / 4 : Nat) : Int) < (x.length : Int) := by omega
  have c4 : (0 : Int) ≤ ((s.size - 1 - i : Nat) : Int) := by omega
  have c5 : ((s.size - 1 - i : Nat) : Int) < (s.size : Int) := by omega
  have c6 : (0 : Int) ≤ ((8 * (i % 4) : Nat) : Int) := by omega
  have e4 : wrap64 ((i : Int) + 1) = ((i + 1 : Nat) : Int) := w64 (by omega) (by omega)
  have e2 : wrap64 (wrap64 ((s.size : Int) - 1) - (i : Int)) = ((s.size - 1 - i : Nat) : Int) := by clear e4; rw [w64 (x := (s.size : Int) - 1) (by omega) (by omega), w64 (by omega) (by omega)]; omega
  have e1 : wrap64 (Int.tdiv (i : Int) 4) = ((i / 4 : Nat) : Int) := by clear e2 e4; rw [show (4 : Int) = ((4 : Nat) : Int) from rfl, tdiv_nat]; exact w64 (by omega) (by omega)
  have e3 : wrap64 (8 * Int.tmod (i : Int) 4) = ((8 * (i % 4) : Nat) : Int) := by clear e1 e2 e4; rw [show (4 : Int) = ((4 : Nat) : Int) from rfl, tmod_nat]; rw [w64 (by omega) (by omega)]; omega
  simp only [n_parse.l0]
  rw [e1, e2, e3, e4]
  rw [if_pos c1, if_pos c2, if_pos c3, if_pos c4, if_pos c5, if_pos c6, Int.toNat_natCast]
  rfl
theorem parse_ev (s : ByteArray) (hs : s.size ≤ 1099511627776) : Ev (fun k => n_parse.f k s) (lim (nat s)) := by
 have e1 : wrap64 (Int.tdiv (wrap64 (wrap64 ((s.size : Int) + 4) - 1)) 4) = (((s.size + 3) / 4 : Nat) : Int) := by
  rw [w64 (x := (s.size : Int) + 4) (by omega) (by omega), w64 (x := (s.size : Int) + 4 - 1) (by omega) (by omega), show (s.size : Int) + 4 - 1 = ((s.size + 3 : Nat) : Int) by omega, show (4 : Int) = ((4 : Nat) : Int) from rfl, tdiv_nat]
  exact w64 (by omega) (by omega)
 refine Ev.congr (fun k => ?_) (parse_loop s hs s.size 0 (List.replicate ((s.size + 3) / 4) 0) (by omega) (by omega) (Lim.zeros _) (by simp) (by rw [lv_zeros]; rfl))
 simp only [n_parse.f, e1]
 rw [if_pos (by omega), if_pos (by omega), Int.toNat_natCast]
 rfl
end C
namespace C
open Go.RowKit Go.PrWords Go.PrLast Go.PrMore
def lbi : List Int → Int
 | [] => 0
 | x :: xs => x + 256 * lbi xs
def Byt (xs : List Int) : Prop := ∀ x ∈ xs, 0 ≤ x ∧ x < 256
theorem Byt.cons {x : Int} {xs : List Int} : Byt (x :: xs) ↔ (0 ≤ x ∧ x < 256) ∧ Byt xs := by simp [Byt]
theorem Byt.set {xs : List Int} (h : Byt xs) (i : Nat) {v : Int} (h0 : 0 ≤ v) (h1 : v < 256) : Byt (xs.set i v) := fun x hx => by
 rcases List.mem_or_eq_of_mem_set hx with hx | rfl
 ·exact h x hx
 ·exact ⟨h0, h1⟩
theorem Byt.zeros (n : Nat) : Byt (List.replicate n 0) := fun x hx => by
 rw [List.eq_of_mem_replicate hx]; decide
theorem Byt.reverse {xs : List Int} (h : Byt xs) : Byt xs.reverse := fun x hx => h x (List.mem_reverse.1 hx)
theorem lbi_nonneg {xs : List Int} (h : Byt xs) : 0 ≤ lbi xs := by
 induction xs with
 | nil => decide
 | cons x xs ih => have := Byt.cons.1 h; have := ih this.2; simp only [lbi]; omega
theorem lbi_zeros (n : Nat) : lbi (List.replicate n 0) = 0 := by
 induction n with
 | zero => rfl
 | succ n ih => simp only [List.replicate_succ, lbi, ih]; rfl
theorem lbi_set (xs : List Int) (i : Nat) (v : Int) (h : i < xs.length) : lbi (xs.set i v) = lbi xs + (v - xs.getD i 0) * 256 ^ i := by
 induction xs generalizing i with
 | nil => simp at h
 | cons x xs ih =>
  cases i with
  | zero => simp [lbi]; omega
  | succ i =>
   have h' : i < xs.length := by simpa using h
   have := ih i h'
   simp only [List.set_cons_succ, lbi, this, List.getD_cons_succ, Int.pow_succ]
   rw [Int.mul_add]
   have : 256 * ((v - xs.getD i 0) * 256 ^ i) = (v - xs.getD i 0) * (256 ^ i * 256) := by
    rw [← Int.mul_assoc, Int.mul_comm 256, Int.mul_assoc, Int.mul_comm 256]
   omega
theorem lbi_top {xs : List Int} (h : Byt xs) (i : Nat) (hi : i < xs.length) (hv : lbi xs < 256 ^ i) : xs.getD i 0 = 0 := by
 induction xs generalizing i with
 | nil => simp at hi
 | cons x xs ih =>
  have hc := Byt.cons.1 h
  have hn := lbi_nonneg hc.2
  cases i with
  | zero => simp only [lbi, Int.pow_zero] at hv; simp; omega
  | succ i =>
   simp only [lbi, Int.pow_succ] at hv
   rw [List.getD_cons_succ]
   exact ih hc.2 i (by simpa using hi) (by omega)
theorem nat_strOfNums {ys : List Int} (h : Byt ys) : (nat (strOfNums ys) : Int) = lbi ys.reverse := by
 have key : ∀ zs : List Int, Byt zs → (lb (zs.map fun n => UInt8.ofNat n.toNat) : Int) = lbi zs := by
  intro zs hz
  induction zs with
  | nil => rfl
  | cons z zs ih =>
   have hc := Byt.cons.1 hz
   have h1 := ih hc.2
   simp only [List.map_cons, lb, lbi]
   have : (UInt8.ofNat z.toNat).toNat = z.toNat := by simp; omega
   omega
 rw [← key _ h.reverse]
 unfold nat strOfNums
 rw [List.map_reverse]
theorem byte_of (x : Nat) (r : Nat) (hr : r < 4) : (x % 4294967296) / 2 ^ (8 * r) % 256 = x / 2 ^ (8 * r) % 256 := by
 have : r = 0 ∨ r = 1 ∨ r = 2 ∨ r = 3 := by omega
 rcases this with rfl | rfl | rfl | rfl <;> omega
theorem text_byte {l : List Int} (h : Lim l) (i : Nat) (hi : i / 4 < l.length) :
  (shr .u32 (rd l ((i / 4 : Nat) : Int)) ((8 * (i % 4) : Nat) : Int)) % 256 = (((lv l).toNat / 256 ^ i % 256 : Nat) : Int) := by
 have hl := lv_limb h (i / 4) hi
 have hn := lv_nonneg h
 obtain ⟨n, hnn⟩ := Int.eq_ofNat_of_zero_le hn
 have e : (256 : Nat) ^ i = 4294967296 ^ (i / 4) * 2 ^ (8 * (i % 4)) := by
  conv => lhs; rw [show i = 4 * (i / 4) + i % 4 by omega]
  rw [Nat.pow_add, Nat.pow_mul, Nat.pow_mul]
 unfold shr
 rw [rd_nat, hl, Int.toNat_natCast, Nat.min_eq_left (by simp [IntKind.bits]; omega), hnn, Int.toNat_natCast, e, ← Nat.div_div_eq_div_mul, ← byte_of _ _ (by omega : i % 4 < 4)]
 unfold BB
 simp only [Int.natCast_emod, Int.natCast_ediv, Int.natCast_pow]
 rfl
theorem text_loop (l : List Int) (h : Lim l) (hs : l.length ≤ 1099511627776) (d : Nat) : ∀ (i : Nat) (y : List Int), i ≤ 4 * l.length → 4 * l.length - i = d → Byt y → y.length = 4 * l.length → lbi y.reverse = (((lv l).toNat % 256 ^ i : Nat) : Int) →
  Ev (fun k => n_limbs_text.l0 k l y (y.length : Int) (i : Int)) (enc (lv l).toNat) := by
 induction d with
 | zero =>
  intro i y hi hd hy hl hv
  have hlt := lv_lt h
  have hn := lv_nonneg h
  have hN : (lv l).toNat < 256 ^ i := by
   have e : ((256 ^ i : Nat) : Int) = BB l.length := by
    rw [pow256, show i = 4 * l.length by omega, Nat.mul_div_cancel_left _ (by decide), Nat.mul_mod_right]; simp
   omega
  rw [Nat.mod_eq_of_lt hN, ← nat_strOfNums hy] at hv
  have hv' : nat (strOfNums y) = (lv l).toNat := by exact_mod_cast hv
  have hm := normalize_ev (strOfNums y)
  rw [hv'] at hm
  refine Ev.step (f := fun k => (n_Normalize.f k (strOfNums y)).bind fun t => some t) (fun k => ?_) (Ev.bind hm (Ev.now _))
  simp only [n_limbs_text.l0]
  rw [if_neg (by omega)]
 | succ d ih =>
  intro i y hi hd hy hl hv
  have hb := text_byte h i (by omega)
  have hr : i < y.reverse.length := by rw [List.length_reverse]; omega
  have hp : ((256 ^ i : Nat) : Int) = 256 ^ i := by rw [Int.natCast_pow]; rfl
  have hold : y.reverse.getD i 0 = 0 := lbi_top hy.reverse i hr (by
   rw [hv, ← hp]
   have := Nat.mod_lt (lv l).toNat (Nat.pow_pos (n := i) (by decide : 0 < 256))
   omega)
  have hset : (y.set (y.length - 1 - i) (((lv l).toNat / 256 ^ i % 256 : Nat) : Int)).reverse = y.reverse.set i (((lv l).toNat / 256 ^ i % 256 : Nat) : Int) := by
   apply List.ext_getElem
   ·simp
   ·intro j h1 h2
    rw [List.getElem_reverse, List.getElem_set, List.getElem_set, List.getElem_reverse]
    rw [List.length_reverse, List.length_set] at h1
    simp only [List.length_set]
    by_cases hj : i = j
    ·subst hj; rw [if_pos rfl, if_pos rfl]
    ·rw [if_neg (by omega), if_neg hj]
  have hnew : lbi (y.set (y.length - 1 - i) (((lv l).toNat / 256 ^ i % 256 : Nat) : Int)).reverse = (((lv l).toNat % 256 ^ (i + 1) : Nat) : Int) := by
   rw [hset, lbi_set _ _ _ hr, hold, hv, Nat.pow_succ, Nat.mod_mul, Int.natCast_add, Int.natCast_mul, ← hp]
   rw [Int.sub_zero, Int.mul_comm]
  have c1 : (i : Int) < (y.length : Int) := by omega
  have c2 : (0 : Int) ≤ ((i / 4 : Nat) : Int) := by omega
  have c3 : ((i / 4 : Nat) : Int) < (l.length : Int) := by omega
  have c4 : (0 : Int) ≤ ((8 * (i % 4) : Nat) : Int) := by omega
  have c5 : (0 : Int) ≤ ((y.length - 1 - i : Nat) : Int) := by omega
  have c6 : ((y.length - 1 - i : Nat) : Int) < (y.length : Int) := by omega
  have hrec := ih (i + 1) (y.set (y.length - 1 - i) (((lv l).toNat / 256 ^ i % 256 : Nat) : Int)) (by omega) (by omega) (hy.set _ (by omega) (by omega)) (by rw [List.length_set]; exact hl) hnew
  rw [List.length_set] at hrec
  have e4 : wrap64 ((i : Int) + 1) = ((i + 1 : Nat) : Int) := w64 (by omega) (by omega)
  have e2 : wrap64 (wrap64 ((y.length : Int) - 1) - (i : Int)) = ((y.length - 1 - i : Nat) : Int) := by clear e4; rw [w64 (x := (y.length : Int) - 1) (by omega) (by omega), w64 (by omega) (by omega)]; omega
  have e1 : wrap64 (Int.tdiv (i : Int) 4) = ((i / 4 : Nat) : Int) := by clear e2 e4; rw [show (4 : Int) = ((4 : Nat) : Int) from rfl, tdiv_nat]; exact w64 (by omega) (by omega)
  have e3 : wrap64 (8 * Int.tmod (i : Int) 4) = ((8 * (i % 4) : Nat) : Int) := by clear e1 e2 e4; rw [show (4 : Int) = ((4 : Nat) : Int) from rfl, tmod_nat]; rw [w64 (by omega) (by omega)]; omega
  refine Ev.step (f := fun k => n_limbs_text.l0 k l (y.set (y.length - 1 - i) (((lv l).toNat / 256 ^ i % 256 : Nat) : Int)) (y.length : Int) ((i + 1 : Nat) : Int)) (fun k => ?_) hrec
  simp only [n_limbs_text.l0]
  rw [e1, e2, e3, e4]
  rw [if_pos c1, if_pos c2, if_pos c3, if_pos c4, if_pos c5, if_pos c6, hb, Int.toNat_natCast]
theorem text_ev (l : List Int) (h : Lim l) (hs : l.length ≤ 1099511627776) : Ev (fun k => n_limbs_text.f k l) (enc (lv l).toNat) := by
 have e1 : wrap64 ((l.length : Int) * 4) = ((4 * l.length : Nat) : Int) := by rw [w64 (by omega) (by omega)]; omega
 refine Ev.congr (fun k => ?_) (text_loop l h hs (4 * l.length) 0 (List.replicate (4 * l.length) 0) (by omega) (by omega) (Byt.zeros _) (by simp) (by rw [List.reverse_replicate, lbi_zeros]; simp [Nat.mod_one]))
 unfold n_limbs_text.f
 rw [e1, if_pos (by omega), if_pos (by omega), Int.toNat_natCast]
 rfl
end C
namespace C
open Go.RowKit Go.PrWords Go.PrLast Go.PrMore
def icmp (x y : Int) : Int := if x < y then -1 else if y < x then 1 else 0
theorem icmp_lt {x y : Int} (h : x < y) : icmp x y = -1 := by unfold icmp; rw [if_pos h]
theorem icmp_gt {x y : Int} (h : y < x) : icmp x y = 1 := by unfold icmp; rw [if_neg (by omega), if_pos h]
theorem icmp_eq {x y : Int} (h : x = y) : icmp x y = 0 := by unfold icmp; rw [if_neg (by omega), if_neg (by omega)]
theorem lv_top_lt {xs ys : List Int} (hx : Lim xs) (hy : Lim ys) (hl : xs.length = ys.length) (n : Nat) (hn : n < xs.length) (he : xs.drop (n + 1) = ys.drop (n + 1)) (h : xs.getD n 0 < ys.getD n 0) : lv xs < lv ys := by
 have h1 := lv_split xs n (by omega)
 have h2 := lv_split ys n (by omega)
 rw [lv_drop_cons xs n hn, he] at h1
 rw [lv_drop_cons ys n (by omega)] at h2
 have h3 := lv_lt (hx.take n)
 have h4 := lv_nonneg (hy.take n)
 rw [List.length_take, Nat.min_eq_left (by omega)] at h3
 have hp := BB_pos n
 have h5 : BB n * (xs.getD n 0 + 4294967296 * lv (ys.drop (n + 1))) + BB n ≤ BB n * (ys.getD n 0 + 4294967296 * lv (ys.drop (n + 1))) := by
  have : BB n * (xs.getD n 0 + 4294967296 * lv (ys.drop (n + 1)) + 1) ≤ BB n * (ys.getD n 0 + 4294967296 * lv (ys.drop (n + 1))) := Int.mul_le_mul_of_nonneg_left (by omega) (by omega)
  rw [Int.mul_add, Int.mul_one] at this
  exact this
 omega
theorem drop_same {xs ys : List Int} (hl : xs.length = ys.length) (n : Nat) (hn : n < xs.length) (he : xs.drop (n + 1) = ys.drop (n + 1)) (h : xs.getD n 0 = ys.getD n 0) : xs.drop n = ys.drop n := by
 rw [List.drop_eq_getElem_cons hn, List.drop_eq_getElem_cons (by omega : n < ys.length), he]
 rw [List.getD_eq_getElem?_getD, List.getD_eq_getElem?_getD, List.getElem?_eq_getElem hn, List.getElem?_eq_getElem (by omega : n < ys.length)] at h
 simp at h
 rw [h]
theorem compare_loop {xs ys : List Int} (hx : Lim xs) (hy : Lim ys) (hl : xs.length = ys.length) (hs : xs.length < 9223372036854775807) : ∀ n : Nat, n ≤ xs.length → xs.drop n = ys.drop n →
  Ev (fun k => n_compare.l0 k xs ys ((n : Int) - 1)) (icmp (lv xs) (lv ys)) := by
 intro n
 induction n with
 | zero =>
  intro _ he
  simp only [List.drop_zero] at he
  rw [icmp_eq (by rw [he])]
  refine Ev.step (f := fun _ => some 0) (fun k => ?_) (Ev.now _)
  simp only [n_compare.l0]
  rw [if_neg (by omega)]
 | succ n ih =>
  intro hn he
  have e0 : ((n + 1 : Nat) : Int) - 1 = (n : Int) := by omega
  rw [e0]
  by_cases h : xs.getD n 0 = ys.getD n 0
  ·refine Ev.step (f := fun k => n_compare.l0 k xs ys ((n : Int) - 1)) (fun k => ?_) (ih (by omega) (drop_same hl n (by omega) he h))
   simp only [n_compare.l0]
   rw [if_pos (by omega), if_pos (by omega), if_pos (by omega), if_pos (by omega), rd_nat, rd_nat, if_pos h, w64 (by omega) (by omega)]
  ·by_cases h2 : xs.getD n 0 < ys.getD n 0
   ·rw [icmp_lt (lv_top_lt hx hy hl n (by omega) he h2)]
    refine Ev.step (f := fun _ => some (-1)) (fun k => ?_) (Ev.now _)
    simp only [n_compare.l0]
    rw [if_pos (by omega), if_pos (by omega), if_pos (by omega), if_pos (by omega), rd_nat, rd_nat, if_neg h, if_pos h2]
   ·rw [icmp_gt (lv_top_lt hy hx hl.symm n (by omega) he.symm (by omega))]
    refine Ev.step (f := fun _ => some 1) (fun k => ?_) (Ev.now _)
    simp only [n_compare.l0]
    rw [if_pos (by omega), if_pos (by omega), if_pos (by omega), if_pos (by omega), rd_nat, rd_nat, if_neg h, if_neg h2]
theorem lv_len_lt {xs ys : List Int} (hx : Lim xs) (hy : Lim ys) (ty : Trim ys) (h : xs.length < ys.length) : lv xs < lv ys := by
 by_cases h1 : lv ys ≤ lv xs
 ·have := trim_len_le hy hx ty h1
  omega
 ·omega
theorem compare_ev {xs ys : List Int} (hx : Lim xs) (hy : Lim ys) (tx : Trim xs) (ty : Trim ys) (h1 : xs.length < 4611686018427387904) (h2 : ys.length < 4611686018427387904) :
  Ev (fun k => n_compare.f k xs ys) (icmp (lv xs) (lv ys)) := by
 by_cases hl : xs.length = ys.length
 ·refine Ev.congr (fun k => ?_) (compare_loop hx hy hl (by omega) xs.length (Nat.le_refl _) (by rw [List.drop_length, hl, List.drop_length]))
  unfold n_compare.f
  rw [if_pos (by omega), w64 (by omega) (by omega)]
 ·refine ⟨0, fun k _ => ?_⟩
  show n_compare.f k xs ys = _
  unfold n_compare.f n_sign.f
  rw [if_neg (by omega), w64 (by omega) (by omega)]
  by_cases h : xs.length < ys.length
  ·rw [if_pos (by omega), icmp_lt (lv_len_lt hx hy ty h)]; rfl
  ·rw [if_neg (by omega), if_pos (by omega), icmp_gt (lv_len_lt hy hx tx (by omega))]; rfl
theorem compareBytes_val : ∀ xs ys : List UInt8, xs.length = ys.length → Lib.compareBytes xs ys = icmp (lb xs.reverse) (lb ys.reverse) := by
 intro xs
 induction xs with
 | nil => intro ys h; cases ys with
  | nil => rfl
  | cons _ _ => simp at h
 | cons x xs ih => intro ys h; cases ys with
  | nil => simp at h
  | cons y ys =>
   have hl : xs.length = ys.length := by simpa using h
   have hx := lb_lt xs.reverse
   have hy := lb_lt ys.reverse
   rw [List.length_reverse] at hx hy
   rw [← hl] at hy
   simp only [List.reverse_cons, lb_append, List.length_reverse, lb, Nat.mul_zero, Nat.add_zero, ← hl]
   unfold Lib.compareBytes
   have key : ∀ a b p q : Nat, p < 256 ^ xs.length → a < b → p + 256 ^ xs.length * a < q + 256 ^ xs.length * b := by
    intro a b p q hp hab
    have : 256 ^ xs.length * (a + 1) ≤ 256 ^ xs.length * b := Nat.mul_le_mul_left _ hab
    rw [Nat.mul_add] at this
    omega
   by_cases h1 : x < y
   ·rw [if_pos h1, icmp_lt]
    have := key x.toNat y.toNat (lb xs.reverse) (lb ys.reverse) hx (UInt8.lt_iff_toNat_lt.1 h1)
    omega
   ·rw [if_neg h1]
    by_cases h2 : y < x
    ·rw [if_pos h2, icmp_gt]
     have := key y.toNat x.toNat (lb ys.reverse) (lb xs.reverse) hy (UInt8.lt_iff_toNat_lt.1 h2)
     omega
    ·rw [if_neg h2, ih ys hl]
     have e : x.toNat = y.toNat := by
      rw [UInt8.lt_iff_toNat_lt] at h1 h2
      omega
     rw [e]
     unfold icmp
     by_cases a : (lb xs.reverse : Int) < lb ys.reverse
     ·rw [if_pos a, if_pos (by omega)]
     ·rw [if_neg a, if_neg (c := ((lb xs.reverse + 256 ^ xs.length * y.toNat : Nat) : Int) < _) (by omega)]
      by_cases b : (lb ys.reverse : Int) < lb xs.reverse
      ·rw [if_pos b, if_pos (by omega)]
      ·rw [if_neg b, if_neg (by omega)]
theorem enc_size_lt {m n : Nat} (h : (enc m).size < (enc n).size) : m < n := by
 by_cases h1 : n ≤ m
 ·have := enc_size_mono h1; omega
 ·omega
theorem Compare_ev (a b : ByteArray) (ha : a.size < 4611686018427387904) (hb : b.size < 4611686018427387904) : Ev (fun k => n_Compare.f k a b) (icmp (nat a) (nat b)) := by
 have h1 := normalize_ev a
 have h2 := normalize_ev b
 have s1 := enc_nat_size_le a
 have s2 := enc_nat_size_le b
 unfold n_Compare.f
 refine Ev.bind h1 (Ev.bind h2 ?_)
 by_cases hl : (enc (nat a)).size = (enc (nat b)).size
 ·refine ⟨0, fun k _ => ?_⟩
  show (if _ then _ else _) = _
  rw [if_pos (by omega)]
  unfold st_Compare.f ba_CompareString.f
  simp only [Option.bind_some]
  rw [compareBytes_val _ _ (by rw [← size_eq, ← size_eq]; exact hl)]
  rw [show lb (enc (nat a)).data.toList.reverse = nat (enc (nat a)) from rfl, show lb (enc (nat b)).data.toList.reverse = nat (enc (nat b)) from rfl, nat_enc, nat_enc]
 ·refine ⟨0, fun k _ => ?_⟩
  show (if _ then _ else _) = _
  unfold n_sign.f
  rw [if_neg (by omega), w64 (by omega) (by omega)]
  by_cases h : (enc (nat a)).size < (enc (nat b)).size
  ·rw [if_pos (by omega), icmp_lt (by have := enc_size_lt h; omega)]; rfl
  ·rw [if_neg (by omega), if_pos (by omega), icmp_gt (by have := enc_size_lt (show (enc (nat b)).size < (enc (nat a)).size by omega); omega)]; rfl
theorem add32 {a b c : Int} (ha : 0 ≤ a) (ha' : a < 4294967296) (hb : 0 ≤ b) (hb' : b < 4294967296) (hc : 0 ≤ c) (hc' : c ≤ 1) :
  bits_Add32.f a b c = some ((a + b + c) % 4294967296, (a + b + c) / 4294967296) := by
 unfold bits_Add32.f
 rw [wu64 ha (by omega), wu64 hb (by omega), wu64 hc (by omega), wu64 (x := a + b) (by omega) (by omega), wu64 (by omega) (by omega)]
 congr 2
 omega
theorem bits_u32 (x y : Nat) (hx : x < 4294967296) (hy : y < 4294967296) : bits .and .u32 x y = ((x &&& y : Nat) : Int) ∧ bits .or .u32 x y = ((x ||| y : Nat) : Int) :=
 bits_nat .u32 32 (by decide) wraps_u32 x y hx hy
theorem bits_xor32 (x y : Nat) (hx : x < 4294967296) (hy : y < 4294967296) : bits .xor .u32 x y = ((x ^^^ y : Nat) : Int) := by
 simp only [bits, BitVec.ofInt_natCast, BitVec.toNat_xor, BitVec.toNat_ofNat]
 rw [show IntKind.u32.bits = 32 from rfl, Nat.mod_eq_of_lt (show x < 2 ^ 32 from hx), Nat.mod_eq_of_lt (show y < 2 ^ 32 from hy)]
 have : x ^^^ y < 2 ^ 32 := Nat.xor_lt_two_pow hx hy
 exact wraps_u32 _ (by omega) (by omega)
theorem top_bit {x : Nat} (hx : x < 4294967296) : x / 2147483648 = (x.testBit 31).toNat := by
 rw [Nat.testBit_eq_decide_div_mod_eq]
 by_cases h : x / 2 ^ 31 % 2 = 1
 ·simp [h]; omega
 ·simp [h]; omega
theorem top_is {x : Nat} (hx : x < 4294967296) : x.testBit 31 = decide (2147483648 ≤ x) := by
 rw [Nat.testBit_eq_decide_div_mod_eq]
 congr 1
 apply propext
 omega
theorem sub32 {a b c : Int} (ha : 0 ≤ a) (ha' : a < 4294967296) (hb : 0 ≤ b) (hb' : b < 4294967296) (hc : 0 ≤ c) (hc' : c ≤ 1) :
  bits_Sub32.f a b c = some ((a - b - c) % 4294967296, if a - b - c < 0 then 1 else 0) := by
 obtain ⟨x, rfl⟩ := Int.eq_ofNat_of_zero_le ha
 obtain ⟨y, rfl⟩ := Int.eq_ofNat_of_zero_le hb
 unfold bits_Sub32.f
 have hd : ((((x : Int) - y) % 4294967296) - c) % 4294967296 = ((x : Int) - y - c) % 4294967296 := by omega
 rw [hd]
 obtain ⟨d, hdd⟩ := Int.eq_ofNat_of_zero_le (show 0 ≤ ((x : Int) - y - c) % 4294967296 by omega)
 have hd' : d < 4294967296 := by omega
 have hx' : x < 4294967296 := by omega
 have hy' : y < 4294967296 := by omega
 rw [hdd]
 have e1 : bits .xor .u32 4294967295 (x : Int) = ((4294967295 ^^^ x : Nat) : Int) := bits_xor32 4294967295 x (by decide) hx'
 have l1 : 4294967295 ^^^ x < 4294967296 := Nat.xor_lt_two_pow (n := 32) (by decide) hx'
 have e2 := bits_xor32 x y hx' hy'
 have l2 : x ^^^ y < 4294967296 := Nat.xor_lt_two_pow (n := 32) hx' hy'
 have e3 : bits .xor .u32 4294967295 ((x ^^^ y : Nat) : Int) = ((4294967295 ^^^ (x ^^^ y) : Nat) : Int) := bits_xor32 4294967295 _ (by decide) l2
 have l3 : 4294967295 ^^^ (x ^^^ y) < 4294967296 := Nat.xor_lt_two_pow (n := 32) (by decide) l2
 have e4 := (bits_u32 _ _ l1 hy').1
 have e5 := (bits_u32 _ _ l3 hd').1
 have l4 : (4294967295 ^^^ x) &&& y < 4294967296 := Nat.lt_of_le_of_lt Nat.and_le_right hy'
 have l5 : (4294967295 ^^^ (x ^^^ y)) &&& d < 4294967296 := Nat.lt_of_le_of_lt Nat.and_le_right hd'
 have e6 := (bits_u32 _ _ l4 l5).2
 have l6 : ((4294967295 ^^^ x) &&& y) ||| ((4294967295 ^^^ (x ^^^ y)) &&& d) < 4294967296 := Nat.or_lt_two_pow (n := 32) l4 l5
 rw [e1, e2, e3, e4, e5, e6]
 congr 2
 have e7 : (((((4294967295 ^^^ x) &&& y) ||| ((4294967295 ^^^ (x ^^^ y)) &&& d) : Nat) : Int)) / 2147483648 = (((((4294967295 ^^^ x) &&& y) ||| ((4294967295 ^^^ (x ^^^ y)) &&& d)) / 2147483648 : Nat) : Int) := rfl
 rw [e7, top_bit l6]
 simp only [Nat.testBit_or, Nat.testBit_and, Nat.testBit_xor, top_is hx', top_is hy', top_is hd', top_is (show 4294967295 < 4294967296 by decide)]
 by_cases p : 2147483648 ≤ x <;> by_cases q : 2147483648 ≤ y <;> by_cases r : 2147483648 ≤ d <;> simp [p, q, r] <;> omega
end C
namespace C
open Go.RowKit Go.PrWords Go.PrLast Go.PrMore
theorem lv_top {xs : List Int} (h : Lim xs) (i : Nat) (hi : i < xs.length) (hv : lv xs < BB i) : xs.getD i 0 = 0 := by
 rw [lv_limb h i hi, Int.ediv_eq_zero_of_lt (lv_nonneg h) hv]; rfl
theorem lv_take_more (xs : List Int) (i : Nat) : lv (xs.take (i + 1)) = lv (xs.take i) + xs.getD i 0 * BB i := by
 by_cases h : i < xs.length
 ·exact lv_take_succ xs i h
 ·rw [List.take_of_length_le (by omega), List.take_of_length_le (by omega), List.getD_eq_getElem?_getD, List.getElem?_eq_none (by omega)]; simp
theorem lv_put {out : List Int} (h : Lim out) (i : Nat) (hi : i < out.length) (hv : lv out < BB i) {v : Int} (h0 : 0 ≤ v) (h1 : v < 4294967296) :
  Lim (out.set i v) ∧ lv (out.set i v) = lv out + v * BB i ∧ lv (out.set i v) < BB (i + 1) := by
 have e := lv_set out i v hi
 rw [lv_top h i hi hv, Int.sub_zero] at e
 refine ⟨h.set i h0 h1, e, ?_⟩
 rw [e, BB_succ]
 have : (v + 1) * BB i ≤ 4294967296 * BB i := Int.mul_le_mul_of_nonneg_right (by omega) (by have := BB_pos i; omega)
 rw [Int.add_mul, Int.one_mul] at this
 omega
theorem add_loop {x y : List Int} (hx : Lim x) (hy : Lim y) (hl : y.length ≤ x.length) (hs : x.length ≤ 1099511627000) (d : Nat) : ∀ (i : Nat) (out : List Int) (c : Int), i ≤ x.length → x.length - i = d → Lim out → out.length = x.length + 1 → lv out < BB i → 0 ≤ c → c ≤ 1 → lv out + c * BB i = lv (x.take i) + lv (y.take i) →
  Ev (fun k => n_Add.l0 k x y out c (x.length : Int) (i : Int)) (enc (lv x + lv y).toNat) := by
 induction d with
 | zero =>
  intro i out c hi hd ho hol hlt hc hc' hv
  have e : i = x.length := by omega
  subst e
  have hp := lv_put ho x.length (by omega) hlt hc (by omega)
  rw [List.take_length, List.take_of_length_le hl] at hv
  have ht := text_ev _ hp.1 (by rw [List.length_set]; omega)
  rw [hp.2.1, hv] at ht
  refine Ev.step (f := fun k => (n_limbs_text.f k (out.set x.length c)).bind fun t => some t) (fun k => ?_) (Ev.bind ht (Ev.now _))
  simp only [n_Add.l0]
  rw [if_neg (by omega), if_pos (by omega), if_pos (by omega), Int.toNat_natCast]
 | succ d ih =>
  intro i out c hi hd ho hol hlt hc hc' hv
  have bx := hx.at_ (i : Int)
  have by_ := hy.at_ (i : Int)
  rw [rd_nat] at bx by_
  have hsum := add32 bx.1 bx.2 by_.1 by_.2 hc hc'
  have hp := lv_put ho i (by omega) hlt (v := (x.getD i 0 + y.getD i 0 + c) % 4294967296) (by omega) (by omega)
  have hrec := ih (i + 1) _ ((x.getD i 0 + y.getD i 0 + c) / 4294967296) (by omega) (by omega) hp.1 (by rw [List.length_set]; exact hol) hp.2.2 (by omega) (by omega) (by
   rw [hp.2.1, lv_take_more, lv_take_more, BB_succ]
   generalize x.getD i 0 = p at *
   generalize y.getD i 0 = q at *
   have e1 : (p + q + c) % 4294967296 * BB i + (p + q + c) / 4294967296 * (4294967296 * BB i) = (p + q + c) * BB i := by
    rw [← Int.mul_assoc, ← Int.add_mul]
    congr 1
    omega
   rw [Int.add_mul, Int.add_mul] at e1
   omega)
  have e4 : wrap64 ((i : Int) + 1) = ((i + 1 : Nat) : Int) := w64 (by omega) (by omega)
  refine Ev.step (f := fun k => n_Add.l0 k x y (out.set i ((x.getD i 0 + y.getD i 0 + c) % 4294967296)) ((x.getD i 0 + y.getD i 0 + c) / 4294967296) (x.length : Int) ((i + 1 : Nat) : Int)) (fun k => ?_) hrec
  simp only [n_Add.l0]
  rw [e4, rd_nat, rd_nat]
  clear e4
  by_cases hy2 : i < y.length
  ·rw [if_pos (by omega), if_pos (by omega), if_pos (by omega), if_pos (by omega), hsum]
   simp only [Option.bind_some]
   rw [if_pos (by omega), Int.toNat_natCast]
  ·have e0 : y.getD i 0 = 0 := by rw [List.getD_eq_getElem?_getD, List.getElem?_eq_none (by omega)]; rfl
   rw [e0] at hsum ⊢
   rw [if_pos (by omega), if_neg (by omega), if_pos (by omega), if_pos (by omega), hsum]
   simp only [Option.bind_some]
   rw [if_pos (by omega), Int.toNat_natCast]
theorem add_j {x y : List Int} (hx : Lim x) (hy : Lim y) (hl : y.length ≤ x.length) (hs : x.length ≤ 1099511627000) : Ev (fun k => n_Add.j0 k x y) (enc (lv x + lv y).toNat) := by
 have hrec := add_loop hx hy hl hs x.length 0 (List.replicate (x.length + 1) 0) 0 (by omega) (by omega) (Lim.zeros _) (by simp) (by rw [lv_zeros]; exact BB_pos 0) (by omega) (by omega) (by rw [lv_zeros]; simp [lv])
 have e : wrap64 ((x.length : Int) + 1) = ((x.length + 1 : Nat) : Int) := w64 (by omega) (by omega)
 refine Ev.step (f := fun k => n_Add.l0 k x y (List.replicate (x.length + 1) 0) 0 (x.length : Int) 0) (fun k => ?_) hrec
 simp only [n_Add.j0]
 rw [e]
 clear e
 rw [if_pos (by omega), if_pos (by omega), Int.toNat_natCast]
theorem lim_size (s : ByteArray) (h : s.size ≤ 1099511627000) : (lim (nat s)).length ≤ 1099511627000 := by
 refine Nat.le_trans (lim_len (m := s.size) ?_) h
 have h1 := nat_lt s
 unfold BB
 have h2 : (256 : Nat) ^ s.size ≤ 4294967296 ^ s.size := Nat.pow_le_pow_left (by decide) _
 have h3 : nat s < 4294967296 ^ s.size := by omega
 have h4 := Int.ofNat_lt.2 h3
 rw [Int.natCast_pow] at h4
 exact h4
theorem Add_ev (a b : ByteArray) (ha : a.size ≤ 1099511627000) (hb : b.size ≤ 1099511627000) : Ev (fun k => n_Add.f k a b) (enc (nat a + nat b)) := by
 have la := lim_size a ha
 have lb_ := lim_size b hb
 unfold n_Add.f
 refine Ev.bind (parse_ev a (by omega)) (Ev.bind (parse_ev b (by omega)) ?_)
 by_cases h : (lim (nat a)).length < (lim (nat b)).length
 ·have := add_j (Lim_lim (nat b)) (Lim_lim (nat a)) (by omega) lb_
  rw [lv_lim, lv_lim] at this
  rw [show ((nat b : Int) + (nat a : Int)).toNat = nat a + nat b by omega] at this
  exact Ev.congr (fun k => if_pos (by omega)) this
 ·have := add_j (Lim_lim (nat a)) (Lim_lim (nat b)) (by omega) la
  rw [lv_lim, lv_lim] at this
  rw [show ((nat a : Int) + (nat b : Int)).toNat = nat a + nat b by omega] at this
  exact Ev.congr (fun k => if_neg (by omega)) this
theorem sub_loop {x y : List Int} (hx : Lim x) (hy : Lim y) (hle : lv y ≤ lv x) (hl : y.length ≤ x.length) (hs : x.length ≤ 1099511627000) (d : Nat) : ∀ (i : Nat) (out : List Int) (c : Int), i ≤ x.length → x.length - i = d → Lim out → out.length = x.length → lv out < BB i → 0 ≤ c → c ≤ 1 → lv out - c * BB i = lv (x.take i) - lv (y.take i) →
  Ev (fun k => n_subtract.l0 k x y out c (x.length : Int) (i : Int)) (lim (lv x - lv y).toNat) := by
 induction d with
 | zero =>
  intro i out c hi hd ho hol hlt hc hc' hv
  have e : i = x.length := by omega
  subst e
  rw [List.take_length, List.take_of_length_le hl] at hv
  have hc0 : c = 0 := by
   rcases (by omega : c = 0 ∨ c = 1) with h | h
   ·exact h
   ·rw [h, Int.one_mul] at hv; omega
  rw [hc0, Int.zero_mul, Int.sub_zero] at hv
  have ht := trim_all out ho (by omega)
  rw [hv] at ht
  refine Ev.step (f := fun k => (n_limbs_trim.f k out).bind fun t => some t) (fun k => ?_) (Ev.bind ht (Ev.now _))
  simp only [n_subtract.l0]
  rw [if_neg (by omega)]
 | succ d ih =>
  intro i out c hi hd ho hol hlt hc hc' hv
  have bx := hx.at_ (i : Int)
  have by_ := hy.at_ (i : Int)
  rw [rd_nat] at bx by_
  have hsum := sub32 bx.1 bx.2 by_.1 by_.2 hc hc'
  have hp := lv_put ho i (by omega) hlt (v := (x.getD i 0 - y.getD i 0 - c) % 4294967296) (by omega) (by omega)
  have hb : (0 : Int) ≤ (if x.getD i 0 - y.getD i 0 - c < 0 then 1 else 0) ∧ (if x.getD i 0 - y.getD i 0 - c < 0 then 1 else 0) ≤ (1 : Int) := by split <;> omega
  have hrec := ih (i + 1) _ (if x.getD i 0 - y.getD i 0 - c < 0 then 1 else 0) (by omega) (by omega) hp.1 (by rw [List.length_set]; exact hol) hp.2.2 hb.1 hb.2 (by
   rw [hp.2.1, lv_take_more, lv_take_more, BB_succ]
   generalize x.getD i 0 = p at *
   generalize y.getD i 0 = q at *
   have e1 : (p - q - c) % 4294967296 * BB i - (if p - q - c < 0 then 1 else 0) * (4294967296 * BB i) = (p - q - c) * BB i := by
    rw [← Int.mul_assoc, ← Int.sub_mul]
    congr 1
    split <;> omega
   rw [Int.sub_mul, Int.sub_mul] at e1
   omega)
  have e4 : wrap64 ((i : Int) + 1) = ((i + 1 : Nat) : Int) := w64 (by omega) (by omega)
  refine Ev.step (f := fun k => n_subtract.l0 k x y (out.set i ((x.getD i 0 - y.getD i 0 - c) % 4294967296)) (if x.getD i 0 - y.getD i 0 - c < 0 then 1 else 0) (x.length : Int) ((i + 1 : Nat) : Int)) (fun k => ?_) hrec
  simp only [n_subtract.l0]
  rw [e4, rd_nat, rd_nat]
  clear e4
  by_cases hy2 : i < y.length
  ·rw [if_pos (by omega), if_pos (by omega), if_pos (by omega), if_pos (by omega), hsum]
   simp only [Option.bind_some]
   rw [if_pos (by omega), Int.toNat_natCast]
  ·have e0 : y.getD i 0 = 0 := by rw [List.getD_eq_getElem?_getD, List.getElem?_eq_none (by omega)]; rfl
   rw [e0] at hsum ⊢
   rw [if_pos (by omega), if_neg (by omega), if_pos (by omega), if_pos (by omega), hsum]
   simp only [Option.bind_some]
   rw [if_pos (by omega), Int.toNat_natCast]
theorem sub_ev {x y : List Int} (hx : Lim x) (hy : Lim y) (ty : Trim y) (hle : lv y ≤ lv x) (hs : x.length ≤ 1099511627000) : Ev (fun k => n_subtract.f k x y) (lim (lv x - lv y).toNat) := by
 have hl : y.length ≤ x.length := trim_len_le hy hx ty hle
 have hrec := sub_loop hx hy hle hl hs x.length 0 (List.replicate x.length 0) 0 (by omega) (by omega) (Lim.zeros _) (by simp) (by rw [lv_zeros]; exact BB_pos 0) (by omega) (by omega) (by rw [lv_zeros]; simp [lv])
 refine Ev.congr (fun k => ?_) hrec
 unfold n_subtract.f
 rw [if_pos (by omega), if_pos (by omega), Int.toNat_natCast]
 rfl
theorem Subtract_ev (a b : ByteArray) (ha : a.size ≤ 1099511627000) (hb : b.size ≤ 1099511627000) : Ev (fun k => n_Subtract.f k a b) (if nat a < nat b then (⟨#[]⟩, false) else (enc (nat a - nat b), true)) := by
 have la := lim_size a ha
 have lb_ := lim_size b hb
 unfold n_Subtract.f
 refine Ev.bind (parse_ev a (by omega)) (Ev.bind (parse_ev b (by omega)) (Ev.bind (compare_ev (Lim_lim _) (Lim_lim _) (Trim_lim _) (Trim_lim _) (by omega) (by omega)) ?_))
 rw [lv_lim, lv_lim]
 by_cases h : nat a < nat b
 ·rw [if_pos h, icmp_lt (by omega)]
  exact Ev.congr (fun k => if_pos (by omega)) (Ev.now _)
 ·rw [if_neg h]
  have h0 : ¬ icmp (nat a : Int) (nat b : Int) < 0 := by
   unfold icmp; rw [if_neg (by omega)]; split <;> omega
  have h1 := sub_ev (Lim_lim (nat a)) (Lim_lim (nat b)) (Trim_lim _) (by rw [lv_lim, lv_lim]; omega) la
  rw [lv_lim, lv_lim, show ((nat a : Int) - (nat b : Int)).toNat = nat a - nat b by omega] at h1
  have h2 := text_ev (lim (nat a - nat b)) (Lim_lim _) (by
   have : (lim (nat a - nat b)).length ≤ (lim (nat a)).length := trim_len_le (Lim_lim _) (Lim_lim _) (Trim_lim _) (by rw [lv_lim, lv_lim]; omega)
   omega)
  rw [lv_lim, Int.toNat_natCast] at h2
  exact Ev.congr (fun k => if_neg h0) (Ev.bind h1 (Ev.bind h2 (Ev.now _)))
end C
namespace C
open Go.RowKit Go.PrWords Go.PrLast Go.PrMore
theorem mul_bound {u v : Int} (hu : 0 ≤ u ∧ u < 4294967296) (hv : 0 ≤ v ∧ v < 4294967296) : 0 ≤ u * v ∧ u * v ≤ 18446744065119617025 := by
 constructor
 ·exact Int.mul_nonneg hu.1 hv.1
 ·have : u * v ≤ 4294967295 * 4294967295 := Int.mul_le_mul (by omega) (by omega) (by omega) (by omega)
  omega
theorem mac {u v o c : Int} (hu : 0 ≤ u ∧ u < 4294967296) (hv : 0 ≤ v ∧ v < 4294967296) (ho : 0 ≤ o ∧ o < 4294967296) (hc : 0 ≤ c ∧ c < 4294967296) :
  IntKind.u64.wrap ((IntKind.u64.wrap ((IntKind.u64.wrap ((IntKind.u64.wrap u) * (IntKind.u64.wrap v))) + (IntKind.u64.wrap o))) + c) = u * v + o + c := by
 have hm := mul_bound hu hv
 rw [wu64 (x := u) (by omega) (by omega), wu64 (x := v) (by omega) (by omega), wu64 (x := u * v) (by omega) (by omega), wu64 (x := o) (by omega) (by omega), wu64 (x := u * v + o) (by omega) (by omega), wu64 (by omega) (by omega)]
theorem getD_of_drop_zero {out : List Int} (m : Nat) (hm : m < out.length) (hL : Lim out) (hz : lv (out.drop m) = 0) : out.getD m 0 = 0 := by
 rw [lv_drop_cons out m hm] at hz
 have h1 := (hL.at_ (m : Int)).1
 rw [rd_nat] at h1
 have h2 := lv_nonneg (hL.drop (m + 1))
 omega
theorem drop_set_lt (out : List Int) (j m : Nat) (v : Int) (h : j < m) : (out.set j v).drop m = out.drop m := by
 apply List.ext_getElem
 ·simp
 ·intro n h1 h2
  rw [List.getElem_drop, List.getElem_drop, List.getElem_set, if_neg (by omega)]
theorem mul_inner (x y : List Int) (hy : Lim y) (u : Int) (hu : 0 ≤ u ∧ u < 4294967296) (i : Nat) (hi : i < x.length) (R : ByteArray) (T : Int)
  (hs : x.length + y.length ≤ 1099511627000)
  (hk : ∀ out : List Int, Lim out → out.length = x.length + y.length → lv (out.drop (i + 1 + y.length)) = 0 → lv out = T + u * lv y * BB i → Ev (fun k => n_Multiply.l0 k y out x (x.length : Int) ((i + 1 : Nat) : Int)) R) (d : Nat) :
  ∀ (j : Nat) (out : List Int) (c : Int), j ≤ y.length → y.length - j = d → Lim out → out.length = x.length + y.length → lv (out.drop (i + y.length)) = 0 → (0 ≤ c ∧ c < 4294967296) → lv out + c * BB (i + j) = T + u * lv (y.take j) * BB i →
  Ev (fun k => n_Multiply.l1 k y out (i : Int) u c x (x.length : Int) (i : Int) y (y.length : Int) (j : Int)) R := by
 induction d with
 | zero =>
  intro j out c hj hd ho hol hz hc hv
  have e : j = y.length := by omega
  subst e
  rw [List.take_length] at hv
  have h0 := getD_of_drop_zero (i + y.length) (by omega) ho hz
  have hset := lv_set out (i + y.length) c (by omega)
  rw [h0, Int.sub_zero, hv] at hset
  have hz2 : lv ((out.set (i + y.length) c).drop (i + 1 + y.length)) = 0 := by
   rw [drop_set_lt _ _ _ _ (by omega)]
   rw [lv_drop_cons out (i + y.length) (by omega), h0] at hz
   rw [show i + 1 + y.length = i + y.length + 1 by omega]
   omega
  have hrec := hk (out.set (i + y.length) c) (ho.set _ hc.1 hc.2) (by rw [List.length_set]; exact hol) hz2 hset
  have e1 : wrap64 ((i : Int) + (y.length : Int)) = ((i + y.length : Nat) : Int) := by rw [w64 (by omega) (by omega)]; omega
  have e2 : wrap64 ((i : Int) + 1) = ((i + 1 : Nat) : Int) := by clear e1; exact w64 (by omega) (by omega)
  refine Ev.step (f := fun k => n_Multiply.l0 k y (out.set (i + y.length) c) x (x.length : Int) ((i + 1 : Nat) : Int)) (fun k => ?_) hrec
  simp only [n_Multiply.l1]
  rw [e1, e2]
  clear e1 e2
  rw [if_neg (by omega), if_pos (by omega), if_pos (by omega), Int.toNat_natCast, Int.emod_eq_of_lt hc.1 hc.2]
 | succ d ih =>
  intro j out c hj hd ho hol hz hc hv
  have bv := hy.at_ (j : Int)
  have bo := ho.at_ ((i + j : Nat) : Int)
  have hm := mac hu bv bo hc
  rw [rd_nat] at bv bo
  rw [rd_nat, rd_nat] at hm
  have hb := mul_bound hu bv
  have hset := lv_set out (i + j) ((u * y.getD j 0 + out.getD (i + j) 0 + c) % 4294967296) (by omega)
  have hrec := ih (j + 1) (out.set (i + j) ((u * y.getD j 0 + out.getD (i + j) 0 + c) % 4294967296)) ((u * y.getD j 0 + out.getD (i + j) 0 + c) / 4294967296) (by omega) (by omega)
   (ho.set _ (by omega) (by omega)) (by rw [List.length_set]; exact hol) (by rw [drop_set_lt _ _ _ _ (by omega)]; exact hz) (by omega) (by
    rw [hset, lv_take_succ y j (by omega), show i + (j + 1) = (i + j) + 1 by omega, BB_succ]
    generalize y.getD j 0 = v at *
    generalize out.getD (i + j) 0 = o at *
    have e1 : ((u * v + o + c) % 4294967296 - o) * BB (i + j) + (u * v + o + c) / 4294967296 * (4294967296 * BB (i + j)) = (u * v + c) * BB (i + j) := by
     rw [← Int.mul_assoc, ← Int.add_mul]
     congr 1
     omega
    rw [Int.add_mul] at e1
    have e2 : u * (lv (y.take j) + v * BB j) * BB i = u * lv (y.take j) * BB i + u * v * BB (i + j) := by
     rw [BB_add, Int.mul_add, Int.add_mul, ← Int.mul_assoc, ← Int.mul_assoc, Int.mul_assoc (u * v), Int.mul_comm (BB j)]
     rw [← Int.mul_assoc]
    rw [e2]
    omega)
  have e1 : wrap64 ((i : Int) + (j : Int)) = ((i + j : Nat) : Int) := by rw [w64 (by omega) (by omega)]; omega
  have e2 : wrap64 ((j : Int) + 1) = ((j + 1 : Nat) : Int) := by clear e1; exact w64 (by omega) (by omega)
  refine Ev.step (f := fun k => n_Multiply.l1 k y (out.set (i + j) ((u * y.getD j 0 + out.getD (i + j) 0 + c) % 4294967296)) (i : Int) u ((u * y.getD j 0 + out.getD (i + j) 0 + c) / 4294967296) x (x.length : Int) (i : Int) y (y.length : Int) ((j + 1 : Nat) : Int)) (fun k => ?_) hrec
  simp only [n_Multiply.l1]
  rw [e1, e2, rd_nat, rd_nat, hm]
  clear e1 e2 hm
  rw [if_pos (by omega), if_pos (by omega), if_pos (by omega), if_pos (by omega), if_pos (by omega), Int.toNat_natCast]
theorem mul_outer (x y : List Int) (hx : Lim x) (hy : Lim y) (hs : x.length + y.length ≤ 1099511627000) (d : Nat) :
  ∀ (i : Nat) (out : List Int), i ≤ x.length → x.length - i = d → Lim out → out.length = x.length + y.length → lv (out.drop (i + y.length)) = 0 → lv out = lv (x.take i) * lv y →
  Ev (fun k => n_Multiply.l0 k y out x (x.length : Int) (i : Int)) (enc (lv x * lv y).toNat) := by
 induction d with
 | zero =>
  intro i out hi hd ho hol hz hv
  rw [List.take_of_length_le (by omega)] at hv
  have ht := text_ev out ho (by omega)
  rw [hv] at ht
  refine Ev.step (f := fun k => (n_limbs_text.f k out).bind fun t => some t) (fun k => ?_) (Ev.bind ht (Ev.now _))
  simp only [n_Multiply.l0]
  rw [if_neg (by omega)]
 | succ d ih =>
  intro i out hi hd ho hol hz hv
  have bu := hx.at_ (i : Int)
  rw [rd_nat] at bu
  have hrec := mul_inner x y hy (x.getD i 0) bu i (by omega) (enc (lv x * lv y).toNat) (lv out) hs (fun out' h1 h2 h3 h4 => ih (i + 1) out' (by omega) (by omega) h1 h2 h3 (by
   rw [h4, hv, lv_take_succ x i (by omega), Int.add_mul]
   congr 1
   rw [Int.mul_assoc, Int.mul_assoc, Int.mul_comm (lv y)])) y.length 0 out 0 (by omega) (by omega) ho hol hz (by omega) (by simp [lv])
  refine Ev.step (f := fun k => n_Multiply.l1 k y out (i : Int) (x.getD i 0) 0 x (x.length : Int) (i : Int) y (y.length : Int) ((0 : Nat) : Int)) (fun k => ?_) hrec
  simp only [n_Multiply.l0]
  rw [if_pos (by omega), if_pos (by omega), if_pos (by omega), rd_nat]
  rfl
theorem Multiply_ev (a b : ByteArray) (ha : a.size ≤ 549755813000) (hb : b.size ≤ 549755813000) : Ev (fun k => n_Multiply.f k a b) (enc (nat a * nat b)) := by
 have la : (lim (nat a)).length ≤ 549755813000 := Nat.le_trans (lim_len (m := a.size) (by
  have h1 := nat_lt a
  have h2 : (256 : Nat) ^ a.size ≤ 4294967296 ^ a.size := Nat.pow_le_pow_left (by decide) _
  have h4 := Int.ofNat_lt.2 (show nat a < 4294967296 ^ a.size by omega)
  rw [Int.natCast_pow] at h4
  exact h4)) ha
 have lb_ : (lim (nat b)).length ≤ 549755813000 := Nat.le_trans (lim_len (m := b.size) (by
  have h1 := nat_lt b
  have h2 : (256 : Nat) ^ b.size ≤ 4294967296 ^ b.size := Nat.pow_le_pow_left (by decide) _
  have h4 := Int.ofNat_lt.2 (show nat b < 4294967296 ^ b.size by omega)
  rw [Int.natCast_pow] at h4
  exact h4)) hb
 unfold n_Multiply.f
 refine Ev.bind (parse_ev a (by omega)) (Ev.bind (parse_ev b (by omega)) ?_)
 have hrec := mul_outer (lim (nat a)) (lim (nat b)) (Lim_lim _) (Lim_lim _) (by omega) (lim (nat a)).length 0 (List.replicate ((lim (nat a)).length + (lim (nat b)).length) 0) (by omega) (by omega) (Lim.zeros _) (by simp) (by rw [List.drop_replicate, lv_zeros]) (by rw [lv_zeros]; simp [lv])
 rw [lv_lim, lv_lim, show ((nat a : Int) * (nat b : Int)).toNat = nat a * nat b by rw [← Int.natCast_mul, Int.toNat_natCast]] at hrec
 have e : wrap64 (((lim (nat a)).length : Int) + ((lim (nat b)).length : Int)) = (((lim (nat a)).length + (lim (nat b)).length : Nat) : Int) := by rw [w64 (by omega) (by omega)]; omega
 refine Ev.congr (fun k => ?_) hrec
 rw [e]
 clear e
 rw [if_pos (by omega), if_pos (by omega), Int.toNat_natCast]
 rfl
end C
namespace C
open Go.RowKit Go.PrWords Go.PrLast Go.PrMore
theorem tdiv_pos {a b : Int} (ha : 0 ≤ a) (hb : 0 ≤ b) : Int.tdiv a b = a / b := Int.tdiv_eq_ediv_of_nonneg ha
theorem tmod_pos {a b : Int} (ha : 0 ≤ a) (hb : 0 ≤ b) : Int.tmod a b = a % b := Int.tmod_eq_emod_of_nonneg ha
theorem two_limbs {r x : Int} (hr : 0 ≤ r ∧ r < 4294967296) (hx : 0 ≤ x ∧ x < 4294967296) : Go.bits .or .u64 (IntKind.u64.wrap (r * 4294967296)) (IntKind.u64.wrap x) = r * 4294967296 + x := by
 rw [wu64 (x := r * 4294967296) (by omega) (by omega), wu64 (x := x) (by omega) (by omega)]
 exact or64 32 (by omega) (by omega) (by omega) hx.1 (by omega) (by omega)
theorem small_loop {a : List Int} (ha : Lim a) (dv : Int) (hd0 : 0 < dv) (hd1 : dv < 4294967296) (hs : a.length ≤ 1099511627000) : ∀ (n : Nat) (out : List Int) (r : Int), n ≤ a.length → Lim out → out.length = a.length → 0 ≤ r → r < dv → lv (a.drop n) = lv (out.drop n) * dv + r →
  Ev (fun k => n_divideSmall.l0 k a dv out r ((n : Int) - 1)) (lim (lv a / dv).toNat, lv a % dv) := by
 intro n
 induction n with
 | zero =>
  intro out r hn ho hol hr0 hr1 hv
  simp only [List.drop_zero] at hv
  have hq : lv a / dv = lv out := by
   rw [hv, Int.add_comm, Int.add_mul_ediv_right _ _ (by omega), Int.ediv_eq_zero_of_lt hr0 hr1]; omega
  have hm : lv a % dv = r := by
   rw [hv, Int.add_comm, Int.add_mul_emod_self_right, Int.emod_eq_of_lt hr0 hr1]
  have ht := trim_all out ho (by omega)
  rw [hq, hm]
  refine Ev.step (f := fun k => (n_limbs_trim.f k out).bind fun t => some (t, r)) (fun k => ?_) (Ev.bind ht (Ev.now _))
  simp only [n_divideSmall.l0]
  rw [if_neg (by omega), Int.emod_eq_of_lt hr0 (by omega)]
 | succ n ih =>
  intro out r hn ho hol hr0 hr1 hv
  have e0 : ((n + 1 : Nat) : Int) - 1 = (n : Int) := by omega
  rw [e0]
  have bx := ha.at_ (n : Int)
  rw [rd_nat] at bx
  have h2 := two_limbs (r := r) (x := a.getD n 0) ⟨hr0, by omega⟩ bx
  have hdm := Int.mul_ediv_add_emod (r * 4294967296 + a.getD n 0) dv
  have hm0 := Int.emod_nonneg (r * 4294967296 + a.getD n 0) (by omega : dv ≠ 0)
  have hm1 := Int.emod_lt_of_pos (r * 4294967296 + a.getD n 0) hd0
  have hq0 : 0 ≤ (r * 4294967296 + a.getD n 0) / dv := Int.ediv_nonneg (by omega) (by omega)
  have hq1 : (r * 4294967296 + a.getD n 0) / dv < 4294967296 := Int.ediv_lt_of_lt_mul hd0 (by
   have : (r + 1) * 4294967296 ≤ dv * 4294967296 := Int.mul_le_mul_of_nonneg_right (by omega) (by omega)
   omega)
  have hdrop : lv ((out.set n ((r * 4294967296 + a.getD n 0) / dv)).drop n) = (r * 4294967296 + a.getD n 0) / dv + 4294967296 * lv (out.drop (n + 1)) := by
   rw [lv_drop_cons _ n (by rw [List.length_set]; omega), drop_set_lt _ _ _ _ (by omega)]
   rw [List.getD_eq_getElem?_getD, List.getElem?_set_self (by omega)]; rfl
  have hrec := ih (out.set n ((r * 4294967296 + a.getD n 0) / dv)) ((r * 4294967296 + a.getD n 0) % dv) (by omega) (ho.set _ hq0 hq1) (by rw [List.length_set]; exact hol) hm0 hm1 (by
   rw [hdrop, lv_drop_cons a n (by omega), hv, Int.add_mul, Int.mul_assoc]
   rw [Int.mul_comm dv] at hdm
   omega)
  refine Ev.step (f := fun k => n_divideSmall.l0 k a dv (out.set n ((r * 4294967296 + a.getD n 0) / dv)) ((r * 4294967296 + a.getD n 0) % dv) ((n : Int) - 1)) (fun k => ?_) hrec
  simp only [n_divideSmall.l0]
  rw [if_pos (by omega), if_pos (by omega), if_pos (by omega), rd_nat, wu64 (x := dv) (by omega) (by omega), if_neg (by omega), if_pos (by omega), h2]
  rw [tdiv_pos (by omega) (by omega), tmod_pos (by omega) (by omega), wu64 (x := (r * 4294967296 + a.getD n 0) / dv) hq0 (by omega), Int.emod_eq_of_lt hq0 hq1, Int.toNat_natCast]
  congr 1
  exact w64 (by omega) (by omega)
theorem small_ev {a : List Int} (ha : Lim a) (dv : Int) (hd0 : 0 < dv) (hd1 : dv < 4294967296) (hs : a.length ≤ 1099511627000) : Ev (fun k => n_divideSmall.f k a dv) (lim (lv a / dv).toNat, lv a % dv) := by
 have hrec := small_loop ha dv hd0 hd1 hs a.length (List.replicate a.length 0) 0 (Nat.le_refl _) (Lim.zeros _) (by simp) (by omega) hd0 (by simp [lv])
 refine Ev.congr (fun k => ?_) hrec
 unfold n_divideSmall.f
 rw [if_pos (by omega), if_pos (by omega), Int.toNat_natCast, w64 (by omega) (by omega)]
end C
namespace C
open Go.RowKit Go.PrWords Go.PrLast Go.PrMore
theorem lv_one (x : Int) : lv [x] = x := by simp [lv]
theorem divide_ev {a b : List Int} (ha : Lim a) (hb : Lim b) (ta : Trim a) (tb : Trim b) (hb0 : 0 < b.length) (h1 : a.length ≤ 549755813000) (c2 : b.length = 1) :
  Ev (fun k => n_divide.f k a b) (lim (lv a / lv b).toNat, lim (lv a % lv b).toNat) := by
 have a0 := lv_nonneg ha
 have hbp := trim_pos hb tb hb0
 have hb1 := BB_pos (b.length - 1)
 have hcmp := compare_ev ha hb ta tb (by omega) (by omega)
 unfold n_divide.f
 refine Ev.bind hcmp ?_
 by_cases c1 : lv a < lv b
 ·rw [icmp_lt c1]
  simp only [show (-1 : Int) < 0 by decide, if_true]
  rw [Int.ediv_eq_zero_of_lt a0 c1, Int.emod_eq_of_lt a0 c1, lim_of ha ta, show (0 : Int).toNat = 0 from rfl, lim_zero]
  exact Ev.now _
 ·have hc : ¬ icmp (lv a) (lv b) < 0 := by
   rcases Int.lt_or_eq_of_le (Int.not_lt.1 c1) with h | h
   ·rw [icmp_gt h]; decide
   ·rw [icmp_eq h.symm]; decide
  simp only [if_neg hc]
  have hlen := trim_len_le hb ha tb (Int.not_lt.1 c1)
  have hb2 : lv b = rd b 0 := by
   obtain ⟨x, rfl⟩ := List.length_eq_one_iff.1 c2
   simp [lv, rd]
  have bx := hb.at_ 0
  have hb3 : 0 < rd b 0 := by rw [← hb2]; omega
  have hs := small_ev ha (rd b 0) hb3 bx.2 (by omega)
  have hm0 := Int.emod_nonneg (lv a) (show lv b ≠ 0 by omega)
  have hm1 := Int.emod_lt_of_pos (lv a) (show 0 < lv b by omega)
  have ht := trim_all [lv a % rd b 0] (Lim.cons.2 ⟨by rw [← hb2]; omega, Lim.nil⟩) (by simp)
  rw [lv_one] at ht
  simp only [if_pos (show (b.length : Int) = 1 by omega), if_pos (show (0 : Int) < (b.length : Int) by omega)]
  rw [hb2]
  exact Ev.bind hs (Ev.bind ht (Ev.now _))
end C
namespace C
open Go.RowKit Go.PrWords Go.PrLast Go.PrMore
theorem lim_len_mono {m n : Nat} (h : m ≤ n) : (lim m).length ≤ (lim n).length := lim_len (by
 have h1 := lv_lt (Lim_lim n)
 rw [lv_lim] at h1
 have := Int.ofNat_le.2 h
 omega)
theorem lim_one {n : Nat} (hn : n ≠ 0) (h : n < 4294967296) : (lim n).length = 1 := by
 rw [lim_pos hn, Nat.div_eq_of_lt h, lim_zero]; rfl
theorem divideN_ev (m n : Nat) (hn : n ≠ 0) (h1 : (lim m).length ≤ 549755813000) (h2 : n < 4294967296) : Ev (fun k => n_divide.f k (lim m) (lim n)) (lim (m / n), lim (m % n)) := by
 have hp : 0 < (lim n).length := Nat.pos_of_ne_zero fun h => hn (lim_ne.1 h)
 have h := divide_ev (Lim_lim m) (Lim_lim n) (Trim_lim m) (Trim_lim n) hp h1 (lim_one hn h2)
 rw [lv_lim, lv_lim, ← Int.natCast_ediv, ← Int.natCast_emod, Int.toNat_natCast, Int.toNat_natCast] at h
 exact h
theorem gcd_loop : ∀ (n m : Nat), (lim m).length ≤ 549755813000 → n < 4294967296 → Ev (fun k => n_GCD.l0 k (lim m) (lim n)) (enc (Nat.gcd m n)) := by
 intro n
 induction n using Nat.strongRecOn with
 | ind n ih =>
  intro m h1 h2
  by_cases hn : n = 0
  ·subst hn
   have ht := text_ev (lim m) (Lim_lim m) (by omega)
   rw [lv_lim, Int.toNat_natCast] at ht
   rw [Nat.gcd_zero_right, lim_zero]
   refine Ev.step (f := fun k => (n_limbs_text.f k (lim m)).bind fun t => some t) (fun k => ?_) (Ev.bind ht (Ev.now _))
   simp only [n_GCD.l0]
   rw [if_neg (by simp)]
  ·have hp : 0 < (lim n).length := Nat.pos_of_ne_zero fun h => hn (lim_ne.1 h)
   have hr := ih (m % n) (Nat.mod_lt _ (Nat.pos_of_ne_zero hn)) n (by rw [lim_one hn h2]; decide) (by have := Nat.mod_lt m (Nat.pos_of_ne_zero hn); omega)
   rw [Nat.gcd_comm n, ← Nat.gcd_rec n m, Nat.gcd_comm n m] at hr
   refine Ev.step (f := fun k => (n_divide.f k (lim m) (lim n)).bind fun t => n_GCD.l0 k (lim n) t.2) (fun k => ?_) (Ev.bind (divideN_ev m n hn h1 h2) hr)
   simp only [n_GCD.l0]
   rw [if_pos (by omega)]
theorem lim_half (s : ByteArray) (h : s.size ≤ 549755813000) : (lim (nat s)).length ≤ 549755813000 := Nat.le_trans (lim_len (m := s.size) (by
  have h1 := nat_lt s
  have h2 : (256 : Nat) ^ s.size ≤ 4294967296 ^ s.size := Nat.pow_le_pow_left (by decide) _
  have h4 := Int.ofNat_lt.2 (show nat s < 4294967296 ^ s.size by omega)
  rw [Int.natCast_pow] at h4
  exact h4)) h
theorem GCD_ev (a b : ByteArray) (ha : a.size ≤ 549755813000) (hb : b.size ≤ 549755813000) (hs : nat b < 4294967296) : Ev (fun k => n_GCD.f k a b) (enc (Nat.gcd (nat a) (nat b))) := by
 unfold n_GCD.f
 exact Ev.bind (parse_ev a (by omega)) (Ev.bind (parse_ev b (by omega)) (gcd_loop _ _ (lim_half a ha) hs))
theorem Divide_ev (a b : ByteArray) (ha : a.size ≤ 549755813000) (hb : b.size ≤ 549755813000) (hn : nat b ≠ 0) (hs : nat b < 4294967296) : Ev (fun k => n_Divide.f k a b) (enc (nat a / nat b), enc (nat a % nat b), true) := by
 have hp : (lim (nat b)).length ≠ 0 := fun h => hn (lim_ne.1 h)
 have hd := divideN_ev (nat a) (nat b) hn (lim_half a ha) hs
 have l1 := lim_half a ha
 have l2 := lim_half b hb
 have t1 := text_ev (lim (nat a / nat b)) (Lim_lim _) (Nat.le_trans (lim_len_mono (Nat.div_le_self _ _)) (by omega))
 have t2 := text_ev (lim (nat a % nat b)) (Lim_lim _) (Nat.le_trans (lim_len_mono (Nat.le_of_lt (Nat.mod_lt _ (Nat.pos_of_ne_zero hn)))) (by omega))
 rw [lv_lim, Int.toNat_natCast] at t1 t2
 unfold n_Divide.f
 refine Ev.bind (parse_ev b (by omega)) ?_
 simp only [if_neg (show ¬ (((lim (nat b)).length : Int) = 0) by omega)]
 exact Ev.bind (parse_ev a (by omega)) (Ev.bind hd (Ev.bind t1 (Ev.bind t2 (Ev.now _))))
end C
namespace C
open Go.RowKit Go.PrWords Go.PrLast Go.PrMore
theorem tl_nil {s : ByteArray} : s.toList = ([] : List UInt8) ↔ s = ⟨#[]⟩ := by
 rw [Lib.toList_data]
 exact ⟨fun h => ba_ext (by rw [h]), fun h => by rw [h]⟩
theorem tl_one {s : ByteArray} : s.toList = ([1] : List UInt8) ↔ s = ⟨#[1]⟩ := by
 rw [Lib.toList_data]
 exact ⟨fun h => ba_ext (by rw [h]), fun h => by rw [h]⟩
theorem tl_eq {s t : ByteArray} : s.toList = t.toList ↔ s = t := by
 rw [Lib.toList_data, Lib.toList_data]
 exact ⟨ba_ext, fun h => by rw [h]⟩
theorem nat_nil : nat ⟨#[]⟩ = 0 := rfl
theorem nat_one : nat ⟨#[1]⟩ = 1 := rfl
theorem enc_one : enc 1 = ⟨#[1]⟩ := by unfold enc; rw [dig_pos (by decide), show 1 / 256 = 0 from rfl, dig_zero]; rfl
theorem enc_eq_nil {n : Nat} : enc n = ⟨#[]⟩ ↔ n = 0 := ⟨fun h => by rw [← nat_enc n, h, nat_nil], fun h => by rw [h, enc_zero]⟩
theorem enc_eq_one {n : Nat} : enc n = ⟨#[1]⟩ ↔ n = 1 := ⟨fun h => by rw [← nat_enc n, h, nat_one], fun h => by rw [h, enc_one]⟩
def eN (q : Rat) : Bool := decide (q.num < 0)
def eA (q : Rat) : ByteArray := enc q.num.natAbs
def dE (d : Nat) : ByteArray := if d = 1 then ⟨#[]⟩ else enc d
def eD (q : Rat) : ByteArray := dE q.den
def dV (d : ByteArray) : Nat := if d = ⟨#[]⟩ then 1 else nat d
instance : DecidableEq ByteArray := fun a b => if h : a.data = b.data then isTrue (by cases a; cases b; simp at h; rw [h]) else isFalse (fun e => h (by rw [e]))
def ok (n : Bool) (a d : ByteArray) : Bool := decide (enc (nat a) = a ∧ enc (nat d) = d ∧ (if nat a = 0 then n = false ∧ d = ⟨#[]⟩ else d = ⟨#[]⟩ ∨ nat d ≠ 1 ∧ Nat.gcd (nat a) (nat d) = 1))
def sgn (n : Bool) (a : Nat) : Int := if n then -(a : Int) else a
def val (n : Bool) (a d : ByteArray) : Rat := if ok n a d then mkRat (sgn n (nat a)) (dV d) else 0
theorem dV_dE {d : Nat} (h : d ≠ 0) : dV (dE d) = d := by
 unfold dE dV
 by_cases h1 : d = 1
 ·simp [h1]
 ·rw [if_neg h1, if_neg (fun e => h (enc_eq_nil.1 e)), nat_enc]
theorem nat_eA (q : Rat) : nat (eA q) = q.num.natAbs := nat_enc _
theorem sgn_e (q : Rat) : sgn (eN q) q.num.natAbs = q.num := by
 unfold sgn eN
 by_cases h : q.num < 0
 ·rw [if_pos (by simpa using h)]; omega
 ·rw [if_neg (by simpa using h)]; omega
theorem ok_e (q : Rat) : ok (eN q) (eA q) (eD q) = true := by
 unfold ok
 refine decide_eq_true ⟨by rw [nat_eA]; rfl, ?_, ?_⟩
 ·unfold eD dE
  by_cases h : q.den = 1
  ·rw [if_pos h, nat_nil, enc_zero]
  ·rw [if_neg h, nat_enc]
 ·rw [nat_eA]
  have hr := q.reduced
  by_cases h : q.num.natAbs = 0
  ·rw [if_pos h]
   unfold Nat.Coprime at hr
   rw [h, Nat.gcd_zero_left] at hr
   refine ⟨decide_eq_false (by omega), ?_⟩
   unfold eD dE
   rw [if_pos hr]
  ·rw [if_neg h]
   unfold eD dE
   by_cases h1 : q.den = 1
   ·rw [if_pos h1]; exact .inl rfl
   ·rw [if_neg h1, nat_enc]; exact .inr ⟨h1, hr⟩
theorem val_e (q : Rat) : val (eN q) (eA q) (eD q) = q := by
 unfold val
 rw [if_pos (ok_e q), nat_eA, sgn_e]
 show mkRat q.num (dV (dE q.den)) = q
 rw [dV_dE q.den_nz, Rat.mkRat_self]
theorem ok_ex {n : Bool} {a d : ByteArray} (h : ok n a d = true) : ∃ q, eN q = n ∧ eA q = a ∧ eD q = d := by
 obtain ⟨h1, h2, h3⟩ := of_decide_eq_true h
 by_cases ha : nat a = 0
 ·rw [if_pos ha] at h3
  obtain ⟨rfl, rfl⟩ := h3
  refine ⟨0, rfl, ?_, rfl⟩
  rw [← h1, ha]; rfl
 ·rw [if_neg ha] at h3
  have hd : dV d ≠ 0 := by
   unfold dV
   by_cases h4 : d = ⟨#[]⟩
   ·rw [if_pos h4]; decide
   ·rw [if_neg h4]; intro h5; rw [h5, enc_zero] at h2; exact h4 h2.symm
  have hc : Nat.Coprime (sgn n (nat a)).natAbs (dV d) := by
   have e1 : (sgn n (nat a)).natAbs = nat a := by unfold sgn; split <;> omega
   rw [e1]
   unfold dV
   by_cases h4 : d = ⟨#[]⟩
   ·rw [if_pos h4]; exact Nat.gcd_one_right _
   ·rw [if_neg h4]
    rcases h3 with h5 | h5
    ·exact absurd h5 h4
    ·exact h5.2
  refine ⟨⟨sgn n (nat a), dV d, hd, hc⟩, ?_, ?_, ?_⟩
  ·unfold eN sgn
   cases n
   ·exact decide_eq_false (by simp)
   ·exact decide_eq_true (by simp; omega)
  ·unfold eA
   have e1 : (sgn n (nat a)).natAbs = nat a := by unfold sgn; split <;> omega
   rw [e1, h1]
  ·show dE (dV d) = d
   unfold dE dV
   by_cases h4 : d = ⟨#[]⟩
   ·rw [if_pos h4, if_pos rfl, h4]
   ·rw [if_neg h4]
    rcases h3 with h5 | h5
    ·exact absurd h5 h4
    ·rw [if_neg h5.1, h2]
theorem val_ok {n : Bool} {a d : ByteArray} (h : ok n a d = true) : eN (val n a d) = n ∧ eA (val n a d) = a ∧ eD (val n a d) = d := by
 obtain ⟨q, rfl, rfl, rfl⟩ := ok_ex h
 rw [val_e]; exact ⟨rfl, rfl, rfl⟩
theorem val_bad {n : Bool} {a d : ByteArray} (h : ok n a d = false) : val n a d = 0 := by unfold val; rw [h]; rfl
theorem Valid_ev (n : Bool) (a d : ByteArray) (ha : a.size ≤ 549755813000) (hd : d.size ≤ 549755813000) (hs : nat d < 4294967296) : Ev (fun k => q_Valid.f k n a d) (ok n a d) := by
 unfold q_Valid.f
 refine Ev.bind (normalize_ev a) ?_
 simp only [tl_eq]
 by_cases h1 : enc (nat a) = a
 ·simp only [if_pos h1]
  refine Ev.bind (normalize_ev d) ?_
  by_cases h2 : enc (nat d) = d
  ·rw [show ((enc (nat d)).toList != d.toList) = false by rw [h2]; simp]
   by_cases h3 : a = ⟨#[]⟩
   ·have h4 : nat a = 0 := by rw [h3]; rfl
    refine Ev.step (f := fun _ => if n = true then some false else some (d.toList == ([] : List UInt8))) (fun k => ?_) ?_
    ·simp only [q_Valid.j0]
     rw [if_neg (by decide), if_pos (tl_nil.2 h3)]
    ·cases n
     ·rw [if_neg (by decide)]
      have : ok false a d = (d.toList == ([] : List UInt8)) := by
       unfold ok
       by_cases h5 : d = ⟨#[]⟩
       ·rw [decide_eq_true ⟨h1, h2, by rw [if_pos h4]; exact ⟨rfl, h5⟩⟩, tl_nil.2 h5]; rfl
       ·rw [decide_eq_false (fun ⟨_, _, h9⟩ => by rw [if_pos h4] at h9; exact h5 h9.2)]
        exact (beq_eq_false_iff_ne.2 (fun e => h5 (tl_nil.1 e))).symm
      rw [this]; exact Ev.now _
     ·rw [if_pos rfl]
      have : ok true a d = false := by
       unfold ok
       simp [h4]
      rw [this]; exact Ev.now _
   ·have h4 : nat a ≠ 0 := fun e => h3 (by rw [← h1, e, enc_zero])
    by_cases h5 : d = ⟨#[]⟩
    ·refine Ev.step (f := fun _ => some true) (fun k => ?_) ?_
     ·simp only [q_Valid.j0]
      rw [if_neg (by decide), if_neg (fun e => h3 (tl_nil.1 e)), if_pos (tl_nil.2 h5)]
     ·have : ok n a d = true := by
       unfold ok
       exact decide_eq_true ⟨h1, h2, by rw [if_neg h4]; exact .inl h5⟩
      rw [this]; exact Ev.now _
    ·by_cases h6 : d = ⟨#[1]⟩
     ·refine Ev.step (f := fun _ => some false) (fun k => ?_) ?_
      ·simp only [q_Valid.j0]
       rw [if_neg (by decide), if_neg (fun e => h3 (tl_nil.1 e)), if_neg (fun e => h5 (tl_nil.1 e)), if_pos (tl_one.2 h6)]
      ·have : ok n a d = false := by
        unfold ok
        refine decide_eq_false fun ⟨_, _, h7⟩ => ?_
        rw [if_neg h4] at h7
        rcases h7 with h7 | h7
        ·exact h5 h7
        ·exact h7.1 (by rw [h6]; rfl)
       rw [this]; exact Ev.now _
     ·have hg := GCD_ev a d ha hd hs
      refine Ev.step (f := fun k => (n_GCD.f k a d).bind fun t => some (t.toList == ([1] : List UInt8))) (fun k => ?_) ?_
      ·simp only [q_Valid.j0]
       rw [if_neg (by decide), if_neg (fun e => h3 (tl_nil.1 e)), if_neg (fun e => h5 (tl_nil.1 e)), if_neg (fun e => h6 (tl_one.1 e))]
      ·have h7 : nat d ≠ 1 := fun e => h6 (by rw [← h2, e, enc_one])
       have : ok n a d = ((enc (Nat.gcd (nat a) (nat d))).toList == ([1] : List UInt8)) := by
        unfold ok
        by_cases h8 : Nat.gcd (nat a) (nat d) = 1
        ·rw [decide_eq_true ⟨h1, h2, by rw [if_neg h4]; exact .inr ⟨h7, h8⟩⟩, h8, enc_one]; rw [tl_one.2 rfl]; rfl
        ·rw [decide_eq_false (fun ⟨_, _, h9⟩ => by
          rw [if_neg h4] at h9
          rcases h9 with h9 | h9
          ·exact h5 h9
          ·exact h8 h9.2)]
         exact (beq_eq_false_iff_ne.2 (fun e => h8 (enc_eq_one.1 (tl_one.1 e)))).symm
       rw [this]
       exact Ev.bind hg (Ev.now _)
  ·have : ok n a d = false := decide_eq_false fun h => h2 h.2.1
   rw [this, show ((enc (nat d)).toList != d.toList) = true by rw [bne_iff_ne]; exact fun e => h2 (tl_eq.1 e)]
   refine Ev.step (f := fun _ => some false) (fun k => ?_) (Ev.now _)
   simp only [q_Valid.j0]
   rfl
 ·have : ok n a d = false := decide_eq_false fun h => h1 h.1
  simp only [if_neg h1]
  rw [this]
  refine Ev.step (f := fun _ => some false) (fun k => ?_) (Ev.now _)
  simp only [q_Valid.j0]
  rfl
theorem clean_ev (n : Bool) (a d : ByteArray) (ha : a.size ≤ 549755813000) (hd : d.size ≤ 549755813000) (hs : nat d < 4294967296) : Ev (fun k => q_clean.f k n a d) (eN (val n a d), eA (val n a d), eD (val n a d)) := by
 unfold q_clean.f
 refine Ev.bind (Valid_ev n a d ha hd hs) ?_
 cases h : ok n a d
 ·rw [val_bad h]
  have e : eA 0 = (⟨#[]⟩ : ByteArray) := enc_zero
  rw [e]
  exact Ev.now _
 ·simp only [if_true]; rw [(val_ok h).1, (val_ok h).2.1, (val_ok h).2.2]; exact Ev.now _
end C
namespace C
open Go.RowKit Go.PrWords Go.PrLast Go.PrMore
theorem sgn_abs (n : Bool) (a : Nat) : (sgn n a).natAbs = a := by unfold sgn; split <;> omega
theorem sgn_div (n : Bool) (a g : Nat) (h : g ∣ a) : sgn n a / (g : Int) = sgn n (a / g) := by
 unfold sgn
 cases n
 ·simp
 ·simp only [if_true]
  rw [Int.neg_ediv_of_dvd (Int.natCast_dvd_natCast.2 h), Int.natCast_ediv]
theorem e_mk (n : Bool) (a b : Nat) (ha : a ≠ 0) (hb : b ≠ 0) : eN (mkRat (sgn n a) b) = n ∧ eA (mkRat (sgn n a) b) = enc (a / Nat.gcd a b) ∧ eD (mkRat (sgn n a) b) = dE (b / Nat.gcd a b) := by
 have hn : (mkRat (sgn n a) b).num = sgn n (a / Nat.gcd a b) := by
  rw [Rat.num_mkRat, if_neg hb, sgn_abs, Nat.gcd_comm b a, sgn_div _ _ _ (Nat.gcd_dvd_left a b)]
 have hp : 0 < a / Nat.gcd a b := Nat.div_pos (Nat.gcd_le_left b (Nat.pos_of_ne_zero ha)) (Nat.gcd_pos_of_pos_left b (Nat.pos_of_ne_zero ha))
 refine ⟨?_, ?_, ?_⟩
 ·unfold eN
  rw [hn]
  generalize a / Nat.gcd a b = c at hp
  unfold sgn
  cases n
  ·exact decide_eq_false (by simp)
  ·exact decide_eq_true (by simp; omega)
 ·unfold eA; rw [hn, sgn_abs]
 ·unfold eD; rw [Rat.den_mkRat, if_neg hb, sgn_abs, Nat.gcd_comm b a]
theorem reduced_ev (n : Bool) (a b : ByteArray) (ha : a.size ≤ 549755813000) (hb : b.size ≤ 549755813000) (h0 : nat b ≠ 0) (hs : nat b < 4294967296) : Ev (fun k => q_reduced.f k n a b) (eN (mkRat (sgn n (nat a)) (nat b)), eA (mkRat (sgn n (nat a)) (nat b)), eD (mkRat (sgn n (nat a)) (nat b))) := by
 have sa : (enc (nat a)).size ≤ 549755813000 := Nat.le_trans (enc_nat_size_le a) ha
 have sb : (enc (nat b)).size ≤ 549755813000 := Nat.le_trans (enc_nat_size_le b) hb
 unfold q_reduced.f
 refine Ev.bind (normalize_ev a) (Ev.bind (normalize_ev b) ?_)
 by_cases h1 : nat a = 0
 ·rw [h1, show sgn n 0 = 0 by unfold sgn; split <;> rfl, Rat.zero_mkRat]
  simp only [tl_nil, enc_zero, if_true]
  have e : eA 0 = (⟨#[]⟩ : ByteArray) := enc_zero
  rw [e]
  exact Ev.now _
 ·obtain ⟨e1, e2, e3⟩ := e_mk n (nat a) (nat b) h1 h0
  rw [e1, e2, e3]
  simp only [if_neg (show ¬ ((enc (nat a)).toList = ([] : List UInt8)) from fun e => h1 (enc_eq_nil.1 (tl_nil.1 e)))]
  by_cases h2 : nat b = 1
  ·simp only [if_pos (show (enc (nat b)).toList = ([1] : List UInt8) from tl_one.2 (enc_eq_one.2 h2))]
   rw [h2, Nat.gcd_one_right, Nat.div_one, show dE (1 / 1) = ⟨#[]⟩ from rfl]
   exact Ev.now _
  ·simp only [if_neg (show ¬ ((enc (nat b)).toList = ([1] : List UInt8)) from fun e => h2 (enc_eq_one.1 (tl_one.1 e)))]
   have hg := GCD_ev (enc (nat a)) (enc (nat b)) sa sb (by rw [nat_enc]; exact hs)
   rw [nat_enc, nat_enc] at hg
   refine Ev.bind hg ?_
   by_cases h3 : Nat.gcd (nat a) (nat b) = 1
   ·simp only [if_pos (show (enc (Nat.gcd (nat a) (nat b))).toList = ([1] : List UInt8) from tl_one.2 (enc_eq_one.2 h3))]
    rw [h3, Nat.div_one, Nat.div_one, show dE (nat b) = enc (nat b) by unfold dE; rw [if_neg h2]]
    exact Ev.now _
   ·simp only [if_neg (show ¬ ((enc (Nat.gcd (nat a) (nat b))).toList = ([1] : List UInt8)) from fun e => h3 (enc_eq_one.1 (tl_one.1 e)))]
    have hg0 : nat (enc (Nat.gcd (nat a) (nat b))) ≠ 0 := by rw [nat_enc]; exact fun e => h1 (Nat.gcd_eq_zero_iff.1 e).1
    have sg : (enc (Nat.gcd (nat a) (nat b))).size ≤ 549755813000 := Nat.le_trans (enc_size_mono (Nat.gcd_le_left _ (Nat.pos_of_ne_zero h1))) sa
    have hgs : nat (enc (Nat.gcd (nat a) (nat b))) < 4294967296 := by rw [nat_enc]; exact Nat.lt_of_le_of_lt (Nat.gcd_le_right _ (Nat.pos_of_ne_zero h0)) hs
    have d1 := Divide_ev (enc (nat a)) (enc (Nat.gcd (nat a) (nat b))) sa sg hg0 hgs
    have d2 := Divide_ev (enc (nat b)) (enc (Nat.gcd (nat a) (nat b))) sb sg hg0 hgs
    rw [nat_enc, nat_enc] at d1 d2
    refine Ev.bind d1 (Ev.bind d2 ?_)
    by_cases h4 : nat b / Nat.gcd (nat a) (nat b) = 1
    ·simp only [if_pos (show (enc (nat b / Nat.gcd (nat a) (nat b))).toList = ([1] : List UInt8) from tl_one.2 (enc_eq_one.2 h4))]
     rw [h4]; exact Ev.now _
    ·simp only [if_neg (show ¬ ((enc (nat b / Nat.gcd (nat a) (nat b))).toList = ([1] : List UInt8)) from fun e => h4 (enc_eq_one.1 (tl_one.1 e)))]
     rw [show dE (nat b / Nat.gcd (nat a) (nat b)) = enc (nat b / Nat.gcd (nat a) (nat b)) by unfold dE; rw [if_neg h4]]
     exact Ev.now _
theorem eA_nil {q : Rat} : (eA q).toList = ([] : List UInt8) ↔ q = 0 := by
 rw [tl_nil]; unfold eA; rw [enc_eq_nil]
 exact ⟨fun h => Rat.num_eq_zero.1 (by omega), fun h => by rw [h]; rfl⟩
def isgn (q : Rat) : Int := if q < 0 then -1 else if 0 < q then 1 else 0
theorem eN_lt (q : Rat) : eN q = true ↔ q < 0 := by
 unfold eN
 rw [decide_eq_true_iff, Rat.lt_iff]
 simp
theorem signOf_ev (q : Rat) : q_signOf.f (eN q) (eA q) (eD q) = some (isgn q) := by
 unfold q_signOf.f isgn
 by_cases h : q = 0
 ·rw [if_pos (eA_nil.2 h), h]; rfl
 ·rw [if_neg (fun e => h (eA_nil.1 e))]
  by_cases h1 : q < 0
  ·rw [if_pos ((eN_lt q).2 h1), if_pos h1]
  ·rw [if_neg (fun e => h1 ((eN_lt q).1 e)), if_neg h1, if_pos (by grind)]
theorem den_ev (q : Rat) : q_den.f (eN q) (eA q) (eD q) = some (enc q.den) := by
 unfold q_den.f
 unfold eD dE
 by_cases h : q.den = 1
 ·rw [if_pos h, if_pos (tl_nil.2 rfl), h, enc_one]
 ·rw [if_neg h, if_neg (fun e => q.den_nz (enc_eq_nil.1 (tl_nil.1 e)))]
theorem negate_ev (q : Rat) : q_negate.f (eN q) (eA q) (eD q) = some (eN (-q), eA (-q), eD (-q)) := by
 have e2 : eA (-q) = eA q := by unfold eA; rw [Rat.neg_num, Int.natAbs_neg]
 have e3 : eD (-q) = eD q := by unfold eD; rw [Rat.neg_den]
 unfold q_negate.f
 rw [e2, e3]
 by_cases h : eN q = true
 ·rw [if_pos h, show eN (-q) = false from by
   have := (eN_lt q).1 h
   rw [← Bool.not_eq_true, eN_lt]; grind]
 ·rw [if_neg h]
  have h1 : ¬ q < 0 := fun e => h ((eN_lt q).2 e)
  congr 2
  by_cases h2 : q = 0
  ·rw [eA_nil.2 h2, h2]; rfl
  ·rw [(eN_lt (-q)).2 (by grind)]
   exact bne_iff_ne.2 (fun e => h2 (eA_nil.1 e))
end C
namespace C
open Go.RowKit Go.PrWords Go.PrLast Go.PrMore
def Sz (n : Nat) (q : Rat) : Prop := q.num.natAbs < 256 ^ n ∧ q.den < 4294967296
theorem Sz.a {n : Nat} {q : Rat} (h : Sz n q) : (eA q).size ≤ n := enc_size_le h.1
theorem Sz.d {n : Nat} {q : Rat} (h : Sz n q) : (enc q.den).size ≤ 4 := enc_size_le (show q.den < 256 ^ 4 from h.2)
theorem Sz.eD {n : Nat} {q : Rat} (h : Sz n q) : (eD q).size ≤ 4 := by
 unfold C.eD dE
 split
 ·exact Nat.zero_le _
 ·exact h.d
theorem Sz.nD {n : Nat} {q : Rat} (h : Sz n q) : nat (C.eD q) < 4294967296 := by
 unfold C.eD dE
 split
 ·rw [nat_nil]; decide
 ·rw [nat_enc]; exact h.2
theorem clean_e (q : Rat) {n : Nat} (h : Sz n q) (hn : n ≤ 549755813000) : Ev (fun k => q_clean.f k (eN q) (eA q) (eD q)) (eN q, eA q, eD q) := by
 have := clean_ev (eN q) (eA q) (eD q) (Nat.le_trans h.a hn) (Nat.le_trans h.eD (by omega)) h.nD
 rw [val_e] at this
 exact this
theorem mul_size {a b m n : Nat} (ha : a < 256 ^ m) (hb : b < 256 ^ n) : a * b < 256 ^ (m + n) := by
 rw [Nat.pow_add]; exact Nat.mul_lt_mul'' ha hb
theorem add_j0 (p q : Rat) (X Y Z m : Nat) (hX : X < 256 ^ m) (hY : Y < 256 ^ m) (hZ : Z < 4294967296) (hm : m ≤ 549755812000) (h0 : Z ≠ 0) (dp dq : ByteArray) (ap aq : ByteArray) :
  Ev (fun k => q_add.j0 k (enc X) (enc Y) (enc Z) (eN p) ap dp (eN q) aq dq) (eN (mkRat (sgn (eN p) X + sgn (eN q) Y) Z), eA (mkRat (sgn (eN p) X + sgn (eN q) Y) Z), eD (mkRat (sgn (eN p) X + sgn (eN q) Y) Z)) := by
 have sx : (enc X).size ≤ m := enc_size_le hX
 have sy : (enc Y).size ≤ m := enc_size_le hY
 have sz : (enc Z).size ≤ 4 := enc_size_le (show Z < 256 ^ 4 from hZ)
 have nz : nat (enc Z) < 4294967296 := by rw [nat_enc]; exact hZ
 by_cases hs : eN p = eN q
 ·have ha := Add_ev (enc X) (enc Y) (by omega) (by omega)
  rw [nat_enc, nat_enc] at ha
  have sxy : (enc (X + Y)).size ≤ m + 1 := enc_size_le (by rw [Nat.pow_succ]; omega)
  have hr := reduced_ev (eN p) (enc (X + Y)) (enc Z) (by omega) (by omega) (by rw [nat_enc]; exact h0) nz
  rw [nat_enc, nat_enc, show sgn (eN p) (X + Y) = sgn (eN p) X + sgn (eN q) Y by rw [← hs]; unfold sgn; split <;> omega] at hr
  refine Ev.step (f := fun k => (n_Add.f k (enc X) (enc Y)).bind fun t => (q_reduced.f k (eN p) t (enc Z)).bind fun b => some (b.1, b.2.1, b.2.2)) (fun k => ?_) (Ev.bind ha (Ev.bind hr (Ev.now _)))
  simp only [q_add.j0]
  rw [if_pos (beq_iff_eq.2 hs)]
 ·have h1 := Subtract_ev (enc X) (enc Y) (by omega) (by omega)
  rw [nat_enc, nat_enc] at h1
  by_cases hlt : X < Y
  ·rw [if_pos hlt] at h1
   have h2 := Subtract_ev (enc Y) (enc X) (by omega) (by omega)
   rw [nat_enc, nat_enc, if_neg (by omega)] at h2
   have sd : (enc (Y - X)).size ≤ m := enc_size_le (by omega)
   have hr := reduced_ev (eN q) (enc (Y - X)) (enc Z) (by omega) (by omega) (by rw [nat_enc]; exact h0) nz
   rw [nat_enc, nat_enc, show sgn (eN q) (Y - X) = sgn (eN p) X + sgn (eN q) Y by
    unfold sgn
    cases hp : eN p <;> cases hq : eN q
    ·exact absurd (hp.trans hq.symm) hs
    ·simp; omega
    ·simp; omega
    ·exact absurd (hp.trans hq.symm) hs] at hr
   refine Ev.step (f := fun k => (n_Subtract.f k (enc X) (enc Y)).bind fun t => if t.2 = true then (q_reduced.f k (eN p) t.1 (enc Z)).bind fun b => some (b.1, b.2.1, b.2.2) else (n_Subtract.f k (enc Y) (enc X)).bind fun t => (q_reduced.f k (eN q) t.1 (enc Z)).bind fun b => some (b.1, b.2.1, b.2.2)) (fun k => ?_) (Ev.bind h1 ?_)
   ·simp only [q_add.j0]
    rw [if_neg (fun e => hs (beq_iff_eq.1 e))]
   ·simp only [if_neg (show ¬ (false = true) by decide)]
    exact Ev.bind h2 (Ev.bind hr (Ev.now _))
  ·rw [if_neg hlt] at h1
   have sd : (enc (X - Y)).size ≤ m := enc_size_le (by omega)
   have hr := reduced_ev (eN p) (enc (X - Y)) (enc Z) (by omega) (by omega) (by rw [nat_enc]; exact h0) nz
   rw [nat_enc, nat_enc, show sgn (eN p) (X - Y) = sgn (eN p) X + sgn (eN q) Y by
    unfold sgn
    cases hp : eN p <;> cases hq : eN q
    ·exact absurd (hp.trans hq.symm) hs
    ·simp; omega
    ·simp; omega
    ·exact absurd (hp.trans hq.symm) hs] at hr
   refine Ev.step (f := fun k => (n_Subtract.f k (enc X) (enc Y)).bind fun t => if t.2 = true then (q_reduced.f k (eN p) t.1 (enc Z)).bind fun b => some (b.1, b.2.1, b.2.2) else (n_Subtract.f k (enc Y) (enc X)).bind fun t => (q_reduced.f k (eN q) t.1 (enc Z)).bind fun b => some (b.1, b.2.1, b.2.2)) (fun k => ?_) (Ev.bind h1 ?_)
   ·simp only [q_add.j0]
    rw [if_neg (fun e => hs (beq_iff_eq.1 e))]
   ·simp only [if_true]
    exact Ev.bind hr (Ev.now _)
end C
namespace C
open Go.RowKit Go.PrWords Go.PrLast Go.PrMore
theorem sgn_mul (n : Bool) (a b : Nat) : sgn n (a * b) = sgn n a * (b : Int) := by
 unfold sgn
 split
 ·rw [Int.natCast_mul, Int.neg_mul]
 ·rw [Int.natCast_mul]
theorem eA_eq (q : Rat) : eA q = enc q.num.natAbs := rfl
theorem Sz.d4 {n : Nat} {q : Rat} (h : Sz n q) : q.den < 256 ^ 4 := Nat.lt_of_lt_of_eq h.2 (by decide)
theorem dE_inj {a b : Nat} (ha : a ≠ 0) (hb : b ≠ 0) (h : dE a = dE b) : a = b := by rw [← dV_dE ha, h, dV_dE hb]
theorem add_ev (p q : Rat) {m n : Nat} (hp : Sz m p) (hq : Sz n q) (hm : m ≤ 100000) (hn : n ≤ 100000) (hd : p.den * q.den < 4294967296) : Ev (fun k => q_add.f k (eN p) (eA p) (eD p) (eN q) (eA q) (eD q)) (eN (p + q), eA (p + q), eD (p + q)) := by
 have w : ∀ {x r : Nat}, x < 256 ^ r → r ≤ m + n + 4 → x < 256 ^ (m + n + 4) := fun hx hr => Nat.lt_of_lt_of_le hx (Nat.pow_le_pow_right (by decide) hr)
 have dp : Ev (fun _ => q_den.f (eN p) (eA p) (eD p)) (enc p.den) := by rw [den_ev p]; exact Ev.now _
 have dq : Ev (fun _ => q_den.f (eN q) (eA q) (eD q)) (enc q.den) := by rw [den_ev q]; exact Ev.now _
 unfold q_add.f
 by_cases h : p.den = q.den
 ·simp only [if_pos (show (eD p).toList = (eD q).toList by unfold eD; rw [h])]
  refine Ev.bind dp ?_
  have e1 : p + q = mkRat (sgn (eN p) p.num.natAbs + sgn (eN q) q.num.natAbs) p.den := by
   rw [sgn_e, sgn_e, Rat.add_def', ← h, ← Int.add_mul, Rat.mkRat_mul_right p.den_nz]
  rw [e1]
  have hj := add_j0 p q p.num.natAbs q.num.natAbs p.den (m + n + 4) (w hp.1 (by omega)) (w hq.1 (by omega)) hp.2 (by omega) p.den_nz (eD p) (eD q) (eA p) (eA q)
  rw [← eA_eq p, ← eA_eq q] at hj
  exact hj
 ·have hne : ¬ ((eD p).toList = (eD q).toList) := fun e => h (dE_inj p.den_nz q.den_nz (tl_eq.1 e))
  simp only [if_neg hne]
  have m1 := Multiply_ev (eA p) (enc q.den) (Nat.le_trans hp.a (by omega)) (Nat.le_trans hq.d (by omega))
  have m2 := Multiply_ev (eA q) (enc p.den) (Nat.le_trans hq.a (by omega)) (Nat.le_trans hp.d (by omega))
  have m3 := Multiply_ev (enc p.den) (enc q.den) (Nat.le_trans hp.d (by omega)) (Nat.le_trans hq.d (by omega))
  rw [nat_eA, nat_enc] at m1 m2
  rw [nat_enc, nat_enc] at m3
  have e1 : p + q = mkRat (sgn (eN p) (p.num.natAbs * q.den) + sgn (eN q) (q.num.natAbs * p.den)) (p.den * q.den) := by
   rw [sgn_mul, sgn_mul, sgn_e, sgn_e, Rat.add_def']
  rw [e1]
  exact Ev.bind dq (Ev.bind m1 (Ev.bind dp (Ev.bind m2 (Ev.bind dp (Ev.bind dq (Ev.bind m3 (add_j0 p q _ _ _ (m + n + 4) (w (r := m + 4) (mul_size hp.1 hq.d4) (by omega)) (w (r := n + 4) (mul_size hq.1 hp.d4) (by omega)) hd (by omega) (Nat.mul_ne_zero p.den_nz q.den_nz) (eD p) (eD q) (eA p) (eA q))))))))
def T (z : Int) : Rat := mkRat z 60
theorem T_den (z : Int) : (T z).den ≤ 60 := by
 unfold T
 rw [Rat.den_mkRat, if_neg (by decide)]
 exact Nat.div_le_self _ _
theorem T_num (z : Int) : (T z).num.natAbs ≤ z.natAbs := by
 unfold T
 rw [Rat.num_mkRat, if_neg (by decide)]
 exact Int.natAbs_ediv_le_natAbs _ _
theorem T_neg_iff (z : Int) : (T z).num < 0 ↔ z < 0 := by
 unfold T
 rw [Rat.num_mkRat, if_neg (by decide)]
 have hg : (0 : Int) < ((Nat.gcd 60 z.natAbs : Nat) : Int) := by have := Nat.gcd_pos_of_pos_left z.natAbs (show 0 < 60 by decide); omega
 have := Int.ediv_nonneg_iff_of_pos (a := z) hg
 omega
theorem T_cross (z : Int) : (T z).num * 60 = z * ((T z).den : Int) := by
 have h : mkRat (T z).num (T z).den = mkRat z 60 := Rat.mkRat_self _
 exact (Rat.mkRat_eq_iff (T z).den_nz (by decide)).1 h
theorem T_inj {z w : Int} (h : T z = T w) : z = w := by
 have := (Rat.mkRat_eq_iff (d₁ := 60) (d₂ := 60) (by decide) (by decide)).1 h
 omega
theorem T_add (z w : Int) : T z + T w = T (z + w) := by
 unfold T
 rw [Rat.mkRat_eq_div, Rat.mkRat_eq_div, Rat.mkRat_eq_div]
 grind
theorem T_neg (z : Int) : -T z = T (-z) := Rat.neg_mkRat _ _
theorem T_zero : T 0 = 0 := Rat.zero_mkRat _
def Mod (z : Int) : Prop := z.natAbs < 1152921504606846976
theorem Mod.sz {z : Int} (h : Mod z) : Sz 8 (T z) := ⟨Nat.lt_of_le_of_lt (T_num z) (Nat.lt_trans h (by decide)), Nat.lt_of_le_of_lt (T_den z) (by decide)⟩
theorem T_dens (z w : Int) : (T z).den * (T w).den < 4294967296 := Nat.lt_of_le_of_lt (Nat.mul_le_mul (T_den z) (T_den w)) (by decide)
def e3 (z : Int) : Bool × ByteArray × ByteArray := (eN (T z), eA (T z), eD (T z))
theorem add_z {z w : Int} (hz : Mod z) (hw : Mod w) : Ev (fun k => q_add.f k (e3 z).1 (e3 z).2.1 (e3 z).2.2 (e3 w).1 (e3 w).2.1 (e3 w).2.2) (e3 (z + w)) := by
 have := add_ev (T z) (T w) hz.sz hw.sz (by decide) (by decide) (T_dens z w)
 rw [T_add] at this
 exact this
theorem clean_z {z : Int} (hz : Mod z) : Ev (fun k => q_clean.f k (e3 z).1 (e3 z).2.1 (e3 z).2.2) (e3 z) := clean_e (T z) hz.sz (by decide)
theorem Add_z {z w : Int} (hz : Mod z) (hw : Mod w) : Ev (fun k => q_Add.f k (e3 z).1 (e3 z).2.1 (e3 z).2.2 (e3 w).1 (e3 w).2.1 (e3 w).2.2) (e3 (z + w)) := by
 unfold q_Add.f
 exact Ev.bind (clean_z hz) (Ev.bind (clean_z hw) (Ev.bind (add_z hz hw) (Ev.now _)))
theorem Mod.neg {z : Int} (h : Mod z) : Mod (-z) := by unfold Mod at *; omega
theorem Subtract_z {z w : Int} (hz : Mod z) (hw : Mod w) : Ev (fun k => q_Subtract.f k (e3 z).1 (e3 z).2.1 (e3 z).2.2 (e3 w).1 (e3 w).2.1 (e3 w).2.2) (e3 (z - w)) := by
 unfold q_Subtract.f
 refine Ev.bind (clean_z hz) (Ev.bind (clean_z hw) ?_)
 have hn : q_negate.f (e3 w).1 (e3 w).2.1 (e3 w).2.2 = some (e3 (-w)) := by
  have := negate_ev (T w)
  rw [T_neg] at this
  exact this
 simp only [hn, Option.bind_some]
 have := add_z hz hw.neg
 rw [← Int.sub_eq_add_neg] at this
 exact Ev.bind this (Ev.now _)
theorem T_lt0 (z : Int) : T z < 0 ↔ z < 0 := by rw [← eN_lt, ← T_neg_iff]; unfold eN; exact decide_eq_true_iff
theorem T_eq0 (z : Int) : T z = 0 ↔ z = 0 := ⟨fun h => T_inj (h.trans T_zero.symm), fun h => by rw [h, T_zero]⟩
theorem T_sgn (z : Int) : isgn (T z) = if z < 0 then -1 else if 0 < z then 1 else 0 := by
 unfold isgn
 have h1 := T_lt0 z
 have h2 := T_eq0 z
 by_cases c : z < 0
 ·rw [if_pos (h1.2 c), if_pos c]
 ·rw [if_neg (fun e => c (h1.1 e)), if_neg c]
  by_cases c0 : z = 0
  ·rw [h2.2 c0, c0]; rfl
  ·rw [if_pos (show 0 < z by omega), if_pos]
   have a1 : ¬ T z < 0 := fun e => c (h1.1 e)
   have a2 : T z ≠ 0 := fun e => c0 (h2.1 e)
   grind
theorem signOf_z (z : Int) : q_signOf.f (e3 z).1 (e3 z).2.1 (e3 z).2.2 = some (if z < 0 then -1 else if 0 < z then 1 else 0) := by
 have := signOf_ev (T z)
 rw [T_sgn] at this
 exact this
theorem T_icmp {z w : Int} (hz : 0 ≤ z) (hw : 0 ≤ w) : icmp (((T z).num.natAbs * (T w).den : Nat) : Int) (((T w).num.natAbs * (T z).den : Nat) : Int) = icmp z w := by
 have hp : (0 : Int) < ((T z).den : Int) * ((T w).den : Int) := Int.mul_pos (by have := (T z).den_nz; omega) (by have := (T w).den_nz; omega)
 have c1 := T_cross z
 have c2 := T_cross w
 have n1 : ((T z).num.natAbs : Int) = (T z).num := by have := T_neg_iff z; omega
 have n2 : ((T w).num.natAbs : Int) = (T w).num := by have := T_neg_iff w; omega
 rw [Int.natCast_mul, Int.natCast_mul, n1, n2]
 have e1 : (T z).num * ((T w).den : Int) * 60 = z * (((T z).den : Int) * ((T w).den : Int)) := by rw [Int.mul_right_comm, c1, Int.mul_assoc]
 have e2 : (T w).num * ((T z).den : Int) * 60 = w * (((T z).den : Int) * ((T w).den : Int)) := by rw [Int.mul_right_comm, c2, Int.mul_assoc, Int.mul_comm ((T w).den : Int)]
 generalize (T z).num * ((T w).den : Int) = X at e1 ⊢
 generalize (T w).num * ((T z).den : Int) = Y at e2 ⊢
 generalize ((T z).den : Int) * ((T w).den : Int) = D at e1 e2 hp
 rcases Int.lt_trichotomy z w with h | h | h
 ·have := Int.mul_lt_mul_of_pos_right h hp
  rw [icmp_lt h, icmp_lt (by omega)]
 ·subst h
  rw [icmp_eq rfl, icmp_eq (by omega)]
 ·have := Int.mul_lt_mul_of_pos_right h hp
  rw [icmp_gt h, icmp_gt (by omega)]
theorem Compare_z {z w : Int} (hz : Mod z) (hw : Mod w) (z0 : 0 ≤ z) (w0 : 0 ≤ w) : Ev (fun k => q_Compare.f k (e3 z).1 (e3 z).2.1 (e3 z).2.2 (e3 w).1 (e3 w).2.1 (e3 w).2.2) (icmp z w) := by
 unfold q_Compare.f
 refine Ev.bind (clean_z hz) (Ev.bind (clean_z hw) ?_)
 have d1 : Ev (fun _ => q_den.f (e3 z).1 (e3 z).2.1 (e3 z).2.2) (enc (T z).den) := by rw [show q_den.f (e3 z).1 (e3 z).2.1 (e3 z).2.2 = some (enc (T z).den) from den_ev (T z)]; exact Ev.now _
 have d2 : Ev (fun _ => q_den.f (e3 w).1 (e3 w).2.1 (e3 w).2.2) (enc (T w).den) := by rw [show q_den.f (e3 w).1 (e3 w).2.1 (e3 w).2.2 = some (enc (T w).den) from den_ev (T w)]; exact Ev.now _
 have g1 : Ev (fun _ => q_signOf.f (e3 z).1 (e3 z).2.1 (e3 z).2.2) (if z < 0 then -1 else if 0 < z then 1 else 0) := by rw [signOf_z]; exact Ev.now _
 have g2 : Ev (fun _ => q_signOf.f (e3 w).1 (e3 w).2.1 (e3 w).2.2) (if w < 0 then -1 else if 0 < w then 1 else 0) := by rw [signOf_z]; exact Ev.now _
 refine Ev.bind g1 (Ev.bind g2 ?_)
 have hN : ¬ ((e3 z).1 = true) := fun e => by have := (T_lt0 z).1 ((eN_lt (T z)).1 e); omega
 by_cases hs : (if z < 0 then (-1 : Int) else if 0 < z then 1 else 0) = (if w < 0 then (-1 : Int) else if 0 < w then 1 else 0)
 ·simp only [if_pos hs, if_neg hN]
  have m1 : Ev (fun k => n_Multiply.f k (e3 z).2.1 (enc (T w).den)) (enc ((T z).num.natAbs * (T w).den)) := by
   have m1 := Multiply_ev (eA (T z)) (enc (T w).den) (Nat.le_trans hz.sz.a (by decide)) (Nat.le_trans hw.sz.d (by decide))
   rw [nat_eA, nat_enc] at m1
   exact m1
  have m2 : Ev (fun k => n_Multiply.f k (e3 w).2.1 (enc (T z).den)) (enc ((T w).num.natAbs * (T z).den)) := by
   have m2 := Multiply_ev (eA (T w)) (enc (T z).den) (Nat.le_trans hw.sz.a (by decide)) (Nat.le_trans hz.sz.d (by decide))
   rw [nat_eA, nat_enc] at m2
   exact m2
  have s1 : (enc ((T z).num.natAbs * (T w).den)).size ≤ 12 := enc_size_le (mul_size (m := 8) (n := 4) hz.sz.1 hw.sz.d4)
  have s2 : (enc ((T w).num.natAbs * (T z).den)).size ≤ 12 := enc_size_le (mul_size (m := 8) (n := 4) hw.sz.1 hz.sz.d4)
  have hc := Compare_ev (enc ((T z).num.natAbs * (T w).den)) (enc ((T w).num.natAbs * (T z).den)) (by omega) (by omega)
  rw [nat_enc, nat_enc, T_icmp z0 w0] at hc
  exact Ev.bind d2 (Ev.bind m1 (Ev.bind d1 (Ev.bind m2 (Ev.bind hc (Ev.now _)))))
 ·simp only [if_neg hs]
  rcases Int.lt_trichotomy z w with h | h | h
  ·have : z = 0 := by
    by_cases c : 0 < z
    ·exact absurd (by rw [if_neg (by omega), if_pos c, if_neg (by omega), if_pos (by omega)]) hs
    ·omega
   subst this
   rw [icmp_lt h]
   simp only [if_neg (show ¬ ((0 : Int) < 0) by decide), if_neg (show ¬ (w < 0) by omega), if_pos h]
   exact Ev.now _
  ·exact absurd (by rw [h]) hs
  ·have : w = 0 := by
    by_cases c : 0 < w
    ·exact absurd (by rw [if_neg (show ¬ z < 0 by omega), if_pos (show 0 < z by omega), if_neg (show ¬ w < 0 by omega), if_pos c]) hs
    ·omega
   subst this
   rw [icmp_gt h]
   simp only [if_neg (show ¬ ((0 : Int) < 0) by decide), if_neg (show ¬ (z < 0) by omega), if_pos h]
   exact Ev.now _
theorem Min_z {z w : Int} (hz : Mod z) (hw : Mod w) (z0 : 0 ≤ z) (w0 : 0 ≤ w) : Ev (fun k => q_Min.f k (e3 z).1 (e3 z).2.1 (e3 z).2.2 (e3 w).1 (e3 w).2.1 (e3 w).2.2) (e3 (if z ≤ w then z else w)) := by
 unfold q_Min.f
 refine Ev.bind (Compare_z hz hw z0 w0) ?_
 by_cases h : z ≤ w
 ·rw [if_pos h]
  have hc : icmp z w ≤ 0 := by
   rcases Int.lt_or_eq_of_le h with h | h
   ·rw [icmp_lt h]; decide
   ·rw [icmp_eq h]; decide
  simp only [if_pos hc]
  exact Ev.bind (clean_z hz) (Ev.now _)
 ·rw [if_neg h]
  have hc : ¬ icmp z w ≤ 0 := by rw [icmp_gt (by omega)]; decide
  simp only [if_neg hc]
  exact Ev.bind (clean_z hw) (Ev.now _)
end C
namespace C
open Go.RowKit Go.PrWords Go.PrLast Go.PrMore
def sz (z : Int) : S26 := ⟨(e3 z).1, (e3 z).2.1, (e3 z).2.2⟩
theorem e3_zero : e3 0 = (false, ⟨#[]⟩, ⟨#[]⟩) := by
 have h : T 0 = 0 := T_zero
 unfold e3
 rw [h]
 have e : eA 0 = (⟨#[]⟩ : ByteArray) := enc_zero
 rw [e]; rfl
def Nn (zs : List Int) : Prop := ∀ z ∈ zs, 0 ≤ z ∧ z ≤ 1000000000000
theorem Nn.at_ {zs : List Int} (h : Nn zs) (i : Nat) : 0 ≤ zs.getD i 0 ∧ zs.getD i 0 ≤ 1000000000000 := by
 rw [List.getD_eq_getElem?_getD]
 by_cases hi : i < zs.length
 ·rw [List.getElem?_eq_getElem hi]; exact h _ (List.getElem_mem hi)
 ·rw [List.getElem?_eq_none (by omega)]; decide
theorem Nn.set {zs : List Int} (h : Nn zs) (i : Nat) {v : Int} (h0 : 0 ≤ v) (h1 : v ≤ 1000000000000) : Nn (zs.set i v) := fun z hz => by
 rcases List.mem_or_eq_of_mem_set hz with h2 | h2
 ·exact h z h2
 ·rw [h2]; exact ⟨h0, h1⟩
theorem rd_sz (zs : List Int) (i : Int) (h0 : 0 ≤ i) (h1 : i < (zs.length : Int)) : r26_ (zs.map sz) i = sz (zs.getD i.toNat 0) := by
 unfold r26_
 rw [List.getD_eq_getElem?_getD, List.getElem?_map, List.getD_eq_getElem?_getD, List.getElem?_eq_getElem (show i.toNat < zs.length by omega)]; rfl
theorem mod_of {z : Int} (h0 : 0 ≤ z) (h1 : z ≤ 100000000000000000) : Mod z := by unfold Mod; omega
theorem aw64 {x : Int} (h0 : -9223372036854775808 ≤ x) (h1 : x < 9223372036854775808) : wrap64 x = x := by
 unfold wrap64; omega
def In (zs I : List Int) : Prop := ∀ i ∈ I, 0 ≤ i ∧ i < (zs.length : Int)
theorem rd_at (I : List Int) (j : Nat) (h : j < I.length) : rd I (j : Int) = I[j] := by
 unfold rd
 rw [Int.toNat_natCast, List.getD_eq_getElem?_getD, List.getElem?_eq_getElem h]; rfl
def tot (zs : List Int) : List Int → Int
 | [] => 0
 | i :: I => zs.getD i.toNat 0 + tot zs I
theorem tot_bound {zs : List Int} (hz : Nn zs) (I : List Int) : 0 ≤ tot zs I ∧ tot zs I ≤ 1000000000000 * (I.length : Int) := by
 induction I with
 | nil => simp [tot]
 | cons i I ih =>
  have := hz.at_ i.toNat
  simp only [tot, List.length_cons]
  omega
theorem total_loop (zs I : List Int) (hz : Nn zs) (hI : In zs I) (hl : I.length ≤ 1000) : ∀ (r j : Nat) (a : Int), j + r = I.length → 0 ≤ a → a ≤ 1000000000000 * (j : Int) →
  Ev (fun k => so_total.l0 k (zs.map sz) I (I.length : Int) (j : Int) (e3 a).1 (e3 a).2.1 (e3 a).2.2) (e3 (a + tot zs (I.drop j))) := by
 intro r
 induction r with
 | zero =>
  intro j a hj h0 h1
  have : I.drop j = [] := List.drop_eq_nil_of_le (by omega)
  rw [this]
  refine Ev.step (f := fun _ => some (e3 a)) (fun k => ?_) (by rw [show a + tot zs [] = a by simp [tot]]; exact Ev.now _)
  simp only [so_total.l0]
  rw [if_neg (by omega)]
 | succ r ih =>
  intro j a hj h0 h1
  have hjl : j < I.length := by omega
  obtain ⟨i0, i1⟩ := hI _ (List.getElem_mem hjl)
  have hb := hz.at_ (I[j]).toNat
  have hd : I.drop j = I[j] :: I.drop (j + 1) := List.drop_eq_getElem_cons hjl
  have hr := ih (j + 1) (a + zs.getD (I[j]).toNat 0) (by omega) (by omega) (by omega)
  rw [hd]
  have ha := Add_z (mod_of h0 (by omega)) (mod_of hb.1 (by omega))
  refine Ev.step (f := fun k => (q_Add.f k (e3 a).1 (e3 a).2.1 (e3 a).2.2 (e3 (zs.getD (I[j]).toNat 0)).1 (e3 (zs.getD (I[j]).toNat 0)).2.1 (e3 (zs.getD (I[j]).toNat 0)).2.2).bind fun t => so_total.l0 k (zs.map sz) I (I.length : Int) ((j + 1 : Nat) : Int) t.1 t.2.1 t.2.2) (fun k => ?_) (Ev.bind ha (by rw [show a + tot zs (I[j] :: I.drop (j + 1)) = a + zs.getD (I[j]).toNat 0 + tot zs (I.drop (j + 1)) by simp only [tot]; omega]; exact hr))
  simp only [so_total.l0]
  rw [if_pos (by omega), if_pos (by omega), if_pos (by omega), rd_at I j hjl, if_pos i0, if_pos (by rw [List.length_map]; exact i1), rd_sz zs _ i0 i1, aw64 (by omega) (by omega)]
  rfl
theorem total_ev (zs I : List Int) (hz : Nn zs) (hI : In zs I) (hl : I.length ≤ 1000) : Ev (fun k => so_total.f k (zs.map sz) I) (e3 (tot zs I)) := by
 unfold so_total.f
 have h := total_loop zs I hz hI hl I.length 0 0 (by omega) (by omega) (by omega)
 rw [e3_zero, List.drop_zero, Int.zero_add] at h
 exact h
def red : List Int → List Int → Int → List Int
 | zs, [], _ => zs
 | zs, i :: I, a => red (zs.set i.toNat (zs.getD i.toNat 0 - (if zs.getD i.toNat 0 ≤ a then zs.getD i.toNat 0 else a))) I (a - (if zs.getD i.toNat 0 ≤ a then zs.getD i.toNat 0 else a))
theorem red_length (I : List Int) : ∀ (zs : List Int) (a : Int), (red zs I a).length = zs.length := by
 induction I with
 | nil => intro zs a; rfl
 | cons i I ih => intro zs a; simp only [red]; rw [ih, List.length_set]
theorem red_Nn (I : List Int) : ∀ (zs : List Int) (a : Int), Nn zs → 0 ≤ a → Nn (red zs I a) := by
 induction I with
 | nil => intro zs a h _; exact h
 | cons i I ih =>
  intro zs a h h0
  have hb := h.at_ i.toNat
  simp only [red]
  refine ih _ _ (h.set _ ?_ ?_) ?_ <;> split <;> omega
theorem In.set {zs I : List Int} (h : In zs I) (i : Nat) (v : Int) : In (zs.set i v) I := fun x hx => by rw [List.length_set]; exact h x hx
theorem reduce_loop (I : List Int) (hl : I.length ≤ 1000) : ∀ (r j : Nat) (zs : List Int) (a : Int), j + r = I.length → Nn zs → In zs I → 0 ≤ a → a ≤ 1000000000000000 →
  Ev (fun k => so_reduce.l0 k (zs.map sz) I (I.length : Int) (j : Int) (e3 a).1 (e3 a).2.1 (e3 a).2.2) ((red zs (I.drop j) a).map sz) := by
 intro r
 induction r with
 | zero =>
  intro j zs a hj hz hI h0 h1
  have : I.drop j = [] := List.drop_eq_nil_of_le (by omega)
  rw [this]
  refine Ev.step (f := fun _ => some (zs.map sz)) (fun k => ?_) (Ev.now _)
  simp only [so_reduce.l0]
  rw [if_neg (by omega)]
 | succ r ih =>
  intro j zs a hj hz hI h0 h1
  have hjl : j < I.length := by omega
  obtain ⟨i0, i1⟩ := hI _ (List.getElem_mem hjl)
  have hd : I.drop j = I[j] :: I.drop (j + 1) := List.drop_eq_getElem_cons hjl
  rw [hd]
  simp only [red]
  obtain ⟨i, hi⟩ : ∃ i, I[j] = i := ⟨_, rfl⟩
  rw [hi] at i0 i1 ⊢
  have hb := hz.at_ i.toNat
  generalize hz0 : zs.getD i.toNat 0 = z at hb ⊢
  obtain ⟨p, hp⟩ : ∃ p, (if z ≤ a then z else a) = p := ⟨_, rfl⟩
  have hp0 : 0 ≤ p := by rw [← hp]; split <;> omega
  have hp1 : p ≤ z := by rw [← hp]; split <;> omega
  have hp2 : p ≤ a := by rw [← hp]; split <;> omega
  rw [hp]
  have hr := ih (j + 1) (zs.set i.toNat (z - p)) (a - p) (by omega) (hz.set _ (by omega) (by omega)) (hI.set _ _) (by omega) (by omega)
  have hm := Min_z (mod_of hb.1 (by omega)) (mod_of h0 (by omega)) hb.1 h0
  rw [hp] at hm
  have h3 := Subtract_z (z := z) (w := p) (mod_of hb.1 (by omega)) (mod_of hp0 (by omega))
  have h4 := Subtract_z (z := a) (w := p) (mod_of h0 (by omega)) (mod_of hp0 (by omega))
  refine Ev.step (f := fun k => (q_Min.f k (e3 z).1 (e3 z).2.1 (e3 z).2.2 (e3 a).1 (e3 a).2.1 (e3 a).2.2).bind fun m => (q_Subtract.f k (e3 z).1 (e3 z).2.1 (e3 z).2.2 m.1 m.2.1 m.2.2).bind fun s => (q_Subtract.f k (e3 a).1 (e3 a).2.1 (e3 a).2.2 m.1 m.2.1 m.2.2).bind fun t => so_reduce.l0 k ((zs.map sz).set i.toNat ⟨s.1, s.2.1, s.2.2⟩) I (I.length : Int) ((j + 1 : Nat) : Int) t.1 t.2.1 t.2.2) (fun k => ?_) (Ev.bind hm (Ev.bind h3 (Ev.bind h4 ?_)))
  ·simp only [so_reduce.l0]
   rw [if_pos (by omega), if_pos (by omega), if_pos (by omega), rd_at I j hjl, hi, if_pos i0, if_pos (by rw [List.length_map]; exact i1), rd_sz zs _ i0 i1, hz0, aw64 (by omega) (by omega)]
   rfl
  ·rw [List.map_set] at hr
   exact hr
theorem reduce_ev (zs I : List Int) (a : Int) (hz : Nn zs) (hI : In zs I) (hl : I.length ≤ 1000) (h0 : 0 ≤ a) (h1 : a ≤ 1000000000000000) : Ev (fun k => so_reduce.f k (zs.map sz) I (e3 a).1 (e3 a).2.1 (e3 a).2.2) ((red zs I a).map sz) := by
 unfold so_reduce.f
 exact reduce_loop I hl I.length 0 zs a (by omega) hz hI h0 h1
def Am (l : List S28) (zs : List Int) : Prop := l.map (·.f2) = zs.map sz
theorem Am.len {l : List S28} {zs : List Int} (h : Am l zs) : l.length = zs.length := by have := congrArg List.length h; simpa using this
theorem Am.at_ {l : List S28} {zs : List Int} (h : Am l zs) (i : Nat) (hi : i < l.length) : (r28_ l (i : Int)).f2 = sz (zs.getD i 0) := by
 have h1 := congrArg (fun x => x[i]?) h
 simp only [List.getElem?_map] at h1
 unfold r28_
 rw [Int.toNat_natCast, List.getD_eq_getElem?_getD, List.getD_eq_getElem?_getD]
 have hl := h.len
 rw [List.getElem?_eq_getElem hi, List.getElem?_eq_getElem (show i < zs.length by omega)] at h1 ⊢
 simpa using h1
theorem amounts_loop (l : List S28) (zs : List Int) (h : Am l zs) (hz : Nn zs) (hl : l.length ≤ 1000) : ∀ (r j : Nat), j + r = l.length →
  Ev (fun k => so_amounts.l0 k ((zs.take j).map sz ++ List.replicate r z26) l (l.length : Int) (j : Int)) (zs.map sz) := by
 have hlen := h.len
 intro r
 induction r with
 | zero =>
  intro j hj
  refine Ev.step (f := fun _ => some (zs.map sz)) (fun k => ?_) (Ev.now _)
  simp only [so_amounts.l0]
  rw [if_neg (by omega), List.take_of_length_le (by omega), List.replicate_zero, List.append_nil]
 | succ r ih =>
  intro j hj
  have hj1 : j < zs.length := by omega
  have hb := hz.at_ j
  have hr := ih (j + 1) (by omega)
  have ha := Add_z (z := zs.getD j 0) (w := 0) (mod_of hb.1 (by omega)) (mod_of (by omega) (by omega))
  rw [e3_zero, Int.add_zero] at ha
  have hset : ((zs.take j).map sz ++ List.replicate (r + 1) z26).set j (sz (zs.getD j 0)) = (zs.take (j + 1)).map sz ++ List.replicate r z26 := by
   have hx : ((zs.take j).map sz).length = j := by rw [List.length_map, List.length_take]; omega
   rw [List.set_append_right _ _ (by omega), hx, Nat.sub_self, List.replicate_succ, List.set_cons_zero, List.take_add_one, List.getElem?_eq_getElem hj1, List.map_append, List.append_assoc, List.getD_eq_getElem?_getD, List.getElem?_eq_getElem hj1]
   rfl
  refine Ev.step (f := fun k => (q_Add.f k (e3 (zs.getD j 0)).1 (e3 (zs.getD j 0)).2.1 (e3 (zs.getD j 0)).2.2 false ⟨#[]⟩ ⟨#[]⟩).bind fun t => so_amounts.l0 k (((zs.take j).map sz ++ List.replicate (r + 1) z26).set j ⟨t.1, t.2.1, t.2.2⟩) l (l.length : Int) ((j + 1 : Nat) : Int)) (fun k => ?_) (Ev.bind ha (by rw [← hset] at hr; exact hr))
  have hll : ((zs.take j).map sz ++ List.replicate (r + 1) z26).length = l.length := by rw [List.length_append, List.length_map, List.length_take, List.length_replicate]; omega
  simp only [so_amounts.l0]
  rw [if_pos (by omega), if_pos (by omega), if_pos (by omega), h.at_ j (by omega), hll, aw64 (by omega) (by omega)]
  simp only [if_pos (show (j : Int) < (l.length : Int) by omega), Int.toNat_natCast]
  rfl
theorem amounts_ev (l : List S28) (zs : List Int) (h : Am l zs) (hz : Nn zs) (hl : l.length ≤ 1000) : Ev (fun k => so_amounts.f k l) (zs.map sz) := by
 unfold so_amounts.f
 simp only [if_pos (show (0 : Int) ≤ (l.length : Int) by omega), Int.toNat_natCast, if_pos (show l.length ≤ 7036874417766 by omega)]
 have := amounts_loop l zs h hz hl l.length 0 (by omega)
 simpa using this
end C
namespace C
open Go.RowKit Go.PrWords Go.PrLast Go.PrMore
def day (a : Int) : Bool := decide (0 ≤ a ∧ a ≤ 1048576)
theorem isDay_eq (a : Int) : so_isDay.f a = some (day a) := by
 unfold so_isDay.f day
 by_cases h : a ≥ 0
 ·rw [if_pos h]
  congr 1
  by_cases h1 : a ≤ 1048576
  ·rw [decide_eq_true h1, decide_eq_true ⟨h, h1⟩]
  ·rw [decide_eq_false h1, decide_eq_false (fun e => h1 e.2)]
 ·rw [if_neg h, decide_eq_false (fun e => h e.1)]
def elig (o : S28) (c s : Int) : Bool := day c && (day s && (!o.f5 && (decide (o.f3 ≤ c) && (decide (o.f4 = o.f3) || decide (o.f4 < wrap64 (c - s))))))
theorem Eligible_eq (o : S28) (c s : Int) : so_Eligible.f o.f0 o.f1 o.f2.f0 o.f2.f1 o.f2.f2 o.f3 o.f4 o.f5 c s = some (elig o c s) := by
 unfold so_Eligible.f elig
 rw [isDay_eq, isDay_eq]
 cases h1 : day c
 ·rfl
 ·cases h2 : day s
  ·rfl
  ·cases h3 : o.f5
   ·by_cases h4 : o.f3 ≤ c
    ·by_cases h5 : o.f4 = o.f3
     ·simp [h4, h5]
     ·simp [h4, h5]
    ·simp [h4]
   ·rfl
end C
namespace C
open Go.RowKit Go.PrWords Go.PrLast Go.PrMore
theorem mem_insR {α : Type} (lt : α → α → Bool) (x y : α) (l : List α) : y ∈ insR lt x l ↔ y = x ∨ y ∈ l := by
 induction l with
 | nil => simp [insR]
 | cons z zs ih =>
  simp only [insR]
  split
  ·rw [List.mem_cons, ih, List.mem_cons]
   exact ⟨fun h => by rcases h with h | h | h <;> simp [h], fun h => by rcases h with h | h | h <;> simp [h]⟩
  ·rw [List.mem_cons]
theorem mem_isortR {α : Type} (lt : α → α → Bool) (y : α) (l : List α) : ∀ acc : List α, y ∈ isortR lt acc l ↔ y ∈ acc ∨ y ∈ l := by
 induction l with
 | nil => intro acc; simp [isortR]
 | cons x xs ih =>
  intro acc
  rw [isortR, ih, mem_insR, List.mem_cons]
  exact ⟨fun h => by rcases h with (h | h) | h <;> simp [h], fun h => by rcases h with h | h | h <;> simp [h]⟩
theorem mem_isort {α : Type} (lt : α → α → Bool) (y : α) (l : List α) : y ∈ isort lt l ↔ y ∈ l := by
 unfold isort
 rw [List.mem_reverse, mem_isortR]; simp
def sel (l : List S28) (c s a b : Int) (i : Nat) : Bool := decide ((r28_ l (i : Int)).f0 = a) && (decide ((r28_ l (i : Int)).f1 = b) && elig (r28_ l (i : Int)) c s)
def idxs (l : List S28) (c s a b : Int) (n : Nat) : List Int := ((List.range n).filter (sel l c s a b)).map (fun i : Nat => (i : Int))
def elis (l : List S28) (c s a b : Int) : List Int := isort (fun x y => decide (eligible_cmp l x y < 0)) (idxs l c s a b l.length)
theorem idxs_succ (l : List S28) (c s a b : Int) (n : Nat) : idxs l c s a b (n + 1) = if sel l c s a b n = true then idxs l c s a b n ++ [(n : Int)] else idxs l c s a b n := by
 unfold idxs
 rw [List.range_succ, List.filter_append, List.map_append]
 by_cases h : sel l c s a b n = true
 ·rw [if_pos h, List.filter_cons_of_pos h]; rfl
 ·rw [if_neg h, List.filter_cons_of_neg h]; simp
theorem idxs_length (l : List S28) (c s a b : Int) (n : Nat) : (idxs l c s a b n).length ≤ n := by
 unfold idxs
 rw [List.length_map]
 exact Nat.le_trans (List.length_filter_le _ _) (by rw [List.length_range]; exact Nat.le_refl _)
theorem mem_idxs {l : List S28} {c s a b : Int} {n : Nat} {x : Int} : x ∈ idxs l c s a b n ↔ ∃ i : Nat, x = (i : Int) ∧ i < n ∧ sel l c s a b i = true := by
 unfold idxs
 rw [List.mem_map]
 exact ⟨fun ⟨i, h, e⟩ => ⟨i, e.symm, by simpa using (List.mem_filter.1 h).1, (List.mem_filter.1 h).2⟩, fun ⟨i, e, h, k⟩ => ⟨i, List.mem_filter.2 ⟨by simpa using h, k⟩, e.symm⟩⟩
theorem eligible_loop (l : List S28) (c s a b : Int) (hl : l.length ≤ 1000) : ∀ (r j : Nat), j + r = l.length → Ev (fun k => so_eligible.l0 k c s a b (idxs l c s a b j) l (l.length : Int) (j : Int)) (idxs l c s a b l.length) := by
 intro r
 induction r with
 | zero =>
  intro j hj
  refine Ev.step (f := fun _ => some (idxs l c s a b j)) (fun k => ?_) (by rw [show j = l.length by omega]; exact Ev.now _)
  simp only [so_eligible.l0]
  rw [if_neg (by omega)]
 | succ r ih =>
  intro j hj
  have hr := ih (j + 1) (by omega)
  have hw : wrap64 ((j : Int) + 1) = ((j + 1 : Nat) : Int) := by rw [aw64 (by omega) (by omega)]; rfl
  have hlen := idxs_length l c s a b j
  rw [idxs_succ] at hr
  have g0 : (j : Int) < (l.length : Int) := by omega
  have g1 : (0 : Int) ≤ (j : Int) := by omega
  by_cases h0 : (r28_ l (j : Int)).f0 = a
  ·by_cases h1 : (r28_ l (j : Int)).f1 = b
   ·cases he : elig (r28_ l (j : Int)) c s
    ·have hs : ¬ sel l c s a b j = true := by unfold sel; rw [he]; simp
     rw [if_neg hs] at hr
     refine Ev.step (f := fun k => so_eligible.l0 k c s a b (idxs l c s a b j) l (l.length : Int) ((j + 1 : Nat) : Int)) (fun k => ?_) hr
     simp only [so_eligible.l0]
     rw [if_pos g0, if_pos g1, if_pos g0, if_pos h0, if_pos h1, Eligible_eq, he, hw]
     refine (Option.bind_some _ _).trans ?_
     rw [if_neg (by decide)]
    ·have hs : sel l c s a b j = true := by unfold sel; rw [he, decide_eq_true h0, decide_eq_true h1]; rfl
     rw [if_pos hs] at hr
     refine Ev.step (f := fun k => so_eligible.l0 k c s a b (idxs l c s a b j ++ [(j : Int)]) l (l.length : Int) ((j + 1 : Nat) : Int)) (fun k => ?_) hr
     simp only [so_eligible.l0]
     rw [if_pos g0, if_pos g1, if_pos g0, if_pos h0, if_pos h1, Eligible_eq, he, hw]
     refine (Option.bind_some _ _).trans ?_
     rw [if_pos rfl, if_pos (by omega)]
   ·have hs : ¬ sel l c s a b j = true := by unfold sel; rw [decide_eq_false h1]; simp
    rw [if_neg hs] at hr
    refine Ev.step (f := fun k => so_eligible.l0 k c s a b (idxs l c s a b j) l (l.length : Int) ((j + 1 : Nat) : Int)) (fun k => ?_) hr
    simp only [so_eligible.l0]
    rw [if_pos g0, if_pos g1, if_pos g0, if_pos h0, if_neg h1, hw]
  ·have hs : ¬ sel l c s a b j = true := by unfold sel; rw [decide_eq_false h0]; simp
   rw [if_neg hs] at hr
   refine Ev.step (f := fun k => so_eligible.l0 k c s a b (idxs l c s a b j) l (l.length : Int) ((j + 1 : Nat) : Int)) (fun k => ?_) hr
   simp only [so_eligible.l0]
   rw [if_pos g0, if_pos g1, if_pos g0, if_neg h0, hw]
theorem eligible_ev (l : List S28) (c s a b : Int) (hl : l.length ≤ 19) : Ev (fun k => so_eligible.f k l c s a b) (elis l c s a b) := by
 unfold so_eligible.f
 have h := eligible_loop l c s a b (by omega) l.length 0 (by omega)
 have h0 : idxs l c s a b 0 = [] := rfl
 rw [h0] at h
 refine Ev.bind h ?_
 have hc : (idxs l c s a b l.length).length ≤ 19 ∧ (idxs l c s a b l.length).all (fun x => decide (0 ≤ x ∧ x < (l.length : Int))) = true := by
  refine ⟨Nat.le_trans (idxs_length l c s a b _) hl, List.all_eq_true.2 fun x hx => decide_eq_true ?_⟩
  obtain ⟨i, rfl, hi, _⟩ := mem_idxs.1 hx
  omega
 simp only [if_pos hc]
 exact Ev.now _
theorem elis_In {l : List S28} {zs : List Int} (hl : l.length = zs.length) (c s a b : Int) : In zs (elis l c s a b) := fun x hx => by
 obtain ⟨i, rfl, hi, _⟩ := mem_idxs.1 ((mem_isort _ _ _).1 hx)
 omega
theorem elis_length (l : List S28) (c s a b : Int) : (elis l c s a b).length ≤ l.length := by
 unfold elis
 rw [isort_length]; exact idxs_length _ _ _ _ _ _
theorem Sign_z {z : Int} (h : Mod z) : Ev (fun k => q_Sign.f k (sz z).f0 (sz z).f1 (sz z).f2) (if z < 0 then -1 else if 0 < z then 1 else 0) := by
 unfold q_Sign.f
 have g : Ev (fun _ => q_signOf.f (e3 z).1 (e3 z).2.1 (e3 z).2.2) (if z < 0 then -1 else if 0 < z then 1 else 0) := by rw [signOf_z]; exact Ev.now _
 exact Ev.bind (clean_z h) (Ev.bind g (Ev.now _))
def Okd (P : Int) (o : S28) : Prop := (0 ≤ o.f0 ∧ o.f0 < P) ∧ (0 ≤ o.f1 ∧ o.f1 < P) ∧ o.f0 ≠ o.f1 ∧ 0 ≤ o.f3 ∧ o.f3 ≤ o.f4 ∧ o.f4 ≤ 1048576
theorem pair_ok {P : Int} {o : S28} (h : Okd P o) : so_pair.f P o.f0 o.f1 = some true := by
 obtain ⟨⟨a0, a1⟩, ⟨b0, b1⟩, hne, _⟩ := h
 unfold so_pair.f
 rw [if_pos (by omega), if_pos a1, if_pos (by omega), if_pos b1]
 exact congrArg some (bne_iff_ne.2 hne)
theorem Check_loop (P : Int) (l : List S28) (zs : List Int) (ha : Am l zs) (hz : Nn zs) (hl : l.length ≤ 64) (ho : ∀ o ∈ l, Okd P o) : ∀ (r j : Nat), j + r = l.length → Ev (fun k => so_Check.l0 k P l (l.length : Int) (j : Int)) 0 := by
 intro r
 induction r with
 | zero =>
  intro j hj
  refine Ev.step (f := fun _ => some 0) (fun k => ?_) (Ev.now _)
  simp only [so_Check.l0]
  rw [if_neg (by omega)]
 | succ r ih =>
  intro j hj
  have hjl : j < l.length := by omega
  have hr := ih (j + 1) (by omega)
  obtain ⟨o, hox⟩ : ∃ o, r28_ l (j : Int) = o := ⟨_, rfl⟩
  have hom : o ∈ l := by
   rw [← hox]
   unfold r28_
   rw [Int.toNat_natCast, List.getD_eq_getElem?_getD, List.getElem?_eq_getElem hjl]
   exact List.getElem_mem hjl
  have hk := ho o hom
  have hf := ha.at_ j hjl
  rw [hox] at hf
  have hb := hz.at_ j
  obtain ⟨_, _, _, d0, d1, d2⟩ := hk
  have hj2 : Ev (fun k => so_Check.j2 k P l (l.length : Int) (j : Int) false o.f0 o.f1 o.f2.f0 o.f2.f1 o.f2.f2 o.f3 o.f4 o.f5) 0 := by
   refine Ev.step (f := fun k => so_Check.l0 k P l (l.length : Int) ((j + 1 : Nat) : Int)) (fun k => ?_) hr
   simp only [so_Check.j2]
   rw [if_neg (by decide), if_neg (by omega), aw64 (by omega) (by omega)]; rfl
  have hsg := Sign_z (mod_of hb.1 (by omega))
  rw [← hf, if_neg (by omega)] at hsg
  refine Ev.step (f := fun k => (q_Sign.f k o.f2.f0 o.f2.f1 o.f2.f2).bind fun t => if t < 0 then none else so_Check.j2 k P l (l.length : Int) (j : Int) false o.f0 o.f1 o.f2.f0 o.f2.f1 o.f2.f2 o.f3 o.f4 o.f5) (fun k => ?_) (Ev.bind hsg ?_)
  ·have e3 : so_isDay.f o.f3 = some true := by rw [isDay_eq]; exact congrArg some (decide_eq_true ⟨d0, by omega⟩)
   have e4 : so_isDay.f o.f4 = some true := by rw [isDay_eq]; exact congrArg some (decide_eq_true ⟨by omega, d2⟩)
   simp only [so_Check.l0]
   rw [if_pos (by omega), if_pos (by omega), if_pos (by omega), hox, pair_ok (ho o hom)]
   show (q_Sign.f k o.f2.f0 o.f2.f1 o.f2.f2).bind _ = _
   congr 1
   funext t
   rw [e3]
   show (if t < 0 then none else (so_isDay.f o.f4).bind _) = _
   rw [e4]
   rfl
  ·simp only [if_neg (show ¬ ((if 0 < zs.getD j 0 then (1 : Int) else 0) < 0) by split <;> decide)]
   exact hj2
theorem check_ev (P : Int) (hP : 0 ≤ P ∧ P ≤ 32) (l : List S28) (zs : List Int) (c s : Int) (hc : day c = true) (hs : day s = true) (ha : Am l zs) (hz : Nn zs) (hl : l.length ≤ 64) (ho : ∀ o ∈ l, Okd P o) : Ev (fun k => so_check.f k P l c s) 0 := by
 have h : Ev (fun k => so_Check.f k P l) 0 := by
  unfold so_Check.f
  simp only [if_neg (show ¬ P < 0 by omega), decide_eq_false (show ¬ P > 32 by omega)]
  refine Ev.step (f := fun k => so_Check.l0 k P l (l.length : Int) ((0 : Nat) : Int)) (fun k => ?_) (Check_loop P l zs ha hz hl ho l.length 0 (by omega))
  simp only [so_Check.j0]
  rw [if_neg (by decide), if_neg (by omega)]; rfl
 unfold so_check.f
 refine Ev.bind h ?_
 rw [isDay_eq, isDay_eq, hc, hs]
 exact Ev.now _
def one (l : List S28) (c s : Int) (zs : List Int) (a b : Int) : List Int :=
 red (red zs (elis l c s a b) (if tot zs (elis l c s a b) ≤ tot zs (elis l c s b a) then tot zs (elis l c s a b) else tot zs (elis l c s b a))) (elis l c s b a) (if tot zs (elis l c s a b) ≤ tot zs (elis l c s b a) then tot zs (elis l c s a b) else tot zs (elis l c s b a))
def inn (l : List S28) (c s : Int) (a : Nat) : Nat → Nat → List Int → List Int
 | 0, _, zs => zs
 | r + 1, b, zs => inn l c s a r (b + 1) (one l c s zs (a : Int) (b : Int))
def out (l : List S28) (c s : Int) : Nat → Nat → List Int → List Int
 | 0, _, zs => zs
 | r + 1, a, zs => out l c s r (a + 1) (inn l c s a a 0 zs)
def appl (l : List S28) (c s : Int) (P : Nat) (zs : List Int) : List Int := out l c s P 0 zs
theorem one_length (l : List S28) (c s : Int) (zs : List Int) (a b : Int) : (one l c s zs a b).length = zs.length := by unfold one; rw [red_length, red_length]
theorem one_Nn (l : List S28) (c s : Int) (zs : List Int) (a b : Int) (hz : Nn zs) : Nn (one l c s zs a b) := by
 unfold one
 have h1 := tot_bound hz (elis l c s a b)
 have h2 := tot_bound hz (elis l c s b a)
 refine red_Nn _ _ _ (red_Nn _ _ _ hz ?_) ?_ <;> split <;> omega
theorem inner_ev (l : List S28) (c s : Int) (hl : l.length ≤ 19) (P a : Nat) (hP : P ≤ 32) (ha : a < P) {R : List S26 × Int} : ∀ (r b : Nat) (zs : List Int), b + r = a → zs.length = l.length → Nn zs →
  (Ev (fun k => so_Apply.l0 k l c s ((inn l c s a r b zs).map sz) (P : Int) ((a + 1 : Nat) : Int)) R) → Ev (fun k => so_Apply.l1 k l c s (zs.map sz) (a : Int) (P : Int) (a : Int) (a : Int) (b : Int)) R := by
 intro r
 induction r with
 | zero =>
  intro b zs hb hzl hz h
  refine Ev.step (f := fun k => so_Apply.l0 k l c s (zs.map sz) (P : Int) ((a + 1 : Nat) : Int)) (fun k => ?_) h
  simp only [so_Apply.l1]
  rw [if_neg (by omega), aw64 (by omega) (by omega)]; rfl
 | succ r ih =>
  intro b zs hb hzl hz h
  have hx := eligible_ev l c s (a : Int) (b : Int) hl
  have hy := eligible_ev l c s (b : Int) (a : Int) hl
  have ix := elis_In hzl.symm c s (a : Int) (b : Int)
  have iy := elis_In hzl.symm c s (b : Int) (a : Int)
  have lx := elis_length l c s (a : Int) (b : Int)
  have ly := elis_length l c s (b : Int) (a : Int)
  have tx := total_ev zs _ hz ix (by omega)
  have ty := total_ev zs _ hz iy (by omega)
  have bx := tot_bound hz (elis l c s (a : Int) (b : Int))
  have bY := tot_bound hz (elis l c s (b : Int) (a : Int))
  have hm := Min_z (mod_of bx.1 (by omega)) (mod_of bY.1 (by omega)) bx.1 bY.1
  obtain ⟨m, hmd⟩ : ∃ m, (if tot zs (elis l c s a b) ≤ tot zs (elis l c s b a) then tot zs (elis l c s a b) else tot zs (elis l c s b a)) = m := ⟨_, rfl⟩
  have m0 : 0 ≤ m ∧ m ≤ 1000000000000000 := by rw [← hmd]; split <;> omega
  have ho : one l c s zs (a : Int) (b : Int) = red (red zs (elis l c s a b) m) (elis l c s b a) m := by unfold one; rw [hmd]
  rw [hmd] at hm
  have r1 := reduce_ev zs _ m hz ix (by omega) m0.1 m0.2
  have z1 := red_Nn (elis l c s a b) zs m hz m0.1
  have i2 : In (red zs (elis l c s a b) m) (elis l c s b a) := fun x hx => by rw [red_length]; exact iy x hx
  have r2 := reduce_ev (red zs (elis l c s a b) m) _ m z1 i2 (by omega) m0.1 m0.2
  have hr := ih (b + 1) (one l c s zs (a : Int) (b : Int)) (by omega) (by rw [one_length]; exact hzl) (one_Nn _ _ _ _ _ _ hz) h
  rw [ho] at hr
  refine Ev.step (f := fun k => (so_eligible.f k l c s (a : Int) (b : Int)).bind fun x => (so_eligible.f k l c s (b : Int) (a : Int)).bind fun y => (so_total.f k (zs.map sz) x).bind fun u => (so_total.f k (zs.map sz) y).bind fun v => (q_Min.f k u.1 u.2.1 u.2.2 v.1 v.2.1 v.2.2).bind fun m => (so_reduce.f k (zs.map sz) x m.1 m.2.1 m.2.2).bind fun p => (so_reduce.f k p y m.1 m.2.1 m.2.2).bind fun q => so_Apply.l1 k l c s q (a : Int) (P : Int) (a : Int) (a : Int) ((b + 1 : Nat) : Int)) (fun k => ?_) (Ev.bind hx (Ev.bind hy (Ev.bind tx (Ev.bind ty (Ev.bind hm (Ev.bind r1 (Ev.bind r2 hr)))))))
  simp only [so_Apply.l1]
  rw [if_pos (by omega), aw64 (by omega) (by omega)]
  rfl
theorem inn_length (l : List S28) (c s : Int) (a : Nat) : ∀ (r b : Nat) (zs : List Int), (inn l c s a r b zs).length = zs.length := by
 intro r
 induction r with
 | zero => intro b zs; rfl
 | succ r ih => intro b zs; simp only [inn]; rw [ih, one_length]
theorem inn_Nn (l : List S28) (c s : Int) (a : Nat) : ∀ (r b : Nat) (zs : List Int), Nn zs → Nn (inn l c s a r b zs) := by
 intro r
 induction r with
 | zero => intro b zs h; exact h
 | succ r ih => intro b zs h; simp only [inn]; exact ih _ _ (one_Nn _ _ _ _ _ _ h)
theorem outer_ev (l : List S28) (c s : Int) (hl : l.length ≤ 19) (P : Nat) (hP : P ≤ 32) : ∀ (r a : Nat) (zs : List Int), a + r = P → zs.length = l.length → Nn zs →
  Ev (fun k => so_Apply.l0 k l c s (zs.map sz) (P : Int) (a : Int)) ((out l c s r a zs).map sz, 0) := by
 intro r
 induction r with
 | zero =>
  intro a zs ha hzl hz
  refine Ev.step (f := fun _ => some (zs.map sz, 0)) (fun k => ?_) (Ev.now _)
  simp only [so_Apply.l0]
  rw [if_neg (by omega)]
 | succ r ih =>
  intro a zs ha hzl hz
  have hr := ih (a + 1) (inn l c s a a 0 zs) (by omega) (by rw [inn_length]; exact hzl) (inn_Nn _ _ _ _ _ _ _ hz)
  have hi := inner_ev l c s hl P a hP (by omega) a 0 zs (by omega) hzl hz hr
  refine Ev.step (f := fun k => so_Apply.l1 k l c s (zs.map sz) (a : Int) (P : Int) (a : Int) (a : Int) ((0 : Nat) : Int)) (fun k => ?_) hi
  simp only [so_Apply.l0]
  rw [if_pos (by omega)]; rfl
theorem Apply_ev (P : Nat) (hP : P ≤ 32) (l : List S28) (zs : List Int) (c s : Int) (hc : day c = true) (hs : day s = true) (ha : Am l zs) (hz : Nn zs) (hl : l.length ≤ 19) (ho : ∀ o ∈ l, Okd (P : Int) o) : Ev (fun k => so_Apply.f k (P : Int) l c s) ((appl l c s P zs).map sz, 0) := by
 unfold so_Apply.f
 refine Ev.bind (check_ev (P : Int) (by omega) l zs c s hc hs ha hz (by omega) ho) ?_
 simp only [if_true]
 exact Ev.bind (amounts_ev l zs ha hz (by omega)) (outer_ev l c s hl P hP P 0 zs (by omega) ha.len.symm hz)
end C
namespace C
open Go.RowKit Go.PrWords Go.PrLast Go.PrMore
theorem getD_set_ne (zs : List Int) (i j : Nat) (v : Int) (h : i ≠ j) : (zs.set i v).getD j 0 = zs.getD j 0 := by
 rw [List.getD_eq_getElem?_getD, List.getD_eq_getElem?_getD, List.getElem?_set_ne h]
theorem getD_set_eq (zs : List Int) (i : Nat) (v : Int) (h : i < zs.length) : (zs.set i v).getD i 0 = v := by
 rw [List.getD_eq_getElem?_getD, List.getElem?_set_self h]; rfl
theorem red_other (I : List Int) (j : Nat) : ∀ (zs : List Int) (a : Int), (j : Int) ∉ I → (∀ i ∈ I, 0 ≤ i) → (red zs I a).getD j 0 = zs.getD j 0 := by
 induction I with
 | nil => intro zs a _ _; rfl
 | cons i I ih =>
  intro zs a h hp
  simp only [red]
  rw [ih _ _ (fun e => h (List.mem_cons_of_mem _ e)) (fun x hx => hp x (List.mem_cons_of_mem _ hx)), getD_set_ne]
  intro e
  have := hp i (List.mem_cons_self ..)
  exact h (by rw [show (j : Int) = i by omega]; exact List.mem_cons_self ..)
theorem tot_congr (I : List Int) (zs ws : List Int) (h : ∀ i ∈ I, zs.getD i.toNat 0 = ws.getD i.toNat 0) : tot zs I = tot ws I := by
 induction I with
 | nil => rfl
 | cons i I ih =>
  simp only [tot]
  rw [h i (List.mem_cons_self ..), ih (fun x hx => h x (List.mem_cons_of_mem _ hx))]
theorem tot_red (I : List Int) : ∀ (zs : List Int) (a : Int), I.Nodup → In zs I → Nn zs → 0 ≤ a → a ≤ tot zs I → tot (red zs I a) I = tot zs I - a := by
 induction I with
 | nil => intro zs a _ _ _ h0 h1; simp only [tot] at h1 ⊢; omega
 | cons i I ih =>
  intro zs a hn hI hz h0 h1
  obtain ⟨i0, i1⟩ := hI i (List.mem_cons_self ..)
  obtain ⟨hni, hn'⟩ := List.nodup_cons.1 hn
  have hb := hz.at_ i.toNat
  have hI' : In zs I := fun x hx => hI x (List.mem_cons_of_mem _ hx)
  simp only [red, tot]
  simp only [tot] at h1
  generalize hz0 : zs.getD i.toNat 0 = z at hb h1 ⊢
  obtain ⟨p, hp⟩ : ∃ p, (if z ≤ a then z else a) = p := ⟨_, rfl⟩
  have hp0 : 0 ≤ p ∧ p ≤ z ∧ p ≤ a ∧ (p = z ∨ p = a) := by rw [← hp]; split <;> omega
  rw [hp]
  have hc : tot (zs.set i.toNat (z - p)) I = tot zs I := tot_congr _ _ _ fun x hx => getD_set_ne _ _ _ _ (fun e => by
   have := hI' x hx
   exact hni (by rw [show i = x by omega]; exact hx))
  have hb2 := tot_bound hz I
  rw [ih _ _ hn' (hI'.set _ _) (hz.set _ (by omega) (by omega)) (by omega) (by rw [hc]; omega), hc]
  have hgo : (red (zs.set i.toNat (z - p)) I (a - p)).getD i.toNat 0 = z - p := by
   rw [red_other _ _ _ _ (by rw [Int.toNat_of_nonneg i0]; exact hni) (fun x hx => (hI' x hx).1), getD_set_eq _ _ _ (by omega)]
  rw [hgo]
  omega
theorem nodup_insR {α : Type} (lt : α → α → Bool) (x : α) (l : List α) (h : x ∉ l) (hl : l.Nodup) : (insR lt x l).Nodup := by
 induction l with
 | nil => simp [insR]
 | cons y ys ih =>
  obtain ⟨h1, h2⟩ := List.nodup_cons.1 hl
  simp only [insR]
  split
  ·refine List.nodup_cons.2 ⟨fun e => ?_, ih (fun e => h (List.mem_cons_of_mem _ e)) h2⟩
   rcases (mem_insR lt x y ys).1 e with e | e
   ·exact h (by rw [e]; exact List.mem_cons_self ..)
   ·exact h1 e
  ·exact List.nodup_cons.2 ⟨h, hl⟩
theorem nodup_isortR {α : Type} (lt : α → α → Bool) (l : List α) : ∀ acc : List α, acc.Nodup → l.Nodup → (∀ x ∈ l, x ∉ acc) → (isortR lt acc l).Nodup := by
 induction l with
 | nil => intro acc h _ _; exact h
 | cons x xs ih =>
  intro acc h hl hd
  obtain ⟨h1, h2⟩ := List.nodup_cons.1 hl
  refine ih _ (nodup_insR lt x acc (hd x (List.mem_cons_self ..)) h) h2 fun y hy e => ?_
  rcases (mem_insR lt x y acc).1 e with e | e
  ·exact h1 (by rw [← e]; exact hy)
  ·exact hd y (List.mem_cons_of_mem _ hy) e
theorem nodup_elis (l : List S28) (c s a b : Int) : (elis l c s a b).Nodup := by
 unfold elis isort
 refine List.pairwise_reverse.2 (List.Pairwise.imp (fun h => Ne.symm h) (nodup_isortR _ _ _ List.nodup_nil ?_ (fun x _ e => by cases e)))
 unfold idxs
 refine List.Pairwise.map _ (fun x y h e => h (Int.ofNat.inj e)) (List.Pairwise.filter _ List.nodup_range)
theorem mem_elis {l : List S28} {c s a b : Int} {x : Int} : x ∈ elis l c s a b ↔ ∃ i : Nat, x = (i : Int) ∧ i < l.length ∧ sel l c s a b i = true := by
 unfold elis
 rw [mem_isort]; exact mem_idxs
theorem sel_parties {l : List S28} {c s a b : Int} {i : Nat} (h : sel l c s a b i = true) : (r28_ l (i : Int)).f0 = a ∧ (r28_ l (i : Int)).f1 = b := by
 unfold sel at h
 simp only [Bool.and_eq_true, decide_eq_true_eq] at h
 exact ⟨h.1, h.2.1⟩
theorem elis_disjoint {l : List S28} {c s a b a' b' : Int} {x : Int} (h : x ∈ elis l c s a b) (h' : x ∈ elis l c s a' b') : a = a' ∧ b = b' := by
 obtain ⟨i, rfl, _, h1⟩ := mem_elis.1 h
 obtain ⟨j, e, _, h2⟩ := mem_elis.1 h'
 obtain rfl : i = j := by omega
 have p1 := sel_parties h1
 have p2 := sel_parties h2
 exact ⟨p1.1.symm.trans p2.1, p1.2.symm.trans p2.2⟩
theorem elis_pos {l : List S28} {c s a b : Int} : ∀ x ∈ elis l c s a b, 0 ≤ x := fun x hx => by
 obtain ⟨i, rfl, _, _⟩ := mem_elis.1 hx
 omega
theorem one_other (l : List S28) (c s : Int) (zs : List Int) (a b : Int) (j : Nat) (h1 : (j : Int) ∉ elis l c s a b) (h2 : (j : Int) ∉ elis l c s b a) : (one l c s zs a b).getD j 0 = zs.getD j 0 := by
 unfold one
 rw [red_other _ _ _ _ h2 elis_pos, red_other _ _ _ _ h1 elis_pos]
theorem one_tots (l : List S28) (c s : Int) (zs : List Int) (a b : Int) (hne : a ≠ b) (hl : l.length = zs.length) (hz : Nn zs) :
  tot (one l c s zs a b) (elis l c s a b) = tot zs (elis l c s a b) - (if tot zs (elis l c s a b) ≤ tot zs (elis l c s b a) then tot zs (elis l c s a b) else tot zs (elis l c s b a)) ∧
  tot (one l c s zs a b) (elis l c s b a) = tot zs (elis l c s b a) - (if tot zs (elis l c s a b) ≤ tot zs (elis l c s b a) then tot zs (elis l c s a b) else tot zs (elis l c s b a)) := by
 have bx := tot_bound hz (elis l c s a b)
 have bY := tot_bound hz (elis l c s b a)
 unfold one
 obtain ⟨m, hm⟩ : ∃ m, (if tot zs (elis l c s a b) ≤ tot zs (elis l c s b a) then tot zs (elis l c s a b) else tot zs (elis l c s b a)) = m := ⟨_, rfl⟩
 have m0 : 0 ≤ m ∧ m ≤ tot zs (elis l c s a b) ∧ m ≤ tot zs (elis l c s b a) := by rw [← hm]; split <;> omega
 rw [hm]
 have ix := elis_In hl c s a b
 have iy := elis_In hl c s b a
 have z1 := red_Nn (elis l c s a b) zs m hz m0.1
 have d : ∀ x ∈ elis l c s b a, x ∉ elis l c s a b := fun x hx e => hne (elis_disjoint e hx).1
 have d' : ∀ x ∈ elis l c s a b, x ∉ elis l c s b a := fun x hx e => hne (elis_disjoint hx e).1
 have e1 : tot (red zs (elis l c s a b) m) (elis l c s b a) = tot zs (elis l c s b a) := tot_congr _ _ _ fun x hx => red_other _ _ _ _ (by rw [Int.toNat_of_nonneg (iy x hx).1]; exact d x hx) elis_pos
 have e2 : tot (red (red zs (elis l c s a b) m) (elis l c s b a) m) (elis l c s a b) = tot (red zs (elis l c s a b) m) (elis l c s a b) := tot_congr _ _ _ fun x hx => red_other _ _ _ _ (by rw [Int.toNat_of_nonneg (ix x hx).1]; exact d' x hx) elis_pos
 refine ⟨?_, ?_⟩
 ·rw [e2, tot_red _ _ _ (nodup_elis _ _ _ _ _) ix hz m0.1 m0.2.1]
 ·rw [tot_red _ _ _ (nodup_elis _ _ _ _ _) (fun x hx => by rw [red_length]; exact iy x hx) z1 m0.1 (by rw [e1]; exact m0.2.2), e1]
theorem appl_length (l : List S28) (c s : Int) (P : Nat) (zs : List Int) : (appl l c s P zs).length = zs.length := by
 unfold appl
 generalize 0 = a
 induction P generalizing a zs with
 | zero => rfl
 | succ r ih => simp only [out]; rw [ih, inn_length]
theorem out_Nn (l : List S28) (c s : Int) : ∀ (r a : Nat) (zs : List Int), Nn zs → Nn (out l c s r a zs) := by
 intro r
 induction r with
 | zero => intro a zs h; exact h
 | succ r ih => intro a zs h; exact ih _ _ (inn_Nn _ _ _ _ _ _ _ h)
theorem appl_Nn (l : List S28) (c s : Int) (P : Nat) (zs : List Int) (h : Nn zs) : Nn (appl l c s P zs) := out_Nn _ _ _ _ _ _ h
end C
namespace C
open Go.RowKit Go.PrWords Go.PrLast Go.PrMore
def encS (n : Nat) : ByteArray := if n = 0 then ⟨#[]⟩ else ⟨#[n.toUInt8]⟩
def dS (d : Nat) : ByteArray := if d = 1 then ⟨#[]⟩ else encS d
theorem enc_encS {n : Nat} (h : n < 256) : enc n = encS n := by
 unfold encS
 by_cases h0 : n = 0
 ·rw [if_pos h0, h0, enc_zero]
 ·rw [if_neg h0]
  unfold enc
  rw [dig_pos h0, Nat.div_eq_of_lt h, dig_zero]
  have : n % 256 = n := Nat.mod_eq_of_lt h
  simp [this]
theorem e3_nat (z : Nat) (h : z / Nat.gcd z 60 < 256) : e3 (z : Int) = (false, encS (z / Nat.gcd z 60), dS (60 / Nat.gcd z 60)) := by
 by_cases h0 : z = 0
 ·subst h0
  rw [show ((0 : Nat) : Int) = 0 from rfl, e3_zero]; rfl
 ·obtain ⟨h1, h2, h3⟩ := e_mk false z 60 h0 (by decide)
  have e : mkRat (sgn false z) 60 = T (z : Int) := rfl
  rw [e] at h1 h2 h3
  unfold e3
  rw [h1, h2, h3, enc_encS h]
  have : dE (60 / Nat.gcd z 60) = dS (60 / Nat.gcd z 60) := by
   unfold dE dS
   split
   ·rfl
   ·exact enc_encS (Nat.lt_of_le_of_lt (Nat.div_le_self _ _) (by decide))
  rw [this]
set_option maxRecDepth 100000 in
theorem ratio_val : ∀ a : Fin 23, ∀ b : Fin 6, l0_Ratio.f 60 ((a : Nat) : Int) (1 + ((b : Nat) : Int)) = some (false, encS ((60 * (a : Nat) / (1 + (b : Nat))) / Nat.gcd (60 * (a : Nat) / (1 + (b : Nat))) 60), dS (60 / Nat.gcd (60 * (a : Nat) / (1 + (b : Nat))) 60)) ∧ (60 * (a : Nat) / (1 + (b : Nat))) / Nat.gcd (60 * (a : Nat) / (1 + (b : Nat))) 60 < 256 := by decide +kernel
set_option maxRecDepth 100000 in
theorem whole_val : ∀ a : Fin 31, l0_Whole.f 60 ((a : Nat) : Int) = some (false, encS ((60 * (a : Nat)) / Nat.gcd (60 * (a : Nat)) 60), dS (60 / Nat.gcd (60 * (a : Nat)) 60)) ∧ (60 * (a : Nat)) / Nat.gcd (60 * (a : Nat)) 60 < 256 := by decide +kernel
def amtZ (x : Int) : Int := if x % 5 = 0 then 60 * (x / 5 % 23) / (1 + x / 115 % 6) else if x % 5 = 1 then 60 * (10 * (x / 5 % 4)) else 60 * (x / 5 % 13)
theorem ratio_z {a b : Int} (ha : 0 ≤ a ∧ a < 23) (hb : 0 ≤ b ∧ b < 6) : (l0_Ratio.f 60 a (1 + b)).getD (false, ⟨#[]⟩, ⟨#[]⟩) = e3 (60 * a / (1 + b)) := by
 obtain ⟨h1, h2⟩ := ratio_val ⟨a.toNat, by omega⟩ ⟨b.toNat, by omega⟩
 simp only [Int.toNat_of_nonneg ha.1, Int.toNat_of_nonneg hb.1] at h1 h2
 have e : 60 * a / (1 + b) = ((60 * a.toNat / (1 + b.toNat) : Nat) : Int) := by
  rw [Int.natCast_ediv, Int.natCast_mul, Int.natCast_add, Int.toNat_of_nonneg ha.1, Int.toNat_of_nonneg hb.1]; rfl
 rw [h1, e, e3_nat _ h2]; rfl
theorem whole_z {a : Int} (ha : 0 ≤ a ∧ a < 31) : (l0_Whole.f 60 a).getD (false, ⟨#[]⟩, ⟨#[]⟩) = e3 (60 * a) := by
 obtain ⟨h1, h2⟩ := whole_val ⟨a.toNat, by omega⟩
 simp only [Int.toNat_of_nonneg ha.1] at h1 h2
 have e : 60 * a = ((60 * a.toNat : Nat) : Int) := by omega
 rw [h1, e, e3_nat _ h2]; rfl
theorem amtB_z (x : Int) (h0 : 0 ≤ x) : amtB x = e3 (amtZ x) := by
 unfold amtB amtZ
 by_cases c0 : x % 5 = 0
 ·rw [if_pos c0, if_pos c0]; exact ratio_z (by omega) (by omega)
 ·rw [if_neg c0, if_neg c0]
  by_cases c1 : x % 5 = 1
  ·rw [if_pos c1, if_pos c1]; exact whole_z (by omega)
  ·rw [if_neg c1, if_neg c1]; exact whole_z (by omega)
theorem amtZ_bound (x : Int) (h0 : 0 ≤ x) : 0 ≤ amtZ x ∧ amtZ x ≤ 1000000000000 := by
 unfold amtZ
 split
 ·refine ⟨Int.ediv_nonneg (by omega) (by omega), ?_⟩
  have := Int.ediv_le_self (b := 1 + x / 115 % 6) (show 0 ≤ 60 * (x / 5 % 23) by omega)
  omega
 ·split <;> omega
def Ls (L : List S46) : List S28 := (L.take 16).map obl
def Zs (L : List S46) : List Int := (L.take 16).map fun x => amtZ x.f2
theorem Ls_Am {L : List S46} (hL : ∀ x ∈ L, okx x) : Am (Ls L) (Zs L) := by
 unfold Am Ls Zs
 rw [List.map_map, List.map_map]
 refine List.map_congr_left fun x hx => ?_
 have hk := hL x (List.mem_of_mem_take hx)
 show (⟨(amtB x.f2).1, (amtB x.f2).2.1, (amtB x.f2).2.2⟩ : S26) = sz (amtZ x.f2)
 rw [amtB_z x.f2 hk.2.2.1.1]; rfl
theorem Zs_Nn {L : List S46} (hL : ∀ x ∈ L, okx x) : Nn (Zs L) := fun z hz => by
 obtain ⟨x, hx, rfl⟩ := List.mem_map.1 hz
 exact amtZ_bound _ (hL x (List.mem_of_mem_take hx)).2.2.1.1
theorem Ls_length (L : List S46) : (Ls L).length ≤ 16 := by
 unfold Ls
 rw [List.length_map, List.length_take]; omega
theorem Ls_ok {L : List S46} (hL : ∀ x ∈ L, okx x) : ∀ o ∈ Ls L, Okd 4 o := fun o ho => by
 obtain ⟨x, hx, rfl⟩ := List.mem_map.1 ho
 obtain ⟨h0, h1, h2, h3, h4⟩ := hL x (List.mem_of_mem_take hx)
 unfold Okd obl
 dsimp only
 refine ⟨by omega, ?_, ?_, by omega, ?_, ?_⟩
 ·split <;> omega
 ·split <;> omega
 ·split <;> omega
 ·split <;> omega
theorem day_u8 {a : Int} (h : 0 ≤ a ∧ a ≤ 255) : day a = true := decide_eq_true (by omega)
end C
namespace C
open Go.RowKit Go.PrWords Go.PrLast Go.PrMore
def Agr (S : Nat → Prop) (zs ws : List Int) : Prop := zs.length = ws.length ∧ ∀ y : Nat, S y → ws.getD y 0 = zs.getD y 0
theorem getD_set_if (zs : List Int) (i j : Nat) (v : Int) : (zs.set i v).getD j 0 = if i = j ∧ i < zs.length then v else zs.getD j 0 := by
 by_cases h : i = j
 ·subst h
  by_cases hl : i < zs.length
  ·rw [if_pos ⟨rfl, hl⟩, getD_set_eq _ _ _ hl]
  ·rw [if_neg (fun e => hl e.2), List.set_eq_of_length_le (by omega)]
 ·rw [if_neg (fun e => h e.1), getD_set_ne _ _ _ _ h]
theorem red_congr (S : Nat → Prop) (I : List Int) : ∀ (zs ws : List Int) (a : Int), (∀ i ∈ I, S i.toNat) → Agr S zs ws → Agr S (red zs I a) (red ws I a) := by
 induction I with
 | nil => intro zs ws a _ h; exact h
 | cons i I ih =>
  intro zs ws a hI h
  simp only [red]
  rw [h.2 i.toNat (hI i (List.mem_cons_self ..))]
  refine ih _ _ _ (fun x hx => hI x (List.mem_cons_of_mem _ hx)) ⟨by rw [List.length_set, List.length_set]; exact h.1, fun y hy => ?_⟩
  rw [getD_set_if, getD_set_if, h.1, h.2 y hy]
theorem tot_agr {S : Nat → Prop} {zs ws : List Int} (h : Agr S zs ws) (I : List Int) (hI : ∀ i ∈ I, S i.toNat) : tot ws I = tot zs I := tot_congr _ _ _ fun i hi => h.2 _ (hI i hi)
def Sp (l : List S28) (c s a b : Int) (y : Nat) : Prop := (y : Int) ∈ elis l c s a b ∨ (y : Int) ∈ elis l c s b a
theorem Sp_l {l : List S28} {c s a b : Int} : ∀ i ∈ elis l c s a b, Sp l c s a b i.toNat := fun i hi => .inl (by rw [Int.toNat_of_nonneg (elis_pos i hi)]; exact hi)
theorem Sp_r {l : List S28} {c s a b : Int} : ∀ i ∈ elis l c s b a, Sp l c s a b i.toNat := fun i hi => .inr (by rw [Int.toNat_of_nonneg (elis_pos i hi)]; exact hi)
theorem one_congr (l : List S28) (c s : Int) (zs ws : List Int) (a b : Int) (h : Agr (Sp l c s a b) zs ws) : Agr (Sp l c s a b) (one l c s zs a b) (one l c s ws a b) := by
 unfold one
 rw [tot_agr h _ Sp_l, tot_agr h _ Sp_r]
 exact red_congr _ _ _ _ _ Sp_r (red_congr _ _ _ _ _ Sp_l h)
theorem one_agr (l : List S28) (c s : Int) (Z zs : List Int) (a b a' b' : Int) (h1 : ¬ (a' = a ∧ b' = b)) (h2 : ¬ (a' = b ∧ b' = a)) (h : Agr (Sp l c s a' b') Z zs) : Agr (Sp l c s a' b') Z (one l c s zs a b) := by
 refine ⟨by rw [one_length]; exact h.1, fun y hy => ?_⟩
 rw [one_other _ _ _ _ _ _ _ (fun e => ?_) (fun e => ?_)]
 ·exact h.2 y hy
 ·rcases hy with hy | hy
  ·exact h1 (elis_disjoint hy e)
  ·have := elis_disjoint hy e; exact h2 ⟨this.2, this.1⟩
 ·rcases hy with hy | hy
  ·exact h2 (elis_disjoint hy e)
  ·have := elis_disjoint hy e; exact h1 ⟨this.2, this.1⟩
theorem inn_agr (l : List S28) (c s : Int) (Z : List Int) (a a' b' : Nat) (hb : b' < a') : ∀ (r b : Nat) (zs : List Int), b + r = a → (a ≠ a' ∨ b' < b) → Agr (Sp l c s (a' : Int) (b' : Int)) Z zs → Agr (Sp l c s (a' : Int) (b' : Int)) Z (inn l c s a r b zs) := by
 intro r
 induction r with
 | zero => intro b zs _ _ h; exact h
 | succ r ih =>
  intro b zs hr hne h
  exact ih (b + 1) _ (by omega) (by omega) (one_agr _ _ _ _ _ _ _ _ _ (by omega) (by omega) h)
theorem inn_own (l : List S28) (c s : Int) (Z : List Int) (a' b' : Nat) (hb : b' < a') : ∀ (r b : Nat) (zs : List Int), b + r = a' → b ≤ b' → Agr (Sp l c s (a' : Int) (b' : Int)) Z zs → Agr (Sp l c s (a' : Int) (b' : Int)) (one l c s Z (a' : Int) (b' : Int)) (inn l c s a' r b zs) := by
 intro r
 induction r with
 | zero => intro b zs h1 h2 _; omega
 | succ r ih =>
  intro b zs hr hle h
  simp only [inn]
  by_cases hbb : b = b'
  ·subst hbb
   exact inn_agr l c s _ a' a' b hb r (b + 1) _ (by omega) (.inr (by omega)) (one_congr _ _ _ _ _ _ _ h)
  ·exact ih (b + 1) _ (by omega) (by omega) (one_agr _ _ _ _ _ _ _ _ _ (by omega) (by omega) h)
theorem out_agr (l : List S28) (c s : Int) (Z : List Int) (a' b' : Nat) (hb : b' < a') : ∀ (r a : Nat) (zs : List Int), a' < a → Agr (Sp l c s (a' : Int) (b' : Int)) Z zs → Agr (Sp l c s (a' : Int) (b' : Int)) Z (out l c s r a zs) := by
 intro r
 induction r with
 | zero => intro a zs _ h; exact h
 | succ r ih => intro a zs ha h; exact ih (a + 1) _ (by omega) (inn_agr l c s Z a a' b' hb a 0 zs (by omega) (.inl (by omega)) h)
theorem out_own (l : List S28) (c s : Int) (Z : List Int) (a' b' : Nat) (hb : b' < a') : ∀ (r a : Nat) (zs : List Int), a ≤ a' → a' < a + r → Agr (Sp l c s (a' : Int) (b' : Int)) Z zs → Agr (Sp l c s (a' : Int) (b' : Int)) (one l c s Z (a' : Int) (b' : Int)) (out l c s r a zs) := by
 intro r
 induction r with
 | zero => intro a zs h1 h2 _; omega
 | succ r ih =>
  intro a zs h1 h2 h
  simp only [out]
  by_cases haa : a = a'
  ·subst haa
   exact out_agr l c s _ a b' hb r (a + 1) _ (by omega) (inn_own l c s Z a b' hb a 0 zs (by omega) (by omega) h)
  ·exact ih (a + 1) _ (by omega) (by omega) (inn_agr l c s Z a a' b' hb a 0 zs (by omega) (.inl haa) h)
theorem appl_own (l : List S28) (c s : Int) (P : Nat) (zs : List Int) (a b : Nat) (hb : b < a) (ha : a < P) : Agr (Sp l c s (a : Int) (b : Int)) (one l c s zs (a : Int) (b : Int)) (appl l c s P zs) :=
 out_own l c s zs a b hb P 0 zs (by omega) (by omega) ⟨rfl, fun _ _ => rfl⟩
theorem tot_insR (zs : List Int) (lt : Int → Int → Bool) (x : Int) (I : List Int) : tot zs (insR lt x I) = zs.getD x.toNat 0 + tot zs I := by
 induction I with
 | nil => rfl
 | cons y ys ih =>
  simp only [insR]
  split
  ·simp only [tot]; rw [ih]; omega
  ·rfl
theorem tot_append (zs I J : List Int) : tot zs (I ++ J) = tot zs I + tot zs J := by
 induction I with
 | nil => simp [tot]
 | cons y ys ih => simp only [List.cons_append, tot]; rw [ih]; omega
theorem tot_reverse (zs I : List Int) : tot zs I.reverse = tot zs I := by
 induction I with
 | nil => rfl
 | cons y ys ih => rw [List.reverse_cons, tot_append, ih]; simp only [tot]; omega
theorem tot_isortR (zs : List Int) (lt : Int → Int → Bool) (I : List Int) : ∀ acc : List Int, tot zs (isortR lt acc I) = tot zs acc + tot zs I := by
 induction I with
 | nil => intro acc; simp [isortR, tot]
 | cons x xs ih => intro acc; rw [isortR, ih, tot_insR]; simp only [tot]; omega
theorem tot_elis (l : List S28) (c s a b : Int) (zs : List Int) : tot zs (elis l c s a b) = tot zs (idxs l c s a b l.length) := by
 unfold elis isort
 rw [tot_reverse, tot_isortR]; simp [tot]
end C
end Go.Proofs.YtnegkpnhjgimcaaDoor
namespace Go.Proofs.YtnegkpnhjgimcaaDoor.Pure
open Go.RowKit Go.Proofs.YtnegkpnhjgimcaaDoor.C Go.PrWords Go.PrLast
def lZ' (l : List S28) (c s : Int) (zs : List Int) (a b : Int) : Int := if tot zs (elis l c s a b) ≤ tot zs (elis l c s b a) then tot zs (elis l c s a b) else tot zs (elis l c s b a)
theorem lZ'_comm (l : List S28) (c s : Int) (zs : List Int) (a b : Int) : lZ' l c s zs a b = lZ' l c s zs b a := by
 unfold lZ'; split <;> split <;> omega
theorem pair_yes {P a b : Int} (ha : 0 ≤ a ∧ a < P) (hb : 0 ≤ b ∧ b < P) (h : a ≠ b) : so_pair.f P a b = some true := by
 unfold so_pair.f
 rw [if_pos (by omega), if_pos (by omega), if_pos (by omega), if_pos (by omega)]
 simp [h]
theorem Amount_ev (l : List S28) (zs : List Int) (c s : Int) (hc : day c = true) (hs : day s = true) (hA : Am l zs) (hz : Nn zs) (hl : l.length ≤ 16) (ho : ∀ o ∈ l, Okd 4 o) (a b : Int) (pa : 0 ≤ a ∧ a < 4) (pb : 0 ≤ b ∧ b < 4) (hab : a ≠ b) :
  Ev (fun k => so_Amount.f k 4 l c s a b) ((e3 (lZ' l c s zs a b)).1, (e3 (lZ' l c s zs a b)).2.1, (e3 (lZ' l c s zs a b)).2.2, 0) := by
 have hp : Ev (fun _ => so_pair.f 4 a b) true := by rw [pair_yes pa pb hab]; exact Ev.now _
 have hx := eligible_ev l c s a b (by omega)
 have hy := eligible_ev l c s b a (by omega)
 have lx := elis_length l c s a b
 have ly := elis_length l c s b a
 have tx := total_ev zs _ hz (elis_In hA.len c s a b) (by omega)
 have ty := total_ev zs _ hz (elis_In hA.len c s b a) (by omega)
 have bx := tot_bound hz (elis l c s a b)
 have bY := tot_bound hz (elis l c s b a)
 have hm := Min_z (mod_of bx.1 (by omega)) (mod_of bY.1 (by omega)) bx.1 bY.1
 unfold so_Amount.f
 refine Ev.bind (check_ev 4 (by decide) l zs c s hc hs hA hz (by omega) ho) ?_
 simp only [if_true]
 refine Ev.bind hp ?_
 simp only [if_true]
 exact Ev.bind (amounts_ev l zs hA hz (by omega)) (Ev.bind hx (Ev.bind tx (Ev.bind hy (Ev.bind ty (Ev.bind hm (Ev.now _))))))
def sE' (l : List S28) (c s : Int) (zs : List Int) (a b : Int) (n : Nat) : Int := tot zs (idxs l c s a b n)
theorem sE'succ (l : List S28) (c s : Int) (zs : List Int) (a b : Int) (n : Nat) : sE' l c s zs a b (n + 1) = sE' l c s zs a b n + (if sel l c s a b n = true then zs.getD n 0 else 0) := by
 unfold sE'
 rw [idxs_succ]
 split
 ·rw [tot_append]; simp [tot]
 ·omega
theorem sE'bound (l : List S28) (c s : Int) {zs : List Int} (hz : Nn zs) (a b : Int) (n : Nat) : 0 ≤ sE' l c s zs a b n ∧ sE' l c s zs a b n ≤ 1000000000000 * (n : Int) := by
 have h := tot_bound hz (idxs l c s a b n)
 have h' := idxs_length l c s a b n
 unfold sE'
 omega
theorem os_loop (l : List S28) (zs ws : List Int) (c s a b m : Int) (hA : Am l zs) (hz : Nn zs) (hw : Nn ws) (h2 : l.length = ws.length) (hl : l.length ≤ 16) (hab : a ≠ b)
  (hm : sE' l c s zs a b l.length - sE' l c s ws a b l.length = m) (h0 : sE' l c s ws a b l.length = 0 ∨ sE' l c s ws b a l.length = 0) : ∀ (r j : Nat), j + r = l.length →
  Ev (fun k => oS'.l0 k a b c s (ws.map sz) l (l.length : Int) (j : Int) (e3 m).1 (e3 m).2.1 (e3 m).2.2 (e3 (sE' l c s ws a b j)).1 (e3 (sE' l c s ws a b j)).2.1 (e3 (sE' l c s ws a b j)).2.2 (e3 (sE' l c s ws b a j)).1 (e3 (sE' l c s ws b a j)).2.1 (e3 (sE' l c s ws b a j)).2.2 (e3 (sE' l c s zs a b j - sE' l c s ws a b j)).1 (e3 (sE' l c s zs a b j - sE' l c s ws a b j)).2.1 (e3 (sE' l c s zs a b j - sE' l c s ws a b j)).2.2) true := by
 have h1 := hA.len
 intro r
 induction r with
 | zero =>
  intro j hj
  obtain rfl : j = l.length := by omega
  have q1 := sE'bound l c s hw a b l.length
  have q2 := sE'bound l c s hw b a l.length
  have s1 := Sign_z (mod_of q1.1 (by omega))
  have s2 := Sign_z (mod_of q2.1 (by omega))
  refine Ev.step (f := fun k => (l14_awake.f k).bind fun t => if t = true then (q_Sign.f k (sz (sE' l c s ws a b l.length)).f0 (sz (sE' l c s ws a b l.length)).f1 (sz (sE' l c s ws a b l.length)).f2).bind fun u => (if u = 0 then some true else (q_Sign.f k (sz (sE' l c s ws b a l.length)).f0 (sz (sE' l c s ws b a l.length)).f1 (sz (sE' l c s ws b a l.length)).f2).bind fun v => if v = 0 then some true else none) else none) (fun k => ?_) (Ev.bind awake_ev ?_)
  ·have hb : ((e3 m).1 == (e3 m).1 && ((e3 m).2.1.toList == (e3 m).2.1.toList && ((e3 m).2.2.toList == (e3 m).2.2.toList))) = true := by simp
   simp only [oS'.l0]
   rw [if_neg (by omega), hm, hb]
   rfl
  ·simp only [if_true]
   by_cases z1 : sE' l c s ws a b l.length = 0
   ·rw [z1] at s1
    rw [z1]
    refine Ev.bind s1 ?_
    simp only [Int.lt_irrefl, if_false, if_true]
    exact Ev.now _
   ·have z2 : sE' l c s ws b a l.length = 0 := by omega
    refine Ev.bind s1 ?_
    simp only [if_neg (show ¬ ((if sE' l c s ws a b l.length < 0 then (-1 : Int) else if 0 < sE' l c s ws a b l.length then 1 else 0) = 0) by rw [if_neg (by omega), if_pos (by omega)]; decide)]
    rw [z2] at s2
    rw [z2]
    refine Ev.bind s2 ?_
    simp only [Int.lt_irrefl, if_false, if_true]
    exact Ev.now _
 | succ r ih =>
  intro j hj
  have hr := ih (j + 1) (by omega)
  have hzj := hz.at_ j
  have hwj := hw.at_ j
  have q1 := sE'bound l c s hw a b j
  have q2 := sE'bound l c s hw b a j
  have q3 := sE'bound l c s hz a b j
  have g1 : (j : Int) < ((ws.map sz).length : Int) := by rw [List.length_map]; omega
  have g2 : (0 : Int) ≤ (j : Int) := by omega
  have g3 : (j : Int) < (l.length : Int) := by omega
  have hz1 : r26_ (ws.map sz) (j : Int) = sz (ws.getD j 0) := by rw [rd_sz ws _ (by omega) (by omega), Int.toNat_natCast]
  have hf2 := hA.at_ j (by omega)
  obtain ⟨o, hox⟩ : ∃ o, r28_ l (j : Int) = o := ⟨_, rfl⟩
  rw [hox] at hf2
  have A1 := Add_z (mod_of q1.1 (by omega)) (mod_of hwj.1 (by omega))
  have A2 := Add_z (mod_of q2.1 (by omega)) (mod_of hwj.1 (by omega))
  have A3 := Subtract_z (mod_of hzj.1 (by omega)) (mod_of hwj.1 (by omega))
  have A4 := Add_z (z := sE' l c s zs a b j - sE' l c s ws a b j) (w := zs.getD j 0 - ws.getD j 0) (by unfold Go.Proofs.YtnegkpnhjgimcaaDoor.C.Mod; omega) (by unfold Go.Proofs.YtnegkpnhjgimcaaDoor.C.Mod; omega)
  have e1 := sE'succ l c s ws a b j
  have e2 := sE'succ l c s ws b a j
  have e3' := sE'succ l c s zs a b j
  have hs1 : sel l c s a b j = (decide (o.f0 = a) && (decide (o.f1 = b) && elig o c s)) := by unfold sel; rw [hox]
  have hs2 : sel l c s b a j = (decide (o.f0 = b) && (decide (o.f1 = a) && elig o c s)) := by unfold sel; rw [hox]
  have hw' : wrap64 ((j : Int) + 1) = ((j + 1 : Nat) : Int) := by rw [ow64 (by omega) (by omega)]; rfl
  cases he : elig o c s
  ·have n1 : sel l c s a b j = false := by rw [hs1, he]; simp
   have n2 : sel l c s b a j = false := by rw [hs2, he]; simp
   rw [n1, if_neg (by decide), Int.add_zero] at e1 e3'
   rw [n2, if_neg (by decide), Int.add_zero] at e2
   rw [e1, e2, e3'] at hr
   refine Ev.step (f := fun k => oS'.l0 k a b c s (ws.map sz) l (l.length : Int) ((j + 1 : Nat) : Int) (e3 m).1 (e3 m).2.1 (e3 m).2.2 (e3 (sE' l c s ws a b j)).1 (e3 (sE' l c s ws a b j)).2.1 (e3 (sE' l c s ws a b j)).2.2 (e3 (sE' l c s ws b a j)).1 (e3 (sE' l c s ws b a j)).2.1 (e3 (sE' l c s ws b a j)).2.2 (e3 (sE' l c s zs a b j - sE' l c s ws a b j)).1 (e3 (sE' l c s zs a b j - sE' l c s ws a b j)).2.1 (e3 (sE' l c s zs a b j - sE' l c s ws a b j)).2.2) (fun k => ?_) hr
   simp only [oS'.l0]
   rw [if_pos g3, if_pos g2, if_pos g3, hox, Eligible_eq, he, hw']
   refine (Option.bind_some _ _).trans ?_
   rw [if_neg (by decide)]
  ·have hj4 : ∀ A Lo : Int, A = sE' l c s ws a b (j + 1) → Lo = sE' l c s zs a b (j + 1) - sE' l c s ws a b (j + 1) → Ev (fun k => oS'.j4 k a b c s (ws.map sz) (j : Int) l (l.length : Int) (j : Int) (e3 m).1 (e3 m).2.1 (e3 m).2.2 (e3 (A)).1 (e3 (A)).2.1 (e3 (A)).2.2 (e3 (sE' l c s ws b a j)).1 (e3 (sE' l c s ws b a j)).2.1 (e3 (sE' l c s ws b a j)).2.2 (e3 (Lo)).1 (e3 (Lo)).2.1 (e3 (Lo)).2.2 o.f0 o.f1 o.f2.f0 o.f2.f1 o.f2.f2 o.f3 o.f4 o.f5) true := by
    intro A Lo hAe hLe
    rw [← hLe, ← hAe] at hr
    by_cases c0 : o.f0 = b ∧ o.f1 = a
    ·have n2 : sel l c s b a j = true := by rw [hs2, he, c0.1, c0.2]; simp
     rw [n2, if_pos rfl] at e2
     rw [e2] at hr
     refine Ev.step (f := fun k => (q_Add.f k (e3 (sE' l c s ws b a j)).1 (e3 (sE' l c s ws b a j)).2.1 (e3 (sE' l c s ws b a j)).2.2 (e3 (ws.getD j 0)).1 (e3 (ws.getD j 0)).2.1 (e3 (ws.getD j 0)).2.2).bind fun t => oS'.l0 k a b c s (ws.map sz) l (l.length : Int) ((j + 1 : Nat) : Int) (e3 m).1 (e3 m).2.1 (e3 m).2.2 (e3 (A)).1 (e3 (A)).2.1 (e3 (A)).2.2 t.1 t.2.1 t.2.2 (e3 (Lo)).1 (e3 (Lo)).2.1 (e3 (Lo)).2.2) (fun k => ?_) (Ev.bind A2 hr)
     simp only [oS'.j4]
     rw [if_pos c0.1, if_pos c0.2, if_pos g2, if_pos g1, hz1, hw']
     rfl
    ·have n2 : sel l c s b a j = false := by
      rw [hs2, he, Bool.and_true]
      by_cases x0 : o.f0 = b
      ·rw [decide_eq_false (fun x1 => c0 ⟨x0, x1⟩)]; simp
      ·rw [decide_eq_false x0]; simp
     rw [n2, if_neg (by decide), Int.add_zero] at e2
     rw [e2] at hr
     refine Ev.step (f := fun k => oS'.l0 k a b c s (ws.map sz) l (l.length : Int) ((j + 1 : Nat) : Int) (e3 m).1 (e3 m).2.1 (e3 m).2.2 (e3 (A)).1 (e3 (A)).2.1 (e3 (A)).2.2 (e3 (sE' l c s ws b a j)).1 (e3 (sE' l c s ws b a j)).2.1 (e3 (sE' l c s ws b a j)).2.2 (e3 (Lo)).1 (e3 (Lo)).2.1 (e3 (Lo)).2.2) (fun k => ?_) hr
     simp only [oS'.j4]
     rw [hw']
     by_cases x0 : o.f0 = b
     ·rw [if_pos x0, if_neg (fun x1 => c0 ⟨x0, x1⟩)]
     ·rw [if_neg x0]
   have hj3 : Ev (fun k => oS'.j3 k a b c s (ws.map sz) (j : Int) l (l.length : Int) (j : Int) (decide (o.f0 = a ∧ o.f1 = b)) (e3 m).1 (e3 m).2.1 (e3 m).2.2 (e3 (sE' l c s ws a b j)).1 (e3 (sE' l c s ws a b j)).2.1 (e3 (sE' l c s ws a b j)).2.2 (e3 (sE' l c s ws b a j)).1 (e3 (sE' l c s ws b a j)).2.1 (e3 (sE' l c s ws b a j)).2.2 (e3 (sE' l c s zs a b j - sE' l c s ws a b j)).1 (e3 (sE' l c s zs a b j - sE' l c s ws a b j)).2.1 (e3 (sE' l c s zs a b j - sE' l c s ws a b j)).2.2 o.f0 o.f1 o.f2.f0 o.f2.f1 o.f2.f2 o.f3 o.f4 o.f5) true := by
    by_cases c0 : o.f0 = a ∧ o.f1 = b
    ·have n1 : sel l c s a b j = true := by rw [hs1, he, c0.1, c0.2]; simp
     rw [n1, if_pos rfl] at e1 e3'
     have k4 := hj4 (sE' l c s ws a b j + ws.getD j 0) (sE' l c s zs a b j - sE' l c s ws a b j + (zs.getD j 0 - ws.getD j 0)) e1.symm (by omega)
     rw [decide_eq_true c0]
     refine Ev.step (f := fun k => (q_Add.f k (e3 (sE' l c s ws a b j)).1 (e3 (sE' l c s ws a b j)).2.1 (e3 (sE' l c s ws a b j)).2.2 (e3 (ws.getD j 0)).1 (e3 (ws.getD j 0)).2.1 (e3 (ws.getD j 0)).2.2).bind fun t => (q_Subtract.f k (e3 (zs.getD j 0)).1 (e3 (zs.getD j 0)).2.1 (e3 (zs.getD j 0)).2.2 (e3 (ws.getD j 0)).1 (e3 (ws.getD j 0)).2.1 (e3 (ws.getD j 0)).2.2).bind fun u => (q_Add.f k (e3 (sE' l c s zs a b j - sE' l c s ws a b j)).1 (e3 (sE' l c s zs a b j - sE' l c s ws a b j)).2.1 (e3 (sE' l c s zs a b j - sE' l c s ws a b j)).2.2 u.1 u.2.1 u.2.2).bind fun v => oS'.j4 k a b c s (ws.map sz) (j : Int) l (l.length : Int) (j : Int) (e3 m).1 (e3 m).2.1 (e3 m).2.2 t.1 t.2.1 t.2.2 (e3 (sE' l c s ws b a j)).1 (e3 (sE' l c s ws b a j)).2.1 (e3 (sE' l c s ws b a j)).2.2 v.1 v.2.1 v.2.2 o.f0 o.f1 o.f2.f0 o.f2.f1 o.f2.f2 o.f3 o.f4 o.f5) (fun k => ?_) (Ev.bind A1 (Ev.bind A3 (Ev.bind A4 k4)))
     simp only [oS'.j3, if_true]
     rw [if_pos g2, if_pos g1, hz1, hf2]
     rfl
    ·have n1 : sel l c s a b j = false := by
      rw [hs1, he, Bool.and_true]
      by_cases x0 : o.f0 = a
      ·rw [decide_eq_false (fun x1 => c0 ⟨x0, x1⟩)]; simp
      ·rw [decide_eq_false x0]; simp
     rw [n1, if_neg (by decide), Int.add_zero] at e1 e3'
     have k4 := hj4 (sE' l c s ws a b j) (sE' l c s zs a b j - sE' l c s ws a b j) e1.symm (by omega)
     rw [decide_eq_false c0]
     refine Ev.step (f := fun k => oS'.j4 k a b c s (ws.map sz) (j : Int) l (l.length : Int) (j : Int) (e3 m).1 (e3 m).2.1 (e3 m).2.2 (e3 (sE' l c s ws a b j)).1 (e3 (sE' l c s ws a b j)).2.1 (e3 (sE' l c s ws a b j)).2.2 (e3 (sE' l c s ws b a j)).1 (e3 (sE' l c s ws b a j)).2.1 (e3 (sE' l c s ws b a j)).2.2 (e3 (sE' l c s zs a b j - sE' l c s ws a b j)).1 (e3 (sE' l c s zs a b j - sE' l c s ws a b j)).2.1 (e3 (sE' l c s zs a b j - sE' l c s ws a b j)).2.2 o.f0 o.f1 o.f2.f0 o.f2.f1 o.f2.f2 o.f3 o.f4 o.f5) (fun k => ?_) k4
     simp only [oS'.j3]
     rw [if_neg (by decide)]
   refine Ev.step (f := fun k => oS'.j3 k a b c s (ws.map sz) (j : Int) l (l.length : Int) (j : Int) (decide (o.f0 = a ∧ o.f1 = b)) (e3 m).1 (e3 m).2.1 (e3 m).2.2 (e3 (sE' l c s ws a b j)).1 (e3 (sE' l c s ws a b j)).2.1 (e3 (sE' l c s ws a b j)).2.2 (e3 (sE' l c s ws b a j)).1 (e3 (sE' l c s ws b a j)).2.1 (e3 (sE' l c s ws b a j)).2.2 (e3 (sE' l c s zs a b j - sE' l c s ws a b j)).1 (e3 (sE' l c s zs a b j - sE' l c s ws a b j)).2.1 (e3 (sE' l c s zs a b j - sE' l c s ws a b j)).2.2 o.f0 o.f1 o.f2.f0 o.f2.f1 o.f2.f2 o.f3 o.f4 o.f5) (fun k => ?_) hj3
   simp only [oS'.l0]
   rw [if_pos g3, if_pos g2, if_pos g3, hox, Eligible_eq, he]
   refine (Option.bind_some _ _).trans ?_
   rw [if_pos rfl]
   by_cases x0 : o.f0 = a
   ·rw [if_pos x0]
    congr 1
    by_cases x1 : o.f1 = b
    ·rw [decide_eq_true ⟨x0, x1⟩]; exact beq_iff_eq.2 x1
    ·rw [decide_eq_false (fun e => x1 e.2)]; exact beq_eq_false_iff_ne.2 x1
   ·rw [if_neg x0, decide_eq_false (fun e => x0 e.1)]
theorem left_over (l : List S28) (c s : Int) (P : Nat) (zs : List Int) (hl : l.length = zs.length) (hz : Nn zs) (a b : Nat) (hab : a ≠ b) (ha : a < P) (hb : b < P) :
  (sE' l c s zs (a : Int) (b : Int) l.length - sE' l c s (appl l c s P zs) (a : Int) (b : Int) l.length = lZ' l c s zs (a : Int) (b : Int)) ∧
  (sE' l c s (appl l c s P zs) (a : Int) (b : Int) l.length = 0 ∨ sE' l c s (appl l c s P zs) (b : Int) (a : Int) l.length = 0) := by
 have key : ∀ x y : Nat, y < x → x < P →
   tot (appl l c s P zs) (elis l c s (x : Int) (y : Int)) = tot zs (elis l c s (x : Int) (y : Int)) - lZ' l c s zs (x : Int) (y : Int) ∧
   tot (appl l c s P zs) (elis l c s (y : Int) (x : Int)) = tot zs (elis l c s (y : Int) (x : Int)) - lZ' l c s zs (x : Int) (y : Int) := by
  intro x y hxy hx
  have hown := appl_own l c s P zs x y hxy hx
  have ht := one_tots l c s zs (x : Int) (y : Int) (by omega) hl hz
  exact ⟨(tot_agr hown _ Sp_l).trans ht.1, (tot_agr hown _ Sp_r).trans ht.2⟩
 unfold sE'
 rw [← tot_elis, ← tot_elis, ← tot_elis]
 rcases Nat.lt_or_gt_of_ne hab with h | h
 ·have k := key b a h hb
  rw [lZ'_comm] at k
  rw [k.1, k.2]
  refine ⟨by omega, ?_⟩
  unfold lZ'
  split <;> omega
 ·have k := key a b h ha
  rw [k.1, k.2]
  refine ⟨by omega, ?_⟩
  unfold lZ'
  split <;> omega
theorem os_j0 (L : List S46) (a1 a2 : Int) (hL : ∀ x ∈ L, okx x) (b1 : 0 ≤ a1 ∧ a1 ≤ 255) (b2 : 0 ≤ a2 ∧ a2 ≤ 255) (a b : Nat) (ha : a < 4) (hb : b < 4) (hab : a ≠ b) : Ev (fun k => oS'.j0 k a1 a2 (Ls L) (a : Int) (b : Int)) true := by
 have w1 : wrap64 a1 = a1 := ow64 (by omega) (by omega)
 have m2 : Int.tmod a2 40 = a2 % 40 := Int.tmod_eq_emod_of_nonneg b2.1
 have w2 : wrap64 (a2 % 40) = a2 % 40 := ow64 (by omega) (by omega)
 have hl := Ls_length L
 have hz := Zs_Nn hL
 have hA := Ls_Am hL
 have dc := day_u8 b1
 have ds : day (a2 % 40) = true := day_u8 (by omega)
 have p1 := Apply_ev 4 (by decide) (Ls L) (Zs L) a1 (a2 % 40) dc ds hA hz (by omega) (Ls_ok hL)
 have p2 := Amount_ev (Ls L) (Zs L) a1 (a2 % 40) dc ds hA hz hl (Ls_ok hL) (a : Int) (b : Int) (by omega) (by omega) (by omega)
 have p3 := Amount_ev (Ls L) (Zs L) a1 (a2 % 40) dc ds hA hz hl (Ls_ok hL) (b : Int) (a : Int) (by omega) (by omega) (by omega)
 rw [lZ'_comm] at p3
 have lo := left_over (Ls L) a1 (a2 % 40) 4 (Zs L) hA.len hz a b hab ha hb
 obtain ⟨w, hw⟩ : ∃ w, appl (Ls L) a1 (a2 % 40) 4 (Zs L) = w := ⟨_, rfl⟩
 obtain ⟨m, hm⟩ : ∃ m, lZ' (Ls L) a1 (a2 % 40) (Zs L) (a : Int) (b : Int) = m := ⟨_, rfl⟩
 have hlen : (Ls L).length = w.length := by rw [← hw, appl_length]; exact hA.len
 have hwN : Nn w := by rw [← hw]; exact appl_Nn _ _ _ _ _ hz
 rw [hw] at p1 lo
 rw [hm] at p2 p3 lo
 have hloop := os_loop (Ls L) (Zs L) w a1 (a2 % 40) (a : Int) (b : Int) m hA hz hwN hlen hl (by omega) lo.1 lo.2 (Ls L).length 0 (by omega)
 have hj1 : Ev (fun k => oS'.j1 k (Ls L) (a : Int) (b : Int) a1 (a2 % 40) (w.map sz) false (e3 m).1 (e3 m).2.1 (e3 m).2.2) true := by
  have z1 : ∀ v x y, sE' (Ls L) a1 (a2 % 40) v x y 0 = 0 := fun _ _ _ => rfl
  rw [z1, z1, z1, Int.sub_self, e3_zero] at hloop
  refine Ev.step (f := fun k => oS'.l0 k (a : Int) (b : Int) a1 (a2 % 40) (w.map sz) (Ls L) ((Ls L).length : Int) ((0 : Nat) : Int) (e3 m).1 (e3 m).2.1 (e3 m).2.2 false ⟨#[]⟩ ⟨#[]⟩ false ⟨#[]⟩ ⟨#[]⟩ false ⟨#[]⟩ ⟨#[]⟩) (fun k => ?_) hloop
  simp only [oS'.j1]
  rw [if_neg (by decide)]; rfl
 refine Ev.step (f := fun k => (so_Apply.f k 4 (Ls L) a1 (a2 % 40)).bind fun p => (so_Amount.f k 4 (Ls L) a1 (a2 % 40) (a : Int) (b : Int)).bind fun q => (so_Amount.f k 4 (Ls L) a1 (a2 % 40) (b : Int) (a : Int)).bind fun t => if p.2 = 0 then if q.2.2.2 = 0 then if t.2.2.2 = 0 then if (!(q.1 == t.1) || (!(q.2.1.toList == t.2.1.toList) || (!(q.2.2.1.toList == t.2.2.1.toList)))) = true then oS'.j1 k (Ls L) (a : Int) (b : Int) a1 (a2 % 40) p.1 true q.1 q.2.1 q.2.2.1 else oS'.j1 k (Ls L) (a : Int) (b : Int) a1 (a2 % 40) p.1 ((p.1.length : Int) != ((Ls L).length : Int)) q.1 q.2.1 q.2.2.1 else oS'.j1 k (Ls L) (a : Int) (b : Int) a1 (a2 % 40) p.1 true q.1 q.2.1 q.2.2.1 else oS'.j1 k (Ls L) (a : Int) (b : Int) a1 (a2 % 40) p.1 true q.1 q.2.1 q.2.2.1 else oS'.j1 k (Ls L) (a : Int) (b : Int) a1 (a2 % 40) p.1 true q.1 q.2.1 q.2.2.1) (fun k => ?_) (Ev.bind p1 (Ev.bind p2 (Ev.bind p3 ?_)))
 ·simp only [oS'.j0, w1, m2, w2]
 ·simp only [if_true]
  have hb : ((((w.map sz).length : Nat) : Int) != ((Ls L).length : Int)) = false := by
   rw [List.length_map, ← hlen]; simp
  rw [hb]
  simp only [beq_self_eq_true, Bool.not_true, Bool.or_false, Bool.false_eq_true, if_false]
  exact hj1
theorem SetoffOneSided (L : List S46) (a1 a2 a3 a4 : Int) (hL : ∀ x ∈ L, okx x) (b1 : 0 ≤ a1 ∧ a1 ≤ 255) (b2 : 0 ≤ a2 ∧ a2 ≤ 255) (b3 : 0 ≤ a3 ∧ a3 ≤ 255) (b4 : 0 ≤ a4 ∧ a4 ≤ 255) : ∃ k, oS'.f k L a1 a2 a3 a4 = some true := by
 refine Ev.rounds ?_
 have m3 : Int.tmod a3 4 = a3 % 4 := Int.tmod_eq_emod_of_nonneg b3.1
 have m4 : Int.tmod a4 3 = a4 % 3 := Int.tmod_eq_emod_of_nonneg b4.1
 have w3 : wrap64 (a3 % 4) = a3 % 4 := ow64 (by omega) (by omega)
 have w4 : wrap64 (a4 % 3) = a4 % 3 := ow64 (by omega) (by omega)
 have w5 : wrap64 (a4 % 3 + 1) = a4 % 3 + 1 := ow64 (by omega) (by omega)
 unfold oS'.f
 simp only [m3, m4, w3, w4, w5]
 refine Ev.bind (obligations_ev L hL) ?_
 obtain ⟨x, hx⟩ : ∃ x : Nat, a3 % 4 = (x : Int) := ⟨(a3 % 4).toNat, by omega⟩
 obtain ⟨y, hy⟩ : ∃ y : Nat, a4 % 3 = (y : Int) := ⟨(a4 % 3).toNat, by omega⟩
 clear w3 w4 w5 m3 m4
 have hx4 : x < 4 := by omega
 have hy3 : y < 3 := by omega
 rw [hx, hy]
 by_cases g : (y : Int) ≥ (x : Int)
 ·simp only [if_pos g]
  exact os_j0 L a1 a2 hL b1 b2 x (y + 1) hx4 (by omega) (by omega)
 ·simp only [if_neg g]
  exact os_j0 L a1 a2 hL b1 b2 x y hx4 (by omega) (by omega)
end Go.Proofs.YtnegkpnhjgimcaaDoor.Pure
namespace Go.Proofs.YtnegkpnhjgimcaaDoor
namespace C
open Go.ChangeShapes Go.WideShapes Go.ChangeAt Go.RowKit Go.Deep Go.PrWords
theorem cells_u16 : Tryd.prog.cellsOf 45 = 1 := by kernel_rfl
theorem cells_arr : Tryd.prog.cellsOf 46 = 5 := by kernel_rfl
theorem list5 {α : Type} (l : List α) (h : l.length = 5) : ∃ a b c d e, l = [a, b, c, d, e] := by
  match l, h with
  | [a, b, c, d, e], _ => exact ⟨a, b, c, d, e, rfl⟩
section
variable {H : Type} {enc : TypeId × Value → H} {P : Program} {w : World} {base : Nat} {spare : Nat → Bool} {held : Bool}
theorem trod_array5 {t e : TypeId} {fuel : Nat} {c0 c1 c2 c3 c4 : Value} {x : DataW H × List MemPlace} (ht : P.underlying t = some (.array 5 e)) (hce : P.cellsOf e = 1)
    (h : DataW.trod enc P w base spare held fuel t [c0, c1, c2, c3, c4] = some x) :
    ∃ y0 y1 y2 y3 y4 n, x = (.agg [y0.1, y1.1, y2.1, y3.1, y4.1], y0.2 ++ (y1.2 ++ (y2.2 ++ (y3.2 ++ y4.2)))) ∧ DataW.trod enc P w base spare held n e [c0] = some y0 ∧ DataW.trod enc P w base spare held n e [c1] = some y1 ∧ DataW.trod enc P w base spare held n e [c2] = some y2 ∧ DataW.trod enc P w base spare held n e [c3] = some y3 ∧ DataW.trod enc P w base spare held n e [c4] = some y4 := by
  cases fuel with
  | zero => simp [DataW.trod] at h
  | succ n =>
    unfold DataW.trod at h
    rw [ht] at h
    have r5 : List.range 5 = [0, 1, 2, 3, 4] := rfl
    simp [r5, hce] at h
    obtain ⟨_, h⟩ := h
    cases h0 : DataW.trod enc P w base spare held n e [c0] with
    | none => simp [h0] at h
    | some y0 =>
      cases h1 : DataW.trod enc P w base spare held n e [c1] with
      | none => simp [h0, h1] at h
      | some y1 =>
        cases h2 : DataW.trod enc P w base spare held n e [c2] with
        | none => simp [h0, h1, h2] at h
        | some y2 =>
          cases h3 : DataW.trod enc P w base spare held n e [c3] with
          | none => simp [h0, h1, h2, h3] at h
          | some y3 =>
            cases h4 : DataW.trod enc P w base spare held n e [c4] with
            | none => simp [h0, h1, h2, h3, h4] at h
            | some y4 =>
              simp [h0, h1, h2, h3, h4] at h
              exact ⟨y0, y1, y2, y3, y4, n, h.symm, h0, h1, h2, h3, h4⟩
end
section
variable {H : Type} {enc : TypeId × Value → H} {w : World} {base : Nat} {spare : Nat → Bool} {held : Bool}
theorem open_arr_cells {fuel : Nat} {cs : List Value} {x : DataW H × List MemPlace} (hl : cs.length = 5) (h : DataW.trod enc Tryd.prog w base spare held fuel 46 cs = some x) :
    ∃ y : S46, okx y ∧ cs = [.int .u16 y.f0, .int .u16 y.f1, .int .u16 y.f2, .int .u16 y.f3, .int .u16 y.f4] ∧ x = (.agg [.lit (.int .u16 y.f0), .lit (.int .u16 y.f1), .lit (.int .u16 y.f2), .lit (.int .u16 y.f3), .lit (.int .u16 y.f4)], []) := by
  obtain ⟨c0, c1, c2, c3, c4, rfl⟩ := list5 cs hl
  obtain ⟨y0, y1, y2, y3, y4, m, hx, hy0, hy1, hy2, hy3, hy4⟩ := trod_array5 Tryd.underlying46 cells_u16 h
  obtain ⟨x0, e0, rfl, w0⟩ := DataW.trod_int Tryd.underlying45 hy0
  obtain ⟨x1, e1, rfl, w1⟩ := DataW.trod_int Tryd.underlying45 hy1
  obtain ⟨x2, e2, rfl, w2⟩ := DataW.trod_int Tryd.underlying45 hy2
  obtain ⟨x3, e3, rfl, w3⟩ := DataW.trod_int Tryd.underlying45 hy3
  obtain ⟨x4, e4, rfl, w4⟩ := DataW.trod_int Tryd.underlying45 hy4
  simp at e0 e1 e2 e3 e4
  subst e0 e1 e2 e3 e4
  have b0 := bounds_u16 w0
  have b1 := bounds_u16 w1
  have b2 := bounds_u16 w2
  have b3 := bounds_u16 w3
  have b4 := bounds_u16 w4
  refine ⟨⟨x0, x1, x2, x3, x4⟩, ⟨⟨b0.1, ?_⟩, ⟨b1.1, ?_⟩, ⟨b2.1, ?_⟩, ⟨b3.1, ?_⟩, ⟨b4.1, ?_⟩⟩, rfl, by rw [hx]; rfl⟩
  all_goals (dsimp only; omega)
end
theorem open_slice_of {α : Type} [Inhabited α] (d : Kd α) (Q : α → Prop) {H : Type} {enc : TypeId × Value → H} {P : Program} {w : World} {base : Nat} {spare : Nat → Bool} {held : Bool} {t e : TypeId} (ht : P.underlying t = some (.slice e)) (hsz : P.cellsOf e = d.sz)
    (hel : ∀ (n : Nat) (cs : List Value) (x : DataW H × List MemPlace), cs.length = d.sz → DataW.trod enc P w base spare held n e cs = some x → ∃ y : α, Q y ∧ d.K w y cs) {A : Option Addr} {len cap : Nat} {D : DataW H} {p : List MemPlace} (h : DataW.Trod enc P w base spare held t (.slice A len cap) D p) :
    ∃ l : List α, l.length = len ∧ len ≤ cap ∧ d.C w A len l ∧ ∀ y ∈ l, Q y := by
  obtain ⟨fuel, hf⟩ := h
  rcases open_slice ht hf with ⟨hc, _⟩ | ⟨a, len', cap', m, n, D', Pl, hc, hb, hl, hm, hmm, _, hx⟩
  · simp only [Value.cells, List.cons.injEq, Value.slice.injEq, and_true] at hc
    obtain ⟨rfl, rfl, rfl⟩ := hc
    exact ⟨[], rfl, Nat.le_refl _, ⟨rfl, by simp, fun h => absurd h (Nat.lt_irrefl 0)⟩, fun y hy => by cases hy⟩
  · simp only [Value.cells, List.cons.injEq, Value.slice.injEq, and_true] at hc
    obtain ⟨rfl, rfl, rfl⟩ := hc
    have hml : len ≤ m := by rw [hmm]; split <;> omega
    obtain ⟨V, hV⟩ := choose_lt (n := len) (p := fun i (y : α) => Q y ∧ ∃ cs, cs.length = d.sz ∧ d.K w y cs ∧ ∀ j u, cs[j]? = some u → w.cell? ((a.add (i * d.sz)).add j) = some u) (fun i hi => by
      obtain ⟨cs', h1, h2⟩ := hx i (by omega)
      rw [hsz] at h1
      obtain ⟨_, hlen, hcell⟩ := World.cells?_some h1
      obtain ⟨y, hq, hk⟩ := hel n cs' _ hlen h2
      refine ⟨y, hq, cs', hlen, hk, fun j u hj => ?_⟩
      have hjl : j < d.sz := by rw [← hlen]; exact (List.getElem?_eq_some_iff.1 hj).1
      rw [hcell j hjl, hj])
    refine ⟨(List.range len).map V, by simp, hl, ⟨by simp, by have : maxLen = 9223372036854775807 := rfl; omega, fun _ => ⟨a, rfl, fun j y hj => ?_⟩⟩, fun y hy => ?_⟩
    · rw [List.getElem?_map] at hj
      have hjl : j < len := by
        rcases Nat.lt_or_ge j len with h | h
        · exact h
        · rw [List.getElem?_eq_none (by simpa using h)] at hj; cases hj
      rw [List.getElem?_range hjl] at hj
      injection hj with hj
      subst hj
      obtain ⟨_, cs, h1, h2, h3⟩ := hV j hjl
      exact ⟨cs, h1, h2, fun i u hi => by rw [← Addr.add_add]; exact h3 i u hi⟩
    · obtain ⟨i, hi, rfl⟩ := List.mem_map.1 hy
      exact (hV i (by simpa using hi)).1
instance : Inhabited S46 := ⟨⟨0, 0, 0, 0, 0⟩⟩
theorem open_rows {H : Type} {enc : TypeId × Value → H} {w : World} {base : Nat} {spare : Nat → Bool} {held : Bool} {A : Option Addr} {len cap : Nat} {D : DataW H} {p : List MemPlace} (h : DataW.Trod enc Tryd.prog w base spare held 35 (.slice A len cap) D p) :
    ∃ l : List S46, l.length = len ∧ len ≤ cap ∧ Kd.C k46 w A len l ∧ ∀ y ∈ l, okx y :=
  open_slice_of k46 okx Tryd.underlying35 cells_arr (fun n cs x hl hx => by
    obtain ⟨y, hy, rfl, _⟩ := open_arr_cells hl hx
    exact ⟨y, hy, k46_mk w y⟩) h
end C
end Go.Proofs.YtnegkpnhjgimcaaDoor
end
section
namespace Go.Proofs.YtnegkpnhjgimcaaDoor.setoffOneSided
open Go.ChangeShapes Go.WideShapes Go.ChangeAt Go.RowKit
set_option linter.unusedVariables false
theorem laidOut : laidOutB Tryd.prog = true := by kernel_rfl
set_option maxRecDepth 100000 in
theorem contract (H : Type) (enc : TypeId × Value → H) (W : World) (base : Nat) (args : Array Value) (ds gs : List (DataW H)) (before : List MemPlace)
    (hval : ∀ (j : Nat) t v, Tryd.f9.params[j]? = some t → args[j]? = some v → Value.okWide Tryd.prog W .any base t v)
    (hW : DataW.Whole enc Tryd.prog Tryd.f9.params.toList Rows.setoffOneSidedSpec.vars false W args.toList ds gs before) :
    Calls Tryd.prog 9 args W fun e W' => ∃ v, e = .returned v ∧ Rows.setoffOneSidedSpec.post enc Tryd.prog Tryd.f9 false true false false W args v W' := by
  have hW' := hW
  obtain ⟨p, q, hA0, hV, rfl, hfz, hnd⟩ := hW
  have hA : DataW.TrodAll enc Tryd.prog W 0 (fun _ => true) true Tryd.f9.params.toList args.toList ds p := hA0
  rw [Tryd.params9] at hA hval
  obtain ⟨v0, vs0, d0, ds0, p0, q0, hargs, rfl, rfl, h0, r0⟩ := trodAll_cons hA
  obtain ⟨v1, vs1, d1, ds1, p1, q1, rfl, rfl, rfl, h1, r1⟩ := trodAll_cons r0
  obtain ⟨v2, vs2, d2, ds2, p2, q2, rfl, rfl, rfl, h2, r2⟩ := trodAll_cons r1
  obtain ⟨v3, vs3, d3, ds3, p3, q3, rfl, rfl, rfl, h3, r3⟩ := trodAll_cons r2
  obtain ⟨v4, vs4, d4, ds4, p4, q4, rfl, rfl, rfl, h4, r4⟩ := trodAll_cons r3
  obtain ⟨rfl, rfl, rfl⟩ := trodAll_nil r4
  obtain rfl : args = #[v0, v1, v2, v3, v4] := by cases args; simp_all
  obtain ⟨rfl, rfl⟩ := trodVars_none hV
  obtain ⟨A0, len0, cap0, rfl⟩ := okWide_slice Tryd.underlying35 (hval 0 35 v0 rfl rfl)
  have k0 := h0
  have lt0 : ∀ x ∈ p0, x.block < W.heap.size := by obtain ⟨m, hm⟩ := k0; exact DataW.trod_lt m _ _ _ hm
  obtain ⟨l0, hl0, hc0, hr0, ho0⟩ := C.open_rows h0
  subst hl0
  obtain ⟨a1, rfl, rfl, rfl, w1⟩ := open_int Tryd.underlying5 (hval 1 5 v1 rfl rfl) h1
  obtain ⟨a2, rfl, rfl, rfl, w2⟩ := open_int Tryd.underlying5 (hval 2 5 v2 rfl rfl) h2
  obtain ⟨a3, rfl, rfl, rfl, w3⟩ := open_int Tryd.underlying5 (hval 3 5 v3 rfl rfl) h3
  obtain ⟨a4, rfl, rfl, rfl, w4⟩ := open_int Tryd.underlying5 (hval 4 5 v4 rfl rfl) h4
  clear hA0
  obtain ⟨k_, hk_⟩ := Pure.SetoffOneSided l0 a1 a2 a3 a4 ho0 (bounds_u8 w1) (bounds_u8 w2) (bounds_u8 w3) (bounds_u8 w4)
  refine (C.oS'.calls k_ A0 cap0 l0 a1 a2 a3 a4 true W hr0 hc0 hk_).mono fun e W' ⟨he, bel⟩ => ?_
  subst he
  exact ⟨_, rfl, _, _, _, [], _, [], hW', trodAll_mk1 (shut_bool Tryd.underlying4 _), (trodAll_cons_mk (Below.trod laidOut (by kernel_rfl) (of_decide_eq_true (by kernel_rfl)) k0 bel lt0) (trodAll_cons_mk (shut_int Tryd.underlying5 w1) (trodAll_cons_mk (shut_int Tryd.underlying5 w2) (trodAll_cons_mk (shut_int Tryd.underlying5 w3) (trodAll_cons_mk (shut_int Tryd.underlying5 w4) trodAll_mk0))))), rfl, bel.frame _, fun h => by cases h⟩
theorem reads (os : Os) {H : Type} (enc : TypeId × Value → H) : ∃ places, DataW.whole enc Tryd.prog ((laidWorld os).forCall (fun _ _ => 0) ⟨#[], #[.slice none 0 0, .int .u8 0, .int .u8 0, .int .u8 0, .int .u8 0], []⟩).memory Tryd.f9.params.toList Rows.setoffOneSidedSpec.vars false (#[.slice none 0 0, .int .u8 0, .int .u8 0, .int .u8 0, .int .u8 0] : Array Value).toList 8 = some ([.nil, .lit (.int .u8 0), .lit (.int .u8 0), .lit (.int .u8 0), .lit (.int .u8 0)], [], places) :=
  ⟨[], by kernel_rfl⟩
set_option maxRecDepth 100000 in
theorem lifted (os : Os) (started : os.Started) (H : Type) (enc : TypeId × Value → H) (F : Stop.Interp) :
    ReturnsInHanded {} Tryd.checked os 9 .any ((OpenSpec.ofChange Rows.setoffOneSidedSpec).preRow enc Tryd.prog Tryd.f9 Rows.setoffOneSidedRow.domain false Rows.setoffOneSidedRow.laid) (((OpenSpec.ofChange Rows.setoffOneSidedSpec).at F).post enc Tryd.prog Tryd.f9 false true false false) := by
  obtain ⟨places, hx⟩ := reads os enc
  refine returnsInHanded_of_row (C := Tryd.checked) (s := OpenSpec.ofChange Rows.setoffOneSidedSpec) own started (by kernel_rfl) Tryd.func9
    (witness_row_at (enc := enc) (C := Tryd.checked) false (laidWorld os) #[.slice none 0 0, .int .u8 0, .int .u8 0, .int .u8 0, .int .u8 0] rfl (by kernel_rfl) (by kernel_rfl) (by kernel_rfl)
      (OpenSpec.preRow_of_cond 8 hx (by kernel_rfl) (fun k hk => by cases hk) (by kernel_rfl) (laid_met os _))) ?_
  intro W base args ds gs before hval hW _ _ _ _ _ _
  exact contract H enc W base args ds gs before hval hW
theorem said : Rows.SetoffOneSidedSaid :=
  OpenClaim.holds_of_cond 9 Tryd.f9 rfl rfl rfl rfl rfl rfl rfl ⟨rfl, rfl, rfl, rfl, rfl⟩ rfl rfl rfl rfl rfl (by kernel_rfl) Tryd.func9 (by kernel_rfl)
    (of_decide_eq_true (by kernel_rfl)) (by unfold Func.isWrapper; first | (rw [if_pos (by decide +kernel)]; kernel_rfl) | (rw [if_neg (by decide +kernel)]; exact ⟨rfl, rfl⟩))
    (fun os started H enc _ F => by rw [OpenClaim.pre_eq_preRow]; exact lifted os started H enc F)
theorem plain (f : FuncId) (fn : Func) (hf : Tryd.pinned.checked.prog.funcNamed "insolvency/insolvencylaw14.SetoffOneSided" = some f) (hfn : Tryd.pinned.checked.prog.funcs[f]? = some fn) :
    false = Tryd.pinned.checked.prog.looks [] ∧ ∀ (j : Nat) t, fn.params[j]? = some t → Tryd.pinned.checked.prog.wantsStandIn t = false := by
  obtain rfl : f = 9 := Option.some.inj ((show Tryd.prog.funcNamed "insolvency/insolvencylaw14.SetoffOneSided" = some 9 by kernel_rfl).symm.trans hf) |>.symm
  obtain rfl : fn = Tryd.f9 := (Option.some.inj (Tryd.func9.symm.trans hfn)).symm
  refine ⟨by kernel_rfl, fun j t ht => ?_⟩
  rw [Tryd.params9] at ht
  have hm := Array.mem_of_getElem? ht
  simp at hm
  rcases hm with rfl | rfl
  · exact (show Tryd.prog.wantsStandIn 35 = false by kernel_rfl)
  · exact (show Tryd.prog.wantsStandIn 5 = false by kernel_rfl)
end Go.Proofs.YtnegkpnhjgimcaaDoor.setoffOneSided
namespace Go.Proofs.YtnegkpnhjgimcaaDoor
theorem setoffOneSided_card : Rows.SetoffOneSidedCardSaid :=
  Claim7.holds_tied_plain_at .later [] _ _ _ _ setoffOneSided.said (fun _ h => by cases h) (by kernel_rfl) (fun _ h => by cases h) setoffOneSided_row_tie rfl ⟨rfl, rfl⟩ (by kernel_rfl) rfl setoffOneSided.plain (by kernel_rfl)
#print axioms setoffOneSided_card
end Go.Proofs.YtnegkpnhjgimcaaDoor
end
