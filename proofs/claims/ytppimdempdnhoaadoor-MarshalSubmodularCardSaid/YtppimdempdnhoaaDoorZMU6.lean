/- The law MarshalSubmodular returns true for every input: adding a claim raises the capacity of a set at least as much as that of a larger set. The tied card, with no condition beyond the card's own. -/
import Derived.Deep.Slices
import Derived.ChangeArms
import Derived.SevenTiedAt
import Derived.Test.YtppimdempdnhoaaDoorZMU5
section
set_option linter.unusedVariables false
set_option linter.unusedSimpArgs false
namespace Go.Proofs.YtppimdempdnhoaaDoor.C
open Go.RowKit Go.PrWords Go.PrLast Go.PrMore
theorem ow64 {x : Int} (h0 : -9223372036854775808 ≤ x) (h1 : x < 9223372036854775808) : wrap64 x = x := by
  unfold wrap64; omega
theorem u16w {x : Int} (h0 : 0 ≤ x) (h1 : x < 65536) : IntKind.u16.wrap x = x := by
  simp [IntKind.wrap, IntKind.bits, IntKind.signed]; omega
set_option maxRecDepth 100000 in
theorem ratio_tab : ∀ a : Fin 23, ∀ b : Fin 6, (l0_Ratio.f 60 ((a : Nat) : Int) (1 + ((b : Nat) : Int))).isSome = true := by decide +kernel
set_option maxRecDepth 100000 in
theorem whole_tab : ∀ a : Fin 31, (l0_Whole.f 60 ((a : Nat) : Int)).isSome = true := by decide +kernel
def amtB (x : Int) : Bool × ByteArray × ByteArray :=
  if x % 5 = 0 then (l0_Ratio.f 60 (x / 5 % 23) (1 + x / 115 % 6)).getD (false, ⟨#[]⟩, ⟨#[]⟩)
  else if x % 5 = 1 then (l0_Whole.f 60 (10 * (x / 5 % 4))).getD (false, ⟨#[]⟩, ⟨#[]⟩)
  else (l0_Whole.f 60 (x / 5 % 13)).getD (false, ⟨#[]⟩, ⟨#[]⟩)
theorem ratio_ev {a b : Int} (ha : 0 ≤ a ∧ a < 23) (hb : 0 ≤ b ∧ b < 6) : Ev (fun k => l0_Ratio.f k a (1 + b)) ((l0_Ratio.f 60 a (1 + b)).getD (false, ⟨#[]⟩, ⟨#[]⟩)) := by
  have h := ratio_tab ⟨a.toNat, by omega⟩ ⟨b.toNat, by omega⟩
  simp only [Int.toNat_of_nonneg ha.1, Int.toNat_of_nonneg hb.1] at h
  obtain ⟨v, hv⟩ := Option.isSome_iff_exists.1 h
  rw [hv]
  exact Ev.of (l0_Ratio.mono _ _) hv
theorem whole_ev {a : Int} (ha : 0 ≤ a ∧ a < 31) : Ev (fun k => l0_Whole.f k a) ((l0_Whole.f 60 a).getD (false, ⟨#[]⟩, ⟨#[]⟩)) := by
  have h := whole_tab ⟨a.toNat, by omega⟩
  simp only [Int.toNat_of_nonneg ha.1] at h
  obtain ⟨v, hv⟩ := Option.isSome_iff_exists.1 h
  rw [hv]
  exact Ev.of (l0_Whole.mono _) hv
theorem amount_ev (x : Int) (h0 : 0 ≤ x) (h1 : x < 65536) : Ev (fun k => l0_Amount.f k x) (amtB x) := by
  have e5 : Int.tmod x 5 = x % 5 := Int.tmod_eq_emod_of_nonneg h0
  have d5 : Int.tdiv x 5 = x / 5 := Int.tdiv_eq_ediv_of_nonneg h0
  have d115 : Int.tdiv x 115 = x / 115 := Int.tdiv_eq_ediv_of_nonneg h0
  have w5 : IntKind.u16.wrap (x / 5) = x / 5 := u16w (by omega) (by omega)
  have w115 : IntKind.u16.wrap (x / 115) = x / 115 := u16w (by omega) (by omega)
  have m23 : Int.tmod (x / 5) 23 = x / 5 % 23 := Int.tmod_eq_emod_of_nonneg (by omega)
  have m6 : Int.tmod (x / 115) 6 = x / 115 % 6 := Int.tmod_eq_emod_of_nonneg (by omega)
  have m4 : Int.tmod (x / 5) 4 = x / 5 % 4 := Int.tmod_eq_emod_of_nonneg (by omega)
  have m13 : Int.tmod (x / 5) 13 = x / 5 % 13 := Int.tmod_eq_emod_of_nonneg (by omega)
  unfold l0_Amount.f amtB
  simp only [e5, d5, d115, w5, w115, m23, m6, m4, m13]
  by_cases c0 : x % 5 = 0
  · simp only [if_pos c0]
    rw [ow64 (x := x / 5 % 23) (by omega) (by omega), ow64 (x := x / 115 % 6) (by omega) (by omega), ow64 (x := 1 + x / 115 % 6) (by omega) (by omega)]
    exact Ev.bind (ratio_ev (by omega) (by omega)) (Ev.now _)
  · simp only [if_neg c0]
    by_cases c1 : x % 5 = 1
    · simp only [if_pos c1]
      rw [ow64 (x := x / 5 % 4) (by omega) (by omega), ow64 (x := 10 * (x / 5 % 4)) (by omega) (by omega)]
      exact Ev.bind (whole_ev (by omega)) (Ev.now _)
    · simp only [if_neg c1]
      rw [ow64 (x := x / 5 % 13) (by omega) (by omega)]
      exact Ev.bind (whole_ev (by omega)) (Ev.now _)
def sz (z : Int) : S32 := ⟨(e3 z).1, (e3 z).2.1, (e3 z).2.2⟩
theorem e3_zero : e3 0 = (false, ⟨#[]⟩, ⟨#[]⟩) := by
  have h : T 0 = 0 := T_zero
  unfold e3
  rw [h]
  have e : eA 0 = (⟨#[]⟩ : ByteArray) := enc_zero
  rw [e]; rfl
def Nn (zs : List Int) : Prop := ∀ z ∈ zs, 0 ≤ z ∧ z ≤ 1000000000000
theorem Nn.at_ {zs : List Int} (h : Nn zs) (i : Nat) : 0 ≤ zs.getD i 0 ∧ zs.getD i 0 ≤ 1000000000000 := by
  rw [List.getD_eq_getElem?_getD]
  by_cases hi : i < zs.length
  · rw [List.getElem?_eq_getElem hi]; exact h _ (List.getElem_mem hi)
  · rw [List.getElem?_eq_none (by omega)]; decide
theorem rd_sz (zs : List Int) (i : Int) (h0 : 0 ≤ i) (h1 : i < (zs.length : Int)) : r32_ (zs.map sz) i = sz (zs.getD i.toNat 0) := by
  unfold r32_
  rw [List.getD_eq_getElem?_getD, List.getElem?_map, List.getD_eq_getElem?_getD, List.getElem?_eq_getElem (show i.toNat < zs.length by omega)]; rfl
theorem mod_of {z : Int} (h0 : 0 ≤ z) (h1 : z ≤ 100000000000000000) : Mod z := by unfold Mod; omega
theorem aw64 {x : Int} (h0 : -9223372036854775808 ≤ x) (h1 : x < 9223372036854775808) : wrap64 x = x := by
  unfold wrap64; omega
theorem rd_at (I : List Int) (j : Nat) (h : j < I.length) : rd I (j : Int) = I[j] := by
  unfold rd
  rw [Int.toNat_natCast, List.getD_eq_getElem?_getD, List.getElem?_eq_getElem h]; rfl
theorem Sign_z {z : Int} (h : Mod z) : Ev (fun k => q_Sign.f k (sz z).f0 (sz z).f1 (sz z).f2) (if z < 0 then -1 else if 0 < z then 1 else 0) := by
  unfold q_Sign.f
  have g : Ev (fun _ => q_signOf.f (e3 z).1 (e3 z).2.1 (e3 z).2.2) (if z < 0 then -1 else if 0 < z then 1 else 0) := by rw [signOf_z]; exact Ev.now _
  exact Ev.bind (clean_z h) (Ev.bind g (Ev.now _))
def encS (n : Nat) : ByteArray := if n = 0 then ⟨#[]⟩ else ⟨#[n.toUInt8]⟩
def dS (d : Nat) : ByteArray := if d = 1 then ⟨#[]⟩ else encS d
theorem enc_encS {n : Nat} (h : n < 256) : enc n = encS n := by
  unfold encS
  by_cases h0 : n = 0
  · rw [if_pos h0, h0, enc_zero]
  · rw [if_neg h0]
    unfold enc
    rw [dig_pos h0, Nat.div_eq_of_lt h, dig_zero]
    have : n % 256 = n := Nat.mod_eq_of_lt h
    simp [this]
theorem e3_nat (z : Nat) (h : z / Nat.gcd z 60 < 256) : e3 (z : Int) = (false, encS (z / Nat.gcd z 60), dS (60 / Nat.gcd z 60)) := by
  by_cases h0 : z = 0
  · subst h0
    rw [show ((0 : Nat) : Int) = 0 from rfl, e3_zero]; rfl
  · obtain ⟨h1, h2, h3⟩ := e_mk false z 60 h0 (by decide)
    have e : mkRat (sgn false z) 60 = T (z : Int) := rfl
    rw [e] at h1 h2 h3
    unfold e3
    rw [h1, h2, h3, enc_encS h]
    have : dE (60 / Nat.gcd z 60) = dS (60 / Nat.gcd z 60) := by
      unfold dE dS
      split
      · rfl
      · exact enc_encS (Nat.lt_of_le_of_lt (Nat.div_le_self _ _) (by decide))
    rw [this]
set_option maxRecDepth 100000 in
theorem ratio_val : ∀ a : Fin 23, ∀ b : Fin 6, l0_Ratio.f 60 ((a : Nat) : Int) (1 + ((b : Nat) : Int)) = some (false, encS ((60 * (a : Nat) / (1 + (b : Nat))) / Nat.gcd (60 * (a : Nat) / (1 + (b : Nat))) 60), dS (60 / Nat.gcd (60 * (a : Nat) / (1 + (b : Nat))) 60)) ∧ (60 * (a : Nat) / (1 + (b : Nat))) / Nat.gcd (60 * (a : Nat) / (1 + (b : Nat))) 60 < 256 := by decide +kernel
set_option maxRecDepth 100000 in
theorem whole_val : ∀ a : Fin 31, l0_Whole.f 60 ((a : Nat) : Int) = some (false, encS ((60 * (a : Nat)) / Nat.gcd (60 * (a : Nat)) 60), dS (60 / Nat.gcd (60 * (a : Nat)) 60)) ∧ (60 * (a : Nat)) / Nat.gcd (60 * (a : Nat)) 60 < 256 := by decide +kernel
def amtZ (x : Int) : Int := if x % 5 = 0 then 60 * (x / 5 % 23) / (1 + x / 115 % 6) else if x % 5 = 1 then 60 * (10 * (x / 5 % 4)) else 60 * (x / 5 % 13)
theorem ratio_z {a b : Int} (ha : 0 ≤ a ∧ a < 23) (hb : 0 ≤ b ∧ b < 6) : (l0_Ratio.f 60 a (1 + b)).getD (false, ⟨#[]⟩, ⟨#[]⟩) = e3 (60 * a / (1 + b)) := by
  obtain ⟨h1, h2⟩ := ratio_val ⟨a.toNat, by omega⟩ ⟨b.toNat, by omega⟩
  simp only [Int.toNat_of_nonneg ha.1, Int.toNat_of_nonneg hb.1] at h1 h2
  have e : 60 * a / (1 + b) = ((60 * a.toNat / (1 + b.toNat) : Nat) : Int) := by
    rw [Int.natCast_ediv, Int.natCast_mul, Int.natCast_add, Int.toNat_of_nonneg ha.1, Int.toNat_of_nonneg hb.1]; rfl
  rw [h1, e, e3_nat _ h2]; rfl
theorem whole_z {a : Int} (ha : 0 ≤ a ∧ a < 31) : (l0_Whole.f 60 a).getD (false, ⟨#[]⟩, ⟨#[]⟩) = e3 (60 * a) := by
  obtain ⟨h1, h2⟩ := whole_val ⟨a.toNat, by omega⟩
  simp only [Int.toNat_of_nonneg ha.1] at h1 h2
  have e : 60 * a = ((60 * a.toNat : Nat) : Int) := by omega
  rw [h1, e, e3_nat _ h2]; rfl
theorem amtB_z (x : Int) (h0 : 0 ≤ x) : amtB x = e3 (amtZ x) := by
  unfold amtB amtZ
  by_cases c0 : x % 5 = 0
  · rw [if_pos c0, if_pos c0]; exact ratio_z (by omega) (by omega)
  · rw [if_neg c0, if_neg c0]
    by_cases c1 : x % 5 = 1
    · rw [if_pos c1, if_pos c1]; exact whole_z (by omega)
    · rw [if_neg c1, if_neg c1]; exact whole_z (by omega)
theorem amtZ_bound (x : Int) (h0 : 0 ≤ x) : 0 ≤ amtZ x ∧ amtZ x ≤ 1000000000000 := by
  unfold amtZ
  split
  · refine ⟨Int.ediv_nonneg (by omega) (by omega), ?_⟩
    have := Int.ediv_le_self (b := 1 + x / 115 % 6) (show 0 ≤ 60 * (x / 5 % 23) by omega)
    omega
  · split <;> omega
theorem Compare0_z {z : Int} (hz : Mod z) : Ev (fun k => q_Compare.f k (e3 z).1 (e3 z).2.1 (e3 z).2.2 (e3 0).1 (e3 0).2.1 (e3 0).2.2) (icmp z 0) := by
  by_cases h : 0 ≤ z
  · exact Compare_z hz (mod_of (by omega) (by omega)) h (by omega)
  · unfold q_Compare.f
    refine Ev.bind (clean_z hz) (Ev.bind (clean_z (mod_of (by omega) (by omega))) ?_)
    have g1 : Ev (fun _ => q_signOf.f (e3 z).1 (e3 z).2.1 (e3 z).2.2) (-1) := by rw [signOf_z, if_pos (by omega)]; exact Ev.now _
    have g2 : Ev (fun _ => q_signOf.f (e3 0).1 (e3 0).2.1 (e3 0).2.2) 0 := by rw [signOf_z]; exact Ev.now _
    refine Ev.bind g1 (Ev.bind g2 ?_)
    rw [icmp_lt (by omega)]
    exact Ev.now _
theorem positive_z {z : Int} (hz : Mod z) : Ev (fun k => collateral_positive.f k (e3 z).1 (e3 z).2.1 (e3 z).2.2) (e3 (if 0 ≤ z then z else 0)) := by
  unfold collateral_positive.f q_Max.f
  have hc := Compare0_z hz
  rw [show e3 0 = (false, ⟨#[]⟩, ⟨#[]⟩) from e3_zero] at hc
  have hm : Ev (fun k => (q_Compare.f k (e3 z).1 (e3 z).2.1 (e3 z).2.2 false ⟨#[]⟩ ⟨#[]⟩).bind fun t => if t ≥ 0 then (q_clean.f k (e3 z).1 (e3 z).2.1 (e3 z).2.2).bind fun b => some (b.1, b.2.1, b.2.2) else (q_clean.f k false ⟨#[]⟩ ⟨#[]⟩).bind fun b => some (b.1, b.2.1, b.2.2)) (e3 (if 0 ≤ z then z else 0)) := by
    refine Ev.bind hc ?_
    by_cases h : 0 ≤ z
    · have h1 : icmp z 0 ≥ 0 := by
        rcases Int.lt_or_eq_of_le h with h | h
        · rw [icmp_gt h]; decide
        · rw [icmp_eq h.symm]; decide
      simp only [if_pos h1, if_pos h]
      exact Ev.bind (clean_z hz) (Ev.now _)
    · have h1 : ¬ icmp z 0 ≥ 0 := by rw [icmp_lt (by omega)]; decide
      simp only [if_neg h1, if_neg h]
      have := clean_z (z := 0) (mod_of (by omega) (by omega))
      rw [show e3 0 = (false, ⟨#[]⟩, ⟨#[]⟩) from e3_zero] at this ⊢
      exact Ev.bind this (Ev.now _)
  exact Ev.bind hm (Ev.now _)
def prz (p c : Int) : Int := if 0 ≤ p - c then p - c else 0
theorem Proceeds_z {p c : Int} (p0 : 0 ≤ p ∧ p ≤ 1000000000000) (c0 : 0 ≤ c ∧ c ≤ 1000000000000) (L : List S52) : Ev (fun k => collateral_Proceeds.f k (e3 p).1 (e3 p).2.1 (e3 p).2.2 (e3 c).1 (e3 c).2.1 (e3 c).2.2 L) (e3 (prz p c)) := by
  unfold collateral_Proceeds.f
  have h1 := positive_z (mod_of p0.1 (by omega))
  have h2 := positive_z (mod_of c0.1 (by omega))
  rw [if_pos p0.1] at h1
  rw [if_pos c0.1] at h2
  have h3 := Subtract_z (mod_of p0.1 (by omega)) (mod_of c0.1 (by omega))
  have hm : Mod (p - c) := by unfold Mod; omega
  have h4 := positive_z hm
  exact Ev.bind h1 (Ev.bind h2 (Ev.bind h3 (Ev.bind h4 (Ev.now _))))
theorem prz_bound {p c : Int} (p0 : 0 ≤ p ∧ p ≤ 1000000000000) (c0 : 0 ≤ c ∧ c ≤ 1000000000000) : 0 ≤ prz p c ∧ prz p c ≤ 1000000000000 := by unfold prz; split <;> omega
theorem amounts_list (L : List Int) (hL : ∀ x ∈ L, 0 ≤ x ∧ x < 65536) (n : Nat) (hn : n ≤ 1000) : ∀ (r i : Nat), i + r = min L.length n → Ev (fun k => l0_Amounts.l0 k L (n : Int) (((L.take i).map amtZ).map sz) (i : Int)) (((L.take n).map amtZ).map sz) := by
  intro r
  induction r with
  | zero =>
    intro i hi
    have ht : L.take i = L.take n := by
      rcases Nat.le_total L.length n with h | h
      · rw [List.take_of_length_le (by omega), List.take_of_length_le h]
      · rw [show i = n by omega]
    rw [ht]
    refine Ev.step (f := fun _ => some (((L.take n).map amtZ).map sz)) (fun k => ?_) (Ev.now _)
    simp only [l0_Amounts.l0]
    by_cases h : i < L.length
    · rw [if_pos (by omega), if_neg (by omega)]
    · rw [if_neg (by omega)]
  | succ r ih =>
    intro i hi
    have hil : i < L.length := by omega
    have hx := hL _ (List.getElem_mem hil)
    have hr := ih (i + 1) (by omega)
    have ha := amount_ev L[i] hx.1 hx.2
    rw [amtB_z _ hx.1] at ha
    have hlen : (((L.take i).map amtZ).map sz).length < 3518437208883 := by rw [List.length_map, List.length_map, List.length_take]; omega
    rw [List.take_add_one, List.getElem?_eq_getElem hil, List.map_append, List.map_append] at hr
    refine Ev.step (f := fun k => (l0_Amount.f k L[i]).bind fun b => l0_Amounts.l0 k L (n : Int) (((L.take i).map amtZ).map sz ++ [⟨b.1, b.2.1, b.2.2⟩]) ((i + 1 : Nat) : Int)) (fun k => ?_) (Ev.bind ha hr)
    simp only [l0_Amounts.l0, if_pos hlen]
    rw [if_pos (by omega), if_pos (by omega), if_pos (by omega), rd_at L i hil, aw64 (by omega) (by omega)]
    rfl
theorem amounts_law (L : List Int) (hL : ∀ x ∈ L, 0 ≤ x ∧ x < 65536) : Ev (fun k => l0_Amounts.f k L 6) (((L.take 6).map amtZ).map sz) := by
  unfold l0_Amounts.f
  exact amounts_list L hL 6 (by decide) (min L.length 6) 0 (by omega)
theorem amounts_Nn {L : List Int} (hL : ∀ x ∈ L, 0 ≤ x ∧ x < 65536) : Nn ((L.take 6).map amtZ) := fun z hz => by
  obtain ⟨x, hx, rfl⟩ := List.mem_map.1 hz
  exact amtZ_bound _ (hL x (List.mem_of_mem_take hx)).1
end Go.Proofs.YtppimdempdnhoaaDoor.C
namespace Go.Proofs.YtppimdempdnhoaaDoor.C
open Go.RowKit Go.PrWords Go.PrLast Go.PrMore
def ok6 (x : S46) : Prop := (0 ≤ x.f0 ∧ x.f0 < 65536) ∧ (0 ≤ x.f1 ∧ x.f1 < 65536) ∧ (0 ≤ x.f2 ∧ x.f2 < 65536) ∧ (0 ≤ x.f3 ∧ x.f3 < 65536) ∧ (0 ≤ x.f4 ∧ x.f4 < 65536) ∧ (0 ≤ x.f5 ∧ x.f5 < 65536)
def ys6 (x : S46) : List Int := [x.f2, x.f3, x.f4, x.f5]
def chOf (m y : Int) : List S52 :=
  if m = 0 then [] else if y % 4 = 0 then [] else if y % 4 = 1 then [⟨y / 4 % m, y / 32 % 3, true, sz (60 * (y / 96 % 12))⟩] else [⟨y / 4 % m, y / 32 % 3, false, sz 0⟩]
def chs (m : Int) (x : S46) : List S52 := (ys6 x).flatMap (chOf m)
def itm (m : Int) (x : S46) : S50 := ⟨sz (amtZ x.f0), sz (60 * (x.f1 % 4)), chs m x⟩
theorem chOf_length (m y : Int) : (chOf m y).length ≤ 1 := by
  unfold chOf
  repeat' split
  all_goals simp
theorem flat_length (m : Int) (l : List Int) : (l.flatMap (chOf m)).length ≤ l.length := by
  induction l with
  | nil => simp
  | cons y l ih => have := chOf_length m y; simp only [List.flatMap_cons, List.length_append, List.length_cons]; omega
theorem sz_zero : sz 0 = z32 := by unfold sz; rw [e3_zero]; rfl
theorem itemsI (L : List S46) (m : Int) (m0 : 0 ≤ m ∧ m ≤ 1000) (x : S46) (hx : ok6 x) (X : List S50) (hX : X.length ≤ 1000) (i : Nat) (hi : i ≤ 1000) {R : List S50}
    (h : Ev (fun k => l0_Items.l0 k L m (X ++ [itm m x]) ((i + 1 : Nat) : Int)) R) : ∀ (r j : Nat) (acc : List S52), j + r = 4 → acc.length ≤ j → acc ++ ((ys6 x).drop j).flatMap (chOf m) = chs m x →
    Ev (fun k => l0_Items.l1 k L m X (i : Int) (j : Int) x.f0 x.f1 x.f2 x.f3 x.f4 x.f5 (e3 (amtZ x.f0)).1 (e3 (amtZ x.f0)).2.1 (e3 (amtZ x.f0)).2.2 (e3 (60 * (x.f1 % 4))).1 (e3 (60 * (x.f1 % 4))).2.1 (e3 (60 * (x.f1 % 4))).2.2 acc) R := by
  have hend : ∀ (j : Nat) (acc : List S52), acc = chs m x → Ev (fun k => l0_Items.j3 k L m X (i : Int) (j : Int) false x.f0 x.f1 x.f2 x.f3 x.f4 x.f5 (e3 (amtZ x.f0)).1 (e3 (amtZ x.f0)).2.1 (e3 (amtZ x.f0)).2.2 (e3 (60 * (x.f1 % 4))).1 (e3 (60 * (x.f1 % 4))).2.1 (e3 (60 * (x.f1 % 4))).2.2 acc) R := by
    intro j acc ha
    subst ha
    refine Ev.step (f := fun k => l0_Items.l0 k L m (X ++ [itm m x]) ((i + 1 : Nat) : Int)) (fun k => ?_) h
    simp only [l0_Items.j3]
    rw [if_neg (by decide), if_pos (by omega), aw64 (by omega) (by omega)]
    rfl
  intro r
  induction r with
  | zero =>
    intro j acc hj hl ha
    obtain rfl : j = 4 := by omega
    have ha' : acc = chs m x := by rw [← ha]; simp [ys6]
    refine Ev.step (f := fun k => l0_Items.j3 k L m X (i : Int) ((4 : Nat) : Int) false x.f0 x.f1 x.f2 x.f3 x.f4 x.f5 (e3 (amtZ x.f0)).1 (e3 (amtZ x.f0)).2.1 (e3 (amtZ x.f0)).2.2 (e3 (60 * (x.f1 % 4))).1 (e3 (60 * (x.f1 % 4))).2.1 (e3 (60 * (x.f1 % 4))).2.2 acc) (fun k => ?_) (hend 4 acc ha')
    simp only [l0_Items.l1]
    rw [if_neg (by omega)]
  | succ r ih =>
    intro j acc hj hl ha
    refine Ev.step (f := fun k => l0_Items.j3 k L m X (i : Int) (j : Int) (decide (m > 0)) x.f0 x.f1 x.f2 x.f3 x.f4 x.f5 (e3 (amtZ x.f0)).1 (e3 (amtZ x.f0)).2.1 (e3 (amtZ x.f0)).2.2 (e3 (60 * (x.f1 % 4))).1 (e3 (60 * (x.f1 % 4))).2.1 (e3 (60 * (x.f1 % 4))).2.2 acc) (fun k => ?_) ?_
    · simp only [l0_Items.l1]
      rw [if_pos (by omega)]
    · by_cases hm : m > 0
      · rw [decide_eq_true hm]
        have hyl : (ys6 x).length = 4 := rfl
        obtain ⟨y, hy⟩ : ∃ y, (ys6 x).getD j 0 = y := ⟨_, rfl⟩
        have hyb : 0 ≤ y ∧ y < 65536 := by
          obtain ⟨_, _, h2, h3, h4, h5⟩ := hx
          rw [← hy]
          have : j = 0 ∨ j = 1 ∨ j = 2 ∨ j = 3 := by omega
          rcases this with h | h | h | h <;> subst h
          · exact h2
          · exact h3
          · exact h4
          · exact h5
        have hat : arr6_at.f x.f0 x.f1 x.f2 x.f3 x.f4 x.f5 (2 + (j : Int)) = some y := by
          unfold arr6_at.f
          rw [if_pos (by omega), ← hy]
          have : j = 0 ∨ j = 1 ∨ j = 2 ∨ j = 3 := by omega
          rcases this with h | h | h | h <;> subst h <;> rfl
        have hd : (ys6 x).drop j = y :: (ys6 x).drop (j + 1) := by
          rw [List.drop_eq_getElem_cons (by omega), ← hy, List.getD_eq_getElem?_getD, List.getElem?_eq_getElem (by omega)]; rfl
        rw [hd, List.flatMap_cons, ← List.append_assoc] at ha
        have hcl := chOf_length m y
        have hr := ih (j + 1) (acc ++ chOf m y) (by omega) (by rw [List.length_append]; omega) ha
        have hm0 : ¬ m = 0 := by omega
        have hal : acc.length < 2199023255552 := by omega
        have b12 : 0 ≤ y / 96 % 12 ∧ y / 96 % 12 < 31 := by omega
        have n96 : 0 ≤ y / 96 := by omega
        have n4 : 0 ≤ y / 4 := by omega
        have n32 : 0 ≤ y / 32 := by omega
        have k96 : y / 96 < 65536 := by omega
        have k4 : y / 4 < 65536 := by omega
        have k32 : y / 32 < 65536 := by omega
        have tw : ∀ z : Int, 0 ≤ z → z < 65536 → wrap64 z = z := fun z h0 h1 => aw64 (by omega) (by omega)
        have g1 : 0 ≤ 2 + (j : Int) := by omega
        have g2 : 2 + (j : Int) < 65536 := by omega
        have g3 : 0 ≤ (j : Int) + 1 := by omega
        have g4 : (j : Int) + 1 < 65536 := by omega
        have hwj : wrap64 (2 + (j : Int)) = 2 + (j : Int) := tw _ g1 g2
        have hwj1 : wrap64 ((j : Int) + 1) = ((j + 1 : Nat) : Int) := (tw _ g3 g4).trans rfl
        have e4 : Int.tmod y 4 = y % 4 := Int.tmod_eq_emod_of_nonneg hyb.1
        have d96 : Int.tdiv y 96 = y / 96 := Int.tdiv_eq_ediv_of_nonneg hyb.1
        have d4 : Int.tdiv y 4 = y / 4 := Int.tdiv_eq_ediv_of_nonneg hyb.1
        have d32 : Int.tdiv y 32 = y / 32 := Int.tdiv_eq_ediv_of_nonneg hyb.1
        have w0 : wrap64 y = y := tw _ hyb.1 hyb.2
        have w96 : wrap64 (y / 96) = y / 96 := tw _ n96 k96
        have w4 : wrap64 (y / 4) = y / 4 := tw _ n4 k4
        have w32 : wrap64 (y / 32) = y / 32 := tw _ n32 k32
        have m12 : Int.tmod (y / 96) 12 = y / 96 % 12 := Int.tmod_eq_emod_of_nonneg n96
        have mm : Int.tmod (y / 4) m = y / 4 % m := Int.tmod_eq_emod_of_nonneg n4
        have m3 : Int.tmod (y / 32) 3 = y / 32 % 3 := Int.tmod_eq_emod_of_nonneg n32
        by_cases c0 : y % 4 = 0
        · rw [show chOf m y = [] by unfold chOf; rw [if_neg hm0, if_pos c0], List.append_nil] at hr
          refine Ev.step (f := fun k => l0_Items.l1 k L m X (i : Int) ((j + 1 : Nat) : Int) x.f0 x.f1 x.f2 x.f3 x.f4 x.f5 (e3 (amtZ x.f0)).1 (e3 (amtZ x.f0)).2.1 (e3 (amtZ x.f0)).2.2 (e3 (60 * (x.f1 % 4))).1 (e3 (60 * (x.f1 % 4))).2.1 (e3 (60 * (x.f1 % 4))).2.2 acc) (fun k => ?_) hr
          simp only [l0_Items.j3, if_true]
          rw [hwj, hat, hwj1]
          refine (Option.bind_some _ _).trans ?_
          rw [w0, e4, if_pos c0]
        · by_cases c1 : y % 4 = 1
          · rw [show chOf m y = [⟨y / 4 % m, y / 32 % 3, true, sz (60 * (y / 96 % 12))⟩] by unfold chOf; rw [if_neg hm0, if_neg c0, if_pos c1]] at hr
            have hw := whole_ev (a := y / 96 % 12) b12
            rw [whole_z b12] at hw
            refine Ev.step (f := fun k => (l0_Whole.f k (y / 96 % 12)).bind fun b => l0_Items.l1 k L m X (i : Int) ((j + 1 : Nat) : Int) x.f0 x.f1 x.f2 x.f3 x.f4 x.f5 (e3 (amtZ x.f0)).1 (e3 (amtZ x.f0)).2.1 (e3 (amtZ x.f0)).2.2 (e3 (60 * (x.f1 % 4))).1 (e3 (60 * (x.f1 % 4))).2.1 (e3 (60 * (x.f1 % 4))).2.2 (acc ++ [⟨y / 4 % m, y / 32 % 3, true, ⟨b.1, b.2.1, b.2.2⟩⟩])) (fun k => ?_) (Ev.bind hw hr)
            simp only [l0_Items.j3, if_true]
            rw [hwj, hat, hwj1]
            refine (Option.bind_some _ _).trans ?_
            rw [w0, e4, if_neg c0, if_neg hm0, if_pos c1, d96, w96, m12, d4, w4, mm, d32, w32, m3]
            simp only [if_pos hal]
          · rw [show chOf m y = [⟨y / 4 % m, y / 32 % 3, false, sz 0⟩] by unfold chOf; rw [if_neg hm0, if_neg c0, if_neg c1]] at hr
            refine Ev.step (f := fun k => l0_Items.l1 k L m X (i : Int) ((j + 1 : Nat) : Int) x.f0 x.f1 x.f2 x.f3 x.f4 x.f5 (e3 (amtZ x.f0)).1 (e3 (amtZ x.f0)).2.1 (e3 (amtZ x.f0)).2.2 (e3 (60 * (x.f1 % 4))).1 (e3 (60 * (x.f1 % 4))).2.1 (e3 (60 * (x.f1 % 4))).2.2 (acc ++ [⟨y / 4 % m, y / 32 % 3, false, sz 0⟩])) (fun k => ?_) hr
            simp only [l0_Items.j3, if_true]
            rw [hwj, hat, hwj1]
            refine (Option.bind_some _ _).trans ?_
            rw [w0, e4, if_neg c0, if_neg hm0, if_neg c1, if_pos hal, d4, w4, mm, d32, w32, m3, sz_zero]
            rfl
      · rw [decide_eq_false hm]
        have hm0 : m = 0 := by omega
        have hnil : ∀ l : List Int, l.flatMap (chOf m) = [] := by
          intro l
          induction l with
          | nil => rfl
          | cons y l ih => rw [List.flatMap_cons, ih, show chOf m y = [] by unfold chOf; rw [if_pos hm0]]; rfl
        rw [hnil, List.append_nil] at ha
        exact hend j acc ha
theorem rd6 (L : List S46) (i : Nat) (h : i < L.length) : r46_ L (i : Int) = L[i] := by
  unfold r46_
  rw [Int.toNat_natCast, List.getD_eq_getElem?_getD, List.getElem?_eq_getElem h]; rfl
theorem items_loop (L : List S46) (hL : ∀ x ∈ L, ok6 x) (m : Int) (m0 : 0 ≤ m ∧ m ≤ 1000) : ∀ (r i : Nat), i + r = min L.length 4 → Ev (fun k => l0_Items.l0 k L m ((L.take i).map (itm m)) (i : Int)) ((L.take 4).map (itm m)) := by
  intro r
  induction r with
  | zero =>
    intro i hi
    have ht : L.take i = L.take 4 := by
      rcases Nat.le_total L.length 4 with h | h
      · rw [List.take_of_length_le (by omega), List.take_of_length_le h]
      · rw [show i = 4 by omega]
    have hlast : Ev (fun k => l0_Items.j1 k L m ((L.take i).map (itm m)) (i : Int) false) ((L.take 4).map (itm m)) := by
      rw [ht]
      refine Ev.step (f := fun _ => some ((L.take 4).map (itm m))) (fun k => ?_) (Ev.now _)
      simp only [l0_Items.j1]
      rw [if_neg (by decide)]
    refine Ev.step (f := fun k => l0_Items.j1 k L m ((L.take i).map (itm m)) (i : Int) false) (fun k => ?_) hlast
    simp only [l0_Items.l0]
    by_cases h : i < L.length
    · rw [if_pos (by omega), decide_eq_false (by omega)]
    · rw [if_neg (by omega)]
  | succ r ih =>
    intro i hi
    have hil : i < L.length := by omega
    obtain ⟨x, hx⟩ : ∃ x, L[i] = x := ⟨_, rfl⟩
    have hk : ok6 x := by rw [← hx]; exact hL _ (List.getElem_mem hil)
    have hr := ih (i + 1) (by omega)
    rw [List.take_add_one, List.getElem?_eq_getElem hil, hx, List.map_append] at hr
    have hin := itemsI L m m0 x hk ((L.take i).map (itm m)) (by rw [List.length_map, List.length_take]; omega) i (by omega) hr 4 0 [] (by omega) (by simp) rfl
    have ha := amount_ev x.f0 hk.1.1 hk.1.2
    rw [amtB_z _ hk.1.1] at ha
    have hw := whole_ev (a := x.f1 % 4) (by omega)
    rw [whole_z (by omega)] at hw
    have e1 : Int.tmod x.f1 4 = x.f1 % 4 := Int.tmod_eq_emod_of_nonneg hk.2.1.1
    have hj : Ev (fun k => l0_Items.j1 k L m ((L.take i).map (itm m)) (i : Int) true) ((L.take 4).map (itm m)) := by
      refine Ev.step (f := fun k => (l0_Amount.f k x.f0).bind fun b => (l0_Whole.f k (x.f1 % 4)).bind fun c => l0_Items.l1 k L m ((L.take i).map (itm m)) (i : Int) ((0 : Nat) : Int) x.f0 x.f1 x.f2 x.f3 x.f4 x.f5 b.1 b.2.1 b.2.2 c.1 c.2.1 c.2.2 []) (fun k => ?_) (Ev.bind ha (Ev.bind hw hin))
      simp only [l0_Items.j1, if_true]
      rw [if_pos (by omega), if_pos (by omega), rd6 L i hil, hx, e1, aw64 (x := x.f1 % 4) (by omega) (by omega)]
      rfl
    refine Ev.step (f := fun k => l0_Items.j1 k L m ((L.take i).map (itm m)) (i : Int) true) (fun k => ?_) hj
    simp only [l0_Items.l0]
    rw [if_pos (by omega), decide_eq_true (by omega)]
theorem items_law (L : List S46) (hL : ∀ x ∈ L, ok6 x) (m : Int) (m0 : 0 ≤ m ∧ m ≤ 1000) : Ev (fun k => l0_Items.f k L m) ((L.take 4).map (itm m)) := by
  unfold l0_Items.f
  exact items_loop L hL m m0 (min L.length 4) 0 (by omega)
def OkCh (m : Int) (c : S52) : Prop := (0 ≤ c.f0 ∧ c.f0 < m) ∧ ∃ l : Int, (0 ≤ l ∧ l ≤ 1000000000000) ∧ c.f3 = sz l
def OkIt (m : Int) (x : S50) (p : Int) : Prop := x.f2.length ≤ 4 ∧ (∀ c ∈ x.f2, OkCh m c) ∧ ∃ a c : Int, (0 ≤ a ∧ a ≤ 1000000000000) ∧ (0 ≤ c ∧ c ≤ 1000000000000) ∧ x.f0 = sz a ∧ x.f1 = sz c ∧ p = prz a c
def przI (x : S46) : Int := prz (amtZ x.f0) (60 * (x.f1 % 4))
theorem chOf_ok {m y : Int} (m0 : 0 ≤ m) (h0 : 0 ≤ y) : ∀ c ∈ chOf m y, OkCh m c := by
  unfold chOf
  intro c hc
  by_cases hm : m = 0
  · rw [if_pos hm] at hc; cases hc
  · rw [if_neg hm] at hc
    have b1 := Int.emod_nonneg (y / 4) hm
    have b2 := Int.emod_lt_of_pos (y / 4) (show 0 < m by omega)
    by_cases c0 : y % 4 = 0
    · rw [if_pos c0] at hc; cases hc
    · rw [if_neg c0] at hc
      by_cases c1 : y % 4 = 1
      · rw [if_pos c1] at hc
        simp only [List.mem_singleton] at hc
        subst hc
        exact ⟨⟨b1, b2⟩, 60 * (y / 96 % 12), by omega, rfl⟩
      · rw [if_neg c1] at hc
        simp only [List.mem_singleton] at hc
        subst hc
        exact ⟨⟨b1, b2⟩, 0, by omega, rfl⟩
theorem itm_ok {m : Int} (m0 : 0 ≤ m) {x : S46} (hx : ok6 x) : OkIt m (itm m x) (przI x) := by
  refine ⟨flat_length m (ys6 x), ?_, amtZ x.f0, 60 * (x.f1 % 4), amtZ_bound _ hx.1.1, by omega, rfl, rfl, rfl⟩
  intro c hc
  obtain ⟨y, hy, hc⟩ := List.mem_flatMap.1 hc
  obtain ⟨_, _, h2, h3, h4, h5⟩ := hx
  refine chOf_ok m0 ?_ c hc
  simp only [ys6, List.mem_cons, List.not_mem_nil, or_false] at hy
  rcases hy with h | h | h | h <;> rw [h]
  · exact h2.1
  · exact h3.1
  · exact h4.1
  · exact h5.1
def Its (m : Int) (xs : List S50) (ps : List Int) : Prop := xs.length = ps.length ∧ xs.length ≤ 4 ∧ ∀ i : Nat, i < xs.length → OkIt m (r50_ xs (i : Int)) (ps.getD i 0)
theorem items_ok {L : List S46} (hL : ∀ x ∈ L, ok6 x) {m : Int} (m0 : 0 ≤ m) : Its m ((L.take 4).map (itm m)) ((L.take 4).map przI) := by
  refine ⟨by rw [List.length_map, List.length_map], by rw [List.length_map, List.length_take]; omega, fun i hi => ?_⟩
  rw [List.length_map] at hi
  unfold r50_
  rw [Int.toNat_natCast, List.getD_eq_getElem?_getD, List.getD_eq_getElem?_getD, List.getElem?_map, List.getElem?_map, List.getElem?_eq_getElem hi]
  exact itm_ok m0 (hL _ (List.mem_of_mem_take (List.getElem_mem hi)))
theorem OkIt.bound {m p : Int} {x : S50} (h : OkIt m x p) : 0 ≤ p ∧ p ≤ 1000000000000 := by
  obtain ⟨_, _, a, c, ha, hc, _, _, rfl⟩ := h
  exact prz_bound ha hc
theorem Its.nn {m : Int} {xs : List S50} {ps : List Int} (h : Its m xs ps) : Nn ps := fun z hz => by
  obtain ⟨i, hi, rfl⟩ := List.mem_iff_getElem.1 hz
  have := (h.2.2 i (by rw [h.1]; exact hi)).bound
  rw [List.getD_eq_getElem?_getD, List.getElem?_eq_getElem hi] at this
  exact this
end Go.Proofs.YtppimdempdnhoaaDoor.C
namespace Go.Proofs.YtppimdempdnhoaaDoor.C
open Go.RowKit Go.PrWords Go.PrLast Go.PrMore
theorem sgn_nn (z : Int) (h : 0 ≤ z) : ¬ ((if z < 0 then (-1 : Int) else if 0 < z then 1 else 0) < 0) := by
  rw [if_neg (by omega)]
  split <;> decide
theorem index_none (zs : List Int) (hz : Nn zs) (hl : zs.length ≤ 1000) : ∀ (r j : Nat), j + r = zs.length → Ev (fun k => slices_IndexFuncRat.l0 k (zs.map sz) (zs.length : Int) (j : Int)) (-1) := by
  intro r
  induction r with
  | zero =>
    intro j hj
    refine Ev.step (f := fun _ => some (-1)) (fun k => ?_) (Ev.now _)
    simp only [slices_IndexFuncRat.l0]
    rw [if_neg (by omega)]
  | succ r ih =>
    intro j hj
    have hr := ih (j + 1) (by omega)
    have hb := hz.at_ j
    have hs := Sign_z (mod_of hb.1 (by omega))
    have hc : Ev (fun k => collateral_Check_1.f k (sz (zs.getD j 0)).f0 (sz (zs.getD j 0)).f1 (sz (zs.getD j 0)).f2) false := by
      unfold collateral_Check_1.f
      refine Ev.bind hs ?_
      rw [decide_eq_false (sgn_nn _ hb.1)]
      exact Ev.now _
    refine Ev.step (f := fun k => (collateral_Check_1.f k (sz (zs.getD j 0)).f0 (sz (zs.getD j 0)).f1 (sz (zs.getD j 0)).f2).bind fun t => if t = true then some (j : Int) else slices_IndexFuncRat.l0 k (zs.map sz) (zs.length : Int) ((j + 1 : Nat) : Int)) (fun k => ?_) (Ev.bind hc ?_)
    · simp only [slices_IndexFuncRat.l0]
      rw [if_pos (by omega), if_pos (by omega), if_pos (by rw [List.length_map]; omega), rd_sz zs _ (by omega) (by omega), Int.toNat_natCast, aw64 (by omega) (by omega)]
      rfl
    · simp only [if_neg Bool.false_ne_true]
      exact hr
theorem contains_ev (zs : List Int) (hz : Nn zs) (hl : zs.length ≤ 1000) : Ev (fun k => slices_ContainsFuncRat.f k (zs.map sz)) false := by
  have h := index_none zs hz hl zs.length 0 (by omega)
  unfold slices_ContainsFuncRat.f slices_IndexFuncRat.f
  rw [List.length_map]
  exact Ev.bind h (Ev.now _)
theorem rdC (l : List S52) (j : Nat) (h : j < l.length) : r52_ l (j : Int) = l[j] := by
  unfold r52_
  rw [Int.toNat_natCast, List.getD_eq_getElem?_getD, List.getElem?_eq_getElem h]; rfl
theorem Check_l1 (os : List Int) (ho : os.length ≤ 24) (xs : List S50) (i : Nat) (hi : i ≤ 1000) (cs : List S52) (hcl : cs.length ≤ 1000) (hc : ∀ c ∈ cs, OkCh (os.length : Int) c)
    (h : Ev (fun k => collateral_Check.l0 k (os.map sz) xs (xs.length : Int) ((i + 1 : Nat) : Int)) 0) : ∀ (r j : Nat), j + r = cs.length → Ev (fun k => collateral_Check.l1 k (os.map sz) xs (xs.length : Int) (i : Int) cs (cs.length : Int) (j : Int)) 0 := by
  intro r
  induction r with
  | zero =>
    intro j hj
    refine Ev.step (f := fun k => collateral_Check.l0 k (os.map sz) xs (xs.length : Int) ((i + 1 : Nat) : Int)) (fun k => ?_) h
    simp only [collateral_Check.l1]
    rw [if_neg (by omega), aw64 (by omega) (by omega)]; rfl
  | succ r ih =>
    intro j hj
    have hr := ih (j + 1) (by omega)
    have hjl : j < cs.length := by omega
    obtain ⟨c, hcj⟩ : ∃ c, cs[j] = c := ⟨_, rfl⟩
    obtain ⟨⟨c0, c1⟩, l, hl, hf⟩ := hc c (by rw [← hcj]; exact List.getElem_mem hjl)
    have hw : wrap64 ((j : Int) + 1) = ((j + 1 : Nat) : Int) := by rw [aw64 (by omega) (by omega)]; rfl
    have hs := Sign_z (mod_of hl.1 (by omega))
    have hj4 : Ev (fun k => collateral_Check.j4 k (os.map sz) xs (xs.length : Int) (i : Int) cs (cs.length : Int) (j : Int) false c.f0 c.f1 c.f2 c.f3.f0 c.f3.f1 c.f3.f2) 0 := by
      cases h2 : c.f2
      · refine Ev.step (f := fun k => collateral_Check.l1 k (os.map sz) xs (xs.length : Int) (i : Int) cs (cs.length : Int) ((j + 1 : Nat) : Int)) (fun k => ?_) hr
        simp only [collateral_Check.j4]
        rw [if_neg (by decide), if_neg (by decide), hw]
      · rw [hf]
        refine Ev.step (f := fun k => (q_Sign.f k (sz l).f0 (sz l).f1 (sz l).f2).bind fun t => if t < 0 then none else collateral_Check.l1 k (os.map sz) xs (xs.length : Int) (i : Int) cs (cs.length : Int) ((j + 1 : Nat) : Int)) (fun k => ?_) (Ev.bind hs ?_)
        · simp only [collateral_Check.j4]
          rw [if_neg (by decide), if_pos trivial, hw]
        · simp only [if_neg (sgn_nn l hl.1)]
          exact hr
    refine Ev.step (f := fun k => collateral_Check.j4 k (os.map sz) xs (xs.length : Int) (i : Int) cs (cs.length : Int) (j : Int) false c.f0 c.f1 c.f2 c.f3.f0 c.f3.f1 c.f3.f2) (fun k => ?_) hj4
    simp only [collateral_Check.l1]
    rw [if_pos (Int.ofNat_lt.2 hjl), if_pos (Int.natCast_nonneg j), if_pos (Int.ofNat_lt.2 hjl), rdC cs j hjl, hcj, if_neg (Int.not_lt.2 c0), List.length_map, decide_eq_false (Int.not_le.2 c1)]
theorem Check_l0 (os : List Int) (ho : os.length ≤ 24) (xs : List S50) (ps : List Int) (hx : Its (os.length : Int) xs ps) : ∀ (r i : Nat), i + r = xs.length → Ev (fun k => collateral_Check.l0 k (os.map sz) xs (xs.length : Int) (i : Int)) 0 := by
  have h4 := hx.2.1
  intro r
  induction r with
  | zero =>
    intro i hi
    refine Ev.step (f := fun _ => some 0) (fun k => ?_) (Ev.now _)
    simp only [collateral_Check.l0]
    rw [if_neg (by omega)]
  | succ r ih =>
    intro i hi
    have hil : i < xs.length := by omega
    have hr := ih (i + 1) (by omega)
    obtain ⟨x, hxi⟩ : ∃ x, r50_ xs (i : Int) = x := ⟨_, rfl⟩
    have hok := hx.2.2 i hil
    rw [hxi] at hok
    obtain ⟨hcl, hc, a, c, ha, hcc, e0, e1, _⟩ := hok
    have h1 := Check_l1 os ho xs i (by omega) x.f2 (by omega) hc hr x.f2.length 0 (by omega)
    have hs1 := Sign_z (mod_of ha.1 (by omega))
    have hs2 := Sign_z (mod_of hcc.1 (by omega))
    rw [← e0] at hs1
    rw [← e1] at hs2
    have hj : Ev (fun k => collateral_Check.j2 k (os.map sz) xs (xs.length : Int) (i : Int) false x.f0.f0 x.f0.f1 x.f0.f2 x.f1.f0 x.f1.f1 x.f1.f2 x.f2) 0 := by
      refine Ev.step (f := fun k => collateral_Check.l1 k (os.map sz) xs (xs.length : Int) (i : Int) x.f2 (x.f2.length : Int) ((0 : Nat) : Int)) (fun k => ?_) h1
      simp only [collateral_Check.j2]
      rw [if_neg (by decide)]; rfl
    refine Ev.step (f := fun k => (q_Sign.f k x.f0.f0 x.f0.f1 x.f0.f2).bind fun t => if t < 0 then collateral_Check.j2 k (os.map sz) xs (xs.length : Int) (i : Int) true x.f0.f0 x.f0.f1 x.f0.f2 x.f1.f0 x.f1.f1 x.f1.f2 x.f2 else (q_Sign.f k x.f1.f0 x.f1.f1 x.f1.f2).bind fun t => collateral_Check.j2 k (os.map sz) xs (xs.length : Int) (i : Int) (decide (t < 0)) x.f0.f0 x.f0.f1 x.f0.f2 x.f1.f0 x.f1.f1 x.f1.f2 x.f2) (fun k => ?_) (Ev.bind hs1 ?_)
    · simp only [collateral_Check.l0]
      rw [if_pos (Int.ofNat_lt.2 hil), if_pos (Int.natCast_nonneg i), if_pos (Int.ofNat_lt.2 hil), hxi, if_neg (by omega)]
    · simp only [if_neg (sgn_nn a ha.1)]
      refine Ev.bind hs2 ?_
      rw [decide_eq_false (sgn_nn c hcc.1)]
      exact hj
theorem Check_ev (os : List Int) (ho : os.length ≤ 24) (hn : Nn os) (xs : List S50) (ps : List Int) (hx : Its (os.length : Int) xs ps) : Ev (fun k => collateral_Check.f k xs (os.map sz)) 0 := by
  have h4 := hx.2.1
  have hc := contains_ev os hn (by omega)
  have hl := Check_l0 os ho xs ps hx xs.length 0 (by omega)
  unfold collateral_Check.f
  rw [List.length_map]
  simp only [if_neg (show ¬ (xs.length : Int) > 8 by omega), decide_eq_false (show ¬ (os.length : Int) > 24 by omega)]
  refine Ev.step (f := fun k => (slices_ContainsFuncRat.f k (os.map sz)).bind fun t => if t = true then none else collateral_Check.l0 k (os.map sz) xs (xs.length : Int) ((0 : Nat) : Int)) (fun k => ?_) (Ev.bind hc ?_)
  · simp only [collateral_Check.j0]
    rw [if_neg (by decide)]; rfl
  · simp only [if_neg Bool.false_ne_true]
    exact hl
def hasC (x : S50) (n : Nat) (c : Nat) : Bool := (x.f2.take n).any fun ch => decide (ch.f0 = (c : Int))
def msk (xs : List S50) : Nat → Nat → Nat
  | 0, _ => 0
  | i + 1, c => msk xs i c ||| (if hasC (r50_ xs (i : Int)) (r50_ xs (i : Int)).f2.length c then 2 ^ i else 0)
def mskj (xs : List S50) (i j c : Nat) : Nat := msk xs i c ||| (if hasC (r50_ xs (i : Int)) j c then 2 ^ i else 0)
theorem msk_lt (xs : List S50) (c : Nat) : ∀ i, msk xs i c < 2 ^ i := by
  intro i
  induction i with
  | zero => simp [msk]
  | succ i ih =>
    have h2 : 2 ^ i < 2 ^ (i + 1) := Nat.pow_lt_pow_right (by decide) (by omega)
    simp only [msk]
    refine Nat.or_lt_two_pow (by omega) ?_
    split <;> omega
theorem mskj_lt (xs : List S50) (i j c : Nat) : mskj xs i j c < 2 ^ (i + 1) := by
  have h2 : 2 ^ i < 2 ^ (i + 1) := Nat.pow_lt_pow_right (by decide) (by omega)
  have h1 := msk_lt xs c i
  unfold mskj
  refine Nat.or_lt_two_pow (by omega) ?_
  split <;> omega
theorem mskj_zero (xs : List S50) (i c : Nat) : mskj xs i 0 c = msk xs i c := by simp [mskj, hasC]
set_option maxRecDepth 100000 in
theorem or_tab : ∀ a : Fin 16, ∀ i : Fin 4, Go.bits .or .u64 ((a : Nat) : Int) (shl .u64 1 ((i : Nat) : Int)) = (((a : Nat) ||| 2 ^ (i : Nat) : Nat) : Int) := by decide +kernel
theorem or_nat {a i : Nat} (ha : a < 16) (hi : i < 4) : Go.bits .or .u64 (a : Int) (shl .u64 1 (i : Int)) = ((a ||| 2 ^ i : Nat) : Int) := or_tab ⟨a, ha⟩ ⟨i, hi⟩
def mks (m : Nat) (f : Nat → Nat) : List Int := (List.range m).map fun c => ((f c : Nat) : Int)
theorem mks_length (m : Nat) (f : Nat → Nat) : (mks m f).length = m := by simp [mks]
theorem rd_mks {m c : Nat} (f : Nat → Nat) (h : c < m) : rd (mks m f) (c : Int) = ((f c : Nat) : Int) := by
  unfold rd mks
  rw [Int.toNat_natCast, List.getD_eq_getElem?_getD, List.getElem?_map, List.getElem?_range h]; rfl
theorem mks_set (m c : Nat) (f g : Nat → Nat) (v : Int) (hv : v = ((g c : Nat) : Int)) (h : ∀ d, d ≠ c → f d = g d) : (mks m f).set c v = mks m g := by
  unfold mks
  apply List.ext_getElem?
  intro j
  rw [List.getElem?_set]
  by_cases hj : c = j
  · subst hj
    rw [if_pos rfl]
    split
    · rename_i hl
      rw [List.length_map, List.length_range] at hl
      rw [List.getElem?_map, List.getElem?_range hl, hv]; rfl
    · rename_i hl
      rw [List.getElem?_eq_none (by rw [List.length_map, List.length_range] at hl ⊢; omega)]
  · rw [if_neg hj, List.getElem?_map, List.getElem?_map]
    by_cases hl : j < m
    · rw [List.getElem?_range hl]
      simp only [Option.map_some]
      rw [h j (fun e => hj e.symm)]
    · rw [List.getElem?_eq_none (by simpa using hl)]; rfl
theorem hasC_succ (x : S50) (j : Nat) (hj : j < x.f2.length) (c : Nat) : hasC x (j + 1) c = (hasC x j c || decide ((x.f2[j]).f0 = (c : Int))) := by
  unfold hasC
  rw [List.take_add_one, List.getElem?_eq_getElem hj, List.any_append]
  simp
theorem or_twice (a b : Nat) : a ||| b ||| b = a ||| b := by rw [Nat.or_assoc, Nat.or_self]
theorem build_l2 (m : Nat) (xs : List S50) (ps : List Int) (hx : Its (m : Int) xs ps) (i : Nat) (hi : i < xs.length) (P O : List S32) {R : List S32 × List S32 × List Int}
    (h : Ev (fun k => marshal_build.l1 k xs (xs.length : Int) ((i + 1 : Nat) : Int) P O (mks m (msk xs (i + 1)))) R) : ∀ (r j : Nat), j + r = (r50_ xs (i : Int)).f2.length →
    Ev (fun k => marshal_build.l2 k (i : Int) xs (xs.length : Int) (i : Int) (r50_ xs (i : Int)).f2 ((r50_ xs (i : Int)).f2.length : Int) (j : Int) P O (mks m (mskj xs i j))) R := by
  have h4 := hx.2.1
  have hok := hx.2.2 i hi
  obtain ⟨x, hxi⟩ : ∃ x, r50_ xs (i : Int) = x := ⟨_, rfl⟩
  rw [hxi] at hok ⊢
  obtain ⟨hcl, hc, _⟩ := hok
  intro r
  induction r with
  | zero =>
    intro j hj
    have e : mskj xs i j = msk xs (i + 1) := by
      funext c
      unfold mskj
      simp only [msk, hxi]
      rw [show j = x.f2.length by omega]
    rw [e]
    refine Ev.step (f := fun k => marshal_build.l1 k xs (xs.length : Int) ((i + 1 : Nat) : Int) P O (mks m (msk xs (i + 1)))) (fun k => ?_) h
    simp only [marshal_build.l2]
    rw [if_neg (by omega), aw64 (by omega) (by omega)]; rfl
  | succ r ih =>
    intro j hj
    have hjl : j < x.f2.length := by omega
    have hr := ih (j + 1) (by omega)
    obtain ⟨ch, hch⟩ : ∃ ch, x.f2[j] = ch := ⟨_, rfl⟩
    obtain ⟨⟨c0, c1⟩, _⟩ := hc ch (by rw [← hch]; exact List.getElem_mem hjl)
    obtain ⟨n, hn⟩ := Int.eq_ofNat_of_zero_le c0
    have hnm : n < m := by omega
    have hw : wrap64 ((j : Int) + 1) = ((j + 1 : Nat) : Int) := by rw [aw64 (by omega) (by omega)]; rfl
    have hb := mskj_lt xs i j n
    have hp : 2 ^ (i + 1) ≤ 2 ^ 4 := Nat.pow_le_pow_right (by decide) (by omega)
    have hor := or_nat (a := mskj xs i j n) (i := i) (by omega) (by omega)
    have hset : (mks m (mskj xs i j)).set n (((mskj xs i j n ||| 2 ^ i : Nat)) : Int) = mks m (mskj xs i (j + 1)) := by
      refine mks_set m n _ _ _ ?_ ?_
      · congr 1
        unfold mskj
        rw [hxi, hasC_succ x j hjl n, hch, hn, decide_eq_true rfl, Bool.or_true]
        simp only [if_true]
        cases hasC x j n
        · simp
        · simp only [if_true]; exact or_twice _ _
      · intro d hd
        unfold mskj
        rw [hxi, hasC_succ x j hjl d, hch, hn, decide_eq_false (by omega), Bool.or_false]
    refine Ev.step (f := fun k => marshal_build.l2 k (i : Int) xs (xs.length : Int) (i : Int) x.f2 (x.f2.length : Int) ((j + 1 : Nat) : Int) P O (mks m (mskj xs i (j + 1)))) (fun k => ?_) hr
    simp only [marshal_build.l2]
    rw [if_pos (Int.ofNat_lt.2 hjl), if_pos (Int.natCast_nonneg j), if_pos (Int.ofNat_lt.2 hjl), rdC x.f2 j hjl, hch, if_pos c0, mks_length, if_pos c1, if_pos (Int.natCast_nonneg i), hn, rd_mks _ hnm, hor, hw, Int.toNat_natCast, hset]
theorem build_l1 (m : Nat) (xs : List S50) (ps : List Int) (hx : Its (m : Int) xs ps) (O : List S32) : ∀ (r i : Nat), i + r = xs.length →
    Ev (fun k => marshal_build.l1 k xs (xs.length : Int) (i : Int) ((ps.take i).map sz) O (mks m (msk xs i))) (ps.map sz, O, mks m (msk xs xs.length)) := by
  have h4 := hx.2.1
  have hlen := hx.1
  intro r
  induction r with
  | zero =>
    intro i hi
    obtain rfl : i = xs.length := by omega
    refine Ev.step (f := fun _ => some (ps.map sz, O, mks m (msk xs xs.length))) (fun k => ?_) (Ev.now _)
    simp only [marshal_build.l1]
    rw [if_neg (by omega), List.take_of_length_le (by omega)]
  | succ r ih =>
    intro i hi
    have hil : i < xs.length := by omega
    have hr := ih (i + 1) (by omega)
    have h2 := build_l2 m xs ps hx i hil ((ps.take (i + 1)).map sz) O hr (r50_ xs (i : Int)).f2.length 0 (by omega)
    rw [show mskj xs i 0 = msk xs i from funext fun c => mskj_zero xs i c] at h2
    have hok := hx.2.2 i hil
    obtain ⟨x, hxi⟩ : ∃ x, r50_ xs (i : Int) = x := ⟨_, rfl⟩
    rw [hxi] at hok h2
    obtain ⟨_, _, a, c, ha, hc, e0, e1, ep⟩ := hok
    have hP := Proceeds_z ha hc x.f2
    rw [← ep] at hP
    have et : (ps.take (i + 1)).map sz = (ps.take i).map sz ++ [sz (ps.getD i 0)] := by
      rw [List.take_add_one, List.getElem?_eq_getElem (by omega), List.map_append, List.getD_eq_getElem?_getD, List.getElem?_eq_getElem (by omega)]; rfl
    rw [et] at h2
    have hlen2 : ((ps.take i).map sz).length < 3518437208883 := by rw [List.length_map, List.length_take]; omega
    refine Ev.step (f := fun k => (collateral_Proceeds.f k (e3 a).1 (e3 a).2.1 (e3 a).2.2 (e3 c).1 (e3 c).2.1 (e3 c).2.2 x.f2).bind fun b => marshal_build.l2 k (i : Int) xs (xs.length : Int) (i : Int) x.f2 (x.f2.length : Int) ((0 : Nat) : Int) ((ps.take i).map sz ++ [⟨b.1, b.2.1, b.2.2⟩]) O (mks m (msk xs i))) (fun k => ?_) (Ev.bind hP h2)
    simp only [marshal_build.l1, if_pos hlen2]
    rw [if_pos (Int.ofNat_lt.2 hil), if_pos (Int.natCast_nonneg i), if_pos (Int.ofNat_lt.2 hil), hxi, e0, e1]
    rfl
theorem build_l0 (os : List Int) (hn : Nn os) (hm : os.length ≤ 1000) (xs : List S50) (ps : List Int) (hx : Its (os.length : Int) xs ps) : ∀ (r j : Nat), j + r = os.length →
    Ev (fun k => marshal_build.l0 k xs (os.map sz) (os.length : Int) (j : Int) ((os.take j).map sz) (List.replicate os.length 0)) (ps.map sz, os.map sz, mks os.length (msk xs xs.length)) := by
  have h4 := hx.2.1
  intro r
  induction r with
  | zero =>
    intro j hj
    have h1 := build_l1 os.length xs ps hx (os.map sz) xs.length 0 (by omega)
    have e : List.replicate os.length 0 = mks os.length (msk xs 0) := by
      unfold mks msk
      rw [List.map_const']
      simp
    rw [e, List.take_of_length_le (by omega)]
    refine Ev.step (f := fun k => marshal_build.l1 k xs (xs.length : Int) ((0 : Nat) : Int) ((ps.take 0).map sz) (os.map sz) (mks os.length (msk xs 0))) (fun k => ?_) h1
    simp only [marshal_build.l0]
    rw [if_neg (by omega)]; rfl
  | succ r ih =>
    intro j hj
    have hjl : j < os.length := by omega
    have hr := ih (j + 1) (by omega)
    have hb := hn.at_ j
    have ha := Add_z (z := os.getD j 0) (w := 0) (mod_of hb.1 (by omega)) (mod_of (by omega) (by omega))
    rw [e3_zero, Int.add_zero] at ha
    have et : (os.take (j + 1)).map sz = (os.take j).map sz ++ [sz (os.getD j 0)] := by
      rw [List.take_add_one, List.getElem?_eq_getElem hjl, List.map_append, List.getD_eq_getElem?_getD, List.getElem?_eq_getElem hjl]; rfl
    rw [et] at hr
    have hlen2 : ((os.take j).map sz).length < 3518437208883 := by rw [List.length_map, List.length_take]; omega
    refine Ev.step (f := fun k => (q_Add.f k (e3 (os.getD j 0)).1 (e3 (os.getD j 0)).2.1 (e3 (os.getD j 0)).2.2 false ⟨#[]⟩ ⟨#[]⟩).bind fun b => marshal_build.l0 k xs (os.map sz) (os.length : Int) ((j + 1 : Nat) : Int) ((os.take j).map sz ++ [⟨b.1, b.2.1, b.2.2⟩]) (List.replicate os.length 0)) (fun k => ?_) (Ev.bind ha hr)
    simp only [marshal_build.l0, if_pos hlen2]
    rw [if_pos (by omega), if_pos (by omega), if_pos (by rw [List.length_map]; omega), rd_sz os _ (by omega) (by omega), Int.toNat_natCast, aw64 (by omega) (by omega)]
    rfl
theorem build_ev (os : List Int) (hn : Nn os) (hm : os.length ≤ 1000) (xs : List S50) (ps : List Int) (hx : Its (os.length : Int) xs ps) : Ev (fun k => marshal_build.f k xs (os.map sz)) (ps.map sz, os.map sz, mks os.length (msk xs xs.length)) := by
  have h := build_l0 os hn hm xs ps hx os.length 0 (by omega)
  unfold marshal_build.f
  rw [List.length_map]
  simp only [if_pos (show (0 : Int) ≤ (os.length : Int) by omega), Int.toNat_natCast, if_pos (show os.length ≤ 35184372088832 by omega)]
  exact h
end Go.Proofs.YtppimdempdnhoaaDoor.C
namespace Go.Proofs.YtppimdempdnhoaaDoor.C
open Go.RowKit Go.PrWords Go.PrLast Go.PrMore
def tab (n : Nat) (F : Nat → Int) : List S32 := (List.range n).map fun X => sz (F X)
theorem tab_length (n : Nat) (F : Nat → Int) : (tab n F).length = n := by simp [tab]
theorem rd_tab {n X : Nat} (F : Nat → Int) (h : X < n) : r32_ (tab n F) (X : Int) = sz (F X) := by
  unfold r32_ tab
  rw [Int.toNat_natCast, List.getD_eq_getElem?_getD, List.getElem?_map, List.getElem?_range h]; rfl
theorem tab_congr {n : Nat} {F G : Nat → Int} (h : ∀ X, X < n → F X = G X) : tab n F = tab n G := by
  unfold tab
  refine List.map_congr_left fun X hX => ?_
  rw [h X (by simpa using hX)]
theorem tab_set {n X : Nat} (F G : Nat → Int) (v : S32) (hv : v = sz (G X)) (h : ∀ Y, Y ≠ X → F Y = G Y) : (tab n F).set X v = tab n G := by
  unfold tab
  apply List.ext_getElem?
  intro j
  rw [List.getElem?_set]
  by_cases hj : X = j
  · subst hj
    rw [if_pos rfl]
    split
    · rename_i hl
      rw [List.length_map, List.length_range] at hl
      rw [List.getElem?_map, List.getElem?_range hl, hv]; rfl
    · rename_i hl
      rw [List.getElem?_eq_none (by rw [List.length_map, List.length_range] at hl ⊢; omega)]
  · rw [if_neg hj, List.getElem?_map, List.getElem?_map]
    by_cases hl : j < n
    · rw [List.getElem?_range hl]
      simp only [Option.map_some]
      rw [h j (fun e => hj e.symm)]
    · rw [List.getElem?_eq_none (by simpa using hl)]; rfl
theorem tab_zero (n : Nat) : List.replicate n z32 = tab n fun _ => 0 := by
  unfold tab
  rw [List.map_const', ← sz_zero]; simp
set_option maxRecDepth 100000 in
theorem cut_tab : ∀ c : Fin 16, 1 ≤ (c : Nat) → Go.bits .and .i64 ((c : Nat) : Int) (wrap64 (((c : Nat) : Int) - 1)) = (((c : Nat) &&& ((c : Nat) - 1) : Nat) : Int) ∧ bits_TrailingZeros.f (IntKind.u64.wrap ((c : Nat) : Int)) = some ((Lib.ctz 64 (c : Nat) : Nat) : Int) := by decide +kernel
theorem ctz_lt : ∀ n : Fin 5, ∀ c : Fin 16, 1 ≤ (c : Nat) → (c : Nat) < 2 ^ (n : Nat) → Lib.ctz 64 (c : Nat) < (n : Nat) := by decide +kernel
theorem and_lt : ∀ c : Fin 16, 1 ≤ (c : Nat) → (c : Nat) &&& ((c : Nat) - 1) < (c : Nat) := by decide +kernel
set_option maxRecDepth 100000 in
theorem bit_low : ∀ c : Fin 16, 1 ≤ (c : Nat) → ∀ i : Fin 4, (c : Nat).testBit (i : Nat) = (((c : Nat) &&& ((c : Nat) - 1)).testBit (i : Nat) || decide ((i : Nat) = Lib.ctz 64 (c : Nat))) ∧ ((i : Nat) = Lib.ctz 64 (c : Nat) → ((c : Nat) &&& ((c : Nat) - 1)).testBit (i : Nat) = false) := by decide +kernel
theorem cutQ_low (c : Nat) (h1 : 1 ≤ c) (h2 : c < 16) (ps : List Int) : ∀ i : Nat, i + ps.length ≤ 4 → cutQ ps c i = cutQ ps (c &&& (c - 1)) i + (if i ≤ Lib.ctz 64 c ∧ Lib.ctz 64 c < i + ps.length then ps.getD (Lib.ctz 64 c - i) 0 else 0) := by
  induction ps with
  | nil => intro i hi; simp [cutQ]
  | cons a ps ih =>
    intro i hi
    simp only [List.length_cons] at hi ⊢
    have h3 := ih (i + 1) (by omega)
    have h4 := bit_low ⟨c, h2⟩ h1 ⟨i, by omega⟩
    simp only at h4
    obtain ⟨h4, h5⟩ := h4
    simp only [cutQ]
    rw [h3, h4]
    by_cases e : i = Lib.ctz 64 c
    · rw [h5 e, decide_eq_true e]
      have e2 : Lib.ctz 64 c - i = 0 := by omega
      rw [if_neg (show ¬ (i + 1 ≤ Lib.ctz 64 c ∧ Lib.ctz 64 c < i + 1 + ps.length) by omega), if_pos (show i ≤ Lib.ctz 64 c ∧ Lib.ctz 64 c < i + (ps.length + 1) by omega), e2]
      simp
      omega
    · rw [decide_eq_false e, Bool.or_false]
      by_cases h6 : i + 1 ≤ Lib.ctz 64 c ∧ Lib.ctz 64 c < i + 1 + ps.length
      · rw [if_pos h6, if_pos (show i ≤ Lib.ctz 64 c ∧ Lib.ctz 64 c < i + (ps.length + 1) by omega), show Lib.ctz 64 c - i = (Lib.ctz 64 c - (i + 1)) + 1 by omega, List.getD_cons_succ]
        omega
      · rw [if_neg h6, if_neg (show ¬ (i ≤ Lib.ctz 64 c ∧ Lib.ctz 64 c < i + (ps.length + 1)) by omega)]
        omega
theorem cutQ_step (ps : List Int) (h4 : ps.length ≤ 4) (c : Nat) (h1 : 1 ≤ c) (h2 : c < 2 ^ ps.length) : cutQ ps c 0 = cutQ ps (c &&& (c - 1)) 0 + ps.getD (Lib.ctz 64 c) 0 := by
  have hp : 2 ^ ps.length ≤ 2 ^ 4 := Nat.pow_le_pow_right (by decide) h4
  have h := cutQ_low c h1 (by omega) ps 0 (by omega)
  have hc := ctz_lt ⟨ps.length, by omega⟩ ⟨c, by omega⟩ h1 h2
  simp only at hc
  rw [if_pos ⟨Nat.zero_le _, by omega⟩, Nat.sub_zero] at h
  exact h
theorem cutQ_bound {ps : List Int} (hp : Nn ps) (X : Nat) : ∀ i, 0 ≤ cutQ ps X i ∧ cutQ ps X i ≤ 1000000000000 * (ps.length : Int) := by
  induction ps with
  | nil => intro i; simp [cutQ]
  | cons a ps ih =>
    intro i
    have h1 := hp a (List.mem_cons_self ..)
    have h2 := ih (fun x hx => hp x (List.mem_cons_of_mem _ hx)) (i + 1)
    simp only [cutQ, List.length_cons]
    split <;> omega
theorem shl_tab : ∀ n : Fin 5, shl .i64 1 ((n : Nat) : Int) = ((2 ^ (n : Nat) : Nat) : Int) := by decide +kernel
theorem cuts_loop (ps : List Int) (hp : Nn ps) (h4 : ps.length ≤ 4) (O : List S32) (M : List Int) : ∀ (r c : Nat), 1 ≤ c → c + r = 2 ^ ps.length →
    Ev (fun k => marshal_network_cuts.l0 k (tab (2 ^ ps.length) fun X => if X < c then cutQ ps X 0 else 0) (c : Int) (ps.map sz) O M) (tab (2 ^ ps.length) fun X => cutQ ps X 0) := by
  have hpw : 2 ^ ps.length ≤ 2 ^ 4 := Nat.pow_le_pow_right (by decide) h4
  intro r
  induction r with
  | zero =>
    intro c h1 hc
    obtain rfl : c = 2 ^ ps.length := by omega
    have e : (tab (2 ^ ps.length) fun X => if X < 2 ^ ps.length then cutQ ps X 0 else 0) = tab (2 ^ ps.length) fun X => cutQ ps X 0 := tab_congr fun X hX => if_pos hX
    refine Ev.step (f := fun _ => some (tab (2 ^ ps.length) fun X => cutQ ps X 0)) (fun k => ?_) (Ev.now _)
    simp only [marshal_network_cuts.l0, tab_length]
    rw [if_neg (by omega), e]
  | succ r ih =>
    intro c h1 hc
    have hcl : c < 2 ^ ps.length := by omega
    have hr := ih (c + 1) (by omega) (by omega)
    obtain ⟨t1, t2⟩ := cut_tab ⟨c, by omega⟩ h1
    have t3 := ctz_lt ⟨ps.length, by omega⟩ ⟨c, by omega⟩ h1 hcl
    have t4 := and_lt ⟨c, by omega⟩ h1
    simp only at t1 t2 t3 t4
    have hs := cutQ_step ps h4 c h1 hcl
    have b1 := cutQ_bound hp (c &&& (c - 1)) 0
    have b2 := hp.at_ (Lib.ctz 64 c)
    have ha := Add_z (mod_of b1.1 (by omega)) (mod_of b2.1 (by omega))
    rw [← hs] at ha
    have hrow : (tab (2 ^ ps.length) fun X => if X < c then cutQ ps X 0 else 0).set c (sz (cutQ ps c 0)) = tab (2 ^ ps.length) fun X => if X < c + 1 then cutQ ps X 0 else 0 := by
      refine tab_set _ _ _ ?_ ?_
      · rw [if_pos (by omega)]
      · intro Y hY
        by_cases h : Y < c
        · rw [if_pos h, if_pos (by omega)]
        · rw [if_neg h, if_neg (by omega)]
    rw [← hrow] at hr
    have hrd := rd_tab (n := 2 ^ ps.length) (fun X => if X < c then cutQ ps X 0 else 0) (X := c &&& (c - 1)) (by omega)
    simp only [if_pos t4] at hrd
    have hrp := rd_sz ps ((Lib.ctz 64 c : Nat) : Int) (Int.natCast_nonneg _) (Int.ofNat_lt.2 t3)
    rw [Int.toNat_natCast] at hrp
    have hw : wrap64 ((c : Int) + 1) = ((c + 1 : Nat) : Int) := by rw [aw64 (by omega) (by omega)]; rfl
    refine Ev.step (f := fun k => (q_Add.f k (e3 (cutQ ps (c &&& (c - 1)) 0)).1 (e3 (cutQ ps (c &&& (c - 1)) 0)).2.1 (e3 (cutQ ps (c &&& (c - 1)) 0)).2.2 (e3 (ps.getD (Lib.ctz 64 c) 0)).1 (e3 (ps.getD (Lib.ctz 64 c) 0)).2.1 (e3 (ps.getD (Lib.ctz 64 c) 0)).2.2).bind fun b => marshal_network_cuts.l0 k ((tab (2 ^ ps.length) fun X => if X < c then cutQ ps X 0 else 0).set c ⟨b.1, b.2.1, b.2.2⟩) ((c + 1 : Nat) : Int) (ps.map sz) O M) (fun k => ?_) (Ev.bind ha hr)
    simp only [marshal_network_cuts.l0, tab_length]
    rw [if_pos (Int.ofNat_lt.2 hcl), t1, if_pos (Int.natCast_nonneg _), if_pos (Int.ofNat_lt.2 (Nat.lt_trans t4 hcl)), t2]
    refine (Option.bind_some _ _).trans ?_
    rw [if_pos (Int.natCast_nonneg _), List.length_map, if_pos (Int.ofNat_lt.2 t3), hrd, hrp, hw]
    simp only [if_pos (Int.natCast_nonneg c), Int.toNat_natCast]
    rfl
theorem cuts_ev (ps : List Int) (hp : Nn ps) (h4 : ps.length ≤ 4) (O : List S32) (M : List Int) : Ev (fun k => marshal_network_cuts.f k (ps.map sz) O M) (tab (2 ^ ps.length) fun X => cutQ ps X 0) := by
  have hpw : 2 ^ ps.length ≤ 2 ^ 4 := Nat.pow_le_pow_right (by decide) h4
  have h0 := Nat.two_pow_pos ps.length
  have hs := shl_tab ⟨ps.length, by omega⟩
  simp only at hs
  have h := cuts_loop ps hp h4 O M (2 ^ ps.length - 1) 1 (by omega) (by omega)
  have e : (tab (2 ^ ps.length) fun X => if X < 1 then cutQ ps X 0 else 0) = List.replicate (2 ^ ps.length) z32 := by
    rw [tab_zero]
    refine tab_congr fun X hX => ?_
    split
    · rename_i h; rw [show X = 0 by omega, cutQ_zero]
    · rfl
  rw [e] at h
  unfold marshal_network_cuts.f
  rw [List.length_map, hs]
  simp only [if_pos (Int.natCast_nonneg (2 ^ ps.length)), Int.toNat_natCast, if_pos (show 2 ^ ps.length ≤ 7036874417766 by omega)]
  exact h
set_option maxRecDepth 100000 in
theorem not_tab : ∀ a x : Fin 16, decide (Go.bits .andNot .u64 ((a : Nat) : Int) (IntKind.u64.wrap ((x : Nat) : Int)) = 0) = sub (a : Nat) (x : Nat) := by decide +kernel
theorem addn_loop (N : Nat) (hN : N ≤ 16) (P : List S32) (os : List Int) (hn : Nn os) (f : Nat → Nat) (c : Nat) (hc : c < os.length) (hf : f c < 16) (F : Nat → Int) (hF : ∀ X, X < N → 0 ≤ F X ∧ F X ≤ 10000000000000000) : ∀ (r X : Nat), X + r = N →
    Ev (fun k => marshal_network_add.l0 k (tab N fun Y => if Y < X then F Y + (if sub (f c) Y then 0 else os.getD c 0) else F Y) (c : Int) (N : Int) (X : Int) P (os.map sz) (mks os.length f)) (tab N fun Y => F Y + (if sub (f c) Y then 0 else os.getD c 0)) := by
  intro r
  induction r with
  | zero =>
    intro X hX
    obtain rfl : X = N := by omega
    have e : (tab X fun Y => if Y < X then F Y + (if sub (f c) Y then 0 else os.getD c 0) else F Y) = tab X fun Y => F Y + (if sub (f c) Y then 0 else os.getD c 0) := tab_congr fun Y hY => if_pos hY
    refine Ev.step (f := fun _ => some (tab X fun Y => F Y + (if sub (f c) Y then 0 else os.getD c 0))) (fun k => ?_) (Ev.now _)
    simp only [marshal_network_add.l0]
    rw [if_neg (by omega), e]
  | succ r ih =>
    intro X hX
    have hXl : X < N := by omega
    have hr := ih (X + 1) (by omega)
    have ht := not_tab ⟨f c, hf⟩ ⟨X, by omega⟩
    simp only at ht
    have hw : wrap64 ((X : Int) + 1) = ((X + 1 : Nat) : Int) := by rw [aw64 (by omega) (by omega)]; rfl
    have hrow : (tab N fun Y => if Y < X then F Y + (if sub (f c) Y then 0 else os.getD c 0) else F Y).set X (sz (F X + (if sub (f c) X then 0 else os.getD c 0))) = tab N fun Y => if Y < X + 1 then F Y + (if sub (f c) Y then 0 else os.getD c 0) else F Y := by
      refine tab_set _ _ _ ?_ ?_
      · rw [if_pos (show X < X + 1 by omega)]
      · intro Y hY
        by_cases h : Y < X
        · rw [if_pos h, if_pos (show Y < X + 1 by omega)]
        · rw [if_neg h, if_neg (show ¬ Y < X + 1 by omega)]
    cases hs : sub (f c) X
    · rw [hs] at ht hrow
      have h0 : ¬ Go.bits .andNot .u64 ((f c : Nat) : Int) (IntKind.u64.wrap ((X : Nat) : Int)) = 0 := of_decide_eq_false ht
      have b1 := hF X hXl
      have b2 := hn.at_ c
      have ha := Add_z (mod_of b1.1 (by omega)) (mod_of b2.1 (by omega))
      simp only [if_neg Bool.false_ne_true] at hrow
      rw [← hrow] at hr
      have hrd := rd_tab (n := N) (fun Y => if Y < X then F Y + (if sub (f c) Y then 0 else os.getD c 0) else F Y) hXl
      simp only [if_neg (Nat.lt_irrefl X)] at hrd
      refine Ev.step (f := fun k => (q_Add.f k (e3 (F X)).1 (e3 (F X)).2.1 (e3 (F X)).2.2 (e3 (os.getD c 0)).1 (e3 (os.getD c 0)).2.1 (e3 (os.getD c 0)).2.2).bind fun b => marshal_network_add.l0 k ((tab N fun Y => if Y < X then F Y + (if sub (f c) Y then 0 else os.getD c 0) else F Y).set X ⟨b.1, b.2.1, b.2.2⟩) (c : Int) (N : Int) ((X + 1 : Nat) : Int) P (os.map sz) (mks os.length f)) (fun k => ?_) (Ev.bind ha hr)
      simp only [marshal_network_add.l0, tab_length, mks_length, List.length_map]
      rw [if_pos (Int.ofNat_lt.2 hXl), if_pos (Int.natCast_nonneg c), if_pos (Int.ofNat_lt.2 hc), rd_mks f hc, if_neg h0, if_pos (Int.natCast_nonneg X), if_pos (Int.ofNat_lt.2 hXl), if_pos (Int.ofNat_lt.2 hc), hrd, rd_sz os _ (Int.natCast_nonneg c) (Int.ofNat_lt.2 hc), hw]
      simp only [Int.toNat_natCast]
      rfl
    · rw [hs] at ht hrow
      have h0 : Go.bits .andNot .u64 ((f c : Nat) : Int) (IntKind.u64.wrap ((X : Nat) : Int)) = 0 := of_decide_eq_true ht
      have e : (tab N fun Y => if Y < X then F Y + (if sub (f c) Y then 0 else os.getD c 0) else F Y) = tab N fun Y => if Y < X + 1 then F Y + (if sub (f c) Y then 0 else os.getD c 0) else F Y := by
        refine tab_congr fun Y hY => ?_
        by_cases h : Y < X
        · rw [if_pos h, if_pos (show Y < X + 1 by omega)]
        · rw [if_neg h]
          by_cases h2 : Y = X
          · rw [h2, if_pos (show X < X + 1 by omega), hs]; simp
          · rw [if_neg (show ¬ Y < X + 1 by omega)]
      rw [e]
      refine Ev.step (f := fun k => marshal_network_add.l0 k (tab N fun Y => if Y < X + 1 then F Y + (if sub (f c) Y then 0 else os.getD c 0) else F Y) (c : Int) (N : Int) ((X + 1 : Nat) : Int) P (os.map sz) (mks os.length f)) (fun k => ?_) hr
      simp only [marshal_network_add.l0, mks_length]
      rw [if_pos (Int.ofNat_lt.2 hXl), if_pos (Int.natCast_nonneg c), if_pos (Int.ofNat_lt.2 hc), rd_mks f hc, if_pos h0, hw]
theorem add_net_ev (N : Nat) (hN : N ≤ 16) (P : List S32) (os : List Int) (hn : Nn os) (f : Nat → Nat) (c : Nat) (hc : c < os.length) (hf : f c < 16) (F : Nat → Int) (hF : ∀ X, X < N → 0 ≤ F X ∧ F X ≤ 10000000000000000) :
    Ev (fun k => marshal_network_add.f k P (os.map sz) (mks os.length f) (tab N F) (c : Int)) (tab N fun Y => F Y + (if sub (f c) Y then 0 else os.getD c 0)) := by
  have h := addn_loop N hN P os hn f c hc hf F hF N 0 (by omega)
  unfold marshal_network_add.f
  rw [tab_length]
  have e : (tab N fun Y => if Y < 0 then F Y + (if sub (f c) Y then 0 else os.getD c 0) else F Y) = tab N F := tab_congr fun Y hY => if_neg (by omega)
  rw [e] at h
  exact h
theorem least_bound {F : Nat → Int} {B : Int} : ∀ n : Nat, (∀ X, X ≤ n → 0 ≤ F X ∧ F X ≤ B) → 0 ≤ least F n ∧ least F n ≤ B := by
  intro n h
  obtain ⟨X, hX, e⟩ := least_mem F n
  rw [e]
  exact h X hX
theorem least_loop (N : Nat) (hN : N ≤ 16) (F : Nat → Int) (hF : ∀ X, X < N → 0 ≤ F X ∧ F X ≤ 100000000000000000) : ∀ (r X : Nat), X + r = N → 1 ≤ X →
    Ev (fun k => marshal_least.l0 k (tab N F) (N : Int) (X : Int) (e3 (least F (X - 1))).1 (e3 (least F (X - 1))).2.1 (e3 (least F (X - 1))).2.2) (e3 (least F (N - 1))) := by
  intro r
  induction r with
  | zero =>
    intro X hX h1
    obtain rfl : X = N := by omega
    refine Ev.step (f := fun _ => some (e3 (least F (X - 1)))) (fun k => ?_) (Ev.now _)
    simp only [marshal_least.l0]
    rw [if_neg (by omega)]
  | succ r ih =>
    intro X hX h1
    have hXl : X < N := by omega
    have hr := ih (X + 1) (by omega) (by omega)
    obtain ⟨Z, rfl⟩ : ∃ Z, X = Z + 1 := ⟨X - 1, by omega⟩
    rw [show Z + 1 + 1 - 1 = Z + 1 by omega] at hr
    rw [show Z + 1 - 1 = Z by omega]
    have b1 := least_bound (F := F) (B := 100000000000000000) Z (fun X hX => hF X (by omega))
    have b2 := hF (Z + 1) hXl
    have hm := Min_z (mod_of b1.1 (by omega)) (mod_of b2.1 (by omega)) b1.1 b2.1
    have e : (if least F Z ≤ F (Z + 1) then least F Z else F (Z + 1)) = least F (Z + 1) := rfl
    rw [e] at hm
    have hw : wrap64 (((Z + 1 : Nat) : Int) + 1) = ((Z + 1 + 1 : Nat) : Int) := by rw [aw64 (by omega) (by omega)]; rfl
    refine Ev.step (f := fun k => (q_Min.f k (e3 (least F Z)).1 (e3 (least F Z)).2.1 (e3 (least F Z)).2.2 (e3 (F (Z + 1))).1 (e3 (F (Z + 1))).2.1 (e3 (F (Z + 1))).2.2).bind fun b => marshal_least.l0 k (tab N F) (N : Int) ((Z + 1 + 1 : Nat) : Int) b.1 b.2.1 b.2.2) (fun k => ?_) (Ev.bind hm hr)
    simp only [marshal_least.l0, tab_length]
    rw [if_pos (Int.ofNat_lt.2 hXl), if_pos (Int.natCast_nonneg _), if_pos (Int.ofNat_lt.2 hXl), rd_tab F hXl, hw]
    rfl
theorem least_ev (N : Nat) (hN : N ≤ 16) (h0 : 0 < N) (F : Nat → Int) (hF : ∀ X, X < N → 0 ≤ F X ∧ F X ≤ 100000000000000000) : Ev (fun k => marshal_least.f k (tab N F)) (e3 (least F (N - 1))) := by
  have h := least_loop N hN F hF (N - 1) 1 (by omega) (Nat.le_refl _)
  have b0 := hF 0 h0
  have hm := Min_z (mod_of b0.1 (by omega)) (mod_of b0.1 (by omega)) b0.1 b0.1
  rw [if_pos (Int.le_refl _)] at hm
  have hrd := rd_tab (n := N) F h0
  have hw : wrap64 ((0 : Int) + 1) = ((1 : Nat) : Int) := aw64 (by decide) (by decide)
  unfold marshal_least.f
  rw [tab_length]
  simp only [if_pos (show (0 : Int) < (N : Int) by omega)]
  refine Ev.step (f := fun k => (q_Min.f k (e3 (F 0)).1 (e3 (F 0)).2.1 (e3 (F 0)).2.2 (e3 (F 0)).1 (e3 (F 0)).2.1 (e3 (F 0)).2.2).bind fun b => marshal_least.l0 k (tab N F) (N : Int) ((1 : Nat) : Int) b.1 b.2.1 b.2.2) (fun k => ?_) (Ev.bind hm h)
  simp only [marshal_least.l0, tab_length]
  rw [if_pos (show (0 : Int) < (N : Int) by omega), if_pos (by decide), if_pos (show (0 : Int) < (N : Int) by omega), hw]
  have hrd' : r32_ (tab N F) 0 = sz (F 0) := hrd
  rw [hrd']
  rfl
def clm (os : List Int) (f : Nat → Nat) : List (Nat × Int) := (List.range os.length).map fun c => (f c, os.getD c 0)
theorem clm_length (os : List Int) (f : Nat → Nat) : (clm os f).length = os.length := by simp [clm]
theorem clm_pos {os : List Int} (hn : Nn os) (f : Nat → Nat) : PosC (clm os f) := fun c hc => by
  obtain ⟨i, _, rfl⟩ := List.mem_map.1 hc
  exact (hn.at_ i).1
theorem hang_add (cl : List (Nat × Int)) (s t : Nat → Bool) (X c : Nat) (hs : s c = false) (ht : ∀ j, t j = (s j || decide (j = c))) : ∀ i, hang t X cl i = hang s X cl i + (if i ≤ c ∧ c < i + cl.length then (if sub (cl.getD (c - i) (0, 0)).1 X then 0 else (cl.getD (c - i) (0, 0)).2) else 0) := by
  induction cl with
  | nil => intro i; simp [hang]
  | cons x cl ih =>
    intro i
    simp only [hang, List.length_cons]
    rw [ih (i + 1), ht i]
    by_cases e : i = c
    · subst e
      rw [hs, decide_eq_true rfl, if_neg (show ¬ (i + 1 ≤ i ∧ i < i + 1 + cl.length) by omega), if_pos (show i ≤ i ∧ i < i + (cl.length + 1) by omega), Nat.sub_self, List.getD_cons_zero]
      cases sub x.1 X <;> simp <;> omega
    · rw [decide_eq_false e, Bool.or_false]
      by_cases h6 : i + 1 ≤ c ∧ c < i + 1 + cl.length
      · rw [if_pos h6, if_pos (show i ≤ c ∧ c < i + (cl.length + 1) by omega), show c - i = (c - (i + 1)) + 1 by omega, List.getD_cons_succ]
        omega
      · rw [if_neg h6, if_neg (show ¬ (i ≤ c ∧ c < i + (cl.length + 1)) by omega)]
        omega
theorem Val_add (ps os : List Int) (f : Nat → Nat) (s t : Nat → Bool) (c : Nat) (hc : c < os.length) (hs : s c = false) (ht : ∀ j, t j = (s j || decide (j = c))) (X : Nat) :
    Val ps (clm os f) t X = Val ps (clm os f) s X + (if sub (f c) X then 0 else os.getD c 0) := by
  unfold Val
  have hg : (clm os f).getD c (0, 0) = (f c, os.getD c 0) := by
    unfold clm
    rw [List.getD_eq_getElem?_getD, List.getElem?_map, List.getElem?_range hc]; rfl
  have h := hang_add (clm os f) s t X c hs ht 0
  rw [clm_length, Nat.sub_zero, hg, if_pos ⟨Nat.zero_le _, by omega⟩] at h
  simp only at h
  rw [h]
  omega
theorem hang_bound {os : List Int} (f : Nat → Nat) (s : Nat → Bool) (X : Nat) (cl : List (Nat × Int)) (h : ∀ c ∈ cl, 0 ≤ c.2 ∧ c.2 ≤ 1000000000000) : ∀ i, 0 ≤ hang s X cl i ∧ hang s X cl i ≤ 1000000000000 * (cl.length : Int) := by
  induction cl with
  | nil => intro i; simp [hang]
  | cons a cl ih =>
    intro i
    have h1 := h a (List.mem_cons_self ..)
    have h2 := ih (fun x hx => h x (List.mem_cons_of_mem _ hx)) (i + 1)
    simp only [hang, List.length_cons]
    split <;> omega
theorem Val_bound {ps os : List Int} (hp : Nn ps) (h4 : ps.length ≤ 4) (hn : Nn os) (h6 : os.length ≤ 1000) (f : Nat → Nat) (s : Nat → Bool) (X : Nat) : 0 ≤ Val ps (clm os f) s X ∧ Val ps (clm os f) s X ≤ 1100000000000000 := by
  have b1 := cutQ_bound hp X 0
  have b2 := hang_bound (os := os) f s X (clm os f) (fun c hc => by
    obtain ⟨i, _, rfl⟩ := List.mem_map.1 hc
    exact hn.at_ i) 0
  rw [clm_length] at b2
  unfold Val
  omega
theorem cap_bound {ps os : List Int} (hp : Nn ps) (h4 : ps.length ≤ 4) (hn : Nn os) (h6 : os.length ≤ 1000) (f : Nat → Nat) (s : Nat → Bool) : 0 ≤ cap ps (clm os f) s ∧ cap ps (clm os f) s ≤ 1100000000000000 := by
  unfold cap
  exact least_bound _ fun X _ => Val_bound hp h4 hn h6 f s X
theorem Val_none (ps os : List Int) (f : Nat → Nat) (s : Nat → Bool) (hs : ∀ j, s j = false) : Val ps (clm os f) s = fun X => cutQ ps X 0 := by
  funext X
  unfold Val
  rw [hang_congr (t := fun _ => false) X 0 (fun k _ _ => hs k), hang_none, Int.add_zero]
end Go.Proofs.YtppimdempdnhoaaDoor.C
namespace Go.Proofs.YtppimdempdnhoaaDoor.C
open Go.RowKit Go.PrWords Go.PrLast Go.PrMore
set_option maxRecDepth 100000 in
theorem awake16_ev : Ev (fun k => insolvencylaw16_awake.f k) true := Ev.of insolvencylaw16_awake.mono (k := 60) (by decide +kernel)
theorem msk_16 {xs : List S50} (h4 : xs.length ≤ 4) (c : Nat) : msk xs xs.length c < 16 := by
  have h := msk_lt xs c xs.length
  have hp : 2 ^ xs.length ≤ 2 ^ 4 := Nat.pow_le_pow_right (by decide) h4
  omega
def net (xs : List S50) (os : List Int) : List (Nat × Int) := clm os (msk xs xs.length)
def bl (m : Nat) (s : Nat → Bool) : List Bool := (List.range m).map s
theorem bl_length (m : Nat) (s : Nat → Bool) : (bl m s).length = m := by simp [bl]
theorem rd_bl {m c : Nat} (s : Nat → Bool) (h : c < m) : rdOf false (bl m s) (c : Int) = s c := by
  unfold rdOf bl
  rw [Int.toNat_natCast, List.getD_eq_getElem?_getD, List.getElem?_map, List.getElem?_range h]; rfl
theorem bl_set (m c : Nat) (s t : Nat → Bool) (v : Bool) (hv : v = t c) (h : ∀ d, d ≠ c → s d = t d) : (bl m s).set c v = bl m t := by
  unfold bl
  apply List.ext_getElem?
  intro j
  rw [List.getElem?_set]
  by_cases hj : c = j
  · subst hj
    rw [if_pos rfl]
    split
    · rename_i hl
      rw [List.length_map, List.length_range] at hl
      rw [List.getElem?_map, List.getElem?_range hl, hv]; rfl
    · rename_i hl
      rw [List.getElem?_eq_none (by rw [List.length_map, List.length_range] at hl ⊢; omega)]
  · rw [if_neg hj, List.getElem?_map, List.getElem?_map]
    by_cases hl : j < m
    · rw [List.getElem?_range hl]
      simp only [Option.map_some]
      rw [h j (fun e => hj e.symm)]
    · rw [List.getElem?_eq_none (by simpa using hl)]; rfl
def inl (l : List Int) (j : Nat) : Bool := l.any fun x => decide (x = (j : Int))
def bel_ (s : Nat → Bool) (c : Nat) (j : Nat) : Bool := s j && decide (j < c)
theorem Capacity_l1 (ps os : List Int) (hp : Nn ps) (h4 : ps.length ≤ 4) (hn : Nn os) (h6 : os.length ≤ 1000) (f : Nat → Nat) (hf : ∀ c, c < os.length → f c < 16) (s : Nat → Bool) : ∀ (r c : Nat), c + r = os.length →
    Ev (fun k => marshal_Capacity.l1 k (tab (2 ^ ps.length) (Val ps (clm os f) (bel_ s c))) (bl os.length s) (os.length : Int) (c : Int) (ps.map sz) (os.map sz) (mks os.length f)) ((e3 (cap ps (clm os f) s)).1, (e3 (cap ps (clm os f) s)).2.1, (e3 (cap ps (clm os f) s)).2.2, 0) := by
  have hpw : 2 ^ ps.length ≤ 2 ^ 4 := Nat.pow_le_pow_right (by decide) h4
  have h0 := Nat.two_pow_pos ps.length
  intro r
  induction r with
  | zero =>
    intro c hc
    obtain rfl : c = os.length := by omega
    have hL := least_ev (2 ^ ps.length) (by omega) h0 (Val ps (clm os f) (bel_ s os.length)) (fun X _ => by have := Val_bound hp h4 hn h6 f (bel_ s os.length) X; omega)
    have ec : least (Val ps (clm os f) (bel_ s os.length)) (2 ^ ps.length - 1) = cap ps (clm os f) s := by
      show cap ps (clm os f) (bel_ s os.length) = _
      refine cap_congr ps fun k hk => ?_
      rw [clm_length] at hk
      unfold bel_
      rw [decide_eq_true hk, Bool.and_true]
    rw [ec] at hL
    refine Ev.step (f := fun k => (marshal_least.f k (tab (2 ^ ps.length) (Val ps (clm os f) (bel_ s os.length)))).bind fun b => some (b.1, b.2.1, b.2.2, 0)) (fun k => ?_) (Ev.bind hL (Ev.now _))
    simp only [marshal_Capacity.l1]
    rw [if_neg (by omega)]
  | succ r ih =>
    intro c hc
    have hcl : c < os.length := by omega
    have hr := ih (c + 1) (by omega)
    have hw : wrap64 ((c : Int) + 1) = ((c + 1 : Nat) : Int) := by rw [aw64 (by omega) (by omega)]; rfl
    cases hs : s c
    · have e : bel_ s (c + 1) = bel_ s c := by
        funext j
        unfold bel_
        by_cases h : j = c
        · rw [h, hs]; rfl
        · congr 1
          exact decide_eq_decide.2 (by omega)
      rw [e] at hr
      refine Ev.step (f := fun k => marshal_Capacity.l1 k (tab (2 ^ ps.length) (Val ps (clm os f) (bel_ s c))) (bl os.length s) (os.length : Int) ((c + 1 : Nat) : Int) (ps.map sz) (os.map sz) (mks os.length f)) (fun k => ?_) hr
      simp only [marshal_Capacity.l1, bl_length]
      rw [if_pos (Int.ofNat_lt.2 hcl), if_pos (Int.natCast_nonneg c), if_pos (Int.ofNat_lt.2 hcl), rd_bl s hcl, hs, if_neg Bool.false_ne_true, hw]
    · have hA := add_net_ev (2 ^ ps.length) (by omega) (ps.map sz) os hn f c hcl (hf c hcl) (Val ps (clm os f) (bel_ s c)) (fun X _ => by have := Val_bound hp h4 hn h6 f (bel_ s c) X; omega)
      have hV : (tab (2 ^ ps.length) fun Y => Val ps (clm os f) (bel_ s c) Y + (if sub (f c) Y then 0 else os.getD c 0)) = tab (2 ^ ps.length) (Val ps (clm os f) (bel_ s (c + 1))) := by
        refine tab_congr fun X _ => (Val_add ps os f (bel_ s c) (bel_ s (c + 1)) c hcl ?_ (fun j => ?_) X).symm
        · unfold bel_; rw [decide_eq_false (Nat.lt_irrefl c), Bool.and_false]
        · unfold bel_
          by_cases h : j = c
          · rw [h, hs, decide_eq_true (show c < c + 1 by omega), decide_eq_true rfl]; simp
          · rw [decide_eq_false h, Bool.or_false]
            congr 1
            exact decide_eq_decide.2 (by omega)
      rw [hV] at hA
      refine Ev.step (f := fun k => (marshal_network_add.f k (ps.map sz) (os.map sz) (mks os.length f) (tab (2 ^ ps.length) (Val ps (clm os f) (bel_ s c))) (c : Int)).bind fun t => marshal_Capacity.l1 k t (bl os.length s) (os.length : Int) ((c + 1 : Nat) : Int) (ps.map sz) (os.map sz) (mks os.length f)) (fun k => ?_) (Ev.bind hA hr)
      simp only [marshal_Capacity.l1, bl_length]
      rw [if_pos (Int.ofNat_lt.2 hcl), if_pos (Int.natCast_nonneg c), if_pos (Int.ofNat_lt.2 hcl), rd_bl s hcl, hs, if_pos rfl, hw]
theorem inl_take (l : List Int) (i : Nat) (hi : i < l.length) (n : Nat) (hn : l[i] = (n : Int)) (j : Nat) : inl (l.take (i + 1)) j = (inl (l.take i) j || decide (j = n)) := by
  unfold inl
  rw [List.take_add_one, List.getElem?_eq_getElem hi, List.any_append, hn]
  simp only [Option.toList, List.any_cons, List.any_nil, Bool.or_false]
  congr 1
  exact decide_eq_decide.2 (by omega)
theorem Capacity_ev (os : List Int) (h6 : os.length ≤ 24) (hn : Nn os) (xs : List S50) (ps : List Int) (hx : Its (os.length : Int) xs ps) (l : List Int) (hl : ∀ x ∈ l, 0 ≤ x ∧ x < (os.length : Int)) (hll : l.length ≤ 1000) :
    Ev (fun k => marshal_Capacity.f k xs (os.map sz) l) ((e3 (cap ps (net xs os) (inl l))).1, (e3 (cap ps (net xs os) (inl l))).2.1, (e3 (cap ps (net xs os) (inl l))).2.2, 0) := by
  have hc := Check_ev os h6 hn xs ps hx
  have hb := build_ev os hn (by omega) xs ps hx
  have hp := hx.nn
  have h4 : ps.length ≤ 4 := by rw [← hx.1]; exact hx.2.1
  have hcu := cuts_ev ps hp h4 (os.map sz) (mks os.length (msk xs xs.length))
  have h1 := Capacity_l1 ps os hp h4 hn (by omega) (msk xs xs.length) (fun c _ => msk_16 hx.2.1 c) (inl l) os.length 0 (by omega)
  have hv : Val ps (clm os (msk xs xs.length)) (bel_ (inl l) 0) = fun X => cutQ ps X 0 := Val_none ps os _ _ (fun j => by unfold bel_; rw [decide_eq_false (Nat.not_lt_zero j), Bool.and_false])
  rw [hv] at h1
  have hloop : ∀ (r i : Nat), i + r = l.length → Ev (fun k => marshal_Capacity.l0 k xs (os.map sz) (bl os.length (inl (l.take i))) l (l.length : Int) (i : Int)) ((e3 (cap ps (net xs os) (inl l))).1, (e3 (cap ps (net xs os) (inl l))).2.1, (e3 (cap ps (net xs os) (inl l))).2.2, 0) := by
    intro r
    induction r with
    | zero =>
      intro i hi
      rw [List.take_of_length_le (by omega)]
      refine Ev.step (f := fun k => (marshal_build.f k xs (os.map sz)).bind fun b => (marshal_network_cuts.f k b.1 b.2.1 b.2.2).bind fun t => marshal_Capacity.l1 k t (bl os.length (inl l)) (os.length : Int) ((0 : Nat) : Int) b.1 b.2.1 b.2.2) (fun k => ?_) (Ev.bind hb (Ev.bind hcu h1))
      simp only [marshal_Capacity.l0, bl_length]
      rw [if_neg (by omega)]; rfl
    | succ r ih =>
      intro i hi
      have hil : i < l.length := by omega
      have hr := ih (i + 1) (by omega)
      obtain ⟨x0, x1⟩ := hl _ (List.getElem_mem hil)
      obtain ⟨n, hnn⟩ := Int.eq_ofNat_of_zero_le x0
      have hset : (bl os.length (inl (l.take i))).set n true = bl os.length (inl (l.take (i + 1))) := by
        refine bl_set os.length n _ _ _ ?_ ?_
        · rw [inl_take l i hil n hnn n]; simp
        · intro d hd
          rw [inl_take l i hil n hnn d, decide_eq_false hd, Bool.or_false]
      rw [← hset] at hr
      have hw : wrap64 ((i : Int) + 1) = ((i + 1 : Nat) : Int) := by rw [aw64 (by omega) (by omega)]; rfl
      refine Ev.step (f := fun k => marshal_Capacity.l0 k xs (os.map sz) ((bl os.length (inl (l.take i))).set n true) l (l.length : Int) ((i + 1 : Nat) : Int)) (fun k => ?_) hr
      simp only [marshal_Capacity.l0, bl_length, List.length_map]
      rw [if_pos (Int.ofNat_lt.2 hil), if_pos (Int.natCast_nonneg i), if_pos (Int.ofNat_lt.2 hil), rd_at l i hil, if_neg (Int.not_lt.2 x0), if_neg (Int.not_le.2 x1), if_pos x0, if_pos x1, hw, hnn, Int.toNat_natCast]
  have hl0 := hloop l.length 0 (by omega)
  have e0 : bl os.length (inl (l.take 0)) = List.replicate os.length false := by
    unfold bl inl
    simp only [List.take_zero, List.any_nil]
    rw [List.map_const']
    simp
  rw [e0] at hl0
  unfold marshal_Capacity.f
  refine Ev.bind hc ?_
  rw [List.length_map]
  simp only [if_true, if_pos (Int.natCast_nonneg os.length), Int.toNat_natCast, if_pos (show os.length ≤ 281474976710656 by omega)]
  exact hl0
set_option maxRecDepth 1000000 in
theorem set_tab : ∀ b : Fin 256, ∀ i : Fin 8, decide (Go.bits .and .u8 (shr .u8 ((b : Nat) : Int) (IntKind.u64.wrap ((i : Nat) : Int))) 1 = 1) = (b : Nat).testBit (i : Nat) := by decide +kernel
def setl (b n : Nat) : List Int := ((List.range n).filter (fun i => b.testBit i)).map (fun i : Nat => (i : Int))
theorem setl_succ (b n : Nat) : setl b (n + 1) = if b.testBit n = true then setl b n ++ [(n : Int)] else setl b n := by
  unfold setl
  rw [List.range_succ, List.filter_append, List.map_append]
  by_cases h : b.testBit n = true
  · rw [if_pos h, List.filter_cons_of_pos h]; rfl
  · rw [if_neg h, List.filter_cons_of_neg h]; simp
theorem setl_length (b n : Nat) : (setl b n).length ≤ n := by
  unfold setl
  rw [List.length_map]
  exact Nat.le_trans (List.length_filter_le _ _) (by rw [List.length_range]; exact Nat.le_refl _)
theorem setl_mem {b n : Nat} {x : Int} (h : x ∈ setl b n) : 0 ≤ x ∧ x < (n : Int) := by
  unfold setl at h
  obtain ⟨i, hi, rfl⟩ := List.mem_map.1 h
  have := (List.mem_filter.1 hi).1
  rw [List.mem_range] at this
  omega
theorem inl_setl (b n j : Nat) : inl (setl b n) j = (b.testBit j && decide (j < n)) := by
  unfold inl
  rw [Bool.eq_iff_iff, List.any_eq_true, Bool.and_eq_true]
  constructor
  · rintro ⟨x, hx, hj⟩
    unfold setl at hx
    obtain ⟨i, hi, rfl⟩ := List.mem_map.1 hx
    obtain ⟨h1, h2⟩ := List.mem_filter.1 hi
    rw [List.mem_range] at h1
    have : i = j := by have := of_decide_eq_true hj; omega
    subst this
    exact ⟨h2, decide_eq_true h1⟩
  · rintro ⟨h1, h2⟩
    refine ⟨(j : Int), ?_, decide_eq_true rfl⟩
    unfold setl
    exact List.mem_map.2 ⟨j, List.mem_filter.2 ⟨List.mem_range.2 (of_decide_eq_true h2), h1⟩, rfl⟩
theorem set_ev (b n : Nat) (hb : b < 256) (hn : n ≤ 8) : Ev (fun k => insolvencylaw16_set.f k (b : Int) (n : Int)) (setl b n) := by
  have hloop : ∀ (r i : Nat), i + r = n → Ev (fun k => insolvencylaw16_set.l0 k (b : Int) (n : Int) (setl b i) (i : Int)) (setl b n) := by
    intro r
    induction r with
    | zero =>
      intro i hi
      obtain rfl : i = n := by omega
      refine Ev.step (f := fun _ => some (setl b i)) (fun k => ?_) (Ev.now _)
      simp only [insolvencylaw16_set.l0]
      rw [if_neg (by omega)]
    | succ r ih =>
      intro i hi
      have hr := ih (i + 1) (by omega)
      have ht := set_tab ⟨b, hb⟩ ⟨i, by omega⟩
      simp only at ht
      have hl := setl_length b i
      have h1 : (0 : Int) ≤ IntKind.u64.wrap (i : Int) := by rw [wu64 (by omega) (by omega)]; omega
      have hw : wrap64 ((i : Int) + 1) = ((i + 1 : Nat) : Int) := by rw [aw64 (by omega) (by omega)]; rfl
      rw [setl_succ] at hr
      cases hbit : b.testBit i
      · rw [hbit] at ht hr
        rw [if_neg Bool.false_ne_true] at hr
        refine Ev.step (f := fun k => insolvencylaw16_set.l0 k (b : Int) (n : Int) (setl b i) ((i + 1 : Nat) : Int)) (fun k => ?_) hr
        simp only [insolvencylaw16_set.l0]
        rw [if_pos (show (i : Int) < (n : Int) from Int.ofNat_lt.2 (by omega)), if_pos h1, if_neg (of_decide_eq_false ht), hw]
      · rw [hbit] at ht hr
        rw [if_pos rfl] at hr
        refine Ev.step (f := fun k => insolvencylaw16_set.l0 k (b : Int) (n : Int) (setl b i ++ [(i : Int)]) ((i + 1 : Nat) : Int)) (fun k => ?_) hr
        simp only [insolvencylaw16_set.l0]
        rw [if_pos (show (i : Int) < (n : Int) from Int.ofNat_lt.2 (by omega)), if_pos h1, if_pos (of_decide_eq_true ht), if_pos (show (setl b i).length < 17592186044416 from Nat.lt_of_le_of_lt hl (by omega)), hw]
  exact hloop n 0 (by omega)
section
variable (ps os : List Int) (f : Nat → Nat)
end
end Go.Proofs.YtppimdempdnhoaaDoor.C
namespace Go.Proofs.YtppimdempdnhoaaDoor.C
open Go.RowKit Go.PrWords Go.PrLast Go.PrMore
def Ow (A : List Int) : List Int := (A.take 6).map amtZ
def Xw (L : List S46) (A : List Int) : List S50 := (L.take 4).map (itm ((Ow A).length : Int))
def Pw (L : List S46) : List Int := (L.take 4).map przI
theorem Ow_length (A : List Int) : (Ow A).length ≤ 6 := by unfold Ow; rw [List.length_map, List.length_take]; omega
theorem Ow_nn {A : List Int} (hA : ∀ x ∈ A, 0 ≤ x ∧ x < 65536) : Nn (Ow A) := amounts_Nn hA
theorem Xw_ok {L : List S46} (hL : ∀ x ∈ L, ok6 x) (A : List Int) : Its ((Ow A).length : Int) (Xw L A) (Pw L) := items_ok hL (Int.natCast_nonneg _)
theorem Ow_ev {A : List Int} (hA : ∀ x ∈ A, 0 ≤ x ∧ x < 65536) : Ev (fun k => l0_Amounts.f k A 6) ((Ow A).map sz) := amounts_law A hA
theorem Xw_ev {L : List S46} (hL : ∀ x ∈ L, ok6 x) (A : List Int) : Ev (fun k => l0_Items.f k L ((((Ow A).map sz).length : Nat) : Int)) (Xw L A) := by
  have h6 := Ow_length A
  rw [List.length_map]
  exact items_law L hL _ ⟨by omega, by omega⟩
theorem icmp_ge {x y : Int} (h : y ≤ x) : ¬ icmp x y < 0 := by
  rcases Int.lt_or_eq_of_le h with h | h
  · rw [icmp_gt h]; decide
  · rw [icmp_eq h.symm]; decide
theorem icmp_le {x y : Int} (h : x ≤ y) : icmp x y ≤ 0 := by
  rcases Int.lt_or_eq_of_le h with h | h
  · rw [icmp_lt h]; decide
  · rw [icmp_eq h]; decide
section
variable {L : List S46} (hL : ∀ x ∈ L, ok6 x) {A : List Int} (hA : ∀ x ∈ A, 0 ≤ x ∧ x < 65536)
def nw (L : List S46) (A : List Int) : List (Nat × Int) := net (Xw L A) (Ow A)
include hA in
theorem nw_pos (L : List S46) : PosC (nw L A) := clm_pos (Ow_nn hA) _
include hL hA in
theorem nw_cap (s : Nat → Bool) : 0 ≤ cap (Pw L) (nw L A) s ∧ cap (Pw L) (nw L A) s ≤ 1100000000000000 := by
  have hx := Xw_ok hL A
  have h6 := Ow_length A
  exact cap_bound hx.nn (by rw [← hx.1]; exact hx.2.1) (Ow_nn hA) (by omega) _ s
end
end Go.Proofs.YtppimdempdnhoaaDoor.C
namespace Go.Proofs.YtppimdempdnhoaaDoor.Pure
open Go.RowKit Go.Proofs.YtppimdempdnhoaaDoor.C Go.PrWords Go.PrLast Go.PrMore
theorem or_u8 (a b : Nat) (ha : a < 256) (hb : b < 256) : Go.bits .or .u8 (a : Int) (b : Int) = ((a ||| b : Nat) : Int) := by
 have hx : a ||| b < 2 ^ 8 := Nat.or_lt_two_pow (by omega) (by omega)
 have h1 : (BitVec.ofInt 8 (a : Int)).toNat = a := by
  rw [BitVec.ofInt_natCast, BitVec.toNat_ofNat]; exact Nat.mod_eq_of_lt (by omega)
 have h2 : (BitVec.ofInt 8 (b : Int)).toNat = b := by
  rw [BitVec.ofInt_natCast, BitVec.toNat_ofNat]; exact Nat.mod_eq_of_lt (by omega)
 show IntKind.u8.wrap ((BitVec.ofInt 8 (a : Int) ||| BitVec.ofInt 8 (b : Int)).toNat : Int) = _
 rw [BitVec.toNat_or, h1, h2]
 simp only [IntKind.wrap, IntKind.bits, IntKind.signed]
 simp
 omega
theorem inl_append (l : List Int) (x j : Nat) : inl (l ++ [(x : Int)]) j = (inl l j || decide (j = x)) := by
 unfold inl
 rw [List.any_append]
 congr 1
 simp only [List.any_cons, List.any_nil, Bool.or_false]
 exact decide_eq_decide.2 (by omega)
theorem MarshalSubmodular (L : List S46) (A : List Int) (a2 a3 a4 : Int) (hL : ∀ x ∈ L, ok6 x) (hA : ∀ x ∈ A, 0 ≤ x ∧ x < 65536) (b2 : 0 ≤ a2 ∧ a2 ≤ 255) (b3 : 0 ≤ a3 ∧ a3 ≤ 255) (b4 : 0 ≤ a4 ∧ a4 ≤ 255) : ∃ k, insolvencylaw16_MarshalSubmodular.f k L A a2 a3 a4 = some true := by
 refine Ev.rounds ?_
 obtain ⟨s, rfl⟩ := Int.eq_ofNat_of_zero_le b2.1
 obtain ⟨t, rfl⟩ := Int.eq_ofNat_of_zero_le b3.1
 obtain ⟨o, rfl⟩ := Int.eq_ofNat_of_zero_le b4.1
 have hs : s < 256 := by omega
 have ht : t < 256 := by omega
 have ho : o < 256 := by omega
 have hst : s ||| t < 2 ^ 8 := Nat.or_lt_two_pow (by omega) (by omega)
 have hst' : s ||| t < 256 := hst
 have hx := Xw_ok hL A
 have h6 := Ow_length A
 have hc := nw_pos hA L
 unfold insolvencylaw16_MarshalSubmodular.f
 refine Ev.bind (Ow_ev hA) ?_
 by_cases h0 : (Ow A).length = 0
 ·simp only [List.length_map, if_pos (show ((Ow A).length : Int) = 0 by omega)]
  exact Ev.bind awake16_ev (Ev.now _)
 ·have hX := Xw_ev hL A
  rw [List.length_map] at hX
  simp only [List.length_map, if_neg (show ¬ ((Ow A).length : Int) = 0 by omega)]
  have hw : wrap64 (o : Int) = (o : Int) := aw64 (by omega) (by omega)
  have hm : Int.tmod (o : Int) ((Ow A).length : Int) = ((o % (Ow A).length : Nat) : Int) := by
   rw [Int.tmod_eq_emod_of_nonneg (by omega)]; rfl
  have hxl := Nat.mod_lt o (show 0 < (Ow A).length by omega)
  generalize o % (Ow A).length = x at hm hxl
  have hor := or_u8 s t hs ht
  have e1 := set_ev s (Ow A).length hs (by omega)
  have e2 := set_ev (s ||| t) (Ow A).length hst' (by omega)
  have l1 := setl_length s (Ow A).length
  have l2 := setl_length (s ||| t) (Ow A).length
  have m1 : ∀ y ∈ setl s (Ow A).length, 0 ≤ y ∧ y < ((Ow A).length : Int) := fun y hy => setl_mem hy
  have m2 : ∀ y ∈ setl (s ||| t) (Ow A).length, 0 ≤ y ∧ y < ((Ow A).length : Int) := fun y hy => setl_mem hy
  have m3 : ∀ y ∈ setl s (Ow A).length ++ [(x : Int)], 0 ≤ y ∧ y < ((Ow A).length : Int) := fun y hy => by
   rcases List.mem_append.1 hy with hy | hy
   ·exact m1 y hy
   ·simp only [List.mem_singleton] at hy; omega
  have m4 : ∀ y ∈ setl (s ||| t) (Ow A).length ++ [(x : Int)], 0 ≤ y ∧ y < ((Ow A).length : Int) := fun y hy => by
   rcases List.mem_append.1 hy with hy | hy
   ·exact m2 y hy
   ·simp only [List.mem_singleton] at hy; omega
  have c1 := Capacity_ev (Ow A) (by omega) (Ow_nn hA) (Xw L A) (Pw L) hx _ m1 (by omega)
  have c2 := Capacity_ev (Ow A) (by omega) (Ow_nn hA) (Xw L A) (Pw L) hx _ m3 (by rw [List.length_append, List.length_singleton]; omega)
  have c3 := Capacity_ev (Ow A) (by omega) (Ow_nn hA) (Xw L A) (Pw L) hx _ m2 (by omega)
  have c4 := Capacity_ev (Ow A) (by omega) (Ow_nn hA) (Xw L A) (Pw L) hx _ m4 (by rw [List.length_append, List.length_singleton]; omega)
  have hsub : ∀ j, inl (setl s (Ow A).length) j = true → inl (setl (s ||| t) (Ow A).length) j = true := fun j hj => by
   rw [inl_setl] at hj ⊢
   rw [Bool.and_eq_true] at hj ⊢
   refine ⟨?_, hj.2⟩
   rw [Nat.testBit_or, hj.1]; rfl
  have f1 : inl (setl s (Ow A).length ++ [(x : Int)]) = fun j => inl (setl s (Ow A).length) j || decide (j = x) := funext fun j => inl_append _ x j
  have f2 : inl (setl (s ||| t) (Ow A).length ++ [(x : Int)]) = fun j => inl (setl (s ||| t) (Ow A).length) j || decide (j = x) := funext fun j => inl_append _ x j
  have hmore := cap_more (Pw L) hc (inl (setl s (Ow A).length)) (inl (setl (s ||| t) (Ow A).length)) hsub x
  have hmono := cap_mono (Pw L) hc hsub
  have hm1 := cap_mono (Pw L) hc (s := inl (setl s (Ow A).length)) (t := fun j => inl (setl s (Ow A).length) j || decide (j = x)) (fun j hj => by rw [hj]; rfl)
  have hm2 := cap_mono (Pw L) hc (s := inl (setl (s ||| t) (Ow A).length)) (t := fun j => inl (setl (s ||| t) (Ow A).length) j || decide (j = x)) (fun j hj => by rw [hj]; rfl)
  rw [f1] at c2
  rw [f2] at c4
  have k1 := nw_cap hL hA (inl (setl s (Ow A).length))
  have k2 := nw_cap hL hA (fun j => inl (setl s (Ow A).length) j || decide (j = x))
  have k3 := nw_cap hL hA (inl (setl (s ||| t) (Ow A).length))
  have k4 := nw_cap hL hA (fun j => inl (setl (s ||| t) (Ow A).length) j || decide (j = x))
  have en : net (Xw L A) (Ow A) = nw L A := rfl
  rw [en] at c1 c2 c3 c4
  obtain ⟨z1, hz1⟩ : ∃ z, cap (Pw L) (nw L A) (inl (setl s (Ow A).length)) = z := ⟨_, rfl⟩
  obtain ⟨z2, hz2⟩ : ∃ z, cap (Pw L) (nw L A) (fun j => inl (setl s (Ow A).length) j || decide (j = x)) = z := ⟨_, rfl⟩
  obtain ⟨z3, hz3⟩ : ∃ z, cap (Pw L) (nw L A) (inl (setl (s ||| t) (Ow A).length)) = z := ⟨_, rfl⟩
  obtain ⟨z4, hz4⟩ : ∃ z, cap (Pw L) (nw L A) (fun j => inl (setl (s ||| t) (Ow A).length) j || decide (j = x)) = z := ⟨_, rfl⟩
  rw [hz1] at c1 k1 hmore hmono hm1
  rw [hz2] at c2 k2 hmore hm1
  rw [hz3] at c3 k3 hmore hmono hm2
  rw [hz4] at c4 k4 hmore hm2
  have g1 : (setl s (Ow A).length).length < 17592186044416 := by omega
  have g2 : (setl (s ||| t) (Ow A).length).length < 17592186044416 := by omega
  refine Ev.bind hX (Ev.bind e1 (Ev.bind c1 (Ev.bind e1 ?_)))
  simp only [if_pos g1, hw, hm]
  refine Ev.bind c2 ?_
  simp only [hor]
  refine Ev.bind e2 (Ev.bind c3 (Ev.bind e2 ?_))
  simp only [if_pos g2]
  refine Ev.bind c4 ?_
  simp only [if_true, beq_self_eq_true]
  have s1 := Subtract_z (z := z2) (w := z1) (mod_of k2.1 (by omega)) (mod_of k1.1 (by omega))
  have s2 := Subtract_z (z := z4) (w := z3) (mod_of k4.1 (by omega)) (mod_of k3.1 (by omega))
  have s3 := Compare_z (z := z2 - z1) (w := z4 - z3) (mod_of (by omega) (by omega)) (mod_of (by omega) (by omega)) (by omega) (by omega)
  have s4 := Compare_z (z := z1) (w := z3) (mod_of k1.1 (by omega)) (mod_of k3.1 (by omega)) k1.1 k3.1
  have g3 : icmp (z2 - z1) (z4 - z3) ≥ 0 := Int.not_lt.1 (icmp_ge hmore)
  have g4 := icmp_le hmono
  refine Ev.step (f := fun k => (insolvencylaw16_awake.f k).bind fun a => if a = true then (q_Subtract.f k (e3 z2).1 (e3 z2).2.1 (e3 z2).2.2 (e3 z1).1 (e3 z1).2.1 (e3 z1).2.2).bind fun b => (q_Subtract.f k (e3 z4).1 (e3 z4).2.1 (e3 z4).2.2 (e3 z3).1 (e3 z3).2.1 (e3 z3).2.2).bind fun d => (q_Compare.f k b.1 b.2.1 b.2.2 d.1 d.2.1 d.2.2).bind fun c => if c ≥ 0 then (q_Compare.f k (e3 z1).1 (e3 z1).2.1 (e3 z1).2.2 (e3 z3).1 (e3 z3).2.1 (e3 z3).2.2).bind fun c => some (decide (c ≤ 0)) else none else none) (fun k => ?_) (Ev.bind awake16_ev ?_)
  ·simp only [insolvencylaw16_MarshalSubmodular.j0, if_true]
  ·simp only [if_true]
   refine Ev.bind s1 (Ev.bind s2 (Ev.bind s3 ?_))
   simp only [if_pos g3]
   refine Ev.bind s4 ?_
   rw [decide_eq_true g4]
   exact Ev.now _
end Go.Proofs.YtppimdempdnhoaaDoor.Pure
namespace Go.Proofs.YtppimdempdnhoaaDoor.C
open Go.ChangeShapes Go.WideShapes Go.ChangeAt Go.RowKit Go.Deep Go.PrWords
theorem cells_u16 : Tryd.prog.cellsOf 45 = 1 := by kernel_rfl
theorem cells_arr : Tryd.prog.cellsOf 46 = 6 := by kernel_rfl
theorem list6 {α : Type} (l : List α) (h : l.length = 6) : ∃ a b c d e f, l = [a, b, c, d, e, f] := by
  match l, h with
  | [a, b, c, d, e, f], _ => exact ⟨a, b, c, d, e, f, rfl⟩
section
variable {H : Type} {enc : TypeId × Value → H} {P : Program} {w : World} {base : Nat} {spare : Nat → Bool} {held : Bool}
theorem trod_array6 {t e : TypeId} {fuel : Nat} {c0 c1 c2 c3 c4 c5 : Value} {x : DataW H × List MemPlace} (ht : P.underlying t = some (.array 6 e)) (hce : P.cellsOf e = 1)
    (h : DataW.trod enc P w base spare held fuel t [c0, c1, c2, c3, c4, c5] = some x) :
    ∃ y0 y1 y2 y3 y4 y5 n, x = (.agg [y0.1, y1.1, y2.1, y3.1, y4.1, y5.1], y0.2 ++ (y1.2 ++ (y2.2 ++ (y3.2 ++ (y4.2 ++ y5.2))))) ∧ DataW.trod enc P w base spare held n e [c0] = some y0 ∧ DataW.trod enc P w base spare held n e [c1] = some y1 ∧ DataW.trod enc P w base spare held n e [c2] = some y2 ∧ DataW.trod enc P w base spare held n e [c3] = some y3 ∧ DataW.trod enc P w base spare held n e [c4] = some y4 ∧ DataW.trod enc P w base spare held n e [c5] = some y5 := by
  cases fuel with
  | zero => simp [DataW.trod] at h
  | succ n =>
    unfold DataW.trod at h
    rw [ht] at h
    have r6 : List.range 6 = [0, 1, 2, 3, 4, 5] := rfl
    simp [r6, hce] at h
    obtain ⟨_, h⟩ := h
    cases h0 : DataW.trod enc P w base spare held n e [c0] with
    | none => simp [h0] at h
    | some y0 =>
      cases h1 : DataW.trod enc P w base spare held n e [c1] with
      | none => simp [h0, h1] at h
      | some y1 =>
        cases h2 : DataW.trod enc P w base spare held n e [c2] with
        | none => simp [h0, h1, h2] at h
        | some y2 =>
          cases h3 : DataW.trod enc P w base spare held n e [c3] with
          | none => simp [h0, h1, h2, h3] at h
          | some y3 =>
            cases h4 : DataW.trod enc P w base spare held n e [c4] with
            | none => simp [h0, h1, h2, h3, h4] at h
            | some y4 =>
              cases h5 : DataW.trod enc P w base spare held n e [c5] with
              | none => simp [h0, h1, h2, h3, h4, h5] at h
              | some y5 =>
                simp [h0, h1, h2, h3, h4, h5] at h
                exact ⟨y0, y1, y2, y3, y4, y5, n, h.symm, h0, h1, h2, h3, h4, h5⟩
end
section
variable {H : Type} {enc : TypeId × Value → H} {w : World} {base : Nat} {spare : Nat → Bool} {held : Bool}
theorem open_arr_cells {fuel : Nat} {cs : List Value} {x : DataW H × List MemPlace} (hl : cs.length = 6) (h : DataW.trod enc Tryd.prog w base spare held fuel 46 cs = some x) :
    ∃ y : S46, ok6 y ∧ cs = [.int .u16 y.f0, .int .u16 y.f1, .int .u16 y.f2, .int .u16 y.f3, .int .u16 y.f4, .int .u16 y.f5] ∧ x = (.agg [.lit (.int .u16 y.f0), .lit (.int .u16 y.f1), .lit (.int .u16 y.f2), .lit (.int .u16 y.f3), .lit (.int .u16 y.f4), .lit (.int .u16 y.f5)], []) := by
  obtain ⟨c0, c1, c2, c3, c4, c5, rfl⟩ := list6 cs hl
  obtain ⟨y0, y1, y2, y3, y4, y5, m, hx, hy0, hy1, hy2, hy3, hy4, hy5⟩ := trod_array6 Tryd.underlying46 cells_u16 h
  obtain ⟨x0, e0, rfl, w0⟩ := DataW.trod_int Tryd.underlying45 hy0
  obtain ⟨x1, e1, rfl, w1⟩ := DataW.trod_int Tryd.underlying45 hy1
  obtain ⟨x2, e2, rfl, w2⟩ := DataW.trod_int Tryd.underlying45 hy2
  obtain ⟨x3, e3, rfl, w3⟩ := DataW.trod_int Tryd.underlying45 hy3
  obtain ⟨x4, e4, rfl, w4⟩ := DataW.trod_int Tryd.underlying45 hy4
  obtain ⟨x5, e5, rfl, w5⟩ := DataW.trod_int Tryd.underlying45 hy5
  simp at e0 e1 e2 e3 e4 e5
  subst e0 e1 e2 e3 e4 e5
  have b0 := bounds_u16 w0
  have b1 := bounds_u16 w1
  have b2 := bounds_u16 w2
  have b3 := bounds_u16 w3
  have b4 := bounds_u16 w4
  have b5 := bounds_u16 w5
  refine ⟨⟨x0, x1, x2, x3, x4, x5⟩, ⟨⟨b0.1, ?_⟩, ⟨b1.1, ?_⟩, ⟨b2.1, ?_⟩, ⟨b3.1, ?_⟩, ⟨b4.1, ?_⟩, ⟨b5.1, ?_⟩⟩, rfl, by rw [hx]; rfl⟩
  all_goals (dsimp only; omega)
end
theorem open_slice_of {α : Type} [Inhabited α] (d : Kd α) (Q : α → Prop) {H : Type} {enc : TypeId × Value → H} {P : Program} {w : World} {base : Nat} {spare : Nat → Bool} {held : Bool} {t e : TypeId} (ht : P.underlying t = some (.slice e)) (hsz : P.cellsOf e = d.sz)
    (hel : ∀ (n : Nat) (cs : List Value) (x : DataW H × List MemPlace), cs.length = d.sz → DataW.trod enc P w base spare held n e cs = some x → ∃ y : α, Q y ∧ d.K w y cs) {A : Option Addr} {len cap : Nat} {D : DataW H} {p : List MemPlace} (h : DataW.Trod enc P w base spare held t (.slice A len cap) D p) :
    ∃ l : List α, l.length = len ∧ len ≤ cap ∧ d.C w A len l ∧ ∀ y ∈ l, Q y := by
  obtain ⟨fuel, hf⟩ := h
  rcases open_slice ht hf with ⟨hc, _⟩ | ⟨a, len', cap', m, n, D', Pl, hc, hb, hl, hm, hmm, _, hx⟩
  · simp only [Value.cells, List.cons.injEq, Value.slice.injEq, and_true] at hc
    obtain ⟨rfl, rfl, rfl⟩ := hc
    exact ⟨[], rfl, Nat.le_refl _, ⟨rfl, by simp, fun h => absurd h (Nat.lt_irrefl 0)⟩, fun y hy => by cases hy⟩
  · simp only [Value.cells, List.cons.injEq, Value.slice.injEq, and_true] at hc
    obtain ⟨rfl, rfl, rfl⟩ := hc
    have hml : len ≤ m := by rw [hmm]; split <;> omega
    obtain ⟨V, hV⟩ := choose_lt (n := len) (p := fun i (y : α) => Q y ∧ ∃ cs, cs.length = d.sz ∧ d.K w y cs ∧ ∀ j u, cs[j]? = some u → w.cell? ((a.add (i * d.sz)).add j) = some u) (fun i hi => by
      obtain ⟨cs', h1, h2⟩ := hx i (by omega)
      rw [hsz] at h1
      obtain ⟨_, hlen, hcell⟩ := World.cells?_some h1
      obtain ⟨y, hq, hk⟩ := hel n cs' _ hlen h2
      refine ⟨y, hq, cs', hlen, hk, fun j u hj => ?_⟩
      have hjl : j < d.sz := by rw [← hlen]; exact (List.getElem?_eq_some_iff.1 hj).1
      rw [hcell j hjl, hj])
    refine ⟨(List.range len).map V, by simp, hl, ⟨by simp, by have : maxLen = 9223372036854775807 := rfl; omega, fun _ => ⟨a, rfl, fun j y hj => ?_⟩⟩, fun y hy => ?_⟩
    · rw [List.getElem?_map] at hj
      have hjl : j < len := by
        rcases Nat.lt_or_ge j len with h | h
        · exact h
        · rw [List.getElem?_eq_none (by simpa using h)] at hj; cases hj
      rw [List.getElem?_range hjl] at hj
      injection hj with hj
      subst hj
      obtain ⟨_, cs, h1, h2, h3⟩ := hV j hjl
      exact ⟨cs, h1, h2, fun i u hi => by rw [← Addr.add_add]; exact h3 i u hi⟩
    · obtain ⟨i, hi, rfl⟩ := List.mem_map.1 hy
      exact (hV i (by simpa using hi)).1
instance : Inhabited S46 := ⟨⟨0, 0, 0, 0, 0, 0⟩⟩
theorem open_rows {H : Type} {enc : TypeId × Value → H} {w : World} {base : Nat} {spare : Nat → Bool} {held : Bool} {A : Option Addr} {len cap : Nat} {D : DataW H} {p : List MemPlace} (h : DataW.Trod enc Tryd.prog w base spare held 22 (.slice A len cap) D p) :
    ∃ l : List S46, l.length = len ∧ len ≤ cap ∧ Kd.C k46 w A len l ∧ ∀ y ∈ l, ok6 y :=
  open_slice_of k46 ok6 Tryd.underlying22 cells_arr (fun n cs x hl hx => by
    obtain ⟨y, hy, rfl, _⟩ := open_arr_cells hl hx
    exact ⟨y, hy, k46_mk w y⟩) h
theorem open_nums {H : Type} {enc : TypeId × Value → H} {w : World} {base : Nat} {spare : Nat → Bool} {held : Bool} {A : Option Addr} {len cap : Nat} {D : DataW H} {p : List MemPlace} (h : DataW.Trod enc Tryd.prog w base spare held 23 (.slice A len cap) D p) :
    ∃ l : List Int, l.length = len ∧ len ≤ cap ∧ Kd.C (Kd.int .u16) w A len l ∧ ∀ y ∈ l, 0 ≤ y ∧ y < 65536 :=
  open_slice_of (Kd.int .u16) (fun y => 0 ≤ y ∧ y < 65536) Tryd.underlying23 cells_u16 (fun n cs x hl hx => by
    obtain ⟨y, rfl, _, wf⟩ := DataW.trod_int Tryd.underlying45 hx
    have b := bounds_u16 wf
    exact ⟨y, ⟨b.1, by omega⟩, rfl⟩) h
end Go.Proofs.YtppimdempdnhoaaDoor.C
end
section
namespace Go.Proofs.YtppimdempdnhoaaDoor.marshalSubmodular
open Go.ChangeShapes Go.WideShapes Go.ChangeAt Go.RowKit
set_option linter.unusedVariables false
theorem laidOut : laidOutB Tryd.prog = true := by kernel_rfl
set_option maxRecDepth 100000 in
theorem contract (H : Type) (enc : TypeId × Value → H) (W : World) (base : Nat) (args : Array Value) (ds gs : List (DataW H)) (before : List MemPlace) (hl : laidMetH Tryd.prog laidL W)
    (hval : ∀ (j : Nat) t v, Tryd.f4.params[j]? = some t → args[j]? = some v → Value.okWide Tryd.prog W .any base t v)
    (hW : DataW.Whole enc Tryd.prog Tryd.f4.params.toList Rows.marshalSubmodularSpec.vars false W args.toList ds gs before) :
    Calls Tryd.prog 4 args W fun e W' => ∃ v, e = .returned v ∧ Rows.marshalSubmodularSpec.post enc Tryd.prog Tryd.f4 false true false false W args v W' := by
  have hW' := hW
  obtain ⟨p, q, hA0, hV, rfl, hfz, hnd⟩ := hW
  have hA : DataW.TrodAll enc Tryd.prog W 0 (fun _ => true) true Tryd.f4.params.toList args.toList ds p := hA0
  rw [Tryd.params4] at hA hval
  obtain ⟨v0, vs0, d0, ds0, p0, q0, hargs, rfl, rfl, h0, r0⟩ := trodAll_cons hA
  obtain ⟨v1, vs1, d1, ds1, p1, q1, rfl, rfl, rfl, h1, r1⟩ := trodAll_cons r0
  obtain ⟨v2, vs2, d2, ds2, p2, q2, rfl, rfl, rfl, h2, r2⟩ := trodAll_cons r1
  obtain ⟨v3, vs3, d3, ds3, p3, q3, rfl, rfl, rfl, h3, r3⟩ := trodAll_cons r2
  obtain ⟨v4, vs4, d4, ds4, p4, q4, rfl, rfl, rfl, h4, r4⟩ := trodAll_cons r3
  obtain ⟨rfl, rfl, rfl⟩ := trodAll_nil r4
  obtain rfl : args = #[v0, v1, v2, v3, v4] := by cases args; simp_all
  obtain ⟨rfl, rfl⟩ := trodVars_none hV
  obtain ⟨A0, len0, cap0, rfl⟩ := okWide_slice Tryd.underlying22 (hval 0 22 v0 rfl rfl)
  have k0 := h0
  have lt0 : ∀ x ∈ p0, x.block < W.heap.size := by obtain ⟨m, hm⟩ := k0; exact DataW.trod_lt m _ _ _ hm
  obtain ⟨l0, hl0, hc0, hr0, ho0⟩ := C.open_rows h0
  subst hl0
  obtain ⟨A1, len1, cap1, rfl⟩ := okWide_slice Tryd.underlying23 (hval 1 23 v1 rfl rfl)
  have k1 := h1
  have lt1 : ∀ x ∈ p1, x.block < W.heap.size := by obtain ⟨m, hm⟩ := k1; exact DataW.trod_lt m _ _ _ hm
  obtain ⟨l1, hl1, hc1, hr1, ho1⟩ := C.open_nums h1
  subst hl1
  obtain ⟨a2, rfl, rfl, rfl, w2⟩ := open_int Tryd.underlying5 (hval 2 5 v2 rfl rfl) h2
  obtain ⟨a3, rfl, rfl, rfl, w3⟩ := open_int Tryd.underlying5 (hval 3 5 v3 rfl rfl) h3
  obtain ⟨a4, rfl, rfl, rfl, w4⟩ := open_int Tryd.underlying5 (hval 4 5 v4 rfl rfl) h4
  clear hA0
  obtain ⟨k_, hk_⟩ := Pure.MarshalSubmodular l0 l1 a2 a3 a4 ho0 ho1 (bounds_u8 w2) (bounds_u8 w3) (bounds_u8 w4)
  refine (C.insolvencylaw16_MarshalSubmodular.calls k_ A0 cap0 l0 A1 cap1 l1 a2 a3 a4 true W hr0 hc0 hr1 hc1 hk_ (tz_of_laid hl)).mono fun e W' ⟨he, bel⟩ => ?_
  subst he
  exact ⟨_, rfl, _, _, _, [], _, [], hW', trodAll_mk1 (shut_bool Tryd.underlying4 _), (trodAll_cons_mk (Below.trod laidOut (by kernel_rfl) (of_decide_eq_true (by kernel_rfl)) k0 bel lt0) (trodAll_cons_mk (Below.trod laidOut (by kernel_rfl) (of_decide_eq_true (by kernel_rfl)) k1 bel lt1) (trodAll_cons_mk (shut_int Tryd.underlying5 w2) (trodAll_cons_mk (shut_int Tryd.underlying5 w3) (trodAll_cons_mk (shut_int Tryd.underlying5 w4) trodAll_mk0))))), rfl, bel.frame _, fun h => by cases h⟩
theorem reads (os : Os) {H : Type} (enc : TypeId × Value → H) : ∃ places, DataW.whole enc Tryd.prog ((laidWorld os).forCall (fun _ _ => 0) ⟨#[], #[.slice none 0 0, .slice none 0 0, .int .u8 0, .int .u8 0, .int .u8 0], []⟩).memory Tryd.f4.params.toList Rows.marshalSubmodularSpec.vars false (#[.slice none 0 0, .slice none 0 0, .int .u8 0, .int .u8 0, .int .u8 0] : Array Value).toList 8 = some ([.nil, .nil, .lit (.int .u8 0), .lit (.int .u8 0), .lit (.int .u8 0)], [], places) :=
  ⟨[], by kernel_rfl⟩
set_option maxRecDepth 100000 in
theorem lifted (os : Os) (started : os.Started) (H : Type) (enc : TypeId × Value → H) (F : Stop.Interp) :
    ReturnsInHanded {} Tryd.checked os 4 .any ((OpenSpec.ofChange Rows.marshalSubmodularSpec).preRow enc Tryd.prog Tryd.f4 Rows.marshalSubmodularRow.domain false Rows.marshalSubmodularRow.laid) (((OpenSpec.ofChange Rows.marshalSubmodularSpec).at F).post enc Tryd.prog Tryd.f4 false true false false) := by
  obtain ⟨places, hx⟩ := reads os enc
  refine returnsInHanded_of_row (C := Tryd.checked) (s := OpenSpec.ofChange Rows.marshalSubmodularSpec) own started (by kernel_rfl) Tryd.func4
    (witness_row_at (enc := enc) (C := Tryd.checked) false (laidWorld os) #[.slice none 0 0, .slice none 0 0, .int .u8 0, .int .u8 0, .int .u8 0] rfl (by kernel_rfl) (by kernel_rfl) (by kernel_rfl)
      (OpenSpec.preRow_of_cond 8 hx (by kernel_rfl) (fun k hk => by cases hk) (by kernel_rfl) (laid_met os _))) ?_
  intro W base args ds gs before hval hW _ _ _ hl _ _
  exact contract H enc W base args ds gs before hl hval hW
theorem said : Rows.MarshalSubmodularSaid :=
  OpenClaim.holds_of_cond 4 Tryd.f4 rfl rfl rfl rfl rfl rfl rfl ⟨rfl, rfl, rfl, rfl, rfl⟩ rfl rfl rfl rfl rfl (by kernel_rfl) Tryd.func4 (by kernel_rfl)
    (of_decide_eq_true (by kernel_rfl)) (by unfold Func.isWrapper; first | (rw [if_pos (by decide +kernel)]; kernel_rfl) | (rw [if_neg (by decide +kernel)]; exact ⟨rfl, rfl⟩))
    (fun os started H enc _ F => by rw [OpenClaim.pre_eq_preRow]; exact lifted os started H enc F)
theorem plain (f : FuncId) (fn : Func) (hf : Tryd.pinned.checked.prog.funcNamed "insolvency/insolvencylaw16.MarshalSubmodular" = some f) (hfn : Tryd.pinned.checked.prog.funcs[f]? = some fn) :
    false = Tryd.pinned.checked.prog.looks [] ∧ ∀ (j : Nat) t, fn.params[j]? = some t → Tryd.pinned.checked.prog.wantsStandIn t = false := by
  obtain rfl : f = 4 := Option.some.inj ((show Tryd.prog.funcNamed "insolvency/insolvencylaw16.MarshalSubmodular" = some 4 by kernel_rfl).symm.trans hf) |>.symm
  obtain rfl : fn = Tryd.f4 := (Option.some.inj (Tryd.func4.symm.trans hfn)).symm
  refine ⟨by kernel_rfl, fun j t ht => ?_⟩
  rw [Tryd.params4] at ht
  have hm := Array.mem_of_getElem? ht
  simp at hm
  rcases hm with rfl | rfl | rfl
  · exact (show Tryd.prog.wantsStandIn 22 = false by kernel_rfl)
  · exact (show Tryd.prog.wantsStandIn 23 = false by kernel_rfl)
  · exact (show Tryd.prog.wantsStandIn 5 = false by kernel_rfl)
end Go.Proofs.YtppimdempdnhoaaDoor.marshalSubmodular
namespace Go.Proofs.YtppimdempdnhoaaDoor
theorem marshalSubmodular_card : Rows.MarshalSubmodularCardSaid :=
  Claim7.holds_tied_plain_at .later [] _ _ _ _ marshalSubmodular.said (fun _ h => by cases h) (by kernel_rfl) (fun _ h => by cases h) marshalSubmodular_row_tie rfl ⟨rfl, rfl⟩ (by kernel_rfl) rfl marshalSubmodular.plain (by kernel_rfl)
#print axioms marshalSubmodular_card
end Go.Proofs.YtppimdempdnhoaaDoor
end
