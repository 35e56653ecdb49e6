/- The law MarshalFair returns true for every input: the first claims together receive at least as much as without marshalling, and the most senior claim receives the same. The tied card, with no condition beyond the card's own. -/
import Derived.Deep.Slices
import Derived.ChangeArms
import Derived.SevenTiedAt
import Derived.Test.YtppimdempdnhoaaDoorZMF5
section
set_option linter.unusedVariables false
set_option linter.unusedSimpArgs false
namespace Go.Proofs.YtppimdempdnhoaaDoor.C
open Go.RowKit Go.PrWords Go.PrLast Go.PrMore
set_option maxRecDepth 100000 in
theorem awake16_ev : Ev (fun k => insolvencylaw16_awake.f k) true := Ev.of insolvencylaw16_awake.mono (k := 60) (by decide +kernel)
theorem msk_16 {xs : List S50} (h4 : xs.length ≤ 4) (c : Nat) : msk xs xs.length c < 16 := by
  have h := msk_lt xs c xs.length
  have hp : 2 ^ xs.length ≤ 2 ^ 4 := Nat.pow_le_pow_right (by decide) h4
  omega
def net (xs : List S50) (os : List Int) : List (Nat × Int) := clm os (msk xs xs.length)
theorem Totals_ev (os : List Int) (h6 : os.length ≤ 24) (hn : Nn os) (xs : List S50) (ps : List Int) (hx : Its (os.length : Int) xs ps) : Ev (fun k => marshal_Totals.f k xs (os.map sz)) (tab os.length (totl ps (net xs os)), 0) := by
  have hc := Check_ev os h6 hn xs ps hx
  have hb := build_ev os hn (by omega) xs ps hx
  have hp := hx.nn
  have ht := totals_ev ps os hp (by rw [← hx.1]; exact hx.2.1) hn (by omega) (msk xs xs.length) (fun c _ => msk_16 hx.2.1 c)
  unfold marshal_Totals.f
  refine Ev.bind hc ?_
  simp only [if_true]
  exact Ev.bind hb (Ev.bind ht (Ev.now _))
def inl (l : List Int) (j : Nat) : Bool := l.any fun x => decide (x = (j : Int))
def below (s : Nat → Bool) (c : Nat) (j : Nat) : Bool := s j && decide (j < c)
set_option maxRecDepth 100000 in
theorem and_tab : ∀ a : Fin 16, ∀ i : Fin 4, decide (Go.bits .and .u64 ((a : Nat) : Int) (shl .u64 1 ((i : Nat) : Int)) = 0) = !(a : Nat).testBit (i : Nat) := by decide +kernel
section
variable (ps os : List Int) (f : Nat → Nat)
def gl : Nat → List Int
  | 0 => ps
  | c + 1 => (gr (f c) 0 (os.getD c 0) (gl c)).2
def gt (c : Nat) : Int := (gr (f c) 0 (os.getD c 0) (gl ps os f c)).1
theorem gl_length : ∀ c, (gl ps os f c).length = ps.length := by
  intro c
  induction c with
  | zero => rfl
  | succ c ih => simp only [gl]; rw [gr_length, ih]
end
theorem gl_pos {ps os : List Int} (hp : Nn ps) (hn : Nn os) (f : Nat → Nat) : ∀ c, Pos (gl ps os f c) := by
  intro c
  induction c with
  | zero => exact nn_pos hp
  | succ c ih => exact gr_pos _ ih _ _ (hn.at_ c).1
theorem gr_upper (I : Nat) {L : List Int} (h : Nn L) : ∀ (i : Nat) (r : Int), 0 ≤ r → Nn (gr I i r L).2 := by
  induction L with
  | nil => intro i r _; exact h
  | cons a L ih =>
    intro i r hr
    have h1 := h a (List.mem_cons_self ..)
    have ih := ih (fun x hx => h x (List.mem_cons_of_mem _ hx))
    simp only [gr]
    split
    · intro x hx
      rcases List.mem_cons.1 hx with hx | hx
      · rw [hx]; split <;> omega
      · exact ih (i + 1) _ (by split <;> omega) x hx
    · intro x hx
      rcases List.mem_cons.1 hx with hx | hx
      · rw [hx]; exact h1
      · exact ih (i + 1) _ hr x hx
theorem gl_nn {ps os : List Int} (hp : Nn ps) (hn : Nn os) (f : Nat → Nat) : ∀ c, Nn (gl ps os f c) := by
  intro c
  induction c with
  | zero => exact hp
  | succ c ih => exact gr_upper _ ih _ _ (hn.at_ c).1
theorem grs_split (ps os : List Int) (f : Nat → Nat) : ∀ c, c ≤ os.length → grs (clm os f) ps = (List.range c).map (gt ps os f) ++ grs ((clm os f).drop c) (gl ps os f c) := by
  intro c
  induction c with
  | zero => intro _; rfl
  | succ c ih =>
    intro hc
    have hcl : c < (clm os f).length := by rw [clm_length]; omega
    have hg : (clm os f)[c] = (f c, os.getD c 0) := by simp [clm]
    rw [ih (by omega), List.drop_eq_getElem_cons hcl, hg, List.range_succ, List.map_append, List.append_assoc]
    rfl
theorem grs_eq (ps os : List Int) (f : Nat → Nat) : grs (clm os f) ps = (List.range os.length).map (gt ps os f) := by
  have h := grs_split ps os f os.length (Nat.le_refl _)
  rw [List.drop_of_length_le (by rw [clm_length]; exact Nat.le_refl _)] at h
  simpa [grs] using h
def gtab (ps os : List Int) (f : Nat → Nat) (c : Nat) (got : Int) : List S32 := tab os.length fun j => if j < c then gt ps os f j else if j = c then got else 0
theorem Greedy_l1 (ps os : List Int) (hp : Nn ps) (h4 : ps.length ≤ 4) (hn : Nn os) (h6 : os.length ≤ 1000) (f : Nat → Nat) (hf : ∀ c, c < os.length → f c < 16) (c : Nat) (hc : c < os.length) {R : List S32 × Int}
    (h : Ev (fun k => marshal_Greedy.l0 k (gtab ps os f (c + 1) 0) (os.length : Int) ((c + 1 : Nat) : Int) ((gl ps os f (c + 1)).map sz) (os.map sz) (mks os.length f)) R) : ∀ (Bt : List Int) (A : List Int) (i : Nat) (got : Int), A.length = i → i + Bt.length = ps.length → Nn A → Nn Bt → 0 ≤ got → got ≤ os.getD c 0 →
    (got + (gr (f c) i (os.getD c 0 - got) Bt).1, A ++ (gr (f c) i (os.getD c 0 - got) Bt).2) = (gt ps os f c, gl ps os f (c + 1)) →
    Ev (fun k => marshal_Greedy.l1 k (gtab ps os f c got) (c : Int) (os.length : Int) (c : Int) (ps.length : Int) (i : Int) ((A ++ Bt).map sz) (os.map sz) (mks os.length f)) R := by
  have hoc := hn.at_ c
  intro Bt
  induction Bt with
  | nil =>
    intro A i got hA hi hnA hnB g0 g1 e12
    simp only [gr, Int.add_zero] at e12
    have e2 := congrArg Prod.snd e12
    simp only at e2
    have hw : wrap64 ((c : Int) + 1) = ((c + 1 : Nat) : Int) := by rw [aw64 (by omega) (by omega)]; rfl
    have hend : ¬ (i : Int) < (ps.length : Int) := by simp only [List.length_nil] at hi; omega
    rw [e2]
    have e : gtab ps os f c got = gtab ps os f (c + 1) 0 := by
      unfold gtab
      refine tab_congr fun j hj => ?_
      by_cases h1 : j < c
      · rw [if_pos h1, if_pos (show j < c + 1 by omega)]
      · rw [if_neg h1]
        by_cases h2 : j = c
        · rw [if_pos h2, if_pos (show j < c + 1 by omega), h2]
          exact congrArg Prod.fst e12
        · rw [if_neg h2, if_neg (show ¬ j < c + 1 by omega)]
          split <;> rfl
    rw [e]
    refine Ev.step (f := fun k => marshal_Greedy.l0 k (gtab ps os f (c + 1) 0) (os.length : Int) ((c + 1 : Nat) : Int) ((gl ps os f (c + 1)).map sz) (os.map sz) (mks os.length f)) (fun k => ?_) h
    simp only [marshal_Greedy.l1]
    rw [if_neg hend, hw]
  | cons a Bt ih =>
    intro A i got hA hi hnA hnB g0 g1 e12
    simp only [List.length_cons] at hi
    have ha := hnB a (List.mem_cons_self ..)
    have hnB' : Nn Bt := fun x hx => hnB x (List.mem_cons_of_mem _ hx)
    have hil : i < ps.length := by omega
    have hw : wrap64 ((i : Int) + 1) = ((i + 1 : Nat) : Int) := by rw [aw64 (by omega) (by omega)]; rfl
    have ht := and_tab ⟨f c, hf c hc⟩ ⟨i, by omega⟩
    simp only at ht
    have hlen : (A ++ a :: Bt).length = ps.length := by rw [List.length_append, List.length_cons]; omega
    have hget : (A ++ a :: Bt).getD i 0 = a := by
      rw [List.getD_eq_getElem?_getD, List.getElem?_append_right (by omega), hA, Nat.sub_self]; rfl
    cases hbit : (f c).testBit i
    · rw [hbit] at ht
      simp only [gr, hbit, if_neg Bool.false_ne_true] at e12
      have hr := ih (A ++ [a]) (i + 1) got (by rw [List.length_append]; simp; omega) (by omega) (fun x hx => by
        rcases List.mem_append.1 hx with hx | hx
        · exact hnA x hx
        · simp only [List.mem_singleton] at hx; rw [hx]; exact ha) hnB' g0 g1 (by rw [List.append_assoc]; exact e12)
      rw [List.append_assoc] at hr
      refine Ev.step (f := fun k => marshal_Greedy.l1 k (gtab ps os f c got) (c : Int) (os.length : Int) (c : Int) (ps.length : Int) ((i + 1 : Nat) : Int) ((A ++ ([a] ++ Bt)).map sz) (os.map sz) (mks os.length f)) (fun k => ?_) hr
      simp only [marshal_Greedy.l1, mks_length]
      rw [if_pos (Int.ofNat_lt.2 hil), if_pos (Int.natCast_nonneg c), if_pos (Int.ofNat_lt.2 hc), if_pos (Int.natCast_nonneg i), rd_mks f hc, if_pos (of_decide_eq_true ht), hw]
      rfl
    · rw [hbit] at ht
      simp only [gr, hbit, if_true] at e12
      obtain ⟨p, hpd⟩ : ∃ p, (if os.getD c 0 - got ≤ a then os.getD c 0 - got else a) = p := ⟨_, rfl⟩
      have hp0 : 0 ≤ p ∧ p ≤ a ∧ p ≤ os.getD c 0 - got := by rw [← hpd]; split <;> omega
      rw [hpd, ← Int.add_assoc] at e12
      have hr := ih (A ++ [a - p]) (i + 1) (got + p) (by rw [List.length_append]; simp; omega) (by omega) (fun x hx => by
        rcases List.mem_append.1 hx with hx | hx
        · exact hnA x hx
        · simp only [List.mem_singleton] at hx; rw [hx]; omega) hnB' (by omega) (by omega) (by rw [← Int.sub_sub, List.append_assoc]; exact e12)
      have hrow : (gtab ps os f c got).set c (sz (got + p)) = gtab ps os f c (got + p) := by
        unfold gtab
        refine tab_set _ _ _ ?_ ?_
        · rw [if_neg (Nat.lt_irrefl c), if_pos rfl]
        · intro j hj
          by_cases h1 : j < c
          · rw [if_pos h1, if_pos h1]
          · rw [if_neg h1, if_neg h1, if_neg hj, if_neg hj]
      have hrowp : ((A ++ a :: Bt).map sz).set i (sz (a - p)) = (A ++ [a - p] ++ Bt).map sz := by
        rw [← List.map_set]
        congr 1
        rw [List.set_append_right _ _ (by omega), hA, Nat.sub_self, List.append_assoc]; rfl
      rw [← hrow, ← hrowp] at hr
      have hrdg : r32_ (gtab ps os f c got) (c : Int) = sz got := by
        unfold gtab
        rw [rd_tab _ hc, if_neg (Nat.lt_irrefl c), if_pos rfl]
      have hrdp := rd_sz (A ++ a :: Bt) (i : Int) (Int.natCast_nonneg i) (by rw [hlen]; exact Int.ofNat_lt.2 hil)
      rw [Int.toNat_natCast, hget] at hrdp
      have hrdo := rd_sz os (c : Int) (Int.natCast_nonneg c) (Int.ofNat_lt.2 hc)
      rw [Int.toNat_natCast] at hrdo
      have s1 := Subtract_z (z := os.getD c 0) (w := got) (mod_of hoc.1 (by omega)) (mod_of g0 (by omega))
      have s2 := Min_z (z := os.getD c 0 - got) (w := a) (mod_of (by omega) (by omega)) (mod_of ha.1 (by omega)) (by omega) ha.1
      rw [hpd] at s2
      have s3 := Add_z (z := got) (w := p) (mod_of g0 (by omega)) (mod_of hp0.1 (by omega))
      have s4 := Subtract_z (z := a) (w := p) (mod_of ha.1 (by omega)) (mod_of hp0.1 (by omega))
      refine Ev.step (f := fun k => (q_Subtract.f k (e3 (os.getD c 0)).1 (e3 (os.getD c 0)).2.1 (e3 (os.getD c 0)).2.2 (e3 got).1 (e3 got).2.1 (e3 got).2.2).bind fun t => (q_Min.f k t.1 t.2.1 t.2.2 (e3 a).1 (e3 a).2.1 (e3 a).2.2).bind fun q => (q_Add.f k (e3 got).1 (e3 got).2.1 (e3 got).2.2 q.1 q.2.1 q.2.2).bind fun u => (q_Subtract.f k (e3 a).1 (e3 a).2.1 (e3 a).2.2 q.1 q.2.1 q.2.2).bind fun v => marshal_Greedy.l1 k ((gtab ps os f c got).set c ⟨u.1, u.2.1, u.2.2⟩) (c : Int) (os.length : Int) (c : Int) (ps.length : Int) ((i + 1 : Nat) : Int) (((A ++ a :: Bt).map sz).set i ⟨v.1, v.2.1, v.2.2⟩) (os.map sz) (mks os.length f)) (fun k => ?_) (Ev.bind s1 (Ev.bind s2 (Ev.bind s3 (Ev.bind s4 hr))))
      have hgl : (gtab ps os f c got).length = os.length := tab_length _ _
      have hpl : ((A ++ a :: Bt).map sz).length = ps.length := by rw [List.length_map]; exact hlen
      simp only [marshal_Greedy.l1, mks_length, hgl, hpl]
      rw [if_pos (Int.ofNat_lt.2 hil), if_pos (Int.natCast_nonneg c), if_pos (Int.ofNat_lt.2 hc), if_pos (Int.natCast_nonneg i), rd_mks f hc, if_neg (of_decide_eq_false ht), List.length_map, if_pos (Int.ofNat_lt.2 hc), if_pos (Int.ofNat_lt.2 hc), hrdg, hrdp, hrdo, hw]
      simp only [if_pos (Int.ofNat_lt.2 hil), Int.toNat_natCast]
      rfl
theorem Greedy_l0 (ps os : List Int) (hp : Nn ps) (h4 : ps.length ≤ 4) (hn : Nn os) (h6 : os.length ≤ 1000) (f : Nat → Nat) (hf : ∀ c, c < os.length → f c < 16) : ∀ (r c : Nat), c + r = os.length →
    Ev (fun k => marshal_Greedy.l0 k (gtab ps os f c 0) (os.length : Int) (c : Int) ((gl ps os f c).map sz) (os.map sz) (mks os.length f)) (tab os.length (gt ps os f), 0) := by
  intro r
  induction r with
  | zero =>
    intro c hc
    obtain rfl : c = os.length := by omega
    have e : gtab ps os f os.length 0 = tab os.length (gt ps os f) := by unfold gtab; exact tab_congr fun j hj => if_pos hj
    refine Ev.step (f := fun _ => some (tab os.length (gt ps os f), 0)) (fun k => ?_) (Ev.now _)
    simp only [marshal_Greedy.l0]
    rw [if_neg (by omega), e]
  | succ r ih =>
    intro c hc
    have hcl : c < os.length := by omega
    have hr := ih (c + 1) (by omega)
    have hoc := hn.at_ c
    have hl := gl_length ps os f c
    have h1 := Greedy_l1 ps os hp h4 hn h6 f hf c hcl hr (gl ps os f c) [] 0 0 rfl (by omega) (fun _ h => by cases h) (gl_nn hp hn f c) (Int.le_refl _) hoc.1 (by rw [Int.sub_zero, Int.zero_add]; rfl)
    refine Ev.step (f := fun k => marshal_Greedy.l1 k (gtab ps os f c 0) (c : Int) (os.length : Int) (c : Int) (ps.length : Int) ((0 : Nat) : Int) (([] ++ gl ps os f c).map sz) (os.map sz) (mks os.length f)) (fun k => ?_) h1
    simp only [marshal_Greedy.l0]
    rw [if_pos (Int.ofNat_lt.2 hcl), List.length_map, hl]
    rfl
theorem Greedy_ev (os : List Int) (h6 : os.length ≤ 24) (hn : Nn os) (xs : List S50) (ps : List Int) (hx : Its (os.length : Int) xs ps) : Ev (fun k => marshal_Greedy.f k xs (os.map sz)) (tab os.length (gt ps os (msk xs xs.length)), 0) := by
  have hc := Check_ev os h6 hn xs ps hx
  have hb := build_ev os hn (by omega) xs ps hx
  have hp := hx.nn
  have h0 := Greedy_l0 ps os hp (by rw [← hx.1]; exact hx.2.1) hn (by omega) (msk xs xs.length) (fun c _ => msk_16 hx.2.1 c) os.length 0 (by omega)
  have e : gtab ps os (msk xs xs.length) 0 0 = List.replicate os.length z32 := by
    rw [tab_zero]
    unfold gtab
    refine tab_congr fun j _ => ?_
    rw [if_neg (Nat.not_lt_zero j)]
    split <;> rfl
  rw [e] at h0
  unfold marshal_Greedy.f
  refine Ev.bind hc ?_
  simp only [if_true]
  refine Ev.bind hb ?_
  rw [List.length_map]
  simp only [if_pos (Int.natCast_nonneg os.length), Int.toNat_natCast, if_pos (show os.length ≤ 7036874417766 by omega)]
  refine Ev.bind (Ev.now _) ?_
  rw [List.length_replicate]
  exact h0
end Go.Proofs.YtppimdempdnhoaaDoor.C
namespace Go.Proofs.YtppimdempdnhoaaDoor.C
open Go.RowKit Go.PrWords Go.PrLast Go.PrMore
def Ow (A : List Int) : List Int := (A.take 6).map amtZ
def Xw (L : List S46) (A : List Int) : List S50 := (L.take 4).map (itm ((Ow A).length : Int))
def Pw (L : List S46) : List Int := (L.take 4).map przI
theorem Ow_length (A : List Int) : (Ow A).length ≤ 6 := by unfold Ow; rw [List.length_map, List.length_take]; omega
theorem Ow_nn {A : List Int} (hA : ∀ x ∈ A, 0 ≤ x ∧ x < 65536) : Nn (Ow A) := amounts_Nn hA
theorem Xw_ok {L : List S46} (hL : ∀ x ∈ L, ok6 x) (A : List Int) : Its ((Ow A).length : Int) (Xw L A) (Pw L) := items_ok hL (Int.natCast_nonneg _)
theorem Ow_ev {A : List Int} (hA : ∀ x ∈ A, 0 ≤ x ∧ x < 65536) : Ev (fun k => l0_Amounts.f k A 6) ((Ow A).map sz) := amounts_law A hA
theorem Xw_ev {L : List S46} (hL : ∀ x ∈ L, ok6 x) (A : List Int) : Ev (fun k => l0_Items.f k L ((((Ow A).map sz).length : Nat) : Int)) (Xw L A) := by
  have h6 := Ow_length A
  rw [List.length_map]
  exact items_law L hL _ ⟨by omega, by omega⟩
theorem icmp_ge {x y : Int} (h : y ≤ x) : ¬ icmp x y < 0 := by
  rcases Int.lt_or_eq_of_le h with h | h
  · rw [icmp_gt h]; decide
  · rw [icmp_eq h.symm]; decide
section
variable {L : List S46} (hL : ∀ x ∈ L, ok6 x) {A : List Int} (hA : ∀ x ∈ A, 0 ≤ x ∧ x < 65536)
def nw (L : List S46) (A : List Int) : List (Nat × Int) := net (Xw L A) (Ow A)
theorem nw_length (L : List S46) (A : List Int) : (nw L A).length = (Ow A).length := clm_length _ _
include hA in
theorem nw_pos (L : List S46) : PosC (nw L A) := clm_pos (Ow_nn hA) _
include hL hA in
theorem nw_cap (s : Nat → Bool) : 0 ≤ cap (Pw L) (nw L A) s ∧ cap (Pw L) (nw L A) s ≤ 1100000000000000 := by
  have hx := Xw_ok hL A
  have h6 := Ow_length A
  exact cap_bound hx.nn (by rw [← hx.1]; exact hx.2.1) (Ow_nn hA) (by omega) _ s
end
end Go.Proofs.YtppimdempdnhoaaDoor.C
namespace Go.Proofs.YtppimdempdnhoaaDoor.Pure
open Go.RowKit Go.Proofs.YtppimdempdnhoaaDoor.C Go.PrWords Go.PrLast Go.PrMore
theorem fair_loop (L : List S46) (A : List Int) (hL : ∀ x ∈ L, ok6 x) (hA : ∀ x ∈ A, 0 ≤ x ∧ x < 65536) : ∀ (r c : Nat), c + r = (Ow A).length →
  Ev (fun k => insolvencylaw16_MarshalFair.l0 k (tab (Ow A).length (totl (Pw L) (nw L A))) (tab (Ow A).length (gt (Pw L) (Ow A) (msk (Xw L A) (Xw L A).length))) ((Ow A).length : Int) (c : Int) (e3 (cap (Pw L) (nw L A) (first c))).1 (e3 (cap (Pw L) (nw L A) (first c))).2.1 (e3 (cap (Pw L) (nw L A) (first c))).2.2 (e3 (sumN (grs (nw L A) (Pw L)) c)).1 (e3 (sumN (grs (nw L A) (Pw L)) c)).2.1 (e3 (sumN (grs (nw L A) (Pw L)) c)).2.2) true := by
 have hx := Xw_ok hL A
 have h6 := Ow_length A
 have hp := nn_pos hx.nn
 have hc := nw_pos hA L
 have hlen := nw_length L A
 have hgr : ∀ c, c < (Ow A).length → (grs (nw L A) (Pw L)).getD c 0 = gt (Pw L) (Ow A) (msk (Xw L A) (Xw L A).length) c := by
  intro c h
  have e : grs (nw L A) (Pw L) = (List.range (Ow A).length).map (gt (Pw L) (Ow A) (msk (Xw L A) (Xw L A).length)) := grs_eq _ _ _
  rw [e, List.getD_eq_getElem?_getD, List.getElem?_map, List.getElem?_range h]; rfl
 have hg0 : ∀ c, 0 ≤ gt (Pw L) (Ow A) (msk (Xw L A) (Xw L A).length) c := fun c => (gr_le _ (gl_pos hx.nn (Ow_nn hA) _ c) 0 _ ((Ow_nn hA).at_ c).1).1
 have hs0 : ∀ c, c ≤ (Ow A).length → 0 ≤ sumN (grs (nw L A) (Pw L)) c := by
  intro c
  induction c with
  | zero => intro _; exact Int.le_refl _
  | succ c ih =>
   intro h
   have h1 := ih (by omega)
   have h2 := hg0 c
   simp only [sumN]
   rw [hgr c (by omega)]
   omega
 intro r
 induction r with
 | zero =>
  intro c hc'
  refine Ev.step (f := fun k => (insolvencylaw16_awake.f k).bind fun t => some t) (fun k => ?_) (Ev.bind awake16_ev (Ev.now _))
  simp only [insolvencylaw16_MarshalFair.l0]
  rw [if_neg (by omega)]
 | succ r ih =>
  intro c hc'
  have hcl : c < (Ow A).length := by omega
  have hr := ih (c + 1) (by omega)
  have b0 := nw_cap hL hA (first c)
  have b1 := nw_cap hL hA (first (c + 1))
  have t0 := totl_nonneg (Pw L) hc c
  have et : cap (Pw L) (nw L A) (first c) + totl (Pw L) (nw L A) c = cap (Pw L) (nw L A) (first (c + 1)) := by unfold totl; omega
  have eg : sumN (grs (nw L A) (Pw L)) c + gt (Pw L) (Ow A) (msk (Xw L A) (Xw L A).length) c = sumN (grs (nw L A) (Pw L)) (c + 1) := by simp only [sumN]; rw [hgr c hcl]
  have s0 := hs0 c (by omega)
  have s1 := hs0 (c + 1) (by omega)
  have g0 := hg0 c
  have k0 := grs_cap hp hc c (by omega)
  have k1 := grs_cap hp hc (c + 1) (by omega)
  have hw : wrap64 ((c : Int) + 1) = ((c + 1 : Nat) : Int) := by rw [aw64 (by omega) (by omega)]; rfl
  have hfirst : c = 0 → sumN (grs (nw L A) (Pw L)) (c + 1) = cap (Pw L) (nw L A) (first (c + 1)) := by
   intro h
   subst h
   have hf := grs_first hp hc (fun q hq => by
    obtain ⟨i, _, rfl⟩ := List.mem_map.1 hq
    have := msk_lt (Xw L A) i (Xw L A).length
    rw [hx.1] at this ⊢
    exact this) (by omega)
   simp only [sumN]
   rw [hf, Int.zero_add]
  obtain ⟨X0, hX0⟩ : ∃ X0, cap (Pw L) (nw L A) (first c) = X0 := ⟨_, rfl⟩
  obtain ⟨X1, hX1⟩ : ∃ X1, cap (Pw L) (nw L A) (first (c + 1)) = X1 := ⟨_, rfl⟩
  obtain ⟨Y0, hY0⟩ : ∃ Y0, sumN (grs (nw L A) (Pw L)) c = Y0 := ⟨_, rfl⟩
  obtain ⟨Y1, hY1⟩ : ∃ Y1, sumN (grs (nw L A) (Pw L)) (c + 1) = Y1 := ⟨_, rfl⟩
  obtain ⟨tc, htc⟩ : ∃ tc, totl (Pw L) (nw L A) c = tc := ⟨_, rfl⟩
  obtain ⟨gc, hgc⟩ : ∃ gc, gt (Pw L) (Ow A) (msk (Xw L A) (Xw L A).length) c = gc := ⟨_, rfl⟩
  have r1 := rd_tab (totl (Pw L) (nw L A)) hcl
  have r2 := rd_tab (gt (Pw L) (Ow A) (msk (Xw L A) (Xw L A).length)) hcl
  rw [htc] at r1
  rw [hgc] at r2
  rw [hX0, hY0]
  rw [hX1, hY1] at hr
  rw [hX0] at b0 k0 et
  rw [hX1] at b1 k1 et hfirst
  rw [hY0] at s0 k0 eg
  rw [hY1] at s1 k1 eg hfirst
  rw [htc] at t0 et
  rw [hgc] at g0 eg
  have a1 := Add_z (z := X0) (w := tc) (mod_of b0.1 (by omega)) (mod_of t0 (by omega))
  have a2 := Add_z (z := Y0) (w := gc) (mod_of s0 (by omega)) (mod_of g0 (by omega))
  rw [et] at a1
  rw [eg] at a2
  have a3 := Compare_z (z := X1) (w := Y1) (mod_of b1.1 (by omega)) (mod_of s1 (by omega)) b1.1 s1
  refine Ev.step (f := fun k => (q_Add.f k (e3 X0).1 (e3 X0).2.1 (e3 X0).2.2 (e3 tc).1 (e3 tc).2.1 (e3 tc).2.2).bind fun b => (q_Add.f k (e3 Y0).1 (e3 Y0).2.1 (e3 Y0).2.2 (e3 gc).1 (e3 gc).2.1 (e3 gc).2.2).bind fun d => (q_Compare.f k b.1 b.2.1 b.2.2 d.1 d.2.1 d.2.2).bind fun t => if t < 0 then none else if (c : Int) = 0 then (if (!(b.1 == d.1) || (!(b.2.1.toList == d.2.1.toList) || (!(b.2.2.toList == d.2.2.toList)))) = true then none else insolvencylaw16_MarshalFair.l0 k (tab (Ow A).length (totl (Pw L) (nw L A))) (tab (Ow A).length (gt (Pw L) (Ow A) (msk (Xw L A) (Xw L A).length))) ((Ow A).length : Int) ((c + 1 : Nat) : Int) b.1 b.2.1 b.2.2 d.1 d.2.1 d.2.2) else insolvencylaw16_MarshalFair.l0 k (tab (Ow A).length (totl (Pw L) (nw L A))) (tab (Ow A).length (gt (Pw L) (Ow A) (msk (Xw L A) (Xw L A).length))) ((Ow A).length : Int) ((c + 1 : Nat) : Int) b.1 b.2.1 b.2.2 d.1 d.2.1 d.2.2) (fun k => ?_) (Ev.bind a1 (Ev.bind a2 (Ev.bind a3 ?_)))
  ·simp only [insolvencylaw16_MarshalFair.l0, tab_length]
   rw [if_pos (Int.ofNat_lt.2 hcl), if_pos (Int.natCast_nonneg c), if_pos (Int.ofNat_lt.2 hcl), r1, r2, hw]
   simp only [if_pos (Int.ofNat_lt.2 hcl)]
   rfl
  ·simp only [if_neg (icmp_ge k1)]
   by_cases h0 : c = 0
   ·have hxy := hfirst h0
    subst hxy
    simp only [h0, Int.natCast_zero, if_true, beq_self_eq_true, Bool.not_true, Bool.or_false, Bool.false_eq_true, if_false]
    rw [h0] at hr
    exact hr
   ·simp only [if_neg (show ¬ (c : Int) = 0 by omega)]
    exact hr
theorem MarshalFair (L : List S46) (A : List Int) (hL : ∀ x ∈ L, ok6 x) (hA : ∀ x ∈ A, 0 ≤ x ∧ x < 65536) : ∃ k, insolvencylaw16_MarshalFair.f k L A = some true := by
 refine Ev.rounds ?_
 have hx := Xw_ok hL A
 have h6 := Ow_length A
 have hl := fair_loop L A hL hA (Ow A).length 0 (by omega)
 have e4 : first 0 = fun _ => false := by funext j; exact decide_eq_false (by omega)
 rw [e4, cap_none (nn_pos hx.nn), show sumN (grs (nw L A) (Pw L)) 0 = 0 from rfl, e3_zero] at hl
 unfold insolvencylaw16_MarshalFair.f
 refine Ev.bind (Ow_ev hA) (Ev.bind (Xw_ev hL A) (Ev.bind (Totals_ev (Ow A) (by omega) (Ow_nn hA) (Xw L A) (Pw L) hx) (Ev.bind (Greedy_ev (Ow A) (by omega) (Ow_nn hA) (Xw L A) (Pw L) hx) ?_)))
 simp only [if_true, tab_length, List.length_map]
 have hb : ((((Ow A).length : Nat) : Int) != ((Ow A).length : Int)) = false := by simp
 rw [hb]
 refine Ev.step (f := fun k => insolvencylaw16_MarshalFair.l0 k (tab (Ow A).length (totl (Pw L) (nw L A))) (tab (Ow A).length (gt (Pw L) (Ow A) (msk (Xw L A) (Xw L A).length))) ((Ow A).length : Int) ((0 : Nat) : Int) false ⟨#[]⟩ ⟨#[]⟩ false ⟨#[]⟩ ⟨#[]⟩) (fun k => ?_) hl
 simp only [insolvencylaw16_MarshalFair.j0, List.length_map]
 rw [if_neg (by decide)]; rfl
end Go.Proofs.YtppimdempdnhoaaDoor.Pure
namespace Go.Proofs.YtppimdempdnhoaaDoor.C
open Go.ChangeShapes Go.WideShapes Go.ChangeAt Go.RowKit Go.Deep Go.PrWords
theorem cells_u16 : Tryd.prog.cellsOf 45 = 1 := by kernel_rfl
theorem cells_arr : Tryd.prog.cellsOf 46 = 6 := by kernel_rfl
theorem list6 {α : Type} (l : List α) (h : l.length = 6) : ∃ a b c d e f, l = [a, b, c, d, e, f] := by
  match l, h with
  | [a, b, c, d, e, f], _ => exact ⟨a, b, c, d, e, f, rfl⟩
section
variable {H : Type} {enc : TypeId × Value → H} {P : Program} {w : World} {base : Nat} {spare : Nat → Bool} {held : Bool}
theorem trod_array6 {t e : TypeId} {fuel : Nat} {c0 c1 c2 c3 c4 c5 : Value} {x : DataW H × List MemPlace} (ht : P.underlying t = some (.array 6 e)) (hce : P.cellsOf e = 1)
    (h : DataW.trod enc P w base spare held fuel t [c0, c1, c2, c3, c4, c5] = some x) :
    ∃ y0 y1 y2 y3 y4 y5 n, x = (.agg [y0.1, y1.1, y2.1, y3.1, y4.1, y5.1], y0.2 ++ (y1.2 ++ (y2.2 ++ (y3.2 ++ (y4.2 ++ y5.2))))) ∧ DataW.trod enc P w base spare held n e [c0] = some y0 ∧ DataW.trod enc P w base spare held n e [c1] = some y1 ∧ DataW.trod enc P w base spare held n e [c2] = some y2 ∧ DataW.trod enc P w base spare held n e [c3] = some y3 ∧ DataW.trod enc P w base spare held n e [c4] = some y4 ∧ DataW.trod enc P w base spare held n e [c5] = some y5 := by
  cases fuel with
  | zero => simp [DataW.trod] at h
  | succ n =>
    unfold DataW.trod at h
    rw [ht] at h
    have r6 : List.range 6 = [0, 1, 2, 3, 4, 5] := rfl
    simp [r6, hce] at h
    obtain ⟨_, h⟩ := h
    cases h0 : DataW.trod enc P w base spare held n e [c0] with
    | none => simp [h0] at h
    | some y0 =>
      cases h1 : DataW.trod enc P w base spare held n e [c1] with
      | none => simp [h0, h1] at h
      | some y1 =>
        cases h2 : DataW.trod enc P w base spare held n e [c2] with
        | none => simp [h0, h1, h2] at h
        | some y2 =>
          cases h3 : DataW.trod enc P w base spare held n e [c3] with
          | none => simp [h0, h1, h2, h3] at h
          | some y3 =>
            cases h4 : DataW.trod enc P w base spare held n e [c4] with
            | none => simp [h0, h1, h2, h3, h4] at h
            | some y4 =>
              cases h5 : DataW.trod enc P w base spare held n e [c5] with
              | none => simp [h0, h1, h2, h3, h4, h5] at h
              | some y5 =>
                simp [h0, h1, h2, h3, h4, h5] at h
                exact ⟨y0, y1, y2, y3, y4, y5, n, h.symm, h0, h1, h2, h3, h4, h5⟩
end
section
variable {H : Type} {enc : TypeId × Value → H} {w : World} {base : Nat} {spare : Nat → Bool} {held : Bool}
theorem open_arr_cells {fuel : Nat} {cs : List Value} {x : DataW H × List MemPlace} (hl : cs.length = 6) (h : DataW.trod enc Tryd.prog w base spare held fuel 46 cs = some x) :
    ∃ y : S46, ok6 y ∧ cs = [.int .u16 y.f0, .int .u16 y.f1, .int .u16 y.f2, .int .u16 y.f3, .int .u16 y.f4, .int .u16 y.f5] ∧ x = (.agg [.lit (.int .u16 y.f0), .lit (.int .u16 y.f1), .lit (.int .u16 y.f2), .lit (.int .u16 y.f3), .lit (.int .u16 y.f4), .lit (.int .u16 y.f5)], []) := by
  obtain ⟨c0, c1, c2, c3, c4, c5, rfl⟩ := list6 cs hl
  obtain ⟨y0, y1, y2, y3, y4, y5, m, hx, hy0, hy1, hy2, hy3, hy4, hy5⟩ := trod_array6 Tryd.underlying46 cells_u16 h
  obtain ⟨x0, e0, rfl, w0⟩ := DataW.trod_int Tryd.underlying45 hy0
  obtain ⟨x1, e1, rfl, w1⟩ := DataW.trod_int Tryd.underlying45 hy1
  obtain ⟨x2, e2, rfl, w2⟩ := DataW.trod_int Tryd.underlying45 hy2
  obtain ⟨x3, e3, rfl, w3⟩ := DataW.trod_int Tryd.underlying45 hy3
  obtain ⟨x4, e4, rfl, w4⟩ := DataW.trod_int Tryd.underlying45 hy4
  obtain ⟨x5, e5, rfl, w5⟩ := DataW.trod_int Tryd.underlying45 hy5
  simp at e0 e1 e2 e3 e4 e5
  subst e0 e1 e2 e3 e4 e5
  have b0 := bounds_u16 w0
  have b1 := bounds_u16 w1
  have b2 := bounds_u16 w2
  have b3 := bounds_u16 w3
  have b4 := bounds_u16 w4
  have b5 := bounds_u16 w5
  refine ⟨⟨x0, x1, x2, x3, x4, x5⟩, ⟨⟨b0.1, ?_⟩, ⟨b1.1, ?_⟩, ⟨b2.1, ?_⟩, ⟨b3.1, ?_⟩, ⟨b4.1, ?_⟩, ⟨b5.1, ?_⟩⟩, rfl, by rw [hx]; rfl⟩
  all_goals (dsimp only; omega)
end
theorem open_slice_of {α : Type} [Inhabited α] (d : Kd α) (Q : α → Prop) {H : Type} {enc : TypeId × Value → H} {P : Program} {w : World} {base : Nat} {spare : Nat → Bool} {held : Bool} {t e : TypeId} (ht : P.underlying t = some (.slice e)) (hsz : P.cellsOf e = d.sz)
    (hel : ∀ (n : Nat) (cs : List Value) (x : DataW H × List MemPlace), cs.length = d.sz → DataW.trod enc P w base spare held n e cs = some x → ∃ y : α, Q y ∧ d.K w y cs) {A : Option Addr} {len cap : Nat} {D : DataW H} {p : List MemPlace} (h : DataW.Trod enc P w base spare held t (.slice A len cap) D p) :
    ∃ l : List α, l.length = len ∧ len ≤ cap ∧ d.C w A len l ∧ ∀ y ∈ l, Q y := by
  obtain ⟨fuel, hf⟩ := h
  rcases open_slice ht hf with ⟨hc, _⟩ | ⟨a, len', cap', m, n, D', Pl, hc, hb, hl, hm, hmm, _, hx⟩
  · simp only [Value.cells, List.cons.injEq, Value.slice.injEq, and_true] at hc
    obtain ⟨rfl, rfl, rfl⟩ := hc
    exact ⟨[], rfl, Nat.le_refl _, ⟨rfl, by simp, fun h => absurd h (Nat.lt_irrefl 0)⟩, fun y hy => by cases hy⟩
  · simp only [Value.cells, List.cons.injEq, Value.slice.injEq, and_true] at hc
    obtain ⟨rfl, rfl, rfl⟩ := hc
    have hml : len ≤ m := by rw [hmm]; split <;> omega
    obtain ⟨V, hV⟩ := choose_lt (n := len) (p := fun i (y : α) => Q y ∧ ∃ cs, cs.length = d.sz ∧ d.K w y cs ∧ ∀ j u, cs[j]? = some u → w.cell? ((a.add (i * d.sz)).add j) = some u) (fun i hi => by
      obtain ⟨cs', h1, h2⟩ := hx i (by omega)
      rw [hsz] at h1
      obtain ⟨_, hlen, hcell⟩ := World.cells?_some h1
      obtain ⟨y, hq, hk⟩ := hel n cs' _ hlen h2
      refine ⟨y, hq, cs', hlen, hk, fun j u hj => ?_⟩
      have hjl : j < d.sz := by rw [← hlen]; exact (List.getElem?_eq_some_iff.1 hj).1
      rw [hcell j hjl, hj])
    refine ⟨(List.range len).map V, by simp, hl, ⟨by simp, by have : maxLen = 9223372036854775807 := rfl; omega, fun _ => ⟨a, rfl, fun j y hj => ?_⟩⟩, fun y hy => ?_⟩
    · rw [List.getElem?_map] at hj
      have hjl : j < len := by
        rcases Nat.lt_or_ge j len with h | h
        · exact h
        · rw [List.getElem?_eq_none (by simpa using h)] at hj; cases hj
      rw [List.getElem?_range hjl] at hj
      injection hj with hj
      subst hj
      obtain ⟨_, cs, h1, h2, h3⟩ := hV j hjl
      exact ⟨cs, h1, h2, fun i u hi => by rw [← Addr.add_add]; exact h3 i u hi⟩
    · obtain ⟨i, hi, rfl⟩ := List.mem_map.1 hy
      exact (hV i (by simpa using hi)).1
instance : Inhabited S46 := ⟨⟨0, 0, 0, 0, 0, 0⟩⟩
theorem open_rows {H : Type} {enc : TypeId × Value → H} {w : World} {base : Nat} {spare : Nat → Bool} {held : Bool} {A : Option Addr} {len cap : Nat} {D : DataW H} {p : List MemPlace} (h : DataW.Trod enc Tryd.prog w base spare held 22 (.slice A len cap) D p) :
    ∃ l : List S46, l.length = len ∧ len ≤ cap ∧ Kd.C k46 w A len l ∧ ∀ y ∈ l, ok6 y :=
  open_slice_of k46 ok6 Tryd.underlying22 cells_arr (fun n cs x hl hx => by
    obtain ⟨y, hy, rfl, _⟩ := open_arr_cells hl hx
    exact ⟨y, hy, k46_mk w y⟩) h
theorem open_nums {H : Type} {enc : TypeId × Value → H} {w : World} {base : Nat} {spare : Nat → Bool} {held : Bool} {A : Option Addr} {len cap : Nat} {D : DataW H} {p : List MemPlace} (h : DataW.Trod enc Tryd.prog w base spare held 23 (.slice A len cap) D p) :
    ∃ l : List Int, l.length = len ∧ len ≤ cap ∧ Kd.C (Kd.int .u16) w A len l ∧ ∀ y ∈ l, 0 ≤ y ∧ y < 65536 :=
  open_slice_of (Kd.int .u16) (fun y => 0 ≤ y ∧ y < 65536) Tryd.underlying23 cells_u16 (fun n cs x hl hx => by
    obtain ⟨y, rfl, _, wf⟩ := DataW.trod_int Tryd.underlying45 hx
    have b := bounds_u16 wf
    exact ⟨y, ⟨b.1, by omega⟩, rfl⟩) h
end Go.Proofs.YtppimdempdnhoaaDoor.C
end
section
namespace Go.Proofs.YtppimdempdnhoaaDoor.marshalFair
open Go.ChangeShapes Go.WideShapes Go.ChangeAt Go.RowKit
set_option linter.unusedVariables false
theorem laidOut : laidOutB Tryd.prog = true := by kernel_rfl
set_option maxRecDepth 100000 in
theorem contract (H : Type) (enc : TypeId × Value → H) (W : World) (base : Nat) (args : Array Value) (ds gs : List (DataW H)) (before : List MemPlace) (hl : laidMetH Tryd.prog laidL W)
    (hval : ∀ (j : Nat) t v, Tryd.f3.params[j]? = some t → args[j]? = some v → Value.okWide Tryd.prog W .any base t v)
    (hW : DataW.Whole enc Tryd.prog Tryd.f3.params.toList Rows.marshalFairSpec.vars false W args.toList ds gs before) :
    Calls Tryd.prog 3 args W fun e W' => ∃ v, e = .returned v ∧ Rows.marshalFairSpec.post enc Tryd.prog Tryd.f3 false true false false W args v W' := by
  have hW' := hW
  obtain ⟨p, q, hA0, hV, rfl, hfz, hnd⟩ := hW
  have hA : DataW.TrodAll enc Tryd.prog W 0 (fun _ => true) true Tryd.f3.params.toList args.toList ds p := hA0
  rw [Tryd.params3] at hA hval
  obtain ⟨v0, vs0, d0, ds0, p0, q0, hargs, rfl, rfl, h0, r0⟩ := trodAll_cons hA
  obtain ⟨v1, vs1, d1, ds1, p1, q1, rfl, rfl, rfl, h1, r1⟩ := trodAll_cons r0
  obtain ⟨rfl, rfl, rfl⟩ := trodAll_nil r1
  obtain rfl : args = #[v0, v1] := by cases args; simp_all
  obtain ⟨rfl, rfl⟩ := trodVars_none hV
  obtain ⟨A0, len0, cap0, rfl⟩ := okWide_slice Tryd.underlying22 (hval 0 22 v0 rfl rfl)
  have k0 := h0
  have lt0 : ∀ x ∈ p0, x.block < W.heap.size := by obtain ⟨m, hm⟩ := k0; exact DataW.trod_lt m _ _ _ hm
  obtain ⟨l0, hl0, hc0, hr0, ho0⟩ := C.open_rows h0
  subst hl0
  obtain ⟨A1, len1, cap1, rfl⟩ := okWide_slice Tryd.underlying23 (hval 1 23 v1 rfl rfl)
  have k1 := h1
  have lt1 : ∀ x ∈ p1, x.block < W.heap.size := by obtain ⟨m, hm⟩ := k1; exact DataW.trod_lt m _ _ _ hm
  obtain ⟨l1, hl1, hc1, hr1, ho1⟩ := C.open_nums h1
  subst hl1
  clear hA0
  obtain ⟨k_, hk_⟩ := Pure.MarshalFair l0 l1 ho0 ho1
  refine (C.insolvencylaw16_MarshalFair.calls k_ A0 cap0 l0 A1 cap1 l1 true W hr0 hc0 hr1 hc1 hk_ (tz_of_laid hl)).mono fun e W' ⟨he, bel⟩ => ?_
  subst he
  exact ⟨_, rfl, _, _, _, [], _, [], hW', trodAll_mk1 (shut_bool Tryd.underlying4 _), (trodAll_cons_mk (Below.trod laidOut (by kernel_rfl) (of_decide_eq_true (by kernel_rfl)) k0 bel lt0) (trodAll_cons_mk (Below.trod laidOut (by kernel_rfl) (of_decide_eq_true (by kernel_rfl)) k1 bel lt1) trodAll_mk0)), rfl, bel.frame _, fun h => by cases h⟩
theorem reads (os : Os) {H : Type} (enc : TypeId × Value → H) : ∃ places, DataW.whole enc Tryd.prog ((laidWorld os).forCall (fun _ _ => 0) ⟨#[], #[.slice none 0 0, .slice none 0 0], []⟩).memory Tryd.f3.params.toList Rows.marshalFairSpec.vars false (#[.slice none 0 0, .slice none 0 0] : Array Value).toList 8 = some ([.nil, .nil], [], places) :=
  ⟨[], by kernel_rfl⟩
set_option maxRecDepth 100000 in
theorem lifted (os : Os) (started : os.Started) (H : Type) (enc : TypeId × Value → H) (F : Stop.Interp) :
    ReturnsInHanded {} Tryd.checked os 3 .any ((OpenSpec.ofChange Rows.marshalFairSpec).preRow enc Tryd.prog Tryd.f3 Rows.marshalFairRow.domain false Rows.marshalFairRow.laid) (((OpenSpec.ofChange Rows.marshalFairSpec).at F).post enc Tryd.prog Tryd.f3 false true false false) := by
  obtain ⟨places, hx⟩ := reads os enc
  refine returnsInHanded_of_row (C := Tryd.checked) (s := OpenSpec.ofChange Rows.marshalFairSpec) own started (by kernel_rfl) Tryd.func3
    (witness_row_at (enc := enc) (C := Tryd.checked) false (laidWorld os) #[.slice none 0 0, .slice none 0 0] rfl (by kernel_rfl) (by kernel_rfl) (by kernel_rfl)
      (OpenSpec.preRow_of_cond 8 hx (by kernel_rfl) (fun k hk => by cases hk) (by kernel_rfl) (laid_met os _))) ?_
  intro W base args ds gs before hval hW _ _ _ hl _ _
  exact contract H enc W base args ds gs before hl hval hW
theorem said : Rows.MarshalFairSaid :=
  OpenClaim.holds_of_cond 3 Tryd.f3 rfl rfl rfl rfl rfl rfl rfl ⟨rfl, rfl, rfl, rfl, rfl⟩ rfl rfl rfl rfl rfl (by kernel_rfl) Tryd.func3 (by kernel_rfl)
    (of_decide_eq_true (by kernel_rfl)) (by unfold Func.isWrapper; first | (rw [if_pos (by decide +kernel)]; kernel_rfl) | (rw [if_neg (by decide +kernel)]; exact ⟨rfl, rfl⟩))
    (fun os started H enc _ F => by rw [OpenClaim.pre_eq_preRow]; exact lifted os started H enc F)
theorem plain (f : FuncId) (fn : Func) (hf : Tryd.pinned.checked.prog.funcNamed "insolvency/insolvencylaw16.MarshalFair" = some f) (hfn : Tryd.pinned.checked.prog.funcs[f]? = some fn) :
    false = Tryd.pinned.checked.prog.looks [] ∧ ∀ (j : Nat) t, fn.params[j]? = some t → Tryd.pinned.checked.prog.wantsStandIn t = false := by
  obtain rfl : f = 3 := Option.some.inj ((show Tryd.prog.funcNamed "insolvency/insolvencylaw16.MarshalFair" = some 3 by kernel_rfl).symm.trans hf) |>.symm
  obtain rfl : fn = Tryd.f3 := (Option.some.inj (Tryd.func3.symm.trans hfn)).symm
  refine ⟨by kernel_rfl, fun j t ht => ?_⟩
  rw [Tryd.params3] at ht
  have hm := Array.mem_of_getElem? ht
  simp at hm
  rcases hm with rfl | rfl
  · exact (show Tryd.prog.wantsStandIn 22 = false by kernel_rfl)
  · exact (show Tryd.prog.wantsStandIn 23 = false by kernel_rfl)
end Go.Proofs.YtppimdempdnhoaaDoor.marshalFair
namespace Go.Proofs.YtppimdempdnhoaaDoor
theorem marshalFair_card : Rows.MarshalFairCardSaid :=
  Claim7.holds_tied_plain_at .later [] _ _ _ _ marshalFair.said (fun _ h => by cases h) (by kernel_rfl) (fun _ h => by cases h) marshalFair_row_tie rfl ⟨rfl, rfl⟩ (by kernel_rfl) rfl marshalFair.plain (by kernel_rfl)
#print axioms marshalFair_card
end Go.Proofs.YtppimdempdnhoaaDoor
end
