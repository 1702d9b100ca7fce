import Derived.Test.YtgoljofmbidkfaaGreatDoorR6
/- The reference's cell beside. No condition. -/
namespace Go.Proofs.YtgoljofmbidkfaaGreatDoor
open Go Go.Eng
set_option maxRecDepth 100000
set_option linter.unusedSimpArgs false
set_option linter.unusedVariables false

theorem bd_mid {n f i j : Nat} (hn' : n ≤ 32) (hf : f < 6) (hi : i < n) (hj : j < n) : bdP 96 (midQ n f i j) := by
  have b1 := bd_pl bd_0 (bd_fC hf) (k := n) (p := 32) (by omega) (by decide)
  have b2 := bd_pl b1 (bd_fR hf) (k := 2 * i + 1 - n) (p := 32) (by omega) (by decide)
  exact bd_le (bd_pl b2 (bd_fU hf) (k := 2 * j + 1 - n) (p := 32) (by omega) (by decide)) (by decide)
theorem bd_way {f s : Nat} (hf : f < 6) (hs : s < 4) : bdP 1 (wayQ f s) := by
  match s, hs with
  | 0, _ => exact bd_fR hf
  | 1, _ => exact bd_fU hf
  | 2, _ => exact bd_le (bd_pl bd_0 (bd_fR hf) (k := -1) (p := 1) (by decide) (by decide)) (by decide)
  | 3, _ => exact bd_le (bd_pl bd_0 (bd_fU hf) (k := -1) (p := 1) (by decide) (by decide)) (by decide)
theorem bd_ed {n f i j s : Nat} (hn' : n ≤ 32) (hf : f < 6) (hi : i < n) (hj : j < n) (hs : s < 4) : bdP 97 (edQ n f i j s) :=
  bd_le (bd_pl (bd_mid hn' hf hi hj) (bd_way hf hs) (k := 1) (p := 1) (by decide) (by decide)) (by decide)
theorem bd_dt {a b : P3} (ha : bdP 98 a) (hb : bdP 1 b) : -294 ≤ dtP a b ∧ dtP a b ≤ 294 := by
  have m : ∀ {x y : Int}, (-98 ≤ x ∧ x ≤ 98) → (-1 ≤ y ∧ y ≤ 1) → -98 ≤ x * y ∧ x * y ≤ 98 := fun {x y} hx hy => by
    rcases (show y = -1 ∨ y = 0 ∨ y = 1 by omega) with rfl | rfl | rfl <;> omega
  have m1 := m ha.x hb.x
  have m2 := m ha.y hb.y
  have m3 := m ha.z hb.z
  unfold dtP
  omega
theorem tmod_odd (a : Int) : ((a.tmod 2 != 0) = true) ↔ a % 2 ≠ 0 := by
  have h : a.tmod 2 = 0 ↔ a % 2 = 0 := by
    rw [← Int.dvd_iff_tmod_eq_zero, Int.dvd_iff_emod_eq_zero]
  rw [bne_iff_ne]
  exact not_congr h
theorem tdiv_even {a : Int} (h : a % 2 = 0) : a.tdiv 2 = a / 2 := by
  obtain ⟨q, rfl⟩ : ∃ q, a = 2 * q := ⟨a / 2, by omega⟩
  rw [Int.mul_tdiv_cancel_left _ (by decide)]; omega
abbrev rawQ (n : Nat) (a : Int) : Int := IntKind.i64.wrap (IntKind.i64.wrap (a + n) - 1)
theorem rawQ_is {n : Nat} {a : Int} (h : -294 ≤ a ∧ a ≤ 294) (hn : n ≤ 32) : rawQ n a = a + n - 1 := by
  unfold rawQ; simp (disch := omega) only [wrap_id]
/-- What one place of the search asks, as the code asks it. -/
structure Ask1 (n k : Nat) (a b d : Int) (cell : Int) : Prop where
  odd : (a + n - 1) % 2 ≠ 0 ∨ (b + n - 1) % 2 ≠ 0 ∨ ((a + n - 1) % 2 = 0 ∧ (b + n - 1) % 2 = 0 ∧ d = cellZ n k ((a + n - 1) / 2) ((b + n - 1) / 2) ∧ (d < 0 ∨ d = cell))
theorem ask_of {n k t : Nat} {cell : Int} {e : P3} (h : tstQ n cell e k t < 0) : ((dtP (stQ k e t) (fR k) + n - 1) % 2 ≠ 0) ∨ ((dtP (stQ k e t) (fR k) + n - 1) % 2 = 0 ∧ (dtP (stQ k e t) (fU k) + n - 1) % 2 ≠ 0) ∨ ((dtP (stQ k e t) (fR k) + n - 1) % 2 = 0 ∧ (dtP (stQ k e t) (fU k) + n - 1) % 2 = 0 ∧ (cellZ n k ((dtP (stQ k e t) (fR k) + n - 1) / 2) ((dtP (stQ k e t) (fU k) + n - 1) / 2) < 0 ∨ cellZ n k ((dtP (stQ k e t) (fR k) + n - 1) / 2) ((dtP (stQ k e t) (fU k) + n - 1) / 2) = cell)) := by
  unfold tstQ at h
  generalize dtP (stQ k e t) (fR k) + n - 1 = a at *
  generalize dtP (stQ k e t) (fU k) + n - 1 = b at *
  by_cases h1 : a % 2 = 0
  · by_cases h2 : b % 2 = 0
    · rw [if_neg (by omega)] at h
      refine .inr (.inr ⟨h1, h2, ?_⟩)
      split at h
      · right; assumption
      · exact .inl h
    · exact .inr (.inl ⟨h1, h2⟩)
  · exact .inl h1
theorem ask_is {n k t : Nat} {cell : Int} {e : P3} (h : 0 ≤ tstQ n cell e k t) : (dtP (stQ k e t) (fR k) + n - 1) % 2 = 0 ∧ (dtP (stQ k e t) (fU k) + n - 1) % 2 = 0 ∧ cellZ n k ((dtP (stQ k e t) (fR k) + n - 1) / 2) ((dtP (stQ k e t) (fU k) + n - 1) / 2) ≠ cell ∧ tstQ n cell e k t = cellZ n k ((dtP (stQ k e t) (fR k) + n - 1) / 2) ((dtP (stQ k e t) (fU k) + n - 1) / 2) := by
  unfold tstQ at h ⊢
  generalize dtP (stQ k e t) (fR k) + n - 1 = a at *
  generalize dtP (stQ k e t) (fU k) + n - 1 = b at *
  by_cases h1 : a % 2 = 0
  · by_cases h2 : b % 2 = 0
    · rw [if_neg (by omega)] at h ⊢
      split at h
      · exact absurd h (by decide)
      · rename_i h3
        rw [if_neg h3]
        exact ⟨h1, h2, h3, rfl⟩
    · rw [if_pos (.inr h2)] at h; exact absurd h (by decide)
  · rw [if_pos (.inl h1)] at h; exact absurd h (by decide)
abbrev bxP (p : P3) : Blk := ⟨true, .cells [I p.1, I p.2.1, I p.2.2]⟩
def stP (e r u : P3) : Nat → P3
  | 1 => plP e (-1) u
  | 2 => plP e 1 r
  | 3 => plP e 1 u
  | _ => plP e (-1) r
theorem stQ_is (k : Nat) (e : P3) (t : Nat) : stQ k e t = stP e (fR k) (fU k) t := by
  match t with
  | 0 | 1 | 2 | 3 => rfl
  | t + 4 => rfl
/-- What a place of the search that finds nothing answers, by its two numbers. -/
def Miss (n k : Nat) (cell : Int) (A B : Int) : Prop :=
  (A + n - 1) % 2 ≠ 0 ∨ ((A + n - 1) % 2 = 0 ∧ (B + n - 1) % 2 ≠ 0) ∨ ((A + n - 1) % 2 = 0 ∧ (B + n - 1) % 2 = 0 ∧ (cellZ n k ((A + n - 1) / 2) ((B + n - 1) / 2) < 0 ∨ cellZ n k ((A + n - 1) / 2) ((B + n - 1) / 2) = cell))
theorem bd_stP {e r u : P3} (he : bdP 97 e) (hr : bdP 1 r) (hu : bdP 1 u) (t : Nat) : bdP 98 (stP e r u t) := by
  have m : ∀ (z : Int) {b : P3}, (z = 1 ∨ z = -1) → bdP 1 b → bdP 98 (plP e z b) := fun z b hz hb =>
    bd_le (bd_pl he hb (k := z) (p := 1) (by omega) (by decide)) (by decide)
  unfold stP
  split
  · exact m _ (.inr rfl) hu
  · exact m _ (.inl rfl) hr
  · exact m _ (.inl rfl) hu
  · exact m _ (.inr rfl) hr
/-- One place of the search: what the code asks there, and what it is answered. -/
structure Side1 (n k cell t : Nat) (e r u v : P3) (A B : Int) : Prop where
  d1 : ∀ x, COk Tryz.prog 3 119 [vP v, vP r] (GG x) (I A) (GG x)
  d2 : ∀ x, COk Tryz.prog 3 119 [vP v, vP u] (GG x) (I B) (GG x)
  k1 : (A + n - 1) % 2 ≠ 0 → ((rawQ n A).tmod 2 != 0) = true
  k2 : (A + n - 1) % 2 = 0 → ((rawQ n A).tmod 2 != 0) = false
  k3 : (B + n - 1) % 2 ≠ 0 → ((rawQ n B).tmod 2 != 0) = true
  k4 : (B + n - 1) % 2 = 0 → ((rawQ n B).tmod 2 != 0) = false
  kc : (A + n - 1) % 2 = 0 → (B + n - 1) % 2 = 0 → ∀ m, COk Tryz.prog 3 120 [I n, I (k : Nat), I (IntKind.i64.wrap ((rawQ n A).tdiv 2)), I (IntKind.i64.wrap ((rawQ n B).tdiv 2))] m (I (cellZ (n : Nat) (k : Nat) ((A + n - 1) / 2) ((B + n - 1) / 2))) m
theorem side1 {n k cell t : Nat} {e r u : P3} (hn : 1 ≤ n) (hn' : n ≤ 32) (hk : k < 6) (he : bdP 97 e) (hr : bdP 1 r) (hu : bdP 1 u) : Side1 n k cell t e r u (stP e r u t) (dtP (stP e r u t) r) (dtP (stP e r u t) u) := by
  have bM := bd_stP he hr hu t
  have wA := rawQ_is (bd_dt bM hr) hn'
  have wB := rawQ_is (bd_dt bM hu) hn'
  have bA := bd_dt bM hr
  have bB := bd_dt bM hu
  refine ⟨rdot_in _ r (bd_le bM (by decide)) hr, rdot_in _ u (bd_le bM (by decide)) hu, fun h => ?_, fun h => ?_, fun h => ?_, fun h => ?_, fun ha hb m => ?_⟩
  · rw [wA]; exact (tmod_odd _).2 h
  · rw [wA]; exact Bool.eq_false_iff.2 fun h' => (tmod_odd _).1 h' h
  · rw [wB]; exact (tmod_odd _).2 h
  · rw [wB]; exact Bool.eq_false_iff.2 fun h' => (tmod_odd _).1 h' h
  · rw [wA, wB, tdiv_even ha, tdiv_even hb, wrap_id (by omega) (by omega), wrap_id (by omega) (by omega)]
    exact rcell_z n k _ _ hn hn' hk m
theorem miss_of {n k t : Nat} {cell : Int} {e : P3} (h : tstQ n cell e k t < 0) : Miss n k cell (dtP (stP e (fR k) (fU k) t) (fR k)) (dtP (stP e (fR k) (fU k) t) (fU k)) := by
  have := ask_of h
  rw [stQ_is] at this
  exact this
theorem hit_of {n k t : Nat} {cell : Int} {e : P3} (h : 0 ≤ tstQ n cell e k t) : (dtP (stP e (fR k) (fU k) t) (fR k) + n - 1) % 2 = 0 ∧ (dtP (stP e (fR k) (fU k) t) (fU k) + n - 1) % 2 = 0 ∧ cellZ n k ((dtP (stP e (fR k) (fU k) t) (fR k) + n - 1) / 2) ((dtP (stP e (fR k) (fU k) t) (fU k) + n - 1) / 2) ≠ cell ∧ tstQ n cell e k t = cellZ n k ((dtP (stP e (fR k) (fU k) t) (fR k) + n - 1) / 2) ((dtP (stP e (fR k) (fU k) t) (fU k) + n - 1) / 2) := by
  have := ask_is h
  rw [stQ_is] at this
  exact this
set_option maxHeartbeats 0 in
theorem rbeside_in (n f i j s : Nat) (hn : 1 ≤ n) (hn' : n ≤ 32) (hf : f < 6) (hi : i < n) (hj : j < n) (hs : s < 4) (x : List Blk) : COk Tryz.prog 3 57 [I n, I (cellN n f i j), I s] (GG x) (.tup [I (cellQ n (nb n f i j s) : Nat), I (nb n f i j s).2.2.2]) (GG x) := by
  refine lift ?_ rfl x
  have hF := finds hf hi hj hs
  have hlt := cellN_lt hf hi hj
  have hcI : cellsI n = ((6 * (n * n) : Nat) : Int) := by
    rw [cellsI, if_pos ⟨by omega, by omega⟩]; simp
  have hbd := bd_ed hn' hf hi hj hs
  have hp : ∀ x, COk Tryz.prog 3 115 [vP (midQ n f i j), I 1, vP (wayQ f s)] (GG x) (vP (edQ n f i j s)) (GG x) := rplus_in (midQ n f i j) (wayQ f s) 1 (bd_le (bd_mid hn' hf hi hj) (by decide)) (bd_way hf hs) (by decide)
  have hm := rmiddle_ok n f i j hn hn' hf hi hj
  have hw := rway_ok n f i j s hn hn' hf hi hj hs
  have hce := rcells_ok n
  rw [hcI] at hce
  obtain ⟨g1, _, _, g4⟩ := nb_lt (s := s) hf hi hj
  obtain ⟨f1, f2, f3, f4⟩ := hF
  generalize nb n f i j s = q at *
  obtain ⟨g, qi, qj, qb⟩ := q
  simp only at g1 g4 f1 f2 f3 f4 ⊢
  generalize cellQ n (g, qi, qj, qb) = dd at *
  generalize edQ n f i j s = e at *
  generalize midQ n f i j = mid at *
  generalize wayQ f s = wy at *
  generalize cellN n f i j = cell at *
  have hdc := fun k (hk : k < 6) => rdot_in e (fC k) (bd_le hbd (by decide)) (bd_fC hk)
  refine COk_quiet Tryz.f57 Tryz.func57 (by kernel_rfl) rfl ?_
  (conv => whnf); repeat ((first | refine ⟨_, _, hce _, ?_⟩ | refine ⟨_, _, hm _, ?_⟩ | refine ⟨_, _, hw _, ?_⟩ | refine ⟨_, _, hp _, ?_⟩ | refine br_nd (by omega) ?_); conv => whnf)
  clear hp hm hw hce
  refine loop_to (fun k => [I n, I cell, .any, .any, .any, .any, .any, .any, .ptr 3 0, I k, .any, .any, .any, .any, .any, .any, .any, .any, .any, .any, .any, .any, .any, .any, .any, .any, .any, .any, .any, .any, .any, .any, .any, .any, .any, .any, .any, .any, .any, .any, .any, .any, .any, .any, .any, .any, .any, .any, .any, .any, .any, .any, .any, .any, .any, .any, .any, .any, .any, .any, .any, .any, .any, .any, .any, .any, .any, .any, .any, .any, .any, .any, .any, .any, .any, .any, .any, .any, .any, .any, .any, .any, .any, .any, .any, .any, .any, .any, .any, .any, .any, .any, .any, .any, .any, .any, .any, .any, .any, .any, .any, .any, .any, .any, .any, .any, .any, .any, .any, .any, .any, .any, .any, .any, .any]) (fun _ => GG [bxP e]) 0 g (Nat.zero_le _) ?_ ?_ ?_
  · refine Fg.of [] ?_ rfl (by simp) rfl rfl
    conv => whnf
    exact ⟨rfl, rfl, rfl, rfl, rfl⟩
  · intro k _ hk
    have hk6 : k < 6 := by omega
    have hfk := rframe_ok k hk6
    have hdk := hdc k hk6
    have hbr := bd_fR hk6
    have hbu := bd_fU hk6
    by_cases hd : dtP e (fC k) = n
    · have h3 : ∀ t, t < 4 → Miss n k cell (dtP (stP e (fR k) (fU k) t) (fR k)) (dtP (stP e (fR k) (fU k) t) (fU k)) := fun t ht => miss_of (f3 k hk hd t ht)
      clear f1 f2 f3 f4 hdc
      generalize fR k = r at *
      generalize fU k = u at *
      generalize dtP e (fC k) = dc at *
      generalize fC k = c at *
      (conv => whnf); repeat ((first | refine ⟨_, _, hfk _, ?_⟩ | refine ⟨_, _, hdk _, ?_⟩ | refine br_no (bne_eq_false_iff_eq.2 hd) ?_ | refine br_d (by omega) ?_); conv => whnf)
      clear hfk hdk
      refine loop_to (fun t => [I n, I cell, .any, .any, .any, .any, .any, .any, .ptr 3 0, I (k : Nat), .ptr 4 0, .ptr 5 0, .ptr 6 0, I t, .any, .any, .any, .any, .any, .any, .any, .any, .any, .any, .any, .any, .any, .any, .any, .any, .any, .any, .any, .any, .any, .any, .any, .any, .any, .any, .any, .any, .any, .any, .any, .any, .any, .any, .any, .any, .any, .any, .any, .any, .any, .any, .any, .any, .any, .any, .any, .any, .any, .any, .any, .any, .any, .any, .any, .any, .any, .any, .any, .any, .any, .any, .any, .any, .any, .any, .any, .any, .any, .any, .any, .any, .any, .any, .any, .any, .any, .any, .any, .any, .any, .any, .any, .any, .any, .any, .any, .any, .any, .any, .any, .any, .any, .any, .any, .any, .any, .any, .any, .any, .any]) (fun _ => GG [bxP e, bxP c, bxP r, bxP u]) 0 4 (Nat.zero_le _) ?_ ?_ ?_
      · refine Fg.of [] ?_ rfl (by simp) rfl rfl
        conv => whnf
        exact ⟨rfl, rfl, rfl, rfl, rfl, rfl, rfl, rfl, rfl⟩
      · intro t _ ht
        have ht4 : t < 4 := by omega
        have ha := h3 t ht
        clear g4 ht h3
        have S := side1 (n := n) (k := k) (cell := cell) (t := t) hn hn' hk6 hbd hbr hbu
        have q1 := rplus_in e r (-1) (bd_le hbd (by decide)) hbr (by decide)
        have q2 := rplus_in e u (-1) (bd_le hbd (by decide)) hbu (by decide)
        have q3 := rplus_in e r 1 (bd_le hbd (by decide)) hbr (by decide)
        have q4 := rplus_in e u 1 (bd_le hbd (by decide)) hbu (by decide)
        generalize dtP (stP e r u t) r = A at *
        generalize dtP (stP e r u t) u = B at *
        rcases (show t = 0 ∨ t = 1 ∨ t = 2 ∨ t = 3 by omega) with rfl | rfl | rfl | rfl
        · have hv : stP e r u 0 = plP e (-1) r := rfl
          rw [hv] at S
          generalize plP e (-1) r = v at *
          (conv => whnf); repeat ((first | refine ⟨_, _, q1 _, ?_⟩ | refine ⟨_, _, S.d1 _, ?_⟩ | refine ⟨_, _, S.d2 _, ?_⟩); conv => whnf)
          rcases ha with ha | ⟨ha, hb⟩ | ⟨ha, hb, hc⟩
          · refine br_yes (S.k1 ha) ?_
            (conv => whnf); repeat ((first | refine br_d (by omega) ?_ | refine br_nd (by omega) ?_ | refine br_eq (by omega) ?_ | refine br_neq (by omega) ?_ | refine br_ne (by omega) ?_ | refine br_no (bo_eqn (by omega)) ?_ | refine Or.inl ?_ | refine okS_no (by kernel_rfl) ?_ | refine okS_yes (by kernel_rfl) ?_ | refine And_of (by (conv => whnf); (rw [getB_app0]); (conv => whnf)) ?_ | refine setB_app ?_ | refine setB_app0 ?_ | rw [getB_app] | rw [getB_app0] | refine addB_f13 ?_ | refine addB_f12 ?_ | refine addB_f11 ?_ | refine addB_f10 ?_ | refine addB_f9 ?_ | refine addB_f8 ?_ | refine addB_f7 ?_ | refine addB_f6 ?_ | refine addB_f5 ?_ | refine addB_f4 ?_ | refine addB_f3 ?_ | refine addB_f2 ?_ | refine addB_f1 ?_ | refine addB_f0 ?_); conv => whnf)
            refine Fg.of [_] ?_ rfl (by simp) rfl rfl
            conv => whnf
            exact ⟨rfl, rfl, rfl, rfl, rfl, rfl, rfl, wrapKL (by omega), rfl⟩
          · refine br_no (S.k2 ha) ?_
            (conv => whnf); repeat ((first | refine br_d (by omega) ?_ | refine br_nd (by omega) ?_ | refine br_eq (by omega) ?_ | refine br_neq (by omega) ?_ | refine br_ne (by omega) ?_ | refine br_no (bo_eqn (by omega)) ?_ | refine Or.inl ?_ | refine okS_no (by kernel_rfl) ?_ | refine okS_yes (by kernel_rfl) ?_ | refine And_of (by (conv => whnf); (rw [getB_app0]); (conv => whnf)) ?_ | refine setB_app ?_ | refine setB_app0 ?_ | rw [getB_app] | rw [getB_app0] | refine addB_f13 ?_ | refine addB_f12 ?_ | refine addB_f11 ?_ | refine addB_f10 ?_ | refine addB_f9 ?_ | refine addB_f8 ?_ | refine addB_f7 ?_ | refine addB_f6 ?_ | refine addB_f5 ?_ | refine addB_f4 ?_ | refine addB_f3 ?_ | refine addB_f2 ?_ | refine addB_f1 ?_ | refine addB_f0 ?_); conv => whnf)
            refine br_yes (S.k3 hb) ?_
            (conv => whnf); repeat ((first | refine br_d (by omega) ?_ | refine br_nd (by omega) ?_ | refine br_eq (by omega) ?_ | refine br_neq (by omega) ?_ | refine br_ne (by omega) ?_ | refine br_no (bo_eqn (by omega)) ?_ | refine Or.inl ?_ | refine okS_no (by kernel_rfl) ?_ | refine okS_yes (by kernel_rfl) ?_ | refine And_of (by (conv => whnf); (rw [getB_app0]); (conv => whnf)) ?_ | refine setB_app ?_ | refine setB_app0 ?_ | rw [getB_app] | rw [getB_app0] | refine addB_f13 ?_ | refine addB_f12 ?_ | refine addB_f11 ?_ | refine addB_f10 ?_ | refine addB_f9 ?_ | refine addB_f8 ?_ | refine addB_f7 ?_ | refine addB_f6 ?_ | refine addB_f5 ?_ | refine addB_f4 ?_ | refine addB_f3 ?_ | refine addB_f2 ?_ | refine addB_f1 ?_ | refine addB_f0 ?_); conv => whnf)
            refine Fg.of [_] ?_ rfl (by simp) rfl rfl
            conv => whnf
            exact ⟨rfl, rfl, rfl, rfl, rfl, rfl, rfl, wrapKL (by omega), rfl⟩
          · refine br_no (S.k2 ha) ?_
            (conv => whnf); repeat ((first | refine br_d (by omega) ?_ | refine br_nd (by omega) ?_ | refine br_eq (by omega) ?_ | refine br_neq (by omega) ?_ | refine br_ne (by omega) ?_ | refine br_no (bo_eqn (by omega)) ?_ | refine Or.inl ?_ | refine okS_no (by kernel_rfl) ?_ | refine okS_yes (by kernel_rfl) ?_ | refine And_of (by (conv => whnf); (rw [getB_app0]); (conv => whnf)) ?_ | refine setB_app ?_ | refine setB_app0 ?_ | rw [getB_app] | rw [getB_app0] | refine addB_f13 ?_ | refine addB_f12 ?_ | refine addB_f11 ?_ | refine addB_f10 ?_ | refine addB_f9 ?_ | refine addB_f8 ?_ | refine addB_f7 ?_ | refine addB_f6 ?_ | refine addB_f5 ?_ | refine addB_f4 ?_ | refine addB_f3 ?_ | refine addB_f2 ?_ | refine addB_f1 ?_ | refine addB_f0 ?_); conv => whnf)
            refine br_no (S.k4 hb) ?_
            have kc := S.kc ha hb
            generalize cellZ (n : Nat) (k : Nat) ((A + n - 1) / 2) ((B + n - 1) / 2) = d at kc hc
            by_cases hd0 : d < 0
            · (conv => whnf); repeat ((first | refine ⟨_, _, kc _, ?_⟩ | refine br_nd (by omega) ?_); conv => whnf)
              refine Fg.of [_] ?_ rfl (by simp) rfl rfl
              conv => whnf
              exact ⟨rfl, rfl, rfl, rfl, rfl, rfl, rfl, wrapKL (by omega), rfl⟩
            · have hdc2 := hc.resolve_left hd0
              (conv => whnf); repeat ((first | refine ⟨_, _, kc _, ?_⟩ | refine br_no (bne_eq_false_iff_eq.2 hdc2) ?_ | refine br_d (by omega) ?_); conv => whnf)
              refine Fg.of [_] ?_ rfl (by simp) rfl rfl
              conv => whnf
              exact ⟨rfl, rfl, rfl, rfl, rfl, rfl, rfl, wrapKL (by omega), rfl⟩
        · have hv : stP e r u 1 = plP e (-1) u := rfl
          rw [hv] at S
          generalize plP e (-1) r = v0 at *
          generalize plP e (-1) u = v at *
          (conv => whnf); repeat ((first | refine ⟨_, _, q1 _, ?_⟩ | refine ⟨_, _, q2 _, ?_⟩ | refine ⟨_, _, S.d1 _, ?_⟩ | refine ⟨_, _, S.d2 _, ?_⟩); conv => whnf)
          rcases ha with ha | ⟨ha, hb⟩ | ⟨ha, hb, hc⟩
          · refine br_yes (S.k1 ha) ?_
            (conv => whnf); repeat ((first | refine br_d (by omega) ?_ | refine br_nd (by omega) ?_ | refine br_eq (by omega) ?_ | refine br_neq (by omega) ?_ | refine br_ne (by omega) ?_ | refine br_no (bo_eqn (by omega)) ?_ | refine Or.inl ?_ | refine okS_no (by kernel_rfl) ?_ | refine okS_yes (by kernel_rfl) ?_ | refine And_of (by (conv => whnf); (rw [getB_app0]); (conv => whnf)) ?_ | refine setB_app ?_ | refine setB_app0 ?_ | rw [getB_app] | rw [getB_app0] | refine addB_f13 ?_ | refine addB_f12 ?_ | refine addB_f11 ?_ | refine addB_f10 ?_ | refine addB_f9 ?_ | refine addB_f8 ?_ | refine addB_f7 ?_ | refine addB_f6 ?_ | refine addB_f5 ?_ | refine addB_f4 ?_ | refine addB_f3 ?_ | refine addB_f2 ?_ | refine addB_f1 ?_ | refine addB_f0 ?_); conv => whnf)
            refine Fg.of [_] ?_ rfl (by simp) rfl rfl
            conv => whnf
            exact ⟨rfl, rfl, rfl, rfl, rfl, rfl, rfl, wrapKL (by omega), rfl⟩
          · refine br_no (S.k2 ha) ?_
            (conv => whnf); repeat ((first | refine br_d (by omega) ?_ | refine br_nd (by omega) ?_ | refine br_eq (by omega) ?_ | refine br_neq (by omega) ?_ | refine br_ne (by omega) ?_ | refine br_no (bo_eqn (by omega)) ?_ | refine Or.inl ?_ | refine okS_no (by kernel_rfl) ?_ | refine okS_yes (by kernel_rfl) ?_ | refine And_of (by (conv => whnf); (rw [getB_app0]); (conv => whnf)) ?_ | refine setB_app ?_ | refine setB_app0 ?_ | rw [getB_app] | rw [getB_app0] | refine addB_f13 ?_ | refine addB_f12 ?_ | refine addB_f11 ?_ | refine addB_f10 ?_ | refine addB_f9 ?_ | refine addB_f8 ?_ | refine addB_f7 ?_ | refine addB_f6 ?_ | refine addB_f5 ?_ | refine addB_f4 ?_ | refine addB_f3 ?_ | refine addB_f2 ?_ | refine addB_f1 ?_ | refine addB_f0 ?_); conv => whnf)
            refine br_yes (S.k3 hb) ?_
            (conv => whnf); repeat ((first | refine br_d (by omega) ?_ | refine br_nd (by omega) ?_ | refine br_eq (by omega) ?_ | refine br_neq (by omega) ?_ | refine br_ne (by omega) ?_ | refine br_no (bo_eqn (by omega)) ?_ | refine Or.inl ?_ | refine okS_no (by kernel_rfl) ?_ | refine okS_yes (by kernel_rfl) ?_ | refine And_of (by (conv => whnf); (rw [getB_app0]); (conv => whnf)) ?_ | refine setB_app ?_ | refine setB_app0 ?_ | rw [getB_app] | rw [getB_app0] | refine addB_f13 ?_ | refine addB_f12 ?_ | refine addB_f11 ?_ | refine addB_f10 ?_ | refine addB_f9 ?_ | refine addB_f8 ?_ | refine addB_f7 ?_ | refine addB_f6 ?_ | refine addB_f5 ?_ | refine addB_f4 ?_ | refine addB_f3 ?_ | refine addB_f2 ?_ | refine addB_f1 ?_ | refine addB_f0 ?_); conv => whnf)
            refine Fg.of [_] ?_ rfl (by simp) rfl rfl
            conv => whnf
            exact ⟨rfl, rfl, rfl, rfl, rfl, rfl, rfl, wrapKL (by omega), rfl⟩
          · refine br_no (S.k2 ha) ?_
            (conv => whnf); repeat ((first | refine br_d (by omega) ?_ | refine br_nd (by omega) ?_ | refine br_eq (by omega) ?_ | refine br_neq (by omega) ?_ | refine br_ne (by omega) ?_ | refine br_no (bo_eqn (by omega)) ?_ | refine Or.inl ?_ | refine okS_no (by kernel_rfl) ?_ | refine okS_yes (by kernel_rfl) ?_ | refine And_of (by (conv => whnf); (rw [getB_app0]); (conv => whnf)) ?_ | refine setB_app ?_ | refine setB_app0 ?_ | rw [getB_app] | rw [getB_app0] | refine addB_f13 ?_ | refine addB_f12 ?_ | refine addB_f11 ?_ | refine addB_f10 ?_ | refine addB_f9 ?_ | refine addB_f8 ?_ | refine addB_f7 ?_ | refine addB_f6 ?_ | refine addB_f5 ?_ | refine addB_f4 ?_ | refine addB_f3 ?_ | refine addB_f2 ?_ | refine addB_f1 ?_ | refine addB_f0 ?_); conv => whnf)
            refine br_no (S.k4 hb) ?_
            have kc := S.kc ha hb
            generalize cellZ (n : Nat) (k : Nat) ((A + n - 1) / 2) ((B + n - 1) / 2) = d at kc hc
            by_cases hd0 : d < 0
            · (conv => whnf); repeat ((first | refine ⟨_, _, kc _, ?_⟩ | refine br_nd (by omega) ?_); conv => whnf)
              refine Fg.of [_] ?_ rfl (by simp) rfl rfl
              conv => whnf
              exact ⟨rfl, rfl, rfl, rfl, rfl, rfl, rfl, wrapKL (by omega), rfl⟩
            · have hdc2 := hc.resolve_left hd0
              (conv => whnf); repeat ((first | refine ⟨_, _, kc _, ?_⟩ | refine br_no (bne_eq_false_iff_eq.2 hdc2) ?_ | refine br_d (by omega) ?_); conv => whnf)
              refine Fg.of [_] ?_ rfl (by simp) rfl rfl
              conv => whnf
              exact ⟨rfl, rfl, rfl, rfl, rfl, rfl, rfl, wrapKL (by omega), rfl⟩
        · have hv : stP e r u 2 = plP e 1 r := rfl
          rw [hv] at S
          generalize plP e (-1) r = v0 at *
          generalize plP e 1 r = v at *
          (conv => whnf); repeat ((first | refine ⟨_, _, q1 _, ?_⟩ | refine ⟨_, _, q3 _, ?_⟩ | refine ⟨_, _, S.d1 _, ?_⟩ | refine ⟨_, _, S.d2 _, ?_⟩); conv => whnf)
          rcases ha with ha | ⟨ha, hb⟩ | ⟨ha, hb, hc⟩
          · refine br_yes (S.k1 ha) ?_
            (conv => whnf); repeat ((first | refine br_d (by omega) ?_ | refine br_nd (by omega) ?_ | refine br_eq (by omega) ?_ | refine br_neq (by omega) ?_ | refine br_ne (by omega) ?_ | refine br_no (bo_eqn (by omega)) ?_ | refine Or.inl ?_ | refine okS_no (by kernel_rfl) ?_ | refine okS_yes (by kernel_rfl) ?_ | refine And_of (by (conv => whnf); (rw [getB_app0]); (conv => whnf)) ?_ | refine setB_app ?_ | refine setB_app0 ?_ | rw [getB_app] | rw [getB_app0] | refine addB_f13 ?_ | refine addB_f12 ?_ | refine addB_f11 ?_ | refine addB_f10 ?_ | refine addB_f9 ?_ | refine addB_f8 ?_ | refine addB_f7 ?_ | refine addB_f6 ?_ | refine addB_f5 ?_ | refine addB_f4 ?_ | refine addB_f3 ?_ | refine addB_f2 ?_ | refine addB_f1 ?_ | refine addB_f0 ?_); conv => whnf)
            refine Fg.of [_] ?_ rfl (by simp) rfl rfl
            conv => whnf
            exact ⟨rfl, rfl, rfl, rfl, rfl, rfl, rfl, wrapKL (by omega), rfl⟩
          · refine br_no (S.k2 ha) ?_
            (conv => whnf); repeat ((first | refine br_d (by omega) ?_ | refine br_nd (by omega) ?_ | refine br_eq (by omega) ?_ | refine br_neq (by omega) ?_ | refine br_ne (by omega) ?_ | refine br_no (bo_eqn (by omega)) ?_ | refine Or.inl ?_ | refine okS_no (by kernel_rfl) ?_ | refine okS_yes (by kernel_rfl) ?_ | refine And_of (by (conv => whnf); (rw [getB_app0]); (conv => whnf)) ?_ | refine setB_app ?_ | refine setB_app0 ?_ | rw [getB_app] | rw [getB_app0] | refine addB_f13 ?_ | refine addB_f12 ?_ | refine addB_f11 ?_ | refine addB_f10 ?_ | refine addB_f9 ?_ | refine addB_f8 ?_ | refine addB_f7 ?_ | refine addB_f6 ?_ | refine addB_f5 ?_ | refine addB_f4 ?_ | refine addB_f3 ?_ | refine addB_f2 ?_ | refine addB_f1 ?_ | refine addB_f0 ?_); conv => whnf)
            refine br_yes (S.k3 hb) ?_
            (conv => whnf); repeat ((first | refine br_d (by omega) ?_ | refine br_nd (by omega) ?_ | refine br_eq (by omega) ?_ | refine br_neq (by omega) ?_ | refine br_ne (by omega) ?_ | refine br_no (bo_eqn (by omega)) ?_ | refine Or.inl ?_ | refine okS_no (by kernel_rfl) ?_ | refine okS_yes (by kernel_rfl) ?_ | refine And_of (by (conv => whnf); (rw [getB_app0]); (conv => whnf)) ?_ | refine setB_app ?_ | refine setB_app0 ?_ | rw [getB_app] | rw [getB_app0] | refine addB_f13 ?_ | refine addB_f12 ?_ | refine addB_f11 ?_ | refine addB_f10 ?_ | refine addB_f9 ?_ | refine addB_f8 ?_ | refine addB_f7 ?_ | refine addB_f6 ?_ | refine addB_f5 ?_ | refine addB_f4 ?_ | refine addB_f3 ?_ | refine addB_f2 ?_ | refine addB_f1 ?_ | refine addB_f0 ?_); conv => whnf)
            refine Fg.of [_] ?_ rfl (by simp) rfl rfl
            conv => whnf
            exact ⟨rfl, rfl, rfl, rfl, rfl, rfl, rfl, wrapKL (by omega), rfl⟩
          · refine br_no (S.k2 ha) ?_
            (conv => whnf); repeat ((first | refine br_d (by omega) ?_ | refine br_nd (by omega) ?_ | refine br_eq (by omega) ?_ | refine br_neq (by omega) ?_ | refine br_ne (by omega) ?_ | refine br_no (bo_eqn (by omega)) ?_ | refine Or.inl ?_ | refine okS_no (by kernel_rfl) ?_ | refine okS_yes (by kernel_rfl) ?_ | refine And_of (by (conv => whnf); (rw [getB_app0]); (conv => whnf)) ?_ | refine setB_app ?_ | refine setB_app0 ?_ | rw [getB_app] | rw [getB_app0] | refine addB_f13 ?_ | refine addB_f12 ?_ | refine addB_f11 ?_ | refine addB_f10 ?_ | refine addB_f9 ?_ | refine addB_f8 ?_ | refine addB_f7 ?_ | refine addB_f6 ?_ | refine addB_f5 ?_ | refine addB_f4 ?_ | refine addB_f3 ?_ | refine addB_f2 ?_ | refine addB_f1 ?_ | refine addB_f0 ?_); conv => whnf)
            refine br_no (S.k4 hb) ?_
            have kc := S.kc ha hb
            generalize cellZ (n : Nat) (k : Nat) ((A + n - 1) / 2) ((B + n - 1) / 2) = d at kc hc
            by_cases hd0 : d < 0
            · (conv => whnf); repeat ((first | refine ⟨_, _, kc _, ?_⟩ | refine br_nd (by omega) ?_); conv => whnf)
              refine Fg.of [_] ?_ rfl (by simp) rfl rfl
              conv => whnf
              exact ⟨rfl, rfl, rfl, rfl, rfl, rfl, rfl, wrapKL (by omega), rfl⟩
            · have hdc2 := hc.resolve_left hd0
              (conv => whnf); repeat ((first | refine ⟨_, _, kc _, ?_⟩ | refine br_no (bne_eq_false_iff_eq.2 hdc2) ?_ | refine br_d (by omega) ?_); conv => whnf)
              refine Fg.of [_] ?_ rfl (by simp) rfl rfl
              conv => whnf
              exact ⟨rfl, rfl, rfl, rfl, rfl, rfl, rfl, wrapKL (by omega), rfl⟩
        · have hv : stP e r u 3 = plP e 1 u := rfl
          rw [hv] at S
          generalize plP e (-1) r = v0 at *
          generalize plP e 1 u = v at *
          (conv => whnf); repeat ((first | refine ⟨_, _, q1 _, ?_⟩ | refine ⟨_, _, q4 _, ?_⟩ | refine ⟨_, _, S.d1 _, ?_⟩ | refine ⟨_, _, S.d2 _, ?_⟩); conv => whnf)
          rcases ha with ha | ⟨ha, hb⟩ | ⟨ha, hb, hc⟩
          · refine br_yes (S.k1 ha) ?_
            (conv => whnf); repeat ((first | refine br_d (by omega) ?_ | refine br_nd (by omega) ?_ | refine br_eq (by omega) ?_ | refine br_neq (by omega) ?_ | refine br_ne (by omega) ?_ | refine br_no (bo_eqn (by omega)) ?_ | refine Or.inl ?_ | refine okS_no (by kernel_rfl) ?_ | refine okS_yes (by kernel_rfl) ?_ | refine And_of (by (conv => whnf); (rw [getB_app0]); (conv => whnf)) ?_ | refine setB_app ?_ | refine setB_app0 ?_ | rw [getB_app] | rw [getB_app0] | refine addB_f13 ?_ | refine addB_f12 ?_ | refine addB_f11 ?_ | refine addB_f10 ?_ | refine addB_f9 ?_ | refine addB_f8 ?_ | refine addB_f7 ?_ | refine addB_f6 ?_ | refine addB_f5 ?_ | refine addB_f4 ?_ | refine addB_f3 ?_ | refine addB_f2 ?_ | refine addB_f1 ?_ | refine addB_f0 ?_); conv => whnf)
            refine Fg.of [_] ?_ rfl (by simp) rfl rfl
            conv => whnf
            exact ⟨rfl, rfl, rfl, rfl, rfl, rfl, rfl, wrapKL (by omega), rfl⟩
          · refine br_no (S.k2 ha) ?_
            (conv => whnf); repeat ((first | refine br_d (by omega) ?_ | refine br_nd (by omega) ?_ | refine br_eq (by omega) ?_ | refine br_neq (by omega) ?_ | refine br_ne (by omega) ?_ | refine br_no (bo_eqn (by omega)) ?_ | refine Or.inl ?_ | refine okS_no (by kernel_rfl) ?_ | refine okS_yes (by kernel_rfl) ?_ | refine And_of (by (conv => whnf); (rw [getB_app0]); (conv => whnf)) ?_ | refine setB_app ?_ | refine setB_app0 ?_ | rw [getB_app] | rw [getB_app0] | refine addB_f13 ?_ | refine addB_f12 ?_ | refine addB_f11 ?_ | refine addB_f10 ?_ | refine addB_f9 ?_ | refine addB_f8 ?_ | refine addB_f7 ?_ | refine addB_f6 ?_ | refine addB_f5 ?_ | refine addB_f4 ?_ | refine addB_f3 ?_ | refine addB_f2 ?_ | refine addB_f1 ?_ | refine addB_f0 ?_); conv => whnf)
            refine br_yes (S.k3 hb) ?_
            (conv => whnf); repeat ((first | refine br_d (by omega) ?_ | refine br_nd (by omega) ?_ | refine br_eq (by omega) ?_ | refine br_neq (by omega) ?_ | refine br_ne (by omega) ?_ | refine br_no (bo_eqn (by omega)) ?_ | refine Or.inl ?_ | refine okS_no (by kernel_rfl) ?_ | refine okS_yes (by kernel_rfl) ?_ | refine And_of (by (conv => whnf); (rw [getB_app0]); (conv => whnf)) ?_ | refine setB_app ?_ | refine setB_app0 ?_ | rw [getB_app] | rw [getB_app0] | refine addB_f13 ?_ | refine addB_f12 ?_ | refine addB_f11 ?_ | refine addB_f10 ?_ | refine addB_f9 ?_ | refine addB_f8 ?_ | refine addB_f7 ?_ | refine addB_f6 ?_ | refine addB_f5 ?_ | refine addB_f4 ?_ | refine addB_f3 ?_ | refine addB_f2 ?_ | refine addB_f1 ?_ | refine addB_f0 ?_); conv => whnf)
            refine Fg.of [_] ?_ rfl (by simp) rfl rfl
            conv => whnf
            exact ⟨rfl, rfl, rfl, rfl, rfl, rfl, rfl, wrapKL (by omega), rfl⟩
          · refine br_no (S.k2 ha) ?_
            (conv => whnf); repeat ((first | refine br_d (by omega) ?_ | refine br_nd (by omega) ?_ | refine br_eq (by omega) ?_ | refine br_neq (by omega) ?_ | refine br_ne (by omega) ?_ | refine br_no (bo_eqn (by omega)) ?_ | refine Or.inl ?_ | refine okS_no (by kernel_rfl) ?_ | refine okS_yes (by kernel_rfl) ?_ | refine And_of (by (conv => whnf); (rw [getB_app0]); (conv => whnf)) ?_ | refine setB_app ?_ | refine setB_app0 ?_ | rw [getB_app] | rw [getB_app0] | refine addB_f13 ?_ | refine addB_f12 ?_ | refine addB_f11 ?_ | refine addB_f10 ?_ | refine addB_f9 ?_ | refine addB_f8 ?_ | refine addB_f7 ?_ | refine addB_f6 ?_ | refine addB_f5 ?_ | refine addB_f4 ?_ | refine addB_f3 ?_ | refine addB_f2 ?_ | refine addB_f1 ?_ | refine addB_f0 ?_); conv => whnf)
            refine br_no (S.k4 hb) ?_
            have kc := S.kc ha hb
            generalize cellZ (n : Nat) (k : Nat) ((A + n - 1) / 2) ((B + n - 1) / 2) = d at kc hc
            by_cases hd0 : d < 0
            · (conv => whnf); repeat ((first | refine ⟨_, _, kc _, ?_⟩ | refine br_nd (by omega) ?_); conv => whnf)
              refine Fg.of [_] ?_ rfl (by simp) rfl rfl
              conv => whnf
              exact ⟨rfl, rfl, rfl, rfl, rfl, rfl, rfl, wrapKL (by omega), rfl⟩
            · have hdc2 := hc.resolve_left hd0
              (conv => whnf); repeat ((first | refine ⟨_, _, kc _, ?_⟩ | refine br_no (bne_eq_false_iff_eq.2 hdc2) ?_ | refine br_d (by omega) ?_); conv => whnf)
              refine Fg.of [_] ?_ rfl (by simp) rfl rfl
              conv => whnf
              exact ⟨rfl, rfl, rfl, rfl, rfl, rfl, rfl, wrapKL (by omega), rfl⟩
      · (conv => whnf); repeat ((first | refine br_d (by omega) ?_ | refine br_nd (by omega) ?_ | refine br_eq (by omega) ?_ | refine br_neq (by omega) ?_ | refine br_ne (by omega) ?_ | refine br_no (bo_eqn (by omega)) ?_ | refine Or.inl ?_ | refine okS_no (by kernel_rfl) ?_ | refine okS_yes (by kernel_rfl) ?_ | refine And_of (by (conv => whnf); (rw [getB_app0]); (conv => whnf)) ?_ | refine setB_app ?_ | refine setB_app0 ?_ | rw [getB_app] | rw [getB_app0] | refine addB_f13 ?_ | refine addB_f12 ?_ | refine addB_f11 ?_ | refine addB_f10 ?_ | refine addB_f9 ?_ | refine addB_f8 ?_ | refine addB_f7 ?_ | refine addB_f6 ?_ | refine addB_f5 ?_ | refine addB_f4 ?_ | refine addB_f3 ?_ | refine addB_f2 ?_ | refine addB_f1 ?_ | refine addB_f0 ?_); conv => whnf)
        refine Fg.of [bxP c, bxP r, bxP u] ?_ rfl (by simp) rfl rfl
        conv => whnf
        exact ⟨rfl, rfl, rfl, wrapKL (by omega), rfl⟩
    · clear f1 f2 f3 f4 hdc
      generalize fR k = r at *
      generalize fU k = u at *
      generalize dtP e (fC k) = dc at *
      generalize fC k = c at *
      (conv => whnf); repeat ((first | refine ⟨_, _, hfk _, ?_⟩ | refine ⟨_, _, hdk _, ?_⟩ | refine br_yes (bne_iff_ne.2 hd) ?_ | refine br_d (by omega) ?_); conv => whnf)
      refine Fg.of [bxP c, bxP r, bxP u] ?_ rfl (by simp) rfl rfl
      conv => whnf
      exact ⟨rfl, rfl, rfl, wrapKL (by omega), rfl⟩
  · have hk6 : g < 6 := g1
    generalize g = k at *
    have hfk := rframe_ok k hk6
    have hdk := hdc k hk6
    have hbr := bd_fR hk6
    have hbu := bd_fU hk6
    have h3 : ∀ t, t < qb → Miss n k cell (dtP (stP e (fR k) (fU k) t) (fR k)) (dtP (stP e (fR k) (fU k) t) (fU k)) := fun t ht => miss_of (f4 t ht)
    obtain ⟨ha9, hb9, hne9, he9⟩ := hit_of (n := n) (k := k) (t := qb) (cell := cell) (e := e) (by omega)
    rw [he9] at f2
    clear he9 f3 f4 hdc
    generalize fR k = r at *
    generalize fU k = u at *
    generalize dtP e (fC k) = dc at *
    generalize fC k = c at *
    (conv => whnf); repeat ((first | refine ⟨_, _, hfk _, ?_⟩ | refine ⟨_, _, hdk _, ?_⟩ | refine br_no (bne_eq_false_iff_eq.2 f1) ?_ | refine br_d (by omega) ?_); conv => whnf)
    clear hfk hdk
    refine loop_to (fun t => [I n, I cell, .any, .any, .any, .any, .any, .any, .ptr 3 0, I (k : Nat), .ptr 4 0, .ptr 5 0, .ptr 6 0, I t, .any, .any, .any, .any, .any, .any, .any, .any, .any, .any, .any, .any, .any, .any, .any, .any, .any, .any, .any, .any, .any, .any, .any, .any, .any, .any, .any, .any, .any, .any, .any, .any, .any, .any, .any, .any, .any, .any, .any, .any, .any, .any, .any, .any, .any, .any, .any, .any, .any, .any, .any, .any, .any, .any, .any, .any, .any, .any, .any, .any, .any, .any, .any, .any, .any, .any, .any, .any, .any, .any, .any, .any, .any, .any, .any, .any, .any, .any, .any, .any, .any, .any, .any, .any, .any, .any, .any, .any, .any, .any, .any, .any, .any, .any, .any, .any, .any, .any, .any, .any, .any]) (fun _ => GG [bxP e, bxP c, bxP r, bxP u]) 0 qb (Nat.zero_le _) ?_ ?_ ?_
    · refine Fg.of [] ?_ rfl (by simp) rfl rfl
      conv => whnf
      exact ⟨rfl, rfl, rfl, rfl, rfl, rfl, rfl, rfl, rfl⟩
    · clear ha9 hb9 hne9 f2
      intro t _ ht
      have ht4 : t < 4 := by omega
      have ha := h3 t ht
      clear g4 ht h3
      have S := side1 (n := n) (k := k) (cell := cell) (t := t) hn hn' hk6 hbd hbr hbu
      have q1 := rplus_in e r (-1) (bd_le hbd (by decide)) hbr (by decide)
      have q2 := rplus_in e u (-1) (bd_le hbd (by decide)) hbu (by decide)
      have q3 := rplus_in e r 1 (bd_le hbd (by decide)) hbr (by decide)
      have q4 := rplus_in e u 1 (bd_le hbd (by decide)) hbu (by decide)
      generalize dtP (stP e r u t) r = A at *
      generalize dtP (stP e r u t) u = B at *
      rcases (show t = 0 ∨ t = 1 ∨ t = 2 ∨ t = 3 by omega) with rfl | rfl | rfl | rfl
      · have hv : stP e r u 0 = plP e (-1) r := rfl
        rw [hv] at S
        generalize plP e (-1) r = v at *
        (conv => whnf); repeat ((first | refine ⟨_, _, q1 _, ?_⟩ | refine ⟨_, _, S.d1 _, ?_⟩ | refine ⟨_, _, S.d2 _, ?_⟩); conv => whnf)
        rcases ha with ha | ⟨ha, hb⟩ | ⟨ha, hb, hc⟩
        · refine br_yes (S.k1 ha) ?_
          (conv => whnf); repeat ((first | refine br_d (by omega) ?_ | refine br_nd (by omega) ?_ | refine br_eq (by omega) ?_ | refine br_neq (by omega) ?_ | refine br_ne (by omega) ?_ | refine br_no (bo_eqn (by omega)) ?_ | refine Or.inl ?_ | refine okS_no (by kernel_rfl) ?_ | refine okS_yes (by kernel_rfl) ?_ | refine And_of (by (conv => whnf); (rw [getB_app0]); (conv => whnf)) ?_ | refine setB_app ?_ | refine setB_app0 ?_ | rw [getB_app] | rw [getB_app0] | refine addB_f13 ?_ | refine addB_f12 ?_ | refine addB_f11 ?_ | refine addB_f10 ?_ | refine addB_f9 ?_ | refine addB_f8 ?_ | refine addB_f7 ?_ | refine addB_f6 ?_ | refine addB_f5 ?_ | refine addB_f4 ?_ | refine addB_f3 ?_ | refine addB_f2 ?_ | refine addB_f1 ?_ | refine addB_f0 ?_); conv => whnf)
          refine Fg.of [_] ?_ rfl (by simp) rfl rfl
          conv => whnf
          exact ⟨rfl, rfl, rfl, rfl, rfl, rfl, rfl, wrapKL (by omega), rfl⟩
        · refine br_no (S.k2 ha) ?_
          (conv => whnf); repeat ((first | refine br_d (by omega) ?_ | refine br_nd (by omega) ?_ | refine br_eq (by omega) ?_ | refine br_neq (by omega) ?_ | refine br_ne (by omega) ?_ | refine br_no (bo_eqn (by omega)) ?_ | refine Or.inl ?_ | refine okS_no (by kernel_rfl) ?_ | refine okS_yes (by kernel_rfl) ?_ | refine And_of (by (conv => whnf); (rw [getB_app0]); (conv => whnf)) ?_ | refine setB_app ?_ | refine setB_app0 ?_ | rw [getB_app] | rw [getB_app0] | refine addB_f13 ?_ | refine addB_f12 ?_ | refine addB_f11 ?_ | refine addB_f10 ?_ | refine addB_f9 ?_ | refine addB_f8 ?_ | refine addB_f7 ?_ | refine addB_f6 ?_ | refine addB_f5 ?_ | refine addB_f4 ?_ | refine addB_f3 ?_ | refine addB_f2 ?_ | refine addB_f1 ?_ | refine addB_f0 ?_); conv => whnf)
          refine br_yes (S.k3 hb) ?_
          (conv => whnf); repeat ((first | refine br_d (by omega) ?_ | refine br_nd (by omega) ?_ | refine br_eq (by omega) ?_ | refine br_neq (by omega) ?_ | refine br_ne (by omega) ?_ | refine br_no (bo_eqn (by omega)) ?_ | refine Or.inl ?_ | refine okS_no (by kernel_rfl) ?_ | refine okS_yes (by kernel_rfl) ?_ | refine And_of (by (conv => whnf); (rw [getB_app0]); (conv => whnf)) ?_ | refine setB_app ?_ | refine setB_app0 ?_ | rw [getB_app] | rw [getB_app0] | refine addB_f13 ?_ | refine addB_f12 ?_ | refine addB_f11 ?_ | refine addB_f10 ?_ | refine addB_f9 ?_ | refine addB_f8 ?_ | refine addB_f7 ?_ | refine addB_f6 ?_ | refine addB_f5 ?_ | refine addB_f4 ?_ | refine addB_f3 ?_ | refine addB_f2 ?_ | refine addB_f1 ?_ | refine addB_f0 ?_); conv => whnf)
          refine Fg.of [_] ?_ rfl (by simp) rfl rfl
          conv => whnf
          exact ⟨rfl, rfl, rfl, rfl, rfl, rfl, rfl, wrapKL (by omega), rfl⟩
        · refine br_no (S.k2 ha) ?_
          (conv => whnf); repeat ((first | refine br_d (by omega) ?_ | refine br_nd (by omega) ?_ | refine br_eq (by omega) ?_ | refine br_neq (by omega) ?_ | refine br_ne (by omega) ?_ | refine br_no (bo_eqn (by omega)) ?_ | refine Or.inl ?_ | refine okS_no (by kernel_rfl) ?_ | refine okS_yes (by kernel_rfl) ?_ | refine And_of (by (conv => whnf); (rw [getB_app0]); (conv => whnf)) ?_ | refine setB_app ?_ | refine setB_app0 ?_ | rw [getB_app] | rw [getB_app0] | refine addB_f13 ?_ | refine addB_f12 ?_ | refine addB_f11 ?_ | refine addB_f10 ?_ | refine addB_f9 ?_ | refine addB_f8 ?_ | refine addB_f7 ?_ | refine addB_f6 ?_ | refine addB_f5 ?_ | refine addB_f4 ?_ | refine addB_f3 ?_ | refine addB_f2 ?_ | refine addB_f1 ?_ | refine addB_f0 ?_); conv => whnf)
          refine br_no (S.k4 hb) ?_
          have kc := S.kc ha hb
          generalize cellZ (n : Nat) (k : Nat) ((A + n - 1) / 2) ((B + n - 1) / 2) = d at kc hc
          by_cases hd0 : d < 0
          · (conv => whnf); repeat ((first | refine ⟨_, _, kc _, ?_⟩ | refine br_nd (by omega) ?_); conv => whnf)
            refine Fg.of [_] ?_ rfl (by simp) rfl rfl
            conv => whnf
            exact ⟨rfl, rfl, rfl, rfl, rfl, rfl, rfl, wrapKL (by omega), rfl⟩
          · have hdc2 := hc.resolve_left hd0
            (conv => whnf); repeat ((first | refine ⟨_, _, kc _, ?_⟩ | refine br_no (bne_eq_false_iff_eq.2 hdc2) ?_ | refine br_d (by omega) ?_); conv => whnf)
            refine Fg.of [_] ?_ rfl (by simp) rfl rfl
            conv => whnf
            exact ⟨rfl, rfl, rfl, rfl, rfl, rfl, rfl, wrapKL (by omega), rfl⟩
      · have hv : stP e r u 1 = plP e (-1) u := rfl
        rw [hv] at S
        generalize plP e (-1) r = v0 at *
        generalize plP e (-1) u = v at *
        (conv => whnf); repeat ((first | refine ⟨_, _, q1 _, ?_⟩ | refine ⟨_, _, q2 _, ?_⟩ | refine ⟨_, _, S.d1 _, ?_⟩ | refine ⟨_, _, S.d2 _, ?_⟩); conv => whnf)
        rcases ha with ha | ⟨ha, hb⟩ | ⟨ha, hb, hc⟩
        · refine br_yes (S.k1 ha) ?_
          (conv => whnf); repeat ((first | refine br_d (by omega) ?_ | refine br_nd (by omega) ?_ | refine br_eq (by omega) ?_ | refine br_neq (by omega) ?_ | refine br_ne (by omega) ?_ | refine br_no (bo_eqn (by omega)) ?_ | refine Or.inl ?_ | refine okS_no (by kernel_rfl) ?_ | refine okS_yes (by kernel_rfl) ?_ | refine And_of (by (conv => whnf); (rw [getB_app0]); (conv => whnf)) ?_ | refine setB_app ?_ | refine setB_app0 ?_ | rw [getB_app] | rw [getB_app0] | refine addB_f13 ?_ | refine addB_f12 ?_ | refine addB_f11 ?_ | refine addB_f10 ?_ | refine addB_f9 ?_ | refine addB_f8 ?_ | refine addB_f7 ?_ | refine addB_f6 ?_ | refine addB_f5 ?_ | refine addB_f4 ?_ | refine addB_f3 ?_ | refine addB_f2 ?_ | refine addB_f1 ?_ | refine addB_f0 ?_); conv => whnf)
          refine Fg.of [_] ?_ rfl (by simp) rfl rfl
          conv => whnf
          exact ⟨rfl, rfl, rfl, rfl, rfl, rfl, rfl, wrapKL (by omega), rfl⟩
        · refine br_no (S.k2 ha) ?_
          (conv => whnf); repeat ((first | refine br_d (by omega) ?_ | refine br_nd (by omega) ?_ | refine br_eq (by omega) ?_ | refine br_neq (by omega) ?_ | refine br_ne (by omega) ?_ | refine br_no (bo_eqn (by omega)) ?_ | refine Or.inl ?_ | refine okS_no (by kernel_rfl) ?_ | refine okS_yes (by kernel_rfl) ?_ | refine And_of (by (conv => whnf); (rw [getB_app0]); (conv => whnf)) ?_ | refine setB_app ?_ | refine setB_app0 ?_ | rw [getB_app] | rw [getB_app0] | refine addB_f13 ?_ | refine addB_f12 ?_ | refine addB_f11 ?_ | refine addB_f10 ?_ | refine addB_f9 ?_ | refine addB_f8 ?_ | refine addB_f7 ?_ | refine addB_f6 ?_ | refine addB_f5 ?_ | refine addB_f4 ?_ | refine addB_f3 ?_ | refine addB_f2 ?_ | refine addB_f1 ?_ | refine addB_f0 ?_); conv => whnf)
          refine br_yes (S.k3 hb) ?_
          (conv => whnf); repeat ((first | refine br_d (by omega) ?_ | refine br_nd (by omega) ?_ | refine br_eq (by omega) ?_ | refine br_neq (by omega) ?_ | refine br_ne (by omega) ?_ | refine br_no (bo_eqn (by omega)) ?_ | refine Or.inl ?_ | refine okS_no (by kernel_rfl) ?_ | refine okS_yes (by kernel_rfl) ?_ | refine And_of (by (conv => whnf); (rw [getB_app0]); (conv => whnf)) ?_ | refine setB_app ?_ | refine setB_app0 ?_ | rw [getB_app] | rw [getB_app0] | refine addB_f13 ?_ | refine addB_f12 ?_ | refine addB_f11 ?_ | refine addB_f10 ?_ | refine addB_f9 ?_ | refine addB_f8 ?_ | refine addB_f7 ?_ | refine addB_f6 ?_ | refine addB_f5 ?_ | refine addB_f4 ?_ | refine addB_f3 ?_ | refine addB_f2 ?_ | refine addB_f1 ?_ | refine addB_f0 ?_); conv => whnf)
          refine Fg.of [_] ?_ rfl (by simp) rfl rfl
          conv => whnf
          exact ⟨rfl, rfl, rfl, rfl, rfl, rfl, rfl, wrapKL (by omega), rfl⟩
        · refine br_no (S.k2 ha) ?_
          (conv => whnf); repeat ((first | refine br_d (by omega) ?_ | refine br_nd (by omega) ?_ | refine br_eq (by omega) ?_ | refine br_neq (by omega) ?_ | refine br_ne (by omega) ?_ | refine br_no (bo_eqn (by omega)) ?_ | refine Or.inl ?_ | refine okS_no (by kernel_rfl) ?_ | refine okS_yes (by kernel_rfl) ?_ | refine And_of (by (conv => whnf); (rw [getB_app0]); (conv => whnf)) ?_ | refine setB_app ?_ | refine setB_app0 ?_ | rw [getB_app] | rw [getB_app0] | refine addB_f13 ?_ | refine addB_f12 ?_ | refine addB_f11 ?_ | refine addB_f10 ?_ | refine addB_f9 ?_ | refine addB_f8 ?_ | refine addB_f7 ?_ | refine addB_f6 ?_ | refine addB_f5 ?_ | refine addB_f4 ?_ | refine addB_f3 ?_ | refine addB_f2 ?_ | refine addB_f1 ?_ | refine addB_f0 ?_); conv => whnf)
          refine br_no (S.k4 hb) ?_
          have kc := S.kc ha hb
          generalize cellZ (n : Nat) (k : Nat) ((A + n - 1) / 2) ((B + n - 1) / 2) = d at kc hc
          by_cases hd0 : d < 0
          · (conv => whnf); repeat ((first | refine ⟨_, _, kc _, ?_⟩ | refine br_nd (by omega) ?_); conv => whnf)
            refine Fg.of [_] ?_ rfl (by simp) rfl rfl
            conv => whnf
            exact ⟨rfl, rfl, rfl, rfl, rfl, rfl, rfl, wrapKL (by omega), rfl⟩
          · have hdc2 := hc.resolve_left hd0
            (conv => whnf); repeat ((first | refine ⟨_, _, kc _, ?_⟩ | refine br_no (bne_eq_false_iff_eq.2 hdc2) ?_ | refine br_d (by omega) ?_); conv => whnf)
            refine Fg.of [_] ?_ rfl (by simp) rfl rfl
            conv => whnf
            exact ⟨rfl, rfl, rfl, rfl, rfl, rfl, rfl, wrapKL (by omega), rfl⟩
      · have hv : stP e r u 2 = plP e 1 r := rfl
        rw [hv] at S
        generalize plP e (-1) r = v0 at *
        generalize plP e 1 r = v at *
        (conv => whnf); repeat ((first | refine ⟨_, _, q1 _, ?_⟩ | refine ⟨_, _, q3 _, ?_⟩ | refine ⟨_, _, S.d1 _, ?_⟩ | refine ⟨_, _, S.d2 _, ?_⟩); conv => whnf)
        rcases ha with ha | ⟨ha, hb⟩ | ⟨ha, hb, hc⟩
        · refine br_yes (S.k1 ha) ?_
          (conv => whnf); repeat ((first | refine br_d (by omega) ?_ | refine br_nd (by omega) ?_ | refine br_eq (by omega) ?_ | refine br_neq (by omega) ?_ | refine br_ne (by omega) ?_ | refine br_no (bo_eqn (by omega)) ?_ | refine Or.inl ?_ | refine okS_no (by kernel_rfl) ?_ | refine okS_yes (by kernel_rfl) ?_ | refine And_of (by (conv => whnf); (rw [getB_app0]); (conv => whnf)) ?_ | refine setB_app ?_ | refine setB_app0 ?_ | rw [getB_app] | rw [getB_app0] | refine addB_f13 ?_ | refine addB_f12 ?_ | refine addB_f11 ?_ | refine addB_f10 ?_ | refine addB_f9 ?_ | refine addB_f8 ?_ | refine addB_f7 ?_ | refine addB_f6 ?_ | refine addB_f5 ?_ | refine addB_f4 ?_ | refine addB_f3 ?_ | refine addB_f2 ?_ | refine addB_f1 ?_ | refine addB_f0 ?_); conv => whnf)
          refine Fg.of [_] ?_ rfl (by simp) rfl rfl
          conv => whnf
          exact ⟨rfl, rfl, rfl, rfl, rfl, rfl, rfl, wrapKL (by omega), rfl⟩
        · refine br_no (S.k2 ha) ?_
          (conv => whnf); repeat ((first | refine br_d (by omega) ?_ | refine br_nd (by omega) ?_ | refine br_eq (by omega) ?_ | refine br_neq (by omega) ?_ | refine br_ne (by omega) ?_ | refine br_no (bo_eqn (by omega)) ?_ | refine Or.inl ?_ | refine okS_no (by kernel_rfl) ?_ | refine okS_yes (by kernel_rfl) ?_ | refine And_of (by (conv => whnf); (rw [getB_app0]); (conv => whnf)) ?_ | refine setB_app ?_ | refine setB_app0 ?_ | rw [getB_app] | rw [getB_app0] | refine addB_f13 ?_ | refine addB_f12 ?_ | refine addB_f11 ?_ | refine addB_f10 ?_ | refine addB_f9 ?_ | refine addB_f8 ?_ | refine addB_f7 ?_ | refine addB_f6 ?_ | refine addB_f5 ?_ | refine addB_f4 ?_ | refine addB_f3 ?_ | refine addB_f2 ?_ | refine addB_f1 ?_ | refine addB_f0 ?_); conv => whnf)
          refine br_yes (S.k3 hb) ?_
          (conv => whnf); repeat ((first | refine br_d (by omega) ?_ | refine br_nd (by omega) ?_ | refine br_eq (by omega) ?_ | refine br_neq (by omega) ?_ | refine br_ne (by omega) ?_ | refine br_no (bo_eqn (by omega)) ?_ | refine Or.inl ?_ | refine okS_no (by kernel_rfl) ?_ | refine okS_yes (by kernel_rfl) ?_ | refine And_of (by (conv => whnf); (rw [getB_app0]); (conv => whnf)) ?_ | refine setB_app ?_ | refine setB_app0 ?_ | rw [getB_app] | rw [getB_app0] | refine addB_f13 ?_ | refine addB_f12 ?_ | refine addB_f11 ?_ | refine addB_f10 ?_ | refine addB_f9 ?_ | refine addB_f8 ?_ | refine addB_f7 ?_ | refine addB_f6 ?_ | refine addB_f5 ?_ | refine addB_f4 ?_ | refine addB_f3 ?_ | refine addB_f2 ?_ | refine addB_f1 ?_ | refine addB_f0 ?_); conv => whnf)
          refine Fg.of [_] ?_ rfl (by simp) rfl rfl
          conv => whnf
          exact ⟨rfl, rfl, rfl, rfl, rfl, rfl, rfl, wrapKL (by omega), rfl⟩
        · refine br_no (S.k2 ha) ?_
          (conv => whnf); repeat ((first | refine br_d (by omega) ?_ | refine br_nd (by omega) ?_ | refine br_eq (by omega) ?_ | refine br_neq (by omega) ?_ | refine br_ne (by omega) ?_ | refine br_no (bo_eqn (by omega)) ?_ | refine Or.inl ?_ | refine okS_no (by kernel_rfl) ?_ | refine okS_yes (by kernel_rfl) ?_ | refine And_of (by (conv => whnf); (rw [getB_app0]); (conv => whnf)) ?_ | refine setB_app ?_ | refine setB_app0 ?_ | rw [getB_app] | rw [getB_app0] | refine addB_f13 ?_ | refine addB_f12 ?_ | refine addB_f11 ?_ | refine addB_f10 ?_ | refine addB_f9 ?_ | refine addB_f8 ?_ | refine addB_f7 ?_ | refine addB_f6 ?_ | refine addB_f5 ?_ | refine addB_f4 ?_ | refine addB_f3 ?_ | refine addB_f2 ?_ | refine addB_f1 ?_ | refine addB_f0 ?_); conv => whnf)
          refine br_no (S.k4 hb) ?_
          have kc := S.kc ha hb
          generalize cellZ (n : Nat) (k : Nat) ((A + n - 1) / 2) ((B + n - 1) / 2) = d at kc hc
          by_cases hd0 : d < 0
          · (conv => whnf); repeat ((first | refine ⟨_, _, kc _, ?_⟩ | refine br_nd (by omega) ?_); conv => whnf)
            refine Fg.of [_] ?_ rfl (by simp) rfl rfl
            conv => whnf
            exact ⟨rfl, rfl, rfl, rfl, rfl, rfl, rfl, wrapKL (by omega), rfl⟩
          · have hdc2 := hc.resolve_left hd0
            (conv => whnf); repeat ((first | refine ⟨_, _, kc _, ?_⟩ | refine br_no (bne_eq_false_iff_eq.2 hdc2) ?_ | refine br_d (by omega) ?_); conv => whnf)
            refine Fg.of [_] ?_ rfl (by simp) rfl rfl
            conv => whnf
            exact ⟨rfl, rfl, rfl, rfl, rfl, rfl, rfl, wrapKL (by omega), rfl⟩
      · have hv : stP e r u 3 = plP e 1 u := rfl
        rw [hv] at S
        generalize plP e (-1) r = v0 at *
        generalize plP e 1 u = v at *
        (conv => whnf); repeat ((first | refine ⟨_, _, q1 _, ?_⟩ | refine ⟨_, _, q4 _, ?_⟩ | refine ⟨_, _, S.d1 _, ?_⟩ | refine ⟨_, _, S.d2 _, ?_⟩); conv => whnf)
        rcases ha with ha | ⟨ha, hb⟩ | ⟨ha, hb, hc⟩
        · refine br_yes (S.k1 ha) ?_
          (conv => whnf); repeat ((first | refine br_d (by omega) ?_ | refine br_nd (by omega) ?_ | refine br_eq (by omega) ?_ | refine br_neq (by omega) ?_ | refine br_ne (by omega) ?_ | refine br_no (bo_eqn (by omega)) ?_ | refine Or.inl ?_ | refine okS_no (by kernel_rfl) ?_ | refine okS_yes (by kernel_rfl) ?_ | refine And_of (by (conv => whnf); (rw [getB_app0]); (conv => whnf)) ?_ | refine setB_app ?_ | refine setB_app0 ?_ | rw [getB_app] | rw [getB_app0] | refine addB_f13 ?_ | refine addB_f12 ?_ | refine addB_f11 ?_ | refine addB_f10 ?_ | refine addB_f9 ?_ | refine addB_f8 ?_ | refine addB_f7 ?_ | refine addB_f6 ?_ | refine addB_f5 ?_ | refine addB_f4 ?_ | refine addB_f3 ?_ | refine addB_f2 ?_ | refine addB_f1 ?_ | refine addB_f0 ?_); conv => whnf)
          refine Fg.of [_] ?_ rfl (by simp) rfl rfl
          conv => whnf
          exact ⟨rfl, rfl, rfl, rfl, rfl, rfl, rfl, wrapKL (by omega), rfl⟩
        · refine br_no (S.k2 ha) ?_
          (conv => whnf); repeat ((first | refine br_d (by omega) ?_ | refine br_nd (by omega) ?_ | refine br_eq (by omega) ?_ | refine br_neq (by omega) ?_ | refine br_ne (by omega) ?_ | refine br_no (bo_eqn (by omega)) ?_ | refine Or.inl ?_ | refine okS_no (by kernel_rfl) ?_ | refine okS_yes (by kernel_rfl) ?_ | refine And_of (by (conv => whnf); (rw [getB_app0]); (conv => whnf)) ?_ | refine setB_app ?_ | refine setB_app0 ?_ | rw [getB_app] | rw [getB_app0] | refine addB_f13 ?_ | refine addB_f12 ?_ | refine addB_f11 ?_ | refine addB_f10 ?_ | refine addB_f9 ?_ | refine addB_f8 ?_ | refine addB_f7 ?_ | refine addB_f6 ?_ | refine addB_f5 ?_ | refine addB_f4 ?_ | refine addB_f3 ?_ | refine addB_f2 ?_ | refine addB_f1 ?_ | refine addB_f0 ?_); conv => whnf)
          refine br_yes (S.k3 hb) ?_
          (conv => whnf); repeat ((first | refine br_d (by omega) ?_ | refine br_nd (by omega) ?_ | refine br_eq (by omega) ?_ | refine br_neq (by omega) ?_ | refine br_ne (by omega) ?_ | refine br_no (bo_eqn (by omega)) ?_ | refine Or.inl ?_ | refine okS_no (by kernel_rfl) ?_ | refine okS_yes (by kernel_rfl) ?_ | refine And_of (by (conv => whnf); (rw [getB_app0]); (conv => whnf)) ?_ | refine setB_app ?_ | refine setB_app0 ?_ | rw [getB_app] | rw [getB_app0] | refine addB_f13 ?_ | refine addB_f12 ?_ | refine addB_f11 ?_ | refine addB_f10 ?_ | refine addB_f9 ?_ | refine addB_f8 ?_ | refine addB_f7 ?_ | refine addB_f6 ?_ | refine addB_f5 ?_ | refine addB_f4 ?_ | refine addB_f3 ?_ | refine addB_f2 ?_ | refine addB_f1 ?_ | refine addB_f0 ?_); conv => whnf)
          refine Fg.of [_] ?_ rfl (by simp) rfl rfl
          conv => whnf
          exact ⟨rfl, rfl, rfl, rfl, rfl, rfl, rfl, wrapKL (by omega), rfl⟩
        · refine br_no (S.k2 ha) ?_
          (conv => whnf); repeat ((first | refine br_d (by omega) ?_ | refine br_nd (by omega) ?_ | refine br_eq (by omega) ?_ | refine br_neq (by omega) ?_ | refine br_ne (by omega) ?_ | refine br_no (bo_eqn (by omega)) ?_ | refine Or.inl ?_ | refine okS_no (by kernel_rfl) ?_ | refine okS_yes (by kernel_rfl) ?_ | refine And_of (by (conv => whnf); (rw [getB_app0]); (conv => whnf)) ?_ | refine setB_app ?_ | refine setB_app0 ?_ | rw [getB_app] | rw [getB_app0] | refine addB_f13 ?_ | refine addB_f12 ?_ | refine addB_f11 ?_ | refine addB_f10 ?_ | refine addB_f9 ?_ | refine addB_f8 ?_ | refine addB_f7 ?_ | refine addB_f6 ?_ | refine addB_f5 ?_ | refine addB_f4 ?_ | refine addB_f3 ?_ | refine addB_f2 ?_ | refine addB_f1 ?_ | refine addB_f0 ?_); conv => whnf)
          refine br_no (S.k4 hb) ?_
          have kc := S.kc ha hb
          generalize cellZ (n : Nat) (k : Nat) ((A + n - 1) / 2) ((B + n - 1) / 2) = d at kc hc
          by_cases hd0 : d < 0
          · (conv => whnf); repeat ((first | refine ⟨_, _, kc _, ?_⟩ | refine br_nd (by omega) ?_); conv => whnf)
            refine Fg.of [_] ?_ rfl (by simp) rfl rfl
            conv => whnf
            exact ⟨rfl, rfl, rfl, rfl, rfl, rfl, rfl, wrapKL (by omega), rfl⟩
          · have hdc2 := hc.resolve_left hd0
            (conv => whnf); repeat ((first | refine ⟨_, _, kc _, ?_⟩ | refine br_no (bne_eq_false_iff_eq.2 hdc2) ?_ | refine br_d (by omega) ?_); conv => whnf)
            refine Fg.of [_] ?_ rfl (by simp) rfl rfl
            conv => whnf
            exact ⟨rfl, rfl, rfl, rfl, rfl, rfl, rfl, wrapKL (by omega), rfl⟩
    · have S := side1 (n := n) (k := k) (cell := cell) (t := qb) hn hn' hk6 hbd hbr hbu
      have q1 := rplus_in e r (-1) (bd_le hbd (by decide)) hbr (by decide)
      have q2 := rplus_in e u (-1) (bd_le hbd (by decide)) hbu (by decide)
      have q3 := rplus_in e r 1 (bd_le hbd (by decide)) hbr (by decide)
      have q4 := rplus_in e u 1 (bd_le hbd (by decide)) hbu (by decide)
      clear h3
      generalize dtP (stP e r u qb) r = A at *
      generalize dtP (stP e r u qb) u = B at *
      have ha := ha9
      have hb := hb9
      have kc := S.kc ha hb
      rw [f2] at kc
      have hne : ((dd : Nat) : Int) ≠ (cell : Int) := by rw [← f2]; exact hne9
      clear ha9 hb9 hne9 f2
      rcases (show qb = 0 ∨ qb = 1 ∨ qb = 2 ∨ qb = 3 by omega) with rfl | rfl | rfl | rfl
      · have hv : stP e r u 0 = plP e (-1) r := rfl
        rw [hv] at S
        generalize plP e (-1) r = v at *
        (conv => whnf); repeat ((first | refine ⟨_, _, q1 _, ?_⟩ | refine ⟨_, _, S.d1 _, ?_⟩ | refine ⟨_, _, S.d2 _, ?_⟩ | refine br_no (S.k2 ha) ?_ | refine br_no (S.k4 hb) ?_ | refine ⟨_, _, kc _, ?_⟩ | refine br_yes (bne_iff_ne.2 hne) ?_); conv => whnf)
        exact ⟨rfl, _, rfl⟩
      · have hv : stP e r u 1 = plP e (-1) u := rfl
        rw [hv] at S
        generalize plP e (-1) r = v0 at *
        generalize plP e (-1) u = v at *
        (conv => whnf); repeat ((first | refine ⟨_, _, q1 _, ?_⟩ | refine ⟨_, _, q2 _, ?_⟩ | refine ⟨_, _, S.d1 _, ?_⟩ | refine ⟨_, _, S.d2 _, ?_⟩ | refine br_no (S.k2 ha) ?_ | refine br_no (S.k4 hb) ?_ | refine ⟨_, _, kc _, ?_⟩ | refine br_yes (bne_iff_ne.2 hne) ?_); conv => whnf)
        exact ⟨rfl, _, rfl⟩
      · have hv : stP e r u 2 = plP e 1 r := rfl
        rw [hv] at S
        generalize plP e (-1) r = v0 at *
        generalize plP e 1 r = v at *
        (conv => whnf); repeat ((first | refine ⟨_, _, q1 _, ?_⟩ | refine ⟨_, _, q3 _, ?_⟩ | refine ⟨_, _, S.d1 _, ?_⟩ | refine ⟨_, _, S.d2 _, ?_⟩ | refine br_no (S.k2 ha) ?_ | refine br_no (S.k4 hb) ?_ | refine ⟨_, _, kc _, ?_⟩ | refine br_yes (bne_iff_ne.2 hne) ?_); conv => whnf)
        exact ⟨rfl, _, rfl⟩
      · have hv : stP e r u 3 = plP e 1 u := rfl
        rw [hv] at S
        generalize plP e (-1) r = v0 at *
        generalize plP e 1 u = v at *
        (conv => whnf); repeat ((first | refine ⟨_, _, q1 _, ?_⟩ | refine ⟨_, _, q4 _, ?_⟩ | refine ⟨_, _, S.d1 _, ?_⟩ | refine ⟨_, _, S.d2 _, ?_⟩ | refine br_no (S.k2 ha) ?_ | refine br_no (S.k4 hb) ?_ | refine ⟨_, _, kc _, ?_⟩ | refine br_yes (bne_iff_ne.2 hne) ?_); conv => whnf)
        exact ⟨rfl, _, rfl⟩
end Go.Proofs.YtgoljofmbidkfaaGreatDoor
