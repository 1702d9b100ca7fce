/- Sizes as whole numbers: the nearest, half to even. No condition. -/
import Derived.Test.YthoofdnnfahhaaaGreatDoorPf
import Derived.Test.YthoofdnnfahhaaaGreatDoorCl
namespace Go.Proofs.YthoofdnnfahhaaaGreatDoor
open Go Go.Eng Ieee
set_option maxRecDepth 100000
set_option linter.unusedSimpArgs false
set_option linter.unusedVariables false

theorem cut_down (K d : Nat) : Ieee.Toward.down.cut false K d = K / 2 ^ d := by
  unfold Ieee.Toward.cut
  simp only [Bool.false_and, Bool.toNat_false, Nat.add_zero, Nat.shiftLeft_eq, Nat.one_mul]
  rcases Nat.le_total d (K.log2 + 2) with h | h
  · rw [Nat.min_eq_left h]
  · rw [Nat.min_eq_right h]
    have h1 := @Nat.lt_log2_self K
    have h2 : 2 ^ (K.log2 + 1) ≤ 2 ^ (K.log2 + 2) := Nat.pow_le_pow_right (by decide) (by omega)
    have h3 : 2 ^ (K.log2 + 2) ≤ 2 ^ d := Nat.pow_le_pow_right (by decide) h
    rw [Nat.div_eq_of_lt (by omega), Nat.div_eq_of_lt (by omega)]
theorem whole_inf : wholeB ≤ infR := by rw [infR_eq]; decide
theorem lt_whole {R : Nat} (hR : R < 2 ^ 63) (h : flt (some R) (some wholeB) = true) : R < wholeB := by
  rcases nan_or (b := R) (by omega) with hn | ⟨s, T, hT, e⟩
  · unfold flt at h
    rw [(nan_cmp hn _).1] at h
    exact nomatch h
  · cases s
    · rw [wd_false] at e; subst e
      have h2 := flt_rk false false hT whole_inf
      rw [wd_false, wd_false] at h2
      rw [h2] at h
      have h3 := of_decide_eq_true h
      unfold rk at h3
      simp only [Bool.false_eq_true, if_false] at h3
      omega
    · rw [wd_true] at e; omega
/-- A size below 2^63: whole, or with a rest. -/
theorem floor_parts {R : Nat} (h : R < wholeB) :
    (∃ K k, 4503599627370496 ≤ K ∧ K < 9007199254740992 ∧ k ≤ 10 ∧ R = (1074 + k) * 4503599627370496 + K ∧ floorB R = R ∧ fToI (some (floorB R)) .u64 = some ((K * 2 ^ k : Nat) : Int)) ∨
    (∃ K s, 1 ≤ s ∧ s ≤ 1074 ∧ K < 9007199254740992 ∧ (s < 1074 → 4503599627370496 ≤ K) ∧ R = (1074 - s) * 4503599627370496 + K ∧ floorB R = f64.nearest false (K / 2 ^ s) 0 ∧ fToI (some (floorB R)) .u64 = some ((K / 2 ^ s : Nat) : Int)) := by
  have hw : wholeB = 4890909195324358656 := rfl
  rw [hw] at h
  have hread : f64.read R = dat false R := read_wd false (by omega)
  rcases Nat.lt_or_ge R f64.binade with h1 | h1
  · refine .inr ⟨R, 1074, by omega, Nat.le_refl _, by rw [binade_eq] at h1; omega, fun h => absurd h (Nat.lt_irrefl _), by omega, ?_⟩
    have e : dat false R = .number false R f64.leastPlace := by unfold dat; rw [if_pos h1]
    have e2 : (Ieee.Datum.number false R f64.leastPlace).integral .down = .number false (Ieee.Toward.down.cut false R 1074) 0 := by
      unfold Ieee.Datum.integral
      rw [least_eq]
      rfl
    have e3 : floorB R = f64.nearest false (R / 2 ^ 1074) 0 := by
      unfold floorB
      rw [hread, e, e2, cut_down, write_num]
    refine ⟨e3, ?_⟩
    rw [e3]
    rw [binade_eq] at h1
    exact toI_small (Nat.lt_of_le_of_lt (Nat.div_le_self _ _) (by omega))
  · obtain ⟨e, K, rfl, hK1, hK2⟩ : ∃ e K, R = e * 4503599627370496 + K ∧ 4503599627370496 ≤ K ∧ K < 9007199254740992 := by
      rw [binade_eq] at h1
      refine ⟨R / 4503599627370496 - 1, R % 4503599627370496 + 4503599627370496, by omega, by omega, by omega⟩
    have he : e ≤ 1084 := by omega
    have hd := dat_normal e K hK1 hK2 (by omega)
    rcases Nat.lt_or_ge e 1074 with h3 | h3
    · refine .inr ⟨K, 1074 - e, by omega, by omega, hK2, fun _ => hK1, by rw [show 1074 - (1074 - e) = e by omega], ?_⟩
      have e2 : (Ieee.Datum.number false K (-1074 + (e : Int))).integral .down = .number false (Ieee.Toward.down.cut false K (1074 - e)) 0 := by
        unfold Ieee.Datum.integral
        simp only
        rw [show (-1074 + (e : Int)).toNat = 0 by omega, show (-(-1074 + (e : Int))).toNat = 1074 - e by omega, Nat.shiftLeft_zero]
      have e3 : floorB (e * 4503599627370496 + K) = f64.nearest false (K / 2 ^ (1074 - e)) 0 := by
        unfold floorB
        rw [hread, hd, e2, cut_down, write_num]
      refine ⟨e3, ?_⟩
      rw [e3]
      exact toI_small (Nat.lt_of_le_of_lt (Nat.div_le_self _ _) hK2)
    · obtain ⟨k, rfl⟩ : ∃ k, e = 1074 + k := ⟨e - 1074, by omega⟩
      have hk : k ≤ 10 := by omega
      have e2 : (Ieee.Datum.number false K (-1074 + ((1074 + k : Nat) : Int))).integral .down = .number false (K * 2 ^ k) 0 := by
        unfold Ieee.Datum.integral
        simp only
        rw [show (-1074 + ((1074 + k : Nat) : Int)).toNat = k by omega, show (-(-1074 + ((1074 + k : Nat) : Int))).toNat = 0 by omega, cut_zero, Nat.shiftLeft_eq]
      have e3 : floorB ((1074 + k) * 4503599627370496 + K) = f64.nearest false (K * 2 ^ k) 0 := by
        unfold floorB
        rw [hread, hd, e2, write_num]
      refine .inl ⟨K, k, hK1, hK2, hk, rfl, e3.trans (nearest_great hK1 hK2 hk), ?_⟩
      rw [e3]
      exact toI_great hK1 hK2 hk
theorem vR_small {q : Nat} (h : q < 9007199254740992) : vR (f64.nearest false q 0) = mg q 0 ∧ f64.nearest false q 0 < infR := by
  rcases Nat.eq_zero_or_pos q with rfl | h0
  · rw [show f64.nearest false 0 0 = 0 from (nearest_zero f64 0).trans (wd_false 0), vR_0]
    refine ⟨?_, by rw [infR_eq]; decide⟩
    unfold mg; rw [show ((0 : Nat) : Rat) = 0 from rfl, Rat.zero_mul]
  · obtain ⟨h1, h2, h3, h4⟩ := nearest_small h0 h
    refine ⟨?_, by rw [h1, infR_eq]; omega⟩
    have := vR_at (1022 + q.log2) (q * 2 ^ (52 - q.log2)) (by omega) (fun _ => by omega)
    rw [h1]
    rw [show (4503599627370496 : Nat) = 2 ^ 52 from rfl, this, mg_nat]
    congr 1
    omega
theorem mg_half : mg 1 (-1) = 1 / 2 := by
  unfold mg
  have := two_add (-1) 1
  rw [show (-1 : Int) + 1 = 0 by decide, two_0, two_1] at this
  rw [show ((1 : Nat) : Rat) = 1 from rfl]
  grind
theorem mg_half_at {s : Nat} (h : 1 ≤ s) : mg (2 ^ (s - 1)) (-(s : Int)) = 1 / 2 := by
  have := mg_nat 1 (-(s : Int)) (s - 1)
  rw [Nat.one_mul] at this
  rw [this, show -(s : Int) + ((s - 1 : Nat) : Int) = -1 by omega, mg_half]
theorem mg_up {m : Nat} {i j : Int} (h : i ≤ j) : mg m i ≤ mg m j := by
  unfold mg
  exact Rat.mul_le_mul_of_nonneg_left (two_le h) (by exact_mod_cast Nat.zero_le m)
theorem pow_pred {s : Nat} (h : 1 ≤ s) : 2 * 2 ^ (s - 1) = 2 ^ s := by
  obtain ⟨t, rfl⟩ : ∃ t, s = t + 1 := ⟨s - 1, by omega⟩
  rw [Nat.add_sub_cancel, Nat.pow_succ]; omega
/-- What is left, beside a half. -/
theorem rest_half {r s N : Nat} (h1 : 1 ≤ s) (hr : r < 2 ^ s) (hr2 : r < 9007199254740992) (hN : Rd (mg r (-(s : Int))) N) :
    (2 ^ s < 2 * r → halfB < N) ∧ (2 ^ s = 2 * r → N = halfB) ∧ (2 * r < 2 ^ s → N < halfB) := by
  have hp := pow_pred h1
  have hhi : halfB ≤ infR := by rw [infR_eq]; decide
  refine ⟨fun h => ?_, fun h => ?_, fun h => ?_⟩
  · have hs : s ≤ 53 := by
      apply Classical.byContradiction
      intro hc
      have : 2 ^ 54 ≤ 2 ^ s := Nat.pow_le_pow_right (by decide) (by omega)
      omega
    have e : vR (halfB + 1) = mg 4503599627370497 (-53) := by
      have := vR_at 1021 4503599627370497 (by decide) (fun _ => by decide)
      rwa [show (1021 : Nat) * 2 ^ 52 + 4503599627370497 = halfB + 1 by decide, show (-1074 : Int) + ((1021 : Nat) : Int) = -53 by decide] at this
    have e2 := mg_nat r (-53) (53 - s)
    rw [show (-53 : Int) + ((53 - s : Nat) : Int) = -(s : Int) by omega] at e2
    have hge : halfB + 1 ≤ N := by
      refine hN.ge ?_ (by rw [infR_eq]; decide)
      rw [e, ← e2]
      refine mg_le ?_ _
      have a1 : 2 ^ (s - 1) * 2 ^ (53 - s) = 4503599627370496 := by
        rw [← Nat.pow_add, show s - 1 + (53 - s) = 52 by omega]
      have a2 := Nat.mul_le_mul_right (2 ^ (53 - s)) (show 2 ^ (s - 1) + 1 ≤ r by omega)
      have a3 : 0 < 2 ^ (53 - s) := Nat.pow_pos (by decide)
      rw [Nat.add_mul, a1] at a2
      omega
    omega
  · refine hN.eq ?_ hhi
    rw [show r = 2 ^ (s - 1) by omega, mg_half_at h1, vR_half']
  · have e : vR (halfB - 1) = mg 9007199254740991 (-54) := by
      have := vR_at 1020 9007199254740991 (by decide) (fun _ => by decide)
      rwa [show (1020 : Nat) * 2 ^ 52 + 9007199254740991 = halfB - 1 by decide, show (-1074 : Int) + ((1020 : Nat) : Int) = -54 by decide] at this
    have hle : N ≤ halfB - 1 := by
      refine hN.le ?_
      rw [e]
      rcases Nat.lt_or_ge 54 s with hs | hs
      · have b1 : mg r (-(s : Int)) ≤ mg 9007199254740991 (-(s : Int)) := mg_le (by omega) _
        have b2 : mg 9007199254740991 (-(s : Int)) ≤ mg 9007199254740991 (-54) := mg_up (by omega)
        grind
      · have e2 := mg_nat r (-54) (54 - s)
        rw [show (-54 : Int) + ((54 - s : Nat) : Int) = -(s : Int) by omega] at e2
        rw [← e2]
        refine mg_le ?_ _
        have a1 : 2 ^ (s - 1) * 2 ^ (54 - s) = 9007199254740992 := by
          rw [← Nat.pow_add, show s - 1 + (54 - s) = 53 by omega]
        have a2 := Nat.mul_le_mul_right (2 ^ (54 - s)) (show r + 1 ≤ 2 ^ (s - 1) by omega)
        have a3 : 0 < 2 ^ (54 - s) := Nat.pow_pos (by decide)
        rw [Nat.add_mul, a1] at a2
        omega
    have : 1 ≤ halfB := by decide
    omega
def nearN (K s : Nat) : Nat := if 2 ^ s < 2 * (K % 2 ^ s) ∨ (2 ^ s = 2 * (K % 2 ^ s) ∧ K / 2 ^ s % 2 = 1) then K / 2 ^ s + 1 else K / 2 ^ s
theorem fgt_w {N M : Nat} (hN : N ≤ infR) (hM : M ≤ infR) : fgt (some N) (some M) = decide (M < N) := by
  have := fgt_rk false false hN hM
  rw [wd_false, wd_false] at this
  rw [this]; unfold rk; simp only [Bool.false_eq_true, if_false]; exact decide_eq_decide.2 (by omega)
theorem feq_w {N M : Nat} (hN : N ≤ infR) (hM : M ≤ infR) : feq (some N) (some M) = decide (N = M) := by
  have := feq_rk false false hN hM
  rw [wd_false, wd_false] at this
  rw [this]; unfold rk; simp only [Bool.false_eq_true, if_false]; exact decide_eq_decide.2 (by omega)
theorem split_mg (K s : Nat) : mg K (-(s : Int)) = mg (K / 2 ^ s) 0 + mg (K % 2 ^ s) (-(s : Int)) := by
  have h := mg_add (K / 2 ^ s * 2 ^ s) (K % 2 ^ s) (-(s : Int))
  rw [Nat.div_add_mod' K (2 ^ s), mg_nat, show -(s : Int) + ((s : Nat) : Int) = 0 by omega] at h
  exact h
theorem near_rest {R K s : Nat} (h1 : 1 ≤ s) (hs : s ≤ 1074) (hK : K < 9007199254740992) (hn : s < 1074 → 4503599627370496 ≤ K) (e : R = (1074 - s) * 4503599627370496 + K) (hf : floorB R = f64.nearest false (K / 2 ^ s) 0) :
    nearR R (floorB R) ((K / 2 ^ s : Nat) : Int) = ((nearN K s : Nat) : Int) ∧ vR R = mg K (-(s : Int)) := by
  have hv : vR R = mg K (-(s : Int)) := by
    have := vR_at (1074 - s) K (by omega) (fun h => hn (by omega))
    rw [show (1074 - s) * 2 ^ 52 + K = R from e.symm] at this
    rw [this]; congr 1; omega
  refine ⟨?_, hv⟩
  have hq : K / 2 ^ s < 9007199254740992 := Nat.lt_of_le_of_lt (Nat.div_le_self _ _) hK
  obtain ⟨v1, v2⟩ := vR_small hq
  have hRi : R < infR := by rw [infR_eq]; omega
  have hsp := split_mg K s
  have hpos : 0 ≤ mg (K % 2 ^ s) (-(s : Int)) := by
    have := mg_le (Nat.zero_le (K % 2 ^ s)) (-(s : Int))
    rwa [show mg 0 (-(s : Int)) = 0 by unfold mg; rw [show ((0 : Nat) : Rat) = 0 from rfl, Rat.zero_mul]] at this
  have hle : f64.nearest false (K / 2 ^ s) 0 ≤ R := vR_le_iff.1 (by rw [v1, hv]; grind)
  obtain ⟨N, hN, hRd⟩ := sub_rd hRi v2 hle
  rw [hv, v1, show mg K (-(s : Int)) - mg (K / 2 ^ s) 0 = mg (K % 2 ^ s) (-(s : Int)) by grind] at hRd
  have hm := Nat.mod_lt K (Nat.pow_pos (n := s) (show 0 < 2 by decide))
  have hmk := Nat.mod_le K (2 ^ s)
  obtain ⟨t1, t2, t3⟩ := rest_half h1 hm (by omega) hRd
  have hhi : halfB ≤ infR := by rw [infR_eq]; decide
  unfold nearR nearN
  rw [hf, hN, fgt_w hRd.inf hhi, feq_w hRd.inf hhi]
  have hw : IntKind.u64.wrap (((K / 2 ^ s : Nat) : Int) + 1) = ((K / 2 ^ s + 1 : Nat) : Int) := by
    generalize K / 2 ^ s = q at hq
    rw [wrap_u (by omega) (by omega)]; rfl
  have ht : ((K / 2 ^ s : Nat) : Int).tmod 2 = ((K / 2 ^ s % 2 : Nat) : Int) := rfl
  rw [hw, ht]
  rcases Nat.lt_trichotomy (2 ^ s) (2 * (K % 2 ^ s)) with h | h | h
  · have := t1 h
    rw [if_pos (by simpa using this), if_pos (.inl h)]
  · have := t2 h
    rw [if_neg (by simp; omega), if_pos (by simpa using this)]
    by_cases ho : K / 2 ^ s % 2 = 1
    · rw [if_pos (by omega), if_pos (.inr ⟨h, ho⟩)]
    · rw [if_neg (by omega), if_neg (by rintro (h' | h') <;> omega)]
  · have := t3 h
    rw [if_neg (by simp; omega), if_neg (by simp; omega), if_neg (by rintro (h' | h') <;> omega)]
theorem near_great {R K k : Nat} (h1 : 4503599627370496 ≤ K) (h2 : K < 9007199254740992) (hk : k ≤ 10) (e : R = (1074 + k) * 4503599627370496 + K) (hf : floorB R = R) (n : Int) :
    nearR R (floorB R) n = n ∧ vR R = mg (K * 2 ^ k) 0 := by
  have hv : vR R = mg (K * 2 ^ k) 0 := by
    have := vR_at (1074 + k) K (by omega) (fun h => h1)
    rw [show (1074 + k) * 2 ^ 52 + K = R from e.symm] at this
    rw [this, mg_nat]; congr 1; omega
  refine ⟨?_, hv⟩
  have hRi : R < infR := by rw [infR_eq]; omega
  obtain ⟨N, hN, hRd⟩ := sub_rd hRi hRi (Nat.le_refl _)
  have : N = 0 := hRd.eq (by rw [vR_0]; grind) (Nat.zero_le _)
  subst this
  have hhi : halfB ≤ infR := by rw [infR_eq]; decide
  unfold nearR
  rw [hf, hN, fgt_w (Nat.zero_le _) hhi, feq_w (Nat.zero_le _) hhi, if_neg (by decide), if_neg (by decide)]
/-- The whole number nearest to a size below 2^63. -/
def nearZ (R : Nat) : Nat := if R < 4503599627370496 then nearN R 1074 else if R / 4503599627370496 - 1 < 1074 then nearN (R % 4503599627370496 + 4503599627370496) (1075 - R / 4503599627370496) else (R % 4503599627370496 + 4503599627370496) * 2 ^ (R / 4503599627370496 - 1075)
theorem near_is {R : Nat} (h : R < wholeB) : ∃ n : Nat, fToI (some (floorB R)) .u64 = some (n : Int) ∧ nearR R (floorB R) n = ((nearZ R : Nat) : Int) ∧ nearZ R < 9223372036854775808 := by
  rcases floor_parts h with ⟨K, k, h1, h2, h3, h4, h5, h6⟩ | ⟨K, s, h1, h2, h3, h4, h5, h6, h7⟩
  · refine ⟨_, h6, ?_⟩
    obtain ⟨a, _⟩ := near_great h1 h2 h3 h4 h5 ((K * 2 ^ k : Nat) : Int)
    have e : nearZ R = K * 2 ^ k := by
      unfold nearZ
      rw [if_neg (by omega), if_neg (by omega), show R % 4503599627370496 + 4503599627370496 = K by omega, show R / 4503599627370496 - 1075 = k by omega]
    rw [a, e]
    refine ⟨rfl, ?_⟩
    have : 2 ^ k ≤ 2 ^ 10 := Nat.pow_le_pow_right (by decide) h3
    have := Nat.mul_lt_mul_of_lt_of_le h2 this (by decide)
    omega
  · refine ⟨_, h7, ?_⟩
    obtain ⟨a, _⟩ := near_rest h1 h2 h3 h4 h5 h6
    have e : nearZ R = nearN K s := by
      unfold nearZ
      by_cases hc : R < 4503599627370496
      · obtain rfl : s = 1074 := by
          apply Classical.byContradiction
          intro hc2
          have := h4 (by omega)
          omega
        rw [if_pos hc, show R = K by omega]
      · by_cases hs : s = 1074
        · subst hs
          rw [if_neg hc, if_pos (by omega), show R % 4503599627370496 + 4503599627370496 = K by omega, show 1075 - R / 4503599627370496 = 1074 by omega]
        · have := h4 (by omega)
          rw [if_neg hc, if_pos (by omega), show R % 4503599627370496 + 4503599627370496 = K by omega, show 1075 - R / 4503599627370496 = s by omega]
    rw [a, e]
    refine ⟨rfl, ?_⟩
    have := Nat.div_le_self K (2 ^ s)
    unfold nearN
    split <;> omega
/-- It lies no more than a half away. -/
theorem near_half {R : Nat} (h : R < wholeB) : 2 * vR R ≤ 2 * (nearZ R : Rat) + 1 ∧ 2 * (nearZ R : Rat) ≤ 2 * vR R + 1 := by
  obtain ⟨n, e1, e2, _⟩ := near_is h
  rcases floor_parts h with ⟨K, k, h1, h2, h3, h4, h5, h6⟩ | ⟨K, s, h1, h2, h3, h4, h5, h6, h7⟩
  · rw [h6] at e1
    obtain rfl : K * 2 ^ k = n := by injection e1 with e1; exact_mod_cast e1
    obtain ⟨a, b⟩ := near_great h1 h2 h3 h4 h5 ((K * 2 ^ k : Nat) : Int)
    rw [a] at e2
    have e3 : nearZ R = K * 2 ^ k := by exact_mod_cast e2.symm
    rw [e3, b, mg_0]
    grind
  · rw [h7] at e1
    obtain rfl : K / 2 ^ s = n := by injection e1 with e1; exact_mod_cast e1
    obtain ⟨a, b⟩ := near_rest h1 h2 h3 h4 h5 h6
    rw [a] at e2
    have e3 : nearZ R = nearN K s := by exact_mod_cast e2.symm
    rw [e3, b, split_mg, mg_0]
    have hp := pow_pred h1
    have hz : 0 ≤ mg (K % 2 ^ s) (-(s : Int)) := by
      have := mg_le (Nat.zero_le (K % 2 ^ s)) (-(s : Int))
      rwa [show mg 0 (-(s : Int)) = 0 by unfold mg; rw [show ((0 : Nat) : Rat) = 0 from rfl, Rat.zero_mul]] at this
    have hh := mg_half_at h1
    have ho : mg (2 ^ s) (-(s : Int)) = 1 := by
      have := mg_nat 1 (-(s : Int)) s
      rw [Nat.one_mul] at this
      rw [this, show -(s : Int) + (s : Int) = 0 by omega, mg_0]; rfl
    have hm := Nat.mod_lt K (Nat.pow_pos (n := s) (show 0 < 2 by decide))
    have h9 := mg_le (Nat.le_of_lt hm) (-(s : Int))
    unfold nearN
    split
    · rename_i hc
      have hge := mg_le (show 2 ^ (s - 1) ≤ K % 2 ^ s by omega) (-(s : Int))
      rw [show ((K / 2 ^ s + 1 : Nat) : Rat) = ((K / 2 ^ s : Nat) : Rat) + 1 by push_cast; rfl]
      rw [hh] at hge
      rw [ho] at h9
      generalize mg (K % 2 ^ s) (-(s : Int)) = x at *
      generalize ((K / 2 ^ s : Nat) : Rat) = y at *
      clear hc hm hp e1 e2 e3 b a hh ho h7 h6 h5
      grind
    · rename_i hc
      have hge := mg_le (show K % 2 ^ s ≤ 2 ^ (s - 1) by omega) (-(s : Int))
      rw [hh] at hge
      rw [ho] at h9
      generalize mg (K % 2 ^ s) (-(s : Int)) = x at *
      generalize ((K / 2 ^ s : Nat) : Rat) = y at *
      clear hc hm hp e1 e2 e3 b a hh ho h7 h6 h5
      grind
theorem near_mono {R Q : Nat} (h : R ≤ Q) (hQ : Q < wholeB) : nearZ R ≤ nearZ Q := by
  rcases Nat.lt_or_ge R Q with h1 | h1
  · have a := near_half (show R < wholeB by omega)
    have b := near_half hQ
    have c := vR_lt h1
    have d : (nearZ R : Rat) < ((nearZ Q + 1 : Nat) : Rat) := by
      rw [show ((nearZ Q + 1 : Nat) : Rat) = (nearZ Q : Rat) + 1 by push_cast; rfl]
      grind
    have : nearZ R < nearZ Q + 1 := by exact_mod_cast d
    omega
  · obtain rfl : R = Q := by omega
    exact Nat.le_refl _
theorem near_zero : nearZ 0 = 0 := by
  have a := (near_half (R := 0) (by decide)).2
  rw [vR_0] at a
  have d : (nearZ 0 : Rat) < ((1 : Nat) : Rat) := by
    rw [show ((1 : Nat) : Rat) = 1 from rfl]; grind
  have : nearZ 0 < 1 := by exact_mod_cast d
  omega
theorem size_near {R : Nat} (h : R < wholeB) : sizeI R = if (nearZ R : Int) < q52 then (nearZ R : Int) else q52 := by
  obtain ⟨n, e1, e2, e3⟩ := near_is h
  have hl : flt (some R) (some wholeB) = true := by
    have h2 := flt_rk false false (Nat.le_trans (Nat.le_of_lt h) whole_inf) whole_inf
    rw [wd_false, wd_false] at h2
    rw [h2]
    refine decide_eq_true ?_
    unfold rk
    simp only [Bool.false_eq_true, if_false]
    omega
  unfold sizeI
  rw [if_pos hl, e1]
  simp only [Option.getD_some]
  rw [e2, wrap_id (by omega) (by omega)]
theorem size_far {R : Nat} (h : wholeB ≤ R) (hR : R ≤ infR) : sizeI R = q52 := by
  have hl : flt (some R) (some wholeB) = false := by
    have h2 := flt_rk false false hR whole_inf
    rw [wd_false, wd_false] at h2
    rw [h2]
    refine decide_eq_false ?_
    unfold rk
    simp only [Bool.false_eq_true, if_false]
    omega
  unfold sizeI
  rw [hl]; rfl
theorem size_mono {R Q : Nat} (h : R ≤ Q) (hQ : Q ≤ infR) : sizeI R ≤ sizeI Q := by
  have q : q52 = 4503599627370496 := rfl
  rcases Nat.lt_or_ge Q wholeB with h1 | h1
  · rw [size_near h1, size_near (by omega)]
    have := near_mono h h1
    split <;> split <;> omega
  · rw [size_far h1 hQ]
    rcases Nat.lt_or_ge R wholeB with h2 | h2
    · rw [size_near h2]; split <;> omega
    · rw [size_far h2 (by omega)]; exact Int.le_refl _
theorem size_zero : sizeI 0 = 0 := by
  rw [size_near (by decide), near_zero]; decide
theorem size_le {R : Nat} (hR : R ≤ infR) : 0 ≤ sizeI R ∧ sizeI R ≤ q52 := by
  have q : q52 = 4503599627370496 := rfl
  rcases Nat.lt_or_ge R wholeB with h1 | h1
  · rw [size_near h1]; split <;> omega
  · rw [size_far h1 hR]; omega
theorem clamp_wd (s : Bool) {R : Nat} (hR : R ≤ infR) : clampF (some (wd s R)) = if s then -sizeI R else sizeI R := by
  have h1 : fne (some (wd s R)) (some (wd s R)) = false := by rw [fne_rk s s hR hR]; simp
  have h2 : flt (some (wd s R)) (some 0) = decide (rk s R < 0) := flt_rk s false hR (Nat.zero_le _)
  have hb := size_le hR
  have q : q52 = 4503599627370496 := rfl
  unfold clampF
  simp only
  rw [h1, h2, absB_wd s hR]
  simp only [Bool.false_eq_true, if_false, decide_eq_true_eq]
  unfold rk
  cases s
  · simp only [Bool.false_eq_true, if_false]
    rw [if_neg (by omega)]
  · simp only [if_true]
    by_cases h0 : R = 0
    · subst h0; rw [if_neg (by decide), size_zero]; rfl
    · rw [if_pos (by omega), wrap_id (by omega) (by omega)]; omega

theorem fmul_comm' (x y : Option Nat) : fmul x y = fmul y x := by
  cases x <;> cases y <;> first | rfl | (rw [fmul_is, fmul_is, product_comm])
theorem Opp_mul' {x y : Option Nat} (h : Opp x y) (z : Option Nat) : Opp (fmul x z) (fmul y z) := by
  rw [fmul_comm' x, fmul_comm' y]; exact Opp_mul z h
theorem Zn_mul' {x : Option Nat} (h : Zn x) (y : Option Nat) : Zn (fmul x y) := by
  rw [fmul_comm']; exact Zn_mul y h
theorem mul_nan {b : Nat} (h : nanB b) (y : Option Nat) : fmul (some b) y = none := by
  cases y with
  | none => rfl
  | some c =>
    rw [fmul_is]
    obtain ⟨s, f, e⟩ := read_nan h
    rw [e]
    cases f64.read c <;> rfl
/-- A float and its opposite, ahead of a product. -/
theorem Opp_mulN {u : Nat} (hu : u < 18446744073709551616) (z : Option Nat) : Opp (fmul (some u) z) (fmul (some (Op.negFloat .f64 u)) z) := by
  have hi := infR_eq
  rcases nan_or hu with h | ⟨s, R, hR, rfl⟩
  · have h2 : nanB (Op.negFloat .f64 u) := by
      obtain ⟨h1, h2⟩ := h
      have e3 : f64.signWeight = 2 ^ 63 := by decide
      have h2 : f64.infRung < u % f64.signWeight := h2
      rw [e3] at h2
      obtain ⟨t, R, hR, rfl⟩ : ∃ t R, R < 2 ^ 63 ∧ u = wd t R := by
        by_cases h1 : 9223372036854775808 ≤ u
        · exact ⟨true, u - 9223372036854775808, by omega, by rw [wd_true]; omega⟩
        · exact ⟨false, u, by omega, rfl⟩
      rw [neg_wd t hR]
      have e4 : ∀ t, wd t R % 2 ^ 63 = R := fun t => by
        cases t
        · rw [wd_false]; omega
        · rw [wd_true]; omega
      rw [e4] at h2
      refine ⟨?_, ?_⟩
      · cases t
        · rw [show wd (!false) R = 2 ^ 63 + R from wd_true R]; omega
        · rw [show wd (!true) R = R from wd_false R]; omega
      · show f64.infRung < wd (!t) R % f64.signWeight
        rw [e3, e4]; exact h2
    rw [mul_nan h, mul_nan h2]
    exact .inl ⟨rfl, rfl⟩
  · rw [neg_wd s (by omega)]
    exact Opp_mul' (.inr (.inr ⟨s, R, hR, rfl, rfl⟩)) z
theorem quant_opp {u : Nat} (hu : u < 18446744073709551616) (d l t : Nat) : Opp (quantO u d l t) (quantO (Op.negFloat .f64 u) d l t) :=
  Opp_mul' (Opp_mul' (Opp_mul' (Opp_mulN hu _) _) _) _
theorem clamp_opp {x y : Option Nat} (h : Opp x y) : clampF y = -clampF x ∧ -q52 ≤ clampF x ∧ clampF x ≤ q52 := by
  have q : q52 = 4503599627370496 := rfl
  rcases h with ⟨rfl, rfl⟩ | ⟨s, t, rfl, rfl⟩ | ⟨s, R, hR, rfl, rfl⟩
  · exact ⟨rfl, by decide, by decide⟩
  · rw [clamp_wd _ (Nat.zero_le _), clamp_wd _ (Nat.zero_le _), size_zero]
    cases s <;> cases t <;> decide
  · have hb := size_le hR
    rw [clamp_wd _ hR, clamp_wd _ hR]
    cases s <;> simp <;> omega
/-- The opposite speed; no more than there may be. -/
theorem quant_neg {u : Nat} (hu : u < 18446744073709551616) (d l t : Nat) : quantF (Op.negFloat .f64 u) d l t = -quantF u d l t ∧ -q52 ≤ quantF u d l t ∧ quantF u d l t ≤ q52 := clamp_opp (quant_opp hu d l t)
theorem clamp_zn {o : Option Nat} (h : Zn o) : clampF o = 0 := by
  rcases h with h | ⟨s, h⟩
  · rw [h]; rfl
  · rw [h, clamp_wd _ (Nat.zero_le _), size_zero]; cases s <;> rfl
theorem Zn_0 : Zn (some 0) := .inr ⟨false, rfl⟩
theorem quant_z1 (d l t : Nat) : quantF 0 d l t = 0 := clamp_zn (Zn_mul' (Zn_mul' (Zn_mul' (Zn_mul' Zn_0 _) _) _) _)
theorem quant_z2 (u l t : Nat) : quantF u 0 l t = 0 := clamp_zn (Zn_mul' (Zn_mul' (Zn_mul' (Zn_mul _ Zn_0) _) _) _)
theorem quant_z4 (u d l : Nat) : quantF u d l 0 = 0 := clamp_zn (Zn_mul' (Zn_mul _ Zn_0) _)
theorem quant_zu {u : Nat} (hu : u < 18446744073709551616) (h : feq (some u) (some 0) = true) (d l t : Nat) : quantF u d l t = 0 := clamp_zn (Zn_mul' (Zn_mul' (Zn_mul' (Zn_mul' (zero_of hu h) _) _) _) _)
/-- What is above nought. -/
theorem gt0_is {d : Nat} (hd : d < 18446744073709551616) (h : fgt (some d) (some 0) = true) : ∃ D, d = D ∧ 0 < D ∧ D ≤ infR := by
  rcases nan_or hd with hn | ⟨s, R, hR, rfl⟩
  · unfold fgt at h
    rw [(nan_cmp hn _).1] at h
    exact nomatch h
  · have h2 : fgt (some (wd s R)) (some 0) = _ := fgt_rk s false hR (Nat.zero_le _)
    rw [h2] at h
    have := of_decide_eq_true h
    unfold rk at this
    cases s
    · exact ⟨R, rfl, by simpa using this, hR⟩
    · simp at this; omega
theorem dat_inf' (s : Bool) {R : Nat} (h : R = infR) : f64.read (wd s R) = .infinity s := by
  subst h
  rw [read_wd s (by rw [infR_eq]; decide), dat_inf]
theorem prod_inf (s t : Bool) (m : Nat) (e : Int) : (Ieee.Datum.infinity s).product (.number t m e) = if m = 0 then none else some (.infinity (s ^^ t)) := by
  unfold Ieee.Datum.product
  by_cases h : m = 0 <;> simp [h]
theorem write_inf (s : Bool) : f64.write (.infinity s) = wd s infR := rfl
/-- Products by what is above nought: with the sign of the first; greater by the greater. -/
theorem mul_sg (s : Bool) {R D : Nat} (hR : R ≤ infR) (hD : D ≤ infR) : fmul (some (wd s R)) (some D) = none ∨ ∃ N, N ≤ infR ∧ fmul (some (wd s R)) (some D) = some (wd s N) := by
  have hi := infR_eq
  have ex : (s ^^ false) = s := by cases s <;> rfl
  have hfin : ∀ (t : Bool) {Q : Nat}, Q < infR → ∃ m e, f64.read (wd t Q) = .number t m e := fun t Q h => by
    obtain ⟨m, e, h1, _⟩ := dat_num h t
    exact ⟨m, e, by rw [read_wd t (by omega), h1]⟩
  rcases Nat.lt_or_ge R infR with h1 | h1
  · rcases Nat.lt_or_ge D infR with h2 | h2
    · obtain ⟨N, hN, hr⟩ := mul_rd s false h1 h2
      rw [wd_false, ex] at hN
      exact .inr ⟨N, hr.inf, hN⟩
    · obtain ⟨m, e, hm⟩ := hfin s h1
      have hd : f64.read D = .infinity false := dat_inf' false (show D = infR by omega)
      rw [fmul_is, hm, hd, product_comm, prod_inf]
      by_cases h0 : m = 0
      · rw [if_pos h0]; exact .inl rfl
      · rw [if_neg h0]
        refine .inr ⟨infR, Nat.le_refl _, ?_⟩
        rw [Option.map_some, write_inf]
        cases s <;> rfl
  · have hr : f64.read (wd s R) = .infinity s := dat_inf' s (by omega)
    rcases Nat.lt_or_ge D infR with h2 | h2
    · obtain ⟨m, e, hm⟩ := hfin false h2
      rw [wd_false] at hm
      rw [fmul_is, hr, hm, prod_inf]
      by_cases h0 : m = 0
      · rw [if_pos h0]; exact .inl rfl
      · rw [if_neg h0]
        refine .inr ⟨infR, Nat.le_refl _, ?_⟩
        rw [Option.map_some, write_inf, ex]
    · have hd : f64.read D = .infinity false := dat_inf' false (show D = infR by omega)
      rw [fmul_is, hr, hd]
      refine .inr ⟨infR, Nat.le_refl _, ?_⟩
      show some (f64.write (.infinity (s ^^ false))) = _
      rw [write_inf, ex]
theorem quant_sg (s : Bool) {U D L T : Nat} (hU : U ≤ infR) (hD : D ≤ infR) (hL : L ≤ infR) (hT : T ≤ infR) : quantO (wd s U) D L T = none ∨ ∃ N, N ≤ infR ∧ quantO (wd s U) D L T = some (wd s N) := by
  unfold quantO
  have hn : ∀ y, fmul none y = none := fun y => rfl
  rcases mul_sg s hU hD with h | ⟨N, h1, h⟩
  · rw [h, hn, hn, hn]; exact .inl rfl
  rw [h]
  rcases mul_sg s h1 hL with h | ⟨N, h1, h⟩
  · rw [h, hn, hn]; exact .inl rfl
  rw [h]
  rcases mul_sg s h1 hT with h | ⟨N, h1, h⟩
  · rw [h, hn]; exact .inl rfl
  rw [h]
  exact mul_sg s h1 (by rw [infR_eq]; decide)
section
variable {u d l t : Nat} (hu : u < 18446744073709551616) (hd : d < 18446744073709551616) (hl : l < 18446744073709551616) (ht : t < 18446744073709551616)
  (gd : fgt (some d) (some 0) = true) (gl : fgt (some l) (some 0) = true) (gt : fgt (some t) (some 0) = true)
include hu hd hl ht gd gl gt
theorem quant_pos (h : fgt (some u) (some 0) = true) : ¬ quantF u d l t < 0 := by
  obtain ⟨U, rfl, _, hU⟩ := gt0_is hu h
  obtain ⟨D, rfl, _, hD⟩ := gt0_is hd gd
  obtain ⟨L, rfl, _, hL⟩ := gt0_is hl gl
  obtain ⟨T, rfl, _, hT⟩ := gt0_is ht gt
  unfold quantF
  rcases quant_sg false hU hD hL hT with h | ⟨N, h1, h⟩
  · rw [wd_false] at h; rw [h]; decide
  · rw [wd_false] at h
    rw [h, clamp_wd _ h1]
    have := size_le h1
    simp; omega
theorem quant_below (h : flt (some u) (some 0) = true) : ¬ 0 < quantF u d l t := by
  obtain ⟨D, rfl, _, hD⟩ := gt0_is hd gd
  obtain ⟨L, rfl, _, hL⟩ := gt0_is hl gl
  obtain ⟨T, rfl, _, hT⟩ := gt0_is ht gt
  unfold quantF
  rcases nan_or hu with hn | ⟨s, R, hR, rfl⟩
  · unfold flt at h
    rw [(nan_cmp hn _).1] at h
    exact nomatch h
  · have h2 : flt (some (wd s R)) (some 0) = _ := flt_rk s false hR (Nat.zero_le _)
    rw [h2] at h
    have := of_decide_eq_true h
    unfold rk at this
    cases s
    · simp at this; omega
    · rcases quant_sg true hR hD hL hT with h | ⟨N, h1, h⟩
      · rw [h]; decide
      · rw [h, clamp_wd _ h1]
        have := size_le h1
        simp; omega
end
/-- Products by a number above nought keep the order. -/
theorem mul_at (s : Bool) {R D : Nat} (hR : R ≤ infR) (hD : D < infR) (h0 : 0 < D) : ∃ N, N ≤ infR ∧ fmul (some (wd s R)) (some D) = some (wd s N) ∧ ((R = infR ∧ N = infR) ∨ (R < infR ∧ Rd (vR R * vR D) N)) := by
  have ex : (s ^^ false) = s := by cases s <;> rfl
  rcases Nat.lt_or_ge R infR with h1 | h1
  · obtain ⟨N, hN, hr⟩ := mul_rd s false h1 hD
    rw [wd_false, ex] at hN
    exact ⟨N, hr.inf, hN, .inr ⟨h1, hr⟩⟩
  · have hr : f64.read (wd s R) = .infinity s := dat_inf' s (by omega)
    obtain ⟨m, e, h2, _, h3⟩ := dat_num hD false
    have hm : f64.read D = .number false m e := by
      have := read_wd false (R := D) (by rw [infR_eq] at hD; omega)
      rw [wd_false] at this
      rw [this, h2]
    refine ⟨infR, Nat.le_refl _, ?_, .inl ⟨by omega, rfl⟩⟩
    rw [fmul_is, hr, hm, prod_inf, if_neg (h3 (by omega)), Option.map_some, write_inf, ex]
theorem mul_mono (s s' : Bool) {R R' D : Nat} (hR : R ≤ infR) (hR' : R' ≤ infR) (hD : D < infR) (h0 : 0 < D) (h : rk s R ≤ rk s' R') :
    ∃ N N', N ≤ infR ∧ N' ≤ infR ∧ fmul (some (wd s R)) (some D) = some (wd s N) ∧ fmul (some (wd s' R')) (some D) = some (wd s' N') ∧ rk s N ≤ rk s' N' := by
  obtain ⟨N, n1, n2, n3⟩ := mul_at s hR hD h0
  obtain ⟨M, m1, m2, m3⟩ := mul_at s' hR' hD h0
  refine ⟨N, M, n1, m1, n2, m2, ?_⟩
  have hp : 0 < vR D := vR_pos hD (by omega)
  have lt : ∀ {A B X Y : Nat}, A < B → A < infR → ((A = infR ∧ X = infR) ∨ (A < infR ∧ Rd (vR A * vR D) X)) → Y ≤ infR → X ≤ infR → ((B = infR ∧ Y = infR) ∨ (B < infR ∧ Rd (vR B * vR D) Y)) → X ≤ Y := by
    intro A B X Y hab hA hX hYi hXi hY
    rcases hY with ⟨_, rfl⟩ | ⟨_, hY⟩
    · exact hXi
    · rcases hX with ⟨h, _⟩ | ⟨_, hX⟩
      · omega
      · exact hX.lt hY (lt_mul hp (vR_lt hab))
  have zz : ∀ {X : Nat}, ((0 = infR ∧ X = infR) ∨ (0 < infR ∧ Rd (vR 0 * vR D) X)) → X = 0 := by
    intro X hX
    rcases hX with ⟨h, _⟩ | ⟨_, hX⟩
    · exact absurd h (by rw [infR_eq]; decide)
    · exact hX.eq (by rw [vR_0, Rat.zero_mul]) (Nat.zero_le _)
  have inj : ∀ (s : Bool) {X Y : Nat}, X ≤ infR → Y ≤ infR → some (wd s X) = some (wd s Y) → X = Y := by
    intro s X Y hX hY h
    have hi := infR_eq
    injection h with h
    cases s
    · rw [wd_false, wd_false] at h; exact h
    · rw [wd_true, wd_true] at h; omega
  unfold rk at h ⊢
  cases s <;> cases s' <;> simp only [Bool.false_eq_true, if_false, if_true] at h ⊢
  · rcases Nat.lt_or_ge R R' with h1 | h1
    · have := lt h1 (by omega) n3 m1 n1 m3; omega
    · obtain rfl : R = R' := by omega
      have := inj false n1 m1 (n2.symm.trans m2); omega
  · obtain rfl : R = 0 := by omega
    obtain rfl : R' = 0 := by omega
    have := zz n3
    have := zz m3
    omega
  · omega
  · rcases Nat.lt_or_ge R' R with h1 | h1
    · have := lt h1 (by omega) m3 n1 m1 n3; omega
    · obtain rfl : R = R' := by omega
      have := inj true n1 m1 (n2.symm.trans m2); omega
theorem clamp_mono (s s' : Bool) {N N' : Nat} (hN : N ≤ infR) (hN' : N' ≤ infR) (h : rk s N ≤ rk s' N') : clampF (some (wd s N)) ≤ clampF (some (wd s' N')) := by
  rw [clamp_wd s hN, clamp_wd s' hN']
  have a := size_le hN
  have b := size_le hN'
  unfold rk at h
  cases s <;> cases s' <;> simp only [Bool.false_eq_true, if_false, if_true] at h ⊢
  · exact size_mono (by omega) hN'
  · obtain rfl : N = 0 := by omega
    obtain rfl : N' = 0 := by omega
    rw [size_zero]; decide
  · omega
  · have := size_mono (show N' ≤ N by omega) hN; omega
theorem fin_of {d : Nat} (hd : d ≤ infR) (h : fne (fsub (some d) (some d)) (some 0) = false) : d < infR := by
  rcases Nat.lt_or_ge d infR with h1 | h1
  · exact h1
  · exfalso
    obtain rfl : d = infR := by omega
    exact absurd h (by decide +kernel)
theorem quant_mono {u v d l t : Nat} (hu : u < 18446744073709551616) (hv : v < 18446744073709551616) (hd : d < 18446744073709551616) (hl : l < 18446744073709551616) (ht : t < 18446744073709551616)
    (gd : fgt (some d) (some 0) = true) (gl : fgt (some l) (some 0) = true) (gt : fgt (some t) (some 0) = true) (nu : fne (some u) (some u) = false) (nv : fne (some v) (some v) = false)
    (fd : fne (fsub (some d) (some d)) (some 0) = false) (fl : fne (fsub (some l) (some l)) (some 0) = false) (ft : fne (fsub (some t) (some t)) (some 0) = false) (h : flt (some v) (some u) = false) : quantF v d l t ≥ quantF u d l t := by
  obtain ⟨D, rfl, d0, hD⟩ := gt0_is hd gd
  obtain ⟨L, rfl, l0, hL⟩ := gt0_is hl gl
  obtain ⟨T, rfl, t0, hT⟩ := gt0_is ht gt
  have no : ∀ {b : Nat}, nanB b → fne (some b) (some b) = false → False := fun hn h => by
    unfold fne at h
    rw [(nan_cmp hn _).1] at h
    exact nomatch h
  rcases nan_or hu with hn | ⟨s, R, hR, rfl⟩
  · exact (no hn nu).elim
  rcases nan_or hv with hn | ⟨s', R', hR', rfl⟩
  · exact (no hn nv).elim
  rw [flt_rk s' s hR' hR] at h
  have hk : rk s R ≤ rk s' R' := by simpa using h
  obtain ⟨a, b, a1, b1, a2, b2, k⟩ := mul_mono s s' hR hR' (fin_of hD fd) d0 hk
  obtain ⟨a', b', a3, b3, a4, b4, k⟩ := mul_mono s s' a1 b1 (fin_of hL fl) l0 k
  obtain ⟨a5, b5, a6, b6, a7, b7, k⟩ := mul_mono s s' a3 b3 (fin_of hT ft) t0 k
  obtain ⟨a8, b8, a9, b9, a10, b10, k⟩ := mul_mono s s' a6 b6 (show 4742290407621132288 < infR by rw [infR_eq]; decide) (by decide) k
  unfold quantF quantO
  rw [a2, a4, a7, a10, b2, b4, b7, b10]
  exact clamp_mono s s' a9 b9 k
end Go.Proofs.YthoofdnnfahhaaaGreatDoor
