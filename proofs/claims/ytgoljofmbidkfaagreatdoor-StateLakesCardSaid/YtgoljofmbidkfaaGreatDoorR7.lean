import Derived.Test.YtgoljofmbidkfaaGreatDoorPf
import Derived.Test.YtgoljofmbidkfaaGreatDoorCl
import Derived.Test.YtgoljofmbidkfaaGreatDoorSu
/- Sizes as whole numbers: the nearest, half to even. No condition. -/
namespace Go.Proofs.YtgoljofmbidkfaaGreatDoor
open Go Go.Eng Ieee
set_option maxRecDepth 100000
set_option linter.unusedSimpArgs false
set_option linter.unusedVariables false

theorem cut_down (K d : Nat) : Ieee.Toward.down.cut false K d = K / 2 ^ d := by
  unfold Ieee.Toward.cut
  simp only [Bool.false_and, Bool.toNat_false, Nat.add_zero, Nat.shiftLeft_eq, Nat.one_mul]
  rcases Nat.le_total d (K.log2 + 2) with h | h
  · rw [Nat.min_eq_left h]
  · rw [Nat.min_eq_right h]
    have h1 := @Nat.lt_log2_self K
    have h2 : 2 ^ (K.log2 + 1) ≤ 2 ^ (K.log2 + 2) := Nat.pow_le_pow_right (by decide) (by omega)
    have h3 : 2 ^ (K.log2 + 2) ≤ 2 ^ d := Nat.pow_le_pow_right (by decide) h
    rw [Nat.div_eq_of_lt (by omega), Nat.div_eq_of_lt (by omega)]
theorem whole_inf : wholeB ≤ infR := by rw [infR_eq]; decide
/-- A size below 2^63: whole, or with a rest. -/
theorem floor_parts {R : Nat} (h : R < wholeB) :
    (∃ K k, 4503599627370496 ≤ K ∧ K < 9007199254740992 ∧ k ≤ 10 ∧ R = (1074 + k) * 4503599627370496 + K ∧ floorB R = R ∧ fToI (some (floorB R)) .u64 = some ((K * 2 ^ k : Nat) : Int)) ∨
    (∃ K s, 1 ≤ s ∧ s ≤ 1074 ∧ K < 9007199254740992 ∧ (s < 1074 → 4503599627370496 ≤ K) ∧ R = (1074 - s) * 4503599627370496 + K ∧ floorB R = f64.nearest false (K / 2 ^ s) 0 ∧ fToI (some (floorB R)) .u64 = some ((K / 2 ^ s : Nat) : Int)) := by
  have hw : wholeB = 4890909195324358656 := rfl
  rw [hw] at h
  have hread : f64.read R = dat false R := read_wd false (by omega)
  rcases Nat.lt_or_ge R f64.binade with h1 | h1
  · refine .inr ⟨R, 1074, by omega, Nat.le_refl _, by rw [binade_eq] at h1; omega, fun h => absurd h (Nat.lt_irrefl _), by omega, ?_⟩
    have e : dat false R = .number false R f64.leastPlace := by unfold dat; rw [if_pos h1]
    have e2 : (Ieee.Datum.number false R f64.leastPlace).integral .down = .number false (Ieee.Toward.down.cut false R 1074) 0 := by
      unfold Ieee.Datum.integral
      rw [least_eq]
      rfl
    have e3 : floorB R = f64.nearest false (R / 2 ^ 1074) 0 := by
      unfold floorB
      rw [hread, e, e2, cut_down, write_num]
    refine ⟨e3, ?_⟩
    rw [e3]
    rw [binade_eq] at h1
    exact toI_small (Nat.lt_of_le_of_lt (Nat.div_le_self _ _) (by omega))
  · obtain ⟨e, K, rfl, hK1, hK2⟩ : ∃ e K, R = e * 4503599627370496 + K ∧ 4503599627370496 ≤ K ∧ K < 9007199254740992 := by
      rw [binade_eq] at h1
      refine ⟨R / 4503599627370496 - 1, R % 4503599627370496 + 4503599627370496, by omega, by omega, by omega⟩
    have he : e ≤ 1084 := by omega
    have hd := dat_normal e K hK1 hK2 (by omega)
    rcases Nat.lt_or_ge e 1074 with h3 | h3
    · refine .inr ⟨K, 1074 - e, by omega, by omega, hK2, fun _ => hK1, by rw [show 1074 - (1074 - e) = e by omega], ?_⟩
      have e2 : (Ieee.Datum.number false K (-1074 + (e : Int))).integral .down = .number false (Ieee.Toward.down.cut false K (1074 - e)) 0 := by
        unfold Ieee.Datum.integral
        simp only
        rw [show (-1074 + (e : Int)).toNat = 0 by omega, show (-(-1074 + (e : Int))).toNat = 1074 - e by omega, Nat.shiftLeft_zero]
      have e3 : floorB (e * 4503599627370496 + K) = f64.nearest false (K / 2 ^ (1074 - e)) 0 := by
        unfold floorB
        rw [hread, hd, e2, cut_down, write_num]
      refine ⟨e3, ?_⟩
      rw [e3]
      exact toI_small (Nat.lt_of_le_of_lt (Nat.div_le_self _ _) hK2)
    · obtain ⟨k, rfl⟩ : ∃ k, e = 1074 + k := ⟨e - 1074, by omega⟩
      have hk : k ≤ 10 := by omega
      have e2 : (Ieee.Datum.number false K (-1074 + ((1074 + k : Nat) : Int))).integral .down = .number false (K * 2 ^ k) 0 := by
        unfold Ieee.Datum.integral
        simp only
        rw [show (-1074 + ((1074 + k : Nat) : Int)).toNat = k by omega, show (-(-1074 + ((1074 + k : Nat) : Int))).toNat = 0 by omega, cut_zero, Nat.shiftLeft_eq]
      have e3 : floorB ((1074 + k) * 4503599627370496 + K) = f64.nearest false (K * 2 ^ k) 0 := by
        unfold floorB
        rw [hread, hd, e2, write_num]
      refine .inl ⟨K, k, hK1, hK2, hk, rfl, e3.trans (nearest_great hK1 hK2 hk), ?_⟩
      rw [e3]
      exact toI_great hK1 hK2 hk
theorem vR_small {q : Nat} (h : q < 9007199254740992) : vR (f64.nearest false q 0) = mg q 0 ∧ f64.nearest false q 0 < infR := by
  rcases Nat.eq_zero_or_pos q with rfl | h0
  · rw [show f64.nearest false 0 0 = 0 from (nearest_zero f64 0).trans (wd_false 0), vR_0]
    refine ⟨?_, by rw [infR_eq]; decide⟩
    unfold mg; rw [show ((0 : Nat) : Rat) = 0 from rfl, Rat.zero_mul]
  · obtain ⟨h1, h2, h3, h4⟩ := nearest_small h0 h
    refine ⟨?_, by rw [h1, infR_eq]; omega⟩
    have := vR_at (1022 + q.log2) (q * 2 ^ (52 - q.log2)) (by omega) (fun _ => by omega)
    rw [h1]
    rw [show (4503599627370496 : Nat) = 2 ^ 52 from rfl, this, mg_nat]
    congr 1
    omega
theorem mg_half : mg 1 (-1) = 1 / 2 := by
  unfold mg
  have := two_add (-1) 1
  rw [show (-1 : Int) + 1 = 0 by decide, two_0, two_1] at this
  rw [show ((1 : Nat) : Rat) = 1 from rfl]
  grind
theorem mg_half_at {s : Nat} (h : 1 ≤ s) : mg (2 ^ (s - 1)) (-(s : Int)) = 1 / 2 := by
  have := mg_nat 1 (-(s : Int)) (s - 1)
  rw [Nat.one_mul] at this
  rw [this, show -(s : Int) + ((s - 1 : Nat) : Int) = -1 by omega, mg_half]
theorem mg_up {m : Nat} {i j : Int} (h : i ≤ j) : mg m i ≤ mg m j := by
  unfold mg
  exact Rat.mul_le_mul_of_nonneg_left (two_le h) (by exact_mod_cast Nat.zero_le m)
theorem pow_pred {s : Nat} (h : 1 ≤ s) : 2 * 2 ^ (s - 1) = 2 ^ s := by
  obtain ⟨t, rfl⟩ : ∃ t, s = t + 1 := ⟨s - 1, by omega⟩
  rw [Nat.add_sub_cancel, Nat.pow_succ]; omega
/-- What is left, beside a half. -/
theorem rest_half {r s N : Nat} (h1 : 1 ≤ s) (hr : r < 2 ^ s) (hr2 : r < 9007199254740992) (hN : Rd (mg r (-(s : Int))) N) :
    (2 ^ s < 2 * r → halfB < N) ∧ (2 ^ s = 2 * r → N = halfB) ∧ (2 * r < 2 ^ s → N < halfB) := by
  have hp := pow_pred h1
  have hhi : halfB ≤ infR := by rw [infR_eq]; decide
  refine ⟨fun h => ?_, fun h => ?_, fun h => ?_⟩
  · have hs : s ≤ 53 := by
      apply Classical.byContradiction
      intro hc
      have : 2 ^ 54 ≤ 2 ^ s := Nat.pow_le_pow_right (by decide) (by omega)
      omega
    have e : vR (halfB + 1) = mg 4503599627370497 (-53) := by
      have := vR_at 1021 4503599627370497 (by decide) (fun _ => by decide)
      rwa [show (1021 : Nat) * 2 ^ 52 + 4503599627370497 = halfB + 1 by decide, show (-1074 : Int) + ((1021 : Nat) : Int) = -53 by decide] at this
    have e2 := mg_nat r (-53) (53 - s)
    rw [show (-53 : Int) + ((53 - s : Nat) : Int) = -(s : Int) by omega] at e2
    have hge : halfB + 1 ≤ N := by
      refine hN.ge ?_ (by rw [infR_eq]; decide)
      rw [e, ← e2]
      refine mg_le ?_ _
      have a1 : 2 ^ (s - 1) * 2 ^ (53 - s) = 4503599627370496 := by
        rw [← Nat.pow_add, show s - 1 + (53 - s) = 52 by omega]
      have a2 := Nat.mul_le_mul_right (2 ^ (53 - s)) (show 2 ^ (s - 1) + 1 ≤ r by omega)
      have a3 : 0 < 2 ^ (53 - s) := Nat.pow_pos (by decide)
      rw [Nat.add_mul, a1] at a2
      omega
    omega
  · refine hN.eq ?_ hhi
    rw [show r = 2 ^ (s - 1) by omega, mg_half_at h1, vR_half']
  · have e : vR (halfB - 1) = mg 9007199254740991 (-54) := by
      have := vR_at 1020 9007199254740991 (by decide) (fun _ => by decide)
      rwa [show (1020 : Nat) * 2 ^ 52 + 9007199254740991 = halfB - 1 by decide, show (-1074 : Int) + ((1020 : Nat) : Int) = -54 by decide] at this
    have hle : N ≤ halfB - 1 := by
      refine hN.le ?_
      rw [e]
      rcases Nat.lt_or_ge 54 s with hs | hs
      · have b1 : mg r (-(s : Int)) ≤ mg 9007199254740991 (-(s : Int)) := mg_le (by omega) _
        have b2 : mg 9007199254740991 (-(s : Int)) ≤ mg 9007199254740991 (-54) := mg_up (by omega)
        grind
      · have e2 := mg_nat r (-54) (54 - s)
        rw [show (-54 : Int) + ((54 - s : Nat) : Int) = -(s : Int) by omega] at e2
        rw [← e2]
        refine mg_le ?_ _
        have a1 : 2 ^ (s - 1) * 2 ^ (54 - s) = 9007199254740992 := by
          rw [← Nat.pow_add, show s - 1 + (54 - s) = 53 by omega]
        have a2 := Nat.mul_le_mul_right (2 ^ (54 - s)) (show r + 1 ≤ 2 ^ (s - 1) by omega)
        have a3 : 0 < 2 ^ (54 - s) := Nat.pow_pos (by decide)
        rw [Nat.add_mul, a1] at a2
        omega
    have : 1 ≤ halfB := by decide
    omega
def nearN (K s : Nat) : Nat := if 2 ^ s < 2 * (K % 2 ^ s) ∨ (2 ^ s = 2 * (K % 2 ^ s) ∧ K / 2 ^ s % 2 = 1) then K / 2 ^ s + 1 else K / 2 ^ s
theorem fgt_w {N M : Nat} (hN : N ≤ infR) (hM : M ≤ infR) : fgt (some N) (some M) = decide (M < N) := by
  have := fgt_rk false false hN hM
  rw [wd_false, wd_false] at this
  rw [this]; unfold rk; simp only [Bool.false_eq_true, if_false]; exact decide_eq_decide.2 (by omega)
theorem feq_w {N M : Nat} (hN : N ≤ infR) (hM : M ≤ infR) : feq (some N) (some M) = decide (N = M) := by
  have := feq_rk false false hN hM
  rw [wd_false, wd_false] at this
  rw [this]; unfold rk; simp only [Bool.false_eq_true, if_false]; exact decide_eq_decide.2 (by omega)
theorem split_mg (K s : Nat) : mg K (-(s : Int)) = mg (K / 2 ^ s) 0 + mg (K % 2 ^ s) (-(s : Int)) := by
  have h := mg_add (K / 2 ^ s * 2 ^ s) (K % 2 ^ s) (-(s : Int))
  rw [Nat.div_add_mod' K (2 ^ s), mg_nat, show -(s : Int) + ((s : Nat) : Int) = 0 by omega] at h
  exact h
theorem near_rest {R K s : Nat} (h1 : 1 ≤ s) (hs : s ≤ 1074) (hK : K < 9007199254740992) (hn : s < 1074 → 4503599627370496 ≤ K) (e : R = (1074 - s) * 4503599627370496 + K) (hf : floorB R = f64.nearest false (K / 2 ^ s) 0) :
    nearR R (floorB R) ((K / 2 ^ s : Nat) : Int) = ((nearN K s : Nat) : Int) ∧ vR R = mg K (-(s : Int)) := by
  have hv : vR R = mg K (-(s : Int)) := by
    have := vR_at (1074 - s) K (by omega) (fun h => hn (by omega))
    rw [show (1074 - s) * 2 ^ 52 + K = R from e.symm] at this
    rw [this]; congr 1; omega
  refine ⟨?_, hv⟩
  have hq : K / 2 ^ s < 9007199254740992 := Nat.lt_of_le_of_lt (Nat.div_le_self _ _) hK
  obtain ⟨v1, v2⟩ := vR_small hq
  have hRi : R < infR := by rw [infR_eq]; omega
  have hsp := split_mg K s
  have hpos : 0 ≤ mg (K % 2 ^ s) (-(s : Int)) := by
    have := mg_le (Nat.zero_le (K % 2 ^ s)) (-(s : Int))
    rwa [show mg 0 (-(s : Int)) = 0 by unfold mg; rw [show ((0 : Nat) : Rat) = 0 from rfl, Rat.zero_mul]] at this
  have hle : f64.nearest false (K / 2 ^ s) 0 ≤ R := vR_le_iff.1 (by rw [v1, hv]; grind)
  obtain ⟨N, hN, hRd⟩ := sub_rd hRi v2 hle
  rw [hv, v1, show mg K (-(s : Int)) - mg (K / 2 ^ s) 0 = mg (K % 2 ^ s) (-(s : Int)) by grind] at hRd
  have hm := Nat.mod_lt K (Nat.pow_pos (n := s) (show 0 < 2 by decide))
  have hmk := Nat.mod_le K (2 ^ s)
  obtain ⟨t1, t2, t3⟩ := rest_half h1 hm (by omega) hRd
  have hhi : halfB ≤ infR := by rw [infR_eq]; decide
  unfold nearR nearN
  rw [hf, hN, fgt_w hRd.inf hhi, feq_w hRd.inf hhi]
  have hw : IntKind.u64.wrap (((K / 2 ^ s : Nat) : Int) + 1) = ((K / 2 ^ s + 1 : Nat) : Int) := by
    generalize K / 2 ^ s = q at hq
    rw [wrap_u (by omega) (by omega)]; rfl
  have ht : ((K / 2 ^ s : Nat) : Int).tmod 2 = ((K / 2 ^ s % 2 : Nat) : Int) := rfl
  rw [hw, ht]
  rcases Nat.lt_trichotomy (2 ^ s) (2 * (K % 2 ^ s)) with h | h | h
  · have := t1 h
    rw [if_pos (by simpa using this), if_pos (.inl h)]
  · have := t2 h
    rw [if_neg (by simp; omega), if_pos (by simpa using this)]
    by_cases ho : K / 2 ^ s % 2 = 1
    · rw [if_pos (by omega), if_pos (.inr ⟨h, ho⟩)]
    · rw [if_neg (by omega), if_neg (by rintro (h' | h') <;> omega)]
  · have := t3 h
    rw [if_neg (by simp; omega), if_neg (by simp; omega), if_neg (by rintro (h' | h') <;> omega)]
theorem near_great {R K k : Nat} (h1 : 4503599627370496 ≤ K) (h2 : K < 9007199254740992) (hk : k ≤ 10) (e : R = (1074 + k) * 4503599627370496 + K) (hf : floorB R = R) (n : Int) :
    nearR R (floorB R) n = n ∧ vR R = mg (K * 2 ^ k) 0 := by
  have hv : vR R = mg (K * 2 ^ k) 0 := by
    have := vR_at (1074 + k) K (by omega) (fun h => h1)
    rw [show (1074 + k) * 2 ^ 52 + K = R from e.symm] at this
    rw [this, mg_nat]; congr 1; omega
  refine ⟨?_, hv⟩
  have hRi : R < infR := by rw [infR_eq]; omega
  obtain ⟨N, hN, hRd⟩ := sub_rd hRi hRi (Nat.le_refl _)
  have : N = 0 := hRd.eq (by rw [vR_0]; grind) (Nat.zero_le _)
  subst this
  have hhi : halfB ≤ infR := by rw [infR_eq]; decide
  unfold nearR
  rw [hf, hN, fgt_w (Nat.zero_le _) hhi, feq_w (Nat.zero_le _) hhi, if_neg (by decide), if_neg (by decide)]
/-- The whole number nearest to a size below 2^63. -/
def nearZ (R : Nat) : Nat := if R < 4503599627370496 then nearN R 1074 else if R / 4503599627370496 - 1 < 1074 then nearN (R % 4503599627370496 + 4503599627370496) (1075 - R / 4503599627370496) else (R % 4503599627370496 + 4503599627370496) * 2 ^ (R / 4503599627370496 - 1075)
theorem near_is {R : Nat} (h : R < wholeB) : ∃ n : Nat, fToI (some (floorB R)) .u64 = some (n : Int) ∧ nearR R (floorB R) n = ((nearZ R : Nat) : Int) ∧ nearZ R < 9223372036854775808 := by
  rcases floor_parts h with ⟨K, k, h1, h2, h3, h4, h5, h6⟩ | ⟨K, s, h1, h2, h3, h4, h5, h6, h7⟩
  · refine ⟨_, h6, ?_⟩
    obtain ⟨a, _⟩ := near_great h1 h2 h3 h4 h5 ((K * 2 ^ k : Nat) : Int)
    have e : nearZ R = K * 2 ^ k := by
      unfold nearZ
      rw [if_neg (by omega), if_neg (by omega), show R % 4503599627370496 + 4503599627370496 = K by omega, show R / 4503599627370496 - 1075 = k by omega]
    rw [a, e]
    refine ⟨rfl, ?_⟩
    have : 2 ^ k ≤ 2 ^ 10 := Nat.pow_le_pow_right (by decide) h3
    have := Nat.mul_lt_mul_of_lt_of_le h2 this (by decide)
    omega
  · refine ⟨_, h7, ?_⟩
    obtain ⟨a, _⟩ := near_rest h1 h2 h3 h4 h5 h6
    have e : nearZ R = nearN K s := by
      unfold nearZ
      by_cases hc : R < 4503599627370496
      · obtain rfl : s = 1074 := by
          apply Classical.byContradiction
          intro hc2
          have := h4 (by omega)
          omega
        rw [if_pos hc, show R = K by omega]
      · by_cases hs : s = 1074
        · subst hs
          rw [if_neg hc, if_pos (by omega), show R % 4503599627370496 + 4503599627370496 = K by omega, show 1075 - R / 4503599627370496 = 1074 by omega]
        · have := h4 (by omega)
          rw [if_neg hc, if_pos (by omega), show R % 4503599627370496 + 4503599627370496 = K by omega, show 1075 - R / 4503599627370496 = s by omega]
    rw [a, e]
    refine ⟨rfl, ?_⟩
    have := Nat.div_le_self K (2 ^ s)
    unfold nearN
    split <;> omega
/-- It lies no more than a half away. -/
theorem near_half {R : Nat} (h : R < wholeB) : 2 * vR R ≤ 2 * (nearZ R : Rat) + 1 ∧ 2 * (nearZ R : Rat) ≤ 2 * vR R + 1 := by
  obtain ⟨n, e1, e2, _⟩ := near_is h
  rcases floor_parts h with ⟨K, k, h1, h2, h3, h4, h5, h6⟩ | ⟨K, s, h1, h2, h3, h4, h5, h6, h7⟩
  · rw [h6] at e1
    obtain rfl : K * 2 ^ k = n := by injection e1 with e1; exact_mod_cast e1
    obtain ⟨a, b⟩ := near_great h1 h2 h3 h4 h5 ((K * 2 ^ k : Nat) : Int)
    rw [a] at e2
    have e3 : nearZ R = K * 2 ^ k := by exact_mod_cast e2.symm
    rw [e3, b, mg_0]
    grind
  · rw [h7] at e1
    obtain rfl : K / 2 ^ s = n := by injection e1 with e1; exact_mod_cast e1
    obtain ⟨a, b⟩ := near_rest h1 h2 h3 h4 h5 h6
    rw [a] at e2
    have e3 : nearZ R = nearN K s := by exact_mod_cast e2.symm
    rw [e3, b, split_mg, mg_0]
    have hp := pow_pred h1
    have hz : 0 ≤ mg (K % 2 ^ s) (-(s : Int)) := by
      have := mg_le (Nat.zero_le (K % 2 ^ s)) (-(s : Int))
      rwa [show mg 0 (-(s : Int)) = 0 by unfold mg; rw [show ((0 : Nat) : Rat) = 0 from rfl, Rat.zero_mul]] at this
    have hh := mg_half_at h1
    have ho : mg (2 ^ s) (-(s : Int)) = 1 := by
      have := mg_nat 1 (-(s : Int)) s
      rw [Nat.one_mul] at this
      rw [this, show -(s : Int) + (s : Int) = 0 by omega, mg_0]; rfl
    have hm := Nat.mod_lt K (Nat.pow_pos (n := s) (show 0 < 2 by decide))
    have h9 := mg_le (Nat.le_of_lt hm) (-(s : Int))
    unfold nearN
    split
    · rename_i hc
      have hge := mg_le (show 2 ^ (s - 1) ≤ K % 2 ^ s by omega) (-(s : Int))
      rw [show ((K / 2 ^ s + 1 : Nat) : Rat) = ((K / 2 ^ s : Nat) : Rat) + 1 by push_cast; rfl]
      rw [hh] at hge
      rw [ho] at h9
      generalize mg (K % 2 ^ s) (-(s : Int)) = x at *
      generalize ((K / 2 ^ s : Nat) : Rat) = y at *
      clear hc hm hp e1 e2 e3 b a hh ho h7 h6 h5
      grind
    · rename_i hc
      have hge := mg_le (show K % 2 ^ s ≤ 2 ^ (s - 1) by omega) (-(s : Int))
      rw [hh] at hge
      rw [ho] at h9
      generalize mg (K % 2 ^ s) (-(s : Int)) = x at *
      generalize ((K / 2 ^ s : Nat) : Rat) = y at *
      clear hc hm hp e1 e2 e3 b a hh ho h7 h6 h5
      grind
theorem near_zero : nearZ 0 = 0 := by
  have a := (near_half (R := 0) (by decide)).2
  rw [vR_0] at a
  have d : (nearZ 0 : Rat) < ((1 : Nat) : Rat) := by
    rw [show ((1 : Nat) : Rat) = 1 from rfl]; grind
  have : nearZ 0 < 1 := by exact_mod_cast d
  omega
theorem size_near {R : Nat} (h : R < wholeB) : sizeI R = if (nearZ R : Int) < q52 then (nearZ R : Int) else q52 := by
  obtain ⟨n, e1, e2, e3⟩ := near_is h
  have hl : flt (some R) (some wholeB) = true := by
    have h2 := flt_rk false false (Nat.le_trans (Nat.le_of_lt h) whole_inf) whole_inf
    rw [wd_false, wd_false] at h2
    rw [h2]
    refine decide_eq_true ?_
    unfold rk
    simp only [Bool.false_eq_true, if_false]
    omega
  unfold sizeI
  rw [if_pos hl, e1]
  simp only [Option.getD_some]
  rw [e2, wrap_id (by omega) (by omega)]
theorem size_far {R : Nat} (h : wholeB ≤ R) (hR : R ≤ infR) : sizeI R = q52 := by
  have hl : flt (some R) (some wholeB) = false := by
    have h2 := flt_rk false false hR whole_inf
    rw [wd_false, wd_false] at h2
    rw [h2]
    refine decide_eq_false ?_
    unfold rk
    simp only [Bool.false_eq_true, if_false]
    omega
  unfold sizeI
  rw [hl]; rfl
theorem size_zero : sizeI 0 = 0 := by
  rw [size_near (by decide), near_zero]; decide
theorem size_le {R : Nat} (hR : R ≤ infR) : 0 ≤ sizeI R ∧ sizeI R ≤ q52 := by
  have q : q52 = 4503599627370496 := rfl
  rcases Nat.lt_or_ge R wholeB with h1 | h1
  · rw [size_near h1]; split <;> omega
  · rw [size_far h1 hR]; omega
theorem clamp_wd (s : Bool) {R : Nat} (hR : R ≤ infR) : clampF (some (wd s R)) = if s then -sizeI R else sizeI R := by
  have h1 : fne (some (wd s R)) (some (wd s R)) = false := by rw [fne_rk s s hR hR]; simp
  have h2 : flt (some (wd s R)) (some 0) = decide (rk s R < 0) := flt_rk s false hR (Nat.zero_le _)
  have hb := size_le hR
  have q : q52 = 4503599627370496 := rfl
  unfold clampF
  simp only
  rw [h1, h2, absB_wd s hR]
  simp only [Bool.false_eq_true, if_false, decide_eq_true_eq]
  unfold rk
  cases s
  · simp only [Bool.false_eq_true, if_false]
    rw [if_neg (by omega)]
  · simp only [if_true]
    by_cases h0 : R = 0
    · subst h0; rw [if_neg (by decide), size_zero]; rfl
    · rw [if_pos (by omega), wrap_id (by omega) (by omega)]; omega

theorem write_inf (s : Bool) : f64.write (.infinity s) = wd s infR := rfl
section
variable {u d l t : Nat} (hu : u < 18446744073709551616) (hd : d < 18446744073709551616) (hl : l < 18446744073709551616) (ht : t < 18446744073709551616)
  (gd : fgt (some d) (some 0) = true) (gl : fgt (some l) (some 0) = true) (gt : fgt (some t) (some 0) = true)
include hu hd hl ht gd gl gt
end
end Go.Proofs.YtgoljofmbidkfaaGreatDoor
/- Whole numbers as floats, as the reference makes them. No condition. -/
namespace Go.Proofs.YtgoljofmbidkfaaGreatDoor
open Go Go.Eng Ieee
set_option maxRecDepth 100000
set_option linter.unusedSimpArgs false
set_option linter.unusedVariables false

theorem cut_nearN (K t : Nat) (ht : t ≤ K.log2 + 2) : Ieee.Toward.even.cut false K t = nearN K t := by
  unfold Ieee.Toward.cut nearN
  simp only [Nat.min_eq_left ht, Nat.shiftLeft_eq, Nat.one_mul]
  by_cases h : 2 ^ t < 2 * (K % 2 ^ t)
  · rw [if_pos (.inl h), decide_eq_true h]; rfl
  · rw [decide_eq_false h]
    by_cases h2 : 2 ^ t = 2 * (K % 2 ^ t) ∧ K / 2 ^ t % 2 = 1
    · rw [if_pos (.inr h2)]
      have e1 : (2 ^ t == 2 * (K % 2 ^ t)) = true := beq_iff_eq.2 h2.1
      have e2 : (K / 2 ^ t % 2 == 1) = true := beq_iff_eq.2 h2.2
      rw [e1, e2]; rfl
    · rw [if_neg (by rintro (h' | h'); exact h h'; exact h2 h')]
      have : ((2 ^ t == 2 * (K % 2 ^ t)) && (K / 2 ^ t % 2 == 1)) = false := by
        apply Bool.eq_false_iff.2
        intro h3
        rw [Bool.and_eq_true] at h3
        exact h2 ⟨beq_iff_eq.1 h3.1, beq_iff_eq.1 h3.2⟩
      rw [this]; rfl
/-- The word of a whole number without a sign. -/
def smallW (m : Nat) : Nat := if m = 0 then 0 else if m.log2 < 52 then (1022 + m.log2) * 4503599627370496 + m * 2 ^ (52 - m.log2) else if m.log2 = 52 then 1074 * 4503599627370496 + m else (1022 + m.log2) * 4503599627370496 + nearN m (m.log2 - 52)
theorem small_is (m : Nat) (h : m < 2 ^ 64) : f64.nearest false m 0 = smallW m ∧ (m ≠ 0 → smallW m < 1087 * 4503599627370496 + 4503599627370496) := by
  unfold smallW
  rcases Nat.eq_zero_or_pos m with rfl | h0
  · rw [if_pos rfl]
    exact ⟨(nearest_zero f64 0).trans (wd_false 0), fun h => absurd rfl h⟩
  have hm : m ≠ 0 := by omega
  have hl1 := Nat.log2_self_le hm
  have hl2 := Nat.lt_log2_self (n := m)
  have hlog : m.log2 < 64 := (Nat.log2_lt hm).2 h
  rw [if_neg hm]
  by_cases h1 : m.log2 < 52
  · rw [if_pos h1]
    have h3 : m < 9007199254740992 := by
      have : 2 ^ (m.log2 + 1) ≤ 2 ^ 52 := Nat.pow_le_pow_right (by decide) (by omega)
      omega
    obtain ⟨e, h4, h5, _⟩ := nearest_small h0 h3
    refine ⟨e, fun _ => ?_⟩
    have : m * 2 ^ (52 - m.log2) < 2 ^ (m.log2 + 1) * 2 ^ (52 - m.log2) := Nat.mul_lt_mul_of_pos_right hl2 (Nat.two_pow_pos _)
    rw [← Nat.pow_add, show m.log2 + 1 + (52 - m.log2) = 53 by omega] at this
    omega
  · rw [if_neg h1]
    have e := nearest_is m 0 hm
    have e0 : Ieee.double.nearest false m 0 = f64.nearest false m 0 := rfl
    have hL : lastP m 0 = (m.log2 : Int) - 52 := by unfold lastP; omega
    rw [e0, hL, show (0 - ((m.log2 : Int) - 52)).toNat = 0 by omega, Nat.shiftLeft_zero, show ((m.log2 : Int) - 52 - 0).toNat = m.log2 - 52 by omega, show ((m.log2 : Int) - 52 + 1074).toNat = 1022 + m.log2 by omega, cut_nearN m _ (by omega)] at e
    have hi : Ieee.double.infRung = infR := rfl
    have hi2 := infR_eq
    rw [hi] at e
    have hb : nearN m (m.log2 - 52) ≤ 2 ^ 53 := by
      have h3 : m / 2 ^ (m.log2 - 52) < 2 ^ 53 := by
        rw [Nat.div_lt_iff_lt_mul (Nat.two_pow_pos _), ← Nat.pow_add, show 53 + (m.log2 - 52) = m.log2 + 1 by omega]
        exact hl2
      unfold nearN
      split <;> omega
    have hmin : min ((1022 + m.log2) * 2 ^ 52 + nearN m (m.log2 - 52)) infR = (1022 + m.log2) * 2 ^ 52 + nearN m (m.log2 - 52) := by
      generalize nearN m (m.log2 - 52) = q at *
      omega
    rw [hmin] at e
    by_cases h2 : m.log2 = 52
    · rw [if_pos h2, e, h2]
      have : nearN m (52 - 52) = m := by
        unfold nearN
        rw [Nat.sub_self, Nat.pow_zero, Nat.mod_one, Nat.div_one, if_neg (by omega)]
      rw [this]
      rw [h2] at hl2
      exact ⟨rfl, fun _ => by omega⟩
    · rw [if_neg h2, e]
      refine ⟨rfl, fun _ => ?_⟩
      generalize nearN m (m.log2 - 52) = q at *
      have : m.log2 ≤ 63 := by omega
      omega
theorem nI_is (i : Int) : nI i = wd (decide (i < 0)) (f64.nearest false i.natAbs 0) := by
  unfold nI FloatKind.nearest
  show f64.write (.number (decide (i < 0)) i.natAbs 0) = _
  rw [write_num, nearest_sign]

theorem mag_wd (s : Bool) {R : Nat} (h : R ≤ infR) : wd s R % 9223372036854775808 = R := by
  have h1 := infR_lt
  cases s
  · rw [wd_false]; omega
  · rw [wd_true]; omega
theorem nanB_mag {b : Nat} (h : nanB b) : infR < b % 9223372036854775808 := h.2
/-- A NaN, by its bits. -/
theorem none_is {b : Nat} (hb : b < 18446744073709551616) : fne (some b) (some b) = decide (infR < b % 9223372036854775808) := by
  rcases nan_or hb with h | ⟨s, R, hR, rfl⟩
  · rw [decide_eq_true (nanB_mag h)]
    unfold fne
    rw [(nan_cmp h _).1]; rfl
  · rw [fne_rk s s hR hR, mag_wd s hR, decide_eq_false (by omega)]
    simp [hR]
/-- A nought, by its bits. -/
theorem zero_is {b : Nat} (hb : b < 18446744073709551616) : feq (some b) (some 0) = decide (b % 9223372036854775808 = 0) := by
  rcases nan_or hb with h | ⟨s, R, hR, rfl⟩
  · rw [decide_eq_false (by have := nanB_mag h; omega)]
    unfold feq
    rw [(nan_cmp h _).1]; rfl
  · have e : feq (some (wd s R)) (some 0) = decide (rk s R = rk false 0) := feq_rk s false hR (Nat.zero_le _)
    rw [e, mag_wd s hR]
    unfold rk
    cases s <;> exact decide_eq_decide.2 (by simp)
def canonR (b : Nat) : Nat := if infR < b % 9223372036854775808 then qn else if b % 9223372036854775808 = 0 then 0 else b
theorem canonR_is {b : Nat} (hb : b < 18446744073709551616) : canonF (some b) = canonR b := by
  unfold canonF canonR
  rw [none_is hb, zero_is hb]
  simp only [decide_eq_true_eq, Option.getD_some]
def quietR (b : Nat) : Nat := if infR < b % 9223372036854775808 then qn else b
def plN (b : Nat) : Int := if b < 9223372036854775808 then 9223372036854775808 + (b : Int) else 18446744073709551615 - (b : Int)
theorem placeW_is {b : Nat} (hb : b < 18446744073709551616) : placeW b = plN b := by
  unfold plN placeW
  by_cases h : b < 9223372036854775808
  · rw [if_neg (by omega), if_pos h]
    unfold bitV
    have e : (BitVec.ofInt IntKind.u64.bits (b : Int) ||| BitVec.ofInt IntKind.u64.bits 9223372036854775808).toNat = 9223372036854775808 + b := by
      show (BitVec.ofInt 64 (b : Int) ||| BitVec.ofInt 64 9223372036854775808).toNat = _
      rw [BitVec.toNat_or, BitVec.toNat_ofInt, BitVec.toNat_ofInt]
      have a1 : ((b : Int) % ((2 ^ 64 : Nat) : Int)).toNat = b := by omega
      have a2 : ((9223372036854775808 : Int) % ((2 ^ 64 : Nat) : Int)).toNat = 2 ^ 63 * 1 := by decide
      rw [a1, a2, Nat.or_comm, ← Nat.two_pow_add_eq_or_of_lt (by omega)]
    simp only
    rw [e, wrap_u (by omega) (by omega)]
    omega
  · rw [if_pos (by omega), if_neg h]
    unfold bitV
    have e : (BitVec.ofInt IntKind.u64.bits IntKind.u64.max ^^^ BitVec.ofInt IntKind.u64.bits ((b : Nat) : Int)).toNat = 18446744073709551615 - b := by
      show (BitVec.ofInt 64 18446744073709551615 ^^^ BitVec.ofInt 64 ((b : Nat) : Int)).toNat = _
      rw [show BitVec.ofInt 64 18446744073709551615 = BitVec.allOnes 64 by decide, BitVec.allOnes_xor, BitVec.toNat_not, BitVec.toNat_ofInt]
      have a1 : (((b : Nat) : Int) % ((2 ^ 64 : Nat) : Int)).toNat = b := by omega
      rw [a1]
    simp only
    rw [e, wrap_u (by omega) (by omega)]
    omega
/-- The reference's order. -/
def orderR (x y : Nat) : Int := if x = y then 0 else if 9223372036854775808 ≤ x ∧ 9223372036854775808 ≤ y then (if y < x then -1 else 1) else if 9223372036854775808 ≤ x then -1 else if 9223372036854775808 ≤ y then 1 else if x < y then -1 else 1
theorem orderR_is {x y : Nat} (hx : x < 18446744073709551616) (hy : y < 18446744073709551616) : orderW x y = orderR x y := by
  unfold orderW
  rw [placeW_is hx, placeW_is hy]
  unfold cmpI plN orderR
  repeat' split
  all_goals omega
theorem magW_is {b : Nat} (hb : b < 18446744073709551616) : magW b = 2 * ((b % 9223372036854775808 : Nat) : Int) := by
  unfold magW
  rw [wrapU_mod]
  omega
/-- Does y come ahead of x among three? -/
def aheadR (x y : Nat) : Bool := decide (x % 9223372036854775808 < y % 9223372036854775808 ∨ (x % 9223372036854775808 = y % 9223372036854775808 ∧ orderR x y < 0))
theorem aheadR_is {x y : Nat} (hx : x < 18446744073709551616) (hy : y < 18446744073709551616) : aheadR x y = decide (cmpW x y < 0) := by
  unfold aheadR cmpW
  rw [magW_is hx, magW_is hy, orderR_is hx hy]
  refine decide_eq_decide.2 ?_
  generalize x % 9223372036854775808 = p
  generalize y % 9223372036854775808 = q
  unfold or2 cmpI
  rcases Nat.lt_trichotomy p q with h | h | h
  · rw [if_pos (c := 2 * (p : Int) < 2 * (q : Int)) (by omega), if_pos (by decide)]
    exact ⟨fun _ => by decide, fun _ => .inl h⟩
  · subst h
    rw [if_neg (c := 2 * (p : Int) < 2 * (p : Int)) (by omega), if_neg (c := 2 * (p : Int) > 2 * (p : Int)) (by omega), if_neg (by decide)]
    exact ⟨fun h => h.resolve_left (by omega) |>.2, fun h => .inr ⟨rfl, h⟩⟩
  · rw [if_neg (c := 2 * (p : Int) < 2 * (q : Int)) (by omega), if_pos (c := 2 * (p : Int) > 2 * (q : Int)) (by omega), if_pos (by decide)]
    exact ⟨fun h' => absurd h' (by omega), fun h' => absurd h' (by decide)⟩
theorem ahead_asym {x y : Nat} (h : aheadR x y = true) : aheadR y x = false := by
  unfold aheadR at *
  have h := of_decide_eq_true h
  refine decide_eq_false ?_
  rintro (h2 | ⟨h2, h3⟩)
  · omega
  · rcases h with h | ⟨h, h4⟩
    · omega
    · unfold orderR at h3 h4
      repeat' split at h3
      all_goals (repeat' split at h4)
      all_goals omega
/-- Three numbers in the reference's order: exchanged where they stand wrong. -/
def sortR (a b c : Nat) : Nat × Nat × Nat :=
  let p := if aheadR b a then (b, a) else (a, b)
  let q := if aheadR c p.2 then (c, p.2) else (p.2, c)
  let r := if aheadR q.1 p.1 then (q.1, p.1) else (p.1, q.1)
  (r.1, r.2, q.2)
theorem sortR_is {a b c : Nat} (ha : a < 18446744073709551616) (hb : b < 18446744073709551616) (hc : c < 18446744073709551616) : sort3 a b c = [(sortR a b c).1, (sortR a b c).2.1, (sortR a b c).2.2] := by
  have k1 := aheadR_is hb ha
  have k2 := aheadR_is hc ha
  have k3 := aheadR_is hc hb
  have iff : ∀ {x y : Nat}, aheadR x y = decide (cmpW x y < 0) → (cmpW x y < 0 ↔ aheadR x y = true) := fun h => by rw [h, decide_eq_true_eq]
  unfold sort3 sortR
  simp only [iff k1, iff k2, iff k3]
  by_cases h1 : aheadR b a = true
  · have h1' := ahead_asym h1
    by_cases h2 : aheadR c a = true
    · by_cases h3 : aheadR c b = true <;> simp [h1, h2, h3, h1']
    · simp [h1, h2, h1']
  · by_cases h3 : aheadR c b = true
    · by_cases h2 : aheadR c a = true <;> simp [h1, h2, h3]
    · simp [h1, h3]

theorem flt_w {N M : Nat} (hN : N ≤ infR) (hM : M ≤ infR) : flt (some N) (some M) = decide (N < M) := by
  have := flt_rk false false hN hM
  rw [wd_false, wd_false] at this
  rw [this]; unfold rk; simp only [Bool.false_eq_true, if_false]; exact decide_eq_decide.2 (by omega)
theorem roundT_nan {b : Nat} (h : nanB b) : roundT (some b) = 0 := by
  have h1 := (round_nan b h [])
  have hn : nanB (absB b) := by
    obtain ⟨e1, e2⟩ := absB_lt b h.1
    have h2 := h.2
    have e3 : f64.signWeight = 2 ^ 63 := by decide
    rw [e3] at h2
    refine ⟨by omega, ?_⟩
    rw [e3, e2]
    omega
  have hf : flt (some (absB b)) (some wholeB) = false := by
    unfold flt; rw [(nan_cmp hn _).1]; rfl
  have hq : feq (some b) (some 14114281232179134464) = false := by
    unfold feq; rw [(nan_cmp h _).1]; rfl
  have hr : roundO b = none := by
    unfold roundO; rw [hf]
    split
    · rename_i h5 _ ; exact absurd h5 (by simp)
    · rfl
  simp only [roundT, hr, hq]; rfl
theorem roundT_wd (s : Bool) {R : Nat} (hR : R ≤ infR) : roundT (some (wd s R)) = if R < wholeB then (if s = true then -((nearZ R : Nat) : Int) else ((nearZ R : Nat) : Int)) else if s = true ∧ R = wholeB then -9223372036854775808 else 0 := by
  have hi := infR_eq
  have hw : wholeB = 4890909195324358656 := rfl
  by_cases h : R < wholeB
  · rw [if_pos h]
    obtain ⟨n, e1, e2, e3⟩ := near_is h
    have hf : flt (some R) (some wholeB) = true := by rw [flt_w hR whole_inf]; exact decide_eq_true h
    have g1 := (floor_whole (by omega) hf).1
    have hneg : flt (some (wd s R)) (some 0) = decide (rk s R < 0) := flt_rk s false hR (Nat.zero_le _)
    have hr : roundO (wd s R) = some (if flt (some (wd s R)) (some 0) = true then IntKind.i64.wrap (0 - IntKind.i64.wrap ((nearZ R : Nat) : Int)) else IntKind.i64.wrap ((nearZ R : Nat) : Int)) := by
      unfold roundO
      rw [absB_wd s hR, g1, hf, e1]
      simp only [e2]
    simp only [roundT, hr]
    rw [hneg, wrap_id (n := ((nearZ R : Nat) : Int)) (by omega) (by omega)]
    unfold rk
    cases s
    · simp only [Bool.false_eq_true, if_false, decide_eq_true_eq]
      rw [if_neg (by omega)]
    · simp only [if_true, decide_eq_true_eq]
      by_cases h0 : R = 0
      · subst h0; rw [near_zero]; rfl
      · rw [if_pos (by omega), wrap_id (by omega) (by omega)]; omega
  · rw [if_neg h]
    have hf : flt (some R) (some wholeB) = false := by rw [flt_w hR whole_inf]; exact decide_eq_false h
    have hr : roundO (wd s R) = none := by
      unfold roundO; rw [absB_wd s hR, hf]
      split
      · rename_i h5 _; exact absurd h5 (by simp)
      · rfl
    have hq : feq (some (wd s R)) (some 14114281232179134464) = decide (s = true ∧ R = wholeB) := by
      have e : (14114281232179134464 : Nat) = wd true wholeB := by rw [wd_true]; decide
      rw [e, feq_rk s true hR whole_inf]
      unfold rk
      refine decide_eq_decide.2 ?_
      cases s <;> simp <;> omega
    simp only [roundT, hr, hq, decide_eq_true_eq]
/-! ### Slopes -/
/-- The lesser, the greater of two floats, as the reference takes them. -/
def lessO (x y : Option Nat) : Option Nat := if flt y x = true then y else x
def moreO (x y : Option Nat) : Option Nat := if fgt y x = true then y else x
/-! ### Lengths -/
theorem canon_pos {R : Nat} (hR : R ≤ infR) : canonF (some R) = R := by
  have hi := infR_eq
  rw [canonR_is (by omega)]
  unfold canonR
  rw [show R % 9223372036854775808 = R by omega, if_neg (by omega)]
  split <;> omega
theorem len_word (a : W) : lenF a = qn ∨ lenF a ≤ infR := by
  unfold lenF
  generalize threeO _ _ _ = x
  rw [fsqrt_is]
  cases hd : f64.read x with
  | nan s t => exact .inl rfl
  | infinity s =>
    cases s
    · refine .inr ?_
      show canonF (some (f64.write (.infinity false))) ≤ infR
      rw [write_inf, wd_false, canon_pos (Nat.le_refl _)]
      exact Nat.le_refl _
    · exact .inl rfl
  | number s m e =>
    have key : ∀ d : Option Ieee.Datum, (d = none ∨ (∃ t i, d = some (.number t 0 i)) ∨ ∃ k i, d = some (.number false k i)) → (canonF (d.map f64.write) = qn ∨ canonF (d.map f64.write) ≤ infR) := by
      rintro d (rfl | ⟨t, i, rfl⟩ | ⟨k, i, rfl⟩)
      · exact .inl rfl
      · refine .inr ?_
        show canonF (some (f64.write (.number t 0 i))) ≤ infR
        rw [write_num, nearest_sign, nearest_zero, show f64.word false 0 = 0 from wd_false 0, canonR_is (by cases t <;> decide)]
        unfold canonR
        rw [mag_wd t (Nat.zero_le _), if_neg (by omega), if_pos rfl]
        exact Nat.zero_le _
      · refine .inr ?_
        show canonF (some (f64.write (.number false k i))) ≤ infR
        rw [write_num, canon_pos (nearest_le k i)]
        exact nearest_le k i
    refine key _ ?_
    unfold Ieee.Datum.root
    by_cases h0 : m = 0
    · simp only [h0, if_true]
      exact .inr (.inl ⟨_, _, rfl⟩)
    · simp only [h0, if_false]
      cases s
      · exact .inr (.inr ⟨_, _, rfl⟩)
      · exact .inl rfl
theorem qn_nan : nanB qn := ⟨by decide, by show f64.infRung < _; decide⟩
/-- A length by which one may divide. -/
theorem unit_test (a : W) : (fgt (some (lenF a)) (some 0) && !fgt (some (lenF a)) (some 9218868437227405311)) = decide (lenF a ≠ 0 ∧ lenF a < infR) := by
  have hi := infR_eq
  rcases len_word a with h | h
  · rw [h]
    unfold fgt
    rw [(nan_cmp qn_nan _).1]
    exact (decide_eq_false (by rw [hi]; decide)).symm
  · generalize lenF a = l at *
    rw [fgt_w h (Nat.zero_le _), fgt_w h (by rw [hi]; decide)]
    rw [Bool.eq_iff_iff]
    simp only [Bool.and_eq_true, Bool.not_eq_true', decide_eq_true_eq, decide_eq_false_iff_not]
    omega
def classR (b : Nat) : Int := if b % 9223372036854775808 = 0 then 0 else if b % 9223372036854775808 < 4503599627370496 then 1 else if b % 9223372036854775808 < infR then 2 else if b % 9223372036854775808 = infR then 3 else 4
end Go.Proofs.YtgoljofmbidkfaaGreatDoor
/- The reference's bits, whole numbers as floats, sums of three, vectors. No condition. -/
namespace Go.Proofs.YtgoljofmbidkfaaGreatDoor
open Go Go.Eng Ieee
set_option maxRecDepth 100000
set_option linter.unusedSimpArgs false
set_option linter.unusedVariables false

abbrev Wd (o : Option Nat) : Prop := ∀ b, o = some b → b < 18446744073709551616
theorem wdF {b : Nat} (h : b < 18446744073709551616) : Wd (some b) := fun c e => by injection e with e; omega
theorem map_lt {d : Option Ieee.Datum} : Wd (d.map f64.write) := fun b h => by
  cases d with
  | none => exact nomatch h
  | some d => injection h with h; subst h; exact write_lt d
theorem op_lt {f : Nat → Nat → Option Nat} (h : ∀ a b, Wd (f a b)) (x y : Option Nat) : Wd (fop2 f x y) := by
  cases x with
  | none => exact fun b h => nomatch h
  | some a => cases y with
    | none => exact fun b h => nomatch h
    | some b => exact h a b
theorem fadd_lt (x y : Option Nat) : Wd (fadd x y) := op_lt (fun a b => map_lt) x y
theorem fsub_lt (x y : Option Nat) : Wd (fsub x y) := op_lt (fun a b => map_lt) x y
theorem fmul_lt' (x y : Option Nat) : Wd (fmul x y) := op_lt (fun a b => map_lt) x y
theorem fdiv_lt (x y : Option Nat) : Wd (fdiv x y) := op_lt (fun a b => map_lt) x y
theorem rmag_ok (b : Nat) (m : List Blk) : COk Tryz.prog 3 137 [F b] m (U ((b % 9223372036854775808 : Nat) : Int)) m := by
  refine COk_quiet Tryz.f137 Tryz.func137 (by kernel_rfl) rfl ?_
  (conv => whnf); repeat (refine ⟨_, _, bits_ok _ _, ?_⟩; conv => whnf)
  exact ⟨rfl, [], by simp⟩
theorem rbelow_ok (b : Nat) (m : List Blk) : COk Tryz.prog 3 216 [F b] m (Bo (decide ((b : Int) ≥ 9223372036854775808))) m := by
  refine COk_quiet Tryz.f216 Tryz.func216 (by kernel_rfl) rfl ?_
  (conv => whnf); repeat (refine ⟨_, _, bits_ok _ _, ?_⟩; conv => whnf)
  exact ⟨rfl, [], by simp⟩
theorem rnoneB_ok (b : Nat) (m : List Blk) : COk Tryz.prog 3 135 [F b] m (Bo (decide (((b % 9223372036854775808 : Nat) : Int) > 9218868437227405312))) m := by
  refine COk_quiet Tryz.f135 Tryz.func135 (by kernel_rfl) rfl ?_
  (conv => whnf); repeat (refine ⟨_, _, rmag_ok _ _, ?_⟩; conv => whnf)
  exact ⟨rfl, [], by simp⟩
theorem rnone_w {b : Nat} (hb : b < 18446744073709551616) (m : List Blk) : COk Tryz.prog 3 135 [F b] m (Bo (fne (some b) (some b))) m := by
  have h := rnoneB_ok b m
  have e : decide (((b % 9223372036854775808 : Nat) : Int) > 9218868437227405312) = fne (some b) (some b) := by
    rw [none_is hb, infR_eq]
    exact decide_eq_decide.2 (by omega)
  rwa [e] at h
theorem fne_nan {b : Nat} (h : nanB b) : fne (some b) (some b) = true := by
  unfold fne; rw [(nan_cmp h _).1]; rfl
theorem rnone_ok {o : Option Nat} (hb : Wd o) (m : List Blk) : COk Tryz.prog 3 135 [.fl o] m (Bo (fne o o)) m := by
  cases o with
  | some b => exact rnone_w (hb b rfl) m
  | none =>
    refine COk_bits [] (bs := []) (fun b hn => ?_)
    have h := rnone_w (b := b) (by have := hn.1; omega) m
    rw [fne_nan hn] at h
    exact h
theorem rfrom_ok (z : Int) (m : List Blk) : COk Tryz.prog 3 87 [U z] m (F z.toNat) m := by
  have h := frombitsZ_ok z m
  refine COk_quiet Tryz.f87 Tryz.func87 (by kernel_rfl) rfl ?_
  (conv => whnf); repeat (refine ⟨_, _, h, ?_⟩; conv => whnf)
  exact ⟨rfl, [], by simp⟩
theorem rquiet_ok (m : List Blk) : COk Tryz.prog 3 136 [] m (F qn) m := by
  have h := rfrom_ok 9221120237041090561 m
  refine COk_quiet Tryz.f136 Tryz.func136 (by kernel_rfl) rfl ?_
  (conv => whnf); repeat (refine ⟨_, _, h, ?_⟩; conv => whnf)
  exact ⟨rfl, [], by simp⟩
theorem rclass_w (b : Nat) (m : List Blk) : COk Tryz.prog 3 200 [F b] m (I (classR b)) m := by
  have hi := infR_eq
  have h := rmag_ok b
  unfold classR
  generalize b % 9223372036854775808 = p at *
  obtain ⟨P, hP⟩ : ∃ P : Int, P = (p : Int) := ⟨_, rfl⟩
  rw [← hP] at h
  by_cases h0 : p = 0
  · rw [if_pos h0]
    refine COk_quiet Tryz.f200 Tryz.func200 (by kernel_rfl) rfl ?_
    (conv => whnf); repeat ((first | refine ⟨_, _, h _, ?_⟩ | refine br_d (by omega) ?_); conv => whnf)
    exact ⟨rfl, [], by simp⟩
  rw [if_neg h0]
  by_cases h1 : p < 4503599627370496
  · rw [if_pos h1]
    refine COk_quiet Tryz.f200 Tryz.func200 (by kernel_rfl) rfl ?_
    (conv => whnf); repeat ((first | refine ⟨_, _, h _, ?_⟩ | refine br_d (by omega) ?_ | refine br_nd (by omega) ?_); conv => whnf)
    exact ⟨rfl, [], by simp⟩
  rw [if_neg h1]
  by_cases h2 : p < infR
  · rw [if_pos h2]
    refine COk_quiet Tryz.f200 Tryz.func200 (by kernel_rfl) rfl ?_
    (conv => whnf); repeat ((first | refine ⟨_, _, h _, ?_⟩ | refine br_d (by omega) ?_ | refine br_nd (by omega) ?_); conv => whnf)
    exact ⟨rfl, [], by simp⟩
  rw [if_neg h2]
  by_cases h3 : p = infR
  · rw [if_pos h3]
    refine COk_quiet Tryz.f200 Tryz.func200 (by kernel_rfl) rfl ?_
    (conv => whnf); repeat ((first | refine ⟨_, _, h _, ?_⟩ | refine br_d (by omega) ?_ | refine br_nd (by omega) ?_); conv => whnf)
    exact ⟨rfl, [], by simp⟩
  · rw [if_neg h3]
    refine COk_quiet Tryz.f200 Tryz.func200 (by kernel_rfl) rfl ?_
    (conv => whnf); repeat ((first | refine ⟨_, _, h _, ?_⟩ | refine br_nd (by omega) ?_); conv => whnf)
    exact ⟨rfl, [], by simp⟩
theorem rcanon_w {b : Nat} (hb : b < 18446744073709551616) (m : List Blk) : COk Tryz.prog 3 92 [F b] m (F (canonF (some b))) m := by
  have hn := rnone_w hb
  have hm := rmag_ok b
  rw [canonR_is hb]
  unfold canonR
  rw [none_is hb] at hn
  by_cases h1 : infR < b % 9223372036854775808
  · rw [if_pos h1]
    rw [decide_eq_true h1] at hn
    refine COk_quiet Tryz.f92 Tryz.func92 (by kernel_rfl) rfl ?_
    (conv => whnf); repeat ((first | refine ⟨_, _, hn _, ?_⟩ | refine ⟨_, _, rquiet_ok _, ?_⟩); conv => whnf)
    exact ⟨rfl, [], by simp⟩
  rw [if_neg h1]
  rw [decide_eq_false h1] at hn
  generalize b % 9223372036854775808 = p at *
  have hz := rfrom_ok 0
  by_cases h0 : p = 0
  · rw [if_pos h0]
    refine COk_quiet Tryz.f92 Tryz.func92 (by kernel_rfl) rfl ?_
    (conv => whnf); repeat ((first | refine ⟨_, _, hn _, ?_⟩ | refine ⟨_, _, hm _, ?_⟩ | refine br_yes (beq_iff_eq.2 (by omega)) ?_ | refine ⟨_, _, hz _, ?_⟩); conv => whnf)
    exact ⟨rfl, [], by simp⟩
  · rw [if_neg h0]
    have n0 : (((p : Nat) : Int) == 0) = false := beq_eq_false_iff_ne.2 (by omega)
    refine COk_quiet Tryz.f92 Tryz.func92 (by kernel_rfl) rfl ?_
    (conv => whnf); repeat ((first | refine ⟨_, _, hn _, ?_⟩ | refine ⟨_, _, hm _, ?_⟩ | refine br_no n0 ?_); conv => whnf)
    exact ⟨rfl, [], by simp⟩
theorem rcanon_ok {o : Option Nat} (hb : Wd o) (m : List Blk) : COk Tryz.prog 3 92 [.fl o] m (F (canonF o)) m := by
  cases o with
  | some b => exact rcanon_w (hb b rfl) m
  | none =>
    refine COk_bits [] (bs := []) (fun b hn => ?_)
    have h := rcanon_w (b := b) (by have := hn.1; omega) m
    have e : canonF (some b) = canonF none := by unfold canonF; rw [fne_nan hn]; rfl
    rwa [e] at h
theorem rorder_ok (a b : Nat) (m : List Blk) : COk Tryz.prog 3 203 [F a, F b] m (I (orderR a b)) m := by
  have ha := rbelow_ok a
  have hb := rbelow_ok b
  unfold orderR
  by_cases h0 : a = b
  · subst h0
    rw [if_pos rfl]
    refine COk_quiet Tryz.f203 Tryz.func203 (by kernel_rfl) rfl ?_
    (conv => whnf); repeat ((first | refine ⟨_, _, bits_ok _ _, ?_⟩ | refine br_yes (beq_iff_eq.2 rfl) ?_); conv => whnf)
    exact ⟨rfl, [], by simp⟩
  have n0 : (((a : Nat) : Int) == (b : Int)) = false := beq_eq_false_iff_ne.2 (by omega)
  rw [if_neg h0]
  by_cases h1 : 9223372036854775808 ≤ a
  · rw [decide_eq_true (show (a : Int) ≥ 9223372036854775808 by omega)] at ha
    by_cases h2 : 9223372036854775808 ≤ b
    · rw [decide_eq_true (show (b : Int) ≥ 9223372036854775808 by omega)] at hb
      rw [if_pos ⟨h1, h2⟩]
      by_cases h3 : b < a
      · rw [if_pos h3]
        refine COk_quiet Tryz.f203 Tryz.func203 (by kernel_rfl) rfl ?_
        (conv => whnf); repeat ((first | refine ⟨_, _, bits_ok _ _, ?_⟩ | refine br_no n0 ?_ | refine ⟨_, _, ha _, ?_⟩ | refine ⟨_, _, hb _, ?_⟩ | refine br_d (by omega) ?_); conv => whnf)
        exact ⟨rfl, [], by simp⟩
      · rw [if_neg h3]
        refine COk_quiet Tryz.f203 Tryz.func203 (by kernel_rfl) rfl ?_
        (conv => whnf); repeat ((first | refine ⟨_, _, bits_ok _ _, ?_⟩ | refine br_no n0 ?_ | refine ⟨_, _, ha _, ?_⟩ | refine ⟨_, _, hb _, ?_⟩ | refine br_nd (by omega) ?_); conv => whnf)
        exact ⟨rfl, [], by simp⟩
    · rw [decide_eq_false (show ¬ (b : Int) ≥ 9223372036854775808 by omega)] at hb
      rw [if_neg (by omega), if_pos h1]
      refine COk_quiet Tryz.f203 Tryz.func203 (by kernel_rfl) rfl ?_
      (conv => whnf); repeat ((first | refine ⟨_, _, bits_ok _ _, ?_⟩ | refine br_no n0 ?_ | refine ⟨_, _, ha _, ?_⟩ | refine ⟨_, _, hb _, ?_⟩); conv => whnf)
      exact ⟨rfl, [], by simp⟩
  · rw [decide_eq_false (show ¬ (a : Int) ≥ 9223372036854775808 by omega)] at ha
    rw [if_neg (by omega), if_neg h1]
    by_cases h2 : 9223372036854775808 ≤ b
    · rw [decide_eq_true (show (b : Int) ≥ 9223372036854775808 by omega)] at hb
      rw [if_pos h2]
      refine COk_quiet Tryz.f203 Tryz.func203 (by kernel_rfl) rfl ?_
      (conv => whnf); repeat ((first | refine ⟨_, _, bits_ok _ _, ?_⟩ | refine br_no n0 ?_ | refine ⟨_, _, ha _, ?_⟩ | refine ⟨_, _, hb _, ?_⟩); conv => whnf)
      exact ⟨rfl, [], by simp⟩
    · rw [decide_eq_false (show ¬ (b : Int) ≥ 9223372036854775808 by omega)] at hb
      rw [if_neg h2]
      by_cases h3 : a < b
      · rw [if_pos h3]
        refine COk_quiet Tryz.f203 Tryz.func203 (by kernel_rfl) rfl ?_
        (conv => whnf); repeat ((first | refine ⟨_, _, bits_ok _ _, ?_⟩ | refine br_no n0 ?_ | refine ⟨_, _, ha _, ?_⟩ | refine ⟨_, _, hb _, ?_⟩ | refine br_d (by omega) ?_); conv => whnf)
        exact ⟨rfl, [], by simp⟩
      · rw [if_neg h3]
        refine COk_quiet Tryz.f203 Tryz.func203 (by kernel_rfl) rfl ?_
        (conv => whnf); repeat ((first | refine ⟨_, _, bits_ok _ _, ?_⟩ | refine br_no n0 ?_ | refine ⟨_, _, ha _, ?_⟩ | refine ⟨_, _, hb _, ?_⟩ | refine br_nd (by omega) ?_); conv => whnf)
        exact ⟨rfl, [], by simp⟩
end Go.Proofs.YtgoljofmbidkfaaGreatDoor
/- The reference's sums of three, vectors, whole numbers as floats. No condition. -/
namespace Go.Proofs.YtgoljofmbidkfaaGreatDoor
open Go Go.Eng Ieee
set_option maxRecDepth 100000
set_option linter.unusedSimpArgs false
set_option linter.unusedVariables false

theorem rquieted_ok {o : Option Nat} (hb : Wd o) (m : List Blk) : COk Tryz.prog 3 193 [.fl o] m (F (quietF o)) m := by
  have hn := rnone_ok hb
  unfold quietF
  cases o with
  | none =>
    have e : fne none none = true := rfl
    rw [e] at hn ⊢
    refine COk_quiet Tryz.f193 Tryz.func193 (by kernel_rfl) rfl ?_
    (conv => whnf); repeat ((first | refine ⟨_, _, hn _, ?_⟩ | refine ⟨_, _, rquiet_ok _, ?_⟩); conv => whnf)
    exact ⟨rfl, [], by simp⟩
  | some b =>
    cases h : fne (some b) (some b)
    · rw [h] at hn
      rw [if_neg (by decide)]
      refine COk_quiet Tryz.f193 Tryz.func193 (by kernel_rfl) rfl ?_
      (conv => whnf); repeat (refine ⟨_, _, hn _, ?_⟩; conv => whnf)
      exact ⟨rfl, [], by simp⟩
    · rw [h] at hn
      rw [if_pos rfl]
      refine COk_quiet Tryz.f193 Tryz.func193 (by kernel_rfl) rfl ?_
      (conv => whnf); repeat ((first | refine ⟨_, _, hn _, ?_⟩ | refine ⟨_, _, rquiet_ok _, ?_⟩); conv => whnf)
      exact ⟨rfl, [], by simp⟩
theorem rahead_ok (a b : Nat) (m : List Blk) : COk Tryz.prog 3 192 [F a, F b] m (Bo (aheadR a b)) m := by
  have ha := rmag_ok a
  have hb := rmag_ok b
  have ho := rorder_ok a b
  unfold aheadR
  generalize a % 9223372036854775808 = p at *
  generalize b % 9223372036854775808 = q at *
  generalize orderR a b = r at *
  by_cases h1 : p < q
  · rw [decide_eq_true (.inl h1)]
    refine COk_quiet Tryz.f192 Tryz.func192 (by kernel_rfl) rfl ?_
    (conv => whnf); repeat ((first | refine ⟨_, _, ha _, ?_⟩ | refine ⟨_, _, hb _, ?_⟩ | refine br_d (by omega) ?_); conv => whnf)
    exact ⟨rfl, [], by simp⟩
  by_cases h2 : p = q
  · have e2 : (((p : Nat) : Int) == (q : Int)) = true := beq_iff_eq.2 (by omega)
    by_cases h3 : r < 0
    · rw [decide_eq_true (.inr ⟨h2, h3⟩)]
      refine COk_quiet Tryz.f192 Tryz.func192 (by kernel_rfl) rfl ?_
      (conv => whnf); repeat ((first | refine ⟨_, _, ha _, ?_⟩ | refine ⟨_, _, hb _, ?_⟩ | refine ⟨_, _, ho _, ?_⟩ | refine br_yes e2 ?_ | refine br_nd (by omega) ?_); conv => whnf)
      exact ⟨congrArg V.bool (by simp; omega), [], by simp⟩
    · rw [decide_eq_false (by omega)]
      refine COk_quiet Tryz.f192 Tryz.func192 (by kernel_rfl) rfl ?_
      (conv => whnf); repeat ((first | refine ⟨_, _, ha _, ?_⟩ | refine ⟨_, _, hb _, ?_⟩ | refine ⟨_, _, ho _, ?_⟩ | refine br_yes e2 ?_ | refine br_nd (by omega) ?_); conv => whnf)
      exact ⟨congrArg V.bool (by simp; omega), [], by simp⟩
  · have e2 : (((p : Nat) : Int) == (q : Int)) = false := beq_eq_false_iff_ne.2 (by omega)
    rw [decide_eq_false (by omega)]
    refine COk_quiet Tryz.f192 Tryz.func192 (by kernel_rfl) rfl ?_
    (conv => whnf); repeat ((first | refine ⟨_, _, ha _, ?_⟩ | refine ⟨_, _, hb _, ?_⟩ | refine br_no e2 ?_ | refine br_nd (by omega) ?_); conv => whnf)
    exact ⟨rfl, [], by simp⟩
theorem rthree_w {a b c : Nat} (ha : a < 18446744073709551616) (hb : b < 18446744073709551616) (hc : c < 18446744073709551616) (m : List Blk) : COk Tryz.prog 3 175 [F a, F b, F c] m (F (threeF a b c)) m := by
  have e : threeF a b c = quietF (fadd (fadd (some (sortR a b c).1) (some (sortR a b c).2.1)) (some (sortR a b c).2.2)) := by
    unfold threeF
    rw [sortR_is ha hb hc]; rfl
  rw [e]
  unfold sortR
  have k1 := rahead_ok b a
  cases h1 : aheadR b a
  · rw [h1] at k1
    have k2 := rahead_ok c b
    cases h2 : aheadR c b
    · rw [h2] at k2
      have k3 := k1
      have hq := rquieted_ok (fadd_lt (fadd (some a) (some b)) (some c))
      simp only [h1, h2, Bool.false_eq_true, if_false]
      refine COk_quiet Tryz.f175 Tryz.func175 (by kernel_rfl) rfl ?_
      (conv => whnf); repeat ((first | refine ⟨_, _, k1 _, ?_⟩ | refine ⟨_, _, k2 _, ?_⟩ | refine ⟨_, _, hq _, ?_⟩); conv => whnf)
      exact ⟨rfl, [], by simp⟩
    · rw [h2] at k2
      have k3 := rahead_ok c a
      cases h3 : aheadR c a
      · rw [h3] at k3
        have hq := rquieted_ok (fadd_lt (fadd (some a) (some c)) (some b))
        simp only [h1, h2, h3, Bool.false_eq_true, if_false, if_true]
        refine COk_quiet Tryz.f175 Tryz.func175 (by kernel_rfl) rfl ?_
        (conv => whnf); repeat ((first | refine ⟨_, _, k1 _, ?_⟩ | refine ⟨_, _, k2 _, ?_⟩ | refine ⟨_, _, k3 _, ?_⟩ | refine ⟨_, _, hq _, ?_⟩); conv => whnf)
        exact ⟨rfl, [], by simp⟩
      · rw [h3] at k3
        have hq := rquieted_ok (fadd_lt (fadd (some c) (some a)) (some b))
        simp only [h1, h2, h3, Bool.false_eq_true, if_false, if_true]
        refine COk_quiet Tryz.f175 Tryz.func175 (by kernel_rfl) rfl ?_
        (conv => whnf); repeat ((first | refine ⟨_, _, k1 _, ?_⟩ | refine ⟨_, _, k2 _, ?_⟩ | refine ⟨_, _, k3 _, ?_⟩ | refine ⟨_, _, hq _, ?_⟩); conv => whnf)
        exact ⟨rfl, [], by simp⟩
  · rw [h1] at k1
    have k2 := rahead_ok c a
    cases h2 : aheadR c a
    · rw [h2] at k2
      have k3 := rahead_ok a b
      have h3 := ahead_asym h1
      rw [h3] at k3
      have hq := rquieted_ok (fadd_lt (fadd (some b) (some a)) (some c))
      simp only [h1, h2, h3, Bool.false_eq_true, if_false, if_true]
      refine COk_quiet Tryz.f175 Tryz.func175 (by kernel_rfl) rfl ?_
      (conv => whnf); repeat ((first | refine ⟨_, _, k1 _, ?_⟩ | refine ⟨_, _, k2 _, ?_⟩ | refine ⟨_, _, k3 _, ?_⟩ | refine ⟨_, _, hq _, ?_⟩); conv => whnf)
      exact ⟨rfl, [], by simp⟩
    · rw [h2] at k2
      have k3 := rahead_ok c b
      cases h3 : aheadR c b
      · rw [h3] at k3
        have hq := rquieted_ok (fadd_lt (fadd (some b) (some c)) (some a))
        simp only [h1, h2, h3, Bool.false_eq_true, if_false, if_true]
        refine COk_quiet Tryz.f175 Tryz.func175 (by kernel_rfl) rfl ?_
        (conv => whnf); repeat ((first | refine ⟨_, _, k1 _, ?_⟩ | refine ⟨_, _, k2 _, ?_⟩ | refine ⟨_, _, k3 _, ?_⟩ | refine ⟨_, _, hq _, ?_⟩); conv => whnf)
        exact ⟨rfl, [], by simp⟩
      · rw [h3] at k3
        have hq := rquieted_ok (fadd_lt (fadd (some c) (some b)) (some a))
        simp only [h1, h2, h3, Bool.false_eq_true, if_false, if_true]
        refine COk_quiet Tryz.f175 Tryz.func175 (by kernel_rfl) rfl ?_
        (conv => whnf); repeat ((first | refine ⟨_, _, k1 _, ?_⟩ | refine ⟨_, _, k2 _, ?_⟩ | refine ⟨_, _, k3 _, ?_⟩ | refine ⟨_, _, hq _, ?_⟩); conv => whnf)
        exact ⟨rfl, [], by simp⟩
theorem fden_lt {o : Option Nat} (hb : Wd o) {x : Nat} (h : fden o x) : x < 18446744073709551616 := by
  cases o with
  | none => have := h.1; omega
  | some b => cases h; exact hb _ rfl
theorem rthree_ok {a b c : Option Nat} (ha : Wd a) (hb : Wd b) (hc : Wd c) (m : List Blk) : COk Tryz.prog 3 175 [.fl a, .fl b, .fl c] m (F (threeO a b c)) m := by
  refine COk_bits [] fun x1 h1 => COk_bits [F x1] fun x2 h2 => COk_bits [F x1, F x2] fun x3 h3 => ?_
  rw [← threeO_of h1 h2 h3]
  exact rthree_w (fden_lt ha h1) (fden_lt hb h2) (fden_lt hc h3) m
theorem rmade_ok {a b c : Option Nat} (ha : Wd a) (hb : Wd b) (hc : Wd c) (x : List Blk) : COk Tryz.prog 3 176 [.fl a, .fl b, .fl c] (GG x) (V3f (canonF a) (canonF b) (canonF c)) (GG x) := by
  refine lift ?_ rfl x
  refine COk_quiet Tryz.f176 Tryz.func176 (by kernel_rfl) rfl ?_
  (conv => whnf); repeat ((first | refine ⟨_, _, rcanon_ok ha _, ?_⟩ | refine ⟨_, _, rcanon_ok hb _, ?_⟩ | refine ⟨_, _, rcanon_ok hc _, ?_⟩); conv => whnf)
  exact ⟨rfl, _, rfl⟩
theorem rminus_ok (a b : W) (x : List Blk) : COk Tryz.prog 3 162 [a.v, b.v] (GG x) (minusF a b).v (GG x) := by
  refine lift ?_ rfl x
  have h := rmade_ok (fsub_lt (some a.x) (some b.x)) (fsub_lt (some a.y) (some b.y)) (fsub_lt (some a.z) (some b.z))
  refine COk_quiet Tryz.f162 Tryz.func162 (by kernel_rfl) rfl ?_
  (conv => whnf); repeat (refine ⟨_, _, h _, ?_⟩; conv => whnf)
  exact ⟨rfl, _, rfl⟩
theorem rless_ok (p q r s : Nat) (m : List Blk) : COk Tryz.prog 3 177 [F p, F q, F r, F s] m (.fl (fsub (fmul (some p) (some q)) (fmul (some r) (some s)))) m := by
  refine COk_quiet Tryz.f177 Tryz.func177 (by kernel_rfl) rfl ?_
  (conv => whnf); repeat ((first | refine br_d (by omega) ?_ | refine br_nd (by omega) ?_ | refine br_eq (by omega) ?_ | refine br_neq (by omega) ?_ | refine br_ne (by omega) ?_ | refine br_no (bo_eqn (by omega)) ?_ | refine Or.inl ?_ | refine okS_no (by kernel_rfl) ?_ | refine okS_yes (by kernel_rfl) ?_ | refine And_of (by (conv => whnf); (rw [getB_app0]); (conv => whnf)) ?_ | refine setB_app ?_ | refine setB_app0 ?_ | rw [getB_app] | rw [getB_app0] | refine addB_f13 ?_ | refine addB_f12 ?_ | refine addB_f11 ?_ | refine addB_f10 ?_ | refine addB_f9 ?_ | refine addB_f8 ?_ | refine addB_f7 ?_ | refine addB_f6 ?_ | refine addB_f5 ?_ | refine addB_f4 ?_ | refine addB_f3 ?_ | refine addB_f2 ?_ | refine addB_f1 ?_ | refine addB_f0 ?_); conv => whnf)
  exact ⟨rfl, [], by simp⟩
theorem rcross_ok (a b : W) (x : List Blk) : COk Tryz.prog 3 161 [a.v, b.v] (GG x) (crossF a b).v (GG x) := by
  refine lift ?_ rfl x
  have h := rmade_ok (fsub_lt (fmul (some a.y) (some b.z)) (fmul (some a.z) (some b.y))) (fsub_lt (fmul (some a.z) (some b.x)) (fmul (some a.x) (some b.z))) (fsub_lt (fmul (some a.x) (some b.y)) (fmul (some a.y) (some b.x)))
  refine COk_quiet Tryz.f161 Tryz.func161 (by kernel_rfl) rfl ?_
  (conv => whnf); repeat ((first | refine ⟨_, rless_ok _ _ _ _ _, ?_⟩ | refine ⟨_, h _, ?_⟩); conv => whnf)
  exact ⟨rfl, _, rfl⟩
theorem fsqrt_lt (o : Option Nat) : Wd (fsqrt o) := by
  cases o with
  | none => exact fun b h => nomatch h
  | some a => rw [fsqrt_is]; exact map_lt
theorem rsqrt_ok (o : Option Nat) (m : List Blk) : COk Tryz.prog 3 174 [.fl o] m (.fl (fsqrt o)) m := by
  refine COk_quiet Tryz.f174 Tryz.func174 (by kernel_rfl) rfl ?_
  (conv => whnf); repeat (refine ⟨_, _, sqrt_ok _ _, ?_⟩; conv => whnf)
  exact ⟨rfl, [], by simp⟩
theorem rlength_ok (a : W) (x : List Blk) : COk Tryz.prog 3 160 [a.v] (GG x) (F (lenF a)) (GG x) := by
  refine lift ?_ rfl x
  have h := rthree_ok (fmul_lt' (some a.x) (some a.x)) (fmul_lt' (some a.y) (some a.y)) (fmul_lt' (some a.z) (some a.z))
  have h2 := rsqrt_ok (some (threeO (fmul (some a.x) (some a.x)) (fmul (some a.y) (some a.y)) (fmul (some a.z) (some a.z))))
  have h3 := rcanon_ok (fsqrt_lt (some (threeO (fmul (some a.x) (some a.x)) (fmul (some a.y) (some a.y)) (fmul (some a.z) (some a.z)))))
  refine COk_quiet Tryz.f160 Tryz.func160 (by kernel_rfl) rfl ?_
  (conv => whnf); repeat ((first | refine ⟨_, _, h _, ?_⟩ | refine ⟨_, _, h2 _, ?_⟩ | refine ⟨_, _, h3 _, ?_⟩); conv => whnf)
  exact ⟨rfl, _, rfl⟩
theorem canon_0 : canonF (some 0) = 0 := canon_pos (Nat.zero_le _)
theorem runit_ok (a : W) (x : List Blk) : COk Tryz.prog 3 190 [a.v] (GG x) (unitF a).v (GG x) := by
  refine lift ?_ rfl x
  have hi := infR_eq
  have hl := rlength_ok a
  have hc := rclass_w (lenF a)
  have hz := rmade_ok (a := some 0) (b := some 0) (c := some 0) (wdF (by decide)) (wdF (by decide)) (wdF (by decide))
  rw [canon_0] at hz
  have hd := rmade_ok (fdiv_lt (some a.x) (some (lenF a))) (fdiv_lt (some a.y) (some (lenF a))) (fdiv_lt (some a.z) (some (lenF a)))
  unfold unitF
  rw [unit_test a]
  rcases len_word a with h | h
  · rw [h] at hl hc ⊢
    rw [show classR qn = 4 by unfold classR; rw [hi]; decide] at hc
    rw [if_neg (by rw [hi]; decide)]
    refine COk_quiet Tryz.f190 Tryz.func190 (by kernel_rfl) rfl ?_
    (conv => whnf); repeat ((first | refine ⟨_, _, hl _, ?_⟩ | refine ⟨_, _, hc _, ?_⟩ | refine ⟨_, _, hz _, ?_⟩); conv => whnf)
    exact ⟨rfl, _, rfl⟩
  · generalize lenF a = l at *
    have hm : l % 9223372036854775808 = l := by omega
    unfold classR at hc
    rw [hm] at hc
    by_cases h0 : l = 0
    · rw [if_neg (by simp [h0])]
      rw [if_pos h0] at hc
      refine COk_quiet Tryz.f190 Tryz.func190 (by kernel_rfl) rfl ?_
      (conv => whnf); repeat ((first | refine ⟨_, _, hl _, ?_⟩ | refine ⟨_, _, hc _, ?_⟩ | refine ⟨_, _, hz _, ?_⟩); conv => whnf)
      exact ⟨rfl, _, rfl⟩
    rw [if_neg h0] at hc
    by_cases h1 : l = infR
    · rw [if_neg (by simp [h1])]
      rw [if_neg (by omega), if_neg (by omega), if_pos h1] at hc
      refine COk_quiet Tryz.f190 Tryz.func190 (by kernel_rfl) rfl ?_
      (conv => whnf); repeat ((first | refine ⟨_, _, hl _, ?_⟩ | refine ⟨_, _, hc _, ?_⟩ | refine ⟨_, _, hz _, ?_⟩); conv => whnf)
      exact ⟨rfl, _, rfl⟩
    · rw [if_pos (by simp; omega)]
      by_cases h2 : l < 4503599627370496
      · rw [if_pos h2] at hc
        refine COk_quiet Tryz.f190 Tryz.func190 (by kernel_rfl) rfl ?_
        (conv => whnf); repeat ((first | refine ⟨_, _, hl _, ?_⟩ | refine ⟨_, _, hc _, ?_⟩ | refine ⟨_, _, hd _, ?_⟩); conv => whnf)
        exact ⟨rfl, _, rfl⟩
      · rw [if_neg h2, if_pos (by omega)] at hc
        refine COk_quiet Tryz.f190 Tryz.func190 (by kernel_rfl) rfl ?_
        (conv => whnf); repeat ((first | refine ⟨_, _, hl _, ?_⟩ | refine ⟨_, _, hc _, ?_⟩ | refine ⟨_, _, hd _, ?_⟩); conv => whnf)
        exact ⟨rfl, _, rfl⟩
end Go.Proofs.YtgoljofmbidkfaaGreatDoor
