/- Floats and the numbers that they stand for: the parts of a net's directions. No condition. -/
import Derived.Test.YtbfdbpmdibjanaaDoorFe
import Derived.Test.YtbfdbpmdibjanaaDoorL
namespace Go.Proofs.YtbfdbpmdibjanaaDoor
open Go Go.Eng
set_option maxRecDepth 100000
set_option linter.unusedSimpArgs false
set_option linter.unusedVariables false

theorem u53_is : u53 = 1 / 9007199254740992 := by
  have := u53_one
  grind
theorem u54_is : u54 = 1 / 18014398509481984 := by
  have := u54_one
  grind
theorem int_near (k : Int) : FloatKind.f64.nearest k = wd (decide (k < 0)) (f64.nearest false k.natAbs 0) := by
  have h : FloatKind.f64.nearest k = f64.write (.number (decide (k < 0)) k.natAbs 0) := rfl
  rw [h, write_num, nearest_sign]
theorem mg_0 (m : Nat) : mg m 0 = (m : Rat) := by
  unfold mg
  rw [two_0, Rat.mul_one]
theorem whole_near {k : Nat} (h0 : k ≠ 0) (h : k ≤ 64) : Near (f64.nearest false k 0) (k : Rat) := by
  have := near_word k 0 (by
    rw [mg_0]
    have a := two_le (show (-1022 : Int) ≤ 0 by decide)
    have b := two_le (show (6 : Int) ≤ 1000 by decide)
    rw [two_0] at a
    rw [show (2 : Rat) ^ (6 : Int) = 64 from (two_nat 6).trans rfl] at b
    have c : (1 : Rat) ≤ (k : Rat) := by exact_mod_cast Nat.pos_of_ne_zero h0
    have d : (k : Rat) ≤ 64 := by exact_mod_cast h
    exact ⟨Rat.le_trans a c, Rat.le_trans d b⟩)
  rwa [mg_0] at this
theorem self_ratio : ∀ n : Nat, n < 33 → n ≠ 0 → canonF (ratioO n n) = oneB ∧ canonF (ratioO (-(n : Int)) n) = wd true oneB := by decide +kernel
theorem vR_one : vR oneB = 1 := by
  have e : vR oneB = mg (2 ^ 52) (-52) := by
    unfold vR
    rw [if_neg (by decide)]
    have e1 : 2 ^ 52 + oneB % 2 ^ 52 = 2 ^ 52 := by decide
    have e2 : oneB / 2 ^ 52 - 1 = 1022 := by decide
    rw [e1, e2]
    congr 1
  rw [e]
  unfold mg
  rw [← two_nat, ← two_add, show ((52 : Nat) : Int) + -52 = 0 by decide, two_0]
/-- A part of a direction, as a float over the side. -/
theorem ratio_dir (n : Nat) (k : Int) (hn : 1 ≤ n) (hn' : n ≤ 32) (hk : k.natAbs ≤ n) : ∃ X, canonF (ratioO k n) = cw (decide (k < 0)) X ∧ Dir X ∧ (X = 0 ↔ k = 0) ∧ (k.natAbs = n → X = oneB) ∧
    vR X * n ≤ k.natAbs * (1 + 8 * u53) ∧ k.natAbs * (1 - 8 * u53) ≤ vR X * n := by
  have u1 := u53_is
  have u2 := u53_pos
  have hnn : (1 : Rat) ≤ (n : Rat) := by exact_mod_cast hn
  have hnn' : (n : Rat) ≤ 32 := by exact_mod_cast hn'
  obtain ⟨N1, N2, N3, N4⟩ := whole_near (show n ≠ 0 by omega) (show n ≤ 64 by omega)
  have hden : FloatKind.f64.nearest (n : Int) = f64.nearest false n 0 := by
    rw [int_near, decide_eq_false (by omega), Int.natAbs_natCast, wd_false]
  by_cases h0 : k = 0
  · subst h0
    refine ⟨0, ?_, ⟨by decide, .inl rfl, by rw [vR_0]; decide⟩, by simp, fun h => ?_, ?_, ?_⟩
    · have : ratioO 0 n = fdiv (some 0) (some (f64.nearest false n 0)) := by
        unfold ratioO
        rw [hden]; rfl
      rw [this, div_0 N1 N2]; rfl
    · simp at h; omega
    · rw [vR_0, Int.natAbs_zero, show ((0 : Nat) : Rat) = 0 from rfl]; grind
    · rw [vR_0, Int.natAbs_zero, show ((0 : Nat) : Rat) = 0 from rfl]; grind
  · by_cases h1 : k.natAbs = n
    · have hs := self_ratio n (by omega) (by omega)
      refine ⟨oneB, ?_, ⟨by decide, .inr ?_, by rw [vR_one]; exact Rat.le_refl⟩, ⟨fun h => absurd h (by decide), fun h => absurd h h0⟩, fun _ => rfl, ?_, ?_⟩
      · rcases Int.lt_or_le k 0 with h2 | h2
        · obtain rfl : k = -(n : Int) := by omega
          rw [hs.2, decide_eq_true h2, cw, if_neg (by decide)]
        · obtain rfl : k = (n : Int) := by omega
          rw [hs.1, decide_eq_false (by omega), cw, if_neg (by decide), wd_false]
      · rw [vR_one]
        have := two_le (show (-20 : Int) ≤ 0 by decide)
        rwa [two_0] at this
      · rw [vR_one, h1]; have := Rat.mul_nonneg (show (0 : Rat) ≤ n by grind) (Rat.le_of_lt u2); grind
      · rw [vR_one, h1]; have := Rat.mul_nonneg (show (0 : Rat) ≤ n by grind) (Rat.le_of_lt u2); grind
    · obtain ⟨K1, K2, K3, K4⟩ := whole_near (show k.natAbs ≠ 0 by omega) (show k.natAbs ≤ 64 by omega)
      have hnum : FloatKind.f64.nearest k = wd (decide (k < 0)) (f64.nearest false k.natAbs 0) := int_near k
      have hka : (1 : Rat) ≤ (k.natAbs : Rat) := by exact_mod_cast (show 1 ≤ k.natAbs by omega)
      have hkn : (k.natAbs : Rat) + 1 ≤ (n : Rat) := by exact_mod_cast (show k.natAbs + 1 ≤ n by omega)
      generalize f64.nearest false k.natAbs 0 = K at *
      generalize f64.nearest false n 0 = D at *
      generalize (k.natAbs : Rat) = a at *
      generalize (n : Rat) = d at *
      have kb : (1 : Rat) ≤ 2 * vR K ∧ vR K ≤ 64 := by rw [u1] at K3 K4; constructor <;> grind
      have db : (1 : Rat) ≤ 2 * vR D ∧ vR D ≤ 64 := by rw [u1] at N3 N4; constructor <;> grind
      obtain ⟨X, x1, x2, x3, x4, x5⟩ := div_near (decide (k < 0)) K1 N1 K2 N2 (by
        have p := two_le (show (-1020 : Int) ≤ -7 by decide)
        have q : (2 : Rat) ^ (-7 : Int) * 128 = 1 := by
          have h := two_add (-7) 7
          rw [show (-7 : Int) + 7 = 0 by decide, two_0, show (2 : Rat) ^ (7 : Int) = 128 from (two_nat 7).trans rfl] at h
          exact h.symm
        have r := le_mul (show 0 ≤ vR D by grind) p
        have r2 := Rat.mul_le_mul_of_nonneg_left db.2 (Rat.le_of_lt (two_pos (-7)))
        grind) (by
        have p := two_le (show (7 : Int) ≤ 999 by decide)
        rw [show (2 : Rat) ^ (7 : Int) = 128 from (two_nat 7).trans rfl] at p
        have r := le_mul (show 0 ≤ vR D by grind) p
        grind)
      have hratio : ratioO k n = fdiv (some (wd (decide (k < 0)) K)) (some D) := by
        unfold ratioO
        rw [hden, hnum]
      have xp := vR_pos x2 x3
      rw [u1, u54_is] at x4 x5
      rw [u1] at K3 K4 N3 N4 ⊢
      have a1 : vR X * (d * (1 - 1 / 9007199254740992)) ≤ vR X * vR D := Rat.mul_le_mul_of_nonneg_left N4 (Rat.le_of_lt xp)
      have a2 : vR X * vR D ≤ vR X * (d * (1 + 1 / 9007199254740992)) := Rat.mul_le_mul_of_nonneg_left N3 (Rat.le_of_lt xp)
      have g1 : vR X * d ≤ a * (1 + 8 * (1 / 9007199254740992)) := by grind
      have g2 : a * (1 - 8 * (1 / 9007199254740992)) ≤ vR X * d := by grind
      refine ⟨X, by rw [hratio]; exact x1, ⟨x2, .inr ?_, ?_⟩, ⟨fun h => absurd h x3, fun h => absurd h h0⟩, fun h => absurd h h1, g1, g2⟩
      · have q : (2 : Rat) ^ (-20 : Int) ≤ 1 / 64 := by
          have p := two_le (show (-20 : Int) ≤ -6 by decide)
          have h := two_add (-6) 6
          rw [show (-6 : Int) + 6 = 0 by decide, two_0, show (2 : Rat) ^ (6 : Int) = 64 from (two_nat 6).trans rfl] at h
          grind
        have a3 := Rat.mul_le_mul_of_nonneg_left hnn' (Rat.le_of_lt xp)
        grind
      · refine Rat.not_lt.1 fun h => ?_
        have a3 := lt_mul (show 0 < d by grind) h
        grind
end Go.Proofs.YtbfdbpmdibjanaaDoor
