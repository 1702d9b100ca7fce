/- Floats and the numbers that they stand for: unit vectors. No condition. -/
import Derived.Test.YtbfdbpmdibjanaaDoorFd
namespace Go.Proofs.YtbfdbpmdibjanaaDoor
open Go Go.Eng
set_option maxRecDepth 100000
set_option linter.unusedSimpArgs false
set_option linter.unusedVariables false

/-- What the part of a direction may be: nought, or from 2^-20 to 1. -/
def Dir (X : Nat) : Prop := X < infR ∧ (X = 0 ∨ (2 : Rat) ^ (-20 : Int) ≤ vR X) ∧ vR X ≤ 1
theorem two_0 : (2 : Rat) ^ (0 : Int) = 1 := (two_nat 0).trans rfl
theorem two_1 : (2 : Rat) ^ (1 : Int) = 2 := (two_nat 1).trans rfl
theorem Dir.comp {X : Nat} (h : Dir X) : Comp X := by
  have a := two_le (show (-400 : Int) ≤ -20 by decide)
  have b := two_le (show (0 : Int) ≤ 400 by decide)
  rw [two_0] at b
  refine ⟨h.1, h.2.1.imp id fun h => ?_, ?_⟩
  · grind
  · have := h.2.2; grind
/-- The part of a unit vector over a length. -/
def Over (X A L : Nat) : Prop := A < infR ∧ (A = 0 ↔ X = 0) ∧ vR A * vR L ≤ vR X * ((1 + u54) * (1 + u53)) ∧ vR X * ((1 - u54) * (1 - u53)) ≤ vR A * vR L
theorem over_ok {X L : Nat} (s : Bool) (hX : Dir X) (hL : L < infR) (hL0 : L ≠ 0) (l1 : (1 : Rat) ≤ 2 * vR L) (l2 : vR L ≤ 2) : ∃ A, canonF (fdiv (some (cw s X)) (some L)) = cw s A ∧ Over X A L := by
  by_cases h0 : X = 0
  · subst h0
    refine ⟨0, div_0 hL hL0, hX.1, Iff.rfl, ?_, ?_⟩ <;> rw [vR_0] <;> grind
  · have hx := hX.2.1.resolve_left h0
    have hc : cw s X = wd s X := by rw [cw, if_neg h0]
    have hxp := vR_pos hX.1 h0
    obtain ⟨N, h1, h2, h3, h4, h5⟩ := div_near s hX.1 hL h0 hL0 (by
      have a := two_le (show (-1020 : Int) ≤ -21 by decide)
      have e : (2 : Rat) ^ (-20 : Int) = 2 * 2 ^ (-21 : Int) := by
        have h := two_add 1 (-21)
        rw [show (1 : Int) + -21 = -20 by decide, two_1] at h
        exact h
      have b := Rat.mul_le_mul_of_nonneg_left l2 (Rat.le_of_lt (two_pos (-1020)))
      grind) (by
      have a := two_le (show (1 : Int) ≤ 999 by decide)
      rw [two_1] at a
      have b := le_mul (show 0 ≤ vR L by grind) a
      have := hX.2.2
      grind)
    exact ⟨N, by rw [hc]; exact h1, h2, ⟨fun h => absurd h h3, fun h => absurd h h0⟩, h4, h5⟩
theorem top_ge : (2 : Rat) ≤ vR 9218868437227405311 := by
  have e : vR 9218868437227405311 = mg 9007199254740991 971 := by
    unfold vR
    rw [if_neg (by decide)]
    have e1 : 2 ^ 52 + 9218868437227405311 % 2 ^ 52 = 9007199254740991 := by decide
    have e2 : 9218868437227405311 / 2 ^ 52 - 1 = 2045 := by decide
    rw [e1, e2]
    congr 1
  rw [e]
  have a := mg_le (show 1 ≤ 9007199254740991 by decide) 971
  have b := two_le (show (1 : Int) ≤ 971 by decide)
  rw [two_1] at b
  unfold mg at a ⊢
  rw [show ((1 : Nat) : Rat) = 1 from rfl, Rat.one_mul] at a
  exact Rat.le_trans b a
theorem unit_near {X Y Z : Nat} (s t r : Bool) (hX : Dir X) (hY : Dir Y) (hZ : Dir Z) (h1 : 1 ≤ vR X * vR X + vR Y * vR Y + vR Z * vR Z) :
    ∃ L A B C, lenF ⟨cw s X, cw t Y, cw r Z⟩ = L ∧ L < infR ∧ L ≠ 0 ∧ (1 : Rat) ≤ 2 * vR L ∧ vR L ≤ 2 ∧
      vR L * vR L ≤ (vR X * vR X + vR Y * vR Y + vR Z * vR Z) * (1 + u53) ^ 6 ∧ (vR X * vR X + vR Y * vR Y + vR Z * vR Z) * (1 - u53) ^ 6 ≤ vR L * vR L ∧
      unitF ⟨cw s X, cw t Y, cw r Z⟩ = ⟨cw s A, cw t B, cw r C⟩ ∧ Over X A L ∧ Over Y B L ∧ Over Z C L := by
  have u1 := u53_one
  have u2 := u53_pos
  have h0 : X ≠ 0 ∨ Y ≠ 0 ∨ Z ≠ 0 := by
    by_cases hx : X = 0
    · by_cases hy : Y = 0
      · by_cases hz : Z = 0
        · subst hx hy hz
          rw [vR_0] at h1
          grind
        · exact .inr (.inr hz)
      · exact .inr (.inl hy)
    · exact .inl hx
  obtain ⟨L, hL, k1, k2, k3, k4⟩ := len_near s t r hX.comp hY.comp hZ.comp h0
  have sq1 : ∀ {R : Nat}, Dir R → vR R * vR R ≤ 1 := by
    intro R h
    have a := le_mul (vR_nonneg h.1) h.2.2
    have := h.2.2
    grind
  have x1 := sq1 hX
  have y1 := sq1 hY
  have z1 := sq1 hZ
  generalize hQ : vR X * vR X + vR Y * vR Y + vR Z * vR Z = Q at *
  have hp := vR_pos k1 k2
  have b1 : (3 : Rat) * (1 + u53) ^ 6 ≤ 4 := by
    have e : u53 = 1 / 9007199254740992 := by grind
    rw [e]; decide +kernel
  have b2 : (1 : Rat) ≤ 4 * (1 - u53) ^ 6 := by
    have e : u53 = 1 / 9007199254740992 := by grind
    rw [e]; decide +kernel
  have b3 : 0 ≤ (1 + u53) ^ 6 := by
    have e : u53 = 1 / 9007199254740992 := by grind
    rw [e]; decide +kernel
  have b4 : 0 ≤ (1 - u53) ^ 6 := by
    have e : u53 = 1 / 9007199254740992 := by grind
    rw [e]; decide +kernel
  have l2 : vR L ≤ 2 := by
    refine Rat.not_lt.1 fun h => ?_
    have a1 := lt_mul hp h
    have a2 := le_mul b3 (show Q ≤ 3 by grind)
    grind
  have l1 : (1 : Rat) ≤ 2 * vR L := by
    refine Rat.not_lt.1 fun h => ?_
    have a1 := lt_mul hp h
    have a2 := le_mul b4 h1
    grind
  obtain ⟨A, eA, oA⟩ := over_ok s hX k1 k2 l1 l2
  obtain ⟨B, eB, oB⟩ := over_ok t hY k1 k2 l1 l2
  obtain ⟨C, eC, oC⟩ := over_ok r hZ k1 k2 l1 l2
  refine ⟨L, A, B, C, hL, k1, k2, l1, l2, k3, k4, ?_, oA, oB, oC⟩
  unfold unitF
  rw [hL, fgt_0 k1 k2, fgt_false k1 (by decide) (Rat.le_trans l2 top_ge)]
  simp only [Bool.not_false, Bool.and_self, if_true, eA, eB, eC]
end Go.Proofs.YtbfdbpmdibjanaaDoor
