/- Floats and the numbers that they stand for: unit vectors. No condition. -/
import Derived.Test.YtbfdbpmdibjanaaDoorFd
import Derived.Test.YtbfdbpmdibjanaaDoorL
namespace Go.Proofs.YtbfdbpmdibjanaaDoor
open Go Go.Eng
set_option maxRecDepth 100000
set_option linter.unusedSimpArgs false
set_option linter.unusedVariables false

/-- What the part of a direction may be: nought, or from 2^-20 to 1. -/
def Dir (X : Nat) : Prop := X < infR ∧ (X = 0 ∨ (2 : Rat) ^ (-20 : Int) ≤ vR X) ∧ vR X ≤ 1
theorem two_0 : (2 : Rat) ^ (0 : Int) = 1 := (two_nat 0).trans rfl
theorem two_1 : (2 : Rat) ^ (1 : Int) = 2 := (two_nat 1).trans rfl
theorem Dir.comp {X : Nat} (h : Dir X) : Comp X := by
  have a := two_le (show (-400 : Int) ≤ -20 by decide)
  have b := two_le (show (0 : Int) ≤ 400 by decide)
  rw [two_0] at b
  refine ⟨h.1, h.2.1.imp id fun h => ?_, ?_⟩
  · grind
  · have := h.2.2; grind
/-- The part of a unit vector over a length. -/
def Over (X A L : Nat) : Prop := A < infR ∧ (A = 0 ↔ X = 0) ∧ vR A * vR L ≤ vR X * ((1 + u54) * (1 + u53)) ∧ vR X * ((1 - u54) * (1 - u53)) ≤ vR A * vR L
theorem over_ok {X L : Nat} (s : Bool) (hX : Dir X) (hL : L < infR) (hL0 : L ≠ 0) (l1 : (1 : Rat) ≤ 2 * vR L) (l2 : vR L ≤ 2) : ∃ A, canonF (fdiv (some (cw s X)) (some L)) = cw s A ∧ Over X A L := by
  by_cases h0 : X = 0
  · subst h0
    refine ⟨0, div_0 hL hL0, hX.1, Iff.rfl, ?_, ?_⟩ <;> rw [vR_0] <;> grind
  · have hx := hX.2.1.resolve_left h0
    have hc : cw s X = wd s X := by rw [cw, if_neg h0]
    have hxp := vR_pos hX.1 h0
    obtain ⟨N, h1, h2, h3, h4, h5⟩ := div_near s hX.1 hL h0 hL0 (by
      have a := two_le (show (-1020 : Int) ≤ -21 by decide)
      have e : (2 : Rat) ^ (-20 : Int) = 2 * 2 ^ (-21 : Int) := by
        have h := two_add 1 (-21)
        rw [show (1 : Int) + -21 = -20 by decide, two_1] at h
        exact h
      have b := Rat.mul_le_mul_of_nonneg_left l2 (Rat.le_of_lt (two_pos (-1020)))
      grind) (by
      have a := two_le (show (1 : Int) ≤ 999 by decide)
      rw [two_1] at a
      have b := le_mul (show 0 ≤ vR L by grind) a
      have := hX.2.2
      grind)
    exact ⟨N, by rw [hc]; exact h1, h2, ⟨fun h => absurd h h3, fun h => absurd h h0⟩, h4, h5⟩
theorem top_ge : (2 : Rat) ≤ vR 9218868437227405311 := by
  have e : vR 9218868437227405311 = mg 9007199254740991 971 := by
    unfold vR
    rw [if_neg (by decide)]
    have e1 : 2 ^ 52 + 9218868437227405311 % 2 ^ 52 = 9007199254740991 := by decide
    have e2 : 9218868437227405311 / 2 ^ 52 - 1 = 2045 := by decide
    rw [e1, e2]
    congr 1
  rw [e]
  have a := mg_le (show 1 ≤ 9007199254740991 by decide) 971
  have b := two_le (show (1 : Int) ≤ 971 by decide)
  rw [two_1] at b
  unfold mg at a ⊢
  rw [show ((1 : Nat) : Rat) = 1 from rfl, Rat.one_mul] at a
  exact Rat.le_trans b a
theorem unit_near {X Y Z : Nat} (s t r : Bool) (hX : Dir X) (hY : Dir Y) (hZ : Dir Z) (h1 : 1 ≤ vR X * vR X + vR Y * vR Y + vR Z * vR Z) :
    ∃ L A B C, lenF ⟨cw s X, cw t Y, cw r Z⟩ = L ∧ L < infR ∧ L ≠ 0 ∧ (1 : Rat) ≤ 2 * vR L ∧ vR L ≤ 2 ∧
      vR L * vR L ≤ (vR X * vR X + vR Y * vR Y + vR Z * vR Z) * (1 + u53) ^ 6 ∧ (vR X * vR X + vR Y * vR Y + vR Z * vR Z) * (1 - u53) ^ 6 ≤ vR L * vR L ∧
      unitF ⟨cw s X, cw t Y, cw r Z⟩ = ⟨cw s A, cw t B, cw r C⟩ ∧ Over X A L ∧ Over Y B L ∧ Over Z C L := by
  have u1 := u53_one
  have u2 := u53_pos
  have h0 : X ≠ 0 ∨ Y ≠ 0 ∨ Z ≠ 0 := by
    by_cases hx : X = 0
    · by_cases hy : Y = 0
      · by_cases hz : Z = 0
        · subst hx hy hz
          rw [vR_0] at h1
          grind
        · exact .inr (.inr hz)
      · exact .inr (.inl hy)
    · exact .inl hx
  obtain ⟨L, hL, k1, k2, k3, k4⟩ := len_near s t r hX.comp hY.comp hZ.comp h0
  have sq1 : ∀ {R : Nat}, Dir R → vR R * vR R ≤ 1 := by
    intro R h
    have a := le_mul (vR_nonneg h.1) h.2.2
    have := h.2.2
    grind
  have x1 := sq1 hX
  have y1 := sq1 hY
  have z1 := sq1 hZ
  generalize hQ : vR X * vR X + vR Y * vR Y + vR Z * vR Z = Q at *
  have hp := vR_pos k1 k2
  have b1 : (3 : Rat) * (1 + u53) ^ 6 ≤ 4 := by
    have e : u53 = 1 / 9007199254740992 := by grind
    rw [e]; decide +kernel
  have b2 : (1 : Rat) ≤ 4 * (1 - u53) ^ 6 := by
    have e : u53 = 1 / 9007199254740992 := by grind
    rw [e]; decide +kernel
  have b3 : 0 ≤ (1 + u53) ^ 6 := by
    have e : u53 = 1 / 9007199254740992 := by grind
    rw [e]; decide +kernel
  have b4 : 0 ≤ (1 - u53) ^ 6 := by
    have e : u53 = 1 / 9007199254740992 := by grind
    rw [e]; decide +kernel
  have l2 : vR L ≤ 2 := by
    refine Rat.not_lt.1 fun h => ?_
    have a1 := lt_mul hp h
    have a2 := le_mul b3 (show Q ≤ 3 by grind)
    grind
  have l1 : (1 : Rat) ≤ 2 * vR L := by
    refine Rat.not_lt.1 fun h => ?_
    have a1 := lt_mul hp h
    have a2 := le_mul b4 h1
    grind
  obtain ⟨A, eA, oA⟩ := over_ok s hX k1 k2 l1 l2
  obtain ⟨B, eB, oB⟩ := over_ok t hY k1 k2 l1 l2
  obtain ⟨C, eC, oC⟩ := over_ok r hZ k1 k2 l1 l2
  refine ⟨L, A, B, C, hL, k1, k2, l1, l2, k3, k4, ?_, oA, oB, oC⟩
  unfold unitF
  rw [hL, fgt_0 k1 k2, fgt_false k1 (by decide) (Rat.le_trans l2 top_ge)]
  simp only [Bool.not_false, Bool.and_self, if_true, eA, eB, eC]

theorem u53_is : u53 = 1 / 9007199254740992 := by
  have := u53_one
  grind
theorem u54_is : u54 = 1 / 18014398509481984 := by
  have := u54_one
  grind
theorem int_near (k : Int) : FloatKind.f64.nearest k = wd (decide (k < 0)) (f64.nearest false k.natAbs 0) := by
  have h : FloatKind.f64.nearest k = f64.write (.number (decide (k < 0)) k.natAbs 0) := rfl
  rw [h, write_num, nearest_sign]
theorem mg_0 (m : Nat) : mg m 0 = (m : Rat) := by
  unfold mg
  rw [two_0, Rat.mul_one]
theorem whole_near {k : Nat} (h0 : k ≠ 0) (h : k ≤ 64) : Near (f64.nearest false k 0) (k : Rat) := by
  have := near_word k 0 (by
    rw [mg_0]
    have a := two_le (show (-1022 : Int) ≤ 0 by decide)
    have b := two_le (show (6 : Int) ≤ 1000 by decide)
    rw [two_0] at a
    rw [show (2 : Rat) ^ (6 : Int) = 64 from (two_nat 6).trans rfl] at b
    have c : (1 : Rat) ≤ (k : Rat) := by exact_mod_cast Nat.pos_of_ne_zero h0
    have d : (k : Rat) ≤ 64 := by exact_mod_cast h
    exact ⟨Rat.le_trans a c, Rat.le_trans d b⟩)
  rwa [mg_0] at this
theorem self_ratio : ∀ n : Nat, n < 33 → n ≠ 0 → canonF (ratioO n n) = oneB ∧ canonF (ratioO (-(n : Int)) n) = wd true oneB := by decide +kernel
theorem vR_one : vR oneB = 1 := by
  have e : vR oneB = mg (2 ^ 52) (-52) := by
    unfold vR
    rw [if_neg (by decide)]
    have e1 : 2 ^ 52 + oneB % 2 ^ 52 = 2 ^ 52 := by decide
    have e2 : oneB / 2 ^ 52 - 1 = 1022 := by decide
    rw [e1, e2]
    congr 1
  rw [e]
  unfold mg
  rw [← two_nat, ← two_add, show ((52 : Nat) : Int) + -52 = 0 by decide, two_0]
/-- A part of a direction, as a float over the side. -/
theorem ratio_dir (n : Nat) (k : Int) (hn : 1 ≤ n) (hn' : n ≤ 32) (hk : k.natAbs ≤ n) : ∃ X, canonF (ratioO k n) = cw (decide (k < 0)) X ∧ Dir X ∧ (X = 0 ↔ k = 0) ∧ (k.natAbs = n → X = oneB) ∧
    vR X * n ≤ k.natAbs * (1 + 8 * u53) ∧ k.natAbs * (1 - 8 * u53) ≤ vR X * n := by
  have u1 := u53_is
  have u2 := u53_pos
  have hnn : (1 : Rat) ≤ (n : Rat) := by exact_mod_cast hn
  have hnn' : (n : Rat) ≤ 32 := by exact_mod_cast hn'
  obtain ⟨N1, N2, N3, N4⟩ := whole_near (show n ≠ 0 by omega) (show n ≤ 64 by omega)
  have hden : FloatKind.f64.nearest (n : Int) = f64.nearest false n 0 := by
    rw [int_near, decide_eq_false (by omega), Int.natAbs_natCast, wd_false]
  by_cases h0 : k = 0
  · subst h0
    refine ⟨0, ?_, ⟨by decide, .inl rfl, by rw [vR_0]; decide⟩, by simp, fun h => ?_, ?_, ?_⟩
    · have : ratioO 0 n = fdiv (some 0) (some (f64.nearest false n 0)) := by
        unfold ratioO
        rw [hden]; rfl
      rw [this, div_0 N1 N2]; rfl
    · simp at h; omega
    · rw [vR_0, Int.natAbs_zero, show ((0 : Nat) : Rat) = 0 from rfl]; grind
    · rw [vR_0, Int.natAbs_zero, show ((0 : Nat) : Rat) = 0 from rfl]; grind
  · by_cases h1 : k.natAbs = n
    · have hs := self_ratio n (by omega) (by omega)
      refine ⟨oneB, ?_, ⟨by decide, .inr ?_, by rw [vR_one]; exact Rat.le_refl⟩, ⟨fun h => absurd h (by decide), fun h => absurd h h0⟩, fun _ => rfl, ?_, ?_⟩
      · rcases Int.lt_or_le k 0 with h2 | h2
        · obtain rfl : k = -(n : Int) := by omega
          rw [hs.2, decide_eq_true h2, cw, if_neg (by decide)]
        · obtain rfl : k = (n : Int) := by omega
          rw [hs.1, decide_eq_false (by omega), cw, if_neg (by decide), wd_false]
      · rw [vR_one]
        have := two_le (show (-20 : Int) ≤ 0 by decide)
        rwa [two_0] at this
      · rw [vR_one, h1]; have := Rat.mul_nonneg (show (0 : Rat) ≤ n by grind) (Rat.le_of_lt u2); grind
      · rw [vR_one, h1]; have := Rat.mul_nonneg (show (0 : Rat) ≤ n by grind) (Rat.le_of_lt u2); grind
    · obtain ⟨K1, K2, K3, K4⟩ := whole_near (show k.natAbs ≠ 0 by omega) (show k.natAbs ≤ 64 by omega)
      have hnum : FloatKind.f64.nearest k = wd (decide (k < 0)) (f64.nearest false k.natAbs 0) := int_near k
      have hka : (1 : Rat) ≤ (k.natAbs : Rat) := by exact_mod_cast (show 1 ≤ k.natAbs by omega)
      have hkn : (k.natAbs : Rat) + 1 ≤ (n : Rat) := by exact_mod_cast (show k.natAbs + 1 ≤ n by omega)
      generalize f64.nearest false k.natAbs 0 = K at *
      generalize f64.nearest false n 0 = D at *
      generalize (k.natAbs : Rat) = a at *
      generalize (n : Rat) = d at *
      have kb : (1 : Rat) ≤ 2 * vR K ∧ vR K ≤ 64 := by rw [u1] at K3 K4; constructor <;> grind
      have db : (1 : Rat) ≤ 2 * vR D ∧ vR D ≤ 64 := by rw [u1] at N3 N4; constructor <;> grind
      obtain ⟨X, x1, x2, x3, x4, x5⟩ := div_near (decide (k < 0)) K1 N1 K2 N2 (by
        have p := two_le (show (-1020 : Int) ≤ -7 by decide)
        have q : (2 : Rat) ^ (-7 : Int) * 128 = 1 := by
          have h := two_add (-7) 7
          rw [show (-7 : Int) + 7 = 0 by decide, two_0, show (2 : Rat) ^ (7 : Int) = 128 from (two_nat 7).trans rfl] at h
          exact h.symm
        have r := le_mul (show 0 ≤ vR D by grind) p
        have r2 := Rat.mul_le_mul_of_nonneg_left db.2 (Rat.le_of_lt (two_pos (-7)))
        grind) (by
        have p := two_le (show (7 : Int) ≤ 999 by decide)
        rw [show (2 : Rat) ^ (7 : Int) = 128 from (two_nat 7).trans rfl] at p
        have r := le_mul (show 0 ≤ vR D by grind) p
        grind)
      have hratio : ratioO k n = fdiv (some (wd (decide (k < 0)) K)) (some D) := by
        unfold ratioO
        rw [hden, hnum]
      have xp := vR_pos x2 x3
      rw [u1, u54_is] at x4 x5
      rw [u1] at K3 K4 N3 N4 ⊢
      have a1 : vR X * (d * (1 - 1 / 9007199254740992)) ≤ vR X * vR D := Rat.mul_le_mul_of_nonneg_left N4 (Rat.le_of_lt xp)
      have a2 : vR X * vR D ≤ vR X * (d * (1 + 1 / 9007199254740992)) := Rat.mul_le_mul_of_nonneg_left N3 (Rat.le_of_lt xp)
      have g1 : vR X * d ≤ a * (1 + 8 * (1 / 9007199254740992)) := by grind
      have g2 : a * (1 - 8 * (1 / 9007199254740992)) ≤ vR X * d := by grind
      refine ⟨X, by rw [hratio]; exact x1, ⟨x2, .inr ?_, ?_⟩, ⟨fun h => absurd h x3, fun h => absurd h h0⟩, fun h => absurd h h1, g1, g2⟩
      · have q : (2 : Rat) ^ (-20 : Int) ≤ 1 / 64 := by
          have p := two_le (show (-20 : Int) ≤ -6 by decide)
          have h := two_add (-6) 6
          rw [show (-6 : Int) + 6 = 0 by decide, two_0, show (2 : Rat) ^ (6 : Int) = 64 from (two_nat 6).trans rfl] at h
          grind
        have a3 := Rat.mul_le_mul_of_nonneg_left hnn' (Rat.le_of_lt xp)
        grind
      · refine Rat.not_lt.1 fun h => ?_
        have a3 := lt_mul (show 0 < d by grind) h
        grind

/-- The part m over n, as a rung; with a sign. -/
def qX (n m : Nat) : Nat := canonF (ratioO m n)
def qS (n : Nat) (k : Int) : Nat := cw (decide (k < 0)) (qX n k.natAbs)
theorem qX_dir {n m : Nat} (hn : 1 ≤ n) (hn' : n ≤ 32) (hm : m ≤ n) : Dir (qX n m) ∧ (qX n m = 0 ↔ m = 0) ∧ (m = n → qX n m = oneB) ∧ vR (qX n m) * n ≤ m * (1 + 8 * u53) ∧ m * (1 - 8 * u53) ≤ vR (qX n m) * n := by
  obtain ⟨X, h1, h2, h3, h4, h5, h6⟩ := ratio_dir n m hn hn' (by simpa using hm)
  have e : qX n m = X := by
    unfold qX
    rw [h1, decide_eq_false (by omega)]
    unfold cw
    split
    · omega
    · rw [wd_false]
  rw [Int.natAbs_natCast] at h4 h5 h6
  rw [e]
  exact ⟨h2, by rw [h3]; omega, h4, h5, h6⟩
theorem ratio_word {n : Nat} (k : Int) (hn : 1 ≤ n) (hn' : n ≤ 32) (hk : k.natAbs ≤ n) : ∃ s, ratioO k n = some (wd s (qX n k.natAbs)) ∧ (k ≠ 0 → s = decide (k < 0)) := by
  have hi := infR_eq
  have hden : FloatKind.f64.nearest (n : Int) = f64.nearest false n 0 := by
    rw [int_near, decide_eq_false (by omega), Int.natAbs_natCast, wd_false]
  obtain ⟨d1, d2, d3, _⟩ := qX_dir hn hn' hk
  obtain ⟨N1, N2, _⟩ := whole_near (show n ≠ 0 by omega) (show n ≤ 64 by omega)
  by_cases h0 : k = 0
  · subst h0
    have e0 : qX n 0 = 0 := d2.2 rfl
    have h := ratio_dir n 0 hn hn' (by simp)
    refine ⟨false, ?_, fun h => absurd rfl h⟩
    rw [Int.natAbs_zero, e0, wd_false]
    have e1 : ratioO 0 n = fdiv (some 0) (some (f64.nearest false n 0)) := by
      unfold ratioO
      rw [hden]; rfl
    obtain ⟨m, j, g1, _, g3⟩ := dat_num N1 false
    rw [e1, fdiv_is, dig54, show f64.read 0 = .number false 0 f64.leastPlace from rfl]
    have := read_wd false (show f64.nearest false n 0 < 2 ^ 63 by omega)
    rw [wd_false] at this
    rw [this, g1]
    simp only [Ieee.Datum.quotient, if_neg (g3 N2), Nat.zero_shiftLeft, Nat.zero_div, Nat.zero_mod]
    rfl
  · -- the quotient of the magnitudes
    have hq : ∀ s, (f64.read (wd s (f64.nearest false k.natAbs 0))).quotient (f64.fractionBits + 2) (f64.read (f64.nearest false n 0)) = if s = true then ((f64.read (wd false (f64.nearest false k.natAbs 0))).quotient (f64.fractionBits + 2) (f64.read (f64.nearest false n 0))).map (·.opposite) else (f64.read (wd false (f64.nearest false k.natAbs 0))).quotient (f64.fractionBits + 2) (f64.read (f64.nearest false n 0)) := by
      obtain ⟨K1, K2, _⟩ := whole_near (show k.natAbs ≠ 0 by omega) (show k.natAbs ≤ 64 by omega)
      intro s
      cases s
      · rfl
      · rw [if_pos rfl, read_wd _ (by omega), read_wd _ (by omega), ← quotient_opp, dat_opp]; rfl
    have hr : ∀ s, fdiv (some (wd s (f64.nearest false k.natAbs 0))) (some (f64.nearest false n 0)) = ((f64.read (wd s (f64.nearest false k.natAbs 0))).quotient (f64.fractionBits + 2) (f64.read (f64.nearest false n 0))).map f64.write := fun s => fdiv_is _ _
    have hpos : ratioO (k.natAbs : Int) n = fdiv (some (wd false (f64.nearest false k.natAbs 0))) (some (f64.nearest false n 0)) := by
      unfold ratioO
      rw [hden, int_near, decide_eq_false (by omega), Int.natAbs_natCast]
    have hsgn : ratioO k n = fdiv (some (wd (decide (k < 0)) (f64.nearest false k.natAbs 0))) (some (f64.nearest false n 0)) := by
      unfold ratioO
      rw [hden, int_near k]
    have hX : canonF (ratioO (k.natAbs : Int) n) = qX n k.natAbs := rfl
    cases hd : (f64.read (wd false (f64.nearest false k.natAbs 0))).quotient (f64.fractionBits + 2) (f64.read (f64.nearest false n 0)) with
    | none =>
      exfalso
      rw [hpos, hr, hd] at hX
      have : canonF (Option.map f64.write none) = qn := rfl
      rw [this] at hX
      have h1 := d1.1
      rw [← hX] at h1
      exact absurd h1 (by decide)
    | some d =>
      obtain ⟨s, R, r1, r2, r3⟩ := write_opp d (nan_quotient hd)
      rw [hpos, hr, hd, Option.map_some, r2, canon_wd s r1] at hX
      have h0' : qX n k.natAbs ≠ 0 := fun h => h0 (by have := d2.1 h; omega)
      have hR : R ≠ 0 := by
        intro h
        rw [cw, if_pos h] at hX
        exact h0' hX.symm
      have h1 := d1.1
      rw [cw, if_neg hR] at hX
      have hs : s = false := by
        cases s
        · rfl
        · rw [wd_true] at hX; omega
      subst hs
      rw [wd_false] at hX
      refine ⟨decide (k < 0), ?_, fun _ => rfl⟩
      rw [hsgn, hr, hq, hd]
      rcases Int.lt_or_le k 0 with h2 | h2
      · rw [decide_eq_true h2, if_pos rfl, Option.map_some, Option.map_some, r3, hX]; rfl
      · rw [decide_eq_false (by omega), if_neg (by decide), Option.map_some, r2, hX]
theorem canon_ratio {n : Nat} (k : Int) (hn : 1 ≤ n) (hn' : n ≤ 32) (hk : k.natAbs ≤ n) : canonF (ratioO k n) = qS n k ∧ canonF (fneg (ratioO k n)) = qS n (-k) := by
  have hi := infR_eq
  obtain ⟨s, h1, h2⟩ := ratio_word k hn hn' hk
  obtain ⟨d1, d2, _⟩ := qX_dir hn hn' hk
  have hlt := d1.1
  rw [h1, canon_wd s (Nat.le_of_lt hlt)]
  have e : canonF (fneg (some (wd s (qX n k.natAbs)))) = cw (!s) (qX n k.natAbs) := by
    show canonF (some (Op.negFloat .f64 (wd s (qX n k.natAbs)))) = _
    rw [neg_wd s (by omega), canon_wd _ (Nat.le_of_lt hlt)]
  rw [e]
  unfold qS
  rw [Int.natAbs_neg]
  by_cases h0 : k = 0
  · have e0 : qX n k.natAbs = 0 := d2.2 (by omega)
    rw [e0]
    exact ⟨rfl, rfl⟩
  · rw [h2 h0]
    refine ⟨rfl, ?_⟩
    congr 1
    rcases Int.lt_or_le k 0 with h | h
    · rw [decide_eq_true h, decide_eq_false (by omega)]; rfl
    · rw [decide_eq_false (by omega), decide_eq_true (by omega)]; rfl
theorem canon_one {n : Nat} (hn : 1 ≤ n) (hn' : n ≤ 32) : canonF (some oneB) = qS n n ∧ canonF (fneg (some oneB)) = qS n (-n) := by
  obtain ⟨_, _, d3, _⟩ := qX_dir hn hn' (Nat.le_refl n)
  have e := d3 rfl
  unfold qS
  rw [Int.natAbs_neg, Int.natAbs_natCast, e, decide_eq_false (by omega), decide_eq_true (by omega)]
  have h1 : canonF (some (wd false oneB)) = cw false oneB := canon_wd false (by decide)
  rw [wd_false] at h1
  refine ⟨h1, ?_⟩
  show canonF (some (Op.negFloat .f64 (wd false oneB))) = _
  rw [neg_wd false (by decide), canon_wd _ (by decide)]; rfl
/-- A direction in whole numbers. -/
structure DirZ where
  x : Int
  y : Int
  z : Int
def vecW (n : Nat) (d : DirZ) : W := ⟨qS n d.x, qS n d.y, qS n d.z⟩
/-- The direction of a point of a face. -/
def dirF (n : Nat) : Nat → Int → Int → DirZ
  | 0, k, l => ⟨n, k, l⟩
  | 1, k, l => ⟨-k, n, l⟩
  | 2, k, l => ⟨-n, -k, l⟩
  | 3, k, l => ⟨k, -n, l⟩
  | 4, k, l => ⟨-l, k, n⟩
  | _, k, l => ⟨l, k, -n⟩
theorem pointV_dir {n : Nat} (f : Nat) (k l : Int) (hn : 1 ≤ n) (hn' : n ≤ 32) (hk : k.natAbs ≤ n) (hl : l.natAbs ≤ n) : pointV f (ratioO k n) (ratioO l n) = vecW n (dirF n f k l) := by
  obtain ⟨k1, k2⟩ := canon_ratio k hn hn' hk
  obtain ⟨l1, l2⟩ := canon_ratio l hn hn' hl
  obtain ⟨o1, o2⟩ := canon_one hn hn'
  unfold vecW
  match f with
  | 0 => simp only [pointV, dirF, k1, l1, o1]
  | 1 => simp only [pointV, dirF, k2, l1, o1]
  | 2 => simp only [pointV, dirF, k2, l1, o2]
  | 3 => simp only [pointV, dirF, k1, l1, o2]
  | 4 => simp only [pointV, dirF, l2, k1, o1]
  | f + 5 => simp only [pointV, dirF, l1, k1, o2]
/-- A corner, a middle: by its direction. -/
theorem corner_dir {n f i j : Nat} (hn : 1 ≤ n) (hn' : n ≤ 32) (hi : i ≤ n) (hj : j ≤ n) : cornerF n f i j = unitF (vecW n (dirF n f (2 * i - n) (2 * j - n))) := by
  unfold cornerF pointF
  rw [pointV_dir f _ _ hn hn' (by omega) (by omega)]
theorem middle_dir {n f i j : Nat} (hn : 1 ≤ n) (hn' : n ≤ 32) (hi : i < n) (hj : j < n) : middleF n f i j = unitF (vecW n (dirF n f (2 * i + 1 - n) (2 * j + 1 - n))) := by
  unfold middleF pointF
  rw [pointV_dir f _ _ hn hn' (by omega) (by omega)]
end Go.Proofs.YtbfdbpmdibjanaaDoor
