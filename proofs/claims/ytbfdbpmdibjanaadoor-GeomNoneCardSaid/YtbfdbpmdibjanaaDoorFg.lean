/- The points of a net, by their directions in whole numbers. No condition. -/
import Derived.Test.YtbfdbpmdibjanaaDoorFf
namespace Go.Proofs.YtbfdbpmdibjanaaDoor
open Go Go.Eng
set_option maxRecDepth 100000
set_option linter.unusedSimpArgs false
set_option linter.unusedVariables false

/-- The part m over n, as a rung; with a sign. -/
def qX (n m : Nat) : Nat := canonF (ratioO m n)
def qS (n : Nat) (k : Int) : Nat := cw (decide (k < 0)) (qX n k.natAbs)
theorem qX_dir {n m : Nat} (hn : 1 ≤ n) (hn' : n ≤ 32) (hm : m ≤ n) : Dir (qX n m) ∧ (qX n m = 0 ↔ m = 0) ∧ (m = n → qX n m = oneB) ∧ vR (qX n m) * n ≤ m * (1 + 8 * u53) ∧ m * (1 - 8 * u53) ≤ vR (qX n m) * n := by
  obtain ⟨X, h1, h2, h3, h4, h5, h6⟩ := ratio_dir n m hn hn' (by simpa using hm)
  have e : qX n m = X := by
    unfold qX
    rw [h1, decide_eq_false (by omega)]
    unfold cw
    split
    · omega
    · rw [wd_false]
  rw [Int.natAbs_natCast] at h4 h5 h6
  rw [e]
  exact ⟨h2, by rw [h3]; omega, h4, h5, h6⟩
theorem ratio_word {n : Nat} (k : Int) (hn : 1 ≤ n) (hn' : n ≤ 32) (hk : k.natAbs ≤ n) : ∃ s, ratioO k n = some (wd s (qX n k.natAbs)) ∧ (k ≠ 0 → s = decide (k < 0)) := by
  have hi := infR_eq
  have hden : FloatKind.f64.nearest (n : Int) = f64.nearest false n 0 := by
    rw [int_near, decide_eq_false (by omega), Int.natAbs_natCast, wd_false]
  obtain ⟨d1, d2, d3, _⟩ := qX_dir hn hn' hk
  obtain ⟨N1, N2, _⟩ := whole_near (show n ≠ 0 by omega) (show n ≤ 64 by omega)
  by_cases h0 : k = 0
  · subst h0
    have e0 : qX n 0 = 0 := d2.2 rfl
    have h := ratio_dir n 0 hn hn' (by simp)
    refine ⟨false, ?_, fun h => absurd rfl h⟩
    rw [Int.natAbs_zero, e0, wd_false]
    have e1 : ratioO 0 n = fdiv (some 0) (some (f64.nearest false n 0)) := by
      unfold ratioO
      rw [hden]; rfl
    obtain ⟨m, j, g1, _, g3⟩ := dat_num N1 false
    rw [e1, fdiv_is, dig54, show f64.read 0 = .number false 0 f64.leastPlace from rfl]
    have := read_wd false (show f64.nearest false n 0 < 2 ^ 63 by omega)
    rw [wd_false] at this
    rw [this, g1]
    simp only [Ieee.Datum.quotient, if_neg (g3 N2), Nat.zero_shiftLeft, Nat.zero_div, Nat.zero_mod]
    rfl
  · -- the quotient of the magnitudes
    have hq : ∀ s, (f64.read (wd s (f64.nearest false k.natAbs 0))).quotient (f64.fractionBits + 2) (f64.read (f64.nearest false n 0)) = if s = true then ((f64.read (wd false (f64.nearest false k.natAbs 0))).quotient (f64.fractionBits + 2) (f64.read (f64.nearest false n 0))).map (·.opposite) else (f64.read (wd false (f64.nearest false k.natAbs 0))).quotient (f64.fractionBits + 2) (f64.read (f64.nearest false n 0)) := by
      obtain ⟨K1, K2, _⟩ := whole_near (show k.natAbs ≠ 0 by omega) (show k.natAbs ≤ 64 by omega)
      intro s
      cases s
      · rfl
      · rw [if_pos rfl, read_wd _ (by omega), read_wd _ (by omega), ← quotient_opp, dat_opp]; rfl
    have hr : ∀ s, fdiv (some (wd s (f64.nearest false k.natAbs 0))) (some (f64.nearest false n 0)) = ((f64.read (wd s (f64.nearest false k.natAbs 0))).quotient (f64.fractionBits + 2) (f64.read (f64.nearest false n 0))).map f64.write := fun s => fdiv_is _ _
    have hpos : ratioO (k.natAbs : Int) n = fdiv (some (wd false (f64.nearest false k.natAbs 0))) (some (f64.nearest false n 0)) := by
      unfold ratioO
      rw [hden, int_near, decide_eq_false (by omega), Int.natAbs_natCast]
    have hsgn : ratioO k n = fdiv (some (wd (decide (k < 0)) (f64.nearest false k.natAbs 0))) (some (f64.nearest false n 0)) := by
      unfold ratioO
      rw [hden, int_near k]
    have hX : canonF (ratioO (k.natAbs : Int) n) = qX n k.natAbs := rfl
    cases hd : (f64.read (wd false (f64.nearest false k.natAbs 0))).quotient (f64.fractionBits + 2) (f64.read (f64.nearest false n 0)) with
    | none =>
      exfalso
      rw [hpos, hr, hd] at hX
      have : canonF (Option.map f64.write none) = qn := rfl
      rw [this] at hX
      have h1 := d1.1
      rw [← hX] at h1
      exact absurd h1 (by decide)
    | some d =>
      obtain ⟨s, R, r1, r2, r3⟩ := write_opp d (nan_quotient hd)
      rw [hpos, hr, hd, Option.map_some, r2, canon_wd s r1] at hX
      have h0' : qX n k.natAbs ≠ 0 := fun h => h0 (by have := d2.1 h; omega)
      have hR : R ≠ 0 := by
        intro h
        rw [cw, if_pos h] at hX
        exact h0' hX.symm
      have h1 := d1.1
      rw [cw, if_neg hR] at hX
      have hs : s = false := by
        cases s
        · rfl
        · rw [wd_true] at hX; omega
      subst hs
      rw [wd_false] at hX
      refine ⟨decide (k < 0), ?_, fun _ => rfl⟩
      rw [hsgn, hr, hq, hd]
      rcases Int.lt_or_le k 0 with h2 | h2
      · rw [decide_eq_true h2, if_pos rfl, Option.map_some, Option.map_some, r3, hX]; rfl
      · rw [decide_eq_false (by omega), if_neg (by decide), Option.map_some, r2, hX]
theorem canon_ratio {n : Nat} (k : Int) (hn : 1 ≤ n) (hn' : n ≤ 32) (hk : k.natAbs ≤ n) : canonF (ratioO k n) = qS n k ∧ canonF (fneg (ratioO k n)) = qS n (-k) := by
  have hi := infR_eq
  obtain ⟨s, h1, h2⟩ := ratio_word k hn hn' hk
  obtain ⟨d1, d2, _⟩ := qX_dir hn hn' hk
  have hlt := d1.1
  rw [h1, canon_wd s (Nat.le_of_lt hlt)]
  have e : canonF (fneg (some (wd s (qX n k.natAbs)))) = cw (!s) (qX n k.natAbs) := by
    show canonF (some (Op.negFloat .f64 (wd s (qX n k.natAbs)))) = _
    rw [neg_wd s (by omega), canon_wd _ (Nat.le_of_lt hlt)]
  rw [e]
  unfold qS
  rw [Int.natAbs_neg]
  by_cases h0 : k = 0
  · have e0 : qX n k.natAbs = 0 := d2.2 (by omega)
    rw [e0]
    exact ⟨rfl, rfl⟩
  · rw [h2 h0]
    refine ⟨rfl, ?_⟩
    congr 1
    rcases Int.lt_or_le k 0 with h | h
    · rw [decide_eq_true h, decide_eq_false (by omega)]; rfl
    · rw [decide_eq_false (by omega), decide_eq_true (by omega)]; rfl
theorem canon_one {n : Nat} (hn : 1 ≤ n) (hn' : n ≤ 32) : canonF (some oneB) = qS n n ∧ canonF (fneg (some oneB)) = qS n (-n) := by
  obtain ⟨_, _, d3, _⟩ := qX_dir hn hn' (Nat.le_refl n)
  have e := d3 rfl
  unfold qS
  rw [Int.natAbs_neg, Int.natAbs_natCast, e, decide_eq_false (by omega), decide_eq_true (by omega)]
  have h1 : canonF (some (wd false oneB)) = cw false oneB := canon_wd false (by decide)
  rw [wd_false] at h1
  refine ⟨h1, ?_⟩
  show canonF (some (Op.negFloat .f64 (wd false oneB))) = _
  rw [neg_wd false (by decide), canon_wd _ (by decide)]; rfl
/-- A direction in whole numbers. -/
structure DirZ where
  x : Int
  y : Int
  z : Int
def vecW (n : Nat) (d : DirZ) : W := ⟨qS n d.x, qS n d.y, qS n d.z⟩
/-- The direction of a point of a face. -/
def dirF (n : Nat) : Nat → Int → Int → DirZ
  | 0, k, l => ⟨n, k, l⟩
  | 1, k, l => ⟨-k, n, l⟩
  | 2, k, l => ⟨-n, -k, l⟩
  | 3, k, l => ⟨k, -n, l⟩
  | 4, k, l => ⟨-l, k, n⟩
  | _, k, l => ⟨l, k, -n⟩
theorem pointV_dir {n : Nat} (f : Nat) (k l : Int) (hn : 1 ≤ n) (hn' : n ≤ 32) (hk : k.natAbs ≤ n) (hl : l.natAbs ≤ n) : pointV f (ratioO k n) (ratioO l n) = vecW n (dirF n f k l) := by
  obtain ⟨k1, k2⟩ := canon_ratio k hn hn' hk
  obtain ⟨l1, l2⟩ := canon_ratio l hn hn' hl
  obtain ⟨o1, o2⟩ := canon_one hn hn'
  unfold vecW
  match f with
  | 0 => simp only [pointV, dirF, k1, l1, o1]
  | 1 => simp only [pointV, dirF, k2, l1, o1]
  | 2 => simp only [pointV, dirF, k2, l1, o2]
  | 3 => simp only [pointV, dirF, k1, l1, o2]
  | 4 => simp only [pointV, dirF, l2, k1, o1]
  | f + 5 => simp only [pointV, dirF, l1, k1, o2]
/-- A corner, a middle: by its direction. -/
theorem corner_dir {n f i j : Nat} (hn : 1 ≤ n) (hn' : n ≤ 32) (hi : i ≤ n) (hj : j ≤ n) : cornerF n f i j = unitF (vecW n (dirF n f (2 * i - n) (2 * j - n))) := by
  unfold cornerF pointF
  rw [pointV_dir f _ _ hn hn' (by omega) (by omega)]
theorem middle_dir {n f i j : Nat} (hn : 1 ≤ n) (hn' : n ≤ 32) (hi : i < n) (hj : j < n) : middleF n f i j = unitF (vecW n (dirF n f (2 * i + 1 - n) (2 * j + 1 - n))) := by
  unfold middleF pointF
  rw [pointV_dir f _ _ hn hn' (by omega) (by omega)]
end Go.Proofs.YtbfdbpmdibjanaaDoor
