/- Points of a net have the length 1, nearly. No condition. -/
import Derived.Test.YtbfdbpmdibjanaaDoorFm
namespace Go.Proofs.YtbfdbpmdibjanaaDoor
open Go Go.Eng
set_option maxRecDepth 100000
set_option linter.unusedSimpArgs false
set_option linter.unusedVariables false

theorem sq_le {a b : Rat} (h0 : 0 ≤ a) (h : a ≤ b) : a * a ≤ b * b := by
  have h1 := le_mul h0 h
  have h2 := Rat.mul_le_mul_of_nonneg_left h (show 0 ≤ b by grind)
  grind
theorem sq_lt {a b : Rat} (h0 : 0 < a) (h : a < b) : a * a < b * b := by
  have h1 := lt_mul h0 h
  have h2 := Rat.mul_lt_mul_of_pos_left h (show 0 < b by grind)
  grind
theorem Fin22.comp {A : Nat} (h : Fin22 A) : Comp A := by
  have a := two_le (show (-400 : Int) ≤ -22 by decide)
  have b := two_le (show (2 : Int) ≤ 400 by decide)
  rw [show (2 : Rat) ^ (2 : Int) = 4 from (two_nat 2).trans rfl] at b
  refine ⟨h.1, ?_, ?_⟩
  · rcases h.2.1 with h0 | h0
    · exact .inl h0
    · exact .inr (Rat.le_trans a h0)
  · have := h.2.2
    grind
/-- Plain numbers: two roundings of a length. -/
theorem len_one {x y z a b c L N p q f g : Rat} (hx : 0 ≤ x) (hy : 0 ≤ y) (hz : 0 ≤ z) (ha : 0 ≤ a * L) (hb : 0 ≤ b * L) (hc : 0 ≤ c * L) (hQ : 1 ≤ x * x + y * y + z * z) (hp : 0 ≤ p) (hq : 0 ≤ q) (hf : 0 ≤ f) (hg : 0 ≤ g)
    (a1 : a * L ≤ x * p) (a2 : x * q ≤ a * L) (b1 : b * L ≤ y * p) (b2 : y * q ≤ b * L) (c1 : c * L ≤ z * p) (c2 : z * q ≤ c * L)
    (l1 : L * L ≤ (x * x + y * y + z * z) * f) (l2 : (x * x + y * y + z * z) * g ≤ L * L) (n1 : N * N ≤ (a * a + b * b + c * c) * f) (n2 : (a * a + b * b + c * c) * g ≤ N * N) :
    N * N * g ≤ p * p * f ∧ q * q * g ≤ N * N * f := by
  have sa1 := sq_le ha a1
  have sb1 := sq_le hb b1
  have sc1 := sq_le hc c1
  have sa2 := sq_le (Rat.mul_nonneg hx hq) a2
  have sb2 := sq_le (Rat.mul_nonneg hy hq) b2
  have sc2 := sq_le (Rat.mul_nonneg hz hq) c2
  have eL : a * L * (a * L) + b * L * (b * L) + c * L * (c * L) = (a * a + b * b + c * c) * (L * L) := by grind
  have eP : x * p * (x * p) + y * p * (y * p) + z * p * (z * p) = (x * x + y * y + z * z) * (p * p) := by grind
  have eQ : x * q * (x * q) + y * q * (y * q) + z * q * (z * q) = (x * x + y * y + z * z) * (q * q) := by grind
  have s1 : (a * a + b * b + c * c) * (L * L) ≤ (x * x + y * y + z * z) * (p * p) := by rw [← eL, ← eP]; grind
  have s2 : (x * x + y * y + z * z) * (q * q) ≤ (a * a + b * b + c * c) * (L * L) := by rw [← eL, ← eQ]; grind
  generalize x * x + y * y + z * z = Q at *
  generalize a * a + b * b + c * c = S at *
  generalize L * L = LL at *
  clear sa1 sb1 sc1 sa2 sb2 sc2 eL eP eQ a1 a2 b1 b2 c1 c2 ha hb hc
  have hN : 0 ≤ N * N := by
    rcases (Rat.le_total : (0 : Rat) ≤ N ∨ N ≤ 0) with h | h
    · exact Rat.mul_nonneg h h
    · have := Rat.mul_nonneg (show 0 ≤ -N by grind) (show 0 ≤ -N by grind)
      grind
  generalize N * N = NN at *
  have hL : 0 ≤ LL := Rat.le_trans (Rat.mul_nonneg (show 0 ≤ Q by grind) hg) l2
  constructor
  · have t1 := Rat.mul_le_mul_of_nonneg_left l2 hN
    have t2 := le_mul hL n1
    have t3 := Rat.mul_le_mul_of_nonneg_left s1 hf
    refine le_of_mul (show 0 < Q by grind) ?_
    grind
  · have t1 := Rat.mul_le_mul_of_nonneg_left l1 hN
    have t2 := le_mul hL n2
    have t3 := Rat.mul_le_mul_of_nonneg_left s2 hg
    refine le_of_mul (show 0 < Q by grind) ?_
    grind
/-- How near to 1. -/
def cU : Rat := 61 / 8 * u53
theorem unit_len {n : Nat} {d : DirZ} (hn : 1 ≤ n) (hn' : n ≤ 32) (h : OnCube n d) : ∃ N, lenF (unitF (vecW n d)) = N ∧ N < infR ∧ N ≠ 0 ∧ vR N ≤ 1 + cU ∧ 1 - cU ≤ vR N := by
  obtain ⟨h1, h2, h3, h4⟩ := h
  have X := qX_dir hn hn' h1
  have Y := qX_dir hn hn' h2
  have Z := qX_dir hn hn' h3
  have x0 := vR_nonneg X.1.1
  have y0 := vR_nonneg Y.1.1
  have z0 := vR_nonneg Z.1.1
  have x2 := Rat.mul_nonneg x0 x0
  have y2 := Rat.mul_nonneg y0 y0
  have z2 := Rat.mul_nonneg z0 z0
  have hS : 1 ≤ vR (qX n d.x.natAbs) * vR (qX n d.x.natAbs) + vR (qX n d.y.natAbs) * vR (qX n d.y.natAbs) + vR (qX n d.z.natAbs) * vR (qX n d.z.natAbs) := by
    rcases h4 with h | h | h
    · rw [X.2.2.1 h, vR_one]; grind
    · rw [Y.2.2.1 h, vR_one]; grind
    · rw [Z.2.2.1 h, vR_one]; grind
  have h1B : oneB ≠ 0 := by decide
  obtain ⟨L, A, B, C, _, l0, lz, l1, l2, m1, m2, hU, oA, oB, oC⟩ := unit_near (decide (d.x < 0)) (decide (d.y < 0)) (decide (d.z < 0)) X.1 Y.1 Z.1 hS
  have fA := (coord hn hn' h1 l1 l2 oA).1
  have fB := (coord hn hn' h2 l1 l2 oB).1
  have fC := (coord hn hn' h3 l1 l2 oC).1
  have h0 : A ≠ 0 ∨ B ≠ 0 ∨ C ≠ 0 := by
    rcases h4 with h | h | h
    · exact .inl fun e => h1B (by rw [← X.2.2.1 h]; exact oA.2.1.1 e)
    · exact .inr (.inl fun e => h1B (by rw [← Y.2.2.1 h]; exact oB.2.1.1 e))
    · exact .inr (.inr fun e => h1B (by rw [← Z.2.2.1 h]; exact oC.2.1.1 e))
  obtain ⟨N, hN, n0, nz, n1, n2⟩ := len_near (decide (d.x < 0)) (decide (d.y < 0)) (decide (d.z < 0)) fA.comp fB.comp fC.comp h0
  refine ⟨N, ?_, n0, nz, ?_⟩
  · show lenF (unitF ⟨qS n d.x, qS n d.y, qS n d.z⟩) = N
    rw [show (⟨qS n d.x, qS n d.y, qS n d.z⟩ : W) = ⟨cw (decide (d.x < 0)) (qX n d.x.natAbs), cw (decide (d.y < 0)) (qX n d.y.natAbs), cw (decide (d.z < 0)) (qX n d.z.natAbs)⟩ from rfl, hU, hN]
  have hp := vR_pos n0 nz
  have hL := vR_nonneg l0
  have e3 := u53_is
  have e4 := u54_is
  obtain ⟨_, _, a1, a2⟩ := oA
  obtain ⟨_, _, b1, b2⟩ := oB
  obtain ⟨_, _, c1, c2⟩ := oC
  have p0 : 0 ≤ (1 + u54) * (1 + u53) := by rw [e3, e4]; decide +kernel
  have q0 : 0 ≤ (1 - u54) * (1 - u53) := by rw [e3, e4]; decide +kernel
  have f0 : 0 ≤ (1 + u53) ^ 6 := by rw [e3]; decide +kernel
  have g0 : 0 < (1 - u53) ^ 6 := by rw [e3]; decide +kernel
  obtain ⟨k1, k2⟩ := len_one x0 y0 z0 (Rat.mul_nonneg (vR_nonneg fA.1) hL) (Rat.mul_nonneg (vR_nonneg fB.1) hL) (Rat.mul_nonneg (vR_nonneg fC.1) hL) hS p0 q0 f0 (Rat.le_of_lt g0) a1 a2 b1 b2 c1 c2 m1 m2 n1 n2
  have i1 : (1 + u54) * (1 + u53) * ((1 + u54) * (1 + u53)) * (1 + u53) ^ 6 < (1 + cU) * (1 + cU) * (1 - u53) ^ 6 := by
    rw [show cU = 61 / 8 * u53 from rfl, e3, e4]; decide +kernel
  have i2 : (1 - cU) * (1 - cU) * (1 + u53) ^ 6 < (1 - u54) * (1 - u53) * ((1 - u54) * (1 - u53)) * (1 - u53) ^ 6 := by
    rw [show cU = 61 / 8 * u53 from rfl, e3, e4]; decide +kernel
  have c0 : 0 < 1 + cU := by rw [show cU = 61 / 8 * u53 from rfl, e3]; decide +kernel
  have f1 : 0 < (1 + u53) ^ 6 := by rw [e3]; decide +kernel
  constructor
  · refine Rat.not_lt.1 fun hlt => ?_
    have s1 := sq_lt c0 hlt
    have s2 := lt_mul g0 s1
    exact Rat.not_lt.2 k1 (Std.lt_trans i1 s2)
  · refine Rat.not_lt.1 fun hlt => ?_
    have s1 := sq_lt hp hlt
    have s2 := lt_mul f1 s1
    exact Rat.not_lt.2 k2 (Std.lt_trans s2 i2)
end Go.Proofs.YtbfdbpmdibjanaaDoor
