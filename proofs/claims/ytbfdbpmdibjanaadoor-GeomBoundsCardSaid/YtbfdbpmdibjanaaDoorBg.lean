/- Points that are no more than a right angle apart: their gap is at most 2. No condition. -/
import Derived.Test.YtbfdbpmdibjanaaDoorBn
namespace Go.Proofs.YtbfdbpmdibjanaaDoor
open Go Go.Eng
set_option maxRecDepth 100000
set_option linter.unusedSimpArgs false
set_option linter.unusedVariables false

theorem mul_bd {a b A B : Rat} (ha : -A ≤ a ∧ a ≤ A) (hb : -B ≤ b ∧ b ≤ B) : -(A * B) ≤ a * b ∧ a * b ≤ A * B := by
  have h1 := Rat.mul_nonneg (show 0 ≤ A - a by grind) (show 0 ≤ B + b by grind)
  have h2 := Rat.mul_nonneg (show 0 ≤ A + a by grind) (show 0 ≤ B - b by grind)
  have h3 := Rat.mul_nonneg (show 0 ≤ A - a by grind) (show 0 ≤ B - b by grind)
  have h4 := Rat.mul_nonneg (show 0 ≤ A + a by grind) (show 0 ≤ B + b by grind)
  constructor <;> grind
theorem dot_one {E F a b : Rat} (he : -eta ≤ E ∧ E ≤ eta) (hf : -eta ≤ F ∧ F ≤ eta) (ha : -32 ≤ a ∧ a ≤ 32) (hb : -32 ≤ b ∧ b ≤ 32) : a * b - 1 / 1000000 ≤ (a + E) * (b + F) := by
  have h1 := (mul_bd ha hf).1
  have h2 := (mul_bd he hb).1
  have h3 := (mul_bd he hf).1
  have e : (a + E) * (b + F) = a * b + a * F + E * b + E * F := by grind
  have k : (32 * eta + eta * 32 + eta * eta : Rat) ≤ 1 / 1000000 := by decide +kernel
  rw [e]
  grind
theorem dot_core {x1 x2 x3 y1 y2 y3 l r n a1 a2 a3 b1 b2 b3 : Rat} (hn : 1 ≤ n) (hl : 1 ≤ 2 * l) (hr : 1 ≤ 2 * r)
    (e1 : -eta ≤ x1 * l * n - a1 ∧ x1 * l * n - a1 ≤ eta) (e2 : -eta ≤ x2 * l * n - a2 ∧ x2 * l * n - a2 ≤ eta) (e3 : -eta ≤ x3 * l * n - a3 ∧ x3 * l * n - a3 ≤ eta)
    (f1 : -eta ≤ y1 * r * n - b1 ∧ y1 * r * n - b1 ≤ eta) (f2 : -eta ≤ y2 * r * n - b2 ∧ y2 * r * n - b2 ≤ eta) (f3 : -eta ≤ y3 * r * n - b3 ∧ y3 * r * n - b3 ≤ eta)
    (p1 : -32 ≤ a1 ∧ a1 ≤ 32) (p2 : -32 ≤ a2 ∧ a2 ≤ 32) (p3 : -32 ≤ a3 ∧ a3 ≤ 32) (q1 : -32 ≤ b1 ∧ b1 ≤ 32) (q2 : -32 ≤ b2 ∧ b2 ≤ 32) (q3 : -32 ≤ b3 ∧ b3 ≤ 32)
    (h : 0 ≤ a1 * b1 + a2 * b2 + a3 * b3) : -(1 / 1000) ≤ x1 * y1 + x2 * y2 + x3 * y3 := by
  have d1 := dot_one e1 f1 p1 q1
  have d2 := dot_one e2 f2 p2 q2
  have d3 := dot_one e3 f3 p3 q3
  have s1 : a1 + (x1 * l * n - a1) = x1 * l * n := by grind
  have s2 : a2 + (x2 * l * n - a2) = x2 * l * n := by grind
  have s3 : a3 + (x3 * l * n - a3) = x3 * l * n := by grind
  have t1 : b1 + (y1 * r * n - b1) = y1 * r * n := by grind
  have t2 : b2 + (y2 * r * n - b2) = y2 * r * n := by grind
  have t3 : b3 + (y3 * r * n - b3) = y3 * r * n := by grind
  rw [s1, t1] at d1
  rw [s2, t2] at d2
  rw [s3, t3] at d3
  have e : x1 * l * n * (y1 * r * n) + x2 * l * n * (y2 * r * n) + x3 * l * n * (y3 * r * n) = (x1 * y1 + x2 * y2 + x3 * y3) * ((l * n) * (r * n)) := by grind
  have w1 : (1 / 2 : Rat) ≤ l * n := by
    have := Rat.mul_le_mul_of_nonneg_left hn (show 0 ≤ l by grind)
    grind
  have w2 : (1 / 2 : Rat) ≤ r * n := by
    have := Rat.mul_le_mul_of_nonneg_left hn (show 0 ≤ r by grind)
    grind
  have w3 : (1 / 4 : Rat) ≤ (l * n) * (r * n) := by
    have i1 := Rat.mul_le_mul_of_nonneg_left w2 (show 0 ≤ l * n by grind)
    grind
  have key : -(3 / 1000000) ≤ (x1 * y1 + x2 * y2 + x3 * y3) * ((l * n) * (r * n)) := by rw [← e]; grind
  clear d1 d2 d3 s1 s2 s3 t1 t2 t3 e e1 e2 e3 f1 f2 f3
  generalize x1 * y1 + x2 * y2 + x3 * y3 = X at *
  generalize l * n * (r * n) = P at *
  refine Rat.not_lt.1 fun hX => ?_
  have i1 := lt_mul (show 0 < P by grind) hX
  grind
/-- A difference's square, rounded. -/
theorem sub_sq {s : Rat} {D : Nat} (h : (s = 0 ∧ D = 0) ∨ ∃ a, (a = s ∨ a = -s) ∧ (2 : Rat) ^ (-75 : Int) ≤ a ∧ a ≤ 6 ∧ Near D a) : vR D * vR D ≤ s * s * ((1 + u53) * (1 + u53)) := by
  rcases h with ⟨rfl, rfl⟩ | ⟨a, h1, _, _, n1, n2, n3, _⟩
  · rw [vR_0]; grind
  · have i := sq_le (vR_nonneg n1) n3
    have e : a * a = s * s := by rcases h1 with rfl | rfl <;> grind
    have e2 : a * (1 + u53) * (a * (1 + u53)) = a * a * ((1 + u53) * (1 + u53)) := by grind
    rw [e2, e] at i
    exact i
theorem unit_sq {n : Nat} {d : DirZ} (hn : 1 ≤ n) (hn' : n ≤ 32) (h : OnCube n d) {s t r : Bool} {A B C : Nat} (e : unitF (vecW n d) = ⟨cw s A, cw t B, cw r C⟩) (hA : Fin22 A) (hB : Fin22 B) (hC : Fin22 C) :
    vR A * vR A + vR B * vR B + vR C * vR C ≤ 101 / 100 := by
  obtain ⟨N, hN, n0, nz, m1, m2⟩ := unit_len hn hn' h
  by_cases h0 : A ≠ 0 ∨ B ≠ 0 ∨ C ≠ 0
  · obtain ⟨N', hN', _, _, _, k2⟩ := len_near s t r hA.comp hB.comp hC.comp h0
    rw [e] at hN
    obtain rfl : N' = N := by rw [← hN', hN]
    have e3 := u53_is
    have i := sq_le (vR_nonneg n0) m1
    have g : (1 + cU) * (1 + cU) < 101 / 100 * (1 - u53) ^ 6 := by rw [show cU = 61 / 8 * u53 from rfl, e3]; decide +kernel
    have g0 : 0 < (1 - u53) ^ 6 := by rw [e3]; decide +kernel
    refine le_of_mul g0 ?_
    exact Rat.le_trans k2 (Rat.le_trans i (Rat.le_of_lt g))
  · have a0 : A = 0 := Classical.byContradiction fun k => h0 (.inl k)
    have b0 : B = 0 := Classical.byContradiction fun k => h0 (.inr (.inl k))
    have c0 : C = 0 := Classical.byContradiction fun k => h0 (.inr (.inr k))
    subst a0 b0 c0
    rw [vR_0]; grind
theorem sg_sq (s : Bool) (x : Rat) : sg s x * sg s x = x * x := by
  unfold sg
  cases s <;> simp only [Bool.false_eq_true, if_false, if_true] <;> grind
theorem abs32 {n : Nat} {k : Int} (hn : n ≤ 32) (h : k.natAbs ≤ n) : -32 ≤ (k : Rat) ∧ (k : Rat) ≤ 32 := by
  have h1 : (-32 : Int) ≤ k := by omega
  have h2 : k ≤ 32 := by omega
  have h3 : ((-32 : Int) : Rat) ≤ (k : Rat) := Rat.intCast_le_intCast.2 h1
  have h4 : (k : Rat) ≤ ((32 : Int) : Rat) := Rat.intCast_le_intCast.2 h2
  rw [Rat.intCast_neg] at h3
  exact ⟨h3, h4⟩
theorem gap_two {n : Nat} {a b : DirZ} (hn : 1 ≤ n) (hn' : n ≤ 32) (ha : OnCube n a) (hb : OnCube n b) (h : 0 ≤ a.x * b.x + a.y * b.y + a.z * b.z) (hne : gapF (unitF (vecW n a)) (unitF (vecW n b)) < infR ∧ gapF (unitF (vecW n a)) (unitF (vecW n b)) ≠ 0) :
    vR (gapF (unitF (vecW n a)) (unitF (vecW n b))) ≤ 2 := by
  obtain ⟨g1, g2⟩ := hne
  obtain ⟨L, A, B, C, l0, l1, l2, e1, ⟨a1, a2⟩, ⟨b1, b2⟩, ⟨c1, c2⟩⟩ := unit_dir hn hn' ha
  obtain ⟨L', A', B', C', l0', l1', l2', e1', ⟨a1', a2'⟩, ⟨b1', b2'⟩, ⟨c1', c2'⟩⟩ := unit_dir hn hn' hb
  have S := unit_sq hn hn' ha e1 a1 b1 c1
  have S' := unit_sq hn hn' hb e1' a1' b1' c1'
  rw [e1, e1'] at g1 g2 ⊢
  obtain ⟨r1, D1, d1, k1⟩ := sub_near (decide (a.x < 0)) (decide (b.x < 0)) a1 a1'
  obtain ⟨r2, D2, d2, k2⟩ := sub_near (decide (a.y < 0)) (decide (b.y < 0)) b1 b1'
  obtain ⟨r3, D3, d3, k3⟩ := sub_near (decide (a.z < 0)) (decide (b.z < 0)) c1 c1'
  obtain ⟨m1, z1⟩ := sub_comp (r := r1) k1
  obtain ⟨m2, z2⟩ := sub_comp (r := r2) k2
  obtain ⟨m3, z3⟩ := sub_comp (r := r3) k3
  have hg : gapF ⟨cw (decide (a.x < 0)) A, cw (decide (a.y < 0)) B, cw (decide (a.z < 0)) C⟩ ⟨cw (decide (b.x < 0)) A', cw (decide (b.y < 0)) B', cw (decide (b.z < 0)) C'⟩ = lenF ⟨cw r1 D1, cw r2 D2, cw r3 D3⟩ := by
    unfold gapF minusF
    simp only [d1, d2, d3]
  rw [hg] at g1 g2 ⊢
  have hnn : (1 : Rat) ≤ (n : Rat) := by exact_mod_cast hn
  have hdot : (0 : Rat) ≤ (a.x : Rat) * b.x + (a.y : Rat) * b.y + (a.z : Rat) * b.z := by exact_mod_cast h
  have dot := dot_core hnn l1 l1' a2 b2 c2 a2' b2' c2' (abs32 hn' ha.1) (abs32 hn' ha.2.1) (abs32 hn' ha.2.2.1) (abs32 hn' hb.1) (abs32 hn' hb.2.1) (abs32 hn' hb.2.2.1) hdot
  have q1 := sub_sq k1
  have q2 := sub_sq k2
  have q3 := sub_sq k3
  have sA := sg_sq (decide (a.x < 0)) (vR A)
  have sB := sg_sq (decide (a.y < 0)) (vR B)
  have sC := sg_sq (decide (a.z < 0)) (vR C)
  have sA' := sg_sq (decide (b.x < 0)) (vR A')
  have sB' := sg_sq (decide (b.y < 0)) (vR B')
  have sC' := sg_sq (decide (b.z < 0)) (vR C')
  generalize sg (decide (a.x < 0)) (vR A) = x1 at *
  generalize sg (decide (a.y < 0)) (vR B) = x2 at *
  generalize sg (decide (a.z < 0)) (vR C) = x3 at *
  generalize sg (decide (b.x < 0)) (vR A') = y1 at *
  generalize sg (decide (b.y < 0)) (vR B') = y2 at *
  generalize sg (decide (b.z < 0)) (vR C') = y3 at *
  have tot : (x1 - y1) * (x1 - y1) + (x2 - y2) * (x2 - y2) + (x3 - y3) * (x3 - y3) ≤ 3 := by
    have e : (x1 - y1) * (x1 - y1) + (x2 - y2) * (x2 - y2) + (x3 - y3) * (x3 - y3) = (x1 * x1 + x2 * x2 + x3 * x3) + (y1 * y1 + y2 * y2 + y3 * y3) - 2 * (x1 * y1 + x2 * y2 + x3 * y3) := by grind
    rw [e, sA, sB, sC, sA', sB', sC']
    grind
  have e3 := u53_is
  have f0 : 0 ≤ (1 + u53) ^ 6 := by rw [e3]; decide +kernel
  have v0 : 0 ≤ (1 + u53) * (1 + u53) := by rw [e3]; decide +kernel
  have fin : (3 : Rat) * ((1 + u53) * (1 + u53)) * (1 + u53) ^ 6 < 4 := by rw [e3]; decide +kernel
  have DD : vR D1 * vR D1 + vR D2 * vR D2 + vR D3 * vR D3 ≤ 3 * ((1 + u53) * (1 + u53)) := by
    have i := le_mul v0 tot
    grind
  by_cases h0 : D1 ≠ 0 ∨ D2 ≠ 0 ∨ D3 ≠ 0
  · obtain ⟨N, hN, n1, n2, n3, _⟩ := len_near r1 r2 r3 m1 m2 m3 h0
    rw [hN]
    refine Rat.not_lt.1 fun hlt => ?_
    have i1 := sq_lt (show (0 : Rat) < 2 by decide +kernel) hlt
    have i2 := le_mul f0 DD
    grind
  · have a0 : D1 = 0 := Classical.byContradiction fun k => h0 (.inl k)
    have b0 : D2 = 0 := Classical.byContradiction fun k => h0 (.inr (.inl k))
    have c0 : D3 = 0 := Classical.byContradiction fun k => h0 (.inr (.inr k))
    subst a0 b0 c0
    exfalso
    apply g2
    show lenF ⟨0, 0, 0⟩ = 0
    decide +kernel
def dotZ (a b : DirZ) : Int := a.x * b.x + a.y * b.y + a.z * b.z
theorem dot_face (n f : Nat) (k l k' l' : Int) : dotZ (dirF n f k l) (dirF n f k' l') = n * n + k * k' + l * l' := by
  match f with
  | 0 => simp only [dotZ, dirF]
  | 1 => simp only [dotZ, dirF]; grind
  | 2 => simp only [dotZ, dirF]; grind
  | 3 => simp only [dotZ, dirF]; grind
  | 4 => simp only [dotZ, dirF]; grind
  | f + 5 => simp only [dotZ, dirF]; grind
theorem imul_bd {a b A : Int} (ha : -A ≤ a ∧ a ≤ A) (hb : -A ≤ b ∧ b ≤ A) : -(A * A) ≤ a * b := by
  have h1 := Int.mul_nonneg (show 0 ≤ A - a by omega) (show 0 ≤ A - b by omega)
  have h2 := Int.mul_nonneg (show 0 ≤ A + a by omega) (show 0 ≤ A + b by omega)
  grind
theorem isq (a : Int) : 0 ≤ a * a := by
  rcases Int.le_total 0 a with h | h
  · exact Int.mul_nonneg h h
  · have := Int.mul_nonneg (show 0 ≤ -a by omega) (show 0 ≤ -a by omega)
    grind
theorem dot_l {n f : Nat} {k l l' : Int} (hl : -(n : Int) ≤ l ∧ l ≤ n) (hl' : -(n : Int) ≤ l' ∧ l' ≤ n) : 0 ≤ dotZ (dirF n f k l) (dirF n f k l') := by
  rw [dot_face]
  have h1 := imul_bd hl hl'
  have h2 := isq k
  omega
theorem dot_k {n f : Nat} {k k' l : Int} (hl : -(n : Int) ≤ k ∧ k ≤ n) (hl' : -(n : Int) ≤ k' ∧ k' ≤ n) : 0 ≤ dotZ (dirF n f k l) (dirF n f k' l) := by
  rw [dot_face]
  have h1 := imul_bd hl hl'
  have h2 := isq l
  omega
theorem dot_over {n f i j s : Nat} (hf : f < 6) (hi : i < n) (hj : j < n) (hs : s < 4) (h : atE n i j s) :
    dotZ (dirF n f (2 * i + 1 - n) (2 * j + 1 - n)) (dirF n (nbE n f i j s).1 (2 * (nbE n f i j s).2.1 + 1 - n) (2 * (nbE n f i j s).2.2.1 + 1 - n)) = 2 * n * (n - 1) + (2 * alongS i j s + 1 - n) * (2 * alongS i j s + 1 - n) := by
  have e : ∀ k : Nat, k < n → ((n - 1 - k : Nat) : Int) = n - 1 - k := by omega
  have e0 : ((n - 1 : Nat) : Int) = n - 1 := by omega
  have ei := e i hi
  have ej := e j hj
  have z0 : ((0 : Nat) : Int) = 0 := rfl
  obtain rfl | rfl | rfl | rfl : s = 0 ∨ s = 1 ∨ s = 2 ∨ s = 3 := by omega
  · have h : (i : Int) = n - 1 := by have h : i + 1 = n := h; omega
    obtain rfl | rfl | rfl | rfl | rfl | rfl : f = 0 ∨ f = 1 ∨ f = 2 ∨ f = 3 ∨ f = 4 ∨ f = 5 := by omega
    all_goals
      simp only [nbE, nbT, putS, alongS, flipK, dirF, dotZ, e0, ei, ej, z0, h]
      grind
  · have h : (j : Int) = n - 1 := by have h : j + 1 = n := h; omega
    obtain rfl | rfl | rfl | rfl | rfl | rfl : f = 0 ∨ f = 1 ∨ f = 2 ∨ f = 3 ∨ f = 4 ∨ f = 5 := by omega
    all_goals
      simp only [nbE, nbT, putS, alongS, flipK, dirF, dotZ, e0, ei, ej, z0, h]
      grind
  · have h : (i : Int) = 0 := by have h : i = 0 := h; omega
    obtain rfl | rfl | rfl | rfl | rfl | rfl : f = 0 ∨ f = 1 ∨ f = 2 ∨ f = 3 ∨ f = 4 ∨ f = 5 := by omega
    all_goals
      simp only [nbE, nbT, putS, alongS, flipK, dirF, dotZ, e0, ei, ej, z0, h]
      grind
  · have h : (j : Int) = 0 := by have h : j = 0 := h; omega
    obtain rfl | rfl | rfl | rfl | rfl | rfl : f = 0 ∨ f = 1 ∨ f = 2 ∨ f = 3 ∨ f = 4 ∨ f = 5 := by omega
    all_goals
      simp only [nbE, nbT, putS, alongS, flipK, dirF, dotZ, e0, ei, ej, z0, h]
      grind
theorem dot_ends {n f i j s : Nat} (hi : i < n) (hj : j < n) : 0 ≤ dotZ (endA n f i j s) (endB n f i j s) := by
  match s with
  | 0 => exact dot_l (by omega) (by omega)
  | 1 => exact dot_k (by omega) (by omega)
  | 2 => exact dot_l (by omega) (by omega)
  | s + 3 => exact dot_k (by omega) (by omega)
theorem lenS_two {n f i j s : Nat} (hn : 1 ≤ n) (hn' : n ≤ 32) (hi : i < n) (hj : j < n) : vR (lenS n f i j s) ≤ 2 := by
  have hne := lenS_ne (f := f) (s := s) hn hn' hi hj
  have he := lenS_ends (f := f) (s := s) hn hn' hi hj
  obtain ⟨oA, oB⟩ := endA_on (f := f) (s := s) hi hj
  have hd := dot_ends (f := f) (s := s) hi hj
  rw [he] at hne ⊢
  exact gap_two hn hn' oA oB hd hne
theorem dot_mid {n f i j s : Nat} (hn : 1 ≤ n) (hf : f < 6) (hi : i < n) (hj : j < n) (hs : s < 4) :
    0 ≤ dotZ (dirF n f (2 * i + 1 - n) (2 * j + 1 - n)) (dirF n (nb n f i j s).1 (2 * (nb n f i j s).2.1 + 1 - n) (2 * (nb n f i j s).2.2.1 + 1 - n)) := by
  by_cases h : atE n i j s
  · rw [nb_at h hs, dot_over hf hi hj hs h]
    have h1 := isq (2 * alongS i j s + 1 - n)
    have h2 := Int.mul_nonneg (show (0 : Int) ≤ 2 * n by omega) (show (0 : Int) ≤ n - 1 by omega)
    omega
  · obtain rfl | rfl | rfl | rfl : s = 0 ∨ s = 1 ∨ s = 2 ∨ s = 3 := by omega
    · have h : ¬ i + 1 = n := h
      rw [show nb n f i j 0 = (f, i + 1, j, 2) from if_pos (by omega)]
      dsimp only
      exact dot_k (by omega) (by omega)
    · have h : ¬ j + 1 = n := h
      rw [show nb n f i j 1 = (f, i, j + 1, 3) from if_pos (by omega)]
      dsimp only
      exact dot_l (by omega) (by omega)
    · have h : ¬ i = 0 := h
      rw [show nb n f i j 2 = (f, i - 1, j, 0) from if_pos (by omega)]
      dsimp only
      exact dot_k (by omega) (by omega)
    · have h : ¬ j = 0 := h
      rw [show nb n f i j 3 = (f, i, j - 1, 1) from if_pos (by omega)]
      dsimp only
      exact dot_l (by omega) (by omega)
theorem gapS_two {n f i j s : Nat} (hn : 1 ≤ n) (hn' : n ≤ 32) (hf : f < 6) (hi : i < n) (hj : j < n) (hs : s < 4) : vR (gapS n f i j s) ≤ 2 := by
  have hne := gapS_ne hn hn' hf hi hj hs
  obtain ⟨b1, b2, b3, b4⟩ := nb_lt (s := s) hf hi hj
  have hd := dot_mid hn hf hi hj hs
  unfold gapS at hne ⊢
  rw [middle_dir hn hn' hi hj, middle_dir hn hn' b2 b3] at hne ⊢
  exact gap_two hn hn' (onCube f (by omega) (by omega)) (onCube _ (by omega) (by omega)) hd hne
end Go.Proofs.YtbfdbpmdibjanaaDoor
