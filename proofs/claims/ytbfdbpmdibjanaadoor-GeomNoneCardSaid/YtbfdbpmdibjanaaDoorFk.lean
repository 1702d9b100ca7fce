/- Lengths and gaps of a net are above nought. No condition. -/
import Derived.Test.YtbfdbpmdibjanaaDoorFj
namespace Go.Proofs.YtbfdbpmdibjanaaDoor
open Go Go.Eng
set_option maxRecDepth 100000
set_option linter.unusedSimpArgs false
set_option linter.unusedVariables false

theorem sub_comp {r : Bool} {D : Nat} {v : Rat} (h : (v = 0 ∧ D = 0) ∨ ∃ a, (a = v ∨ a = -v) ∧ (2 : Rat) ^ (-75 : Int) ≤ a ∧ a ≤ 6 ∧ Near D a) : Comp D ∧ (D = 0 → v = 0) := by
  rcases h with ⟨h1, rfl⟩ | ⟨a, h1, h2, h3, h4⟩
  · exact ⟨⟨by decide, .inl rfl, by rw [vR_0]; exact Rat.le_of_lt (two_pos _)⟩, fun _ => h1⟩
  · refine ⟨⟨h4.1, .inr ?_, ?_⟩, fun h => absurd h h4.2.1⟩
    · have p := two_le (show (-400 : Int) ≤ -76 by decide)
      have e : (2 : Rat) ^ (-75 : Int) = 2 * 2 ^ (-76 : Int) := by
        have h := two_add 1 (-76)
        rw [show (1 : Int) + -76 = -75 by decide, two_1] at h
        exact h
      have q := h4.2.2.2
      rw [u53_is] at q
      grind
    · have b := two_le (show (4 : Int) ≤ 400 by decide)
      rw [show (2 : Rat) ^ (4 : Int) = 16 from (two_nat 4).trans rfl] at b
      have q := h4.2.2.1
      rw [u53_is] at q
      grind
/-- The gap of two points whose directions are not one. -/
theorem gap_ne {n : Nat} {a b : DirZ} (hn : 1 ≤ n) (hn' : n ≤ 32) (ha : OnCube n a) (hb : OnCube n b) (h : a.x * b.y ≠ a.y * b.x ∨ a.x * b.z ≠ a.z * b.x ∨ a.y * b.z ≠ a.z * b.y) :
    gapF (unitF (vecW n a)) (unitF (vecW n b)) < infR ∧ gapF (unitF (vecW n a)) (unitF (vecW n b)) ≠ 0 := by
  obtain ⟨L, A, B, C, l0, l1, l2, e1, ⟨a1, a2⟩, ⟨b1, b2⟩, ⟨c1, c2⟩⟩ := unit_dir hn hn' ha
  obtain ⟨L', A', B', C', l0', l1', l2', e1', ⟨a1', a2'⟩, ⟨b1', b2'⟩, ⟨c1', c2'⟩⟩ := unit_dir hn hn' hb
  rw [e1, e1']
  obtain ⟨r1, D1, d1, k1⟩ := sub_near (decide (a.x < 0)) (decide (b.x < 0)) a1 a1'
  obtain ⟨r2, D2, d2, k2⟩ := sub_near (decide (a.y < 0)) (decide (b.y < 0)) b1 b1'
  obtain ⟨r3, D3, d3, k3⟩ := sub_near (decide (a.z < 0)) (decide (b.z < 0)) c1 c1'
  obtain ⟨m1, z1⟩ := sub_comp (r := r1) k1
  obtain ⟨m2, z2⟩ := sub_comp (r := r2) k2
  obtain ⟨m3, z3⟩ := sub_comp (r := r3) k3
  have hg : gapF ⟨cw (decide (a.x < 0)) A, cw (decide (a.y < 0)) B, cw (decide (a.z < 0)) C⟩ ⟨cw (decide (b.x < 0)) A', cw (decide (b.y < 0)) B', cw (decide (b.z < 0)) C'⟩ = lenF ⟨cw r1 D1, cw r2 D2, cw r3 D3⟩ := by
    unfold gapF minusF
    simp only [d1, d2, d3]
  rw [hg]
  have hnn : (0 : Rat) ≤ (n : Rat) := by exact_mod_cast Nat.zero_le n
  have hnn' : (n : Rat) ≤ 32 := by exact_mod_cast hn'
  have sgb : ∀ (s : Bool) (X : Nat), Fin22 X → -3 ≤ sg s (vR X) ∧ sg s (vR X) ≤ 3 := by
    intro s X hX
    have := vR_nonneg hX.1
    have := hX.2.2
    unfold sg
    cases s <;> simp only [Bool.false_eq_true, if_false, if_true] <;> constructor <;> grind
  have hl : 0 ≤ vR L ∧ vR L ≤ 2 := ⟨vR_nonneg l0, l2⟩
  have hl' : 0 ≤ vR L' ∧ vR L' ≤ 2 := ⟨vR_nonneg l0', l2'⟩
  have hd : (0 : Rat) ≤ del := by decide +kernel
  have close : ∀ {u v : Rat}, u - v = 0 → -del ≤ v - u ∧ v - u ≤ del := by
    intro u v h
    constructor <;> grind
  have h0 : D1 ≠ 0 ∨ D2 ≠ 0 ∨ D3 ≠ 0 := by
    by_cases q1 : D1 = 0
    · by_cases q2 : D2 = 0
      · by_cases q3 : D3 = 0
        · exfalso
          have w1 := close (z1 q1)
          have w2 := close (z2 q2)
          have w3 := close (z3 q3)
          have hx := ha.1; have hy := ha.2.1; have hz := ha.2.2.1
          have hx' := hb.1; have hy' := hb.2.1; have hz' := hb.2.2.1
          rcases h with h | h | h
          · exact sep (by omega) (by omega) (by omega) (by omega) h hl hl' ⟨hnn, hnn'⟩ (sgb _ _ a1) (sgb _ _ b1) a2 b2 a2' b2' w1 w2
          · exact sep (by omega) (by omega) (by omega) (by omega) h hl hl' ⟨hnn, hnn'⟩ (sgb _ _ a1) (sgb _ _ c1) a2 c2 a2' c2' w1 w3
          · exact sep (by omega) (by omega) (by omega) (by omega) h hl hl' ⟨hnn, hnn'⟩ (sgb _ _ b1) (sgb _ _ c1) b2 c2 b2' c2' w2 w3
        · exact .inr (.inr q3)
      · exact .inr (.inl q2)
    · exact .inl q1
  obtain ⟨N, hN, n1, n2, _⟩ := len_near r1 r2 r3 m1 m2 m3 h0
  rw [hN]
  exact ⟨n1, n2⟩
theorem onCube {n : Nat} (f : Nat) {k l : Int} (hk : k.natAbs ≤ n) (hl : l.natAbs ≤ n) : OnCube n (dirF n f k l) := by
  match f with
  | 0 => exact ⟨by show (n : Int).natAbs ≤ n; omega, hk, hl, .inl (by show (n : Int).natAbs = n; omega)⟩
  | 1 => exact ⟨by show (-k).natAbs ≤ n; omega, by show (n : Int).natAbs ≤ n; omega, hl, .inr (.inl (by show (n : Int).natAbs = n; omega))⟩
  | 2 => exact ⟨by show (-(n : Int)).natAbs ≤ n; omega, by show (-k).natAbs ≤ n; omega, hl, .inl (by show (-(n : Int)).natAbs = n; omega)⟩
  | 3 => exact ⟨hk, by show (-(n : Int)).natAbs ≤ n; omega, hl, .inr (.inl (by show (-(n : Int)).natAbs = n; omega))⟩
  | 4 => exact ⟨by show (-l).natAbs ≤ n; omega, hk, by show (n : Int).natAbs ≤ n; omega, .inr (.inr (by show (n : Int).natAbs = n; omega))⟩
  | f + 5 => exact ⟨hl, hk, by show (-(n : Int)).natAbs ≤ n; omega, .inr (.inr (by show (-(n : Int)).natAbs = n; omega))⟩
/-- On one face: two points whose numbers differ. -/
theorem face_ne {n f : Nat} {k l k' l' : Int} (hn : 1 ≤ n) (h : k ≠ k' ∨ l ≠ l') :
    (dirF n f k l).x * (dirF n f k' l').y ≠ (dirF n f k l).y * (dirF n f k' l').x ∨ (dirF n f k l).x * (dirF n f k' l').z ≠ (dirF n f k l).z * (dirF n f k' l').x ∨ (dirF n f k l).y * (dirF n f k' l').z ≠ (dirF n f k l).z * (dirF n f k' l').y := by
  have hn0 : (n : Int) ≠ 0 := by omega
  have c : ∀ {a b : Int}, a ≠ b → (n : Int) * b ≠ a * n := by
    intro a b hab h
    rw [Int.mul_comm a] at h
    exact hab (Int.eq_of_mul_eq_mul_left hn0 h).symm
  match f with
  | 0 =>
    rcases h with h | h
    · exact .inl (c h)
    · exact .inr (.inl (c h))
  | 1 =>
    rcases h with h | h
    · refine .inl ?_
      show -k * (n : Int) ≠ n * -k'
      have := c (show -k ≠ -k' by omega)
      exact fun h => this h.symm
    · exact .inr (.inr (c h))
  | 2 =>
    rcases h with h | h
    · refine .inl ?_
      show -(n : Int) * -k' ≠ -k * -(n : Int)
      have := c h
      rw [Int.neg_mul_neg, Int.neg_mul_neg]
      exact this
    · refine .inr (.inl ?_)
      show -(n : Int) * l' ≠ l * -(n : Int)
      rw [Int.neg_mul, Int.mul_neg]
      have := c h
      omega
  | 3 =>
    rcases h with h | h
    · refine .inl ?_
      show k * -(n : Int) ≠ -(n : Int) * k'
      rw [Int.neg_mul, Int.mul_neg]
      have := c h
      omega
    · refine .inr (.inr ?_)
      show -(n : Int) * l' ≠ l * -(n : Int)
      rw [Int.neg_mul, Int.mul_neg]
      have := c h
      omega
  | 4 =>
    rcases h with h | h
    · refine .inr (.inr ?_)
      show k * (n : Int) ≠ n * k'
      exact fun e => c h e.symm
    · refine .inr (.inl ?_)
      show -l * (n : Int) ≠ n * -l'
      have := c (show -l ≠ -l' by omega)
      exact fun e => this e.symm
  | f + 5 =>
    rcases h with h | h
    · refine .inr (.inr ?_)
      show k * -(n : Int) ≠ -(n : Int) * k'
      rw [Int.neg_mul, Int.mul_neg]
      have := c h
      omega
    · refine .inr (.inl ?_)
      show l * -(n : Int) ≠ -(n : Int) * l'
      rw [Int.neg_mul, Int.mul_neg]
      have := c h
      omega
/-- A cell's sides are longer than nought. -/
theorem lenS_ne {n f i j s : Nat} (hn : 1 ≤ n) (hn' : n ≤ 32) (hi : i < n) (hj : j < n) : lenS n f i j s < infR ∧ lenS n f i j s ≠ 0 := by
  have key : ∀ i j i' j' : Nat, i ≤ n → j ≤ n → i' ≤ n → j' ≤ n → (i ≠ i' ∨ j ≠ j') → gapF (cornerF n f i j) (cornerF n f i' j') < infR ∧ gapF (cornerF n f i j) (cornerF n f i' j') ≠ 0 := by
    intro i j i' j' h1 h2 h3 h4 h5
    rw [corner_dir hn hn' h1 h2, corner_dir hn hn' h3 h4]
    exact gap_ne hn hn' (onCube f (by omega) (by omega)) (onCube f (by omega) (by omega)) (face_ne hn (by omega))
  match s with
  | 0 => exact key _ _ _ _ (by omega) (by omega) (by omega) (by omega) (by omega)
  | 1 => exact key _ _ _ _ (by omega) (by omega) (by omega) (by omega) (by omega)
  | 2 => exact key _ _ _ _ (by omega) (by omega) (by omega) (by omega) (by omega)
  | s + 3 => exact key _ _ _ _ (by omega) (by omega) (by omega) (by omega) (by omega)
end Go.Proofs.YtbfdbpmdibjanaaDoor
