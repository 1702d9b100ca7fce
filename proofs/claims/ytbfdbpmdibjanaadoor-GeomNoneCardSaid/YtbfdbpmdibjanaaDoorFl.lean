/- The gaps of a net are above nought; gaps do not hang on the order. No condition. -/
import Derived.Test.YtbfdbpmdibjanaaDoorFk
import Derived.Test.YtbfdbpmdibjanaaDoorZa
namespace Go.Proofs.YtbfdbpmdibjanaaDoor
open Go Go.Eng
set_option maxRecDepth 100000
set_option linter.unusedSimpArgs false
set_option linter.unusedVariables false

/-- A face's own axis; a direction's part by its axis. -/
def ax : Nat → Nat
  | 0 => 0
  | 1 => 1
  | 2 => 0
  | 3 => 1
  | _ => 2
def co (d : DirZ) : Nat → Int
  | 0 => d.x
  | 1 => d.y
  | _ => d.z
theorem ax_lt (f : Nat) : ax f < 3 := by unfold ax; split <;> decide
theorem nbT_ax : ∀ f, f < 6 → ∀ s, s < 4 → ax (nbT f s).1 ≠ ax f := by decide
theorem co_ax (n f : Nat) (k l : Int) : (co (dirF n f k l) (ax f)).natAbs = n := by
  match f with
  | 0 => show (n : Int).natAbs = n; omega
  | 1 => show (n : Int).natAbs = n; omega
  | 2 => show (-(n : Int)).natAbs = n; omega
  | 3 => show (-(n : Int)).natAbs = n; omega
  | 4 => show (n : Int).natAbs = n; omega
  | f + 5 => show (-(n : Int)).natAbs = n; omega
theorem co_off {n f a m : Nat} {k l : Int} (ha : a < 3) (h : a ≠ ax f) (hk : k.natAbs ≤ m) (hl : l.natAbs ≤ m) : (co (dirF n f k l) a).natAbs ≤ m := by
  obtain rfl | rfl | rfl : a = 0 ∨ a = 1 ∨ a = 2 := by omega
  all_goals
    match f with
    | 0 => first | exact absurd rfl h | exact hk | exact hl
    | 1 => first | exact absurd rfl h | exact hl | (show (-k).natAbs ≤ m; omega)
    | 2 => first | exact absurd rfl h | exact hl | (show (-k).natAbs ≤ m; omega)
    | 3 => first | exact absurd rfl h | exact hk | exact hl
    | 4 => first | exact absurd rfl h | exact hk | (show (-l).natAbs ≤ m; omega)
    | f + 5 => first | exact absurd rfl h | exact hk | exact hl
theorem co_ne {a b : DirZ} {i j : Nat} (hi : i < 3) (hj : j < 3) (h : co a i * co b j ≠ co a j * co b i) : a.x * b.y ≠ a.y * b.x ∨ a.x * b.z ≠ a.z * b.x ∨ a.y * b.z ≠ a.z * b.y := by
  obtain rfl | rfl | rfl : i = 0 ∨ i = 1 ∨ i = 2 := by omega
  all_goals
    obtain rfl | rfl | rfl : j = 0 ∨ j = 1 ∨ j = 2 := by omega
  · exact absurd rfl h
  · exact .inl h
  · exact .inr (.inl h)
  · exact .inl (Ne.symm h)
  · exact absurd rfl h
  · exact .inr (.inr h)
  · exact .inr (.inl (Ne.symm h))
  · exact .inr (.inr (Ne.symm h))
  · exact absurd rfl h
/-- Middles on two faces that lie side by side. -/
theorem cross_ne {n f g : Nat} {k l k' l' : Int} (hn : 1 ≤ n) (hfg : ax g ≠ ax f) (hk : k.natAbs ≤ n - 1) (hl : l.natAbs ≤ n - 1) (hk' : k'.natAbs ≤ n - 1) (hl' : l'.natAbs ≤ n - 1) :
    (dirF n f k l).x * (dirF n g k' l').y ≠ (dirF n f k l).y * (dirF n g k' l').x ∨ (dirF n f k l).x * (dirF n g k' l').z ≠ (dirF n f k l).z * (dirF n g k' l').x ∨ (dirF n f k l).y * (dirF n g k' l').z ≠ (dirF n f k l).z * (dirF n g k' l').y := by
  refine co_ne (ax_lt f) (ax_lt g) fun h => ?_
  have h1 := congrArg Int.natAbs h
  rw [Int.natAbs_mul, Int.natAbs_mul, co_ax, co_ax] at h1
  have h2 := co_off (n := n) (ax_lt g) hfg hk hl
  have h3 := co_off (n := n) (ax_lt f) (Ne.symm hfg) hk' hl'
  have h4 := Nat.mul_le_mul h2 h3
  have h5 : (n - 1) * (n - 1) < n * n := Nat.mul_lt_mul_of_lt_of_le (by omega) (by omega) (by omega)
  omega
theorem gapS_ne {n f i j s : Nat} (hn : 1 ≤ n) (hn' : n ≤ 32) (hf : f < 6) (hi : i < n) (hj : j < n) (hs : s < 4) : gapS n f i j s < infR ∧ gapS n f i j s ≠ 0 := by
  obtain ⟨k1, k2, k3, k4⟩ := nb_lt (s := s) hf hi hj
  have hcell := (nb_cell hf hi hj hs).1
  have hface : (nb n f i j s).1 = f ∨ ax (nb n f i j s).1 ≠ ax f := by
    by_cases h : atE n i j s
    · right
      rw [nb_at h hs]
      exact nbT_ax f hf s hs
    · left
      obtain rfl | rfl | rfl | rfl : s = 0 ∨ s = 1 ∨ s = 2 ∨ s = 3 := by omega
      · have h : ¬ i + 1 = n := h
        show (if i + 1 < n then _ else _ : Nat × Nat × Nat × Nat).1 = f
        rw [if_pos (by omega)]
      · have h : ¬ j + 1 = n := h
        show (if j + 1 < n then _ else _ : Nat × Nat × Nat × Nat).1 = f
        rw [if_pos (by omega)]
      · have h : ¬ i = 0 := h
        show (if 0 < i then _ else _ : Nat × Nat × Nat × Nat).1 = f
        rw [if_pos (by omega)]
      · have h : ¬ j = 0 := h
        show (if 0 < j then _ else _ : Nat × Nat × Nat × Nat).1 = f
        rw [if_pos (by omega)]
  unfold gapS
  generalize nb n f i j s = p at *
  obtain ⟨g, a, b, t⟩ := p
  simp only at *
  rw [middle_dir hn hn' hi hj, middle_dir hn hn' k2 k3]
  refine gap_ne hn hn' (onCube f (by omega) (by omega)) (onCube g (by omega) (by omega)) ?_
  rcases hface with rfl | h
  · refine face_ne hn ?_
    simp only [ne_eq, Prod.mk.injEq, not_and, true_and] at hcell
    by_cases e : a = i
    · have := hcell e; omega
    · omega
  · exact cross_ne hn h (by omega) (by omega) (by omega) (by omega)
end Go.Proofs.YtbfdbpmdibjanaaDoor
