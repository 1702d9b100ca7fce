/- The gaps of a net are above nought; gaps do not hang on the order. No condition. -/
import Derived.Test.YtbfdbpmdibjanaaDoorFk
import Derived.Test.YtbfdbpmdibjanaaDoorZa
namespace Go.Proofs.YtbfdbpmdibjanaaDoor
open Go Go.Eng
set_option maxRecDepth 100000
set_option linter.unusedSimpArgs false
set_option linter.unusedVariables false

/-- A face's own axis; a direction's part by its axis. -/
def ax : Nat → Nat
  | 0 => 0
  | 1 => 1
  | 2 => 0
  | 3 => 1
  | _ => 2
def co (d : DirZ) : Nat → Int
  | 0 => d.x
  | 1 => d.y
  | _ => d.z
theorem ax_lt (f : Nat) : ax f < 3 := by unfold ax; split <;> decide
theorem nbT_ax : ∀ f, f < 6 → ∀ s, s < 4 → ax (nbT f s).1 ≠ ax f := by decide
theorem co_ax (n f : Nat) (k l : Int) : (co (dirF n f k l) (ax f)).natAbs = n := by
  match f with
  | 0 => show (n : Int).natAbs = n; omega
  | 1 => show (n : Int).natAbs = n; omega
  | 2 => show (-(n : Int)).natAbs = n; omega
  | 3 => show (-(n : Int)).natAbs = n; omega
  | 4 => show (n : Int).natAbs = n; omega
  | f + 5 => show (-(n : Int)).natAbs = n; omega
theorem co_off {n f a m : Nat} {k l : Int} (ha : a < 3) (h : a ≠ ax f) (hk : k.natAbs ≤ m) (hl : l.natAbs ≤ m) : (co (dirF n f k l) a).natAbs ≤ m := by
  obtain rfl | rfl | rfl : a = 0 ∨ a = 1 ∨ a = 2 := by omega
  all_goals
    match f with
    | 0 => first | exact absurd rfl h | exact hk | exact hl
    | 1 => first | exact absurd rfl h | exact hl | (show (-k).natAbs ≤ m; omega)
    | 2 => first | exact absurd rfl h | exact hl | (show (-k).natAbs ≤ m; omega)
    | 3 => first | exact absurd rfl h | exact hk | exact hl
    | 4 => first | exact absurd rfl h | exact hk | (show (-l).natAbs ≤ m; omega)
    | f + 5 => first | exact absurd rfl h | exact hk | exact hl
theorem co_ne {a b : DirZ} {i j : Nat} (hi : i < 3) (hj : j < 3) (h : co a i * co b j ≠ co a j * co b i) : a.x * b.y ≠ a.y * b.x ∨ a.x * b.z ≠ a.z * b.x ∨ a.y * b.z ≠ a.z * b.y := by
  obtain rfl | rfl | rfl : i = 0 ∨ i = 1 ∨ i = 2 := by omega
  all_goals
    obtain rfl | rfl | rfl : j = 0 ∨ j = 1 ∨ j = 2 := by omega
  · exact absurd rfl h
  · exact .inl h
  · exact .inr (.inl h)
  · exact .inl (Ne.symm h)
  · exact absurd rfl h
  · exact .inr (.inr h)
  · exact .inr (.inl (Ne.symm h))
  · exact .inr (.inr (Ne.symm h))
  · exact absurd rfl h
/-- Middles on two faces that lie side by side. -/
theorem cross_ne {n f g : Nat} {k l k' l' : Int} (hn : 1 ≤ n) (hfg : ax g ≠ ax f) (hk : k.natAbs ≤ n - 1) (hl : l.natAbs ≤ n - 1) (hk' : k'.natAbs ≤ n - 1) (hl' : l'.natAbs ≤ n - 1) :
    (dirF n f k l).x * (dirF n g k' l').y ≠ (dirF n f k l).y * (dirF n g k' l').x ∨ (dirF n f k l).x * (dirF n g k' l').z ≠ (dirF n f k l).z * (dirF n g k' l').x ∨ (dirF n f k l).y * (dirF n g k' l').z ≠ (dirF n f k l).z * (dirF n g k' l').y := by
  refine co_ne (ax_lt f) (ax_lt g) fun h => ?_
  have h1 := congrArg Int.natAbs h
  rw [Int.natAbs_mul, Int.natAbs_mul, co_ax, co_ax] at h1
  have h2 := co_off (n := n) (ax_lt g) hfg hk hl
  have h3 := co_off (n := n) (ax_lt f) (Ne.symm hfg) hk' hl'
  have h4 := Nat.mul_le_mul h2 h3
  have h5 : (n - 1) * (n - 1) < n * n := Nat.mul_lt_mul_of_lt_of_le (by omega) (by omega) (by omega)
  omega
theorem gapS_ne {n f i j s : Nat} (hn : 1 ≤ n) (hn' : n ≤ 32) (hf : f < 6) (hi : i < n) (hj : j < n) (hs : s < 4) : gapS n f i j s < infR ∧ gapS n f i j s ≠ 0 := by
  obtain ⟨k1, k2, k3, k4⟩ := nb_lt (s := s) hf hi hj
  have hcell := (nb_cell hf hi hj hs).1
  have hface : (nb n f i j s).1 = f ∨ ax (nb n f i j s).1 ≠ ax f := by
    by_cases h : atE n i j s
    · right
      rw [nb_at h hs]
      exact nbT_ax f hf s hs
    · left
      obtain rfl | rfl | rfl | rfl : s = 0 ∨ s = 1 ∨ s = 2 ∨ s = 3 := by omega
      · have h : ¬ i + 1 = n := h
        show (if i + 1 < n then _ else _ : Nat × Nat × Nat × Nat).1 = f
        rw [if_pos (by omega)]
      · have h : ¬ j + 1 = n := h
        show (if j + 1 < n then _ else _ : Nat × Nat × Nat × Nat).1 = f
        rw [if_pos (by omega)]
      · have h : ¬ i = 0 := h
        show (if 0 < i then _ else _ : Nat × Nat × Nat × Nat).1 = f
        rw [if_pos (by omega)]
      · have h : ¬ j = 0 := h
        show (if 0 < j then _ else _ : Nat × Nat × Nat × Nat).1 = f
        rw [if_pos (by omega)]
  unfold gapS
  generalize nb n f i j s = p at *
  obtain ⟨g, a, b, t⟩ := p
  simp only at *
  rw [middle_dir hn hn' hi hj, middle_dir hn hn' k2 k3]
  refine gap_ne hn hn' (onCube f (by omega) (by omega)) (onCube g (by omega) (by omega)) ?_
  rcases hface with rfl | h
  · refine face_ne hn ?_
    simp only [ne_eq, Prod.mk.injEq, not_and, true_and] at hcell
    by_cases e : a = i
    · have := hcell e; omega
    · omega
  · exact cross_ne hn h (by omega) (by omega) (by omega) (by omega)

/-- The directions of a side's two ends. -/
def endA (n f i j : Nat) : Nat → DirZ
  | 0 => dirF n f (2 * (i + 1 : Nat) - n) (2 * (j : Nat) - n)
  | 1 => dirF n f (2 * (i : Nat) - n) (2 * (j + 1 : Nat) - n)
  | _ => dirF n f (2 * (i : Nat) - n) (2 * (j : Nat) - n)
def endB (n f i j : Nat) : Nat → DirZ
  | 0 => dirF n f (2 * (i + 1 : Nat) - n) (2 * (j + 1 : Nat) - n)
  | 1 => dirF n f (2 * (i + 1 : Nat) - n) (2 * (j + 1 : Nat) - n)
  | 2 => dirF n f (2 * (i : Nat) - n) (2 * (j + 1 : Nat) - n)
  | _ => dirF n f (2 * (i + 1 : Nat) - n) (2 * (j : Nat) - n)
theorem lenS_ends {n f i j s : Nat} (hn : 1 ≤ n) (hn' : n ≤ 32) (hi : i < n) (hj : j < n) : lenS n f i j s = gapF (unitF (vecW n (endA n f i j s))) (unitF (vecW n (endB n f i j s))) := by
  match s with
  | 0 =>
    show gapF (cornerF n f (i + 1) j) (cornerF n f (i + 1) (j + 1)) = _
    rw [corner_dir hn hn' (by omega) (by omega), corner_dir hn hn' (by omega) (by omega)]; rfl
  | 1 =>
    show gapF (cornerF n f i (j + 1)) (cornerF n f (i + 1) (j + 1)) = _
    rw [corner_dir hn hn' (by omega) (by omega), corner_dir hn hn' (by omega) (by omega)]; rfl
  | 2 =>
    show gapF (cornerF n f i j) (cornerF n f i (j + 1)) = _
    rw [corner_dir hn hn' (by omega) (by omega), corner_dir hn hn' (by omega) (by omega)]; rfl
  | s + 3 =>
    show gapF (cornerF n f i j) (cornerF n f (i + 1) j) = _
    rw [corner_dir hn hn' (by omega) (by omega), corner_dir hn hn' (by omega) (by omega)]; rfl
theorem DirZ.of {a b c a' b' c' : Int} (h1 : a = a') (h2 : b = b') (h3 : c = c') : DirZ.mk a b c = DirZ.mk a' b' c' := by subst h1 h2 h3; rfl
/-- The ends of the side that lies there: the same two, in this order or in the other. -/
theorem ends_nb {n f i j s : Nat} (hf : f < 6) (hi : i < n) (hj : j < n) (hs : s < 4) :
    (endA n (nb n f i j s).1 (nb n f i j s).2.1 (nb n f i j s).2.2.1 (nb n f i j s).2.2.2 = endA n f i j s ∧ endB n (nb n f i j s).1 (nb n f i j s).2.1 (nb n f i j s).2.2.1 (nb n f i j s).2.2.2 = endB n f i j s) ∨
    (endA n (nb n f i j s).1 (nb n f i j s).2.1 (nb n f i j s).2.2.1 (nb n f i j s).2.2.2 = endB n f i j s ∧ endB n (nb n f i j s).1 (nb n f i j s).2.1 (nb n f i j s).2.2.1 (nb n f i j s).2.2.2 = endA n f i j s) := by
  by_cases h : atE n i j s
  · rw [nb_at h hs]
    obtain rfl | rfl | rfl | rfl : s = 0 ∨ s = 1 ∨ s = 2 ∨ s = 3 := by omega
    · have h : i + 1 = n := h
      obtain rfl | rfl | rfl | rfl | rfl | rfl : f = 0 ∨ f = 1 ∨ f = 2 ∨ f = 3 ∨ f = 4 ∨ f = 5 := by omega
      all_goals
        simp only [nbE, nbT, putS, flipK, alongS, endA, endB, dirF, DirZ.mk.injEq, true_and, and_true, true_or, or_true] <;> omega
    · have h : j + 1 = n := h
      obtain rfl | rfl | rfl | rfl | rfl | rfl : f = 0 ∨ f = 1 ∨ f = 2 ∨ f = 3 ∨ f = 4 ∨ f = 5 := by omega
      all_goals
        simp only [nbE, nbT, putS, flipK, alongS, endA, endB, dirF, DirZ.mk.injEq, true_and, and_true, true_or, or_true] <;> omega
    · have h : i = 0 := h
      obtain rfl | rfl | rfl | rfl | rfl | rfl : f = 0 ∨ f = 1 ∨ f = 2 ∨ f = 3 ∨ f = 4 ∨ f = 5 := by omega
      all_goals
        simp only [nbE, nbT, putS, flipK, alongS, endA, endB, dirF, DirZ.mk.injEq, true_and, and_true, true_or, or_true] <;> omega
    · have h : j = 0 := h
      obtain rfl | rfl | rfl | rfl | rfl | rfl : f = 0 ∨ f = 1 ∨ f = 2 ∨ f = 3 ∨ f = 4 ∨ f = 5 := by omega
      all_goals
        simp only [nbE, nbT, putS, flipK, alongS, endA, endB, dirF, DirZ.mk.injEq, true_and, and_true, true_or, or_true] <;> omega
  · left
    obtain rfl | rfl | rfl | rfl : s = 0 ∨ s = 1 ∨ s = 2 ∨ s = 3 := by omega
    · have h : ¬ i + 1 = n := h
      rw [show nb n f i j 0 = (f, i + 1, j, 2) from if_pos (by omega)]
      exact ⟨rfl, rfl⟩
    · have h : ¬ j + 1 = n := h
      rw [show nb n f i j 1 = (f, i, j + 1, 3) from if_pos (by omega)]
      exact ⟨rfl, rfl⟩
    · have h : ¬ i = 0 := h
      rw [show nb n f i j 2 = (f, i - 1, j, 0) from if_pos (by omega)]
      obtain ⟨i, rfl⟩ : ∃ k, i = k + 1 := ⟨i - 1, by omega⟩
      exact ⟨rfl, rfl⟩
    · have h : ¬ j = 0 := h
      rw [show nb n f i j 3 = (f, i, j - 1, 1) from if_pos (by omega)]
      obtain ⟨j, rfl⟩ : ∃ k, j = k + 1 := ⟨j - 1, by omega⟩
      exact ⟨rfl, rfl⟩
/-- A difference the other way round. -/
theorem sub_swap {a b D : Nat} {s : Bool} (hD : D < infR) (h : canonF (fsub (some a) (some b)) = cw s D) : canonF (fsub (some b) (some a)) = negF (canonF (fsub (some a) (some b))) := by
  have hi := infR_eq
  rw [fsub_is b a, sum_comm]
  rw [fsub_is] at h ⊢
  rcases sum_opp (f64.read a) (f64.read b).opposite with ⟨h1, _⟩ | ⟨d, h1, h2⟩
  · exfalso
    rw [h1] at h
    have hq : canonF (Option.map f64.write none) = qn := rfl
    rw [hq] at h
    have hqn : qn = 9221120237041090561 ∨ qn = 9221120237041090560 := by decide
    unfold cw at h
    split at h
    · omega
    · cases s
      · rw [wd_false] at h; omega
      · rw [wd_true] at h; omega
  · rw [opp_opp] at h2
    obtain ⟨c1, c2⟩ := canon_write d (nan_sum h1)
    rw [h1, Option.map_some]
    rcases h2 with h2 | ⟨s1, s2, e, rfl, h2⟩
    · rw [h2, Option.map_some]; exact c2
    · rw [h2, Option.map_some, canon_zero _ rfl, canon_zero _ rfl, negF_0]
theorem lenF_neg {a b c : Nat} (ha : Good a) (hb : Good b) (hc : Good c) : lenF ⟨negF a, negF b, negF c⟩ = lenF ⟨a, b, c⟩ := by
  unfold lenF
  simp only [sq_neg ha, sq_neg hb, sq_neg hc]
theorem sub_lt {D : Nat} {v : Rat} (h : (v = 0 ∧ D = 0) ∨ ∃ a, (a = v ∨ a = -v) ∧ (2 : Rat) ^ (-75 : Int) ≤ a ∧ a ≤ 6 ∧ Near D a) : D < infR := by
  rcases h with ⟨_, rfl⟩ | ⟨a, _, _, _, h⟩
  · decide
  · exact h.1
theorem gap_symm {n : Nat} {a b : DirZ} (hn : 1 ≤ n) (hn' : n ≤ 32) (ha : OnCube n a) (hb : OnCube n b) : gapF (unitF (vecW n b)) (unitF (vecW n a)) = gapF (unitF (vecW n a)) (unitF (vecW n b)) := by
  obtain ⟨L, A, B, C, _, _, _, e1, ⟨a1, _⟩, ⟨b1, _⟩, ⟨c1, _⟩⟩ := unit_dir hn hn' ha
  obtain ⟨L', A', B', C', _, _, _, e1', ⟨a1', _⟩, ⟨b1', _⟩, ⟨c1', _⟩⟩ := unit_dir hn hn' hb
  rw [e1, e1']
  obtain ⟨r1, D1, d1, k1⟩ := sub_near (decide (a.x < 0)) (decide (b.x < 0)) a1 a1'
  obtain ⟨r2, D2, d2, k2⟩ := sub_near (decide (a.y < 0)) (decide (b.y < 0)) b1 b1'
  obtain ⟨r3, D3, d3, k3⟩ := sub_near (decide (a.z < 0)) (decide (b.z < 0)) c1 c1'
  have l1 := sub_lt k1
  have l2 := sub_lt k2
  have l3 := sub_lt k3
  have s1 := sub_swap l1 d1
  have s2 := sub_swap l2 d2
  have s3 := sub_swap l3 d3
  unfold gapF minusF
  simp only [s1, s2, s3, d1, d2, d3]
  exact lenF_neg ⟨_, _, Nat.le_of_lt l1, rfl⟩ ⟨_, _, Nat.le_of_lt l2, rfl⟩ ⟨_, _, Nat.le_of_lt l3, rfl⟩
theorem endA_on {n f i j s : Nat} (hi : i < n) (hj : j < n) : OnCube n (endA n f i j s) ∧ OnCube n (endB n f i j s) := by
  match s with
  | 0 => exact ⟨onCube f (by omega) (by omega), onCube f (by omega) (by omega)⟩
  | 1 => exact ⟨onCube f (by omega) (by omega), onCube f (by omega) (by omega)⟩
  | 2 => exact ⟨onCube f (by omega) (by omega), onCube f (by omega) (by omega)⟩
  | s + 3 => exact ⟨onCube f (by omega) (by omega), onCube f (by omega) (by omega)⟩
/-- A side is as long from the other cell. -/
theorem lenS_nb {n f i j s : Nat} (hn : 1 ≤ n) (hn' : n ≤ 32) (hf : f < 6) (hi : i < n) (hj : j < n) (hs : s < 4) :
    lenS n (nb n f i j s).1 (nb n f i j s).2.1 (nb n f i j s).2.2.1 (nb n f i j s).2.2.2 = lenS n f i j s := by
  obtain ⟨k1, k2, k3, k4⟩ := nb_lt (s := s) hf hi hj
  have o := endA_on (f := f) (s := s) hi hj
  rw [lenS_ends hn hn' k2 k3, lenS_ends hn hn' hi hj]
  rcases ends_nb hf hi hj hs with ⟨h1, h2⟩ | ⟨h1, h2⟩
  · rw [h1, h2]
  · rw [h1, h2]
    exact gap_symm hn hn' o.1 o.2
theorem gapS_nb {n f i j s : Nat} (hn : 1 ≤ n) (hn' : n ≤ 32) (hf : f < 6) (hi : i < n) (hj : j < n) (hs : s < 4) :
    gapS n (nb n f i j s).1 (nb n f i j s).2.1 (nb n f i j s).2.2.1 (nb n f i j s).2.2.2 = gapS n f i j s := by
  obtain ⟨k1, k2, k3, k4⟩ := nb_lt (s := s) hf hi hj
  have hb := nb_back hf hi hj hs
  unfold gapS
  rw [hb]
  simp only
  rw [middle_dir hn hn' hi hj, middle_dir hn hn' k2 k3]
  exact gap_symm hn hn' (onCube f (by omega) (by omega)) (onCube _ (by omega) (by omega))
end Go.Proofs.YtbfdbpmdibjanaaDoor
