/- The neighbours of a cell: back again, and apart. No condition. -/
import Derived.Test.YtgoljofmbidkfaaGreatDoorL
namespace Go.Proofs.YtgoljofmbidkfaaGreatDoor
open Go Go.Eng
set_option maxRecDepth 100000
set_option linter.unusedSimpArgs false
set_option linter.unusedVariables false

/-! ### Beside, and back -/
theorem nbT_back : ∀ f, f < 6 → ∀ s, s < 4 → nbT (nbT f s).1 (nbT f s).2.1 = (f, s, (nbT f s).2.2) ∧ (nbT f s).1 ≠ f ∧ (nbT f s).1 ≠ (nbT f ((s + 2) % 4)).1 := by decide
theorem flip_flip {n k : Nat} (h : k < n) (b : Bool) : flipK n (flipK n k b) b = k := by
  cases b
  · rfl
  · show n - 1 - (n - 1 - k) = k; omega
theorem flip_lt {n k : Nat} (h : k < n) (b : Bool) : flipK n k b < n := by
  cases b
  · exact h
  · show n - 1 - k < n; omega
theorem along_put (n k s : Nat) (hs : s < 4) : alongS (putS n k s).1 (putS n k s).2 s = k := by
  obtain rfl | rfl | rfl | rfl : s = 0 ∨ s = 1 ∨ s = 2 ∨ s = 3 := by omega
  all_goals rfl
/-- Is the cell at the face's edge, on this side? -/
def atE (n i j : Nat) : Nat → Prop
  | 0 => i + 1 = n
  | 1 => j + 1 = n
  | 2 => i = 0
  | _ => j = 0
theorem put_along {n i j s : Nat} (h : atE n i j s) (hs : s < 4) : putS n (alongS i j s) s = (i, j) := by
  obtain rfl | rfl | rfl | rfl : s = 0 ∨ s = 1 ∨ s = 2 ∨ s = 3 := by omega
  · have h : i + 1 = n := h
    show (n - 1, j) = _
    rw [← h]; rfl
  · have h : j + 1 = n := h
    show (i, n - 1) = _
    rw [← h]; rfl
  · have h : i = 0 := h
    show (0, j) = _
    rw [h]
  · have h : j = 0 := h
    show (i, 0) = _
    rw [h]
theorem atE_put {n k s : Nat} (hk : k < n) (hs : s < 4) : atE n (putS n k s).1 (putS n k s).2 s := by
  obtain rfl | rfl | rfl | rfl : s = 0 ∨ s = 1 ∨ s = 2 ∨ s = 3 := by omega
  · show n - 1 + 1 = n; omega
  · show n - 1 + 1 = n; omega
  · rfl
  · rfl
theorem nb_at {n f i j s : Nat} (h : atE n i j s) (hs : s < 4) : nb n f i j s = nbE n f i j s := by
  obtain rfl | rfl | rfl | rfl : s = 0 ∨ s = 1 ∨ s = 2 ∨ s = 3 := by omega
  · have h : i + 1 = n := h; exact if_neg (by omega)
  · have h : j + 1 = n := h; exact if_neg (by omega)
  · have h : i = 0 := h; exact if_neg (by omega)
  · have h : j = 0 := h; exact if_neg (by omega)
theorem nbE_back {n f i j s : Nat} (hf : f < 6) (hi : i < n) (hj : j < n) (hs : s < 4) (h : atE n i j s) :
    nb n (nbE n f i j s).1 (nbE n f i j s).2.1 (nbE n f i j s).2.2.1 (nbE n f i j s).2.2.2 = (f, i, j, s) := by
  obtain ⟨h1, _, _⟩ := nbT_back f hf s hs
  have ha : alongS i j s < n := by unfold alongS; split <;> assumption
  have hb : (nbT f s).2.1 < 4 := (nbT_lt f s).2
  have hk := flip_lt ha (nbT f s).2.2
  show nb n (nbT f s).1 (putS n (flipK n (alongS i j s) (nbT f s).2.2) (nbT f s).2.1).1 (putS n (flipK n (alongS i j s) (nbT f s).2.2) (nbT f s).2.1).2 (nbT f s).2.1 = _
  rw [nb_at (atE_put hk hb) hb]
  unfold nbE
  rw [along_put n _ _ hb, h1]
  simp only
  rw [flip_flip ha, put_along h hs]
theorem nb_back {n f i j s : Nat} (hf : f < 6) (hi : i < n) (hj : j < n) (hs : s < 4) :
    nb n (nb n f i j s).1 (nb n f i j s).2.1 (nb n f i j s).2.2.1 (nb n f i j s).2.2.2 = (f, i, j, s) := by
  by_cases h : atE n i j s
  · rw [nb_at h hs]; exact nbE_back hf hi hj hs h
  · obtain rfl | rfl | rfl | rfl : s = 0 ∨ s = 1 ∨ s = 2 ∨ s = 3 := by omega
    · have h : ¬ i + 1 = n := h
      rw [show nb n f i j 0 = (f, i + 1, j, 2) from if_pos (by omega)]
      show nb n f (i + 1) j 2 = _
      rw [show nb n f (i + 1) j 2 = (f, i + 1 - 1, j, 0) from rfl, show i + 1 - 1 = i by omega]
    · have h : ¬ j + 1 = n := h
      rw [show nb n f i j 1 = (f, i, j + 1, 3) from if_pos (by omega)]
      show nb n f i (j + 1) 3 = _
      rw [show nb n f i (j + 1) 3 = (f, i, j + 1 - 1, 1) from rfl, show j + 1 - 1 = j by omega]
    · have h : ¬ i = 0 := h
      rw [show nb n f i j 2 = (f, i - 1, j, 0) from if_pos (by omega)]
      show nb n f (i - 1) j 0 = _
      rw [show nb n f (i - 1) j 0 = (f, i - 1 + 1, j, 2) from if_pos (by omega), show i - 1 + 1 = i by omega]
    · have h : ¬ j = 0 := h
      rw [show nb n f i j 3 = (f, i, j - 1, 1) from if_pos (by omega)]
      show nb n f i (j - 1) 1 = _
      rw [show nb n f i (j - 1) 1 = (f, i, j - 1 + 1, 3) from if_pos (by omega), show j - 1 + 1 = j by omega]
theorem nb_cell {n f i j s : Nat} (hf : f < 6) (hi : i < n) (hj : j < n) (hs : s < 4) : ((nb n f i j s).1, (nb n f i j s).2.1, (nb n f i j s).2.2.1) ≠ (f, i, j) ∧
    ((nb n f i j s).1, (nb n f i j s).2.1, (nb n f i j s).2.2.1) ≠ ((nb n f i j ((s + 2) % 4)).1, (nb n f i j ((s + 2) % 4)).2.1, (nb n f i j ((s + 2) % 4)).2.2.1) := by
  have hT := nbT_back f hf s hs
  have hT2 := nbT_back f hf ((s + 2) % 4) (by omega)
  have hfe : ∀ s, (nbE n f i j s).1 = (nbT f s).1 := fun _ => rfl
  have hcase : ∀ s, s < 4 → (nb n f i j s).1 = (nbT f s).1 ∧ atE n i j s ∨ (nb n f i j s).1 = f ∧ ¬ atE n i j s ∧ (nb n f i j s).2.1 + (nb n f i j s).2.2.1 ≠ i + j ∧ ((s = 0 ∨ s = 1) → (nb n f i j s).2.1 + (nb n f i j s).2.2.1 = i + j + 1) ∧ ((s = 2 ∨ s = 3) → (nb n f i j s).2.1 + (nb n f i j s).2.2.1 + 1 = i + j) := by
    intro s hs
    by_cases h : atE n i j s
    · exact .inl ⟨by rw [nb_at h hs]; rfl, h⟩
    · refine .inr ?_
      obtain rfl | rfl | rfl | rfl : s = 0 ∨ s = 1 ∨ s = 2 ∨ s = 3 := by omega
      · have h' : ¬ i + 1 = n := h
        rw [show nb n f i j 0 = (f, i + 1, j, 2) from if_pos (by omega)]
        exact ⟨rfl, h, by simp only; omega, by simp only; omega, by omega⟩
      · have h' : ¬ j + 1 = n := h
        rw [show nb n f i j 1 = (f, i, j + 1, 3) from if_pos (by omega)]
        exact ⟨rfl, h, by simp only; omega, by simp only; omega, by omega⟩
      · have h' : ¬ i = 0 := h
        rw [show nb n f i j 2 = (f, i - 1, j, 0) from if_pos (by omega)]
        exact ⟨rfl, h, by simp only; omega, by omega, by simp only; omega⟩
      · have h' : ¬ j = 0 := h
        rw [show nb n f i j 3 = (f, i, j - 1, 1) from if_pos (by omega)]
        exact ⟨rfl, h, by simp only; omega, by omega, by simp only; omega⟩
  have h1 := hcase s hs
  have h2 := hcase ((s + 2) % 4) (by omega)
  refine ⟨fun e => ?_, fun e => ?_⟩
  · simp only [Prod.mk.injEq] at e
    rcases h1 with ⟨h1, _⟩ | ⟨_, _, h1, _⟩
    · rw [h1] at e; exact hT.2.1 e.1
    · omega
  · simp only [Prod.mk.injEq] at e
    rcases h1 with ⟨h1, _⟩ | ⟨h1, _, _, h3, h4⟩
    · rcases h2 with ⟨h2, _⟩ | ⟨h2, _⟩
      · rw [h1, h2] at e; exact hT.2.2 e.1
      · rw [h1, h2] at e; exact hT.2.1 e.1
    · rcases h2 with ⟨h2, _⟩ | ⟨h2, _, _, h5, h6⟩
      · rw [h1, h2] at e; exact hT2.2.1 e.1.symm
      · omega
end Go.Proofs.YtgoljofmbidkfaaGreatDoor
