/- Turns of a net, in plain numbers: cells beside one another stay so. No condition. -/
import Derived.Test.YtgoljofmbidkfaaGreatDoorTu
import Derived.Test.YtgoljofmbidkfaaGreatDoorZa
namespace Go.Proofs.YtgoljofmbidkfaaGreatDoor
open Go Go.Eng
set_option maxRecDepth 100000
set_option linter.unusedSimpArgs false
set_option linter.unusedVariables false

/-- Does a turn by q sides turn about what runs along side s? -/
def flq (s q : Nat) : Bool := if q = 0 then false else if q = 1 then s % 2 == 0 else if q = 2 then true else s % 2 == 1
theorem four {s : Nat} (h : s < 4) : s = 0 ∨ s = 1 ∨ s = 2 ∨ s = 3 := by omega
theorem al_rot {n i j s q : Nat} (hi : i < n) (hj : j < n) (hs : s < 4) (hq : q < 4) : alongS (rotI n q i j) (rotJ n q i j) ((s + q) % 4) = flipK n (alongS i j s) (flq s q) := by
  obtain rfl | rfl | rfl | rfl := four hs <;> obtain rfl | rfl | rfl | rfl := four hq <;> rfl
theorem put_rot {n k b q : Nat} (hk : k < n) (hb : b < 4) (hq : q < 4) : (rotI n q (putS n k b).1 (putS n k b).2, rotJ n q (putS n k b).1 (putS n k b).2) = putS n (flipK n k (flq b q)) ((b + q) % 4) := by
  obtain rfl | rfl | rfl | rfl := four hb <;> obtain rfl | rfl | rfl | rfl := four hq <;> (refine Prod.ext ?_ ?_ <;> simp only [rotI, rotJ, putS, flipK, flq, if_true, if_false, Nat.reduceEqDiff, Nat.reduceAdd, Nat.reduceMod, reduceIte, Nat.reduceBEq, beq_self_eq_true] <;> omega)
theorem flip_two {n k : Nat} (hk : k < n) (a b : Bool) : flipK n (flipK n k a) b = flipK n k (a ^^ b) := by
  cases a <;> cases b <;> simp [flipK] <;> omega
theorem turn_nbT : ∀ t, t < 24 → ∀ f, f < 6 → ∀ s, s < 4 → nbT (fa t f) ((s + qu t f) % 4) = (fa t (nbT f s).1, ((nbT f s).2.1 + qu t (nbT f s).1) % 4, ((nbT f s).2.2 ^^ flq s (qu t f)) ^^ flq (nbT f s).2.1 (qu t (nbT f s).1)) := by decide +kernel
theorem nbT_bd : ∀ f, f < 6 → ∀ s, s < 4 → (nbT f s).1 < 6 ∧ (nbT f s).2.1 < 4 := by decide
theorem atE_rot {n i j s q : Nat} (hi : i < n) (hj : j < n) (hs : s < 4) (hq : q < 4) : atE n (rotI n q i j) (rotJ n q i j) ((s + q) % 4) ↔ atE n i j s := by
  obtain rfl | rfl | rfl | rfl := four hs <;> obtain rfl | rfl | rfl | rfl := four hq <;>
    (simp only [atE, rotI, rotJ, if_true, if_false, Nat.reduceEqDiff, Nat.reduceAdd, Nat.reduceMod, reduceIte] <;> omega)
theorem nb_in {n f i j s : Nat} (hi : i < n) (hj : j < n) (hs : s < 4) (h : ¬ atE n i j s) : nb n f i j s = (f, (if s = 0 then i + 1 else if s = 2 then i - 1 else i), (if s = 1 then j + 1 else if s = 3 then j - 1 else j), (s + 2) % 4) := by
  obtain rfl | rfl | rfl | rfl := four hs
  · have h : ¬ i + 1 = n := h
    show (if i + 1 < n then _ else _) = _
    rw [if_pos (by omega)]; rfl
  · have h : ¬ j + 1 = n := h
    show (if j + 1 < n then _ else _) = _
    rw [if_pos (by omega)]; rfl
  · have h : ¬ i = 0 := h
    show (if 0 < i then _ else _) = _
    rw [if_pos (by omega)]; rfl
  · have h : ¬ j = 0 := h
    show (if 0 < j then _ else _) = _
    rw [if_pos (by omega)]; rfl
theorem rot_lt {n q i j : Nat} (hi : i < n) (hj : j < n) : rotI n q i j < n ∧ rotJ n q i j < n := by
  unfold rotI rotJ
  constructor <;> (repeat' split) <;> omega
/-- Where a turn takes a side of a cell. -/
def tuS (n t : Nat) (x : Nat × Nat × Nat × Nat) : Nat × Nat × Nat × Nat := (fa t x.1, rotI n (qu t x.1) x.2.1 x.2.2.1, rotJ n (qu t x.1) x.2.1 x.2.2.1, (x.2.2.2 + qu t x.1) % 4)
theorem nb_turn {n t f i j s : Nat} (ht : t < 24) (hf : f < 6) (hi : i < n) (hj : j < n) (hs : s < 4) :
    nb n (fa t f) (rotI n (qu t f) i j) (rotJ n (qu t f) i j) ((s + qu t f) % 4) = tuS n t (nb n f i j s) := by
  obtain ⟨hg, hq⟩ := fa_lt t ht f hf
  have hs' : (s + qu t f) % 4 < 4 := Nat.mod_lt _ (by decide)
  obtain ⟨r1, r2⟩ := rot_lt (q := qu t f) hi hj
  by_cases h : atE n i j s
  · rw [nb_at ((atE_rot hi hj hs hq).2 h) hs', nb_at h hs]
    obtain ⟨b1, b2⟩ := nbT_bd f hf s hs
    obtain ⟨_, b3⟩ := fa_lt t ht _ b1
    have ha : alongS i j s < n := by unfold alongS; split <;> assumption
    have hfl : flipK n (alongS i j s) (nbT f s).2.2 < n := by unfold flipK; split <;> omega
    have hp := put_rot hfl b2 b3
    unfold nbE tuS
    rw [turn_nbT t ht f hf s hs, al_rot hi hj hs hq]
    simp only
    rw [flip_two ha]
    rw [flip_two ha] at hp
    rw [show (flq s (qu t f) ^^ (((nbT f s).2.2 ^^ flq s (qu t f)) ^^ flq (nbT f s).2.1 (qu t (nbT f s).1))) = ((nbT f s).2.2 ^^ flq (nbT f s).2.1 (qu t (nbT f s).1)) by
      generalize (nbT f s).2.2 = a
      generalize flq s (qu t f) = b
      generalize flq (nbT f s).2.1 (qu t (nbT f s).1) = c
      cases a <;> cases b <;> cases c <;> rfl]
    rw [← hp]
  · have h' : ¬ atE n (rotI n (qu t f) i j) (rotJ n (qu t f) i j) ((s + qu t f) % 4) := fun k => h ((atE_rot hi hj hs hq).1 k)
    rw [nb_in r1 r2 hs' h', nb_in hi hj hs h]
    unfold tuS
    simp only
    generalize qu t f = q at *
    obtain rfl | rfl | rfl | rfl := four hs <;> obtain rfl | rfl | rfl | rfl := four hq <;>
      (simp only [atE] at h
       refine Prod.ext rfl (Prod.ext ?_ (Prod.ext ?_ rfl)) <;>
        simp only [rotI, rotJ, if_true, if_false, Nat.reduceEqDiff, Nat.reduceAdd, Nat.reduceMod, reduceIte] <;> omega)
end Go.Proofs.YtgoljofmbidkfaaGreatDoor
