/- Lists whose places are written anew one by one. No condition. -/
import Derived.Test.YtemaeembndobaaaGreatDoorLv
namespace Go.Proofs.YtemaeembndobaaaGreatDoor
open Go Go.Eng
set_option maxRecDepth 100000
set_option linter.unusedSimpArgs false
set_option linter.unusedVariables false

section
variable {α : Type}
/-- A list whose first k places are new where P says so. -/
def updT (d : α) (l : List α) (P : Nat → Bool) (G : Nat → α) (k : Nat) : List α := tab l.length fun i => if i < k ∧ P i = true then G i else l.getD i d
theorem upd_len (d : α) (l : List α) (P : Nat → Bool) (G : Nat → α) (k : Nat) : (updT d l P G k).length = l.length := tab_len _ _
theorem upd_0 (d : α) (l : List α) (P : Nat → Bool) (G : Nat → α) : updT d l P G 0 = l := by
  conv => rhs; rw [tab_list l d]
  exact tab_congr fun i _ => by rw [if_neg (by omega)]
theorem upd_set {d : α} {l : List α} {P : Nat → Bool} {G : Nat → α} {k : Nat} (hp : P k = true) : (updT d l P G k).set k (G k) = updT d l P G (k + 1) := by
  unfold updT
  rw [tab_set]
  refine tab_congr fun i _ => ?_
  by_cases h : i = k
  · subst h; rw [if_pos rfl, if_pos ⟨by omega, hp⟩]
  · rw [if_neg h]
    by_cases h2 : i < k ∧ P i = true
    · rw [if_pos h2, if_pos ⟨by omega, h2.2⟩]
    · rw [if_neg h2, if_neg (fun h3 => h2 ⟨by omega, h3.2⟩)]
theorem upd_skip {d : α} {l : List α} {P : Nat → Bool} {G : Nat → α} {k : Nat} (hp : P k = false) : updT d l P G k = updT d l P G (k + 1) := by
  refine tab_congr fun i _ => ?_
  by_cases h2 : i < k ∧ P i = true
  · rw [if_pos h2, if_pos ⟨by omega, h2.2⟩]
  · rw [if_neg h2, if_neg]
    intro h3
    rcases Nat.lt_or_ge i k with h | h
    · exact h2 ⟨h, h3.2⟩
    · obtain rfl : i = k := by omega
      have := h3.2
      rw [hp] at this
      cases this
theorem upd_at {d : α} {l : List α} {P : Nat → Bool} {G : Nat → α} {k i : Nat} (hi : i < l.length) (hp : P i = false) : (updT d l P G k).getD i d = l.getD i d := by
  unfold updT
  rw [tab_get hi, if_neg (fun h => by rw [hp] at h; cases h.2)]
theorem upd_wf {d : α} {l : List α} {P : Nat → Bool} {G : Nat → α} {k : Nat} {p : α → Prop} (h : ∀ i, i < l.length → p (l.getD i d)) (hg : ∀ i, i < l.length → p (G i)) : ∀ i, i < (updT d l P G k).length → p ((updT d l P G k).getD i d) := by
  intro i hi
  rw [upd_len] at hi
  unfold updT
  rw [tab_get hi]
  split
  · exact hg i hi
  · exact h i hi
end
theorem rem_nat {c m : Nat} : Int.tmod (c : Int) (m : Int) = ((c % m : Nat) : Int) := by
  rw [Int.tmod_eq_emod_of_nonneg (by omega)]; rfl
end Go.Proofs.YtemaeembndobaaaGreatDoor
