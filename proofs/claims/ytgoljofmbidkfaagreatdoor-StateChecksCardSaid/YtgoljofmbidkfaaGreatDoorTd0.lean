/- Cells behind a turn, by their numbers. No condition. -/
import Derived.Test.YtgoljofmbidkfaaGreatDoorTt0
import Derived.Test.YtgoljofmbidkfaaGreatDoorJ
namespace Go.Proofs.YtgoljofmbidkfaaGreatDoor
open Go Go.Eng
set_option maxRecDepth 100000
set_option linter.unusedSimpArgs false
set_option linter.unusedVariables false

def tC (n t c : Nat) : Nat := cellN n (fa t (c / (n * n))) (rotI n (qu t (c / (n * n))) (c % n) (c / n % n)) (rotJ n (qu t (c / (n * n))) (c % n) (c / n % n))
def tQ (n t c : Nat) : Nat := qu t (c / (n * n))
theorem fa_inj : ∀ t, t < 24 → ∀ f, f < 6 → ∀ g, g < 6 → fa t f = fa t g → f = g := by decide +kernel
section
variable {n t c : Nat} (hn : 1 ≤ n) (ht : t < 24) (hc : c < 6 * (n * n))
include hn ht hc
omit ht in
theorem tC_parts : tC n t c / (n * n) = fa t (c / (n * n)) ∧ tC n t c % n = rotI n (qu t (c / (n * n))) (c % n) (c / n % n) ∧ tC n t c / n % n = rotJ n (qu t (c / (n * n))) (c % n) (c / n % n) := by
  obtain ⟨_, a2, a3, a4⟩ := cell_parts hn hc
  obtain ⟨r1, r2⟩ := rot_lt (q := qu t (c / (n * n))) a3 a4
  exact cellN_parts r1 r2
theorem tC_lt : tC n t c < 6 * (n * n) ∧ tQ n t c < 4 := by
  obtain ⟨_, a2, a3, a4⟩ := cell_parts hn hc
  obtain ⟨hg, hq⟩ := fa_lt t ht _ a2
  obtain ⟨r1, r2⟩ := rot_lt (q := qu t (c / (n * n))) a3 a4
  exact ⟨cellN_lt hg r1 r2, hq⟩
theorem tC_nb {s : Nat} (hs : s < 4) : nbC n (tC n t c) ((s + tQ n t c) % 4) = (tC n t (nbC n c s).1, ((nbC n c s).2 + tQ n t (nbC n c s).1) % 4) := by
  obtain ⟨_, a2, a3, a4⟩ := cell_parts hn hc
  obtain ⟨u1, u2, u3⟩ := tC_parts hn hc
  have hnb := nb_turn (n := n) (t := t) ht a2 a3 a4 hs
  obtain ⟨k1, k2, k3, k4⟩ := nb_lt (s := s) a2 a3 a4
  unfold nbC tQ
  rw [u1, u2, u3, hnb]
  generalize nb n (c / (n * n)) (c % n) (c / n % n) s = x at *
  obtain ⟨p1, p2, p3⟩ := cellN_parts (f := x.1) k2 k3
  show (cellN n (fa t x.1) (rotI n (qu t x.1) x.2.1 x.2.2.1) (rotJ n (qu t x.1) x.2.1 x.2.2.1), (x.2.2.2 + qu t x.1) % 4) = (tC n t (cellN n x.1 x.2.1 x.2.2.1), (x.2.2.2 + qu t (cellN n x.1 x.2.1 x.2.2.1 / (n * n))) % 4)
  unfold tC
  rw [p1, p2, p3]
theorem tC_inj {d : Nat} (hd : d < 6 * (n * n)) (h : tC n t c = tC n t d) : c = d := by
  obtain ⟨e1, a2, a3, a4⟩ := cell_parts hn hc
  obtain ⟨e2, b2, b3, b4⟩ := cell_parts hn hd
  obtain ⟨u1, u2, u3⟩ := tC_parts hn hc
  obtain ⟨v1, v2, v3⟩ := tC_parts hn hd
  rw [h] at u1 u2 u3
  have hf := fa_inj t ht _ a2 _ b2 (u1.symm.trans v1)
  rw [hf] at u2 u3
  have hi := u2.symm.trans v2
  have hj := u3.symm.trans v3
  have key : c % n = d % n ∧ c / n % n = d / n % n := by
    generalize qu t (d / (n * n)) = q at *
    generalize c % n = i at *
    generalize c / n % n = j at *
    generalize d % n = i' at *
    generalize d / n % n = j' at *
    unfold rotI at hi
    unfold rotJ at hj
    split at hi
    · rename_i h0; subst h0; simp at hj; omega
    · split at hi
      · rename_i h0; subst h0; simp at hj; omega
      · split at hi
        · rename_i h0; subst h0; simp at hj; omega
        · rename_i h0 h1 h2; rw [if_neg h0, if_neg h1, if_neg h2, if_neg h0, if_neg h1, if_neg h2] at hj; omega
  rw [e1, e2, hf, key.1, key.2]
end
/-! ### A list that is turned -/
def tl {α : Type} (z : α) (n t : Nat) (v : Nat → α) : Nat → List α
  | 0 => List.replicate (6 * (n * n)) z
  | k + 1 => (tl z n t v k).set (tC n t k) (v k)
theorem tl_len {α : Type} (z : α) (n t : Nat) (v : Nat → α) : ∀ k, (tl z n t v k).length = 6 * (n * n)
  | 0 => List.length_replicate
  | k + 1 => by rw [tl, List.length_set, tl_len z n t v k]
theorem tl_get {α : Type} {z : α} {n t : Nat} {v : Nat → α} (hn : 1 ≤ n) (ht : t < 24) : ∀ k, k ≤ 6 * (n * n) → ∀ c, c < k → (tl z n t v k).getD (tC n t c) z = v c
  | 0, _, c, h => absurd h (Nat.not_lt_zero c)
  | k + 1, hk, c, h => by
    have l1 := tl_len z n t v k
    have l2 := (tC_lt hn ht (show k < 6 * (n * n) by omega)).1
    rw [tl, List.getD_eq_getElem?_getD, List.getElem?_set]
    by_cases e : tC n t k = tC n t c
    · have := tC_inj hn ht (show k < 6 * (n * n) by omega) (show c < 6 * (n * n) by omega) e
      subst this
      rw [if_pos rfl, if_pos (by omega)]; rfl
    · rw [if_neg e, ← List.getD_eq_getElem?_getD]
      have : c ≠ k := fun h => e (by rw [h])
      exact tl_get hn ht k (by omega) c (by omega)
theorem tl_wf {α : Type} {z : α} {n t : Nat} {v : Nat → α} {p : α → Prop} (hz : p z) (hv : ∀ i, i < 6 * (n * n) → p (v i)) : ∀ k, k ≤ 6 * (n * n) → ∀ i, i < 6 * (n * n) → p ((tl z n t v k).getD i z)
  | 0, _, i, hi => by
    rw [tl, List.getD_eq_getElem?_getD, List.getElem?_replicate, if_pos hi]; exact hz
  | k + 1, hk, i, hi => by
    rw [tl, List.getD_eq_getElem?_getD, List.getElem?_set]
    split
    · split
      · exact hv k (by omega)
      · exact hz
    · rw [← List.getD_eq_getElem?_getD]; exact tl_wf hz hv k (by omega) i hi
end Go.Proofs.YtgoljofmbidkfaaGreatDoor
