/- Cells behind a turn, by their numbers. No condition. -/
import Derived.Test.YtemaeembndobaaaGreatDoorTt
import Derived.Test.YtemaeembndobaaaGreatDoorRa
namespace Go.Proofs.YtemaeembndobaaaGreatDoor
open Go Go.Eng
set_option maxRecDepth 100000
set_option linter.unusedSimpArgs false
set_option linter.unusedVariables false

def tC (n t c : Nat) : Nat := cellN n (fa t (c / (n * n))) (rotI n (qu t (c / (n * n))) (c % n) (c / n % n)) (rotJ n (qu t (c / (n * n))) (c % n) (c / n % n))
def tQ (n t c : Nat) : Nat := qu t (c / (n * n))
theorem fa_inj : ∀ t, t < 24 → ∀ f, f < 6 → ∀ g, g < 6 → fa t f = fa t g → f = g := by decide +kernel
section
variable {n t c : Nat} (hn : 1 ≤ n) (hn' : n ≤ 32) (ht : t < 24) (hc : c < 6 * (n * n))
include hn ht hc
omit ht in
theorem tC_parts : tC n t c / (n * n) = fa t (c / (n * n)) ∧ tC n t c % n = rotI n (qu t (c / (n * n))) (c % n) (c / n % n) ∧ tC n t c / n % n = rotJ n (qu t (c / (n * n))) (c % n) (c / n % n) := by
  obtain ⟨_, a2, a3, a4⟩ := cell_parts hn hc
  obtain ⟨r1, r2⟩ := rot_lt (q := qu t (c / (n * n))) a3 a4
  exact cellN_parts r1 r2
theorem tC_lt : tC n t c < 6 * (n * n) ∧ tQ n t c < 4 := by
  obtain ⟨_, a2, a3, a4⟩ := cell_parts hn hc
  obtain ⟨hg, hq⟩ := fa_lt t ht _ a2
  obtain ⟨r1, r2⟩ := rot_lt (q := qu t (c / (n * n))) a3 a4
  exact ⟨cellN_lt hg r1 r2, hq⟩
include hn' in
theorem tC_area : areaC n (tC n t c) = areaC n c := by
  obtain ⟨_, a2, a3, a4⟩ := cell_parts hn hc
  obtain ⟨u1, u2, u3⟩ := tC_parts hn hc
  unfold areaC
  rw [u1, u2, u3]
  exact area_turn hn hn' ht a2 a3 a4
theorem tC_nb {s : Nat} (hs : s < 4) : nbC n (tC n t c) ((s + tQ n t c) % 4) = (tC n t (nbC n c s).1, ((nbC n c s).2 + tQ n t (nbC n c s).1) % 4) := by
  obtain ⟨_, a2, a3, a4⟩ := cell_parts hn hc
  obtain ⟨u1, u2, u3⟩ := tC_parts hn hc
  have hnb := nb_turn (n := n) (t := t) ht a2 a3 a4 hs
  obtain ⟨k1, k2, k3, k4⟩ := nb_lt (s := s) a2 a3 a4
  unfold nbC tQ
  rw [u1, u2, u3, hnb]
  generalize nb n (c / (n * n)) (c % n) (c / n % n) s = x at *
  obtain ⟨p1, p2, p3⟩ := cellN_parts (f := x.1) k2 k3
  show (cellN n (fa t x.1) (rotI n (qu t x.1) x.2.1 x.2.2.1) (rotJ n (qu t x.1) x.2.1 x.2.2.1), (x.2.2.2 + qu t x.1) % 4) = (tC n t (cellN n x.1 x.2.1 x.2.2.1), (x.2.2.2 + qu t (cellN n x.1 x.2.1 x.2.2.1 / (n * n))) % 4)
  unfold tC
  rw [p1, p2, p3]
theorem tC_inj {d : Nat} (hd : d < 6 * (n * n)) (h : tC n t c = tC n t d) : c = d := by
  obtain ⟨e1, a2, a3, a4⟩ := cell_parts hn hc
  obtain ⟨e2, b2, b3, b4⟩ := cell_parts hn hd
  obtain ⟨u1, u2, u3⟩ := tC_parts hn hc
  obtain ⟨v1, v2, v3⟩ := tC_parts hn hd
  rw [h] at u1 u2 u3
  have hf := fa_inj t ht _ a2 _ b2 (u1.symm.trans v1)
  rw [hf] at u2 u3
  have hi := u2.symm.trans v2
  have hj := u3.symm.trans v3
  have key : c % n = d % n ∧ c / n % n = d / n % n := by
    generalize qu t (d / (n * n)) = q at *
    generalize c % n = i at *
    generalize c / n % n = j at *
    generalize d % n = i' at *
    generalize d / n % n = j' at *
    unfold rotI at hi
    unfold rotJ at hj
    split at hi
    · rename_i h0; subst h0; simp at hj; omega
    · split at hi
      · rename_i h0; subst h0; simp at hj; omega
      · split at hi
        · rename_i h0; subst h0; simp at hj; omega
        · rename_i h0 h1 h2; rw [if_neg h0, if_neg h1, if_neg h2, if_neg h0, if_neg h1, if_neg h2] at hj; omega
  rw [e1, e2, hf, key.1, key.2]
end
/-! ### A list that is turned -/
def tl {α : Type} (z : α) (n t : Nat) (v : Nat → α) : Nat → List α
  | 0 => List.replicate (6 * (n * n)) z
  | k + 1 => (tl z n t v k).set (tC n t k) (v k)
theorem tl_len {α : Type} (z : α) (n t : Nat) (v : Nat → α) : ∀ k, (tl z n t v k).length = 6 * (n * n)
  | 0 => List.length_replicate
  | k + 1 => by rw [tl, List.length_set, tl_len z n t v k]
theorem tl_get {α : Type} {z : α} {n t : Nat} {v : Nat → α} (hn : 1 ≤ n) (ht : t < 24) : ∀ k, k ≤ 6 * (n * n) → ∀ c, c < k → (tl z n t v k).getD (tC n t c) z = v c
  | 0, _, c, h => absurd h (Nat.not_lt_zero c)
  | k + 1, hk, c, h => by
    have l1 := tl_len z n t v k
    have l2 := (tC_lt hn ht (show k < 6 * (n * n) by omega)).1
    rw [tl, List.getD_eq_getElem?_getD, List.getElem?_set]
    by_cases e : tC n t k = tC n t c
    · have := tC_inj hn ht (show k < 6 * (n * n) by omega) (show c < 6 * (n * n) by omega) e
      subst this
      rw [if_pos rfl, if_pos (by omega)]; rfl
    · rw [if_neg e, ← List.getD_eq_getElem?_getD]
      have : c ≠ k := fun h => e (by rw [h])
      exact tl_get hn ht k (by omega) c (by omega)
theorem tl_wf {α : Type} {z : α} {n t : Nat} {v : Nat → α} {p : α → Prop} (hz : p z) (hv : ∀ i, i < 6 * (n * n) → p (v i)) : ∀ k, k ≤ 6 * (n * n) → ∀ i, i < 6 * (n * n) → p ((tl z n t v k).getD i z)
  | 0, _, i, hi => by
    rw [tl, List.getD_eq_getElem?_getD, List.getElem?_replicate, if_pos hi]; exact hz
  | k + 1, hk, i, hi => by
    rw [tl, List.getD_eq_getElem?_getD, List.getElem?_set]
    split
    · split
      · exact hv k (by omega)
      · exact hz
    · rw [← List.getD_eq_getElem?_getD]; exact tl_wf hz hv k (by omega) i hi
/-! ### Depths behind a turn -/
abbrev negT : Nat := 13830554455654793216
section
variable {n t : Nat} (hn : 1 ≤ n) (hn' : n ≤ 32) (ht : t < 24) {Be Be' : List Nat} {Wt Wt' : List Int} (hB : ∀ c, c < 6 * (n * n) → Be'.getD (tC n t c) 0 = Be.getD c 0) (hW : ∀ c, c < 6 * (n * n) → Wt'.getD (tC n t c) 0 = Wt.getD c 0)
include hn hn' ht hB hW
theorem reconW_turn (lim : Int) {a b c : Nat} (ha : a < 6 * (n * n)) (hb : b < 6 * (n * n)) (hc : c < 6 * (n * n)) : reconW n lim Be' Wt' (tC n t a) (tC n t b) (tC n t c) = reconW n lim Be Wt a b c := by
  unfold reconW slantF gateF dpE
  rw [hB a ha, hB b hb, hW a ha, hW b hb, hW c hc, tC_area hn hn' ht ha, tC_area hn hn' ht hb, tC_area hn hn' ht hc]
theorem turned_plain (lim : Int) {k : Nat} {y y' : Ed} {w : Int} (hx : (edges n)[k]? = some y)
    (hw : (w = 1 ∧ y' = (tC n t y.1, (y.2.1 + tQ n t y.1) % 4, (nbC n (tC n t y.1) ((y.2.1 + tQ n t y.1) % 4)).1, (nbC n (tC n t y.1) ((y.2.1 + tQ n t y.1) % 4)).2)) ∨
      (w = -1 ∧ y' = ((nbC n (tC n t y.1) ((y.2.1 + tQ n t y.1) % 4)).1, (nbC n (tC n t y.1) ((y.2.1 + tQ n t y.1) % 4)).2, tC n t y.1, (y.2.1 + tQ n t y.1) % 4))) :
    reconF n lim Be' Wt' y' (if w = 1 then one1 else negT) = reconF n lim Be Wt y one1 ∧ reconF n lim Be' Wt' y' (if w = 1 then negT else one1) = reconF n lim Be Wt y negT := by
  obtain ⟨c1, s1, c12, c2, s2, hnb, _⟩ := edge_of hn hx
  have p1 : fgt (some one1) (some 0) = true := by decide +kernel
  have p2 : ¬ fgt (some negT) (some 0) = true := by decide +kernel
  have p3 : flt (some negT) (some 0) = true := by decide +kernel
  have e1 := tC_nb hn ht c1 s1
  rw [hnb] at e1
  simp only at e1
  have b1 := tC_nb hn ht c1 (s := (y.2.1 + 2) % 4) (Nat.mod_lt _ (by decide))
  have b2 := tC_nb hn ht c2 (s := (y.2.2.2 + 2) % 4) (Nat.mod_lt _ (by decide))
  have m1 : ((y.2.1 + tQ n t y.1) % 4 + 2) % 4 = ((y.2.1 + 2) % 4 + tQ n t y.1) % 4 := by omega
  have m2 : ((y.2.2.2 + tQ n t y.2.2.1) % 4 + 2) % 4 = ((y.2.2.2 + 2) % 4 + tQ n t y.2.2.1) % 4 := by omega
  have k1 := (nbC_lt (s := (y.2.1 + 2) % 4) hn c1).1
  have k2 := (nbC_lt (s := (y.2.2.2 + 2) % 4) hn c2).1
  have r1 := reconW_turn hn hn' ht hB hW lim c1 c2 k1
  have r2 := reconW_turn hn hn' ht hB hW lim c2 c1 k2
  unfold reconF
  rcases hw with ⟨rfl, rfl⟩ | ⟨rfl, rfl⟩
  · rw [if_pos rfl, if_pos rfl, if_pos p1, if_pos p1, if_neg p2, if_neg p2, if_pos p3, if_pos p3]
    simp only
    rw [e1]
    simp only
    rw [m1, b1, m2, b2]
    exact ⟨r1, r2⟩
  · have q1 : ¬ ((-1 : Int) = 1) := by decide
    rw [if_neg q1, if_neg q1, if_pos p1, if_pos p1, if_neg p2, if_neg p2, if_pos p3, if_pos p3]
    simp only
    rw [e1]
    simp only
    rw [m1, b1, m2, b2]
    exact ⟨r1, r2⟩
end
end Go.Proofs.YtemaeembndobaaaGreatDoor
