/- The net in plain numbers: sides that lie beside one another, edges, their numbers. No condition. -/
import Derived.Test.YtemaeembndobaaaGreatDoorY
import Derived.Test.YtemaeembndobaaaGreatDoorZa
namespace Go.Proofs.YtemaeembndobaaaGreatDoor
open Go Go.Eng
set_option maxRecDepth 100000
set_option linter.unusedSimpArgs false
set_option linter.unusedVariables false
theorem cellN_parts {n f i j : Nat} (hi : i < n) (hj : j < n) : cellN n f i j / (n * n) = f ∧ cellN n f i j % n = i ∧ cellN n f i j / n % n = j := by
  have hn : 0 < n := by omega
  unfold cellN
  have e1 : ((f * n + j) * n + i) / n = f * n + j := by
    rw [Nat.mul_comm (f * n + j) n, Nat.mul_add_div hn, Nat.div_eq_of_lt hi, Nat.add_zero]
  have e2 : (f * n + j) / n = f := by
    rw [Nat.mul_comm f n, Nat.mul_add_div hn, Nat.div_eq_of_lt hj, Nat.add_zero]
  refine ⟨?_, ?_, ?_⟩
  · rw [← Nat.div_div_eq_div_mul, e1, e2]
  · rw [Nat.mul_comm (f * n + j) n, Nat.mul_add_mod, Nat.mod_eq_of_lt hi]
  · rw [e1, Nat.mul_comm f n, Nat.mul_add_mod, Nat.mod_eq_of_lt hj]
section
variable {n : Nat} (hn : 1 ≤ n)
include hn
theorem nbC_back {c s : Nat} (hc : c < 6 * (n * n)) (hs : s < 4) : nbC n (nbC n c s).1 (nbC n c s).2 = (c, s) := by
  obtain ⟨h0, h1, h2, h3⟩ := cell_parts hn hc
  obtain ⟨k1, k2, k3, k4⟩ := nb_lt (s := s) h1 h2 h3
  obtain ⟨p1, p2, p3⟩ := cellN_parts (f := (nb n (c / (n * n)) (c % n) (c / n % n) s).1) k2 k3
  have hb := nb_back h1 h2 h3 hs
  show (cellQ n (nb n _ _ _ _), (nb n _ _ _ _).2.2.2) = (c, s)
  unfold nbC
  simp only
  rw [p1, p2, p3, hb]
  exact Prod.ext h0.symm rfl
theorem nbC_ne {c s : Nat} (hc : c < 6 * (n * n)) (hs : s < 4) : (nbC n c s).1 ≠ c ∧ (nbC n c s).1 ≠ (nbC n c ((s + 2) % 4)).1 := by
  obtain ⟨h0, h1, h2, h3⟩ := cell_parts hn hc
  obtain ⟨k1, k2, k3, k4⟩ := nb_lt (s := s) h1 h2 h3
  obtain ⟨l1, l2, l3, l4⟩ := nb_lt (s := (s + 2) % 4) h1 h2 h3
  obtain ⟨p1, p2, p3⟩ := cellN_parts (f := (nb n (c / (n * n)) (c % n) (c / n % n) s).1) k2 k3
  obtain ⟨q1, q2, q3⟩ := cellN_parts (f := (nb n (c / (n * n)) (c % n) (c / n % n) ((s + 2) % 4)).1) l2 l3
  obtain ⟨m1, m2⟩ := nb_cell h1 h2 h3 hs
  refine ⟨fun e => ?_, fun e => ?_⟩
  · have e : cellN n (nb n (c / (n * n)) (c % n) (c / n % n) s).1 (nb n (c / (n * n)) (c % n) (c / n % n) s).2.1 (nb n (c / (n * n)) (c % n) (c / n % n) s).2.2.1 = c := e
    rw [e] at p1 p2 p3
    exact m1 (by rw [← p1, ← p2, ← p3])
  · have e : cellN n (nb n (c / (n * n)) (c % n) (c / n % n) s).1 (nb n (c / (n * n)) (c % n) (c / n % n) s).2.1 (nb n (c / (n * n)) (c % n) (c / n % n) s).2.2.1 = cellN n (nb n (c / (n * n)) (c % n) (c / n % n) ((s + 2) % 4)).1 (nb n (c / (n * n)) (c % n) (c / n % n) ((s + 2) % 4)).2.1 (nb n (c / (n * n)) (c % n) (c / n % n) ((s + 2) % 4)).2.2.1 := e
    rw [e] at p1 p2 p3
    refine m2 ?_
    rw [← p1, ← p2, ← p3, q1, q2, q3]
end

/-! ### The edges' numbers -/
/-- The number of the edge whose Left is c, over its side s. -/
def iC (n c s : Nat) : Nat := (esU n c).length + (esS n c s).length
theorem esS_pre (n c : Nat) : ∀ s t, s ≤ t → ∃ r, esS n c t = esS n c s ++ r
  | s, 0, h => ⟨[], by obtain rfl : s = 0 := by omega
                       simp⟩
  | s, t + 1, h => by
    by_cases e : s = t + 1
    · subst e; exact ⟨[], by simp⟩
    · obtain ⟨r, hr⟩ := esS_pre n c s t (by omega)
      exact ⟨r ++ esC n c t, by simp [esS, hr]⟩
theorem esU_pre (n : Nat) : ∀ c d, c ≤ d → ∃ r, esU n d = esU n c ++ r
  | c, 0, h => ⟨[], by obtain rfl : c = 0 := by omega
                       simp⟩
  | c, d + 1, h => by
    by_cases e : c = d + 1
    · subst e; exact ⟨[], by simp⟩
    · obtain ⟨r, hr⟩ := esU_pre n c d (by omega)
      exact ⟨r ++ esS n d 4, by simp [esU, hr]⟩
theorem edge_at {n c s : Nat} (hc : c < 6 * (n * n)) (hs : s < 4) (h : c < (nbC n c s).1) : (edges n)[iC n c s]? = some (c, s, (nbC n c s).1, (nbC n c s).2) := by
  obtain ⟨r, hr⟩ := esU_pre n (c + 1) (6 * (n * n)) hc
  obtain ⟨q, hq⟩ := esS_pre n c (s + 1) 4 hs
  unfold edges
  rw [hr]
  simp only [esU]
  rw [hq]
  simp only [esS]
  rw [show esC n c s = [(c, s, (nbC n c s).1, (nbC n c s).2)] from if_neg (by omega)]
  unfold iC
  simp only [List.append_assoc]
  rw [List.getElem?_append_right (by omega), show (esU n c).length + (esS n c s).length - (esU n c).length = (esS n c s).length by omega, List.getElem?_append_right (Nat.le_refl _), Nat.sub_self]
  rfl
/-- Every edge has such a place. -/
theorem edge_of {n : Nat} (hn : 1 ≤ n) {k : Nat} {x : Ed} (hx : (edges n)[k]? = some x) : x.1 < 6 * (n * n) ∧ x.2.1 < 4 ∧ x.1 < x.2.2.1 ∧ x.2.2.1 < 6 * (n * n) ∧ x.2.2.2 < 4 ∧ nbC n x.1 x.2.1 = (x.2.2.1, x.2.2.2) ∧ k = iC n x.1 x.2.1 := by
  have keyS : ∀ c, c < 6 * (n * n) → ∀ s, s ≤ 4 → ∀ k, (esS n c s)[k]? = some x → x.1 = c ∧ x.2.1 < s ∧ c < x.2.2.1 ∧ nbC n c x.2.1 = (x.2.2.1, x.2.2.2) ∧ k = (esS n c x.2.1).length := by
    intro c hc s
    induction s with
    | zero => intro _ k h; simp [esS] at h
    | succ s ih =>
      intro hs k h
      simp only [esS] at h
      rcases Nat.lt_or_ge k (esS n c s).length with h1 | h1
      · rw [List.getElem?_append_left h1] at h
        obtain ⟨a1, a2, a3⟩ := ih (by omega) k h
        exact ⟨a1, by omega, a3⟩
      · rw [List.getElem?_append_right h1] at h
        unfold esC at h
        split at h
        · simp at h
        · rename_i hno
          have hk : k - (esS n c s).length = 0 := by
            have := (List.getElem?_eq_some_iff.1 h).1; simp at this; omega
          rw [hk] at h
          simp only [List.getElem?_cons_zero, Option.some.injEq] at h
          subst h
          have := (nbC_ne hn hc (show s < 4 by omega)).1
          refine ⟨rfl, Nat.lt_succ_self _, by simp only; omega, rfl, by simp only; omega⟩
  have keyU : ∀ c, c ≤ 6 * (n * n) → ∀ k, (esU n c)[k]? = some x → x.1 < c ∧ x.2.1 < 4 ∧ x.1 < x.2.2.1 ∧ nbC n x.1 x.2.1 = (x.2.2.1, x.2.2.2) ∧ k = iC n x.1 x.2.1 := by
    intro c
    induction c with
    | zero => intro _ k h; simp [esU] at h
    | succ c ih =>
      intro hc k h
      simp only [esU] at h
      rcases Nat.lt_or_ge k (esU n c).length with h1 | h1
      · rw [List.getElem?_append_left h1] at h
        obtain ⟨a1, a2⟩ := ih (by omega) k h
        exact ⟨by omega, a2⟩
      · rw [List.getElem?_append_right h1] at h
        obtain ⟨a1, a2, a3, a4, a5⟩ := keyS c hc 4 (Nat.le_refl _) _ h
        rw [a1]
        exact ⟨Nat.lt_succ_self _, a2, a3, a4, by unfold iC; omega⟩
  obtain ⟨a1, a2, a3, a4, a5⟩ := keyU _ (Nat.le_refl _) k hx
  have hl := nbC_lt (s := x.2.1) hn a1
  rw [a4] at hl
  exact ⟨a1, a2, a3, hl.1, hl.2, a4, a5⟩

/-! ### The number over a side -/
/-- What the map knows when the cells ahead of c are through, and of c the sides ahead of s. -/
def Known (n c s : Nat) (f : Int → Int → Option Int) : Prop :=
  ∀ a t, a < 6 * (n * n) → t < 4 → a < (nbC n a t).1 → (a < c ∨ (a = c ∧ t < s)) → f a t = some ((iC n a t : Nat) : Int) ∧ f (nbC n a t).1 (nbC n a t).2 = some ((iC n a t : Nat) : Int)
theorem known_step {n c s : Nat} (hn : 1 ≤ n) (hc : c < 6 * (n * n)) (hs : s < 4) {q : St} (hk : q.k = iC n c s) (h : Known n c s q.f) : Known n c (s + 1) (stp n c s q).f := by
  intro a t ha ht hlt hab
  obtain ⟨hne, _⟩ := nbC_ne hn hc hs
  by_cases hact : a = c ∧ t = s
  · obtain ⟨rfl, rfl⟩ := hact
    rw [show stp n a t q = ⟨q.k + 1, q.l ++ [(a : Int), (t : Int), ((nbC n a t).1 : Int), ((nbC n a t).2 : Int)], updM (updM q.f a t q.k) (nbC n a t).1 (nbC n a t).2 q.k⟩ from if_neg (by omega)]
    simp only
    rw [hk]
    constructor
    · unfold updM
      rw [if_neg (by omega), if_pos ⟨rfl, rfl⟩]
    · unfold updM
      rw [if_pos ⟨rfl, rfl⟩]
  · have hold := h a t ha ht hlt (by omega)
    unfold stp
    split
    · exact hold
    · rename_i hno
      have hb := nbC_back hn hc hs
      have hb2 := nbC_back hn ha ht
      -- the four keys are apart
      have key : ∀ p r : Nat, ((p = a ∧ r = t) ∨ (p = (nbC n a t).1 ∧ r = (nbC n a t).2)) → updM (updM q.f c s q.k) (nbC n c s).1 (nbC n c s).2 q.k (p : Int) (r : Int) = q.f p r := by
        intro p r hpr
        unfold updM
        rw [if_neg, if_neg]
        · rintro ⟨e1, e2⟩
          have e1 : p = c := by omega
          have e2 : r = s := by omega
          rcases hpr with ⟨rfl, rfl⟩ | ⟨rfl, rfl⟩
          · exact hact ⟨e1, e2⟩
          · rw [e1, e2] at hb2
            rw [hb2] at hno
            simp only at hno
            omega
        · rintro ⟨e1, e2⟩
          have e1 : p = (nbC n c s).1 := by omega
          have e2 : r = (nbC n c s).2 := by omega
          rcases hpr with ⟨rfl, rfl⟩ | ⟨rfl, rfl⟩
          · rw [← e1, ← e2] at hb
            rw [hb] at hlt
            simp only at hlt
            omega
          · rw [e1, e2] at hb2
            rw [hb] at hb2
            simp only [Prod.mk.injEq] at hb2
            exact hact ⟨hb2.1.symm, hb2.2.symm⟩
      exact ⟨by simp only; rw [key a t (.inl ⟨rfl, rfl⟩)]; exact hold.1, by simp only; rw [key _ _ (.inr ⟨rfl, rfl⟩)]; exact hold.2⟩
theorem stps_known {n c : Nat} (hn : 1 ≤ n) (hc : c < 6 * (n * n)) {q : St} (h1 : q.l = flatE (esU n c)) (h2 : q.k = (esU n c).length) (h : Known n c 0 q.f) : ∀ s, s ≤ 4 → Known n c s (stps n c s q).f
  | 0, _ => h
  | s + 1, hs => known_step hn hc (by omega) (by rw [(stps_es n c q _ h1 h2 s).2, List.length_append]; rfl) (stps_known hn hc h1 h2 h s (by omega))
theorem edq_known {n : Nat} (hn : 1 ≤ n) : ∀ c, c ≤ 6 * (n * n) → Known n c 0 (edq n c).f
  | 0, _ => fun a t _ _ _ h => by omega
  | c + 1, hc => by
    have ih := edq_known hn c (by omega)
    have := stps_known hn hc (edq_es n c).1 (edq_es n c).2 ih 4 (Nat.le_refl _)
    intro a t ha ht hlt hab
    exact this a t ha ht hlt (by omega)
/-- The number over a side of a cell is that of the edge that lies there. -/
theorem num_at {n c s : Nat} (hn : 1 ≤ n) (hc : c < 6 * (n * n)) (hs : s < 4) : ∃ e x, numF n c s = some ((e : Nat) : Int) ∧ (edges n)[e]? = some x ∧
    ((x = (c, s, (nbC n c s).1, (nbC n c s).2) ∧ c < (nbC n c s).1) ∨ (x = ((nbC n c s).1, (nbC n c s).2, c, s) ∧ (nbC n c s).1 < c)) := by
  have hK := edq_known hn _ (Nat.le_refl (6 * (n * n)))
  obtain ⟨hl1, hl2⟩ := nbC_lt (s := s) hn hc
  have hb := nbC_back hn hc hs
  rcases Nat.lt_or_ge c (nbC n c s).1 with h | h
  · exact ⟨iC n c s, _, (hK c s hc hs h (.inl hc)).1, edge_at hc hs h, .inl ⟨rfl, h⟩⟩
  · have hne := (nbC_ne hn hc hs).1
    have hlt : (nbC n c s).1 < (nbC n (nbC n c s).1 (nbC n c s).2).1 := by rw [hb]; simp only; omega
    have h1 := (hK _ _ hl1 hl2 hlt (.inl hl1)).2
    have h2 := edge_at hl1 hl2 hlt
    rw [hb] at h1 h2
    exact ⟨_, _, h1, h2, .inr ⟨rfl, by omega⟩⟩
theorem num_left {n k : Nat} {x : Ed} (hn : 1 ≤ n) (hx : (edges n)[k]? = some x) : numF n x.1 x.2.1 = some (k : Int) ∧ numF n x.2.2.1 x.2.2.2 = some (k : Int) := by
  obtain ⟨h1, h2, h3, h4, h5, h6, h7⟩ := edge_of hn hx
  have hK := edq_known hn _ (Nat.le_refl (6 * (n * n)))
  have := hK x.1 x.2.1 h1 h2 (by rw [h6]; exact h3) (.inl h1)
  rw [h6, ← h7] at this
  exact this
end Go.Proofs.YtemaeembndobaaaGreatDoor
