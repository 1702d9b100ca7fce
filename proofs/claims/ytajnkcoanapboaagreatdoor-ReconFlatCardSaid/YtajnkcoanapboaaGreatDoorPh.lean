/- Reconstruction over a flat bed: what a depth answers to. Plain. -/
import Derived.Test.YtajnkcoanapboaaGreatDoorPf
namespace Go.Proofs.YtajnkcoanapboaaGreatDoor
open Go Go.Eng
set_option maxRecDepth 100000
set_option linter.unusedSimpArgs false
set_option linter.unusedVariables false

theorem sub_up {H K : Nat} (hH : H < infR) (hK : K < infR) (h : K ≤ H) : ∃ N, fsub (some H) (some K) = some (wd false N) ∧ N ≤ H := by
  obtain ⟨N, h1, h2⟩ := sub_rd hH hK h
  refine ⟨N, h1, h2.le ?_⟩
  have := vR_nonneg hK
  grind
theorem sub_dn {H K : Nat} (hH : H < infR) (hK : K < infR) (h : H ≤ K) : ∃ t N, fsub (some H) (some K) = some (wd t N) ∧ N ≤ K ∧ (t = true ∨ N = 0) := by
  obtain ⟨N, h1, h2⟩ := sub_up hK hH h
  have hi := infR_eq
  rcases Opp_swap (a := H) (b := K) with ⟨a, _⟩ | ⟨s, t, a, b⟩ | ⟨s, R, hR, a, b⟩
  · rw [h1] at a; cases a
  · exact ⟨t, 0, b, Nat.zero_le _, .inr rfl⟩
  · rw [h1] at a
    have a : wd false N = wd s R := by injection a
    cases s with
    | true =>
      rw [wd_false, wd_true] at a
      omega
    | false =>
      rw [wd_false, wd_false] at a
      subst a
      exact ⟨true, N, b, h2, .inl rfl⟩
theorem ge_w {H K : Nat} (hH : H < infR) (hK : K < infR) : fge (some H) (some K) = decide (K ≤ H) := by
  have := fge_rk false false (Nat.le_of_lt hH) (Nat.le_of_lt hK)
  rw [wd_false, wd_false] at this
  rw [this]
  unfold rk
  simp
theorem le_w {H K : Nat} (hH : H < infR) (hK : K < infR) : fle (some H) (some K) = decide (H ≤ K) := by
  have := fle_rk false false (Nat.le_of_lt hH) (Nat.le_of_lt hK)
  rw [wd_false, wd_false] at this
  rw [this]
  unfold rk
  simp
theorem gt0_w (t : Bool) {N : Nat} (hN : N ≤ infR) : fgt (some (wd t N)) (some 0) = decide (0 < rk t N) := fgt_rk t false hN (Nat.zero_le _)
theorem lt0_w (t : Bool) {N : Nat} (hN : N ≤ infR) : flt (some (wd t N)) (some 0) = decide (rk t N < 0) := flt_rk t false hN (Nat.zero_le _)
theorem up_lt {H K : Nat} (hH : H < infR) (hK : K < infR) (h : K ≤ H) : flt (fsub (some H) (some K)) (some 0) = false := by
  obtain ⟨N, h1, h2⟩ := sub_up hH hK h
  rw [h1, lt0_w false (by omega)]
  exact decide_eq_false (by unfold rk; simp)
theorem dn_gt {H K : Nat} (hH : H < infR) (hK : K < infR) (h : H ≤ K) : fgt (fsub (some H) (some K)) (some 0) = false := by
  obtain ⟨t, N, h1, h2, h3⟩ := sub_dn hH hK h
  rw [h1, gt0_w t (by omega)]
  refine decide_eq_false ?_
  unfold rk
  rcases h3 with rfl | rfl
  · simp
  · cases t <;> simp
def slH (lim : Int) (H K R : Nat) : Nat := slopeF lim (fsub (some H) (some K)) (fsub (some R) (some H))
def slantH (lim : Int) (H K R : Nat) : Option Nat := fadd (some H) (fmul (some halfB) (some (slH lim H K R)))
def dH (lim : Int) (H K R : Nat) : Nat := posF (minO (slantH lim H K R) (some H))
/-- A peak, or a pit, has no slope. -/
theorem peak_0 (lim : Int) {H K R : Nat} (hH : H < infR) (hK : K < infR) (hR : R < infR) (h : (K ≤ H ∧ R ≤ H) ∨ (H ≤ K ∧ H ≤ R)) : slH lim H K R = 0 := by
  unfold slH slopeF
  split
  · rcases h with ⟨h1, h2⟩ | ⟨h1, h2⟩
    · rw [up_lt hH hK h1, dn_gt hR hH h2]; simp
    · rw [dn_gt hH hK h1, up_lt hR hH h2]; simp
  · rfl
theorem lim0_0 (H K R : Nat) : slH 0 H K R = 0 := by
  have e : ∀ x y, limO 0 x y = some 0 := fun _ _ => rfl
  unfold slH slopeF
  have a : canonF (some 0) = 0 := by decide +kernel
  have b : canonF (fneg (some 0)) = 0 := by decide +kernel
  rw [if_pos (by decide), e, e, a, b]
  simp
theorem posF_w {H : Nat} (hH : H < infR) : posF H = H := by
  unfold posF
  by_cases h : H = 0
  · subst h; split <;> rfl
  · rw [if_pos (fgt_0 hH h)]
theorem flat_0 {lim : Int} {H K R : Nat} (hH : H < infR) (h : slH lim H K R = 0) : dH lim H K R = H := by
  unfold dH slantH
  rw [h, show fmul (some halfB) (some 0) = some 0 by decide +kernel, add_z hH]
  obtain ⟨u, T, hT, e, _, _, hor⟩ := minO_num (s := false) (t := false) (Nat.le_of_lt hH) (Nat.le_of_lt hH)
  rw [wd_false] at e
  rw [e]
  have : u = false ∧ T = H := by rcases hor with h | h <;> exact h
  obtain ⟨rfl, rfl⟩ := this
  rw [wd_false]
  exact posF_w hH
theorem flat_le (lim : Int) {H K R : Nat} (hH : H < infR) : fle (some (dH lim H K R)) (some H) = true := by
  have z : fle (some 0) (some H) = true := by
    have := le_w (H := 0) (K := H) (by decide) hH
    rw [this]; simp
  unfold dH
  rcases num_add (some H) (fmul (some halfB) (some (slH lim H K R))) with e | ⟨s, S, hS, e⟩
  · rw [show slantH lim H K R = none from e, show minO none (some H) = qn from rfl, posF, qn_0, if_neg (by decide)]
    exact z
  · rw [show slantH lim H K R = some (wd s S) from e]
    obtain ⟨u, T, hT, e2, _, k2, _⟩ := minO_num (s := s) (t := false) hS (Nat.le_of_lt hH)
    rw [wd_false] at e2
    rw [e2, posF]
    split
    · have := fle_rk u false hT (Nat.le_of_lt hH)
      rw [wd_false] at this
      rw [this]
      exact decide_eq_true k2
    · exact z
/-- With the least slope a depth is half of the cell's own at least. -/
theorem flat_half {H K R : Nat} (dh : H = 0 ∨ (2 : Rat) ^ (-1000 : Int) ≤ vR H) (hH : H < infR) (hK : K < infR) (hR : R < infR) : fge (some (dH 1 H K R)) (fmul (some halfB) (some H)) = true := by
  have hb : halfB < infR := by decide
  have hH' := Nat.le_of_lt hH
  obtain ⟨N3, f3, r3⟩ := mul_rd false false hb hH
  rw [wd_false, wd_false, show (false ^^ false) = false from rfl, wd_false] at f3
  rw [vR_half'] at r3
  have n3 : N3 ≤ H := r3.le (by have := vR_nonneg hH; grind)
  rw [f3]
  by_cases h0 : slH 1 H K R = 0
  · rw [flat_0 hH h0, ge_w hH (by omega)]
    exact decide_eq_true n3
  -- the slant is at least the half
  have key : ∃ S, S ≤ infR ∧ slantH 1 H K R = some S ∧ N3 ≤ S := by
    unfold slantH
    unfold slH slopeF at h0 ⊢
    rw [if_pos (by decide)] at h0 ⊢
    have e1 : ∀ x y, limO 1 x y = some (minO x y) := fun _ _ => rfl
    rw [e1, e1] at h0 ⊢
    rcases Nat.le_total H R with hHR | hRH
    · -- ahead is higher
      obtain ⟨N, q1, q2⟩ := sub_up hR hH hHR
      have z := up_lt hR hH hHR
      by_cases hg : fgt (fsub (some H) (some K)) (some 0) = true ∧ fgt (fsub (some R) (some H)) (some 0) = true
      · rw [if_pos hg] at h0 ⊢
        have hKH : K ≤ H := by
          rcases Nat.le_total K H with h | h
          · exact h
          · rw [dn_gt hH hK h] at hg; cases hg.1
        obtain ⟨N1, p1, p2⟩ := sub_up hH hK hKH
        rw [p1, q1] at h0 ⊢
        obtain ⟨u, T, hT, e, k1, k2, hor⟩ := minO_num (s := false) (t := false) (R := N1) (Q := N) (by omega) (by omega)
        have hu : u = false := by rcases hor with h | h <;> exact h.1
        subst hu
        have hT' : T < infR := by rcases hor with h | h <;> omega
        rw [e, canon_wd false hT] at h0 ⊢
        have ec : cw false T = T := by
          unfold cw
          split
          · rename_i h; exact h.symm
          · rfl
        rw [ec]
        obtain ⟨N2, f2, r2⟩ := mul_rd false false hb hT'
        rw [wd_false, wd_false, show (false ^^ false) = false from rfl, wd_false] at f2
        rw [vR_half'] at r2
        have n2 : N2 ≤ T := r2.le (by have := vR_nonneg hT'; grind)
        rw [f2]
        obtain ⟨N4, f4, r4⟩ := add_rd hH (show N2 < infR by omega)
        have n4 : H ≤ N4 := r4.ge (by have := vR_nonneg (show N2 < infR by omega); grind) hH'
        exact ⟨N4, r4.inf, f4, by omega⟩
      · rw [if_neg hg, z] at h0
        exact absurd (if_neg (by simp)) h0
    · -- ahead is lower
      have z := dn_gt hR hH hRH
      obtain ⟨t, N, q1, q2, q3⟩ := sub_dn hR hH hRH
      rw [if_neg (fun h => by rw [z] at h; cases h.2)] at h0 ⊢
      by_cases hg : flt (fsub (some H) (some K)) (some 0) = true ∧ flt (fsub (some R) (some H)) (some 0) = true
      · rw [if_pos hg] at h0 ⊢
        have hHK : H ≤ K := by
          rcases Nat.le_total H K with h | h
          · exact h
          · rw [up_lt hH hK h] at hg; cases hg.1
        obtain ⟨t1, N1, p1, p2, p3⟩ := sub_dn hH hK hHK
        rw [p1, q1] at hg
        rw [lt0_w _ (by omega), lt0_w _ (by omega)] at hg
        have g1 := of_decide_eq_true hg.1
        have g2 := of_decide_eq_true hg.2
        have ht1 : t1 = true := by rcases p3 with h | rfl; exact h; exact absurd g1 (by cases t1 <;> simp [rk])
        have ht : t = true := by rcases q3 with h | rfl; exact h; exact absurd g2 (by cases t <;> simp [rk])
        subst ht1 ht
        have hi := infR_eq
        rw [p1, q1, show fneg (some (wd true N1)) = some (wd false N1) from congrArg some (neg_wd true (by omega)), show fneg (some (wd true N)) = some (wd false N) from congrArg some (neg_wd true (by omega))] at h0 ⊢
        obtain ⟨u, T, hT, e, k1, k2, hor⟩ := minO_num (s := false) (t := false) (R := N1) (Q := N) (by omega) (by omega)
        have hu : u = false := by rcases hor with h | h <;> exact h.1
        subst hu
        have hTN : T ≤ H := by unfold rk at k2; simp at k2; omega
        have hT' : T < infR := by omega
        rw [e, show fneg (some (wd false T)) = some (wd true T) from congrArg some (neg_wd false (by omega)), canon_wd true hT] at h0 ⊢
        have hT0 : T ≠ 0 := fun h => h0 (by rw [h]; rfl)
        rw [cw, if_neg hT0]
        obtain ⟨N2, f2, r2⟩ := mul_rd false true hb hT'
        rw [wd_false, show (false ^^ true) = true from rfl] at f2
        rw [vR_half'] at r2
        have n2 : N2 ≤ T := r2.le (by have := vR_nonneg hT'; grind)
        rw [f2, add_neg' H (by omega)]
        obtain ⟨N4, f4, r4⟩ := sub_rd hH (show N2 < infR by omega) (by omega)
        have dh' := dh.resolve_left (by omega)
        obtain ⟨W, w1, w2⟩ := half_word hH dh'
        have e3 : N3 = W := r3.eq (by grind) (by omega)
        have vT : vR T ≤ vR H := vR_le hTN
        have n2W : N2 ≤ W := r2.le (by grind)
        have v2W : vR N2 ≤ vR W := vR_le n2W
        exact ⟨N4, r4.inf, f4, by rw [e3]; exact r4.ge (by grind) (by omega)⟩
      · rw [if_neg hg] at h0
        exact absurd rfl h0
  obtain ⟨S, hS, e, hge⟩ := key
  unfold dH
  rw [e]
  obtain ⟨u, T, hT, e2, _, _, hor⟩ := minO_num (s := false) (t := false) hS hH'
  rw [wd_false, wd_false] at e2
  have hu : u = false ∧ N3 ≤ T ∧ T ≤ infR := by rcases hor with ⟨h1, h2⟩ | ⟨h1, h2⟩ <;> exact ⟨h1, by omega, hT⟩
  obtain ⟨rfl, hT3, _⟩ := hu
  rw [e2, wd_false, posF]
  have z := gt0_w false hT
  rw [wd_false] at z
  have hfin : fge (some T) (some N3) = true := by
    have := fge_rk false false hT (show N3 ≤ infR by omega)
    rw [wd_false, wd_false] at this
    rw [this]
    exact decide_eq_true (by unfold rk; simp; omega)
  split
  · exact hfin
  · rename_i hn
    rw [z] at hn
    have : T = 0 := by
      by_cases h : T = 0
      · exact h
      · exact absurd (decide_eq_true (by unfold rk; simp; omega)) hn
    subst this
    exact hfin
end Go.Proofs.YtajnkcoanapboaaGreatDoor
