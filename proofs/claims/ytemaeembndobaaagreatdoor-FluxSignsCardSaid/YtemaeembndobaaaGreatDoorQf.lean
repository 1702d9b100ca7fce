/- Plain facts of what passes over an edge: bounds, noughts, opposites, signs, greater speeds. No condition. -/
import Derived.Test.YtemaeembndobaaaGreatDoorNr
namespace Go.Proofs.YtemaeembndobaaaGreatDoor
open Go Go.Eng Ieee
set_option maxRecDepth 100000
set_option linter.unusedSimpArgs false
set_option linter.unusedVariables false

theorem fmul_comm' (x y : Option Nat) : fmul x y = fmul y x := by
  cases x <;> cases y <;> first | rfl | (rw [fmul_is, fmul_is, product_comm])
theorem Opp_mul' {x y : Option Nat} (h : Opp x y) (z : Option Nat) : Opp (fmul x z) (fmul y z) := by
  rw [fmul_comm' x, fmul_comm' y]; exact Opp_mul z h
theorem Zn_mul' {x : Option Nat} (h : Zn x) (y : Option Nat) : Zn (fmul x y) := by
  rw [fmul_comm']; exact Zn_mul y h
theorem mul_nan {b : Nat} (h : nanB b) (y : Option Nat) : fmul (some b) y = none := by
  cases y with
  | none => rfl
  | some c =>
    rw [fmul_is]
    obtain ⟨s, f, e⟩ := read_nan h
    rw [e]
    cases f64.read c <;> rfl
/-- A float and its opposite, ahead of a product. -/
theorem Opp_mulN {u : Nat} (hu : u < 18446744073709551616) (z : Option Nat) : Opp (fmul (some u) z) (fmul (some (Op.negFloat .f64 u)) z) := by
  have hi := infR_eq
  rcases nan_or hu with h | ⟨s, R, hR, rfl⟩
  · have h2 : nanB (Op.negFloat .f64 u) := by
      obtain ⟨h1, h2⟩ := h
      have e3 : f64.signWeight = 2 ^ 63 := by decide
      have h2 : f64.infRung < u % f64.signWeight := h2
      rw [e3] at h2
      obtain ⟨t, R, hR, rfl⟩ : ∃ t R, R < 2 ^ 63 ∧ u = wd t R := by
        by_cases h1 : 9223372036854775808 ≤ u
        · exact ⟨true, u - 9223372036854775808, by omega, by rw [wd_true]; omega⟩
        · exact ⟨false, u, by omega, rfl⟩
      rw [neg_wd t hR]
      have e4 : ∀ t, wd t R % 2 ^ 63 = R := fun t => by
        cases t
        · rw [wd_false]; omega
        · rw [wd_true]; omega
      rw [e4] at h2
      refine ⟨?_, ?_⟩
      · cases t
        · rw [show wd (!false) R = 2 ^ 63 + R from wd_true R]; omega
        · rw [show wd (!true) R = R from wd_false R]; omega
      · show f64.infRung < wd (!t) R % f64.signWeight
        rw [e3, e4]; exact h2
    rw [mul_nan h, mul_nan h2]
    exact .inl ⟨rfl, rfl⟩
  · rw [neg_wd s (by omega)]
    exact Opp_mul' (.inr (.inr ⟨s, R, hR, rfl, rfl⟩)) z
theorem quant_opp {u : Nat} (hu : u < 18446744073709551616) (d l t : Nat) : Opp (quantO u d l t) (quantO (Op.negFloat .f64 u) d l t) :=
  Opp_mul' (Opp_mul' (Opp_mul' (Opp_mulN hu _) _) _) _
theorem clamp_opp {x y : Option Nat} (h : Opp x y) : clampF y = -clampF x ∧ -q52 ≤ clampF x ∧ clampF x ≤ q52 := by
  have q : q52 = 4503599627370496 := rfl
  rcases h with ⟨rfl, rfl⟩ | ⟨s, t, rfl, rfl⟩ | ⟨s, R, hR, rfl, rfl⟩
  · exact ⟨rfl, by decide, by decide⟩
  · rw [clamp_wd _ (Nat.zero_le _), clamp_wd _ (Nat.zero_le _), size_zero]
    cases s <;> cases t <;> decide
  · have hb := size_le hR
    rw [clamp_wd _ hR, clamp_wd _ hR]
    cases s <;> simp <;> omega
/-- The opposite speed; no more than there may be. -/
theorem quant_neg {u : Nat} (hu : u < 18446744073709551616) (d l t : Nat) : quantF (Op.negFloat .f64 u) d l t = -quantF u d l t ∧ -q52 ≤ quantF u d l t ∧ quantF u d l t ≤ q52 := clamp_opp (quant_opp hu d l t)
theorem clamp_zn {o : Option Nat} (h : Zn o) : clampF o = 0 := by
  rcases h with h | ⟨s, h⟩
  · rw [h]; rfl
  · rw [h, clamp_wd _ (Nat.zero_le _), size_zero]; cases s <;> rfl
theorem Zn_0 : Zn (some 0) := .inr ⟨false, rfl⟩
theorem quant_z1 (d l t : Nat) : quantF 0 d l t = 0 := clamp_zn (Zn_mul' (Zn_mul' (Zn_mul' (Zn_mul' Zn_0 _) _) _) _)
theorem quant_z2 (u l t : Nat) : quantF u 0 l t = 0 := clamp_zn (Zn_mul' (Zn_mul' (Zn_mul' (Zn_mul _ Zn_0) _) _) _)
theorem quant_z4 (u d l : Nat) : quantF u d l 0 = 0 := clamp_zn (Zn_mul' (Zn_mul _ Zn_0) _)
theorem quant_zu {u : Nat} (hu : u < 18446744073709551616) (h : feq (some u) (some 0) = true) (d l t : Nat) : quantF u d l t = 0 := clamp_zn (Zn_mul' (Zn_mul' (Zn_mul' (Zn_mul' (zero_of hu h) _) _) _) _)
/-- What is above nought. -/
theorem gt0_is {d : Nat} (hd : d < 18446744073709551616) (h : fgt (some d) (some 0) = true) : ∃ D, d = D ∧ 0 < D ∧ D ≤ infR := by
  rcases nan_or hd with hn | ⟨s, R, hR, rfl⟩
  · unfold fgt at h
    rw [(nan_cmp hn _).1] at h
    exact nomatch h
  · have h2 : fgt (some (wd s R)) (some 0) = _ := fgt_rk s false hR (Nat.zero_le _)
    rw [h2] at h
    have := of_decide_eq_true h
    unfold rk at this
    cases s
    · exact ⟨R, rfl, by simpa using this, hR⟩
    · simp at this; omega
theorem dat_inf' (s : Bool) {R : Nat} (h : R = infR) : f64.read (wd s R) = .infinity s := by
  subst h
  rw [read_wd s (by rw [infR_eq]; decide), dat_inf]
theorem prod_inf (s t : Bool) (m : Nat) (e : Int) : (Ieee.Datum.infinity s).product (.number t m e) = if m = 0 then none else some (.infinity (s ^^ t)) := by
  unfold Ieee.Datum.product
  by_cases h : m = 0 <;> simp [h]
theorem write_inf (s : Bool) : f64.write (.infinity s) = wd s infR := rfl
/-- Products by what is above nought: with the sign of the first; greater by the greater. -/
theorem mul_sg (s : Bool) {R D : Nat} (hR : R ≤ infR) (hD : D ≤ infR) : fmul (some (wd s R)) (some D) = none ∨ ∃ N, N ≤ infR ∧ fmul (some (wd s R)) (some D) = some (wd s N) := by
  have hi := infR_eq
  have ex : (s ^^ false) = s := by cases s <;> rfl
  have hfin : ∀ (t : Bool) {Q : Nat}, Q < infR → ∃ m e, f64.read (wd t Q) = .number t m e := fun t Q h => by
    obtain ⟨m, e, h1, _⟩ := dat_num h t
    exact ⟨m, e, by rw [read_wd t (by omega), h1]⟩
  rcases Nat.lt_or_ge R infR with h1 | h1
  · rcases Nat.lt_or_ge D infR with h2 | h2
    · obtain ⟨N, hN, hr⟩ := mul_rd s false h1 h2
      rw [wd_false, ex] at hN
      exact .inr ⟨N, hr.inf, hN⟩
    · obtain ⟨m, e, hm⟩ := hfin s h1
      have hd : f64.read D = .infinity false := dat_inf' false (show D = infR by omega)
      rw [fmul_is, hm, hd, product_comm, prod_inf]
      by_cases h0 : m = 0
      · rw [if_pos h0]; exact .inl rfl
      · rw [if_neg h0]
        refine .inr ⟨infR, Nat.le_refl _, ?_⟩
        rw [Option.map_some, write_inf]
        cases s <;> rfl
  · have hr : f64.read (wd s R) = .infinity s := dat_inf' s (by omega)
    rcases Nat.lt_or_ge D infR with h2 | h2
    · obtain ⟨m, e, hm⟩ := hfin false h2
      rw [wd_false] at hm
      rw [fmul_is, hr, hm, prod_inf]
      by_cases h0 : m = 0
      · rw [if_pos h0]; exact .inl rfl
      · rw [if_neg h0]
        refine .inr ⟨infR, Nat.le_refl _, ?_⟩
        rw [Option.map_some, write_inf, ex]
    · have hd : f64.read D = .infinity false := dat_inf' false (show D = infR by omega)
      rw [fmul_is, hr, hd]
      refine .inr ⟨infR, Nat.le_refl _, ?_⟩
      show some (f64.write (.infinity (s ^^ false))) = _
      rw [write_inf, ex]
theorem quant_sg (s : Bool) {U D L T : Nat} (hU : U ≤ infR) (hD : D ≤ infR) (hL : L ≤ infR) (hT : T ≤ infR) : quantO (wd s U) D L T = none ∨ ∃ N, N ≤ infR ∧ quantO (wd s U) D L T = some (wd s N) := by
  unfold quantO
  have hn : ∀ y, fmul none y = none := fun y => rfl
  rcases mul_sg s hU hD with h | ⟨N, h1, h⟩
  · rw [h, hn, hn, hn]; exact .inl rfl
  rw [h]
  rcases mul_sg s h1 hL with h | ⟨N, h1, h⟩
  · rw [h, hn, hn]; exact .inl rfl
  rw [h]
  rcases mul_sg s h1 hT with h | ⟨N, h1, h⟩
  · rw [h, hn]; exact .inl rfl
  rw [h]
  exact mul_sg s h1 (by rw [infR_eq]; decide)
section
variable {u d l t : Nat} (hu : u < 18446744073709551616) (hd : d < 18446744073709551616) (hl : l < 18446744073709551616) (ht : t < 18446744073709551616)
  (gd : fgt (some d) (some 0) = true) (gl : fgt (some l) (some 0) = true) (gt : fgt (some t) (some 0) = true)
include hu hd hl ht gd gl gt
theorem quant_pos (h : fgt (some u) (some 0) = true) : ¬ quantF u d l t < 0 := by
  obtain ⟨U, rfl, _, hU⟩ := gt0_is hu h
  obtain ⟨D, rfl, _, hD⟩ := gt0_is hd gd
  obtain ⟨L, rfl, _, hL⟩ := gt0_is hl gl
  obtain ⟨T, rfl, _, hT⟩ := gt0_is ht gt
  unfold quantF
  rcases quant_sg false hU hD hL hT with h | ⟨N, h1, h⟩
  · rw [wd_false] at h; rw [h]; decide
  · rw [wd_false] at h
    rw [h, clamp_wd _ h1]
    have := size_le h1
    simp; omega
theorem quant_below (h : flt (some u) (some 0) = true) : ¬ 0 < quantF u d l t := by
  obtain ⟨D, rfl, _, hD⟩ := gt0_is hd gd
  obtain ⟨L, rfl, _, hL⟩ := gt0_is hl gl
  obtain ⟨T, rfl, _, hT⟩ := gt0_is ht gt
  unfold quantF
  rcases nan_or hu with hn | ⟨s, R, hR, rfl⟩
  · unfold flt at h
    rw [(nan_cmp hn _).1] at h
    exact nomatch h
  · have h2 : flt (some (wd s R)) (some 0) = _ := flt_rk s false hR (Nat.zero_le _)
    rw [h2] at h
    have := of_decide_eq_true h
    unfold rk at this
    cases s
    · simp at this; omega
    · rcases quant_sg true hR hD hL hT with h | ⟨N, h1, h⟩
      · rw [h]; decide
      · rw [h, clamp_wd _ h1]
        have := size_le h1
        simp; omega
end
/-- Products by a number above nought keep the order. -/
theorem mul_at (s : Bool) {R D : Nat} (hR : R ≤ infR) (hD : D < infR) (h0 : 0 < D) : ∃ N, N ≤ infR ∧ fmul (some (wd s R)) (some D) = some (wd s N) ∧ ((R = infR ∧ N = infR) ∨ (R < infR ∧ Rd (vR R * vR D) N)) := by
  have ex : (s ^^ false) = s := by cases s <;> rfl
  rcases Nat.lt_or_ge R infR with h1 | h1
  · obtain ⟨N, hN, hr⟩ := mul_rd s false h1 hD
    rw [wd_false, ex] at hN
    exact ⟨N, hr.inf, hN, .inr ⟨h1, hr⟩⟩
  · have hr : f64.read (wd s R) = .infinity s := dat_inf' s (by omega)
    obtain ⟨m, e, h2, _, h3⟩ := dat_num hD false
    have hm : f64.read D = .number false m e := by
      have := read_wd false (R := D) (by rw [infR_eq] at hD; omega)
      rw [wd_false] at this
      rw [this, h2]
    refine ⟨infR, Nat.le_refl _, ?_, .inl ⟨by omega, rfl⟩⟩
    rw [fmul_is, hr, hm, prod_inf, if_neg (h3 (by omega)), Option.map_some, write_inf, ex]
theorem mul_mono (s s' : Bool) {R R' D : Nat} (hR : R ≤ infR) (hR' : R' ≤ infR) (hD : D < infR) (h0 : 0 < D) (h : rk s R ≤ rk s' R') :
    ∃ N N', N ≤ infR ∧ N' ≤ infR ∧ fmul (some (wd s R)) (some D) = some (wd s N) ∧ fmul (some (wd s' R')) (some D) = some (wd s' N') ∧ rk s N ≤ rk s' N' := by
  obtain ⟨N, n1, n2, n3⟩ := mul_at s hR hD h0
  obtain ⟨M, m1, m2, m3⟩ := mul_at s' hR' hD h0
  refine ⟨N, M, n1, m1, n2, m2, ?_⟩
  have hp : 0 < vR D := vR_pos hD (by omega)
  have lt : ∀ {A B X Y : Nat}, A < B → A < infR → ((A = infR ∧ X = infR) ∨ (A < infR ∧ Rd (vR A * vR D) X)) → Y ≤ infR → X ≤ infR → ((B = infR ∧ Y = infR) ∨ (B < infR ∧ Rd (vR B * vR D) Y)) → X ≤ Y := by
    intro A B X Y hab hA hX hYi hXi hY
    rcases hY with ⟨_, rfl⟩ | ⟨_, hY⟩
    · exact hXi
    · rcases hX with ⟨h, _⟩ | ⟨_, hX⟩
      · omega
      · exact hX.lt hY (lt_mul hp (vR_lt hab))
  have zz : ∀ {X : Nat}, ((0 = infR ∧ X = infR) ∨ (0 < infR ∧ Rd (vR 0 * vR D) X)) → X = 0 := by
    intro X hX
    rcases hX with ⟨h, _⟩ | ⟨_, hX⟩
    · exact absurd h (by rw [infR_eq]; decide)
    · exact hX.eq (by rw [vR_0, Rat.zero_mul]) (Nat.zero_le _)
  have inj : ∀ (s : Bool) {X Y : Nat}, X ≤ infR → Y ≤ infR → some (wd s X) = some (wd s Y) → X = Y := by
    intro s X Y hX hY h
    have hi := infR_eq
    injection h with h
    cases s
    · rw [wd_false, wd_false] at h; exact h
    · rw [wd_true, wd_true] at h; omega
  unfold rk at h ⊢
  cases s <;> cases s' <;> simp only [Bool.false_eq_true, if_false, if_true] at h ⊢
  · rcases Nat.lt_or_ge R R' with h1 | h1
    · have := lt h1 (by omega) n3 m1 n1 m3; omega
    · obtain rfl : R = R' := by omega
      have := inj false n1 m1 (n2.symm.trans m2); omega
  · obtain rfl : R = 0 := by omega
    obtain rfl : R' = 0 := by omega
    have := zz n3
    have := zz m3
    omega
  · omega
  · rcases Nat.lt_or_ge R' R with h1 | h1
    · have := lt h1 (by omega) m3 n1 m1 n3; omega
    · obtain rfl : R = R' := by omega
      have := inj true n1 m1 (n2.symm.trans m2); omega
theorem clamp_mono (s s' : Bool) {N N' : Nat} (hN : N ≤ infR) (hN' : N' ≤ infR) (h : rk s N ≤ rk s' N') : clampF (some (wd s N)) ≤ clampF (some (wd s' N')) := by
  rw [clamp_wd s hN, clamp_wd s' hN']
  have a := size_le hN
  have b := size_le hN'
  unfold rk at h
  cases s <;> cases s' <;> simp only [Bool.false_eq_true, if_false, if_true] at h ⊢
  · exact size_mono (by omega) hN'
  · obtain rfl : N = 0 := by omega
    obtain rfl : N' = 0 := by omega
    rw [size_zero]; decide
  · omega
  · have := size_mono (show N' ≤ N by omega) hN; omega
theorem fin_of {d : Nat} (hd : d ≤ infR) (h : fne (fsub (some d) (some d)) (some 0) = false) : d < infR := by
  rcases Nat.lt_or_ge d infR with h1 | h1
  · exact h1
  · exfalso
    obtain rfl : d = infR := by omega
    exact absurd h (by decide +kernel)
theorem quant_mono {u v d l t : Nat} (hu : u < 18446744073709551616) (hv : v < 18446744073709551616) (hd : d < 18446744073709551616) (hl : l < 18446744073709551616) (ht : t < 18446744073709551616)
    (gd : fgt (some d) (some 0) = true) (gl : fgt (some l) (some 0) = true) (gt : fgt (some t) (some 0) = true) (nu : fne (some u) (some u) = false) (nv : fne (some v) (some v) = false)
    (fd : fne (fsub (some d) (some d)) (some 0) = false) (fl : fne (fsub (some l) (some l)) (some 0) = false) (ft : fne (fsub (some t) (some t)) (some 0) = false) (h : flt (some v) (some u) = false) : quantF v d l t ≥ quantF u d l t := by
  obtain ⟨D, rfl, d0, hD⟩ := gt0_is hd gd
  obtain ⟨L, rfl, l0, hL⟩ := gt0_is hl gl
  obtain ⟨T, rfl, t0, hT⟩ := gt0_is ht gt
  have no : ∀ {b : Nat}, nanB b → fne (some b) (some b) = false → False := fun hn h => by
    unfold fne at h
    rw [(nan_cmp hn _).1] at h
    exact nomatch h
  rcases nan_or hu with hn | ⟨s, R, hR, rfl⟩
  · exact (no hn nu).elim
  rcases nan_or hv with hn | ⟨s', R', hR', rfl⟩
  · exact (no hn nv).elim
  rw [flt_rk s' s hR' hR] at h
  have hk : rk s R ≤ rk s' R' := by simpa using h
  obtain ⟨a, b, a1, b1, a2, b2, k⟩ := mul_mono s s' hR hR' (fin_of hD fd) d0 hk
  obtain ⟨a', b', a3, b3, a4, b4, k⟩ := mul_mono s s' a1 b1 (fin_of hL fl) l0 k
  obtain ⟨a5, b5, a6, b6, a7, b7, k⟩ := mul_mono s s' a3 b3 (fin_of hT ft) t0 k
  obtain ⟨a8, b8, a9, b9, a10, b10, k⟩ := mul_mono s s' a6 b6 (show 4742290407621132288 < infR by rw [infR_eq]; decide) (by decide) k
  unfold quantF quantO
  rw [a2, a4, a7, a10, b2, b4, b7, b10]
  exact clamp_mono s s' a9 b9 k
end Go.Proofs.YtemaeembndobaaaGreatDoor
