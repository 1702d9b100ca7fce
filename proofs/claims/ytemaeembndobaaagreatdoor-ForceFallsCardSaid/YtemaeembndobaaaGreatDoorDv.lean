/- From rest water is drawn downwards, and drag slows: plain facts. No condition. -/
import Derived.Test.YtemaeembndobaaaGreatDoorQf
namespace Go.Proofs.YtemaeembndobaaaGreatDoor
open Go Go.Eng Ieee
set_option maxRecDepth 100000
set_option linter.unusedSimpArgs false
set_option linter.unusedVariables false

/-- Nothing, or with the sign t, or a nought. -/
def Sg (t : Bool) (o : Option Nat) : Prop := o = none ∨ ∃ s N, N ≤ infR ∧ o = some (wd s N) ∧ (s = t ∨ N = 0)
theorem Sg.zn {t : Bool} {o : Option Nat} (h : Zn o) : Sg t o := by
  rcases h with h | ⟨s, h⟩
  · exact .inl h
  · exact .inr ⟨s, 0, Nat.zero_le _, h, .inr rfl⟩
theorem Sg.cases {t : Bool} {o : Option Nat} (h : Sg t o) : Zn o ∨ ∃ N, N ≤ infR ∧ o = some (wd t N) := by
  rcases h with h | ⟨s, N, h1, h2, rfl | rfl⟩
  · exact .inl (.inl h)
  · exact .inr ⟨N, h1, h2⟩
  · exact .inl (.inr ⟨s, h2⟩)
theorem fin_read (t : Bool) {Q : Nat} (h : Q < infR) : ∃ m e, f64.read (wd t Q) = .number t m e ∧ mg m e = vR Q ∧ (Q ≠ 0 → m ≠ 0) := by
  obtain ⟨m, e, h1, h2, h3⟩ := dat_num h t
  have hi := infR_eq
  exact ⟨m, e, by rw [read_wd t (by omega), h1], h2, h3⟩
/-- Products of signs. -/
theorem mul_sgn (s t : Bool) {R Q : Nat} (hR : R ≤ infR) (hQ : Q ≤ infR) : fmul (some (wd s R)) (some (wd t Q)) = none ∨ ∃ N, N ≤ infR ∧ fmul (some (wd s R)) (some (wd t Q)) = some (wd (s ^^ t) N) := by
  rcases Nat.lt_or_ge R infR with h1 | h1
  · rcases Nat.lt_or_ge Q infR with h2 | h2
    · obtain ⟨N, hN, hr⟩ := mul_rd s t h1 h2
      exact .inr ⟨N, hr.inf, hN⟩
    · obtain ⟨m, e, hm, _⟩ := fin_read s h1
      rw [fmul_is, hm, dat_inf' t (show Q = infR by omega), product_comm, prod_inf]
      by_cases h0 : m = 0
      · rw [if_pos h0]; exact .inl rfl
      · rw [if_neg h0]
        exact .inr ⟨infR, Nat.le_refl _, by rw [Option.map_some, write_inf, Bool.xor_comm]⟩
  · rcases Nat.lt_or_ge Q infR with h2 | h2
    · obtain ⟨m, e, hm, _⟩ := fin_read t h2
      rw [fmul_is, hm, dat_inf' s (show R = infR by omega), prod_inf]
      by_cases h0 : m = 0
      · rw [if_pos h0]; exact .inl rfl
      · rw [if_neg h0]
        exact .inr ⟨infR, Nat.le_refl _, by rw [Option.map_some, write_inf]⟩
    · rw [fmul_is, dat_inf' s (show R = infR by omega), dat_inf' t (show Q = infR by omega)]
      exact .inr ⟨infR, Nat.le_refl _, rfl⟩
theorem Sg_mul {s t : Bool} {x y : Option Nat} (hx : Sg s x) (hy : Sg t y) : Sg (s ^^ t) (fmul x y) := by
  rcases hx.cases with h | ⟨N, h1, rfl⟩
  · exact .zn (Zn_mul' h _)
  rcases hy.cases with h | ⟨M, h2, rfl⟩
  · exact .zn (Zn_mul _ h)
  rcases mul_sgn s t h1 h2 with h | ⟨K, h3, h⟩
  · exact .inl h
  · exact .inr ⟨_, K, h3, h, .inl rfl⟩
theorem quot_num (s t : Bool) (m n : Nat) (i j : Int) (hn : n ≠ 0) : ∃ q e, (Ieee.Datum.number s m i).quotient (f64.fractionBits + 2) (.number t n j) = some (.number (s ^^ t) q e) := by
  unfold Ieee.Datum.quotient
  simp only [if_neg hn]
  exact ⟨_, _, rfl⟩
theorem write_nr (s : Bool) (m : Nat) (e : Int) : ∃ N, N ≤ infR ∧ f64.write (.number s m e) = wd s N := ⟨_, nearest_le m e, by rw [write_num, nearest_sign]⟩
/-- Quotients by what is above nought. -/
theorem Sg_div {t : Bool} {x : Option Nat} {G : Nat} (hx : Sg t x) (h0 : 0 < G) (hG : G ≤ infR) : Sg t (fdiv x (some G)) := by
  rcases hx.cases with h | ⟨N, h1, rfl⟩
  · exact .zn (Zn_div h _)
  have ex : (t ^^ false) = t := by cases t <;> rfl
  rcases Nat.lt_or_ge G infR with h3 | h3
  · obtain ⟨n, j, hn, _, n0⟩ := fin_read false h3
    rw [wd_false] at hn
    rw [fdiv_is, hn]
    rcases Nat.lt_or_ge N infR with h2 | h2
    · obtain ⟨m, i, hm, _⟩ := fin_read t h2
      obtain ⟨q, e, hq⟩ := quot_num t false m n i j (n0 (by omega))
      rw [hm, hq, Option.map_some, ex]
      obtain ⟨K, hK, hw⟩ := write_nr t q e
      exact .inr ⟨t, K, hK, by rw [hw], .inl rfl⟩
    · rw [dat_inf' t (show N = infR by omega)]
      refine .inr ⟨t, infR, Nat.le_refl _, ?_, .inl rfl⟩
      show some (f64.write (.infinity (t ^^ false))) = _
      rw [write_inf, ex]
  · have hinf : f64.read G = .infinity false := dat_inf' false (show G = infR by omega)
    rw [fdiv_is, hinf]
    rcases Nat.lt_or_ge N infR with h2 | h2
    · obtain ⟨m, i, hm, _⟩ := fin_read t h2
      rw [hm]
      refine .zn (.inr ⟨t ^^ false, ?_⟩)
      show some (f64.write (.number (t ^^ false) 0 0)) = _
      rw [write_0]
    · rw [dat_inf' t (show N = infR by omega)]
      exact .inl rfl
/-- The lower less the higher. -/
theorem sub_order {a b : Ieee.Datum} (t : Bool) (h : a.order b = some (if t then .lt else .gt)) : ∃ N, N ≤ infR ∧ (a.sum b.opposite).map f64.write = some (wd t N) := by
  cases a with
  | nan s f => cases b <;> exact nomatch h
  | infinity s =>
    cases b with
    | nan s f => exact nomatch h
    | number u n j =>
      have : s = t := by cases s <;> cases t <;> first | rfl | exact nomatch h
      subst this
      exact ⟨infR, Nat.le_refl _, rfl⟩
    | infinity u =>
      have : s = t ∧ u = !t := by cases s <;> cases t <;> cases u <;> first | exact ⟨rfl, rfl⟩ | exact nomatch h
      obtain ⟨rfl, rfl⟩ := this
      refine ⟨infR, Nat.le_refl _, ?_⟩
      show ((if s = !!s then some (Ieee.Datum.infinity s) else none)).map f64.write = _
      rw [if_pos (by simp)]; rfl
  | number s m i =>
    cases b with
    | nan s f => exact nomatch h
    | infinity u =>
      have : u = !t := by cases u <;> cases t <;> first | rfl | exact nomatch h
      subst this
      refine ⟨infR, Nat.le_refl _, ?_⟩
      show some (f64.write (.infinity (!!t))) = _
      rw [Bool.not_not]; rfl
    | number u n j =>
      have h : some (compare (Ieee.signed s m (i - min i j).toNat) (Ieee.signed u n (j - min i j).toNat)) = some (if t then .lt else .gt) := h
      injection h with h
      obtain ⟨c1, _, c3⟩ := cmp_is (Ieee.signed s m (i - min i j).toNat) (Ieee.signed u n (j - min i j).toNat)
      show ∃ N, N ≤ infR ∧ some (f64.write (.number (if Ieee.signed s m (i - min i j).toNat + Ieee.signed (!u) n (j - min i j).toNat = 0 then s && !u else decide (Ieee.signed s m (i - min i j).toNat + Ieee.signed (!u) n (j - min i j).toNat < 0)) (Ieee.signed s m (i - min i j).toNat + Ieee.signed (!u) n (j - min i j).toNat).natAbs (min i j))) = some (wd t N)
      rw [signed_not]
      generalize Ieee.signed s m (i - min i j).toNat = A at *
      generalize Ieee.signed u n (j - min i j).toNat = B at *
      have e : (if A + -B = 0 then s && !u else decide (A + -B < 0)) = t := by
        cases t
        · have := c3.1 h
          rw [if_neg (by omega), decide_eq_false (by omega)]
        · have := c1.1 h
          rw [if_neg (by omega), decide_eq_true (by omega)]
      rw [e]
      obtain ⟨K, hK, hw⟩ := write_nr t (A + -B).natAbs (min i j)
      exact ⟨K, hK, by rw [hw]⟩
theorem subF_lt {a b : Nat} (h : flt (some b) (some a) = true) : Sg true (fsub (some b) (some a)) := by
  have h : (f64.order b a == some .lt) = true := h
  have h : f64.order b a = some .lt := by simpa using h
  obtain ⟨N, h1, h2⟩ := sub_order true (a := f64.read b) (b := f64.read a) h
  exact .inr ⟨true, N, h1, by rw [fsub_is', h2], .inl rfl⟩
theorem subF_gt {a b : Nat} (h : fgt (some b) (some a) = true) : Sg false (fsub (some b) (some a)) := by
  have h : (f64.order b a == some .gt) = true := h
  have h : f64.order b a = some .gt := by simpa using h
  obtain ⟨N, h1, h2⟩ := sub_order false (a := f64.read b) (b := f64.read a) h
  exact .inr ⟨false, N, h1, by rw [fsub_is', h2], .inl rfl⟩
theorem gt_swap {a b : Nat} (h : fgt (some a) (some b) = true) (ha : a < 18446744073709551616) (hb : b < 18446744073709551616) : flt (some b) (some a) = true := by
  rcases nan_or ha with hn | ⟨s, R, hR, rfl⟩
  · unfold fgt at h; rw [(nan_cmp hn _).1] at h; exact nomatch h
  rcases nan_or hb with hn | ⟨t, Q, hQ, rfl⟩
  · unfold fgt at h; rw [(nan_cmp hn _).2] at h; exact nomatch h
  rw [fgt_rk s t hR hQ] at h
  rw [flt_rk t s hQ hR]; exact h
theorem lt_swap {a b : Nat} (h : flt (some a) (some b) = true) (ha : a < 18446744073709551616) (hb : b < 18446744073709551616) : fgt (some b) (some a) = true := by
  rcases nan_or ha with hn | ⟨s, R, hR, rfl⟩
  · unfold flt at h; rw [(nan_cmp hn _).1] at h; exact nomatch h
  rcases nan_or hb with hn | ⟨t, Q, hQ, rfl⟩
  · unfold flt at h; rw [(nan_cmp hn _).2] at h; exact nomatch h
  rw [flt_rk s t hR hQ] at h
  rw [fgt_rk t s hQ hR]; exact h
/-- Nought less a pull. -/
theorem Sg_rest {t : Bool} {y : Option Nat} (h : Sg t y) : Sg (!t) (fsub (some 0) y) := by
  rcases h.cases with h | ⟨N, h1, rfl⟩
  · exact .zn (Zn_sub Zn_0 h)
  · have hi := infR_eq
    have h0 : f64.read 0 = .number false 0 f64.leastPlace := by have := read_0 false; rwa [wd_false] at this
    rw [fsub_is', h0]
    rcases Nat.lt_or_ge N infR with h2 | h2
    · obtain ⟨m, e, hm, _⟩ := fin_read t h2
      rw [hm]
      show Sg (!t) (some (f64.write (.number (if Ieee.signed false 0 (f64.leastPlace - min f64.leastPlace e).toNat + Ieee.signed (!t) m (e - min f64.leastPlace e).toNat = 0 then false && !t else decide (Ieee.signed false 0 (f64.leastPlace - min f64.leastPlace e).toNat + Ieee.signed (!t) m (e - min f64.leastPlace e).toNat < 0)) (Ieee.signed false 0 (f64.leastPlace - min f64.leastPlace e).toNat + Ieee.signed (!t) m (e - min f64.leastPlace e).toNat).natAbs (min f64.leastPlace e))))
      have e0 : Ieee.signed false 0 (f64.leastPlace - min f64.leastPlace e).toNat = 0 := by unfold Ieee.signed; simp
      rw [e0, Int.zero_add]
      generalize min f64.leastPlace e = b
      have hs : Ieee.signed (!t) m (e - b).toNat = 0 ∨ ((!t) = decide (Ieee.signed (!t) m (e - b).toNat < 0) ∧ Ieee.signed (!t) m (e - b).toNat ≠ 0) := by
        unfold Ieee.signed
        generalize m <<< (e - b).toNat = k
        cases t
        · rw [if_pos (by rfl)]
          by_cases hk : k = 0
          · subst hk; exact .inl rfl
          · exact .inr ⟨by rw [decide_eq_true (by omega)]; rfl, by omega⟩
        · rw [if_neg (by decide)]
          by_cases hk : k = 0
          · subst hk; exact .inl rfl
          · exact .inr ⟨by rw [decide_eq_false (by omega)]; rfl, by omega⟩
      generalize Ieee.signed (!t) m (e - b).toNat = A at *
      rcases hs with rfl | ⟨hs, h9⟩
      · rw [if_pos rfl]
        exact .zn (.inr ⟨_, by rw [Int.natAbs_zero, write_0]⟩)
      · rw [if_neg h9, ← hs]
        obtain ⟨K, hK, hw⟩ := write_nr (!t) A.natAbs b
        exact .inr ⟨!t, K, hK, by rw [hw], .inl rfl⟩
    · rw [dat_inf' t (show N = infR by omega)]
      exact .inr ⟨!t, infR, Nat.le_refl _, rfl, .inl rfl⟩
/-! ### Drag -/
theorem read_one : f64.read oneW = .number false 4503599627370496 (-52) := by
  rw [show oneW = wd false oneW from rfl, read_wd false (by decide), show oneW = 1022 * 4503599627370496 + 4503599627370496 by decide, dat_normal _ _ (by decide) (by decide) (by decide)]
  rfl
theorem vR_oneW : vR oneW = 1 := by
  have := vR_at 1022 4503599627370496 (by decide) (fun _ => by decide)
  rw [show (1022 : Nat) * 2 ^ 52 + 4503599627370496 = oneW by decide, show (-1074 : Int) + ((1022 : Nat) : Int) = -52 by decide] at this
  rw [this]
  have e := mg_nat 1 (-52) 52
  rw [show 1 * 2 ^ 52 = 4503599627370496 by decide, show (-52 : Int) + ((52 : Nat) : Int) = 0 by decide, mg_0] at e
  rw [e]; rfl
theorem div_one (t : Bool) {P : Nat} (hP : P < infR) : fdiv (some (wd t P)) (some oneW) = some (wd t P) := by
  obtain ⟨m, i, hm, hv, m0⟩ := fin_read t hP
  rw [fdiv_is, hm, read_one, dig54]
  have ex : (t ^^ false) = t := by cases t <;> rfl
  have hl : (4503599627370496 : Nat).log2 = 52 := by decide
  have h0 : (Ieee.Datum.number t m i).quotient 54 (.number false 4503599627370496 (-52)) = some (.number (t ^^ false) (2 * ((m <<< (54 + (4503599627370496 : Nat).log2 - m.log2)) / 4503599627370496) + ((m <<< (54 + (4503599627370496 : Nat).log2 - m.log2)) % 4503599627370496 != 0).toNat) (i - (-52) - ((54 + (4503599627370496 : Nat).log2 - m.log2 : Nat) : Int) - 1)) := by
    unfold Ieee.Datum.quotient
    simp only [if_neg (show (4503599627370496 : Nat) ≠ 0 by decide)]
  rw [h0, hl, ex]
  have hlog : m.log2 ≤ 53 := by
    rcases Nat.eq_zero_or_pos m with rfl | hm0
    · decide
    · have hb : m < 2 ^ 54 := by
        have hd := hm
        have hi := infR_eq
        rw [read_wd t (by omega)] at hd
        unfold dat at hd
        rw [binade_eq] at hd
        split at hd
        · injection hd with _ hd _; omega
        · first
            | (injection hd with _ hd _; omega)
            | (split at hd
               · injection hd with _ hd _; omega
               · split at hd <;> exact nomatch hd)
      have := (Nat.log2_lt (n := m) (k := 54) (by omega)).2 hb
      omega
  obtain ⟨k, hk⟩ : ∃ k, 54 - m.log2 = k := ⟨_, rfl⟩
  have e1 : 54 + 52 - m.log2 = k + 52 := by omega
  rw [e1, Nat.shiftLeft_eq, Nat.pow_add, ← Nat.mul_assoc, show (2 : Nat) ^ 52 = 4503599627370496 from rfl, Nat.mul_div_cancel _ (by decide), Nat.mul_mod_left]
  have e2 : 2 * (m * 2 ^ k) + (((0 : Nat) != 0)).toNat = m * 2 ^ (k + 1) := by
    rw [Nat.pow_succ]
    show 2 * (m * 2 ^ k) + 0 = _
    rw [Nat.add_zero, Nat.mul_comm 2, Nat.mul_assoc]
  rw [e2, Option.map_some, write_num, nearest_sign]
  have hr := rd_near (m * 2 ^ (k + 1)) (i - (-52) - ((k + 52 : Nat) : Int) - 1)
  rw [mg_nat, show i - (-52) - ((k + 52 : Nat) : Int) - 1 + ((k + 1 : Nat) : Int) = i by omega, hv] at hr
  rw [hr.eq rfl (Nat.le_of_lt hP)]
theorem ulp_gt {P : Nat} (h : P ≠ 0) : vR P < (vR (P + 1) - vR P) * 9007199254740992 := by
  obtain ⟨q, k, h1, h2, h3, h4, h5⟩ := next_at P
  rw [h4, h5, mg_succ]
  have e : mg k (-1074 + (q : Int)) < mg 9007199254740992 (-1074 + (q : Int)) := (mg_lt_iff _ _ _).2 h2
  have e2 : mg 9007199254740992 (-1074 + (q : Int)) = 2 ^ (-1074 + (q : Int)) * 9007199254740992 := by
    unfold mg
    rw [show ((9007199254740992 : Nat) : Rat) = 9007199254740992 from rfl]; grind
  grind
/-- Quotients by what is no less than one are no greater. -/
theorem div_down (t : Bool) {P W : Nat} (hP : P < infR) (hW : W ≤ infR) (h1 : oneW ≤ W) : ∃ V, V ≤ P ∧ fdiv (some (wd t P)) (some W) = some (wd t V) := by
  have ex : (t ^^ false) = t := by cases t <;> rfl
  obtain ⟨m, i, hm, hv, m0⟩ := fin_read t hP
  rcases Nat.lt_or_ge W infR with h2 | h2
  · obtain ⟨n, j, hn, hw, n0⟩ := fin_read false h2
    rw [wd_false] at hn
    have hW0 : W ≠ 0 := by
      have : 0 < oneW := by decide
      omega
    rw [fdiv_is, hm, hn, dig54]
    by_cases hP0 : P = 0
    · subst hP0
      have : Zn (fdiv (some (wd t 0)) (some W)) := Zn_div (.inr ⟨t, rfl⟩) _
      obtain ⟨q, e, hq⟩ := quot_num t false m n i j (n0 hW0)
      have h3 := fdiv_is (wd t 0) W
      rw [hm, hn, hq, Option.map_some, ex] at h3
      rw [dig54] at hq
      rw [hq, Option.map_some, ex]
      obtain ⟨K, hK, hwr⟩ := write_nr t q e
      rw [hwr] at h3 ⊢
      rw [h3] at this
      rcases this with h4 | ⟨s, h4⟩
      · exact nomatch h4
      · injection h4 with h4
        have hi := infR_eq
        have : K = 0 := by
          cases s <;> cases t <;> simp only [wd_false, wd_true] at h4 <;> omega
        exact ⟨0, Nat.le_refl _, by rw [this]⟩
    · obtain ⟨q, e, hq, q0, k1, k2⟩ := quot_ok m n i j (m0 hP0) (n0 hW0)
      have hq2 : (Ieee.Datum.number t m i).quotient 54 (.number false n j) = some (.number t q e) := by
        cases t
        · exact hq
        · have : (Ieee.Datum.number true m i) = (Ieee.Datum.number false m i).opposite := rfl
          rw [this, quotient_opp, hq]; rfl
      rw [hq2, Option.map_some, write_num, nearest_sign]
      refine ⟨_, ?_, rfl⟩
      have hr := rd_near q e
      generalize f64.nearest false q e = V at hr ⊢
      obtain ⟨U, hU, u1, u2⟩ := hr.ex
      apply Classical.byContradiction
      intro hc
      have h5 := u1 P (by omega)
      rw [hv, hw] at k1
      have w1 : 1 ≤ vR W := by rw [← vR_oneW]; exact vR_le h1
      have p0 := vR_pos hP hP0
      have g0 := mg_pos q0 e
      have h6 : mg q e * 1 ≤ mg q e * vR W := Rat.mul_le_mul_of_nonneg_left w1 (Rat.le_of_lt g0)
      have h7 := ulp_gt hP0
      have h8 := u54_one
      have h9 : u54 = 2 ^ (-54 : Int) := rfl
      rw [← h9] at k1
      have h10 : vR P * u54 * 18014398509481984 = vR P := by grind
      grind
  · have : W = infR := by omega
    subst this
    refine ⟨0, Nat.zero_le _, ?_⟩
    have hinf : f64.read infR = .infinity false := dat_inf' false rfl
    rw [fdiv_is, hm, hinf]
    show some (f64.write (.number (t ^^ false) 0 0)) = _
    rw [write_0, ex]
/-- One and more. -/
theorem add_one {o : Option Nat} (h : Sg false o) : fadd (some oneW) o = none ∨ ∃ W, W ≤ infR ∧ oneW ≤ W ∧ fadd (some oneW) o = some W := by
  have h1 : oneW < infR := by rw [infR_eq]; decide
  rcases h.cases with (h | ⟨s, h⟩) | ⟨N, h2, rfl⟩
  · rw [h]; exact .inl rfl
  · rw [h]
    refine .inr ⟨oneW, Nat.le_of_lt h1, Nat.le_refl _, ?_⟩
    cases s
    · exact add_z h1
    · rw [add_neg' _ (Nat.zero_le _), sub_z h1]
  · rcases Nat.lt_or_ge N infR with h3 | h3
    · obtain ⟨W, hW, hr⟩ := add_rd h1 h3
      rw [wd_false]
      refine .inr ⟨W, hr.inf, hr.ge ?_ (Nat.le_of_lt h1), hW⟩
      have := vR_nonneg h3
      grind
    · refine .inr ⟨infR, Nat.le_refl _, Nat.le_of_lt h1, ?_⟩
      rw [fadd_is, read_one, dat_inf' false (show N = infR by omega)]
      rfl
theorem div_z (t : Bool) {H : Nat} (h0 : 0 < H) (hH : H ≤ infR) : fdiv (some (wd t 0)) (some H) = some (wd t 0) := by
  have ex : (t ^^ false) = t := by cases t <;> rfl
  rcases Nat.lt_or_ge H infR with h3 | h3
  · obtain ⟨n, j, hn, _, n0⟩ := fin_read false h3
    rw [wd_false] at hn
    have hz : Zn (fdiv (some (wd t 0)) (some H)) := Zn_div (.inr ⟨t, rfl⟩) _
    obtain ⟨q, e, hq⟩ := quot_num t false 0 n f64.leastPlace j (n0 (by omega))
    rw [fdiv_is, hn, read_0, hq, Option.map_some, ex] at hz ⊢
    obtain ⟨K, hK, hwr⟩ := write_nr t q e
    rw [hwr] at hz ⊢
    rcases hz with h4 | ⟨s, h4⟩
    · exact nomatch h4
    · injection h4 with h4
      have hi := infR_eq
      have : K = 0 := by
        cases s <;> cases t <;> simp only [wd_false, wd_true] at h4 <;> omega
      rw [this]
  · have hinf : f64.read H = .infinity false := dat_inf' false (show H = infR by omega)
    rw [fdiv_is, read_0, hinf]
    show some (f64.write (.number (t ^^ false) 0 0)) = _
    rw [write_0, ex]
theorem mul_00' {D : Nat} (hD : D < infR) : fmul (some 0) (some D) = some 0 := by
  obtain ⟨N, hN, hr⟩ := mul_rd (R := 0) false false (by rw [infR_eq]; decide) hD
  have : N = 0 := hr.eq (by rw [vR_0, Rat.zero_mul]) (Nat.zero_le _)
  subst this
  exact hN
section
variable {p : PlF} {H : Nat} (h0 : 0 < H) (hH : H ≤ infR)
include h0 hH
theorem go_free (hdr : p.dr = 0) {D : Nat} (hdt : p.dt = D) (hD : D < infR) (t : Bool) {P : Nat} (hP : P < infR) : goF p (some (wd t P)) (some H) = some (wd t P) := by
  unfold goF
  rw [hdr, hdt, mul_00' hD, show absO (some (wd t P)) = some (absB (wd t P)) from rfl, absB_wd t (Nat.le_of_lt hP), mul_00' hP]
  have hz := div_z false h0 hH
  rw [wd_false] at hz
  rw [hz, add_z (show oneW < infR by rw [infR_eq]; decide), div_one t hP]
theorem go_far {s : Bool} (hd : Sg false (fmul (some p.dr) (some p.dt))) (t : Bool) : goF p (some (wd t infR)) (some H) = none := by
  have hinf : f64.read infR = .infinity false := dat_inf' false rfl
  have hi0 : fdiv (some (wd t infR)) (some infR) = none := by rw [fdiv_is, dat_inf' t rfl, hinf]; rfl
  have h1 : fmul (fmul (some p.dr) (some p.dt)) (some infR) = none ∨ fmul (fmul (some p.dr) (some p.dt)) (some infR) = some infR := by
    rcases hd.cases with (h | ⟨s, h⟩) | ⟨N, h2, h⟩
    · rw [h]; exact .inl rfl
    · rw [h, fmul_is, read_0, hinf, product_comm, prod_inf, if_pos rfl]; exact .inl rfl
    · rw [h]
      rcases mul_sgn false false h2 (Nat.le_refl infR) with h3 | ⟨K, _, h3⟩
      · exact .inl h3
      · rcases Nat.lt_or_ge N infR with h4 | h4
        · obtain ⟨m, e, hm, _⟩ := fin_read false h4
          rw [fmul_is, hm, hinf, product_comm, prod_inf]
          by_cases h9 : m = 0
          · rw [if_pos h9]; exact .inl rfl
          · rw [if_neg h9]; exact .inr rfl
        · rw [fmul_is, dat_inf' false (show N = infR by omega), hinf]; exact .inr rfl
  unfold goF
  rw [show absO (some (wd t infR)) = some (absB (wd t infR)) from rfl, absB_wd t (Nat.le_refl _)]
  rcases h1 with h1 | h1
  · rw [h1]; rfl
  · rw [h1]
    rcases Nat.lt_or_ge H infR with h3 | h3
    · obtain ⟨n, j, hn, _⟩ := fin_read false h3
      rw [wd_false] at hn
      have e1 : fdiv (some infR) (some H) = some infR := by rw [fdiv_is, hinf, hn]; rfl
      have e2 : fadd (some oneW) (some infR) = some infR := by rw [fadd_is, read_one, hinf]; rfl
      rw [e1, e2, hi0]
    · have : H = infR := by omega
      subst this
      have e1 : fdiv (some infR) (some infR) = none := by rw [fdiv_is, hinf]; rfl
      rw [e1]; rfl
theorem go_drag (hd : Sg false (fmul (some p.dr) (some p.dt))) (t : Bool) {P : Nat} (hP : P < infR) : goF p (some (wd t P)) (some H) = none ∨ ∃ V, V ≤ P ∧ goF p (some (wd t P)) (some H) = some (wd t V) := by
  unfold goF
  rw [show absO (some (wd t P)) = some (absB (wd t P)) from rfl, absB_wd t (Nat.le_of_lt hP)]
  have h1 : Sg false (fdiv (fmul (fmul (some p.dr) (some p.dt)) (some P)) (some H)) := Sg_div (Sg_mul (s := false) (t := false) hd (.inr ⟨false, P, Nat.le_of_lt hP, rfl, .inl rfl⟩)) h0 hH
  rcases add_one h1 with h | ⟨W, w1, w2, h⟩
  · rw [h]; exact .inl rfl
  · rw [h]
    obtain ⟨V, v1, v2⟩ := div_down t hP w1 w2
    exact .inr ⟨V, v1, v2⟩
end
theorem cap_cw (s : Bool) {R : Nat} (h : R ≤ infR) : capF (some (wd s R)) = cw s (min R topW) := by
  rw [capF_wd s h]
  have ht : topW ≠ 0 := by decide
  by_cases hr : topW < R
  · rw [if_pos hr, Nat.min_eq_right (by omega), cw_wd s ht]
    cases s
    · rfl
    · exact low_wd
  · rw [if_neg hr, Nat.min_eq_left (by omega)]
theorem cw_0 (s : Bool) : cw s 0 = 0 := by rw [cw, if_pos rfl]
/-- Of two plans of which the second alone has drag: the speed is no greater with it. -/
theorem falls_mag {p q : PlF} {l r : Lk} {gap D G : Nat} {t : Bool} (hd : Sg t (fsub (some r.l) (some l.l))) (e1 : q.gr = p.gr) (e2 : q.dt = p.dt) (hdr : p.dr = 0) (hdt : p.dt = D) (hD : D < infR)
    (hg : Sg false (fmul (some p.gr) (some p.dt))) (hq : Sg false (fmul (some q.dr) (some q.dt))) (g0 : 0 < gap) (g1 : gap < infR) :
    ∃ A B, A ≤ infR ∧ B ≤ A ∧ speedL p l r gap 0 = cw (!t) A ∧ speedL q l r gap 0 = cw (!t) B := by
  have zz : ∃ A B, A ≤ infR ∧ B ≤ A ∧ 0 = cw (!t) A ∧ 0 = cw (!t) B := ⟨0, 0, Nat.zero_le _, Nat.le_refl _, (cw_0 _).symm, (cw_0 _).symm⟩
  have hpp : pullF q l r gap = pullF p l r gap := by unfold pullF; rw [e1, e2]
  unfold speedL
  rw [hpp]
  by_cases ho : openL l r = true
  case neg => rw [if_neg ho, if_neg ho]; exact zz
  rw [if_pos ho, if_pos ho]
  by_cases hm : fgt (midF l r) (some 0) = true
  case neg => rw [if_neg hm, if_neg hm]; exact zz
  rw [if_pos hm, if_pos hm]
  have hmid : ∃ H, midF l r = some H ∧ 0 < H ∧ H ≤ infR := by
    have key : midF l r = none ∨ Num (midF l r) := num_mul (some halfB) (fadd l.d r.d)
    rcases key with h | ⟨s, R, hR, h⟩
    · rw [h] at hm; exact nomatch hm
    · rw [h] at hm ⊢
      obtain ⟨H, e, h1, h2⟩ := gt0_is (wd_in s hR) hm
      exact ⟨H, by rw [e], h1, h2⟩
  obtain ⟨H, hH, H0, H1⟩ := hmid
  rw [hH]
  have hu : Sg (!t) (fsub (some 0) (pullF p l r gap)) := Sg_rest (by
    have := Sg_div (Sg_mul hg hd) g0 (Nat.le_of_lt g1)
    rw [Bool.false_xor] at this
    exact this)
  have hp0 : Sg false (fmul (some p.dr) (some p.dt)) := by rw [hdr, hdt, mul_00' hD]; exact .zn Zn_0
  have fin : ∀ s P, P < infR → (s = (!t) ∨ P = 0) → ∃ A B, A ≤ infR ∧ B ≤ A ∧ capF (goF p (some (wd s P)) (some H)) = cw (!t) A ∧ capF (goF q (some (wd s P)) (some H)) = cw (!t) B := by
    intro s P hP hs
    have hc : ∀ K, K ≤ P → cw s (min K topW) = cw (!t) (min K topW) := by
      intro K hK
      rcases hs with rfl | rfl
      · rfl
      · obtain rfl : K = 0 := by omega
        rw [Nat.zero_min, cw_0, cw_0]
    rw [go_free H0 H1 hdr hdt hD s hP, cap_cw s (Nat.le_of_lt hP)]
    rcases go_drag (p := q) H0 H1 hq s hP with h | ⟨V, v1, h⟩
    · rw [h]
      exact ⟨min P topW, 0, by omega, Nat.zero_le _, hc P (Nat.le_refl _), (cw_0 _).symm⟩
    · rw [h, cap_cw s (by omega)]
      exact ⟨min P topW, min V topW, by omega, by omega, hc P (Nat.le_refl _), hc V v1⟩
  rcases hu with h | ⟨s, N, h1, h2, h3⟩
  · rw [h]; exact zz
  · rw [h2]
    rcases Nat.lt_or_ge N infR with h4 | h4
    · exact fin s N h4 h3
    · obtain rfl : N = infR := by omega
      rw [go_far (s := s) H0 H1 hp0 s, go_far (s := s) H0 H1 hq s]
      exact zz
theorem cw_word (s : Bool) {A : Nat} (h : A ≤ infR) : ∃ u, cw s A = wd u A ∧ rk u A = rk s A := by
  by_cases h0 : A = 0
  · subst h0; exact ⟨false, cw_0 s, by cases s <;> rfl⟩
  · exact ⟨s, cw_wd s h0, rfl⟩
theorem falls_cmp {A B : Nat} (hA : A ≤ infR) (hB : B ≤ A) :
    (flt (some (cw false A)) (some 0) = false ∧ flt (some (cw false B)) (some 0) = false ∧ fgt (some (cw false B)) (some (cw false A)) = false) ∧
    (fgt (some (cw true A)) (some 0) = false ∧ fgt (some (cw true B)) (some 0) = false ∧ flt (some (cw true B)) (some (cw true A)) = false) := by
  have hz : (0 : Nat) ≤ infR := Nat.zero_le _
  obtain ⟨a, a1, a2⟩ := cw_word false hA
  obtain ⟨b, b1, b2⟩ := cw_word false (show B ≤ infR by omega)
  obtain ⟨c, c1, c2⟩ := cw_word true hA
  obtain ⟨d, d1, d2⟩ := cw_word true (show B ≤ infR by omega)
  have l0 : ∀ u {N}, N ≤ infR → flt (some (wd u N)) (some 0) = decide (rk u N < rk false 0) := fun u {N} h => flt_rk u false h hz
  have k0 : ∀ u {N}, N ≤ infR → fgt (some (wd u N)) (some 0) = decide (rk false 0 < rk u N) := fun u {N} h => fgt_rk u false h hz
  have hB' : B ≤ infR := by omega
  rw [a1, b1, c1, d1, l0 _ hA, l0 _ hB', k0 _ hA, k0 _ hB', fgt_rk _ _ hB' hA, flt_rk _ _ hB' hA, a2, b2, c2, d2]
  unfold rk
  simp
  omega
/-- Plain law. -/
theorem falls_plain {p q : PlF} {l r : Lk} {gap D : Nat} (ha : l.l < 18446744073709551616) (hb : r.l < 18446744073709551616) (e1 : q.gr = p.gr) (e2 : q.dt = p.dt) (hdr : p.dr = 0) (hdt : p.dt = D) (hD : D < infR)
    (hg : Sg false (fmul (some p.gr) (some p.dt))) (hq : Sg false (fmul (some q.dr) (some q.dt))) (g0 : 0 < gap) (g1 : gap < infR) :
    (fgt (some l.l) (some r.l) = true → flt (some (speedL p l r gap 0)) (some 0) = false ∧ flt (some (speedL q l r gap 0)) (some 0) = false ∧ fgt (some (speedL q l r gap 0)) (some (speedL p l r gap 0)) = false) ∧
    (flt (some l.l) (some r.l) = true → fgt (some (speedL p l r gap 0)) (some 0) = false ∧ fgt (some (speedL q l r gap 0)) (some 0) = false ∧ flt (some (speedL q l r gap 0)) (some (speedL p l r gap 0)) = false) := by
  refine ⟨fun h => ?_, fun h => ?_⟩
  · obtain ⟨A, B, h1, h2, h3, h4⟩ := falls_mag (G := 0) (t := true) (subF_lt (gt_swap h ha hb)) e1 e2 hdr hdt hD hg hq g0 g1
    rw [h3, h4]; exact (falls_cmp h1 h2).1
  · obtain ⟨A, B, h1, h2, h3, h4⟩ := falls_mag (G := 0) (t := false) (subF_gt (lt_swap h ha hb)) e1 e2 hdr hdt hD hg hq g0 g1
    rw [h3, h4]; exact (falls_cmp h1 h2).2
/-- From nought to 1024. -/
theorem range_of {g : Nat} (hg : g < 18446744073709551616) (h0 : fge (some g) (some 0) = true) (h1 : fle (some g) (some 4652218415073722368) = true) : Sg false (some g) ∧ ∃ s R, R < infR ∧ g = wd s R := by
  rcases nan_or hg with hn | ⟨s, R, hR, rfl⟩
  · exfalso
    unfold fge at h0
    rw [(nan_cmp hn _).1] at h0
    exact nomatch h0
  · have e1 : fge (some (wd s R)) (some 0) = _ := fge_rk s false hR (Nat.zero_le _)
    have e2 : fle (some (wd s R)) (some 4652218415073722368) = _ := fle_rk s false hR top_inf
    rw [e1] at h0
    rw [e2] at h1
    have h0 := of_decide_eq_true h0
    have h1 := of_decide_eq_true h1
    unfold rk at h0 h1
    have hi := infR_eq
    cases s
    · simp at h0 h1
      exact ⟨.inr ⟨false, R, hR, rfl, .inl rfl⟩, false, R, by omega, rfl⟩
    · simp at h0 h1
      exact ⟨.inr ⟨true, R, hR, rfl, .inr (by omega)⟩, true, R, by omega, rfl⟩
end Go.Proofs.YtemaeembndobaaaGreatDoor
