/- Plain facts of forces: noughts, bounds, mirrored edges. No condition. -/
import Derived.Test.YthoofdnnfahhaaaGreatDoorFc
namespace Go.Proofs.YthoofdnnfahhaaaGreatDoor
open Go Go.Eng Ieee
set_option maxRecDepth 100000
set_option linter.unusedSimpArgs false
set_option linter.unusedVariables false

/-- A nought of either sign, or a NaN. -/
def Zn (o : Option Nat) : Prop := o = none ∨ ∃ s, o = some (wd s 0)
theorem read_0 (s : Bool) : f64.read (wd s 0) = .number s 0 f64.leastPlace := by
  rw [read_wd s (by decide)]
  unfold dat
  rw [if_pos (by decide)]
theorem write_0 (s : Bool) (e : Int) : f64.write (.number s 0 e) = wd s 0 := by
  rw [write_num, nearest_sign, nearest_zero]
  exact congrArg (wd s) (wd_false 0)
theorem Zn_mul (x : Option Nat) {y : Option Nat} (h : Zn y) : Zn (fmul x y) := by
  cases x with
  | none => exact .inl rfl
  | some a =>
    rcases h with rfl | ⟨s, rfl⟩
    · exact .inl rfl
    · rw [fmul_is, read_0]
      cases f64.read a with
      | nan => exact .inl rfl
      | infinity t => exact .inl rfl
      | number t m i =>
        refine .inr ⟨t ^^ s, ?_⟩
        show some (f64.write (.number (t ^^ s) (m * 0) (i + f64.leastPlace))) = _
        rw [Nat.mul_zero, write_0]
theorem Zn_div {x : Option Nat} (h : Zn x) (y : Option Nat) : Zn (fdiv x y) := by
  rcases h with rfl | ⟨s, rfl⟩
  · exact .inl rfl
  cases y with
  | none => exact .inl rfl
  | some b =>
    rw [fdiv_is, read_0]
    cases f64.read b with
    | nan => exact .inl rfl
    | infinity t =>
      refine .inr ⟨s ^^ t, ?_⟩
      show some (f64.write (.number (s ^^ t) 0 0)) = _
      rw [write_0]
    | number t n j =>
      simp only [Ieee.Datum.quotient]
      by_cases hn : n = 0
      · rw [if_pos hn, if_pos trivial]; exact .inl rfl
      · rw [if_neg hn]
        refine .inr ⟨s ^^ t, ?_⟩
        simp only [Option.map_some, Nat.zero_shiftLeft, Nat.zero_div, Nat.zero_mod, Nat.mul_zero, bne_self_eq_false, Bool.toNat_false, Nat.add_zero]
        rw [write_0]
theorem Zn_sub {x y : Option Nat} (hx : Zn x) (hy : Zn y) : Zn (fsub x y) := by
  rcases hx with rfl | ⟨s, rfl⟩
  · exact .inl rfl
  rcases hy with rfl | ⟨t, rfl⟩
  · exact .inl rfl
  rw [fsub_is', read_0, read_0]
  simp only [Ieee.Datum.opposite, Ieee.Datum.sum, Option.map_some]
  have e1 := (signed_zero s 0 (f64.leastPlace - min f64.leastPlace f64.leastPlace).toNat).2 rfl
  have e2 := (signed_zero (!t) 0 (f64.leastPlace - min f64.leastPlace f64.leastPlace).toNat).2 rfl
  rw [e1, e2]
  exact .inr ⟨_, congrArg some (write_0 _ _)⟩
theorem capF_Zn {o : Option Nat} (h : Zn o) : capF o = 0 := by
  rcases h with rfl | ⟨s, rfl⟩
  · rfl
  · cases s <;> decide +kernel
theorem zero_of {b : Nat} (hb : b < 18446744073709551616) (h : feq (some b) (some 0) = true) : Zn (some b) := by
  rcases nan_or hb with h1 | ⟨s, R, h1, rfl⟩
  · unfold feq at h; rw [(nan_cmp h1 _).1] at h; cases h
  · have := feq_rk s false h1 (Nat.zero_le infR)
    rw [wd_false] at this
    rw [this] at h
    have h := of_decide_eq_true h
    have : R = 0 := by
      unfold rk at h
      cases s <;> simp at h <;> omega
    subst this
    exact .inr ⟨s, rfl⟩
theorem zero_num {o : Option Nat} (ho : o = none ∨ Num o) (h : feq o (some 0) = true) : Zn o := by
  rcases ho with rfl | ⟨s, R, h1, rfl⟩
  · exact .inl rfl
  · exact zero_of (wd_in s h1) h
/-- Over level water at rest nothing moves. -/
theorem rest_plain (p : PlF) {l r : Lk} (gap : Nat) {s : Nat} (hb : s < 18446744073709551616) (hs : feq (some s) (some 0) = true) (hl : l.l = r.l) (hf : feq (fsub (some l.l) (some l.l)) (some 0) = true) : speedL p l r gap s = 0 := by
  unfold speedL
  split
  · split
    · refine capF_Zn (Zn_div (Zn_sub (zero_of hb hs) (Zn_div (Zn_mul _ ?_) _)) _)
      rw [← hl]
      exact zero_num (num_sub _ _) hf
    · rfl
  · rfl
/-! ### Bounds -/
def Bnd (v : Nat) : Prop := fge (some v) (some lowW) = true ∧ fle (some v) (some topW) = true ∧ canonF (some v) = v
theorem bnd_0 : Bnd 0 := by refine ⟨?_, ?_, ?_⟩ <;> decide +kernel
theorem bnd_top : Bnd topW := by refine ⟨?_, ?_, ?_⟩ <;> decide +kernel
theorem bnd_low : Bnd lowW := by refine ⟨?_, ?_, ?_⟩ <;> decide +kernel
theorem low_wd : lowW = wd true topW := by rw [wd_true]; decide
theorem top_inf : topW ≤ infR := by rw [infR_eq]; decide
theorem cw_wd (s : Bool) {R : Nat} (h : R ≠ 0) : cw s R = wd s R := by rw [cw, if_neg h]
theorem capF_bnd {o : Option Nat} (ho : o = none ∨ Num o) : Bnd (capF o) := by
  unfold capF
  split
  · exact bnd_top
  · rename_i h1
    split
    · exact bnd_low
    · rename_i h2
      split
      · exact bnd_0
      · rename_i h3
        rcases ho with rfl | ⟨s, R, hR, rfl⟩
        · exact absurd rfl h3
        · rw [canon_wd s hR]
          have e1 : fgt (some (wd s R)) (some (wd false topW)) = _ := fgt_rk s false hR top_inf
          have e2 : flt (some (wd s R)) (some (wd true topW)) = _ := flt_rk s true hR top_inf
          rw [show topW = wd false topW from rfl, e1] at h1
          rw [low_wd, e2] at h2
          have h1 : ¬ rk false topW < rk s R := by simpa using h1
          have h2 : ¬ rk s R < rk true topW := by simpa using h2
          by_cases hz : R = 0
          · subst hz; exact bnd_0
          · refine ⟨?_, ?_, canon_cw hR⟩
            · rw [cw_wd s hz, low_wd, fge_rk s true hR top_inf]
              exact decide_eq_true (by omega)
            · have := fle_rk s false hR top_inf
              rw [wd_false] at this
              rw [cw_wd s hz, this]
              exact decide_eq_true (by omega)
theorem speedL_bnd (p : PlF) (l r : Lk) (gap s : Nat) : Bnd (speedL p l r gap s) := by
  unfold speedL
  split
  · split
    · exact capF_bnd (num_div _ _)
    · exact bnd_0
  · exact bnd_0
theorem shut_0 (p : PlF) {l r : Lk} (gap s : Nat) (h : openL l r = false) : speedL p l r gap s = 0 := by
  unfold speedL
  rw [if_neg (by rw [h]; decide)]

/-- Opposites, noughts apart. -/
def Opp (x y : Option Nat) : Prop := (x = none ∧ y = none) ∨ (∃ s t, x = some (wd s 0) ∧ y = some (wd t 0)) ∨ ∃ s R, R ≤ infR ∧ x = some (wd s R) ∧ y = some (wd (!s) R)
theorem read_opp (s : Bool) {R : Nat} (h : R ≤ infR) : f64.read (wd (!s) R) = (f64.read (wd s R)).opposite := by
  have hi := infR_eq
  rw [read_wd _ (by omega), read_wd _ (by omega), dat_opp]
/-- The same datum, or its opposite, written. -/
theorem opp_write {d : Ieee.Datum} (h : d.isNaN = false) : Opp (some (f64.write d)) (some (f64.write d.opposite)) := by
  obtain ⟨s, R, h1, h2, h3⟩ := write_opp d h
  exact .inr (.inr ⟨s, R, h1, by rw [h2], by rw [h3]⟩)
theorem Opp_mul (x : Option Nat) {y z : Option Nat} (h : Opp y z) : Opp (fmul x y) (fmul x z) := by
  rcases h with ⟨rfl, rfl⟩ | ⟨s, t, rfl, rfl⟩ | ⟨s, R, hR, rfl, rfl⟩
  · cases x <;> exact .inl ⟨rfl, rfl⟩
  · cases x with
    | none => exact .inl ⟨rfl, rfl⟩
    | some a =>
      rw [fmul_is, fmul_is, read_0, read_0]
      cases f64.read a with
      | nan => exact .inl ⟨rfl, rfl⟩
      | infinity t => exact .inl ⟨rfl, rfl⟩
      | number u m i =>
        refine .inr (.inl ⟨u ^^ s, u ^^ t, ?_, ?_⟩)
        · show some (f64.write (.number (u ^^ s) (m * 0) (i + f64.leastPlace))) = _
          rw [Nat.mul_zero, write_0]
        · show some (f64.write (.number (u ^^ t) (m * 0) (i + f64.leastPlace))) = _
          rw [Nat.mul_zero, write_0]
  · cases x with
    | none => exact .inl ⟨rfl, rfl⟩
    | some a =>
      rw [fmul_is, fmul_is, read_opp s hR, product_comm _ (f64.read (wd s R)), product_comm _ (f64.read (wd s R)).opposite, product_opp]
      cases h : (f64.read (wd s R)).product (f64.read a) with
      | none => exact .inl ⟨rfl, rfl⟩
      | some d => exact opp_write (nan_product h)
theorem Opp_div {y z : Option Nat} (h : Opp y z) (x : Option Nat) : Opp (fdiv y x) (fdiv z x) := by
  rcases h with ⟨rfl, rfl⟩ | ⟨s, t, rfl, rfl⟩ | ⟨s, R, hR, rfl, rfl⟩
  · exact .inl ⟨rfl, rfl⟩
  · cases x with
    | none => exact .inl ⟨rfl, rfl⟩
    | some b =>
      rw [fdiv_is, fdiv_is, read_0, read_0]
      cases f64.read b with
      | nan => exact .inl ⟨rfl, rfl⟩
      | infinity u =>
        refine .inr (.inl ⟨s ^^ u, t ^^ u, ?_, ?_⟩)
        · show some (f64.write (.number (s ^^ u) 0 0)) = _
          rw [write_0]
        · show some (f64.write (.number (t ^^ u) 0 0)) = _
          rw [write_0]
      | number u n j =>
        simp only [Ieee.Datum.quotient]
        by_cases hn : n = 0
        · rw [if_pos hn, if_pos trivial, if_pos hn, if_pos trivial]; exact .inl ⟨rfl, rfl⟩
        · rw [if_neg hn, if_neg hn]
          simp only [Option.map_some, Nat.zero_shiftLeft, Nat.zero_div, Nat.zero_mod, Nat.mul_zero, bne_self_eq_false, Bool.toNat_false, Nat.add_zero]
          exact .inr (.inl ⟨s ^^ u, t ^^ u, by rw [write_0], by rw [write_0]⟩)
  · cases x with
    | none => exact .inl ⟨rfl, rfl⟩
    | some b =>
      rw [fdiv_is, fdiv_is, read_opp s hR, quotient_opp]
      cases h : (f64.read (wd s R)).quotient (f64.fractionBits + 2) (f64.read b) with
      | none => exact .inl ⟨rfl, rfl⟩
      | some d => exact opp_write (nan_quotient h)
theorem eqz_opp {d d' : Ieee.Datum} (h : d.isNaN = false) (hz : EqZ d' d.opposite) : Opp (some (f64.write d)) (some (f64.write d')) := by
  rcases hz with rfl | ⟨s, s', e, e', h1, h2⟩
  · exact opp_write h
  · refine .inr (.inl ⟨!s', s, ?_, by rw [h1, write_0]⟩)
    have : d = .number (!s') 0 e' := by
      have := congrArg Ieee.Datum.opposite h2
      rw [opp_opp] at this
      rw [this]; rfl
    rw [this, write_0]
/-- Opposites of a difference. -/
theorem ZS_of {x y : Option Nat} (h : Opp x y) : (x = none ∧ y = none) ∨ ∃ a b, x = some a ∧ y = some b ∧ ZS (f64.read b) (f64.read a).opposite := by
  rcases h with h | ⟨s, t, rfl, rfl⟩ | ⟨s, R, hR, rfl, rfl⟩
  · exact .inl h
  · exact .inr ⟨_, _, rfl, rfl, .inr ⟨t, !s, f64.leastPlace, read_0 t, by rw [read_0]; rfl⟩⟩
  · exact .inr ⟨_, _, rfl, rfl, .inl (read_opp s hR)⟩
theorem Opp_sub {x y u v : Option Nat} (h : Opp x y) (k : Opp u v) : Opp (fsub x u) (fsub y v) := by
  rcases ZS_of h with ⟨rfl, rfl⟩ | ⟨a, b, rfl, rfl, h1⟩
  · exact .inl ⟨rfl, rfl⟩
  rcases ZS_of k with ⟨rfl, rfl⟩ | ⟨c, d, rfl, rfl, h2⟩
  · exact .inl ⟨rfl, rfl⟩
  rw [fsub_is', fsub_is']
  have h3 := h2.opp
  rcases sum_ZS2 h1 h3 with ⟨e1, e2⟩ | ⟨d1, d2, e1, e2, e3⟩
  · rw [e1]
    rcases sum_opp (f64.read a) (f64.read c).opposite with ⟨r1, r2⟩ | ⟨d, r1, r2⟩
    · rw [r1]; exact .inl ⟨rfl, rfl⟩
    · rcases r2 with r2 | ⟨_, _, _, _, r2⟩ <;> rw [e2] at r2 <;> cases r2
  · rw [e1]
    rcases sum_opp (f64.read a) (f64.read c).opposite with ⟨r1, r2⟩ | ⟨d, r1, r2⟩
    · rw [e2] at r2; cases r2
    · rw [r1]
      rcases r2 with r2 | ⟨s, s', e, rfl, r2⟩
      · rw [e2] at r2; injection r2 with r2; subst r2
        exact eqz_opp (nan_sum r1) e3
      · rw [e2] at r2; injection r2 with r2; subst r2
        rcases e3 with rfl | ⟨t, t', _, _, rfl, _⟩
        · exact .inr (.inl ⟨s, s', congrArg some (write_0 _ _), congrArg some (write_0 _ _)⟩)
        · exact .inr (.inl ⟨s, t, congrArg some (write_0 _ _), congrArg some (write_0 _ _)⟩)
theorem absB_wd (s : Bool) {R : Nat} (h : R ≤ infR) : absB (wd s R) = R := by
  have hi := infR_eq
  rw [absB_mod (wd_in s h)]
  cases s
  · rw [wd_false]; omega
  · rw [wd_true]; omega
theorem Opp_abs {x y : Option Nat} (h : Opp x y) : absO x = absO y := by
  rcases h with ⟨rfl, rfl⟩ | ⟨s, t, rfl, rfl⟩ | ⟨s, R, hR, rfl, rfl⟩
  · rfl
  · exact congrArg some ((absB_wd s (Nat.zero_le _)).trans (absB_wd t (Nat.zero_le _)).symm)
  · exact congrArg some ((absB_wd s hR).trans (absB_wd _ hR).symm)
theorem fadd_comm' (x y : Option Nat) : fadd x y = fadd y x := by
  cases x with
  | none => cases y <;> rfl
  | some a => cases y with
    | none => rfl
    | some b => rw [fadd_is, fadd_is, sum_comm]
theorem capF_wd (s : Bool) {R : Nat} (h : R ≤ infR) : capF (some (wd s R)) = if topW < R then (if s then lowW else topW) else cw s R := by
  have e1 : fgt (some (wd s R)) (some topW) = _ := fgt_rk s false h top_inf
  have e2 : flt (some (wd s R)) (some (wd true topW)) = _ := flt_rk s true h top_inf
  have e3 := fne_rk s s h h
  rw [← low_wd] at e2
  unfold capF
  rw [e1, e2, e3, canon_wd s h]
  unfold rk
  have ht : topW = 4652218415073722368 := rfl
  cases s
  · simp only [Bool.false_eq_true, if_false, if_true, decide_eq_true_eq]
    by_cases hr : topW < R
    · rw [if_pos (by omega), if_pos hr]
    · rw [if_neg (by omega), if_neg hr, if_neg (by omega), if_neg (by simp)]
  · simp only [Bool.false_eq_true, if_false, if_true, decide_eq_true_eq]
    by_cases hr : topW < R
    · rw [if_neg (by omega), if_pos (by omega), if_pos hr]
    · rw [if_neg (by omega), if_neg (by omega), if_neg hr, if_neg (by simp)]
theorem neg_top : negF topW = lowW := by decide +kernel
theorem neg_low : negF lowW = topW := by decide +kernel
theorem Opp_cap {x y : Option Nat} (h : Opp x y) : capF y = negF (capF x) := by
  rcases h with ⟨rfl, rfl⟩ | ⟨s, t, rfl, rfl⟩ | ⟨s, R, hR, rfl, rfl⟩
  · exact negF_0.symm
  · rw [capF_Zn (.inr ⟨t, rfl⟩), capF_Zn (.inr ⟨s, rfl⟩), negF_0]
  · rw [capF_wd _ hR, capF_wd _ hR]
    by_cases hr : topW < R
    · rw [if_pos hr, if_pos hr]
      cases s
      · exact neg_top.symm
      · exact neg_low.symm
    · rw [if_neg hr, if_neg hr, negF_cw s hR]
theorem open_comm (l r : Lk) : openL r l = openL l r := by
  obtain ⟨lb, ld, ll, lw⟩ := l
  obtain ⟨rb, rd, rl, rw⟩ := r
  cases lw <;> cases rw <;> simp [openL]
theorem Opp_swap {a b : Nat} : Opp (fsub (some b) (some a)) (fsub (some a) (some b)) := by
  rw [fsub_is', fsub_is']
  have e : (f64.read a).sum (f64.read b).opposite = ((f64.read b).opposite).sum (f64.read a) := sum_comm _ _
  have e2 : (f64.read b).opposite.sum (f64.read a) = (f64.read b).opposite.sum ((f64.read a).opposite).opposite := by rw [opp_opp]
  rw [e, e2]
  rcases sum_opp (f64.read b) (f64.read a).opposite with ⟨r1, r2⟩ | ⟨d, r1, r2⟩
  · rw [r1, r2]; exact .inl ⟨rfl, rfl⟩
  · rw [r1]
    rcases r2 with r2 | ⟨s, s', e, rfl, r2⟩
    · rw [r2]; exact opp_write (nan_sum r1)
    · rw [r2]; exact .inr (.inl ⟨s, s', congrArg some (write_0 _ _), congrArg some (write_0 _ _)⟩)
/-- A speed turned round. -/
theorem Opp_neg {s : Nat} (hs : s < 18446744073709551616) {u v : Option Nat} (k : Opp u v) : Opp (fsub (some s) u) (fsub (some (Op.negFloat .f64 s)) v) := by
  have hi := infR_eq
  obtain ⟨t, R, hR, rfl⟩ : ∃ t R, R < 2 ^ 63 ∧ s = wd t R := by
    by_cases h1 : 9223372036854775808 ≤ s
    · exact ⟨true, s - 9223372036854775808, by omega, by rw [wd_true]; omega⟩
    · exact ⟨false, s, by omega, rfl⟩
  rw [neg_wd t hR]
  rcases Nat.lt_or_ge infR R with h | h
  · have hn : ∀ t x, fsub (some (wd t R)) x = none := fun t x => by
      cases x with
      | none => rfl
      | some c =>
        rw [fsub_is', read_wd t hR]
        have : ∃ k, dat t R = .nan t k := by
          unfold dat
          have hb := binade_eq
          rw [if_neg (by omega), if_neg (by omega), if_neg (by omega)]
          exact ⟨_, rfl⟩
        obtain ⟨k, hk⟩ := this
        rw [hk]
        cases (f64.read c).opposite <;> rfl
    rw [hn, hn]
    exact .inl ⟨rfl, rfl⟩
  · exact Opp_sub (.inr (.inr ⟨t, R, h, rfl, rfl⟩)) k
theorem mirror_plain (p : PlF) (l r : Lk) (gap : Nat) {s : Nat} (hs : s < 18446744073709551616) : speedL p r l gap (Op.negFloat .f64 s) = negF (speedL p l r gap s) := by
  have hm : midF r l = midF l r := by unfold midF; rw [fadd_comm']
  have hu : Opp (fsub (some s) (pullF p l r gap)) (fsub (some (Op.negFloat .f64 s)) (pullF p r l gap)) := Opp_neg hs (Opp_div (Opp_mul _ Opp_swap) _)
  have hg : Opp (goF p (fsub (some s) (pullF p l r gap)) (midF l r)) (goF p (fsub (some (Op.negFloat .f64 s)) (pullF p r l gap)) (midF l r)) := by
    unfold goF
    rw [← Opp_abs hu]
    exact Opp_div hu _
  unfold speedL
  rw [open_comm, hm]
  split
  · split
    · exact Opp_cap hg
    · exact negF_0.symm
  · exact negF_0.symm
end Go.Proofs.YthoofdnnfahhaaaGreatDoor
