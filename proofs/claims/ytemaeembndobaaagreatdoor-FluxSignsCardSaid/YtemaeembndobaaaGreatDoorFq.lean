/- Plain facts of forces: an edge whose cells are exchanged. No condition. -/
import Derived.Test.YtemaeembndobaaaGreatDoorFp
namespace Go.Proofs.YtemaeembndobaaaGreatDoor
open Go Go.Eng Ieee
set_option maxRecDepth 100000
set_option linter.unusedSimpArgs false
set_option linter.unusedVariables false

/-- Opposites, noughts apart. -/
def Opp (x y : Option Nat) : Prop := (x = none ∧ y = none) ∨ (∃ s t, x = some (wd s 0) ∧ y = some (wd t 0)) ∨ ∃ s R, R ≤ infR ∧ x = some (wd s R) ∧ y = some (wd (!s) R)
theorem read_opp (s : Bool) {R : Nat} (h : R ≤ infR) : f64.read (wd (!s) R) = (f64.read (wd s R)).opposite := by
  have hi := infR_eq
  rw [read_wd _ (by omega), read_wd _ (by omega), dat_opp]
/-- The same datum, or its opposite, written. -/
theorem opp_write {d : Ieee.Datum} (h : d.isNaN = false) : Opp (some (f64.write d)) (some (f64.write d.opposite)) := by
  obtain ⟨s, R, h1, h2, h3⟩ := write_opp d h
  exact .inr (.inr ⟨s, R, h1, by rw [h2], by rw [h3]⟩)
theorem Opp_mul (x : Option Nat) {y z : Option Nat} (h : Opp y z) : Opp (fmul x y) (fmul x z) := by
  rcases h with ⟨rfl, rfl⟩ | ⟨s, t, rfl, rfl⟩ | ⟨s, R, hR, rfl, rfl⟩
  · cases x <;> exact .inl ⟨rfl, rfl⟩
  · cases x with
    | none => exact .inl ⟨rfl, rfl⟩
    | some a =>
      rw [fmul_is, fmul_is, read_0, read_0]
      cases f64.read a with
      | nan => exact .inl ⟨rfl, rfl⟩
      | infinity t => exact .inl ⟨rfl, rfl⟩
      | number u m i =>
        refine .inr (.inl ⟨u ^^ s, u ^^ t, ?_, ?_⟩)
        · show some (f64.write (.number (u ^^ s) (m * 0) (i + f64.leastPlace))) = _
          rw [Nat.mul_zero, write_0]
        · show some (f64.write (.number (u ^^ t) (m * 0) (i + f64.leastPlace))) = _
          rw [Nat.mul_zero, write_0]
  · cases x with
    | none => exact .inl ⟨rfl, rfl⟩
    | some a =>
      rw [fmul_is, fmul_is, read_opp s hR, product_comm _ (f64.read (wd s R)), product_comm _ (f64.read (wd s R)).opposite, product_opp]
      cases h : (f64.read (wd s R)).product (f64.read a) with
      | none => exact .inl ⟨rfl, rfl⟩
      | some d => exact opp_write (nan_product h)
theorem Opp_div {y z : Option Nat} (h : Opp y z) (x : Option Nat) : Opp (fdiv y x) (fdiv z x) := by
  rcases h with ⟨rfl, rfl⟩ | ⟨s, t, rfl, rfl⟩ | ⟨s, R, hR, rfl, rfl⟩
  · exact .inl ⟨rfl, rfl⟩
  · cases x with
    | none => exact .inl ⟨rfl, rfl⟩
    | some b =>
      rw [fdiv_is, fdiv_is, read_0, read_0]
      cases f64.read b with
      | nan => exact .inl ⟨rfl, rfl⟩
      | infinity u =>
        refine .inr (.inl ⟨s ^^ u, t ^^ u, ?_, ?_⟩)
        · show some (f64.write (.number (s ^^ u) 0 0)) = _
          rw [write_0]
        · show some (f64.write (.number (t ^^ u) 0 0)) = _
          rw [write_0]
      | number u n j =>
        simp only [Ieee.Datum.quotient]
        by_cases hn : n = 0
        · rw [if_pos hn, if_pos trivial, if_pos hn, if_pos trivial]; exact .inl ⟨rfl, rfl⟩
        · rw [if_neg hn, if_neg hn]
          simp only [Option.map_some, Nat.zero_shiftLeft, Nat.zero_div, Nat.zero_mod, Nat.mul_zero, bne_self_eq_false, Bool.toNat_false, Nat.add_zero]
          exact .inr (.inl ⟨s ^^ u, t ^^ u, by rw [write_0], by rw [write_0]⟩)
  · cases x with
    | none => exact .inl ⟨rfl, rfl⟩
    | some b =>
      rw [fdiv_is, fdiv_is, read_opp s hR, quotient_opp]
      cases h : (f64.read (wd s R)).quotient (f64.fractionBits + 2) (f64.read b) with
      | none => exact .inl ⟨rfl, rfl⟩
      | some d => exact opp_write (nan_quotient h)
theorem eqz_opp {d d' : Ieee.Datum} (h : d.isNaN = false) (hz : EqZ d' d.opposite) : Opp (some (f64.write d)) (some (f64.write d')) := by
  rcases hz with rfl | ⟨s, s', e, e', h1, h2⟩
  · exact opp_write h
  · refine .inr (.inl ⟨!s', s, ?_, by rw [h1, write_0]⟩)
    have : d = .number (!s') 0 e' := by
      have := congrArg Ieee.Datum.opposite h2
      rw [opp_opp] at this
      rw [this]; rfl
    rw [this, write_0]
/-- Opposites of a difference. -/
theorem ZS_of {x y : Option Nat} (h : Opp x y) : (x = none ∧ y = none) ∨ ∃ a b, x = some a ∧ y = some b ∧ ZS (f64.read b) (f64.read a).opposite := by
  rcases h with h | ⟨s, t, rfl, rfl⟩ | ⟨s, R, hR, rfl, rfl⟩
  · exact .inl h
  · exact .inr ⟨_, _, rfl, rfl, .inr ⟨t, !s, f64.leastPlace, read_0 t, by rw [read_0]; rfl⟩⟩
  · exact .inr ⟨_, _, rfl, rfl, .inl (read_opp s hR)⟩
theorem Opp_sub {x y u v : Option Nat} (h : Opp x y) (k : Opp u v) : Opp (fsub x u) (fsub y v) := by
  rcases ZS_of h with ⟨rfl, rfl⟩ | ⟨a, b, rfl, rfl, h1⟩
  · exact .inl ⟨rfl, rfl⟩
  rcases ZS_of k with ⟨rfl, rfl⟩ | ⟨c, d, rfl, rfl, h2⟩
  · exact .inl ⟨rfl, rfl⟩
  rw [fsub_is', fsub_is']
  have h3 := h2.opp
  rcases sum_ZS2 h1 h3 with ⟨e1, e2⟩ | ⟨d1, d2, e1, e2, e3⟩
  · rw [e1]
    rcases sum_opp (f64.read a) (f64.read c).opposite with ⟨r1, r2⟩ | ⟨d, r1, r2⟩
    · rw [r1]; exact .inl ⟨rfl, rfl⟩
    · rcases r2 with r2 | ⟨_, _, _, _, r2⟩ <;> rw [e2] at r2 <;> cases r2
  · rw [e1]
    rcases sum_opp (f64.read a) (f64.read c).opposite with ⟨r1, r2⟩ | ⟨d, r1, r2⟩
    · rw [e2] at r2; cases r2
    · rw [r1]
      rcases r2 with r2 | ⟨s, s', e, rfl, r2⟩
      · rw [e2] at r2; injection r2 with r2; subst r2
        exact eqz_opp (nan_sum r1) e3
      · rw [e2] at r2; injection r2 with r2; subst r2
        rcases e3 with rfl | ⟨t, t', _, _, rfl, _⟩
        · exact .inr (.inl ⟨s, s', congrArg some (write_0 _ _), congrArg some (write_0 _ _)⟩)
        · exact .inr (.inl ⟨s, t, congrArg some (write_0 _ _), congrArg some (write_0 _ _)⟩)
theorem absB_wd (s : Bool) {R : Nat} (h : R ≤ infR) : absB (wd s R) = R := by
  have hi := infR_eq
  rw [absB_mod (wd_in s h)]
  cases s
  · rw [wd_false]; omega
  · rw [wd_true]; omega
theorem Opp_abs {x y : Option Nat} (h : Opp x y) : absO x = absO y := by
  rcases h with ⟨rfl, rfl⟩ | ⟨s, t, rfl, rfl⟩ | ⟨s, R, hR, rfl, rfl⟩
  · rfl
  · exact congrArg some ((absB_wd s (Nat.zero_le _)).trans (absB_wd t (Nat.zero_le _)).symm)
  · exact congrArg some ((absB_wd s hR).trans (absB_wd _ hR).symm)
theorem fadd_comm' (x y : Option Nat) : fadd x y = fadd y x := by
  cases x with
  | none => cases y <;> rfl
  | some a => cases y with
    | none => rfl
    | some b => rw [fadd_is, fadd_is, sum_comm]
theorem capF_wd (s : Bool) {R : Nat} (h : R ≤ infR) : capF (some (wd s R)) = if topW < R then (if s then lowW else topW) else cw s R := by
  have e1 : fgt (some (wd s R)) (some topW) = _ := fgt_rk s false h top_inf
  have e2 : flt (some (wd s R)) (some (wd true topW)) = _ := flt_rk s true h top_inf
  have e3 := fne_rk s s h h
  rw [← low_wd] at e2
  unfold capF
  rw [e1, e2, e3, canon_wd s h]
  unfold rk
  have ht : topW = 4652218415073722368 := rfl
  cases s
  · simp only [Bool.false_eq_true, if_false, if_true, decide_eq_true_eq]
    by_cases hr : topW < R
    · rw [if_pos (by omega), if_pos hr]
    · rw [if_neg (by omega), if_neg hr, if_neg (by omega), if_neg (by simp)]
  · simp only [Bool.false_eq_true, if_false, if_true, decide_eq_true_eq]
    by_cases hr : topW < R
    · rw [if_neg (by omega), if_pos (by omega), if_pos hr]
    · rw [if_neg (by omega), if_neg (by omega), if_neg hr, if_neg (by simp)]
theorem neg_top : negF topW = lowW := by decide +kernel
theorem neg_low : negF lowW = topW := by decide +kernel
theorem Opp_cap {x y : Option Nat} (h : Opp x y) : capF y = negF (capF x) := by
  rcases h with ⟨rfl, rfl⟩ | ⟨s, t, rfl, rfl⟩ | ⟨s, R, hR, rfl, rfl⟩
  · exact negF_0.symm
  · rw [capF_Zn (.inr ⟨t, rfl⟩), capF_Zn (.inr ⟨s, rfl⟩), negF_0]
  · rw [capF_wd _ hR, capF_wd _ hR]
    by_cases hr : topW < R
    · rw [if_pos hr, if_pos hr]
      cases s
      · exact neg_top.symm
      · exact neg_low.symm
    · rw [if_neg hr, if_neg hr, negF_cw s hR]
theorem open_comm (l r : Lk) : openL r l = openL l r := by
  obtain ⟨lb, ld, ll, lw⟩ := l
  obtain ⟨rb, rd, rl, rw⟩ := r
  cases lw <;> cases rw <;> simp [openL]
theorem Opp_swap {a b : Nat} : Opp (fsub (some b) (some a)) (fsub (some a) (some b)) := by
  rw [fsub_is', fsub_is']
  have e : (f64.read a).sum (f64.read b).opposite = ((f64.read b).opposite).sum (f64.read a) := sum_comm _ _
  have e2 : (f64.read b).opposite.sum (f64.read a) = (f64.read b).opposite.sum ((f64.read a).opposite).opposite := by rw [opp_opp]
  rw [e, e2]
  rcases sum_opp (f64.read b) (f64.read a).opposite with ⟨r1, r2⟩ | ⟨d, r1, r2⟩
  · rw [r1, r2]; exact .inl ⟨rfl, rfl⟩
  · rw [r1]
    rcases r2 with r2 | ⟨s, s', e, rfl, r2⟩
    · rw [r2]; exact opp_write (nan_sum r1)
    · rw [r2]; exact .inr (.inl ⟨s, s', congrArg some (write_0 _ _), congrArg some (write_0 _ _)⟩)
/-- A speed turned round. -/
theorem Opp_neg {s : Nat} (hs : s < 18446744073709551616) {u v : Option Nat} (k : Opp u v) : Opp (fsub (some s) u) (fsub (some (Op.negFloat .f64 s)) v) := by
  have hi := infR_eq
  obtain ⟨t, R, hR, rfl⟩ : ∃ t R, R < 2 ^ 63 ∧ s = wd t R := by
    by_cases h1 : 9223372036854775808 ≤ s
    · exact ⟨true, s - 9223372036854775808, by omega, by rw [wd_true]; omega⟩
    · exact ⟨false, s, by omega, rfl⟩
  rw [neg_wd t hR]
  rcases Nat.lt_or_ge infR R with h | h
  · have hn : ∀ t x, fsub (some (wd t R)) x = none := fun t x => by
      cases x with
      | none => rfl
      | some c =>
        rw [fsub_is', read_wd t hR]
        have : ∃ k, dat t R = .nan t k := by
          unfold dat
          have hb := binade_eq
          rw [if_neg (by omega), if_neg (by omega), if_neg (by omega)]
          exact ⟨_, rfl⟩
        obtain ⟨k, hk⟩ := this
        rw [hk]
        cases (f64.read c).opposite <;> rfl
    rw [hn, hn]
    exact .inl ⟨rfl, rfl⟩
  · exact Opp_sub (.inr (.inr ⟨t, R, h, rfl, rfl⟩)) k
theorem mirror_plain (p : PlF) (l r : Lk) (gap : Nat) {s : Nat} (hs : s < 18446744073709551616) : speedL p r l gap (Op.negFloat .f64 s) = negF (speedL p l r gap s) := by
  have hm : midF r l = midF l r := by unfold midF; rw [fadd_comm']
  have hu : Opp (fsub (some s) (pullF p l r gap)) (fsub (some (Op.negFloat .f64 s)) (pullF p r l gap)) := Opp_neg hs (Opp_div (Opp_mul _ Opp_swap) _)
  have hg : Opp (goF p (fsub (some s) (pullF p l r gap)) (midF l r)) (goF p (fsub (some (Op.negFloat .f64 s)) (pullF p r l gap)) (midF l r)) := by
    unfold goF
    rw [← Opp_abs hu]
    exact Opp_div hu _
  unfold speedL
  rw [open_comm, hm]
  split
  · split
    · exact Opp_cap hg
    · exact negF_0.symm
  · exact negF_0.symm
end Go.Proofs.YtemaeembndobaaaGreatDoor
