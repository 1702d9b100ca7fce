/- Plain facts of forces: noughts, bounds, mirrored edges. No condition. -/
import Derived.Test.YtemaeembndobaaaGreatDoorFc
namespace Go.Proofs.YtemaeembndobaaaGreatDoor
open Go Go.Eng Ieee
set_option maxRecDepth 100000
set_option linter.unusedSimpArgs false
set_option linter.unusedVariables false

/-- A nought of either sign, or a NaN. -/
def Zn (o : Option Nat) : Prop := o = none ∨ ∃ s, o = some (wd s 0)
theorem read_0 (s : Bool) : f64.read (wd s 0) = .number s 0 f64.leastPlace := by
  rw [read_wd s (by decide)]
  unfold dat
  rw [if_pos (by decide)]
theorem write_0 (s : Bool) (e : Int) : f64.write (.number s 0 e) = wd s 0 := by
  rw [write_num, nearest_sign, nearest_zero]
  exact congrArg (wd s) (wd_false 0)
theorem Zn_mul (x : Option Nat) {y : Option Nat} (h : Zn y) : Zn (fmul x y) := by
  cases x with
  | none => exact .inl rfl
  | some a =>
    rcases h with rfl | ⟨s, rfl⟩
    · exact .inl rfl
    · rw [fmul_is, read_0]
      cases f64.read a with
      | nan => exact .inl rfl
      | infinity t => exact .inl rfl
      | number t m i =>
        refine .inr ⟨t ^^ s, ?_⟩
        show some (f64.write (.number (t ^^ s) (m * 0) (i + f64.leastPlace))) = _
        rw [Nat.mul_zero, write_0]
theorem Zn_div {x : Option Nat} (h : Zn x) (y : Option Nat) : Zn (fdiv x y) := by
  rcases h with rfl | ⟨s, rfl⟩
  · exact .inl rfl
  cases y with
  | none => exact .inl rfl
  | some b =>
    rw [fdiv_is, read_0]
    cases f64.read b with
    | nan => exact .inl rfl
    | infinity t =>
      refine .inr ⟨s ^^ t, ?_⟩
      show some (f64.write (.number (s ^^ t) 0 0)) = _
      rw [write_0]
    | number t n j =>
      simp only [Ieee.Datum.quotient]
      by_cases hn : n = 0
      · rw [if_pos hn, if_pos trivial]; exact .inl rfl
      · rw [if_neg hn]
        refine .inr ⟨s ^^ t, ?_⟩
        simp only [Option.map_some, Nat.zero_shiftLeft, Nat.zero_div, Nat.zero_mod, Nat.mul_zero, bne_self_eq_false, Bool.toNat_false, Nat.add_zero]
        rw [write_0]
theorem Zn_sub {x y : Option Nat} (hx : Zn x) (hy : Zn y) : Zn (fsub x y) := by
  rcases hx with rfl | ⟨s, rfl⟩
  · exact .inl rfl
  rcases hy with rfl | ⟨t, rfl⟩
  · exact .inl rfl
  rw [fsub_is', read_0, read_0]
  simp only [Ieee.Datum.opposite, Ieee.Datum.sum, Option.map_some]
  have e1 := (signed_zero s 0 (f64.leastPlace - min f64.leastPlace f64.leastPlace).toNat).2 rfl
  have e2 := (signed_zero (!t) 0 (f64.leastPlace - min f64.leastPlace f64.leastPlace).toNat).2 rfl
  rw [e1, e2]
  exact .inr ⟨_, congrArg some (write_0 _ _)⟩
theorem capF_Zn {o : Option Nat} (h : Zn o) : capF o = 0 := by
  rcases h with rfl | ⟨s, rfl⟩
  · rfl
  · cases s <;> decide +kernel
theorem zero_of {b : Nat} (hb : b < 18446744073709551616) (h : feq (some b) (some 0) = true) : Zn (some b) := by
  rcases nan_or hb with h1 | ⟨s, R, h1, rfl⟩
  · unfold feq at h; rw [(nan_cmp h1 _).1] at h; cases h
  · have := feq_rk s false h1 (Nat.zero_le infR)
    rw [wd_false] at this
    rw [this] at h
    have h := of_decide_eq_true h
    have : R = 0 := by
      unfold rk at h
      cases s <;> simp at h <;> omega
    subst this
    exact .inr ⟨s, rfl⟩
theorem zero_num {o : Option Nat} (ho : o = none ∨ Num o) (h : feq o (some 0) = true) : Zn o := by
  rcases ho with rfl | ⟨s, R, h1, rfl⟩
  · exact .inl rfl
  · exact zero_of (wd_in s h1) h
/-- Over level water at rest nothing moves. -/
theorem rest_plain (p : PlF) {l r : Lk} (gap : Nat) {s : Nat} (hb : s < 18446744073709551616) (hs : feq (some s) (some 0) = true) (hl : l.l = r.l) (hf : feq (fsub (some l.l) (some l.l)) (some 0) = true) : speedL p l r gap s = 0 := by
  unfold speedL
  split
  · split
    · refine capF_Zn (Zn_div (Zn_sub (zero_of hb hs) (Zn_div (Zn_mul _ ?_) _)) _)
      rw [← hl]
      exact zero_num (num_sub _ _) hf
    · rfl
  · rfl
/-! ### Bounds -/
def Bnd (v : Nat) : Prop := fge (some v) (some lowW) = true ∧ fle (some v) (some topW) = true ∧ canonF (some v) = v
theorem bnd_0 : Bnd 0 := by refine ⟨?_, ?_, ?_⟩ <;> decide +kernel
theorem bnd_top : Bnd topW := by refine ⟨?_, ?_, ?_⟩ <;> decide +kernel
theorem bnd_low : Bnd lowW := by refine ⟨?_, ?_, ?_⟩ <;> decide +kernel
theorem low_wd : lowW = wd true topW := by rw [wd_true]; decide
theorem top_inf : topW ≤ infR := by rw [infR_eq]; decide
theorem cw_wd (s : Bool) {R : Nat} (h : R ≠ 0) : cw s R = wd s R := by rw [cw, if_neg h]
theorem capF_bnd {o : Option Nat} (ho : o = none ∨ Num o) : Bnd (capF o) := by
  unfold capF
  split
  · exact bnd_top
  · rename_i h1
    split
    · exact bnd_low
    · rename_i h2
      split
      · exact bnd_0
      · rename_i h3
        rcases ho with rfl | ⟨s, R, hR, rfl⟩
        · exact absurd rfl h3
        · rw [canon_wd s hR]
          have e1 : fgt (some (wd s R)) (some (wd false topW)) = _ := fgt_rk s false hR top_inf
          have e2 : flt (some (wd s R)) (some (wd true topW)) = _ := flt_rk s true hR top_inf
          rw [show topW = wd false topW from rfl, e1] at h1
          rw [low_wd, e2] at h2
          have h1 : ¬ rk false topW < rk s R := by simpa using h1
          have h2 : ¬ rk s R < rk true topW := by simpa using h2
          by_cases hz : R = 0
          · subst hz; exact bnd_0
          · refine ⟨?_, ?_, canon_cw hR⟩
            · rw [cw_wd s hz, low_wd, fge_rk s true hR top_inf]
              exact decide_eq_true (by omega)
            · have := fle_rk s false hR top_inf
              rw [wd_false] at this
              rw [cw_wd s hz, this]
              exact decide_eq_true (by omega)
theorem speedL_bnd (p : PlF) (l r : Lk) (gap s : Nat) : Bnd (speedL p l r gap s) := by
  unfold speedL
  split
  · split
    · exact capF_bnd (num_div _ _)
    · exact bnd_0
  · exact bnd_0
theorem shut_0 (p : PlF) {l r : Lk} (gap s : Nat) (h : openL l r = false) : speedL p l r gap s = 0 := by
  unfold speedL
  rw [if_neg (by rw [h]; decide)]
end Go.Proofs.YtemaeembndobaaaGreatDoor
