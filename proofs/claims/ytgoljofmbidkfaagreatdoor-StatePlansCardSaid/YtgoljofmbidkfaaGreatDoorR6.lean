import Derived.Test.YtgoljofmbidkfaaGreatDoorZa
import Derived.Test.YtgoljofmbidkfaaGreatDoorLv
/- The reference's search for the cell beside, in plain numbers. No condition. -/
namespace Go.Proofs.YtgoljofmbidkfaaGreatDoor
open Go Go.Eng
set_option maxRecDepth 100000
set_option linter.unusedSimpArgs false
set_option linter.unusedVariables false

abbrev P3 : Type := Int × Int × Int
def plP (a : P3) (k : Int) (b : P3) : P3 := (a.1 + k * b.1, a.2.1 + k * b.2.1, a.2.2 + k * b.2.2)
def dtP (a b : P3) : Int := a.1 * b.1 + a.2.1 * b.2.1 + a.2.2 * b.2.2
def fC : Nat → P3
  | 0 => (1, 0, 0) | 1 => (0, 1, 0) | 2 => (-1, 0, 0) | 3 => (0, -1, 0) | 4 => (0, 0, 1) | _ => (0, 0, -1)
def fR : Nat → P3
  | 0 => (0, 1, 0) | 1 => (-1, 0, 0) | 2 => (0, -1, 0) | 3 => (1, 0, 0) | 4 => (0, 1, 0) | _ => (0, 1, 0)
def fU : Nat → P3
  | 0 => (0, 0, 1) | 1 => (0, 0, 1) | 2 => (0, 0, 1) | 3 => (0, 0, 1) | 4 => (-1, 0, 0) | _ => (1, 0, 0)
def midQ (n f i j : Nat) : P3 := plP (plP (plP (0, 0, 0) n (fC f)) (2 * i + 1 - n) (fR f)) (2 * j + 1 - n) (fU f)
def wayQ (f : Nat) : Nat → P3
  | 0 => fR f
  | 1 => fU f
  | 2 => plP (0, 0, 0) (-1) (fR f)
  | _ => plP (0, 0, 0) (-1) (fU f)
def edQ (n f i j s : Nat) : P3 := plP (midQ n f i j) 1 (wayQ f s)
def stQ (k : Nat) (e : P3) : Nat → P3
  | 1 => plP e (-1) (fU k)
  | 2 => plP e 1 (fR k)
  | 3 => plP e 1 (fU k)
  | _ => plP e (-1) (fR k)
def cellZ (n : Int) (k i j : Int) : Int := if (0 ≤ i ∧ i < n) ∧ (0 ≤ j ∧ j < n) then (k * n + j) * n + i else -1
/-- The cell that would have the stretch as side t of face k; below 0: none. -/
def tstQ (n : Nat) (cell : Int) (e : P3) (k t : Nat) : Int :=
  if (dtP (stQ k e t) (fR k) + n - 1) % 2 ≠ 0 ∨ (dtP (stQ k e t) (fU k) + n - 1) % 2 ≠ 0 then -1
  else if cellZ n k ((dtP (stQ k e t) (fR k) + n - 1) / 2) ((dtP (stQ k e t) (fU k) + n - 1) / 2) = cell then -1
  else cellZ n k ((dtP (stQ k e t) (fR k) + n - 1) / 2) ((dtP (stQ k e t) (fU k) + n - 1) / 2)
theorem cellZ_in {n k i j : Nat} (hi : i < n) (hj : j < n) {a b : Int} (ha : a = i) (hb : b = j) : cellZ n k a b = (cellN n k i j : Nat) := by
  subst ha hb
  unfold cellZ cellN
  rw [if_pos ⟨⟨by omega, by omega⟩, by omega, by omega⟩]
  push_cast; rfl
theorem cellZ_out {n k : Int} {a b : Int} (h : ¬ ((0 ≤ a ∧ a < n) ∧ (0 ≤ b ∧ b < n))) : cellZ n k a b = -1 := if_neg h
theorem cellN_cut {n f i j : Nat} (hi : i < n) (hj : j < n) : cellN n f i j / (n * n) = f ∧ cellN n f i j % n = i ∧ cellN n f i j / n % n = j := by
  have hn : 0 < n := by omega
  unfold cellN
  have e1 : ((f * n + j) * n + i) / n = f * n + j := by
    rw [Nat.mul_comm (f * n + j) n, Nat.mul_add_div hn, Nat.div_eq_of_lt hi, Nat.add_zero]
  have e2 : (f * n + j) / n = f := by
    rw [Nat.mul_comm f n, Nat.mul_add_div hn, Nat.div_eq_of_lt hj, Nat.add_zero]
  refine ⟨?_, ?_, ?_⟩
  · rw [← Nat.div_div_eq_div_mul, e1, e2]
  · rw [Nat.mul_comm (f * n + j) n, Nat.mul_add_mod, Nat.mod_eq_of_lt hi]
  · rw [e1, Nat.mul_comm f n, Nat.mul_add_mod, Nat.mod_eq_of_lt hj]
/-- Where the search finds the cell beside: on face nb.1 as its side nb's, and nowhere ahead of it. -/
structure Finds (n f i j s : Nat) (q : Nat × Nat × Nat × Nat) : Prop where
  on : dtP (edQ n f i j s) (fC q.1) = n
  at_ : tstQ n (cellN n f i j : Nat) (edQ n f i j s) q.1 q.2.2.2 = (cellQ n q : Nat)
  ahead : ∀ k, k < q.1 → dtP (edQ n f i j s) (fC k) = n → ∀ t, t < 4 → tstQ n (cellN n f i j : Nat) (edQ n f i j s) k t < 0
  low : ∀ t, t < q.2.2.2 → tstQ n (cellN n f i j : Nat) (edQ n f i j s) q.1 t < 0
theorem tst_odd {n k t : Nat} {cell : Int} {e : P3} (h : (dtP (stQ k e t) (fR k) + n - 1) % 2 ≠ 0 ∨ (dtP (stQ k e t) (fU k) + n - 1) % 2 ≠ 0) : tstQ n cell e k t < 0 := by
  unfold tstQ; rw [if_pos h]; decide
theorem tst_out {n k t : Nat} {cell : Int} {e : P3} {a b : Int} (ha : (dtP (stQ k e t) (fR k) + n - 1) / 2 = a) (hb : (dtP (stQ k e t) (fU k) + n - 1) / 2 = b) (h : ¬ ((0 ≤ a ∧ a < (n : Int)) ∧ (0 ≤ b ∧ b < (n : Int)))) : tstQ n cell e k t < 0 := by
  unfold tstQ; rw [ha, hb, cellZ_out h]; split <;> (try split) <;> decide
theorem tst_own {n k t i j : Nat} {e : P3} (ha : (dtP (stQ k e t) (fR k) + n - 1) / 2 = i) (hb : (dtP (stQ k e t) (fU k) + n - 1) / 2 = j) (hi : i < n) (hj : j < n) : tstQ n (cellN n k i j : Nat) e k t < 0 := by
  unfold tstQ; rw [ha, hb, cellZ_in hi hj rfl rfl, if_pos rfl]; split <;> decide
theorem tst_is {n f i j k t a b : Nat} {e : P3} (ha : dtP (stQ k e t) (fR k) + n - 1 = 2 * (a : Int)) (hb : dtP (stQ k e t) (fU k) + n - 1 = 2 * (b : Int)) (hi : i < n) (hj : j < n) (ha' : a < n) (hb' : b < n) (hne : (k, a, b) ≠ (f, i, j)) : tstQ n (cellN n f i j : Nat) e k t = (cellN n k a b : Nat) := by
  unfold tstQ
  rw [if_neg (by omega), show (dtP (stQ k e t) (fR k) + n - 1) / 2 = (a : Int) by omega, show (dtP (stQ k e t) (fU k) + n - 1) / 2 = (b : Int) by omega, cellZ_in ha' hb' rfl rfl, if_neg]
  intro hc
  have hc : cellN n k a b = cellN n f i j := by omega
  obtain ⟨x1, x2, x3⟩ := cellN_cut (n := n) (f := k) ha' hb'
  obtain ⟨y1, y2, y3⟩ := cellN_cut (n := n) (f := f) hi hj
  exact hne (by rw [hc] at x1 x2 x3; rw [← x1, ← x2, ← x3, y1, y2, y3])
set_option maxHeartbeats 0 in
theorem finds {n f i j s : Nat} (hf : f < 6) (hi : i < n) (hj : j < n) (hs : s < 4) : Finds n f i j s (nb n f i j s) := by
  have hne := (nb_cell (s := s) hf hi hj hs).1
  match f, hf, s, hs, hne with
  | 0, _, 0, _, hne | 0, _, 1, _, hne | 0, _, 2, _, hne | 0, _, 3, _, hne | 1, _, 0, _, hne | 1, _, 1, _, hne | 1, _, 2, _, hne | 1, _, 3, _, hne | 2, _, 0, _, hne | 2, _, 1, _, hne | 2, _, 2, _, hne | 2, _, 3, _, hne | 3, _, 0, _, hne | 3, _, 1, _, hne | 3, _, 2, _, hne | 3, _, 3, _, hne | 4, _, 0, _, hne | 4, _, 1, _, hne | 4, _, 2, _, hne | 4, _, 3, _, hne | 5, _, 0, _, hne | 5, _, 1, _, hne | 5, _, 2, _, hne | 5, _, 3, _, hne =>
    simp only [nb] at hne ⊢
    split
    all_goals
      rename_i hc
      first | simp only [if_pos hc] at hne | simp only [if_neg hc] at hne
      refine ⟨by (simp only [edQ, midQ, wayQ, plP, dtP, fC, fR, fU, stQ, nbE, nbT, putS, flipK, alongS]; omega), tst_is (by (simp only [edQ, midQ, wayQ, plP, dtP, fC, fR, fU, stQ, nbE, nbT, putS, flipK, alongS]; omega)) (by (simp only [edQ, midQ, wayQ, plP, dtP, fC, fR, fU, stQ, nbE, nbT, putS, flipK, alongS]; omega)) hi hj (by (simp only [edQ, midQ, wayQ, plP, dtP, fC, fR, fU, stQ, nbE, nbT, putS, flipK, alongS]; omega)) (by (simp only [edQ, midQ, wayQ, plP, dtP, fC, fR, fU, stQ, nbE, nbT, putS, flipK, alongS]; omega)) hne, ?_, ?_⟩
      · clear hne
        intro k hk hd t ht
        simp only [nbE, nbT] at hk
        rcases (show k = 0 ∨ k = 1 ∨ k = 2 ∨ k = 3 ∨ k = 4 ∨ k = 5 by omega) with rfl | rfl | rfl | rfl | rfl | rfl
        all_goals first
          | exact absurd hk (by decide)
          | (simp only [edQ, midQ, wayQ, plP, dtP, fC, fR, fU, stQ, nbE, nbT, putS, flipK, alongS] at hd; exfalso; omega)
          | (clear hd; rcases (show t = 0 ∨ t = 1 ∨ t = 2 ∨ t = 3 by omega) with rfl | rfl | rfl | rfl
             all_goals (first | exact tst_odd (by (simp only [edQ, midQ, wayQ, plP, dtP, fC, fR, fU, stQ, nbE, nbT, putS, flipK, alongS]; omega)) | exact tst_out rfl rfl (by (simp only [edQ, midQ, wayQ, plP, dtP, fC, fR, fU, stQ, nbE, nbT, putS, flipK, alongS]; omega)) | exact tst_own (by (simp only [edQ, midQ, wayQ, plP, dtP, fC, fR, fU, stQ, nbE, nbT, putS, flipK, alongS]; omega)) (by (simp only [edQ, midQ, wayQ, plP, dtP, fC, fR, fU, stQ, nbE, nbT, putS, flipK, alongS]; omega)) hi hj))
      · clear hne
        intro t ht
        simp only [nbE, nbT] at ht
        rcases (show t = 0 ∨ t = 1 ∨ t = 2 ∨ t = 3 by omega) with rfl | rfl | rfl | rfl
        all_goals first
          | exact absurd ht (by decide)
          | (first | exact tst_odd (by (simp only [edQ, midQ, wayQ, plP, dtP, fC, fR, fU, stQ, nbE, nbT, putS, flipK, alongS]; omega)) | exact tst_out rfl rfl (by (simp only [edQ, midQ, wayQ, plP, dtP, fC, fR, fU, stQ, nbE, nbT, putS, flipK, alongS]; omega)) | exact tst_own (by (simp only [edQ, midQ, wayQ, plP, dtP, fC, fR, fU, stQ, nbE, nbT, putS, flipK, alongS]; omega)) (by (simp only [edQ, midQ, wayQ, plP, dtP, fC, fR, fU, stQ, nbE, nbT, putS, flipK, alongS]; omega)) hi hj)
end Go.Proofs.YtgoljofmbidkfaaGreatDoor
/- The reference's cube: points, faces, cells. No condition. -/
namespace Go.Proofs.YtgoljofmbidkfaaGreatDoor
open Go Go.Eng
set_option maxRecDepth 100000
set_option linter.unusedSimpArgs false
set_option linter.unusedVariables false

abbrev vP (p : P3) : V := V3 p.1 p.2.1 p.2.2
structure bdP (n : Int) (p : P3) : Prop where
  x : -n ≤ p.1 ∧ p.1 ≤ n
  y : -n ≤ p.2.1 ∧ p.2.1 ≤ n
  z : -n ≤ p.2.2 ∧ p.2.2 ≤ n
end Go.Proofs.YtgoljofmbidkfaaGreatDoor
