import Derived.Test.YtgoljofmbidkfaaGreatDoorZa
import Derived.Test.YtgoljofmbidkfaaGreatDoorLv
import Derived.Test.YtgoljofmbidkfaaGreatDoorJ
/- The reference's search for the cell beside, in plain numbers. No condition. -/
namespace Go.Proofs.YtgoljofmbidkfaaGreatDoor
open Go Go.Eng
set_option maxRecDepth 100000
set_option linter.unusedSimpArgs false
set_option linter.unusedVariables false

abbrev P3 : Type := Int × Int × Int
def plP (a : P3) (k : Int) (b : P3) : P3 := (a.1 + k * b.1, a.2.1 + k * b.2.1, a.2.2 + k * b.2.2)
def dtP (a b : P3) : Int := a.1 * b.1 + a.2.1 * b.2.1 + a.2.2 * b.2.2
def fC : Nat → P3
  | 0 => (1, 0, 0) | 1 => (0, 1, 0) | 2 => (-1, 0, 0) | 3 => (0, -1, 0) | 4 => (0, 0, 1) | _ => (0, 0, -1)
def fR : Nat → P3
  | 0 => (0, 1, 0) | 1 => (-1, 0, 0) | 2 => (0, -1, 0) | 3 => (1, 0, 0) | 4 => (0, 1, 0) | _ => (0, 1, 0)
def fU : Nat → P3
  | 0 => (0, 0, 1) | 1 => (0, 0, 1) | 2 => (0, 0, 1) | 3 => (0, 0, 1) | 4 => (-1, 0, 0) | _ => (1, 0, 0)
def midQ (n f i j : Nat) : P3 := plP (plP (plP (0, 0, 0) n (fC f)) (2 * i + 1 - n) (fR f)) (2 * j + 1 - n) (fU f)
def wayQ (f : Nat) : Nat → P3
  | 0 => fR f
  | 1 => fU f
  | 2 => plP (0, 0, 0) (-1) (fR f)
  | _ => plP (0, 0, 0) (-1) (fU f)
def edQ (n f i j s : Nat) : P3 := plP (midQ n f i j) 1 (wayQ f s)
def stQ (k : Nat) (e : P3) : Nat → P3
  | 1 => plP e (-1) (fU k)
  | 2 => plP e 1 (fR k)
  | 3 => plP e 1 (fU k)
  | _ => plP e (-1) (fR k)
def cellZ (n : Int) (k i j : Int) : Int := if (0 ≤ i ∧ i < n) ∧ (0 ≤ j ∧ j < n) then (k * n + j) * n + i else -1
/-- The cell that would have the stretch as side t of face k; below 0: none. -/
def tstQ (n : Nat) (cell : Int) (e : P3) (k t : Nat) : Int :=
  if (dtP (stQ k e t) (fR k) + n - 1) % 2 ≠ 0 ∨ (dtP (stQ k e t) (fU k) + n - 1) % 2 ≠ 0 then -1
  else if cellZ n k ((dtP (stQ k e t) (fR k) + n - 1) / 2) ((dtP (stQ k e t) (fU k) + n - 1) / 2) = cell then -1
  else cellZ n k ((dtP (stQ k e t) (fR k) + n - 1) / 2) ((dtP (stQ k e t) (fU k) + n - 1) / 2)
theorem cellZ_in {n k i j : Nat} (hi : i < n) (hj : j < n) {a b : Int} (ha : a = i) (hb : b = j) : cellZ n k a b = (cellN n k i j : Nat) := by
  subst ha hb
  unfold cellZ cellN
  rw [if_pos ⟨⟨by omega, by omega⟩, by omega, by omega⟩]
  push_cast; rfl
theorem cellZ_out {n k : Int} {a b : Int} (h : ¬ ((0 ≤ a ∧ a < n) ∧ (0 ≤ b ∧ b < n))) : cellZ n k a b = -1 := if_neg h
theorem cellN_cut {n f i j : Nat} (hi : i < n) (hj : j < n) : cellN n f i j / (n * n) = f ∧ cellN n f i j % n = i ∧ cellN n f i j / n % n = j := by
  have hn : 0 < n := by omega
  unfold cellN
  have e1 : ((f * n + j) * n + i) / n = f * n + j := by
    rw [Nat.mul_comm (f * n + j) n, Nat.mul_add_div hn, Nat.div_eq_of_lt hi, Nat.add_zero]
  have e2 : (f * n + j) / n = f := by
    rw [Nat.mul_comm f n, Nat.mul_add_div hn, Nat.div_eq_of_lt hj, Nat.add_zero]
  refine ⟨?_, ?_, ?_⟩
  · rw [← Nat.div_div_eq_div_mul, e1, e2]
  · rw [Nat.mul_comm (f * n + j) n, Nat.mul_add_mod, Nat.mod_eq_of_lt hi]
  · rw [e1, Nat.mul_comm f n, Nat.mul_add_mod, Nat.mod_eq_of_lt hj]
/-- Where the search finds the cell beside: on face nb.1 as its side nb's, and nowhere ahead of it. -/
structure Finds (n f i j s : Nat) (q : Nat × Nat × Nat × Nat) : Prop where
  on : dtP (edQ n f i j s) (fC q.1) = n
  at_ : tstQ n (cellN n f i j : Nat) (edQ n f i j s) q.1 q.2.2.2 = (cellQ n q : Nat)
  ahead : ∀ k, k < q.1 → dtP (edQ n f i j s) (fC k) = n → ∀ t, t < 4 → tstQ n (cellN n f i j : Nat) (edQ n f i j s) k t < 0
  low : ∀ t, t < q.2.2.2 → tstQ n (cellN n f i j : Nat) (edQ n f i j s) q.1 t < 0
theorem tst_odd {n k t : Nat} {cell : Int} {e : P3} (h : (dtP (stQ k e t) (fR k) + n - 1) % 2 ≠ 0 ∨ (dtP (stQ k e t) (fU k) + n - 1) % 2 ≠ 0) : tstQ n cell e k t < 0 := by
  unfold tstQ; rw [if_pos h]; decide
theorem tst_out {n k t : Nat} {cell : Int} {e : P3} {a b : Int} (ha : (dtP (stQ k e t) (fR k) + n - 1) / 2 = a) (hb : (dtP (stQ k e t) (fU k) + n - 1) / 2 = b) (h : ¬ ((0 ≤ a ∧ a < (n : Int)) ∧ (0 ≤ b ∧ b < (n : Int)))) : tstQ n cell e k t < 0 := by
  unfold tstQ; rw [ha, hb, cellZ_out h]; split <;> (try split) <;> decide
theorem tst_own {n k t i j : Nat} {e : P3} (ha : (dtP (stQ k e t) (fR k) + n - 1) / 2 = i) (hb : (dtP (stQ k e t) (fU k) + n - 1) / 2 = j) (hi : i < n) (hj : j < n) : tstQ n (cellN n k i j : Nat) e k t < 0 := by
  unfold tstQ; rw [ha, hb, cellZ_in hi hj rfl rfl, if_pos rfl]; split <;> decide
theorem tst_is {n f i j k t a b : Nat} {e : P3} (ha : dtP (stQ k e t) (fR k) + n - 1 = 2 * (a : Int)) (hb : dtP (stQ k e t) (fU k) + n - 1 = 2 * (b : Int)) (hi : i < n) (hj : j < n) (ha' : a < n) (hb' : b < n) (hne : (k, a, b) ≠ (f, i, j)) : tstQ n (cellN n f i j : Nat) e k t = (cellN n k a b : Nat) := by
  unfold tstQ
  rw [if_neg (by omega), show (dtP (stQ k e t) (fR k) + n - 1) / 2 = (a : Int) by omega, show (dtP (stQ k e t) (fU k) + n - 1) / 2 = (b : Int) by omega, cellZ_in ha' hb' rfl rfl, if_neg]
  intro hc
  have hc : cellN n k a b = cellN n f i j := by omega
  obtain ⟨x1, x2, x3⟩ := cellN_cut (n := n) (f := k) ha' hb'
  obtain ⟨y1, y2, y3⟩ := cellN_cut (n := n) (f := f) hi hj
  exact hne (by rw [hc] at x1 x2 x3; rw [← x1, ← x2, ← x3, y1, y2, y3])
set_option maxHeartbeats 0 in
theorem finds {n f i j s : Nat} (hf : f < 6) (hi : i < n) (hj : j < n) (hs : s < 4) : Finds n f i j s (nb n f i j s) := by
  have hne := (nb_cell (s := s) hf hi hj hs).1
  match f, hf, s, hs, hne with
  | 0, _, 0, _, hne | 0, _, 1, _, hne | 0, _, 2, _, hne | 0, _, 3, _, hne | 1, _, 0, _, hne | 1, _, 1, _, hne | 1, _, 2, _, hne | 1, _, 3, _, hne | 2, _, 0, _, hne | 2, _, 1, _, hne | 2, _, 2, _, hne | 2, _, 3, _, hne | 3, _, 0, _, hne | 3, _, 1, _, hne | 3, _, 2, _, hne | 3, _, 3, _, hne | 4, _, 0, _, hne | 4, _, 1, _, hne | 4, _, 2, _, hne | 4, _, 3, _, hne | 5, _, 0, _, hne | 5, _, 1, _, hne | 5, _, 2, _, hne | 5, _, 3, _, hne =>
    simp only [nb] at hne ⊢
    split
    all_goals
      rename_i hc
      first | simp only [if_pos hc] at hne | simp only [if_neg hc] at hne
      refine ⟨by (simp only [edQ, midQ, wayQ, plP, dtP, fC, fR, fU, stQ, nbE, nbT, putS, flipK, alongS]; omega), tst_is (by (simp only [edQ, midQ, wayQ, plP, dtP, fC, fR, fU, stQ, nbE, nbT, putS, flipK, alongS]; omega)) (by (simp only [edQ, midQ, wayQ, plP, dtP, fC, fR, fU, stQ, nbE, nbT, putS, flipK, alongS]; omega)) hi hj (by (simp only [edQ, midQ, wayQ, plP, dtP, fC, fR, fU, stQ, nbE, nbT, putS, flipK, alongS]; omega)) (by (simp only [edQ, midQ, wayQ, plP, dtP, fC, fR, fU, stQ, nbE, nbT, putS, flipK, alongS]; omega)) hne, ?_, ?_⟩
      · clear hne
        intro k hk hd t ht
        simp only [nbE, nbT] at hk
        rcases (show k = 0 ∨ k = 1 ∨ k = 2 ∨ k = 3 ∨ k = 4 ∨ k = 5 by omega) with rfl | rfl | rfl | rfl | rfl | rfl
        all_goals first
          | exact absurd hk (by decide)
          | (simp only [edQ, midQ, wayQ, plP, dtP, fC, fR, fU, stQ, nbE, nbT, putS, flipK, alongS] at hd; exfalso; omega)
          | (clear hd; rcases (show t = 0 ∨ t = 1 ∨ t = 2 ∨ t = 3 by omega) with rfl | rfl | rfl | rfl
             all_goals (first | exact tst_odd (by (simp only [edQ, midQ, wayQ, plP, dtP, fC, fR, fU, stQ, nbE, nbT, putS, flipK, alongS]; omega)) | exact tst_out rfl rfl (by (simp only [edQ, midQ, wayQ, plP, dtP, fC, fR, fU, stQ, nbE, nbT, putS, flipK, alongS]; omega)) | exact tst_own (by (simp only [edQ, midQ, wayQ, plP, dtP, fC, fR, fU, stQ, nbE, nbT, putS, flipK, alongS]; omega)) (by (simp only [edQ, midQ, wayQ, plP, dtP, fC, fR, fU, stQ, nbE, nbT, putS, flipK, alongS]; omega)) hi hj))
      · clear hne
        intro t ht
        simp only [nbE, nbT] at ht
        rcases (show t = 0 ∨ t = 1 ∨ t = 2 ∨ t = 3 by omega) with rfl | rfl | rfl | rfl
        all_goals first
          | exact absurd ht (by decide)
          | (first | exact tst_odd (by (simp only [edQ, midQ, wayQ, plP, dtP, fC, fR, fU, stQ, nbE, nbT, putS, flipK, alongS]; omega)) | exact tst_out rfl rfl (by (simp only [edQ, midQ, wayQ, plP, dtP, fC, fR, fU, stQ, nbE, nbT, putS, flipK, alongS]; omega)) | exact tst_own (by (simp only [edQ, midQ, wayQ, plP, dtP, fC, fR, fU, stQ, nbE, nbT, putS, flipK, alongS]; omega)) (by (simp only [edQ, midQ, wayQ, plP, dtP, fC, fR, fU, stQ, nbE, nbT, putS, flipK, alongS]; omega)) hi hj)
end Go.Proofs.YtgoljofmbidkfaaGreatDoor
/- The reference's cube: points, faces, cells. No condition. -/
namespace Go.Proofs.YtgoljofmbidkfaaGreatDoor
open Go Go.Eng
set_option maxRecDepth 100000
set_option linter.unusedSimpArgs false
set_option linter.unusedVariables false

abbrev vP (p : P3) : V := V3 p.1 p.2.1 p.2.2
structure bdP (n : Int) (p : P3) : Prop where
  x : -n ≤ p.1 ∧ p.1 ≤ n
  y : -n ≤ p.2.1 ∧ p.2.1 ≤ n
  z : -n ≤ p.2.2 ∧ p.2.2 ≤ n
end Go.Proofs.YtgoljofmbidkfaaGreatDoor
/- The reference's cell beside. No condition. -/
namespace Go.Proofs.YtgoljofmbidkfaaGreatDoor
open Go Go.Eng
set_option maxRecDepth 100000
set_option linter.unusedSimpArgs false
set_option linter.unusedVariables false

abbrev rawQ (n : Nat) (a : Int) : Int := IntKind.i64.wrap (IntKind.i64.wrap (a + n) - 1)
/-- What one place of the search asks, as the code asks it. -/
structure Ask1 (n k : Nat) (a b d : Int) (cell : Int) : Prop where
  odd : (a + n - 1) % 2 ≠ 0 ∨ (b + n - 1) % 2 ≠ 0 ∨ ((a + n - 1) % 2 = 0 ∧ (b + n - 1) % 2 = 0 ∧ d = cellZ n k ((a + n - 1) / 2) ((b + n - 1) / 2) ∧ (d < 0 ∨ d = cell))
abbrev bxP (p : P3) : Blk := ⟨true, .cells [I p.1, I p.2.1, I p.2.2]⟩
def stP (e r u : P3) : Nat → P3
  | 1 => plP e (-1) u
  | 2 => plP e 1 r
  | 3 => plP e 1 u
  | _ => plP e (-1) r
/-- What a place of the search that finds nothing answers, by its two numbers. -/
def Miss (n k : Nat) (cell : Int) (A B : Int) : Prop :=
  (A + n - 1) % 2 ≠ 0 ∨ ((A + n - 1) % 2 = 0 ∧ (B + n - 1) % 2 ≠ 0) ∨ ((A + n - 1) % 2 = 0 ∧ (B + n - 1) % 2 = 0 ∧ (cellZ n k ((A + n - 1) / 2) ((B + n - 1) / 2) < 0 ∨ cellZ n k ((A + n - 1) / 2) ((B + n - 1) / 2) = cell))
/-- One place of the search: what the code asks there, and what it is answered. -/
structure Side1 (n k cell t : Nat) (e r u v : P3) (A B : Int) : Prop where
  d1 : ∀ x, COk Tryz.prog 3 119 [vP v, vP r] (GG x) (I A) (GG x)
  d2 : ∀ x, COk Tryz.prog 3 119 [vP v, vP u] (GG x) (I B) (GG x)
  k1 : (A + n - 1) % 2 ≠ 0 → ((rawQ n A).tmod 2 != 0) = true
  k2 : (A + n - 1) % 2 = 0 → ((rawQ n A).tmod 2 != 0) = false
  k3 : (B + n - 1) % 2 ≠ 0 → ((rawQ n B).tmod 2 != 0) = true
  k4 : (B + n - 1) % 2 = 0 → ((rawQ n B).tmod 2 != 0) = false
  kc : (A + n - 1) % 2 = 0 → (B + n - 1) % 2 = 0 → ∀ m, COk Tryz.prog 3 120 [I n, I (k : Nat), I (IntKind.i64.wrap ((rawQ n A).tdiv 2)), I (IntKind.i64.wrap ((rawQ n B).tdiv 2))] m (I (cellZ (n : Nat) (k : Nat) ((A + n - 1) / 2) ((B + n - 1) / 2))) m
end Go.Proofs.YtgoljofmbidkfaaGreatDoor
/- The reference's net: New, and what it leaves. No condition. -/
namespace Go.Proofs.YtgoljofmbidkfaaGreatDoor
open Go Go.Eng
set_option maxRecDepth 100000
set_option linter.unusedSimpArgs false
set_option linter.unusedVariables false

/-- The table of the edges' numbers by cells and sides. -/
def arF (N : Nat) (f : Int → Int → Option Int) : List Int := tab (4 * N) fun j => (f ((j / 4 : Nat) : Int) ((j % 4 : Nat) : Int)).getD 0
def rgrC (n N : Nat) (e : V) : Blk := ⟨true, .cells [I n, e, .sl 3 0 (4 * N)]⟩
def rmem (n N : Nat) (q : St) (g5 : Blk) : List Blk := GG [⟨true, .ints .i64 (arF N q.f)⟩, rgrC n N (.gs 6 (q.k - 1) 4 q.k), g5, edC q]
def rmem0 (n N : Nat) : List Blk := GG [⟨true, .ints .i64 (arF N fun _ _ => none)⟩, rgrC n N nilS]
def g5C (n : Nat) : Blk := ⟨true, .cells [I (0 : Nat), I (0 : Nat), I (nbC n 0 0).1, I (nbC n 0 0).2]⟩
/-- The reference's net; its first block has the number b. -/
def rnetAt (n b : Nat) : List Blk :=
  [⟨false, .ints .i64 (arF (6 * (n * n)) (numF n))⟩, ⟨false, .cells [I n, .sl (b + 3) 0 (edges n).length, .sl b 0 (4 * (6 * (n * n)))]⟩, Bdead, ⟨false, .ints .i64 (flatE (edges n))⟩]
def rstlC (n : Nat) (i : Nat) : Option Nat :=
  match i with
  | 6 => some ((edges n).length - 1)
  | _ => none
def rstlN (n : Nat) (j : Nat) : Option Nat := rstlC n (j + 3)
def rstlB (n b i : Nat) : Option Nat := if i < b then none else rstlN n (i - b)
/-- The reference's net lies in memory, its first block at b. -/
structure RNet (m : List Blk) (b n : Nat) : Prop where
  ar : getB m b = ⟨false, .ints .i64 (arF (6 * (n * n)) (numF n))⟩
  gr : getB m (b + 1) = ⟨false, .cells [I n, .sl (b + 3) 0 (edges n).length, .sl b 0 (4 * (6 * (n * n)))]⟩
  ed : getB m (b + 3) = ⟨false, .ints .i64 (flatE (edges n))⟩
  lt : b + 4 ≤ m.length
theorem RNet.more {m : List Blk} {b n : Nat} (h : RNet m b n) (x : List Blk) : RNet (m ++ x) b n := by
  have hlt := h.lt
  have e : ∀ i, i < m.length → getB (m ++ x) i = getB m i := fun i hi => by
    rw [getB_eq, getB_eq, List.getD_eq_getElem?_getD, List.getD_eq_getElem?_getD, List.getElem?_append_left hi]
  exact ⟨by rw [e _ (by omega)]; exact h.ar, by rw [e _ (by omega)]; exact h.gr, by rw [e _ (by omega)]; exact h.ed, by simp; omega⟩
end Go.Proofs.YtgoljofmbidkfaaGreatDoor
