import Derived.Test.YtgoljofmbidkfaaGreatDoorZa
import Derived.Test.YtgoljofmbidkfaaGreatDoorLv
/- The reference's search for the cell beside, in plain numbers. No condition. -/
namespace Go.Proofs.YtgoljofmbidkfaaGreatDoor
open Go Go.Eng
set_option maxRecDepth 100000
set_option linter.unusedSimpArgs false
set_option linter.unusedVariables false

abbrev P3 : Type := Int × Int × Int
def plP (a : P3) (k : Int) (b : P3) : P3 := (a.1 + k * b.1, a.2.1 + k * b.2.1, a.2.2 + k * b.2.2)
def dtP (a b : P3) : Int := a.1 * b.1 + a.2.1 * b.2.1 + a.2.2 * b.2.2
def fC : Nat → P3
  | 0 => (1, 0, 0) | 1 => (0, 1, 0) | 2 => (-1, 0, 0) | 3 => (0, -1, 0) | 4 => (0, 0, 1) | _ => (0, 0, -1)
def fR : Nat → P3
  | 0 => (0, 1, 0) | 1 => (-1, 0, 0) | 2 => (0, -1, 0) | 3 => (1, 0, 0) | 4 => (0, 1, 0) | _ => (0, 1, 0)
def fU : Nat → P3
  | 0 => (0, 0, 1) | 1 => (0, 0, 1) | 2 => (0, 0, 1) | 3 => (0, 0, 1) | 4 => (-1, 0, 0) | _ => (1, 0, 0)
def midQ (n f i j : Nat) : P3 := plP (plP (plP (0, 0, 0) n (fC f)) (2 * i + 1 - n) (fR f)) (2 * j + 1 - n) (fU f)
def wayQ (f : Nat) : Nat → P3
  | 0 => fR f
  | 1 => fU f
  | 2 => plP (0, 0, 0) (-1) (fR f)
  | _ => plP (0, 0, 0) (-1) (fU f)
def edQ (n f i j s : Nat) : P3 := plP (midQ n f i j) 1 (wayQ f s)
def stQ (k : Nat) (e : P3) : Nat → P3
  | 1 => plP e (-1) (fU k)
  | 2 => plP e 1 (fR k)
  | 3 => plP e 1 (fU k)
  | _ => plP e (-1) (fR k)
def cellZ (n : Int) (k i j : Int) : Int := if (0 ≤ i ∧ i < n) ∧ (0 ≤ j ∧ j < n) then (k * n + j) * n + i else -1
/-- The cell that would have the stretch as side t of face k; below 0: none. -/
def tstQ (n : Nat) (cell : Int) (e : P3) (k t : Nat) : Int :=
  if (dtP (stQ k e t) (fR k) + n - 1) % 2 ≠ 0 ∨ (dtP (stQ k e t) (fU k) + n - 1) % 2 ≠ 0 then -1
  else if cellZ n k ((dtP (stQ k e t) (fR k) + n - 1) / 2) ((dtP (stQ k e t) (fU k) + n - 1) / 2) = cell then -1
  else cellZ n k ((dtP (stQ k e t) (fR k) + n - 1) / 2) ((dtP (stQ k e t) (fU k) + n - 1) / 2)
theorem cellZ_in {n k i j : Nat} (hi : i < n) (hj : j < n) {a b : Int} (ha : a = i) (hb : b = j) : cellZ n k a b = (cellN n k i j : Nat) := by
  subst ha hb
  unfold cellZ cellN
  rw [if_pos ⟨⟨by omega, by omega⟩, by omega, by omega⟩]
  push_cast; rfl
theorem cellZ_out {n k : Int} {a b : Int} (h : ¬ ((0 ≤ a ∧ a < n) ∧ (0 ≤ b ∧ b < n))) : cellZ n k a b = -1 := if_neg h
theorem cellN_cut {n f i j : Nat} (hi : i < n) (hj : j < n) : cellN n f i j / (n * n) = f ∧ cellN n f i j % n = i ∧ cellN n f i j / n % n = j := by
  have hn : 0 < n := by omega
  unfold cellN
  have e1 : ((f * n + j) * n + i) / n = f * n + j := by
    rw [Nat.mul_comm (f * n + j) n, Nat.mul_add_div hn, Nat.div_eq_of_lt hi, Nat.add_zero]
  have e2 : (f * n + j) / n = f := by
    rw [Nat.mul_comm f n, Nat.mul_add_div hn, Nat.div_eq_of_lt hj, Nat.add_zero]
  refine ⟨?_, ?_, ?_⟩
  · rw [← Nat.div_div_eq_div_mul, e1, e2]
  · rw [Nat.mul_comm (f * n + j) n, Nat.mul_add_mod, Nat.mod_eq_of_lt hi]
  · rw [e1, Nat.mul_comm f n, Nat.mul_add_mod, Nat.mod_eq_of_lt hj]
/-- Where the search finds the cell beside: on face nb.1 as its side nb's, and nowhere ahead of it. -/
structure Finds (n f i j s : Nat) (q : Nat × Nat × Nat × Nat) : Prop where
  on : dtP (edQ n f i j s) (fC q.1) = n
  at_ : tstQ n (cellN n f i j : Nat) (edQ n f i j s) q.1 q.2.2.2 = (cellQ n q : Nat)
  ahead : ∀ k, k < q.1 → dtP (edQ n f i j s) (fC k) = n → ∀ t, t < 4 → tstQ n (cellN n f i j : Nat) (edQ n f i j s) k t < 0
  low : ∀ t, t < q.2.2.2 → tstQ n (cellN n f i j : Nat) (edQ n f i j s) q.1 t < 0
theorem tst_odd {n k t : Nat} {cell : Int} {e : P3} (h : (dtP (stQ k e t) (fR k) + n - 1) % 2 ≠ 0 ∨ (dtP (stQ k e t) (fU k) + n - 1) % 2 ≠ 0) : tstQ n cell e k t < 0 := by
  unfold tstQ; rw [if_pos h]; decide
theorem tst_out {n k t : Nat} {cell : Int} {e : P3} {a b : Int} (ha : (dtP (stQ k e t) (fR k) + n - 1) / 2 = a) (hb : (dtP (stQ k e t) (fU k) + n - 1) / 2 = b) (h : ¬ ((0 ≤ a ∧ a < (n : Int)) ∧ (0 ≤ b ∧ b < (n : Int)))) : tstQ n cell e k t < 0 := by
  unfold tstQ; rw [ha, hb, cellZ_out h]; split <;> (try split) <;> decide
theorem tst_own {n k t i j : Nat} {e : P3} (ha : (dtP (stQ k e t) (fR k) + n - 1) / 2 = i) (hb : (dtP (stQ k e t) (fU k) + n - 1) / 2 = j) (hi : i < n) (hj : j < n) : tstQ n (cellN n k i j : Nat) e k t < 0 := by
  unfold tstQ; rw [ha, hb, cellZ_in hi hj rfl rfl, if_pos rfl]; split <;> decide
theorem tst_is {n f i j k t a b : Nat} {e : P3} (ha : dtP (stQ k e t) (fR k) + n - 1 = 2 * (a : Int)) (hb : dtP (stQ k e t) (fU k) + n - 1 = 2 * (b : Int)) (hi : i < n) (hj : j < n) (ha' : a < n) (hb' : b < n) (hne : (k, a, b) ≠ (f, i, j)) : tstQ n (cellN n f i j : Nat) e k t = (cellN n k a b : Nat) := by
  unfold tstQ
  rw [if_neg (by omega), show (dtP (stQ k e t) (fR k) + n - 1) / 2 = (a : Int) by omega, show (dtP (stQ k e t) (fU k) + n - 1) / 2 = (b : Int) by omega, cellZ_in ha' hb' rfl rfl, if_neg]
  intro hc
  have hc : cellN n k a b = cellN n f i j := by omega
  obtain ⟨x1, x2, x3⟩ := cellN_cut (n := n) (f := k) ha' hb'
  obtain ⟨y1, y2, y3⟩ := cellN_cut (n := n) (f := f) hi hj
  exact hne (by rw [hc] at x1 x2 x3; rw [← x1, ← x2, ← x3, y1, y2, y3])
set_option maxHeartbeats 0 in
theorem finds {n f i j s : Nat} (hf : f < 6) (hi : i < n) (hj : j < n) (hs : s < 4) : Finds n f i j s (nb n f i j s) := by
  have hne := (nb_cell (s := s) hf hi hj hs).1
  match f, hf, s, hs, hne with
  | 0, _, 0, _, hne | 0, _, 1, _, hne | 0, _, 2, _, hne | 0, _, 3, _, hne | 1, _, 0, _, hne | 1, _, 1, _, hne | 1, _, 2, _, hne | 1, _, 3, _, hne | 2, _, 0, _, hne | 2, _, 1, _, hne | 2, _, 2, _, hne | 2, _, 3, _, hne | 3, _, 0, _, hne | 3, _, 1, _, hne | 3, _, 2, _, hne | 3, _, 3, _, hne | 4, _, 0, _, hne | 4, _, 1, _, hne | 4, _, 2, _, hne | 4, _, 3, _, hne | 5, _, 0, _, hne | 5, _, 1, _, hne | 5, _, 2, _, hne | 5, _, 3, _, hne =>
    simp only [nb] at hne ⊢
    split
    all_goals
      rename_i hc
      first | simp only [if_pos hc] at hne | simp only [if_neg hc] at hne
      refine ⟨by (simp only [edQ, midQ, wayQ, plP, dtP, fC, fR, fU, stQ, nbE, nbT, putS, flipK, alongS]; omega), tst_is (by (simp only [edQ, midQ, wayQ, plP, dtP, fC, fR, fU, stQ, nbE, nbT, putS, flipK, alongS]; omega)) (by (simp only [edQ, midQ, wayQ, plP, dtP, fC, fR, fU, stQ, nbE, nbT, putS, flipK, alongS]; omega)) hi hj (by (simp only [edQ, midQ, wayQ, plP, dtP, fC, fR, fU, stQ, nbE, nbT, putS, flipK, alongS]; omega)) (by (simp only [edQ, midQ, wayQ, plP, dtP, fC, fR, fU, stQ, nbE, nbT, putS, flipK, alongS]; omega)) hne, ?_, ?_⟩
      · clear hne
        intro k hk hd t ht
        simp only [nbE, nbT] at hk
        rcases (show k = 0 ∨ k = 1 ∨ k = 2 ∨ k = 3 ∨ k = 4 ∨ k = 5 by omega) with rfl | rfl | rfl | rfl | rfl | rfl
        all_goals first
          | exact absurd hk (by decide)
          | (simp only [edQ, midQ, wayQ, plP, dtP, fC, fR, fU, stQ, nbE, nbT, putS, flipK, alongS] at hd; exfalso; omega)
          | (clear hd; rcases (show t = 0 ∨ t = 1 ∨ t = 2 ∨ t = 3 by omega) with rfl | rfl | rfl | rfl
             all_goals (first | exact tst_odd (by (simp only [edQ, midQ, wayQ, plP, dtP, fC, fR, fU, stQ, nbE, nbT, putS, flipK, alongS]; omega)) | exact tst_out rfl rfl (by (simp only [edQ, midQ, wayQ, plP, dtP, fC, fR, fU, stQ, nbE, nbT, putS, flipK, alongS]; omega)) | exact tst_own (by (simp only [edQ, midQ, wayQ, plP, dtP, fC, fR, fU, stQ, nbE, nbT, putS, flipK, alongS]; omega)) (by (simp only [edQ, midQ, wayQ, plP, dtP, fC, fR, fU, stQ, nbE, nbT, putS, flipK, alongS]; omega)) hi hj))
      · clear hne
        intro t ht
        simp only [nbE, nbT] at ht
        rcases (show t = 0 ∨ t = 1 ∨ t = 2 ∨ t = 3 by omega) with rfl | rfl | rfl | rfl
        all_goals first
          | exact absurd ht (by decide)
          | (first | exact tst_odd (by (simp only [edQ, midQ, wayQ, plP, dtP, fC, fR, fU, stQ, nbE, nbT, putS, flipK, alongS]; omega)) | exact tst_out rfl rfl (by (simp only [edQ, midQ, wayQ, plP, dtP, fC, fR, fU, stQ, nbE, nbT, putS, flipK, alongS]; omega)) | exact tst_own (by (simp only [edQ, midQ, wayQ, plP, dtP, fC, fR, fU, stQ, nbE, nbT, putS, flipK, alongS]; omega)) (by (simp only [edQ, midQ, wayQ, plP, dtP, fC, fR, fU, stQ, nbE, nbT, putS, flipK, alongS]; omega)) hi hj)
end Go.Proofs.YtgoljofmbidkfaaGreatDoor
/- The reference's cube: points, faces, cells. No condition. -/
namespace Go.Proofs.YtgoljofmbidkfaaGreatDoor
open Go Go.Eng
set_option maxRecDepth 100000
set_option linter.unusedSimpArgs false
set_option linter.unusedVariables false

abbrev vP (p : P3) : V := V3 p.1 p.2.1 p.2.2
structure bdP (n : Int) (p : P3) : Prop where
  x : -n ≤ p.1 ∧ p.1 ≤ n
  y : -n ≤ p.2.1 ∧ p.2.1 ≤ n
  z : -n ≤ p.2.2 ∧ p.2.2 ≤ n
theorem mul_bd {k d : Int} (hk : -1000 ≤ k ∧ k ≤ 1000) (hd : -1 ≤ d ∧ d ≤ 1) : -1000 ≤ k * d ∧ k * d ≤ 1000 := by
  rcases (show d = -1 ∨ d = 0 ∨ d = 1 by omega) with rfl | rfl | rfl <;> omega
theorem rplus_ok (a b c k d e f : Int) (x : List Blk) : COk Tryz.prog 3 115 [V3 a b c, I k, V3 d e f] (GG x) (V3 (IntKind.i64.wrap (a + IntKind.i64.wrap (k * d))) (IntKind.i64.wrap (b + IntKind.i64.wrap (k * e))) (IntKind.i64.wrap (c + IntKind.i64.wrap (k * f)))) (GG x) := by
  refine lift ?_ rfl x
  refine COk_quiet Tryz.f115 Tryz.func115 (by kernel_rfl) rfl ?_
  (conv => whnf); repeat ((first | refine br_d (by omega) ?_ | refine br_nd (by omega) ?_ | refine br_eq (by omega) ?_ | refine br_neq (by omega) ?_ | refine br_ne (by omega) ?_ | refine br_no (bo_eqn (by omega)) ?_ | refine Or.inl ?_ | refine okS_no (by kernel_rfl) ?_ | refine okS_yes (by kernel_rfl) ?_ | refine And_of (by (conv => whnf); (rw [getB_app0]); (conv => whnf)) ?_ | refine setB_app ?_ | refine setB_app0 ?_ | rw [getB_app] | rw [getB_app0] | refine addB_f13 ?_ | refine addB_f12 ?_ | refine addB_f11 ?_ | refine addB_f10 ?_ | refine addB_f9 ?_ | refine addB_f8 ?_ | refine addB_f7 ?_ | refine addB_f6 ?_ | refine addB_f5 ?_ | refine addB_f4 ?_ | refine addB_f3 ?_ | refine addB_f2 ?_ | refine addB_f1 ?_ | refine addB_f0 ?_); conv => whnf)
  exact ⟨rfl, _, rfl⟩
theorem rplus_in (a b : P3) (k : Int) (ha : bdP 1000 a) (hb : bdP 1 b) (hk : -1000 ≤ k ∧ k ≤ 1000) (x : List Blk) : COk Tryz.prog 3 115 [vP a, I k, vP b] (GG x) (vP (plP a k b)) (GG x) := by
  have h := rplus_ok a.1 a.2.1 a.2.2 k b.1 b.2.1 b.2.2 x
  have m1 := mul_bd hk hb.x
  have m2 := mul_bd hk hb.y
  have m3 := mul_bd hk hb.z
  have a1 := ha.x
  have a2 := ha.y
  have a3 := ha.z
  rw [wrap_id (n := k * b.1) (by omega) (by omega), wrap_id (n := k * b.2.1) (by omega) (by omega), wrap_id (n := k * b.2.2) (by omega) (by omega), wrap_id (n := a.1 + k * b.1) (by omega) (by omega), wrap_id (n := a.2.1 + k * b.2.1) (by omega) (by omega), wrap_id (n := a.2.2 + k * b.2.2) (by omega) (by omega)] at h
  exact h
theorem rdot_ok (a b c d e f : Int) (x : List Blk) : COk Tryz.prog 3 119 [V3 a b c, V3 d e f] (GG x) (I (dotI a b c d e f)) (GG x) := by
  refine lift ?_ rfl x
  refine COk_quiet Tryz.f119 Tryz.func119 (by kernel_rfl) rfl ?_
  (conv => whnf); repeat ((first | refine br_d (by omega) ?_ | refine br_nd (by omega) ?_ | refine br_eq (by omega) ?_ | refine br_neq (by omega) ?_ | refine br_ne (by omega) ?_ | refine br_no (bo_eqn (by omega)) ?_ | refine Or.inl ?_ | refine okS_no (by kernel_rfl) ?_ | refine okS_yes (by kernel_rfl) ?_ | refine And_of (by (conv => whnf); (rw [getB_app0]); (conv => whnf)) ?_ | refine setB_app ?_ | refine setB_app0 ?_ | rw [getB_app] | rw [getB_app0] | refine addB_f13 ?_ | refine addB_f12 ?_ | refine addB_f11 ?_ | refine addB_f10 ?_ | refine addB_f9 ?_ | refine addB_f8 ?_ | refine addB_f7 ?_ | refine addB_f6 ?_ | refine addB_f5 ?_ | refine addB_f4 ?_ | refine addB_f3 ?_ | refine addB_f2 ?_ | refine addB_f1 ?_ | refine addB_f0 ?_); conv => whnf)
  exact ⟨rfl, _, rfl⟩
theorem rdot_in (a b : P3) (ha : bdP 1000 a) (hb : bdP 1 b) (x : List Blk) : COk Tryz.prog 3 119 [vP a, vP b] (GG x) (I (dtP a b)) (GG x) := by
  have h := rdot_ok a.1 a.2.1 a.2.2 b.1 b.2.1 b.2.2 x
  have m1 := mul_bd ha.x hb.x
  have m2 := mul_bd ha.y hb.y
  have m3 := mul_bd ha.z hb.z
  unfold dotI at h
  rw [wrap_id (n := a.1 * b.1) (by omega) (by omega), wrap_id (n := a.2.1 * b.2.1) (by omega) (by omega), wrap_id (n := a.2.2 * b.2.2) (by omega) (by omega), wrap_id (n := a.1 * b.1 + a.2.1 * b.2.1) (by omega) (by omega), wrap_id (by omega) (by omega)] at h
  exact h
theorem bd_fC {f : Nat} (hf : f < 6) : bdP 1 (fC f) := by
  match f, hf with
  | 0, _ | 1, _ | 2, _ | 3, _ | 4, _ | 5, _ => exact ⟨by decide, by decide, by decide⟩
theorem bd_fR {f : Nat} (hf : f < 6) : bdP 1 (fR f) := by
  match f, hf with
  | 0, _ | 1, _ | 2, _ | 3, _ | 4, _ | 5, _ => exact ⟨by decide, by decide, by decide⟩
theorem bd_fU {f : Nat} (hf : f < 6) : bdP 1 (fU f) := by
  match f, hf with
  | 0, _ | 1, _ | 2, _ | 3, _ | 4, _ | 5, _ => exact ⟨by decide, by decide, by decide⟩
theorem bd_pl {a b : P3} {k n p : Int} (ha : bdP n a) (hb : bdP 1 b) (hk : -p ≤ k ∧ k ≤ p) (hp : 0 ≤ p) : bdP (n + p) (plP a k b) := by
  have m : ∀ d : Int, -1 ≤ d ∧ d ≤ 1 → -p ≤ k * d ∧ k * d ≤ p := fun d hd => by
    rcases (show d = -1 ∨ d = 0 ∨ d = 1 by omega) with rfl | rfl | rfl <;> omega
  have m1 := m _ hb.x
  have m2 := m _ hb.y
  have m3 := m _ hb.z
  have a1 := ha.x
  have a2 := ha.y
  have a3 := ha.z
  exact ⟨by show -(n + p) ≤ a.1 + k * b.1 ∧ a.1 + k * b.1 ≤ n + p; omega, by show -(n + p) ≤ a.2.1 + k * b.2.1 ∧ a.2.1 + k * b.2.1 ≤ n + p; omega, by show -(n + p) ≤ a.2.2 + k * b.2.2 ∧ a.2.2 + k * b.2.2 ≤ n + p; omega⟩
theorem bd_le {n p : Int} {a : P3} (h : bdP n a) (hp : n ≤ p) : bdP p a := by
  have a1 := h.x
  have a2 := h.y
  have a3 := h.z
  exact ⟨by omega, by omega, by omega⟩
theorem bd_0 : bdP 0 (0, 0, 0) := ⟨by decide, by decide, by decide⟩
theorem rframe_ok (f : Nat) (hf : f < 6) (x : List Blk) : COk Tryz.prog 3 118 [I f] (GG x) (.tup [vP (fC f), vP (fR f), vP (fU f)]) (GG x) := by
  refine lift ?_ rfl x
  match f, hf with
  | 0, _ | 1, _ | 2, _ | 3, _ | 4, _ | 5, _ =>
    refine COk_quiet Tryz.f118 Tryz.func118 (by kernel_rfl) rfl ?_
    (conv => whnf); repeat ((first | refine ⟨_, rplus_ok _ _ _ _ _ _ _ _, ?_⟩ | refine ⟨rfl, ?_⟩); conv => whnf)
    first | exact ⟨rfl, _, rfl⟩ | exact ⟨_, rfl⟩
theorem rcells_ok (side : Int) (m : List Blk) : COk Tryz.prog 3 56 [I side] m (I (cellsI side)) m := by
  by_cases h1 : side < 1
  · rw [cellsI, if_neg (by omega)]
    refine COk_quiet Tryz.f56 Tryz.func56 (by kernel_rfl) rfl ?_
    (conv => whnf); repeat (refine br_d (by omega) ?_; conv => whnf)
    exact ⟨rfl, [], by simp⟩
  by_cases h2 : side > 32
  · rw [cellsI, if_neg (by omega)]
    refine COk_quiet Tryz.f56 Tryz.func56 (by kernel_rfl) rfl ?_
    (conv => whnf); repeat ((first | refine br_d (by omega) ?_ | refine br_nd (by omega) ?_); conv => whnf)
    exact ⟨rfl, [], by simp⟩
  · rw [cellsI, if_pos ⟨by omega, by omega⟩]
    refine COk_quiet Tryz.f56 Tryz.func56 (by kernel_rfl) rfl ?_
    (conv => whnf); repeat (refine br_nd (by omega) ?_; conv => whnf)
    refine ⟨?_, [], by simp⟩
    have h3 := sq_bound (n := side) (by omega) (by omega)
    have e : 6 * side * side = 6 * (side * side) := by rw [Int.mul_assoc]
    rw [wrap_id (n := 6 * side) (by omega) (by omega), e, wrap_id (by omega) (by omega)]
theorem rcell_z (n k : Nat) (a b : Int) (hn : 1 ≤ n) (hn' : n ≤ 32) (hk : k < 6) (m : List Blk) : COk Tryz.prog 3 120 [I n, I k, I a, I b] m (I (cellZ n k a b)) m := by
  have hc : (cellsI n == 0) = false := by
    rw [cellsI, if_pos ⟨by omega, by omega⟩]
    have : 0 < n * n := Nat.mul_pos hn hn
    have : (0 : Int) < (n : Int) * n := by exact_mod_cast this
    exact beq_eq_false_iff_ne.2 (by omega)
  by_cases h1 : a < 0
  · rw [cellZ_out (by omega)]
    refine COk_quiet Tryz.f120 Tryz.func120 (by kernel_rfl) rfl ?_
    (conv => whnf); repeat ((first | refine ⟨_, _, rcells_ok _ _, ?_⟩ | refine br_no hc ?_ | refine br_d (by omega) ?_ | refine br_nd (by omega) ?_); conv => whnf)
    exact ⟨rfl, [], by simp⟩
  by_cases h2 : a ≥ n
  · rw [cellZ_out (by omega)]
    refine COk_quiet Tryz.f120 Tryz.func120 (by kernel_rfl) rfl ?_
    (conv => whnf); repeat ((first | refine ⟨_, _, rcells_ok _ _, ?_⟩ | refine br_no hc ?_ | refine br_d (by omega) ?_ | refine br_nd (by omega) ?_); conv => whnf)
    exact ⟨rfl, [], by simp⟩
  by_cases h3 : b < 0
  · rw [cellZ_out (by omega)]
    refine COk_quiet Tryz.f120 Tryz.func120 (by kernel_rfl) rfl ?_
    (conv => whnf); repeat ((first | refine ⟨_, _, rcells_ok _ _, ?_⟩ | refine br_no hc ?_ | refine br_d (by omega) ?_ | refine br_nd (by omega) ?_); conv => whnf)
    exact ⟨rfl, [], by simp⟩
  by_cases h4 : b ≥ n
  · rw [cellZ_out (by omega)]
    refine COk_quiet Tryz.f120 Tryz.func120 (by kernel_rfl) rfl ?_
    (conv => whnf); repeat ((first | refine ⟨_, _, rcells_ok _ _, ?_⟩ | refine br_no hc ?_ | refine br_d (by omega) ?_ | refine br_nd (by omega) ?_); conv => whnf)
    exact ⟨rfl, [], by simp⟩
  obtain ⟨i, rfl⟩ : ∃ i : Nat, a = i := ⟨a.toNat, by omega⟩
  obtain ⟨j, rfl⟩ : ∃ j : Nat, b = j := ⟨b.toNat, by omega⟩
  rw [cellZ_in (by omega) (by omega) rfl rfl]
  refine COk_quiet Tryz.f120 Tryz.func120 (by kernel_rfl) rfl ?_
  (conv => whnf); repeat ((first | refine ⟨_, _, rcells_ok _ _, ?_⟩ | refine br_no hc ?_ | refine br_nd (by omega) ?_); conv => whnf)
  refine ⟨?_, [], by simp⟩
  have h1 : k * n ≤ 5 * 32 := Nat.mul_le_mul (by omega) hn'
  have h2 : (k * n + j) * n ≤ (5 * 32 + 32) * 32 := Nat.mul_le_mul (by omega) hn'
  have h1' : (k : Int) * n ≤ 160 := by exact_mod_cast h1
  have h1'' : (0 : Int) ≤ (k : Int) * n := by exact_mod_cast Nat.zero_le (k * n)
  have h2' : ((k : Int) * n + j) * n ≤ 6144 := by exact_mod_cast h2
  have h2'' : (0 : Int) ≤ ((k : Int) * n + j) * n := by exact_mod_cast Nat.zero_le ((k * n + j) * n)
  rw [wrap_id (n := (k : Int) * n) (by omega) (by omega), wrap_id (n := (k : Int) * n + j) (by omega) (by omega), wrap_id (n := ((k : Int) * n + j) * n) (by omega) (by omega), wrap_id (by omega) (by omega)]
  congr 1
theorem rplace_in (n f i j : Nat) (hn : 1 ≤ n) (hn' : n ≤ 32) (hf : f < 6) (hi : i < n) (hj : j < n) (m : List Blk) : COk Tryz.prog 3 153 [I n, I (cellN n f i j)] m (.tup [I f, I i, I j, Bo true]) m := by
  have hlt := cellN_lt hf hi hj
  have hcI : cellsI n = ((6 * (n * n) : Nat) : Int) := by
    rw [cellsI, if_pos ⟨by omega, by omega⟩]; simp
  have hs := sq_bound (n := (n : Int)) (by omega) (by omega)
  have hpos : 0 < n * n := Nat.mul_pos hn hn
  refine COk_quiet Tryz.f153 Tryz.func153 (by kernel_rfl) rfl ?_
  conv => whnf
  refine ⟨_, _, rcells_ok _ _, ?_⟩
  conv => whnf
  refine br_nd (by rw [hcI]; omega) ?_
  conv => whnf
  have hw : IntKind.i64.wrap ((n : Int) * n) = ((n * n : Nat) : Int) := by rw [wrap_id (by omega) (by omega)]; simp
  refine br_yes (by rw [hw, bne_iff_ne]; omega) ?_
  conv => whnf
  refine br_yes (by rw [bne_iff_ne]; omega) ?_
  conv => whnf
  refine br_yes (by rw [bne_iff_ne]; omega) ?_
  conv => whnf
  refine br_yes (by rw [bne_iff_ne]; omega) ?_
  conv => whnf
  refine ⟨?_, [], by simp⟩
  have hc : cellN n f i j < 6144 := Nat.lt_of_lt_of_le hlt (by have := Nat.mul_le_mul hn' hn'; omega)
  have e1 : cellN n f i j / (n * n) = f := by
    rw [cellN, ← Nat.div_div_eq_div_mul, Nat.mul_comm _ n, Nat.mul_add_div (by omega), Nat.div_eq_of_lt hi, Nat.add_zero, Nat.mul_comm f n, Nat.mul_add_div (by omega), Nat.div_eq_of_lt hj, Nat.add_zero]
  have e2 : cellN n f i j % n = i := by
    rw [cellN, Nat.mul_comm _ n, Nat.mul_add_mod, Nat.mod_eq_of_lt hi]
  have e3 : cellN n f i j / n % n = j := by
    rw [cellN, Nat.mul_comm _ n, Nat.mul_add_div (by omega), Nat.div_eq_of_lt hi, Nat.add_zero, Nat.mul_comm f n, Nat.mul_add_mod, Nat.mod_eq_of_lt hj]
  have d1 : IntKind.i64.wrap ((cellN n f i j : Int).tdiv (IntKind.i64.wrap ((n : Int) * n))) = (f : Int) := by
    rw [hw, ← Int.ofNat_tdiv, e1]; exact wrap_id (by omega) (by omega)
  have d2 : (cellN n f i j : Int).tmod (n : Int) = (i : Int) := by rw [← Int.ofNat_tmod, e2]
  have hq : ∀ q : Nat, q ≤ 6144 → IntKind.i64.wrap (q : Int) = q := fun q h => wrap_id (by omega) (by omega)
  have d3 : (IntKind.i64.wrap ((cellN n f i j : Int).tdiv (n : Int))).tmod (n : Int) = (j : Int) := by
    rw [← Int.ofNat_tdiv, hq _ (Nat.le_trans (Nat.div_le_self _ _) (by omega)), ← Int.ofNat_tmod, e3]
  rw [d1, d2, d3]
theorem rmiddle_ok (n f i j : Nat) (hn : 1 ≤ n) (hn' : n ≤ 32) (hf : f < 6) (hi : i < n) (hj : j < n) (x : List Blk) : COk Tryz.prog 3 116 [I n, I (cellN n f i j)] (GG x) (vP (midQ n f i j)) (GG x) := by
  refine lift ?_ rfl x
  have b1 := bd_pl bd_0 (bd_fC hf) (k := n) (p := 32) (by omega) (by decide)
  have b2 := bd_pl b1 (bd_fR hf) (k := 2 * i + 1 - n) (p := 32) (by omega) (by decide)
  have p1 := rplus_in _ _ n (bd_le bd_0 (by decide)) (bd_fC hf) (by omega)
  have p2 := rplus_in _ _ (2 * i + 1 - n) (bd_le b1 (by decide)) (bd_fR hf) (by omega)
  have p3 := rplus_in _ _ (2 * j + 1 - n) (bd_le b2 (by decide)) (bd_fU hf) (by omega)
  have w1 : IntKind.i64.wrap (IntKind.i64.wrap (IntKind.i64.wrap (2 * (i : Int)) + 1) - n) = 2 * i + 1 - n := by simp (disch := omega) only [wrap_id]
  have w2 : IntKind.i64.wrap (IntKind.i64.wrap (IntKind.i64.wrap (2 * (j : Int)) + 1) - n) = 2 * j + 1 - n := by simp (disch := omega) only [wrap_id]
  have p2 : ∀ x, COk Tryz.prog 3 115 [vP (plP (0, 0, 0) n (fC f)), I (IntKind.i64.wrap (IntKind.i64.wrap (IntKind.i64.wrap (2 * (i : Int)) + 1) - n)), vP (fR f)] (GG x) (vP (plP (plP (0, 0, 0) n (fC f)) (2 * i + 1 - n) (fR f))) (GG x) := by rw [w1]; exact p2
  have p3 : ∀ x, COk Tryz.prog 3 115 [vP (plP (plP (0, 0, 0) n (fC f)) (2 * i + 1 - n) (fR f)), I (IntKind.i64.wrap (IntKind.i64.wrap (IntKind.i64.wrap (2 * (j : Int)) + 1) - n)), vP (fU f)] (GG x) (vP (plP (plP (plP (0, 0, 0) n (fC f)) (2 * i + 1 - n) (fR f)) (2 * j + 1 - n) (fU f))) (GG x) := by rw [w2]; exact p3
  refine COk_quiet Tryz.f116 Tryz.func116 (by kernel_rfl) rfl ?_
  (conv => whnf); repeat ((first | refine ⟨_, _, rplace_in n f i j hn hn' hf hi hj _, ?_⟩ | refine ⟨_, _, rframe_ok f hf _, ?_⟩ | refine ⟨_, p1 _, ?_⟩ | refine ⟨_, p2 _, ?_⟩ | refine ⟨_, p3 _, ?_⟩); conv => whnf)
  exact ⟨rfl, _, rfl⟩
theorem rway_ok (n f i j s : Nat) (hn : 1 ≤ n) (hn' : n ≤ 32) (hf : f < 6) (hi : i < n) (hj : j < n) (hs : s < 4) (x : List Blk) : COk Tryz.prog 3 117 [I n, I (cellN n f i j), I s] (GG x) (vP (wayQ f s)) (GG x) := by
  refine lift ?_ rfl x
  have p1 := rplus_in (0, 0, 0) _ (-1) (bd_le bd_0 (by decide)) (bd_fR hf) (by omega)
  have p2 := rplus_in (0, 0, 0) _ (-1) (bd_le bd_0 (by decide)) (bd_fU hf) (by omega)
  match s, hs with
  | 0, _ | 1, _ | 2, _ | 3, _ =>
    refine COk_quiet Tryz.f117 Tryz.func117 (by kernel_rfl) rfl ?_
    (conv => whnf); repeat ((first | refine ⟨_, _, rplace_in n f i j hn hn' hf hi hj _, ?_⟩ | refine ⟨_, _, rframe_ok f hf _, ?_⟩ | refine ⟨_, _, p1 _, ?_⟩ | refine ⟨_, _, p2 _, ?_⟩); conv => whnf)
    exact ⟨rfl, _, rfl⟩
end Go.Proofs.YtgoljofmbidkfaaGreatDoor
