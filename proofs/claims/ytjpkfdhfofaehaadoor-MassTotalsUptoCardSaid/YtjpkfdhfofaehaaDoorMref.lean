/- The document's sums (tarnref15.Big) and MassTotals: contracts. No condition. -/
import Derived.Test.YtjpkfdhfofaehaaDoorMv
namespace Go.Proofs.YtjpkfdhfofaehaaDoor
open Go Go.Eng
set_option maxRecDepth 100000
set_option linter.unusedSimpArgs false
set_option linter.unusedVariables false

def bigB (a b c d : Int) : Blk := ⟨true, .cells [U64 a, U64 b, U64 c, U64 d]⟩
def hiP (x : Int) : Int := if x < 0 then 0 else x / 4294967296
def loP (x : Int) : Int := if x < 0 then 0 else x % 4294967296
def hiN (x : Int) : Int := if x < 0 then (-x) / 4294967296 else 0
def loN (x : Int) : Int := if x < 0 then (-x) % 4294967296 else 0
set_option maxHeartbeats 0 in
theorem bigadd_ok {M : List Blk} (hsc : scM M.length M = true) {a b c d x : Int} (hx : in64 x) (h : 0 ≤ a ∧ 0 ≤ b ∧ 0 ≤ c ∧ 0 ≤ d ∧ a < 4611686018427387904 ∧ b < 4611686018427387904 ∧ c < 4611686018427387904 ∧ d < 4611686018427387904) :
    COk Tryd.prog 3 37 [.ptr M.length 0, .int .i64 x] (M ++ [bigB a b c d]) (.tup []) (M ++ [bigB (a + hiP x) (b + loP x) (c + hiN x) (d + loN x)]) := by
  refine COk_of_ev Tryd.f37 Tryd.func37 (by kernel_rfl) (by simp) rfl (.inr (scM_app (scM_mono (by simp) _ hsc) rfl)) ?_
  have e0 : IntKind.u64.wrap x = if x < 0 then x + 18446744073709551616 else x := by rw [wrapU_mod]; split <;> omega
  by_cases hn : x < 0
  · have e1 : IntKind.u64.wrap (IntKind.u64.wrap (IntKind.i64.wrap (0 - IntKind.i64.wrap (x + 1))) + 1) = -x := by
      rw [wrap_id (n := x + 1) (by omega) (by omega), wrap_id (n := 0 - (x + 1)) (by omega) (by omega), wrap_u (n := 0 - (x + 1)) (by omega) (by omega), wrap_u (by omega) (by omega)]; omega
    have e2 : IntKind.u64.wrap ((-x).tdiv 4294967296) = (-x) / 4294967296 := by rw [Int.tdiv_eq_ediv_of_nonneg (by omega), wrap_u (by omega) (by omega)]
    have e3 : (-x).tmod 4294967296 = (-x) % 4294967296 := by rw [Int.tmod_eq_emod_of_nonneg (by omega)]
    (conv => whnf); repeat (first | (rw [e1, e2]; conv => whnf) | (rw [e1, e3]; conv => whnf) | (refine br_d (by omega) ?_; conv => whnf) | (refine br_nd (by omega) ?_; conv => whnf) | (refine br_eq (by omega) ?_; conv => whnf) | (refine br_neq (by omega) ?_; conv => whnf) | (refine br_ne (by omega) ?_; conv => whnf) | (refine br_no (bo_eqn (by omega)) ?_; conv => whnf) | (refine setB_app ?_; conv => whnf) | (refine setB_app0 ?_; conv => whnf) | (rw [getB_app]; conv => whnf) | (rw [getB_app0]; conv => whnf) | (refine addB_f8 ?_; conv => whnf) | (refine addB_f7 ?_; conv => whnf) | (refine addB_f6 ?_; conv => whnf) | (refine addB_f5 ?_; conv => whnf) | (refine addB_f4 ?_; conv => whnf) | (refine addB_f3 ?_; conv => whnf) | (refine addB_f2 ?_; conv => whnf) | (refine addB_f1 ?_; conv => whnf) | (refine addB_f0 ?_; conv => whnf))
    try rw [e3]
    rw [wrap_u (n := c + (-x) / 4294967296) (by omega) (by omega), wrap_u (n := d + (-x) % 4294967296) (by omega) (by omega)]
    refine ⟨rfl, [], ?_⟩
    rw [List.append_nil, hiP, loP, hiN, loN, if_pos hn, if_pos hn, if_pos hn, if_pos hn, Int.add_zero, Int.add_zero]
    rfl
  · have e1 : IntKind.u64.wrap x = x := wrap_u (by omega) (by omega)
    have e2 : IntKind.u64.wrap (x.tdiv 4294967296) = x / 4294967296 := by rw [Int.tdiv_eq_ediv_of_nonneg (by omega), wrap_u (by omega) (by omega)]
    have e3 : x.tmod 4294967296 = x % 4294967296 := by rw [Int.tmod_eq_emod_of_nonneg (by omega)]
    (conv => whnf); repeat (first | (rw [e1, e2]; conv => whnf) | (rw [e1, e3]; conv => whnf) | (refine br_d (by omega) ?_; conv => whnf) | (refine br_nd (by omega) ?_; conv => whnf) | (refine br_eq (by omega) ?_; conv => whnf) | (refine br_neq (by omega) ?_; conv => whnf) | (refine br_ne (by omega) ?_; conv => whnf) | (refine br_no (bo_eqn (by omega)) ?_; conv => whnf) | (refine setB_app ?_; conv => whnf) | (refine setB_app0 ?_; conv => whnf) | (rw [getB_app]; conv => whnf) | (rw [getB_app0]; conv => whnf) | (refine addB_f8 ?_; conv => whnf) | (refine addB_f7 ?_; conv => whnf) | (refine addB_f6 ?_; conv => whnf) | (refine addB_f5 ?_; conv => whnf) | (refine addB_f4 ?_; conv => whnf) | (refine addB_f3 ?_; conv => whnf) | (refine addB_f2 ?_; conv => whnf) | (refine addB_f1 ?_; conv => whnf) | (refine addB_f0 ?_; conv => whnf))
    try rw [e3]
    rw [wrap_u (n := a + x / 4294967296) (by omega) (by omega), wrap_u (n := b + x % 4294967296) (by omega) (by omega)]
    refine ⟨rfl, [], ?_⟩
    rw [List.append_nil, hiP, loP, hiN, loN, if_neg hn, if_neg hn, if_neg hn, if_neg hn, Int.add_zero, Int.add_zero]
    rfl
set_option maxHeartbeats 0 in
theorem bigval_ok {M : List Blk} {a b c d : Int} (h : 0 ≤ a ∧ 0 ≤ b ∧ 0 ≤ c ∧ 0 ≤ d ∧ a < 4611686018427387904 ∧ b < 4611686018427387904 ∧ c < 4611686018427387904 ∧ d < 4611686018427387904) (v : V) (hv : v = if in64 (a * 4294967296 + b - (c * 4294967296 + d)) then .tup [.int .i64 (a * 4294967296 + b - (c * 4294967296 + d)), Bo true] else .tup [.int .i64 0, Bo false]) :
    COk Tryd.prog 3 38 [.ptr M.length 0] (M ++ [bigB a b c d]) v (M ++ [bigB a b c d]) := by
  obtain ⟨A, hA⟩ : ∃ A, a + b / 4294967296 = A := ⟨_, rfl⟩
  obtain ⟨C, hC⟩ : ∃ C, c + d / 4294967296 = C := ⟨_, rfl⟩
  obtain ⟨B', hB⟩ : ∃ B', b % 4294967296 = B' := ⟨_, rfl⟩
  obtain ⟨D, hD⟩ : ∃ D, d % 4294967296 = D := ⟨_, rfl⟩
  have eA : IntKind.u64.wrap (a + IntKind.u64.wrap (b.tdiv 4294967296)) = A := by rw [Int.tdiv_eq_ediv_of_nonneg (by omega), wrap_u (n := b / 4294967296) (by omega) (by omega), wrap_u (by omega) (by omega), hA]
  have eC : IntKind.u64.wrap (c + IntKind.u64.wrap (d.tdiv 4294967296)) = C := by rw [Int.tdiv_eq_ediv_of_nonneg (by omega), wrap_u (n := d / 4294967296) (by omega) (by omega), wrap_u (by omega) (by omega), hC]
  have eB : b.tmod 4294967296 = B' := by rw [Int.tmod_eq_emod_of_nonneg (by omega), hB]
  have eD : d.tmod 4294967296 = D := by rw [Int.tmod_eq_emod_of_nonneg (by omega), hD]
  have hs : a * 4294967296 + b - (c * 4294967296 + d) = A * 4294967296 + B' - (C * 4294967296 + D) := by omega
  rw [hs] at hv
  have bB : 0 ≤ B' ∧ B' < 4294967296 := by omega
  have bD : 0 ≤ D ∧ D < 4294967296 := by omega
  have bA : 0 ≤ A ∧ A < 9223372036854775808 := by omega
  have bC : 0 ≤ C ∧ C < 9223372036854775808 := by omega
  clear hs hA hB hC hD
  have hres : v.sc (M ++ [bigB a b c d]).length = true := by subst hv; split <;> rfl
  refine COk_quiet Tryd.f38 Tryd.func38 (by kernel_rfl) hres ?_
  by_cases k0 : A < C
  · have q0 : decide (A < C) = true := decide_eq_true k0
    (conv => whnf); repeat (first | (rw [eA]; conv => whnf) | (rw [eB]; conv => whnf) | (rw [eC]; conv => whnf) | (rw [eD]; conv => whnf) | (rw [q0]; conv => whnf) | (refine br_d (by omega) ?_; conv => whnf) | (refine br_nd (by omega) ?_; conv => whnf) | (refine br_eq (by omega) ?_; conv => whnf) | (refine br_neq (by omega) ?_; conv => whnf) | (refine br_ne (by omega) ?_; conv => whnf) | (refine br_no (bo_eqn (by omega)) ?_; conv => whnf) | (refine setB_app ?_; conv => whnf) | (refine setB_app0 ?_; conv => whnf) | (rw [getB_app]; conv => whnf) | (rw [getB_app0]; conv => whnf) | (refine addB_f8 ?_; conv => whnf) | (refine addB_f7 ?_; conv => whnf) | (refine addB_f6 ?_; conv => whnf) | (refine addB_f5 ?_; conv => whnf) | (refine addB_f4 ?_; conv => whnf) | (refine addB_f3 ?_; conv => whnf) | (refine addB_f2 ?_; conv => whnf) | (refine addB_f1 ?_; conv => whnf) | (refine addB_f0 ?_; conv => whnf))
    by_cases k2 : D < B'
    · by_cases k3 : 2147483648 ≤ C - 1 - A
      · by_cases k4 : C - 1 - A = 2147483648
        · have q4 : (C - 1 - A == 2147483648) = true := by simp [k4]
          by_cases k5 : D + 4294967296 - B' = 0
          · omega
          · have q5 : (D + 4294967296 - B' == 0) = false := by simp [k5]
            try (exfalso; omega)
            all_goals
              (conv => whnf); repeat (first | (simp (disch := omega) only [wrap_u]; conv => whnf) | (rw [q4]; conv => whnf) | (rw [q5]; conv => whnf) | (refine br_d (by omega) ?_; conv => whnf) | (refine br_nd (by omega) ?_; conv => whnf) | (refine br_eq (by omega) ?_; conv => whnf) | (refine br_neq (by omega) ?_; conv => whnf) | (refine br_ne (by omega) ?_; conv => whnf) | (refine br_no (bo_eqn (by omega)) ?_; conv => whnf) | (refine setB_app ?_; conv => whnf) | (refine setB_app0 ?_; conv => whnf) | (rw [getB_app]; conv => whnf) | (rw [getB_app0]; conv => whnf) | (refine addB_f8 ?_; conv => whnf) | (refine addB_f7 ?_; conv => whnf) | (refine addB_f6 ?_; conv => whnf) | (refine addB_f5 ?_; conv => whnf) | (refine addB_f4 ?_; conv => whnf) | (refine addB_f3 ?_; conv => whnf) | (refine addB_f2 ?_; conv => whnf) | (refine addB_f1 ?_; conv => whnf) | (refine addB_f0 ?_; conv => whnf))
              refine ⟨?_, [], by simp⟩
              rw [hv, if_neg (by omega)]
        · have q4 : (C - 1 - A == 2147483648) = false := by simp [k4]
          try (exfalso; omega)
          all_goals
            (conv => whnf); repeat (first | (simp (disch := omega) only [wrap_u]; conv => whnf) | (rw [q4]; conv => whnf) | (refine br_d (by omega) ?_; conv => whnf) | (refine br_nd (by omega) ?_; conv => whnf) | (refine br_eq (by omega) ?_; conv => whnf) | (refine br_neq (by omega) ?_; conv => whnf) | (refine br_ne (by omega) ?_; conv => whnf) | (refine br_no (bo_eqn (by omega)) ?_; conv => whnf) | (refine setB_app ?_; conv => whnf) | (refine setB_app0 ?_; conv => whnf) | (rw [getB_app]; conv => whnf) | (rw [getB_app0]; conv => whnf) | (refine addB_f8 ?_; conv => whnf) | (refine addB_f7 ?_; conv => whnf) | (refine addB_f6 ?_; conv => whnf) | (refine addB_f5 ?_; conv => whnf) | (refine addB_f4 ?_; conv => whnf) | (refine addB_f3 ?_; conv => whnf) | (refine addB_f2 ?_; conv => whnf) | (refine addB_f1 ?_; conv => whnf) | (refine addB_f0 ?_; conv => whnf))
            refine ⟨?_, [], by simp⟩
            rw [hv, if_neg (by omega)]
      · try (exfalso; omega)
        all_goals
          (conv => whnf); repeat (first | (simp (disch := omega) only [wrap_u]; conv => whnf) | (refine br_d (by omega) ?_; conv => whnf) | (refine br_nd (by omega) ?_; conv => whnf) | (refine br_eq (by omega) ?_; conv => whnf) | (refine br_neq (by omega) ?_; conv => whnf) | (refine br_ne (by omega) ?_; conv => whnf) | (refine br_no (bo_eqn (by omega)) ?_; conv => whnf) | (refine setB_app ?_; conv => whnf) | (refine setB_app0 ?_; conv => whnf) | (rw [getB_app]; conv => whnf) | (rw [getB_app0]; conv => whnf) | (refine addB_f8 ?_; conv => whnf) | (refine addB_f7 ?_; conv => whnf) | (refine addB_f6 ?_; conv => whnf) | (refine addB_f5 ?_; conv => whnf) | (refine addB_f4 ?_; conv => whnf) | (refine addB_f3 ?_; conv => whnf) | (refine addB_f2 ?_; conv => whnf) | (refine addB_f1 ?_; conv => whnf) | (refine addB_f0 ?_; conv => whnf))
          refine ⟨?_, [], by simp⟩
          rw [hv, if_pos (by omega)]
          refine congrArg (fun z => V.tup [V.int .i64 z, Bo true]) ?_
          try simp (disch := omega) only [wrap_u, wrap_id]
          omega
    · by_cases k3 : 2147483648 ≤ C - A
      · by_cases k4 : C - A = 2147483648
        · have q4 : (C - A == 2147483648) = true := by simp [k4]
          by_cases k5 : D - B' = 0
          · have q5 : (D - B' == 0) = true := by simp [k5]
            try (exfalso; omega)
            all_goals
              (conv => whnf); repeat (first | (simp (disch := omega) only [wrap_u]; conv => whnf) | (rw [q4]; conv => whnf) | (rw [q5]; conv => whnf) | (refine br_d (by omega) ?_; conv => whnf) | (refine br_nd (by omega) ?_; conv => whnf) | (refine br_eq (by omega) ?_; conv => whnf) | (refine br_neq (by omega) ?_; conv => whnf) | (refine br_ne (by omega) ?_; conv => whnf) | (refine br_no (bo_eqn (by omega)) ?_; conv => whnf) | (refine setB_app ?_; conv => whnf) | (refine setB_app0 ?_; conv => whnf) | (rw [getB_app]; conv => whnf) | (rw [getB_app0]; conv => whnf) | (refine addB_f8 ?_; conv => whnf) | (refine addB_f7 ?_; conv => whnf) | (refine addB_f6 ?_; conv => whnf) | (refine addB_f5 ?_; conv => whnf) | (refine addB_f4 ?_; conv => whnf) | (refine addB_f3 ?_; conv => whnf) | (refine addB_f2 ?_; conv => whnf) | (refine addB_f1 ?_; conv => whnf) | (refine addB_f0 ?_; conv => whnf))
              refine ⟨?_, [], by simp⟩
              first
              | (rw [hv, if_neg (by omega)]; done)
              | (rw [hv, if_pos (by omega)]; exact congrArg (fun z => V.tup [V.int .i64 z, Bo true]) (by omega))
          · have q5 : (D - B' == 0) = false := by simp [k5]
            try (exfalso; omega)
            all_goals
              (conv => whnf); repeat (first | (simp (disch := omega) only [wrap_u]; conv => whnf) | (rw [q4]; conv => whnf) | (rw [q5]; conv => whnf) | (refine br_d (by omega) ?_; conv => whnf) | (refine br_nd (by omega) ?_; conv => whnf) | (refine br_eq (by omega) ?_; conv => whnf) | (refine br_neq (by omega) ?_; conv => whnf) | (refine br_ne (by omega) ?_; conv => whnf) | (refine br_no (bo_eqn (by omega)) ?_; conv => whnf) | (refine setB_app ?_; conv => whnf) | (refine setB_app0 ?_; conv => whnf) | (rw [getB_app]; conv => whnf) | (rw [getB_app0]; conv => whnf) | (refine addB_f8 ?_; conv => whnf) | (refine addB_f7 ?_; conv => whnf) | (refine addB_f6 ?_; conv => whnf) | (refine addB_f5 ?_; conv => whnf) | (refine addB_f4 ?_; conv => whnf) | (refine addB_f3 ?_; conv => whnf) | (refine addB_f2 ?_; conv => whnf) | (refine addB_f1 ?_; conv => whnf) | (refine addB_f0 ?_; conv => whnf))
              refine ⟨?_, [], by simp⟩
              rw [hv, if_neg (by omega)]
        · have q4 : (C - A == 2147483648) = false := by simp [k4]
          try (exfalso; omega)
          all_goals
            (conv => whnf); repeat (first | (simp (disch := omega) only [wrap_u]; conv => whnf) | (rw [q4]; conv => whnf) | (refine br_d (by omega) ?_; conv => whnf) | (refine br_nd (by omega) ?_; conv => whnf) | (refine br_eq (by omega) ?_; conv => whnf) | (refine br_neq (by omega) ?_; conv => whnf) | (refine br_ne (by omega) ?_; conv => whnf) | (refine br_no (bo_eqn (by omega)) ?_; conv => whnf) | (refine setB_app ?_; conv => whnf) | (refine setB_app0 ?_; conv => whnf) | (rw [getB_app]; conv => whnf) | (rw [getB_app0]; conv => whnf) | (refine addB_f8 ?_; conv => whnf) | (refine addB_f7 ?_; conv => whnf) | (refine addB_f6 ?_; conv => whnf) | (refine addB_f5 ?_; conv => whnf) | (refine addB_f4 ?_; conv => whnf) | (refine addB_f3 ?_; conv => whnf) | (refine addB_f2 ?_; conv => whnf) | (refine addB_f1 ?_; conv => whnf) | (refine addB_f0 ?_; conv => whnf))
            refine ⟨?_, [], by simp⟩
            rw [hv, if_neg (by omega)]
      · try (exfalso; omega)
        all_goals
          (conv => whnf); repeat (first | (simp (disch := omega) only [wrap_u]; conv => whnf) | (refine br_d (by omega) ?_; conv => whnf) | (refine br_nd (by omega) ?_; conv => whnf) | (refine br_eq (by omega) ?_; conv => whnf) | (refine br_neq (by omega) ?_; conv => whnf) | (refine br_ne (by omega) ?_; conv => whnf) | (refine br_no (bo_eqn (by omega)) ?_; conv => whnf) | (refine setB_app ?_; conv => whnf) | (refine setB_app0 ?_; conv => whnf) | (rw [getB_app]; conv => whnf) | (rw [getB_app0]; conv => whnf) | (refine addB_f8 ?_; conv => whnf) | (refine addB_f7 ?_; conv => whnf) | (refine addB_f6 ?_; conv => whnf) | (refine addB_f5 ?_; conv => whnf) | (refine addB_f4 ?_; conv => whnf) | (refine addB_f3 ?_; conv => whnf) | (refine addB_f2 ?_; conv => whnf) | (refine addB_f1 ?_; conv => whnf) | (refine addB_f0 ?_; conv => whnf))
          refine ⟨?_, [], by simp⟩
          rw [hv, if_pos (by omega)]
          refine congrArg (fun z => V.tup [V.int .i64 z, Bo true]) ?_
          try simp (disch := omega) only [wrap_u, wrap_id]
          omega
  · have q0 : decide (A < C) = false := decide_eq_false k0
    by_cases k1 : A = C
    · have q1 : (A == C) = true := by simp [k1]
      by_cases kk : B' < D
      · have q2 : decide (B' < D) = true := decide_eq_true kk
        (conv => whnf); repeat (first | (rw [eA]; conv => whnf) | (rw [eB]; conv => whnf) | (rw [eC]; conv => whnf) | (rw [eD]; conv => whnf) | (rw [q0]; conv => whnf) | (rw [q1]; conv => whnf) | (rw [q2]; conv => whnf) | (refine br_d (by omega) ?_; conv => whnf) | (refine br_nd (by omega) ?_; conv => whnf) | (refine br_eq (by omega) ?_; conv => whnf) | (refine br_neq (by omega) ?_; conv => whnf) | (refine br_ne (by omega) ?_; conv => whnf) | (refine br_no (bo_eqn (by omega)) ?_; conv => whnf) | (refine setB_app ?_; conv => whnf) | (refine setB_app0 ?_; conv => whnf) | (rw [getB_app]; conv => whnf) | (rw [getB_app0]; conv => whnf) | (refine addB_f8 ?_; conv => whnf) | (refine addB_f7 ?_; conv => whnf) | (refine addB_f6 ?_; conv => whnf) | (refine addB_f5 ?_; conv => whnf) | (refine addB_f4 ?_; conv => whnf) | (refine addB_f3 ?_; conv => whnf) | (refine addB_f2 ?_; conv => whnf) | (refine addB_f1 ?_; conv => whnf) | (refine addB_f0 ?_; conv => whnf))
        by_cases k2 : D < B'
        · by_cases k3 : 2147483648 ≤ C - 1 - A
          · by_cases k4 : C - 1 - A = 2147483648
            · have q4 : (C - 1 - A == 2147483648) = true := by simp [k4]
              by_cases k5 : D + 4294967296 - B' = 0
              · omega
              · have q5 : (D + 4294967296 - B' == 0) = false := by simp [k5]
                try (exfalso; omega)
                all_goals
                  (conv => whnf); repeat (first | (simp (disch := omega) only [wrap_u]; conv => whnf) | (rw [q4]; conv => whnf) | (rw [q5]; conv => whnf) | (refine br_d (by omega) ?_; conv => whnf) | (refine br_nd (by omega) ?_; conv => whnf) | (refine br_eq (by omega) ?_; conv => whnf) | (refine br_neq (by omega) ?_; conv => whnf) | (refine br_ne (by omega) ?_; conv => whnf) | (refine br_no (bo_eqn (by omega)) ?_; conv => whnf) | (refine setB_app ?_; conv => whnf) | (refine setB_app0 ?_; conv => whnf) | (rw [getB_app]; conv => whnf) | (rw [getB_app0]; conv => whnf) | (refine addB_f8 ?_; conv => whnf) | (refine addB_f7 ?_; conv => whnf) | (refine addB_f6 ?_; conv => whnf) | (refine addB_f5 ?_; conv => whnf) | (refine addB_f4 ?_; conv => whnf) | (refine addB_f3 ?_; conv => whnf) | (refine addB_f2 ?_; conv => whnf) | (refine addB_f1 ?_; conv => whnf) | (refine addB_f0 ?_; conv => whnf))
                  refine ⟨?_, [], by simp⟩
                  rw [hv, if_neg (by omega)]
            · have q4 : (C - 1 - A == 2147483648) = false := by simp [k4]
              try (exfalso; omega)
              all_goals
                (conv => whnf); repeat (first | (simp (disch := omega) only [wrap_u]; conv => whnf) | (rw [q4]; conv => whnf) | (refine br_d (by omega) ?_; conv => whnf) | (refine br_nd (by omega) ?_; conv => whnf) | (refine br_eq (by omega) ?_; conv => whnf) | (refine br_neq (by omega) ?_; conv => whnf) | (refine br_ne (by omega) ?_; conv => whnf) | (refine br_no (bo_eqn (by omega)) ?_; conv => whnf) | (refine setB_app ?_; conv => whnf) | (refine setB_app0 ?_; conv => whnf) | (rw [getB_app]; conv => whnf) | (rw [getB_app0]; conv => whnf) | (refine addB_f8 ?_; conv => whnf) | (refine addB_f7 ?_; conv => whnf) | (refine addB_f6 ?_; conv => whnf) | (refine addB_f5 ?_; conv => whnf) | (refine addB_f4 ?_; conv => whnf) | (refine addB_f3 ?_; conv => whnf) | (refine addB_f2 ?_; conv => whnf) | (refine addB_f1 ?_; conv => whnf) | (refine addB_f0 ?_; conv => whnf))
                refine ⟨?_, [], by simp⟩
                rw [hv, if_neg (by omega)]
          · try (exfalso; omega)
            all_goals
              (conv => whnf); repeat (first | (simp (disch := omega) only [wrap_u]; conv => whnf) | (refine br_d (by omega) ?_; conv => whnf) | (refine br_nd (by omega) ?_; conv => whnf) | (refine br_eq (by omega) ?_; conv => whnf) | (refine br_neq (by omega) ?_; conv => whnf) | (refine br_ne (by omega) ?_; conv => whnf) | (refine br_no (bo_eqn (by omega)) ?_; conv => whnf) | (refine setB_app ?_; conv => whnf) | (refine setB_app0 ?_; conv => whnf) | (rw [getB_app]; conv => whnf) | (rw [getB_app0]; conv => whnf) | (refine addB_f8 ?_; conv => whnf) | (refine addB_f7 ?_; conv => whnf) | (refine addB_f6 ?_; conv => whnf) | (refine addB_f5 ?_; conv => whnf) | (refine addB_f4 ?_; conv => whnf) | (refine addB_f3 ?_; conv => whnf) | (refine addB_f2 ?_; conv => whnf) | (refine addB_f1 ?_; conv => whnf) | (refine addB_f0 ?_; conv => whnf))
              refine ⟨?_, [], by simp⟩
              rw [hv, if_pos (by omega)]
              refine congrArg (fun z => V.tup [V.int .i64 z, Bo true]) ?_
              try simp (disch := omega) only [wrap_u, wrap_id]
              omega
        · by_cases k3 : 2147483648 ≤ C - A
          · by_cases k4 : C - A = 2147483648
            · have q4 : (C - A == 2147483648) = true := by simp [k4]
              by_cases k5 : D - B' = 0
              · have q5 : (D - B' == 0) = true := by simp [k5]
                try (exfalso; omega)
                all_goals
                  (conv => whnf); repeat (first | (simp (disch := omega) only [wrap_u]; conv => whnf) | (rw [q4]; conv => whnf) | (rw [q5]; conv => whnf) | (refine br_d (by omega) ?_; conv => whnf) | (refine br_nd (by omega) ?_; conv => whnf) | (refine br_eq (by omega) ?_; conv => whnf) | (refine br_neq (by omega) ?_; conv => whnf) | (refine br_ne (by omega) ?_; conv => whnf) | (refine br_no (bo_eqn (by omega)) ?_; conv => whnf) | (refine setB_app ?_; conv => whnf) | (refine setB_app0 ?_; conv => whnf) | (rw [getB_app]; conv => whnf) | (rw [getB_app0]; conv => whnf) | (refine addB_f8 ?_; conv => whnf) | (refine addB_f7 ?_; conv => whnf) | (refine addB_f6 ?_; conv => whnf) | (refine addB_f5 ?_; conv => whnf) | (refine addB_f4 ?_; conv => whnf) | (refine addB_f3 ?_; conv => whnf) | (refine addB_f2 ?_; conv => whnf) | (refine addB_f1 ?_; conv => whnf) | (refine addB_f0 ?_; conv => whnf))
                  refine ⟨?_, [], by simp⟩
                  first
                  | (rw [hv, if_neg (by omega)]; done)
                  | (rw [hv, if_pos (by omega)]; exact congrArg (fun z => V.tup [V.int .i64 z, Bo true]) (by omega))
              · have q5 : (D - B' == 0) = false := by simp [k5]
                try (exfalso; omega)
                all_goals
                  (conv => whnf); repeat (first | (simp (disch := omega) only [wrap_u]; conv => whnf) | (rw [q4]; conv => whnf) | (rw [q5]; conv => whnf) | (refine br_d (by omega) ?_; conv => whnf) | (refine br_nd (by omega) ?_; conv => whnf) | (refine br_eq (by omega) ?_; conv => whnf) | (refine br_neq (by omega) ?_; conv => whnf) | (refine br_ne (by omega) ?_; conv => whnf) | (refine br_no (bo_eqn (by omega)) ?_; conv => whnf) | (refine setB_app ?_; conv => whnf) | (refine setB_app0 ?_; conv => whnf) | (rw [getB_app]; conv => whnf) | (rw [getB_app0]; conv => whnf) | (refine addB_f8 ?_; conv => whnf) | (refine addB_f7 ?_; conv => whnf) | (refine addB_f6 ?_; conv => whnf) | (refine addB_f5 ?_; conv => whnf) | (refine addB_f4 ?_; conv => whnf) | (refine addB_f3 ?_; conv => whnf) | (refine addB_f2 ?_; conv => whnf) | (refine addB_f1 ?_; conv => whnf) | (refine addB_f0 ?_; conv => whnf))
                  refine ⟨?_, [], by simp⟩
                  rw [hv, if_neg (by omega)]
            · have q4 : (C - A == 2147483648) = false := by simp [k4]
              try (exfalso; omega)
              all_goals
                (conv => whnf); repeat (first | (simp (disch := omega) only [wrap_u]; conv => whnf) | (rw [q4]; conv => whnf) | (refine br_d (by omega) ?_; conv => whnf) | (refine br_nd (by omega) ?_; conv => whnf) | (refine br_eq (by omega) ?_; conv => whnf) | (refine br_neq (by omega) ?_; conv => whnf) | (refine br_ne (by omega) ?_; conv => whnf) | (refine br_no (bo_eqn (by omega)) ?_; conv => whnf) | (refine setB_app ?_; conv => whnf) | (refine setB_app0 ?_; conv => whnf) | (rw [getB_app]; conv => whnf) | (rw [getB_app0]; conv => whnf) | (refine addB_f8 ?_; conv => whnf) | (refine addB_f7 ?_; conv => whnf) | (refine addB_f6 ?_; conv => whnf) | (refine addB_f5 ?_; conv => whnf) | (refine addB_f4 ?_; conv => whnf) | (refine addB_f3 ?_; conv => whnf) | (refine addB_f2 ?_; conv => whnf) | (refine addB_f1 ?_; conv => whnf) | (refine addB_f0 ?_; conv => whnf))
                refine ⟨?_, [], by simp⟩
                rw [hv, if_neg (by omega)]
          · try (exfalso; omega)
            all_goals
              (conv => whnf); repeat (first | (simp (disch := omega) only [wrap_u]; conv => whnf) | (refine br_d (by omega) ?_; conv => whnf) | (refine br_nd (by omega) ?_; conv => whnf) | (refine br_eq (by omega) ?_; conv => whnf) | (refine br_neq (by omega) ?_; conv => whnf) | (refine br_ne (by omega) ?_; conv => whnf) | (refine br_no (bo_eqn (by omega)) ?_; conv => whnf) | (refine setB_app ?_; conv => whnf) | (refine setB_app0 ?_; conv => whnf) | (rw [getB_app]; conv => whnf) | (rw [getB_app0]; conv => whnf) | (refine addB_f8 ?_; conv => whnf) | (refine addB_f7 ?_; conv => whnf) | (refine addB_f6 ?_; conv => whnf) | (refine addB_f5 ?_; conv => whnf) | (refine addB_f4 ?_; conv => whnf) | (refine addB_f3 ?_; conv => whnf) | (refine addB_f2 ?_; conv => whnf) | (refine addB_f1 ?_; conv => whnf) | (refine addB_f0 ?_; conv => whnf))
              refine ⟨?_, [], by simp⟩
              rw [hv, if_pos (by omega)]
              refine congrArg (fun z => V.tup [V.int .i64 z, Bo true]) ?_
              try simp (disch := omega) only [wrap_u, wrap_id]
              omega
      · have q2 : decide (B' < D) = false := decide_eq_false kk
        (conv => whnf); repeat (first | (rw [eA]; conv => whnf) | (rw [eB]; conv => whnf) | (rw [eC]; conv => whnf) | (rw [eD]; conv => whnf) | (rw [q0]; conv => whnf) | (rw [q1]; conv => whnf) | (rw [q2]; conv => whnf) | (refine br_d (by omega) ?_; conv => whnf) | (refine br_nd (by omega) ?_; conv => whnf) | (refine br_eq (by omega) ?_; conv => whnf) | (refine br_neq (by omega) ?_; conv => whnf) | (refine br_ne (by omega) ?_; conv => whnf) | (refine br_no (bo_eqn (by omega)) ?_; conv => whnf) | (refine setB_app ?_; conv => whnf) | (refine setB_app0 ?_; conv => whnf) | (rw [getB_app]; conv => whnf) | (rw [getB_app0]; conv => whnf) | (refine addB_f8 ?_; conv => whnf) | (refine addB_f7 ?_; conv => whnf) | (refine addB_f6 ?_; conv => whnf) | (refine addB_f5 ?_; conv => whnf) | (refine addB_f4 ?_; conv => whnf) | (refine addB_f3 ?_; conv => whnf) | (refine addB_f2 ?_; conv => whnf) | (refine addB_f1 ?_; conv => whnf) | (refine addB_f0 ?_; conv => whnf))
        by_cases k2 : B' < D
        · by_cases k3 : 2147483648 ≤ A - 1 - C
          · by_cases k4 : A - 1 - C = 2147483648
            · have q4 : (A - 1 - C == 2147483648) = true := by simp [k4]
              by_cases k5 : B' + 4294967296 - D = 0
              · omega
              · have q5 : (B' + 4294967296 - D == 0) = false := by simp [k5]
                try (exfalso; omega)
                all_goals
                  (conv => whnf); repeat (first | (simp (disch := omega) only [wrap_u]; conv => whnf) | (rw [q4]; conv => whnf) | (rw [q5]; conv => whnf) | (refine br_d (by omega) ?_; conv => whnf) | (refine br_nd (by omega) ?_; conv => whnf) | (refine br_eq (by omega) ?_; conv => whnf) | (refine br_neq (by omega) ?_; conv => whnf) | (refine br_ne (by omega) ?_; conv => whnf) | (refine br_no (bo_eqn (by omega)) ?_; conv => whnf) | (refine setB_app ?_; conv => whnf) | (refine setB_app0 ?_; conv => whnf) | (rw [getB_app]; conv => whnf) | (rw [getB_app0]; conv => whnf) | (refine addB_f8 ?_; conv => whnf) | (refine addB_f7 ?_; conv => whnf) | (refine addB_f6 ?_; conv => whnf) | (refine addB_f5 ?_; conv => whnf) | (refine addB_f4 ?_; conv => whnf) | (refine addB_f3 ?_; conv => whnf) | (refine addB_f2 ?_; conv => whnf) | (refine addB_f1 ?_; conv => whnf) | (refine addB_f0 ?_; conv => whnf))
                  refine ⟨?_, [], by simp⟩
                  rw [hv, if_neg (by omega)]
            · have q4 : (A - 1 - C == 2147483648) = false := by simp [k4]
              try (exfalso; omega)
              all_goals
                (conv => whnf); repeat (first | (simp (disch := omega) only [wrap_u]; conv => whnf) | (rw [q4]; conv => whnf) | (refine br_d (by omega) ?_; conv => whnf) | (refine br_nd (by omega) ?_; conv => whnf) | (refine br_eq (by omega) ?_; conv => whnf) | (refine br_neq (by omega) ?_; conv => whnf) | (refine br_ne (by omega) ?_; conv => whnf) | (refine br_no (bo_eqn (by omega)) ?_; conv => whnf) | (refine setB_app ?_; conv => whnf) | (refine setB_app0 ?_; conv => whnf) | (rw [getB_app]; conv => whnf) | (rw [getB_app0]; conv => whnf) | (refine addB_f8 ?_; conv => whnf) | (refine addB_f7 ?_; conv => whnf) | (refine addB_f6 ?_; conv => whnf) | (refine addB_f5 ?_; conv => whnf) | (refine addB_f4 ?_; conv => whnf) | (refine addB_f3 ?_; conv => whnf) | (refine addB_f2 ?_; conv => whnf) | (refine addB_f1 ?_; conv => whnf) | (refine addB_f0 ?_; conv => whnf))
                refine ⟨?_, [], by simp⟩
                rw [hv, if_neg (by omega)]
          · try (exfalso; omega)
            all_goals
              (conv => whnf); repeat (first | (simp (disch := omega) only [wrap_u]; conv => whnf) | (refine br_d (by omega) ?_; conv => whnf) | (refine br_nd (by omega) ?_; conv => whnf) | (refine br_eq (by omega) ?_; conv => whnf) | (refine br_neq (by omega) ?_; conv => whnf) | (refine br_ne (by omega) ?_; conv => whnf) | (refine br_no (bo_eqn (by omega)) ?_; conv => whnf) | (refine setB_app ?_; conv => whnf) | (refine setB_app0 ?_; conv => whnf) | (rw [getB_app]; conv => whnf) | (rw [getB_app0]; conv => whnf) | (refine addB_f8 ?_; conv => whnf) | (refine addB_f7 ?_; conv => whnf) | (refine addB_f6 ?_; conv => whnf) | (refine addB_f5 ?_; conv => whnf) | (refine addB_f4 ?_; conv => whnf) | (refine addB_f3 ?_; conv => whnf) | (refine addB_f2 ?_; conv => whnf) | (refine addB_f1 ?_; conv => whnf) | (refine addB_f0 ?_; conv => whnf))
              refine ⟨?_, [], by simp⟩
              rw [hv, if_pos (by omega)]
              refine congrArg (fun z => V.tup [V.int .i64 z, Bo true]) ?_
              try simp (disch := omega) only [wrap_u, wrap_id]
              omega
        · by_cases k3 : 2147483648 ≤ A - C
          · by_cases k4 : A - C = 2147483648
            · have q4 : (A - C == 2147483648) = true := by simp [k4]
              by_cases k5 : B' - D = 0
              · have q5 : (B' - D == 0) = true := by simp [k5]
                try (exfalso; omega)
                all_goals
                  (conv => whnf); repeat (first | (simp (disch := omega) only [wrap_u]; conv => whnf) | (rw [q4]; conv => whnf) | (rw [q5]; conv => whnf) | (refine br_d (by omega) ?_; conv => whnf) | (refine br_nd (by omega) ?_; conv => whnf) | (refine br_eq (by omega) ?_; conv => whnf) | (refine br_neq (by omega) ?_; conv => whnf) | (refine br_ne (by omega) ?_; conv => whnf) | (refine br_no (bo_eqn (by omega)) ?_; conv => whnf) | (refine setB_app ?_; conv => whnf) | (refine setB_app0 ?_; conv => whnf) | (rw [getB_app]; conv => whnf) | (rw [getB_app0]; conv => whnf) | (refine addB_f8 ?_; conv => whnf) | (refine addB_f7 ?_; conv => whnf) | (refine addB_f6 ?_; conv => whnf) | (refine addB_f5 ?_; conv => whnf) | (refine addB_f4 ?_; conv => whnf) | (refine addB_f3 ?_; conv => whnf) | (refine addB_f2 ?_; conv => whnf) | (refine addB_f1 ?_; conv => whnf) | (refine addB_f0 ?_; conv => whnf))
                  refine ⟨?_, [], by simp⟩
                  first
                  | (rw [hv, if_neg (by omega)]; done)
                  | (rw [hv, if_pos (by omega)]; exact congrArg (fun z => V.tup [V.int .i64 z, Bo true]) (by omega))
              · have q5 : (B' - D == 0) = false := by simp [k5]
                try (exfalso; omega)
                all_goals
                  (conv => whnf); repeat (first | (simp (disch := omega) only [wrap_u]; conv => whnf) | (rw [q4]; conv => whnf) | (rw [q5]; conv => whnf) | (refine br_d (by omega) ?_; conv => whnf) | (refine br_nd (by omega) ?_; conv => whnf) | (refine br_eq (by omega) ?_; conv => whnf) | (refine br_neq (by omega) ?_; conv => whnf) | (refine br_ne (by omega) ?_; conv => whnf) | (refine br_no (bo_eqn (by omega)) ?_; conv => whnf) | (refine setB_app ?_; conv => whnf) | (refine setB_app0 ?_; conv => whnf) | (rw [getB_app]; conv => whnf) | (rw [getB_app0]; conv => whnf) | (refine addB_f8 ?_; conv => whnf) | (refine addB_f7 ?_; conv => whnf) | (refine addB_f6 ?_; conv => whnf) | (refine addB_f5 ?_; conv => whnf) | (refine addB_f4 ?_; conv => whnf) | (refine addB_f3 ?_; conv => whnf) | (refine addB_f2 ?_; conv => whnf) | (refine addB_f1 ?_; conv => whnf) | (refine addB_f0 ?_; conv => whnf))
                  refine ⟨?_, [], by simp⟩
                  rw [hv, if_neg (by omega)]
            · have q4 : (A - C == 2147483648) = false := by simp [k4]
              try (exfalso; omega)
              all_goals
                (conv => whnf); repeat (first | (simp (disch := omega) only [wrap_u]; conv => whnf) | (rw [q4]; conv => whnf) | (refine br_d (by omega) ?_; conv => whnf) | (refine br_nd (by omega) ?_; conv => whnf) | (refine br_eq (by omega) ?_; conv => whnf) | (refine br_neq (by omega) ?_; conv => whnf) | (refine br_ne (by omega) ?_; conv => whnf) | (refine br_no (bo_eqn (by omega)) ?_; conv => whnf) | (refine setB_app ?_; conv => whnf) | (refine setB_app0 ?_; conv => whnf) | (rw [getB_app]; conv => whnf) | (rw [getB_app0]; conv => whnf) | (refine addB_f8 ?_; conv => whnf) | (refine addB_f7 ?_; conv => whnf) | (refine addB_f6 ?_; conv => whnf) | (refine addB_f5 ?_; conv => whnf) | (refine addB_f4 ?_; conv => whnf) | (refine addB_f3 ?_; conv => whnf) | (refine addB_f2 ?_; conv => whnf) | (refine addB_f1 ?_; conv => whnf) | (refine addB_f0 ?_; conv => whnf))
                refine ⟨?_, [], by simp⟩
                rw [hv, if_neg (by omega)]
          · try (exfalso; omega)
            all_goals
              (conv => whnf); repeat (first | (simp (disch := omega) only [wrap_u]; conv => whnf) | (refine br_d (by omega) ?_; conv => whnf) | (refine br_nd (by omega) ?_; conv => whnf) | (refine br_eq (by omega) ?_; conv => whnf) | (refine br_neq (by omega) ?_; conv => whnf) | (refine br_ne (by omega) ?_; conv => whnf) | (refine br_no (bo_eqn (by omega)) ?_; conv => whnf) | (refine setB_app ?_; conv => whnf) | (refine setB_app0 ?_; conv => whnf) | (rw [getB_app]; conv => whnf) | (rw [getB_app0]; conv => whnf) | (refine addB_f8 ?_; conv => whnf) | (refine addB_f7 ?_; conv => whnf) | (refine addB_f6 ?_; conv => whnf) | (refine addB_f5 ?_; conv => whnf) | (refine addB_f4 ?_; conv => whnf) | (refine addB_f3 ?_; conv => whnf) | (refine addB_f2 ?_; conv => whnf) | (refine addB_f1 ?_; conv => whnf) | (refine addB_f0 ?_; conv => whnf))
              refine ⟨?_, [], by simp⟩
              rw [hv, if_pos (by omega)]
              refine congrArg (fun z => V.tup [V.int .i64 z, Bo true]) ?_
              try simp (disch := omega) only [wrap_u, wrap_id]
              omega
    · have q1 : (A == C) = false := by simp [k1]
      (conv => whnf); repeat (first | (rw [eA]; conv => whnf) | (rw [eB]; conv => whnf) | (rw [eC]; conv => whnf) | (rw [eD]; conv => whnf) | (rw [q0]; conv => whnf) | (rw [q1]; conv => whnf) | (refine br_d (by omega) ?_; conv => whnf) | (refine br_nd (by omega) ?_; conv => whnf) | (refine br_eq (by omega) ?_; conv => whnf) | (refine br_neq (by omega) ?_; conv => whnf) | (refine br_ne (by omega) ?_; conv => whnf) | (refine br_no (bo_eqn (by omega)) ?_; conv => whnf) | (refine setB_app ?_; conv => whnf) | (refine setB_app0 ?_; conv => whnf) | (rw [getB_app]; conv => whnf) | (rw [getB_app0]; conv => whnf) | (refine addB_f8 ?_; conv => whnf) | (refine addB_f7 ?_; conv => whnf) | (refine addB_f6 ?_; conv => whnf) | (refine addB_f5 ?_; conv => whnf) | (refine addB_f4 ?_; conv => whnf) | (refine addB_f3 ?_; conv => whnf) | (refine addB_f2 ?_; conv => whnf) | (refine addB_f1 ?_; conv => whnf) | (refine addB_f0 ?_; conv => whnf))
      by_cases k2 : B' < D
      · by_cases k3 : 2147483648 ≤ A - 1 - C
        · by_cases k4 : A - 1 - C = 2147483648
          · have q4 : (A - 1 - C == 2147483648) = true := by simp [k4]
            by_cases k5 : B' + 4294967296 - D = 0
            · omega
            · have q5 : (B' + 4294967296 - D == 0) = false := by simp [k5]
              try (exfalso; omega)
              all_goals
                (conv => whnf); repeat (first | (simp (disch := omega) only [wrap_u]; conv => whnf) | (rw [q4]; conv => whnf) | (rw [q5]; conv => whnf) | (refine br_d (by omega) ?_; conv => whnf) | (refine br_nd (by omega) ?_; conv => whnf) | (refine br_eq (by omega) ?_; conv => whnf) | (refine br_neq (by omega) ?_; conv => whnf) | (refine br_ne (by omega) ?_; conv => whnf) | (refine br_no (bo_eqn (by omega)) ?_; conv => whnf) | (refine setB_app ?_; conv => whnf) | (refine setB_app0 ?_; conv => whnf) | (rw [getB_app]; conv => whnf) | (rw [getB_app0]; conv => whnf) | (refine addB_f8 ?_; conv => whnf) | (refine addB_f7 ?_; conv => whnf) | (refine addB_f6 ?_; conv => whnf) | (refine addB_f5 ?_; conv => whnf) | (refine addB_f4 ?_; conv => whnf) | (refine addB_f3 ?_; conv => whnf) | (refine addB_f2 ?_; conv => whnf) | (refine addB_f1 ?_; conv => whnf) | (refine addB_f0 ?_; conv => whnf))
                refine ⟨?_, [], by simp⟩
                rw [hv, if_neg (by omega)]
          · have q4 : (A - 1 - C == 2147483648) = false := by simp [k4]
            try (exfalso; omega)
            all_goals
              (conv => whnf); repeat (first | (simp (disch := omega) only [wrap_u]; conv => whnf) | (rw [q4]; conv => whnf) | (refine br_d (by omega) ?_; conv => whnf) | (refine br_nd (by omega) ?_; conv => whnf) | (refine br_eq (by omega) ?_; conv => whnf) | (refine br_neq (by omega) ?_; conv => whnf) | (refine br_ne (by omega) ?_; conv => whnf) | (refine br_no (bo_eqn (by omega)) ?_; conv => whnf) | (refine setB_app ?_; conv => whnf) | (refine setB_app0 ?_; conv => whnf) | (rw [getB_app]; conv => whnf) | (rw [getB_app0]; conv => whnf) | (refine addB_f8 ?_; conv => whnf) | (refine addB_f7 ?_; conv => whnf) | (refine addB_f6 ?_; conv => whnf) | (refine addB_f5 ?_; conv => whnf) | (refine addB_f4 ?_; conv => whnf) | (refine addB_f3 ?_; conv => whnf) | (refine addB_f2 ?_; conv => whnf) | (refine addB_f1 ?_; conv => whnf) | (refine addB_f0 ?_; conv => whnf))
              refine ⟨?_, [], by simp⟩
              rw [hv, if_neg (by omega)]
        · try (exfalso; omega)
          all_goals
            (conv => whnf); repeat (first | (simp (disch := omega) only [wrap_u]; conv => whnf) | (refine br_d (by omega) ?_; conv => whnf) | (refine br_nd (by omega) ?_; conv => whnf) | (refine br_eq (by omega) ?_; conv => whnf) | (refine br_neq (by omega) ?_; conv => whnf) | (refine br_ne (by omega) ?_; conv => whnf) | (refine br_no (bo_eqn (by omega)) ?_; conv => whnf) | (refine setB_app ?_; conv => whnf) | (refine setB_app0 ?_; conv => whnf) | (rw [getB_app]; conv => whnf) | (rw [getB_app0]; conv => whnf) | (refine addB_f8 ?_; conv => whnf) | (refine addB_f7 ?_; conv => whnf) | (refine addB_f6 ?_; conv => whnf) | (refine addB_f5 ?_; conv => whnf) | (refine addB_f4 ?_; conv => whnf) | (refine addB_f3 ?_; conv => whnf) | (refine addB_f2 ?_; conv => whnf) | (refine addB_f1 ?_; conv => whnf) | (refine addB_f0 ?_; conv => whnf))
            refine ⟨?_, [], by simp⟩
            rw [hv, if_pos (by omega)]
            refine congrArg (fun z => V.tup [V.int .i64 z, Bo true]) ?_
            try simp (disch := omega) only [wrap_u, wrap_id]
            omega
      · by_cases k3 : 2147483648 ≤ A - C
        · by_cases k4 : A - C = 2147483648
          · have q4 : (A - C == 2147483648) = true := by simp [k4]
            by_cases k5 : B' - D = 0
            · have q5 : (B' - D == 0) = true := by simp [k5]
              try (exfalso; omega)
              all_goals
                (conv => whnf); repeat (first | (simp (disch := omega) only [wrap_u]; conv => whnf) | (rw [q4]; conv => whnf) | (rw [q5]; conv => whnf) | (refine br_d (by omega) ?_; conv => whnf) | (refine br_nd (by omega) ?_; conv => whnf) | (refine br_eq (by omega) ?_; conv => whnf) | (refine br_neq (by omega) ?_; conv => whnf) | (refine br_ne (by omega) ?_; conv => whnf) | (refine br_no (bo_eqn (by omega)) ?_; conv => whnf) | (refine setB_app ?_; conv => whnf) | (refine setB_app0 ?_; conv => whnf) | (rw [getB_app]; conv => whnf) | (rw [getB_app0]; conv => whnf) | (refine addB_f8 ?_; conv => whnf) | (refine addB_f7 ?_; conv => whnf) | (refine addB_f6 ?_; conv => whnf) | (refine addB_f5 ?_; conv => whnf) | (refine addB_f4 ?_; conv => whnf) | (refine addB_f3 ?_; conv => whnf) | (refine addB_f2 ?_; conv => whnf) | (refine addB_f1 ?_; conv => whnf) | (refine addB_f0 ?_; conv => whnf))
                refine ⟨?_, [], by simp⟩
                first
                | (rw [hv, if_neg (by omega)]; done)
                | (rw [hv, if_pos (by omega)]; exact congrArg (fun z => V.tup [V.int .i64 z, Bo true]) (by omega))
            · have q5 : (B' - D == 0) = false := by simp [k5]
              try (exfalso; omega)
              all_goals
                (conv => whnf); repeat (first | (simp (disch := omega) only [wrap_u]; conv => whnf) | (rw [q4]; conv => whnf) | (rw [q5]; conv => whnf) | (refine br_d (by omega) ?_; conv => whnf) | (refine br_nd (by omega) ?_; conv => whnf) | (refine br_eq (by omega) ?_; conv => whnf) | (refine br_neq (by omega) ?_; conv => whnf) | (refine br_ne (by omega) ?_; conv => whnf) | (refine br_no (bo_eqn (by omega)) ?_; conv => whnf) | (refine setB_app ?_; conv => whnf) | (refine setB_app0 ?_; conv => whnf) | (rw [getB_app]; conv => whnf) | (rw [getB_app0]; conv => whnf) | (refine addB_f8 ?_; conv => whnf) | (refine addB_f7 ?_; conv => whnf) | (refine addB_f6 ?_; conv => whnf) | (refine addB_f5 ?_; conv => whnf) | (refine addB_f4 ?_; conv => whnf) | (refine addB_f3 ?_; conv => whnf) | (refine addB_f2 ?_; conv => whnf) | (refine addB_f1 ?_; conv => whnf) | (refine addB_f0 ?_; conv => whnf))
                refine ⟨?_, [], by simp⟩
                rw [hv, if_neg (by omega)]
          · have q4 : (A - C == 2147483648) = false := by simp [k4]
            try (exfalso; omega)
            all_goals
              (conv => whnf); repeat (first | (simp (disch := omega) only [wrap_u]; conv => whnf) | (rw [q4]; conv => whnf) | (refine br_d (by omega) ?_; conv => whnf) | (refine br_nd (by omega) ?_; conv => whnf) | (refine br_eq (by omega) ?_; conv => whnf) | (refine br_neq (by omega) ?_; conv => whnf) | (refine br_ne (by omega) ?_; conv => whnf) | (refine br_no (bo_eqn (by omega)) ?_; conv => whnf) | (refine setB_app ?_; conv => whnf) | (refine setB_app0 ?_; conv => whnf) | (rw [getB_app]; conv => whnf) | (rw [getB_app0]; conv => whnf) | (refine addB_f8 ?_; conv => whnf) | (refine addB_f7 ?_; conv => whnf) | (refine addB_f6 ?_; conv => whnf) | (refine addB_f5 ?_; conv => whnf) | (refine addB_f4 ?_; conv => whnf) | (refine addB_f3 ?_; conv => whnf) | (refine addB_f2 ?_; conv => whnf) | (refine addB_f1 ?_; conv => whnf) | (refine addB_f0 ?_; conv => whnf))
              refine ⟨?_, [], by simp⟩
              rw [hv, if_neg (by omega)]
        · try (exfalso; omega)
          all_goals
            (conv => whnf); repeat (first | (simp (disch := omega) only [wrap_u]; conv => whnf) | (refine br_d (by omega) ?_; conv => whnf) | (refine br_nd (by omega) ?_; conv => whnf) | (refine br_eq (by omega) ?_; conv => whnf) | (refine br_neq (by omega) ?_; conv => whnf) | (refine br_ne (by omega) ?_; conv => whnf) | (refine br_no (bo_eqn (by omega)) ?_; conv => whnf) | (refine setB_app ?_; conv => whnf) | (refine setB_app0 ?_; conv => whnf) | (rw [getB_app]; conv => whnf) | (rw [getB_app0]; conv => whnf) | (refine addB_f8 ?_; conv => whnf) | (refine addB_f7 ?_; conv => whnf) | (refine addB_f6 ?_; conv => whnf) | (refine addB_f5 ?_; conv => whnf) | (refine addB_f4 ?_; conv => whnf) | (refine addB_f3 ?_; conv => whnf) | (refine addB_f2 ?_; conv => whnf) | (refine addB_f1 ?_; conv => whnf) | (refine addB_f0 ?_; conv => whnf))
            refine ⟨?_, [], by simp⟩
            rw [hv, if_pos (by omega)]
            refine congrArg (fun z => V.tup [V.int .i64 z, Bo true]) ?_
            try simp (disch := omega) only [wrap_u, wrap_id]
            omega
def sm (f : Int → Int) (l : List Int) (z : Int) : Nat → Int
  | 0 => z
  | k + 1 => sm f l z k + f (l.getD k 0)
theorem sm_bd {f : Int → Int} (hf : ∀ x, in64 x → 0 ≤ f x ∧ f x ≤ 4294967296) {l : List Int} (h : ∀ i, i < l.length → in64 (l.getD i 0)) {z : Int} : ∀ k, k ≤ l.length → z ≤ sm f l z k ∧ sm f l z k ≤ z + 4294967296 * (k : Int)
  | 0, _ => by simp [sm]
  | k + 1, hk => by
    have h1 := sm_bd hf h (z := z) k (by omega)
    have h2 := hf _ (h k (by omega))
    simp only [sm]
    omega
theorem parts_bd (x : Int) (h : in64 x) : (0 ≤ hiP x ∧ hiP x ≤ 4294967296) ∧ (0 ≤ loP x ∧ loP x ≤ 4294967296) ∧ (0 ≤ hiN x ∧ hiN x ≤ 4294967296) ∧ (0 ≤ loN x ∧ loN x ≤ 4294967296) := by
  unfold hiP loP hiN loN
  refine ⟨?_, ?_, ?_, ?_⟩ <;> split <;> omega
theorem parts_sum (x : Int) : hiP x * 4294967296 + loP x - (hiN x * 4294967296 + loN x) = x := by
  unfold hiP loP hiN loN
  split <;> omega
theorem sm_sum (l : List Int) (a b c d : Int) : ∀ k, sm hiP l a k * 4294967296 + sm loP l b k - (sm hiN l c k * 4294967296 + sm loN l d k) = a * 4294967296 + b - (c * 4294967296 + d) + ps l k
  | 0 => by simp [sm, ps]
  | k + 1 => by
    have h1 := sm_sum l a b c d k
    have h2 := parts_sum (l.getD k 0)
    simp only [sm, ps]
    omega
def smB (l : List Int) (a b c d : Int) (k : Nat) : Blk := bigB (sm hiP l a k) (sm loP l b k) (sm hiN l c k) (sm loN l d k)
theorem sm_all {l : List Int} (h : ∀ i, i < l.length → in64 (l.getD i 0)) (hl : l.length ≤ 1048576) {a b c d : Int} (hz : 0 ≤ a ∧ 0 ≤ b ∧ 0 ≤ c ∧ 0 ≤ d) {k : Nat} (hk : k ≤ l.length) :
    0 ≤ sm hiP l a k ∧ 0 ≤ sm loP l b k ∧ 0 ≤ sm hiN l c k ∧ 0 ≤ sm loN l d k ∧ sm hiP l a k ≤ a + 4503599627370496 ∧ sm loP l b k ≤ b + 4503599627370496 ∧ sm hiN l c k ≤ c + 4503599627370496 ∧ sm loN l d k ≤ d + 4503599627370496 := by
  have h1 := sm_bd (fun x hx => (parts_bd x hx).1) h (z := a) k hk
  have h2 := sm_bd (fun x hx => (parts_bd x hx).2.1) h (z := b) k hk
  have h3 := sm_bd (fun x hx => (parts_bd x hx).2.2.1) h (z := c) k hk
  have h4 := sm_bd (fun x hx => (parts_bd x hx).2.2.2) h (z := d) k hk
  omega
theorem smadd_ok {M : List Blk} (hsc : scM M.length M = true) {l : List Int} (h : ∀ i, i < l.length → in64 (l.getD i 0)) (hl : l.length ≤ 1048576) {a b c d : Int} (hz : 0 ≤ a ∧ 0 ≤ b ∧ 0 ≤ c ∧ 0 ≤ d ∧ a ≤ 4503599627370496 ∧ b ≤ 4503599627370496 ∧ c ≤ 4503599627370496 ∧ d ≤ 4503599627370496) {k : Nat} (hk : k < l.length) :
    COk Tryd.prog 3 37 [.ptr M.length 0, .int .i64 (l.getD k 0)] (M ++ [smB l a b c d k]) (.tup []) (M ++ [smB l a b c d (k + 1)]) := by
  have := sm_all h hl (a := a) (b := b) (c := c) (d := d) (by omega) (k := k) (by omega)
  exact bigadd_ok hsc (h k hk) (by omega)
set_option maxHeartbeats 0 in
theorem reftotal_ok {M : List Blk} (hng : 3 ≤ M.length) (hsc : scM M.length M = true) {v1 v2 : V} {l1 l2 : List Int} (h1 : Sli M v1 l1) (h2 : Sli M v2 l2) (k1 : l1.length ≤ 1048576) (k2 : l2.length ≤ 1048576) :
    COk Tryd.prog 3 14 [v1, v2] M (totalV (ps l1 l1.length + ps l2 l2.length)) M := by
  have w1 := h1.wf
  have w2 := h2.wf
  have hr : (totalV (ps l1 l1.length + ps l2 l2.length)).sc M.length = true := by unfold totalV; split <;> rfl
  have g1 := sm_all w1.1 k1 (a := 0) (b := 0) (c := 0) (d := 0) (by omega) (Nat.le_refl _)
  have g2 := sm_all w2.1 k2 (a := sm hiP l1 0 l1.length) (b := sm loP l1 0 l1.length) (c := sm hiN l1 0 l1.length) (d := sm loN l1 0 l1.length) (by omega) (Nat.le_refl _)
  have e1 := sm_sum l1 0 0 0 0 l1.length
  have e2 := sm_sum l2 (sm hiP l1 0 l1.length) (sm loP l1 0 l1.length) (sm hiN l1 0 l1.length) (sm loN l1 0 l1.length) l2.length
  have hval := bigval_ok (M := M) (a := sm hiP l2 (sm hiP l1 0 l1.length) l2.length) (b := sm loP l2 (sm loP l1 0 l1.length) l2.length) (c := sm hiN l2 (sm hiN l1 0 l1.length) l2.length) (d := sm loN l2 (sm loN l1 0 l1.length) l2.length) (by omega) _ rfl
  rw [e2, e1] at hval
  rw [show (0 : Int) * 4294967296 + 0 - (0 * 4294967296 + 0) + ps l1 l1.length + ps l2 l2.length = ps l1 l1.length + ps l2 l2.length by omega] at hval
  unfold totalV at hr ⊢
  have hval : COk Tryd.prog 3 38 [.ptr M.length 0] (M ++ [smB l2 (sm hiP l1 0 l1.length) (sm loP l1 0 l1.length) (sm hiN l1 0 l1.length) (sm loN l1 0 l1.length) l2.length]) _ _ := hval
  clear e1 e2 g2
  generalize ps l1 l1.length + ps l2 l2.length = S at *
  rcases h1 with ⟨rfl, e1⟩ | ⟨j1, o1, rfl, h1⟩ <;> rcases h2 with ⟨rfl, e2⟩ | ⟨j2, o2, rfl, h2⟩
  all_goals refine COk_quiet Tryd.f14 Tryd.func14 (by kernel_rfl) hr ?_
  · subst e1 e2
    (conv => whnf); repeat (first | (refine lr ?_; conv => whnf) | (refine br_d (by omega) ?_; conv => whnf) | (refine br_nd (by omega) ?_; conv => whnf) | (refine br_eq (by omega) ?_; conv => whnf) | (refine br_neq (by omega) ?_; conv => whnf) | (refine br_ne (by omega) ?_; conv => whnf) | (refine br_no (bo_eqn (by omega)) ?_; conv => whnf) | (refine setB_app ?_; conv => whnf) | (refine setB_app0 ?_; conv => whnf) | (rw [getB_app]; conv => whnf) | (rw [getB_app0]; conv => whnf) | (refine addB_f8 ?_; conv => whnf) | (refine addB_f7 ?_; conv => whnf) | (refine addB_f6 ?_; conv => whnf) | (refine addB_f5 ?_; conv => whnf) | (refine addB_f4 ?_; conv => whnf) | (refine addB_f3 ?_; conv => whnf) | (refine addB_f2 ?_; conv => whnf) | (refine addB_f1 ?_; conv => whnf) | (refine addB_f0 ?_; conv => whnf))
    by_cases hin : in64 S
    · rw [if_pos hin] at hval ⊢
      (conv => whnf); repeat (first | (refine ⟨_, _, hval, ?_⟩; conv => whnf) | (refine ⟨_, hval, ?_⟩; conv => whnf) | (refine br_d (by omega) ?_; conv => whnf) | (refine br_nd (by omega) ?_; conv => whnf) | (refine br_eq (by omega) ?_; conv => whnf) | (refine br_neq (by omega) ?_; conv => whnf) | (refine br_ne (by omega) ?_; conv => whnf) | (refine br_no (bo_eqn (by omega)) ?_; conv => whnf) | (refine setB_app ?_; conv => whnf) | (refine setB_app0 ?_; conv => whnf) | (rw [getB_app]; conv => whnf) | (rw [getB_app0]; conv => whnf) | (refine addB_f8 ?_; conv => whnf) | (refine addB_f7 ?_; conv => whnf) | (refine addB_f6 ?_; conv => whnf) | (refine addB_f5 ?_; conv => whnf) | (refine addB_f4 ?_; conv => whnf) | (refine addB_f3 ?_; conv => whnf) | (refine addB_f2 ?_; conv => whnf) | (refine addB_f1 ?_; conv => whnf) | (refine addB_f0 ?_; conv => whnf))
      exact ⟨rfl, _, rfl⟩
    · rw [if_neg hin] at hval ⊢
      (conv => whnf); repeat (first | (refine ⟨_, _, hval, ?_⟩; conv => whnf) | (refine ⟨_, hval, ?_⟩; conv => whnf) | (refine br_d (by omega) ?_; conv => whnf) | (refine br_nd (by omega) ?_; conv => whnf) | (refine br_eq (by omega) ?_; conv => whnf) | (refine br_neq (by omega) ?_; conv => whnf) | (refine br_ne (by omega) ?_; conv => whnf) | (refine br_no (bo_eqn (by omega)) ?_; conv => whnf) | (refine setB_app ?_; conv => whnf) | (refine setB_app0 ?_; conv => whnf) | (rw [getB_app]; conv => whnf) | (rw [getB_app0]; conv => whnf) | (refine addB_f8 ?_; conv => whnf) | (refine addB_f7 ?_; conv => whnf) | (refine addB_f6 ?_; conv => whnf) | (refine addB_f5 ?_; conv => whnf) | (refine addB_f4 ?_; conv => whnf) | (refine addB_f3 ?_; conv => whnf) | (refine addB_f2 ?_; conv => whnf) | (refine addB_f1 ?_; conv => whnf) | (refine addB_f0 ?_; conv => whnf))
      exact ⟨rfl, _, rfl⟩
  · have hj2 := h2.lt
    subst e1
    (conv => whnf); repeat (first | (refine br_d (by omega) ?_; conv => whnf) | (refine br_nd (by omega) ?_; conv => whnf) | (refine br_eq (by omega) ?_; conv => whnf) | (refine br_neq (by omega) ?_; conv => whnf) | (refine br_ne (by omega) ?_; conv => whnf) | (refine br_no (bo_eqn (by omega)) ?_; conv => whnf) | (refine setB_app ?_; conv => whnf) | (refine setB_app0 ?_; conv => whnf) | (rw [getB_app]; conv => whnf) | (rw [getB_app0]; conv => whnf) | (refine addB_f8 ?_; conv => whnf) | (refine addB_f7 ?_; conv => whnf) | (refine addB_f6 ?_; conv => whnf) | (refine addB_f5 ?_; conv => whnf) | (refine addB_f4 ?_; conv => whnf) | (refine addB_f3 ?_; conv => whnf) | (refine addB_f2 ?_; conv => whnf) | (refine addB_f1 ?_; conv => whnf) | (refine addB_f0 ?_; conv => whnf))
    refine lr ?_
    (conv => whnf); repeat (first | (refine br_d (by omega) ?_; conv => whnf) | (refine br_nd (by omega) ?_; conv => whnf) | (refine br_eq (by omega) ?_; conv => whnf) | (refine br_neq (by omega) ?_; conv => whnf) | (refine br_ne (by omega) ?_; conv => whnf) | (refine br_no (bo_eqn (by omega)) ?_; conv => whnf) | (refine setB_app ?_; conv => whnf) | (refine setB_app0 ?_; conv => whnf) | (rw [getB_app]; conv => whnf) | (rw [getB_app0]; conv => whnf) | (refine addB_f8 ?_; conv => whnf) | (refine addB_f7 ?_; conv => whnf) | (refine addB_f6 ?_; conv => whnf) | (refine addB_f5 ?_; conv => whnf) | (refine addB_f4 ?_; conv => whnf) | (refine addB_f3 ?_; conv => whnf) | (refine addB_f2 ?_; conv => whnf) | (refine addB_f1 ?_; conv => whnf) | (refine addB_f0 ?_; conv => whnf))
    refine loop_to (fun k => [.any, .sl j2 o2 l2.length, .any, .any, .any, .any, .ptr M.length 0, .any, I k, .any, .any, .any, .any, .any, .any, .any, .any, .any, .any, .any, .any, .any, .any, .any, .any, .any, .any, .any, .any, .any, .any, .any, .any, .any, .any, .any, .any, .any, .any, .any, .any, .any, .any, .any, .any]) (fun k => M ++ [smB l2 (sm hiP [] 0 ([] : List Int).length) (sm loP [] 0 ([] : List Int).length) (sm hiN [] 0 ([] : List Int).length) (sm loN [] 0 ([] : List Int).length) k]) 0 (l2).length (Nat.zero_le _) ?_ ?_ ?_
    · refine Fg.of [] ?_ (by first | (rw [List.append_nil]; done) | (rw [List.append_nil]; rfl)) (by simp) (by (simp [scL, V.sc]) <;> omega) (scM_app (scM_mono (by simp) _ hsc) rfl)
      conv => whnf
      first | exact ⟨rfl, rfl, rfl, rfl, rfl⟩ | exact ⟨rfl, rfl, rfl, rfl⟩
    · intro k _ hk
      (conv => whnf); repeat (first | (refine SlI.at (h2.app _) (i := k) (by omega) rfl ?_; conv => whnf) | (refine ⟨_, _, smadd_ok hsc w2.1 k2 (by omega) hk, ?_⟩; conv => whnf) | (refine ⟨_, smadd_ok hsc w2.1 k2 (by omega) hk, ?_⟩; conv => whnf) | (refine br_d (by omega) ?_; conv => whnf) | (refine br_nd (by omega) ?_; conv => whnf) | (refine br_eq (by omega) ?_; conv => whnf) | (refine br_neq (by omega) ?_; conv => whnf) | (refine br_ne (by omega) ?_; conv => whnf) | (refine br_no (bo_eqn (by omega)) ?_; conv => whnf) | (refine setB_app ?_; conv => whnf) | (refine setB_app0 ?_; conv => whnf) | (rw [getB_app]; conv => whnf) | (rw [getB_app0]; conv => whnf) | (refine addB_f8 ?_; conv => whnf) | (refine addB_f7 ?_; conv => whnf) | (refine addB_f6 ?_; conv => whnf) | (refine addB_f5 ?_; conv => whnf) | (refine addB_f4 ?_; conv => whnf) | (refine addB_f3 ?_; conv => whnf) | (refine addB_f2 ?_; conv => whnf) | (refine addB_f1 ?_; conv => whnf) | (refine addB_f0 ?_; conv => whnf))
      refine Fg.of [] ?_ (by first | (rw [List.append_nil]; done) | (rw [List.append_nil]; rfl)) (by simp) (by (simp [scL, V.sc]) <;> omega) (scM_app (scM_mono (by simp) _ hsc) rfl)
      conv => whnf
      first | exact ⟨rfl, rfl, rfl, wrapKL (by omega), rfl⟩ | exact ⟨rfl, rfl, wrapKL (by omega), rfl⟩
    by_cases hin : in64 S
    · rw [if_pos hin] at hval ⊢
      (conv => whnf); repeat (first | (refine ⟨_, _, hval, ?_⟩; conv => whnf) | (refine ⟨_, hval, ?_⟩; conv => whnf) | (refine br_d (by omega) ?_; conv => whnf) | (refine br_nd (by omega) ?_; conv => whnf) | (refine br_eq (by omega) ?_; conv => whnf) | (refine br_neq (by omega) ?_; conv => whnf) | (refine br_ne (by omega) ?_; conv => whnf) | (refine br_no (bo_eqn (by omega)) ?_; conv => whnf) | (refine setB_app ?_; conv => whnf) | (refine setB_app0 ?_; conv => whnf) | (rw [getB_app]; conv => whnf) | (rw [getB_app0]; conv => whnf) | (refine addB_f8 ?_; conv => whnf) | (refine addB_f7 ?_; conv => whnf) | (refine addB_f6 ?_; conv => whnf) | (refine addB_f5 ?_; conv => whnf) | (refine addB_f4 ?_; conv => whnf) | (refine addB_f3 ?_; conv => whnf) | (refine addB_f2 ?_; conv => whnf) | (refine addB_f1 ?_; conv => whnf) | (refine addB_f0 ?_; conv => whnf))
      exact ⟨rfl, _, rfl⟩
    · rw [if_neg hin] at hval ⊢
      (conv => whnf); repeat (first | (refine ⟨_, _, hval, ?_⟩; conv => whnf) | (refine ⟨_, hval, ?_⟩; conv => whnf) | (refine br_d (by omega) ?_; conv => whnf) | (refine br_nd (by omega) ?_; conv => whnf) | (refine br_eq (by omega) ?_; conv => whnf) | (refine br_neq (by omega) ?_; conv => whnf) | (refine br_ne (by omega) ?_; conv => whnf) | (refine br_no (bo_eqn (by omega)) ?_; conv => whnf) | (refine setB_app ?_; conv => whnf) | (refine setB_app0 ?_; conv => whnf) | (rw [getB_app]; conv => whnf) | (rw [getB_app0]; conv => whnf) | (refine addB_f8 ?_; conv => whnf) | (refine addB_f7 ?_; conv => whnf) | (refine addB_f6 ?_; conv => whnf) | (refine addB_f5 ?_; conv => whnf) | (refine addB_f4 ?_; conv => whnf) | (refine addB_f3 ?_; conv => whnf) | (refine addB_f2 ?_; conv => whnf) | (refine addB_f1 ?_; conv => whnf) | (refine addB_f0 ?_; conv => whnf))
      exact ⟨rfl, _, rfl⟩
  · have hj1 := h1.lt
    subst e2
    (conv => whnf); repeat (first | (refine br_d (by omega) ?_; conv => whnf) | (refine br_nd (by omega) ?_; conv => whnf) | (refine br_eq (by omega) ?_; conv => whnf) | (refine br_neq (by omega) ?_; conv => whnf) | (refine br_ne (by omega) ?_; conv => whnf) | (refine br_no (bo_eqn (by omega)) ?_; conv => whnf) | (refine setB_app ?_; conv => whnf) | (refine setB_app0 ?_; conv => whnf) | (rw [getB_app]; conv => whnf) | (rw [getB_app0]; conv => whnf) | (refine addB_f8 ?_; conv => whnf) | (refine addB_f7 ?_; conv => whnf) | (refine addB_f6 ?_; conv => whnf) | (refine addB_f5 ?_; conv => whnf) | (refine addB_f4 ?_; conv => whnf) | (refine addB_f3 ?_; conv => whnf) | (refine addB_f2 ?_; conv => whnf) | (refine addB_f1 ?_; conv => whnf) | (refine addB_f0 ?_; conv => whnf))
    refine loop_to (fun k => [.sl j1 o1 l1.length, nilS', .any, .any, .any, .any, .ptr M.length 0, I k, .any, .any, .any, .any, .any, .any, .any, .any, .any, .any, .any, .any, .any, .any, .any, .any, .any, .any, .any, .any, .any, .any, .any, .any, .any, .any, .any, .any, .any, .any, .any, .any, .any, .any, .any, .any, .any]) (fun k => M ++ [smB l1 0 0 0 0 k]) 0 (l1).length (Nat.zero_le _) ?_ ?_ ?_
    · refine Fg.of [] ?_ (by first | (rw [List.append_nil]; done) | (rw [List.append_nil]; rfl)) (by simp) (by (simp [scL, V.sc]) <;> omega) (scM_app (scM_mono (by simp) _ hsc) rfl)
      conv => whnf
      first | exact ⟨rfl, rfl, rfl, rfl, rfl⟩ | exact ⟨rfl, rfl, rfl, rfl⟩
    · intro k _ hk
      (conv => whnf); repeat (first | (refine SlI.at (h1.app _) (i := k) (by omega) rfl ?_; conv => whnf) | (refine ⟨_, _, smadd_ok hsc w1.1 k1 (by omega) hk, ?_⟩; conv => whnf) | (refine ⟨_, smadd_ok hsc w1.1 k1 (by omega) hk, ?_⟩; conv => whnf) | (refine br_d (by omega) ?_; conv => whnf) | (refine br_nd (by omega) ?_; conv => whnf) | (refine br_eq (by omega) ?_; conv => whnf) | (refine br_neq (by omega) ?_; conv => whnf) | (refine br_ne (by omega) ?_; conv => whnf) | (refine br_no (bo_eqn (by omega)) ?_; conv => whnf) | (refine setB_app ?_; conv => whnf) | (refine setB_app0 ?_; conv => whnf) | (rw [getB_app]; conv => whnf) | (rw [getB_app0]; conv => whnf) | (refine addB_f8 ?_; conv => whnf) | (refine addB_f7 ?_; conv => whnf) | (refine addB_f6 ?_; conv => whnf) | (refine addB_f5 ?_; conv => whnf) | (refine addB_f4 ?_; conv => whnf) | (refine addB_f3 ?_; conv => whnf) | (refine addB_f2 ?_; conv => whnf) | (refine addB_f1 ?_; conv => whnf) | (refine addB_f0 ?_; conv => whnf))
      refine Fg.of [] ?_ (by first | (rw [List.append_nil]; done) | (rw [List.append_nil]; rfl)) (by simp) (by (simp [scL, V.sc]) <;> omega) (scM_app (scM_mono (by simp) _ hsc) rfl)
      conv => whnf
      first | exact ⟨rfl, rfl, rfl, wrapKL (by omega), rfl⟩ | exact ⟨rfl, rfl, wrapKL (by omega), rfl⟩
    (conv => whnf); repeat (first | (refine lr ?_; conv => whnf) | (refine br_d (by omega) ?_; conv => whnf) | (refine br_nd (by omega) ?_; conv => whnf) | (refine br_eq (by omega) ?_; conv => whnf) | (refine br_neq (by omega) ?_; conv => whnf) | (refine br_ne (by omega) ?_; conv => whnf) | (refine br_no (bo_eqn (by omega)) ?_; conv => whnf) | (refine setB_app ?_; conv => whnf) | (refine setB_app0 ?_; conv => whnf) | (rw [getB_app]; conv => whnf) | (rw [getB_app0]; conv => whnf) | (refine addB_f8 ?_; conv => whnf) | (refine addB_f7 ?_; conv => whnf) | (refine addB_f6 ?_; conv => whnf) | (refine addB_f5 ?_; conv => whnf) | (refine addB_f4 ?_; conv => whnf) | (refine addB_f3 ?_; conv => whnf) | (refine addB_f2 ?_; conv => whnf) | (refine addB_f1 ?_; conv => whnf) | (refine addB_f0 ?_; conv => whnf))
    by_cases hin : in64 S
    · rw [if_pos hin] at hval ⊢
      (conv => whnf); repeat (first | (refine ⟨_, _, hval, ?_⟩; conv => whnf) | (refine ⟨_, hval, ?_⟩; conv => whnf) | (refine br_d (by omega) ?_; conv => whnf) | (refine br_nd (by omega) ?_; conv => whnf) | (refine br_eq (by omega) ?_; conv => whnf) | (refine br_neq (by omega) ?_; conv => whnf) | (refine br_ne (by omega) ?_; conv => whnf) | (refine br_no (bo_eqn (by omega)) ?_; conv => whnf) | (refine setB_app ?_; conv => whnf) | (refine setB_app0 ?_; conv => whnf) | (rw [getB_app]; conv => whnf) | (rw [getB_app0]; conv => whnf) | (refine addB_f8 ?_; conv => whnf) | (refine addB_f7 ?_; conv => whnf) | (refine addB_f6 ?_; conv => whnf) | (refine addB_f5 ?_; conv => whnf) | (refine addB_f4 ?_; conv => whnf) | (refine addB_f3 ?_; conv => whnf) | (refine addB_f2 ?_; conv => whnf) | (refine addB_f1 ?_; conv => whnf) | (refine addB_f0 ?_; conv => whnf))
      exact ⟨rfl, _, rfl⟩
    · rw [if_neg hin] at hval ⊢
      (conv => whnf); repeat (first | (refine ⟨_, _, hval, ?_⟩; conv => whnf) | (refine ⟨_, hval, ?_⟩; conv => whnf) | (refine br_d (by omega) ?_; conv => whnf) | (refine br_nd (by omega) ?_; conv => whnf) | (refine br_eq (by omega) ?_; conv => whnf) | (refine br_neq (by omega) ?_; conv => whnf) | (refine br_ne (by omega) ?_; conv => whnf) | (refine br_no (bo_eqn (by omega)) ?_; conv => whnf) | (refine setB_app ?_; conv => whnf) | (refine setB_app0 ?_; conv => whnf) | (rw [getB_app]; conv => whnf) | (rw [getB_app0]; conv => whnf) | (refine addB_f8 ?_; conv => whnf) | (refine addB_f7 ?_; conv => whnf) | (refine addB_f6 ?_; conv => whnf) | (refine addB_f5 ?_; conv => whnf) | (refine addB_f4 ?_; conv => whnf) | (refine addB_f3 ?_; conv => whnf) | (refine addB_f2 ?_; conv => whnf) | (refine addB_f1 ?_; conv => whnf) | (refine addB_f0 ?_; conv => whnf))
      exact ⟨rfl, _, rfl⟩
  · have hj1 := h1.lt
    have hj2 := h2.lt
    (conv => whnf); repeat (first | (refine br_d (by omega) ?_; conv => whnf) | (refine br_nd (by omega) ?_; conv => whnf) | (refine br_eq (by omega) ?_; conv => whnf) | (refine br_neq (by omega) ?_; conv => whnf) | (refine br_ne (by omega) ?_; conv => whnf) | (refine br_no (bo_eqn (by omega)) ?_; conv => whnf) | (refine setB_app ?_; conv => whnf) | (refine setB_app0 ?_; conv => whnf) | (rw [getB_app]; conv => whnf) | (rw [getB_app0]; conv => whnf) | (refine addB_f8 ?_; conv => whnf) | (refine addB_f7 ?_; conv => whnf) | (refine addB_f6 ?_; conv => whnf) | (refine addB_f5 ?_; conv => whnf) | (refine addB_f4 ?_; conv => whnf) | (refine addB_f3 ?_; conv => whnf) | (refine addB_f2 ?_; conv => whnf) | (refine addB_f1 ?_; conv => whnf) | (refine addB_f0 ?_; conv => whnf))
    refine loop_to (fun k => [.sl j1 o1 l1.length, .sl j2 o2 l2.length, .any, .any, .any, .any, .ptr M.length 0, I k, .any, .any, .any, .any, .any, .any, .any, .any, .any, .any, .any, .any, .any, .any, .any, .any, .any, .any, .any, .any, .any, .any, .any, .any, .any, .any, .any, .any, .any, .any, .any, .any, .any, .any, .any, .any, .any]) (fun k => M ++ [smB l1 0 0 0 0 k]) 0 (l1).length (Nat.zero_le _) ?_ ?_ ?_
    · refine Fg.of [] ?_ (by first | (rw [List.append_nil]; done) | (rw [List.append_nil]; rfl)) (by simp) (by (simp [scL, V.sc]) <;> omega) (scM_app (scM_mono (by simp) _ hsc) rfl)
      conv => whnf
      first | exact ⟨rfl, rfl, rfl, rfl, rfl⟩ | exact ⟨rfl, rfl, rfl, rfl⟩
    · intro k _ hk
      (conv => whnf); repeat (first | (refine SlI.at (h1.app _) (i := k) (by omega) rfl ?_; conv => whnf) | (refine ⟨_, _, smadd_ok hsc w1.1 k1 (by omega) hk, ?_⟩; conv => whnf) | (refine ⟨_, smadd_ok hsc w1.1 k1 (by omega) hk, ?_⟩; conv => whnf) | (refine br_d (by omega) ?_; conv => whnf) | (refine br_nd (by omega) ?_; conv => whnf) | (refine br_eq (by omega) ?_; conv => whnf) | (refine br_neq (by omega) ?_; conv => whnf) | (refine br_ne (by omega) ?_; conv => whnf) | (refine br_no (bo_eqn (by omega)) ?_; conv => whnf) | (refine setB_app ?_; conv => whnf) | (refine setB_app0 ?_; conv => whnf) | (rw [getB_app]; conv => whnf) | (rw [getB_app0]; conv => whnf) | (refine addB_f8 ?_; conv => whnf) | (refine addB_f7 ?_; conv => whnf) | (refine addB_f6 ?_; conv => whnf) | (refine addB_f5 ?_; conv => whnf) | (refine addB_f4 ?_; conv => whnf) | (refine addB_f3 ?_; conv => whnf) | (refine addB_f2 ?_; conv => whnf) | (refine addB_f1 ?_; conv => whnf) | (refine addB_f0 ?_; conv => whnf))
      refine Fg.of [] ?_ (by first | (rw [List.append_nil]; done) | (rw [List.append_nil]; rfl)) (by simp) (by (simp [scL, V.sc]) <;> omega) (scM_app (scM_mono (by simp) _ hsc) rfl)
      conv => whnf
      first | exact ⟨rfl, rfl, rfl, wrapKL (by omega), rfl⟩ | exact ⟨rfl, rfl, wrapKL (by omega), rfl⟩
    (conv => whnf); repeat (first | (refine br_d (by omega) ?_; conv => whnf) | (refine br_nd (by omega) ?_; conv => whnf) | (refine br_eq (by omega) ?_; conv => whnf) | (refine br_neq (by omega) ?_; conv => whnf) | (refine br_ne (by omega) ?_; conv => whnf) | (refine br_no (bo_eqn (by omega)) ?_; conv => whnf) | (refine setB_app ?_; conv => whnf) | (refine setB_app0 ?_; conv => whnf) | (rw [getB_app]; conv => whnf) | (rw [getB_app0]; conv => whnf) | (refine addB_f8 ?_; conv => whnf) | (refine addB_f7 ?_; conv => whnf) | (refine addB_f6 ?_; conv => whnf) | (refine addB_f5 ?_; conv => whnf) | (refine addB_f4 ?_; conv => whnf) | (refine addB_f3 ?_; conv => whnf) | (refine addB_f2 ?_; conv => whnf) | (refine addB_f1 ?_; conv => whnf) | (refine addB_f0 ?_; conv => whnf))
    refine loop_to (fun k => [.any, .sl j2 o2 l2.length, .any, .any, .any, .any, .ptr M.length 0, .any, I k, .any, .any, .any, .any, .any, .any, .any, .any, .any, .any, .any, .any, .any, .any, .any, .any, .any, .any, .any, .any, .any, .any, .any, .any, .any, .any, .any, .any, .any, .any, .any, .any, .any, .any, .any, .any]) (fun k => M ++ [smB l2 (sm hiP l1 0 l1.length) (sm loP l1 0 l1.length) (sm hiN l1 0 l1.length) (sm loN l1 0 l1.length) k]) 0 (l2).length (Nat.zero_le _) ?_ ?_ ?_
    · refine Fg.of [] ?_ (by first | (rw [List.append_nil]; done) | (rw [List.append_nil]; rfl)) (by simp) (by (simp [scL, V.sc]) <;> omega) (scM_app (scM_mono (by simp) _ hsc) rfl)
      conv => whnf
      first | exact ⟨rfl, rfl, rfl, rfl, rfl⟩ | exact ⟨rfl, rfl, rfl, rfl⟩
    · intro k _ hk
      (conv => whnf); repeat (first | (refine SlI.at (h2.app _) (i := k) (by omega) rfl ?_; conv => whnf) | (refine ⟨_, _, smadd_ok hsc w2.1 k2 (by omega) hk, ?_⟩; conv => whnf) | (refine ⟨_, smadd_ok hsc w2.1 k2 (by omega) hk, ?_⟩; conv => whnf) | (refine br_d (by omega) ?_; conv => whnf) | (refine br_nd (by omega) ?_; conv => whnf) | (refine br_eq (by omega) ?_; conv => whnf) | (refine br_neq (by omega) ?_; conv => whnf) | (refine br_ne (by omega) ?_; conv => whnf) | (refine br_no (bo_eqn (by omega)) ?_; conv => whnf) | (refine setB_app ?_; conv => whnf) | (refine setB_app0 ?_; conv => whnf) | (rw [getB_app]; conv => whnf) | (rw [getB_app0]; conv => whnf) | (refine addB_f8 ?_; conv => whnf) | (refine addB_f7 ?_; conv => whnf) | (refine addB_f6 ?_; conv => whnf) | (refine addB_f5 ?_; conv => whnf) | (refine addB_f4 ?_; conv => whnf) | (refine addB_f3 ?_; conv => whnf) | (refine addB_f2 ?_; conv => whnf) | (refine addB_f1 ?_; conv => whnf) | (refine addB_f0 ?_; conv => whnf))
      refine Fg.of [] ?_ (by first | (rw [List.append_nil]; done) | (rw [List.append_nil]; rfl)) (by simp) (by (simp [scL, V.sc]) <;> omega) (scM_app (scM_mono (by simp) _ hsc) rfl)
      conv => whnf
      first | exact ⟨rfl, rfl, rfl, wrapKL (by omega), rfl⟩ | exact ⟨rfl, rfl, wrapKL (by omega), rfl⟩
    by_cases hin : in64 S
    · rw [if_pos hin] at hval ⊢
      (conv => whnf); repeat (first | (refine ⟨_, _, hval, ?_⟩; conv => whnf) | (refine ⟨_, hval, ?_⟩; conv => whnf) | (refine br_d (by omega) ?_; conv => whnf) | (refine br_nd (by omega) ?_; conv => whnf) | (refine br_eq (by omega) ?_; conv => whnf) | (refine br_neq (by omega) ?_; conv => whnf) | (refine br_ne (by omega) ?_; conv => whnf) | (refine br_no (bo_eqn (by omega)) ?_; conv => whnf) | (refine setB_app ?_; conv => whnf) | (refine setB_app0 ?_; conv => whnf) | (rw [getB_app]; conv => whnf) | (rw [getB_app0]; conv => whnf) | (refine addB_f8 ?_; conv => whnf) | (refine addB_f7 ?_; conv => whnf) | (refine addB_f6 ?_; conv => whnf) | (refine addB_f5 ?_; conv => whnf) | (refine addB_f4 ?_; conv => whnf) | (refine addB_f3 ?_; conv => whnf) | (refine addB_f2 ?_; conv => whnf) | (refine addB_f1 ?_; conv => whnf) | (refine addB_f0 ?_; conv => whnf))
      exact ⟨rfl, _, rfl⟩
    · rw [if_neg hin] at hval ⊢
      (conv => whnf); repeat (first | (refine ⟨_, _, hval, ?_⟩; conv => whnf) | (refine ⟨_, hval, ?_⟩; conv => whnf) | (refine br_d (by omega) ?_; conv => whnf) | (refine br_nd (by omega) ?_; conv => whnf) | (refine br_eq (by omega) ?_; conv => whnf) | (refine br_neq (by omega) ?_; conv => whnf) | (refine br_ne (by omega) ?_; conv => whnf) | (refine br_no (bo_eqn (by omega)) ?_; conv => whnf) | (refine setB_app ?_; conv => whnf) | (refine setB_app0 ?_; conv => whnf) | (rw [getB_app]; conv => whnf) | (rw [getB_app0]; conv => whnf) | (refine addB_f8 ?_; conv => whnf) | (refine addB_f7 ?_; conv => whnf) | (refine addB_f6 ?_; conv => whnf) | (refine addB_f5 ?_; conv => whnf) | (refine addB_f4 ?_; conv => whnf) | (refine addB_f3 ?_; conv => whnf) | (refine addB_f2 ?_; conv => whnf) | (refine addB_f1 ?_; conv => whnf) | (refine addB_f0 ?_; conv => whnf))
      exact ⟨rfl, _, rfl⟩
set_option maxHeartbeats 0 in
/-- MassTotals says true, of lists that are not too long. -/
theorem totals15_ok {M : List Blk} (hm : Top M) (hsc : scM M.length M = true) {v1 v2 : V} {l1 l2 : List Int} (h1 : Sli M v1 l1) (h2 : Sli M v2 l2) (k1 : l1.length ≤ 1048576) (k2 : l2.length ≤ 1048576) :
    COk Tryd.prog 3 3 [v1, v2] M (Bo true) M := by
  have hng := hm.ng
  have t1 := total_ok hng hsc h1 h2
  have t2 := reftotal_ok hng hsc h1 h2 k1 k2
  have t3 := total_ok hng hsc h2 h1
  rw [Int.add_comm] at t3
  generalize ps l1 l1.length + ps l2 l2.length = S at *
  have hb : ∀ x : Int, (x == x) = true := fun x => by simp
  unfold totalV at t1 t2 t3
  clear k1 k2
  rcases h1 with ⟨rfl, _⟩ | ⟨j1, o1, rfl, h1⟩ <;> rcases h2 with ⟨rfl, _⟩ | ⟨j2, o2, rfl, h2⟩
  all_goals
    refine COk_quiet Tryd.f3 Tryd.func3 (by kernel_rfl) rfl ?_
    by_cases hin : in64 S
    · rw [if_pos hin] at t1 t2 t3
      (conv => whnf); repeat (first | (refine ⟨_, _, awake15_ok hm hsc, ?_⟩; conv => whnf) | (refine ⟨_, awake15_ok hm hsc, ?_⟩; conv => whnf) | (refine ⟨_, _, t1, ?_⟩; conv => whnf) | (refine ⟨_, t1, ?_⟩; conv => whnf) | (refine ⟨_, _, t2, ?_⟩; conv => whnf) | (refine ⟨_, t2, ?_⟩; conv => whnf) | (refine ⟨_, _, t3, ?_⟩; conv => whnf) | (refine ⟨_, t3, ?_⟩; conv => whnf) | (rw [hb]; conv => whnf) | (refine br_d (by omega) ?_; conv => whnf) | (refine br_nd (by omega) ?_; conv => whnf) | (refine br_eq (by omega) ?_; conv => whnf) | (refine br_neq (by omega) ?_; conv => whnf) | (refine br_ne (by omega) ?_; conv => whnf) | (refine br_no (bo_eqn (by omega)) ?_; conv => whnf) | (refine setB_app ?_; conv => whnf) | (refine setB_app0 ?_; conv => whnf) | (rw [getB_app]; conv => whnf) | (rw [getB_app0]; conv => whnf) | (refine addB_f8 ?_; conv => whnf) | (refine addB_f7 ?_; conv => whnf) | (refine addB_f6 ?_; conv => whnf) | (refine addB_f5 ?_; conv => whnf) | (refine addB_f4 ?_; conv => whnf) | (refine addB_f3 ?_; conv => whnf) | (refine addB_f2 ?_; conv => whnf) | (refine addB_f1 ?_; conv => whnf) | (refine addB_f0 ?_; conv => whnf))
      exact ⟨rfl, [], by simp⟩
    · rw [if_neg hin] at t1 t2 t3
      (conv => whnf); repeat (first | (refine ⟨_, _, awake15_ok hm hsc, ?_⟩; conv => whnf) | (refine ⟨_, awake15_ok hm hsc, ?_⟩; conv => whnf) | (refine ⟨_, _, t1, ?_⟩; conv => whnf) | (refine ⟨_, t1, ?_⟩; conv => whnf) | (refine ⟨_, _, t2, ?_⟩; conv => whnf) | (refine ⟨_, t2, ?_⟩; conv => whnf) | (refine ⟨_, _, t3, ?_⟩; conv => whnf) | (refine ⟨_, t3, ?_⟩; conv => whnf) | (rw [hb]; conv => whnf) | (refine br_d (by omega) ?_; conv => whnf) | (refine br_nd (by omega) ?_; conv => whnf) | (refine br_eq (by omega) ?_; conv => whnf) | (refine br_neq (by omega) ?_; conv => whnf) | (refine br_ne (by omega) ?_; conv => whnf) | (refine br_no (bo_eqn (by omega)) ?_; conv => whnf) | (refine setB_app ?_; conv => whnf) | (refine setB_app0 ?_; conv => whnf) | (rw [getB_app]; conv => whnf) | (rw [getB_app0]; conv => whnf) | (refine addB_f8 ?_; conv => whnf) | (refine addB_f7 ?_; conv => whnf) | (refine addB_f6 ?_; conv => whnf) | (refine addB_f5 ?_; conv => whnf) | (refine addB_f4 ?_; conv => whnf) | (refine addB_f3 ?_; conv => whnf) | (refine addB_f2 ?_; conv => whnf) | (refine addB_f1 ?_; conv => whnf) | (refine addB_f0 ?_; conv => whnf))
      exact ⟨rfl, [], by simp⟩
end Go.Proofs.YtjpkfdhfofaehaaDoor
