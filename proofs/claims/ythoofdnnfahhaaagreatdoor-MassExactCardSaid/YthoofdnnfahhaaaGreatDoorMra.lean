/- The document's sums (tarnref15.Big) of 128 bits: contracts. No condition. -/
import Derived.Test.YthoofdnnfahhaaaGreatDoorMva
namespace Go.Proofs.YthoofdnnfahhaaaGreatDoor
open Go Go.Eng
set_option maxRecDepth 100000
set_option linter.unusedSimpArgs false
set_option linter.unusedVariables false

def bigB (a b c d : Int) : Blk := ⟨true, .cells [U64 a, U64 b, U64 c, U64 d]⟩
def hiP (x : Int) : Int := if x < 0 then 0 else x / 4294967296
def loP (x : Int) : Int := if x < 0 then 0 else x % 4294967296
def hiN (x : Int) : Int := if x < 0 then (-x) / 4294967296 else 0
def loN (x : Int) : Int := if x < 0 then (-x) % 4294967296 else 0
set_option maxHeartbeats 0 in
theorem bigadd_ok {M : List Blk} (hsc : scM M.length M = true) {a b c d x : Int} (hx : in64 x) (h : 0 ≤ a ∧ 0 ≤ b ∧ 0 ≤ c ∧ 0 ≤ d ∧ a < 4611686018427387904 ∧ b < 4611686018427387904 ∧ c < 4611686018427387904 ∧ d < 4611686018427387904) :
    COk Tryz.prog 3 105 [.ptr M.length 0, .int .i64 x] (M ++ [bigB a b c d]) (.tup []) (M ++ [bigB (a + hiP x) (b + loP x) (c + hiN x) (d + loN x)]) := by
  refine COk_of_ev Tryz.f105 Tryz.func105 (by kernel_rfl) (by simp) rfl (.inr (scM_app (scM_mono (by simp) _ hsc) rfl)) ?_
  have e0 : IntKind.u64.wrap x = if x < 0 then x + 18446744073709551616 else x := by rw [wrapU_mod]; split <;> omega
  by_cases hn : x < 0
  · have e1 : IntKind.u64.wrap (IntKind.u64.wrap (IntKind.i64.wrap (0 - IntKind.i64.wrap (x + 1))) + 1) = -x := by
      rw [wrap_id (n := x + 1) (by omega) (by omega), wrap_id (n := 0 - (x + 1)) (by omega) (by omega), wrap_u (n := 0 - (x + 1)) (by omega) (by omega), wrap_u (by omega) (by omega)]; omega
    have e2 : IntKind.u64.wrap ((-x).tdiv 4294967296) = (-x) / 4294967296 := by rw [Int.tdiv_eq_ediv_of_nonneg (by omega), wrap_u (by omega) (by omega)]
    have e3 : (-x).tmod 4294967296 = (-x) % 4294967296 := by rw [Int.tmod_eq_emod_of_nonneg (by omega)]
    (conv => whnf); repeat ((first | rw [e1, e2] | refine br_d (by omega) ?_ | refine setB_app0 ?_ | rw [getB_app0]); conv => whnf)
    try rw [e3]
    rw [wrap_u (n := c + (-x) / 4294967296) (by omega) (by omega), wrap_u (n := d + (-x) % 4294967296) (by omega) (by omega)]
    refine ⟨rfl, [], ?_⟩
    rw [List.append_nil, hiP, loP, hiN, loN, if_pos hn, if_pos hn, if_pos hn, if_pos hn, Int.add_zero, Int.add_zero]
    rfl
  · have e1 : IntKind.u64.wrap x = x := wrap_u (by omega) (by omega)
    have e2 : IntKind.u64.wrap (x.tdiv 4294967296) = x / 4294967296 := by rw [Int.tdiv_eq_ediv_of_nonneg (by omega), wrap_u (by omega) (by omega)]
    have e3 : x.tmod 4294967296 = x % 4294967296 := by rw [Int.tmod_eq_emod_of_nonneg (by omega)]
    (conv => whnf); repeat ((first | rw [e1, e2] | rw [e1, e3] | refine br_nd (by omega) ?_ | refine setB_app0 ?_ | rw [getB_app0]); conv => whnf)
    try rw [e3]
    rw [wrap_u (n := a + x / 4294967296) (by omega) (by omega), wrap_u (n := b + x % 4294967296) (by omega) (by omega)]
    refine ⟨rfl, [], ?_⟩
    rw [List.append_nil, hiP, loP, hiN, loN, if_neg hn, if_neg hn, if_neg hn, if_neg hn, Int.add_zero, Int.add_zero]
    rfl
set_option maxHeartbeats 0 in
theorem bigval_ok {M : List Blk} {a b c d : Int} (h : 0 ≤ a ∧ 0 ≤ b ∧ 0 ≤ c ∧ 0 ≤ d ∧ a < 4611686018427387904 ∧ b < 4611686018427387904 ∧ c < 4611686018427387904 ∧ d < 4611686018427387904) (v : V) (hv : v = if in64 (a * 4294967296 + b - (c * 4294967296 + d)) then .tup [.int .i64 (a * 4294967296 + b - (c * 4294967296 + d)), Bo true] else .tup [.int .i64 0, Bo false]) :
    COk Tryz.prog 3 107 [.ptr M.length 0] (M ++ [bigB a b c d]) v (M ++ [bigB a b c d]) := by
  obtain ⟨A, hA⟩ : ∃ A, a + b / 4294967296 = A := ⟨_, rfl⟩
  obtain ⟨C, hC⟩ : ∃ C, c + d / 4294967296 = C := ⟨_, rfl⟩
  obtain ⟨B', hB⟩ : ∃ B', b % 4294967296 = B' := ⟨_, rfl⟩
  obtain ⟨D, hD⟩ : ∃ D, d % 4294967296 = D := ⟨_, rfl⟩
  have eA : IntKind.u64.wrap (a + IntKind.u64.wrap (b.tdiv 4294967296)) = A := by rw [Int.tdiv_eq_ediv_of_nonneg (by omega), wrap_u (n := b / 4294967296) (by omega) (by omega), wrap_u (by omega) (by omega), hA]
  have eC : IntKind.u64.wrap (c + IntKind.u64.wrap (d.tdiv 4294967296)) = C := by rw [Int.tdiv_eq_ediv_of_nonneg (by omega), wrap_u (n := d / 4294967296) (by omega) (by omega), wrap_u (by omega) (by omega), hC]
  have eB : b.tmod 4294967296 = B' := by rw [Int.tmod_eq_emod_of_nonneg (by omega), hB]
  have eD : d.tmod 4294967296 = D := by rw [Int.tmod_eq_emod_of_nonneg (by omega), hD]
  have hs : a * 4294967296 + b - (c * 4294967296 + d) = A * 4294967296 + B' - (C * 4294967296 + D) := by omega
  rw [hs] at hv
  have bB : 0 ≤ B' ∧ B' < 4294967296 := by omega
  have bD : 0 ≤ D ∧ D < 4294967296 := by omega
  have bA : 0 ≤ A ∧ A < 9223372036854775808 := by omega
  have bC : 0 ≤ C ∧ C < 9223372036854775808 := by omega
  clear hs hA hB hC hD
  have hres : v.sc (M ++ [bigB a b c d]).length = true := by subst hv; split <;> rfl
  refine COk_quiet Tryz.f107 Tryz.func107 (by kernel_rfl) hres ?_
  by_cases k0 : A < C
  · have q0 : decide (A < C) = true := decide_eq_true k0
    (conv => whnf); repeat ((first | rw [eA] | rw [eB] | rw [eC] | rw [eD] | rw [q0] | rw [getB_app0]); conv => whnf)
    by_cases k2 : D < B'
    · by_cases k3 : 2147483648 ≤ C - 1 - A
      · by_cases k4 : C - 1 - A = 2147483648
        · have q4 : (C - 1 - A == 2147483648) = true := by simp [k4]
          by_cases k5 : D + 4294967296 - B' = 0
          · omega
          · have q5 : (D + 4294967296 - B' == 0) = false := by simp [k5]
            try (exfalso; omega)
            all_goals
              (conv => whnf); repeat ((first | simp (disch := omega) only [wrap_u] | rw [q4] | rw [q5] | refine br_d (by omega) ?_); conv => whnf)
              refine ⟨?_, [], by simp⟩
              rw [hv, if_neg (by omega)]
        · have q4 : (C - 1 - A == 2147483648) = false := by simp [k4]
          try (exfalso; omega)
          all_goals
            (conv => whnf); repeat ((first | simp (disch := omega) only [wrap_u] | rw [q4] | refine br_d (by omega) ?_); conv => whnf)
            refine ⟨?_, [], by simp⟩
            rw [hv, if_neg (by omega)]
      · try (exfalso; omega)
        all_goals
          (conv => whnf); repeat ((first | simp (disch := omega) only [wrap_u] | refine br_d (by omega) ?_ | refine br_nd (by omega) ?_); conv => whnf)
          refine ⟨?_, [], by simp⟩
          rw [hv, if_pos (by omega)]
          refine congrArg (fun z => V.tup [V.int .i64 z, Bo true]) ?_
          try simp (disch := omega) only [wrap_u, wrap_id]
          omega
    · by_cases k3 : 2147483648 ≤ C - A
      · by_cases k4 : C - A = 2147483648
        · have q4 : (C - A == 2147483648) = true := by simp [k4]
          by_cases k5 : D - B' = 0
          · have q5 : (D - B' == 0) = true := by simp [k5]
            try (exfalso; omega)
            all_goals
              (conv => whnf); repeat ((first | simp (disch := omega) only [wrap_u] | rw [q4] | rw [q5] | refine br_d (by omega) ?_ | refine br_nd (by omega) ?_); conv => whnf)
              refine ⟨?_, [], by simp⟩
              first
              | (rw [hv, if_neg (by omega)]; done)
              | (rw [hv, if_pos (by omega)]; exact congrArg (fun z => V.tup [V.int .i64 z, Bo true]) (by omega))
          · have q5 : (D - B' == 0) = false := by simp [k5]
            try (exfalso; omega)
            all_goals
              (conv => whnf); repeat ((first | simp (disch := omega) only [wrap_u] | rw [q4] | rw [q5] | refine br_d (by omega) ?_ | refine br_nd (by omega) ?_); conv => whnf)
              refine ⟨?_, [], by simp⟩
              rw [hv, if_neg (by omega)]
        · have q4 : (C - A == 2147483648) = false := by simp [k4]
          try (exfalso; omega)
          all_goals
            (conv => whnf); repeat ((first | simp (disch := omega) only [wrap_u] | rw [q4] | refine br_d (by omega) ?_ | refine br_nd (by omega) ?_); conv => whnf)
            refine ⟨?_, [], by simp⟩
            rw [hv, if_neg (by omega)]
      · try (exfalso; omega)
        all_goals
          (conv => whnf); repeat ((first | simp (disch := omega) only [wrap_u] | refine br_nd (by omega) ?_); conv => whnf)
          refine ⟨?_, [], by simp⟩
          rw [hv, if_pos (by omega)]
          refine congrArg (fun z => V.tup [V.int .i64 z, Bo true]) ?_
          try simp (disch := omega) only [wrap_u, wrap_id]
          omega
  · have q0 : decide (A < C) = false := decide_eq_false k0
    by_cases k1 : A = C
    · have q1 : (A == C) = true := by simp [k1]
      by_cases kk : B' < D
      · have q2 : decide (B' < D) = true := decide_eq_true kk
        (conv => whnf); repeat ((first | rw [eA] | rw [eB] | rw [eC] | rw [eD] | rw [q0] | rw [q1] | rw [q2] | refine br_nd (by omega) ?_ | rw [getB_app0]); conv => whnf)
        by_cases k2 : D < B'
        · by_cases k3 : 2147483648 ≤ C - 1 - A
          · by_cases k4 : C - 1 - A = 2147483648
            · have q4 : (C - 1 - A == 2147483648) = true := by simp [k4]
              by_cases k5 : D + 4294967296 - B' = 0
              · omega
              · have q5 : (D + 4294967296 - B' == 0) = false := by simp [k5]
                try (exfalso; omega)
                all_goals
                  (conv => whnf)
                  refine ⟨?_, [], by simp⟩
                  rw [hv, if_neg (by omega)]
            · have q4 : (C - 1 - A == 2147483648) = false := by simp [k4]
              try (exfalso; omega)
              all_goals
                (conv => whnf)
                refine ⟨?_, [], by simp⟩
                rw [hv, if_neg (by omega)]
          · try (exfalso; omega)
            all_goals
              (conv => whnf)
              refine ⟨?_, [], by simp⟩
              rw [hv, if_pos (by omega)]
              refine congrArg (fun z => V.tup [V.int .i64 z, Bo true]) ?_
              try simp (disch := omega) only [wrap_u, wrap_id]
              omega
        · by_cases k3 : 2147483648 ≤ C - A
          · by_cases k4 : C - A = 2147483648
            · have q4 : (C - A == 2147483648) = true := by simp [k4]
              by_cases k5 : D - B' = 0
              · have q5 : (D - B' == 0) = true := by simp [k5]
                try (exfalso; omega)
                all_goals
                  (conv => whnf)
                  refine ⟨?_, [], by simp⟩
                  first
                  | (rw [hv, if_neg (by omega)]; done)
                  | (rw [hv, if_pos (by omega)]; exact congrArg (fun z => V.tup [V.int .i64 z, Bo true]) (by omega))
              · have q5 : (D - B' == 0) = false := by simp [k5]
                try (exfalso; omega)
                all_goals
                  (conv => whnf)
                  refine ⟨?_, [], by simp⟩
                  rw [hv, if_neg (by omega)]
            · have q4 : (C - A == 2147483648) = false := by simp [k4]
              try (exfalso; omega)
              all_goals
                (conv => whnf)
                refine ⟨?_, [], by simp⟩
                rw [hv, if_neg (by omega)]
          · try (exfalso; omega)
            all_goals
              (conv => whnf); repeat ((first | simp (disch := omega) only [wrap_u] | refine br_nd (by omega) ?_); conv => whnf)
              refine ⟨?_, [], by simp⟩
              rw [hv, if_pos (by omega)]
              refine congrArg (fun z => V.tup [V.int .i64 z, Bo true]) ?_
              try simp (disch := omega) only [wrap_u, wrap_id]
              omega
      · have q2 : decide (B' < D) = false := decide_eq_false kk
        (conv => whnf); repeat ((first | rw [eA] | rw [eB] | rw [eC] | rw [eD] | rw [q0] | rw [q1] | rw [q2] | rw [getB_app0]); conv => whnf)
        by_cases k2 : B' < D
        · by_cases k3 : 2147483648 ≤ A - 1 - C
          · by_cases k4 : A - 1 - C = 2147483648
            · have q4 : (A - 1 - C == 2147483648) = true := by simp [k4]
              by_cases k5 : B' + 4294967296 - D = 0
              · omega
              · have q5 : (B' + 4294967296 - D == 0) = false := by simp [k5]
                try (exfalso; omega)
                all_goals
                  (conv => whnf)
                  refine ⟨?_, [], by simp⟩
                  rw [hv, if_neg (by omega)]
            · have q4 : (A - 1 - C == 2147483648) = false := by simp [k4]
              try (exfalso; omega)
              all_goals
                (conv => whnf)
                refine ⟨?_, [], by simp⟩
                rw [hv, if_neg (by omega)]
          · try (exfalso; omega)
            all_goals
              (conv => whnf)
              refine ⟨?_, [], by simp⟩
              rw [hv, if_pos (by omega)]
              refine congrArg (fun z => V.tup [V.int .i64 z, Bo true]) ?_
              try simp (disch := omega) only [wrap_u, wrap_id]
              omega
        · by_cases k3 : 2147483648 ≤ A - C
          · by_cases k4 : A - C = 2147483648
            · have q4 : (A - C == 2147483648) = true := by simp [k4]
              by_cases k5 : B' - D = 0
              · have q5 : (B' - D == 0) = true := by simp [k5]
                try (exfalso; omega)
                all_goals
                  (conv => whnf)
                  refine ⟨?_, [], by simp⟩
                  first
                  | (rw [hv, if_neg (by omega)]; done)
                  | (rw [hv, if_pos (by omega)]; exact congrArg (fun z => V.tup [V.int .i64 z, Bo true]) (by omega))
              · have q5 : (B' - D == 0) = false := by simp [k5]
                try (exfalso; omega)
                all_goals
                  (conv => whnf)
                  refine ⟨?_, [], by simp⟩
                  rw [hv, if_neg (by omega)]
            · have q4 : (A - C == 2147483648) = false := by simp [k4]
              try (exfalso; omega)
              all_goals
                (conv => whnf)
                refine ⟨?_, [], by simp⟩
                rw [hv, if_neg (by omega)]
          · try (exfalso; omega)
            all_goals
              (conv => whnf); repeat ((first | simp (disch := omega) only [wrap_u] | refine br_nd (by omega) ?_); conv => whnf)
              refine ⟨?_, [], by simp⟩
              rw [hv, if_pos (by omega)]
              refine congrArg (fun z => V.tup [V.int .i64 z, Bo true]) ?_
              try simp (disch := omega) only [wrap_u, wrap_id]
              omega
    · have q1 : (A == C) = false := by simp [k1]
      (conv => whnf); repeat ((first | rw [eA] | rw [eB] | rw [eC] | rw [eD] | rw [q0] | rw [q1] | rw [getB_app0]); conv => whnf)
      by_cases k2 : B' < D
      · by_cases k3 : 2147483648 ≤ A - 1 - C
        · by_cases k4 : A - 1 - C = 2147483648
          · have q4 : (A - 1 - C == 2147483648) = true := by simp [k4]
            by_cases k5 : B' + 4294967296 - D = 0
            · omega
            · have q5 : (B' + 4294967296 - D == 0) = false := by simp [k5]
              try (exfalso; omega)
              all_goals
                (conv => whnf); repeat ((first | simp (disch := omega) only [wrap_u] | refine br_d (by omega) ?_); conv => whnf)
                refine ⟨?_, [], by simp⟩
                rw [hv, if_neg (by omega)]
          · have q4 : (A - 1 - C == 2147483648) = false := by simp [k4]
            try (exfalso; omega)
            all_goals
              (conv => whnf); repeat ((first | simp (disch := omega) only [wrap_u] | refine br_d (by omega) ?_); conv => whnf)
              refine ⟨?_, [], by simp⟩
              rw [hv, if_neg (by omega)]
        · try (exfalso; omega)
          all_goals
            (conv => whnf); repeat ((first | simp (disch := omega) only [wrap_u] | refine br_d (by omega) ?_ | refine br_nd (by omega) ?_); conv => whnf)
            refine ⟨?_, [], by simp⟩
            rw [hv, if_pos (by omega)]
            refine congrArg (fun z => V.tup [V.int .i64 z, Bo true]) ?_
            try simp (disch := omega) only [wrap_u, wrap_id]
            omega
      · by_cases k3 : 2147483648 ≤ A - C
        · by_cases k4 : A - C = 2147483648
          · have q4 : (A - C == 2147483648) = true := by simp [k4]
            by_cases k5 : B' - D = 0
            · have q5 : (B' - D == 0) = true := by simp [k5]
              try (exfalso; omega)
              all_goals
                (conv => whnf); repeat ((first | simp (disch := omega) only [wrap_u] | refine br_d (by omega) ?_ | refine br_nd (by omega) ?_); conv => whnf)
                refine ⟨?_, [], by simp⟩
                first
                | (rw [hv, if_neg (by omega)]; done)
                | (rw [hv, if_pos (by omega)]; exact congrArg (fun z => V.tup [V.int .i64 z, Bo true]) (by omega))
            · have q5 : (B' - D == 0) = false := by simp [k5]
              try (exfalso; omega)
              all_goals
                (conv => whnf); repeat ((first | simp (disch := omega) only [wrap_u] | refine br_d (by omega) ?_ | refine br_nd (by omega) ?_); conv => whnf)
                refine ⟨?_, [], by simp⟩
                rw [hv, if_neg (by omega)]
          · have q4 : (A - C == 2147483648) = false := by simp [k4]
            try (exfalso; omega)
            all_goals
              (conv => whnf); repeat ((first | simp (disch := omega) only [wrap_u] | refine br_d (by omega) ?_ | refine br_nd (by omega) ?_); conv => whnf)
              refine ⟨?_, [], by simp⟩
              rw [hv, if_neg (by omega)]
        · try (exfalso; omega)
          all_goals
            (conv => whnf); repeat ((first | simp (disch := omega) only [wrap_u] | refine br_nd (by omega) ?_); conv => whnf)
            refine ⟨?_, [], by simp⟩
            rw [hv, if_pos (by omega)]
            refine congrArg (fun z => V.tup [V.int .i64 z, Bo true]) ?_
            try simp (disch := omega) only [wrap_u, wrap_id]
            omega
theorem parts_bd (x : Int) (h : in64 x) : (0 ≤ hiP x ∧ hiP x ≤ 4294967296) ∧ (0 ≤ loP x ∧ loP x ≤ 4294967296) ∧ (0 ≤ hiN x ∧ hiN x ≤ 4294967296) ∧ (0 ≤ loN x ∧ loN x ≤ 4294967296) := by
  unfold hiP loP hiN loN
  refine ⟨?_, ?_, ?_, ?_⟩ <;> split <;> omega
theorem parts_sum (x : Int) : hiP x * 4294967296 + loP x - (hiN x * 4294967296 + loN x) = x := by
  unfold hiP loP hiN loN
  split <;> omega
end Go.Proofs.YthoofdnnfahhaaaGreatDoor
