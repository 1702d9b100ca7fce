/- A sea is checked: the program and the reference. No condition. -/
import Derived.Test.YtgoljofmbidkfaaGreatDoorSw
import Derived.Test.YtgoljofmbidkfaaGreatDoorR6
namespace Go.Proofs.YtgoljofmbidkfaaGreatDoor
open Go Go.Eng
set_option maxRecDepth 100000
set_option linter.unusedSimpArgs false
set_option linter.unusedVariables false

section
variable {M : List Blk} (hsc : scM M.length M = true) (hng : 3 ≤ M.length) {j0 j1 j2 j3 : Nat} {Be : List Nat} {Wt Tr : List Int} {Sp : List Nat} (R : SeaR M j0 j1 j2 j3 Be Wt Tr Sp) (x sky step : Int)
include hsc hng R
set_option maxHeartbeats 0 in
theorem Check_ok : COk Tryz.prog 3 26 [I x, seaV j0 j1 j2 j3 Be.length Wt.length Tr.length Sp.length sky step] M (.tup [I (chkF x Be Wt Tr Sp sky step).1, I (chkF x Be Wt Tr Sp sky step).2]) M := by
  have l0 := R.s0.lt
  have l1 := R.s1.lt
  have l2 := R.s2.lt
  have l3 := R.s3.lt
  have w0 := R.s0.short
  have w1 := R.s1.short
  have w2 := R.s2.short
  have w3 := R.s3.short
  by_cases hs : 1 ≤ x ∧ x ≤ 32
  · obtain ⟨n, rfl⟩ : ∃ n : Nat, x = n := ⟨x.toNat, by omega⟩
    have n1 : 1 ≤ n := by omega
    have n2 : n ≤ 32 := by omega
    have hc := cellsI_n n1 n2
    have hsq : n * n ≤ 1024 := Nat.mul_le_mul n2 n2
    have hsq1 : 1 ≤ n * n := Nat.mul_le_mul n1 n1
    have hce := fun m => cells_ok n m
    rw [hc] at hce
    have hsix : IntKind.i64.wrap (IntKind.i64.wrap (6 * (n : Int)) * n) = ((6 * (n * n) : Nat) : Int) := by
      have q1 := sq_bound (n := (n : Int)) (by omega) (by omega)
      rw [wrap_id (n := 6 * (n : Int)) (by omega) (by omega), Int.mul_assoc, wrap_id (by omega) (by omega)]
      push_cast
      rfl
    have hu : Up M (M ++ ([⟨true, .cells [.sl j0 0 Be.length, .sl j1 0 Wt.length, .sl j2 0 Tr.length, .sl j3 0 Sp.length, .int .i64 sky, I step]⟩] : List Blk)) := Up.of hsc (by simp [scM, B.sc, scL, V.sc]; omega)
    have hsc2 := hu.sc
    have hng2 : 3 ≤ (M ++ ([⟨true, .cells [.sl j0 0 Be.length, .sl j1 0 Wt.length, .sl j2 0 Tr.length, .sl j3 0 Sp.length, .int .i64 sky, I step]⟩] : List Blk)).length := by simp; omega
    have hub : ∀ a b c d : Int, Up M (M ++ ([⟨true, .cells [.sl j0 0 Be.length, .sl j1 0 Wt.length, .sl j2 0 Tr.length, .sl j3 0 Sp.length, .int .i64 sky, I step]⟩, ⟨true, .cells [I a, I b, I c, I d]⟩] : List Blk)) := fun a b c d => Up.of hsc (by simp [scM, B.sc, scL, V.sc]; omega)
    have hng3 : ∀ a b c d : Int, 3 ≤ (M ++ ([⟨true, .cells [.sl j0 0 Be.length, .sl j1 0 Wt.length, .sl j2 0 Tr.length, .sl j3 0 Sp.length, .int .i64 sky, I step]⟩, ⟨true, .cells [I a, I b, I c, I d]⟩] : List Blk)).length := fun a b c d => by simp; omega
    have f0 := floats_ok hsc2 hng2 (R.s0.up hu) rfl mxH
    have f3 := floats_ok hsc2 hng2 (R.s3.up hu) rfl mxS
    have q2 := quanta_ok' hsc2 hng2 (R.s2.up hu) rfl (z := 0) ⟨Int.le_refl _, by decide⟩
    have q1 := fun hz => quanta_ok' hsc2 hng2 (R.s1.up hu) rfl (z := sky) hz
    have g0 := fun a b c d => floats_ok (hub a b c d).sc (hng3 a b c d) (R.s0.up (hub a b c d)) rfl mxH
    have g3 := fun a b c d => floats_ok (hub a b c d).sc (hng3 a b c d) (R.s3.up (hub a b c d)) rfl mxS
    have g2 := fun a b c d => quanta_ok' (hub a b c d).sc (hng3 a b c d) (R.s2.up (hub a b c d)) rfl (z := 0) ⟨Int.le_refl _, by decide⟩
    have g1 := fun hz a b c d => quanta_ok' (hub a b c d).sc (hng3 a b c d) (R.s1.up (hub a b c d)) rfl (z := sky) hz
    have hq : IntKind.i64.wrap ((Sp.length : Int).tdiv 2) = ((Sp.length / 2 : Nat) : Int) := by
      rw [Int.tdiv_eq_ediv_of_nonneg (by omega), wrap_id (by omega) (by omega)]; omega
    have hm : IntKind.i64.wrap (2 * ((6 * (n * n) : Nat) : Int)) = ((2 * (6 * (n * n)) : Nat) : Int) := by rw [wrap_id (by omega) (by omega)]; push_cast; rfl
    have hd : IntKind.i64.wrap ((Sp.length : Int) - ((6 * (n * n) : Nat) : Int)) = (Sp.length : Int) - ((6 * (n * n) : Nat) : Int) := wrap_id (by omega) (by omega)
    skip
    by_cases h0 : Be.length = 6 * (n * n)
    · by_cases h1 : Wt.length = 6 * (n * n)
      · by_cases h2 : Tr.length = 6 * (n * n)
        · by_cases h3 : Sp.length = 2 * (6 * (n * n))
          · by_cases h4 : 0 ≤ flI Be mxH
            · have e : chkF n Be Wt Tr Sp sky step = (flI Be mxH, 13) := by
                unfold chkF mxW mxT
                rw [if_neg (by omega), if_neg (by omega), if_neg (by omega), if_neg (by omega), if_neg (by omega), if_pos h4]
              rw [e]
              refine COk_quiet Tryz.f26 Tryz.func26 (by kernel_rfl) rfl ?_
              (conv => whnf); repeat ((first | refine ⟨_, _, hce _, ?_⟩ | refine ⟨_, _, f0, ?_⟩ | refine br_no (bo_eqn (by rw [hq]; omega)) ?_ | refine br_no (bo_eqn (by rw [hm]; omega)) ?_ | refine lr ?_ | refine br_d (by omega) ?_ | refine br_nd (by omega) ?_ | refine br_no (bo_eqn (by omega)) ?_ | rw [getB_app0] | refine addB_f0 ?_); conv => whnf)
              exact ⟨rfl, _, rfl⟩
            by_cases h5 : sky < 0
            · have e : chkF n Be Wt Tr Sp sky step = (0, 17) := by
                unfold chkF mxW mxT
                rw [if_neg (by omega), if_neg (by omega), if_neg (by omega), if_neg (by omega), if_neg (by omega), if_neg h4, if_pos (by omega)]
              rw [e]
              refine COk_quiet Tryz.f26 Tryz.func26 (by kernel_rfl) rfl ?_
              (conv => whnf); repeat ((first | refine ⟨_, _, hce _, ?_⟩ | refine ⟨_, _, f0, ?_⟩ | refine br_no (bo_eqn (by rw [hq]; omega)) ?_ | refine br_no (bo_eqn (by rw [hm]; omega)) ?_ | refine lr ?_ | refine br_d (by omega) ?_ | refine br_nd (by omega) ?_ | refine br_no (bo_eqn (by omega)) ?_ | rw [getB_app0] | refine addB_f0 ?_); conv => whnf)
              exact ⟨rfl, _, rfl⟩
            by_cases h6 : sky > 4503599627370496
            · have e : chkF n Be Wt Tr Sp sky step = (0, 17) := by
                unfold chkF mxW mxT
                rw [if_neg (by omega), if_neg (by omega), if_neg (by omega), if_neg (by omega), if_neg (by omega), if_neg h4, if_pos (by omega)]
              rw [e]
              refine COk_quiet Tryz.f26 Tryz.func26 (by kernel_rfl) rfl ?_
              (conv => whnf); repeat ((first | refine ⟨_, _, hce _, ?_⟩ | refine ⟨_, _, f0, ?_⟩ | refine br_no (bo_eqn (by rw [hq]; omega)) ?_ | refine br_no (bo_eqn (by rw [hm]; omega)) ?_ | refine lr ?_ | refine br_d (by omega) ?_ | refine br_nd (by omega) ?_ | refine br_no (bo_eqn (by omega)) ?_ | rw [getB_app0] | refine addB_f0 ?_); conv => whnf)
              exact ⟨rfl, _, rfl⟩
            have q1 := q1 ⟨by omega, by unfold mxW; omega⟩
            have g1 := g1 ⟨by omega, by unfold mxW; omega⟩
            by_cases h7 : 0 ≤ quI Wt sky
            · have e : chkF n Be Wt Tr Sp sky step = (quI Wt sky, 14) := by
                unfold chkF mxW mxT
                rw [if_neg (by omega), if_neg (by omega), if_neg (by omega), if_neg (by omega), if_neg (by omega), if_neg h4, if_neg (by omega), if_pos h7]
              rw [e]
              refine COk_quiet Tryz.f26 Tryz.func26 (by kernel_rfl) rfl ?_
              (conv => whnf); repeat ((first | refine ⟨_, _, hce _, ?_⟩ | refine ⟨_, _, f0, ?_⟩ | refine ⟨_, _, q1, ?_⟩ | refine br_no (bo_eqn (by rw [hq]; omega)) ?_ | refine br_no (bo_eqn (by rw [hm]; omega)) ?_ | refine lr ?_ | refine br_d (by omega) ?_ | refine br_nd (by omega) ?_ | refine br_no (bo_eqn (by omega)) ?_ | rw [getB_app0] | refine addB_f0 ?_); conv => whnf)
              exact ⟨rfl, _, rfl⟩
            by_cases h8 : 0 ≤ quI Tr 0
            · have e : chkF n Be Wt Tr Sp sky step = (quI Tr 0, 15) := by
                unfold chkF mxW mxT
                rw [if_neg (by omega), if_neg (by omega), if_neg (by omega), if_neg (by omega), if_neg (by omega), if_neg h4, if_neg (by omega), if_neg h7, if_pos h8]
              rw [e]
              refine COk_quiet Tryz.f26 Tryz.func26 (by kernel_rfl) rfl ?_
              (conv => whnf); repeat ((first | refine ⟨_, _, hce _, ?_⟩ | refine ⟨_, _, f0, ?_⟩ | refine ⟨_, _, q1, ?_⟩ | refine ⟨_, _, q2, ?_⟩ | refine br_no (bo_eqn (by rw [hq]; omega)) ?_ | refine br_no (bo_eqn (by rw [hm]; omega)) ?_ | refine lr ?_ | refine br_d (by omega) ?_ | refine br_nd (by omega) ?_ | refine br_no (bo_eqn (by omega)) ?_ | rw [getB_app0] | refine addB_f0 ?_); conv => whnf)
              exact ⟨rfl, _, rfl⟩
            by_cases h9 : 0 ≤ flI Sp mxS
            · have e : chkF n Be Wt Tr Sp sky step = (flI Sp mxS, 16) := by
                unfold chkF mxW mxT
                rw [if_neg (by omega), if_neg (by omega), if_neg (by omega), if_neg (by omega), if_neg (by omega), if_neg h4, if_neg (by omega), if_neg h7, if_neg h8, if_pos h9]
              rw [e]
              refine COk_quiet Tryz.f26 Tryz.func26 (by kernel_rfl) rfl ?_
              (conv => whnf); repeat ((first | refine ⟨_, _, hce _, ?_⟩ | refine ⟨_, _, f0, ?_⟩ | refine ⟨_, _, q1, ?_⟩ | refine ⟨_, _, q2, ?_⟩ | refine ⟨_, _, f3, ?_⟩ | refine br_no (bo_eqn (by rw [hq]; omega)) ?_ | refine br_no (bo_eqn (by rw [hm]; omega)) ?_ | refine lr ?_ | refine br_d (by omega) ?_ | refine br_nd (by omega) ?_ | refine br_no (bo_eqn (by omega)) ?_ | rw [getB_app0] | refine addB_f0 ?_); conv => whnf)
              exact ⟨rfl, _, rfl⟩
            by_cases ha : step < 0
            · have e : chkF n Be Wt Tr Sp sky step = (0, 1) := by
                unfold chkF mxW mxT
                rw [if_neg (by omega), if_neg (by omega), if_neg (by omega), if_neg (by omega), if_neg (by omega), if_neg h4, if_neg (by omega), if_neg h7, if_neg h8, if_neg h9, if_pos (by omega)]
              rw [e]
              refine COk_quiet Tryz.f26 Tryz.func26 (by kernel_rfl) rfl ?_
              (conv => whnf); repeat ((first | refine ⟨_, _, hce _, ?_⟩ | refine ⟨_, _, f0, ?_⟩ | refine ⟨_, _, q1, ?_⟩ | refine ⟨_, _, q2, ?_⟩ | refine ⟨_, _, f3, ?_⟩ | refine br_no (bo_eqn (by rw [hq]; omega)) ?_ | refine br_no (bo_eqn (by rw [hm]; omega)) ?_ | refine lr ?_ | refine br_d (by omega) ?_ | refine br_nd (by omega) ?_ | refine br_no (bo_eqn (by omega)) ?_ | rw [getB_app0] | refine addB_f0 ?_); conv => whnf)
              exact ⟨rfl, _, rfl⟩
            by_cases hb : step > 4611686018427387904
            · have e : chkF n Be Wt Tr Sp sky step = (0, 1) := by
                unfold chkF mxW mxT
                rw [if_neg (by omega), if_neg (by omega), if_neg (by omega), if_neg (by omega), if_neg (by omega), if_neg h4, if_neg (by omega), if_neg h7, if_neg h8, if_neg h9, if_pos (by omega)]
              rw [e]
              refine COk_quiet Tryz.f26 Tryz.func26 (by kernel_rfl) rfl ?_
              (conv => whnf); repeat ((first | refine ⟨_, _, hce _, ?_⟩ | refine ⟨_, _, f0, ?_⟩ | refine ⟨_, _, q1, ?_⟩ | refine ⟨_, _, q2, ?_⟩ | refine ⟨_, _, f3, ?_⟩ | refine br_no (bo_eqn (by rw [hq]; omega)) ?_ | refine br_no (bo_eqn (by rw [hm]; omega)) ?_ | refine lr ?_ | refine br_d (by omega) ?_ | refine br_nd (by omega) ?_ | refine br_no (bo_eqn (by omega)) ?_ | rw [getB_app0] | refine addB_f0 ?_); conv => whnf)
              exact ⟨rfl, _, rfl⟩
            · have e : chkF n Be Wt Tr Sp sky step = (0, 0) := by
                unfold chkF mxW mxT
                rw [if_neg (by omega), if_neg (by omega), if_neg (by omega), if_neg (by omega), if_neg (by omega), if_neg h4, if_neg (by omega), if_neg h7, if_neg h8, if_neg h9, if_neg (by omega)]
              rw [e]
              refine COk_quiet Tryz.f26 Tryz.func26 (by kernel_rfl) rfl ?_
              (conv => whnf); repeat ((first | refine ⟨_, _, hce _, ?_⟩ | refine ⟨_, _, f0, ?_⟩ | refine ⟨_, _, q1, ?_⟩ | refine ⟨_, _, q2, ?_⟩ | refine ⟨_, _, f3, ?_⟩ | refine br_no (bo_eqn (by rw [hq]; omega)) ?_ | refine br_no (bo_eqn (by rw [hm]; omega)) ?_ | refine lr ?_ | refine br_nd (by omega) ?_ | refine br_no (bo_eqn (by omega)) ?_ | rw [getB_app0] | refine addB_f0 ?_); conv => whnf)
              exact ⟨rfl, _, rfl⟩
          · by_cases h3' : Sp.length / 2 = 6 * (n * n)
            · have e : chkF n Be Wt Tr Sp sky step = (3, 12) := by
                unfold chkF mxW mxT
                rw [if_neg (by omega), if_neg (by omega), if_neg (by omega), if_neg (by omega), if_pos (by omega)]
              rw [e]
              refine COk_quiet Tryz.f26 Tryz.func26 (by kernel_rfl) rfl ?_
              (conv => whnf); repeat ((first | refine ⟨_, _, hce _, ?_⟩ | refine br_no (bo_eqn (by rw [hq]; omega)) ?_ | refine br_yes (bne_iff_ne.2 (by rw [hm]; omega)) ?_ | refine lr ?_ | refine br_nd (by omega) ?_ | refine br_no (bo_eqn (by omega)) ?_ | rw [getB_app0] | refine addB_f0 ?_); conv => whnf)
              exact ⟨rfl, _, rfl⟩
            · have e : chkF n Be Wt Tr Sp sky step = (3, 12) := by
                unfold chkF mxW mxT
                rw [if_neg (by omega), if_neg (by omega), if_neg (by omega), if_neg (by omega), if_pos (by omega)]
              rw [e]
              refine COk_quiet Tryz.f26 Tryz.func26 (by kernel_rfl) rfl ?_
              (conv => whnf); repeat ((first | refine ⟨_, _, hce _, ?_⟩ | refine br_yes (bne_iff_ne.2 (by rw [hq]; omega)) ?_ | refine lr ?_ | refine br_nd (by omega) ?_ | refine br_no (bo_eqn (by omega)) ?_ | rw [getB_app0] | refine addB_f0 ?_); conv => whnf)
              exact ⟨rfl, _, rfl⟩
        · have e : chkF n Be Wt Tr Sp sky step = (2, 12) := by
            unfold chkF mxW mxT
            rw [if_neg (by omega), if_neg (by omega), if_neg (by omega), if_pos (by omega)]
          rw [e]
          refine COk_quiet Tryz.f26 Tryz.func26 (by kernel_rfl) rfl ?_
          (conv => whnf); repeat ((first | refine ⟨_, _, hce _, ?_⟩ | refine br_yes (bne_iff_ne.2 (by omega)) ?_ | refine lr ?_ | refine br_nd (by omega) ?_ | refine br_no (bo_eqn (by omega)) ?_ | rw [getB_app0] | refine addB_f0 ?_); conv => whnf)
          exact ⟨rfl, _, rfl⟩
      · have e : chkF n Be Wt Tr Sp sky step = (1, 12) := by
          unfold chkF mxW mxT
          rw [if_neg (by omega), if_neg (by omega), if_pos (by omega)]
        rw [e]
        refine COk_quiet Tryz.f26 Tryz.func26 (by kernel_rfl) rfl ?_
        (conv => whnf); repeat ((first | refine ⟨_, _, hce _, ?_⟩ | refine br_yes (bne_iff_ne.2 (by omega)) ?_ | refine lr ?_ | refine br_nd (by omega) ?_ | refine br_no (bo_eqn (by omega)) ?_ | rw [getB_app0] | refine addB_f0 ?_); conv => whnf)
        exact ⟨rfl, _, rfl⟩
    · have e : chkF n Be Wt Tr Sp sky step = (0, 12) := by
        unfold chkF mxW mxT
        rw [if_neg (by omega), if_pos (by omega)]
      rw [e]
      refine COk_quiet Tryz.f26 Tryz.func26 (by kernel_rfl) rfl ?_
      (conv => whnf); repeat ((first | refine ⟨_, _, hce _, ?_⟩ | refine br_yes (bne_iff_ne.2 (by omega)) ?_ | refine lr ?_ | refine br_nd (by omega) ?_ | rw [getB_app0] | refine addB_f0 ?_); conv => whnf)
      exact ⟨rfl, _, rfl⟩
  · have e : chkF x Be Wt Tr Sp sky step = (0, 10) := by
      unfold chkF
      rw [if_pos hs]
    rw [e]
    have hce := fun m => cells_ok x m
    rw [show cellsI x = 0 from if_neg hs] at hce
    rcases (show x < 1 ∨ x > 32 by omega) with hx | hx
    · refine COk_quiet Tryz.f26 Tryz.func26 (by kernel_rfl) rfl ?_
      (conv => whnf); repeat ((first | refine ⟨_, _, hce _, ?_⟩ | refine addB_f0 ?_); conv => whnf)
      exact ⟨rfl, _, rfl⟩
    · refine COk_quiet Tryz.f26 Tryz.func26 (by kernel_rfl) rfl ?_
      (conv => whnf); repeat ((first | refine ⟨_, _, hce _, ?_⟩ | refine addB_f0 ?_); conv => whnf)
      exact ⟨rfl, _, rfl⟩
set_option maxHeartbeats 0 in
theorem rCheck_ok : COk Tryz.prog 3 27 [I x, seaV j0 j1 j2 j3 Be.length Wt.length Tr.length Sp.length sky step] M (.tup [I (chkF x Be Wt Tr Sp sky step).1, I (chkF x Be Wt Tr Sp sky step).2]) M := by
  have l0 := R.s0.lt
  have l1 := R.s1.lt
  have l2 := R.s2.lt
  have l3 := R.s3.lt
  have w0 := R.s0.short
  have w1 := R.s1.short
  have w2 := R.s2.short
  have w3 := R.s3.short
  by_cases hs : 1 ≤ x ∧ x ≤ 32
  · obtain ⟨n, rfl⟩ : ∃ n : Nat, x = n := ⟨x.toNat, by omega⟩
    have n1 : 1 ≤ n := by omega
    have n2 : n ≤ 32 := by omega
    have hc := cellsI_n n1 n2
    have hsq : n * n ≤ 1024 := Nat.mul_le_mul n2 n2
    have hsq1 : 1 ≤ n * n := Nat.mul_le_mul n1 n1
    have hce := fun m => cells_ok n m
    rw [hc] at hce
    have hsix : IntKind.i64.wrap (IntKind.i64.wrap (6 * (n : Int)) * n) = ((6 * (n * n) : Nat) : Int) := by
      have q1 := sq_bound (n := (n : Int)) (by omega) (by omega)
      rw [wrap_id (n := 6 * (n : Int)) (by omega) (by omega), Int.mul_assoc, wrap_id (by omega) (by omega)]
      push_cast
      rfl
    have hu : Up M (M ++ ([⟨true, .cells [.sl j0 0 Be.length, .sl j1 0 Wt.length, .sl j2 0 Tr.length, .sl j3 0 Sp.length, .int .i64 sky, I step]⟩] : List Blk)) := Up.of hsc (by simp [scM, B.sc, scL, V.sc]; omega)
    have hsc2 := hu.sc
    have hng2 : 3 ≤ (M ++ ([⟨true, .cells [.sl j0 0 Be.length, .sl j1 0 Wt.length, .sl j2 0 Tr.length, .sl j3 0 Sp.length, .int .i64 sky, I step]⟩] : List Blk)).length := by simp; omega
    have hub : ∀ a b c d : Int, Up M (M ++ ([⟨true, .cells [.sl j0 0 Be.length, .sl j1 0 Wt.length, .sl j2 0 Tr.length, .sl j3 0 Sp.length, .int .i64 sky, I step]⟩, ⟨true, .cells [I a, I b, I c, I d]⟩] : List Blk)) := fun a b c d => Up.of hsc (by simp [scM, B.sc, scL, V.sc]; omega)
    have hng3 : ∀ a b c d : Int, 3 ≤ (M ++ ([⟨true, .cells [.sl j0 0 Be.length, .sl j1 0 Wt.length, .sl j2 0 Tr.length, .sl j3 0 Sp.length, .int .i64 sky, I step]⟩, ⟨true, .cells [I a, I b, I c, I d]⟩] : List Blk)).length := fun a b c d => by simp; omega
    have f0 := rfloats_ok hsc2 hng2 (R.s0.up hu) rfl mxH
    have f3 := rfloats_ok hsc2 hng2 (R.s3.up hu) rfl mxS
    have q2 := rquanta_ok hsc2 hng2 (R.s2.up hu) rfl (z := 0) ⟨Int.le_refl _, by decide⟩
    have q1 := fun hz => rquanta_ok hsc2 hng2 (R.s1.up hu) rfl (z := sky) hz
    have g0 := fun a b c d => rfloats_ok (hub a b c d).sc (hng3 a b c d) (R.s0.up (hub a b c d)) rfl mxH
    have g3 := fun a b c d => rfloats_ok (hub a b c d).sc (hng3 a b c d) (R.s3.up (hub a b c d)) rfl mxS
    have g2 := fun a b c d => rquanta_ok (hub a b c d).sc (hng3 a b c d) (R.s2.up (hub a b c d)) rfl (z := 0) ⟨Int.le_refl _, by decide⟩
    have g1 := fun hz a b c d => rquanta_ok (hub a b c d).sc (hng3 a b c d) (R.s1.up (hub a b c d)) rfl (z := sky) hz
    have hq : IntKind.i64.wrap ((Sp.length : Int).tdiv 2) = ((Sp.length / 2 : Nat) : Int) := by
      rw [Int.tdiv_eq_ediv_of_nonneg (by omega), wrap_id (by omega) (by omega)]; omega
    have hm : IntKind.i64.wrap (2 * ((6 * (n * n) : Nat) : Int)) = ((2 * (6 * (n * n)) : Nat) : Int) := by rw [wrap_id (by omega) (by omega)]; push_cast; rfl
    have hd : IntKind.i64.wrap ((Sp.length : Int) - ((6 * (n * n) : Nat) : Int)) = (Sp.length : Int) - ((6 * (n * n) : Nat) : Int) := wrap_id (by omega) (by omega)
    skip
    by_cases h0 : Be.length = 6 * (n * n)
    · by_cases h1 : Wt.length = 6 * (n * n)
      · by_cases h2 : Tr.length = 6 * (n * n)
        · by_cases h3 : Sp.length = 2 * (6 * (n * n))
          · by_cases h4 : 0 ≤ flI Be mxH
            · have e : chkF n Be Wt Tr Sp sky step = (flI Be mxH, 13) := by
                unfold chkF mxW mxT
                rw [if_neg (by omega), if_neg (by omega), if_neg (by omega), if_neg (by omega), if_neg (by omega), if_pos h4]
              rw [e]
              refine COk_quiet Tryz.f27 Tryz.func27 (by kernel_rfl) rfl ?_
              (conv => whnf); repeat ((first | refine ⟨_, _, g0 _ _ _ _, ?_⟩ | refine br_no (bo_eqn (by rw [hd]; omega)) ?_ | rw [hsix] | refine lr ?_ | refine br_d (by omega) ?_ | refine br_nd (by omega) ?_ | refine br_no (bo_eqn (by omega)) ?_ | rw [getB_app] | rw [getB_app0] | refine addB_f1 ?_ | refine addB_f0 ?_); conv => whnf)
              exact ⟨rfl, _, rfl⟩
            by_cases h5 : sky < 0
            · have e : chkF n Be Wt Tr Sp sky step = (0, 17) := by
                unfold chkF mxW mxT
                rw [if_neg (by omega), if_neg (by omega), if_neg (by omega), if_neg (by omega), if_neg (by omega), if_neg h4, if_pos (by omega)]
              rw [e]
              refine COk_quiet Tryz.f27 Tryz.func27 (by kernel_rfl) rfl ?_
              (conv => whnf); repeat ((first | refine ⟨_, _, g0 _ _ _ _, ?_⟩ | refine br_no (bo_eqn (by rw [hd]; omega)) ?_ | rw [hsix] | refine lr ?_ | refine br_d (by omega) ?_ | refine br_nd (by omega) ?_ | refine br_no (bo_eqn (by omega)) ?_ | rw [getB_app] | rw [getB_app0] | refine addB_f1 ?_ | refine addB_f0 ?_); conv => whnf)
              exact ⟨rfl, _, rfl⟩
            by_cases h6 : sky > 4503599627370496
            · have e : chkF n Be Wt Tr Sp sky step = (0, 17) := by
                unfold chkF mxW mxT
                rw [if_neg (by omega), if_neg (by omega), if_neg (by omega), if_neg (by omega), if_neg (by omega), if_neg h4, if_pos (by omega)]
              rw [e]
              refine COk_quiet Tryz.f27 Tryz.func27 (by kernel_rfl) rfl ?_
              (conv => whnf); repeat ((first | refine ⟨_, _, g0 _ _ _ _, ?_⟩ | refine br_no (bo_eqn (by rw [hd]; omega)) ?_ | rw [hsix] | refine lr ?_ | refine br_d (by omega) ?_ | refine br_nd (by omega) ?_ | refine br_no (bo_eqn (by omega)) ?_ | rw [getB_app] | rw [getB_app0] | refine addB_f1 ?_ | refine addB_f0 ?_); conv => whnf)
              exact ⟨rfl, _, rfl⟩
            have q1 := q1 ⟨by omega, by unfold mxW; omega⟩
            have g1 := g1 ⟨by omega, by unfold mxW; omega⟩
            by_cases h7 : 0 ≤ quI Wt sky
            · have e : chkF n Be Wt Tr Sp sky step = (quI Wt sky, 14) := by
                unfold chkF mxW mxT
                rw [if_neg (by omega), if_neg (by omega), if_neg (by omega), if_neg (by omega), if_neg (by omega), if_neg h4, if_neg (by omega), if_pos h7]
              rw [e]
              refine COk_quiet Tryz.f27 Tryz.func27 (by kernel_rfl) rfl ?_
              (conv => whnf); repeat ((first | refine ⟨_, _, g0 _ _ _ _, ?_⟩ | refine ⟨_, _, g1 _ _ _ _, ?_⟩ | refine br_no (bo_eqn (by rw [hd]; omega)) ?_ | rw [hsix] | refine lr ?_ | refine br_d (by omega) ?_ | refine br_nd (by omega) ?_ | refine br_no (bo_eqn (by omega)) ?_ | rw [getB_app] | rw [getB_app0] | refine addB_f1 ?_ | refine addB_f0 ?_); conv => whnf)
              exact ⟨rfl, _, rfl⟩
            by_cases h8 : 0 ≤ quI Tr 0
            · have e : chkF n Be Wt Tr Sp sky step = (quI Tr 0, 15) := by
                unfold chkF mxW mxT
                rw [if_neg (by omega), if_neg (by omega), if_neg (by omega), if_neg (by omega), if_neg (by omega), if_neg h4, if_neg (by omega), if_neg h7, if_pos h8]
              rw [e]
              refine COk_quiet Tryz.f27 Tryz.func27 (by kernel_rfl) rfl ?_
              (conv => whnf); repeat ((first | refine ⟨_, _, g0 _ _ _ _, ?_⟩ | refine ⟨_, _, g1 _ _ _ _, ?_⟩ | refine ⟨_, _, g2 _ _ _ _, ?_⟩ | refine br_no (bo_eqn (by rw [hd]; omega)) ?_ | rw [hsix] | refine lr ?_ | refine br_d (by omega) ?_ | refine br_nd (by omega) ?_ | refine br_no (bo_eqn (by omega)) ?_ | rw [getB_app] | rw [getB_app0] | refine addB_f1 ?_ | refine addB_f0 ?_); conv => whnf)
              exact ⟨rfl, _, rfl⟩
            by_cases h9 : 0 ≤ flI Sp mxS
            · have e : chkF n Be Wt Tr Sp sky step = (flI Sp mxS, 16) := by
                unfold chkF mxW mxT
                rw [if_neg (by omega), if_neg (by omega), if_neg (by omega), if_neg (by omega), if_neg (by omega), if_neg h4, if_neg (by omega), if_neg h7, if_neg h8, if_pos h9]
              rw [e]
              refine COk_quiet Tryz.f27 Tryz.func27 (by kernel_rfl) rfl ?_
              (conv => whnf); repeat ((first | refine ⟨_, _, g0 _ _ _ _, ?_⟩ | refine ⟨_, _, g1 _ _ _ _, ?_⟩ | refine ⟨_, _, g2 _ _ _ _, ?_⟩ | refine ⟨_, _, g3 _ _ _ _, ?_⟩ | refine br_no (bo_eqn (by rw [hd]; omega)) ?_ | rw [hsix] | refine lr ?_ | refine br_d (by omega) ?_ | refine br_nd (by omega) ?_ | refine br_no (bo_eqn (by omega)) ?_ | rw [getB_app] | rw [getB_app0] | refine addB_f1 ?_ | refine addB_f0 ?_); conv => whnf)
              exact ⟨rfl, _, rfl⟩
            by_cases ha : step < 0
            · have e : chkF n Be Wt Tr Sp sky step = (0, 1) := by
                unfold chkF mxW mxT
                rw [if_neg (by omega), if_neg (by omega), if_neg (by omega), if_neg (by omega), if_neg (by omega), if_neg h4, if_neg (by omega), if_neg h7, if_neg h8, if_neg h9, if_pos (by omega)]
              rw [e]
              refine COk_quiet Tryz.f27 Tryz.func27 (by kernel_rfl) rfl ?_
              (conv => whnf); repeat ((first | refine ⟨_, _, g0 _ _ _ _, ?_⟩ | refine ⟨_, _, g1 _ _ _ _, ?_⟩ | refine ⟨_, _, g2 _ _ _ _, ?_⟩ | refine ⟨_, _, g3 _ _ _ _, ?_⟩ | refine br_no (bo_eqn (by rw [hd]; omega)) ?_ | rw [hsix] | refine lr ?_ | refine br_d (by omega) ?_ | refine br_nd (by omega) ?_ | refine br_no (bo_eqn (by omega)) ?_ | rw [getB_app] | rw [getB_app0] | refine addB_f1 ?_ | refine addB_f0 ?_); conv => whnf)
              exact ⟨rfl, _, rfl⟩
            by_cases hb : step > 4611686018427387904
            · have e : chkF n Be Wt Tr Sp sky step = (0, 1) := by
                unfold chkF mxW mxT
                rw [if_neg (by omega), if_neg (by omega), if_neg (by omega), if_neg (by omega), if_neg (by omega), if_neg h4, if_neg (by omega), if_neg h7, if_neg h8, if_neg h9, if_pos (by omega)]
              rw [e]
              refine COk_quiet Tryz.f27 Tryz.func27 (by kernel_rfl) rfl ?_
              (conv => whnf); repeat ((first | refine ⟨_, _, g0 _ _ _ _, ?_⟩ | refine ⟨_, _, g1 _ _ _ _, ?_⟩ | refine ⟨_, _, g2 _ _ _ _, ?_⟩ | refine ⟨_, _, g3 _ _ _ _, ?_⟩ | refine br_no (bo_eqn (by rw [hd]; omega)) ?_ | rw [hsix] | refine lr ?_ | refine br_d (by omega) ?_ | refine br_nd (by omega) ?_ | refine br_no (bo_eqn (by omega)) ?_ | rw [getB_app] | rw [getB_app0] | refine addB_f1 ?_ | refine addB_f0 ?_); conv => whnf)
              exact ⟨rfl, _, rfl⟩
            · have e : chkF n Be Wt Tr Sp sky step = (0, 0) := by
                unfold chkF mxW mxT
                rw [if_neg (by omega), if_neg (by omega), if_neg (by omega), if_neg (by omega), if_neg (by omega), if_neg h4, if_neg (by omega), if_neg h7, if_neg h8, if_neg h9, if_neg (by omega)]
              rw [e]
              refine COk_quiet Tryz.f27 Tryz.func27 (by kernel_rfl) rfl ?_
              (conv => whnf); repeat ((first | refine ⟨_, _, g0 _ _ _ _, ?_⟩ | refine ⟨_, _, g1 _ _ _ _, ?_⟩ | refine ⟨_, _, g2 _ _ _ _, ?_⟩ | refine ⟨_, _, g3 _ _ _ _, ?_⟩ | refine br_no (bo_eqn (by rw [hd]; omega)) ?_ | rw [hsix] | refine lr ?_ | refine br_nd (by omega) ?_ | refine br_no (bo_eqn (by omega)) ?_ | rw [getB_app] | rw [getB_app0] | refine addB_f1 ?_ | refine addB_f0 ?_); conv => whnf)
              exact ⟨rfl, _, rfl⟩
          · by_cases h3' : Sp.length / 2 = 6 * (n * n)
            · have e : chkF n Be Wt Tr Sp sky step = (3, 12) := by
                unfold chkF mxW mxT
                rw [if_neg (by omega), if_neg (by omega), if_neg (by omega), if_neg (by omega), if_pos (by omega)]
              rw [e]
              refine COk_quiet Tryz.f27 Tryz.func27 (by kernel_rfl) rfl ?_
              (conv => whnf); repeat ((first | refine br_yes (bne_iff_ne.2 (by rw [hd]; omega)) ?_ | rw [hsix] | refine lr ?_ | refine br_nd (by omega) ?_ | refine br_no (bo_eqn (by omega)) ?_ | rw [getB_app] | rw [getB_app0] | refine addB_f1 ?_ | refine addB_f0 ?_); conv => whnf)
              exact ⟨rfl, _, rfl⟩
            · have e : chkF n Be Wt Tr Sp sky step = (3, 12) := by
                unfold chkF mxW mxT
                rw [if_neg (by omega), if_neg (by omega), if_neg (by omega), if_neg (by omega), if_pos (by omega)]
              rw [e]
              refine COk_quiet Tryz.f27 Tryz.func27 (by kernel_rfl) rfl ?_
              (conv => whnf); repeat ((first | refine br_yes (bne_iff_ne.2 (by rw [hd]; omega)) ?_ | rw [hsix] | refine lr ?_ | refine br_nd (by omega) ?_ | refine br_no (bo_eqn (by omega)) ?_ | rw [getB_app] | rw [getB_app0] | refine addB_f1 ?_ | refine addB_f0 ?_); conv => whnf)
              exact ⟨rfl, _, rfl⟩
        · have e : chkF n Be Wt Tr Sp sky step = (2, 12) := by
            unfold chkF mxW mxT
            rw [if_neg (by omega), if_neg (by omega), if_neg (by omega), if_pos (by omega)]
          rw [e]
          refine COk_quiet Tryz.f27 Tryz.func27 (by kernel_rfl) rfl ?_
          (conv => whnf); repeat ((first | refine br_yes (bne_iff_ne.2 (by omega)) ?_ | rw [hsix] | refine lr ?_ | refine br_nd (by omega) ?_ | refine br_no (bo_eqn (by omega)) ?_ | rw [getB_app] | rw [getB_app0] | refine addB_f1 ?_ | refine addB_f0 ?_); conv => whnf)
          exact ⟨rfl, _, rfl⟩
      · have e : chkF n Be Wt Tr Sp sky step = (1, 12) := by
          unfold chkF mxW mxT
          rw [if_neg (by omega), if_neg (by omega), if_pos (by omega)]
        rw [e]
        refine COk_quiet Tryz.f27 Tryz.func27 (by kernel_rfl) rfl ?_
        (conv => whnf); repeat ((first | refine br_yes (bne_iff_ne.2 (by omega)) ?_ | rw [hsix] | refine lr ?_ | refine br_nd (by omega) ?_ | refine br_no (bo_eqn (by omega)) ?_ | rw [getB_app] | rw [getB_app0] | refine addB_f1 ?_ | refine addB_f0 ?_); conv => whnf)
        exact ⟨rfl, _, rfl⟩
    · have e : chkF n Be Wt Tr Sp sky step = (0, 12) := by
        unfold chkF mxW mxT
        rw [if_neg (by omega), if_pos (by omega)]
      rw [e]
      refine COk_quiet Tryz.f27 Tryz.func27 (by kernel_rfl) rfl ?_
      (conv => whnf); repeat ((first | refine br_yes (bne_iff_ne.2 (by omega)) ?_ | rw [hsix] | refine lr ?_ | refine br_nd (by omega) ?_ | rw [getB_app] | rw [getB_app0] | refine addB_f1 ?_ | refine addB_f0 ?_); conv => whnf)
      exact ⟨rfl, _, rfl⟩
  · have e : chkF x Be Wt Tr Sp sky step = (0, 10) := by
      unfold chkF
      rw [if_pos hs]
    rw [e]
    have hce := fun m => cells_ok x m
    rw [show cellsI x = 0 from if_neg hs] at hce
    rcases (show x < 1 ∨ x > 32 by omega) with hx | hx
    · refine COk_quiet Tryz.f27 Tryz.func27 (by kernel_rfl) rfl ?_
      (conv => whnf); repeat ((first | refine br_d (by omega) ?_ | refine addB_f0 ?_); conv => whnf)
      exact ⟨rfl, _, rfl⟩
    · refine COk_quiet Tryz.f27 Tryz.func27 (by kernel_rfl) rfl ?_
      (conv => whnf); repeat ((first | refine br_d (by omega) ?_ | refine br_nd (by omega) ?_ | refine addB_f0 ?_); conv => whnf)
      exact ⟨rfl, _, rfl⟩
end
end Go.Proofs.YtgoljofmbidkfaaGreatDoor
