import Derived.Test.YtgoljofmbidkfaaGreatDoorSw
import Derived.Test.YtgoljofmbidkfaaGreatDoorR6
import Derived.Test.YtgoljofmbidkfaaGreatDoorLa
import Derived.Test.YtgoljofmbidkfaaGreatDoorLv
import Derived.Test.YtgoljofmbidkfaaGreatDoorKr
import Derived.Test.YtgoljofmbidkfaaGreatDoorCl
import Derived.Test.YtgoljofmbidkfaaGreatDoorSu
/- A sea is checked: the program and the reference. No condition. -/
namespace Go.Proofs.YtgoljofmbidkfaaGreatDoor
open Go Go.Eng
set_option maxRecDepth 100000
set_option linter.unusedSimpArgs false
set_option linter.unusedVariables false

section
variable {M : List Blk} (hsc : scM M.length M = true) (hng : 3 ≤ M.length) {j0 j1 j2 j3 : Nat} {Be : List Nat} {Wt Tr : List Int} {Sp : List Nat} (R : SeaR M j0 j1 j2 j3 Be Wt Tr Sp) (x sky step : Int)
include hsc hng R
set_option maxHeartbeats 0 in
theorem Check_ok : COk Tryz.prog 3 26 [I x, seaV j0 j1 j2 j3 Be.length Wt.length Tr.length Sp.length sky step] M (.tup [I (chkF x Be Wt Tr Sp sky step).1, I (chkF x Be Wt Tr Sp sky step).2]) M := by
  have l0 := R.s0.lt
  have l1 := R.s1.lt
  have l2 := R.s2.lt
  have l3 := R.s3.lt
  have w0 := R.s0.short
  have w1 := R.s1.short
  have w2 := R.s2.short
  have w3 := R.s3.short
  by_cases hs : 1 ≤ x ∧ x ≤ 32
  · obtain ⟨n, rfl⟩ : ∃ n : Nat, x = n := ⟨x.toNat, by omega⟩
    have n1 : 1 ≤ n := by omega
    have n2 : n ≤ 32 := by omega
    have hc := cellsI_n n1 n2
    have hsq : n * n ≤ 1024 := Nat.mul_le_mul n2 n2
    have hsq1 : 1 ≤ n * n := Nat.mul_le_mul n1 n1
    have hce := fun m => cells_ok n m
    rw [hc] at hce
    have hsix : IntKind.i64.wrap (IntKind.i64.wrap (6 * (n : Int)) * n) = ((6 * (n * n) : Nat) : Int) := by
      have q1 := sq_bound (n := (n : Int)) (by omega) (by omega)
      rw [wrap_id (n := 6 * (n : Int)) (by omega) (by omega), Int.mul_assoc, wrap_id (by omega) (by omega)]
      push_cast
      rfl
    have hu : Up M (M ++ ([⟨true, .cells [.sl j0 0 Be.length, .sl j1 0 Wt.length, .sl j2 0 Tr.length, .sl j3 0 Sp.length, .int .i64 sky, I step]⟩] : List Blk)) := Up.of hsc (by simp [scM, B.sc, scL, V.sc]; omega)
    have hsc2 := hu.sc
    have hng2 : 3 ≤ (M ++ ([⟨true, .cells [.sl j0 0 Be.length, .sl j1 0 Wt.length, .sl j2 0 Tr.length, .sl j3 0 Sp.length, .int .i64 sky, I step]⟩] : List Blk)).length := by simp; omega
    have hub : ∀ a b c d : Int, Up M (M ++ ([⟨true, .cells [.sl j0 0 Be.length, .sl j1 0 Wt.length, .sl j2 0 Tr.length, .sl j3 0 Sp.length, .int .i64 sky, I step]⟩, ⟨true, .cells [I a, I b, I c, I d]⟩] : List Blk)) := fun a b c d => Up.of hsc (by simp [scM, B.sc, scL, V.sc]; omega)
    have hng3 : ∀ a b c d : Int, 3 ≤ (M ++ ([⟨true, .cells [.sl j0 0 Be.length, .sl j1 0 Wt.length, .sl j2 0 Tr.length, .sl j3 0 Sp.length, .int .i64 sky, I step]⟩, ⟨true, .cells [I a, I b, I c, I d]⟩] : List Blk)).length := fun a b c d => by simp; omega
    have f0 := floats_ok hsc2 hng2 (R.s0.up hu) rfl mxH
    have f3 := floats_ok hsc2 hng2 (R.s3.up hu) rfl mxS
    have q2 := quanta_ok' hsc2 hng2 (R.s2.up hu) rfl (z := 0) ⟨Int.le_refl _, by decide⟩
    have q1 := fun hz => quanta_ok' hsc2 hng2 (R.s1.up hu) rfl (z := sky) hz
    have g0 := fun a b c d => floats_ok (hub a b c d).sc (hng3 a b c d) (R.s0.up (hub a b c d)) rfl mxH
    have g3 := fun a b c d => floats_ok (hub a b c d).sc (hng3 a b c d) (R.s3.up (hub a b c d)) rfl mxS
    have g2 := fun a b c d => quanta_ok' (hub a b c d).sc (hng3 a b c d) (R.s2.up (hub a b c d)) rfl (z := 0) ⟨Int.le_refl _, by decide⟩
    have g1 := fun hz a b c d => quanta_ok' (hub a b c d).sc (hng3 a b c d) (R.s1.up (hub a b c d)) rfl (z := sky) hz
    have hq : IntKind.i64.wrap ((Sp.length : Int).tdiv 2) = ((Sp.length / 2 : Nat) : Int) := by
      rw [Int.tdiv_eq_ediv_of_nonneg (by omega), wrap_id (by omega) (by omega)]; omega
    have hm : IntKind.i64.wrap (2 * ((6 * (n * n) : Nat) : Int)) = ((2 * (6 * (n * n)) : Nat) : Int) := by rw [wrap_id (by omega) (by omega)]; push_cast; rfl
    have hd : IntKind.i64.wrap ((Sp.length : Int) - ((6 * (n * n) : Nat) : Int)) = (Sp.length : Int) - ((6 * (n * n) : Nat) : Int) := wrap_id (by omega) (by omega)
    skip
    by_cases h0 : Be.length = 6 * (n * n)
    · by_cases h1 : Wt.length = 6 * (n * n)
      · by_cases h2 : Tr.length = 6 * (n * n)
        · by_cases h3 : Sp.length = 2 * (6 * (n * n))
          · by_cases h4 : 0 ≤ flI Be mxH
            · have e : chkF n Be Wt Tr Sp sky step = (flI Be mxH, 13) := by
                unfold chkF mxW mxT
                rw [if_neg (by omega), if_neg (by omega), if_neg (by omega), if_neg (by omega), if_neg (by omega), if_pos h4]
              rw [e]
              refine COk_quiet Tryz.f26 Tryz.func26 (by kernel_rfl) rfl ?_
              (conv => whnf); repeat ((first | refine ⟨_, _, hce _, ?_⟩ | refine ⟨_, _, f0, ?_⟩ | refine br_no (bo_eqn (by rw [hq]; omega)) ?_ | refine br_no (bo_eqn (by rw [hm]; omega)) ?_ | refine lr ?_ | refine br_d (by omega) ?_ | refine br_nd (by omega) ?_ | refine br_no (bo_eqn (by omega)) ?_ | rw [getB_app0] | refine addB_f0 ?_); conv => whnf)
              exact ⟨rfl, _, rfl⟩
            by_cases h5 : sky < 0
            · have e : chkF n Be Wt Tr Sp sky step = (0, 17) := by
                unfold chkF mxW mxT
                rw [if_neg (by omega), if_neg (by omega), if_neg (by omega), if_neg (by omega), if_neg (by omega), if_neg h4, if_pos (by omega)]
              rw [e]
              refine COk_quiet Tryz.f26 Tryz.func26 (by kernel_rfl) rfl ?_
              (conv => whnf); repeat ((first | refine ⟨_, _, hce _, ?_⟩ | refine ⟨_, _, f0, ?_⟩ | refine br_no (bo_eqn (by rw [hq]; omega)) ?_ | refine br_no (bo_eqn (by rw [hm]; omega)) ?_ | refine lr ?_ | refine br_d (by omega) ?_ | refine br_nd (by omega) ?_ | refine br_no (bo_eqn (by omega)) ?_ | rw [getB_app0] | refine addB_f0 ?_); conv => whnf)
              exact ⟨rfl, _, rfl⟩
            by_cases h6 : sky > 4503599627370496
            · have e : chkF n Be Wt Tr Sp sky step = (0, 17) := by
                unfold chkF mxW mxT
                rw [if_neg (by omega), if_neg (by omega), if_neg (by omega), if_neg (by omega), if_neg (by omega), if_neg h4, if_pos (by omega)]
              rw [e]
              refine COk_quiet Tryz.f26 Tryz.func26 (by kernel_rfl) rfl ?_
              (conv => whnf); repeat ((first | refine ⟨_, _, hce _, ?_⟩ | refine ⟨_, _, f0, ?_⟩ | refine br_no (bo_eqn (by rw [hq]; omega)) ?_ | refine br_no (bo_eqn (by rw [hm]; omega)) ?_ | refine lr ?_ | refine br_d (by omega) ?_ | refine br_nd (by omega) ?_ | refine br_no (bo_eqn (by omega)) ?_ | rw [getB_app0] | refine addB_f0 ?_); conv => whnf)
              exact ⟨rfl, _, rfl⟩
            have q1 := q1 ⟨by omega, by unfold mxW; omega⟩
            have g1 := g1 ⟨by omega, by unfold mxW; omega⟩
            by_cases h7 : 0 ≤ quI Wt sky
            · have e : chkF n Be Wt Tr Sp sky step = (quI Wt sky, 14) := by
                unfold chkF mxW mxT
                rw [if_neg (by omega), if_neg (by omega), if_neg (by omega), if_neg (by omega), if_neg (by omega), if_neg h4, if_neg (by omega), if_pos h7]
              rw [e]
              refine COk_quiet Tryz.f26 Tryz.func26 (by kernel_rfl) rfl ?_
              (conv => whnf); repeat ((first | refine ⟨_, _, hce _, ?_⟩ | refine ⟨_, _, f0, ?_⟩ | refine ⟨_, _, q1, ?_⟩ | refine br_no (bo_eqn (by rw [hq]; omega)) ?_ | refine br_no (bo_eqn (by rw [hm]; omega)) ?_ | refine lr ?_ | refine br_d (by omega) ?_ | refine br_nd (by omega) ?_ | refine br_no (bo_eqn (by omega)) ?_ | rw [getB_app0] | refine addB_f0 ?_); conv => whnf)
              exact ⟨rfl, _, rfl⟩
            by_cases h8 : 0 ≤ quI Tr 0
            · have e : chkF n Be Wt Tr Sp sky step = (quI Tr 0, 15) := by
                unfold chkF mxW mxT
                rw [if_neg (by omega), if_neg (by omega), if_neg (by omega), if_neg (by omega), if_neg (by omega), if_neg h4, if_neg (by omega), if_neg h7, if_pos h8]
              rw [e]
              refine COk_quiet Tryz.f26 Tryz.func26 (by kernel_rfl) rfl ?_
              (conv => whnf); repeat ((first | refine ⟨_, _, hce _, ?_⟩ | refine ⟨_, _, f0, ?_⟩ | refine ⟨_, _, q1, ?_⟩ | refine ⟨_, _, q2, ?_⟩ | refine br_no (bo_eqn (by rw [hq]; omega)) ?_ | refine br_no (bo_eqn (by rw [hm]; omega)) ?_ | refine lr ?_ | refine br_d (by omega) ?_ | refine br_nd (by omega) ?_ | refine br_no (bo_eqn (by omega)) ?_ | rw [getB_app0] | refine addB_f0 ?_); conv => whnf)
              exact ⟨rfl, _, rfl⟩
            by_cases h9 : 0 ≤ flI Sp mxS
            · have e : chkF n Be Wt Tr Sp sky step = (flI Sp mxS, 16) := by
                unfold chkF mxW mxT
                rw [if_neg (by omega), if_neg (by omega), if_neg (by omega), if_neg (by omega), if_neg (by omega), if_neg h4, if_neg (by omega), if_neg h7, if_neg h8, if_pos h9]
              rw [e]
              refine COk_quiet Tryz.f26 Tryz.func26 (by kernel_rfl) rfl ?_
              (conv => whnf); repeat ((first | refine ⟨_, _, hce _, ?_⟩ | refine ⟨_, _, f0, ?_⟩ | refine ⟨_, _, q1, ?_⟩ | refine ⟨_, _, q2, ?_⟩ | refine ⟨_, _, f3, ?_⟩ | refine br_no (bo_eqn (by rw [hq]; omega)) ?_ | refine br_no (bo_eqn (by rw [hm]; omega)) ?_ | refine lr ?_ | refine br_d (by omega) ?_ | refine br_nd (by omega) ?_ | refine br_no (bo_eqn (by omega)) ?_ | rw [getB_app0] | refine addB_f0 ?_); conv => whnf)
              exact ⟨rfl, _, rfl⟩
            by_cases ha : step < 0
            · have e : chkF n Be Wt Tr Sp sky step = (0, 1) := by
                unfold chkF mxW mxT
                rw [if_neg (by omega), if_neg (by omega), if_neg (by omega), if_neg (by omega), if_neg (by omega), if_neg h4, if_neg (by omega), if_neg h7, if_neg h8, if_neg h9, if_pos (by omega)]
              rw [e]
              refine COk_quiet Tryz.f26 Tryz.func26 (by kernel_rfl) rfl ?_
              (conv => whnf); repeat ((first | refine ⟨_, _, hce _, ?_⟩ | refine ⟨_, _, f0, ?_⟩ | refine ⟨_, _, q1, ?_⟩ | refine ⟨_, _, q2, ?_⟩ | refine ⟨_, _, f3, ?_⟩ | refine br_no (bo_eqn (by rw [hq]; omega)) ?_ | refine br_no (bo_eqn (by rw [hm]; omega)) ?_ | refine lr ?_ | refine br_d (by omega) ?_ | refine br_nd (by omega) ?_ | refine br_no (bo_eqn (by omega)) ?_ | rw [getB_app0] | refine addB_f0 ?_); conv => whnf)
              exact ⟨rfl, _, rfl⟩
            by_cases hb : step > 4611686018427387904
            · have e : chkF n Be Wt Tr Sp sky step = (0, 1) := by
                unfold chkF mxW mxT
                rw [if_neg (by omega), if_neg (by omega), if_neg (by omega), if_neg (by omega), if_neg (by omega), if_neg h4, if_neg (by omega), if_neg h7, if_neg h8, if_neg h9, if_pos (by omega)]
              rw [e]
              refine COk_quiet Tryz.f26 Tryz.func26 (by kernel_rfl) rfl ?_
              (conv => whnf); repeat ((first | refine ⟨_, _, hce _, ?_⟩ | refine ⟨_, _, f0, ?_⟩ | refine ⟨_, _, q1, ?_⟩ | refine ⟨_, _, q2, ?_⟩ | refine ⟨_, _, f3, ?_⟩ | refine br_no (bo_eqn (by rw [hq]; omega)) ?_ | refine br_no (bo_eqn (by rw [hm]; omega)) ?_ | refine lr ?_ | refine br_d (by omega) ?_ | refine br_nd (by omega) ?_ | refine br_no (bo_eqn (by omega)) ?_ | rw [getB_app0] | refine addB_f0 ?_); conv => whnf)
              exact ⟨rfl, _, rfl⟩
            · have e : chkF n Be Wt Tr Sp sky step = (0, 0) := by
                unfold chkF mxW mxT
                rw [if_neg (by omega), if_neg (by omega), if_neg (by omega), if_neg (by omega), if_neg (by omega), if_neg h4, if_neg (by omega), if_neg h7, if_neg h8, if_neg h9, if_neg (by omega)]
              rw [e]
              refine COk_quiet Tryz.f26 Tryz.func26 (by kernel_rfl) rfl ?_
              (conv => whnf); repeat ((first | refine ⟨_, _, hce _, ?_⟩ | refine ⟨_, _, f0, ?_⟩ | refine ⟨_, _, q1, ?_⟩ | refine ⟨_, _, q2, ?_⟩ | refine ⟨_, _, f3, ?_⟩ | refine br_no (bo_eqn (by rw [hq]; omega)) ?_ | refine br_no (bo_eqn (by rw [hm]; omega)) ?_ | refine lr ?_ | refine br_nd (by omega) ?_ | refine br_no (bo_eqn (by omega)) ?_ | rw [getB_app0] | refine addB_f0 ?_); conv => whnf)
              exact ⟨rfl, _, rfl⟩
          · by_cases h3' : Sp.length / 2 = 6 * (n * n)
            · have e : chkF n Be Wt Tr Sp sky step = (3, 12) := by
                unfold chkF mxW mxT
                rw [if_neg (by omega), if_neg (by omega), if_neg (by omega), if_neg (by omega), if_pos (by omega)]
              rw [e]
              refine COk_quiet Tryz.f26 Tryz.func26 (by kernel_rfl) rfl ?_
              (conv => whnf); repeat ((first | refine ⟨_, _, hce _, ?_⟩ | refine br_no (bo_eqn (by rw [hq]; omega)) ?_ | refine br_yes (bne_iff_ne.2 (by rw [hm]; omega)) ?_ | refine lr ?_ | refine br_nd (by omega) ?_ | refine br_no (bo_eqn (by omega)) ?_ | rw [getB_app0] | refine addB_f0 ?_); conv => whnf)
              exact ⟨rfl, _, rfl⟩
            · have e : chkF n Be Wt Tr Sp sky step = (3, 12) := by
                unfold chkF mxW mxT
                rw [if_neg (by omega), if_neg (by omega), if_neg (by omega), if_neg (by omega), if_pos (by omega)]
              rw [e]
              refine COk_quiet Tryz.f26 Tryz.func26 (by kernel_rfl) rfl ?_
              (conv => whnf); repeat ((first | refine ⟨_, _, hce _, ?_⟩ | refine br_yes (bne_iff_ne.2 (by rw [hq]; omega)) ?_ | refine lr ?_ | refine br_nd (by omega) ?_ | refine br_no (bo_eqn (by omega)) ?_ | rw [getB_app0] | refine addB_f0 ?_); conv => whnf)
              exact ⟨rfl, _, rfl⟩
        · have e : chkF n Be Wt Tr Sp sky step = (2, 12) := by
            unfold chkF mxW mxT
            rw [if_neg (by omega), if_neg (by omega), if_neg (by omega), if_pos (by omega)]
          rw [e]
          refine COk_quiet Tryz.f26 Tryz.func26 (by kernel_rfl) rfl ?_
          (conv => whnf); repeat ((first | refine ⟨_, _, hce _, ?_⟩ | refine br_yes (bne_iff_ne.2 (by omega)) ?_ | refine lr ?_ | refine br_nd (by omega) ?_ | refine br_no (bo_eqn (by omega)) ?_ | rw [getB_app0] | refine addB_f0 ?_); conv => whnf)
          exact ⟨rfl, _, rfl⟩
      · have e : chkF n Be Wt Tr Sp sky step = (1, 12) := by
          unfold chkF mxW mxT
          rw [if_neg (by omega), if_neg (by omega), if_pos (by omega)]
        rw [e]
        refine COk_quiet Tryz.f26 Tryz.func26 (by kernel_rfl) rfl ?_
        (conv => whnf); repeat ((first | refine ⟨_, _, hce _, ?_⟩ | refine br_yes (bne_iff_ne.2 (by omega)) ?_ | refine lr ?_ | refine br_nd (by omega) ?_ | refine br_no (bo_eqn (by omega)) ?_ | rw [getB_app0] | refine addB_f0 ?_); conv => whnf)
        exact ⟨rfl, _, rfl⟩
    · have e : chkF n Be Wt Tr Sp sky step = (0, 12) := by
        unfold chkF mxW mxT
        rw [if_neg (by omega), if_pos (by omega)]
      rw [e]
      refine COk_quiet Tryz.f26 Tryz.func26 (by kernel_rfl) rfl ?_
      (conv => whnf); repeat ((first | refine ⟨_, _, hce _, ?_⟩ | refine br_yes (bne_iff_ne.2 (by omega)) ?_ | refine lr ?_ | refine br_nd (by omega) ?_ | rw [getB_app0] | refine addB_f0 ?_); conv => whnf)
      exact ⟨rfl, _, rfl⟩
  · have e : chkF x Be Wt Tr Sp sky step = (0, 10) := by
      unfold chkF
      rw [if_pos hs]
    rw [e]
    have hce := fun m => cells_ok x m
    rw [show cellsI x = 0 from if_neg hs] at hce
    rcases (show x < 1 ∨ x > 32 by omega) with hx | hx
    · refine COk_quiet Tryz.f26 Tryz.func26 (by kernel_rfl) rfl ?_
      (conv => whnf); repeat ((first | refine ⟨_, _, hce _, ?_⟩ | refine addB_f0 ?_); conv => whnf)
      exact ⟨rfl, _, rfl⟩
    · refine COk_quiet Tryz.f26 Tryz.func26 (by kernel_rfl) rfl ?_
      (conv => whnf); repeat ((first | refine ⟨_, _, hce _, ?_⟩ | refine addB_f0 ?_); conv => whnf)
      exact ⟨rfl, _, rfl⟩
end
end Go.Proofs.YtgoljofmbidkfaaGreatDoor
/- A sea that is turned. No condition. -/
namespace Go.Proofs.YtgoljofmbidkfaaGreatDoor
open Go Go.Eng
set_option maxRecDepth 100000
set_option linter.unusedSimpArgs false
set_option linter.unusedVariables false

abbrev seaN : V := .agg [nilS', nilS', nilS', nilS', .int .i64 0, I 0]
/-- The numbers of cells and of edges behind a turn, k of them put. -/
abbrev mvB {α : Type} (z : α) (n t : Nat) (l : List α) (o : Nat → α) (k : Nat) : List α := movT (6 * (n * n)) (tC n (inv t)) (fun i => l.getD i z) o k
abbrev mvP (n t : Nat) (l : List Nat) (o : Nat → Nat) (k : Nat) : List Nat := movT (edges n).length (tE n (inv t)) (fun i => trS (tR n t i) (l.getD i 0)) o k
theorem mv_len {α : Type} (N : Nat) (bk : Nat → Nat) (v z : Nat → α) (k : Nat) : (movT N bk v z k).length = N := tab_len _ _
theorem mv_blt {α : Type} {N : Nat} {bk : Nat → Nat} {v z : Nat → α} {k j : Nat} (h : j < N) : Nat.blt (0 + j * 1) (movT N bk v z k).length = true := by rw [mv_len]; simp; omega
section
variable {n t : Nat} (hn : 1 ≤ n) (ht : t < 24)
include hn ht
theorem mvB_set {α : Type} (z : α) (l : List α) (o : Nat → α) {k : Nat} (hk : k < 6 * (n * n)) : (mvB z n t l o k).set (0 + tC n t k * 1) (l.getD k z) = mvB z n t l o (k + 1) := by
  rw [show 0 + tC n t k * 1 = tC n t k by omega]
  exact mov_set (fun i => l.getD i z) o (fun j hj => (tC_inv hn ht hj).1) (tC_inv hn ht hk).2
theorem mvP_set (l : List Nat) (o : Nat → Nat) {k : Nat} (hk : k < (edges n).length) : (mvP n t l o k).set (0 + tE n t k * 1) (trS (tR n t k) (l.getD k 0)) = mvP n t l o (k + 1) := by
  rw [show 0 + tE n t k * 1 = tE n t k by omega]
  exact mov_set (fun i => trS (tR n t i) (l.getD i 0)) o (fun j hj => (tE_inv hn ht hj).1) (tE_inv hn ht hk).2
theorem mvB_end {α : Type} (z : α) (l : List α) (o : Nat → α) : mvB z n t l o (6 * (n * n)) = trB z n t l := mov_end _ _ fun j hj => (tC_lt hn (inv_ok t ht).1 hj).1
theorem mvP_end (l : List Nat) (o : Nat → Nat) : mvP n t l o (edges n).length = trP n t l := mov_end _ _ fun j hj => tE_lt hn (inv_ok t ht).1 hj
omit hn ht in
theorem mvB_0 {α : Type} (z : α) (l : List α) (hl : l.length = 6 * (n * n)) : mvB z n t l (fun i => l.getD i z) 0 = l := by
  refine (mov_0 _ _ _ _).trans ?_
  rw [← hl]; exact (tab_list l z).symm
omit hn ht in
theorem mvP_0 (l : List Nat) (hl : l.length = (edges n).length) : mvP n t l (fun i => l.getD i 0) 0 = l := by
  refine (mov_0 _ _ _ _).trans ?_
  rw [← hl]; exact (tab_list l 0).symm
end
/-- What lies behind the net. -/
def tuR (M1 : List Blk) (N A B E : Nat) (Be : List Nat) (Wt Tr : List Int) (Sp : List Nat) (sky step : Int) (c0 c1 : Blk) : List Blk :=
  [c0, c1, ⟨true, .flts Be⟩, ⟨true, .ints .i64 Wt⟩, ⟨true, .ints .i64 Tr⟩, ⟨true, .flts Sp⟩, sBx (.sl (M1.length + 2) 0 N) (.sl (M1.length + 3) 0 A) (.sl (M1.length + 4) 0 B) (.sl (M1.length + 5) 0 E) sky step]
theorem side_sum4 {k q : Nat} (hk : k < 4) (hq : q < 4) : (IntKind.i64.wrap ((k : Int) + q)).tmod 4 = (((k + q) % 4 : Nat) : Int) := by
  rw [wrap_id (by omega) (by omega), show (k : Int) + q = ((k + q : Nat) : Int) by push_cast; rfl, show (4 : Int) = ((4 : Nat) : Int) from rfl, ← Int.ofNat_tmod]
/-- The edge over the turned side. -/
theorem around_t {n t e : Nat} (hn : 1 ≤ n) (ht : t < 24) {x : Ed} (hx : (edges n)[e]? = some x) : ∀ m b, Net m b n → COk Tryz.prog 3 38 [.ptr (b + 1) 0, I (tC n t x.1), I (((x.2.1 + tQ n t x.1) % 4 : Nat) : Int)] m (.tup [I (tE n t e), I (if tR n t e = true then -1 else 1)]) m := by
  intro m b N
  obtain ⟨c1, s1, _⟩ := edge_of hn hx
  have hl := (tC_lt hn ht c1).1
  have hm : (x.2.1 + tQ n t x.1) % 4 < 4 := Nat.mod_lt _ (by decide)
  obtain ⟨h1, y, h2, h3⟩ := nu_at hn hl hm
  have e1 : tE n t e = nu n (tC n t x.1) ((x.2.1 + tQ n t x.1) % 4) := by unfold tE; rw [hx]
  have e2 : tR n t e = !fw n (tC n t x.1) ((x.2.1 + tQ n t x.1) % 4) := by unfold tR; rw [hx]
  have hne := (nbC_ne hn hl hm).1
  have h := around_ok N _ _ _ y h1 h2
  rw [e1, e2]
  rcases h3 with ⟨f, rfl⟩ | ⟨f, rfl⟩
  · rw [f]
    rw [if_pos rfl] at h
    exact h
  · rw [f]
    rw [if_neg (by simp only; omega)] at h
    exact h
section
variable {M : List Blk} (hm : Top M) (hsc : scM M.length M = true) {j0 j1 j2 j3 : Nat} {w : Bool} {Be : List Nat} {Wt Tr : List Int} {Sp : List Nat} (S : SeaB M w j0 j1 j2 j3 Be Wt Tr Sp)
include hm hsc S
set_option maxHeartbeats 0 in
theorem Turned_raw {n t : Nat} {sky step : Int} (O : SeaOk n Be Wt Tr Sp sky step) (ht : t < 24) {b : Nat} {M1 x : List Blk} (hM1 : M1 = M ++ [sBx (.sl j0 0 Be.length) (.sl j1 0 Wt.length) (.sl j2 0 Tr.length) (.sl j3 0 Sp.length) sky step, sBx nilS' nilS' nilS' nilS' 0 0] ++ x)
    (hnew : COk Tryz.prog 3 15 [I n] (M ++ [sBx (.sl j0 0 Be.length) (.sl j1 0 Wt.length) (.sl j2 0 Tr.length) (.sl j3 0 Sp.length) sky step, sBx nilS' nilS' nilS' nilS' 0 0]) (.tup [.ptr (b + 1) 0, I 0]) M1) (N : Net M1 b n)
    (u1 : Up (M ++ [sBx (.sl j0 0 Be.length) (.sl j1 0 Wt.length) (.sl j2 0 Tr.length) (.sl j3 0 Sp.length) sky step, sBx nilS' nilS' nilS' nilS' 0 0]) M1) :
    ∃ c0 c1, (COk Tryz.prog 3 32 [I n, seaV j0 j1 j2 j3 Be.length Wt.length Tr.length Sp.length sky step, I t] M (.tup [seaV (M1.length + 2) (M1.length + 3) (M1.length + 4) (M1.length + 5) Be.length Wt.length Tr.length Sp.length sky step, I 0])
      (M ++ [sBx (.sl j0 0 Be.length) (.sl j1 0 Wt.length) (.sl j2 0 Tr.length) (.sl j3 0 Sp.length) sky step, sBx (.sl (M1.length + 2) 0 Be.length) (.sl (M1.length + 3) 0 Wt.length) (.sl (M1.length + 4) 0 Tr.length) (.sl (M1.length + 5) 0 Sp.length) sky step] ++ x ++ tuR M1 Be.length Wt.length Tr.length Sp.length (trB 0 n t Be) (trB 0 n t Wt) (trB 0 n t Tr) (trP n t Sp) sky step c0 c1)) ∧ c0 = sBx (.sl (M1.length + 2) 0 Be.length) (.sl (M1.length + 3) 0 Wt.length) (.sl (M1.length + 4) 0 Tr.length) (.sl (M1.length + 5) 0 Sp.length) sky step ∧ c1 = c0 := by
  have l0 := S.read.s0.lt
  have l1 := S.read.s1.lt
  have l2 := S.read.s2.lt
  have l3 := S.read.s3.lt
  have hng := hm.ng
  have hn := O.n1
  have hn' := O.n2
  have e0 := O.l0
  have e1 : Wt.length = Be.length := O.l1.trans O.l0.symm
  have e2 : Tr.length = Be.length := O.l2.trans O.l0.symm
  have e3 := O.l3
  have hlen := edges_len hn
  have hsq : n * n ≤ 1024 := Nat.mul_le_mul hn' hn'
  have hsq1 : 1 ≤ n * n := Nat.mul_le_mul hn hn
  have hnl := N.lt
  have u0 : Up M (M ++ ([sBx (.sl j0 0 Be.length) (.sl j1 0 Wt.length) (.sl j2 0 Tr.length) (.sl j3 0 Sp.length) sky step, sBx nilS' nilS' nilS' nilS' 0 0] : List Blk)) := Up.of hsc (by simp [scM, B.sc, scL, V.sc]; omega)
  have ux := u0.trans u1
  have hk := Check_ok u0.sc (by simp; omega) (S.read.up u0) n sky step
  rw [O.chk] at hk
  have ha := after_c (hm.up u0) ht
  have S1 := S.up ux
  have hl1 : M1.length = M.length + 2 + x.length := by rw [hM1]; simp; omega
  have hcp := Copy_pl u1.sc S1 (by omega) (by omega) (by omega) (by omega) sky step
  have hgl : ∀ l : List Blk, getB (M1 ++ l) M.length = sBx (.sl j0 0 Be.length) (.sl j1 0 Wt.length) (.sl j2 0 Tr.length) (.sl j3 0 Sp.length) sky step := fun l => by
    rw [hM1, List.append_assoc, List.append_assoc]
    exact getB_app0
  have hgl0 := hgl []
  rw [List.append_nil] at hgl0
  unfold copL at hcp
  refine ⟨sBx (.sl (M1.length + 2) 0 Be.length) (.sl (M1.length + 3) 0 Wt.length) (.sl (M1.length + 4) 0 Tr.length) (.sl (M1.length + 5) 0 Sp.length) sky step, sBx (.sl (M1.length + 2) 0 Be.length) (.sl (M1.length + 3) 0 Wt.length) (.sl (M1.length + 4) 0 Tr.length) (.sl (M1.length + 5) 0 Sp.length) sky step, ?_, rfl, rfl⟩
  have hx : scM M1.length x = true := by
    have := u1.sc
    rw [hM1] at this ⊢
    exact (scM_of_app this).2
  have hscL : scM (M ++ [sBx (.sl j0 0 Be.length) (.sl j1 0 Wt.length) (.sl j2 0 Tr.length) (.sl j3 0 Sp.length) sky step, sBx (.sl (M1.length + 2) 0 Be.length) (.sl (M1.length + 3) 0 Wt.length) (.sl (M1.length + 4) 0 Tr.length) (.sl (M1.length + 5) 0 Sp.length) sky step] ++ x ++ tuR M1 Be.length Wt.length Tr.length Sp.length (trB 0 n t Be) (trB 0 n t Wt) (trB 0 n t Tr) (trP n t Sp) sky step (sBx (.sl (M1.length + 2) 0 Be.length) (.sl (M1.length + 3) 0 Wt.length) (.sl (M1.length + 4) 0 Tr.length) (.sl (M1.length + 5) 0 Sp.length) sky step) (sBx (.sl (M1.length + 2) 0 Be.length) (.sl (M1.length + 3) 0 Wt.length) (.sl (M1.length + 4) 0 Tr.length) (.sl (M1.length + 5) 0 Sp.length) sky step)).length
      (M ++ [sBx (.sl j0 0 Be.length) (.sl j1 0 Wt.length) (.sl j2 0 Tr.length) (.sl j3 0 Sp.length) sky step, sBx (.sl (M1.length + 2) 0 Be.length) (.sl (M1.length + 3) 0 Wt.length) (.sl (M1.length + 4) 0 Tr.length) (.sl (M1.length + 5) 0 Sp.length) sky step] ++ x ++ tuR M1 Be.length Wt.length Tr.length Sp.length (trB 0 n t Be) (trB 0 n t Wt) (trB 0 n t Tr) (trP n t Sp) sky step (sBx (.sl (M1.length + 2) 0 Be.length) (.sl (M1.length + 3) 0 Wt.length) (.sl (M1.length + 4) 0 Tr.length) (.sl (M1.length + 5) 0 Sp.length) sky step) (sBx (.sl (M1.length + 2) 0 Be.length) (.sl (M1.length + 3) 0 Wt.length) (.sl (M1.length + 4) 0 Tr.length) (.sl (M1.length + 5) 0 Sp.length) sky step)) = true := by
    refine scM_app (scM_app (scM_app (scM_mono (by simp) _ hsc) ?_) (scM_mono (by rw [hl1]; simp [tuR]; omega) _ hx)) ?_
    · rw [hl1]; simp [scM, B.sc, scL, V.sc, tuR]; omega
    · rw [hl1]; simp [scM, B.sc, scL, V.sc, tuR]; omega
  refine COk_of_ev Tryz.f32 Tryz.func32 (by kernel_rfl) (by simp) (by simp [V.sc, scL, tuR, hM1]; omega) (.inr hscL) ?_
  (conv => whnf); repeat ((first | refine ⟨_, _, hk, ?_⟩ | refine ⟨_, _, ha, ?_⟩ | refine ⟨_, _, hnew, ?_⟩ | refine ⟨_, _, hcp, ?_⟩ | rw [hgl0] | rw [hgl] | refine setB_app ?_ | rw [getB_app] | rw [getB_app0] | refine addB_f6 ?_ | refine addB_f1 ?_ | refine addB_f0 ?_); conv => whnf)
  have hm1 := hm.up ux
  have hS := S1.read
  have hscm : ∀ (BB : List Nat) (W T : List Int) (P : List Nat) (c0 c1 : Blk), c0 = sBx (.sl (M1.length + 2) 0 Be.length) (.sl (M1.length + 3) 0 Wt.length) (.sl (M1.length + 4) 0 Tr.length) (.sl (M1.length + 5) 0 Sp.length) sky step → c1 = c0 → scM (M1 ++ tuR M1 Be.length Wt.length Tr.length Sp.length BB W T P sky step c0 c1).length (M1 ++ tuR M1 Be.length Wt.length Tr.length Sp.length BB W T P sky step c0 c1) = true := by
    intro BB W T P c0 c1 h0 h1
    subst h1
    subst h0
    exact scM_app (scM_mono (by simp) _ u1.sc) (by simp [tuR, scM, B.sc, scL, V.sc])
  have hbB := fun c (hc : c < 6 * (n * n)) => (tC_lt hn ht hc).1
  refine loop_to (fun k => [I n, .any, I t, .any, .ptr M.length 0, .any, .ptr (M.length + 1) 0, .any, .any, .any, .ptr (b + 1) 0, .any, .ptr (M1.length + 6) 0, .any, .any, .any, .any, .any, .any, .any, .any, .any, .any, .any, .any, .any, .any, .any, .any, .any, .any, .any, .any, .any, .any, .any, .any, .any, .any, .any, .any, .any, .any, .any, .any, .any, .any, .any, .any, .any, .any, I Be.length, I k, .any, .any, .any, .any, .any, .any, .any, .any, .any, .any, .any, .any, .any, .any, .any, .any, .any, .any, .any, .any, .any, .any, .any, .any, .any, .any, .any, .any, .any, .any, .any, .any, .any, .any, .any, .any, .any, .any, .any, .any, .any, .any, .any, .any, .any, .any, .any, .any, .any, .any, .any, .any, .any, .any, .any, .any, .any, .any, .any, .any, .any, .any, .any, .any, .any, .any, .any, .any, .any, .any, .any, .any, .any, .any, .any, .any, .any, .any, .any, .any, .any, .any]) (fun k => M1 ++ tuR M1 Be.length Wt.length Tr.length Sp.length (mvB 0 n t Be (fun i => Be.getD i 0) k) (mvB 0 n t Wt (fun i => Wt.getD i 0) k) (mvB 0 n t Tr (fun i => Tr.getD i 0) k) Sp sky step (sBx (.sl (M1.length + 2) 0 Be.length) (.sl (M1.length + 3) 0 Wt.length) (.sl (M1.length + 4) 0 Tr.length) (.sl (M1.length + 5) 0 Sp.length) sky step) (sBx (.sl (M1.length + 2) 0 Be.length) (.sl (M1.length + 3) 0 Wt.length) (.sl (M1.length + 4) 0 Tr.length) (.sl (M1.length + 5) 0 Sp.length) sky step)) 0 Be.length (Nat.zero_le _) ?_ ?_ ?_
  · refine Fg.of [] ?_ (by rw [List.append_nil, mvB_0 _ _ O.l0, mvB_0 _ _ O.l1, mvB_0 _ _ O.l2]; rfl) (by simp [tuR]) (by first | (simp [scL, V.sc, tuR]; done) | (simp [scL, V.sc, tuR]; omega)) (hscm _ _ _ _ _ _ rfl rfl)
    conv => whnf
    exact ⟨rfl, rfl, rfl, rfl, rfl, rfl, rfl, rfl, rfl⟩
  · intro c _ hc
    have hc6 : c < 6 * (n * n) := by omega
    unfold tuR
    have hT := fun l => turn_c (hm1.app l) hn hn' ht hc6
    have hb6 := hbB c hc6
    have eB := mvB_set hn ht (0 : Nat) Be (fun i => Be.getD i 0) hc6
    have eW := mvB_set hn ht (0 : Int) Wt (fun i => Wt.getD i 0) hc6
    have eT := mvB_set hn ht (0 : Int) Tr (fun i => Tr.getD i 0) hc6
    (conv => whnf); repeat ((first | refine ⟨_, _, hT _, ?_⟩ | rw [hgl] | refine SlF.at (hS.s0.app _) (i := c) hc rfl ?_ | refine SlI.at (hS.s1.app _) (i := c) (by omega) rfl ?_ | refine SlI.at (hS.s2.app _) (i := c) (by omega) rfl ?_ | refine br_yes (mv_blt (hbB c hc6)) ?_ | refine put_at (blkF eB) ?_ | refine put_at (blkI eW) ?_ | refine put_at (blkI eT) ?_ | refine ⟨rfl, ?_⟩ | refine br_d (by omega) ?_ | rw [getB_app]); conv => whnf)
    refine Fg.of [] ?_ (by rw [List.append_nil]; rfl) (by simp [tuR]) (by first | (simp [scL, V.sc, tuR]; done) | (simp [scL, V.sc, tuR]; omega)) (hscm _ _ _ _ _ _ rfl rfl)
    conv => whnf
    exact ⟨rfl, rfl, rfl, rfl, rfl, rfl, rfl, wrapKL (by omega), rfl⟩
  · have e9 : Be.length = 6 * (n * n) := O.l0
    have fB : mvB 0 n t Be (fun i => Be.getD i 0) Be.length = trB 0 n t Be := by rw [e9]; exact mvB_end hn ht _ _ _
    have fW : mvB 0 n t Wt (fun i => Wt.getD i 0) Be.length = trB 0 n t Wt := by rw [e9]; exact mvB_end hn ht _ _ _
    have fT : mvB 0 n t Tr (fun i => Tr.getD i 0) Be.length = trB 0 n t Tr := by rw [e9]; exact mvB_end hn ht _ _ _
    rw [fB, fW, fT]
    have hscq := fun (k : Nat) => hscm (trB 0 n t Be) (trB 0 n t Wt) (trB 0 n t Tr) (mvP n t Sp (fun i => Sp.getD i 0) k) _ _ rfl rfl
    have hP0 : Sp = mvP n t Sp (fun i => Sp.getD i 0) 0 := (mvP_0 Sp e3).symm
    unfold tuR
    (conv => whnf); repeat ((first | rw [hgl] | refine br_nd (by omega) ?_); conv => whnf)
    refine loop_to (fun k => [I n, .any, I t, .any, .ptr M.length 0, .any, .ptr (M.length + 1) 0, .any, .any, .any, .ptr (b + 1) 0, .any, .ptr (M1.length + 6) 0, .any, .any, .any, .any, .any, .any, .any, .any, .any, .any, .any, .any, .any, .any, .any, .any, .any, .any, .any, .any, .any, .any, .any, .any, .any, .any, .any, .any, .any, .any, .any, .any, .any, .any, .any, .any, .any, .any, .any, .any, .any, .any, .any, .any, .any, .any, .any, .any, .any, .any, .any, .any, .any, .any, .any, .any, .any, .any, .any, .any, .any, .any, .any, .any, .any, .any, .any, .any, .any, .any, .any, .any, .any, .any, .any, .any, .any, .any, .sl j3 0 Sp.length, I Sp.length, I k, .any, .any, .any, .any, .any, .any, .any, .any, .any, .any, .any, .any, .any, .any, .any, .any, .any, .any, .any, .any, .any, .any, .any, .any, .any, .any, .any, .any, .any, .any, .any, .any, .any, .any, .any, .any, .any, .any, .any, .any, .any]) (fun k => M1 ++ tuR M1 Be.length Wt.length Tr.length Sp.length (trB 0 n t Be) (trB 0 n t Wt) (trB 0 n t Tr) (mvP n t Sp (fun i => Sp.getD i 0) k) sky step (sBx (.sl (M1.length + 2) 0 Be.length) (.sl (M1.length + 3) 0 Wt.length) (.sl (M1.length + 4) 0 Tr.length) (.sl (M1.length + 5) 0 Sp.length) sky step) (sBx (.sl (M1.length + 2) 0 Be.length) (.sl (M1.length + 3) 0 Wt.length) (.sl (M1.length + 4) 0 Tr.length) (.sl (M1.length + 5) 0 Sp.length) sky step)) 0 Sp.length (Nat.zero_le _) ?_ ?_ ?_
    · refine Fg.of [] ?_ (by rw [List.append_nil]; unfold tuR; rw [← hP0]) (by simp [tuR]) (by first | (simp [scL, V.sc, tuR]; done) | (simp [scL, V.sc, tuR]; omega)) (hscq _)
      conv => whnf
      exact ⟨rfl, rfl, rfl, rfl, rfl, rfl, rfl, rfl, rfl, rfl⟩
    · intro k _ hk
      have hx := List.getElem?_eq_getElem (l := edges n) (show k < (edges n).length by omega)
      generalize (edges n)[k] = y at hx
      obtain ⟨c1, s1, _⟩ := edge_of hn hx
      have hE := fun z => edge_ok (N.more z) k y hx
      have hT := fun l => turn_c (hm1.app l) hn hn' ht c1
      have hA := fun z => around_t hn ht hx _ _ (N.more z)
      have hq4 := (tC_lt hn ht c1).2
      have hsd := side_sum4 s1 hq4
      have eP := mvP_set hn ht Sp (fun i => Sp.getD i 0) (show k < (edges n).length by omega)
      have hbe : tE n t k < (edges n).length := tE_lt hn ht (by omega)
      unfold tuR
      cases hr : tR n t k with
      | true =>
        rw [hr] at hA eP
        (conv => whnf); repeat ((first | refine SlF.at (hS.s3.app _) (i := k) hk rfl ?_ | refine ⟨_, _, hE _, ?_⟩ | refine ⟨_, _, hT _, ?_⟩ | rw [hsd] | refine ⟨_, _, hA _, ?_⟩ | refine ⟨_, _, canon_ok _ _, ?_⟩ | refine br_yes (mv_blt hbe) ?_ | refine put_at (blkF eP) ?_ | refine br_d (by omega) ?_ | refine setB_app ?_ | rw [getB_app] | refine addB_f7 ?_); conv => whnf)
        refine Fg.of [_] ?_ (by rw [List.append_assoc]; rfl) (by simp [tuR]) (by first | (simp [scL, V.sc, tuR]; done) | (simp [scL, V.sc, tuR]; omega)) (hscq _)
        conv => whnf
        exact ⟨rfl, rfl, rfl, rfl, rfl, rfl, rfl, rfl, wrapKL (by omega), rfl⟩
      | false =>
        rw [hr] at hA eP
        (conv => whnf); repeat ((first | refine SlF.at (hS.s3.app _) (i := k) hk rfl ?_ | refine ⟨_, _, hE _, ?_⟩ | refine ⟨_, _, hT _, ?_⟩ | rw [hsd] | refine ⟨_, _, hA _, ?_⟩ | refine br_yes (mv_blt hbe) ?_ | refine put_at (blkF eP) ?_ | refine br_d (by omega) ?_ | refine setB_app ?_ | rw [getB_app] | refine addB_f7 ?_); conv => whnf)
        refine Fg.of [_] ?_ (by rw [List.append_assoc]; rfl) (by simp [tuR]) (by first | (simp [scL, V.sc, tuR]; done) | (simp [scL, V.sc, tuR]; omega)) (hscq _)
        conv => whnf
        exact ⟨rfl, rfl, rfl, rfl, rfl, rfl, rfl, rfl, wrapKL (by omega), rfl⟩
    · have fP : mvP n t Sp (fun i => Sp.getD i 0) Sp.length = trP n t Sp := by rw [e3]; exact mvP_end hn ht _ _
      rw [fP]
      unfold tuR
      have hset : ∀ (l : List Blk) (c : Blk) (K : List Blk → Prop), K (M ++ [sBx (.sl j0 0 Be.length) (.sl j1 0 Wt.length) (.sl j2 0 Tr.length) (.sl j3 0 Sp.length) sky step, c] ++ x ++ l) → setB (M1 ++ l) (M.length + 1) c K := fun l c K hk => by
        rw [hM1, List.append_assoc, List.append_assoc]
        refine setB_app ?_
        simpa using hk
      have hgl2 : ∀ l : List Blk, getB (M1 ++ l) (M.length + 1) = sBx nilS' nilS' nilS' nilS' 0 0 := fun l => by
        rw [hM1, List.append_assoc, List.append_assoc]
        exact getB_app 1
      have hgr : ∀ (d c : Blk) (l : List Blk), getB (M ++ [d, c] ++ x ++ l) (M.length + 1) = c := fun d c l => by
        rw [List.append_assoc, List.append_assoc]
        exact getB_app 1
      (conv => whnf); repeat ((first | rw [hgl2] | refine hset _ _ _ ?_ | rw [hgr] | refine br_nd (by omega) ?_ | rw [getB_app]); conv => whnf)
      refine ⟨rfl, [], ?_⟩
      rw [List.append_nil]
theorem Turned_up {n t : Nat} {sky step : Int} (O : SeaOk n Be Wt Tr Sp sky step) (ht : t < 24) : ∃ M' k0 k1 k2 k3, COk Tryz.prog 3 32 [I n, seaV j0 j1 j2 j3 Be.length Wt.length Tr.length Sp.length sky step, I t] M
      (.tup [seaV k0 k1 k2 k3 (trB 0 n t Be).length (trB 0 n t Wt).length (trB 0 n t Tr).length (trP n t Sp).length sky step, I 0]) M' ∧ Up M M' ∧ SeaB M' true k0 k1 k2 k3 (trB 0 n t Be) (trB 0 n t Wt) (trB 0 n t Tr) (trP n t Sp) := by
  have l0 := S.read.s0.lt
  have l1 := S.read.s1.lt
  have l2 := S.read.s2.lt
  have l3 := S.read.s3.lt
  have hn := O.n1
  have i1 := (inv_ok t ht).1
  have hsq : n * n ≤ 1024 := Nat.mul_le_mul O.n2 O.n2
  have hlen := edges_len hn
  have u0 : Up M (M ++ ([sBx (.sl j0 0 Be.length) (.sl j1 0 Wt.length) (.sl j2 0 Tr.length) (.sl j3 0 Sp.length) sky step, sBx nilS' nilS' nilS' nilS' 0 0] : List Blk)) := Up.of hsc (by simp [scM, B.sc, scL, V.sc]; omega)
  obtain ⟨b, M1, hnew, N, u1⟩ := new_up (hm.up u0) u0.sc n O.n1 O.n2
  obtain ⟨x, hM1⟩ := u1.ex
  obtain ⟨c0, c1, hr, h0, h1⟩ := Turned_raw hm hsc S O ht hM1 hnew N u1
  have hl1 : M1.length = M.length + 2 + x.length := by rw [hM1]; simp; omega
  have hx : scM M1.length x = true := by
    have := u1.sc
    rw [hM1] at this ⊢
    exact (scM_of_app this).2
  rw [show (trB 0 n t Be).length = Be.length from (trB_len _ _ _ _).trans O.l0.symm, show (trB 0 n t Wt).length = Wt.length from (trB_len _ _ _ _).trans O.l1.symm, show (trB 0 n t Tr).length = Tr.length from (trB_len _ _ _ _).trans O.l2.symm, show (trP n t Sp).length = Sp.length from (trP_len _ _ _).trans O.l3.symm]
  refine ⟨_, M1.length + 2, M1.length + 3, M1.length + 4, M1.length + 5, hr, Up.mk ⟨_, by rw [List.append_assoc, List.append_assoc]⟩ ?_, ?_⟩
  · subst h1; subst h0
    refine scM_app (scM_app (scM_app (scM_mono (by simp) _ hsc) ?_) (scM_mono (by rw [hl1]; simp [tuR]; omega) _ hx)) ?_
    · rw [hl1]; simp [scM, B.sc, scL, V.sc, tuR]; omega
    · rw [hl1]; simp [scM, B.sc, scL, V.sc, tuR]; omega
  · have eL : ∀ d c : Blk, M1.length = (M ++ [d, c] ++ x).length := fun d c => by rw [hl1]; simp; omega
    have hw := fun i hi => S.f3 i hi
    have get : ∀ (d c : Blk) (l : List Blk) (k : Nat), getB (M ++ [d, c] ++ x ++ l) (M1.length + k) = getB l k := fun d c l k => by
      rw [eL d c]; exact getB_app k
    have hm2 : mxS ≤ infR := by decide
    refine ⟨get _ _ _ 2, get _ _ _ 3, get _ _ _ 4, get _ _ _ 5, fun i hi => ?_, fun i hi => ?_, fun i hi => ?_, fun i hi => ?_, by rw [trB_len]; omega, by rw [trB_len]; omega, by rw [trB_len]; omega, by rw [trP_len]; omega⟩
    · rw [trB_len] at hi
      unfold trB
      rw [tab_get hi]
      exact S.f0 _ (by rw [O.l0]; exact (tC_lt hn i1 hi).1)
    · rw [trB_len] at hi
      unfold trB
      rw [tab_get hi]
      exact S.f1 _ (by rw [O.l1]; exact (tC_lt hn i1 hi).1)
    · rw [trB_len] at hi
      unfold trB
      rw [tab_get hi]
      exact S.f2 _ (by rw [O.l2]; exact (tC_lt hn i1 hi).1)
    · rw [trP_len] at hi
      unfold trP
      rw [tab_get hi]
      have hq : tE n (inv t) i < Sp.length := by rw [O.l3]; exact tE_lt hn i1 hi
      exact (trS_betw _ (S.f3 _ hq) hm2 (badF_no (O.spd _ hq))).2
end
end Go.Proofs.YtgoljofmbidkfaaGreatDoor
/- Package force: what each function of it answers. No condition. -/
namespace Go.Proofs.YtgoljofmbidkfaaGreatDoor
open Go Go.Eng
set_option maxRecDepth 100000
set_option linter.unusedSimpArgs false
set_option linter.unusedVariables false

/-- What an edge sees of a cell. -/
structure Lk where
  b : Nat
  d : Option Nat
  l : Nat
  w : Bool
abbrev Lk.v (x : Lk) : V := .agg [F x.b, .fl x.d, F x.l, Bo x.w]
def lk (n : Nat) (Be : List Nat) (Wt : List Int) (c : Nat) : Lk := ⟨Be.getD c 0, depthF (Wt.getD c 0) (areaC n c), levelF (Be.getD c 0) (Wt.getD c 0) (areaC n c), decide (Wt.getD c 0 > 0)⟩
abbrev noLk : Lk := ⟨0, some 0, 0, false⟩
def openL (l r : Lk) : Bool := if (!l.w && !r.w) = true then false else if (!l.w && fle (some r.l) (some l.b)) = true then false else if (!r.w && fle (some l.l) (some r.b)) = true then false else true
/-- What a plan says of forces. -/
structure PlF where
  dt : Nat
  gr : Nat
  dr : Nat
abbrev oneW : Nat := 4607182418800017408
abbrev topW : Nat := 4652218415073722368
abbrev lowW : Nat := 13875590451928498176
def pullF (p : PlF) (l r : Lk) (gap : Nat) : Option Nat := fdiv (fmul (fmul (some p.gr) (some p.dt)) (fsub (some r.l) (some l.l))) (some gap)
def capF (o : Option Nat) : Nat := if fgt o (some topW) = true then topW else if flt o (some lowW) = true then lowW else if fne o o = true then 0 else canonF o
def goF (p : PlF) (u h : Option Nat) : Option Nat := fdiv u (fadd (some oneW) (fdiv (fmul (fmul (some p.dr) (some p.dt)) (absO u)) h))
def midF (l r : Lk) : Option Nat := fmul (some halfB) (fadd l.d r.d)
def speedL (p : PlF) (l r : Lk) (gap s : Nat) : Nat :=
  if openL l r = true then (if fgt (midF l r) (some 0) = true then capF (goF p (fsub (some s) (pullF p l r gap)) (midF l r)) else 0) else 0
/-- A sea that fits a net. -/
structure Fit (n : Nat) (a b c d : Nat) : Prop where
  a : a = 6 * (n * n)
  b : b = 6 * (n * n)
  c : c = 6 * (n * n)
  d : d = (edges n).length
section
variable {M : List Blk} {b n : Nat} (N : Net M b n) {j0 j1 j2 j3 : Nat} {Be : List Nat} {Wt Tr : List Int} {Sp : List Nat} (S : SeaR M j0 j1 j2 j3 Be Wt Tr Sp) (sky step : Int)
include N
include S
variable (hf : Fit n Be.length Wt.length Tr.length Sp.length)
include hf
/-- A plan: what its speeds hang on, and the rest. -/
abbrev planV (side : Int) (p : PlF) (lim : Int) (riv : Bool) (ra : Option Addr) (rl rc : Nat) : V := .agg [I side, F p.dt, F p.gr, F p.dr, I lim, Bo riv, .raw (.slice ra rl rc)]
def speedE (n : Nat) (p : PlF) (Be : List Nat) (Wt : List Int) (Sp : List Nat) (e : Nat) (x : Ed) : Nat := speedL p (lk n Be Wt x.1) (lk n Be Wt x.2.2.1) (gpE n x) (Sp.getD e 0)
end
theorem wd_in (s : Bool) {R : Nat} (h : R ≤ infR) : wd s R < 18446744073709551616 := by
  have hi := infR_eq
  cases s
  · rw [wd_false]; omega
  · rw [wd_true]; omega
/-- The speeds over the edges behind a step. -/
def speedT (n : Nat) (p : PlF) (Be : List Nat) (Wt : List Int) (Sp : List Nat) (e : Nat) : Nat := match (edges n)[e]? with
  | some x => speedE n p Be Wt Sp e x
  | none => 0
theorem SlF.tab {M : List Blk} {j : Nat} {w : Bool} {N : Nat} {G : Nat → Nat} (h : getB M j = ⟨w, .flts (tab N G)⟩) (hw : ∀ i, i < N → inF (G i)) (hs : N < 4611686018427387904) : SlF M j 0 (tab N G) :=
  SlF.flts h (fun i hi => ⟨by omega, by rw [Nat.zero_add]⟩) (fun i hi => by
    rw [tab_len] at hi
    rw [tab_get hi]; exact hw i hi) (by rw [tab_len]; exact hs)
section
variable {M : List Blk} {b n : Nat} (hsc : scM M.length M = true) (N : Net M b n) {j0 j1 j2 j3 : Nat} {Be : List Nat} {Wt Tr : List Int} {Sp : List Nat} (S : SeaR M j0 j1 j2 j3 Be Wt Tr Sp) (sky step : Int) (hf : Fit n Be.length Wt.length Tr.length Sp.length) (hn : 1 ≤ n) (hn' : n ≤ 32)
include hsc N S hf hn hn'
end
end Go.Proofs.YtgoljofmbidkfaaGreatDoor
/- Plain facts of forces: noughts, bounds, mirrored edges. No condition. -/
namespace Go.Proofs.YtgoljofmbidkfaaGreatDoor
open Go Go.Eng Ieee
set_option maxRecDepth 100000
set_option linter.unusedSimpArgs false
set_option linter.unusedVariables false

/-- A nought of either sign, or a NaN. -/
def Zn (o : Option Nat) : Prop := o = none ∨ ∃ s, o = some (wd s 0)
/-! ### Bounds -/
def Bnd (v : Nat) : Prop := fge (some v) (some lowW) = true ∧ fle (some v) (some topW) = true ∧ canonF (some v) = v
/-- Opposites, noughts apart. -/
def Opp (x y : Option Nat) : Prop := (x = none ∧ y = none) ∨ (∃ s t, x = some (wd s 0) ∧ y = some (wd t 0)) ∨ ∃ s R, R ≤ infR ∧ x = some (wd s R) ∧ y = some (wd (!s) R)
theorem absB_wd (s : Bool) {R : Nat} (h : R ≤ infR) : absB (wd s R) = R := by
  have hi := infR_eq
  rw [absB_mod (wd_in s h)]
  cases s
  · rw [wd_false]; omega
  · rw [wd_true]; omega
end Go.Proofs.YtgoljofmbidkfaaGreatDoor
/- Plain facts of reconstruction over a flat bed. No condition. -/
namespace Go.Proofs.YtgoljofmbidkfaaGreatDoor
open Go Go.Eng Ieee
set_option maxRecDepth 100000
set_option linter.unusedSimpArgs false
set_option linter.unusedVariables false

theorem mg_le_iff {x y : Nat} {e : Int} (h : mg y e ≤ mg x e) : y ≤ x := by
  rcases Nat.lt_or_ge x y with h1 | h1
  · exact absurd ((mg_lt_iff x y e).2 h1) (Rat.not_lt.2 h)
  · exact h1
theorem sum_dif (m n : Nat) (i j : Int) (h : mg n j ≤ mg m i) : ∃ k, (Ieee.Datum.number false m i).sum (.number true n j) = some (.number false k (min i j)) ∧ mg k (min i j) = mg m i - mg n j := by
  have h1 := mg_shift m i (min i j) (by omega)
  have h2 := mg_shift n j (min i j) (by omega)
  have hle : n <<< (j - min i j).toNat ≤ m <<< (i - min i j).toNat := mg_le_iff (e := min i j) (by rw [h1, h2]; exact h)
  refine ⟨m <<< (i - min i j).toNat - n <<< (j - min i j).toNat, ?_, ?_⟩
  · have hs : ∀ (m k : Nat), Ieee.signed false m k = ((m <<< k : Nat) : Int) := fun _ _ => rfl
    have ht : ∀ (m k : Nat), Ieee.signed true m k = -((m <<< k : Nat) : Int) := fun _ _ => rfl
    have key : ∀ (x y : Nat) (e : Int), y ≤ x → (Ieee.Datum.number (if (x : Int) + -(y : Int) = 0 then false && true else decide ((x : Int) + -(y : Int) < 0)) ((x : Int) + -(y : Int)).natAbs e) = .number false (x - y) e := by
      intro x y e hxy
      have h1 : ((x : Int) + -(y : Int)).natAbs = x - y := by omega
      have h2 : ¬ ((x : Int) + -(y : Int) < 0) := by omega
      rw [h1, decide_eq_false h2]
      congr 1
      split <;> rfl
    unfold Ieee.Datum.sum
    simp only [hs, ht]
    rw [key _ _ _ hle]
  · have := mg_add (m <<< (i - min i j).toNat - n <<< (j - min i j).toNat) (n <<< (j - min i j).toNat) (min i j)
    rw [Nat.sub_add_cancel hle, h1, h2] at this
    rw [this]; grind
theorem sub_rd {R Q : Nat} (hR : R < infR) (hQ : Q < infR) (h : Q ≤ R) : ∃ N, fsub (some R) (some Q) = some N ∧ Rd (vR R - vR Q) N := by
  have hi := infR_eq
  obtain ⟨m, i, d1, v1, _⟩ := dat_num hR false
  obtain ⟨n, j, d2, v2, _⟩ := dat_num hQ false
  have e1 := fsub_is' (wd false R) (wd false Q)
  obtain ⟨k, hk, hv⟩ := sum_dif m n i j (by rw [v1, v2]; exact vR_le h)
  rw [read_wd false (by omega), read_wd false (by omega), d1, d2, show (Ieee.Datum.number false n j).opposite = .number true n j from rfl, hk, Option.map_some, write_num] at e1
  rw [wd_false, wd_false] at e1
  refine ⟨_, e1, ?_⟩
  rw [← v1, ← v2, ← hv]
  exact rd_near _ _
theorem vR_half' : vR halfB = 1 / 2 := by
  have e : vR halfB = mg (2 ^ 52) (-53) := by
    unfold vR
    rw [if_neg (by decide)]
    have e1 : 2 ^ 52 + halfB % 2 ^ 52 = 2 ^ 52 := by decide
    have e2 : halfB / 2 ^ 52 - 1 = 1021 := by decide
    rw [e1, e2]
    congr 1
  rw [e]
  unfold mg
  rw [← two_nat, ← two_add, show ((52 : Nat) : Int) + -53 = -1 by decide]
  have := two_add (-1) 1
  rw [show (-1 : Int) + 1 = 0 by decide, two_0, two_1] at this
  grind
/-- A depth's word. -/
def Dep (o : Option Nat) (R : Nat) : Prop := o = some R ∧ R < infR ∧ (R = 0 ∨ (2 : Rat) ^ (-1000 : Int) ≤ vR R)
end Go.Proofs.YtgoljofmbidkfaaGreatDoor
