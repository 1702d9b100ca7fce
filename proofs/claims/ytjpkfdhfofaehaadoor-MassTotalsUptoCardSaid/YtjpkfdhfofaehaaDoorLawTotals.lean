/- Total of every numbers. The card of MassTotals holds: at every input of bulk up to 1048576 the law says 'true' and its arguments stay as they were. Conditions: those that the given statement itself names (the two tables laid), and none of our own. -/
import Derived.Test.YtjpkfdhfofaehaaDoorQm
import Derived.Test.YtjpkfdhfofaehaaDoorMref
import Derived.Test.YtjpkfdhfofaehaaDoorTie
import Derived.Test.YtjpkfdhfofaehaaDoorCards
import Derived.SevenTiedAt
namespace Go.Proofs.YtjpkfdhfofaehaaDoor
open Go Go.Eng Go.ChangeShapes Go.WideShapes Go.RowKit
set_option maxRecDepth 100000
set_option linter.unusedSimpArgs false
set_option linter.unusedVariables false

set_option maxHeartbeats 0 in
theorem massTotals_lifted (os : Os) (started : os.Started) (H : Type) (enc : TypeId × Value → H) :
    ReturnsInHanded {} Tryd.checked os 3 .any (fun w args => ((Rows.OpenSpec.upto Rows.massTotalsSpec).pre enc Tryd.prog Tryd.f3 [] false w args ∧ laidMetH Tryd.prog laid2 w) ∧ sizedMet enc Tryd.prog Tryd.f3 (Rows.OpenSpec.upto Rows.massTotalsSpec) false w args) (Rows.massTotalsSpec.post enc Tryd.prog Tryd.f3 false true false false) := by
  have hpar : Tryd.f3.params = #[22, 22] := Tryd.params3
  have u3 : Tryd.prog.underlying 3 = some (.int .i64) := by kernel_rfl
  have u2 : Tryd.prog.underlying 2 = some (.int .i64) := by kernel_rfl
  have uS : Tryd.prog.underlying 22 = some (.slice 2) := by kernel_rfl
  have uE : Tryd.prog.underlying 2 = some (.int .i64) := by kernel_rfl
  refine law_upto Tryd.f3 Rows.massTotalsSpec os started Tryd.func3 (by kernel_rfl) (by kernel_rfl) rfl (by kernel_rfl) ?_ ?_
    (witness_upto (enc := enc) (C := Tryd.checked) (os := os) (X := fun w _ => laidMetH Tryd.prog laid2 w) (World.doorLaid Tryd.prog 400 os) #[.slice none 0 0, .slice none 0 0] 8 rfl (World.shaped_of_RefB (by kernel_rfl) (by kernel_rfl)) (by kernel_rfl) (by kernel_rfl) (by kernel_rfl) (door_met os _)) ?_
  · intro t ht
    rw [hpar] at ht
    have ht : t ∈ [22, 22] := ht
    simp only [List.mem_cons, List.not_mem_nil, or_false] at ht
    rcases ht with rfl | rfl
    all_goals exact ⟨by kernel_rfl, of_decide_eq_true (by kernel_rfl)⟩
  · intro ds hl
    rw [hpar] at hl
    match ds, hl with
    | [d0, d1], _ => rfl
  · intro W base args ds ps hval hA hwt hbk L0
    rw [hpar] at hA hval hwt
    obtain ⟨v0, v1, d0, d1, p0, p1, rfl, rfl, rfl, h0, h1⟩ := trodAll_two hA
    simp only [DataW.weightsEach, List.all_append, Bool.and_eq_true] at hwt
    obtain ⟨w0, w1, _⟩ := hwt
    obtain ⟨_, _, _, rfl⟩ := okWide_slice uS (hval 0 _ _ rfl rfl)
    obtain ⟨_, t0⟩ := h0
    obtain ⟨b0, u0, l0, g0, L1, e0, s0, r0, z0, k0⟩ := lay_bulk L0 uS uE (by kernel_rfl) (by kernel_rfl) t0 w0
    obtain ⟨_, _, _, rfl⟩ := okWide_slice uS (hval 1 _ _ rfl rfl)
    obtain ⟨_, t1⟩ := h1
    obtain ⟨b1, u1, l1, g1, L2, e1, s1, r1, z1, k1⟩ := lay_bulk L1 uS uE (by kernel_rfl) (by kernel_rfl) t1 w1
    simp only [Rows.uptoBulkAll] at hbk
    have hm : Top (GG ([] ++ [b0] ++ [b1])) := ⟨_, rfl⟩
    have hsc := L2.sc
    exact ⟨[u0, u1], _, _, L2, totals15_ok hm hsc ((s0.app [b1])) (s1) (by omega) (by omega), _, _, rfl, (Rv_mono (by simp) e1 _ r0), _, _, rfl, r1, rfl⟩
set_option maxHeartbeats 0 in
theorem massTotals_holds : Rows.MassTotalsUptoSaid :=
  OpenClaim.holds_of_cond 3 Tryd.f3 rfl rfl rfl rfl rfl rfl rfl ⟨rfl, rfl, rfl, rfl, rfl⟩ rfl rfl rfl rfl rfl (by kernel_rfl) Tryd.func3 (by kernel_rfl)
    (of_decide_eq_true (by kernel_rfl)) (by unfold Func.isWrapper; first | (rw [if_pos (by decide +kernel)]; kernel_rfl) | (rw [if_neg (by decide +kernel)]; exact ⟨rfl, rfl⟩))
    (fun os started H enc _ _ => massTotals_lifted os started H enc)
set_option maxHeartbeats 0 in
theorem massTotals_card_holds : Rows.MassTotalsUptoCardSaid :=
  Claim7.holds_tied_plain_at .later [] [.wider, .data] true (true, "c7cd848fccdb71c86bc1eeb059bd12d451d3db5fce284aa8eb79b1ba2fb04724") false
    massTotals_holds (fun _ h => by cases h) (by kernel_rfl) (fun _ h => by cases h) massTotalsUpto_row_tie rfl ⟨rfl, rfl⟩ (by kernel_rfl) rfl
    (fun f fn hf hfn => by
      obtain rfl : f = 3 := Option.some.inj ((show Tryd.prog.funcNamed "tarn/tarnlaw15.MassTotals" = some 3 by kernel_rfl).symm.trans hf) |>.symm
      obtain rfl : fn = Tryd.f3 := (Option.some.inj (Tryd.func3.symm.trans hfn)).symm
      exact ⟨by kernel_rfl, fun j t ht => by
        rw [show Tryd.f3.params = #[22, 22] from Tryd.params3] at ht
        have ht : t ∈ [22, 22] := by
          have := Array.mem_of_getElem? ht
          simpa using this
        simp only [List.mem_cons, List.not_mem_nil, or_false] at ht
        rcases ht with rfl | rfl
        all_goals exact (show Tryd.prog.wantsStandIn _ = false by kernel_rfl)⟩)
    (by kernel_rfl)
end Go.Proofs.YtjpkfdhfofaehaaDoor
