/- Depths of every raw sea, at its own speeds, are the document's. The card of ReconDepths holds: at every input the law says 'true' and its arguments stay as they were. Conditions: those that the given statement itself names (the two tables laid), and none of our own. -/
import Derived.Test.YthoofdnnfahhaaaGreatDoorQa
import Derived.Test.YthoofdnnfahhaaaGreatDoorDp
import Derived.Test.YthoofdnnfahhaaaGreatDoorTie
import Derived.Test.YthoofdnnfahhaaaGreatDoorCards
import Derived.SevenTiedAt
namespace Go.Proofs.YthoofdnnfahhaaaGreatDoor
open Go Go.Eng Go.ChangeShapes Go.WideShapes Go.RowKit
set_option maxRecDepth 100000
set_option linter.unusedSimpArgs false
set_option linter.unusedVariables false

set_option maxHeartbeats 0 in
theorem reconDepths_lifted (os : Os) (started : os.Started) (H : Type) (enc : TypeId × Value → H) :
    ReturnsInHanded {} Tryz.checked os 10 .any (fun w args => (Rows.reconDepthsSpec.pre enc Tryz.prog Tryz.f10 [] false w args ∧ laidMetH Tryz.prog laid2 w) ∧ sizedMet enc Tryz.prog Tryz.f10 (OpenSpec.ofChange Rows.reconDepthsSpec) false w args) (Rows.reconDepthsSpec.post enc Tryz.prog Tryz.f10 false true false false) := by
  have hpar : Tryz.f10.params = #[60] := Tryz.params10
  have u3 : Tryz.prog.underlying 3 = some (.int .i64) := by kernel_rfl
  have u2 : Tryz.prog.underlying 2 = some (.int .i64) := by kernel_rfl
  have uE : Tryz.prog.underlying 26 = some (.float .f64) := by kernel_rfl
  obtain ⟨fa0, fa1, fa2, uA, _⟩ := under_ask
  refine law_sized Tryz.f10 Rows.reconDepthsSpec os started Tryz.func10 (by kernel_rfl) (by kernel_rfl) rfl (by kernel_rfl) ?_ ?_
    (ChangeSpec.witness_shaped (enc := enc) (C := Tryz.checked) (os := os) (X := fun w _ => laidMetH Tryz.prog laid2 w) false (World.doorLaid Tryz.prog 400 os) #[.agg #[.int .i64 0, .int .i64 0, .slice none 0 0, .slice none 0 0, .slice none 0 0, .slice none 0 0, .int .i64 0, .int .i64 0]] 12 rfl (World.shaped_of_RefB (by kernel_rfl) (by kernel_rfl)) (by kernel_rfl) (by kernel_rfl) (by kernel_rfl) (door_met os _)) ?_
  · intro t ht
    rw [hpar] at ht
    have ht : t ∈ [60] := ht
    simp only [List.mem_cons, List.not_mem_nil, or_false] at ht
    rcases ht with rfl
    all_goals exact ⟨by kernel_rfl, of_decide_eq_true (by kernel_rfl)⟩
  · intro ds hl
    rw [hpar] at hl
    match ds, hl with
    | [d0], _ => rfl
  · intro W base args ds ps hval hA hwt L0
    rw [hpar] at hA hval hwt
    obtain ⟨v0, d0, rfl, rfl, h0⟩ := trodAll_one hA
    simp only [DataW.weightsEach, List.all_append, Bool.and_eq_true] at hwt
    obtain ⟨w0, _⟩ := hwt
    obtain ⟨c0, rfl, _⟩ := okWide_struct uA (hval 0 _ _ rfl rfl)
    obtain ⟨f0, t0⟩ := h0
    obtain ⟨sd0, li0, y0, be0, wt0, tr0, sp0, sky0, st0, g0, L1, e0, r0, S0, j10, j20⟩ := lay_ask L0 t0 w0
    have hm : Top (GG ([] ++ y0)) := ⟨_, rfl⟩
    have hsc := L1.sc
    exact ⟨[askV sd0 li0 (GG ([])).length ((GG ([])).length + 1) ((GG ([])).length + 2) ((GG ([])).length + 3) be0.length wt0.length tr0.length sp0.length sky0 st0], _, _, L1, depths12_ok hm hsc sd0 li0 S0 sky0 st0, _, _, rfl, ⟨c0, rfl, r0⟩, rfl⟩
set_option maxHeartbeats 0 in
theorem reconDepths_holds : Rows.ReconDepthsSaid :=
  OpenClaim.holds_of_wide 10 Tryz.f10 rfl rfl rfl rfl rfl rfl rfl ⟨rfl, rfl, rfl, rfl, rfl⟩ rfl rfl rfl rfl rfl (by kernel_rfl) Tryz.func10 (by kernel_rfl)
    (of_decide_eq_true (by kernel_rfl)) (by unfold Func.isWrapper; first | (rw [if_pos (by decide +kernel)]; kernel_rfl) | (rw [if_neg (by decide +kernel)]; exact ⟨rfl, rfl⟩))
    (fun os started H enc _ => reconDepths_lifted os started H enc)
set_option maxHeartbeats 0 in
theorem reconDepths_card_holds : Rows.ReconDepthsCardSaid :=
  Claim7.holds_tied_plain_at .later [] [.wider, .data] true (true, "bf3ace20cc2e9359859b258286acbe6964e2a7329101e681c430f298ce7cbc1c") false
    reconDepths_holds (fun _ h => by cases h) (by kernel_rfl) (fun _ h => by cases h) reconDepths_row_tie rfl ⟨rfl, rfl⟩ (by kernel_rfl) rfl
    (fun f fn hf hfn => by
      obtain rfl : f = 10 := Option.some.inj ((show Tryz.prog.funcNamed "tarn/tarnlaw12.ReconDepths" = some 10 by kernel_rfl).symm.trans hf) |>.symm
      obtain rfl : fn = Tryz.f10 := (Option.some.inj (Tryz.func10.symm.trans hfn)).symm
      exact ⟨by kernel_rfl, fun j t ht => by
        rw [show Tryz.f10.params = #[60] from Tryz.params10] at ht
        have ht : t ∈ [60] := by
          have := Array.mem_of_getElem? ht
          simpa using this
        simp only [List.mem_cons, List.not_mem_nil, or_false] at ht
        rcases ht with rfl
        all_goals exact (show Tryz.prog.wantsStandIn _ = false by kernel_rfl)⟩)
    (by kernel_rfl)
end Go.Proofs.YthoofdnnfahhaaaGreatDoor
