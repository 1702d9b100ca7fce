import Derived.Test.YtgoljofmbidkfaaGreatDoorQ7
import Derived.Test.YtgoljofmbidkfaaGreatDoorPq
import Derived.Test.YtgoljofmbidkfaaGreatDoorTie
import Derived.Test.YtgoljofmbidkfaaGreatDoorCards
import Derived.SevenTiedAt
/- StatePlans: The card of StatePlans holds: at every input the law says 'true' and its arguments stay as they were. Conditions: those that the given statement itself names (the two tables laid), and none of our own. -/
namespace Go.Proofs.YtgoljofmbidkfaaGreatDoor
open Go Go.Eng Go.ChangeShapes Go.WideShapes Go.RowKit
set_option maxRecDepth 100000
set_option linter.unusedSimpArgs false
set_option linter.unusedVariables false

set_option maxHeartbeats 0 in
theorem statePlans_lifted (os : Os) (started : os.Started) (H : Type) (enc : TypeId × Value → H) :
    ReturnsInHanded {} Tryz.checked os 5 .any (fun w args => (Rows.statePlansSpec.pre enc Tryz.prog Tryz.f5 [] false w args ∧ laidMetH Tryz.prog laid2 w) ∧ sizedMet enc Tryz.prog Tryz.f5 (OpenSpec.ofChange Rows.statePlansSpec) false w args) (Rows.statePlansSpec.post enc Tryz.prog Tryz.f5 false true false false) := by
  have hpar : Tryz.f5.params = #[54] := Tryz.params5
  have u3 : Tryz.prog.underlying 3 = some (.int .i64) := by kernel_rfl
  have u2 : Tryz.prog.underlying 2 = some (.int .i64) := by kernel_rfl
  have uE : Tryz.prog.underlying 51 = some (.float .f64) := by kernel_rfl
  obtain ⟨fsP, uP, _⟩ := under_plan
  refine law_sized Tryz.f5 Rows.statePlansSpec os started Tryz.func5 (by kernel_rfl) (by kernel_rfl) rfl (by kernel_rfl) ?_ ?_
    (ChangeSpec.witness_shaped (enc := enc) (C := Tryz.checked) (os := os) (X := fun w _ => laidMetH Tryz.prog laid2 w) false (World.doorLaid Tryz.prog 400 os) #[.agg #[.int .i64 0, .float .f64 0, .float .f64 0, .float .f64 0, .int .i64 0, .bool false, .slice none 0 0]] 12 rfl (World.shaped_of_RefB (by kernel_rfl) (by kernel_rfl)) (by kernel_rfl) (by kernel_rfl) (by kernel_rfl) (door_met os _)) ?_
  · intro t ht
    rw [hpar] at ht
    have ht : t ∈ [54] := ht
    simp only [List.mem_cons, List.not_mem_nil, or_false] at ht
    rcases ht with rfl
    all_goals exact ⟨by kernel_rfl, of_decide_eq_true (by kernel_rfl)⟩
  · intro ds hl
    rw [hpar] at hl
    match ds, hl with
    | [d0], _ => rfl
  · intro W base args ds ps hval hA hwt L0
    rw [hpar] at hA hval hwt
    obtain ⟨v0, d0, rfl, rfl, h0⟩ := trodAll_one hA
    simp only [DataW.weightsEach, List.all_append, Bool.and_eq_true] at hwt
    obtain ⟨w0, _⟩ := hwt
    obtain ⟨c0, rfl, _⟩ := okWide_struct uP (hval 0 _ _ rfl rfl)
    obtain ⟨f0, t0⟩ := h0
    obtain ⟨sd0, dt0, gr0, dr0, li0, ri0, rl0, rn0, g0, L1, e0, r0, S0, i10, i20, i30, i40, i50⟩ := lay_plan L0 t0 w0
    have hm : Top (GG ([] ++ [⟨false, .ints .i64 rl0⟩])) := ⟨_, rfl⟩
    have hsc := L1.sc
    exact ⟨[planW sd0 dt0 gr0 dr0 li0 ri0 ((GG ([])).length) rn0], _, _, L1, plans20_ok hm hsc S0 sd0 dt0 gr0 dr0 li0 ri0 i20, _, _, rfl, ⟨c0, rfl, r0⟩, rfl⟩
set_option maxHeartbeats 0 in
theorem statePlans_holds : Rows.StatePlansSaid :=
  OpenClaim.holds_of_wide 5 Tryz.f5 rfl rfl rfl rfl rfl rfl rfl ⟨rfl, rfl, rfl, rfl, rfl⟩ rfl rfl rfl rfl rfl (by kernel_rfl) Tryz.func5 (by kernel_rfl)
    (of_decide_eq_true (by kernel_rfl)) (by unfold Func.isWrapper; first | (rw [if_pos (by decide +kernel)]; kernel_rfl) | (rw [if_neg (by decide +kernel)]; exact ⟨rfl, rfl⟩))
    (fun os started H enc _ => statePlans_lifted os started H enc)
set_option maxHeartbeats 0 in
theorem statePlans_card_holds : Rows.StatePlansCardSaid :=
  Claim7.holds_tied_plain_at .later [] [.wider, .data] true (true, "6a2759aa14fefb370a91d499db92705ce90c4bcfb17086d2b4fabd49b7d63514") false
    statePlans_holds (fun _ h => by cases h) (by kernel_rfl) (fun _ h => by cases h) statePlans_row_tie rfl ⟨rfl, rfl⟩ (by kernel_rfl) rfl
    (fun f fn hf hfn => by
      obtain rfl : f = 5 := Option.some.inj ((show Tryz.prog.funcNamed "tarn/tarnlaw20.StatePlans" = some 5 by kernel_rfl).symm.trans hf) |>.symm
      obtain rfl : fn = Tryz.f5 := (Option.some.inj (Tryz.func5.symm.trans hfn)).symm
      exact ⟨by kernel_rfl, fun j t ht => by
        rw [show Tryz.f5.params = #[54] from Tryz.params5] at ht
        have ht : t ∈ [54] := by
          have := Array.mem_of_getElem? ht
          simpa using this
        simp only [List.mem_cons, List.not_mem_nil, or_false] at ht
        rcases ht with rfl
        all_goals exact (show Tryz.prog.wantsStandIn _ = false by kernel_rfl)⟩)
    (by kernel_rfl)
end Go.Proofs.YtgoljofmbidkfaaGreatDoor
