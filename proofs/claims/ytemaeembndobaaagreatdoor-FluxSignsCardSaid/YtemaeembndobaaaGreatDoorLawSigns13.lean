/- Nothing goes of nothing, and what goes has the sign of the speed. The card of FluxSigns holds: at every input the law says 'true' and its arguments stay as they were. Conditions: those that the given statement itself names (the two tables laid), and none of our own. -/
import Derived.Test.YtemaeembndobaaaGreatDoorQ4
import Derived.Test.YtemaeembndobaaaGreatDoorSigns13
import Derived.Test.YtemaeembndobaaaGreatDoorTie
import Derived.Test.YtemaeembndobaaaGreatDoorCards
import Derived.SevenTiedAt
namespace Go.Proofs.YtemaeembndobaaaGreatDoor
open Go Go.Eng Go.ChangeShapes Go.WideShapes Go.RowKit
set_option maxRecDepth 100000
set_option linter.unusedSimpArgs false
set_option linter.unusedVariables false

set_option maxHeartbeats 0 in
theorem fluxSigns_lifted (os : Os) (started : os.Started) (H : Type) (enc : TypeId × Value → H) :
    ReturnsInHanded {} Tryz.checked os 3 .any (fun w args => (Rows.fluxSignsSpec.pre enc Tryz.prog Tryz.f3 [] false w args ∧ laidMetH Tryz.prog laid2 w) ∧ sizedMet enc Tryz.prog Tryz.f3 (OpenSpec.ofChange Rows.fluxSignsSpec) false w args) (Rows.fluxSignsSpec.post enc Tryz.prog Tryz.f3 false true false false) := by
  have hpar : Tryz.f3.params = #[24, 22] := Tryz.params3
  have u3 : Tryz.prog.underlying 3 = some (.int .i64) := by kernel_rfl
  have u2 : Tryz.prog.underlying 2 = some (.int .i64) := by kernel_rfl
  have uE : Tryz.prog.underlying 22 = some (.float .f64) := by kernel_rfl
  obtain ⟨fsF, uF, _⟩ := under_four
  refine law_sized Tryz.f3 Rows.fluxSignsSpec os started Tryz.func3 (by kernel_rfl) (by kernel_rfl) rfl (by kernel_rfl) ?_ ?_
    (ChangeSpec.witness_shaped (enc := enc) (C := Tryz.checked) (os := os) (X := fun w _ => laidMetH Tryz.prog laid2 w) false (World.doorLaid Tryz.prog 400 os) #[.agg #[.float .f64 0, .float .f64 0, .float .f64 0, .float .f64 0], .float .f64 0] 12 rfl (World.shaped_of_RefB (by kernel_rfl) (by kernel_rfl)) (by kernel_rfl) (by kernel_rfl) (by kernel_rfl) (door_met os _)) ?_
  · intro t ht
    rw [hpar] at ht
    have ht : t ∈ [24, 22] := ht
    simp only [List.mem_cons, List.not_mem_nil, or_false] at ht
    rcases ht with rfl | rfl
    all_goals exact ⟨by kernel_rfl, of_decide_eq_true (by kernel_rfl)⟩
  · intro ds hl
    rw [hpar] at hl
    match ds, hl with
    | [d0, d1], _ => rfl
  · intro W base args ds ps hval hA hwt L0
    rw [hpar] at hA hval hwt
    obtain ⟨v0, v1, d0, d1, p0, p1, rfl, rfl, rfl, h0, h1⟩ := trodAll_two hA
    simp only [DataW.weightsEach, List.all_append, Bool.and_eq_true] at hwt
    obtain ⟨w0, w1, _⟩ := hwt
    obtain ⟨c0, rfl, _⟩ := okWide_struct uF (hval 0 _ _ rfl rfl)
    obtain ⟨f0, t0⟩ := h0
    obtain ⟨fu0, fd0, fl0, ft0, hc0, i10, i20, i30, i40⟩ := open_four t0
    obtain ⟨x1, rfl⟩ := okWide_float uE (hval 1 _ _ rfl rfl)
    obtain ⟨f1, t1⟩ := h1
    obtain ⟨y'1, q1, _, m1⟩ := trod_float uE t1
    obtain rfl : x1 = y'1 := by injection q1 with q q'; injection q with _ q
    have hm : Top (GG ([])) := ⟨_, rfl⟩
    have hsc := L0.sc
    exact ⟨[(.agg [F fu0, F fd0, F fl0, F ft0]), F x1], _, _, L0, signs13_ok hm hsc fu0 fd0 fl0 ft0 x1 i10 i20 i30 i40 (wf64 m1), _, _, rfl, ⟨c0, rfl, by rw [show c0.toList = _ from hc0]; exact ⟨_, _, rfl, ⟨_, rfl, rfl⟩, _, _, rfl, ⟨_, rfl, rfl⟩, _, _, rfl, ⟨_, rfl, rfl⟩, _, _, rfl, ⟨_, rfl, rfl⟩, rfl⟩⟩, _, _, rfl, ⟨_, rfl, rfl⟩, rfl⟩
set_option maxHeartbeats 0 in
theorem fluxSigns_holds : Rows.FluxSignsSaid :=
  OpenClaim.holds_of_wide 3 Tryz.f3 rfl rfl rfl rfl rfl rfl rfl ⟨rfl, rfl, rfl, rfl, rfl⟩ rfl rfl rfl rfl rfl (by kernel_rfl) Tryz.func3 (by kernel_rfl)
    (of_decide_eq_true (by kernel_rfl)) (by unfold Func.isWrapper; first | (rw [if_pos (by decide +kernel)]; kernel_rfl) | (rw [if_neg (by decide +kernel)]; exact ⟨rfl, rfl⟩))
    (fun os started H enc _ => fluxSigns_lifted os started H enc)
set_option maxHeartbeats 0 in
theorem fluxSigns_card_holds : Rows.FluxSignsCardSaid :=
  Claim7.holds_tied_plain_at .later [] [.wider, .data] true (true, "4387efd8faab32e8b1cb328ee5edda2c64748e17442f5b4a15e781128faa0162") false
    fluxSigns_holds (fun _ h => by cases h) (by kernel_rfl) (fun _ h => by cases h) fluxSigns_row_tie rfl ⟨rfl, rfl⟩ (by kernel_rfl) rfl
    (fun f fn hf hfn => by
      obtain rfl : f = 3 := Option.some.inj ((show Tryz.prog.funcNamed "tarn/tarnlaw13.FluxSigns" = some 3 by kernel_rfl).symm.trans hf) |>.symm
      obtain rfl : fn = Tryz.f3 := (Option.some.inj (Tryz.func3.symm.trans hfn)).symm
      exact ⟨by kernel_rfl, fun j t ht => by
        rw [show Tryz.f3.params = #[24, 22] from Tryz.params3] at ht
        have ht : t ∈ [24, 22] := by
          have := Array.mem_of_getElem? ht
          simpa using this
        simp only [List.mem_cons, List.not_mem_nil, or_false] at ht
        rcases ht with rfl | rfl
        all_goals exact (show Tryz.prog.wantsStandIn _ = false by kernel_rfl)⟩)
    (by kernel_rfl)
end Go.Proofs.YtemaeembndobaaaGreatDoor
