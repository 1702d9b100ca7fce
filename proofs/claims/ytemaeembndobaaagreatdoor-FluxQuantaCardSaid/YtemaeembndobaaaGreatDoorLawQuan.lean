/- What goes is, of all floats, what the document answers. The card of FluxQuanta holds: at every input the law says 'true' and its arguments stay as they were. Conditions: those that the given statement itself names (the two tables laid), and none of our own. -/
import Derived.Test.YtemaeembndobaaaGreatDoorQ5
import Derived.Test.YtemaeembndobaaaGreatDoorQuan
import Derived.Test.YtemaeembndobaaaGreatDoorTie
import Derived.Test.YtemaeembndobaaaGreatDoorCards
import Derived.SevenTiedAt
namespace Go.Proofs.YtemaeembndobaaaGreatDoor
open Go Go.Eng Go.ChangeShapes Go.WideShapes Go.RowKit
set_option maxRecDepth 100000
set_option linter.unusedSimpArgs false
set_option linter.unusedVariables false

set_option maxHeartbeats 0 in
theorem fluxQuanta_lifted (os : Os) (started : os.Started) (H : Type) (enc : TypeId × Value → H) :
    ReturnsInHanded {} Tryz.checked os 7 .any (fun w args => (Rows.fluxQuantaSpec.pre enc Tryz.prog Tryz.f7 [] false w args ∧ laidMetH Tryz.prog laid2 w) ∧ sizedMet enc Tryz.prog Tryz.f7 (OpenSpec.ofChange Rows.fluxQuantaSpec) false w args) (Rows.fluxQuantaSpec.post enc Tryz.prog Tryz.f7 false true false false) := by
  have hpar : Tryz.f7.params = #[57] := Tryz.params7
  have uS : Tryz.prog.underlying 57 = some (.slice 24) := by kernel_rfl
  refine law_sized Tryz.f7 Rows.fluxQuantaSpec os started Tryz.func7 (by kernel_rfl) (by kernel_rfl) rfl (by kernel_rfl) ?_ ?_
    (ChangeSpec.witness_shaped (enc := enc) (C := Tryz.checked) (os := os) (X := fun w _ => laidMetH Tryz.prog laid2 w) false (World.doorLaid Tryz.prog 400 os) #[.slice none 0 0] 12 rfl (World.shaped_of_RefB (by kernel_rfl) (by kernel_rfl)) (by kernel_rfl) (by kernel_rfl) (by kernel_rfl) (door_met os _)) ?_
  · intro t ht
    rw [hpar] at ht
    have ht : t ∈ [57] := ht
    simp only [List.mem_cons, List.not_mem_nil, or_false] at ht
    rcases ht with rfl
    all_goals exact ⟨by kernel_rfl, of_decide_eq_true (by kernel_rfl)⟩
  · intro ds hl
    rw [hpar] at hl
    match ds, hl with
    | [d0], _ => rfl
  · intro W base args ds ps hval hA hwt L0
    rw [hpar] at hA hval hwt
    obtain ⟨v0, d0, rfl, rfl, h0⟩ := trodAll_one hA
    simp only [DataW.weightsEach, List.all_append, Bool.and_eq_true] at hwt
    obtain ⟨w0, _⟩ := hwt
    obtain ⟨_, _, _, rfl⟩ := okWide_slice uS (hval 0 _ _ rfl rfl)
    obtain ⟨_, t0⟩ := h0
    obtain ⟨l, n, g0, L1, e0, r0, s0, z0, q0⟩ := lay_fours L0 uS t0 w0
    have hm : Top (GG ([] ++ [⟨false, .flts l⟩])) := ⟨_, rfl⟩
    have hb : getB (GG ([] ++ [⟨false, .flts l⟩])) (GG []).length = ⟨false, .flts l⟩ := show getB (GG [] ++ [⟨false, .flts l⟩]) (GG []).length = _ from getB_app0
    have hsc := L1.sc
    exact ⟨[.sl (GG []).length 0 n], _, _, L1, quan13_ok hm hsc hb s0 z0 q0, _, _, rfl, r0, rfl⟩
set_option maxHeartbeats 0 in
theorem fluxQuanta_holds : Rows.FluxQuantaSaid :=
  OpenClaim.holds_of_wide 7 Tryz.f7 rfl rfl rfl rfl rfl rfl rfl ⟨rfl, rfl, rfl, rfl, rfl⟩ rfl rfl rfl rfl rfl (by kernel_rfl) Tryz.func7 (by kernel_rfl)
    (of_decide_eq_true (by kernel_rfl)) (by unfold Func.isWrapper; first | (rw [if_pos (by decide +kernel)]; kernel_rfl) | (rw [if_neg (by decide +kernel)]; exact ⟨rfl, rfl⟩))
    (fun os started H enc _ => fluxQuanta_lifted os started H enc)
set_option maxHeartbeats 0 in
theorem fluxQuanta_card_holds : Rows.FluxQuantaCardSaid :=
  Claim7.holds_tied_plain_at .later [] [.wider, .data] true (true, "4387efd8faab32e8b1cb328ee5edda2c64748e17442f5b4a15e781128faa0162") false
    fluxQuanta_holds (fun _ h => by cases h) (by kernel_rfl) (fun _ h => by cases h) fluxQuanta_row_tie rfl ⟨rfl, rfl⟩ (by kernel_rfl) rfl
    (fun f fn hf hfn => by
      obtain rfl : f = 7 := Option.some.inj ((show Tryz.prog.funcNamed "tarn/tarnlaw13.FluxQuanta" = some 7 by kernel_rfl).symm.trans hf) |>.symm
      obtain rfl : fn = Tryz.f7 := (Option.some.inj (Tryz.func7.symm.trans hfn)).symm
      exact ⟨by kernel_rfl, fun j t ht => by
        rw [show Tryz.f7.params = #[57] from Tryz.params7] at ht
        have ht : t ∈ [57] := by
          have := Array.mem_of_getElem? ht
          simpa using this
        simp only [List.mem_cons, List.not_mem_nil, or_false] at ht
        rcases ht with rfl
        all_goals exact (show Tryz.prog.wantsStandIn _ = false by kernel_rfl)⟩)
    (by kernel_rfl)
end Go.Proofs.YtemaeembndobaaaGreatDoor
