/- Every call of geom, at all arguments, answers what the document says. The card of GeomAll holds: at every input the law says 'true' and its arguments stay as they were. Conditions: those that the given statement itself names (the two tables laid), and none of our own. -/
import Derived.Test.YthoofdnnfahhaaaGreatDoorQ6
import Derived.Test.YthoofdnnfahhaaaGreatDoorAll8
import Derived.Test.YthoofdnnfahhaaaGreatDoorTie
import Derived.Test.YthoofdnnfahhaaaGreatDoorCards
import Derived.SevenTiedAt
namespace Go.Proofs.YthoofdnnfahhaaaGreatDoor
open Go Go.Eng Go.ChangeShapes Go.WideShapes Go.RowKit
set_option maxRecDepth 100000
set_option linter.unusedSimpArgs false
set_option linter.unusedVariables false

set_option maxHeartbeats 0 in
theorem geomAll_lifted (os : Os) (started : os.Started) (H : Type) (enc : TypeId × Value → H) :
    ReturnsInHanded {} Tryz.checked os 3 .any (fun w args => (Rows.geomAllSpec.pre enc Tryz.prog Tryz.f3 [] false w args ∧ laidMetH Tryz.prog laid2 w) ∧ sizedMet enc Tryz.prog Tryz.f3 (OpenSpec.ofChange Rows.geomAllSpec) false w args) (Rows.geomAllSpec.post enc Tryz.prog Tryz.f3 false true false false) := by
  have hpar : Tryz.f3.params = #[22] := Tryz.params3
  have uS : Tryz.prog.underlying 22 = some (.slice 25) := by kernel_rfl
  refine law_sized Tryz.f3 Rows.geomAllSpec os started Tryz.func3 (by kernel_rfl) (by kernel_rfl) rfl (by kernel_rfl) ?_ ?_
    (ChangeSpec.witness_shaped (enc := enc) (C := Tryz.checked) (os := os) (X := fun w _ => laidMetH Tryz.prog laid2 w) false (World.doorLaid Tryz.prog 400 os) #[.slice none 0 0] 12 rfl (World.shaped_of_RefB (by kernel_rfl) (by kernel_rfl)) (by kernel_rfl) (by kernel_rfl) (by kernel_rfl) (door_met os _)) ?_
  · intro t ht
    rw [hpar] at ht
    have ht : t ∈ [22] := ht
    simp only [List.mem_cons, List.not_mem_nil, or_false] at ht
    rcases ht with rfl
    all_goals exact ⟨by kernel_rfl, of_decide_eq_true (by kernel_rfl)⟩
  · intro ds hl
    rw [hpar] at hl
    match ds, hl with
    | [d0], _ => rfl
  · intro W base args ds ps hval hA hwt L0
    rw [hpar] at hA hval hwt
    obtain ⟨v0, d0, rfl, rfl, h0⟩ := trodAll_one hA
    simp only [DataW.weightsEach, List.all_append, Bool.and_eq_true] at hwt
    obtain ⟨w0, _⟩ := hwt
    obtain ⟨_, _, _, rfl⟩ := okWide_slice uS (hval 0 _ _ rfl rfl)
    obtain ⟨_, t0⟩ := h0
    obtain ⟨l, n, g0, L1, e0, r0, s0, z0, q0⟩ := lay_ops L0 uS t0 w0
    have hm : Top (GG ([] ++ [⟨false, .ints .i64 l⟩])) := ⟨_, rfl⟩
    have hb : getB (GG ([] ++ [⟨false, .ints .i64 l⟩])) (GG []).length = ⟨false, .ints .i64 l⟩ := show getB (GG [] ++ [⟨false, .ints .i64 l⟩]) (GG []).length = _ from getB_app0
    have hsc := L1.sc
    exact ⟨[.sl (GG []).length 0 n], _, _, L1, all8_ok hm hsc hb s0 z0 q0, _, _, rfl, r0, rfl⟩
set_option maxHeartbeats 0 in
theorem geomAll_holds : Rows.GeomAllSaid :=
  OpenClaim.holds_of_wide 3 Tryz.f3 rfl rfl rfl rfl rfl rfl rfl ⟨rfl, rfl, rfl, rfl, rfl⟩ rfl rfl rfl rfl rfl (by kernel_rfl) Tryz.func3 (by kernel_rfl)
    (of_decide_eq_true (by kernel_rfl)) (by unfold Func.isWrapper; first | (rw [if_pos (by decide +kernel)]; kernel_rfl) | (rw [if_neg (by decide +kernel)]; exact ⟨rfl, rfl⟩))
    (fun os started H enc _ => geomAll_lifted os started H enc)
set_option maxHeartbeats 0 in
theorem geomAll_card_holds : Rows.GeomAllCardSaid :=
  Claim7.holds_tied_plain_at .later [] [.wider, .data] true (true, "bf3ace20cc2e9359859b258286acbe6964e2a7329101e681c430f298ce7cbc1c") false
    geomAll_holds (fun _ h => by cases h) (by kernel_rfl) (fun _ h => by cases h) geomAll_row_tie rfl ⟨rfl, rfl⟩ (by kernel_rfl) rfl
    (fun f fn hf hfn => by
      obtain rfl : f = 3 := Option.some.inj ((show Tryz.prog.funcNamed "tarn/tarnlaw08.GeomAll" = some 3 by kernel_rfl).symm.trans hf) |>.symm
      obtain rfl : fn = Tryz.f3 := (Option.some.inj (Tryz.func3.symm.trans hfn)).symm
      exact ⟨by kernel_rfl, fun j t ht => by
        rw [show Tryz.f3.params = #[22] from Tryz.params3] at ht
        have ht : t ∈ [22] := by
          have := Array.mem_of_getElem? ht
          simpa using this
        simp only [List.mem_cons, List.not_mem_nil, or_false] at ht
        rcases ht with rfl
        all_goals exact (show Tryz.prog.wantsStandIn _ = false by kernel_rfl)⟩)
    (by kernel_rfl)
end Go.Proofs.YthoofdnnfahhaaaGreatDoor
