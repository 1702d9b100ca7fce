/- Move of every waters and flows, over the net of every side and of none, answers what the document says. The card of MassExact holds: at every input the law says 'true' and its arguments stay as they were. Conditions: those that the given statement itself names (the two tables laid), and none of our own. -/
import Derived.Test.YthoofdnnfahhaaaGreatDoorQw
import Derived.Test.YthoofdnnfahhaaaGreatDoorMx
import Derived.Test.YthoofdnnfahhaaaGreatDoorTie
import Derived.Test.YthoofdnnfahhaaaGreatDoorCards
import Derived.SevenTiedAt
namespace Go.Proofs.YthoofdnnfahhaaaGreatDoor
open Go Go.Eng Go.ChangeShapes Go.WideShapes Go.RowKit
set_option maxRecDepth 100000
set_option linter.unusedSimpArgs false
set_option linter.unusedVariables false

set_option maxHeartbeats 0 in
theorem massExact_lifted (os : Os) (started : os.Started) (H : Type) (enc : TypeId × Value → H) :
    ReturnsInHanded {} Tryz.checked os 5 .any (fun w args => (Rows.massExactSpec.pre enc Tryz.prog Tryz.f5 [] false w args ∧ laidMetH Tryz.prog laid2 w) ∧ sizedMet enc Tryz.prog Tryz.f5 (OpenSpec.ofChange Rows.massExactSpec) false w args) (Rows.massExactSpec.post enc Tryz.prog Tryz.f5 false true false false) := by
  have hpar : Tryz.f5.params = #[3, 50, 50] := Tryz.params5
  have u3 : Tryz.prog.underlying 3 = some (.int .i64) := by kernel_rfl
  have u2 : Tryz.prog.underlying 2 = some (.int .i64) := by kernel_rfl
  have uS : Tryz.prog.underlying 50 = some (.slice 2) := by kernel_rfl
  have uE : Tryz.prog.underlying 2 = some (.int .i64) := by kernel_rfl
  refine law_sized Tryz.f5 Rows.massExactSpec os started Tryz.func5 (by kernel_rfl) (by kernel_rfl) rfl (by kernel_rfl) ?_ ?_
    (ChangeSpec.witness_shaped (enc := enc) (C := Tryz.checked) (os := os) (X := fun w _ => laidMetH Tryz.prog laid2 w) false (World.doorLaid Tryz.prog 400 os) #[.int .i64 0, .slice none 0 0, .slice none 0 0] 8 rfl (World.shaped_of_RefB (by kernel_rfl) (by kernel_rfl)) (by kernel_rfl) (by kernel_rfl) (by kernel_rfl) (door_met os _)) ?_
  · intro t ht
    rw [hpar] at ht
    have ht : t ∈ [3, 50, 50] := ht
    simp only [List.mem_cons, List.not_mem_nil, or_false] at ht
    rcases ht with rfl | rfl | rfl
    all_goals exact ⟨by kernel_rfl, of_decide_eq_true (by kernel_rfl)⟩
  · intro ds hl
    rw [hpar] at hl
    match ds, hl with
    | [d0, d1, d2], _ => rfl
  · intro W base args ds ps hval hA hwt L0
    rw [hpar] at hA hval hwt
    obtain ⟨v0, v1, v2, d0, d1, d2, p0, p1, p2, rfl, rfl, rfl, h0, h1, h2⟩ := trodAll_three hA
    simp only [DataW.weightsEach, List.all_append, Bool.and_eq_true] at hwt
    obtain ⟨w0, w1, w2, _⟩ := hwt
    obtain ⟨x0, rfl⟩ := okWide_int u3 (hval 0 _ _ rfl rfl)
    obtain ⟨_, _, _, rfl⟩ := okWide_slice uS (hval 1 _ _ rfl rfl)
    obtain ⟨_, t1⟩ := h1
    obtain ⟨b0, u0, l0, g0, L1, e0, s0, r0, z0⟩ := lay_ints L0 uS uE (by kernel_rfl) (by kernel_rfl) t1 w1
    obtain ⟨_, _, _, rfl⟩ := okWide_slice uS (hval 2 _ _ rfl rfl)
    obtain ⟨_, t2⟩ := h2
    obtain ⟨b1, u1, l1, g1, L2, e1, s1, r1, z1⟩ := lay_ints L1 uS uE (by kernel_rfl) (by kernel_rfl) t2 w2
    have hm : Top (GG ([] ++ [b0] ++ [b1])) := ⟨_, rfl⟩
    have hsc := L2.sc
    exact ⟨[I x0, u0, u1], _, _, L2, exact15_ok hm hsc x0 (s0.app [b1]) s1, _, _, rfl, rfl, _, _, rfl, (Rv_mono (by simp) e1 _ r0), _, _, rfl, r1, rfl⟩
set_option maxHeartbeats 0 in
theorem massExact_holds : Rows.MassExactSaid :=
  OpenClaim.holds_of_wide 5 Tryz.f5 rfl rfl rfl rfl rfl rfl rfl ⟨rfl, rfl, rfl, rfl, rfl⟩ rfl rfl rfl rfl rfl (by kernel_rfl) Tryz.func5 (by kernel_rfl)
    (of_decide_eq_true (by kernel_rfl)) (by unfold Func.isWrapper; first | (rw [if_pos (by decide +kernel)]; kernel_rfl) | (rw [if_neg (by decide +kernel)]; exact ⟨rfl, rfl⟩))
    (fun os started H enc _ => massExact_lifted os started H enc)
set_option maxHeartbeats 0 in
theorem massExact_card_holds : Rows.MassExactCardSaid :=
  Claim7.holds_tied_plain_at .later [] [.wider, .data] true (true, "bf3ace20cc2e9359859b258286acbe6964e2a7329101e681c430f298ce7cbc1c") false
    massExact_holds (fun _ h => by cases h) (by kernel_rfl) (fun _ h => by cases h) massExact_row_tie rfl ⟨rfl, rfl⟩ (by kernel_rfl) rfl
    (fun f fn hf hfn => by
      obtain rfl : f = 5 := Option.some.inj ((show Tryz.prog.funcNamed "tarn/tarnlaw15.MassExact" = some 5 by kernel_rfl).symm.trans hf) |>.symm
      obtain rfl : fn = Tryz.f5 := (Option.some.inj (Tryz.func5.symm.trans hfn)).symm
      exact ⟨by kernel_rfl, fun j t ht => by
        rw [show Tryz.f5.params = #[3, 50, 50] from Tryz.params5] at ht
        have ht : t ∈ [3, 50, 50] := by
          have := Array.mem_of_getElem? ht
          simpa using this
        simp only [List.mem_cons, List.not_mem_nil, or_false] at ht
        rcases ht with rfl | rfl | rfl
        all_goals exact (show Tryz.prog.wantsStandIn _ = false by kernel_rfl)⟩)
    (by kernel_rfl)
end Go.Proofs.YthoofdnnfahhaaaGreatDoor
