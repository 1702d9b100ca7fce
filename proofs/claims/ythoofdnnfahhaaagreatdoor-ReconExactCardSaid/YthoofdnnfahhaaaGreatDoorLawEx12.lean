/- Depth over every edge of every raw sea, at every speed and by every limiter, answers what the document says. The card of ReconExact holds: at every input the law says 'true' and its arguments stay as they were. Conditions: those that the given statement itself names (the two tables laid), and none of our own. -/
import Derived.Test.YthoofdnnfahhaaaGreatDoorQa
import Derived.Test.YthoofdnnfahhaaaGreatDoorEx12
import Derived.Test.YthoofdnnfahhaaaGreatDoorTie
import Derived.Test.YthoofdnnfahhaaaGreatDoorCards
import Derived.SevenTiedAt
namespace Go.Proofs.YthoofdnnfahhaaaGreatDoor
open Go Go.Eng Go.ChangeShapes Go.WideShapes Go.RowKit
set_option maxRecDepth 100000
set_option linter.unusedSimpArgs false
set_option linter.unusedVariables false

set_option maxHeartbeats 0 in
theorem reconExact_lifted (os : Os) (started : os.Started) (H : Type) (enc : TypeId × Value → H) :
    ReturnsInHanded {} Tryz.checked os 6 .any (fun w args => (Rows.reconExactSpec.pre enc Tryz.prog Tryz.f6 [] false w args ∧ laidMetH Tryz.prog laid2 w) ∧ sizedMet enc Tryz.prog Tryz.f6 (OpenSpec.ofChange Rows.reconExactSpec) false w args) (Rows.reconExactSpec.post enc Tryz.prog Tryz.f6 false true false false) := by
  have hpar : Tryz.f6.params = #[60, 3, 26] := Tryz.params6
  have u3 : Tryz.prog.underlying 3 = some (.int .i64) := by kernel_rfl
  have u2 : Tryz.prog.underlying 2 = some (.int .i64) := by kernel_rfl
  have uE : Tryz.prog.underlying 26 = some (.float .f64) := by kernel_rfl
  obtain ⟨fa0, fa1, fa2, uA, _⟩ := under_ask
  refine law_sized Tryz.f6 Rows.reconExactSpec os started Tryz.func6 (by kernel_rfl) (by kernel_rfl) rfl (by kernel_rfl) ?_ ?_
    (ChangeSpec.witness_shaped (enc := enc) (C := Tryz.checked) (os := os) (X := fun w _ => laidMetH Tryz.prog laid2 w) false (World.doorLaid Tryz.prog 400 os) #[.agg #[.int .i64 0, .int .i64 0, .slice none 0 0, .slice none 0 0, .slice none 0 0, .slice none 0 0, .int .i64 0, .int .i64 0], .int .i64 0, .float .f64 0] 12 rfl (World.shaped_of_RefB (by kernel_rfl) (by kernel_rfl)) (by kernel_rfl) (by kernel_rfl) (by kernel_rfl) (door_met os _)) ?_
  · intro t ht
    rw [hpar] at ht
    have ht : t ∈ [60, 3, 26] := ht
    simp only [List.mem_cons, List.not_mem_nil, or_false] at ht
    rcases ht with rfl | rfl | rfl
    all_goals exact ⟨by kernel_rfl, of_decide_eq_true (by kernel_rfl)⟩
  · intro ds hl
    rw [hpar] at hl
    match ds, hl with
    | [d0, d1, d2], _ => rfl
  · intro W base args ds ps hval hA hwt L0
    rw [hpar] at hA hval hwt
    obtain ⟨v0, v1, v2, d0, d1, d2, p0, p1, p2, rfl, rfl, rfl, h0, h1, h2⟩ := trodAll_three hA
    simp only [DataW.weightsEach, List.all_append, Bool.and_eq_true] at hwt
    obtain ⟨w0, w1, w2, _⟩ := hwt
    obtain ⟨c0, rfl, _⟩ := okWide_struct uA (hval 0 _ _ rfl rfl)
    obtain ⟨f0, t0⟩ := h0
    obtain ⟨sd0, li0, y0, be0, wt0, tr0, sp0, sky0, st0, g0, L1, e0, r0, S0, j10, j20⟩ := lay_ask L0 t0 w0
    obtain ⟨x1, rfl⟩ := okWide_int u3 (hval 1 _ _ rfl rfl)
    obtain ⟨x2, rfl⟩ := okWide_float uE (hval 2 _ _ rfl rfl)
    obtain ⟨f2, t2⟩ := h2
    obtain ⟨y'2, q2, _, m2⟩ := trod_float uE t2
    obtain rfl : x2 = y'2 := by injection q2 with q q'; injection q with _ q
    have hm : Top (GG ([] ++ y0)) := ⟨_, rfl⟩
    have hsc := L1.sc
    exact ⟨[askV sd0 li0 (GG ([])).length ((GG ([])).length + 1) ((GG ([])).length + 2) ((GG ([])).length + 3) be0.length wt0.length tr0.length sp0.length sky0 st0, I x1, F x2], _, _, L1, exact12_ok hm hsc sd0 li0 S0 sky0 st0 x1 x2, _, _, rfl, ⟨c0, rfl, r0⟩, _, _, rfl, rfl, _, _, rfl, ⟨_, rfl, rfl⟩, rfl⟩
set_option maxHeartbeats 0 in
theorem reconExact_holds : Rows.ReconExactSaid :=
  OpenClaim.holds_of_wide 6 Tryz.f6 rfl rfl rfl rfl rfl rfl rfl ⟨rfl, rfl, rfl, rfl, rfl⟩ rfl rfl rfl rfl rfl (by kernel_rfl) Tryz.func6 (by kernel_rfl)
    (of_decide_eq_true (by kernel_rfl)) (by unfold Func.isWrapper; first | (rw [if_pos (by decide +kernel)]; kernel_rfl) | (rw [if_neg (by decide +kernel)]; exact ⟨rfl, rfl⟩))
    (fun os started H enc _ => reconExact_lifted os started H enc)
set_option maxHeartbeats 0 in
theorem reconExact_card_holds : Rows.ReconExactCardSaid :=
  Claim7.holds_tied_plain_at .later [] [.wider, .data] true (true, "bf3ace20cc2e9359859b258286acbe6964e2a7329101e681c430f298ce7cbc1c") false
    reconExact_holds (fun _ h => by cases h) (by kernel_rfl) (fun _ h => by cases h) reconExact_row_tie rfl ⟨rfl, rfl⟩ (by kernel_rfl) rfl
    (fun f fn hf hfn => by
      obtain rfl : f = 6 := Option.some.inj ((show Tryz.prog.funcNamed "tarn/tarnlaw12.ReconExact" = some 6 by kernel_rfl).symm.trans hf) |>.symm
      obtain rfl : fn = Tryz.f6 := (Option.some.inj (Tryz.func6.symm.trans hfn)).symm
      exact ⟨by kernel_rfl, fun j t ht => by
        rw [show Tryz.f6.params = #[60, 3, 26] from Tryz.params6] at ht
        have ht : t ∈ [60, 3, 26] := by
          have := Array.mem_of_getElem? ht
          simpa using this
        simp only [List.mem_cons, List.not_mem_nil, or_false] at ht
        rcases ht with rfl | rfl | rfl
        all_goals exact (show Tryz.prog.wantsStandIn _ = false by kernel_rfl)⟩)
    (by kernel_rfl)
end Go.Proofs.YthoofdnnfahhaaaGreatDoor
