import Derived.Test.YtgoljofmbidkfaaGreatDoorKr
import Derived.Test.YtgoljofmbidkfaaGreatDoorLt
import Derived.Test.YtgoljofmbidkfaaGreatDoorTie
import Derived.Test.YtgoljofmbidkfaaGreatDoorCards
import Derived.SevenTiedAt
/- What a turn makes of every raw sea is the document's; it can be, and turn 0 leaves it. The card of StateTurned holds: at every input the law says 'true' and its arguments stay as they were. Conditions: those that the given statement itself names (the two tables laid), and none of our own. -/
namespace Go.Proofs.YtgoljofmbidkfaaGreatDoor
open Go Go.Eng Go.ChangeShapes Go.WideShapes Go.RowKit
set_option maxRecDepth 100000
set_option linter.unusedSimpArgs false
set_option linter.unusedVariables false

set_option maxHeartbeats 0 in
theorem stateTurned_lifted (os : Os) (started : os.Started) (H : Type) (enc : TypeId × Value → H) :
    ReturnsInHanded {} Tryz.checked os 8 .any (fun w args => (Rows.stateTurnedSpec.pre enc Tryz.prog Tryz.f8 [] false w args ∧ laidMetH Tryz.prog laid2 w) ∧ sizedMet enc Tryz.prog Tryz.f8 (OpenSpec.ofChange Rows.stateTurnedSpec) false w args) (Rows.stateTurnedSpec.post enc Tryz.prog Tryz.f8 false true false false) := by
  have hpar : Tryz.f8.params = #[3, 45, 3] := Tryz.params8
  have u3 : Tryz.prog.underlying 3 = some (.int .i64) := by kernel_rfl
  have u2 : Tryz.prog.underlying 2 = some (.int .i64) := by kernel_rfl
  have uE : Tryz.prog.underlying 51 = some (.float .f64) := by kernel_rfl
  obtain ⟨fsS, uS, _⟩ := under_sea
  refine law_sized Tryz.f8 Rows.stateTurnedSpec os started Tryz.func8 (by kernel_rfl) (by kernel_rfl) rfl (by kernel_rfl) ?_ ?_
    (ChangeSpec.witness_shaped (enc := enc) (C := Tryz.checked) (os := os) (X := fun w _ => laidMetH Tryz.prog laid2 w) false (World.doorLaid Tryz.prog 400 os) #[.int .i64 0, .agg #[.slice none 0 0, .slice none 0 0, .slice none 0 0, .slice none 0 0, .int .i64 0, .int .i64 0], .int .i64 0] 12 rfl (World.shaped_of_RefB (by kernel_rfl) (by kernel_rfl)) (by kernel_rfl) (by kernel_rfl) (by kernel_rfl) (door_met os _)) ?_
  · intro t ht
    rw [hpar] at ht
    have ht : t ∈ [3, 45, 3] := ht
    simp only [List.mem_cons, List.not_mem_nil, or_false] at ht
    rcases ht with rfl | rfl | rfl
    all_goals exact ⟨by kernel_rfl, of_decide_eq_true (by kernel_rfl)⟩
  · intro ds hl
    rw [hpar] at hl
    match ds, hl with
    | [d0, d1, d2], _ => rfl
  · intro W base args ds ps hval hA hwt L0
    rw [hpar] at hA hval hwt
    obtain ⟨v0, v1, v2, d0, d1, d2, p0, p1, p2, rfl, rfl, rfl, h0, h1, h2⟩ := trodAll_three hA
    simp only [DataW.weightsEach, List.all_append, Bool.and_eq_true] at hwt
    obtain ⟨w0, w1, w2, _⟩ := hwt
    obtain ⟨x0, rfl⟩ := okWide_int u3 (hval 0 _ _ rfl rfl)
    obtain ⟨c1, rfl, _⟩ := okWide_struct uS (hval 1 _ _ rfl rfl)
    obtain ⟨f1, t1⟩ := h1
    obtain ⟨y0, be1, wt1, tr1, sp1, sky1, st1, g0, L1, e0, r0, S0, j10, j20⟩ := lay_sea L0 t1 w1
    obtain ⟨x2, rfl⟩ := okWide_int u3 (hval 2 _ _ rfl rfl)
    have hm : Top (GG ([] ++ y0)) := ⟨_, rfl⟩
    have hsc := L1.sc
    exact ⟨[I x0, seaV (GG ([])).length ((GG ([])).length + 1) ((GG ([])).length + 2) ((GG ([])).length + 3) be1.length wt1.length tr1.length sp1.length sky1 st1, I x2], _, _, L1, turned20_ok hm hsc S0 x0 sky1 st1 x2, _, _, rfl, rfl, _, _, rfl, ⟨c1, rfl, r0⟩, _, _, rfl, rfl, rfl⟩
set_option maxHeartbeats 0 in
theorem stateTurned_holds : Rows.StateTurnedSaid :=
  OpenClaim.holds_of_wide 8 Tryz.f8 rfl rfl rfl rfl rfl rfl rfl ⟨rfl, rfl, rfl, rfl, rfl⟩ rfl rfl rfl rfl rfl (by kernel_rfl) Tryz.func8 (by kernel_rfl)
    (of_decide_eq_true (by kernel_rfl)) (by unfold Func.isWrapper; first | (rw [if_pos (by decide +kernel)]; kernel_rfl) | (rw [if_neg (by decide +kernel)]; exact ⟨rfl, rfl⟩))
    (fun os started H enc _ => stateTurned_lifted os started H enc)
set_option maxHeartbeats 0 in
theorem stateTurned_card_holds : Rows.StateTurnedCardSaid :=
  Claim7.holds_tied_plain_at .later [] [.wider, .data] true (true, "6a2759aa14fefb370a91d499db92705ce90c4bcfb17086d2b4fabd49b7d63514") false
    stateTurned_holds (fun _ h => by cases h) (by kernel_rfl) (fun _ h => by cases h) stateTurned_row_tie rfl ⟨rfl, rfl⟩ (by kernel_rfl) rfl
    (fun f fn hf hfn => by
      obtain rfl : f = 8 := Option.some.inj ((show Tryz.prog.funcNamed "tarn/tarnlaw20.StateTurned" = some 8 by kernel_rfl).symm.trans hf) |>.symm
      obtain rfl : fn = Tryz.f8 := (Option.some.inj (Tryz.func8.symm.trans hfn)).symm
      exact ⟨by kernel_rfl, fun j t ht => by
        rw [show Tryz.f8.params = #[3, 45, 3] from Tryz.params8] at ht
        have ht : t ∈ [3, 45, 3] := by
          have := Array.mem_of_getElem? ht
          simpa using this
        simp only [List.mem_cons, List.not_mem_nil, or_false] at ht
        rcases ht with rfl | rfl | rfl
        all_goals exact (show Tryz.prog.wantsStandIn _ = false by kernel_rfl)⟩)
    (by kernel_rfl)
end Go.Proofs.YtgoljofmbidkfaaGreatDoor
