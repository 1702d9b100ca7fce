import Derived.Test.YtgoljofmbidkfaaGreatDoorKr
import Derived.Test.YtgoljofmbidkfaaGreatDoorLo
import Derived.Test.YtgoljofmbidkfaaGreatDoorTie
import Derived.Test.YtgoljofmbidkfaaGreatDoorCards
import Derived.SevenTiedAt
/- StateLakes: The card of StateLakes holds: at every input the law says 'true' and its arguments stay as they were. Conditions: those that the given statement itself names (the two tables laid), and none of our own. -/
namespace Go.Proofs.YtgoljofmbidkfaaGreatDoor
open Go Go.Eng Go.ChangeShapes Go.WideShapes Go.RowKit
set_option maxRecDepth 100000
set_option linter.unusedSimpArgs false
set_option linter.unusedVariables false

set_option maxHeartbeats 0 in
theorem stateLakes_lifted (os : Os) (started : os.Started) (H : Type) (enc : TypeId × Value → H) :
    ReturnsInHanded {} Tryz.checked os 11 .any (fun w args => (Rows.stateLakesSpec.pre enc Tryz.prog Tryz.f11 [] false w args ∧ laidMetH Tryz.prog laid2 w) ∧ sizedMet enc Tryz.prog Tryz.f11 (OpenSpec.ofChange Rows.stateLakesSpec) false w args) (Rows.stateLakesSpec.post enc Tryz.prog Tryz.f11 false true false false) := by
  have hpar : Tryz.f11.params = #[3, 42, 51] := Tryz.params11
  have u3 : Tryz.prog.underlying 3 = some (.int .i64) := by kernel_rfl
  have u2 : Tryz.prog.underlying 2 = some (.int .i64) := by kernel_rfl
  have uE : Tryz.prog.underlying 51 = some (.float .f64) := by kernel_rfl
  have uL : Tryz.prog.underlying 42 = some (.slice 51) := by kernel_rfl
  refine law_sized Tryz.f11 Rows.stateLakesSpec os started Tryz.func11 (by kernel_rfl) (by kernel_rfl) rfl (by kernel_rfl) ?_ ?_
    (ChangeSpec.witness_shaped (enc := enc) (C := Tryz.checked) (os := os) (X := fun w _ => laidMetH Tryz.prog laid2 w) false (World.doorLaid Tryz.prog 400 os) #[.int .i64 0, .slice none 0 0, .float .f64 0] 12 rfl (World.shaped_of_RefB (by kernel_rfl) (by kernel_rfl)) (by kernel_rfl) (by kernel_rfl) (by kernel_rfl) (door_met os _)) ?_
  · intro t ht
    rw [hpar] at ht
    have ht : t ∈ [3, 42, 51] := ht
    simp only [List.mem_cons, List.not_mem_nil, or_false] at ht
    rcases ht with rfl | rfl | rfl
    all_goals exact ⟨by kernel_rfl, of_decide_eq_true (by kernel_rfl)⟩
  · intro ds hl
    rw [hpar] at hl
    match ds, hl with
    | [d0, d1, d2], _ => rfl
  · intro W base args ds ps hval hA hwt L0
    rw [hpar] at hA hval hwt
    obtain ⟨v0, v1, v2, d0, d1, d2, p0, p1, p2, rfl, rfl, rfl, h0, h1, h2⟩ := trodAll_three hA
    simp only [DataW.weightsEach, List.all_append, Bool.and_eq_true] at hwt
    obtain ⟨w0, w1, w2, _⟩ := hwt
    obtain ⟨x0, rfl⟩ := okWide_int u3 (hval 0 _ _ rfl rfl)
    obtain ⟨_, _, _, rfl⟩ := okWide_slice uL (hval 1 _ _ rfl rfl)
    obtain ⟨_, t1⟩ := h1
    obtain ⟨fl0, g0, L1, e0, r0, s0, z0⟩ := lay_fltsB L0 uL uE (by kernel_rfl) (by kernel_rfl) t1 w1
    have S0 : getB (GG ([] ++ [⟨false, .flts fl0⟩])) ((GG ([])).length) = ⟨false, .flts fl0⟩ := show getB (GG ([]) ++ [⟨false, .flts fl0⟩]) _ = _ from getB_app0
    obtain ⟨x2, rfl⟩ := okWide_float uE (hval 2 _ _ rfl rfl)
    obtain ⟨f2, t2⟩ := h2
    obtain ⟨y'2, q2, _, m2⟩ := trod_float uE t2
    obtain rfl : x2 = y'2 := by injection q2 with q q'; injection q with _ q
    have hm : Top (GG ([] ++ [⟨false, .flts fl0⟩])) := ⟨_, rfl⟩
    have hsc := L1.sc
    exact ⟨[I x0, .sl ((GG ([])).length) 0 fl0.length, F x2], _, _, L1, lakes20_ok hm hsc S0 s0 z0 x0 x2 (wf64 m2), _, _, rfl, rfl, _, _, rfl, r0, _, _, rfl, ⟨_, rfl, rfl⟩, rfl⟩
set_option maxHeartbeats 0 in
theorem stateLakes_holds : Rows.StateLakesSaid :=
  OpenClaim.holds_of_wide 11 Tryz.f11 rfl rfl rfl rfl rfl rfl rfl ⟨rfl, rfl, rfl, rfl, rfl⟩ rfl rfl rfl rfl rfl (by kernel_rfl) Tryz.func11 (by kernel_rfl)
    (of_decide_eq_true (by kernel_rfl)) (by unfold Func.isWrapper; first | (rw [if_pos (by decide +kernel)]; kernel_rfl) | (rw [if_neg (by decide +kernel)]; exact ⟨rfl, rfl⟩))
    (fun os started H enc _ => stateLakes_lifted os started H enc)
set_option maxHeartbeats 0 in
theorem stateLakes_card_holds : Rows.StateLakesCardSaid :=
  Claim7.holds_tied_plain_at .later [] [.wider, .data] true (true, "6a2759aa14fefb370a91d499db92705ce90c4bcfb17086d2b4fabd49b7d63514") false
    stateLakes_holds (fun _ h => by cases h) (by kernel_rfl) (fun _ h => by cases h) stateLakes_row_tie rfl ⟨rfl, rfl⟩ (by kernel_rfl) rfl
    (fun f fn hf hfn => by
      obtain rfl : f = 11 := Option.some.inj ((show Tryz.prog.funcNamed "tarn/tarnlaw20.StateLakes" = some 11 by kernel_rfl).symm.trans hf) |>.symm
      obtain rfl : fn = Tryz.f11 := (Option.some.inj (Tryz.func11.symm.trans hfn)).symm
      exact ⟨by kernel_rfl, fun j t ht => by
        rw [show Tryz.f11.params = #[3, 42, 51] from Tryz.params11] at ht
        have ht : t ∈ [3, 42, 51] := by
          have := Array.mem_of_getElem? ht
          simpa using this
        simp only [List.mem_cons, List.not_mem_nil, or_false] at ht
        rcases ht with rfl | rfl | rfl
        all_goals exact (show Tryz.prog.wantsStandIn _ = false by kernel_rfl)⟩)
    (by kernel_rfl)
end Go.Proofs.YtgoljofmbidkfaaGreatDoor
