/- Waters and flows that are handed in stay, spare room too; what is answered is new memory. The card of MassMemory holds: at every input the law says 'true' and its arguments stay as they were. Conditions: those that the given statement itself names (the two tables laid), and none of our own. -/
import Derived.Test.YtemaeembndobaaaDoorQw
import Derived.Test.YtemaeembndobaaaDoorMem15
import Derived.Test.YtemaeembndobaaaDoorTie
import Derived.Test.YtemaeembndobaaaDoorCards
import Derived.SevenTiedAt
namespace Go.Proofs.YtemaeembndobaaaDoor
open Go Go.Eng Go.ChangeShapes Go.WideShapes Go.RowKit
set_option maxRecDepth 100000
set_option linter.unusedSimpArgs false
set_option linter.unusedVariables false

set_option maxHeartbeats 0 in
theorem massMemory_lifted (os : Os) (started : os.Started) (H : Type) (enc : TypeId × Value → H) :
    ReturnsInHanded {} Tryd.checked os 3 .any (fun w args => (Rows.massMemorySpec.pre enc Tryd.prog Tryd.f3 [] false w args ∧ laidMetH Tryd.prog laid2 w) ∧ sizedMet enc Tryd.prog Tryd.f3 (OpenSpec.ofChange Rows.massMemorySpec) false w args) (Rows.massMemorySpec.post enc Tryd.prog Tryd.f3 false true false false) := by
  have hpar : Tryd.f3.params = #[3, 22, 22] := Tryd.params3
  have u3 : Tryd.prog.underlying 3 = some (.int .i64) := by kernel_rfl
  have u2 : Tryd.prog.underlying 2 = some (.int .i64) := by kernel_rfl
  have uS : Tryd.prog.underlying 22 = some (.slice 2) := by kernel_rfl
  have uE : Tryd.prog.underlying 2 = some (.int .i64) := by kernel_rfl
  refine law_sized Tryd.f3 Rows.massMemorySpec os started Tryd.func3 (by kernel_rfl) (by kernel_rfl) rfl (by kernel_rfl) ?_ ?_
    (ChangeSpec.witness_shaped (enc := enc) (C := Tryd.checked) (os := os) (X := fun w _ => laidMetH Tryd.prog laid2 w) false (World.doorLaid Tryd.prog 400 os) #[.int .i64 0, .slice none 0 0, .slice none 0 0] 8 rfl (World.shaped_of_RefB (by kernel_rfl) (by kernel_rfl)) (by kernel_rfl) (by kernel_rfl) (by kernel_rfl) (door_met os _)) ?_
  · intro t ht
    rw [hpar] at ht
    have ht : t ∈ [3, 22, 22] := ht
    simp only [List.mem_cons, List.not_mem_nil, or_false] at ht
    rcases ht with rfl | rfl | rfl
    all_goals exact ⟨by kernel_rfl, of_decide_eq_true (by kernel_rfl)⟩
  · intro ds hl
    rw [hpar] at hl
    match ds, hl with
    | [d0, d1, d2], _ => rfl
  · intro W base args ds ps hval hA hwt L0
    rw [hpar] at hA hval hwt
    obtain ⟨v0, v1, v2, d0, d1, d2, p0, p1, p2, rfl, rfl, rfl, h0, h1, h2⟩ := trodAll_three hA
    simp only [DataW.weightsEach, List.all_append, Bool.and_eq_true] at hwt
    obtain ⟨w0, w1, w2, _⟩ := hwt
    obtain ⟨x0, rfl⟩ := okWide_int u3 (hval 0 _ _ rfl rfl)
    obtain ⟨_, _, _, rfl⟩ := okWide_slice uS (hval 1 _ _ rfl rfl)
    obtain ⟨_, t1⟩ := h1
    obtain ⟨l0, g0, L1, e0, r0, s0, z0⟩ := lay_intsB L0 uS uE (by kernel_rfl) (by kernel_rfl) t1 w1
    obtain ⟨_, _, _, rfl⟩ := okWide_slice uS (hval 2 _ _ rfl rfl)
    obtain ⟨_, t2⟩ := h2
    obtain ⟨l1, g1, L2, e1, r1, s1, z1⟩ := lay_intsB L1 uS uE (by kernel_rfl) (by kernel_rfl) t2 w2
    have hm : Top (GG ([] ++ [⟨false, .ints .i64 l0⟩] ++ [⟨false, .ints .i64 l1⟩])) := ⟨_, rfl⟩
    have hb1 : getB (GG ([] ++ [⟨false, .ints .i64 l0⟩] ++ [⟨false, .ints .i64 l1⟩])) (GG []).length = ⟨false, .ints .i64 l0⟩ := show getB ((GG [] ++ [⟨false, .ints .i64 l0⟩]) ++ [⟨false, .ints .i64 l1⟩]) (GG []).length = _ from getB_in getB_app0 rfl
    have hb2 : getB (GG ([] ++ [⟨false, .ints .i64 l0⟩] ++ [⟨false, .ints .i64 l1⟩])) (GG ([] ++ [⟨false, .ints .i64 l0⟩])).length = ⟨false, .ints .i64 l1⟩ := show getB (GG ([] ++ [⟨false, .ints .i64 l0⟩]) ++ [⟨false, .ints .i64 l1⟩]) (GG ([] ++ [⟨false, .ints .i64 l0⟩])).length = _ from getB_app0
    have hsc := L2.sc
    exact ⟨[I x0, .sl (GG []).length 0 l0.length, .sl (GG ([] ++ [⟨false, .ints .i64 l0⟩])).length 0 l1.length], _, _, L2, memory15_ok hm hsc x0 hb1 hb2 s0 s1, _, _, rfl, rfl, _, _, rfl, (Rv_mono (by simp) e1 _ r0), _, _, rfl, r1, rfl⟩
set_option maxHeartbeats 0 in
theorem massMemory_holds : Rows.MassMemorySaid :=
  OpenClaim.holds_of_wide 3 Tryd.f3 rfl rfl rfl rfl rfl rfl rfl ⟨rfl, rfl, rfl, rfl, rfl⟩ rfl rfl rfl rfl rfl (by kernel_rfl) Tryd.func3 (by kernel_rfl)
    (of_decide_eq_true (by kernel_rfl)) (by unfold Func.isWrapper; first | (rw [if_pos (by decide +kernel)]; kernel_rfl) | (rw [if_neg (by decide +kernel)]; exact ⟨rfl, rfl⟩))
    (fun os started H enc _ => massMemory_lifted os started H enc)
set_option maxHeartbeats 0 in
theorem massMemory_card_holds : Rows.MassMemoryCardSaid :=
  Claim7.holds_tied_plain_at .later [] [.wider, .data] true (true, "e8fbebc5bf12c1aab18fd260d1103f96ae837fa63aa3ef3ed8a3b7f9b53ce8b3") false
    massMemory_holds (fun _ h => by cases h) (by kernel_rfl) (fun _ h => by cases h) massMemory_row_tie rfl ⟨rfl, rfl⟩ (by kernel_rfl) rfl
    (fun f fn hf hfn => by
      obtain rfl : f = 3 := Option.some.inj ((show Tryd.prog.funcNamed "tarn/tarnlaw15.MassMemory" = some 3 by kernel_rfl).symm.trans hf) |>.symm
      obtain rfl : fn = Tryd.f3 := (Option.some.inj (Tryd.func3.symm.trans hfn)).symm
      exact ⟨by kernel_rfl, fun j t ht => by
        rw [show Tryd.f3.params = #[3, 22, 22] from Tryd.params3] at ht
        have ht : t ∈ [3, 22, 22] := by
          have := Array.mem_of_getElem? ht
          simpa using this
        simp only [List.mem_cons, List.not_mem_nil, or_false] at ht
        rcases ht with rfl | rfl | rfl
        all_goals exact (show Tryd.prog.wantsStandIn _ = false by kernel_rfl)⟩)
    (by kernel_rfl)
end Go.Proofs.YtemaeembndobaaaDoor
