/- Two rows of flows, one behind the other, and their sums at once. The card of MassTwo holds: at every input the law says 'true' and its arguments stay as they were. Conditions: those that the given statement itself names (the two tables laid), and none of our own. -/
import Derived.Test.YtjpkfdhfofaehaaDoorQm
import Derived.Test.YtjpkfdhfofaehaaDoorMtwo
import Derived.Test.YtjpkfdhfofaehaaDoorTie
import Derived.Test.YtjpkfdhfofaehaaDoorCards
import Derived.SevenTiedAt
namespace Go.Proofs.YtjpkfdhfofaehaaDoor
open Go Go.Eng Go.ChangeShapes Go.WideShapes Go.RowKit
set_option maxRecDepth 100000
set_option linter.unusedSimpArgs false
set_option linter.unusedVariables false

theorem under_fl : ∃ fs, Tryd.prog.underlying 47 = some (.struct fs) ∧ fs.toList.map (fun f => (f.type, f.offset)) = [(22, 0), (22, 1)] := ⟨_, rfl, rfl⟩
set_option maxHeartbeats 0 in
theorem massTwo_lifted (os : Os) (started : os.Started) (H : Type) (enc : TypeId × Value → H) :
    ReturnsInHanded {} Tryd.checked os 7 .any (fun w args => (Rows.massTwoSpec.pre enc Tryd.prog Tryd.f7 [] false w args ∧ laidMetH Tryd.prog laid2 w) ∧ sizedMet enc Tryd.prog Tryd.f7 (OpenSpec.ofChange Rows.massTwoSpec) false w args) (Rows.massTwoSpec.post enc Tryd.prog Tryd.f7 false true false false) := by
  have hpar : Tryd.f7.params = #[3, 22, 47] := Tryd.params7
  have u3 : Tryd.prog.underlying 3 = some (.int .i64) := by kernel_rfl
  have u2 : Tryd.prog.underlying 2 = some (.int .i64) := by kernel_rfl
  have uS : Tryd.prog.underlying 22 = some (.slice 2) := by kernel_rfl
  have uE : Tryd.prog.underlying 2 = some (.int .i64) := by kernel_rfl
  obtain ⟨fsF, uF, hF⟩ := under_fl
  have ones : ∀ (i : Nat) (p : TypeId × Nat), [(22, 0), (22, 1)][i]? = some p → p.2 = i ∧ Tryd.prog.cellsOf p.1 = 1 := by
    intro i p hp
    match i, hp with
    | 0, hp => injection hp with hp; subst hp; exact ⟨rfl, by kernel_rfl⟩
    | 1, hp => injection hp with hp; subst hp; exact ⟨rfl, by kernel_rfl⟩
  refine law_sized Tryd.f7 Rows.massTwoSpec os started Tryd.func7 (by kernel_rfl) (by kernel_rfl) rfl (by kernel_rfl) ?_ ?_
    (ChangeSpec.witness_shaped (enc := enc) (C := Tryd.checked) (os := os) (X := fun w _ => laidMetH Tryd.prog laid2 w) false (World.doorLaid Tryd.prog 400 os) #[.int .i64 0, .slice none 0 0, .agg #[.slice none 0 0, .slice none 0 0]] 8 rfl (World.shaped_of_RefB (by kernel_rfl) (by kernel_rfl)) (by kernel_rfl) (by kernel_rfl) (by kernel_rfl) (door_met os _)) ?_
  · intro t ht
    rw [hpar] at ht
    have ht : t ∈ [3, 22, 47] := ht
    simp only [List.mem_cons, List.not_mem_nil, or_false] at ht
    rcases ht with rfl | rfl | rfl
    all_goals exact ⟨by kernel_rfl, of_decide_eq_true (by kernel_rfl)⟩
  · intro ds hl
    rw [hpar] at hl
    match ds, hl with
    | [d0, d1, d2], _ => rfl
  · intro W base args ds ps hval hA hwt L0
    rw [hpar] at hA hval hwt
    obtain ⟨v0, v1, v2, d0, d1, d2, p0, p1, p2, rfl, rfl, rfl, h0, h1, h2⟩ := trodAll_three hA
    simp only [DataW.weightsEach, List.all_append, Bool.and_eq_true] at hwt
    obtain ⟨w0, w1, w2, _⟩ := hwt
    obtain ⟨x0, rfl⟩ := okWide_int u3 (hval 0 _ _ rfl rfl)
    obtain ⟨_, _, _, rfl⟩ := okWide_slice uS (hval 1 _ _ rfl rfl)
    obtain ⟨_, t1⟩ := h1
    obtain ⟨b0, u0, l0, g0, L1, e0, s0, r0, z0⟩ := lay_ints L0 uS uE (by kernel_rfl) (by kernel_rfl) t1 w1
    obtain ⟨fl2, dl2, rfl, rfl, hl2, hd2, we2, ex2⟩ := open_row uF hF (by kernel_rfl) ones (hval 2 _ _ rfl rfl) h2
    obtain ⟨c0, c1, rfl⟩ := two_of hl2
    obtain ⟨y0, y1, rfl⟩ := two_of hd2
    rw [we2] at w2
    simp only [List.map_cons, List.map_nil, DataW.weightsEach, List.all_append, Bool.and_eq_true] at w2
    obtain ⟨wa, wb, _⟩ := w2
    obtain ⟨_, _, _, _, ha1, ha2, ea⟩ := ex2 0 _ rfl
    obtain ⟨_, _, _, _, hb1, hb2, eb⟩ := ex2 1 _ rfl
    injection ha1 with ha1; injection ha2 with ha2; injection hb1 with hb1; injection hb2 with hb2
    subst ha1 ha2 hb1 hb2
    obtain ⟨b1, u1, l1, g1, L2, e1, s1, r1, z1⟩ := lay_ints L1 uS uE (by kernel_rfl) (by kernel_rfl) ea wa
    obtain ⟨b2, u2, l2, g2, L3, e2, s2, r2, z2⟩ := lay_ints L2 uS uE (by kernel_rfl) (by kernel_rfl) eb wb
    have hm : Top (GG ([] ++ [b0] ++ [b1] ++ [b2])) := ⟨_, rfl⟩
    have hsc := L3.sc
    exact ⟨[I x0, u0, .agg [u1, u2]], _, _, L3, two15_ok hm hsc x0 ((s0.app [b1]).app [b2]) (s1.app [b2]) s2, _, _, rfl, rfl, _, _, rfl, (Rv_mono (by simp) e2 _ (Rv_mono (by simp) e1 _ r0)), _, _, rfl, ⟨_, rfl, _, _, rfl, (Rv_mono (by simp) e2 _ r1), _, _, rfl, r2, rfl⟩, rfl⟩
set_option maxHeartbeats 0 in
theorem massTwo_holds : Rows.MassTwoSaid :=
  OpenClaim.holds_of_wide 7 Tryd.f7 rfl rfl rfl rfl rfl rfl rfl ⟨rfl, rfl, rfl, rfl, rfl⟩ rfl rfl rfl rfl rfl (by kernel_rfl) Tryd.func7 (by kernel_rfl)
    (of_decide_eq_true (by kernel_rfl)) (by unfold Func.isWrapper; first | (rw [if_pos (by decide +kernel)]; kernel_rfl) | (rw [if_neg (by decide +kernel)]; exact ⟨rfl, rfl⟩))
    (fun os started H enc _ => massTwo_lifted os started H enc)
set_option maxHeartbeats 0 in
theorem massTwo_card_holds : Rows.MassTwoCardSaid :=
  Claim7.holds_tied_plain_at .later [] [.wider, .data] true (true, "c7cd848fccdb71c86bc1eeb059bd12d451d3db5fce284aa8eb79b1ba2fb04724") false
    massTwo_holds (fun _ h => by cases h) (by kernel_rfl) (fun _ h => by cases h) massTwo_row_tie rfl ⟨rfl, rfl⟩ (by kernel_rfl) rfl
    (fun f fn hf hfn => by
      obtain rfl : f = 7 := Option.some.inj ((show Tryd.prog.funcNamed "tarn/tarnlaw15.MassTwo" = some 7 by kernel_rfl).symm.trans hf) |>.symm
      obtain rfl : fn = Tryd.f7 := (Option.some.inj (Tryd.func7.symm.trans hfn)).symm
      exact ⟨by kernel_rfl, fun j t ht => by
        rw [show Tryd.f7.params = #[3, 22, 47] from Tryd.params7] at ht
        have ht : t ∈ [3, 22, 47] := by
          have := Array.mem_of_getElem? ht
          simpa using this
        simp only [List.mem_cons, List.not_mem_nil, or_false] at ht
        rcases ht with rfl | rfl | rfl
        all_goals exact (show Tryd.prog.wantsStandIn _ = false by kernel_rfl)⟩)
    (by kernel_rfl)
end Go.Proofs.YtjpkfdhfofaehaaDoor
