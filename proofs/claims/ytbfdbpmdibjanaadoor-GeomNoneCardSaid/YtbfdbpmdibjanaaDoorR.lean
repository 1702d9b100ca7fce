/- What isn't there has no point, no area, no length: the card of GeomNone holds: at every input the law says 'true' and its argument stays as it was. Conditions: those that the given statement itself names (the two tables laid), and none of our own. -/
import Derived.Test.YtbfdbpmdibjanaaDoorQ
import Derived.Test.YtbfdbpmdibjanaaDoorO
import Derived.Test.YtbfdbpmdibjanaaDoorFl
import Derived.Test.YtbfdbpmdibjanaaDoorU
import Derived.Test.YtbfdbpmdibjanaaDoorTie
import Derived.Test.YtbfdbpmdibjanaaDoorCards
import Derived.SevenTiedAt
namespace Go.Proofs.YtbfdbpmdibjanaaDoor
open Go Go.Eng Go.ChangeShapes Go.WideShapes Go.RowKit
set_option maxRecDepth 100000
set_option linter.unusedSimpArgs false
set_option linter.unusedVariables false

theorem none_ok (side face i j cell over : Int) (x : List Blk) : COk Tryd.prog 3 5 [.agg [I side, I face, I i, I j, I cell, I over]] (GG x) (Bo true) (GG x) := by
  have hcor : ∃ (v : W) (is : Bool), (∀ x, COk Tryd.prog 3 25 [I side, I face, I i, I j] (GG x) (.tup [v.v, Bo is]) (GG x)) ∧
      (is = true ↔ ((1 ≤ side ∧ side ≤ 32) ∧ (0 ≤ face ∧ face < 6) ∧ (0 ≤ i ∧ i ≤ side) ∧ 0 ≤ j ∧ j ≤ side)) ∧ (is = false → v = ⟨0, 0, 0⟩) := by
    by_cases h : (1 ≤ side ∧ side ≤ 32) ∧ (0 ≤ face ∧ face < 6) ∧ (0 ≤ i ∧ i ≤ side) ∧ 0 ≤ j ∧ j ≤ side
    · obtain ⟨n, rfl⟩ : ∃ n : Nat, side = n := ⟨side.toNat, by omega⟩
      obtain ⟨f, rfl⟩ : ∃ n : Nat, face = n := ⟨face.toNat, by omega⟩
      obtain ⟨a, rfl⟩ : ∃ n : Nat, i = n := ⟨i.toNat, by omega⟩
      obtain ⟨b, rfl⟩ : ∃ n : Nat, j = n := ⟨j.toNat, by omega⟩
      exact ⟨_, true, fun x => corner_in n f rfl rfl (by omega) (by omega) (by omega) (by omega) (by omega) x, by simp only [true_iff]; exact h, fun h => nomatch h⟩
    · exact ⟨⟨0, 0, 0⟩, false, fun x => corner_no side face i j h x, by simp only [Bool.false_eq_true, false_iff]; exact h, fun _ => rfl⟩
  obtain ⟨v, is, hc, k1, k2⟩ := hcor
  by_cases hcell : 0 ≤ cell ∧ cell < cellsI side
  · obtain ⟨n, f, a, b, rfl, rfl, h1, h2, h3, h4, h5⟩ := cell_split hcell
    have ha1 := areaT_pos n f a b
    by_cases ho : 0 ≤ over ∧ over < 4
    · obtain ⟨s, rfl⟩ : ∃ s : Nat, over = s := ⟨over.toNat, by omega⟩
      exact none_of n face i j _ s v _ is true (areaT n f a b) _ _ hc (fun x => middle_in n f a b h1 h2 h3 h4 h5 x) (fun x => area_at n f a b h1 h2 h3 h4 h5 x)
        (fun x => glen_in n f a b s h1 h2 h3 h4 h5 (by omega) x) (fun x => ggap_in n f a b s h1 h2 h3 h4 h5 (by omega) x) k1 k2 (by simp only [true_iff]; exact hcell) (fun h => nomatch h)
        (fun _ => ha1) (fun h => nomatch h) (fun _ => ⟨fgt_0 (lenS_ne h1 h2 h4 h5).1 (lenS_ne h1 h2 h4 h5).2, fgt_0 (gapS_ne h1 h2 h3 h4 h5 (by omega)).1 (gapS_ne h1 h2 h3 h4 h5 (by omega)).2⟩) (fun h => absurd ⟨rfl, ho⟩ h) x
    · exact none_of n face i j _ over v _ is true (areaT n f a b) 0 0 hc (fun x => middle_in n f a b h1 h2 h3 h4 h5 x) (fun x => area_at n f a b h1 h2 h3 h4 h5 x)
        (fun x => glen_no _ _ _ (fun h => ho h.2) x) (fun x => ggap_no _ _ _ (fun h => ho h.2) x) k1 k2 (by simp only [true_iff]; exact hcell) (fun h => nomatch h)
        (fun _ => ha1) (fun h => nomatch h) (fun h => absurd h.2 ho) (fun _ => ⟨rfl, rfl⟩) x
  · exact none_of side face i j cell over v ⟨0, 0, 0⟩ is false 0 0 0 hc (fun x => middle_no _ _ hcell x) (fun x => area_no _ _ hcell x)
        (fun x => glen_no _ _ _ (fun h => hcell h.1) x) (fun x => ggap_no _ _ _ (fun h => hcell h.1) x) k1 k2 (by simp only [Bool.false_eq_true, false_iff]; exact hcell) (fun _ => rfl)
        (fun h => nomatch h) (fun _ => rfl) (fun h => absurd h.1 (by decide)) (fun _ => ⟨rfl, rfl⟩) x
theorem under42 : ∃ fs, Tryd.prog.underlying 42 = some (.struct fs) ∧ fs.toList.map (fun f => (f.type, f.offset)) = [(3, 0), (3, 1), (3, 2), (3, 3), (3, 4), (3, 5)] := ⟨_, rfl, rfl⟩
theorem open_op {H : Type} {enc : TypeId × Value → H} {W : World} {base : Nat} {sp : Nat → Bool} {held : Bool} {v : Value} {d : DataW H} {ps : List MemPlace} {r : Reach} {b0 : Nat}
    (hv : Value.okWide Tryd.prog W r b0 42 v) (h : DataW.Trod enc Tryd.prog W base sp held 42 v d ps) :
    ∃ a b c e f g : Int, v = .agg #[.int .i64 a, .int .i64 b, .int .i64 c, .int .i64 e, .int .i64 f, .int .i64 g] := by
  obtain ⟨fs, hu, hfs⟩ := under42
  obtain ⟨cs, rfl, hsz⟩ := okWide_struct hu hv
  obtain ⟨fuel, h⟩ := h
  obtain ⟨xs, n, rfl, hx, hlen, hn, hel⟩ := DataW.trod_struct hu h
  have c3 : Tryd.prog.cellsOf 3 = 1 := by kernel_rfl
  have c42 : Tryd.prog.cellsOf 42 = 6 := by kernel_rfl
  have u3 : Tryd.prog.underlying 3 = some (.int .i64) := by kernel_rfl
  have hn6 : fs.size = 6 := by
    have := congrArg List.length hfs
    simpa using this
  rw [c42] at hsz
  obtain ⟨l⟩ := cs
  have key : ∀ i, i < 6 → ∃ z : Int, (l.drop i).take 1 = [.int .i64 z] := by
    intro i hi
    have h1 : (fs.toList.map (fun f => (f.type, f.offset)))[i]? = some (3, i) := by
      rw [hfs]
      obtain rfl | rfl | rfl | rfl | rfl | rfl : i = 0 ∨ i = 1 ∨ i = 2 ∨ i = 3 ∨ i = 4 ∨ i = 5 := by omega
      all_goals rfl
    rw [List.getElem?_map] at h1
    cases h2 : fs.toList[i]? with
    | none => rw [h2] at h1; exact nomatch h1
    | some fd =>
      rw [h2] at h1
      simp only [Option.map_some, Option.some.injEq, Prod.mk.injEq] at h1
      have h3 := hel i fd (by rw [← Array.getElem?_toList]; exact h2)
      rw [h1.1, h1.2, c3] at h3
      have h4 : i < xs.length := by omega
      rw [List.getElem?_eq_getElem h4] at h3
      obtain ⟨z, hz, _⟩ := DataW.trod_int u3 h3
      exact ⟨z, hz⟩
  match l, hsz with
  | [v0, v1, v2, v3, v4, v5], _ =>
    obtain ⟨z0, h0⟩ := key 0 (by decide)
    obtain ⟨z1, h1⟩ := key 1 (by decide)
    obtain ⟨z2, h2⟩ := key 2 (by decide)
    obtain ⟨z3, h3⟩ := key 3 (by decide)
    obtain ⟨z4, h4⟩ := key 4 (by decide)
    obtain ⟨z5, h5⟩ := key 5 (by decide)
    simp only [List.drop_zero, List.drop_succ_cons, List.take_succ_cons, List.take_zero, List.cons.injEq, and_true] at h0 h1 h2 h3 h4 h5
    subst h0 h1 h2 h3 h4 h5
    exact ⟨z0, z1, z2, z3, z4, z5, rfl⟩
theorem none_lifted (os : Os) (started : os.Started) (H : Type) (enc : TypeId × Value → H) :
    ReturnsInHanded {} Tryd.checked os 5 .any (fun w args => (Rows.geomNoneSpec.pre enc Tryd.prog Tryd.f5 [] false w args ∧ laidMetH Tryd.prog laid2 w) ∧ sizedMet enc Tryd.prog Tryd.f5 (OpenSpec.ofChange Rows.geomNoneSpec) false w args) (Rows.geomNoneSpec.post enc Tryd.prog Tryd.f5 false true false false) := by
  have hpar : Tryd.f5.params = #[42] := Tryd.params5
  refine law_lifted Tryd.f5 Rows.geomNoneSpec os started Tryd.func5 (by kernel_rfl) (by kernel_rfl) rfl (by kernel_rfl) ?_ ?_
    (ChangeSpec.witness_shaped (enc := enc) (C := Tryd.checked) (os := os) (X := fun w _ => laidMetH Tryd.prog laid2 w) false (World.doorLaid Tryd.prog 400 os) #[.agg #[.int .i64 0, .int .i64 0, .int .i64 0, .int .i64 0, .int .i64 0, .int .i64 0]] 8 rfl (World.shaped_of_RefB (by kernel_rfl) (by kernel_rfl)) (by kernel_rfl) (by kernel_rfl) (by kernel_rfl) (door_met os _)) ?_
  · intro t ht
    rw [hpar] at ht
    obtain rfl : t = 42 := by simpa using ht
    exact ⟨by kernel_rfl, of_decide_eq_true (by kernel_rfl)⟩
  · intro ds hl
    rw [hpar] at hl
    match ds, hl with
    | [d], _ => rfl
  · intro W base args ds ps hval hA
    rw [hpar] at hA hval
    obtain ⟨v0, d0, rfl, rfl, h0⟩ := trodAll_one hA
    obtain ⟨a, b, c, e, f, g, rfl⟩ := open_op (hval 0 _ _ rfl rfl) h0
    exact ⟨[.agg [I a, I b, I c, I e, I f, I g]], none_ok a b c e f g [], _, [], rfl, ⟨_, rfl, _, _, rfl, rfl, _, _, rfl, rfl, _, _, rfl, rfl, _, _, rfl, rfl, _, _, rfl, rfl, _, _, rfl, rfl, rfl⟩, rfl⟩
theorem geomNone_holds : Rows.GeomNoneSaid :=
  OpenClaim.holds_of_wide 5 Tryd.f5 rfl rfl rfl rfl rfl rfl rfl ⟨rfl, rfl, rfl, rfl, rfl⟩ rfl rfl rfl rfl rfl (by kernel_rfl) Tryd.func5 (by kernel_rfl)
    (of_decide_eq_true (by kernel_rfl)) (by unfold Func.isWrapper; first | (rw [if_pos (by decide +kernel)]; kernel_rfl) | (rw [if_neg (by decide +kernel)]; exact ⟨rfl, rfl⟩))
    (fun os started H enc _ => none_lifted os started H enc)
theorem geomNone_card_holds : Rows.GeomNoneCardSaid :=
  Claim7.holds_tied_plain_at .later [] [.wider, .data] true (true, "711f9a9ad0609b584029c3e94315609c90d3ac3980ec42168e82812fd3056b92") false
    geomNone_holds (fun _ h => by cases h) (by kernel_rfl) (fun _ h => by cases h) geomNone_row_tie rfl ⟨rfl, rfl⟩ (by kernel_rfl) rfl
    (fun f fn hf hfn => by
      obtain rfl : f = 5 := Option.some.inj ((show Tryd.prog.funcNamed "tarn/tarnlaw08.GeomNone" = some 5 by kernel_rfl).symm.trans hf) |>.symm
      obtain rfl : fn = Tryd.f5 := (Option.some.inj (Tryd.func5.symm.trans hfn)).symm
      exact ⟨by kernel_rfl, fun j t ht => by
        have h3 : t = 42 := by
          rw [show Tryd.f5.params = #[42] from Tryd.params5] at ht
          rcases j with _ | j
          · simpa using ht.symm
          · simp at ht
        subst h3
        exact (show Tryd.prog.wantsStandIn 42 = false by kernel_rfl)⟩)
    (by kernel_rfl)
end Go.Proofs.YtbfdbpmdibjanaaDoor
