/- Every call of geom beside the document's answer, at all arguments. No condition. -/
import Derived.Test.YthoofdnnfahhaaaGreatDoorRg
import Derived.Test.YthoofdnnfahhaaaGreatDoorN
import Derived.Test.YthoofdnnfahhaaaGreatDoorTb
namespace Go.Proofs.YthoofdnnfahhaaaGreatDoor
open Go Go.Eng
set_option maxRecDepth 100000
set_option linter.unusedSimpArgs false
set_option linter.unusedVariables false

theorem W0_v : (⟨0, 0, 0⟩ : W).v = V3f 0 0 0 := rfl
/-- A contract at the globals with more, in memory of that form. -/
theorem topM {M : List Blk} (hm : Top M) {f : FuncId} {args : List V} {r : V} (h : ∀ x, COk Tryz.prog 3 f args (GG x) r (GG x)) : ∀ z, COk Tryz.prog 3 f args (M ++ z) r (M ++ z) := fun z => by
  obtain ⟨x, rfl⟩ := hm
  exact h (x ++ z)
theorem corner_both {M : List Blk} (hm : Top M) (side face i j : Int) : ∃ (w : W) (b : Bool), (∀ z, COk Tryz.prog 3 13 [I side, I face, I i, I j] (M ++ z) (.tup [w.v, Bo b]) (M ++ z)) ∧ ∀ z, COk Tryz.prog 3 14 [I side, I face, I i, I j] (M ++ z) (.tup [w.v, Bo b]) (M ++ z) := by
  by_cases h : (1 ≤ side ∧ side ≤ 32) ∧ (0 ≤ face ∧ face < 6) ∧ (0 ≤ i ∧ i ≤ side) ∧ 0 ≤ j ∧ j ≤ side
  · obtain ⟨n, rfl⟩ : ∃ n : Nat, side = n := ⟨side.toNat, by omega⟩
    obtain ⟨f, rfl⟩ : ∃ n : Nat, face = n := ⟨face.toNat, by omega⟩
    obtain ⟨a, rfl⟩ : ∃ n : Nat, i = n := ⟨i.toNat, by omega⟩
    obtain ⟨b, rfl⟩ : ∃ n : Nat, j = n := ⟨j.toNat, by omega⟩
    exact ⟨_, _, topM hm (corner_in n f rfl rfl (by omega) (by omega) (by omega) (by omega) (by omega)), topM hm (rcorner_in n f rfl rfl (by omega) (by omega) (by omega) (by omega) (by omega))⟩
  · exact ⟨⟨0, 0, 0⟩, _, topM hm (corner_no side face i j h), topM hm (rcorner_no side face i j h)⟩
theorem middle_both {M : List Blk} (hm : Top M) (side cell : Int) : ∃ (w : W) (b : Bool), (∀ z, COk Tryz.prog 3 15 [I side, I cell] (M ++ z) (.tup [w.v, Bo b]) (M ++ z)) ∧ ∀ z, COk Tryz.prog 3 16 [I side, I cell] (M ++ z) (.tup [w.v, Bo b]) (M ++ z) := by
  by_cases h : 0 ≤ cell ∧ cell < cellsI side
  · obtain ⟨n, f, i, j, rfl, rfl, h1, h2, h3, h4, h5⟩ := cell_split h
    exact ⟨_, _, topM hm (middle_in n f i j h1 h2 h3 h4 h5), topM hm (rmiddle8_in n f i j h1 h2 h3 h4 h5)⟩
  · exact ⟨⟨0, 0, 0⟩, _, topM hm (middle_no side cell h), topM hm (rmiddle8_no side cell h)⟩
theorem area_both {M : List Blk} (hm : Top M) (side cell : Int) : ∃ a : Int, (∀ z, COk Tryz.prog 3 18 [I side, I cell] (M ++ z) (I a) (M ++ z)) ∧ ∀ z, COk Tryz.prog 3 19 [I side, I cell] (M ++ z) (I a) (M ++ z) := by
  by_cases h : 0 ≤ cell ∧ cell < cellsI side
  · obtain ⟨n, f, i, j, rfl, rfl, h1, h2, h3, h4, h5⟩ := cell_split h
    exact ⟨_, topM hm (area_at n f i j h1 h2 h3 h4 h5), topM hm (rarea_in n f i j h1 h2 h3 h4 h5)⟩
  · exact ⟨_, topM hm (area_no side cell h), topM hm (rarea_no side cell h)⟩
theorem glen_both {M : List Blk} (hm : Top M) (side cell over : Int) : ∃ a : Nat, (∀ z, COk Tryz.prog 3 21 [I side, I cell, I over] (M ++ z) (F a) (M ++ z)) ∧ ∀ z, COk Tryz.prog 3 22 [I side, I cell, I over] (M ++ z) (F a) (M ++ z) := by
  by_cases h : (0 ≤ cell ∧ cell < cellsI side) ∧ 0 ≤ over ∧ over < 4
  · obtain ⟨n, f, i, j, rfl, rfl, h1, h2, h3, h4, h5⟩ := cell_split h.1
    obtain ⟨s, rfl⟩ : ∃ s : Nat, over = s := ⟨over.toNat, by omega⟩
    exact ⟨_, topM hm (glen_in n f i j s h1 h2 h3 h4 h5 (by omega)), topM hm (rglen_in n f i j s h1 h2 h3 h4 h5 (by omega))⟩
  · exact ⟨_, topM hm (glen_no side cell over h), topM hm (rglen_no side cell over h)⟩
theorem ggap_both {M : List Blk} (hm : Top M) (side cell over : Int) : ∃ a : Nat, (∀ z, COk Tryz.prog 3 23 [I side, I cell, I over] (M ++ z) (F a) (M ++ z)) ∧ ∀ z, COk Tryz.prog 3 24 [I side, I cell, I over] (M ++ z) (F a) (M ++ z) := by
  by_cases h : (0 ≤ cell ∧ cell < cellsI side) ∧ 0 ≤ over ∧ over < 4
  · obtain ⟨n, f, i, j, rfl, rfl, h1, h2, h3, h4, h5⟩ := cell_split h.1
    obtain ⟨s, rfl⟩ : ∃ s : Nat, over = s := ⟨over.toNat, by omega⟩
    exact ⟨_, topM hm (ggap_in n f i j s h1 h2 h3 h4 h5 (by omega)), topM hm (rggap_in n f i j s h1 h2 h3 h4 h5 (by omega))⟩
  · exact ⟨_, topM hm (ggap_no side cell over h), topM hm (rggap_no side cell over h)⟩
theorem same_r (a : Nat) (m : List Blk) : COk Tryz.prog 3 20 [F a, F a] m (Bo true) m := by
  have := same_ok a a m
  rwa [decide_eq_true rfl] at this
theorem samev_r (a : W) (x : List Blk) : COk Tryz.prog 3 17 [a.v, a.v] (GG x) (Bo true) (GG x) := by
  have := samev_ok a a x
  rwa [decide_eq_true rfl] at this
set_option maxHeartbeats 0 in
theorem all8_ok {M : List Blk} (hm : Top M) (hsc : scM M.length M = true) {j n : Nat} {w : Bool} {l : List Int} (hb : getB M j = ⟨w, .ints .i64 l⟩) (hw : ∀ i, i < l.length → in64 (l.getD i 0)) (hl : l.length = 6 * n) (hn : n ≤ 17592186044416) : COk Tryz.prog 3 3 [.sl j 0 n] M (Bo true) M := by
  have hj : j < M.length := getB_lt hb rfl
  have S : SlI M j 0 l := SlI.ints hb (fun i hi => ⟨by omega, by rw [Nat.zero_add]⟩) hw (by omega)
  have aw := topM hm (fun x => awake_ok x) []
  rw [List.append_nil] at aw
  have sv := fun a => topM hm (samev_r a)
  refine COk_quiet Tryz.f3 Tryz.func3 (by kernel_rfl) rfl ?_
  (conv => whnf); repeat (refine ⟨_, _, aw, ?_⟩; conv => whnf)
  refine br_di (fun hbig => ?_) (fun hbig => ?_)
  · (conv => whnf)
    exact ⟨rfl, [], by simp⟩
  (conv => whnf)
  have c6 : Tryz.prog.cellsOf 25 = 6 := by kernel_rfl
  refine loop_to (fun k => [.sl j 0 n, .any, .any, Bo true, I k, .any, .any, .any, .any, .any, .any, .any, .any, .any, .any, .any, .any, .any, .any, .any, .any, .any, .any, .any, .any, .any, .any, .any, .any, .any, .any, .any, .any, .any, .any, .any, .any, .any, .any, .any, .any, .any, .any, .any, .any, .any, .any, .any, .any, .any, .any, .any, .any, .any, .any, .any, .any, .any, .any, .any, .any, .any, .any, .any, .any, .any, .any, .any, .any, .any, .any, .any, .any, .any, .any, .any, .any, .any, .any, .any, .any, .any, .any, .any, .any, .any, .any, .any, .any, .any, .any, .any, .any, .any, .any, .any, .any, .any, .any, .any, .any, .any, .any, .any, .any, .any, .any, .any, .any, .any, .any, .any, .any, .any, .any, .any, .any, .any, .any, .any, .any, .any, .any, .any, .any, .any, .any, .any, .any, .any, .any, .any, .any, .any, .any, .any, .any, .any]) (fun _ => M) 0 n (Nat.zero_le _) ?_ ?_ ?_
  · refine Fg.of [] ?_ (by rw [List.append_nil]) (by simp) (by (simp [scL, V.sc]) <;> omega) hsc
    conv => whnf
    exact ⟨rfl, rfl, rfl, rfl⟩
  · intro k _ hk
    have e0 : 0 + ((k : Nat) : Int).toNat * Tryz.prog.cellsOf 25 = 0 + 6 * k * 1 := by rw [c6, Int.toNat_natCast]; omega
    have e1 : 0 + ((k : Nat) : Int).toNat * Tryz.prog.cellsOf 25 + 1 = 0 + (6 * k + 1) * 1 := by rw [c6, Int.toNat_natCast]; omega
    have e2 : 0 + ((k : Nat) : Int).toNat * Tryz.prog.cellsOf 25 + 1 + 1 = 0 + (6 * k + 2) * 1 := by rw [c6, Int.toNat_natCast]; omega
    have e3 : 0 + ((k : Nat) : Int).toNat * Tryz.prog.cellsOf 25 + 1 + 1 + 1 = 0 + (6 * k + 3) * 1 := by rw [c6, Int.toNat_natCast]; omega
    have e4 : 0 + ((k : Nat) : Int).toNat * Tryz.prog.cellsOf 25 + 1 + 1 + 1 + 1 = 0 + (6 * k + 4) * 1 := by rw [c6, Int.toNat_natCast]; omega
    have e5 : 0 + ((k : Nat) : Int).toNat * Tryz.prog.cellsOf 25 + 1 + 1 + 1 + 1 + 1 = 0 + (6 * k + 5) * 1 := by rw [c6, Int.toNat_natCast]; omega
    (conv => whnf); repeat ((first | refine SlI.at S (i := 6 * k) (by omega) e0 ?_ | refine SlI.at S (i := 6 * k + 1) (by omega) e1 ?_ | refine SlI.at S (i := 6 * k + 2) (by omega) e2 ?_ | refine SlI.at S (i := 6 * k + 3) (by omega) e3 ?_ | refine SlI.at S (i := 6 * k + 4) (by omega) e4 ?_ | refine SlI.at S (i := 6 * k + 5) (by omega) e5 ?_ | refine br_d (by omega) ?_ | refine setB_app0 ?_ | rw [getB_app0] | refine addB_f0 ?_); conv => whnf)
    generalize l.getD (6 * k) 0 = o0
    generalize l.getD (6 * k + 1) 0 = o1
    generalize l.getD (6 * k + 2) 0 = o2
    generalize l.getD (6 * k + 3) 0 = o3
    generalize l.getD (6 * k + 4) 0 = o4
    generalize l.getD (6 * k + 5) 0 = o5
    obtain ⟨w1, b1, c1, r1⟩ := corner_both hm o0 o1 o2 o3
    obtain ⟨w2, b2, c2, r2⟩ := middle_both hm o0 o4
    obtain ⟨a3, c3, r3⟩ := area_both hm o0 o4
    obtain ⟨a4, c4, r4⟩ := glen_both hm o0 o4 o5
    obtain ⟨a5, c5, r5⟩ := ggap_both hm o0 o4 o5
    cases b1 <;> cases b2
    all_goals
      (conv => whnf); repeat ((first | refine ⟨_, _, c1 _, ?_⟩ | refine ⟨_, _, r1 _, ?_⟩ | refine ⟨_, _, c2 _, ?_⟩ | refine ⟨_, _, r2 _, ?_⟩ | refine ⟨_, c3 _, ?_⟩ | refine ⟨_, r3 _, ?_⟩ | refine ⟨_, c4 _, ?_⟩ | refine ⟨_, r4 _, ?_⟩ | refine ⟨_, c5 _, ?_⟩ | refine ⟨_, r5 _, ?_⟩ | refine ⟨_, sv _ _, ?_⟩ | refine ⟨_, same_r _ _, ?_⟩ | refine br_d (by omega) ?_ | refine setB_app ?_ | rw [getB_app] | rw [getB_app0] | refine addB_f4 ?_ | refine addB_f3 ?_ | refine addB_f2 ?_ | refine addB_f1 ?_); conv => whnf)
      refine Fg.of [_, _, _, _, _] ?_ rfl (by simp) (by (simp [scL, V.sc]) <;> omega) hsc
      conv => whnf
      exact ⟨rfl, rfl, wrapKL (by omega), rfl⟩
  · (conv => whnf); repeat (refine br_nd (by omega) ?_; conv => whnf)
    exact ⟨rfl, [], by simp⟩
end Go.Proofs.YthoofdnnfahhaaaGreatDoor
