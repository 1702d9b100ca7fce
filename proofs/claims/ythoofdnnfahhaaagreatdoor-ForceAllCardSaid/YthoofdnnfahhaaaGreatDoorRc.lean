/- Packages limit and recon: what they answer. No condition. -/
import Derived.Test.YthoofdnnfahhaaaGreatDoorLv
import Derived.Test.YthoofdnnfahhaaaGreatDoorQw
import Derived.Test.YthoofdnnfahhaaaGreatDoorFo
namespace Go.Proofs.YthoofdnnfahhaaaGreatDoor
open Go Go.Eng
set_option maxRecDepth 100000
set_option linter.unusedSimpArgs false
set_option linter.unusedVariables false

abbrev twoW : Nat := 4611686018427387904
abbrev maxW : Nat := 9218868437227405311
theorem isinf0_ok (o : Option Nat) (m : List Blk) : COk Tryz.prog 3 191 [.fl o, I 0] m (Bo (fgt (absO o) (some maxW))) m := by
  refine COk_quiet Tryz.f191 Tryz.func191 (by kernel_rfl) rfl ?_
  (conv => whnf); repeat (refine ⟨_, _, abs_okO _ _, ?_⟩; conv => whnf)
  exact ⟨rfl, [], by simp⟩
/-- Leer's slope. -/
def leerF (x y : Option Nat) : Option Nat := fdiv (fmul (fmul (some twoW) x) y) (fadd x y)
def limO (kind : Int) (x y : Option Nat) : Option Nat :=
  if kind = 0 then some 0 else if kind = 1 then some (minO x y) else if kind = 2 then some (maxO (some (minO (fmul (some twoW) x) y)) (some (minO x (fmul (some twoW) y))))
  else if fne (leerF x y) (leerF x y) = true then some 0 else if fgt (absO (leerF x y)) (some maxW) = true then some 0 else leerF x y
theorem lim0_ok (x y : Option Nat) (m : List Blk) : COk Tryz.prog 3 211 [.fl x, .fl y] m (.fl (limO 0 x y)) m := by
  refine COk_quiet Tryz.f211 Tryz.func211 (by kernel_rfl) rfl ?_
  (conv => whnf)
  exact ⟨rfl, [], by simp⟩
theorem lim1_ok (x y : Option Nat) (m : List Blk) : COk Tryz.prog 3 114 [.fl x, .fl y] m (.fl (limO 1 x y)) m := bmin_ok x y m
theorem lim2_ok (x y : Option Nat) (m : List Blk) : COk Tryz.prog 3 212 [.fl x, .fl y] m (.fl (limO 2 x y)) m := by
  refine COk_quiet Tryz.f212 Tryz.func212 (by kernel_rfl) rfl ?_
  (conv => whnf); repeat ((first | refine ⟨_, _, bmin_ok _ _ _, ?_⟩ | refine ⟨_, _, bmax_ok _ _ _, ?_⟩); conv => whnf)
  exact ⟨rfl, [], by simp⟩
theorem lim3_ok (x y : Option Nat) (m : List Blk) : COk Tryz.prog 3 213 [.fl x, .fl y] m (.fl (limO 3 x y)) m := by
  have e : limO 3 x y = if fne (leerF x y) (leerF x y) = true then some 0 else if fgt (absO (leerF x y)) (some maxW) = true then some 0 else leerF x y := rfl
  rw [e]
  refine COk_quiet Tryz.f213 Tryz.func213 (by kernel_rfl) rfl ?_
  (conv => whnf)
  refine br_intro (fun h => ?_) (fun h => ?_)
  · (conv => whnf)
    exact ⟨congrArg V.fl (if_pos h).symm, [], by simp⟩
  (conv => whnf); repeat (refine ⟨_, _, isinf0_ok _ _, ?_⟩; conv => whnf)
  refine br_intro (fun h' => ?_) (fun h' => ?_)
  · (conv => whnf)
    exact ⟨congrArg V.fl ((if_neg (Bool.eq_false_iff.1 h)).trans (if_pos h')).symm, [], by simp⟩
  · (conv => whnf)
    exact ⟨congrArg V.fl ((if_neg (Bool.eq_false_iff.1 h)).trans (if_neg (Bool.eq_false_iff.1 h'))).symm, [], by simp⟩
/-- A limited slope. -/
def slopeF (kind : Int) (x y : Option Nat) : Nat :=
  if 0 ≤ kind ∧ kind ≤ 3 then
    (if fgt x (some 0) = true ∧ fgt y (some 0) = true then canonF (limO kind x y) else if flt x (some 0) = true ∧ flt y (some 0) = true then canonF (fneg (limO kind (fneg x) (fneg y))) else 0)
  else 0
theorem valid_ok (kind : Int) (m : List Blk) : COk Tryz.prog 3 138 [I kind] m (Bo (decide (0 ≤ kind ∧ kind ≤ 3))) m := by
  by_cases h : 0 ≤ kind
  · by_cases h' : kind ≤ 3
    · rw [decide_eq_true ⟨h, h'⟩]
      refine COk_quiet Tryz.f138 Tryz.func138 (by kernel_rfl) rfl ?_
      (conv => whnf); repeat (refine br_d (by omega) ?_; conv => whnf)
      exact ⟨congrArg V.bool (by simp <;> omega), [], by simp⟩
    · rw [decide_eq_false (fun k => h' k.2)]
      refine COk_quiet Tryz.f138 Tryz.func138 (by kernel_rfl) rfl ?_
      (conv => whnf); repeat (refine br_d (by omega) ?_; conv => whnf)
      exact ⟨congrArg V.bool (by simp <;> omega), [], by simp⟩
  · rw [decide_eq_false (fun k => h k.1)]
    refine COk_quiet Tryz.f138 Tryz.func138 (by kernel_rfl) rfl ?_
    (conv => whnf); repeat (refine br_nd (by omega) ?_; conv => whnf)
    exact ⟨rfl, [], by simp⟩
abbrev limB : Blk := ⟨true, .cells [.clo (.func 211) [] [], .clo (.func 114) [] [], .clo (.func 212) [] [], .clo (.func 213) [] []]⟩
theorem limiters_ok {m : List Blk} (hsc : scM m.length m = true) : COk Tryz.prog 3 180 [] m (.sl m.length 0 4) (m ++ [limB]) := by
  refine COk_of_ev Tryz.f180 Tryz.func180 (by kernel_rfl) (by simp) (by simp [V.sc]) (.inr (scM_app (scM_mono (by simp) _ hsc) (by simp [scM, B.sc, scL, V.sc]))) ?_
  (conv => whnf); repeat (refine addB_f0 ?_; conv => whnf)
  exact ⟨rfl, [], by rw [List.append_nil]⟩
theorem slope_ok {m : List Blk} (hsc : scM m.length m = true) (kind : Int) (x y : Option Nat) : COk Tryz.prog 3 111 [I kind, .fl x, .fl y] m (F (slopeF kind x y)) m := by
  have hl := limiters_ok hsc
  by_cases hk : 0 ≤ kind ∧ kind ≤ 3
  · have hv : ∀ m, COk Tryz.prog 3 138 [I kind] m (Bo true) m := fun m => by have := valid_ok kind m; rwa [decide_eq_true hk] at this
    unfold slopeF
    rw [if_pos hk]
    obtain rfl | rfl | rfl | rfl : kind = 0 ∨ kind = 1 ∨ kind = 2 ∨ kind = 3 := by omega
    all_goals
      refine COk_quiet Tryz.f111 Tryz.func111 (by kernel_rfl) rfl ?_
      (conv => whnf); repeat ((first | refine ⟨_, _, hv _, ?_⟩ | refine ⟨_, _, hl, ?_⟩ | rw [getB_app0]); conv => whnf)
      refine br_intro (fun h1 => ?_) (fun h1 => ?_)
      · (conv => whnf)
        refine br_intro (fun h2 => ?_) (fun h2 => ?_)
        · (conv => whnf); repeat ((first | refine ⟨_, _, lim0_ok _ _ _, ?_⟩ | refine ⟨_, _, lim1_ok _ _ _, ?_⟩ | refine ⟨_, _, lim2_ok _ _ _, ?_⟩ | refine ⟨_, _, lim3_ok _ _ _, ?_⟩ | refine ⟨_, _, canon_ok _ _, ?_⟩); conv => whnf)
          refine ⟨?_, _, rfl⟩
          rw [if_pos ⟨h1, h2⟩]
        · (conv => whnf)
          have hn : ¬ (fgt x (some 0) = true ∧ fgt y (some 0) = true) := fun h => by rw [h2] at h; exact absurd h.2 (by decide)
          have hx : flt x (some 0) = false := by
            unfold fgt at h1; unfold flt
            cases h : fcmp x (some 0) with
            | none => rfl
            | some o => rw [h] at h1; cases o <;> first | rfl | (exact absurd h1 (by decide))
          rw [if_neg hn, if_neg (fun h => by rw [hx] at h; exact absurd h.1 (by decide))]
          refine br_no hx ?_
          (conv => whnf)
          exact ⟨rfl, _, rfl⟩
      · have hn : ¬ (fgt x (some 0) = true ∧ fgt y (some 0) = true) := fun h => by rw [h1] at h; exact absurd h.1 (by decide)
        rw [if_neg hn]
        (conv => whnf)
        refine br_intro (fun h2 => ?_) (fun h2 => ?_)
        · (conv => whnf)
          refine br_intro (fun h3 => ?_) (fun h3 => ?_)
          · (conv => whnf); repeat ((first | refine ⟨_, _, lim0_ok _ _ _, ?_⟩ | refine ⟨_, _, lim1_ok _ _ _, ?_⟩ | refine ⟨_, _, lim2_ok _ _ _, ?_⟩ | refine ⟨_, _, lim3_ok _ _ _, ?_⟩ | refine ⟨_, _, canon_ok _ _, ?_⟩); conv => whnf)
            refine ⟨?_, _, rfl⟩
            rw [if_pos ⟨h2, h3⟩]
          · (conv => whnf)
            rw [if_neg (fun h => by rw [h3] at h; exact absurd h.2 (by decide))]
            exact ⟨rfl, _, rfl⟩
        · (conv => whnf)
          rw [if_neg (fun h => by rw [h2] at h; exact absurd h.1 (by decide))]
          exact ⟨rfl, _, rfl⟩
  · have hv : ∀ m, COk Tryz.prog 3 138 [I kind] m (Bo false) m := fun m => by have := valid_ok kind m; rwa [decide_eq_false hk] at this
    unfold slopeF
    rw [if_neg hk]
    refine COk_quiet Tryz.f111 Tryz.func111 (by kernel_rfl) rfl ?_
    (conv => whnf); repeat (refine ⟨_, _, hv _, ?_⟩; conv => whnf)
    exact ⟨rfl, [], by simp⟩
/-- How deep the water of a cell stands. -/
def dpE (n : Nat) (Wt : List Int) (c : Nat) : Option Nat := depthF (Wt.getD c 0) (areaC n c)
def slantF (n : Nat) (lim : Int) (Wt : List Int) (up down back : Nat) : Option Nat :=
  fadd (dpE n Wt up) (fmul (some halfB) (some (slopeF lim (fsub (dpE n Wt up) (dpE n Wt back)) (fsub (dpE n Wt down) (dpE n Wt up)))))
def gateF (n : Nat) (Be : List Nat) (Wt : List Int) (up down : Nat) : Option Nat :=
  fsub (some (levelF (Be.getD up 0) (Wt.getD up 0) (areaC n up))) (some (maxO (some (Be.getD up 0)) (some (Be.getD down 0))))
def posF (r : Nat) : Nat := if fgt (some r) (some 0) = true then r else 0
def reconW (n : Nat) (lim : Int) (Be : List Nat) (Wt : List Int) (up down back : Nat) : Nat := posF (minO (slantF n lim Wt up down back) (gateF n Be Wt up down))
/-- The depth over an edge. -/
def reconF (n : Nat) (lim : Int) (Be : List Nat) (Wt : List Int) (y : Ed) (u : Nat) : Nat :=
  if fgt (some u) (some 0) = true then reconW n lim Be Wt y.1 y.2.2.1 (nbC n y.1 ((y.2.1 + 2) % 4)).1
  else if flt (some u) (some 0) = true then reconW n lim Be Wt y.2.2.1 y.1 (nbC n y.2.2.1 ((y.2.2.2 + 2) % 4)).1
  else 0
abbrev seaQ (j0 j1 a b : Nat) (vT vS : V) (sky step : Int) : V := .agg [.sl j0 0 a, .sl j1 0 b, vT, vS, .int .i64 sky, I step]
section
variable {M : List Blk} {b n : Nat} (hsc : scM M.length M = true) (N : Net M b n) {j0 j1 : Nat} {vT vS : V} {Be : List Nat} {Wt : List Int} (S0 : SlF M j0 0 Be) (S1 : SlI M j1 0 Wt) (l2 : vT.sc M.length = true) (l3 : vS.sc M.length = true) (o2 : vT.one = true) (o3 : vS.one = true) (sky step : Int)
omit hsc in
include N S1 in
theorem dp1_ok {jS jG n0 n1 : Nat} {c : Nat} (hS : getB M jS = ⟨true, .cells [.sl j0 0 n0, .sl j1 0 n1, vT, vS, .int .i64 sky, I step]⟩) (hG : getB M jG = ⟨true, .cells [.ptr (b + 1) 0]⟩) (hc : c < 6 * (n * n)) (hc1 : c < n1) (hW : c < Wt.length) :
    COk Tryz.prog 3 109 [I c, .ptr jS 0, .ptr jG 0] M (.fl (dpE n Wt c)) M := by
  refine COk_quiet Tryz.f109 Tryz.func109 (by kernel_rfl) rfl ?_
  (conv => whnf); repeat ((first | rw [hS] | rw [hG] | refine ⟨_, area_ok N c hc, ?_⟩ | refine SlI.at S1 (i := c) hW rfl ?_ | refine ⟨_, depth_ok _ _ _, ?_⟩ | refine br_d (by omega) ?_); conv => whnf)
  exact ⟨rfl, [], by simp⟩
include N S0 S1 l2 l3 o2 o3 hsc in
set_option maxHeartbeats 0 in
theorem depth12_ok (hn : 1 ≤ n) {e : Nat} {y : Ed} (hx : (edges n)[e]? = some y) (hB : Be.length = 6 * (n * n)) (hW : Wt.length = 6 * (n * n)) (lim : Int) (u : Nat) :
    COk Tryz.prog 3 40 [.ptr (b + 1) 0, I lim, seaQ j0 j1 Be.length Wt.length vT vS sky step, I e, F u] M (F (reconF n lim Be Wt y u)) M := by
  have l0 := S0.lt
  have l1 := S1.lt
  have hnl := N.lt
  obtain ⟨c1, s1, c12, c2, s2, _⟩ := edge_of hn hx
  have b1 := (nbC_lt (s := (y.2.1 + 2) % 4) hn c1).1
  have b2 := (nbC_lt (s := (y.2.2.2 + 2) % 4) hn c2).1
  have hge : ∀ z, COk Tryz.prog 3 30 [.ptr (b + 1) 0] (M ++ z) (I Be.length) (M ++ z) := fun z => by rw [hB]; exact gcells_ok (N.more z)
  have hWB : Wt.length = Be.length := by rw [hW, hB]
  refine COk_quiet Tryz.f40 Tryz.func40 (by kernel_rfl) rfl ?_
  have u3 : Up M (M ++ ([⟨true, .cells [.ptr (b + 1) 0]⟩, ⟨true, .cells [.sl j0 0 Be.length, .sl j1 0 Be.length, vT, vS, .int .i64 sky, I step]⟩, ⟨true, .cells [I y.1, I y.2.1, I y.2.2.1, I y.2.2.2]⟩] : List Blk)) := Up.of hsc (by
    have k2 := V.sc_mono (show M.length ≤ M.length + 3 by omega) vT l2
    have k3 := V.sc_mono (show M.length ≤ M.length + 3 by omega) vS l3
    simp [scM, B.sc, scL, V.sc, k2, k3]; omega)
  rw [hWB]
  have hone : allOne [V.sl j0 0 Be.length, V.sl j1 0 Be.length, vT, vS, V.int IntKind.i64 sky, I step] = true := by
    simp only [allOne, o2, o3, Bool.and_true, Bool.true_and]
    rfl
  (conv => whnf); repeat ((first | refine br_yes hone ?_ | refine ⟨_, _, edge_ok (N.more _) e y hx, ?_⟩ | refine ⟨_, hge _, ?_⟩ | refine ⟨_, _, behind_ok (N.more _) e y hx, ?_⟩ | refine br_no (bo_eqn rfl) ?_ | refine setB_app ?_ | rw [getB_app] | rw [getB_app0] | refine addB_f2 ?_ | refine addB_f1 ?_ | refine addB_f0 ?_); conv => whnf)
  refine br_intro (fun h => ?_) (fun h => ?_)
  · have hv : reconF n lim Be Wt y u = reconW n lim Be Wt y.1 y.2.2.1 (nbC n y.1 ((y.2.1 + 2) % 4)).1 := if_pos h
    rw [hv]
    (conv => whnf); repeat ((first | refine ⟨_, _, dp1_ok (N := N.more _) (S1 := S1.app _) sky step (vT := vT) (vS := vS) (c := y.1) (getB_app 1) getB_app0 c1 (by omega) (by omega), ?_⟩ | refine ⟨_, _, dp1_ok (N := N.more _) (S1 := S1.app _) sky step (vT := vT) (vS := vS) (c := (nbC n y.1 ((y.2.1 + 2) % 4)).1) (getB_app 1) getB_app0 b1 (by omega) (by omega), ?_⟩ | refine ⟨_, _, dp1_ok (N := N.more _) (S1 := S1.app _) sky step (vT := vT) (vS := vS) (c := y.2.2.1) (getB_app 1) getB_app0 c2 (by omega) (by omega), ?_⟩ | refine ⟨_, _, slope_ok u3.sc _ _ _, ?_⟩ | refine ⟨_, area_ok (N.more _) (y.1) c1, ?_⟩ | refine ⟨_, level_ok _ _ _ _, ?_⟩ | refine ⟨_, bmax_ok _ _ _, ?_⟩ | refine ⟨_, _, bmin_ok _ _ _, ?_⟩ | refine SlF.at (S0.app _) (i := y.1) (by omega) rfl ?_ | refine SlF.at (S0.app _) (i := y.2.2.1) (by omega) rfl ?_ | refine SlI.at (S1.app _) (i := y.1) (by omega) rfl ?_ | refine br_d (by omega) ?_ | rw [getB_app] | rw [getB_app0]); conv => whnf)
    refine br_intro (fun hr => ?_) (fun hr => ?_)
    · (conv => whnf)
      refine ⟨?_, _, rfl⟩
      exact congrArg (fun z => F z) (if_pos hr).symm
    · (conv => whnf)
      refine ⟨?_, _, rfl⟩
      exact congrArg (fun z => F z) (if_neg (Bool.eq_false_iff.1 hr)).symm
  · (conv => whnf)
    refine br_intro (fun h' => ?_) (fun h' => ?_)
    · have hv : reconF n lim Be Wt y u = reconW n lim Be Wt y.2.2.1 y.1 (nbC n y.2.2.1 ((y.2.2.2 + 2) % 4)).1 := (if_neg (Bool.eq_false_iff.1 h)).trans (if_pos h')
      rw [hv]
      (conv => whnf); repeat ((first | refine ⟨_, _, dp1_ok (N := N.more _) (S1 := S1.app _) sky step (vT := vT) (vS := vS) (c := y.2.2.1) (getB_app 1) getB_app0 c2 (by omega) (by omega), ?_⟩ | refine ⟨_, _, dp1_ok (N := N.more _) (S1 := S1.app _) sky step (vT := vT) (vS := vS) (c := (nbC n y.2.2.1 ((y.2.2.2 + 2) % 4)).1) (getB_app 1) getB_app0 b2 (by omega) (by omega), ?_⟩ | refine ⟨_, _, dp1_ok (N := N.more _) (S1 := S1.app _) sky step (vT := vT) (vS := vS) (c := y.1) (getB_app 1) getB_app0 c1 (by omega) (by omega), ?_⟩ | refine ⟨_, _, slope_ok u3.sc _ _ _, ?_⟩ | refine ⟨_, area_ok (N.more _) (y.2.2.1) c2, ?_⟩ | refine ⟨_, level_ok _ _ _ _, ?_⟩ | refine ⟨_, bmax_ok _ _ _, ?_⟩ | refine ⟨_, _, bmin_ok _ _ _, ?_⟩ | refine SlF.at (S0.app _) (i := y.2.2.1) (by omega) rfl ?_ | refine SlF.at (S0.app _) (i := y.1) (by omega) rfl ?_ | refine SlI.at (S1.app _) (i := y.2.2.1) (by omega) rfl ?_ | refine br_d (by omega) ?_ | rw [getB_app] | rw [getB_app0]); conv => whnf)
      refine br_intro (fun hr => ?_) (fun hr => ?_)
      · (conv => whnf)
        refine ⟨?_, _, rfl⟩
        exact congrArg (fun z => F z) (if_pos hr).symm
      · (conv => whnf)
        refine ⟨?_, _, rfl⟩
        exact congrArg (fun z => F z) (if_neg (Bool.eq_false_iff.1 hr)).symm
    · (conv => whnf)
      refine ⟨?_, _, rfl⟩
      exact congrArg (fun z => F z) ((if_neg (Bool.eq_false_iff.1 h)).trans (if_neg (Bool.eq_false_iff.1 h'))).symm
end
end Go.Proofs.YthoofdnnfahhaaaGreatDoor
