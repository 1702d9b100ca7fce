/- The statement ReconSigns: its contract. No condition. -/
import Derived.Test.YtajnkcoanapboaaGreatDoorRa
namespace Go.Proofs.YtajnkcoanapboaaGreatDoor
open Go Go.Eng
set_option maxRecDepth 100000
set_option linter.unusedSimpArgs false
set_option linter.unusedVariables false

theorem posF_or (r : Nat) : fgt (some (posF r)) (some 0) = true ∨ posF r = 0 := by
  unfold posF
  by_cases h : fgt (some r) (some 0) = true
  · rw [if_pos h]; exact .inl h
  · rw [if_neg h]; exact .inr rfl
theorem recon_or (n : Nat) (lim : Int) (Be : List Nat) (Wt : List Int) (y : Ed) (u : Nat) : fgt (some (reconF n lim Be Wt y u)) (some 0) = true ∨ reconF n lim Be Wt y u = 0 := by
  unfold reconF
  by_cases h : fgt (some u) (some 0) = true
  · rw [if_pos h]; exact posF_or _
  · rw [if_neg h]
    by_cases h' : flt (some u) (some 0) = true
    · rw [if_pos h']; exact posF_or _
    · rw [if_neg h']; exact .inr rfl
theorem recon_pos {n : Nat} {lim : Int} {Be : List Nat} {Wt : List Int} {y : Ed} {u : Nat} (h : fgt (some u) (some 0) = true) : reconF n lim Be Wt y one1 = reconF n lim Be Wt y u := by
  unfold reconF
  rw [if_pos h, if_pos (show fgt (some one1) (some 0) = true by decide +kernel)]
abbrev neg1 : Nat := 13830554455654793216
theorem recon_neg {n : Nat} {lim : Int} {Be : List Nat} {Wt : List Int} {y : Ed} {u : Nat} (h : ¬ fgt (some u) (some 0) = true) (h' : flt (some u) (some 0) = true) : reconF n lim Be Wt y neg1 = reconF n lim Be Wt y u := by
  unfold reconF
  rw [if_neg h, if_pos h', if_neg (show ¬ fgt (some neg1) (some 0) = true by decide +kernel), if_pos (show flt (some neg1) (some 0) = true by decide +kernel)]
theorem recon_zero {n : Nat} {lim : Int} {Be : List Nat} {Wt : List Int} {y : Ed} {u : Nat} (h : ¬ fgt (some u) (some 0) = true) (h' : ¬ flt (some u) (some 0) = true) : reconF n lim Be Wt y u = 0 := by
  unfold reconF
  rw [if_neg h, if_neg h']
theorem recon_z0 {n : Nat} {lim : Int} {Be : List Nat} {Wt : List Int} {y : Ed} : reconF n lim Be Wt y 0 = 0 :=
  recon_zero (by decide +kernel) (by decide +kernel)
theorem same1 {a : Nat} (m : List Blk) : COk Tryz.prog 3 19 [F a, F a] m (Bo true) m := by
  have := same_ok a a m
  rwa [decide_eq_true rfl] at this
theorem fgt_flt {x y : Option Nat} (h1 : fgt x y = true) : flt x y = false := by
  unfold fgt at h1; unfold flt
  cases h : fcmp x y with
  | none => rfl
  | some o => rw [h] at h1; cases o <;> first | rfl | (exact absurd h1 (by decide))
set_option maxHeartbeats 0 in
theorem signs12_ok {M : List Blk} (hm : Top M) (hsc : scM M.length M = true) (x lim : Int) {w : Bool} {j0 j1 j2 j3 : Nat} {Be : List Nat} {Wt Tr : List Int} {Sp : List Nat} (S : SeaB M w j0 j1 j2 j3 Be Wt Tr Sp) (sky step : Int) (k : Int) (u : Nat) :
    COk Tryz.prog 3 8 [askV x lim j0 j1 j2 j3 Be.length Wt.length Tr.length Sp.length sky step, I k, F u] M (Bo true) M := by
  have l0 := S.read.s0.lt
  have l1 := S.read.s1.lt
  have l2 := S.read.s2.lt
  have l3 := S.read.s3.lt
  have u0 : Up M (M ++ ([⟨true, .cells (askL x lim j0 j1 j2 j3 Be.length Wt.length Tr.length Sp.length sky step)⟩] : List Blk)) := Up.of hsc (by simp [scM, B.sc, scL, V.sc]; omega)
  have haw := awake12_ok (hm.up u0) u0.sc
  have hlen0 := u0.len
  rcases net12_ok (hm.up u0) u0.sc x lim (n0 := Be.length) (n1 := Wt.length) (n2 := Tr.length) (n3 := Sp.length) (show j0 < _ by omega) (show j1 < _ by omega) (show j2 < _ by omega) (show j3 < _ by omega) sky step with ⟨r, M1, hnet, u1, rfl | ⟨b', rfl⟩⟩ | ⟨n, b, M1, rfl, hn, hn', e0, e1, hnet, hN, u1⟩
  iterate 2
    · refine COk_quiet Tryz.f8 Tryz.func8 (by kernel_rfl) rfl ?_
      (conv => whnf); repeat (first | (refine ⟨_, _, haw, ?_⟩; conv => whnf) | (refine ⟨_, haw, ?_⟩; conv => whnf) | (refine ⟨_, _, hnet, ?_⟩; conv => whnf) | (refine ⟨_, hnet, ?_⟩; conv => whnf) | (refine br_d (by omega) ?_; conv => whnf) | (refine br_nd (by omega) ?_; conv => whnf) | (refine br_eq (by omega) ?_; conv => whnf) | (refine br_neq (by omega) ?_; conv => whnf) | (refine br_ne (by omega) ?_; conv => whnf) | (refine br_no (bo_eqn (by omega)) ?_; conv => whnf) | (refine Or.inl ?_; conv => whnf) | (refine okS_no (by kernel_rfl) ?_; conv => whnf) | (refine okS_yes (by kernel_rfl) ?_; conv => whnf) | (refine And_of (by (conv => whnf); (rw [getB_app0]); (conv => whnf)) ?_; conv => whnf) | (refine setB_app ?_; conv => whnf) | (refine setB_app0 ?_; conv => whnf) | (rw [getB_app]; conv => whnf) | (rw [getB_app0]; conv => whnf) | (refine addB_f13 ?_; conv => whnf) | (refine addB_f12 ?_; conv => whnf) | (refine addB_f11 ?_; conv => whnf) | (refine addB_f10 ?_; conv => whnf) | (refine addB_f9 ?_; conv => whnf) | (refine addB_f8 ?_; conv => whnf) | (refine addB_f7 ?_; conv => whnf) | (refine addB_f6 ?_; conv => whnf) | (refine addB_f5 ?_; conv => whnf) | (refine addB_f4 ?_; conv => whnf) | (refine addB_f3 ?_; conv => whnf) | (refine addB_f2 ?_; conv => whnf) | (refine addB_f1 ?_; conv => whnf) | (refine addB_f0 ?_; conv => whnf))
      exact ⟨rfl, (u0.trans u1).ex⟩
  have hP : ∀ y, getB (M1 ++ y) M.length = ⟨true, .cells (askL n lim j0 j1 j2 j3 Be.length Wt.length Tr.length Sp.length sky step)⟩ := fun y => by
    obtain ⟨z, rfl⟩ := u1.ex
    exact getB_in (getB_in getB_app0 rfl) rfl
  have hP0 := hP []
  rw [List.append_nil] at hP0
  have S1 := (S.up (u0.trans u1)).read
  have hlen := u1.len
  have hb := hN.lt
  have hel := edges_len hn
  have hsq : n * n ≤ 1024 := Nat.mul_le_mul hn' hn'
  have hsq1 : 1 ≤ n * n := Nat.mul_le_mul hn hn
  obtain ⟨q, hq, hwi⟩ := within12_ok k (edges n).length (by omega) (by omega)
  have hge := gedges_ok hN
  have hx := List.getElem?_eq_getElem (l := edges n) hq
  generalize (edges n)[q] = y at hx
  have hd := fun v => depth12_ok (vT := .sl j2 0 Tr.length) (vS := .sl j3 0 Sp.length) u1.sc hN S1.s0 S1.s1 (by simp [V.sc]; omega) (by simp [V.sc]; omega) rfl rfl sky step hn hx e0 e1 lim v
  have hor := recon_or n lim Be Wt y u
  by_cases h : fgt (some u) (some 0) = true
  · have h1 := fgt_flt h
    have hA := hd u
    have hB := hd one1
    rw [recon_pos h] at hB
    generalize reconF n lim Be Wt y u = d at hA hB hor
    rcases hor with hor | rfl
    · refine COk_quiet Tryz.f8 Tryz.func8 (by kernel_rfl) rfl ?_
      (conv => whnf); repeat (first | (refine ⟨_, _, haw, ?_⟩; conv => whnf) | (refine ⟨_, haw, ?_⟩; conv => whnf) | (refine ⟨_, _, hnet, ?_⟩; conv => whnf) | (refine ⟨_, hnet, ?_⟩; conv => whnf) | (refine ⟨_, _, hge, ?_⟩; conv => whnf) | (refine ⟨_, hge, ?_⟩; conv => whnf) | (refine ⟨_, _, hwi _, ?_⟩; conv => whnf) | (refine ⟨_, hwi _, ?_⟩; conv => whnf) | (rw [hP0]; conv => whnf) | (refine ⟨_, _, hA, ?_⟩; conv => whnf) | (refine ⟨_, hA, ?_⟩; conv => whnf) | (refine br_yes h ?_; conv => whnf) | (refine br_no h1 ?_; conv => whnf) | (refine ⟨_, _, hB, ?_⟩; conv => whnf) | (refine ⟨_, hB, ?_⟩; conv => whnf) | (refine br_yes hor ?_; conv => whnf) | (refine ⟨_, _, same1 _, ?_⟩; conv => whnf) | (refine ⟨_, same1 _, ?_⟩; conv => whnf) | (refine ⟨_, _, bits12_ok _ _, ?_⟩; conv => whnf) | (refine ⟨_, bits12_ok _ _, ?_⟩; conv => whnf) | (refine br_d (by omega) ?_; conv => whnf) | (refine br_nd (by omega) ?_; conv => whnf) | (refine br_eq (by omega) ?_; conv => whnf) | (refine br_neq (by omega) ?_; conv => whnf) | (refine br_ne (by omega) ?_; conv => whnf) | (refine br_no (bo_eqn (by omega)) ?_; conv => whnf) | (refine Or.inl ?_; conv => whnf) | (refine okS_no (by kernel_rfl) ?_; conv => whnf) | (refine okS_yes (by kernel_rfl) ?_; conv => whnf) | (refine And_of (by (conv => whnf); (rw [getB_app0]); (conv => whnf)) ?_; conv => whnf) | (refine setB_app ?_; conv => whnf) | (refine setB_app0 ?_; conv => whnf) | (rw [getB_app]; conv => whnf) | (rw [getB_app0]; conv => whnf) | (refine addB_f13 ?_; conv => whnf) | (refine addB_f12 ?_; conv => whnf) | (refine addB_f11 ?_; conv => whnf) | (refine addB_f10 ?_; conv => whnf) | (refine addB_f9 ?_; conv => whnf) | (refine addB_f8 ?_; conv => whnf) | (refine addB_f7 ?_; conv => whnf) | (refine addB_f6 ?_; conv => whnf) | (refine addB_f5 ?_; conv => whnf) | (refine addB_f4 ?_; conv => whnf) | (refine addB_f3 ?_; conv => whnf) | (refine addB_f2 ?_; conv => whnf) | (refine addB_f1 ?_; conv => whnf) | (refine addB_f0 ?_; conv => whnf))
      exact ⟨rfl, (u0.trans u1).ex⟩
    · refine COk_quiet Tryz.f8 Tryz.func8 (by kernel_rfl) rfl ?_
      (conv => whnf); repeat (first | (refine ⟨_, _, haw, ?_⟩; conv => whnf) | (refine ⟨_, haw, ?_⟩; conv => whnf) | (refine ⟨_, _, hnet, ?_⟩; conv => whnf) | (refine ⟨_, hnet, ?_⟩; conv => whnf) | (refine ⟨_, _, hge, ?_⟩; conv => whnf) | (refine ⟨_, hge, ?_⟩; conv => whnf) | (refine ⟨_, _, hwi _, ?_⟩; conv => whnf) | (refine ⟨_, hwi _, ?_⟩; conv => whnf) | (rw [hP0]; conv => whnf) | (refine ⟨_, _, hA, ?_⟩; conv => whnf) | (refine ⟨_, hA, ?_⟩; conv => whnf) | (refine br_yes h ?_; conv => whnf) | (refine br_no h1 ?_; conv => whnf) | (refine ⟨_, _, hB, ?_⟩; conv => whnf) | (refine ⟨_, hB, ?_⟩; conv => whnf) | (refine ⟨_, _, same1 _, ?_⟩; conv => whnf) | (refine ⟨_, same1 _, ?_⟩; conv => whnf) | (refine ⟨_, _, bits12_ok _ _, ?_⟩; conv => whnf) | (refine ⟨_, bits12_ok _ _, ?_⟩; conv => whnf) | (refine br_d (by omega) ?_; conv => whnf) | (refine br_nd (by omega) ?_; conv => whnf) | (refine br_eq (by omega) ?_; conv => whnf) | (refine br_neq (by omega) ?_; conv => whnf) | (refine br_ne (by omega) ?_; conv => whnf) | (refine br_no (bo_eqn (by omega)) ?_; conv => whnf) | (refine Or.inl ?_; conv => whnf) | (refine okS_no (by kernel_rfl) ?_; conv => whnf) | (refine okS_yes (by kernel_rfl) ?_; conv => whnf) | (refine And_of (by (conv => whnf); (rw [getB_app0]); (conv => whnf)) ?_; conv => whnf) | (refine setB_app ?_; conv => whnf) | (refine setB_app0 ?_; conv => whnf) | (rw [getB_app]; conv => whnf) | (rw [getB_app0]; conv => whnf) | (refine addB_f13 ?_; conv => whnf) | (refine addB_f12 ?_; conv => whnf) | (refine addB_f11 ?_; conv => whnf) | (refine addB_f10 ?_; conv => whnf) | (refine addB_f9 ?_; conv => whnf) | (refine addB_f8 ?_; conv => whnf) | (refine addB_f7 ?_; conv => whnf) | (refine addB_f6 ?_; conv => whnf) | (refine addB_f5 ?_; conv => whnf) | (refine addB_f4 ?_; conv => whnf) | (refine addB_f3 ?_; conv => whnf) | (refine addB_f2 ?_; conv => whnf) | (refine addB_f1 ?_; conv => whnf) | (refine addB_f0 ?_; conv => whnf))
      exact ⟨rfl, (u0.trans u1).ex⟩
  · have h0 : fgt (some u) (some 0) = false := Bool.eq_false_iff.2 h
    by_cases h' : flt (some u) (some 0) = true
    · have hA := hd u
      have hB := hd neg1
      rw [recon_neg h h'] at hB
      generalize reconF n lim Be Wt y u = d at hA hB hor
      rcases hor with hor | rfl
      · refine COk_quiet Tryz.f8 Tryz.func8 (by kernel_rfl) rfl ?_
        (conv => whnf); repeat (first | (refine ⟨_, _, haw, ?_⟩; conv => whnf) | (refine ⟨_, haw, ?_⟩; conv => whnf) | (refine ⟨_, _, hnet, ?_⟩; conv => whnf) | (refine ⟨_, hnet, ?_⟩; conv => whnf) | (refine ⟨_, _, hge, ?_⟩; conv => whnf) | (refine ⟨_, hge, ?_⟩; conv => whnf) | (refine ⟨_, _, hwi _, ?_⟩; conv => whnf) | (refine ⟨_, hwi _, ?_⟩; conv => whnf) | (rw [hP0]; conv => whnf) | (refine ⟨_, _, hA, ?_⟩; conv => whnf) | (refine ⟨_, hA, ?_⟩; conv => whnf) | (refine br_no h0 ?_; conv => whnf) | (refine br_yes h' ?_; conv => whnf) | (refine ⟨_, _, hB, ?_⟩; conv => whnf) | (refine ⟨_, hB, ?_⟩; conv => whnf) | (refine br_yes hor ?_; conv => whnf) | (refine ⟨_, _, same1 _, ?_⟩; conv => whnf) | (refine ⟨_, same1 _, ?_⟩; conv => whnf) | (refine ⟨_, _, bits12_ok _ _, ?_⟩; conv => whnf) | (refine ⟨_, bits12_ok _ _, ?_⟩; conv => whnf) | (refine br_d (by omega) ?_; conv => whnf) | (refine br_nd (by omega) ?_; conv => whnf) | (refine br_eq (by omega) ?_; conv => whnf) | (refine br_neq (by omega) ?_; conv => whnf) | (refine br_ne (by omega) ?_; conv => whnf) | (refine br_no (bo_eqn (by omega)) ?_; conv => whnf) | (refine Or.inl ?_; conv => whnf) | (refine okS_no (by kernel_rfl) ?_; conv => whnf) | (refine okS_yes (by kernel_rfl) ?_; conv => whnf) | (refine And_of (by (conv => whnf); (rw [getB_app0]); (conv => whnf)) ?_; conv => whnf) | (refine setB_app ?_; conv => whnf) | (refine setB_app0 ?_; conv => whnf) | (rw [getB_app]; conv => whnf) | (rw [getB_app0]; conv => whnf) | (refine addB_f13 ?_; conv => whnf) | (refine addB_f12 ?_; conv => whnf) | (refine addB_f11 ?_; conv => whnf) | (refine addB_f10 ?_; conv => whnf) | (refine addB_f9 ?_; conv => whnf) | (refine addB_f8 ?_; conv => whnf) | (refine addB_f7 ?_; conv => whnf) | (refine addB_f6 ?_; conv => whnf) | (refine addB_f5 ?_; conv => whnf) | (refine addB_f4 ?_; conv => whnf) | (refine addB_f3 ?_; conv => whnf) | (refine addB_f2 ?_; conv => whnf) | (refine addB_f1 ?_; conv => whnf) | (refine addB_f0 ?_; conv => whnf))
        exact ⟨rfl, (u0.trans u1).ex⟩
      · refine COk_quiet Tryz.f8 Tryz.func8 (by kernel_rfl) rfl ?_
        (conv => whnf); repeat (first | (refine ⟨_, _, haw, ?_⟩; conv => whnf) | (refine ⟨_, haw, ?_⟩; conv => whnf) | (refine ⟨_, _, hnet, ?_⟩; conv => whnf) | (refine ⟨_, hnet, ?_⟩; conv => whnf) | (refine ⟨_, _, hge, ?_⟩; conv => whnf) | (refine ⟨_, hge, ?_⟩; conv => whnf) | (refine ⟨_, _, hwi _, ?_⟩; conv => whnf) | (refine ⟨_, hwi _, ?_⟩; conv => whnf) | (rw [hP0]; conv => whnf) | (refine ⟨_, _, hA, ?_⟩; conv => whnf) | (refine ⟨_, hA, ?_⟩; conv => whnf) | (refine br_no h0 ?_; conv => whnf) | (refine br_yes h' ?_; conv => whnf) | (refine ⟨_, _, hB, ?_⟩; conv => whnf) | (refine ⟨_, hB, ?_⟩; conv => whnf) | (refine ⟨_, _, same1 _, ?_⟩; conv => whnf) | (refine ⟨_, same1 _, ?_⟩; conv => whnf) | (refine ⟨_, _, bits12_ok _ _, ?_⟩; conv => whnf) | (refine ⟨_, bits12_ok _ _, ?_⟩; conv => whnf) | (refine br_d (by omega) ?_; conv => whnf) | (refine br_nd (by omega) ?_; conv => whnf) | (refine br_eq (by omega) ?_; conv => whnf) | (refine br_neq (by omega) ?_; conv => whnf) | (refine br_ne (by omega) ?_; conv => whnf) | (refine br_no (bo_eqn (by omega)) ?_; conv => whnf) | (refine Or.inl ?_; conv => whnf) | (refine okS_no (by kernel_rfl) ?_; conv => whnf) | (refine okS_yes (by kernel_rfl) ?_; conv => whnf) | (refine And_of (by (conv => whnf); (rw [getB_app0]); (conv => whnf)) ?_; conv => whnf) | (refine setB_app ?_; conv => whnf) | (refine setB_app0 ?_; conv => whnf) | (rw [getB_app]; conv => whnf) | (rw [getB_app0]; conv => whnf) | (refine addB_f13 ?_; conv => whnf) | (refine addB_f12 ?_; conv => whnf) | (refine addB_f11 ?_; conv => whnf) | (refine addB_f10 ?_; conv => whnf) | (refine addB_f9 ?_; conv => whnf) | (refine addB_f8 ?_; conv => whnf) | (refine addB_f7 ?_; conv => whnf) | (refine addB_f6 ?_; conv => whnf) | (refine addB_f5 ?_; conv => whnf) | (refine addB_f4 ?_; conv => whnf) | (refine addB_f3 ?_; conv => whnf) | (refine addB_f2 ?_; conv => whnf) | (refine addB_f1 ?_; conv => whnf) | (refine addB_f0 ?_; conv => whnf))
        exact ⟨rfl, (u0.trans u1).ex⟩
    · have h1 : flt (some u) (some 0) = false := Bool.eq_false_iff.2 h'
      have hA := hd u
      have hB := hd 0
      rw [recon_zero h h'] at hA
      rw [recon_z0] at hB
      refine COk_quiet Tryz.f8 Tryz.func8 (by kernel_rfl) rfl ?_
      (conv => whnf); repeat (first | (refine ⟨_, _, haw, ?_⟩; conv => whnf) | (refine ⟨_, haw, ?_⟩; conv => whnf) | (refine ⟨_, _, hnet, ?_⟩; conv => whnf) | (refine ⟨_, hnet, ?_⟩; conv => whnf) | (refine ⟨_, _, hge, ?_⟩; conv => whnf) | (refine ⟨_, hge, ?_⟩; conv => whnf) | (refine ⟨_, _, hwi _, ?_⟩; conv => whnf) | (refine ⟨_, hwi _, ?_⟩; conv => whnf) | (rw [hP0]; conv => whnf) | (refine ⟨_, _, hA, ?_⟩; conv => whnf) | (refine ⟨_, hA, ?_⟩; conv => whnf) | (refine br_no h0 ?_; conv => whnf) | (refine br_no h1 ?_; conv => whnf) | (refine ⟨_, _, hB, ?_⟩; conv => whnf) | (refine ⟨_, hB, ?_⟩; conv => whnf) | (refine ⟨_, _, same1 _, ?_⟩; conv => whnf) | (refine ⟨_, same1 _, ?_⟩; conv => whnf) | (refine ⟨_, _, bits12_ok _ _, ?_⟩; conv => whnf) | (refine ⟨_, bits12_ok _ _, ?_⟩; conv => whnf) | (refine br_d (by omega) ?_; conv => whnf) | (refine br_nd (by omega) ?_; conv => whnf) | (refine br_eq (by omega) ?_; conv => whnf) | (refine br_neq (by omega) ?_; conv => whnf) | (refine br_ne (by omega) ?_; conv => whnf) | (refine br_no (bo_eqn (by omega)) ?_; conv => whnf) | (refine Or.inl ?_; conv => whnf) | (refine okS_no (by kernel_rfl) ?_; conv => whnf) | (refine okS_yes (by kernel_rfl) ?_; conv => whnf) | (refine And_of (by (conv => whnf); (rw [getB_app0]); (conv => whnf)) ?_; conv => whnf) | (refine setB_app ?_; conv => whnf) | (refine setB_app0 ?_; conv => whnf) | (rw [getB_app]; conv => whnf) | (rw [getB_app0]; conv => whnf) | (refine addB_f13 ?_; conv => whnf) | (refine addB_f12 ?_; conv => whnf) | (refine addB_f11 ?_; conv => whnf) | (refine addB_f10 ?_; conv => whnf) | (refine addB_f9 ?_; conv => whnf) | (refine addB_f8 ?_; conv => whnf) | (refine addB_f7 ?_; conv => whnf) | (refine addB_f6 ?_; conv => whnf) | (refine addB_f5 ?_; conv => whnf) | (refine addB_f4 ?_; conv => whnf) | (refine addB_f3 ?_; conv => whnf) | (refine addB_f2 ?_; conv => whnf) | (refine addB_f1 ?_; conv => whnf) | (refine addB_f0 ?_; conv => whnf))
      exact ⟨rfl, (u0.trans u1).ex⟩
end Go.Proofs.YtajnkcoanapboaaGreatDoor
