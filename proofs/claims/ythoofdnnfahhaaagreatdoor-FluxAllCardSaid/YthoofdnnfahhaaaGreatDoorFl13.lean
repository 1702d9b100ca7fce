/- What passes over all edges, beside the document's answer. No condition. -/
import Derived.Test.YthoofdnnfahhaaaGreatDoorLi13
import Derived.Test.YthoofdnnfahhaaaGreatDoorRx
import Derived.Test.YthoofdnnfahhaaaGreatDoorRf
namespace Go.Proofs.YthoofdnnfahhaaaGreatDoor
open Go Go.Eng
set_option maxRecDepth 100000
set_option linter.unusedSimpArgs false
set_option linter.unusedVariables false

theorem clamp_in (o : Option Nat) (h : ∀ b, o = some b → b < 18446744073709551616) : in64 (clampF o) := by
  have q : q52 = 4503599627370496 := rfl
  cases o with
  | none => exact ⟨by decide, by decide⟩
  | some b =>
    rcases nan_or (h b rfl) with hn | ⟨s, R, hR, rfl⟩
    · have e : clampF (some b) = 0 := by
        unfold clampF
        simp only
        rw [if_pos]
        unfold fne
        rw [(nan_cmp hn _).1]; rfl
      rw [e]; exact ⟨by decide, by decide⟩
    · rw [clamp_wd s hR]
      have := size_le hR
      cases s
      · exact ⟨by simp; omega, by simp; omega⟩
      · exact ⟨by simp; omega, by simp; omega⟩
theorem quant_in (u d l t : Nat) : in64 (quantF u d l t) := clamp_in _ fun b h => fmul_lt h
theorem fluxT_in (n : Nat) (lim : Int) (dt : Nat) (Be : List Nat) (Wt : List Int) (Sp : List Nat) (e : Nat) : in64 (fluxT n lim dt Be Wt Sp e) := by
  unfold fluxT
  split
  · exact quant_in _ _ _ _
  · exact ⟨by decide, by decide⟩
section
variable {M : List Blk} {b n : Nat} (hsc : scM M.length M = true) (N : Net M b n) {j0 j1 j2 j3 : Nat} (sky step : Int)
include hsc N
set_option maxHeartbeats 0 in
theorem All_no {n0 n1 n2 n3 : Nat} (l0 : j0 < M.length) (l1 : j1 < M.length) (l2 : j2 < M.length) (l3 : j3 < M.length) (hf : ¬ Fit n n0 n1 n2 n3) (side : Int) (p : PlF) (lim : Int) (riv : Bool) (ra : Option Addr) (rl rc : Nat) :
    COk Tryz.prog 3 61 [.ptr (b + 1) 0, planV side p lim riv ra rl rc, seaV j0 j1 j2 j3 n0 n1 n2 n3 sky step] M (.tup [nilS', I 1]) (M ++ [⟨true, .cells [I side, F p.dt, F p.gr, F p.dr, I lim, Bo riv, .raw (.slice ra rl rc)]⟩, ⟨true, .cells [.sl j0 0 n0, .sl j1 0 n1, .sl j2 0 n2, .sl j3 0 n3, .int .i64 sky, I step]⟩]) := by
  have hs2 : scM (M ++ ([⟨true, .cells [I side, F p.dt, F p.gr, F p.dr, I lim, Bo riv, .raw (.slice ra rl rc)]⟩, ⟨true, .cells [.sl j0 0 n0, .sl j1 0 n1, .sl j2 0 n2, .sl j3 0 n3, .int .i64 sky, I step]⟩] : List Blk)).length (M ++ ([⟨true, .cells [I side, F p.dt, F p.gr, F p.dr, I lim, Bo riv, .raw (.slice ra rl rc)]⟩, ⟨true, .cells [.sl j0 0 n0, .sl j1 0 n1, .sl j2 0 n2, .sl j3 0 n3, .int .i64 sky, I step]⟩] : List Blk)) = true := scM_app (scM_mono (by simp) _ hsc) (by simp [scM, B.sc, scL, V.sc]; omega)
  by_cases h0 : n0 = 6 * (n * n)
  · by_cases h1 : n1 = 6 * (n * n)
    · by_cases h2 : n2 = 6 * (n * n)
      · have h3 : n3 ≠ (edges n).length := fun h3 => hf ⟨h0, h1, h2, h3⟩
        subst h0 h1 h2
        refine COk_of_ev Tryz.f61 Tryz.func61 (by kernel_rfl) (by simp) (by simp [V.sc, scL]) (.inr hs2) ?_
        (conv => whnf); repeat ((first | refine ⟨_, gcells_ok (N.more _), ?_⟩ | refine ⟨_, gedges_ok (N.more _), ?_⟩ | refine br_ne (by omega) ?_ | refine br_no (bo_eqn (by omega)) ?_ | rw [getB_app] | refine addB_f1 ?_ | refine addB_f0 ?_); conv => whnf)
        exact ⟨rfl, [], by rw [List.append_nil]; rfl⟩
      · subst h0 h1
        refine COk_of_ev Tryz.f61 Tryz.func61 (by kernel_rfl) (by simp) (by simp [V.sc, scL]) (.inr hs2) ?_
        (conv => whnf); repeat ((first | refine ⟨_, gcells_ok (N.more _), ?_⟩ | refine br_ne (by omega) ?_ | refine br_no (bo_eqn (by omega)) ?_ | rw [getB_app] | refine addB_f1 ?_ | refine addB_f0 ?_); conv => whnf)
        exact ⟨rfl, [], by rw [List.append_nil]; rfl⟩
    · subst h0
      refine COk_of_ev Tryz.f61 Tryz.func61 (by kernel_rfl) (by simp) (by simp [V.sc, scL]) (.inr hs2) ?_
      (conv => whnf); repeat ((first | refine ⟨_, gcells_ok (N.more _), ?_⟩ | refine br_ne (by omega) ?_ | refine br_no (bo_eqn (by omega)) ?_ | rw [getB_app] | refine addB_f1 ?_ | refine addB_f0 ?_); conv => whnf)
      exact ⟨rfl, [], by rw [List.append_nil]; rfl⟩
  · refine COk_of_ev Tryz.f61 Tryz.func61 (by kernel_rfl) (by simp) (by simp [V.sc, scL]) (.inr hs2) ?_
    (conv => whnf); repeat ((first | refine ⟨_, gcells_ok (N.more _), ?_⟩ | refine br_ne (by omega) ?_ | rw [getB_app] | refine addB_f1 ?_ | refine addB_f0 ?_); conv => whnf)
    exact ⟨rfl, [], by rw [List.append_nil]; rfl⟩
end
abbrev plC (side : Int) (p : PlF) (lim : Int) (riv : Bool) (ra : Option Addr) (rl rc : Nat) : Blk := ⟨true, .cells [I side, F p.dt, F p.gr, F p.dr, I lim, Bo riv, .raw (.slice ra rl rc)]⟩
abbrev seC (j0 j1 j2 j3 n0 n1 n2 n3 : Nat) (sky step : Int) : Blk := ⟨true, .cells [.sl j0 0 n0, .sl j1 0 n1, .sl j2 0 n2, .sl j3 0 n3, .int .i64 sky, I step]⟩
/-- All, at memory that grows. -/
theorem All_up {M : List Blk} {b n : Nat} (hsc : scM M.length M = true) (N : Net M b n) {j0 j1 j2 j3 : Nat} {Be : List Nat} {Wt Tr : List Int} {Sp : List Nat} (S : SeaR M j0 j1 j2 j3 Be Wt Tr Sp) (sky step : Int) (hf : Fit n Be.length Wt.length Tr.length Sp.length) (hn : 1 ≤ n) (hn' : n ≤ 32) (side : Int) (p : PlF) (lim : Int) (riv : Bool) (ra : Option Addr) (rl rc : Nat) :
    ∃ M', COk Tryz.prog 3 61 [.ptr (b + 1) 0, planV side p lim riv ra rl rc, seaV j0 j1 j2 j3 Be.length Wt.length Tr.length Sp.length sky step] M (.tup [.sl (M.length + 2) 0 Sp.length, I 0]) M' ∧ Up M M' ∧ M'.length = M.length + 3 ∧ SlI M' (M.length + 2) 0 (tab Sp.length (fluxT n lim p.dt Be Wt Sp)) ∧ getB M' (M.length + 2) = ⟨true, .ints .i64 (tab Sp.length (fluxT n lim p.dt Be Wt Sp))⟩ := by
  have l0 := S.s0.lt
  have l1 := S.s1.lt
  have l2 := S.s2.lt
  have l3 := S.s3.lt
  have hlen := edges_len hn
  have hsq : n * n ≤ 1024 := Nat.mul_le_mul hn' hn'
  have q3 := hf.d
  refine ⟨_, All_at hsc N S sky step hf hn hn' side p lim riv ra rl rc, Up.of hsc (by simp [scM, B.sc, scL, V.sc]; omega), by simp, ?_, getB_app 2⟩
  exact SlI.tab (getB_app 2) (fun i _ => fluxT_in _ _ _ _ _ _ _) (by omega)
set_option maxHeartbeats 0 in
theorem ints13_eq {M : List Blk} (hsc : scM M.length M = true) {j1 o1 j2 o2 : Nat} {a : List Int} (ha : SlI M j1 o1 a) (hb : SlI M j2 o2 a) : COk Tryz.prog 3 63 [.sl j1 o1 a.length, .sl j2 o2 a.length] M (Bo true) M := by
  have wa := ha.short
  have hj1 := ha.lt
  have hj2 := hb.lt
  refine COk_quiet Tryz.f63 Tryz.func63 (by kernel_rfl) rfl ?_
  (conv => whnf); repeat (refine br_no (bo_eqn (by omega)) ?_; conv => whnf)
  refine loop_to (fun k => [.sl j1 o1 a.length, .sl j2 o2 a.length, .any, .any, .any, I k, .any, .any, .any, .any, .any, .any, .any, .any, .any, .any, .any, .any, .any, .any, .any, .any, .any, .any, .any, .any]) (fun _ => M) 0 a.length (Nat.zero_le _) ?_ ?_ ?_
  · refine Fg.of [] ?_ (by rw [List.append_nil]) (by simp) (by (simp [scL, V.sc]) <;> omega) hsc
    conv => whnf
    exact ⟨rfl, rfl, rfl, rfl⟩
  · intro k _ hk
    (conv => whnf); repeat ((first | refine SlI.at ha (i := k) hk rfl ?_ | refine SlI.at hb (i := k) hk rfl ?_ | refine br_no (bo_eqn rfl) ?_ | refine br_d (by omega) ?_); conv => whnf)
    refine Fg.of [] ?_ (by rw [List.append_nil]) (by simp) (by (simp [scL, V.sc]) <;> omega) hsc
    conv => whnf
    exact ⟨rfl, rfl, wrapKL (by omega), rfl⟩
  · (conv => whnf); repeat (refine br_nd (by omega) ?_; conv => whnf)
    exact ⟨rfl, [], by simp⟩
theorem ints13_nil (M : List Blk) : COk Tryz.prog 3 63 [nilS', nilS'] M (Bo true) M := by
  refine COk_quiet Tryz.f63 Tryz.func63 (by kernel_rfl) rfl ?_
  (conv => whnf)
  refine lr ?_
  (conv => whnf)
  exact ⟨rfl, [], by simp⟩
theorem RNet.up {M M' : List Blk} {b n : Nat} (h : RNet M b n) (u : Up M M') : RNet M' b n := by
  obtain ⟨x, rfl⟩ := u.ex; exact h.more x
theorem All_nil {M : List Blk} (side : Int) (p : PlF) (lim : Int) (riv : Bool) (ra : Option Addr) (rl rc : Nat) (j0 j1 j2 j3 q0 q1 q2 q3 : Nat) (sky step : Int) :
    COk Tryz.prog 3 61 [nilP, planV side p lim riv ra rl rc, seaV j0 j1 j2 j3 q0 q1 q2 q3 sky step] M (.tup [nilS', I 2]) M := by
  refine COk_quiet Tryz.f61 Tryz.func61 (by kernel_rfl) rfl ?_
  (conv => whnf); repeat ((first | refine addB_f1 ?_ | refine addB_f0 ?_); conv => whnf)
  exact ⟨rfl, _, rfl⟩
section
variable {M : List Blk} {b n : Nat} (N : RNet M b n) (hn : 1 ≤ n) (hn' : n ≤ 32) {j0 j1 j2 j3 : Nat} (sky step : Int)
include N hn hn'
theorem rfits_yes {n0 n1 n2 n3 : Nat} (h : Fit n n0 n1 n2 n3) : COk Tryz.prog 3 126 [.ptr (b + 1) 0, seaV j0 j1 j2 j3 n0 n1 n2 n3 sky step] M (Bo true) M := by
  obtain ⟨h0, h1, h2, h3⟩ := h
  subst h0 h1 h2 h3
  refine COk_quiet Tryz.f126 Tryz.func126 (by kernel_rfl) rfl ?_
  (conv => whnf); repeat ((first | refine ⟨_, _, rgcells_ok (N.more _) hn hn', ?_⟩ | refine ⟨_, rgedges_ok (N.more _), ?_⟩ | refine br_eq rfl ?_ | rw [getB_app0] | refine addB_f0 ?_); conv => whnf)
  exact ⟨congrArg V.bool (by simp), _, rfl⟩
theorem rfits_no {n0 n1 n2 n3 : Nat} (h : ¬ Fit n n0 n1 n2 n3) : COk Tryz.prog 3 126 [.ptr (b + 1) 0, seaV j0 j1 j2 j3 n0 n1 n2 n3 sky step] M (Bo false) M := by
  by_cases h0 : n0 = 6 * (n * n)
  · by_cases h1 : n1 = 6 * (n * n)
    · by_cases h2 : n2 = 6 * (n * n)
      · have h3 : n3 ≠ (edges n).length := fun h3 => h ⟨h0, h1, h2, h3⟩
        subst h0 h1 h2
        refine COk_quiet Tryz.f126 Tryz.func126 (by kernel_rfl) rfl ?_
        (conv => whnf); repeat ((first | refine ⟨_, _, rgcells_ok (N.more _) hn hn', ?_⟩ | refine ⟨_, rgedges_ok (N.more _), ?_⟩ | refine br_eq rfl ?_ | rw [getB_app0] | refine addB_f0 ?_); conv => whnf)
        exact ⟨congrArg V.bool (by first | rfl | (simp; done) | (simp; omega)), _, rfl⟩
      · subst h0 h1
        refine COk_quiet Tryz.f126 Tryz.func126 (by kernel_rfl) rfl ?_
        (conv => whnf); repeat ((first | refine ⟨_, _, rgcells_ok (N.more _) hn hn', ?_⟩ | refine br_eq rfl ?_ | refine br_nd (by omega) ?_ | rw [getB_app0] | refine addB_f0 ?_); conv => whnf)
        exact ⟨congrArg V.bool (by first | rfl | (simp; done) | (simp; omega)), _, rfl⟩
    · subst h0
      refine COk_quiet Tryz.f126 Tryz.func126 (by kernel_rfl) rfl ?_
      (conv => whnf); repeat ((first | refine ⟨_, _, rgcells_ok (N.more _) hn hn', ?_⟩ | refine br_eq rfl ?_ | refine br_nd (by omega) ?_ | rw [getB_app0] | refine addB_f0 ?_); conv => whnf)
      exact ⟨congrArg V.bool (by first | rfl | (simp; done) | (simp; omega)), _, rfl⟩
  · refine COk_quiet Tryz.f126 Tryz.func126 (by kernel_rfl) rfl ?_
    (conv => whnf); repeat ((first | refine ⟨_, _, rgcells_ok (N.more _) hn hn', ?_⟩ | refine br_nd (by omega) ?_ | rw [getB_app0] | refine addB_f0 ?_); conv => whnf)
    exact ⟨congrArg V.bool (by first | rfl | (simp; done) | (simp; omega)), _, rfl⟩
theorem rAll_no {n0 n1 n2 n3 : Nat} (hf : ¬ Fit n n0 n1 n2 n3) (side : Int) (p : PlF) (lim : Int) (riv : Bool) (ra : Option Addr) (rl rc : Nat) :
    COk Tryz.prog 3 62 [.ptr (b + 1) 0, planV side p lim riv ra rl rc, seaV j0 j1 j2 j3 n0 n1 n2 n3 sky step] M (.tup [nilS', I 1]) M := by
  refine COk_quiet Tryz.f62 Tryz.func62 (by kernel_rfl) rfl ?_
  (conv => whnf); repeat ((first | refine ⟨_, _, rfits_no (N.more _) hn hn' sky step hf, ?_⟩ | rw [getB_app] | refine addB_f1 ?_ | refine addB_f0 ?_); conv => whnf)
  exact ⟨rfl, _, rfl⟩
end
section
variable {M : List Blk} (hm : Top M) {b n : Nat} (hsc : scM M.length M = true) (N : RNet M b n) {j0 j1 j2 j3 : Nat} {Be : List Nat} {Wt Tr : List Int} {Sp : List Nat} (S : SeaR M j0 j1 j2 j3 Be Wt Tr Sp) (sky step : Int) (hf : Fit n Be.length Wt.length Tr.length Sp.length) (hn : 1 ≤ n) (hn' : n ≤ 32)
include hm hsc N S hf hn hn'
set_option maxHeartbeats 0 in
theorem rAll_ok (side : Int) (p : PlF) (lim : Int) (riv : Bool) (ra : Option Addr) (rl rc : Nat) :
    COk Tryz.prog 3 62 [.ptr (b + 1) 0, planV side p lim riv ra rl rc, seaV j0 j1 j2 j3 Be.length Wt.length Tr.length Sp.length sky step] M (.tup [.gs (M.length + 3) (Sp.length - 1) 1 Sp.length, I 0])
      (M ++ [plC side p lim riv ra rl rc, seC j0 j1 j2 j3 Be.length Wt.length Tr.length Sp.length sky step, ⟨true, .cells [.int .i64 (fluxT n lim p.dt Be Wt Sp 0)]⟩, ⟨true, .gints (Sp.length - 1) .i64 (tab Sp.length (fluxT n lim p.dt Be Wt Sp))⟩]) := by
  have l0 := S.s0.lt
  have l1 := S.s1.lt
  have l2 := S.s2.lt
  have l3 := S.s3.lt
  have hnl := N.lt
  have hlen := edges_len hn
  have hsq : n * n ≤ 1024 := Nat.mul_le_mul hn' hn'
  have hsq1 : 1 ≤ n * n := Nat.mul_le_mul hn hn
  have hfit := fun z => rfits_yes (N.more z) hn hn' sky step (j0 := j0) (j1 := j1) (j2 := j2) (j3 := j3) hf
  obtain ⟨q0, q1, q2, q3⟩ := hf
  have hge : ∀ x, COk Tryz.prog 3 33 [.ptr (b + 1) 0] (M ++ x) (I Sp.length) (M ++ x) := fun x => by rw [q3]; exact rgedges_ok (N.more x)
  have hscm : ∀ (k : Int) (v : Nat) (X : List Int), scM (M ++ ([plC side p lim riv ra rl rc, seC j0 j1 j2 j3 Be.length Wt.length Tr.length Sp.length sky step, ⟨true, .cells [.int .i64 k]⟩, ⟨true, .gints v .i64 X⟩] : List Blk)).length (M ++ ([plC side p lim riv ra rl rc, seC j0 j1 j2 j3 Be.length Wt.length Tr.length Sp.length sky step, ⟨true, .cells [.int .i64 k]⟩, ⟨true, .gints v .i64 X⟩] : List Blk)) = true := fun k v X => scM_app (scM_mono (by simp) _ hsc) (by simp [scM, B.sc, scL, V.sc]; omega)
  refine COk_of_ev Tryz.f62 Tryz.func62 (by kernel_rfl) (by simp) (by simp [V.sc, scL]) (.inr (hscm _ _ _)) ?_
  have hx0 := List.getElem?_eq_getElem (l := edges n) (show 0 < (edges n).length by omega)
  generalize (edges n)[0] = x0 at hx0
  have hd0 := fun z => rdepth12_ok (hm.app z) (N.more z) (vT := .sl j2 0 Tr.length) (vS := .sl j3 0 Sp.length) (S.s0.app z) (S.s1.app z) rfl rfl sky step hn hn' hx0 q0 q1 lim (Sp.getD 0 0)
  have hL0 := fun z => rlength_at (hm.app z) (N.more z) hn hn' 0 x0 hx0
  have hQ0 := fun m => refquanta_ok (Sp.getD 0 0) (reconF n lim Be Wt x0 (Sp.getD 0 0)) (lnE n x0) p.dt m
  have e0 : quantF (Sp.getD 0 0) (reconF n lim Be Wt x0 (Sp.getD 0 0)) (lnE n x0) p.dt = fluxT n lim p.dt Be Wt Sp 0 := (fluxT_at hx0).symm
  rw [e0] at hQ0
  (conv => whnf); repeat ((first | refine ⟨_, _, hfit _, ?_⟩ | rw [getB_app] | refine addB_f1 ?_ | refine addB_f0 ?_); conv => whnf)
  refine lr ?_
  (conv => whnf); repeat ((first | refine ⟨_, _, hge _, ?_⟩ | refine SlF.at (S.s3.app _) (i := 0) (by omega) rfl ?_ | refine ⟨_, hd0 _, ?_⟩ | refine ⟨_, hL0 _, ?_⟩ | refine ⟨_, hQ0 _, ?_⟩ | refine ⟨⟨by decide, by decide⟩, ?_⟩ | refine br_d (by omega) ?_ | rw [getB_app] | rw [getB_app0] | refine addB_f3 ?_ | refine addB_f2 ?_); conv => whnf)
  refine loop_to (fun k => [.ptr (b + 1) 0, .any, .any, .any, .ptr M.length 0, .ptr (M.length + 1) 0, .any, .any, .gs (M.length + 3) (k - 1) 1 k, I k, .any, .any, .any, .any, .any, .any, .any, .any, .any, .any, .any, .any, .any, .any, .any, .any, .any, .any, .any, .any, .any, .any, .any, .any, .any, .any, .any, .any, .any, .any, .any, .any, .any, .any, .any, .any, .any, .any, .any, .any]) (fun k => M ++ [plC side p lim riv ra rl rc, seC j0 j1 j2 j3 Be.length Wt.length Tr.length Sp.length sky step, ⟨true, .cells [.int .i64 (fluxT n lim p.dt Be Wt Sp 0)]⟩, ⟨true, .gints (k - 1) .i64 (tab k (fluxT n lim p.dt Be Wt Sp))⟩]) 1 Sp.length (by omega) ?_ ?_ ?_
  · refine Fg.of [] ?_ (by first | (rw [List.append_nil]; done) | (rw [List.append_nil]; rfl)) (by simp) (by (simp [scL, V.sc]) <;> omega) (hscm _ _ _)
    conv => whnf
    exact ⟨rfl, rfl, rfl, rfl, wrapKV (k := 0) (by decide), rfl⟩
  · intro c hc1 hc2
    obtain ⟨v, rfl⟩ : ∃ v, c = v + 1 := ⟨c - 1, by omega⟩
    have hx := List.getElem?_eq_getElem (l := edges n) (show v + 1 < (edges n).length by omega)
    generalize (edges n)[v + 1] = x at hx
    have hd := fun z => rdepth12_ok (hm.app z) (N.more z) (vT := .sl j2 0 Tr.length) (vS := .sl j3 0 Sp.length) (S.s0.app z) (S.s1.app z) rfl rfl sky step hn hn' hx q0 q1 lim (Sp.getD (v + 1) 0)
    have hL := fun z => rlength_at (hm.app z) (N.more z) hn hn' (v + 1) x hx
    have hQ := fun m => refquanta_ok (Sp.getD (v + 1) 0) (reconF n lim Be Wt x (Sp.getD (v + 1) 0)) (lnE n x) p.dt m
    have e1 : quantF (Sp.getD (v + 1) 0) (reconF n lim Be Wt x (Sp.getD (v + 1) 0)) (lnE n x) p.dt = fluxT n lim p.dt Be Wt Sp (v + 1) := (fluxT_at hx).symm
    rw [e1] at hQ
    (conv => whnf); repeat ((first | refine ⟨_, _, hge _, ?_⟩ | refine SlF.at (S.s3.app _) (i := v + 1) (by omega) rfl ?_ | refine ⟨_, hd _, ?_⟩ | refine ⟨_, hL _, ?_⟩ | refine ⟨_, hQ _, ?_⟩ | refine br_d (by omega) ?_ | rw [getB_app] | rw [getB_app0] | refine addB_f4 ?_); conv => whnf)
    refine ⟨⟨rfl, rfl, (by show (tab (v + 1) (fluxT n lim p.dt Be Wt Sp)).length = (v + 1) * 1; rw [tab_len]; omega), (by show (v + 1 + 1) * 8 ≤ _; omega)⟩, ?_⟩
    (conv => whnf); repeat (refine setB_app ?_; conv => whnf)
    refine Fg.of [_] ?_ (by rw [List.append_assoc, show v + 1 + 1 - 1 = v + 1 from rfl, tab_succ (v + 1)]; rfl) (by simp) (by (simp [scL, V.sc]) <;> omega) (hscm _ _ _)
    conv => whnf
    exact ⟨rfl, rfl, rfl, rfl, wrapKL (by omega), rfl⟩
  · (conv => whnf); repeat ((first | refine ⟨_, _, hge _, ?_⟩ | refine br_nd (by omega) ?_); conv => whnf)
    exact ⟨rfl, [], by rw [List.append_nil]⟩
end
def giS (L w i : Nat) : Option Nat := if i = L + 3 then some (w - 1) else none
theorem rAll_up {M : List Blk} (hm : Top M) {b n : Nat} (hsc : scM M.length M = true) (N : RNet M b n) {j0 j1 j2 j3 : Nat} {Be : List Nat} {Wt Tr : List Int} {Sp : List Nat} (S : SeaR M j0 j1 j2 j3 Be Wt Tr Sp) (sky step : Int) (hf : Fit n Be.length Wt.length Tr.length Sp.length) (hn : 1 ≤ n) (hn' : n ≤ 32) (side : Int) (p : PlF) (lim : Int) (riv : Bool) (ra : Option Addr) (rl rc : Nat) :
    ∃ M', COk Tryz.prog 3 62 [.ptr (b + 1) 0, planV side p lim riv ra rl rc, seaV j0 j1 j2 j3 Be.length Wt.length Tr.length Sp.length sky step] M (.tup [.sl (M.length + 3) 0 Sp.length, I 0]) M' ∧ Up M M' ∧ SlI M' (M.length + 3) 0 (tab Sp.length (fluxT n lim p.dt Be Wt Sp)) := by
  have h := rAll_ok hm hsc N S sky step hf hn hn' side p lim riv ra rl rc
  have at3 : giS M.length Sp.length (M.length + 3) = some (Sp.length - 1) := if_pos rfl
  have ne : ∀ k, k ≠ M.length + 3 → giS M.length Sp.length k = none := fun k hk => if_neg hk
  have h9 := COk.settle (N' := [⟨false, .dead⟩, ⟨false, .dead⟩, ⟨false, .dead⟩, ⟨true, .ints .i64 (tab Sp.length (fluxT n lim p.dt Be Wt Sp))⟩]) (giS M.length Sp.length) h ?_ ?_ ?_ ?_
  · refine ⟨M ++ [⟨false, .dead⟩, ⟨false, .dead⟩, ⟨false, .dead⟩, ⟨true, .ints .i64 (tab Sp.length (fluxT n lim p.dt Be Wt Sp))⟩], ?_, Up.of hsc rfl, SlI.tab (getB_app 3) (fun i hi => fluxT_in _ _ _ _ _ _ _) S.s3.short⟩
    have e : (V.tup [.gs (M.length + 3) (Sp.length - 1) 1 Sp.length, I 0]).stl (giS M.length Sp.length) = .tup [.sl (M.length + 3) 0 Sp.length, I 0] := by
      show V.tup [V.stl _ (.gs (M.length + 3) (Sp.length - 1) 1 Sp.length), I 0] = _
      simp only [V.stl, at3]
    rw [e] at h9
    exact h9
  · intro i hi
    exact ne i (by omega)
  · intro i hi
    have hi : M.length + 4 ≤ i := hi
    exact ne i (by omega)
  · refine ⟨?_, trivial, trivial⟩
    intro u hu
    exact (Option.some.inj (at3.symm.trans hu)).symm
  · exact ⟨.gone (.inl (ne _ (by omega))) (.inl rfl), .gone (.inl (ne _ (by omega))) (.inl rfl), .gone (.inl (ne _ (by omega))) (.inl rfl), .ints at3 (fun _ => rfl), trivial⟩
set_option maxHeartbeats 0 in
theorem all13_ok {M : List Blk} (hm : Top M) (hsc : scM M.length M = true) (x : Int) (side : Int) (p : PlF) (lim : Int) (riv : Bool) (ra : Option Addr) (rl rc : Nat) {w : Bool} {j0 j1 j2 j3 : Nat} {Be : List Nat} {Wt Tr : List Int} {Sp : List Nat} (S : SeaB M w j0 j1 j2 j3 Be Wt Tr Sp) (sky step : Int) :
    COk Tryz.prog 3 11 [I x, planV side p lim riv ra rl rc, seaV j0 j1 j2 j3 Be.length Wt.length Tr.length Sp.length sky step] M (Bo true) M := by
  have l0 := S.read.s0.lt
  have l1 := S.read.s1.lt
  have l2 := S.read.s2.lt
  have l3 := S.read.s3.lt
  have u0 : Up M (M ++ ([plC side p lim riv ra rl rc, seC j0 j1 j2 j3 Be.length Wt.length Tr.length Sp.length sky step] : List Blk)) := Up.of hsc (by simp [scM, B.sc, scL, V.sc]; omega)
  have hlv := lives13_ok (hm.up u0) u0.sc
  have hnil := fun M => All_nil (M := M) side p lim riv ra rl rc j0 j1 j2 j3 Be.length Wt.length Tr.length Sp.length sky step
  have pP : ∀ z, getB (M ++ (([plC side p lim riv ra rl rc, seC j0 j1 j2 j3 Be.length Wt.length Tr.length Sp.length sky step] : List Blk) ++ z)) M.length = plC side p lim riv ra rl rc := fun z => getB_app0
  have pS : ∀ z, getB (M ++ (([plC side p lim riv ra rl rc, seC j0 j1 j2 j3 Be.length Wt.length Tr.length Sp.length sky step] : List Blk) ++ z)) (M.length + 1) = seC j0 j1 j2 j3 Be.length Wt.length Tr.length Sp.length sky step := fun z => getB_app 1
  have box : ∀ {M' : List Blk}, (∃ y, M' = (M ++ ([plC side p lim riv ra rl rc, seC j0 j1 j2 j3 Be.length Wt.length Tr.length Sp.length sky step] : List Blk)) ++ y) → getB M' M.length = plC side p lim riv ra rl rc ∧ getB M' (M.length + 1) = seC j0 j1 j2 j3 Be.length Wt.length Tr.length Sp.length sky step := by
    rintro M' ⟨y, rfl⟩
    rw [List.append_assoc]
    exact ⟨pP y, pS y⟩
  by_cases hs : 1 ≤ x ∧ x ≤ 32
  · obtain ⟨n, rfl⟩ : ∃ n : Nat, x = n := ⟨x.toNat, by omega⟩
    have hn1 : 1 ≤ n := by omega
    have hn2 : n ≤ 32 := by omega
    obtain ⟨b, M1, hnew, N, u1⟩ := new_up (hm.up u0) u0.sc n hn1 hn2
    have hm1 := (hm.up u0).up u1
    obtain ⟨b', M2, hrnew, R, u2⟩ := rnew_up hm1 u1.sc n hn1 hn2
    have hm2 := hm1.up u2
    have hs2 := u2.sc
    have N := N.up u2
    have ux := (u0.trans u1).trans u2
    have hlen := ux.len
    have S2 := S.read.up ux
    have g2 := box (u1.trans u2).ex
    by_cases hf : Fit n Be.length Wt.length Tr.length Sp.length
    · obtain ⟨M3, hA, u3, _, T1, _⟩ := All_up hs2 N S2 sky step hf hn1 hn2 side p lim riv ra rl rc
      have S3 := S2.up u3
      have g3 := box ((u1.trans u2).trans u3).ex
      obtain ⟨M4, hB, u4, T2⟩ := rAll_up (hm2.up u3) u3.sc (R.up u3) S3 sky step hf hn1 hn2 side p lim riv ra rl rc
      have hC := ints13_eq u4.sc (T1.up u4) T2
      rw [tab_len] at hC
      refine COk_quiet Tryz.f11 Tryz.func11 (by kernel_rfl) rfl ?_
      (conv => whnf); repeat ((first | refine ⟨_, _, hlv, ?_⟩ | refine ⟨_, _, hnil _, ?_⟩ | refine ⟨_, _, hnew, ?_⟩ | refine ⟨_, _, hrnew, ?_⟩ | rw [g2.1] | rw [g2.2] | rw [g3.1] | rw [g3.2] | refine ⟨_, _, hA, ?_⟩ | refine ⟨_, _, hB, ?_⟩ | refine ⟨_, _, hC, ?_⟩ | rw [getB_app] | rw [getB_app0] | refine addB_f1 ?_ | refine addB_f0 ?_); conv => whnf)
      exact ⟨rfl, ((ux.trans u3).trans u4).ex⟩
    · have hA := All_no hs2 N sky step (j0 := j0) (j1 := j1) (j2 := j2) (j3 := j3) (by omega) (by omega) (by omega) (by omega) hf side p lim riv ra rl rc
      have u3 : Up M2 (M2 ++ ([plC side p lim riv ra rl rc, seC j0 j1 j2 j3 Be.length Wt.length Tr.length Sp.length sky step] : List Blk)) := Up.of hs2 (by simp [scM, B.sc, scL, V.sc]; omega)
      have g3 := box ((u1.trans u2).trans u3).ex
      have hB := rAll_no (R.up u3) hn1 hn2 (j0 := j0) (j1 := j1) (j2 := j2) (j3 := j3) sky step hf side p lim riv ra rl rc
      refine COk_quiet Tryz.f11 Tryz.func11 (by kernel_rfl) rfl ?_
      (conv => whnf); repeat ((first | refine ⟨_, _, hlv, ?_⟩ | refine ⟨_, _, hnil _, ?_⟩ | refine ⟨_, _, hnew, ?_⟩ | refine ⟨_, _, hrnew, ?_⟩ | rw [g2.1] | rw [g2.2] | rw [g3.1] | rw [g3.2] | refine ⟨_, _, hA, ?_⟩ | refine ⟨_, _, hB, ?_⟩ | refine ⟨_, _, ints13_nil _, ?_⟩ | rw [getB_app] | rw [getB_app0] | refine addB_f1 ?_ | refine addB_f0 ?_); conv => whnf)
      exact ⟨rfl, (ux.trans u3).ex⟩
  · have hnew := new_no x hs (M ++ ([plC side p lim riv ra rl rc, seC j0 j1 j2 j3 Be.length Wt.length Tr.length Sp.length sky step] : List Blk))
    have hrnew := rnew_no x hs (M ++ ([plC side p lim riv ra rl rc, seC j0 j1 j2 j3 Be.length Wt.length Tr.length Sp.length sky step] : List Blk))
    refine COk_quiet Tryz.f11 Tryz.func11 (by kernel_rfl) rfl ?_
    (conv => whnf); repeat ((first | refine ⟨_, _, hlv, ?_⟩ | refine ⟨_, _, hnil _, ?_⟩ | refine ⟨_, _, hnew, ?_⟩ | refine ⟨_, _, hrnew, ?_⟩ | rw [getB_app] | rw [getB_app0] | refine addB_f1 ?_ | refine addB_f0 ?_); conv => whnf)
    exact ⟨rfl, _, rfl⟩
end Go.Proofs.YthoofdnnfahhaaaGreatDoor
