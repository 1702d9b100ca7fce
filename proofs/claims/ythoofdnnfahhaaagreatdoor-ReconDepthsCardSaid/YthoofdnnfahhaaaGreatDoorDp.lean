/- Depths of raw seas beside the document's. No condition. -/
import Derived.Test.YthoofdnnfahhaaaGreatDoorRa
import Derived.Test.YthoofdnnfahhaaaGreatDoorRx
import Derived.Test.YthoofdnnfahhaaaGreatDoorFq
import Derived.Test.YthoofdnnfahhaaaGreatDoorKr
namespace Go.Proofs.YthoofdnnfahhaaaGreatDoor
open Go Go.Eng
set_option maxRecDepth 100000
set_option linter.unusedSimpArgs false
set_option linter.unusedVariables false

/-- The depths over all edges. -/
def depT (n : Nat) (lim : Int) (Be : List Nat) (Wt : List Int) (Sp : List Nat) (e : Nat) : Nat := match (edges n)[e]? with
  | some x => reconF n lim Be Wt x (Sp.getD e 0)
  | none => 0
theorem depT_at {n : Nat} {lim : Int} {Be : List Nat} {Wt : List Int} {Sp : List Nat} {e : Nat} {x : Ed} (hx : (edges n)[e]? = some x) : depT n lim Be Wt Sp e = reconF n lim Be Wt x (Sp.getD e 0) := by
  rw [depT, hx]
theorem posF_in {a g : Option Nat} (ha : a = none ∨ Num a) (hg : g = none ∨ Num g) : posF (minO a g) < 18446744073709551616 := by
  have hq : posF qn = 0 := by unfold posF; rw [show fgt (some qn) (some 0) = false by decide +kernel, if_neg (by decide)]
  have key : ∀ r, r < 18446744073709551616 → posF r < 18446744073709551616 := fun r hr => by
    unfold posF
    split
    · exact hr
    · decide
  have wdl : ∀ (s : Bool) {R : Nat}, R ≤ infR → wd s R < 18446744073709551616 := fun s R hR => by
    have hi := infR_eq
    cases s
    · rw [wd_false]; omega
    · rw [wd_true]; omega
  rcases ha with rfl | ⟨s, R, hR, rfl⟩
  · rw [show minO none g = qn by cases g <;> rfl, hq]; decide
  rcases hg with rfl | ⟨t, Q, hQ, rfl⟩
  · rw [show minO (some (wd s R)) none = qn from rfl, hq]; decide
  refine key _ ?_
  unfold minO
  simp only
  split
  · decide
  · split
    · exact wdl t hQ
    · exact wdl s hR
theorem recon_in (n : Nat) (lim : Int) (Be : List Nat) (Wt : List Int) (y : Ed) (u : Nat) : reconF n lim Be Wt y u < 18446744073709551616 := by
  unfold reconF
  split
  · exact posF_in (num_add _ _) (num_sub _ _)
  · split
    · exact posF_in (num_add _ _) (num_sub _ _)
    · decide
theorem depT_in (n : Nat) (lim : Int) (Be : List Nat) (Wt : List Int) (Sp : List Nat) (e : Nat) : depT n lim Be Wt Sp e < 18446744073709551616 := by
  unfold depT
  split
  · exact recon_in _ _ _ _ _ _
  · decide
abbrev dpC (j0 j1 j2 j3 n0 n1 n2 n3 : Nat) (sky step : Int) : Blk := ⟨true, .cells [.sl j0 0 n0, .sl j1 0 n1, .sl j2 0 n2, .sl j3 0 n3, .int .i64 sky, I step]⟩
section
variable {M : List Blk} (hsc : scM M.length M = true) {b n : Nat} (N : Net M b n) {j0 j1 j3 : Nat} {Be : List Nat} {Wt : List Int} {Sp : List Nat} (S0 : SlF M j0 0 Be) (S1 : SlI M j1 0 Wt) (S3 : SlF M j3 0 Sp) (hB : Be.length = 6 * (n * n)) (hW : Wt.length = 6 * (n * n)) (hS : Sp.length = (edges n).length) (hn : 1 ≤ n) (hn' : n ≤ 32) (sky step : Int) (lim : Int) {j2 q2 : Nat} (l2 : j2 < M.length)
include hsc N S0 S1 S3 hB hW hS hn hn' l2
set_option maxHeartbeats 0 in
theorem Depths_ok (hl : 0 ≤ lim ∧ lim ≤ 3) : COk Tryz.prog 3 58 [.ptr (b + 1) 0, I lim, seaQ j0 j1 Be.length Wt.length (.sl j2 0 q2) (.sl j3 0 Sp.length) sky step] M (.tup [.sl (M.length + 1) 0 Sp.length, I 0]) (M ++ [dpC j0 j1 j2 j3 Be.length Wt.length q2 Sp.length sky step, ⟨true, .flts (tab Sp.length (depT n lim Be Wt Sp))⟩]) := by
  have l0 := S0.lt
  have l1 := S1.lt
  have l3 := S3.lt
  have hnl := N.lt
  have hlen := edges_len hn
  have hsq : n * n ≤ 1024 := Nat.mul_le_mul hn' hn'
  have hscm : ∀ L : List Nat, scM (M ++ ([dpC j0 j1 j2 j3 Be.length Wt.length q2 Sp.length sky step, ⟨true, .flts L⟩] : List Blk)).length (M ++ ([dpC j0 j1 j2 j3 Be.length Wt.length q2 Sp.length sky step, ⟨true, .flts L⟩] : List Blk)) = true := fun L => scM_app (scM_mono (by simp) _ hsc) (by simp [scM, B.sc, scL, V.sc]; omega)
  have hge : ∀ x, COk Tryz.prog 3 32 [.ptr (b + 1) 0] (M ++ x) (I Sp.length) (M ++ x) := fun x => by rw [hS]; exact gedges_ok (N.more x)
  have hgc : ∀ x, COk Tryz.prog 3 30 [.ptr (b + 1) 0] (M ++ x) (I (6 * (n * n) : Nat)) (M ++ x) := fun x => gcells_ok (N.more x)
  have hv := fun m => valid_ok lim m
  rw [decide_eq_true hl] at hv
  refine COk_of_ev Tryz.f58 Tryz.func58 (by kernel_rfl) (by simp) (by simp [V.sc, scL]) (.inr (hscm _)) ?_
  (conv => whnf); repeat ((first | refine ⟨_, _, hge _, ?_⟩ | refine ⟨_, hge _, ?_⟩ | refine ⟨_, hgc _, ?_⟩ | refine ⟨_, hv _, ?_⟩ | refine br_no (bo_eqn (by omega)) ?_ | refine br_d ⟨by omega, by omega, by omega, (by show (8 : Int) * _ ≤ 2 ^ 48; omega)⟩ ?_ | refine Or.inl ?_ | rw [getB_app0] | refine addB_f1 ?_ | refine addB_f0 ?_); conv => whnf)
  refine loop_to (fun k => [.ptr (b + 1) 0, I lim, .any, .any, .any, .ptr M.length 0, .any, .any, .sl (M.length + 1) 0 Sp.length, .any, .any, .any, .any, .any, .any, .any, .any, .any, .any, .any, .any, .any, .any, .any, .any, .any, .any, .any, .any, .any, .any, .any, .any, .any, .any, .any, .any, .any, .any, .any, .any, .any, .any, .any, .any, I Sp.length, I k, .any, .any, .any, .any, .any, .any, .any, .any, .any, .any, .any, .any, .any, .any, .any, .any, .any]) (fun k => M ++ [dpC j0 j1 j2 j3 Be.length Wt.length q2 Sp.length sky step, ⟨true, .flts (tab Sp.length (preT k (depT n lim Be Wt Sp) 0))⟩]) 0 Sp.length (Nat.zero_le _) ?_ ?_ ?_
  · refine Fg.of [] ?_ (by rw [List.append_nil, ← pre_0]; try rfl) (by simp) (by (simp [scL, V.sc]) <;> omega) (hscm _)
    conv => whnf
    exact ⟨rfl, rfl, rfl, rfl, rfl, rfl, rfl⟩
  · intro k _ hk
    have hx := List.getElem?_eq_getElem (l := edges n) (show k < (edges n).length by omega)
    generalize (edges n)[k] = x at hx
    have e := pre_set (N := Sp.length) (k := k) (depT n lim Be Wt Sp) 0
    rw [depT_at hx] at e
    have hdz := fun (L : List Nat) => depth12_ok (vT := .sl j2 0 q2) (vS := .sl j3 0 Sp.length) (hscm L) (N.more _) (S0.app _) (S1.app _) (by first | (simp [V.sc]; done) | (simp [V.sc]; omega)) (by first | (simp [V.sc]; done) | (simp [V.sc]; omega)) rfl rfl sky step hn hx hB hW lim (Sp.getD k 0)
    (conv => whnf); repeat ((first | refine SlF.at (S3.app _) (i := k) hk rfl ?_ | refine ⟨_, hdz _, ?_⟩ | refine br_yes (tab_blt hk) ?_ | refine put_at (blkF e) ?_ | refine br_d (by omega) ?_ | rw [getB_app] | rw [getB_app0]); conv => whnf)
    refine Fg.of [] ?_ (by rw [List.append_nil]; try rfl) (by simp) (by (simp [scL, V.sc]) <;> omega) (hscm _)
    conv => whnf
    exact ⟨rfl, rfl, rfl, rfl, rfl, wrapKL (by omega), rfl⟩
  · (conv => whnf); repeat (refine br_nd (by omega) ?_; conv => whnf)
    refine ⟨rfl, [], ?_⟩
    rw [List.append_nil, pre_end]
end
abbrev seaR (j0 j1 j2 j3 q0 q1 q2 q3 : Nat) (sky step : Int) : V := seaQ j0 j1 q0 q1 (.sl j2 0 q2) (.sl j3 0 q3) sky step
theorem Depths_nil {M : List Blk} (lim : Int) (j0 j1 j2 j3 q0 q1 q2 q3 : Nat) (sky step : Int) : COk Tryz.prog 3 58 [nilP, I lim, seaR j0 j1 j2 j3 q0 q1 q2 q3 sky step] M (.tup [nilS', I 2]) M := by
  refine COk_quiet Tryz.f58 Tryz.func58 (by kernel_rfl) rfl ?_
  (conv => whnf); repeat (refine addB_f0 ?_; conv => whnf)
  exact ⟨rfl, _, rfl⟩
theorem rDepths_nil {M : List Blk} (lim : Int) (j0 j1 j2 j3 q0 q1 q2 q3 : Nat) (sky step : Int) : COk Tryz.prog 3 59 [nilP, I lim, seaR j0 j1 j2 j3 q0 q1 q2 q3 sky step] M (.tup [nilS', I 2]) M := by
  refine COk_quiet Tryz.f59 Tryz.func59 (by kernel_rfl) rfl ?_
  (conv => whnf); repeat (refine addB_f0 ?_; conv => whnf)
  exact ⟨rfl, _, rfl⟩
theorem Depths_arg {M : List Blk} {b n : Nat} (N : Net M b n) {lim : Int} {j0 j1 j2 j3 q0 q1 q2 q3 : Nat} (h : ¬ (q0 = 6 * (n * n) ∧ q1 = 6 * (n * n) ∧ q3 = (edges n).length ∧ 0 ≤ lim ∧ lim ≤ 3)) (sky step : Int) :
    COk Tryz.prog 3 58 [.ptr (b + 1) 0, I lim, seaR j0 j1 j2 j3 q0 q1 q2 q3 sky step] M (.tup [nilS', I 1]) M := by
  have hv := fun m => valid_ok lim m
  by_cases h0 : q0 = 6 * (n * n)
  · subst h0
    by_cases h1 : q1 = 6 * (n * n)
    · subst h1
      by_cases h3 : q3 = (edges n).length
      · subst h3
        rw [decide_eq_false (fun hl => h (by exact ⟨rfl, rfl, rfl, hl⟩))] at hv
        refine COk_quiet Tryz.f58 Tryz.func58 (by kernel_rfl) rfl ?_
        (conv => whnf); repeat ((first | refine ⟨_, gcells_ok (N.more _), ?_⟩ | refine ⟨_, gedges_ok (N.more _), ?_⟩ | refine ⟨_, hv _, ?_⟩ | refine br_no (bo_eqn rfl) ?_ | rw [getB_app0] | refine addB_f0 ?_); conv => whnf)
        exact ⟨rfl, _, rfl⟩
      · refine COk_quiet Tryz.f58 Tryz.func58 (by kernel_rfl) rfl ?_
        (conv => whnf); repeat ((first | refine ⟨_, gcells_ok (N.more _), ?_⟩ | refine ⟨_, gedges_ok (N.more _), ?_⟩ | refine br_no (bo_eqn rfl) ?_ | refine br_ne (by omega) ?_ | rw [getB_app0] | refine addB_f0 ?_); conv => whnf)
        exact ⟨rfl, _, rfl⟩
    · refine COk_quiet Tryz.f58 Tryz.func58 (by kernel_rfl) rfl ?_
      (conv => whnf); repeat ((first | refine ⟨_, gcells_ok (N.more _), ?_⟩ | refine br_no (bo_eqn rfl) ?_ | refine br_ne (by omega) ?_ | rw [getB_app0] | refine addB_f0 ?_); conv => whnf)
      exact ⟨rfl, _, rfl⟩
  · refine COk_quiet Tryz.f58 Tryz.func58 (by kernel_rfl) rfl ?_
    (conv => whnf); repeat ((first | refine ⟨_, gcells_ok (N.more _), ?_⟩ | refine br_ne (by omega) ?_ | rw [getB_app0] | refine addB_f0 ?_); conv => whnf)
    exact ⟨rfl, _, rfl⟩
theorem rDepths_arg {M : List Blk} {b n : Nat} (N : RNet M b n) (hn : 1 ≤ n) (hn' : n ≤ 32) {lim : Int} {j0 j1 j2 j3 q0 q1 q2 q3 : Nat} (h : ¬ (q0 = 6 * (n * n) ∧ q1 = 6 * (n * n) ∧ q3 = (edges n).length ∧ 0 ≤ lim ∧ lim ≤ 3)) (sky step : Int) :
    COk Tryz.prog 3 59 [.ptr (b + 1) 0, I lim, seaR j0 j1 j2 j3 q0 q1 q2 q3 sky step] M (.tup [nilS', I 1]) M := by
  have hv := fun m => rvalid_ok lim m
  by_cases h0 : q0 = 6 * (n * n)
  · subst h0
    by_cases h1 : q1 = 6 * (n * n)
    · subst h1
      by_cases h3 : q3 = (edges n).length
      · subst h3
        rw [decide_eq_false (fun hl => h (by exact ⟨rfl, rfl, rfl, hl⟩))] at hv
        refine COk_quiet Tryz.f59 Tryz.func59 (by kernel_rfl) rfl ?_
        (conv => whnf); repeat ((first | refine ⟨_, rgcells_ok (N.more _) hn hn', ?_⟩ | refine ⟨_, rgedges_ok (N.more _), ?_⟩ | refine ⟨_, hv _, ?_⟩ | refine br_no (bo_eqn rfl) ?_ | rw [getB_app0] | refine addB_f0 ?_); conv => whnf)
        exact ⟨rfl, _, rfl⟩
      · refine COk_quiet Tryz.f59 Tryz.func59 (by kernel_rfl) rfl ?_
        (conv => whnf); repeat ((first | refine ⟨_, rgcells_ok (N.more _) hn hn', ?_⟩ | refine ⟨_, rgedges_ok (N.more _), ?_⟩ | refine br_no (bo_eqn rfl) ?_ | refine br_ne (by omega) ?_ | rw [getB_app0] | refine addB_f0 ?_); conv => whnf)
        exact ⟨rfl, _, rfl⟩
    · refine COk_quiet Tryz.f59 Tryz.func59 (by kernel_rfl) rfl ?_
      (conv => whnf); repeat ((first | refine ⟨_, rgcells_ok (N.more _) hn hn', ?_⟩ | refine br_no (bo_eqn rfl) ?_ | refine br_ne (by omega) ?_ | rw [getB_app0] | refine addB_f0 ?_); conv => whnf)
      exact ⟨rfl, _, rfl⟩
  · refine COk_quiet Tryz.f59 Tryz.func59 (by kernel_rfl) rfl ?_
    (conv => whnf); repeat ((first | refine ⟨_, rgcells_ok (N.more _) hn hn', ?_⟩ | refine br_ne (by omega) ?_ | rw [getB_app0] | refine addB_f0 ?_); conv => whnf)
    exact ⟨rfl, _, rfl⟩
section
variable {M : List Blk} (hm : Top M) (hsc : scM M.length M = true) {b n : Nat} (N : RNet M b n) {j0 j1 j3 : Nat} {Be : List Nat} {Wt : List Int} {Sp : List Nat} (S0 : SlF M j0 0 Be) (S1 : SlI M j1 0 Wt) (S3 : SlF M j3 0 Sp) (hB : Be.length = 6 * (n * n)) (hW : Wt.length = 6 * (n * n)) (hS : Sp.length = (edges n).length) (hn : 1 ≤ n) (hn' : n ≤ 32) (sky step : Int) (lim : Int) {j2 q2 : Nat} (l2 : j2 < M.length)
include hm hsc N S0 S1 S3 hB hW hS hn hn' l2
set_option maxHeartbeats 0 in
theorem rDepths_ok (hl : 0 ≤ lim ∧ lim ≤ 3) : COk Tryz.prog 3 59 [.ptr (b + 1) 0, I lim, seaR j0 j1 j2 j3 Be.length Wt.length q2 Sp.length sky step] M (.tup [.gs (M.length + 3) (Sp.length - 1) 1 Sp.length, I 0])
    (M ++ [dpC j0 j1 j2 j3 Be.length Wt.length q2 Sp.length sky step, ⟨true, .cells []⟩, ⟨true, .cells [F (depT n lim Be Wt Sp 0)]⟩, ⟨true, .gflts (Sp.length - 1) (tab Sp.length (depT n lim Be Wt Sp))⟩]) := by
  have l0 := S0.lt
  have l1 := S1.lt
  have l3 := S3.lt
  have hnl := N.lt
  have hlen := edges_len hn
  have hsq : n * n ≤ 1024 := Nat.mul_le_mul hn' hn'
  have hsq1 : 1 ≤ n * n := Nat.mul_le_mul hn hn
  have hge : ∀ x, COk Tryz.prog 3 33 [.ptr (b + 1) 0] (M ++ x) (I Sp.length) (M ++ x) := fun x => by rw [hS]; exact rgedges_ok (N.more x)
  have hgc : ∀ x, COk Tryz.prog 3 31 [.ptr (b + 1) 0] (M ++ x) (I (6 * (n * n) : Nat)) (M ++ x) := fun x => rgcells_ok (N.more x) hn hn'
  have hv := fun m => rvalid_ok lim m
  rw [decide_eq_true hl] at hv
  have c2 : Tryz.prog.cellsOf 26 = 1 := by kernel_rfl
  refine COk_of_ev Tryz.f59 Tryz.func59 (by kernel_rfl) (by simp) (by simp [V.sc, scL]) (.inr (scM_app (scM_mono (by simp) _ hsc) (by simp [scM, B.sc, scL, V.sc]; omega))) ?_
  (conv => whnf); repeat ((first | refine ⟨_, hge _, ?_⟩ | refine ⟨_, hgc _, ?_⟩ | refine ⟨_, hv _, ?_⟩ | refine br_no (bo_eqn (by omega)) ?_ | rw [getB_app0] | refine addB_f1 ?_ | refine addB_f0 ?_); conv => whnf)
  rw [c2, Nat.zero_mul, List.range_zero, List.map_nil]
  refine lr ?_
  have hx0 := List.getElem?_eq_getElem (l := edges n) (show 0 < (edges n).length by omega)
  generalize (edges n)[0] = x0 at hx0
  have hd0 := fun z => rdepth12_ok (hm.app z) (N.more z) (vT := .sl j2 0 q2) (vS := .sl j3 0 Sp.length) (S0.app z) (S1.app z) rfl rfl sky step hn hn' hx0 hB hW lim (Sp.getD 0 0)
  rw [← depT_at (lim := lim) (Be := Be) (Wt := Wt) (Sp := Sp) hx0] at hd0
  have hscm : ∀ (k v : Nat) (X : List Nat), scM (M ++ ([dpC j0 j1 j2 j3 Be.length Wt.length q2 Sp.length sky step, ⟨true, .cells []⟩, ⟨true, .cells [F k]⟩, ⟨true, .gflts v X⟩] : List Blk)).length (M ++ ([dpC j0 j1 j2 j3 Be.length Wt.length q2 Sp.length sky step, ⟨true, .cells []⟩, ⟨true, .cells [F k]⟩, ⟨true, .gflts v X⟩] : List Blk)) = true := fun k v X => scM_app (scM_mono (by simp) _ hsc) (by simp [scM, B.sc, scL, V.sc]; omega)
  (conv => whnf); repeat ((first | refine ⟨_, _, hge _, ?_⟩ | refine SlF.at (S3.app _) (i := 0) (by omega) rfl ?_ | refine ⟨_, hd0 _, ?_⟩ | refine ⟨(by show (0 + 1) * 8 ≤ 140737488355328; decide), ?_⟩ | refine br_d (by omega) ?_ | rw [getB_app] | rw [getB_app0] | refine addB_f3 ?_ | refine addB_f2 ?_); conv => whnf)
  refine loop_to (fun k => [.ptr (b + 1) 0, I lim, .any, .any, .any, .ptr M.length 0, .any, .any, .gs (M.length + 3) (k - 1) 1 k, I k, .any, .any, .any, .any, .any, .any, .any, .any, .any, .any, .any, .any, .any, .any, .any, .any, .any, .any, .any, .any, .any, .any, .any, .any, .any, .any, .any, .any, .any, .any, .any, .any, .any, .any, .any, .any, .any, .any, .any, .any, .any, .any, .any, .any, .any, .any, .any, .any, .any, .any]) (fun k => M ++ [dpC j0 j1 j2 j3 Be.length Wt.length q2 Sp.length sky step, ⟨true, .cells []⟩, ⟨true, .cells [F (depT n lim Be Wt Sp 0)]⟩, ⟨true, .gflts (k - 1) (tab k (depT n lim Be Wt Sp))⟩]) 1 Sp.length (by omega) ?_ ?_ ?_
  · refine Fg.of [] ?_ (by first | (rw [List.append_nil]; done) | (rw [List.append_nil]; rfl)) (by simp) (by (simp [scL, V.sc]) <;> omega) (hscm _ _ _)
    conv => whnf
    exact ⟨rfl, rfl, rfl, rfl, wrapKV (k := 0) (by decide), rfl⟩
  · intro c hc1 hc2
    obtain ⟨v, rfl⟩ : ∃ v, c = v + 1 := ⟨c - 1, by omega⟩
    have hx := List.getElem?_eq_getElem (l := edges n) (show v + 1 < (edges n).length by omega)
    generalize (edges n)[v + 1] = x at hx
    have hd := fun z => rdepth12_ok (hm.app z) (N.more z) (vT := .sl j2 0 q2) (vS := .sl j3 0 Sp.length) (S0.app z) (S1.app z) rfl rfl sky step hn hn' hx hB hW lim (Sp.getD (v + 1) 0)
    rw [← depT_at (lim := lim) (Be := Be) (Wt := Wt) (Sp := Sp) hx] at hd
    (conv => whnf); repeat ((first | refine ⟨_, _, hge _, ?_⟩ | refine SlF.at (S3.app _) (i := v + 1) (by omega) rfl ?_ | refine ⟨_, hd _, ?_⟩ | refine br_d (by omega) ?_ | rw [getB_app] | rw [getB_app0] | refine addB_f4 ?_); conv => whnf)
    refine ⟨⟨rfl, rfl, (by show (tab (v + 1) (depT n lim Be Wt Sp)).length = (v + 1) * 1; rw [tab_len]; omega), (by show (v + 1 + 1) * 8 ≤ _; omega)⟩, ?_⟩
    (conv => whnf); repeat (refine setB_app ?_; conv => whnf)
    refine Fg.of [_] ?_ (by rw [List.append_assoc, show v + 1 + 1 - 1 = v + 1 from rfl, tab_succ (v + 1)]; rfl) (by simp) (by (simp [scL, V.sc]) <;> omega) (hscm _ _ _)
    conv => whnf
    exact ⟨rfl, rfl, rfl, rfl, wrapKL (by omega), rfl⟩
  · (conv => whnf); repeat ((first | refine ⟨_, _, hge _, ?_⟩ | refine br_nd (by omega) ?_); conv => whnf)
    exact ⟨rfl, [], by rw [List.append_nil]⟩
end
theorem RNet.up {M M' : List Blk} {b n : Nat} (h : RNet M b n) (u : Up M M') : RNet M' b n := by
  obtain ⟨x, rfl⟩ := u.ex; exact h.more x
def gfS (L w i : Nat) : Option Nat := if i = L + 3 then some (w - 1) else none
theorem SlF_tabD {M : List Blk} {j : Nat} {w : Bool} {N : Nat} {G : Nat → Nat} (h : getB M j = ⟨w, .flts (tab N G)⟩) (hw : ∀ i, i < N → inF (G i)) (hs : N < 4611686018427387904) : SlF M j 0 (tab N G) :=
  SlF.flts h (fun i hi => ⟨by omega, by rw [Nat.zero_add]⟩) (fun i hi => by rw [tab_len] at hi; rw [tab_get hi]; exact hw i hi) (by rw [tab_len]; exact hs)
section
variable {M : List Blk} (hm : Top M) (hsc : scM M.length M = true) {b b' n : Nat} (N : Net M b n) (R : RNet M b' n) {j0 j1 j3 : Nat} {Be : List Nat} {Wt : List Int} {Sp : List Nat} (S0 : SlF M j0 0 Be) (S1 : SlI M j1 0 Wt) (S3 : SlF M j3 0 Sp) (hB : Be.length = 6 * (n * n)) (hW : Wt.length = 6 * (n * n)) (hS : Sp.length = (edges n).length) (hn : 1 ≤ n) (hn' : n ≤ 32) (sky step : Int) (lim : Int) {j2 q2 : Nat} (l2 : j2 < M.length)
include hsc N S0 S1 S3 hB hW hS hn hn' l2 in
theorem Depths_up (hl : 0 ≤ lim ∧ lim ≤ 3) : ∃ M', COk Tryz.prog 3 58 [.ptr (b + 1) 0, I lim, seaR j0 j1 j2 j3 Be.length Wt.length q2 Sp.length sky step] M (.tup [.sl (M.length + 1) 0 Sp.length, I 0]) M' ∧ Up M M' ∧ SlF M' (M.length + 1) 0 (tab Sp.length (depT n lim Be Wt Sp)) := by
  have l0 := S0.lt
  have l1 := S1.lt
  have l3 := S3.lt
  refine ⟨_, Depths_ok hsc N S0 S1 S3 hB hW hS hn hn' sky step lim l2 hl, Up.of hsc (by simp [scM, B.sc, scL, V.sc]; omega), SlF_tabD (getB_app 1) (fun i hi => depT_in _ _ _ _ _ _) S3.short⟩
include hm hsc R S0 S1 S3 hB hW hS hn hn' l2 in
theorem rDepths_up (hl : 0 ≤ lim ∧ lim ≤ 3) : ∃ M', COk Tryz.prog 3 59 [.ptr (b' + 1) 0, I lim, seaR j0 j1 j2 j3 Be.length Wt.length q2 Sp.length sky step] M (.tup [.sl (M.length + 3) 0 Sp.length, I 0]) M' ∧ Up M M' ∧ SlF M' (M.length + 3) 0 (tab Sp.length (depT n lim Be Wt Sp)) := by
  have l0 := S0.lt
  have l1 := S1.lt
  have l3 := S3.lt
  have h := rDepths_ok hm hsc R S0 S1 S3 hB hW hS hn hn' sky step lim l2 (q2 := q2) hl
  have at3 : gfS M.length Sp.length (M.length + 3) = some (Sp.length - 1) := if_pos rfl
  have ne : ∀ k, k ≠ M.length + 3 → gfS M.length Sp.length k = none := fun k hk => if_neg hk
  have h9 := COk.settle (N' := [⟨false, .dead⟩, ⟨false, .dead⟩, ⟨false, .dead⟩, ⟨true, .flts (tab Sp.length (depT n lim Be Wt Sp))⟩]) (gfS M.length Sp.length) h ?_ ?_ ?_ ?_
  · refine ⟨M ++ [⟨false, .dead⟩, ⟨false, .dead⟩, ⟨false, .dead⟩, ⟨true, .flts (tab Sp.length (depT n lim Be Wt Sp))⟩], ?_, Up.of hsc rfl, SlF_tabD (getB_app 3) (fun i hi => depT_in _ _ _ _ _ _) S3.short⟩
    have e : (V.tup [.gs (M.length + 3) (Sp.length - 1) 1 Sp.length, I 0]).stl (gfS M.length Sp.length) = .tup [.sl (M.length + 3) 0 Sp.length, I 0] := by
      show V.tup [V.stl _ (.gs (M.length + 3) (Sp.length - 1) 1 Sp.length), I 0] = _
      simp only [V.stl, at3]
    rw [e] at h9
    exact h9
  · intro i hi
    exact ne i (by omega)
  · intro i hi
    have hi : M.length + 4 ≤ i := hi
    exact ne i (by omega)
  · refine ⟨?_, trivial, trivial⟩
    intro u hu
    exact (Option.some.inj (at3.symm.trans hu)).symm
  · exact ⟨.gone (.inl (ne _ (by omega))) (.inl rfl), .gone (.inl (ne _ (by omega))) (.inl rfl), .gone (.inl (ne _ (by omega))) (.inl rfl), .flts at3 (fun _ => rfl), trivial⟩
end
theorem rawAll_nil (M : List Blk) : COk Tryz.prog 3 55 [nilS', nilS'] M (Bo true) M := by
  refine COk_quiet Tryz.f55 Tryz.func55 (by kernel_rfl) rfl ?_
  (conv => whnf)
  refine lr ?_
  (conv => whnf)
  exact ⟨rfl, [], by simp⟩
set_option maxHeartbeats 0 in
theorem depths12_ok {M : List Blk} (hm : Top M) (hsc : scM M.length M = true) (x lim : Int) {w : Bool} {j0 j1 j2 j3 : Nat} {Be : List Nat} {Wt Tr : List Int} {Sp : List Nat} (S : SeaB M w j0 j1 j2 j3 Be Wt Tr Sp) (sky step : Int) :
    COk Tryz.prog 3 10 [askV x lim j0 j1 j2 j3 Be.length Wt.length Tr.length Sp.length sky step] M (Bo true) M := by
  have l0 := S.read.s0.lt
  have l1 := S.read.s1.lt
  have l2 := S.read.s2.lt
  have l3 := S.read.s3.lt
  have u0 : Up M (M ++ ([⟨true, .cells (askL x lim j0 j1 j2 j3 Be.length Wt.length Tr.length Sp.length sky step)⟩] : List Blk)) := Up.of hsc (by simp [scM, B.sc, scL, V.sc]; omega)
  have haw := awake12_ok (hm.up u0) u0.sc
  have hnil := fun M => Depths_nil (M := M) lim j0 j1 j2 j3 Be.length Wt.length Tr.length Sp.length sky step
  have hrnil := fun M => rDepths_nil (M := M) lim j0 j1 j2 j3 Be.length Wt.length Tr.length Sp.length sky step
  by_cases hs : 1 ≤ x ∧ x ≤ 32
  · obtain ⟨n, rfl⟩ : ∃ n : Nat, x = n := ⟨x.toNat, by omega⟩
    have hn1 : 1 ≤ n := by omega
    have hn2 : n ≤ 32 := by omega
    obtain ⟨b, M1, hnew, N, u1⟩ := new_up (hm.up u0) u0.sc n hn1 hn2
    have hm1 := (hm.up u0).up u1
    obtain ⟨b', M2, hrnew, R, u2⟩ := rnew_up hm1 u1.sc n hn1 hn2
    have hm2 := hm1.up u2
    have hs2 := u2.sc
    have N := N.up u2
    have hbox1 : getB M1 M.length = ⟨true, .cells (askL n lim j0 j1 j2 j3 Be.length Wt.length Tr.length Sp.length sky step)⟩ := by
      obtain ⟨x, rfl⟩ := u1.ex
      exact getB_in getB_app0 rfl
    have hbox2 : getB M2 M.length = ⟨true, .cells (askL n lim j0 j1 j2 j3 Be.length Wt.length Tr.length Sp.length sky step)⟩ := by
      obtain ⟨y, rfl⟩ := u2.ex
      exact getB_in hbox1 rfl
    have ux := (u0.trans u1).trans u2
    have hlen := ux.len
    have S2 := S.read.up ux
    by_cases hf : Be.length = 6 * (n * n) ∧ Wt.length = 6 * (n * n) ∧ Sp.length = (edges n).length ∧ 0 ≤ lim ∧ lim ≤ 3
    · obtain ⟨f0, f1, f3, hl⟩ := hf
      obtain ⟨M3, hA, u3, T1⟩ := Depths_up hs2 N S2.s0 S2.s1 S2.s3 f0 f1 f3 hn1 hn2 sky step lim (j2 := j2) (q2 := Tr.length) (by omega) hl
      have S3 := S2.up u3
      have hl3 := u3.len
      obtain ⟨M4, hB, u4, T2⟩ := rDepths_up (hm2.up u3) u3.sc (R.up u3) S3.s0 S3.s1 S3.s3 f0 f1 f3 hn1 hn2 sky step lim (j2 := j2) (q2 := Tr.length) (by omega) hl
      have hbox3 : getB M3 M.length = ⟨true, .cells (askL n lim j0 j1 j2 j3 Be.length Wt.length Tr.length Sp.length sky step)⟩ := by
        obtain ⟨y, rfl⟩ := u3.ex
        exact getB_in hbox2 rfl
      have hC := rawAll_eq u4.sc (T1.up u4) T2
      rw [tab_len] at hC
      refine COk_quiet Tryz.f10 Tryz.func10 (by kernel_rfl) rfl ?_
      (conv => whnf); repeat ((first | refine ⟨_, _, haw, ?_⟩ | refine ⟨_, _, hnil _, ?_⟩ | refine ⟨_, _, hnew, ?_⟩ | refine ⟨_, _, hrnew, ?_⟩ | rw [hbox1] | rw [hbox2] | rw [hbox3] | refine ⟨_, _, hA, ?_⟩ | refine ⟨_, _, hB, ?_⟩ | refine ⟨_, _, hC, ?_⟩ | rw [getB_app0] | refine addB_f0 ?_); conv => whnf)
      exact ⟨rfl, ((ux.trans u3).trans u4).ex⟩
    · have hA := Depths_arg N (j0 := j0) (j1 := j1) (j2 := j2) (j3 := j3) (q2 := Tr.length) hf sky step
      have hB := rDepths_arg R hn1 hn2 (j0 := j0) (j1 := j1) (j2 := j2) (j3 := j3) (q2 := Tr.length) hf sky step
      refine COk_quiet Tryz.f10 Tryz.func10 (by kernel_rfl) rfl ?_
      (conv => whnf); repeat ((first | refine ⟨_, _, haw, ?_⟩ | refine ⟨_, _, hnil _, ?_⟩ | refine ⟨_, _, hnew, ?_⟩ | refine ⟨_, _, hrnew, ?_⟩ | rw [hbox1] | rw [hbox2] | refine ⟨_, _, hA, ?_⟩ | refine ⟨_, _, hB, ?_⟩ | refine ⟨_, _, rawAll_nil _, ?_⟩ | rw [getB_app0] | refine addB_f0 ?_); conv => whnf)
      exact ⟨rfl, ux.ex⟩
  · have hnew := new_no x hs (M ++ ([⟨true, .cells (askL x lim j0 j1 j2 j3 Be.length Wt.length Tr.length Sp.length sky step)⟩] : List Blk))
    have hrnew := rnew_no x hs (M ++ ([⟨true, .cells (askL x lim j0 j1 j2 j3 Be.length Wt.length Tr.length Sp.length sky step)⟩] : List Blk))
    refine COk_quiet Tryz.f10 Tryz.func10 (by kernel_rfl) rfl ?_
    (conv => whnf); repeat ((first | refine ⟨_, _, haw, ?_⟩ | refine ⟨_, _, hnil _, ?_⟩ | refine ⟨_, _, hrnil _, ?_⟩ | refine ⟨_, _, hnew, ?_⟩ | refine ⟨_, _, hrnew, ?_⟩ | refine ⟨_, _, rawAll_nil _, ?_⟩ | rw [getB_app0] | refine addB_f0 ?_); conv => whnf)
    exact ⟨rfl, _, rfl⟩
end Go.Proofs.YthoofdnnfahhaaaGreatDoor
