/- The statement ReconMemory: its contract. No condition. -/
import Derived.Test.YtemaeembndobaaaGreatDoorRa
import Derived.Test.YtemaeembndobaaaGreatDoorKr
import Derived.Test.YtemaeembndobaaaGreatDoorUd
namespace Go.Proofs.YtemaeembndobaaaGreatDoor
open Go Go.Eng
set_option maxRecDepth 100000
set_option linter.unusedSimpArgs false
set_option linter.unusedVariables false

/-- The depths over all edges. -/
def depT (n : Nat) (lim : Int) (Be : List Nat) (Wt : List Int) (Sp : List Nat) (e : Nat) : Nat := match (edges n)[e]? with
  | some x => reconF n lim Be Wt x (Sp.getD e 0)
  | none => 0
theorem depT_at {n : Nat} {lim : Int} {Be : List Nat} {Wt : List Int} {Sp : List Nat} {e : Nat} {x : Ed} (hx : (edges n)[e]? = some x) : depT n lim Be Wt Sp e = reconF n lim Be Wt x (Sp.getD e 0) := by
  rw [depT, hx]
theorem posF_in {a g : Option Nat} (ha : a = none ∨ Num a) (hg : g = none ∨ Num g) : posF (minO a g) < 18446744073709551616 := by
  have hq : posF qn = 0 := by unfold posF; rw [show fgt (some qn) (some 0) = false by decide +kernel, if_neg (by decide)]
  have key : ∀ r, r < 18446744073709551616 → posF r < 18446744073709551616 := fun r hr => by
    unfold posF
    split
    · exact hr
    · decide
  have wdl : ∀ (s : Bool) {R : Nat}, R ≤ infR → wd s R < 18446744073709551616 := fun s R hR => by
    have hi := infR_eq
    cases s
    · rw [wd_false]; omega
    · rw [wd_true]; omega
  rcases ha with rfl | ⟨s, R, hR, rfl⟩
  · rw [show minO none g = qn by cases g <;> rfl, hq]; decide
  rcases hg with rfl | ⟨t, Q, hQ, rfl⟩
  · rw [show minO (some (wd s R)) none = qn from rfl, hq]; decide
  refine key _ ?_
  unfold minO
  simp only
  split
  · decide
  · split
    · exact wdl t hQ
    · exact wdl s hR
theorem recon_in (n : Nat) (lim : Int) (Be : List Nat) (Wt : List Int) (y : Ed) (u : Nat) : reconF n lim Be Wt y u < 18446744073709551616 := by
  unfold reconF
  split
  · exact posF_in (num_add _ _) (num_sub _ _)
  · split
    · exact posF_in (num_add _ _) (num_sub _ _)
    · decide
theorem depT_in (n : Nat) (lim : Int) (Be : List Nat) (Wt : List Int) (Sp : List Nat) (e : Nat) : depT n lim Be Wt Sp e < 18446744073709551616 := by
  unfold depT
  split
  · exact recon_in _ _ _ _ _ _
  · decide
section
variable {M : List Blk} (hsc : scM M.length M = true) {b n : Nat} (N : Net M b n) {j0 j1 j3 : Nat} {Be : List Nat} {Wt : List Int} {Sp : List Nat} (S0 : SlF M j0 0 Be) (S1 : SlI M j1 0 Wt) (S3 : SlF M j3 0 Sp) (hB : Be.length = 6 * (n * n)) (hW : Wt.length = 6 * (n * n)) (hS : Sp.length = (edges n).length) (hn : 1 ≤ n) (hn' : n ≤ 32) (sky step : Int) (lim : Int)
include hsc N S0 S1 S3 hB hW hS hn hn'
abbrev dpB (j0 j1 j3 n0 n1 n3 : Nat) (sky step : Int) : Blk := ⟨true, .cells [.sl j0 0 n0, .sl j1 0 n1, .raw (.slice none 0 0), .sl j3 0 n3, .int .i64 sky, I step]⟩
set_option maxHeartbeats 0 in
theorem Depths_at (hl : 0 ≤ lim ∧ lim ≤ 3) : COk Tryz.prog 3 43 [.ptr (b + 1) 0, I lim, seaQ j0 j1 Be.length Wt.length (.raw (.slice none 0 0)) (.sl j3 0 Sp.length) sky step] M (.tup [.sl (M.length + 1) 0 Sp.length, I 0]) (M ++ [dpB j0 j1 j3 Be.length Wt.length Sp.length sky step, ⟨true, .flts (tab Sp.length (depT n lim Be Wt Sp))⟩]) := by
  have l0 := S0.lt
  have l1 := S1.lt
  have l3 := S3.lt
  have hnl := N.lt
  have hlen := edges_len hn
  have hsq : n * n ≤ 1024 := Nat.mul_le_mul hn' hn'
  have hscm : ∀ L : List Nat, scM (M ++ ([dpB j0 j1 j3 Be.length Wt.length Sp.length sky step, ⟨true, .flts L⟩] : List Blk)).length (M ++ ([dpB j0 j1 j3 Be.length Wt.length Sp.length sky step, ⟨true, .flts L⟩] : List Blk)) = true := fun L => scM_app (scM_mono (by simp) _ hsc) (by simp [scM, B.sc, scL, V.sc]; omega)
  have hge : ∀ x, COk Tryz.prog 3 42 [.ptr (b + 1) 0] (M ++ x) (I Sp.length) (M ++ x) := fun x => by rw [hS]; exact gedges_ok (N.more x)
  have hgc : ∀ x, COk Tryz.prog 3 41 [.ptr (b + 1) 0] (M ++ x) (I (6 * (n * n) : Nat)) (M ++ x) := fun x => gcells_ok (N.more x)
  have hv := fun m => valid_ok lim m
  rw [decide_eq_true hl] at hv
  refine COk_of_ev Tryz.f43 Tryz.func43 (by kernel_rfl) (by simp) (by simp [V.sc, scL]) (.inr (hscm _)) ?_
  (conv => whnf); repeat (first | (refine ⟨_, _, hge _, ?_⟩; conv => whnf) | (refine ⟨_, hge _, ?_⟩; conv => whnf) | (refine ⟨_, _, hgc _, ?_⟩; conv => whnf) | (refine ⟨_, hgc _, ?_⟩; conv => whnf) | (refine ⟨_, _, hv _, ?_⟩; conv => whnf) | (refine ⟨_, hv _, ?_⟩; conv => whnf) | (refine br_no (bo_eqn (by omega)) ?_; conv => whnf) | (refine br_d ⟨by omega, by omega, by omega, (by show (8 : Int) * _ ≤ 2 ^ 48; omega)⟩ ?_; conv => whnf) | (refine br_d (by omega) ?_; conv => whnf) | (refine br_nd (by omega) ?_; conv => whnf) | (refine br_eq (by omega) ?_; conv => whnf) | (refine br_neq (by omega) ?_; conv => whnf) | (refine br_ne (by omega) ?_; conv => whnf) | (refine br_no (bo_eqn (by omega)) ?_; conv => whnf) | (refine Or.inl ?_; conv => whnf) | (refine okS_no (by kernel_rfl) ?_; conv => whnf) | (refine okS_yes (by kernel_rfl) ?_; conv => whnf) | (refine And_of (by (conv => whnf); (rw [getB_app0]); (conv => whnf)) ?_; conv => whnf) | (refine setB_app ?_; conv => whnf) | (refine setB_app0 ?_; conv => whnf) | (rw [getB_app]; conv => whnf) | (rw [getB_app0]; conv => whnf) | (refine addB_f13 ?_; conv => whnf) | (refine addB_f12 ?_; conv => whnf) | (refine addB_f11 ?_; conv => whnf) | (refine addB_f10 ?_; conv => whnf) | (refine addB_f9 ?_; conv => whnf) | (refine addB_f8 ?_; conv => whnf) | (refine addB_f7 ?_; conv => whnf) | (refine addB_f6 ?_; conv => whnf) | (refine addB_f5 ?_; conv => whnf) | (refine addB_f4 ?_; conv => whnf) | (refine addB_f3 ?_; conv => whnf) | (refine addB_f2 ?_; conv => whnf) | (refine addB_f1 ?_; conv => whnf) | (refine addB_f0 ?_; conv => whnf))
  refine loop_to (fun k => [.ptr (b + 1) 0, I lim, .any, .any, .any, .ptr M.length 0, .any, .any, .sl (M.length + 1) 0 Sp.length, .any, .any, .any, .any, .any, .any, .any, .any, .any, .any, .any, .any, .any, .any, .any, .any, .any, .any, .any, .any, .any, .any, .any, .any, .any, .any, .any, .any, .any, .any, .any, .any, .any, .any, .any, .any, I Sp.length, I k, .any, .any, .any, .any, .any, .any, .any, .any, .any, .any, .any, .any, .any, .any, .any, .any, .any]) (fun k => M ++ [dpB j0 j1 j3 Be.length Wt.length Sp.length sky step, ⟨true, .flts (tab Sp.length (preT k (depT n lim Be Wt Sp) 0))⟩]) 0 Sp.length (Nat.zero_le _) ?_ ?_ ?_
  · refine Fg.of [] ?_ (by rw [List.append_nil, ← pre_0]; try rfl) (by simp) (by (simp [scL, V.sc]) <;> omega) (hscm _)
    conv => whnf
    exact ⟨rfl, rfl, rfl, rfl, rfl, rfl, rfl⟩
  · intro k _ hk
    have hx := List.getElem?_eq_getElem (l := edges n) (show k < (edges n).length by omega)
    generalize (edges n)[k] = x at hx
    have e := pre_set (N := Sp.length) (k := k) (depT n lim Be Wt Sp) 0
    rw [depT_at hx] at e
    have hdz := fun (L : List Nat) => depth12_ok (vT := .raw (.slice none 0 0)) (vS := .sl j3 0 Sp.length) (hscm L) (N.more _) (S0.app _) (S1.app _) rfl (by simp [V.sc]; omega) rfl rfl sky step hn hx hB hW lim (Sp.getD k 0)
    (conv => whnf); repeat (first | (refine SlF.at (S3.app _) (i := k) hk rfl ?_; conv => whnf) | (refine ⟨_, _, hdz _, ?_⟩; conv => whnf) | (refine ⟨_, hdz _, ?_⟩; conv => whnf) | (refine br_yes (tab_blt hk) ?_; conv => whnf) | (refine put_at (blkF e) ?_; conv => whnf) | (refine br_d (by omega) ?_; conv => whnf) | (refine br_nd (by omega) ?_; conv => whnf) | (refine br_eq (by omega) ?_; conv => whnf) | (refine br_neq (by omega) ?_; conv => whnf) | (refine br_ne (by omega) ?_; conv => whnf) | (refine br_no (bo_eqn (by omega)) ?_; conv => whnf) | (refine Or.inl ?_; conv => whnf) | (refine okS_no (by kernel_rfl) ?_; conv => whnf) | (refine okS_yes (by kernel_rfl) ?_; conv => whnf) | (refine And_of (by (conv => whnf); (rw [getB_app0]); (conv => whnf)) ?_; conv => whnf) | (refine setB_app ?_; conv => whnf) | (refine setB_app0 ?_; conv => whnf) | (rw [getB_app]; conv => whnf) | (rw [getB_app0]; conv => whnf) | (refine addB_f13 ?_; conv => whnf) | (refine addB_f12 ?_; conv => whnf) | (refine addB_f11 ?_; conv => whnf) | (refine addB_f10 ?_; conv => whnf) | (refine addB_f9 ?_; conv => whnf) | (refine addB_f8 ?_; conv => whnf) | (refine addB_f7 ?_; conv => whnf) | (refine addB_f6 ?_; conv => whnf) | (refine addB_f5 ?_; conv => whnf) | (refine addB_f4 ?_; conv => whnf) | (refine addB_f3 ?_; conv => whnf) | (refine addB_f2 ?_; conv => whnf) | (refine addB_f1 ?_; conv => whnf) | (refine addB_f0 ?_; conv => whnf))
    refine Fg.of [] ?_ (by rw [List.append_nil]; try rfl) (by simp) (by (simp [scL, V.sc]) <;> omega) (hscm _)
    conv => whnf
    exact ⟨rfl, rfl, rfl, rfl, rfl, wrapKL (by omega), rfl⟩
  · (conv => whnf); repeat (first | (refine br_d (by omega) ?_; conv => whnf) | (refine br_nd (by omega) ?_; conv => whnf) | (refine br_eq (by omega) ?_; conv => whnf) | (refine br_neq (by omega) ?_; conv => whnf) | (refine br_ne (by omega) ?_; conv => whnf) | (refine br_no (bo_eqn (by omega)) ?_; conv => whnf) | (refine Or.inl ?_; conv => whnf) | (refine okS_no (by kernel_rfl) ?_; conv => whnf) | (refine okS_yes (by kernel_rfl) ?_; conv => whnf) | (refine And_of (by (conv => whnf); (rw [getB_app0]); (conv => whnf)) ?_; conv => whnf) | (refine setB_app ?_; conv => whnf) | (refine setB_app0 ?_; conv => whnf) | (rw [getB_app]; conv => whnf) | (rw [getB_app0]; conv => whnf) | (refine addB_f13 ?_; conv => whnf) | (refine addB_f12 ?_; conv => whnf) | (refine addB_f11 ?_; conv => whnf) | (refine addB_f10 ?_; conv => whnf) | (refine addB_f9 ?_; conv => whnf) | (refine addB_f8 ?_; conv => whnf) | (refine addB_f7 ?_; conv => whnf) | (refine addB_f6 ?_; conv => whnf) | (refine addB_f5 ?_; conv => whnf) | (refine addB_f4 ?_; conv => whnf) | (refine addB_f3 ?_; conv => whnf) | (refine addB_f2 ?_; conv => whnf) | (refine addB_f1 ?_; conv => whnf) | (refine addB_f0 ?_; conv => whnf))
    refine ⟨rfl, [], ?_⟩
    rw [List.append_nil, pre_end]
omit hn' in
theorem Depths_no (hl : ¬ (0 ≤ lim ∧ lim ≤ 3)) : COk Tryz.prog 3 43 [.ptr (b + 1) 0, I lim, seaQ j0 j1 Be.length Wt.length (.raw (.slice none 0 0)) (.sl j3 0 Sp.length) sky step] M (.tup [nilS', I 1]) (M ++ [dpB j0 j1 j3 Be.length Wt.length Sp.length sky step]) := by
  have l0 := S0.lt
  have l1 := S1.lt
  have l3 := S3.lt
  have hnl := N.lt
  have hlen := edges_len hn
  have hge : ∀ x, COk Tryz.prog 3 42 [.ptr (b + 1) 0] (M ++ x) (I Sp.length) (M ++ x) := fun x => by rw [hS]; exact gedges_ok (N.more x)
  have hgc : ∀ x, COk Tryz.prog 3 41 [.ptr (b + 1) 0] (M ++ x) (I (6 * (n * n) : Nat)) (M ++ x) := fun x => gcells_ok (N.more x)
  have hv := fun m => valid_ok lim m
  rw [decide_eq_false hl] at hv
  refine COk_of_ev Tryz.f43 Tryz.func43 (by kernel_rfl) (by simp) (by simp [V.sc, scL]) (.inr (scM_app (scM_mono (by simp) _ hsc) (by simp [scM, B.sc, scL, V.sc]; omega))) ?_
  (conv => whnf); repeat (first | (refine ⟨_, _, hge _, ?_⟩; conv => whnf) | (refine ⟨_, hge _, ?_⟩; conv => whnf) | (refine ⟨_, _, hgc _, ?_⟩; conv => whnf) | (refine ⟨_, hgc _, ?_⟩; conv => whnf) | (refine ⟨_, _, hv _, ?_⟩; conv => whnf) | (refine ⟨_, hv _, ?_⟩; conv => whnf) | (refine br_no (bo_eqn (by omega)) ?_; conv => whnf) | (refine br_d (by omega) ?_; conv => whnf) | (refine br_nd (by omega) ?_; conv => whnf) | (refine br_eq (by omega) ?_; conv => whnf) | (refine br_neq (by omega) ?_; conv => whnf) | (refine br_ne (by omega) ?_; conv => whnf) | (refine br_no (bo_eqn (by omega)) ?_; conv => whnf) | (refine Or.inl ?_; conv => whnf) | (refine okS_no (by kernel_rfl) ?_; conv => whnf) | (refine okS_yes (by kernel_rfl) ?_; conv => whnf) | (refine And_of (by (conv => whnf); (rw [getB_app0]); (conv => whnf)) ?_; conv => whnf) | (refine setB_app ?_; conv => whnf) | (refine setB_app0 ?_; conv => whnf) | (rw [getB_app]; conv => whnf) | (rw [getB_app0]; conv => whnf) | (refine addB_f13 ?_; conv => whnf) | (refine addB_f12 ?_; conv => whnf) | (refine addB_f11 ?_; conv => whnf) | (refine addB_f10 ?_; conv => whnf) | (refine addB_f9 ?_; conv => whnf) | (refine addB_f8 ?_; conv => whnf) | (refine addB_f7 ?_; conv => whnf) | (refine addB_f6 ?_; conv => whnf) | (refine addB_f5 ?_; conv => whnf) | (refine addB_f4 ?_; conv => whnf) | (refine addB_f3 ?_; conv => whnf) | (refine addB_f2 ?_; conv => whnf) | (refine addB_f1 ?_; conv => whnf) | (refine addB_f0 ?_; conv => whnf))
  exact ⟨rfl, [], by rw [List.append_nil]; rfl⟩
end
section
variable {α : Type} {N c : Nat} {G : Nat → α} {z a b : α}
theorem mem_s1 (h : G c = a) : (tab N (preT c G z)).set (0 + c * 1) a = tab N (preT (c + 1) G z) := by rw [← h]; exact pre_set G z
theorem mem_s2 (h : G c = b) : ∃ X, (tab N (preT c G z)).set (0 + c * 1) a = X ∧ X.length = N ∧ X.set (0 + c * 1) b = tab N (preT (c + 1) G z) :=
  ⟨_, rfl, by rw [List.length_set, tab_len], by rw [List.set_set, ← h]; exact pre_set G z⟩
theorem mem_s3 (h : N ≤ c) : tab N (preT c G z) = tab N (preT (c + 1) G z) := tab_congr fun i hi => by
  unfold preT
  rw [if_pos (by omega), if_pos (by omega)]
end
theorem mem_end {α : Type} {N K : Nat} {G : Nat → α} {z : α} (h : N ≤ K) : tab N (preT K G z) = tab N G := tab_congr fun i hi => by rw [preT, if_pos (by omega)]
theorem SlF.nil' {M : List Blk} {j : Nat} (h : (getB M j).b.live = true) : SlF M j 0 [] :=
  ⟨fun i hi => absurd hi (Nat.not_lt_zero i), h, fun i hi => absurd hi (Nat.not_lt_zero i), by decide⟩
abbrev w7 : Nat := 4619567317775286272
abbrev w99 : Nat := 4636666922610458624
theorem n7 : fne (some w7) (some w7) = false := by decide +kernel
set_option maxHeartbeats 0 in
theorem memory12_ok {M : List Blk} (hm : Top M) (hsc : scM M.length M = true) (x lim : Int) {w : Bool} {j0 j1 j2 j3 : Nat} {Be : List Nat} {Wt Tr : List Int} {Sp : List Nat} (S : SeaB M w j0 j1 j2 j3 Be Wt Tr Sp) (sky step : Int) :
    COk Tryz.prog 3 10 [askV x lim j0 j1 j2 j3 Be.length Wt.length Tr.length Sp.length sky step] M (Bo true) M := by
  have l0 := S.read.s0.lt
  have l1 := S.read.s1.lt
  have l2 := S.read.s2.lt
  have l3 := S.read.s3.lt
  have u0 : Up M (M ++ ([⟨true, .cells (askL x lim j0 j1 j2 j3 Be.length Wt.length Tr.length Sp.length sky step)⟩] : List Blk)) := Up.of hsc (by simp [scM, B.sc, scL, V.sc]; omega)
  have haw := awake12_ok (hm.up u0) u0.sc
  have hlen0 := u0.len
  have hl2 : (M ++ ([⟨true, .cells (askL x lim j0 j1 j2 j3 Be.length Wt.length Tr.length Sp.length sky step)⟩] : List Blk)).length = M.length + 1 := by simp
  rcases net12_ok (hm.up u0) u0.sc x lim (n0 := Be.length) (n1 := Wt.length) (n2 := Tr.length) (n3 := Sp.length) (show j0 < _ by omega) (show j1 < _ by omega) (show j2 < _ by omega) (show j3 < _ by omega) sky step with ⟨r, M1, hnet, u1, rfl | ⟨b', rfl⟩⟩ | ⟨n, b, M1, rfl, hn, hn', e0, e1, hnet, hN, u1⟩
  iterate 2
    · refine COk_quiet Tryz.f10 Tryz.func10 (by kernel_rfl) rfl ?_
      (conv => whnf); repeat (first | (refine ⟨_, _, haw, ?_⟩; conv => whnf) | (refine ⟨_, haw, ?_⟩; conv => whnf) | (refine ⟨_, _, hnet, ?_⟩; conv => whnf) | (refine ⟨_, hnet, ?_⟩; conv => whnf) | (refine ⟨_, _, haw, ?_⟩; conv => whnf) | (refine ⟨_, haw, ?_⟩; conv => whnf) | (refine br_d (by omega) ?_; conv => whnf) | (refine br_nd (by omega) ?_; conv => whnf) | (refine br_eq (by omega) ?_; conv => whnf) | (refine br_neq (by omega) ?_; conv => whnf) | (refine br_ne (by omega) ?_; conv => whnf) | (refine br_no (bo_eqn (by omega)) ?_; conv => whnf) | (refine Or.inl ?_; conv => whnf) | (refine okS_no (by kernel_rfl) ?_; conv => whnf) | (refine okS_yes (by kernel_rfl) ?_; conv => whnf) | (refine And_of (by (conv => whnf); (rw [getB_app0]); (conv => whnf)) ?_; conv => whnf) | (refine setB_app ?_; conv => whnf) | (refine setB_app0 ?_; conv => whnf) | (rw [getB_app]; conv => whnf) | (rw [getB_app0]; conv => whnf) | (refine addB_f13 ?_; conv => whnf) | (refine addB_f12 ?_; conv => whnf) | (refine addB_f11 ?_; conv => whnf) | (refine addB_f10 ?_; conv => whnf) | (refine addB_f9 ?_; conv => whnf) | (refine addB_f8 ?_; conv => whnf) | (refine addB_f7 ?_; conv => whnf) | (refine addB_f6 ?_; conv => whnf) | (refine addB_f5 ?_; conv => whnf) | (refine addB_f4 ?_; conv => whnf) | (refine addB_f3 ?_; conv => whnf) | (refine addB_f2 ?_; conv => whnf) | (refine addB_f1 ?_; conv => whnf) | (refine addB_f0 ?_; conv => whnf))
      exact ⟨rfl, (u0.trans u1).ex⟩
  have hsd0 := side_ok hN
  by_cases h8 : n > 8
  · refine COk_quiet Tryz.f10 Tryz.func10 (by kernel_rfl) rfl ?_
    (conv => whnf); repeat (first | (refine ⟨_, _, haw, ?_⟩; conv => whnf) | (refine ⟨_, haw, ?_⟩; conv => whnf) | (refine ⟨_, _, hnet, ?_⟩; conv => whnf) | (refine ⟨_, hnet, ?_⟩; conv => whnf) | (refine ⟨_, _, hsd0, ?_⟩; conv => whnf) | (refine ⟨_, hsd0, ?_⟩; conv => whnf) | (refine br_d (by omega) ?_; conv => whnf) | (refine br_nd (by omega) ?_; conv => whnf) | (refine br_eq (by omega) ?_; conv => whnf) | (refine br_neq (by omega) ?_; conv => whnf) | (refine br_ne (by omega) ?_; conv => whnf) | (refine br_no (bo_eqn (by omega)) ?_; conv => whnf) | (refine Or.inl ?_; conv => whnf) | (refine okS_no (by kernel_rfl) ?_; conv => whnf) | (refine okS_yes (by kernel_rfl) ?_; conv => whnf) | (refine And_of (by (conv => whnf); (rw [getB_app0]); (conv => whnf)) ?_; conv => whnf) | (refine setB_app ?_; conv => whnf) | (refine setB_app0 ?_; conv => whnf) | (rw [getB_app]; conv => whnf) | (rw [getB_app0]; conv => whnf) | (refine addB_f13 ?_; conv => whnf) | (refine addB_f12 ?_; conv => whnf) | (refine addB_f11 ?_; conv => whnf) | (refine addB_f10 ?_; conv => whnf) | (refine addB_f9 ?_; conv => whnf) | (refine addB_f8 ?_; conv => whnf) | (refine addB_f7 ?_; conv => whnf) | (refine addB_f6 ?_; conv => whnf) | (refine addB_f5 ?_; conv => whnf) | (refine addB_f4 ?_; conv => whnf) | (refine addB_f3 ?_; conv => whnf) | (refine addB_f2 ?_; conv => whnf) | (refine addB_f1 ?_; conv => whnf) | (refine addB_f0 ?_; conv => whnf))
    exact ⟨rfl, (u0.trans u1).ex⟩
  have hP : ∀ y, getB (M1 ++ y) M.length = ⟨true, .cells (askL n lim j0 j1 j2 j3 Be.length Wt.length Tr.length Sp.length sky step)⟩ := fun y => by
    obtain ⟨z, rfl⟩ := u1.ex
    exact getB_in (getB_in getB_app0 rfl) rfl
  have hP0 := hP []
  rw [List.append_nil] at hP0
  have SB1 := S.up (u0.trans u1)
  have S1 := SB1.read
  have hlen := u1.len
  have hb := hN.lt
  have hel := edges_len hn
  have hsq : n * n ≤ 1024 := Nat.mul_le_mul hn' hn'
  have hsq1 : 1 ≤ n * n := Nat.mul_le_mul hn hn
  have hge := gcells_ok hN
  rw [← e0] at hge
  have hgd := gedges_ok hN
  obtain ⟨mm, hmm⟩ : ∃ mm, mm = (edges n).length := ⟨_, rfl⟩
  rw [← hmm] at hgd hel
  have wr : ∀ k : Nat, k ≤ 65536 → IntKind.i64.wrap ((k : Int) + 3) = ((k + 3 : Nat) : Int) := fun k hk => by rw [wrap_id (by omega) (by omega)]; rfl
  have wrn := wr Be.length (by omega)
  have wrm := wr mm (by omega)
  obtain ⟨bF, hbF⟩ : ∃ bF : Nat → Nat, bF = fun i => if i < Be.length then Be.getD i 0 else w7 := ⟨_, rfl⟩
  obtain ⟨wF, hwF⟩ : ∃ wF : Nat → Int, wF = fun i => if i < Be.length then Wt.getD i 0 else 7 := ⟨_, rfl⟩
  obtain ⟨sF, hsF⟩ : ∃ sF : Nat → Nat, sF = fun i => if i < mm ∧ i < Sp.length then Sp.getD i 0 else w7 := ⟨_, rfl⟩
  have hsc1 : ∀ (B' : List Nat) (W' : List Int) (S' : List Nat), scM (M1 ++ ([⟨true, .flts B'⟩, ⟨true, .ints .i64 W'⟩, ⟨true, .flts S'⟩] : List Blk)).length (M1 ++ ([⟨true, .flts B'⟩, ⟨true, .ints .i64 W'⟩, ⟨true, .flts S'⟩] : List Blk)) = true := fun B' W' S' => scM_app (scM_mono (by simp) _ u1.sc) (by simp [scM, B.sc, scL, V.sc])
  refine COk_quiet Tryz.f10 Tryz.func10 (by kernel_rfl) rfl ?_
  (conv => whnf); repeat (first | (refine ⟨_, _, haw, ?_⟩; conv => whnf) | (refine ⟨_, haw, ?_⟩; conv => whnf) | (refine ⟨_, _, hnet, ?_⟩; conv => whnf) | (refine ⟨_, hnet, ?_⟩; conv => whnf) | (refine ⟨_, _, hsd0, ?_⟩; conv => whnf) | (refine ⟨_, hsd0, ?_⟩; conv => whnf) | (refine ⟨_, _, hge, ?_⟩; conv => whnf) | (refine ⟨_, hge, ?_⟩; conv => whnf) | (refine ⟨_, _, hgd, ?_⟩; conv => whnf) | (refine ⟨_, hgd, ?_⟩; conv => whnf) | (rw [wrn]; conv => whnf) | (rw [wrm]; conv => whnf) | (rw [Int.toNat_natCast]; conv => whnf) | (refine br_d ⟨by omega, by omega, by omega, (by show (8 : Int) * _ ≤ 2 ^ 48; omega)⟩ ?_; conv => whnf) | (refine br_d (by omega) ?_; conv => whnf) | (refine br_nd (by omega) ?_; conv => whnf) | (refine br_eq (by omega) ?_; conv => whnf) | (refine br_neq (by omega) ?_; conv => whnf) | (refine br_ne (by omega) ?_; conv => whnf) | (refine br_no (bo_eqn (by omega)) ?_; conv => whnf) | (refine Or.inl ?_; conv => whnf) | (refine okS_no (by kernel_rfl) ?_; conv => whnf) | (refine okS_yes (by kernel_rfl) ?_; conv => whnf) | (refine And_of (by (conv => whnf); (rw [getB_app0]); (conv => whnf)) ?_; conv => whnf) | (refine setB_app ?_; conv => whnf) | (refine setB_app0 ?_; conv => whnf) | (rw [getB_app]; conv => whnf) | (rw [getB_app0]; conv => whnf) | (refine addB_f13 ?_; conv => whnf) | (refine addB_f12 ?_; conv => whnf) | (refine addB_f11 ?_; conv => whnf) | (refine addB_f10 ?_; conv => whnf) | (refine addB_f9 ?_; conv => whnf) | (refine addB_f8 ?_; conv => whnf) | (refine addB_f7 ?_; conv => whnf) | (refine addB_f6 ?_; conv => whnf) | (refine addB_f5 ?_; conv => whnf) | (refine addB_f4 ?_; conv => whnf) | (refine addB_f3 ?_; conv => whnf) | (refine addB_f2 ?_; conv => whnf) | (refine addB_f1 ?_; conv => whnf) | (refine addB_f0 ?_; conv => whnf))
  refine loop_to (fun c => [.any, .ptr M.length 0, .any, .ptr (b + 1) 0, .any, I Be.length, I mm, .sl M1.length 0 (Be.length + 3), .sl (M1.length + 1) 0 (Be.length + 3), .sl (M1.length + 2) 0 (mm + 3), I c, .any, .any, .any, .any, .any, .any, .any, .any, .any, .any, .any, .any, .any, .any, .any, .any, .any, .any, .any, .any, .any, .any, .any, .any, .any, .any, .any, .any, .any, .any, .any, .any, .any, .any, .any, .any, .any, .any, .any, .any, .any, .any, .any, .any, .any, .any, .any, .any, .any, .any, .any, .any, .any, .any, .any, .any, .any, .any, .any, .any, .any, .any, .any, .any, .any, .any, .any, .any, .any, .any, .any, .any, .any, .any, .any, .any, .any, .any, .any, .any, .any, .any, .any, .any, .any, .any, .any, .any, .any, .any, .any, .any, .any, .any, .any, .any, .any, .any, .any, .any, .any, .any, .any, .any, .any, .any, .any, .any, .any, .any, .any, .any, .any, .any, .any, .any, .any, .any, .any, .any, .any, .any, .any, .any, .any, .any, .any, .any, .any, .any, .any, .any, .any, .any, .any, .any, .any, .any, .any, .any, .any, .any, .any, .any, .any, .any, .any, .any, .any, .any, .any, .any, .any, .any, .any, .any, .any, .any, .any, .any, .any, .any, .any, .any, .any, .any, .any, .any, .any, .any, .any, .any, .any, .any, .any, .any, .any, .any, .any, .any, .any, .any, .any, .any, .any, .any, .any, .any, .any, .any, .any, .any, .any, .any, .any, .any, .any, .any, .any, .any, .any, .any, .any, .any, .any, .any, .any, .any, .any, .any, .any, .any, .any, .any, .any]) (fun c => M1 ++ ([⟨true, .flts (tab (Be.length + 3) (preT c bF 0))⟩, ⟨true, .ints .i64 (tab (Be.length + 3) (preT c wF 0))⟩, ⟨true, .flts (tab (mm + 3) (preT c sF 0))⟩] : List Blk)) 0 (mm + 3) (Nat.zero_le _) ?_ ?_ ?_
  · refine Fg.of [] ?_ (by rw [List.append_nil, ← pre_0, ← pre_0, ← pre_0]; try rfl) (by simp) (by (simp [scL, V.sc]) <;> omega) (hsc1 _ _ _)
    conv => whnf
    exact ⟨rfl, rfl, rfl, rfl, rfl, rfl, rfl, rfl, rfl⟩
  · intro c _ hc
    subst hbF hwF hsF
    by_cases hcb : c < Be.length + 3
    · by_cases hcn : c < Be.length
      · obtain ⟨X, eX, lX, eB⟩ := mem_s2 (N := Be.length + 3) (z := 0) (a := w7) (G := fun i => if i < Be.length then Be.getD i 0 else w7) (c := c) (b := Be.getD c 0) (if_pos hcn)
        obtain ⟨Y, eY, lY, eW⟩ := mem_s2 (N := Be.length + 3) (z := 0) (a := (7 : Int)) (G := fun i => if i < Be.length then Wt.getD i 0 else 7) (c := c) (b := Wt.getD c 0) (if_pos hcn)
        have bX : Nat.blt (0 + c * 1) X.length = true := by rw [lX]; simp; omega
        have bY : Nat.blt (0 + c * 1) Y.length = true := by rw [lY]; simp; omega
        have hcw : c < Wt.length := by omega
        have hcm : c < mm := by omega
        by_cases hcs : c < Sp.length
        · obtain ⟨Z, eZ, lZ, eS⟩ := mem_s2 (N := mm + 3) (z := 0) (a := w7) (G := fun i => if i < mm ∧ i < Sp.length then Sp.getD i 0 else w7) (c := c) (b := Sp.getD c 0) (if_pos ⟨hcm, hcs⟩)
          have bZ : Nat.blt (0 + c * 1) Z.length = true := by rw [lZ]; simp; omega
          (conv => whnf); repeat (first | (rw [hP]; conv => whnf) | (rw [wrn]; conv => whnf) | (rw [wrm]; conv => whnf) | (rw [Int.toNat_natCast]; conv => whnf) | (refine br_yes (tab_blt (k := c) hc) ?_; conv => whnf) | (refine br_yes (tab_blt (k := c) hcb) ?_; conv => whnf) | (refine br_yes bX ?_; conv => whnf) | (refine br_yes bY ?_; conv => whnf) | (refine br_yes bZ ?_; conv => whnf) | (refine put_at (blkF eX) ?_; conv => whnf) | (refine put_at0 (blkF eX) ?_; conv => whnf) | (refine put_at0 (blkF eB) ?_; conv => whnf) | (refine put_at (blkI eY) ?_; conv => whnf) | (refine put_at (blkI eW) ?_; conv => whnf) | (refine put_at (blkF eZ) ?_; conv => whnf) | (refine put_at (blkF eS) ?_; conv => whnf) | (refine SlF.at (S1.s0.app _) (i := c) hcn rfl ?_; conv => whnf) | (refine SlI.at (S1.s1.app _) (i := c) hcw rfl ?_; conv => whnf) | (refine SlF.at (S1.s3.app _) (i := c) hcs rfl ?_; conv => whnf) | (refine br_d (by omega) ?_; conv => whnf) | (refine br_nd (by omega) ?_; conv => whnf) | (refine br_eq (by omega) ?_; conv => whnf) | (refine br_neq (by omega) ?_; conv => whnf) | (refine br_ne (by omega) ?_; conv => whnf) | (refine br_no (bo_eqn (by omega)) ?_; conv => whnf) | (refine Or.inl ?_; conv => whnf) | (refine okS_no (by kernel_rfl) ?_; conv => whnf) | (refine okS_yes (by kernel_rfl) ?_; conv => whnf) | (refine And_of (by (conv => whnf); (rw [getB_app0]); (conv => whnf)) ?_; conv => whnf) | (refine setB_app ?_; conv => whnf) | (refine setB_app0 ?_; conv => whnf) | (rw [getB_app]; conv => whnf) | (rw [getB_app0]; conv => whnf) | (refine addB_f13 ?_; conv => whnf) | (refine addB_f12 ?_; conv => whnf) | (refine addB_f11 ?_; conv => whnf) | (refine addB_f10 ?_; conv => whnf) | (refine addB_f9 ?_; conv => whnf) | (refine addB_f8 ?_; conv => whnf) | (refine addB_f7 ?_; conv => whnf) | (refine addB_f6 ?_; conv => whnf) | (refine addB_f5 ?_; conv => whnf) | (refine addB_f4 ?_; conv => whnf) | (refine addB_f3 ?_; conv => whnf) | (refine addB_f2 ?_; conv => whnf) | (refine addB_f1 ?_; conv => whnf) | (refine addB_f0 ?_; conv => whnf))
          refine Fg.of [] ?_ (by rw [List.append_nil]; try first | rfl | (rw [eB, eW]; try rfl)) (by simp) (by (simp [scL, V.sc]) <;> omega) (hsc1 _ _ _)
          conv => whnf
          exact ⟨rfl, rfl, rfl, rfl, rfl, rfl, rfl, wrapKL (by omega), rfl⟩
        · have eS := mem_s1 (N := mm + 3) (z := 0) (a := w7) (G := fun i => if i < mm ∧ i < Sp.length then Sp.getD i 0 else w7) (c := c) (if_neg (fun h => hcs h.2))
          (conv => whnf); repeat (first | (rw [hP]; conv => whnf) | (rw [wrn]; conv => whnf) | (rw [wrm]; conv => whnf) | (rw [Int.toNat_natCast]; conv => whnf) | (refine br_yes (tab_blt (k := c) hc) ?_; conv => whnf) | (refine br_yes (tab_blt (k := c) hcb) ?_; conv => whnf) | (refine br_yes bX ?_; conv => whnf) | (refine br_yes bY ?_; conv => whnf) | (refine br_yes bZ ?_; conv => whnf) | (refine put_at (blkF eX) ?_; conv => whnf) | (refine put_at0 (blkF eX) ?_; conv => whnf) | (refine put_at0 (blkF eB) ?_; conv => whnf) | (refine put_at (blkI eY) ?_; conv => whnf) | (refine put_at (blkI eW) ?_; conv => whnf) | (refine put_at (blkF eZ) ?_; conv => whnf) | (refine put_at (blkF eS) ?_; conv => whnf) | (refine SlF.at (S1.s0.app _) (i := c) hcn rfl ?_; conv => whnf) | (refine SlI.at (S1.s1.app _) (i := c) hcw rfl ?_; conv => whnf) | (refine SlF.at (S1.s3.app _) (i := c) hcs rfl ?_; conv => whnf) | (refine br_d (by omega) ?_; conv => whnf) | (refine br_nd (by omega) ?_; conv => whnf) | (refine br_eq (by omega) ?_; conv => whnf) | (refine br_neq (by omega) ?_; conv => whnf) | (refine br_ne (by omega) ?_; conv => whnf) | (refine br_no (bo_eqn (by omega)) ?_; conv => whnf) | (refine Or.inl ?_; conv => whnf) | (refine okS_no (by kernel_rfl) ?_; conv => whnf) | (refine okS_yes (by kernel_rfl) ?_; conv => whnf) | (refine And_of (by (conv => whnf); (rw [getB_app0]); (conv => whnf)) ?_; conv => whnf) | (refine setB_app ?_; conv => whnf) | (refine setB_app0 ?_; conv => whnf) | (rw [getB_app]; conv => whnf) | (rw [getB_app0]; conv => whnf) | (refine addB_f13 ?_; conv => whnf) | (refine addB_f12 ?_; conv => whnf) | (refine addB_f11 ?_; conv => whnf) | (refine addB_f10 ?_; conv => whnf) | (refine addB_f9 ?_; conv => whnf) | (refine addB_f8 ?_; conv => whnf) | (refine addB_f7 ?_; conv => whnf) | (refine addB_f6 ?_; conv => whnf) | (refine addB_f5 ?_; conv => whnf) | (refine addB_f4 ?_; conv => whnf) | (refine addB_f3 ?_; conv => whnf) | (refine addB_f2 ?_; conv => whnf) | (refine addB_f1 ?_; conv => whnf) | (refine addB_f0 ?_; conv => whnf))
          refine Fg.of [] ?_ (by rw [List.append_nil]; try first | rfl | (rw [eB, eW]; try rfl)) (by simp) (by (simp [scL, V.sc]) <;> omega) (hsc1 _ _ _)
          conv => whnf
          exact ⟨rfl, rfl, rfl, rfl, rfl, rfl, rfl, wrapKL (by omega), rfl⟩
      · have eB := mem_s1 (N := Be.length + 3) (z := 0) (a := w7) (G := fun i => if i < Be.length then Be.getD i 0 else w7) (c := c) (if_neg hcn)
        have eW := mem_s1 (N := Be.length + 3) (z := 0) (a := (7 : Int)) (G := fun i => if i < Be.length then Wt.getD i 0 else 7) (c := c) (if_neg hcn)
        have hcm : c < mm := by omega
        by_cases hcs : c < Sp.length
        · obtain ⟨Z, eZ, lZ, eS⟩ := mem_s2 (N := mm + 3) (z := 0) (a := w7) (G := fun i => if i < mm ∧ i < Sp.length then Sp.getD i 0 else w7) (c := c) (b := Sp.getD c 0) (if_pos ⟨hcm, hcs⟩)
          have bZ : Nat.blt (0 + c * 1) Z.length = true := by rw [lZ]; simp; omega
          (conv => whnf); repeat (first | (rw [hP]; conv => whnf) | (rw [wrn]; conv => whnf) | (rw [wrm]; conv => whnf) | (rw [Int.toNat_natCast]; conv => whnf) | (refine br_yes (tab_blt (k := c) hc) ?_; conv => whnf) | (refine br_yes (tab_blt (k := c) hcb) ?_; conv => whnf) | (refine br_yes bX ?_; conv => whnf) | (refine br_yes bY ?_; conv => whnf) | (refine br_yes bZ ?_; conv => whnf) | (refine put_at (blkF eX) ?_; conv => whnf) | (refine put_at0 (blkF eX) ?_; conv => whnf) | (refine put_at0 (blkF eB) ?_; conv => whnf) | (refine put_at (blkI eY) ?_; conv => whnf) | (refine put_at (blkI eW) ?_; conv => whnf) | (refine put_at (blkF eZ) ?_; conv => whnf) | (refine put_at (blkF eS) ?_; conv => whnf) | (refine SlF.at (S1.s0.app _) (i := c) hcn rfl ?_; conv => whnf) | (refine SlI.at (S1.s1.app _) (i := c) hcw rfl ?_; conv => whnf) | (refine SlF.at (S1.s3.app _) (i := c) hcs rfl ?_; conv => whnf) | (refine br_d (by omega) ?_; conv => whnf) | (refine br_nd (by omega) ?_; conv => whnf) | (refine br_eq (by omega) ?_; conv => whnf) | (refine br_neq (by omega) ?_; conv => whnf) | (refine br_ne (by omega) ?_; conv => whnf) | (refine br_no (bo_eqn (by omega)) ?_; conv => whnf) | (refine Or.inl ?_; conv => whnf) | (refine okS_no (by kernel_rfl) ?_; conv => whnf) | (refine okS_yes (by kernel_rfl) ?_; conv => whnf) | (refine And_of (by (conv => whnf); (rw [getB_app0]); (conv => whnf)) ?_; conv => whnf) | (refine setB_app ?_; conv => whnf) | (refine setB_app0 ?_; conv => whnf) | (rw [getB_app]; conv => whnf) | (rw [getB_app0]; conv => whnf) | (refine addB_f13 ?_; conv => whnf) | (refine addB_f12 ?_; conv => whnf) | (refine addB_f11 ?_; conv => whnf) | (refine addB_f10 ?_; conv => whnf) | (refine addB_f9 ?_; conv => whnf) | (refine addB_f8 ?_; conv => whnf) | (refine addB_f7 ?_; conv => whnf) | (refine addB_f6 ?_; conv => whnf) | (refine addB_f5 ?_; conv => whnf) | (refine addB_f4 ?_; conv => whnf) | (refine addB_f3 ?_; conv => whnf) | (refine addB_f2 ?_; conv => whnf) | (refine addB_f1 ?_; conv => whnf) | (refine addB_f0 ?_; conv => whnf))
          refine Fg.of [] ?_ (by rw [List.append_nil]; try first | rfl | (rw [eB, eW]; try rfl)) (by simp) (by (simp [scL, V.sc]) <;> omega) (hsc1 _ _ _)
          conv => whnf
          exact ⟨rfl, rfl, rfl, rfl, rfl, rfl, rfl, wrapKL (by omega), rfl⟩
        · have eS := mem_s1 (N := mm + 3) (z := 0) (a := w7) (G := fun i => if i < mm ∧ i < Sp.length then Sp.getD i 0 else w7) (c := c) (if_neg (fun h => hcs h.2))
          (conv => whnf); repeat (first | (rw [hP]; conv => whnf) | (rw [wrn]; conv => whnf) | (rw [wrm]; conv => whnf) | (rw [Int.toNat_natCast]; conv => whnf) | (refine br_yes (tab_blt (k := c) hc) ?_; conv => whnf) | (refine br_yes (tab_blt (k := c) hcb) ?_; conv => whnf) | (refine br_yes bX ?_; conv => whnf) | (refine br_yes bY ?_; conv => whnf) | (refine br_yes bZ ?_; conv => whnf) | (refine put_at (blkF eX) ?_; conv => whnf) | (refine put_at0 (blkF eX) ?_; conv => whnf) | (refine put_at0 (blkF eB) ?_; conv => whnf) | (refine put_at (blkI eY) ?_; conv => whnf) | (refine put_at (blkI eW) ?_; conv => whnf) | (refine put_at (blkF eZ) ?_; conv => whnf) | (refine put_at (blkF eS) ?_; conv => whnf) | (refine SlF.at (S1.s0.app _) (i := c) hcn rfl ?_; conv => whnf) | (refine SlI.at (S1.s1.app _) (i := c) hcw rfl ?_; conv => whnf) | (refine SlF.at (S1.s3.app _) (i := c) hcs rfl ?_; conv => whnf) | (refine br_d (by omega) ?_; conv => whnf) | (refine br_nd (by omega) ?_; conv => whnf) | (refine br_eq (by omega) ?_; conv => whnf) | (refine br_neq (by omega) ?_; conv => whnf) | (refine br_ne (by omega) ?_; conv => whnf) | (refine br_no (bo_eqn (by omega)) ?_; conv => whnf) | (refine Or.inl ?_; conv => whnf) | (refine okS_no (by kernel_rfl) ?_; conv => whnf) | (refine okS_yes (by kernel_rfl) ?_; conv => whnf) | (refine And_of (by (conv => whnf); (rw [getB_app0]); (conv => whnf)) ?_; conv => whnf) | (refine setB_app ?_; conv => whnf) | (refine setB_app0 ?_; conv => whnf) | (rw [getB_app]; conv => whnf) | (rw [getB_app0]; conv => whnf) | (refine addB_f13 ?_; conv => whnf) | (refine addB_f12 ?_; conv => whnf) | (refine addB_f11 ?_; conv => whnf) | (refine addB_f10 ?_; conv => whnf) | (refine addB_f9 ?_; conv => whnf) | (refine addB_f8 ?_; conv => whnf) | (refine addB_f7 ?_; conv => whnf) | (refine addB_f6 ?_; conv => whnf) | (refine addB_f5 ?_; conv => whnf) | (refine addB_f4 ?_; conv => whnf) | (refine addB_f3 ?_; conv => whnf) | (refine addB_f2 ?_; conv => whnf) | (refine addB_f1 ?_; conv => whnf) | (refine addB_f0 ?_; conv => whnf))
          refine Fg.of [] ?_ (by rw [List.append_nil]; try first | rfl | (rw [eB, eW]; try rfl)) (by simp) (by (simp [scL, V.sc]) <;> omega) (hsc1 _ _ _)
          conv => whnf
          exact ⟨rfl, rfl, rfl, rfl, rfl, rfl, rfl, wrapKL (by omega), rfl⟩
    · have eB := mem_s3 (N := Be.length + 3) (z := 0) (G := fun i => if i < Be.length then Be.getD i 0 else w7) (c := c) (by omega)
      have eW := mem_s3 (N := Be.length + 3) (z := (0 : Int)) (G := fun i => if i < Be.length then Wt.getD i 0 else 7) (c := c) (by omega)
      by_cases hcm : c < mm
      · by_cases hcs : c < Sp.length
        · obtain ⟨Z, eZ, lZ, eS⟩ := mem_s2 (N := mm + 3) (z := 0) (a := w7) (G := fun i => if i < mm ∧ i < Sp.length then Sp.getD i 0 else w7) (c := c) (b := Sp.getD c 0) (if_pos ⟨hcm, hcs⟩)
          have bZ : Nat.blt (0 + c * 1) Z.length = true := by rw [lZ]; simp; omega
          (conv => whnf); repeat (first | (rw [hP]; conv => whnf) | (rw [wrn]; conv => whnf) | (rw [wrm]; conv => whnf) | (rw [Int.toNat_natCast]; conv => whnf) | (refine br_yes (tab_blt (k := c) hc) ?_; conv => whnf) | (refine br_yes (tab_blt (k := c) hcb) ?_; conv => whnf) | (refine br_yes bX ?_; conv => whnf) | (refine br_yes bY ?_; conv => whnf) | (refine br_yes bZ ?_; conv => whnf) | (refine put_at (blkF eX) ?_; conv => whnf) | (refine put_at0 (blkF eX) ?_; conv => whnf) | (refine put_at0 (blkF eB) ?_; conv => whnf) | (refine put_at (blkI eY) ?_; conv => whnf) | (refine put_at (blkI eW) ?_; conv => whnf) | (refine put_at (blkF eZ) ?_; conv => whnf) | (refine put_at (blkF eS) ?_; conv => whnf) | (refine SlF.at (S1.s0.app _) (i := c) hcn rfl ?_; conv => whnf) | (refine SlI.at (S1.s1.app _) (i := c) hcw rfl ?_; conv => whnf) | (refine SlF.at (S1.s3.app _) (i := c) hcs rfl ?_; conv => whnf) | (refine br_d (by omega) ?_; conv => whnf) | (refine br_nd (by omega) ?_; conv => whnf) | (refine br_eq (by omega) ?_; conv => whnf) | (refine br_neq (by omega) ?_; conv => whnf) | (refine br_ne (by omega) ?_; conv => whnf) | (refine br_no (bo_eqn (by omega)) ?_; conv => whnf) | (refine Or.inl ?_; conv => whnf) | (refine okS_no (by kernel_rfl) ?_; conv => whnf) | (refine okS_yes (by kernel_rfl) ?_; conv => whnf) | (refine And_of (by (conv => whnf); (rw [getB_app0]); (conv => whnf)) ?_; conv => whnf) | (refine setB_app ?_; conv => whnf) | (refine setB_app0 ?_; conv => whnf) | (rw [getB_app]; conv => whnf) | (rw [getB_app0]; conv => whnf) | (refine addB_f13 ?_; conv => whnf) | (refine addB_f12 ?_; conv => whnf) | (refine addB_f11 ?_; conv => whnf) | (refine addB_f10 ?_; conv => whnf) | (refine addB_f9 ?_; conv => whnf) | (refine addB_f8 ?_; conv => whnf) | (refine addB_f7 ?_; conv => whnf) | (refine addB_f6 ?_; conv => whnf) | (refine addB_f5 ?_; conv => whnf) | (refine addB_f4 ?_; conv => whnf) | (refine addB_f3 ?_; conv => whnf) | (refine addB_f2 ?_; conv => whnf) | (refine addB_f1 ?_; conv => whnf) | (refine addB_f0 ?_; conv => whnf))
          refine Fg.of [] ?_ (by rw [List.append_nil]; try first | rfl | (rw [eB, eW]; try rfl)) (by simp) (by (simp [scL, V.sc]) <;> omega) (hsc1 _ _ _)
          conv => whnf
          exact ⟨rfl, rfl, rfl, rfl, rfl, rfl, rfl, wrapKL (by omega), rfl⟩
        · have eS := mem_s1 (N := mm + 3) (z := 0) (a := w7) (G := fun i => if i < mm ∧ i < Sp.length then Sp.getD i 0 else w7) (c := c) (if_neg (fun h => hcs h.2))
          (conv => whnf); repeat (first | (rw [hP]; conv => whnf) | (rw [wrn]; conv => whnf) | (rw [wrm]; conv => whnf) | (rw [Int.toNat_natCast]; conv => whnf) | (refine br_yes (tab_blt (k := c) hc) ?_; conv => whnf) | (refine br_yes (tab_blt (k := c) hcb) ?_; conv => whnf) | (refine br_yes bX ?_; conv => whnf) | (refine br_yes bY ?_; conv => whnf) | (refine br_yes bZ ?_; conv => whnf) | (refine put_at (blkF eX) ?_; conv => whnf) | (refine put_at0 (blkF eX) ?_; conv => whnf) | (refine put_at0 (blkF eB) ?_; conv => whnf) | (refine put_at (blkI eY) ?_; conv => whnf) | (refine put_at (blkI eW) ?_; conv => whnf) | (refine put_at (blkF eZ) ?_; conv => whnf) | (refine put_at (blkF eS) ?_; conv => whnf) | (refine SlF.at (S1.s0.app _) (i := c) hcn rfl ?_; conv => whnf) | (refine SlI.at (S1.s1.app _) (i := c) hcw rfl ?_; conv => whnf) | (refine SlF.at (S1.s3.app _) (i := c) hcs rfl ?_; conv => whnf) | (refine br_d (by omega) ?_; conv => whnf) | (refine br_nd (by omega) ?_; conv => whnf) | (refine br_eq (by omega) ?_; conv => whnf) | (refine br_neq (by omega) ?_; conv => whnf) | (refine br_ne (by omega) ?_; conv => whnf) | (refine br_no (bo_eqn (by omega)) ?_; conv => whnf) | (refine Or.inl ?_; conv => whnf) | (refine okS_no (by kernel_rfl) ?_; conv => whnf) | (refine okS_yes (by kernel_rfl) ?_; conv => whnf) | (refine And_of (by (conv => whnf); (rw [getB_app0]); (conv => whnf)) ?_; conv => whnf) | (refine setB_app ?_; conv => whnf) | (refine setB_app0 ?_; conv => whnf) | (rw [getB_app]; conv => whnf) | (rw [getB_app0]; conv => whnf) | (refine addB_f13 ?_; conv => whnf) | (refine addB_f12 ?_; conv => whnf) | (refine addB_f11 ?_; conv => whnf) | (refine addB_f10 ?_; conv => whnf) | (refine addB_f9 ?_; conv => whnf) | (refine addB_f8 ?_; conv => whnf) | (refine addB_f7 ?_; conv => whnf) | (refine addB_f6 ?_; conv => whnf) | (refine addB_f5 ?_; conv => whnf) | (refine addB_f4 ?_; conv => whnf) | (refine addB_f3 ?_; conv => whnf) | (refine addB_f2 ?_; conv => whnf) | (refine addB_f1 ?_; conv => whnf) | (refine addB_f0 ?_; conv => whnf))
          refine Fg.of [] ?_ (by rw [List.append_nil]; try first | rfl | (rw [eB, eW]; try rfl)) (by simp) (by (simp [scL, V.sc]) <;> omega) (hsc1 _ _ _)
          conv => whnf
          exact ⟨rfl, rfl, rfl, rfl, rfl, rfl, rfl, wrapKL (by omega), rfl⟩
      · have eS := mem_s1 (N := mm + 3) (z := 0) (a := w7) (G := fun i => if i < mm ∧ i < Sp.length then Sp.getD i 0 else w7) (c := c) (if_neg (fun h => hcm h.1))
        (conv => whnf); repeat (first | (rw [hP]; conv => whnf) | (rw [wrn]; conv => whnf) | (rw [wrm]; conv => whnf) | (rw [Int.toNat_natCast]; conv => whnf) | (refine br_yes (tab_blt (k := c) hc) ?_; conv => whnf) | (refine br_yes (tab_blt (k := c) hcb) ?_; conv => whnf) | (refine br_yes bX ?_; conv => whnf) | (refine br_yes bY ?_; conv => whnf) | (refine br_yes bZ ?_; conv => whnf) | (refine put_at (blkF eX) ?_; conv => whnf) | (refine put_at0 (blkF eX) ?_; conv => whnf) | (refine put_at0 (blkF eB) ?_; conv => whnf) | (refine put_at (blkI eY) ?_; conv => whnf) | (refine put_at (blkI eW) ?_; conv => whnf) | (refine put_at (blkF eZ) ?_; conv => whnf) | (refine put_at (blkF eS) ?_; conv => whnf) | (refine SlF.at (S1.s0.app _) (i := c) hcn rfl ?_; conv => whnf) | (refine SlI.at (S1.s1.app _) (i := c) hcw rfl ?_; conv => whnf) | (refine SlF.at (S1.s3.app _) (i := c) hcs rfl ?_; conv => whnf) | (refine br_d (by omega) ?_; conv => whnf) | (refine br_nd (by omega) ?_; conv => whnf) | (refine br_eq (by omega) ?_; conv => whnf) | (refine br_neq (by omega) ?_; conv => whnf) | (refine br_ne (by omega) ?_; conv => whnf) | (refine br_no (bo_eqn (by omega)) ?_; conv => whnf) | (refine Or.inl ?_; conv => whnf) | (refine okS_no (by kernel_rfl) ?_; conv => whnf) | (refine okS_yes (by kernel_rfl) ?_; conv => whnf) | (refine And_of (by (conv => whnf); (rw [getB_app0]); (conv => whnf)) ?_; conv => whnf) | (refine setB_app ?_; conv => whnf) | (refine setB_app0 ?_; conv => whnf) | (rw [getB_app]; conv => whnf) | (rw [getB_app0]; conv => whnf) | (refine addB_f13 ?_; conv => whnf) | (refine addB_f12 ?_; conv => whnf) | (refine addB_f11 ?_; conv => whnf) | (refine addB_f10 ?_; conv => whnf) | (refine addB_f9 ?_; conv => whnf) | (refine addB_f8 ?_; conv => whnf) | (refine addB_f7 ?_; conv => whnf) | (refine addB_f6 ?_; conv => whnf) | (refine addB_f5 ?_; conv => whnf) | (refine addB_f4 ?_; conv => whnf) | (refine addB_f3 ?_; conv => whnf) | (refine addB_f2 ?_; conv => whnf) | (refine addB_f1 ?_; conv => whnf) | (refine addB_f0 ?_; conv => whnf))
        refine Fg.of [] ?_ (by rw [List.append_nil]; try first | rfl | (rw [eB, eW]; try rfl)) (by simp) (by (simp [scL, V.sc]) <;> omega) (hsc1 _ _ _)
        conv => whnf
        exact ⟨rfl, rfl, rfl, rfl, rfl, rfl, rfl, wrapKL (by omega), rfl⟩
  · rw [mem_end (by omega), mem_end (by omega), mem_end (Nat.le_refl _)]
    obtain ⟨Bl, hBl⟩ : ∃ Bl, Bl = tab (Be.length + 3) bF := ⟨_, rfl⟩
    obtain ⟨Wl, hWl⟩ : ∃ Wl, Wl = tab (Be.length + 3) wF := ⟨_, rfl⟩
    obtain ⟨Sl, hSl⟩ : ∃ Sl, Sl = tab (mm + 3) sF := ⟨_, rfl⟩
    rw [← hBl, ← hWl, ← hSl]
    have lB : Bl.length = Be.length + 3 := by rw [hBl, tab_len]
    have lW : Wl.length = Be.length + 3 := by rw [hWl, tab_len]
    have lS : Sl.length = mm + 3 := by rw [hSl, tab_len]
    have gB : ∀ i, i < Be.length + 3 → Bl.getD i 0 = if i < Be.length then Be.getD i 0 else w7 := fun i hi => by rw [hBl, tab_get hi, hbF]
    have gW : ∀ i, i < Be.length + 3 → Wl.getD i 0 = if i < Be.length then Wt.getD i 0 else 7 := fun i hi => by rw [hWl, tab_get hi, hwF]
    have wB : ∀ i, i < Be.length + 3 → inF (Bl.getD i 0) := fun i hi => by
      rw [gB i hi]
      split
      · exact S1.s0.wf i (by assumption)
      · decide
    have wW : ∀ i, i < Be.length + 3 → in64 (Wl.getD i 0) := fun i hi => by
      rw [gW i hi]
      split
      · exact S1.s1.wf i (by omega)
      · decide
    have wS : ∀ i, i < mm + 3 → inF (Sl.getD i 0) := fun i hi => by
      rw [hSl, tab_get hi, hsF]
      show inF (if i < mm ∧ i < Sp.length then Sp.getD i 0 else w7)
      split
      · rename_i h; exact S1.s3.wf i h.2
      · decide
    have hco := rawCopied_ok (hsc1 Bl Wl Sl) (j := M1.length + 2) (L := Sl) (w := true) (n := mm + 3) (getB_app 2) (by omega) (by omega)
    rw [List.take_of_length_le (by omega), List.append_assoc, show (M1 ++ ([⟨true, .flts Bl⟩, ⟨true, .ints .i64 Wl⟩, ⟨true, .flts Sl⟩] : List Blk)).length = M1.length + 3 from by simp] at hco
    obtain ⟨M3, hM3⟩ : ∃ M3, M3 = M1 ++ ([⟨true, .flts Bl⟩, ⟨true, .ints .i64 Wl⟩, ⟨true, .flts Sl⟩, ⟨true, .flts Sl⟩, ⟨true, .cells [.sl M1.length 0 Be.length, .sl (M1.length + 1) 0 Be.length, .raw (.slice none 0 0), .sl (M1.length + 2) 0 mm, .int .i64 0, I 0]⟩] : List Blk) := ⟨_, rfl⟩
    have setS : ∀ {K : List Blk → Prop} {c : Blk}, K M3 → c = ⟨true, .cells [.sl M1.length 0 Be.length, .sl (M1.length + 1) 0 Be.length, .raw (.slice none 0 0), .sl (M1.length + 2) 0 mm, .int .i64 0, I 0]⟩ → ∀ {d : Blk}, setB (M1 ++ ([⟨true, .flts Bl⟩, ⟨true, .ints .i64 Wl⟩, ⟨true, .flts Sl⟩, ⟨true, .flts Sl⟩, d] : List Blk)) (M1.length + 4) c K := fun {K c} hk hc {d} => setB_app (by rw [hc, hM3] at *; exact hk)
    have sc3 : scM M3.length M3 = true := by rw [hM3]; exact scM_app (scM_mono (by simp) _ u1.sc) (by simp [scM, B.sc, scL, V.sc])
    have u3 : Up M1 M3 := ⟨⟨_, hM3⟩, sc3⟩
    have e3 : M3.length = M1.length + 5 := by rw [hM3]; simp
    have N3 := hN.up u3
    have S3 := (SB1.up u3).read
    have b0 : getB M3 M1.length = ⟨true, .flts Bl⟩ := by rw [hM3]; exact getB_app0
    have b1 : getB M3 (M1.length + 1) = ⟨true, .ints .i64 Wl⟩ := by rw [hM3]; exact getB_app 1
    have b2 : getB M3 (M1.length + 2) = ⟨true, .flts Sl⟩ := by rw [hM3]; exact getB_app 2
    have b3 : getB M3 (M1.length + 3) = ⟨true, .flts Sl⟩ := by rw [hM3]; exact getB_app 3
    have b4 : getB M3 (M1.length + 4) = ⟨true, .cells [.sl M1.length 0 Be.length, .sl (M1.length + 1) 0 Be.length, .raw (.slice none 0 0), .sl (M1.length + 2) 0 mm, .int .i64 0, I 0]⟩ := by rw [hM3]; exact getB_app 4
    obtain ⟨Bn, hBn⟩ : ∃ Bn, Bn = Bl.take Be.length := ⟨_, rfl⟩
    obtain ⟨Wn, hWn⟩ : ∃ Wn, Wn = Wl.take Be.length := ⟨_, rfl⟩
    obtain ⟨Sn, hSn⟩ : ∃ Sn, Sn = Sl.take mm := ⟨_, rfl⟩
    have lBn : Bn.length = Be.length := by rw [hBn, List.length_take]; omega
    have lWn : Wn.length = Be.length := by rw [hWn, List.length_take]; omega
    have lSn : Sn.length = mm := by rw [hSn, List.length_take]; omega
    have tkF : ∀ {l : List Nat} {k i : Nat}, i < k → (l.take k).getD i 0 = l.getD i 0 := fun {l k i} h => by
      rw [List.getD_eq_getElem?_getD, List.getElem?_take, if_pos h, ← List.getD_eq_getElem?_getD]
    have tkI : ∀ {l : List Int} {k i : Nat}, i < k → (l.take k).getD i 0 = l.getD i 0 := fun {l k i} h => by
      rw [List.getD_eq_getElem?_getD, List.getElem?_take, if_pos h, ← List.getD_eq_getElem?_getD]
    have tB : SlF M3 M1.length 0 Bn := SlF.flts b0 (fun i hi => ⟨by omega, by rw [Nat.zero_add, hBn, tkF (by omega)]⟩) (fun i hi => by rw [hBn, tkF (by omega)]; exact wB i (by omega)) (by omega)
    have tW : SlI M3 (M1.length + 1) 0 Wn := SlI.ints b1 (fun i hi => ⟨by omega, by rw [Nat.zero_add, hWn, tkI (by omega)]⟩) (fun i hi => by rw [hWn, tkI (by omega)]; exact wW i (by omega)) (by omega)
    have tS : SlF M3 (M1.length + 2) 0 Sn := SlF.flts b2 (fun i hi => ⟨by omega, by rw [Nat.zero_add, hSn, tkF (by omega)]⟩) (fun i hi => by rw [hSn, tkF (by omega)]; exact wS i (by omega)) (by omega)
    have aS : SlF M3 (M1.length + 2) 0 Sl := SlF.flts b2 (fun i hi => ⟨by omega, by rw [Nat.zero_add]⟩) (fun i hi => wS i (by omega)) (by omega)
    have aT : SlF M3 (M1.length + 3) 0 Sl := SlF.flts b3 (fun i hi => ⟨by omega, by rw [Nat.zero_add]⟩) (fun i hi => wS i (by omega)) (by omega)
    have aB : SlF M3 M1.length 0 Bl := SlF.flts b0 (fun i hi => ⟨by omega, by rw [Nat.zero_add]⟩) (fun i hi => wB i (by omega)) (by omega)
    have aW : SlI M3 (M1.length + 1) 0 Wl := SlI.ints b1 (fun i hi => ⟨by omega, by rw [Nat.zero_add]⟩) (fun i hi => wW i (by omega)) (by omega)
    have kP0 : getB M3 M.length = ⟨true, .cells (askL n lim j0 j1 j2 j3 Be.length Wt.length Tr.length Sp.length sky step)⟩ := by rw [hM3]; exact hP _
    have kP : ∀ z, getB (M3 ++ z) M.length = _ := fun z => getB_in kP0 rfl
    have k4 : ∀ z, getB (M3 ++ z) (M1.length + 4) = _ := fun z => getB_in b4 rfl
    have hlo : (0 : Int) ≤ 0 := by decide
    by_cases hl : 0 ≤ lim ∧ lim ≤ 3
    case neg =>
      have dn : ∀ {Y : List Blk}, Up M3 Y → COk Tryz.prog 3 43 [.ptr (b + 1) 0, I lim, seaQ M1.length (M1.length + 1) Be.length Be.length (.raw (.slice none 0 0)) (.sl (M1.length + 2) 0 mm) 0 0] Y (.tup [nilS', I 1]) (Y ++ ([dpB M1.length (M1.length + 1) (M1.length + 2) Be.length Be.length mm 0 0] : List Blk)) := fun {Y} uY => by
        have := Depths_no uY.sc (N3.up uY) (tB.up uY) (tW.up uY) (tS.up uY) (by rw [lBn]; exact e0) (by rw [lWn]; exact e0) (by rw [lSn]; exact hmm) hn 0 0 lim hl
        rwa [lBn, lWn, lSn] at this
      have v1 : Up M3 (M3 ++ ([dpB M1.length (M1.length + 1) (M1.length + 2) Be.length Be.length mm 0 0] : List Blk)) := Up.of sc3 (by simp [scM, B.sc, scL, V.sc]; omega)
      have hD1 := dn (Y := M3) ⟨⟨[], by simp⟩, sc3⟩
      have hD2 := dn v1
      rw [List.append_assoc] at hD2
      obtain ⟨X, hX⟩ : ∃ X, X = M3 ++ ([dpB M1.length (M1.length + 1) (M1.length + 2) Be.length Be.length mm 0 0, dpB M1.length (M1.length + 1) (M1.length + 2) Be.length Be.length mm 0 0] : List Blk) := ⟨_, rfl⟩
      have scX : scM X.length X = true := by rw [hX]; exact scM_app (scM_mono (by simp) _ sc3) (by simp [scM, B.sc, scL, V.sc]; omega)
      have uX : Up M3 X := ⟨⟨_, hX⟩, scX⟩
      have lX := uX.len
      have x0 : getB X M1.length = ⟨true, .flts Bl⟩ := by rw [hX]; exact getB_in b0 rfl
      have nX : SlF X M1.length 0 [] := SlF.nil' (by rw [x0]; rfl)
      have hab := COk_nil1 (i := M1.length) (by omega) (by rw [x0]; rfl) (COk_nil2 (i := M1.length) (by omega) (by rw [x0]; rfl) (rawAll_eq scX nX nX))
      have hss := rawAll_eq scX (aS.up uX) (aT.up uX)
      rw [lS] at hss
      rw [hX] at hab hss
      (conv => whnf); repeat (first | (refine ⟨_, _, hco, ?_⟩; conv => whnf) | (refine ⟨_, hco, ?_⟩; conv => whnf) | (refine setS ?_ rfl; conv => whnf) | (rw [kP0]; conv => whnf) | (rw [b4]; conv => whnf) | (rw [kP]; conv => whnf) | (rw [k4]; conv => whnf) | (refine ⟨_, _, hD1, ?_⟩; conv => whnf) | (refine ⟨_, hD1, ?_⟩; conv => whnf) | (refine ⟨_, _, hD2, ?_⟩; conv => whnf) | (refine ⟨_, hD2, ?_⟩; conv => whnf) | (refine ⟨_, _, hab, ?_⟩; conv => whnf) | (refine ⟨_, hab, ?_⟩; conv => whnf) | (refine ⟨_, _, hss, ?_⟩; conv => whnf) | (refine ⟨_, hss, ?_⟩; conv => whnf) | (refine br_d (by omega) ?_; conv => whnf) | (refine br_nd (by omega) ?_; conv => whnf) | (refine br_eq (by omega) ?_; conv => whnf) | (refine br_neq (by omega) ?_; conv => whnf) | (refine br_ne (by omega) ?_; conv => whnf) | (refine br_no (bo_eqn (by omega)) ?_; conv => whnf) | (refine Or.inl ?_; conv => whnf) | (refine okS_no (by kernel_rfl) ?_; conv => whnf) | (refine okS_yes (by kernel_rfl) ?_; conv => whnf) | (refine And_of (by (conv => whnf); (rw [getB_app0]); (conv => whnf)) ?_; conv => whnf) | (refine setB_app ?_; conv => whnf) | (refine setB_app0 ?_; conv => whnf) | (rw [getB_app]; conv => whnf) | (rw [getB_app0]; conv => whnf) | (refine addB_f13 ?_; conv => whnf) | (refine addB_f12 ?_; conv => whnf) | (refine addB_f11 ?_; conv => whnf) | (refine addB_f10 ?_; conv => whnf) | (refine addB_f9 ?_; conv => whnf) | (refine addB_f8 ?_; conv => whnf) | (refine addB_f7 ?_; conv => whnf) | (refine addB_f6 ?_; conv => whnf) | (refine addB_f5 ?_; conv => whnf) | (refine addB_f4 ?_; conv => whnf) | (refine addB_f3 ?_; conv => whnf) | (refine addB_f2 ?_; conv => whnf) | (refine addB_f1 ?_; conv => whnf) | (refine addB_f0 ?_; conv => whnf))
      rw [← hX]
      have qP0 : getB X M.length = _ := (uX.ex.elim fun z hz => by rw [hz]; exact kP z)
      have q40 : getB X (M1.length + 4) = _ := (uX.ex.elim fun z hz => by rw [hz]; exact k4 z)
      have qP : getB X M.length = ⟨true, .cells (askL n lim j0 j1 j2 j3 Be.length Wt.length Tr.length Sp.length sky step)⟩ := qP0
      have q4 : getB X (M1.length + 4) = ⟨true, .cells [.sl M1.length 0 Be.length, .sl (M1.length + 1) 0 Be.length, .raw (.slice none 0 0), .sl (M1.length + 2) 0 mm, .int .i64 0, I 0]⟩ := q40
      refine loop_to (fun c => [.any, .ptr M.length 0, .any, .ptr (b + 1) 0, .any, I Be.length, .any, .sl M1.length 0 (Be.length + 3), .sl (M1.length + 1) 0 (Be.length + 3), .any, .any, .any, .ptr (M1.length + 4) 0, nilS', .any, nilS', .any, I c, .any, .any, .any, .any, .any, .any, .any, .any, .any, .any, .any, .any, .any, .any, .any, .any, .any, .any, .any, .any, .any, .any, .any, .any, .any, .any, .any, .any, .any, .any, .any, .any, .any, .any, .any, .any, .any, .any, .any, .any, .any, .any, .any, .any, .any, .any, .any, .any, .any, .any, .any, .any, .any, .any, .any, .any, .any, .any, .any, .any, .any, .any, .any, .any, .any, .any, .any, .any, .any, .any, .any, .any, .any, .any, .any, .any, .any, .any, .any, .any, .any, .any, .any, .any, .any, .any, .any, .any, .any, .any, .any, .any, .any, .any, .any, .any, .any, .any, .any, .any, .any, .any, .any, .any, .any, .any, .any, .any, .any, .any, .any, .any, .any, .any, .any, .any, .any, .any, .any, .any, .any, .any, .any, .any, .any, .any, .any, .any, .any, .any, .any, .any, .any, .any, .any, .any, .any, .any, .any, .any, .any, .any, .any, .any, .any, .any, .any, .any, .any, .any, .any, .any, .any, .any, .any, .any, .any, .any, .any, .any, .any, .any, .any, .any, .any, .any, .any, .any, .any, .any, .any, .any, .any, .any, .any, .any, .any, .any, .any, .any, .any, .any, .any, .any, .any, .any, .any, .any, .any, .any, .any, .any, .any, .any, .any, .any, .any, .any, .any, .any, .any, .any, .any, .any, .any, .any, .any, .any]) (fun _ => X) 0 (Be.length + 3) (Nat.zero_le _) ?_ ?_ ?_
      · refine Fg.of [] ?_ (by rw [List.append_nil]) (by simp) (by (simp [scL, V.sc]) <;> omega) scX
        conv => whnf
        exact ⟨rfl, rfl, rfl, rfl, rfl, rfl, rfl, rfl, rfl, rfl⟩
      · intro c _ hc
        have sB := gB c hc
        have sW := gW c hc
        have rBl : ∀ {off : Nat} {K : V → Prop}, off = 0 + c * 1 → K (F (Bl.getD c 0)) → rd1 (getB X M1.length).b off K := fun {off K} e h => SlF.at (aB.up uX) (i := c) (by omega) e h
        have rWl : ∀ {off : Nat} {K : V → Prop}, off = 0 + c * 1 → K (.int .i64 (Wl.getD c 0)) → rd1 (getB X (M1.length + 1)).b off K := fun {off K} e h => SlI.at (aW.up uX) (i := c) (by omega) e h
        rw [sB] at rBl
        rw [sW] at rWl
        by_cases hcn : c < Be.length
        · rw [if_pos hcn] at rBl rWl
          (conv => whnf); repeat (first | (rw [wrn]; conv => whnf) | (rw [qP]; conv => whnf) | (refine rBl rfl ?_; conv => whnf) | (refine rWl rfl ?_; conv => whnf) | (refine SlF.at ((S3.up uX).s0) (i := c) hcn rfl ?_; conv => whnf) | (refine SlI.at ((S3.up uX).s1) (i := c) (by omega) rfl ?_; conv => whnf) | (refine ⟨_, _, same_eq _ _, ?_⟩; conv => whnf) | (refine ⟨_, same_eq _ _, ?_⟩; conv => whnf) | (refine br_no (bo_eqn rfl) ?_; conv => whnf) | (refine br_d (by omega) ?_; conv => whnf) | (refine br_nd (by omega) ?_; conv => whnf) | (refine br_eq (by omega) ?_; conv => whnf) | (refine br_neq (by omega) ?_; conv => whnf) | (refine br_ne (by omega) ?_; conv => whnf) | (refine br_no (bo_eqn (by omega)) ?_; conv => whnf) | (refine Or.inl ?_; conv => whnf) | (refine okS_no (by kernel_rfl) ?_; conv => whnf) | (refine okS_yes (by kernel_rfl) ?_; conv => whnf) | (refine And_of (by (conv => whnf); (rw [getB_app0]); (conv => whnf)) ?_; conv => whnf) | (refine setB_app ?_; conv => whnf) | (refine setB_app0 ?_; conv => whnf) | (rw [getB_app]; conv => whnf) | (rw [getB_app0]; conv => whnf) | (refine addB_f13 ?_; conv => whnf) | (refine addB_f12 ?_; conv => whnf) | (refine addB_f11 ?_; conv => whnf) | (refine addB_f10 ?_; conv => whnf) | (refine addB_f9 ?_; conv => whnf) | (refine addB_f8 ?_; conv => whnf) | (refine addB_f7 ?_; conv => whnf) | (refine addB_f6 ?_; conv => whnf) | (refine addB_f5 ?_; conv => whnf) | (refine addB_f4 ?_; conv => whnf) | (refine addB_f3 ?_; conv => whnf) | (refine addB_f2 ?_; conv => whnf) | (refine addB_f1 ?_; conv => whnf) | (refine addB_f0 ?_; conv => whnf))
          refine Fg.of [] ?_ (by rw [List.append_nil]) (by simp) (by (simp [scL, V.sc]) <;> omega) scX
          conv => whnf
          exact ⟨rfl, rfl, rfl, rfl, rfl, rfl, rfl, rfl, wrapKL (by omega), rfl⟩
        · rw [if_neg hcn] at rBl rWl
          (conv => whnf); repeat (first | (rw [wrn]; conv => whnf) | (rw [qP]; conv => whnf) | (refine rBl rfl ?_; conv => whnf) | (refine rWl rfl ?_; conv => whnf) | (refine br_no n7 ?_; conv => whnf) | (refine br_d (by omega) ?_; conv => whnf) | (refine br_nd (by omega) ?_; conv => whnf) | (refine br_eq (by omega) ?_; conv => whnf) | (refine br_neq (by omega) ?_; conv => whnf) | (refine br_ne (by omega) ?_; conv => whnf) | (refine br_no (bo_eqn (by omega)) ?_; conv => whnf) | (refine Or.inl ?_; conv => whnf) | (refine okS_no (by kernel_rfl) ?_; conv => whnf) | (refine okS_yes (by kernel_rfl) ?_; conv => whnf) | (refine And_of (by (conv => whnf); (rw [getB_app0]); (conv => whnf)) ?_; conv => whnf) | (refine setB_app ?_; conv => whnf) | (refine setB_app0 ?_; conv => whnf) | (rw [getB_app]; conv => whnf) | (rw [getB_app0]; conv => whnf) | (refine addB_f13 ?_; conv => whnf) | (refine addB_f12 ?_; conv => whnf) | (refine addB_f11 ?_; conv => whnf) | (refine addB_f10 ?_; conv => whnf) | (refine addB_f9 ?_; conv => whnf) | (refine addB_f8 ?_; conv => whnf) | (refine addB_f7 ?_; conv => whnf) | (refine addB_f6 ?_; conv => whnf) | (refine addB_f5 ?_; conv => whnf) | (refine addB_f4 ?_; conv => whnf) | (refine addB_f3 ?_; conv => whnf) | (refine addB_f2 ?_; conv => whnf) | (refine addB_f1 ?_; conv => whnf) | (refine addB_f0 ?_; conv => whnf))
          refine Fg.of [] ?_ (by rw [List.append_nil]) (by simp) (by (simp [scL, V.sc]) <;> omega) scX
          conv => whnf
          exact ⟨rfl, rfl, rfl, rfl, rfl, rfl, rfl, rfl, wrapKL (by omega), rfl⟩
      ·
        (conv => whnf); repeat (first | (rw [wrn]; conv => whnf) | (refine br_d (by omega) ?_; conv => whnf) | (refine br_nd (by omega) ?_; conv => whnf) | (refine br_eq (by omega) ?_; conv => whnf) | (refine br_neq (by omega) ?_; conv => whnf) | (refine br_ne (by omega) ?_; conv => whnf) | (refine br_no (bo_eqn (by omega)) ?_; conv => whnf) | (refine Or.inl ?_; conv => whnf) | (refine okS_no (by kernel_rfl) ?_; conv => whnf) | (refine okS_yes (by kernel_rfl) ?_; conv => whnf) | (refine And_of (by (conv => whnf); (rw [getB_app0]); (conv => whnf)) ?_; conv => whnf) | (refine setB_app ?_; conv => whnf) | (refine setB_app0 ?_; conv => whnf) | (rw [getB_app]; conv => whnf) | (rw [getB_app0]; conv => whnf) | (refine addB_f13 ?_; conv => whnf) | (refine addB_f12 ?_; conv => whnf) | (refine addB_f11 ?_; conv => whnf) | (refine addB_f10 ?_; conv => whnf) | (refine addB_f9 ?_; conv => whnf) | (refine addB_f8 ?_; conv => whnf) | (refine addB_f7 ?_; conv => whnf) | (refine addB_f6 ?_; conv => whnf) | (refine addB_f5 ?_; conv => whnf) | (refine addB_f4 ?_; conv => whnf) | (refine addB_f3 ?_; conv => whnf) | (refine addB_f2 ?_; conv => whnf) | (refine addB_f1 ?_; conv => whnf) | (refine addB_f0 ?_; conv => whnf))
        refine lr ?_
        (conv => whnf); repeat (first | (rw [qP]; conv => whnf) | (rw [q4]; conv => whnf) | (refine ⟨_, _, dn uX, ?_⟩; conv => whnf) | (refine ⟨_, dn uX, ?_⟩; conv => whnf) | (refine br_d (by omega) ?_; conv => whnf) | (refine br_nd (by omega) ?_; conv => whnf) | (refine br_eq (by omega) ?_; conv => whnf) | (refine br_neq (by omega) ?_; conv => whnf) | (refine br_ne (by omega) ?_; conv => whnf) | (refine br_no (bo_eqn (by omega)) ?_; conv => whnf) | (refine Or.inl ?_; conv => whnf) | (refine okS_no (by kernel_rfl) ?_; conv => whnf) | (refine okS_yes (by kernel_rfl) ?_; conv => whnf) | (refine And_of (by (conv => whnf); (rw [getB_app0]); (conv => whnf)) ?_; conv => whnf) | (refine setB_app ?_; conv => whnf) | (refine setB_app0 ?_; conv => whnf) | (rw [getB_app]; conv => whnf) | (rw [getB_app0]; conv => whnf) | (refine addB_f13 ?_; conv => whnf) | (refine addB_f12 ?_; conv => whnf) | (refine addB_f11 ?_; conv => whnf) | (refine addB_f10 ?_; conv => whnf) | (refine addB_f9 ?_; conv => whnf) | (refine addB_f8 ?_; conv => whnf) | (refine addB_f7 ?_; conv => whnf) | (refine addB_f6 ?_; conv => whnf) | (refine addB_f5 ?_; conv => whnf) | (refine addB_f4 ?_; conv => whnf) | (refine addB_f3 ?_; conv => whnf) | (refine addB_f2 ?_; conv => whnf) | (refine addB_f1 ?_; conv => whnf) | (refine addB_f0 ?_; conv => whnf))
        have u7 : Up X (X ++ ([dpB M1.length (M1.length + 1) (M1.length + 2) Be.length Be.length mm 0 0] : List Blk)) := Up.of scX (by simp [scM, B.sc, scL, V.sc]; omega)
        have l7 := u7.len
        have z0 : getB (X ++ ([dpB M1.length (M1.length + 1) (M1.length + 2) Be.length Be.length mm 0 0] : List Blk)) M1.length = ⟨true, .flts Bl⟩ := getB_in x0 rfl
        have nZ : SlF (X ++ ([dpB M1.length (M1.length + 1) (M1.length + 2) Be.length Be.length mm 0 0] : List Blk)) M1.length 0 [] := SlF.nil' (by rw [z0]; rfl)
        have h1 := COk_nil1 (i := M1.length) (by omega) (by rw [z0]; rfl) (COk_nil2 (i := M1.length) (by omega) (by rw [z0]; rfl) (rawAll_eq u7.sc nZ nZ))
        (conv => whnf); repeat (first | (refine ⟨_, _, h1, ?_⟩; conv => whnf) | (refine ⟨_, h1, ?_⟩; conv => whnf) | (refine br_d (by omega) ?_; conv => whnf) | (refine br_nd (by omega) ?_; conv => whnf) | (refine br_eq (by omega) ?_; conv => whnf) | (refine br_neq (by omega) ?_; conv => whnf) | (refine br_ne (by omega) ?_; conv => whnf) | (refine br_no (bo_eqn (by omega)) ?_; conv => whnf) | (refine Or.inl ?_; conv => whnf) | (refine okS_no (by kernel_rfl) ?_; conv => whnf) | (refine okS_yes (by kernel_rfl) ?_; conv => whnf) | (refine And_of (by (conv => whnf); (rw [getB_app0]); (conv => whnf)) ?_; conv => whnf) | (refine setB_app ?_; conv => whnf) | (refine setB_app0 ?_; conv => whnf) | (rw [getB_app]; conv => whnf) | (rw [getB_app0]; conv => whnf) | (refine addB_f13 ?_; conv => whnf) | (refine addB_f12 ?_; conv => whnf) | (refine addB_f11 ?_; conv => whnf) | (refine addB_f10 ?_; conv => whnf) | (refine addB_f9 ?_; conv => whnf) | (refine addB_f8 ?_; conv => whnf) | (refine addB_f7 ?_; conv => whnf) | (refine addB_f6 ?_; conv => whnf) | (refine addB_f5 ?_; conv => whnf) | (refine addB_f4 ?_; conv => whnf) | (refine addB_f3 ?_; conv => whnf) | (refine addB_f2 ?_; conv => whnf) | (refine addB_f1 ?_; conv => whnf) | (refine addB_f0 ?_; conv => whnf))
        exact ⟨rfl, (((u0.trans u1).trans u3).trans (uX.trans u7)).ex⟩
    obtain ⟨T, hT⟩ : ∃ T, T = tab mm (depT n lim Bn Wn Sn) := ⟨_, rfl⟩
    have tl : T.length = mm := by rw [hT, tab_len]
    have tw : ∀ i, i < mm → inF (T.getD i 0) := fun i hi => by rw [hT, tab_get hi]; exact depT_in _ _ _ _ _ _
    have dn : ∀ {Y : List Blk}, Up M3 Y → COk Tryz.prog 3 43 [.ptr (b + 1) 0, I lim, seaQ M1.length (M1.length + 1) Be.length Be.length (.raw (.slice none 0 0)) (.sl (M1.length + 2) 0 mm) 0 0] Y (.tup [.sl (Y.length + 1) 0 mm, I 0]) (Y ++ ([dpB M1.length (M1.length + 1) (M1.length + 2) Be.length Be.length mm 0 0, ⟨true, .flts T⟩] : List Blk)) := fun {Y} uY => by
      have := Depths_at uY.sc (N3.up uY) (tB.up uY) (tW.up uY) (tS.up uY) (by rw [lBn]; exact e0) (by rw [lWn]; exact e0) (by rw [lSn]; exact hmm) hn hn' 0 0 lim hl
      rw [lBn, lWn, lSn] at this
      rw [hT]; exact this
    have v1 : Up M3 (M3 ++ ([dpB M1.length (M1.length + 1) (M1.length + 2) Be.length Be.length mm 0 0, ⟨true, .flts T⟩] : List Blk)) := Up.of sc3 (by simp [scM, B.sc, scL, V.sc]; omega)
    have hD1 := dn (Y := M3) ⟨⟨[], by simp⟩, sc3⟩
    have hD2 := dn v1
    rw [List.append_assoc, show (M3 ++ ([dpB M1.length (M1.length + 1) (M1.length + 2) Be.length Be.length mm 0 0, ⟨true, .flts T⟩] : List Blk)).length + 1 = M3.length + 3 from by simp] at hD2
    obtain ⟨X, hX⟩ : ∃ X, X = M3 ++ ([dpB M1.length (M1.length + 1) (M1.length + 2) Be.length Be.length mm 0 0, ⟨true, .flts T⟩, dpB M1.length (M1.length + 1) (M1.length + 2) Be.length Be.length mm 0 0, ⟨true, .flts T⟩] : List Blk) := ⟨_, rfl⟩
    have scX : scM X.length X = true := by rw [hX]; exact scM_app (scM_mono (by simp) _ sc3) (by simp [scM, B.sc, scL, V.sc]; omega)
    have uX : Up M3 X := ⟨⟨_, hX⟩, scX⟩
    have lX : X.length = M3.length + 4 := by rw [hX]; simp
    have xA : SlF X (M3.length + 1) 0 T := by rw [hX]; exact SlF.flts (getB_app 1) (fun i hi => ⟨by omega, by rw [Nat.zero_add]⟩) (fun i hi => tw i (by omega)) (by omega)
    have xB : SlF X (M3.length + 3) 0 T := by rw [hX]; exact SlF.flts (getB_app 3) (fun i hi => ⟨by omega, by rw [Nat.zero_add]⟩) (fun i hi => tw i (by omega)) (by omega)
    have hab := rawAll_eq scX xA xB
    have hss := rawAll_eq scX (aS.up uX) (aT.up uX)
    rw [tl] at hab
    rw [lS] at hss
    rw [hX] at hab hss
    (conv => whnf); repeat (first | (refine ⟨_, _, hco, ?_⟩; conv => whnf) | (refine ⟨_, hco, ?_⟩; conv => whnf) | (refine setS ?_ rfl; conv => whnf) | (rw [kP0]; conv => whnf) | (rw [b4]; conv => whnf) | (rw [kP]; conv => whnf) | (rw [k4]; conv => whnf) | (refine ⟨_, _, hD1, ?_⟩; conv => whnf) | (refine ⟨_, hD1, ?_⟩; conv => whnf) | (refine ⟨_, _, hD2, ?_⟩; conv => whnf) | (refine ⟨_, hD2, ?_⟩; conv => whnf) | (refine ⟨_, _, hab, ?_⟩; conv => whnf) | (refine ⟨_, hab, ?_⟩; conv => whnf) | (refine ⟨_, _, hss, ?_⟩; conv => whnf) | (refine ⟨_, hss, ?_⟩; conv => whnf) | (refine br_d (by omega) ?_; conv => whnf) | (refine br_nd (by omega) ?_; conv => whnf) | (refine br_eq (by omega) ?_; conv => whnf) | (refine br_neq (by omega) ?_; conv => whnf) | (refine br_ne (by omega) ?_; conv => whnf) | (refine br_no (bo_eqn (by omega)) ?_; conv => whnf) | (refine Or.inl ?_; conv => whnf) | (refine okS_no (by kernel_rfl) ?_; conv => whnf) | (refine okS_yes (by kernel_rfl) ?_; conv => whnf) | (refine And_of (by (conv => whnf); (rw [getB_app0]); (conv => whnf)) ?_; conv => whnf) | (refine setB_app ?_; conv => whnf) | (refine setB_app0 ?_; conv => whnf) | (rw [getB_app]; conv => whnf) | (rw [getB_app0]; conv => whnf) | (refine addB_f13 ?_; conv => whnf) | (refine addB_f12 ?_; conv => whnf) | (refine addB_f11 ?_; conv => whnf) | (refine addB_f10 ?_; conv => whnf) | (refine addB_f9 ?_; conv => whnf) | (refine addB_f8 ?_; conv => whnf) | (refine addB_f7 ?_; conv => whnf) | (refine addB_f6 ?_; conv => whnf) | (refine addB_f5 ?_; conv => whnf) | (refine addB_f4 ?_; conv => whnf) | (refine addB_f3 ?_; conv => whnf) | (refine addB_f2 ?_; conv => whnf) | (refine addB_f1 ?_; conv => whnf) | (refine addB_f0 ?_; conv => whnf))
    rw [← hX]
    have qP0 : getB X M.length = _ := (uX.ex.elim fun z hz => by rw [hz]; exact kP z)
    have q40 : getB X (M1.length + 4) = _ := (uX.ex.elim fun z hz => by rw [hz]; exact k4 z)
    have qP : getB X M.length = ⟨true, .cells (askL n lim j0 j1 j2 j3 Be.length Wt.length Tr.length Sp.length sky step)⟩ := qP0
    have q4 : getB X (M1.length + 4) = ⟨true, .cells [.sl M1.length 0 Be.length, .sl (M1.length + 1) 0 Be.length, .raw (.slice none 0 0), .sl (M1.length + 2) 0 mm, .int .i64 0, I 0]⟩ := q40
    refine loop_to (fun c => [.any, .ptr M.length 0, .any, .ptr (b + 1) 0, .any, I Be.length, .any, .sl M1.length 0 (Be.length + 3), .sl (M1.length + 1) 0 (Be.length + 3), .any, .any, .any, .ptr (M1.length + 4) 0, .sl (M3.length + 1) 0 mm, .any, .sl (M3.length + 3) 0 mm, .any, I c, .any, .any, .any, .any, .any, .any, .any, .any, .any, .any, .any, .any, .any, .any, .any, .any, .any, .any, .any, .any, .any, .any, .any, .any, .any, .any, .any, .any, .any, .any, .any, .any, .any, .any, .any, .any, .any, .any, .any, .any, .any, .any, .any, .any, .any, .any, .any, .any, .any, .any, .any, .any, .any, .any, .any, .any, .any, .any, .any, .any, .any, .any, .any, .any, .any, .any, .any, .any, .any, .any, .any, .any, .any, .any, .any, .any, .any, .any, .any, .any, .any, .any, .any, .any, .any, .any, .any, .any, .any, .any, .any, .any, .any, .any, .any, .any, .any, .any, .any, .any, .any, .any, .any, .any, .any, .any, .any, .any, .any, .any, .any, .any, .any, .any, .any, .any, .any, .any, .any, .any, .any, .any, .any, .any, .any, .any, .any, .any, .any, .any, .any, .any, .any, .any, .any, .any, .any, .any, .any, .any, .any, .any, .any, .any, .any, .any, .any, .any, .any, .any, .any, .any, .any, .any, .any, .any, .any, .any, .any, .any, .any, .any, .any, .any, .any, .any, .any, .any, .any, .any, .any, .any, .any, .any, .any, .any, .any, .any, .any, .any, .any, .any, .any, .any, .any, .any, .any, .any, .any, .any, .any, .any, .any, .any, .any, .any, .any, .any, .any, .any, .any, .any, .any, .any, .any, .any, .any, .any]) (fun _ => X) 0 (Be.length + 3) (Nat.zero_le _) ?_ ?_ ?_
    · refine Fg.of [] ?_ (by rw [List.append_nil]) (by simp) (by (simp [scL, V.sc]) <;> omega) scX
      conv => whnf
      exact ⟨rfl, rfl, rfl, rfl, rfl, rfl, rfl, rfl, rfl, rfl⟩
    · intro c _ hc
      have sB := gB c hc
      have sW := gW c hc
      have rBl : ∀ {off : Nat} {K : V → Prop}, off = 0 + c * 1 → K (F (Bl.getD c 0)) → rd1 (getB X M1.length).b off K := fun {off K} e h => SlF.at (aB.up uX) (i := c) (by omega) e h
      have rWl : ∀ {off : Nat} {K : V → Prop}, off = 0 + c * 1 → K (.int .i64 (Wl.getD c 0)) → rd1 (getB X (M1.length + 1)).b off K := fun {off K} e h => SlI.at (aW.up uX) (i := c) (by omega) e h
      rw [sB] at rBl
      rw [sW] at rWl
      by_cases hcn : c < Be.length
      · rw [if_pos hcn] at rBl rWl
        (conv => whnf); repeat (first | (rw [wrn]; conv => whnf) | (rw [qP]; conv => whnf) | (refine rBl rfl ?_; conv => whnf) | (refine rWl rfl ?_; conv => whnf) | (refine SlF.at ((S3.up uX).s0) (i := c) hcn rfl ?_; conv => whnf) | (refine SlI.at ((S3.up uX).s1) (i := c) (by omega) rfl ?_; conv => whnf) | (refine ⟨_, _, same_eq _ _, ?_⟩; conv => whnf) | (refine ⟨_, same_eq _ _, ?_⟩; conv => whnf) | (refine br_no (bo_eqn rfl) ?_; conv => whnf) | (refine br_d (by omega) ?_; conv => whnf) | (refine br_nd (by omega) ?_; conv => whnf) | (refine br_eq (by omega) ?_; conv => whnf) | (refine br_neq (by omega) ?_; conv => whnf) | (refine br_ne (by omega) ?_; conv => whnf) | (refine br_no (bo_eqn (by omega)) ?_; conv => whnf) | (refine Or.inl ?_; conv => whnf) | (refine okS_no (by kernel_rfl) ?_; conv => whnf) | (refine okS_yes (by kernel_rfl) ?_; conv => whnf) | (refine And_of (by (conv => whnf); (rw [getB_app0]); (conv => whnf)) ?_; conv => whnf) | (refine setB_app ?_; conv => whnf) | (refine setB_app0 ?_; conv => whnf) | (rw [getB_app]; conv => whnf) | (rw [getB_app0]; conv => whnf) | (refine addB_f13 ?_; conv => whnf) | (refine addB_f12 ?_; conv => whnf) | (refine addB_f11 ?_; conv => whnf) | (refine addB_f10 ?_; conv => whnf) | (refine addB_f9 ?_; conv => whnf) | (refine addB_f8 ?_; conv => whnf) | (refine addB_f7 ?_; conv => whnf) | (refine addB_f6 ?_; conv => whnf) | (refine addB_f5 ?_; conv => whnf) | (refine addB_f4 ?_; conv => whnf) | (refine addB_f3 ?_; conv => whnf) | (refine addB_f2 ?_; conv => whnf) | (refine addB_f1 ?_; conv => whnf) | (refine addB_f0 ?_; conv => whnf))
        refine Fg.of [] ?_ (by rw [List.append_nil]) (by simp) (by (simp [scL, V.sc]) <;> omega) scX
        conv => whnf
        exact ⟨rfl, rfl, rfl, rfl, rfl, rfl, rfl, rfl, wrapKL (by omega), rfl⟩
      · rw [if_neg hcn] at rBl rWl
        (conv => whnf); repeat (first | (rw [wrn]; conv => whnf) | (rw [qP]; conv => whnf) | (refine rBl rfl ?_; conv => whnf) | (refine rWl rfl ?_; conv => whnf) | (refine br_no n7 ?_; conv => whnf) | (refine br_d (by omega) ?_; conv => whnf) | (refine br_nd (by omega) ?_; conv => whnf) | (refine br_eq (by omega) ?_; conv => whnf) | (refine br_neq (by omega) ?_; conv => whnf) | (refine br_ne (by omega) ?_; conv => whnf) | (refine br_no (bo_eqn (by omega)) ?_; conv => whnf) | (refine Or.inl ?_; conv => whnf) | (refine okS_no (by kernel_rfl) ?_; conv => whnf) | (refine okS_yes (by kernel_rfl) ?_; conv => whnf) | (refine And_of (by (conv => whnf); (rw [getB_app0]); (conv => whnf)) ?_; conv => whnf) | (refine setB_app ?_; conv => whnf) | (refine setB_app0 ?_; conv => whnf) | (rw [getB_app]; conv => whnf) | (rw [getB_app0]; conv => whnf) | (refine addB_f13 ?_; conv => whnf) | (refine addB_f12 ?_; conv => whnf) | (refine addB_f11 ?_; conv => whnf) | (refine addB_f10 ?_; conv => whnf) | (refine addB_f9 ?_; conv => whnf) | (refine addB_f8 ?_; conv => whnf) | (refine addB_f7 ?_; conv => whnf) | (refine addB_f6 ?_; conv => whnf) | (refine addB_f5 ?_; conv => whnf) | (refine addB_f4 ?_; conv => whnf) | (refine addB_f3 ?_; conv => whnf) | (refine addB_f2 ?_; conv => whnf) | (refine addB_f1 ?_; conv => whnf) | (refine addB_f0 ?_; conv => whnf))
        refine Fg.of [] ?_ (by rw [List.append_nil]) (by simp) (by (simp [scL, V.sc]) <;> omega) scX
        conv => whnf
        exact ⟨rfl, rfl, rfl, rfl, rfl, rfl, rfl, rfl, wrapKL (by omega), rfl⟩
    ·
      (conv => whnf); repeat (first | (rw [wrn]; conv => whnf) | (refine br_d (by omega) ?_; conv => whnf) | (refine br_nd (by omega) ?_; conv => whnf) | (refine br_eq (by omega) ?_; conv => whnf) | (refine br_neq (by omega) ?_; conv => whnf) | (refine br_ne (by omega) ?_; conv => whnf) | (refine br_no (bo_eqn (by omega)) ?_; conv => whnf) | (refine Or.inl ?_; conv => whnf) | (refine okS_no (by kernel_rfl) ?_; conv => whnf) | (refine okS_yes (by kernel_rfl) ?_; conv => whnf) | (refine And_of (by (conv => whnf); (rw [getB_app0]); (conv => whnf)) ?_; conv => whnf) | (refine setB_app ?_; conv => whnf) | (refine setB_app0 ?_; conv => whnf) | (rw [getB_app]; conv => whnf) | (rw [getB_app0]; conv => whnf) | (refine addB_f13 ?_; conv => whnf) | (refine addB_f12 ?_; conv => whnf) | (refine addB_f11 ?_; conv => whnf) | (refine addB_f10 ?_; conv => whnf) | (refine addB_f9 ?_; conv => whnf) | (refine addB_f8 ?_; conv => whnf) | (refine addB_f7 ?_; conv => whnf) | (refine addB_f6 ?_; conv => whnf) | (refine addB_f5 ?_; conv => whnf) | (refine addB_f4 ?_; conv => whnf) | (refine addB_f3 ?_; conv => whnf) | (refine addB_f2 ?_; conv => whnf) | (refine addB_f1 ?_; conv => whnf) | (refine addB_f0 ?_; conv => whnf))
      rw [hX]
      have hsx : ∀ (A : List Nat), scM (M3 ++ ([dpB M1.length (M1.length + 1) (M1.length + 2) Be.length Be.length mm 0 0, ⟨true, .flts A⟩, dpB M1.length (M1.length + 1) (M1.length + 2) Be.length Be.length mm 0 0, ⟨true, .flts T⟩] : List Blk)).length (M3 ++ ([dpB M1.length (M1.length + 1) (M1.length + 2) Be.length Be.length mm 0 0, ⟨true, .flts A⟩, dpB M1.length (M1.length + 1) (M1.length + 2) Be.length Be.length mm 0 0, ⟨true, .flts T⟩] : List Blk)) = true := fun A => scM_app (scM_mono (by simp) _ sc3) (by simp [scM, B.sc, scL, V.sc]; omega)
      refine loop_to (fun c => [.any, .ptr M.length 0, .any, .ptr (b + 1) 0, .any, .any, .any, .any, .any, .any, .any, .any, .ptr (M1.length + 4) 0, .sl (M3.length + 1) 0 mm, .any, .sl (M3.length + 3) 0 mm, .any, .any, I c, .any, .any, .any, .any, .any, .any, .any, .any, .any, .any, .any, .any, .any, .any, .any, .any, .any, .any, .any, .any, .any, .any, .any, .any, .any, .any, .any, .any, .any, .any, .any, .any, .any, .any, .any, .any, .any, .any, .any, .any, .any, .any, .any, .any, .any, .any, .any, .any, .any, .any, .any, .any, .any, .any, .any, .any, .any, .any, .any, .any, .any, .any, .any, .any, .any, .any, .any, .any, .any, .any, .any, .any, .any, .any, .any, .any, .any, .any, .any, .any, .any, .any, .any, .any, .any, .any, .any, .any, .any, .any, .any, .any, .any, .any, .any, .any, .any, .any, .any, .any, .any, .any, .any, .any, .any, .any, .any, .any, .any, .any, .any, .any, .any, .any, .any, .any, .any, .any, .any, .any, .any, .any, .any, .any, .any, .any, .any, .any, .any, .any, .any, .any, .any, .any, .any, .any, .any, .any, .any, .any, .any, .any, .any, .any, .any, .any, .any, .any, .any, .any, .any, .any, .any, .any, .any, .any, .any, .any, .any, .any, .any, .any, .any, .any, .any, .any, .any, .any, .any, .any, .any, .any, .any, .any, .any, .any, .any, .any, .any, .any, .any, .any, .any, .any, .any, .any, .any, .any, .any, .any, .any, .any, .any, .any, .any, .any, .any, .any, .any, .any, .any, .any, .any, .any, .any, .any, .any]) (fun c => M3 ++ ([dpB M1.length (M1.length + 1) (M1.length + 2) Be.length Be.length mm 0 0, ⟨true, .flts (updT 0 T (fun _ => true) (fun _ => w99) c)⟩, dpB M1.length (M1.length + 1) (M1.length + 2) Be.length Be.length mm 0 0, ⟨true, .flts T⟩] : List Blk)) 0 mm (Nat.zero_le _) ?_ ?_ ?_
      · refine Fg.of [] ?_ (by rw [List.append_nil, upd_0]; try rfl) (by simp) (by (simp [scL, V.sc]) <;> omega) (hsx _)
        conv => whnf
        exact ⟨rfl, rfl, rfl, rfl, rfl, rfl, rfl⟩
      · intro c _ hc
        have eS : (updT 0 T (fun _ => true) (fun _ => w99) c).set (0 + c * 1) w99 = updT 0 T (fun _ => true) (fun _ => w99) (c + 1) := by rw [show 0 + c * 1 = c by omega]; exact upd_set (G := fun _ => w99) rfl
        have bl : Nat.blt (0 + c * 1) (updT 0 T (fun _ => true) (fun _ => w99) c).length = true := by rw [upd_len]; simp; omega
        (conv => whnf); repeat (first | (refine br_yes bl ?_; conv => whnf) | (refine put_at (blkF eS) ?_; conv => whnf) | (refine br_d (by omega) ?_; conv => whnf) | (refine br_nd (by omega) ?_; conv => whnf) | (refine br_eq (by omega) ?_; conv => whnf) | (refine br_neq (by omega) ?_; conv => whnf) | (refine br_ne (by omega) ?_; conv => whnf) | (refine br_no (bo_eqn (by omega)) ?_; conv => whnf) | (refine Or.inl ?_; conv => whnf) | (refine okS_no (by kernel_rfl) ?_; conv => whnf) | (refine okS_yes (by kernel_rfl) ?_; conv => whnf) | (refine And_of (by (conv => whnf); (rw [getB_app0]); (conv => whnf)) ?_; conv => whnf) | (refine setB_app ?_; conv => whnf) | (refine setB_app0 ?_; conv => whnf) | (rw [getB_app]; conv => whnf) | (rw [getB_app0]; conv => whnf) | (refine addB_f13 ?_; conv => whnf) | (refine addB_f12 ?_; conv => whnf) | (refine addB_f11 ?_; conv => whnf) | (refine addB_f10 ?_; conv => whnf) | (refine addB_f9 ?_; conv => whnf) | (refine addB_f8 ?_; conv => whnf) | (refine addB_f7 ?_; conv => whnf) | (refine addB_f6 ?_; conv => whnf) | (refine addB_f5 ?_; conv => whnf) | (refine addB_f4 ?_; conv => whnf) | (refine addB_f3 ?_; conv => whnf) | (refine addB_f2 ?_; conv => whnf) | (refine addB_f1 ?_; conv => whnf) | (refine addB_f0 ?_; conv => whnf))
        refine Fg.of [] ?_ (by rw [List.append_nil]; try rfl) (by simp) (by (simp [scL, V.sc]) <;> omega) (hsx _)
        conv => whnf
        exact ⟨rfl, rfl, rfl, rfl, rfl, wrapKL (by omega), rfl⟩
      · (conv => whnf); repeat (first | (refine br_d (by omega) ?_; conv => whnf) | (refine br_nd (by omega) ?_; conv => whnf) | (refine br_eq (by omega) ?_; conv => whnf) | (refine br_neq (by omega) ?_; conv => whnf) | (refine br_ne (by omega) ?_; conv => whnf) | (refine br_no (bo_eqn (by omega)) ?_; conv => whnf) | (refine Or.inl ?_; conv => whnf) | (refine okS_no (by kernel_rfl) ?_; conv => whnf) | (refine okS_yes (by kernel_rfl) ?_; conv => whnf) | (refine And_of (by (conv => whnf); (rw [getB_app0]); (conv => whnf)) ?_; conv => whnf) | (refine setB_app ?_; conv => whnf) | (refine setB_app0 ?_; conv => whnf) | (rw [getB_app]; conv => whnf) | (rw [getB_app0]; conv => whnf) | (refine addB_f13 ?_; conv => whnf) | (refine addB_f12 ?_; conv => whnf) | (refine addB_f11 ?_; conv => whnf) | (refine addB_f10 ?_; conv => whnf) | (refine addB_f9 ?_; conv => whnf) | (refine addB_f8 ?_; conv => whnf) | (refine addB_f7 ?_; conv => whnf) | (refine addB_f6 ?_; conv => whnf) | (refine addB_f5 ?_; conv => whnf) | (refine addB_f4 ?_; conv => whnf) | (refine addB_f3 ?_; conv => whnf) | (refine addB_f2 ?_; conv => whnf) | (refine addB_f1 ?_; conv => whnf) | (refine addB_f0 ?_; conv => whnf))
        generalize updT 0 T (fun _ => true) (fun _ => w99) mm = A
        obtain ⟨Y, hY⟩ : ∃ Y, Y = M3 ++ ([dpB M1.length (M1.length + 1) (M1.length + 2) Be.length Be.length mm 0 0, ⟨true, .flts A⟩, dpB M1.length (M1.length + 1) (M1.length + 2) Be.length Be.length mm 0 0, ⟨true, .flts T⟩] : List Blk) := ⟨_, rfl⟩
        have scY : scM Y.length Y = true := by rw [hY]; exact hsx A
        have uY : Up M3 Y := ⟨⟨_, hY⟩, scY⟩
        have lY : Y.length = M3.length + 4 := by rw [hY]; simp
        have yP : getB Y M.length = ⟨true, .cells (askL n lim j0 j1 j2 j3 Be.length Wt.length Tr.length Sp.length sky step)⟩ := by rw [hY]; exact kP _
        have y4 : getB Y (M1.length + 4) = ⟨true, .cells [.sl M1.length 0 Be.length, .sl (M1.length + 1) 0 Be.length, .raw (.slice none 0 0), .sl (M1.length + 2) 0 mm, .int .i64 0, I 0]⟩ := by rw [hY]; exact k4 _
        have yB : SlF Y (M3.length + 3) 0 T := by rw [hY]; exact SlF.flts (getB_app 3) (fun i hi => ⟨by omega, by rw [Nat.zero_add]⟩) (fun i hi => tw i (by omega)) (by omega)
        have u7 : Up Y (Y ++ ([dpB M1.length (M1.length + 1) (M1.length + 2) Be.length Be.length mm 0 0, ⟨true, .flts T⟩] : List Blk)) := Up.of scY (by simp [scM, B.sc, scL, V.sc]; omega)
        have yC : SlF (Y ++ ([dpB M1.length (M1.length + 1) (M1.length + 2) Be.length Be.length mm 0 0, ⟨true, .flts T⟩] : List Blk)) (Y.length + 1) 0 T := SlF.flts (getB_app 1) (fun i hi => ⟨by omega, by rw [Nat.zero_add]⟩) (fun i hi => tw i (by omega)) (by omega)
        have h1 := rawAll_eq u7.sc yC (yB.up u7)
        rw [tl] at h1
        rw [← hY]
        (conv => whnf); repeat (first | (rw [yP]; conv => whnf) | (rw [y4]; conv => whnf) | (refine ⟨_, _, dn uY, ?_⟩; conv => whnf) | (refine ⟨_, dn uY, ?_⟩; conv => whnf) | (refine ⟨_, _, h1, ?_⟩; conv => whnf) | (refine ⟨_, h1, ?_⟩; conv => whnf) | (refine br_d (by omega) ?_; conv => whnf) | (refine br_nd (by omega) ?_; conv => whnf) | (refine br_eq (by omega) ?_; conv => whnf) | (refine br_neq (by omega) ?_; conv => whnf) | (refine br_ne (by omega) ?_; conv => whnf) | (refine br_no (bo_eqn (by omega)) ?_; conv => whnf) | (refine Or.inl ?_; conv => whnf) | (refine okS_no (by kernel_rfl) ?_; conv => whnf) | (refine okS_yes (by kernel_rfl) ?_; conv => whnf) | (refine And_of (by (conv => whnf); (rw [getB_app0]); (conv => whnf)) ?_; conv => whnf) | (refine setB_app ?_; conv => whnf) | (refine setB_app0 ?_; conv => whnf) | (rw [getB_app]; conv => whnf) | (rw [getB_app0]; conv => whnf) | (refine addB_f13 ?_; conv => whnf) | (refine addB_f12 ?_; conv => whnf) | (refine addB_f11 ?_; conv => whnf) | (refine addB_f10 ?_; conv => whnf) | (refine addB_f9 ?_; conv => whnf) | (refine addB_f8 ?_; conv => whnf) | (refine addB_f7 ?_; conv => whnf) | (refine addB_f6 ?_; conv => whnf) | (refine addB_f5 ?_; conv => whnf) | (refine addB_f4 ?_; conv => whnf) | (refine addB_f3 ?_; conv => whnf) | (refine addB_f2 ?_; conv => whnf) | (refine addB_f1 ?_; conv => whnf) | (refine addB_f0 ?_; conv => whnf))
        exact ⟨rfl, (((u0.trans u1).trans u3).trans (uY.trans u7)).ex⟩
end Go.Proofs.YtemaeembndobaaaGreatDoor
