/- The small lake of layer 13's statements, and a copied sea. No condition. -/
import Derived.Test.YtemaeembndobaaaGreatDoorFc
namespace Go.Proofs.YtemaeembndobaaaGreatDoor
open Go Go.Eng
set_option maxRecDepth 100000
set_option linter.unusedSimpArgs false
set_option linter.unusedVariables false

abbrev ar1 : Int := 1431655765
abbrev gp1 : Nat := 4609047870845172685
theorem area1 : ∀ c, c < 6 → areaC 1 c = ar1 := by decide +kernel
theorem gap1 : ∀ x ∈ edges 1, gpE 1 x = gp1 := by decide +kernel
abbrev lakeW : List Int := [ar1, 2 * ar1, ar1, ar1, ar1, ar1]
abbrev lakeB : List Nat := List.replicate 6 0
abbrev lakeT : List Int := List.replicate 6 0
abbrev lakeS : List Nat := List.replicate 12 0
set_option maxHeartbeats 0 in
theorem lake13_ok {M : List Blk} (hsc : scM M.length M = true) {b : Nat} (N : Net M b 1) : COk Tryz.prog 3 48 [.ptr (b + 1) 0] M (seaV (M.length + 1) (M.length + 2) (M.length + 3) (M.length + 4) 6 6 6 12 0 0)
    (M ++ [⟨true, .cells [.sl (M.length + 1) 0 6, .sl (M.length + 2) 0 6, .sl (M.length + 3) 0 6, .sl (M.length + 4) 0 12, .int .i64 0, I 0]⟩, ⟨true, .flts lakeB⟩, ⟨true, .ints .i64 lakeW⟩, ⟨true, .ints .i64 lakeT⟩, ⟨true, .flts lakeS⟩, ⟨true, .cells [.sl (M.length + 1) 0 6, .sl (M.length + 2) 0 6, .sl (M.length + 3) 0 6, .sl (M.length + 4) 0 12, .int .i64 0, I 0]⟩]) := by
  have hA : ∀ x c, c < 6 → COk Tryz.prog 3 30 [.ptr (b + 1) 0, I (c : Nat)] (M ++ x) (I ar1) (M ++ x) := fun x c hc => by
    have := area_ok (N.more x) c (by omega)
    rwa [area1 c hc] at this
  have h6 : ∀ x, COk Tryz.prog 3 41 [.ptr (b + 1) 0] (M ++ x) (I 6) (M ++ x) := fun x => gcells_ok (N.more x)
  have h12 : ∀ x, COk Tryz.prog 3 42 [.ptr (b + 1) 0] (M ++ x) (I 12) (M ++ x) := fun x => by
    have := gedges_ok (N.more x)
    rwa [len1] at this
  refine COk_of_ev Tryz.f48 Tryz.func48 (by kernel_rfl) (by simp) (by simp [V.sc, scL]) (.inr (scM_app (scM_mono (by simp) _ hsc) (by simp [scM, B.sc, scL, V.sc]))) ?_
  (conv => whnf); repeat (first | (refine ⟨_, _, h6 _, ?_⟩; conv => whnf) | (refine ⟨_, h6 _, ?_⟩; conv => whnf) | (refine ⟨_, _, h12 _, ?_⟩; conv => whnf) | (refine ⟨_, h12 _, ?_⟩; conv => whnf) | (refine br_d (by omega) ?_; conv => whnf) | (refine br_nd (by omega) ?_; conv => whnf) | (refine br_eq (by omega) ?_; conv => whnf) | (refine br_neq (by omega) ?_; conv => whnf) | (refine br_ne (by omega) ?_; conv => whnf) | (refine br_no (bo_eqn (by omega)) ?_; conv => whnf) | (refine Or.inl ?_; conv => whnf) | (refine okS_no (by kernel_rfl) ?_; conv => whnf) | (refine okS_yes (by kernel_rfl) ?_; conv => whnf) | (refine And_of (by (conv => whnf); (rw [getB_app0]); (conv => whnf)) ?_; conv => whnf) | (refine setB_app ?_; conv => whnf) | (refine setB_app0 ?_; conv => whnf) | (rw [getB_app]; conv => whnf) | (rw [getB_app0]; conv => whnf) | (refine addB_f13 ?_; conv => whnf) | (refine addB_f12 ?_; conv => whnf) | (refine addB_f11 ?_; conv => whnf) | (refine addB_f10 ?_; conv => whnf) | (refine addB_f9 ?_; conv => whnf) | (refine addB_f8 ?_; conv => whnf) | (refine addB_f7 ?_; conv => whnf) | (refine addB_f6 ?_; conv => whnf) | (refine addB_f5 ?_; conv => whnf) | (refine addB_f4 ?_; conv => whnf) | (refine addB_f3 ?_; conv => whnf) | (refine addB_f2 ?_; conv => whnf) | (refine addB_f1 ?_; conv => whnf) | (refine addB_f0 ?_; conv => whnf))
  iterate 6
    refine lr ?_
    (conv => whnf); repeat (first | (refine ⟨_, _, hA _ 0 (by decide), ?_⟩; conv => whnf) | (refine ⟨_, hA _ 0 (by decide), ?_⟩; conv => whnf) | (refine ⟨_, _, hA _ 1 (by decide), ?_⟩; conv => whnf) | (refine ⟨_, hA _ 1 (by decide), ?_⟩; conv => whnf) | (refine ⟨_, _, hA _ 2 (by decide), ?_⟩; conv => whnf) | (refine ⟨_, hA _ 2 (by decide), ?_⟩; conv => whnf) | (refine ⟨_, _, hA _ 3 (by decide), ?_⟩; conv => whnf) | (refine ⟨_, hA _ 3 (by decide), ?_⟩; conv => whnf) | (refine ⟨_, _, hA _ 4 (by decide), ?_⟩; conv => whnf) | (refine ⟨_, hA _ 4 (by decide), ?_⟩; conv => whnf) | (refine ⟨_, _, hA _ 5 (by decide), ?_⟩; conv => whnf) | (refine ⟨_, hA _ 5 (by decide), ?_⟩; conv => whnf) | (refine br_d (by omega) ?_; conv => whnf) | (refine br_nd (by omega) ?_; conv => whnf) | (refine br_eq (by omega) ?_; conv => whnf) | (refine br_neq (by omega) ?_; conv => whnf) | (refine br_ne (by omega) ?_; conv => whnf) | (refine br_no (bo_eqn (by omega)) ?_; conv => whnf) | (refine Or.inl ?_; conv => whnf) | (refine okS_no (by kernel_rfl) ?_; conv => whnf) | (refine okS_yes (by kernel_rfl) ?_; conv => whnf) | (refine And_of (by (conv => whnf); (rw [getB_app0]); (conv => whnf)) ?_; conv => whnf) | (refine setB_app ?_; conv => whnf) | (refine setB_app0 ?_; conv => whnf) | (rw [getB_app]; conv => whnf) | (rw [getB_app0]; conv => whnf) | (refine addB_f13 ?_; conv => whnf) | (refine addB_f12 ?_; conv => whnf) | (refine addB_f11 ?_; conv => whnf) | (refine addB_f10 ?_; conv => whnf) | (refine addB_f9 ?_; conv => whnf) | (refine addB_f8 ?_; conv => whnf) | (refine addB_f7 ?_; conv => whnf) | (refine addB_f6 ?_; conv => whnf) | (refine addB_f5 ?_; conv => whnf) | (refine addB_f4 ?_; conv => whnf) | (refine addB_f3 ?_; conv => whnf) | (refine addB_f2 ?_; conv => whnf) | (refine addB_f1 ?_; conv => whnf) | (refine addB_f0 ?_; conv => whnf))
  refine lr ?_
  (conv => whnf); repeat (first | (refine br_d (by omega) ?_; conv => whnf) | (refine br_nd (by omega) ?_; conv => whnf) | (refine br_eq (by omega) ?_; conv => whnf) | (refine br_neq (by omega) ?_; conv => whnf) | (refine br_ne (by omega) ?_; conv => whnf) | (refine br_no (bo_eqn (by omega)) ?_; conv => whnf) | (refine Or.inl ?_; conv => whnf) | (refine okS_no (by kernel_rfl) ?_; conv => whnf) | (refine okS_yes (by kernel_rfl) ?_; conv => whnf) | (refine And_of (by (conv => whnf); (rw [getB_app0]); (conv => whnf)) ?_; conv => whnf) | (refine setB_app ?_; conv => whnf) | (refine setB_app0 ?_; conv => whnf) | (rw [getB_app]; conv => whnf) | (rw [getB_app0]; conv => whnf) | (refine addB_f13 ?_; conv => whnf) | (refine addB_f12 ?_; conv => whnf) | (refine addB_f11 ?_; conv => whnf) | (refine addB_f10 ?_; conv => whnf) | (refine addB_f9 ?_; conv => whnf) | (refine addB_f8 ?_; conv => whnf) | (refine addB_f7 ?_; conv => whnf) | (refine addB_f6 ?_; conv => whnf) | (refine addB_f5 ?_; conv => whnf) | (refine addB_f4 ?_; conv => whnf) | (refine addB_f3 ?_; conv => whnf) | (refine addB_f2 ?_; conv => whnf) | (refine addB_f1 ?_; conv => whnf) | (refine addB_f0 ?_; conv => whnf))
  exact ⟨rfl, [], by rw [List.append_nil]; rfl⟩
theorem seg_le (k : Nat) : Nat.ble (0 + k * 1) k = true := by simp
theorem ble_9 (k : Nat) : Nat.ble (0 + k) (k + 9) = true := by simp
theorem paste_1 {α : Type} (l : List α) (z : α) : Nat.ble (0 + 0 * 1 + ((l.drop 0).take (l.length * 1)).length) (List.replicate ((l.length + 9) * 1) z).length = true := by simp
theorem paste_2 {α : Type} (l : List α) (z : α) : Nat.ble (0 + (0 + l.length) * 1 + 1) (l ++ List.replicate 9 z).length = true := by simp
theorem cp_1 {α : Type} (l : List α) (z : α) : (List.replicate ((l.length + 9) * 1) z).take (0 + 0 * 1) ++ (l.drop 0).take (l.length * 1) ++ (List.replicate ((l.length + 9) * 1) z).drop (0 + 0 * 1 + ((l.drop 0).take (l.length * 1)).length) = l ++ List.replicate 9 z := by
  simp
theorem cp_2 {α : Type} (l : List α) (z y : α) : (l ++ List.replicate 9 z).take (0 + (0 + l.length) * 1) ++ [y] ++ (l ++ List.replicate 9 z).drop (0 + (0 + l.length) * 1 + [y].length) = l ++ y :: List.replicate 8 z := by
  simp [List.drop_append]
theorem ble_10 (k : Nat) : Nat.ble (0 + k + 1) (k + 9) = true := by simp
theorem app_le1 (n : Nat) (h : n ≤ 65536) : (0 + n + 1) * 8 ≤ 140737488355328 := by omega
theorem app_le (n : Nat) (h : n ≤ 65536) : (0 + n) * 8 ≤ 140737488355328 := by omega
abbrev w77 : Nat := 4635118810238550016
/-- A copied list, and what stands behind it. -/
def cpF (l : List Nat) : List Nat := l ++ w77 :: List.replicate 8 0
def cpI (l : List Int) : List Int := l ++ 77 :: List.replicate 8 0
abbrev copV (k a b c d : Nat) (sky step : Int) : V := .agg [.sk k 0 a (a + 9), .sk (k + 4) 0 b (b + 9), .sk (k + 6) 0 c (c + 9), .sk (k + 2) 0 d (d + 9), .int .i64 sky, I step]
set_option maxHeartbeats 0 in
theorem copied13_ok {M : List Blk} (hsc : scM M.length M = true) {w : Bool} {j0 j1 j2 j3 : Nat} {Be : List Nat} {Wt Tr : List Int} {Sp : List Nat} (S : SeaB M w j0 j1 j2 j3 Be Wt Tr Sp) (h0 : Be.length ≤ 65536) (h1 : Wt.length ≤ 65536) (h2 : Tr.length ≤ 65536) (h3 : Sp.length ≤ 65536) (sky step : Int) :
    COk Tryz.prog 3 21 [seaV j0 j1 j2 j3 Be.length Wt.length Tr.length Sp.length sky step] M (copV (M.length + 3) Be.length Wt.length Tr.length Sp.length sky step)
    (M ++ [⟨true, .cells [.sl j0 0 Be.length, .sl j1 0 Wt.length, .sl j2 0 Tr.length, .sl j3 0 Sp.length, .int .i64 sky, I step]⟩, ⟨true, .cells [.sk (M.length + 3) 0 Be.length (Be.length + 9), .sk (M.length + 7) 0 Wt.length (Wt.length + 9), .sk (M.length + 9) 0 Tr.length (Tr.length + 9), .sk (M.length + 5) 0 Sp.length (Sp.length + 9), .int .i64 sky, I step]⟩, ⟨true, .cells [.sk (M.length + 3) 0 Be.length (Be.length + 9), .sk (M.length + 7) 0 Wt.length (Wt.length + 9), .sk (M.length + 9) 0 Tr.length (Tr.length + 9), .sk (M.length + 5) 0 Sp.length (Sp.length + 9), .int .i64 sky, I step]⟩,
      ⟨true, .flts (cpF Be)⟩, ⟨true, .cells [F w77]⟩, ⟨true, .flts (cpF Sp)⟩, ⟨true, .cells [F w77]⟩, ⟨true, .ints .i64 (cpI Wt)⟩, ⟨true, .cells [.int .i64 77]⟩, ⟨true, .ints .i64 (cpI Tr)⟩, ⟨true, .cells [.int .i64 77]⟩]) := by
  have l0 := S.read.s0.lt
  have l1 := S.read.s1.lt
  have l2 := S.read.s2.lt
  have l3 := S.read.s3.lt
  have b0 : ∀ x, getB (M ++ x) j0 = ⟨w, .flts Be⟩ := fun x => getB_in S.b0 rfl
  have b1 : ∀ x, getB (M ++ x) j1 = ⟨w, .ints .i64 Wt⟩ := fun x => getB_in S.b1 rfl
  have b2 : ∀ x, getB (M ++ x) j2 = ⟨w, .ints .i64 Tr⟩ := fun x => getB_in S.b2 rfl
  have b3 : ∀ x, getB (M ++ x) j3 = ⟨w, .flts Sp⟩ := fun x => getB_in S.b3 rfl
  refine COk_of_ev Tryz.f21 Tryz.func21 (by kernel_rfl) (by simp) (by simp [V.sc, scL]) (.inr (scM_app (scM_mono (by simp) _ hsc) (by simp [scM, B.sc, scL, V.sc, cpF, cpI]; omega))) ?_
  have wr : ∀ k : Nat, k ≤ 65536 → IntKind.i64.wrap ((k : Int) + 9) = ((k + 9 : Nat) : Int) := fun k hk => by rw [wrap_id (by omega) (by omega)]; rfl
  have wr0 := wr _ h0
  have wr1 := wr _ h1
  have wr2 := wr _ h2
  have wr3 := wr _ h3
  have wn : ∀ k : Nat, k ≤ 65536 → (IntKind.i64.wrap ((k : Int) + 9)).toNat = k + 9 := fun k hk => by rw [wr k hk]; omega
  have wn0 := wn _ h0
  have wn1 := wn _ h1
  have wn2 := wn _ h2
  have wn3 := wn _ h3
  (conv => whnf); repeat (first | (rw [wn0]; conv => whnf) | (rw [wn1]; conv => whnf) | (rw [wn2]; conv => whnf) | (rw [wn3]; conv => whnf) | (refine br_d ⟨by omega, by omega, by omega, (by show (8 : Int) * _ ≤ 2 ^ 48; omega)⟩ ?_; conv => whnf) | (rw [b0]; conv => whnf) | (rw [b1]; conv => whnf) | (rw [b2]; conv => whnf) | (rw [b3]; conv => whnf) | (refine br_yes (seg_le _) ?_; conv => whnf) | (refine And_of (app_le _ h0) ?_; conv => whnf) | (refine And_of (app_le _ h1) ?_; conv => whnf) | (refine And_of (app_le _ h2) ?_; conv => whnf) | (refine And_of (app_le _ h3) ?_; conv => whnf) | (refine And_of (app_le1 _ h0) ?_; conv => whnf) | (refine And_of (app_le1 _ h1) ?_; conv => whnf) | (refine And_of (app_le1 _ h2) ?_; conv => whnf) | (refine And_of (app_le1 _ h3) ?_; conv => whnf) | (refine br_yes (ble_9 _) ?_; conv => whnf) | (refine br_yes (ble_10 _) ?_; conv => whnf) | (refine br_yes (paste_1 _ _) ?_; conv => whnf) | (refine put_at (blkF (cp_1 _ _)) ?_; conv => whnf) | (refine put_at (blkI (cp_1 _ _)) ?_; conv => whnf) | (refine br_yes (paste_2 _ _) ?_; conv => whnf) | (refine put_at (blkF (cp_2 _ _ _)) ?_; conv => whnf) | (refine put_at (blkI (cp_2 _ _ _)) ?_; conv => whnf) | (refine br_d (by omega) ?_; conv => whnf) | (refine br_nd (by omega) ?_; conv => whnf) | (refine br_eq (by omega) ?_; conv => whnf) | (refine br_neq (by omega) ?_; conv => whnf) | (refine br_ne (by omega) ?_; conv => whnf) | (refine br_no (bo_eqn (by omega)) ?_; conv => whnf) | (refine Or.inl ?_; conv => whnf) | (refine okS_no (by kernel_rfl) ?_; conv => whnf) | (refine okS_yes (by kernel_rfl) ?_; conv => whnf) | (refine And_of (by (conv => whnf); (rw [getB_app0]); (conv => whnf)) ?_; conv => whnf) | (refine setB_app ?_; conv => whnf) | (refine setB_app0 ?_; conv => whnf) | (rw [getB_app]; conv => whnf) | (rw [getB_app0]; conv => whnf) | (refine addB_f13 ?_; conv => whnf) | (refine addB_f12 ?_; conv => whnf) | (refine addB_f11 ?_; conv => whnf) | (refine addB_f10 ?_; conv => whnf) | (refine addB_f9 ?_; conv => whnf) | (refine addB_f8 ?_; conv => whnf) | (refine addB_f7 ?_; conv => whnf) | (refine addB_f6 ?_; conv => whnf) | (refine addB_f5 ?_; conv => whnf) | (refine addB_f4 ?_; conv => whnf) | (refine addB_f3 ?_; conv => whnf) | (refine addB_f2 ?_; conv => whnf) | (refine addB_f1 ?_; conv => whnf) | (refine addB_f0 ?_; conv => whnf))
  exact ⟨rfl, [], by rw [List.append_nil]; rfl⟩
end Go.Proofs.YtemaeembndobaaaGreatDoor
