/- Copied seas that are written and read again. No condition. -/
import Derived.Test.YtemaeembndobaaaGreatDoorLk13
namespace Go.Proofs.YtemaeembndobaaaGreatDoor
open Go Go.Eng
set_option maxRecDepth 100000
set_option linter.unusedSimpArgs false
set_option linter.unusedVariables false

theorem cpF_set {l : List Nat} {i v : Nat} (h : i < l.length) : (cpF l).set (0 + i * 1) v = cpF (l.set i v) := by
  unfold cpF
  rw [show 0 + i * 1 = i by omega, List.set_append_left _ _ h]
theorem cpI_set {l : List Int} {i : Nat} {v : Int} (h : i < l.length) : (cpI l).set (0 + i * 1) v = cpI (l.set i v) := by
  unfold cpI
  rw [show 0 + i * 1 = i by omega, List.set_append_left _ _ h]
theorem cpF_blt {l : List Nat} {i : Nat} (h : i < l.length) : Nat.blt (0 + i * 1) (cpF l).length = true := by
  simp [cpF]; omega
theorem cpI_blt {l : List Int} {i : Nat} (h : i < l.length) : Nat.blt (0 + i * 1) (cpI l).length = true := by
  simp [cpI]; omega
theorem cpF_win {l : List Nat} {i : Nat} (h : i < l.length) : 0 + i < (cpF l).length ∧ (cpF l).getD (0 + i) 0 = l.getD i 0 := by
  refine ⟨by simp [cpF]; omega, ?_⟩
  unfold cpF
  rw [Nat.zero_add, List.getD_eq_getElem?_getD, List.getElem?_append_left h, ← List.getD_eq_getElem?_getD]
theorem cpI_win {l : List Int} {i : Nat} (h : i < l.length) : 0 + i < (cpI l).length ∧ (cpI l).getD (0 + i) 0 = l.getD i 0 := by
  refine ⟨by simp [cpI]; omega, ?_⟩
  unfold cpI
  rw [Nat.zero_add, List.getD_eq_getElem?_getD, List.getElem?_append_left h, ← List.getD_eq_getElem?_getD]
theorem cop_F {M : List Blk} {j : Nat} {w : Bool} {l : List Nat} (h : getB M j = ⟨w, .flts (cpF l)⟩) (hw : ∀ i, i < l.length → inF (l.getD i 0)) (hs : l.length ≤ 65536) : SlF M j 0 l :=
  SlF.flts h (fun i hi => cpF_win hi) hw (by omega)
theorem cop_I {M : List Blk} {j : Nat} {w : Bool} {l : List Int} (h : getB M j = ⟨w, .ints .i64 (cpI l)⟩) (hw : ∀ i, i < l.length → in64 (l.getD i 0)) (hs : l.length ≤ 65536) : SlI M j 0 l :=
  SlI.ints h (fun i hi => cpI_win hi) hw (by omega)
theorem set_wf {α : Type} {d : α} {p : α → Prop} {l : List α} {j : Nat} {v : α} (h : ∀ i, i < l.length → p (l.getD i d)) (hv : p v) : ∀ i, i < (l.set j v).length → p ((l.set j v).getD i d) := by
  intro i hi
  rw [List.length_set] at hi
  rw [List.getD_eq_getElem?_getD, List.getElem?_set]
  by_cases e : j = i
  · subst e; rw [if_pos rfl, if_pos hi]; exact hv
  · rw [if_neg e, ← List.getD_eq_getElem?_getD]; exact h i hi
theorem set_at {α : Type} {d : α} {l : List α} {j : Nat} {v : α} (h : j < l.length) : (l.set j v).getD j d = v := by
  rw [List.getD_eq_getElem?_getD, List.getElem?_set, if_pos rfl, if_pos h]; rfl
theorem set_off {α : Type} {d : α} {l : List α} {i j : Nat} {v : α} (h : j ≠ i) : (l.set j v).getD i d = l.getD i d := by
  rw [List.getD_eq_getElem?_getD, List.getElem?_set, if_neg h, ← List.getD_eq_getElem?_getD]
theorem sea_sk {a b c d n0 n1 n2 n3 k0 k1 k2 k3 : Nat} {sky step : Int} (n : Nat) (g : Nat → Pl) (x : Value) : Rv n g (.agg [.sk a 0 n0 k0, .sk b 0 n1 k1, .sk c 0 n2 k2, .sk d 0 n3 k3, .int .i64 sky, I step]) x → Rv n g (seaV a b c d n0 n1 n2 n3 sky step) x :=
  Rv_agg fun _ => Rvs_cons (fun _ => Rv_sk) fun _ => Rvs_cons (fun _ => Rv_sk) fun _ => Rvs_cons (fun _ => Rv_sk) fun _ => Rvs_cons (fun _ => Rv_sk) fun _ => id
theorem sk_4 {f : FuncId} {p q x r : V} {m m' : List Blk} {a b c d n0 n1 n2 n3 k0 k1 k2 k3 : Nat} {sky step : Int} (h : COk Tryz.prog 3 f [p, q, seaV a b c d n0 n1 n2 n3 sky step, x] m r m') : COk Tryz.prog 3 f [p, q, .agg [.sk a 0 n0 k0, .sk b 0 n1 k1, .sk c 0 n2 k2, .sk d 0 n3 k3, .int .i64 sky, I step], x] m r m' :=
  COk_args (fun _ _ _ => Rvs_cons (fun _ => id) fun _ => Rvs_cons (fun _ => id) fun _ => Rvs_cons (sea_sk _ _) fun _ => id) h
theorem sk_3 {f : FuncId} {p x r : V} {m m' : List Blk} {a b c d n0 n1 n2 n3 k0 k1 k2 k3 : Nat} {sky step : Int} (h : COk Tryz.prog 3 f [p, seaV a b c d n0 n1 n2 n3 sky step, x] m r m') : COk Tryz.prog 3 f [p, .agg [.sk a 0 n0 k0, .sk b 0 n1 k1, .sk c 0 n2 k2, .sk d 0 n3 k3, .int .i64 sky, I step], x] m r m' :=
  COk_args (fun _ _ _ => Rvs_cons (fun _ => id) fun _ => Rvs_cons (sea_sk _ _) fun _ => id) h
theorem sk_3' {f : FuncId} {p q r : V} {m m' : List Blk} {a b c d n0 n1 n2 n3 k0 k1 k2 k3 : Nat} {sky step : Int} (h : COk Tryz.prog 3 f [p, q, seaV a b c d n0 n1 n2 n3 sky step] m r m') : COk Tryz.prog 3 f [p, q, .agg [.sk a 0 n0 k0, .sk b 0 n1 k1, .sk c 0 n2 k2, .sk d 0 n3 k3, .int .i64 sky, I step]] m r m' :=
  COk_args (fun _ _ _ => Rvs_cons (fun _ => id) fun _ => Rvs_cons (fun _ => id) fun _ => Rvs_cons (sea_sk _ _) fun _ => id) h
/-- The blocks of a copied sea, the first at L. -/
abbrev cpL (L j0 j1 j2 j3 n0 n1 n2 n3 : Nat) (sky step : Int) (Be : List Nat) (Wt Tr : List Int) (Sp : List Nat) : List Blk :=
  [⟨true, .cells [.sl j0 0 n0, .sl j1 0 n1, .sl j2 0 n2, .sl j3 0 n3, .int .i64 sky, I step]⟩,
   ⟨true, .cells [.sk (L + 3) 0 n0 (n0 + 9), .sk (L + 7) 0 n1 (n1 + 9), .sk (L + 9) 0 n2 (n2 + 9), .sk (L + 5) 0 n3 (n3 + 9), .int .i64 sky, I step]⟩,
   ⟨true, .cells [.sk (L + 3) 0 n0 (n0 + 9), .sk (L + 7) 0 n1 (n1 + 9), .sk (L + 9) 0 n2 (n2 + 9), .sk (L + 5) 0 n3 (n3 + 9), .int .i64 sky, I step]⟩,
   ⟨true, .flts (cpF Be)⟩, ⟨true, .cells [F w77]⟩, ⟨true, .flts (cpF Sp)⟩, ⟨true, .cells [F w77]⟩, ⟨true, .ints .i64 (cpI Wt)⟩, ⟨true, .cells [.int .i64 77]⟩, ⟨true, .ints .i64 (cpI Tr)⟩, ⟨true, .cells [.int .i64 77]⟩]
section
variable {M : List Blk} {b n : Nat} (N : Net M b n) {j0 j1 j2 j3 : Nat} (sky step : Int)
include N
theorem both_no {n0 n1 n2 n3 : Nat} (e : Int) (he : ¬ (0 ≤ e ∧ e < (edges n).length)) : COk Tryz.prog 3 69 [.ptr (b + 1) 0, seaV j0 j1 j2 j3 n0 n1 n2 n3 sky step, I e] M (.tup [noLk.v, noLk.v, Bo false]) M := by
  refine COk_quiet Tryz.f69 Tryz.func69 (by kernel_rfl) rfl ?_
  (conv => whnf); repeat (first | (refine ⟨_, _, edge_no (N.more _) e he, ?_⟩; conv => whnf) | (refine ⟨_, edge_no (N.more _) e he, ?_⟩; conv => whnf) | (refine br_d (by omega) ?_; conv => whnf) | (refine br_nd (by omega) ?_; conv => whnf) | (refine br_eq (by omega) ?_; conv => whnf) | (refine br_neq (by omega) ?_; conv => whnf) | (refine br_ne (by omega) ?_; conv => whnf) | (refine br_no (bo_eqn (by omega)) ?_; conv => whnf) | (refine Or.inl ?_; conv => whnf) | (refine okS_no (by kernel_rfl) ?_; conv => whnf) | (refine okS_yes (by kernel_rfl) ?_; conv => whnf) | (refine And_of (by (conv => whnf); (rw [getB_app0]); (conv => whnf)) ?_; conv => whnf) | (refine setB_app ?_; conv => whnf) | (refine setB_app0 ?_; conv => whnf) | (rw [getB_app]; conv => whnf) | (rw [getB_app0]; conv => whnf) | (refine addB_f13 ?_; conv => whnf) | (refine addB_f12 ?_; conv => whnf) | (refine addB_f11 ?_; conv => whnf) | (refine addB_f10 ?_; conv => whnf) | (refine addB_f9 ?_; conv => whnf) | (refine addB_f8 ?_; conv => whnf) | (refine addB_f7 ?_; conv => whnf) | (refine addB_f6 ?_; conv => whnf) | (refine addB_f5 ?_; conv => whnf) | (refine addB_f4 ?_; conv => whnf) | (refine addB_f3 ?_; conv => whnf) | (refine addB_f2 ?_; conv => whnf) | (refine addB_f1 ?_; conv => whnf) | (refine addB_f0 ?_; conv => whnf))
  exact ⟨rfl, _, rfl⟩
theorem Open_no {n0 n1 n2 n3 : Nat} (e : Int) (he : ¬ (0 ≤ e ∧ e < (edges n).length)) : COk Tryz.prog 3 34 [.ptr (b + 1) 0, seaV j0 j1 j2 j3 n0 n1 n2 n3 sky step, I e] M (Bo false) M := by
  refine COk_quiet Tryz.f34 Tryz.func34 (by kernel_rfl) rfl ?_
  (conv => whnf); repeat (first | (refine ⟨_, _, both_no (N.more _) sky step e he, ?_⟩; conv => whnf) | (refine ⟨_, both_no (N.more _) sky step e he, ?_⟩; conv => whnf) | (refine br_d (by omega) ?_; conv => whnf) | (refine br_nd (by omega) ?_; conv => whnf) | (refine br_eq (by omega) ?_; conv => whnf) | (refine br_neq (by omega) ?_; conv => whnf) | (refine br_ne (by omega) ?_; conv => whnf) | (refine br_no (bo_eqn (by omega)) ?_; conv => whnf) | (refine Or.inl ?_; conv => whnf) | (refine okS_no (by kernel_rfl) ?_; conv => whnf) | (refine okS_yes (by kernel_rfl) ?_; conv => whnf) | (refine And_of (by (conv => whnf); (rw [getB_app0]); (conv => whnf)) ?_; conv => whnf) | (refine setB_app ?_; conv => whnf) | (refine setB_app0 ?_; conv => whnf) | (rw [getB_app]; conv => whnf) | (rw [getB_app0]; conv => whnf) | (refine addB_f13 ?_; conv => whnf) | (refine addB_f12 ?_; conv => whnf) | (refine addB_f11 ?_; conv => whnf) | (refine addB_f10 ?_; conv => whnf) | (refine addB_f9 ?_; conv => whnf) | (refine addB_f8 ?_; conv => whnf) | (refine addB_f7 ?_; conv => whnf) | (refine addB_f6 ?_; conv => whnf) | (refine addB_f5 ?_; conv => whnf) | (refine addB_f4 ?_; conv => whnf) | (refine addB_f3 ?_; conv => whnf) | (refine addB_f2 ?_; conv => whnf) | (refine addB_f1 ?_; conv => whnf) | (refine addB_f0 ?_; conv => whnf))
  exact ⟨rfl, _, rfl⟩
end
end Go.Proofs.YtemaeembndobaaaGreatDoor
