/- Turns of cells by their numbers; two turns at once; lists and seas in new memory. No condition. -/
import Derived.Test.YtgoljofmbidkfaaGreatDoorSu
import Derived.Test.YtgoljofmbidkfaaGreatDoorEr
namespace Go.Proofs.YtgoljofmbidkfaaGreatDoor
open Go Go.Eng
set_option maxRecDepth 100000
set_option linter.unusedSimpArgs false
set_option linter.unusedVariables false

/-- Axes that are compared. -/
def eq9 (a b : Nat → Int) : Bool := (a 0 == b 0 && (a 1 == b 1 && (a 2 == b 2 && true))) && ((a 3 == b 3 && (a 4 == b 4 && (a 5 == b 5 && true))) && ((a 6 == b 6 && (a 7 == b 7 && (a 8 == b 8 && true))) && true))
theorem eq9_no : ∀ k, k < 24 → ∀ r, r < 24 → k ≠ r → eq9 (tx k) (tx r) = false := by decide +kernel
theorem eq9_yes (a : Nat → Int) : eq9 a a = true := by simp [eq9]
theorem aft_tx : ∀ u, u < 24 → ∀ t, t < 24 → ∀ k, k < 3 → ∀ r, r < 3 → tx u r * tx t (3 * k) + tx u (3 + r) * tx t (3 * k + 1) + tx u (6 + r) * tx t (3 * k + 2) = tx (aft u t) (3 * k + r) := by decide +kernel
abbrev nineB (a : Nat → Int) : Blk := ⟨true, .cells [I (a 0), I (a 1), I (a 2), I (a 3), I (a 4), I (a 5), I (a 6), I (a 7), I (a 8)]⟩
set_option maxHeartbeats 0 in
theorem after_ok (u t : Nat) (hu : u < 24) (ht : t < 24) (x : List Blk) : COk Tryz.prog 3 34 [I u, I t] (GG x) (I (aft u t)) (GG x) := by
  refine lift ?_ rfl x
  have hr := aft_lt hu ht
  have hk := aft_tx u hu t ht
  have ub : ∀ k, k < 9 → -200 ≤ tx t k ∧ tx t k ≤ 200 := fun k hk => by
    rcases tx_unit t ht k hk with h | h | h <;> rw [h] <;> decide
  have hT0 := turned_ok u hu (ub 0 (by decide)) (ub 1 (by decide)) (ub 2 (by decide)) (hk 0 (by decide) 0 (by decide)) (hk 0 (by decide) 1 (by decide)) (hk 0 (by decide) 2 (by decide))
  have hT1 := turned_ok u hu (ub 3 (by decide)) (ub 4 (by decide)) (ub 5 (by decide)) (hk 1 (by decide) 0 (by decide)) (hk 1 (by decide) 1 (by decide)) (hk 1 (by decide) 2 (by decide))
  have hT2 := turned_ok u hu (ub 6 (by decide)) (ub 7 (by decide)) (ub 8 (by decide)) (hk 2 (by decide) 0 (by decide)) (hk 2 (by decide) 1 (by decide)) (hk 2 (by decide) 2 (by decide))
  have hno := fun k hk' hne => eq9_no k hk' (aft u t) hr hne
  clear hk ub
  generalize aft u t = r at *
  refine COk_quiet Tryz.f34 Tryz.func34 (by kernel_rfl) rfl ?_
  (conv => whnf); repeat ((first | refine ⟨_, _, axes_ok t ht _, ?_⟩ | refine ⟨_, axes_ok t ht _, ?_⟩ | refine ⟨_, _, axes_ok u hu _, ?_⟩ | refine ⟨_, axes_ok u hu _, ?_⟩ | refine ⟨_, _, hT0 _, ?_⟩ | refine ⟨_, hT0 _, ?_⟩ | refine ⟨_, _, hT1 _, ?_⟩ | refine ⟨_, hT1 _, ?_⟩ | refine ⟨_, _, hT2 _, ?_⟩ | refine ⟨_, hT2 _, ?_⟩ | refine br_d (by omega) ?_ | refine br_nd (by omega) ?_ | refine br_eq (by omega) ?_ | refine br_neq (by omega) ?_ | refine br_ne (by omega) ?_ | refine br_no (bo_eqn (by omega)) ?_ | refine Or.inl ?_ | refine okS_no (by kernel_rfl) ?_ | refine okS_yes (by kernel_rfl) ?_ | refine And_of (by (conv => whnf); (rw [getB_app0]); (conv => whnf)) ?_ | refine setB_app ?_ | refine setB_app0 ?_ | rw [getB_app] | rw [getB_app0] | refine addB_f13 ?_ | refine addB_f12 ?_ | refine addB_f11 ?_ | refine addB_f10 ?_ | refine addB_f9 ?_ | refine addB_f8 ?_ | refine addB_f7 ?_ | refine addB_f6 ?_ | refine addB_f5 ?_ | refine addB_f4 ?_ | refine addB_f3 ?_ | refine addB_f2 ?_ | refine addB_f1 ?_ | refine addB_f0 ?_); conv => whnf)
  refine loop_to (fun k => [.any, .any, .any, .any, .any, .any, .any, .ptr 5 0, .any, .any, .any, .any, .any, .any, .any, .any, .any, .any, .any, .any, .any, .any, .any, .any, .any, .any, .any, .any, .any, .any, .any, .any, .any, .any, .any, .any, .any, .any, .any, .any, I k, .any, .any, .any, .any, .any, .any, .any, .any]) (fun _ => GG [nineB (tx t), nineB (tx u), nineB (tx r)]) 0 r (Nat.zero_le _) ?_ ?_ ?_
  · refine Fg.of [] ?_ rfl (by simp) rfl rfl
    conv => whnf
    exact ⟨rfl, rfl, rfl⟩
  · intro k _ hk
    (conv => whnf); repeat ((first | refine ⟨_, _, axes_ok k (by omega) _, ?_⟩ | refine ⟨_, axes_ok k (by omega) _, ?_⟩ | refine br_no (hno k (by omega) (by omega)) ?_ | refine br_d (by omega) ?_ | refine br_nd (by omega) ?_ | refine br_eq (by omega) ?_ | refine br_neq (by omega) ?_ | refine br_ne (by omega) ?_ | refine br_no (bo_eqn (by omega)) ?_ | refine Or.inl ?_ | refine okS_no (by kernel_rfl) ?_ | refine okS_yes (by kernel_rfl) ?_ | refine And_of (by (conv => whnf); (rw [getB_app0]); (conv => whnf)) ?_ | refine setB_app ?_ | refine setB_app0 ?_ | rw [getB_app] | rw [getB_app0] | refine addB_f13 ?_ | refine addB_f12 ?_ | refine addB_f11 ?_ | refine addB_f10 ?_ | refine addB_f9 ?_ | refine addB_f8 ?_ | refine addB_f7 ?_ | refine addB_f6 ?_ | refine addB_f5 ?_ | refine addB_f4 ?_ | refine addB_f3 ?_ | refine addB_f2 ?_ | refine addB_f1 ?_ | refine addB_f0 ?_); conv => whnf)
    refine Fg.of [] ?_ rfl (by simp) rfl rfl
    conv => whnf
    exact ⟨rfl, wrapKL (by omega), rfl⟩
  · (conv => whnf); repeat ((first | refine ⟨_, _, axes_ok r hr _, ?_⟩ | refine ⟨_, axes_ok r hr _, ?_⟩ | refine br_yes (eq9_yes (tx r)) ?_ | refine br_d (by omega) ?_ | refine br_nd (by omega) ?_ | refine br_eq (by omega) ?_ | refine br_neq (by omega) ?_ | refine br_ne (by omega) ?_ | refine br_no (bo_eqn (by omega)) ?_ | refine Or.inl ?_ | refine okS_no (by kernel_rfl) ?_ | refine okS_yes (by kernel_rfl) ?_ | refine And_of (by (conv => whnf); (rw [getB_app0]); (conv => whnf)) ?_ | refine setB_app ?_ | refine setB_app0 ?_ | rw [getB_app] | rw [getB_app0] | refine addB_f13 ?_ | refine addB_f12 ?_ | refine addB_f11 ?_ | refine addB_f10 ?_ | refine addB_f9 ?_ | refine addB_f8 ?_ | refine addB_f7 ?_ | refine addB_f6 ?_ | refine addB_f5 ?_ | refine addB_f4 ?_ | refine addB_f3 ?_ | refine addB_f2 ?_ | refine addB_f1 ?_ | refine addB_f0 ?_); conv => whnf)
    exact ⟨rfl, _, rfl⟩
theorem after_no (u t : Int) (h : ¬ (0 ≤ u ∧ u < 24 ∧ 0 ≤ t ∧ t < 24)) (m : List Blk) : COk Tryz.prog 3 34 [I u, I t] m (I (-1)) m := by
  refine COk_quiet Tryz.f34 Tryz.func34 (by kernel_rfl) rfl ?_
  conv => whnf
  refine br_di (fun k0 => ?_) (fun k0 => ?_) <;> conv => whnf
  · exact ⟨rfl, [], by simp⟩
  refine br_di (fun k1 => ?_) (fun k1 => ?_) <;> conv => whnf
  · exact ⟨rfl, [], by simp⟩
  refine br_di (fun k2 => ?_) (fun k2 => ?_) <;> conv => whnf
  · exact ⟨rfl, [], by simp⟩
  refine br_di (fun k3 => ?_) (fun k3 => ?_) <;> conv => whnf
  · exact ⟨rfl, [], by simp⟩
  omega
theorem after_c {M : List Blk} (hm : Top M) {t : Nat} (ht : t < 24) : COk Tryz.prog 3 34 [I t, I 0] M (I t) M := by
  obtain ⟨x, rfl⟩ := hm
  have := after_ok t 0 ht (by decide) x
  rwa [aft_0 t ht] at this
theorem turn_c {M : List Blk} (hm : Top M) {n t c : Nat} (hn : 1 ≤ n) (hn' : n ≤ 32) (ht : t < 24) (hc : c < 6 * (n * n)) : COk Tryz.prog 3 36 [I n, I t, I c] M (.tup [I (tC n t c), I (tQ n t c)]) M := by
  obtain ⟨x, rfl⟩ := hm
  obtain ⟨a1, a2, a3, a4⟩ := cell_parts hn hc
  have := turn_walk n (c / (n * n)) (c % n) (c / n % n) t hn hn' a2 a3 a4 ht x
  rw [← a1] at this
  exact this
/-! ### Lists in new memory -/
set_option maxHeartbeats 0 in
theorem cloneF_gs {M : List Blk} (hsc : scM M.length M = true) {j n : Nat} {w : Bool} {l : List Nat} (hj : getB M j = ⟨w, .flts l⟩) (hn : l.length = n) (h0 : 0 < n) (hs : n ≤ 17592186044416) : COk Tryz.prog 3 85 [.sl j 0 n] M (.gs (M.length + 1) 0 1 n) (M ++ [⟨true, .cells []⟩, ⟨true, .gflts 0 l⟩]) := by
  have hlt : j < M.length := getB_lt hj rfl
  have hb : ∀ x, getB (M ++ x) j = ⟨w, .flts l⟩ := fun x => getB_in hj rfl
  have hbl : Nat.blt 0 n = true := by simpa using h0
  have g1 : Nat.ble (0 + n * 1) l.length = true := by simp; omega
  have g2 : (l.drop 0).take (n * 1) = l := by rw [List.drop_zero, Nat.mul_one, List.take_of_length_le (by omega)]
  refine COk_of_ev Tryz.f85 Tryz.func85 (by kernel_rfl) (by simp) (by simp [V.sc, scL]) (.inr (scM_app (scM_mono (by simp) _ hsc) (by simp [scM, B.sc, scL, V.sc]))) ?_
  (conv => whnf); repeat ((first | refine br_yes hbl ?_ | rw [hb] | refine br_yes g1 ?_ | refine br_d (by omega) ?_ | refine br_nd (by omega) ?_ | refine br_eq (by omega) ?_ | refine br_neq (by omega) ?_ | refine br_ne (by omega) ?_ | refine br_no (bo_eqn (by omega)) ?_ | refine Or.inl ?_ | refine okS_no (by kernel_rfl) ?_ | refine okS_yes (by kernel_rfl) ?_ | refine And_of (by (conv => whnf); (rw [getB_app0]); (conv => whnf)) ?_ | refine setB_app ?_ | refine setB_app0 ?_ | rw [getB_app] | rw [getB_app0] | refine addB_f13 ?_ | refine addB_f12 ?_ | refine addB_f11 ?_ | refine addB_f10 ?_ | refine addB_f9 ?_ | refine addB_f8 ?_ | refine addB_f7 ?_ | refine addB_f6 ?_ | refine addB_f5 ?_ | refine addB_f4 ?_ | refine addB_f3 ?_ | refine addB_f2 ?_ | refine addB_f1 ?_ | refine addB_f0 ?_); conv => whnf)
  have c2 : Tryz.prog.cellsOf 51 = 1 := by kernel_rfl
  have hbe : Nat.ble (0 + n) 0 = false := by
    rw [Bool.eq_false_iff]; intro h
    have := Nat.le_of_ble_eq_true h
    omega
  refine ⟨(by show (0 + n) * 8 ≤ 140737488355328; omega), ?_⟩
  rw [c2, Nat.zero_mul, List.range_zero, List.map_nil, g2]
  (conv => whnf); repeat ((first | refine br_no hbe ?_ | refine br_d (by omega) ?_ | refine br_nd (by omega) ?_ | refine br_eq (by omega) ?_ | refine br_neq (by omega) ?_ | refine br_ne (by omega) ?_ | refine br_no (bo_eqn (by omega)) ?_ | refine Or.inl ?_ | refine okS_no (by kernel_rfl) ?_ | refine okS_yes (by kernel_rfl) ?_ | refine And_of (by (conv => whnf); (rw [getB_app0]); (conv => whnf)) ?_ | refine setB_app ?_ | refine setB_app0 ?_ | rw [getB_app] | rw [getB_app0] | refine addB_f13 ?_ | refine addB_f12 ?_ | refine addB_f11 ?_ | refine addB_f10 ?_ | refine addB_f9 ?_ | refine addB_f8 ?_ | refine addB_f7 ?_ | refine addB_f6 ?_ | refine addB_f5 ?_ | refine addB_f4 ?_ | refine addB_f3 ?_ | refine addB_f2 ?_ | refine addB_f1 ?_ | refine addB_f0 ?_); conv => whnf)
  rw [Nat.zero_add]
  exact ⟨rfl, [], by rw [List.append_nil]⟩
set_option maxHeartbeats 0 in
theorem cloneI_gs {M : List Blk} (hsc : scM M.length M = true) {j n : Nat} {w : Bool} {l : List Int} (hj : getB M j = ⟨w, .ints .i64 l⟩) (hn : l.length = n) (h0 : 0 < n) (hs : n ≤ 17592186044416) : COk Tryz.prog 3 86 [.sl j 0 n] M (.gs (M.length + 1) 0 1 n) (M ++ [⟨true, .cells []⟩, ⟨true, .gints 0 .i64 l⟩]) := by
  have hlt : j < M.length := getB_lt hj rfl
  have hb : ∀ x, getB (M ++ x) j = ⟨w, .ints .i64 l⟩ := fun x => getB_in hj rfl
  have hbl : Nat.blt 0 n = true := by simpa using h0
  have g1 : Nat.ble (0 + n * 1) l.length = true := by simp; omega
  have g2 : (l.drop 0).take (n * 1) = l := by rw [List.drop_zero, Nat.mul_one, List.take_of_length_le (by omega)]
  refine COk_of_ev Tryz.f86 Tryz.func86 (by kernel_rfl) (by simp) (by simp [V.sc, scL]) (.inr (scM_app (scM_mono (by simp) _ hsc) (by simp [scM, B.sc, scL, V.sc]))) ?_
  (conv => whnf); repeat ((first | refine br_yes hbl ?_ | rw [hb] | refine br_yes g1 ?_ | refine br_d (by omega) ?_ | refine br_nd (by omega) ?_ | refine br_eq (by omega) ?_ | refine br_neq (by omega) ?_ | refine br_ne (by omega) ?_ | refine br_no (bo_eqn (by omega)) ?_ | refine Or.inl ?_ | refine okS_no (by kernel_rfl) ?_ | refine okS_yes (by kernel_rfl) ?_ | refine And_of (by (conv => whnf); (rw [getB_app0]); (conv => whnf)) ?_ | refine setB_app ?_ | refine setB_app0 ?_ | rw [getB_app] | rw [getB_app0] | refine addB_f13 ?_ | refine addB_f12 ?_ | refine addB_f11 ?_ | refine addB_f10 ?_ | refine addB_f9 ?_ | refine addB_f8 ?_ | refine addB_f7 ?_ | refine addB_f6 ?_ | refine addB_f5 ?_ | refine addB_f4 ?_ | refine addB_f3 ?_ | refine addB_f2 ?_ | refine addB_f1 ?_ | refine addB_f0 ?_); conv => whnf)
  have c2 : Tryz.prog.cellsOf 2 = 1 := by kernel_rfl
  have hbe : Nat.ble (0 + n) 0 = false := by
    rw [Bool.eq_false_iff]; intro h
    have := Nat.le_of_ble_eq_true h
    omega
  refine ⟨(by show (0 + n) * 8 ≤ 140737488355328; omega), ?_⟩
  rw [c2, Nat.zero_mul, List.range_zero, List.map_nil, g2]
  (conv => whnf); repeat ((first | refine br_no hbe ?_ | refine br_d (by omega) ?_ | refine br_nd (by omega) ?_ | refine br_eq (by omega) ?_ | refine br_neq (by omega) ?_ | refine br_ne (by omega) ?_ | refine br_no (bo_eqn (by omega)) ?_ | refine Or.inl ?_ | refine okS_no (by kernel_rfl) ?_ | refine okS_yes (by kernel_rfl) ?_ | refine And_of (by (conv => whnf); (rw [getB_app0]); (conv => whnf)) ?_ | refine setB_app ?_ | refine setB_app0 ?_ | rw [getB_app] | rw [getB_app0] | refine addB_f13 ?_ | refine addB_f12 ?_ | refine addB_f11 ?_ | refine addB_f10 ?_ | refine addB_f9 ?_ | refine addB_f8 ?_ | refine addB_f7 ?_ | refine addB_f6 ?_ | refine addB_f5 ?_ | refine addB_f4 ?_ | refine addB_f3 ?_ | refine addB_f2 ?_ | refine addB_f1 ?_ | refine addB_f0 ?_); conv => whnf)
  rw [Nat.zero_add]
  exact ⟨rfl, [], by rw [List.append_nil]⟩
def cl1 (L i : Nat) : Option Nat := if i = L + 1 then some 0 else none
theorem cloneF_pl {M : List Blk} (hsc : scM M.length M = true) {j n : Nat} {w : Bool} {l : List Nat} (hj : getB M j = ⟨w, .flts l⟩) (hn : l.length = n) (h0 : 0 < n) (hs : n ≤ 17592186044416) : COk Tryz.prog 3 85 [.sl j 0 n] M (.sl M.length 0 n) (M ++ [⟨true, .flts l⟩]) := by
  have h := cloneF_gs hsc hj hn h0 hs
  have at1 : cl1 M.length (M.length + 1) = some 0 := if_pos rfl
  have ne : ∀ k, k ≠ M.length + 1 → cl1 M.length k = none := fun k hk => if_neg hk
  have h9 := COk.settle (N' := [⟨false, .dead⟩, ⟨true, .flts l⟩]) (cl1 M.length) h (fun i hi => ne i (by omega)) (fun i hi => ne i (by simp at hi; omega)) (fun u hu => Option.some.inj (hu.symm.trans at1)) ⟨.gone (.inl (ne _ (by omega))) (.inl rfl), .flts at1 (fun h => h), trivial⟩
  have e : (V.gs (M.length + 1) 0 1 n).stl (cl1 M.length) = .sl (M.length + 1) 0 n := by
    simp only [V.stl, at1]
  rw [e] at h9
  exact COk.drop1 h9 rfl
theorem cloneI_pl {M : List Blk} (hsc : scM M.length M = true) {j n : Nat} {w : Bool} {l : List Int} (hj : getB M j = ⟨w, .ints .i64 l⟩) (hn : l.length = n) (h0 : 0 < n) (hs : n ≤ 17592186044416) : COk Tryz.prog 3 86 [.sl j 0 n] M (.sl M.length 0 n) (M ++ [⟨true, .ints .i64 l⟩]) := by
  have h := cloneI_gs hsc hj hn h0 hs
  have at1 : cl1 M.length (M.length + 1) = some 0 := if_pos rfl
  have ne : ∀ k, k ≠ M.length + 1 → cl1 M.length k = none := fun k hk => if_neg hk
  have h9 := COk.settle (N' := [⟨false, .dead⟩, ⟨true, .ints .i64 l⟩]) (cl1 M.length) h (fun i hi => ne i (by omega)) (fun i hi => ne i (by simp at hi; omega)) (fun u hu => Option.some.inj (hu.symm.trans at1)) ⟨.gone (.inl (ne _ (by omega))) (.inl rfl), .ints at1 (fun h => h), trivial⟩
  have e : (V.gs (M.length + 1) 0 1 n).stl (cl1 M.length) = .sl (M.length + 1) 0 n := by
    simp only [V.stl, at1]
  rw [e] at h9
  exact COk.drop1 h9 rfl
/-- The box of a sea. -/
abbrev sBx (v0 v1 v2 v3 : V) (sky step : Int) : Blk := ⟨true, .cells [v0, v1, v2, v3, .int .i64 sky, I step]⟩
/-- A sea in new memory. -/
def copL (M : List Blk) (j0 j1 j2 j3 : Nat) (Be : List Nat) (Wt Tr : List Int) (Sp : List Nat) (sky step : Int) : List Blk :=
  [⟨true, .cells [.sl (M.length + 2) 0 Be.length, .sl (M.length + 3) 0 Wt.length, .sl (M.length + 4) 0 Tr.length, .sl (M.length + 5) 0 Sp.length, .int .i64 sky, I step]⟩, ⟨true, .cells [.sl (M.length + 2) 0 Be.length, .sl (M.length + 3) 0 Wt.length, .sl (M.length + 4) 0 Tr.length, .sl (M.length + 5) 0 Sp.length, .int .i64 sky, I step]⟩,
    ⟨true, .flts Be⟩, ⟨true, .ints .i64 Wt⟩, ⟨true, .ints .i64 Tr⟩, ⟨true, .flts Sp⟩]
set_option maxHeartbeats 0 in
theorem Copy_pl {M : List Blk} (hsc : scM M.length M = true) {j0 j1 j2 j3 : Nat} {w : Bool} {Be : List Nat} {Wt Tr : List Int} {Sp : List Nat} (S : SeaB M w j0 j1 j2 j3 Be Wt Tr Sp) (h0 : 0 < Be.length) (h1 : 0 < Wt.length) (h2 : 0 < Tr.length) (h3 : 0 < Sp.length) (sky step : Int) :
    COk Tryz.prog 3 30 [seaV j0 j1 j2 j3 Be.length Wt.length Tr.length Sp.length sky step] M (seaV (M.length + 2) (M.length + 3) (M.length + 4) (M.length + 5) Be.length Wt.length Tr.length Sp.length sky step) (M ++ copL M j0 j1 j2 j3 Be Wt Tr Sp sky step) := by
  have l0 := S.read.s0.lt
  have l1 := S.read.s1.lt
  have l2 := S.read.s2.lt
  have l3 := S.read.s3.lt
  have hscm : ∀ x : List Blk, scM (M ++ x).length x = true → scM (M ++ x).length (M ++ x) = true := fun x hx => scM_app (scM_mono (by simp) _ hsc) hx
  have c0 : COk Tryz.prog 3 85 [.sl j0 0 Be.length] (M ++ [sBx (.sl j0 0 Be.length) (.sl j1 0 Wt.length) (.sl j2 0 Tr.length) (.sl j3 0 Sp.length) sky step, sBx nilS' nilS' nilS' nilS' 0 0]) (.sl (M.length + 2) 0 Be.length)
      (M ++ [sBx (.sl j0 0 Be.length) (.sl j1 0 Wt.length) (.sl j2 0 Tr.length) (.sl j3 0 Sp.length) sky step, sBx nilS' nilS' nilS' nilS' 0 0, ⟨true, .flts Be⟩]) := by
    have := cloneF_pl (hscm [sBx (.sl j0 0 Be.length) (.sl j1 0 Wt.length) (.sl j2 0 Tr.length) (.sl j3 0 Sp.length) sky step, sBx nilS' nilS' nilS' nilS' 0 0] (by simp [scM, B.sc, scL, V.sc]; omega)) (S.app _).b0 rfl h0 S.l0
    simpa using this
  have c1 : COk Tryz.prog 3 86 [.sl j1 0 Wt.length] (M ++ [sBx (.sl (M.length + 2) 0 Be.length) (.sl j1 0 Wt.length) (.sl j2 0 Tr.length) (.sl j3 0 Sp.length) sky step, sBx nilS' nilS' nilS' nilS' 0 0, ⟨true, .flts Be⟩]) (.sl (M.length + 3) 0 Wt.length)
      (M ++ [sBx (.sl (M.length + 2) 0 Be.length) (.sl j1 0 Wt.length) (.sl j2 0 Tr.length) (.sl j3 0 Sp.length) sky step, sBx nilS' nilS' nilS' nilS' 0 0, ⟨true, .flts Be⟩, ⟨true, .ints .i64 Wt⟩]) := by
    have := cloneI_pl (hscm [sBx (.sl (M.length + 2) 0 Be.length) (.sl j1 0 Wt.length) (.sl j2 0 Tr.length) (.sl j3 0 Sp.length) sky step, sBx nilS' nilS' nilS' nilS' 0 0, ⟨true, .flts Be⟩] (by simp [scM, B.sc, scL, V.sc]; omega)) (S.app _).b1 rfl h1 S.l1
    simpa using this
  have c2 : COk Tryz.prog 3 86 [.sl j2 0 Tr.length] (M ++ [sBx (.sl (M.length + 2) 0 Be.length) (.sl (M.length + 3) 0 Wt.length) (.sl j2 0 Tr.length) (.sl j3 0 Sp.length) sky step, sBx nilS' nilS' nilS' nilS' 0 0, ⟨true, .flts Be⟩, ⟨true, .ints .i64 Wt⟩]) (.sl (M.length + 4) 0 Tr.length)
      (M ++ [sBx (.sl (M.length + 2) 0 Be.length) (.sl (M.length + 3) 0 Wt.length) (.sl j2 0 Tr.length) (.sl j3 0 Sp.length) sky step, sBx nilS' nilS' nilS' nilS' 0 0, ⟨true, .flts Be⟩, ⟨true, .ints .i64 Wt⟩, ⟨true, .ints .i64 Tr⟩]) := by
    have := cloneI_pl (hscm [sBx (.sl (M.length + 2) 0 Be.length) (.sl (M.length + 3) 0 Wt.length) (.sl j2 0 Tr.length) (.sl j3 0 Sp.length) sky step, sBx nilS' nilS' nilS' nilS' 0 0, ⟨true, .flts Be⟩, ⟨true, .ints .i64 Wt⟩] (by simp [scM, B.sc, scL, V.sc]; omega)) (S.app _).b2 rfl h2 S.l2
    simpa using this
  have c3 : COk Tryz.prog 3 85 [.sl j3 0 Sp.length] (M ++ [sBx (.sl (M.length + 2) 0 Be.length) (.sl (M.length + 3) 0 Wt.length) (.sl (M.length + 4) 0 Tr.length) (.sl j3 0 Sp.length) sky step, sBx nilS' nilS' nilS' nilS' 0 0, ⟨true, .flts Be⟩, ⟨true, .ints .i64 Wt⟩, ⟨true, .ints .i64 Tr⟩]) (.sl (M.length + 5) 0 Sp.length)
      (M ++ [sBx (.sl (M.length + 2) 0 Be.length) (.sl (M.length + 3) 0 Wt.length) (.sl (M.length + 4) 0 Tr.length) (.sl j3 0 Sp.length) sky step, sBx nilS' nilS' nilS' nilS' 0 0, ⟨true, .flts Be⟩, ⟨true, .ints .i64 Wt⟩, ⟨true, .ints .i64 Tr⟩, ⟨true, .flts Sp⟩]) := by
    have := cloneF_pl (hscm [sBx (.sl (M.length + 2) 0 Be.length) (.sl (M.length + 3) 0 Wt.length) (.sl (M.length + 4) 0 Tr.length) (.sl j3 0 Sp.length) sky step, sBx nilS' nilS' nilS' nilS' 0 0, ⟨true, .flts Be⟩, ⟨true, .ints .i64 Wt⟩, ⟨true, .ints .i64 Tr⟩] (by simp [scM, B.sc, scL, V.sc]; omega)) (S.app _).b3 rfl h3 S.l3
    simpa using this
  refine COk_of_ev Tryz.f30 Tryz.func30 (by kernel_rfl) (by simp) (by simp [V.sc, scL, copL]) (.inr (scM_app (scM_mono (by simp) _ hsc) (by simp [scM, B.sc, scL, V.sc, copL]))) ?_
  (conv => whnf); repeat ((first | refine ⟨_, _, c0, ?_⟩ | refine ⟨_, c0, ?_⟩ | refine ⟨_, _, c1, ?_⟩ | refine ⟨_, c1, ?_⟩ | refine ⟨_, _, c2, ?_⟩ | refine ⟨_, c2, ?_⟩ | refine ⟨_, _, c3, ?_⟩ | refine ⟨_, c3, ?_⟩ | refine br_d (by omega) ?_ | refine br_nd (by omega) ?_ | refine br_eq (by omega) ?_ | refine br_neq (by omega) ?_ | refine br_ne (by omega) ?_ | refine br_no (bo_eqn (by omega)) ?_ | refine Or.inl ?_ | refine okS_no (by kernel_rfl) ?_ | refine okS_yes (by kernel_rfl) ?_ | refine And_of (by (conv => whnf); (rw [getB_app0]); (conv => whnf)) ?_ | refine setB_app ?_ | refine setB_app0 ?_ | rw [getB_app] | rw [getB_app0] | refine addB_f13 ?_ | refine addB_f12 ?_ | refine addB_f11 ?_ | refine addB_f10 ?_ | refine addB_f9 ?_ | refine addB_f8 ?_ | refine addB_f7 ?_ | refine addB_f6 ?_ | refine addB_f5 ?_ | refine addB_f4 ?_ | refine addB_f3 ?_ | refine addB_f2 ?_ | refine addB_f1 ?_ | refine addB_f0 ?_); conv => whnf)
  exact ⟨rfl, [], by rw [List.append_nil]; rfl⟩
end Go.Proofs.YtgoljofmbidkfaaGreatDoor
